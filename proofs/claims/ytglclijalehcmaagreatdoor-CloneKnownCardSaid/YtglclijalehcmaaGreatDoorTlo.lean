/-
  The conditions of functions of chapter 16 that chapter 30 uses, printed from their code.
-/
import Derived.Test.YtglclijalehcmaaGreatDoorLa
import Derived.Test.YtglclijalehcmaaGreatDoorClip
import Derived.Test.YtglclijalehcmaaGreatDoorCo0
set_option linter.all false
namespace Go.Lic
open Go.Proofs Go.Sort
def inside_vc (s_ : Span) (Q : Bool → Prop) : Prop :=
 Q (((decide (0 ≤ s_.from_)) && (decide (s_.from_ < s_.to))) && (decide (s_.to ≤ 1024)))
def behind_vc (a : Span) (b : Span) (Q : Bool → Prop) : Prop :=
 Q ((sless a.path b.path) || ((decide (a.path = b.path)) && (decide (a.to < b.from_))))
def valid_L1 (l : (List Span)) (Q : Bool → Prop) (again1 : Int → Prop) (x : Int) : Prop :=
 ((x < (l.length : Int) → (inL x l.length ∧ (((insideF (gi l x)) = true → (x > 0 → inI (x - 1) ∧ inL (x - 1) l.length)) ∧ (((insideF (gi l x)) = true ∧ (¬ x > 0 ∨ (behindF (gi l (x - 1)) (gi l x)) = true)) → ((gi l x).path).size ≤ 1000000) ∧ (((((insideF (gi l x)) = false ∨ (x > 0 ∧ (behindF (gi l (x - 1)) (gi l x)) = false)) ∨ ¬ (pathF ((gi l x).path)) = 0) → Q false) ∧ ((((insideF (gi l x)) = true ∧ (¬ x > 0 ∨ (behindF (gi l (x - 1)) (gi l x)) = true)) ∧ (pathF ((gi l x).path)) = 0) → (inI (x + 1) ∧ again1 (x + 1))))))) ∧ (¬ x < (l.length : Int) → Q true))
def valid_vc (l : (List Span)) (Q : Bool → Prop) : Prop :=
 lfp (S := Int) (fun again1 ss => valid_L1 l Q again1 ss) 0
def count_L1 (l : (List Span)) (Q : Int → Prop) (again2 : Int × Int → Prop) (n : Int) (x : Int) : Prop :=
 ((x < (l.length : Int) → (inL x l.length ∧ (inI (((gi l x).to) - ((gi l x).from_)) ∧ inI (n + (((gi l x).to) - ((gi l x).from_))) ∧ (inI (x + 1) ∧ again2 ((n + (((gi l x).to) - ((gi l x).from_))), (x + 1)))))) ∧ (¬ x < (l.length : Int) → Q n))
def count_vc (l : (List Span)) (Q : Int → Prop) : Prop :=
 (l.length ≤ 1000000 ∧ (∀ z_ ∈ l, z_.path.size ≤ 1000000) ∧ (((validF l) = false → Q 0) ∧ ((validF l) = true → lfp (S := Int × Int) (fun again2 ss => count_L1 l Q again2 ss.1 ss.2) (0, 0))))
end Go.Lic
set_option linter.all false
namespace Go.Lic
open Go.Proofs Go.Sort Go.Shelf
theorem inside_ok (s_ : Span) (Q : Bool → Prop) (h : Q (insideF s_)) : inside_vc s_ Q := h
theorem behind_ok (a : Span) (b : Span) (Q : Bool → Prop) (h : Q (behindF a b)) : behind_vc a b Q := h
theorem valid_iff (l : List Span) : validF l = true ↔ ∀ x : Int, 0 ≤ x → x < l.length → spanR (gi l x) = true ∧ (x > 0 → behindF (gi l (x - 1)) (gi l x) = true) := by
 unfold validF
 rw [List.all_eq_true]
 constructor
 · intro h x h0 h1
   have := h x.toNat (List.mem_range.2 (by omega))
   unfold chainB at this
   rw [show ((x.toNat : Nat) : Int) = x by omega] at this
   simp only [Bool.and_eq_true, Bool.or_eq_true, beq_iff_eq] at this
   refine ⟨this.1, fun hx => ?_⟩
   rcases this.2 with h2 | h2
   · omega
   · exact h2
 · intro h i hi
   have hi := List.mem_range.1 hi
   have := h (i : Int) (by omega) (by omega)
   unfold chainB
   simp only [Bool.and_eq_true, Bool.or_eq_true, beq_iff_eq]
   refine ⟨this.1, ?_⟩
   by_cases e : i = 0
   · exact .inl e
   · exact .inr (this.2 (by omega))
theorem valid_bad {l : List Span} {x : Int} (hx : inL x l.length) (h : spanR (gi l x) = false ∨ (x > 0 ∧ behindF (gi l (x - 1)) (gi l x) = false)) : validF l = false := by
 cases hv : validF l with
 | false => rfl
 | true =>
   have := (valid_iff l).1 hv x hx.1 hx.2
   rcases h with h | ⟨h1, h⟩
   · rw [this.1] at h; cases h
   · rw [this.2 h1] at h; cases h
theorem span_path {s : Span} : spanR s = true ↔ pathF s.path = 0 ∧ insideF s = true := by
 unfold spanR pathF
 cases pathB s.path <;> simp
theorem valid_ok (l : (List Span)) (Q : Bool → Prop) (hp0 : l.length ≤ 1000000) (hp1 : ∀ x ∈ l, x.path.size ≤ 1000000) (h : Q (validF l)) : valid_vc l Q := by
 refine lfp_of (fun x : Int => 0 ≤ x ∧ x ≤ l.length ∧ ∀ j : Int, 0 ≤ j → j < x → spanR (gi l j) = true ∧ (j > 0 → behindF (gi l (j - 1)) (gi l j) = true)) (fun x => (l.length - x).toNat) (fun x hx again hag => ?_) ⟨by omega, by omega, fun j _ _ => by omega⟩
 obtain ⟨h0, h1, h2⟩ := hx
 refine ⟨fun hlt => ⟨by omega, fun _ hx => by omega, fun _ => hp1 _ (gi_mem (by omega)), fun hb => ?_, fun hg => ⟨by omega, hag _ ⟨by omega, by omega, fun j hj hj2 => ?_⟩ (by omega)⟩⟩, fun hn => ?_⟩
 · have : validF l = false := by
     refine valid_bad (x := x) (by omega) ?_
     rcases hb with (hb | hb) | hb
     · left
       cases hs : spanR (gi l x) with
       | false => rfl
       | true => rw [(span_path.1 hs).2] at hb; cases hb
     · exact .inr hb
     · left
       cases hs : spanR (gi l x) with
       | false => rfl
       | true => exact absurd (span_path.1 hs).1 hb
   rwa [this] at h
 · by_cases e : j = x
   · subst e
     refine ⟨span_path.2 ⟨hg.2, hg.1.1⟩, fun hj0 => ?_⟩
     rcases hg.1.2 with h3 | h3
     · omega
     · exact h3
   · exact h2 j hj (by omega)
 · have : validF l = true := (valid_iff l).2 fun j h3 h4 => h2 j h3 (by omega)
   rwa [this] at h
theorem valid_span {l : List Span} (h : validF l = true) : ∀ s ∈ l, spanR s = true := by
 intro s hs
 obtain ⟨i, hi, rfl⟩ := List.getElem_of_mem hs
 have := ((valid_iff l).1 h (i : Int) (by omega) (by omega)).1
 rwa [gi_nat hi] at this
theorem span_inside {s : Span} (h : spanR s = true) : 0 ≤ s.from_ ∧ s.from_ < s.to ∧ s.to ≤ 1024 := by
 have := (span_path.1 h).2
 unfold insideF at this
 simp only [Bool.and_eq_true, decide_eq_true_eq] at this
 exact ⟨this.1.1, this.1.2, this.2⟩
theorem count_ok (l : (List Span)) (Q : Int → Prop) (hp0 : l.length ≤ 1000) (hp1 : ∀ x ∈ l, x.path.size ≤ 1000000) (h : Q (countL l)) : count_vc l Q := by
 unfold countL at h
 refine ⟨by omega, hp1, fun hv => by rw [hv] at h; exact h, fun hv => ?_⟩
 rw [if_pos hv] at h
 refine lfp2 (count_L1 l Q) (fun n x => 0 ≤ x ∧ x ≤ l.length ∧ 0 ≤ n ∧ n ≤ x * 1024 ∧ n + ((l.drop x.toNat).map fun s => s.to - s.from_).sum = (l.map fun s => s.to - s.from_).sum) (fun _ x => (l.length - x).toNat) (fun n x hst again hag => ?_) ⟨by simp, by simp, by simp, by simp, by simp⟩
 obtain ⟨h0, h1, h2, h3, h4⟩ := hst
 refine ⟨fun hlt => ?_, fun hn => ?_⟩
 · have hs := span_inside (valid_span hv _ (gi_mem (l := l) (i := x) (by omega)))
   rw [drop_gi (by omega), List.map_cons, List.sum_cons] at h4
   exact ⟨by omega, by omega, by omega, by omega, hag _ _ ⟨by omega, by omega, by omega, by omega, by omega⟩ (by omega)⟩
 · rw [drop_end hn, List.map_nil, List.sum_nil] at h4
   rw [show n = (l.map fun s => s.to - s.from_).sum by omega]
   exact h
end Go.Lic
