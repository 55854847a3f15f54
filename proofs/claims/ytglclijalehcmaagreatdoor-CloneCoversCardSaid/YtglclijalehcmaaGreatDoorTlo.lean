/-
  The conditions of functions of chapter 16 that chapter 30 uses, printed from their code.
-/
import Derived.Test.YtglclijalehcmaaGreatDoorCv0
import Derived.Test.YtglclijalehcmaaGreatDoorLm
import Derived.Test.YtglclijalehcmaaGreatDoorCo0
set_option linter.all false
namespace Go.Lic
open Go.Proofs Go.Sort
def sorti_L2 (data : (List Span)) (a : Int) (p : Span → Span → Int) (pD : Span → Span → Prop) (i : Int) (again1 : Int → Prop) (again3 : Unit → Prop) : Prop :=
 ((i > a → inL i data.length ∧ inI (i - 1) ∧ inL (i - 1) data.length ∧ pD (gi data i) (gi data (i - 1))) ∧ (((i > a ∧ (p (gi data i) (gi data (i - 1))) < 0) → False) ∧ ((¬ i > a ∨ ¬ (p (gi data i) (gi data (i - 1))) < 0) → (inI (i + 1) ∧ again1 (i + 1)))))
def sorti_L1 (data : (List Span)) (a : Int) (b : Int) (p : Span → Span → Int) (pD : Span → Span → Prop) (Q : Unit → Prop) (again1 : Int → Prop) (i : Int) : Prop :=
 ((i < b → lfp (S := Unit) (fun again3 ss => sorti_L2 data a p pD i again1 again3 ) ()) ∧ (¬ i < b → Q ()))
def sorti_vc (data : (List Span)) (a : Int) (b : Int) (p : Span → Span → Int) (pD : Span → Span → Prop) (Q : Unit → Prop) : Prop :=
 (inI (a + 1) ∧ lfp (S := Int) (fun again1 ss => sorti_L1 data a b p pD Q again1 ss) (a + 1))
def sortp_L1 (data : (List Span)) (a : Int) (b : Int) (limit : Int) (Q : Unit → Prop) (again1 : Unit → Prop) : Prop :=
 (inI (b - a) ∧ (((b - a) ≤ 12 → (data = ([] : List Span) ∧ a = (0 : Int) ∧ b = (0 : Int) ∧ Q ())) ∧ (¬ (b - a) ≤ 12 → ((limit = 0 → False) ∧ (¬ limit = 0 → False)))))
def sortp_vc (data : (List Span)) (a : Int) (b : Int) (limit : Int) (p : Span → Span → Int) (pD : Span → Span → Prop) (Q : Unit → Prop) : Prop :=
 lfp (S := Unit) (fun again1 ss => sortp_L1 data a b limit Q again1 ) ()
def sort0_vc (x : (List Span)) (p : Span → Span → Int) (pD : Span → Span → Prop) (Q : Unit → Prop) : Prop :=
 ((0 : Int) ≤ (IntKind.u64.wrap (x.length : Int)) ∧ (IntKind.u64.wrap (x.length : Int)) ≤ (18446744073709551615 : Int) ∧ x = ([] : List Span) ∧ 0 = (0 : Int) ∧ (x.length : Int) = (0 : Int) ∧ Q ())
def inside_vc (s_ : Span) (Q : Bool → Prop) : Prop :=
 Q (((decide (0 ≤ s_.from_)) && (decide (s_.from_ < s_.to))) && (decide (s_.to ≤ 1024)))
def behind_vc (a : Span) (b : Span) (Q : Bool → Prop) : Prop :=
 Q ((sless a.path b.path) || ((decide (a.path = b.path)) && (decide (a.to < b.from_))))
def merge1_vc (a : Span) (b : Span) (Q : Int → Prop) : Prop :=
 (([(cmpB a.path b.path), (cmpI a.from_ b.from_)] : List Int).length ≤ 9223372036854775807 ∧ Q (orF ([(cmpB a.path b.path), (cmpI a.from_ b.from_)] : List Int)))
def merge_L1 (l : (List Span)) (Q : (List Span) → Prop) (again3 : (List Span) × Int → Prop) (out : (List Span)) (x : Int) : Prop :=
 ((x < ((sortF spanCmp l).length : Int) → (inL x (sortF spanCmp l).length ∧ (inI ((out.length : Int) - 1) ∧ ((((out.length : Int) - 1) ≥ 0 → inL ((out.length : Int) - 1) out.length) ∧ (((((out.length : Int) - 1) ≥ 0 ∧ (behindF (gi out ((out.length : Int) - 1)) (gi (sortF spanCmp l) x)) = false) → (inL ((out.length : Int) - 1) out.length ∧ (inI (x + 1) ∧ again3 ((si out ((out.length : Int) - 1) (Span.mk ((gi out ((out.length : Int) - 1)).path) ((gi out ((out.length : Int) - 1)).from_) (gmax ((gi out ((out.length : Int) - 1)).to) [(gi (sortF spanCmp l) x).to]))), (x + 1))))) ∧ ((¬ ((out.length : Int) - 1) ≥ 0 ∨ (behindF (gi out ((out.length : Int) - 1)) (gi (sortF spanCmp l) x)) = true) → (((out.length + ([(gi (sortF spanCmp l) x)] : List Span).length) * 32 ≤ 140737488355328 ∧ out.length + ([(gi (sortF spanCmp l) x)] : List Span).length ≤ 9223372036854775807) ∧ (inI (x + 1) ∧ again3 ((out ++ ([(gi (sortF spanCmp l) x)] : List Span)), (x + 1)))))))))) ∧ (¬ x < ((sortF spanCmp l).length : Int) → Q out))
def merge_vc (l : (List Span)) (Q : (List Span) → Prop) : Prop :=
 ((SWO (ltOf spanCmp) ∧ l.length < 4611686018427387904) ∧ lfp (S := (List Span) × Int) (fun again3 ss => merge_L1 l Q again3 ss.1 ss.2) (([] : List Span), 0))
def of_L1 (l : (List Line)) (Q : (List Span) × Int → Prop) (again2 : (List Span) × Int → Prop) (spans : (List Span)) (x : Int) : Prop :=
 ((x < (l.length : Int) → (inL x l.length ∧ (((gi l x).path).size ≤ 1000000 ∧ ((¬ (pathF ((gi l x).path)) = 0 → Q ([], 2)) ∧ ((pathF ((gi l x).path)) = 0 → (((insideF (Span.mk ((gi l x).path) ((gi l x).n) (IntKind.i64.wrap (((gi l x).n) + 1)))) = false → Q ([], 3)) ∧ ((insideF (Span.mk ((gi l x).path) ((gi l x).n) (IntKind.i64.wrap (((gi l x).n) + 1)))) = true → (((spans.length + ([(Span.mk ((gi l x).path) ((gi l x).n) (IntKind.i64.wrap (((gi l x).n) + 1)))] : List Span).length) * 32 ≤ 140737488355328 ∧ spans.length + ([(Span.mk ((gi l x).path) ((gi l x).n) (IntKind.i64.wrap (((gi l x).n) + 1)))] : List Span).length ≤ 9223372036854775807) ∧ again2 ((spans ++ ([(Span.mk ((gi l x).path) ((gi l x).n) (IntKind.i64.wrap (((gi l x).n) + 1)))] : List Span)), (IntKind.i64.wrap (x + 1))))))))))) ∧ (¬ x < (l.length : Int) → (spans.length ≤ 1000000 ∧ Q ((mergeF spans), 0))))
def of_vc (l : (List Line)) (Q : (List Span) × Int → Prop) : Prop :=
 ((((0 : Int) ≤ 0 ∧ (0 : Int) ≤ (l.length : Int)) ∧ (32 : Int) * (l.length : Int) ≤ 281474976710656 ∧ ((l.length : Int) : Int) ≤ 9223372036854775807) ∧ lfp (S := (List Span) × Int) (fun again2 ss => of_L1 l Q again2 ss.1 ss.2) ((List.replicate (Int.toNat 0) (Span.mk ByteArray.empty 0 0)), 0))
def valid_L1 (l : (List Span)) (Q : Bool → Prop) (again1 : Int → Prop) (x : Int) : Prop :=
 ((x < (l.length : Int) → (inL x l.length ∧ (((insideF (gi l x)) = true → (x > 0 → inI (x - 1) ∧ inL (x - 1) l.length)) ∧ (((insideF (gi l x)) = true ∧ (¬ x > 0 ∨ (behindF (gi l (x - 1)) (gi l x)) = true)) → ((gi l x).path).size ≤ 1000000) ∧ (((((insideF (gi l x)) = false ∨ (x > 0 ∧ (behindF (gi l (x - 1)) (gi l x)) = false)) ∨ ¬ (pathF ((gi l x).path)) = 0) → Q false) ∧ ((((insideF (gi l x)) = true ∧ (¬ x > 0 ∨ (behindF (gi l (x - 1)) (gi l x)) = true)) ∧ (pathF ((gi l x).path)) = 0) → (inI (x + 1) ∧ again1 (x + 1))))))) ∧ (¬ x < (l.length : Int) → Q true))
def valid_vc (l : (List Span)) (Q : Bool → Prop) : Prop :=
 lfp (S := Int) (fun again1 ss => valid_L1 l Q again1 ss) 0
def count_L1 (l : (List Span)) (Q : Int → Prop) (again2 : Int × Int → Prop) (n : Int) (x : Int) : Prop :=
 ((x < (l.length : Int) → (inL x l.length ∧ (inI (((gi l x).to) - ((gi l x).from_)) ∧ inI (n + (((gi l x).to) - ((gi l x).from_))) ∧ (inI (x + 1) ∧ again2 ((n + (((gi l x).to) - ((gi l x).from_))), (x + 1)))))) ∧ (¬ x < (l.length : Int) → Q n))
def count_vc (l : (List Span)) (Q : Int → Prop) : Prop :=
 (l.length ≤ 1000000 ∧ (∀ z_ ∈ l, z_.path.size ≤ 1000000) ∧ (((validF l) = false → Q 0) ∧ ((validF l) = true → lfp (S := Int × Int) (fun again2 ss => count_L1 l Q again2 ss.1 ss.2) (0, 0))))
def has1_vc (s_ : Span) (x : Line) (Q : Bool → Prop) : Prop :=
 Q (((decide (s_.path = x.path)) && (decide (s_.from_ ≤ x.n))) && (decide (x.n < s_.to)))
def ixSpan_L1 (s_ : (List Span)) (p : Span → Bool) (pD : Span → Prop) (Q : Int → Prop) (again1 : Int → Prop) (x : Int) : Prop :=
 ((x < (s_.length : Int) → (inL x s_.length ∧ pD (gi s_ x) ∧ (((p (gi s_ x)) = true → Q x) ∧ ((p (gi s_ x)) = false → (inI (x + 1) ∧ again1 (x + 1)))))) ∧ (¬ x < (s_.length : Int) → Q (-1)))
def ixSpan_vc (s_ : (List Span)) (p : Span → Bool) (pD : Span → Prop) (Q : Int → Prop) : Prop :=
 lfp (S := Int) (fun again1 ss => ixSpan_L1 s_ p pD Q again1 ss) 0
def cfSpan_vc (s_ : (List Span)) (p : Span → Bool) (pD : Span → Prop) (Q : Bool → Prop) : Prop :=
 (s_.length ≤ 9223372036854775807 ∧ (∀ x ∈ s_, pD x) ∧ Q (decide ((idxOf p s_) ≥ 0)))
def has_vc (l : (List Span)) (x : Line) (Q : Bool → Prop) : Prop :=
 (l.length ≤ 9223372036854775807 ∧ (∀ x ∈ l, (fun (x0_ : Span) => True) x) ∧ ((l.any (fun (x0_ : Span) => has1F x0_ x)) = true → l.length ≤ 1000000 ∧ (∀ z_ ∈ l, z_.path.size ≤ 1000000)) ∧ Q ((l.any (fun (x0_ : Span) => has1F x0_ x)) && (validF l)))
end Go.Lic
set_option linter.all false
namespace Go.Lic
open Go.Proofs Go.Sort Go.Shelf
theorem ixSpan_ok (s_ : (List Span)) (p : Span → Bool) (pD : Span → Prop) (Q : Int → Prop) (hp0 : s_.length ≤ 9223372036854775807) (hp1 : ∀ x ∈ s_, pD x) (h : Q ((idxOf p s_))) : ixSpan_vc s_ p pD Q := ix_gen s_ p pD Q hp0 hp1 h
theorem cfSpan_ok (s_ : (List Span)) (p : Span → Bool) (pD : Span → Prop) (Q : Bool → Prop) (hp0 : s_.length ≤ 9223372036854775807) (hp1 : ∀ x ∈ s_, pD x) (h : Q (s_.any p)) : cfSpan_vc s_ p pD Q := ⟨hp0, hp1, by rw [idx_nn]; exact h⟩
theorem sorti_ok (data : (List Span)) (a : Int) (b : Int) (p : Span → Span → Int) (pD : Span → Span → Prop) (Q : Unit → Prop) (hp0 : data = ([] : List Span)) (hp1 : a = (0 : Int)) (hp2 : b = (0 : Int)) (h : Q ()) : sorti_vc data a b p pD Q := by
 subst hp0 hp1 hp2
 refine ⟨by omega, fun I hI => hI _ ⟨fun h => by omega, fun _ => h⟩⟩
theorem sortp_ok (data : (List Span)) (a : Int) (b : Int) (limit : Int) (p : Span → Span → Int) (pD : Span → Span → Prop) (Q : Unit → Prop) (hp0 : data = ([] : List Span)) (hp1 : a = (0 : Int)) (hp2 : b = (0 : Int)) (h : Q ()) : sortp_vc data a b limit p pD Q := by
 subst hp0 hp1 hp2
 exact fun I hI => hI _ ⟨by omega, fun _ => ⟨rfl, rfl, rfl, h⟩, fun hn => absurd hn (by omega)⟩
theorem sort0_ok (x : (List Span)) (p : Span → Span → Int) (pD : Span → Span → Prop) (Q : Unit → Prop) (hp0 : x = ([] : List Span)) (h : Q (())) : sort0_vc x p pD Q := by
 subst hp0
 exact ⟨by decide, by decide, rfl, rfl, rfl, h⟩
theorem inside_ok (s_ : Span) (Q : Bool → Prop) (h : Q (insideF s_)) : inside_vc s_ Q := h
theorem behind_ok (a : Span) (b : Span) (Q : Bool → Prop) (h : Q (behindF a b)) : behind_vc a b Q := h
theorem merge1_ok (a : Span) (b : Span) (Q : Int → Prop) (h : Q (spanCmp a b)) : merge1_vc a b Q := ⟨by simp, h⟩
def merge_L1S (S : List Span) (Q : (List Span) → Prop) (again3 : (List Span) × Int → Prop) (out : (List Span)) (x : Int) : Prop :=
 ((x < (S.length : Int) → (inL x S.length ∧ (inI ((out.length : Int) - 1) ∧ ((((out.length : Int) - 1) ≥ 0 → inL ((out.length : Int) - 1) out.length) ∧ (((((out.length : Int) - 1) ≥ 0 ∧ (behindF (gi out ((out.length : Int) - 1)) (gi S x)) = false) → (inL ((out.length : Int) - 1) out.length ∧ (inI (x + 1) ∧ again3 ((si out ((out.length : Int) - 1) (Span.mk ((gi out ((out.length : Int) - 1)).path) ((gi out ((out.length : Int) - 1)).from_) (gmax ((gi out ((out.length : Int) - 1)).to) [(gi S x).to]))), (x + 1))))) ∧ ((¬ ((out.length : Int) - 1) ≥ 0 ∨ (behindF (gi out ((out.length : Int) - 1)) (gi S x)) = true) → (((out.length + ([(gi S x)] : List Span).length) * 32 ≤ 140737488355328 ∧ out.length + ([(gi S x)] : List Span).length ≤ 9223372036854775807) ∧ (inI (x + 1) ∧ again3 ((out ++ ([(gi S x)] : List Span)), (x + 1)))))))))) ∧ (¬ x < (S.length : Int) → Q out))
theorem merge_ok (l : (List Span)) (Q : (List Span) → Prop) (hp0 : l.length ≤ 1000000) (h : Q (mergeF l)) : merge_vc l Q := by
 refine ⟨⟨spanCmp_swo, by omega⟩, ?_⟩
 have hl := sortF_len spanCmp_swo l
 have hS : (sortF spanCmp l).foldl mergeStep [] = mergeF l := rfl
 show lfp (S := List Span × Int) (fun again ss => merge_L1 l Q again ss.1 ss.2) ([], 0)
 have hb : ∀ (again : List Span × Int → Prop) out x, merge_L1S (sortF spanCmp l) Q again out x → merge_L1 l Q again out x := fun _ _ _ h => h
 generalize sortF spanCmp l = S at hl hS hb
 refine lfp2 (merge_L1 l Q) (fun out x => 0 ≤ x ∧ x ≤ S.length ∧ (out.length : Int) ≤ x ∧ (S.drop x.toNat).foldl mergeStep out = mergeF l) (fun _ x => (S.length - x).toNat) (fun out x hst again hag => ?_) ⟨by simp, by simp, by simp, hS⟩
 obtain ⟨h0, h1, h2, h3⟩ := hst
 refine hb _ _ _ ?_
 refine ⟨fun hlt => ⟨by omega, by omega, fun hg => by omega, fun hc => ⟨by omega, by omega, hag _ _ ⟨by omega, by omega, by rw [si_length]; omega, ?_⟩ (by omega)⟩, fun hc => ⟨⟨?_, ?_⟩, by omega, hag _ _ ⟨by omega, by omega, ?_, ?_⟩ (by omega)⟩⟩, fun hn => ?_⟩
 · rw [drop_gi (by omega), List.foldl_cons] at h3
   have e : mergeStep out (gi S x) = si out ((out.length : Int) - 1) ⟨(lastD out).path, (lastD out).from_, gmax (lastD out).to [(gi S x).to]⟩ := by
     unfold mergeStep
     exact if_pos ⟨by omega, hc.2⟩
   rw [e] at h3
   exact h3
 · simp only [List.length_cons, List.length_nil]; omega
 · simp only [List.length_cons, List.length_nil]; omega
 · simp only [List.length_append, List.length_cons, List.length_nil]; omega
 · rw [drop_gi (by omega), List.foldl_cons] at h3
   have e : mergeStep out (gi S x) = out ++ [gi S x] := by
     unfold mergeStep
     refine if_neg ?_
     rintro ⟨h4, h5⟩
     rcases hc with hc | hc
     · omega
     · unfold lastD at h5; rw [hc] at h5; cases h5
   rw [e] at h3
   exact h3
 · rw [drop_end hn] at h3
   rw [← h3] at h
   exact h
theorem valid_iff (l : List Span) : validF l = true ↔ ∀ x : Int, 0 ≤ x → x < l.length → spanR (gi l x) = true ∧ (x > 0 → behindF (gi l (x - 1)) (gi l x) = true) := by
 unfold validF
 rw [List.all_eq_true]
 constructor
 · intro h x h0 h1
   have := h x.toNat (List.mem_range.2 (by omega))
   unfold chainB at this
   rw [show ((x.toNat : Nat) : Int) = x by omega] at this
   simp only [Bool.and_eq_true, Bool.or_eq_true, beq_iff_eq] at this
   refine ⟨this.1, fun hx => ?_⟩
   rcases this.2 with h2 | h2
   · omega
   · exact h2
 · intro h i hi
   have hi := List.mem_range.1 hi
   have := h (i : Int) (by omega) (by omega)
   unfold chainB
   simp only [Bool.and_eq_true, Bool.or_eq_true, beq_iff_eq]
   refine ⟨this.1, ?_⟩
   by_cases e : i = 0
   · exact .inl e
   · exact .inr (this.2 (by omega))
theorem valid_bad {l : List Span} {x : Int} (hx : inL x l.length) (h : spanR (gi l x) = false ∨ (x > 0 ∧ behindF (gi l (x - 1)) (gi l x) = false)) : validF l = false := by
 cases hv : validF l with
 | false => rfl
 | true =>
   have := (valid_iff l).1 hv x hx.1 hx.2
   rcases h with h | ⟨h1, h⟩
   · rw [this.1] at h; cases h
   · rw [this.2 h1] at h; cases h
theorem span_path {s : Span} : spanR s = true ↔ pathF s.path = 0 ∧ insideF s = true := by
 unfold spanR pathF
 cases pathB s.path <;> simp
theorem valid_ok (l : (List Span)) (Q : Bool → Prop) (hp0 : l.length ≤ 1000000) (hp1 : ∀ x ∈ l, x.path.size ≤ 1000000) (h : Q (validF l)) : valid_vc l Q := by
 refine lfp_of (fun x : Int => 0 ≤ x ∧ x ≤ l.length ∧ ∀ j : Int, 0 ≤ j → j < x → spanR (gi l j) = true ∧ (j > 0 → behindF (gi l (j - 1)) (gi l j) = true)) (fun x => (l.length - x).toNat) (fun x hx again hag => ?_) ⟨by omega, by omega, fun j _ _ => by omega⟩
 obtain ⟨h0, h1, h2⟩ := hx
 refine ⟨fun hlt => ⟨by omega, fun _ hx => by omega, fun _ => hp1 _ (gi_mem (by omega)), fun hb => ?_, fun hg => ⟨by omega, hag _ ⟨by omega, by omega, fun j hj hj2 => ?_⟩ (by omega)⟩⟩, fun hn => ?_⟩
 · have : validF l = false := by
     refine valid_bad (x := x) (by omega) ?_
     rcases hb with (hb | hb) | hb
     · left
       cases hs : spanR (gi l x) with
       | false => rfl
       | true => rw [(span_path.1 hs).2] at hb; cases hb
     · exact .inr hb
     · left
       cases hs : spanR (gi l x) with
       | false => rfl
       | true => exact absurd (span_path.1 hs).1 hb
   rwa [this] at h
 · by_cases e : j = x
   · subst e
     refine ⟨span_path.2 ⟨hg.2, hg.1.1⟩, fun hj0 => ?_⟩
     rcases hg.1.2 with h3 | h3
     · omega
     · exact h3
   · exact h2 j hj (by omega)
 · have : validF l = true := (valid_iff l).2 fun j h3 h4 => h2 j h3 (by omega)
   rwa [this] at h
theorem valid_span {l : List Span} (h : validF l = true) : ∀ s ∈ l, spanR s = true := by
 intro s hs
 obtain ⟨i, hi, rfl⟩ := List.getElem_of_mem hs
 have := ((valid_iff l).1 h (i : Int) (by omega) (by omega)).1
 rwa [gi_nat hi] at this
theorem span_inside {s : Span} (h : spanR s = true) : 0 ≤ s.from_ ∧ s.from_ < s.to ∧ s.to ≤ 1024 := by
 have := (span_path.1 h).2
 unfold insideF at this
 simp only [Bool.and_eq_true, decide_eq_true_eq] at this
 exact ⟨this.1.1, this.1.2, this.2⟩
theorem of_ok (l : (List Line)) (Q : (List Span) × Int → Prop) (hp0 : l.length ≤ 1000000) (hp1 : ∀ x ∈ l, x.path.size ≤ 1000000) (h : Q (ofF l)) : of_vc l Q := by
 refine ⟨⟨⟨by omega, by omega⟩, by omega, by omega⟩, ?_⟩
 refine lfp2 (of_L1 l Q) (fun out x => 0 ≤ x ∧ x ≤ l.length ∧ (out.length : Int) = x ∧ (ofF l = match (l.drop x.toNat).find? badLine with | some x => ([], if pathB x.path then 3 else 2) | none => (mergeF (out ++ (l.drop x.toNat).map unitW), 0))) (fun _ x => (l.length - x).toNat) (fun out x hst again hag => ?_) ⟨by simp, by simp, by simp, rfl⟩
 obtain ⟨h0, h1, h2, h3⟩ := hst
 have eu : (Span.mk ((gi l x).path) ((gi l x).n) (IntKind.i64.wrap (((gi l x).n) + 1))) = unitW (gi l x) := rfl
 unfold of_L1
 simp only [eu]
 refine ⟨fun hlt => ⟨by omega, hp1 _ (gi_mem (by omega)), fun hp => ?_, fun hp => ⟨fun hi => ?_, fun hi => ⟨⟨?_, ?_⟩, hag _ _ ⟨?_, ?_, ?_, ?_⟩ ?_⟩⟩⟩, fun hn => ?_⟩
 · have hb : pathB (gi l x).path = false := by
     cases hh : pathB (gi l x).path with
     | false => rfl
     | true => exact absurd (by unfold pathF; rw [hh]; rfl) hp
   have hbad : badLine (gi l x) = true := by unfold badLine; rw [hb]; rfl
   rw [h3, drop_gi (by omega), List.find?_cons, hbad] at h
   simp only [hb] at h
   exact h
 · have hb : pathB (gi l x).path = true := by
     cases hh : pathB (gi l x).path with
     | true => rfl
     | false => unfold pathF at hp; rw [hh] at hp; cases hp
   have hbad : badLine (gi l x) = true := by unfold badLine; rw [hi, hb]; rfl
   rw [h3, drop_gi (by omega), List.find?_cons, hbad] at h
   simp only [hb] at h
   exact h
 · simp only [List.length_cons, List.length_nil]; omega
 · simp only [List.length_cons, List.length_nil]; omega
 · rw [wrap_small (by omega)]; omega
 · rw [wrap_small (by omega)]; omega
 · simp only [List.length_append, List.length_cons, List.length_nil]; rw [wrap_small (by omega)]; omega
 · have hb : pathB (gi l x).path = true := by
     cases hh : pathB (gi l x).path with
     | true => rfl
     | false => unfold pathF at hp; rw [hh] at hp; cases hp
   have hbad : badLine (gi l x) = false := by unfold badLine; rw [hi, hb]; rfl
   rw [wrap_small (by omega), h3, drop_gi (by omega), List.find?_cons, hbad]
   simp only [List.map_cons, List.append_assoc, List.cons_append, List.nil_append]
 · rw [wrap_small (by omega)]; omega
 · rw [h3, drop_end hn] at h
   simp only [List.find?_nil, List.map_nil, List.append_nil] at h
   exact ⟨by omega, h⟩
theorem count_ok (l : (List Span)) (Q : Int → Prop) (hp0 : l.length ≤ 1000) (hp1 : ∀ x ∈ l, x.path.size ≤ 1000000) (h : Q (countL l)) : count_vc l Q := by
 unfold countL at h
 refine ⟨by omega, hp1, fun hv => by rw [hv] at h; exact h, fun hv => ?_⟩
 rw [if_pos hv] at h
 refine lfp2 (count_L1 l Q) (fun n x => 0 ≤ x ∧ x ≤ l.length ∧ 0 ≤ n ∧ n ≤ x * 1024 ∧ n + ((l.drop x.toNat).map fun s => s.to - s.from_).sum = (l.map fun s => s.to - s.from_).sum) (fun _ x => (l.length - x).toNat) (fun n x hst again hag => ?_) ⟨by simp, by simp, by simp, by simp, by simp⟩
 obtain ⟨h0, h1, h2, h3, h4⟩ := hst
 refine ⟨fun hlt => ?_, fun hn => ?_⟩
 · have hs := span_inside (valid_span hv _ (gi_mem (l := l) (i := x) (by omega)))
   rw [drop_gi (by omega), List.map_cons, List.sum_cons] at h4
   exact ⟨by omega, by omega, by omega, by omega, hag _ _ ⟨by omega, by omega, by omega, by omega, by omega⟩ (by omega)⟩
 · rw [drop_end hn, List.map_nil, List.sum_nil] at h4
   rw [show n = (l.map fun s => s.to - s.from_).sum by omega]
   exact h
theorem has1_ok (s_ : Span) (x : Line) (Q : Bool → Prop) (h : Q (has1F s_ x)) : has1_vc s_ x Q := h
theorem has_ok (l : (List Span)) (x : Line) (Q : Bool → Prop) (hp0 : l.length ≤ 1000) (hp1 : ∀ x ∈ l, x.path.size ≤ 1000000) (h : Q (hasF l x)) : has_vc l x Q := ⟨by omega, fun _ _ => trivial, fun _ => ⟨by omega, hp1⟩, h⟩
theorem inside_unit (x : Line) : insideF (unitW x) = (decide (0 ≤ x.n) && decide (x.n < 1024)) := by
 unfold insideF unitW
 simp only
 by_cases h0 : 0 ≤ x.n
 · by_cases h1 : x.n < 1024
   · rw [wrap_small (by omega)]
     rw [decide_eq_true h0, decide_eq_true h1, decide_eq_true (by omega), decide_eq_true (by omega)]; rfl
   · rw [decide_eq_true h0, decide_eq_false h1]
     by_cases h2 : x.n < IntKind.i64.wrap (x.n + 1)
     · rw [decide_eq_true h2, decide_eq_false (by omega)]; rfl
     · rw [decide_eq_false h2]; rfl
 · rw [decide_eq_false h0]; rfl
theorem bad_line (x : Line) : badLine x = !rightF x := by
 unfold badLine rightF
 rw [inside_unit]
theorem unitW_unit {x : Line} (h : rightF x = true) : unitW x = unit x := by
 unfold rightF at h
 simp only [Bool.and_eq_true, decide_eq_true_eq] at h
 unfold unitW unit
 rw [wrap_small (by omega)]
end Go.Lic
