/-
  The condition of a statement of licittop, printed from its code.
-/
import Derived.Test.YtkifpidbpoghlaaGreatDoorPv
import Derived.Test.YtkifpidbpoghlaaGreatDoorKm
import Derived.Lib.ItoaLen
set_option linter.all false
namespace Go.Lic
open Go.Proofs Go.Sort
def lawAlign_vc (s_ : ByteArray) (t : ByteArray) (Q : Bool → Prop) : Prop :=
 ((true = false → Q false) ∧ (true = true → (((¬ (s_.size : Int) > 1000 ∧ ¬ (t.size : Int) > 1000) → (⟨#[10]⟩ : ByteArray).size = 1) ∧ (((¬ (s_.size : Int) > 1000 ∧ ¬ (t.size : Int) > 1000) ∧ ¬ (countF s_ (⟨#[10]⟩ : ByteArray)) > 39) → (⟨#[10]⟩ : ByteArray).size = 1) ∧ ((((((s_.size : Int) > 1000 ∨ (t.size : Int) > 1000) ∨ (countF s_ (⟨#[10]⟩ : ByteArray)) > 39) ∨ (countF t (⟨#[10]⟩ : ByteArray)) > 39) → Q true) ∧ ((((¬ (s_.size : Int) > 1000 ∧ ¬ (t.size : Int) > 1000) ∧ ¬ (countF s_ (⟨#[10]⟩ : ByteArray)) > 39) ∧ ¬ (countF t (⟨#[10]⟩ : ByteArray)) > 39) → (s_.size ≤ 1000 ∧ t.size ≤ 1000 ∧ (zaf s_).1.length ≤ 40 ∧ (zaf t).1.length ≤ 40 ∧ (okP4 ((makeP s_ t).1) ∧ (s_.size ≤ 1000000 ∧ t.size ≤ 1000000 ∧ ((((potF (lexL s_) (lexL t) (Costs.mk 2 1 1)).1)).length ≤ 42 ∧ (∀ r ∈ ((potF (lexL s_) (lexL t) (Costs.mk 2 1 1)).1), r.length ≤ 42) ∧ (okP4 ((makeP s_ t).1) ∧ s_.size ≤ 1000000 ∧ (((((((((((makeP s_ t).2 = 0 ∧ (costP ((makeP s_ t).1)).2 = 0) ∧ (alignR (lexL s_) (lexL t) (Costs.mk 2 1 1)).2 = 0) ∧ (potF (lexL s_) (lexL t) (Costs.mk 2 1 1)).2 = 0) ∧ (boundF (lexL s_) (lexL t) (Costs.mk 2 1 1) ((potF (lexL s_) (lexL t) (Costs.mk 2 1 1)).1)).2 = 0) ∧ (applyF ((makeP s_ t).1) s_).2 = 0) ∧ (applyF ((makeP s_ t).1) s_).1 = t) ∧ ((alignR (lexL s_) (lexL t) (Costs.mk 2 1 1)).1).cost = (costP ((makeP s_ t).1)).1) ∧ (boundF (lexL s_) (lexL t) (Costs.mk 2 1 1) ((potF (lexL s_) (lexL t) (Costs.mk 2 1 1)).1)).1 = (costP ((makeP s_ t).1)).1) → inI (((lexL s_).length : Int) + ((lexL t).length : Int)) ∧ inI ((((lexL s_).length : Int) + ((lexL t).length : Int)) - ((costP ((makeP s_ t).1)).1)) ∧ (((alignR (lexL s_) (lexL t) (Costs.mk 2 1 1)).1)).steps.length ≤ 1000000 ∧ inI (2 * ((keptF ((alignR (lexL s_) (lexL t) (Costs.mk 2 1 1)).1)).length : Int))) ∧ Q ((((((((((((makeP s_ t).2) == 0) && (((costP ((makeP s_ t).1)).2) == 0)) && (((alignR (lexL s_) (lexL t) (Costs.mk 2 1 1)).2) == 0)) && (((potF (lexL s_) (lexL t) (Costs.mk 2 1 1)).2) == 0)) && (((boundF (lexL s_) (lexL t) (Costs.mk 2 1 1) ((potF (lexL s_) (lexL t) (Costs.mk 2 1 1)).1)).2) == 0)) && (((applyF ((makeP s_ t).1) s_).2) == 0)) && (decide ((applyF ((makeP s_ t).1) s_).1 = t))) && ((((alignR (lexL s_) (lexL t) (Costs.mk 2 1 1)).1).cost) == ((costP ((makeP s_ t).1)).1))) && (((boundF (lexL s_) (lexL t) (Costs.mk 2 1 1) ((potF (lexL s_) (lexL t) (Costs.mk 2 1 1)).1)).1) == ((costP ((makeP s_ t).1)).1))) && (((((lexL s_).length : Int) + ((lexL t).length : Int)) - ((costP ((makeP s_ t).1)).1)) == (2 * ((keptF ((alignR (lexL s_) (lexL t) (Costs.mk 2 1 1)).1)).length : Int)))))))))))))))
end Go.Lic
set_option linter.all false
namespace Go.Lic
open Go.Proofs Go.Sort
theorem ndigit_ok (c : Int) (Q : Bool → Prop) (h : Q (digB c)) : ndigit_vc c Q := h
theorem npart_ok (c : Int) (Q : Bool → Prop) (h : Q (wordB c)) : npart_vc c Q := h
theorem nsplit1_ok (r_ : Int) (Q : Bool → Prop) (h : Q (stopB r_)) : nsplit1_vc r_ Q := h
theorem nnote_ok (words : (List ByteArray)) (Q : Int → Prop) (hp0 : words.length ≤ 1000000) (h : Q (noteF words)) : nnote_vc words Q := by
 unfold noteF at h
 refine ⟨fun h2 => by omega, fun ⟨h2, _⟩ => by omega, fun hb => ?_, fun ⟨⟨h2, h3⟩, h4⟩ => ?_⟩
 · rw [if_neg (by rintro ⟨k1, k2, k3⟩; rcases hb with (hb | hb) | hb <;> first | omega | exact hb k2)] at h
   exact h
 · rw [if_pos ⟨by omega, h3, h4⟩] at h
   refine ⟨by omega, by omega, fun num hn => ?_, fun num hn => ?_⟩
   · rw [hn] at h
     simp only at h
     have hb : (-9223372036854775808 : Int) ≤ num ∧ num ≤ 9223372036854775807 := by
       unfold atoiO at hn
       split at hn
       · next v hv => cases hn; exact Lib.atoiAll_bounds hv
       · cases hn
     refine ⟨hb.1, hb.2, by omega, fun hne => by rw [if_neg hne] at h; exact h, fun he => by rw [if_pos he] at h; exact h⟩
   · rw [hn] at h; exact h
theorem nclass_ok (word : ByteArray) (names : Bool) (numbers : Bool) (Q : ByteArray → Prop) (hp0 : 0 < word.size) (h : Q (classF word names numbers)) : nclass_vc word names numbers Q := by
 unfold classF at h
 refine ⟨by omega, fun h1 => by rw [if_pos h1] at h; exact h, fun h1 => ?_⟩
 have h1' : ¬ (digB (sgi word 0) = true ∧ numbers = true) := by rintro ⟨a, b⟩; rcases h1 with h1 | h1 <;> simp_all
 rw [if_neg h1'] at h
 refine ⟨fun h2 => by rw [if_pos h2] at h; exact h, fun h2 => ?_⟩
 rw [if_neg (by rintro ⟨⟨a, b⟩, c⟩; rcases h2 with (h2 | h2) | h2 <;> simp_all)] at h
 exact h
theorem scont_ok (s_ : ByteArray) (substr : ByteArray) (Q : Bool → Prop) (hp0 : substr.size = 1) (h : Q ((decide (0 ≤ indexF s_ substr)))) : scont_vc s_ substr Q := ⟨hp0, h⟩
theorem nl_size : (⟨#[10]⟩ : ByteArray).size = 1 := rfl
theorem tlines_ok (data : ByteArray) (Q : (List ByteArray) × Int → Prop) (hp0 : data.size ≤ 1000000) (h : Q (zaf data)) : tlines_vc data Q := by
 unfold zaf bigT at h
 refine ⟨fun _ => nl_size, fun hb => ?_, fun ⟨h1, h2⟩ => ⟨hp0, nl_size, ?_⟩⟩
 · rw [if_pos (by simpa using hb)] at h; exact h
 · rw [if_neg (by simp only [Bool.or_eq_true, decide_eq_true_eq, not_or]; exact ⟨h1, h2⟩)] at h; exact h
theorem tjoin1_ok (s_ : ByteArray) (Q : Bool → Prop) (h : Q (nlB s_)) : tjoin1_vc s_ Q := ⟨nl_size, h⟩
theorem phunk1_ok (s_ : ByteArray) (Q : Bool → Prop) (h : Q (nlB s_)) : phunk1_vc s_ Q := ⟨nl_size, h⟩
theorem sizeS_nn : ∀ l : List ByteArray, 0 ≤ sizeS l
 | [] => by simp [sizeS]
 | s :: l => by have := sizeS_nn l; unfold sizeS; omega
theorem sizeS_le {m : Nat} : ∀ l : List ByteArray, (∀ z ∈ l, z.size ≤ m) → sizeS l ≤ l.length * m
 | [], _ => by simp [sizeS]
 | s :: l, h => by
   have h1 := sizeS_le l (fun z hz => h z (List.mem_cons_of_mem _ hz))
   have h2 := h s (by simp)
   unfold sizeS
   rw [List.length_cons, Int.natCast_add, Int.add_mul]
   omega
theorem tjoin_ok (lines : (List ByteArray)) (Q : ByteArray × Int → Prop) (hp0 : lines.length ≤ 1000000) (hp1 : ∀ z_ ∈ lines, z_.size ≤ 1000000) (h : Q (joinT lines)) : tjoin_vc lines Q := by
 unfold joinT at h
 refine ⟨fun _ => ⟨by omega, fun _ _ => trivial⟩, fun hb => ?_, fun ⟨h1, h2⟩ => ⟨by omega, ?_⟩⟩
 · rw [if_pos (hb.imp (fun k => by omega) id)] at h; exact h
 · rw [if_neg (by rintro (k | k); · omega
                  · rw [h2] at k; cases k)] at h
   have hle := sizeS_le (m := 1000000) lines hp1
   have hm : (lines.length : Int) * ((1000000 : Nat) : Int) ≤ 1000000 * 1000000 := Int.mul_le_mul (by omega) (by omega) (by omega) (by omega)
   refine lfp2 _ (fun (size x : Int) => 0 ≤ x ∧ x ≤ lines.length ∧ size + sizeS (lines.drop x.toNat) = (lines.length : Int) - 1 + sizeS lines ∧ -1 ≤ size) (fun (_ x : Int) => (lines.length - x).toNat) (fun size x hx again hag => ?_) ⟨by omega, by omega, by simp, by omega⟩
   obtain ⟨h0, h3, h4, h5⟩ := hx
   have hnn := sizeS_nn (lines.drop x.toNat)
   refine ⟨fun hlt => ?_, fun hn => ⟨fun hb => ?_, fun ⟨k1, k2⟩ => ⟨hp0, hp1, nl_size, ?_⟩⟩⟩
   · rw [drop_gi (by omega)] at h4
     have hnn2 := sizeS_nn (lines.drop (x + 1).toNat)
     simp only [sizeS] at h4
     exact ⟨by omega, by omega, by omega, hag _ _ ⟨by omega, by omega, by omega, by omega⟩ (by omega)⟩
   · rw [drop_end hn] at h4
     simp only [sizeS] at h4
     rw [if_pos (by omega)] at h; exact h
   · rw [drop_end hn] at h4
     simp only [sizeS] at h4
     rw [if_neg (by omega)] at h; exact h
theorem phunk_ok (h_ : Hunk) (Q : Bool → Prop) (hp0 : h_.lines.length ≤ 1000000) (h : Q (hunkB h_)) : phunk_vc h_ Q := by
 unfold hunkB at h
 refine ⟨fun hb => ?_, fun ⟨⟨⟨a, b⟩, c⟩, d⟩ => ?_⟩
 · have e : (decide (1 ≤ h_.kind) && decide (h_.kind ≤ 3) && decide (1 ≤ h_.n) && decide (h_.n ≤ 1024)) = false := by
     rw [← Bool.not_eq_true]
     simp only [Bool.and_eq_true, decide_eq_true_eq]
     omega
   rw [e] at h; exact h
 · have e : (decide (1 ≤ h_.kind) && decide (h_.kind ≤ 3) && decide (1 ≤ h_.n) && decide (h_.n ≤ 1024)) = true := by
     simp only [Bool.and_eq_true, decide_eq_true_eq]
     omega
   rw [e, Bool.true_and] at h
   refine ⟨fun k => ?_, fun k => ⟨fun _ => ⟨by omega, fun _ _ => trivial⟩, ?_⟩⟩
   · rw [if_neg k] at h
     have : ((h_.lines.length : Int) == 0) = decide (h_.lines.length = 0) := by rw [int_beq]; simp
     rw [this]; exact h
   · rw [if_pos k] at h
     rw [int_beq]; exact h
theorem plines1_ok (l : (List ByteArray)) (out : (List ByteArray)) (Q : (List ByteArray) → Prop) (hp0 : l.length ≤ 1000000) (hp1 : out.length ≤ 1000000000) (h : Q ((out ++ l))) : plines1_vc l out Q := ⟨⟨by omega, by omega⟩, h⟩
theorem psizes_ok (p : Patch) (Q : Int × Int × Int → Prop) (hp0 : okP4 p) (h : Q (sizesP p)) : psizes_vc p Q := by
 refine lfp4 _ (fun (k d a x : Int) => 0 ≤ x ∧ x ≤ p.hunks.length ∧ (p.hunks.drop x.toNat).foldl sizeStep (k, d, a) = sizesP p ∧ (0 ≤ k ∧ k ≤ x * 1000000) ∧ (0 ≤ d ∧ d ≤ x * 1000000) ∧ (0 ≤ a ∧ a ≤ x * 1000000)) (fun (_ _ _ x : Int) => (p.hunks.length - x).toNat) (fun k d a x hs again hag => ?_) ⟨by simp, by simp, rfl, by simp, by simp, by simp⟩
 obtain ⟨h0, h1, h2, h3, h4, h5⟩ := hs
 have hl := hp0.len
 refine ⟨fun hlt => ⟨by omega, ?_⟩, fun hn => ?_⟩
 · have hh := hp0.ok _ (gi_mem (l := p.hunks) (i := x) (by omega))
   have n0 := hh.n0; have n1 := hh.n1
   rw [drop_gi (by omega), List.foldl_cons] at h2
   unfold sizeStep at h2
   refine ⟨fun hk => ?_, fun hk => ⟨fun hk2 => ?_, fun hk2 => ?_⟩⟩
   · rw [if_pos hk] at h2
     exact ⟨by omega, by omega, hag _ _ _ _ ⟨by omega, by omega, h2, by omega, by omega, by omega⟩ (by omega)⟩
   · rw [if_neg hk, if_pos hk2] at h2
     exact ⟨by omega, by omega, hag _ _ _ _ ⟨by omega, by omega, h2, by omega, by omega, by omega⟩ (by omega)⟩
   · rw [if_neg hk, if_neg hk2] at h2
     exact ⟨by omega, by omega, hag _ _ _ _ ⟨by omega, by omega, h2, by omega, by omega, by omega⟩ (by omega)⟩
 · rw [drop_end hn] at h2
   simp only [List.foldl_nil] at h2
   rw [← h2] at h; exact h
theorem sizes_bd {p : Patch} (hp0 : okP4 p) : (0 ≤ (sizesP p).1 ∧ (sizesP p).1 ≤ 500000000) ∧ (0 ≤ (sizesP p).2.1 ∧ (sizesP p).2.1 ≤ 500000000) ∧ (0 ≤ (sizesP p).2.2 ∧ (sizesP p).2.2 ≤ 500000000) := by
 have key : ∀ (l : List Hunk) (s : Int × Int × Int) (m : Nat), (∀ h ∈ l, OkH h) → 0 ≤ s.1 ∧ s.1 ≤ m * 1000000 → 0 ≤ s.2.1 ∧ s.2.1 ≤ m * 1000000 → 0 ≤ s.2.2 ∧ s.2.2 ≤ m * 1000000 →
     (0 ≤ (l.foldl sizeStep s).1 ∧ (l.foldl sizeStep s).1 ≤ (m + l.length : Nat) * 1000000) ∧ (0 ≤ (l.foldl sizeStep s).2.1 ∧ (l.foldl sizeStep s).2.1 ≤ (m + l.length : Nat) * 1000000) ∧ (0 ≤ (l.foldl sizeStep s).2.2 ∧ (l.foldl sizeStep s).2.2 ≤ (m + l.length : Nat) * 1000000) := by
   intro l
   induction l with
   | nil => intro s m _ h1 h2 h3; exact ⟨h1, h2, h3⟩
   | cons h l ih =>
     intro s m hok h1 h2 h3
     have hh := hok h (by simp)
     have n0 := hh.n0; have n1 := hh.n1
     have hs : (0 ≤ (sizeStep s h).1 ∧ (sizeStep s h).1 ≤ ((m + 1 : Nat) : Int) * 1000000) ∧ (0 ≤ (sizeStep s h).2.1 ∧ (sizeStep s h).2.1 ≤ ((m + 1 : Nat) : Int) * 1000000) ∧ (0 ≤ (sizeStep s h).2.2 ∧ (sizeStep s h).2.2 ≤ ((m + 1 : Nat) : Int) * 1000000) := by
       unfold sizeStep
       by_cases k1 : h.kind = 1
       · rw [if_pos k1]; simp only; omega
       · rw [if_neg k1]
         by_cases k2 : h.kind = 2
         · rw [if_pos k2]; simp only; omega
         · rw [if_neg k2]; simp only; omega
     have := ih (sizeStep s h) (m + 1) (fun x hx => hok x (List.mem_cons_of_mem _ hx)) hs.1 hs.2.1 hs.2.2
     rw [List.foldl_cons, List.length_cons, show m + (l.length + 1) = m + 1 + l.length by omega]
     exact this
 have := key p.hunks (0, 0, 0) 0 hp0.ok (by simp) (by simp) (by simp)
 have hl := hp0.len
 unfold sizesP
 omega
end Go.Lic
set_option linter.all false
namespace Go.Lic
open Go.Proofs Go.Sort
theorem itoa_le {n : Int} (h0 : 0 ≤ n) (h1 : n ≤ 1000000) : (itoaF n).size ≤ 21 := by
 have := Lib.itoa_length_le n (by omega) (by omega)
 simpa [itoaF, ByteArray.size] using this
theorem app_size (a b : ByteArray) : (a ++ b).size = a.size + b.size := ByteArray.size_append
theorem head_le {h : Hunk} (hh : OkH h) : (headH h).size ≤ 26 := by
 have h1 := itoa_le hh.n0 hh.n1
 unfold headH
 rw [app_size]
 split
 · have : (⟨#[100, 114, 111, 112, 32]⟩ : ByteArray).size = 5 := rfl
   omega
 · split
   · have : (⟨#[97, 100, 100, 32]⟩ : ByteArray).size = 4 := rfl
     omega
   · have : (⟨#[107, 101, 101, 112, 32]⟩ : ByteArray).size = 5 := rfl
     omega
theorem lines_len {m : Nat} : ∀ l : List Hunk, (∀ h ∈ l, h.lines.length ≤ m) → (l.flatMap hunkL).length ≤ l.length * (m + 1)
 | [], _ => by simp
 | h :: l, hm => by
   have h1 := lines_len l (fun x hx => hm x (List.mem_cons_of_mem _ hx))
   have h2 := hm h (by simp)
   rw [List.flatMap_cons, List.length_append, List.length_cons, Nat.succ_mul]
   simp only [hunkL, List.length_cons]
   omega
theorem linesP_eq {p : Patch} (hp : okP4 p) : linesP p = p.hunks.flatMap hunkL := by
 unfold linesP; rw [if_pos hp.base]; rfl
theorem linesP_ok {p : Patch} (hp : okP4 p) : (linesP p).length ≤ 1000000 ∧ ∀ z ∈ linesP p, z.size ≤ 1000000 := by
 rw [linesP_eq hp]
 refine ⟨?_, fun z hz => ?_⟩
 · have h1 := lines_len p.hunks (fun h hh => (hp.ok h hh).len)
   have h2 := hp.len
   have : p.hunks.length * (1000 + 1) ≤ 500 * 1001 := Nat.mul_le_mul h2 (by omega)
   omega
 · obtain ⟨h, hh, hz⟩ := List.mem_flatMap.1 hz
   rcases List.mem_cons.1 hz with e | hz
   · rw [e]; have := head_le (hp.ok h hh); omega
   · have := (hp.ok h hh).size z hz; omega
theorem plines_ok (p : Patch) (Q : (List ByteArray) → Prop) (hp0 : okP4 p) (h : Q (linesP p)) : plines_vc p Q := by
 refine ⟨fun hb => absurd hp0.base hb, fun _ => ?_⟩
 unfold plines_J2
 have hl := hp0.len
 rw [linesP_eq hp0] at h
 refine lfp2 _ (fun (xs : List ByteArray) (x : Int) => 0 ≤ x ∧ x ≤ p.hunks.length ∧ xs ++ (p.hunks.drop x.toNat).flatMap hunkL = p.hunks.flatMap hunkL ∧ (xs.length : Int) ≤ x * 1001) (fun (_ : List ByteArray) (x : Int) => (p.hunks.length - x).toNat) (fun xs x hs again hag => ?_) ⟨by omega, by omega, rfl, by simp⟩
 obtain ⟨h0, h1, h2, h3⟩ := hs
 refine ⟨fun hlt => ⟨by omega, ?_⟩, fun hn => ?_⟩
 · have hh := hp0.ok _ (gi_mem (l := p.hunks) (i := x) (by omega))
   have n0 := hh.n0; have n1 := hh.n1; have ln := hh.len
   have hi := itoa_le n0 n1
   rw [drop_gi (by omega), List.flatMap_cons] at h2
   have key : ∀ w : ByteArray, w.size ≤ 5 → headH (gi p.hunks x) = w ++ itoaF (gi p.hunks x).n → plines_J1 p xs x again w := by
     intro w hw e
     refine ⟨by omega, by omega, by omega, by simp, by omega, by omega, by simp; omega, by omega, hag _ _ ⟨by omega, by omega, ?_, ?_⟩ (by omega)⟩
     · rw [← h2, hunkL, e]; simp
     · simp only [List.length_append, List.length_cons, List.length_nil]; omega
   refine ⟨fun k => key _ (by decide) (by unfold headH; rw [if_pos k]), fun k => ⟨fun k2 => key _ (by decide) (by unfold headH; rw [if_neg k, if_pos k2]), fun k2 => key _ (by decide) (by unfold headH; rw [if_neg k, if_neg k2])⟩⟩
 · rw [drop_end hn, List.flatMap_nil, List.append_nil] at h2
   rw [h2]; exact h
theorem hunksB_iff {l : List Hunk} : hunksB l = true ↔ ∀ k : Nat, k < l.length → okAt l k = true := by
 unfold hunksB; simp
theorem okAt_eq (l : List Hunk) (x : Nat) : okAt l x = true ↔ hunkB (gi l x) = true ∧ (x = 0 ∨ (¬ (gi l ((x : Int) - 1)).kind = (gi l x).kind ∧ ¬ ((gi l ((x : Int) - 1)).kind = 3 ∧ (gi l x).kind = 2))) := by
 unfold okAt adjB
 by_cases hb : (gi l ((x : Int) - 1)).kind = 3 <;> simp [hb]
theorem pcheck_ok (p : Patch) (Q : ByteArray × Bool → Prop) (hp0 : okP4 p) (h : Q (checkP p)) : pcheck_vc p Q := by
 have hl := hp0.len
 have hb : baseB p = true := by unfold baseB; simp [hp0.base]; omega
 have s := sizes_bd hp0
 refine ⟨fun hbad => ?_, fun _ => ?_⟩
 · rcases hbad with ⟨k, _⟩ | k
   · exact absurd hp0.base k
   · omega
 refine lfp_of (fun x : Int => 0 ≤ x ∧ x ≤ p.hunks.length ∧ ∀ k : Nat, (k : Int) < x → okAt p.hunks k = true) (fun x => (p.hunks.length - x).toNat) (fun x hx again hag => ?_) ⟨by omega, by omega, fun k hk => by omega⟩
 obtain ⟨h0, h1, h2⟩ := hx
 have ex : ((x.toNat : Nat) : Int) = x := by omega
 refine ⟨fun hlt => ?_, fun hn => ?_⟩
 · have hh := hp0.ok _ (gi_mem (l := p.hunks) (i := x) (by omega))
   have e := okAt_eq p.hunks x.toNat
   rw [ex] at e
   refine ⟨by omega, by have := hh.len; omega, fun _ _ => ⟨by omega, by omega⟩, fun hbad => ?_, fun ⟨g1, g2⟩ => ⟨by omega, hag _ ⟨by omega, by omega, fun k hk => ?_⟩ (by omega)⟩⟩
   · have : hunksB p.hunks = false := by
       rw [← Bool.not_eq_true, hunksB_iff]
       intro hall
       have := e.1 (hall x.toNat (by omega))
       rcases hbad with k | ⟨k1, k2⟩
       · rw [k] at this; exact absurd this.1 (by decide)
       · rcases this.2 with k3 | ⟨k3, k4⟩
         · omega
         · rcases k2 with k2 | k2
           · exact k3 k2
           · exact k4 k2
     unfold checkP at h
     rw [this, Bool.false_and, Bool.and_false, if_neg (by decide)] at h
     exact h
   · rcases Int.lt_or_eq_of_le (show (k : Int) ≤ x by omega) with k1 | k1
     · exact h2 k k1
     · have : k = x.toNat := by omega
       subst this
       refine e.2 ⟨g1, ?_⟩
       rcases g2 with g2 | ⟨g2, g3⟩
       · left; omega
       · right; exact ⟨g2, by rintro ⟨a, b⟩; rcases g3 with g3 | g3; exact g3 a; exact g3 b⟩
 · have hall : hunksB p.hunks = true := hunksB_iff.2 (fun k hk => h2 k (by omega))
   unfold checkP at h
   rw [hb, hall, Bool.true_and, Bool.true_and] at h
   refine ⟨hp0, by omega, fun _ => by omega, fun _ => by omega, fun hbad => ?_, fun hg => ⟨hp0, (linesP_ok hp0).1, (linesP_ok hp0).2, ?_⟩⟩
   · have : sizesB (sizesP p) = false := by
       rw [← Bool.not_eq_true]; unfold sizesB
       simp only [Bool.and_eq_true, decide_eq_true_eq]
       omega
     rw [this, if_neg (by decide)] at h
     exact h
   · have : sizesB (sizesP p) = true := by
       unfold sizesB
       simp only [Bool.and_eq_true, decide_eq_true_eq]
       omega
     rw [this, if_pos rfl] at h
     rw [int_beq]; exact h
theorem pcost_ok (p : Patch) (Q : Int × Int → Prop) (hp0 : okP4 p) (h : Q (costP p)) : pcost_vc p Q := by
 have s := sizes_bd hp0
 unfold costP at h
 exact ⟨hp0, fun k => by rw [k, if_neg (by decide)] at h; exact h, fun k => ⟨hp0, by omega, by rw [k, if_pos rfl] at h; exact h⟩⟩
theorem check_hunks {p : Patch} (h : (checkP p).2 = true) : hunksB p.hunks = true ∧ sizesB (sizesP p) = true ∧ (joinT (linesP p)).2 = 0 := by
 unfold checkP at h
 split at h
 · next hc =>
   simp only [Bool.and_eq_true] at hc
   exact ⟨hc.2.1, hc.2.2, by simpa using h⟩
 · cases h
theorem hunk_n {h : Hunk} (hb : hunkB h = true) : 1 ≤ h.kind ∧ h.kind ≤ 3 ∧ 1 ≤ h.n ∧ h.n ≤ 1024 ∧ (h.kind = 3 → (h.lines.length : Int) = h.n ∧ h.lines.any nlB = false) ∧ (¬ h.kind = 3 → h.lines.length = 0) := by
 unfold hunkB at hb
 simp only [Bool.and_eq_true, decide_eq_true_eq] at hb
 obtain ⟨⟨⟨⟨a, b⟩, c⟩, d⟩, e⟩ := hb
 refine ⟨a, b, c, d, fun k => ?_, fun k => ?_⟩
 · rw [if_pos k] at e; simpa using e
 · rw [if_neg k] at e; simpa using e
def takesL : List Hunk → Int
 | [] => 0
 | h :: l => (if h.kind = 3 then 0 else h.n) + takesL l
theorem takes_sizes : ∀ (l : List Hunk) (s : Int × Int × Int), (∀ h ∈ l, 1 ≤ h.kind ∧ h.kind ≤ 3) → (l.foldl sizeStep s).1 + (l.foldl sizeStep s).2.1 = s.1 + s.2.1 + takesL l
 | [], s, _ => by simp [takesL]
 | h :: l, s, hk => by
   have h1 := hk h (by simp)
   rw [List.foldl_cons, takes_sizes l _ (fun x hx => hk x (List.mem_cons_of_mem _ hx)), takesL]
   unfold sizeStep
   by_cases k1 : h.kind = 1
   · rw [if_pos k1, if_neg (by omega)]; simp only; omega
   · rw [if_neg k1]
     by_cases k2 : h.kind = 2
     · rw [if_pos k2, if_neg (by omega)]; simp only; omega
     · rw [if_neg k2, if_pos (by omega)]; simp only; omega
theorem takes_nn : ∀ l : List Hunk, (∀ h ∈ l, 0 ≤ h.n) → 0 ≤ takesL l
 | [], _ => by simp [takesL]
 | h :: l, hk => by
   have h1 := hk h (by simp)
   have h2 := takes_nn l (fun x hx => hk x (List.mem_cons_of_mem _ hx))
   unfold takesL; split <;> omega
theorem mem_hunk {l : List Hunk} (hb : hunksB l = true) {h : Hunk} (hh : h ∈ l) : hunkB h = true := by
 obtain ⟨k, hk, rfl⟩ := List.mem_iff_getElem.1 hh
 have := (okAt_eq l k).1 (hunksB_iff.1 hb k hk)
 rw [gi_nat hk] at this
 exact this.1
theorem linesT_len (data : ByteArray) : (zaf data).1.length ≤ 1024 ∧ ((∀ z ∈ (zaf data).1, z.size ≤ 65536)) := by
 unfold zaf
 split
 · exact ⟨by simp, by simp⟩
 · next h =>
   unfold bigT at h
   simp only [Bool.or_eq_true, decide_eq_true_eq, not_or] at h
   refine ⟨?_, fun z hz => ?_⟩
   · have e : (splitF data nlS).length = data.data.toList.count 10 + 1 := by unfold splitF; rw [List.length_map, split_len]; rfl
     have h2 := h.2
     unfold countF at h2
     have e2 : sepOf nlS = 10 := rfl
     rw [e2] at h2
     show (splitF data nlS).length ≤ 1024
     omega
   · have := splitF_size data 10 z hz
     omega
theorem papply_ok (p : Patch) (data : ByteArray) (Q : (List ByteArray) × (List ByteArray) × Int → Prop) (hp0 : okP4 p) (hp1 : data.size ≤ 1000000) (h : Q (applyP p data)) : papply_vc p data Q := by
 have s := sizes_bd hp0
 have hl := hp0.len
 have hT := linesT_len data
 unfold applyP at h
 refine ⟨hp0, fun k => by rw [k, if_neg (by decide)] at h; exact h, fun k => ?_⟩
 rw [k, if_pos rfl] at h
 refine ⟨hp1, fun k2 => by rw [if_neg k2] at h; exact h, fun k2 => ?_⟩
 rw [if_pos k2] at h
 refine ⟨hp0, by omega, fun _ hb => absurd hp0.base hb, fun hbad => ?_, fun ⟨g1, g2⟩ => ?_⟩
 · rw [if_neg (by rintro ⟨a, b⟩; rcases hbad with c | ⟨c, d⟩; exact c a; rcases b with b | b; exact c b; exact d b)] at h
   exact h
 rw [if_pos ⟨g1, g2⟩] at h
 obtain ⟨hb, _, _⟩ := check_hunks k
 have hk : ∀ x ∈ p.hunks, 1 ≤ x.kind ∧ x.kind ≤ 3 := fun x hx => ⟨(hunk_n (mem_hunk hb hx)).1, (hunk_n (mem_hunk hb hx)).2.1⟩
 have ht : takesL p.hunks = ((zaf data).1.length : Int) := by
   have := takes_sizes p.hunks (0, 0, 0) hk
   unfold sizesP at g1
   simp only at this
   omega
 refine lfp3 _ (fun (out : List ByteArray) (at_ x : Int) => 0 ≤ x ∧ x ≤ p.hunks.length ∧ ((p.hunks.drop x.toNat).foldl (applyStep (zaf data).1) (out, at_)).1 = outP (zaf data).1 p.hunks ∧ 0 ≤ at_ ∧ at_ + takesL (p.hunks.drop x.toNat) = ((zaf data).1.length : Int) ∧ (out.length : Int) ≤ x * 1024 ∧ ∀ z ∈ out, z.size ≤ 1000000)
   (fun (_ : List ByteArray) (_ x : Int) => (p.hunks.length - x).toNat) (fun out at_ x hs again hag => ?_) ⟨by omega, by omega, rfl, by omega, by simpa using ht, by simp, by simp⟩
 obtain ⟨h0, h1, h2, h3, h4, h5, h6⟩ := hs
 refine ⟨fun hlt => ⟨by omega, ?_⟩, fun hn => ?_⟩
 · have hm := gi_mem (l := p.hunks) (i := x) (by omega)
   obtain ⟨c1, c2, c3, c4, c5, c6⟩ := hunk_n (mem_hunk hb hm)
   have hh := hp0.ok _ hm
   have ln := hh.len
   rw [drop_gi (by omega), takesL] at h4
   rw [drop_gi (by omega), List.foldl_cons] at h2
   have tn := takes_nn (p.hunks.drop (x + 1).toNat) (fun y hy => (hp0.ok y (List.mem_of_mem_drop hy)).n0)
   unfold applyStep at h2
   refine ⟨fun k1 => ?_, fun k1 => ⟨fun k3 => ?_, fun k3 => ?_⟩⟩
   · rw [if_pos k1] at h2
     rw [if_neg (by omega)] at h4
     have hs : inS at_ (at_ + (gi p.hunks x).n) (zaf data).1.length := ⟨by omega, by omega, by omega⟩
     have hlen := lsub_length (l := (zaf data).1) hs
     refine ⟨by omega, hs, ⟨by omega, by omega⟩, by omega, by omega, hag _ _ _ ⟨by omega, by omega, h2, by omega, by omega, ?_, fun z hz => ?_⟩ (by omega)⟩
     · rw [List.length_append]; omega
     · rcases List.mem_append.1 hz with hz | hz
       · exact h6 z hz
       · have := hT.2 z (List.mem_of_mem_take (List.mem_of_mem_drop hz)); omega
   · rw [if_neg k1, if_pos k3] at h2
     rw [if_neg (by omega)] at h4
     exact ⟨by omega, by omega, hag _ _ _ ⟨by omega, by omega, h2, by omega, by omega, by omega, h6⟩ (by omega)⟩
   · rw [if_neg k1, if_neg k3] at h2
     rw [if_pos (by omega)] at h4
     refine ⟨⟨by omega, by omega⟩, by omega, hag _ _ _ ⟨by omega, by omega, h2, by omega, by omega, ?_, fun z hz => ?_⟩ (by omega)⟩
     · rw [List.length_append]; omega
     · rcases List.mem_append.1 hz with hz | hz
       · exact h6 z hz
       · have := hh.size z hz; omega
 · rw [drop_end hn] at h2
   simp only [List.foldl_nil] at h2
   rw [← h2] at h
   refine ⟨by omega, h6, fun k3 => by rw [if_neg k3] at h; exact h, fun k3 => by rw [if_pos k3] at h; exact h⟩
theorem out_ok {p : Patch} (hp0 : okP4 p) (data : ByteArray) : (applyP p data).2.1.length ≤ 1000000 ∧ ∀ z ∈ (applyP p data).2.1, z.size ≤ 1000000 := by
 have hT := linesT_len data
 have key : ∀ (l : List Hunk) (r : List ByteArray × Int) (m : Nat), (∀ h ∈ l, OkH h) → r.1.length ≤ m → (∀ z ∈ r.1, z.size ≤ 1000000) → (l.foldl (applyStep (zaf data).1) r).1.length ≤ m + l.length * 1024 ∧ ∀ z ∈ (l.foldl (applyStep (zaf data).1) r).1, z.size ≤ 1000000 := by
   intro l
   induction l with
   | nil => intro r m _ h1 h2; exact ⟨by simpa using h1, h2⟩
   | cons h l ih =>
     intro r m hok h1 h2
     have hh := hok h (by simp)
     have : (applyStep (zaf data).1 r h).1.length ≤ m + 1024 ∧ ∀ z ∈ (applyStep (zaf data).1 r h).1, z.size ≤ 1000000 := by
       unfold applyStep
       split
       · refine ⟨?_, fun z hz => ?_⟩
         · have : (lsub (zaf data).1 r.2 (r.2 + h.n)).length ≤ (zaf data).1.length := by simp [lsub]; omega
           rw [List.length_append]; omega
         · rcases List.mem_append.1 hz with hz | hz
           · exact h2 z hz
           · have := hT.2 z (List.mem_of_mem_take (List.mem_of_mem_drop hz)); omega
       · split
         · exact ⟨by simp only; omega, h2⟩
         · refine ⟨by have := hh.len; rw [List.length_append]; omega, fun z hz => ?_⟩
           rcases List.mem_append.1 hz with hz | hz
           · exact h2 z hz
           · have := hh.size z hz; omega
     obtain ⟨a, b⟩ := ih _ (m + 1024) (fun x hx => hok x (List.mem_cons_of_mem _ hx)) this.1 this.2
     rw [List.foldl_cons, List.length_cons]
     exact ⟨by omega, b⟩
 obtain ⟨a, b⟩ := key p.hunks ([], 0) 0 hp0.ok (by simp) (by simp)
 have hl := hp0.len
 unfold applyP
 split
 · split
   · split
     · split
       · exact ⟨by simp only [outP]; omega, b⟩
       · exact ⟨by simp, by simp⟩
     · exact ⟨by simp, by simp⟩
   · exact ⟨by simp, by simp⟩
 · exact ⟨by simp, by simp⟩
theorem pApply_ok (p : Patch) (data : ByteArray) (Q : ByteArray × Int → Prop) (hp0 : okP4 p) (hp1 : data.size ≤ 1000000) (h : Q (applyF p data)) : pApply_vc p data Q := ⟨hp0, hp1, (out_ok hp0 data).1, (out_ok hp0 data).2, rfl, h⟩
theorem flush_ok {b : PatchBuilder} (hb : okBl b) : (zan b).hunks.length ≤ 492 ∧ ∀ h ∈ (zan b).hunks, OkH h := by
 have := hb.len; have d0 := hb.d0; have d1 := hb.d1; have al := hb.alen
 unfold zan
 refine ⟨?_, fun h hh => ?_⟩
 · simp only [List.length_append]
   split <;> split <;> simp <;> omega
 · rcases List.mem_append.1 hh with hh | hh
   · split at hh
     · rcases List.mem_append.1 hh with hh | hh
       · exact hb.ok h hh
       · rw [List.mem_singleton.1 hh]; exact ⟨d0, by simp only; omega, by simp, by simp⟩
     · exact hb.ok h hh
   · split at hh
     · rw [List.mem_singleton.1 hh]; exact ⟨by simp only; omega, by simp only; omega, al, hb.asize⟩
     · cases hh
theorem bflush_ok (b : PatchBuilder) (Q : PatchBuilder → Prop) (hp0 : okBl b) (h : Q (zan b)) : bflush_vc b Q := by
 have := hp0.len
 have key : ∀ xs : List Hunk, xs.length ≤ 491 → xs = (if b.drop > 0 then b.hunks ++ [⟨2, b.drop, []⟩] else b.hunks) → bflush_J1 b Q xs := by
   intro xs hx e
   unfold zan at h
   rw [← e] at h
   refine ⟨fun k => ⟨⟨by simp; omega, by simp; omega⟩, ?_⟩, fun k => ?_⟩
   · rw [if_pos (by omega)] at h; exact h
   · rw [if_neg (by omega), List.append_nil] at h; exact h
 exact ⟨fun k => ⟨⟨by simp; omega, by simp; omega⟩, key _ (by simp; omega) (by rw [if_pos k])⟩, fun k => key _ (by omega) (by rw [if_neg k])⟩
theorem bkeep_ok (b : PatchBuilder) (n : Int) (Q : PatchBuilder → Prop) (hp0 : okBl b) (hp1 : (0 : Int) ≤ n) (hp2 : n ≤ (1000 : Int)) (h : Q (keepB b n)) : bkeep_vc b n Q := by
 unfold keepB at h
 refine ⟨fun k => by rw [if_pos k] at h; exact h, fun k => ?_⟩
 rw [if_neg k] at h
 obtain ⟨f1, f2⟩ := flush_ok hp0
 refine ⟨hp0, fun k1 => ⟨by omega, by omega⟩, fun ⟨k1, k2⟩ => ?_, fun hbad => ?_⟩
 · rw [if_pos ⟨by omega, k2⟩] at h
   have hh := f2 _ (gi_mem (l := (zan b).hunks) (i := ((zan b).hunks.length : Int) - 1) ⟨by omega, by omega⟩)
   have n0 := hh.n0; have n1 := hh.n1
   exact ⟨by omega, by omega, by omega, h⟩
 · rw [if_neg (by rintro ⟨a, c⟩; rcases hbad with d | d; omega; exact d c)] at h
   exact ⟨⟨by simp; omega, by simp; omega⟩, h⟩
theorem bpatch_ok (b : PatchBuilder) (base : ByteArray) (Q : Patch × Int → Prop) (hp0 : okBl b) (hp1 : base = (⟨#[]⟩ : ByteArray)) (h : Q (patchB b base)) : bpatch_vc b base Q := by
 obtain ⟨f1, f2⟩ := flush_ok hp0
 unfold patchB at h
 exact ⟨hp0, ⟨hp1, by simp only; omega, f2⟩, fun k => by rw [k, if_neg (by decide)] at h; exact h, fun k => by rw [k, if_pos rfl] at h; exact h⟩
end Go.Lic
