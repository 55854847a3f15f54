/-
  The condition of the table of common lines holds.
-/
import Derived.Test.YtkifpidbpoghlaaGreatDoorPo3
set_option linter.all false
namespace Go.Lic
open Go.Proofs Go.Sort
theorem gi_siP {α : Type} [Inhabited α] {l : List α} {i : Int} (h : inL i l.length) (v : α) {j : Int} (hj : 0 ≤ j) : gi (si l i v) j = if j = i then v else gi l j := by
 unfold gi si
 by_cases e : j = i
 · subst e
   rw [if_pos rfl, List.getD_eq_getElem?_getD, List.getElem?_set_self (by omega)]; rfl
 · rw [if_neg e, List.getD_eq_getElem?_getD, List.getElem?_set_ne (by omega), List.getD_eq_getElem?_getD]
theorem gi_repZ {n : Nat} {i : Int} : gi (List.replicate n (0 : Int)) i = 0 := by
 unfold gi
 rw [List.getD_eq_getElem?_getD, List.getElem?_replicate]
 split <;> rfl
def vLcs (a b : List ByteArray) (i j : Int) : Int := ((lcs (a.drop i.toNat) (b.drop j.toNat) : Nat) : Int)
theorem vLcs_end1 {a b : List ByteArray} {j : Int} : vLcs a b (a.length : Int) j = 0 := by
 unfold vLcs; rw [Int.toNat_natCast, List.drop_length, lcs_nil]; rfl
theorem vLcs_end2 {a b : List ByteArray} {i : Int} : vLcs a b i (b.length : Int) = 0 := by
 unfold vLcs; rw [Int.toNat_natCast, List.drop_length, lcs_nil2]; rfl
theorem vLcs_step {a b : List ByteArray} {i j : Int} (hi : inL i a.length) (hj : inL j b.length) : vLcs a b i j = max (max (vLcs a b (i + 1) j) (vLcs a b i (j + 1))) (if gi a i = gi b j then 1 + vLcs a b (i + 1) (j + 1) else 0) := by
 unfold vLcs
 rw [drop_gi hi, drop_gi hj, lcs_cons]
 split <;> omega
theorem vLcs_nn (a b : List ByteArray) (i j : Int) : 0 ≤ vLcs a b i j ∧ vLcs a b i j ≤ a.length := by
 unfold vLcs
 have := (lcs_le (a.drop i.toNat) (b.drop j.toNat)).1
 rw [List.length_drop] at this
 omega
theorem gmax2 (x y : Int) : gmax x [y] = max x y := by
 simp only [gmax, List.foldl_cons, List.foldl_nil]
 split <;> omega
structure TabI (a b : List ByteArray) (p : Int → Int → Prop) (t : List (List Int)) : Prop where
 len : t.length = a.length + 1
 row : ∀ k : Int, 0 ≤ k → k ≤ a.length → (gi t k).length = b.length + 1
 yes : ∀ k l : Int, 0 ≤ k → k ≤ a.length → 0 ≤ l → l ≤ b.length → p k l → gi (gi t k) l = vLcs a b k l
theorem TabI.put {a b : List ByteArray} {p p' : Int → Int → Prop} {t : List (List Int)} (h : TabI a b p t) {i j : Int} (hi : inL i a.length) (hj : inL j b.length) {v : Int} (hv : p' i j → v = vLcs a b i j) (hp : ∀ k l, p' k l → p k l ∨ (k = i ∧ l = j)) : TabI a b p' (si t i (si (gi t i) j v)) := by
 have hl := h.len
 have hr := h.row i (by omega) (by omega)
 refine ⟨by rw [si_length]; exact hl, fun k h0 h1 => ?_, fun k l h0 h1 h2 h3 hq => ?_⟩
 · rw [gi_siP (by omega) _ h0]
   split
   · rw [si_length]; exact hr
   · exact h.row k h0 h1
 · rw [gi_siP (by omega) _ h0]
   by_cases e : k = i
   · subst e
     rw [if_pos rfl, gi_siP (by omega) _ h2]
     by_cases e2 : l = j
     · subst e2; rw [if_pos rfl]; exact hv hq
     · rw [if_neg e2]; exact h.yes k l h0 h1 h2 h3 ((hp k l hq).resolve_right (fun h => e2 h.2))
   · rw [if_neg e]; exact h.yes k l h0 h1 h2 h3 ((hp k l hq).resolve_right (fun h => e h.1))
theorem TabI.all {a b : List ByteArray} {p : Int → Int → Prop} {t : List (List Int)} (h : TabI a b p t) (hp : ∀ k l : Int, 0 ≤ k → k ≤ a.length → 0 ≤ l → l ≤ b.length → p k l) : t = commonP a b := by
 have hl := h.len
 refine list_ext_gi (by rw [hl]; simp [commonP]) (fun k h0 h1 => ?_)
 have e : gi (commonP a b) k = (List.range (b.length + 1)).map fun j => ((lcs (a.drop k.toNat) (b.drop j) : Nat) : Int) := alGiRange ⟨h0, by omega⟩
 have hr := h.row k h0 (by omega)
 rw [e]
 refine list_ext_gi (by rw [hr]; simp) (fun l h2 h3 => ?_)
 rw [alGiRange ⟨h2, by omega⟩, h.yes k l h0 (by omega) h2 (by omega) (hp k l h0 (by omega) h2 (by omega))]
 rfl
theorem commonP_get {a b : List ByteArray} {i j : Int} (h0 : 0 ≤ i) (h1 : i ≤ a.length) (h2 : 0 ≤ j) (h3 : j ≤ b.length) : gi (gi (commonP a b) i) j = vLcs a b i j := by
 have e : gi (commonP a b) i = (List.range (b.length + 1)).map fun j => ((lcs (a.drop i.toNat) (b.drop j) : Nat) : Int) := alGiRange ⟨h0, by omega⟩
 rw [e, alGiRange ⟨h2, by omega⟩]; rfl
theorem commonP_len (a b : List ByteArray) : (commonP a b).length = a.length + 1 := by simp [commonP]
theorem commonP_row {a b : List ByteArray} {i : Int} (h0 : 0 ≤ i) (h1 : i ≤ a.length) : (gi (commonP a b) i).length = b.length + 1 := by
 have e : gi (commonP a b) i = (List.range (b.length + 1)).map fun j => ((lcs (a.drop i.toNat) (b.drop j) : Nat) : Int) := alGiRange ⟨h0, by omega⟩
 rw [e]; simp
theorem pcommon_ok (a : (List ByteArray)) (b : (List ByteArray)) (Q : (List (List Int)) → Prop) (hp0 : a.length ≤ 2000) (hp1 : b.length ≤ 2000) (h : Q (commonP a b)) : pcommon_vc a b Q := by
 refine ⟨by omega, ⟨⟨by omega, by omega⟩, by omega, by omega⟩, ?_⟩
 refine lfp2 _ (fun (t : List (List Int)) (x : Int) => 0 ≤ x ∧ x ≤ a.length + 1 ∧ t.length = a.length + 1 ∧ ∀ k : Int, 0 ≤ k → k < x → gi t k = List.replicate (b.length + 1) 0) (fun (_ : List (List Int)) (x : Int) => (a.length + 1 - x).toNat) (fun t x hs again hag => ?_) ⟨by omega, by omega, by simp, fun k h1 h2 => by omega⟩
 obtain ⟨h0, h1, h2, h3⟩ := hs
 have er : ((b.length : Int) + 1).toNat = b.length + 1 := by omega
 have el : (List.replicate (Int.toNat ((a.length : Int) + 1)) ([] : List Int)).length = a.length + 1 := by simp
 refine ⟨fun hlt => ⟨by omega, ⟨⟨by omega, by omega⟩, by omega, by omega⟩, by omega, by omega, hag _ _ ⟨by omega, by omega, by rw [si_length]; exact h2, fun k k0 k1 => ?_⟩ (by omega)⟩, fun hn => ⟨by omega, ?_⟩⟩
 · rw [gi_siP (by omega) _ k0]
   split
   · rw [er]
   · exact h3 k k0 (by omega)
 have start : TabI a b (fun k l => (a.length : Int) - 1 < k ∨ l = b.length) t := by
   refine ⟨h2, fun k k0 k1 => by rw [h3 k k0 (by omega)]; simp, fun k l k0 k1 l0 l1 hp => ?_⟩
   rw [h3 k k0 (by omega), gi_repZ]
   rcases hp with hp | hp
   · rw [show k = (a.length : Int) by omega, vLcs_end1]
   · rw [hp, vLcs_end2]
 refine lfp2 _ (fun (t : List (List Int)) (i : Int) => -1 ≤ i ∧ i < a.length ∧ TabI a b (fun k l => i < k ∨ l = b.length) t) (fun (_ : List (List Int)) (i : Int) => (i + 1).toNat) (fun t i hs again2 hag2 => ?_) ⟨by omega, by omega, start⟩
 obtain ⟨i0, i1, iT⟩ := hs
 refine ⟨fun hi => ⟨by omega, ?_⟩, fun hi => ?_⟩
 · refine lfp2 _ (fun (t : List (List Int)) (j : Int) => -1 ≤ j ∧ j < b.length ∧ TabI a b (fun k l => i < k ∨ l = b.length ∨ (k = i ∧ j < l)) t) (fun (_ : List (List Int)) (j : Int) => (j + 1).toNat) (fun t j hs again3 hag3 => ?_) ⟨by omega, by omega, ⟨iT.len, iT.row, fun k l k0 k1 l0 l1 hp => iT.yes k l k0 k1 l0 l1 (by omega)⟩⟩
   obtain ⟨j0, j1, jT⟩ := hs
   refine ⟨fun hj => ?_, fun hj => ⟨by omega, hag2 _ _ ⟨by omega, by omega, ⟨jT.len, jT.row, fun k l k0 k1 l0 l1 hp => jT.yes k l k0 k1 l0 l1 (by omega)⟩⟩ (by omega)⟩⟩
   have tl := jT.len
   have r0 := jT.row i (by omega) (by omega)
   have r1 := jT.row (i + 1) (by omega) (by omega)
   have v1 := jT.yes (i + 1) j (by omega) (by omega) (by omega) (by omega) (by omega)
   have v2 := jT.yes i (j + 1) (by omega) (by omega) (by omega) (by omega) (by omega)
   have v3 := jT.yes (i + 1) (j + 1) (by omega) (by omega) (by omega) (by omega) (by omega)
   have n3 := vLcs_nn a b (i + 1) (j + 1)
   have st := vLcs_step (a := a) (b := b) (i := i) (j := j) ⟨by omega, by omega⟩ ⟨by omega, by omega⟩
   refine ⟨by omega, by omega, by omega, by omega, by omega, by omega, by omega, ⟨by omega, by omega⟩, ⟨by omega, by omega⟩, fun he => ?_, fun hne => ⟨by omega, hag3 _ _ ⟨by omega, by omega, ?_⟩ (by omega)⟩⟩
   · rw [if_pos he] at st
     have T1 : TabI a b (fun k l => i < k ∨ l = b.length ∨ (k = i ∧ j < l)) (si t i (si (gi t i) j (gmax (gi (gi t (i + 1)) j) [gi (gi t i) (j + 1)]))) := jT.put ⟨by omega, by omega⟩ ⟨by omega, by omega⟩ (fun hq => by omega) (fun k l hq => .inl hq)
     have tl1 := T1.len
     have q0 := T1.row i (by omega) (by omega)
     have q1 := T1.row (i + 1) (by omega) (by omega)
     have w3 := T1.yes (i + 1) (j + 1) (by omega) (by omega) (by omega) (by omega) (by omega)
     have wij : gi (gi (si t i (si (gi t i) j (gmax (gi (gi t (i + 1)) j) [gi (gi t i) (j + 1)]))) i) j = gmax (gi (gi t (i + 1)) j) [gi (gi t i) (j + 1)] := by
       rw [gi_siP (by omega) _ (by omega), if_pos rfl, gi_siP (by omega) _ (by omega), if_pos rfl]
     refine ⟨by omega, by omega, by omega, by omega, by omega, by omega, by omega, by omega, hag3 _ _ ⟨by omega, by omega, T1.put ⟨by omega, by omega⟩ ⟨by omega, by omega⟩ (fun _ => ?_) (fun k l hq => by omega)⟩ (by omega)⟩
     rw [wij, w3, gmax2, gmax2, v1, v2, st]
   · rw [if_neg hne] at st
     refine jT.put ⟨by omega, by omega⟩ ⟨by omega, by omega⟩ (fun _ => ?_) (fun k l hq => by omega)
     have n1 := vLcs_nn a b (i + 1) j
     rw [gmax2, v1, v2, st]
     omega
 · have := iT.all (fun k l k0 _ _ _ => by omega)
   rw [this]; exact h
end Go.Lic
set_option linter.all false
namespace Go.Lic
open Go.Proofs Go.Sort
structure BldI (b : PatchBuilder) (i j : Int) : Prop where
 len : (b.hunks.length : Int) ≤ 3 * i
 ok : ∀ h ∈ b.hunks, OkH h ∧ h.n ≤ 100 + i
 d0 : 0 ≤ b.drop
 d1 : b.drop ≤ i
 alen : (b.add.length : Int) ≤ j
 asize : ∀ l ∈ b.add, l.size ≤ 100000
theorem BldI.okBl {b : PatchBuilder} {i j : Int} (h : BldI b i j) (hi : i ≤ 100) (hj : j ≤ 100) : okBl b :=
 ⟨by have := h.len; omega, fun x hx => (h.ok x hx).1, h.d0, by have := h.d1; omega, by have := h.alen; omega, h.asize⟩
theorem mem_si {α : Type} {l : List α} {i : Int} {v x : α} (h : x ∈ si l i v) : x ∈ l ∨ x = v := List.mem_or_eq_of_mem_set h
theorem BldI.keep {b : PatchBuilder} {i j : Int} (h : BldI b i j) (h0 : 0 ≤ i) (hi : i ≤ 100) (hj : j ≤ 100) {i' j' : Int} (hi' : i + 1 ≤ i') (hj' : 0 ≤ j') : BldI (keepB b 1) i' j' := by
 have hl := h.len; have hd := h.d1; have ha := h.alen; have d0 := h.d0
 have fl : ((zan b).hunks.length : Int) ≤ b.hunks.length + 2 := by
   unfold zan
   simp only [List.length_append]
   split <;> split <;> simp <;> omega
 have fo : ∀ x ∈ (zan b).hunks, OkH x ∧ x.n ≤ 100 + i := by
   intro x hx
   unfold zan at hx
   rcases List.mem_append.1 hx with hx | hx
   · split at hx
     · rcases List.mem_append.1 hx with hx | hx
       · exact h.ok x hx
       · rw [List.mem_singleton.1 hx]; exact ⟨⟨d0, by simp only; omega, by simp, by simp⟩, by simp only; omega⟩
     · exact h.ok x hx
   · split at hx
     · rw [List.mem_singleton.1 hx]; exact ⟨⟨by simp only; omega, by simp only; omega, by simp only; omega, h.asize⟩, by simp only; omega⟩
     · cases hx
 have e1 : (zan b).drop = 0 := rfl
 have e2 : (zan b).add = [] := rfl
 unfold keepB
 rw [if_neg (by decide)]
 split
 · next hc =>
   refine ⟨by simp only [si_length]; omega, fun x hx => ?_, by rw [e1]; exact Int.le_refl _, by rw [e1]; omega, by rw [e2]; simpa using hj', by rw [e2]; simp⟩
   rcases mem_si hx with hx | hx
   · exact ⟨(fo x hx).1, by have := (fo x hx).2; omega⟩
   · obtain ⟨o1, o2⟩ := fo _ (gi_mem (l := (zan b).hunks) (i := ((zan b).hunks.length : Int) - 1) ⟨by omega, by omega⟩)
     have n0 := o1.n0
     rw [hx]
     exact ⟨⟨by simp only; omega, by simp only; omega, o1.len, o1.size⟩, by simp only; omega⟩
 · refine ⟨by simp only [List.length_append, List.length_cons, List.length_nil]; omega, fun x hx => ?_, by rw [e1]; exact Int.le_refl _, by rw [e1]; omega, by rw [e2]; simpa using hj', by rw [e2]; simp⟩
   rcases List.mem_append.1 hx with hx | hx
   · exact ⟨(fo x hx).1, by have := (fo x hx).2; omega⟩
   · rw [List.mem_singleton.1 hx]; exact ⟨⟨by decide, by decide, by simp, by simp⟩, by simp only; omega⟩
theorem hit_iff {a b : List ByteArray} {left x y : Int} (hx : inL x a.length) (hy : inL y b.length) : hitP a b left x y ↔ gi a x = gi b y ∧ 1 + vLcs a b (x + 1) (y + 1) = left := by
 unfold hitP; rw [commonP_get (by omega) (by omega) (by omega) (by omega)]
theorem hit_ex {a b : List ByteArray} {i j : Int} (hi : 0 ≤ i) (hi2 : i ≤ a.length) (hj : 0 ≤ j) (hj2 : j ≤ b.length) (h : 0 < vLcs a b i j) : ∃ x y, i ≤ x ∧ x < a.length ∧ j ≤ y ∧ y < b.length ∧ hitP a b (vLcs a b i j) x y := by
 have h0 : 0 < lcs (a.drop i.toNat) (b.drop j.toNat) := by unfold vLcs at h; omega
 obtain ⟨p, q, hp, hq, e1, e2⟩ := lcs_find _ _ h0
 rw [List.length_drop] at hp hq
 have lx : inL (i + p) a.length := ⟨by omega, by omega⟩
 have ly : inL (j + q) b.length := ⟨by omega, by omega⟩
 refine ⟨i + p, j + q, by omega, by omega, by omega, by omega, (hit_iff lx ly).2 ⟨?_, ?_⟩⟩
 · rw [gi_lt lx, gi_lt ly]
   simp only [List.getElem_drop] at e1
   have k1 : (i + p).toNat = i.toNat + p := by omega
   have k2 : (j + q).toNat = j.toNat + q := by omega
   simp only [k1, k2]
   exact e1
 · unfold vLcs
   rw [List.drop_drop, List.drop_drop] at e2
   rw [show (i + p + 1).toNat = i.toNat + (p + 1) by omega, show (j + q + 1).toNat = j.toNat + (q + 1) by omega]
   omega
theorem pmake_ok (from_ : ByteArray) (to : ByteArray) (Q : Patch × Int → Prop) (hp0 : from_.size ≤ 1000) (hp1 : to.size ≤ 1000) (hp2 : (zaf from_).1.length ≤ 40) (hp3 : (zaf to).1.length ≤ 40) (h : Q (makeP from_ to)) : pmake_vc from_ to Q := by
 unfold makeP at h
 refine ⟨by omega, fun k => by rw [if_neg k] at h; exact h, fun k => ⟨by omega, fun k2 => by rw [if_pos k, if_neg k2] at h; exact h, fun k2 => ⟨by omega, by omega, ?_⟩⟩⟩
 rw [if_pos k, if_pos k2] at h
 have tb := (linesT_len to).2
 generalize ea : (zaf from_).1 = a at *
 generalize eb : (zaf to).1 = b at *
 refine ⟨by rw [commonP_len]; exact ⟨by omega, by omega⟩, by rw [commonP_row (by omega) (by omega)]; exact ⟨by omega, by omega⟩, ?_⟩
 have e0 : gi (gi (commonP a b) 0) 0 = vLcs a b 0 0 := commonP_get (by omega) (by omega) (by omega) (by omega)
 rw [e0]
 have e00 : (vLcs a b 0 0).toNat = lcs a b := by unfold vLcs; simp
 rw [← e00] at h
 have body : ∀ (xs : List ByteArray) (hs : List Hunk) (d i j left : Int), ((0 ≤ i ∧ i ≤ a.length) ∧ (0 ≤ j ∧ j ≤ b.length) ∧ left = vLcs a b i j ∧ buildL a b left.toNat i j ⟨hs, d, xs⟩ = buildL a b (vLcs a b 0 0).toNat 0 0 ⟨[], 0, []⟩ ∧ BldI ⟨hs, d, xs⟩ i j) → ∀ again, (∀ (xs' : List ByteArray) (hs' : List Hunk) (d' i' j' left' : Int), ((0 ≤ i' ∧ i' ≤ a.length) ∧ (0 ≤ j' ∧ j' ≤ b.length) ∧ left' = vLcs a b i' j' ∧ buildL a b left'.toNat i' j' ⟨hs', d', xs'⟩ = buildL a b (vLcs a b 0 0).toNat 0 0 ⟨[], 0, []⟩ ∧ BldI ⟨hs', d', xs'⟩ i' j') → left'.toNat < left.toNat → again (xs', hs', d', i', j', left')) → pmake_L1 from_ to Q again xs hs d i j left := by
   rintro xs hs d i j left ⟨⟨i0, i1⟩, ⟨j0, j1⟩, hl, hB, hI⟩ again hag
   have hnn := vLcs_nn a b i j
   have d0 := hI.d0; have d1 := hI.d1; have al := hI.alen; have ln := hI.len
   simp only at d0 d1 al ln
   unfold pmake_L1
   rw [ea, eb]
   refine ⟨fun hpos => ?_, fun hz => ?_⟩
   · obtain ⟨x0, y0, c1, c2, c3, c4, c5⟩ := hit_ex i0 i1 j0 j1 (by omega)
     rw [← hl] at c5
     refine lfp2 _ (fun (x _ : Int) => i ≤ x ∧ x ≤ x0 ∧ ∀ x' y', i ≤ x' → x' < x → j ≤ y' → y' < b.length → ¬ hitP a b left x' y') (fun (x _ : Int) => (a.length - x).toNat) (fun x y hs2 again2 hag2 => ?_) ⟨by omega, by omega, fun x' y' q1 q2 => by omega⟩
     obtain ⟨x1, x2, x3⟩ := hs2
     unfold pmake_L2
     refine lfp_of (fun y1 : Int => j ≤ y1 ∧ y1 ≤ b.length ∧ ∀ y', j ≤ y' → y' < y1 → ¬ hitP a b left x y') (fun y1 => (b.length - y1).toNat) (fun y1 hs3 again3 hag3 => ?_) ⟨by omega, by omega, fun y' q1 q2 => by omega⟩
     obtain ⟨z1, z2, z3⟩ := hs3
     unfold pmake_L3
     rw [ea, eb]
     refine ⟨fun hy => ?_, fun hy => ⟨by omega, hag2 _ _ ⟨by omega, ?_, fun x' y' q1 q2 q3 q4 => ?_⟩ (by omega)⟩⟩
     · have ec : gi (gi (commonP a b) (x + 1)) (y1 + 1) = vLcs a b (x + 1) (y1 + 1) := commonP_get (by omega) (by omega) (by omega) (by omega)
       have nn := vLcs_nn a b (x + 1) (y1 + 1)
       have hit := hit_iff (a := a) (b := b) (left := left) (x := x) (y := y1) ⟨by omega, by omega⟩ ⟨by omega, by omega⟩
       refine ⟨by omega, by omega, fun _ => ⟨by omega, by rw [commonP_len]; omega, by omega, by rw [commonP_row (by omega) (by omega)]; omega, by rw [ec]; omega⟩, fun ⟨g1, g2⟩ => ?_, fun hne => ⟨by omega, hag3 _ ⟨by omega, by omega, fun y' q1 q2 => ?_⟩ (by omega)⟩⟩
       · rw [ec] at g2
         have hN : NextP a b i j left (x, y1) := ⟨by simp only; omega, by simp only; omega, by simp only; omega, by simp only; omega, hit.2 ⟨g1, g2⟩, fun x' y' q1 q2 q3 q4 q5 => by
           rcases Int.lt_trichotomy x' x with q | q | q
           · exact absurd q5 (x3 x' y' q1 q q3 q4)
           · subst q
             right
             refine ⟨rfl, ?_⟩
             rcases Int.lt_or_le y' y1 with q' | q'
             · exact absurd q5 (z3 y' q3 q')
             · exact q'
           · left; simp only; omega⟩
         have en := nextP_eq hN
         have hS : inS j y1 b.length := ⟨by omega, by omega, by omega⟩
         have hlen := lsub_length (l := b) hS
         have hsz : ∀ z ∈ lsub b j y1, z.size ≤ 100000 := fun z hz => by
           have := tb z (List.mem_of_mem_take (List.mem_of_mem_drop hz)); omega
         have hB1 : BldI ⟨hs, d + (x - i), xs ++ lsub b j y1⟩ x y1 := by
           refine ⟨by simp only; omega, fun q hq => ⟨(hI.ok q hq).1, by have := (hI.ok q hq).2; omega⟩, by simp only; omega, by simp only; omega, by simp only [List.length_append]; omega, fun z hz => ?_⟩
           rcases List.mem_append.1 hz with hz | hz
           · exact hI.asize z hz
           · exact hsz z hz
         refine ⟨by omega, by omega, hS, ⟨by omega, by omega⟩, hB1.okBl (by omega) (by omega), by omega, by omega, by omega, by omega, by omega, hag _ _ _ _ _ _ ⟨⟨by omega, by omega⟩, ⟨by omega, by omega⟩, by omega, ?_, ?_⟩ (by omega)⟩
         · rw [← hB]
           obtain ⟨m, hm⟩ : ∃ m : Nat, left = ((m + 1 : Nat) : Int) := ⟨(left - 1).toNat, by omega⟩
           have t1 : left.toNat = m + 1 := by omega
           have t2 : (left - 1).toNat = m := by omega
           rw [t1, t2, buildL, ← hm, en]
         · exact hB1.keep (by omega) (by omega) (by omega) (by omega) (by omega)
       · rcases Int.lt_or_eq_of_le (show y' ≤ y1 by omega) with q | q
         · exact z3 y' q1 q
         · subst q
           intro hh
           obtain ⟨g1, g2⟩ := hit.1 hh
           rw [ec] at hne
           rcases hne with hne | hne
           · exact hne g1
           · exact hne g2
     · rcases Int.lt_or_eq_of_le x2 with q | q
       · omega
       · subst q
         exact absurd c5 (z3 y0 c3 (by omega))
     · rcases Int.lt_or_eq_of_le (show x' ≤ x by omega) with q | q
       · exact x3 x' y' q1 q q3 q4
       · subst q; exact z3 y' q3 (by omega)
   · have hS : inS j (b.length : Int) b.length := ⟨by omega, by omega, by omega⟩
     have hlen := lsub_length (l := b) hS
     have hz0 : left.toNat = 0 := by omega
     rw [hz0, buildL] at hB
     have hB1 : BldI ⟨hs, d + ((a.length : Int) - i), xs ++ lsub b j (b.length : Int)⟩ a.length b.length := by
       refine ⟨by simp only; omega, fun q hq => ⟨(hI.ok q hq).1, by have := (hI.ok q hq).2; omega⟩, by simp only; omega, by simp only; omega, by simp only [List.length_append]; omega, fun z hz => ?_⟩
       rcases List.mem_append.1 hz with hz | hz
       · exact hI.asize z hz
       · have := tb z (List.mem_of_mem_take (List.mem_of_mem_drop hz)); omega
     refine ⟨by omega, by omega, hS, ⟨by omega, by omega⟩, hB1.okBl (by omega) (by omega), rfl, ?_⟩
     simp only at hB
     rw [hB]; exact h
 exact lfp6 _ (fun (xs : List ByteArray) (hs : List Hunk) (d i j left : Int) => (0 ≤ i ∧ i ≤ a.length) ∧ (0 ≤ j ∧ j ≤ b.length) ∧ left = vLcs a b i j ∧ buildL a b left.toNat i j ⟨hs, d, xs⟩ = buildL a b (vLcs a b 0 0).toNat 0 0 ⟨[], 0, []⟩ ∧ BldI ⟨hs, d, xs⟩ i j) (fun (_ : List ByteArray) (_ : List Hunk) (_ _ _ left : Int) => left.toNat) body
   ⟨⟨by omega, by omega⟩, ⟨by omega, by omega⟩, rfl, rfl, ⟨by simp, by simp, by simp, by simp, by simp, by simp⟩⟩
end Go.Lic
