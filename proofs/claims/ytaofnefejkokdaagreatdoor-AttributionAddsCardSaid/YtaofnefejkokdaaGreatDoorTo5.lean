/-
  The conditions of functions of chapter 30 hold: the best cover, in the program and in the reference. No program in sight.
-/
import Derived.Test.YtaofnefejkokdaaGreatDoorTo4
set_option linter.all false
namespace Go.Lic
open Go.Proofs Go.Sort Go.Shelf

def negV (v : Val3) : Int × Int := (v.1, -v.2.1)
theorem cmpL_two (a b c d : Int) : 0 ≤ cmpL [a, b] [c, d] ↔ ¬ (a < c ∨ (a = c ∧ b < d)) := by
  simp only [cmpL, cmpI]
  by_cases h1 : a < c
  · simp [h1]
  · by_cases h2 : c < a
    · simp [h1, h2]; omega
    · have : a = c := by omega
      subst this
      by_cases h3 : b < d
      · simp [h3]
      · by_cases h4 : d < b
        · simp [h3, h4]
        · simp [h3, h4]
theorem better_take (rest : List Val3) (cur : Val3) (k : Nat) : negV (takeV rest cur k) = betterP (negV cur) (afterP (negV (rest.getD (k - 1) default)) k) := by
  unfold takeV betterP
  by_cases h : betV (cur.1, cur.2.1) ((candV rest k).1, (candV rest k).2.1) = true
  · rw [if_pos h, if_pos]
    rw [cmpL_two]
    rw [betV_iff] at h
    simp only [negV, afterP, candV] at h ⊢
    omega
  · rw [if_neg h]
    rw [betV_iff] at h
    by_cases h2 : 0 ≤ cmpL [(negV cur).1, (negV cur).2] [(afterP (negV (rest.getD (k - 1) default)) k).1, (afterP (negV (rest.getD (k - 1) default)) k).2]
    · rw [if_pos h2]
      rw [cmpL_two] at h2
      simp only [negV, afterP, candV, Prod.mk.injEq] at h h2 ⊢; omega
    · rw [if_neg h2]
      simp only [negV, afterP, candV]
      congr 1; omega
theorem valA_bd {L : Nat} (hl : 0 < L) : ∀ (n : Nat) (los : List Nat), los.length = n → Fit los → 0 ≤ (valA L los).1 ∧ (valA L los).1 ≤ los.length ∧ 0 ≤ (valA L los).2.1 ∧ (valA L los).2.1 ≤ los.length ∧ (valA L los).2.2 ≤ los.length := by
  intro n
  induction n using Nat.strongRecOn with
  | _ n ih =>
    intro los hn hf
    match los, hn, hf with
    | [], _, _ => have e : valA L [] = (0, 0, 0) := rfl; rw [e]; simp
    | lo :: los, hn, hf =>
      simp only [List.length_cons] at hn
      have C := stepV_chosen hl (dpL L los) lo
      rw [← valA_cons] at C
      by_cases hz : (valA L (lo :: los)).2.2 = 0
      · have e := C.len0 hz
        have e0 : (dpL L los).headD default = valA L los := rfl
        rw [e0] at e
        have i := ih los.length (by omega) los rfl hf.2
        simp only [val2, Prod.mk.injEq] at e
        simp only [List.length_cons]
        omega
      · obtain ⟨h1, h2⟩ := C.len1 hz
        have h3 := fromTo_mem.1 h1
        have h4 := hf.1
        rw [cand_eq (by omega) (by omega)] at h2
        have i := ih (los.drop ((valA L (lo :: los)).2.2 - 1)).length (by rw [List.length_drop]; omega) _ rfl (fit_drop _ hf.2)
        rw [List.length_drop] at i
        have e1 := congrArg (fun v : Val3 => v.1) h2
        have e2 := congrArg (fun v : Val3 => v.2.1) h2
        simp only at e1 e2
        simp only [List.length_cons]
        omega
theorem takes_succ {L lo k : Nat} (h1 : L ≤ k) (h2 : k ≤ lo) : (fromTo L lo).take (k + 1 - L) = (fromTo L lo).take (k - L) ++ [k] := by
  rw [show k + 1 - L = k - L + 1 by omega, List.take_succ]
  congr 1
  unfold fromTo
  rw [List.getElem?_map, List.getElem?_range (by omega)]
  simp; omega
theorem takes_all {L lo k : Nat} (h : lo < k) : (fromTo L lo).take (k - L) = fromTo L lo := by
  apply List.take_of_length_le
  simp [fromTo]; omega
/-- What is best so far, some lengths being over. -/
def curV (L : Nat) (los : List Nat) (lo k : Nat) : Val3 := ((fromTo L lo).take (k - L)).foldl (takeV (dpL L los)) ((valA L los).1, (valA L los).2.1, 0)
theorem curV_start (L : Nat) (los : List Nat) (lo : Nat) : curV L los lo L = ((valA L los).1, (valA L los).2.1, 0) := by unfold curV; simp
theorem curV_succ {L lo k : Nat} (los : List Nat) (h1 : L ≤ k) (h2 : k ≤ lo) : curV L los lo (k + 1) = takeV (dpL L los) (curV L los lo k) k := by
  unfold curV
  rw [takes_succ h1 h2, List.foldl_append]; rfl
theorem curV_end {L lo k : Nat} (los : List Nat) (h : lo < k) : curV L los lo k = valA L (lo :: los) := by
  unfold curV
  rw [takes_all h]; rfl
theorem cutL_skip : ∀ (s i : Nat) (l : List Nat), s ≤ l.length → cutL i s l = cutL (i + s) 0 (l.drop s)
  | 0, i, l, _ => by rw [List.drop_zero]; rfl
  | s + 1, i, [], h => by simp at h
  | s + 1, i, x :: l, h => by
    rw [cutL, cutL_skip s (i + 1) l (by simpa using h), List.drop_succ_cons]
    congr 1; omega
abbrev losA (c : Corpus) (t : Text) : List Nat := longsN c.texts t.words
theorem los_at {c : Corpus} {t : Text} {i : Int} (h : inL i t.words.length) : (losA c t).drop i.toNat = longW c.texts (t.words.drop i.toNat) :: (losA c t).drop (i + 1).toNat := by
  rw [drop_getD (by rw [longsN_len]; omega), longsN_get _ _ _ (by omega), show (i + 1).toNat = i.toNat + 1 by omega]
/-- The length that is chosen at a place. -/
def lenA (L : Nat) (c : Corpus) (t : Text) (i : Int) : Nat := (valA L ((losA c t).drop i.toNat)).2.2
theorem lens_at {L : Nat} {c : Corpus} {t : Text} {i : Int} (h : inL i t.words.length) : (lenL c t L).drop i.toNat = lenA L c t i :: (lenL c t L).drop (i + 1).toNat := by
  unfold lenL lenA
  rw [← List.map_drop, ← List.map_drop, dpL_drop _ _ _ (by rw [longsN_len]; omega), dpL_drop _ _ _ (by rw [longsN_len]; omega)]
  rw [los_at h, dpL, List.map_cons, valA_cons]
theorem lens_end {L : Nat} {c : Corpus} {t : Text} {i : Int} (h : i = t.words.length) : cutL i.toNat 0 ((lenL c t L).drop i.toNat) = [] := by
  unfold lenL
  rw [← List.map_drop, dpL_drop _ _ _ (by rw [longsN_len]; omega), List.drop_eq_nil_of_le (by rw [longsN_len]; omega)]
  rfl
theorem lenL_len {L : Nat} {c : Corpus} {t : Text} : (lenL c t L).length = t.words.length + 1 := by
  unfold lenL; rw [List.length_map, dpL_len, longsN_len]
/-- What is cut from a place on. -/
def restP (c : Corpus) (t : Text) (L : Nat) (i : Int) : List Piece := (cutL i.toNat 0 ((lenL c t L).drop i.toNat)).map (pieceF c t)
theorem restP_zero (c : Corpus) (t : Text) (L : Nat) : restP c t L 0 = piecesF c t L := rfl
theorem restP_end {c : Corpus} {t : Text} {L : Nat} {i : Int} (h : i = t.words.length) : restP c t L i = [] := by unfold restP; rw [lens_end h]; rfl
theorem restP_skip {c : Corpus} {t : Text} {L : Nat} {i : Int} (h : inL i t.words.length) (hz : lenA L c t i = 0) : restP c t L i = restP c t L (i + 1) := by
  unfold restP
  rw [lens_at h, hz, cutL, show (i + 1).toNat = i.toNat + 1 by omega]
theorem lenA_bd {L : Nat} (hl : 0 < L) {c : Corpus} {t : Text} {i : Int} (h : inL i t.words.length) : (lenA L c t i : Int) ≤ t.words.length - i := by
  have := (valA_bd hl _ ((losA c t).drop i.toNat) rfl (fit_drop _ (fit_longs _ _))).2.2.2.2
  rw [List.length_drop, longsN_len] at this
  unfold lenA; omega
theorem restP_take {c : Corpus} {t : Text} {L : Nat} (hl : 0 < L) {i : Int} (h : inL i t.words.length) (hz : lenA L c t i ≠ 0) :
    restP c t L i = ⟨i, i + lenA L c t i, (srcF c (lsub t.words i (i + lenA L c t i))).1, (srcF c (lsub t.words i (i + lenA L c t i))).2⟩ :: restP c t L (i + lenA L c t i) := by
  have hb := lenA_bd hl (c := c) h
  obtain ⟨m, hm⟩ : ∃ m, lenA L c t i = m + 1 := ⟨lenA L c t i - 1, by omega⟩
  unfold restP
  rw [lens_at h, hm, cutL, List.map_cons]
  rw [cutL_skip m _ _ (by rw [List.length_drop, lenL_len]; omega), List.drop_drop]
  rw [show (i + ((m + 1 : Nat) : Int)).toNat = i.toNat + 1 + m by omega, show (i + 1).toNat + m = i.toNat + 1 + m by omega]
  congr 1
  unfold pieceF
  simp only
  rw [lsub_eq _ h.1 (by omega), show (i + ((m + 1 : Nat) : Int) - i).toNat = m + 1 by omega]
  have e1 : ((i.toNat : Nat) : Int) = i := by omega
  have e2 : ((i.toNat + (m + 1) : Nat) : Int) = i + ((m + 1 : Nat) : Int) := by omega
  rw [e1, e2]
theorem aeq_two (a b c d : Int) : aeq 2 [a, b] [c, d] = true ↔ a = c ∧ b = d := by
  simp [aeq, List.range_succ, List.range_zero]
theorem chosenA {L : Nat} (hl : 0 < L) {c : Corpus} {t : Text} {i : Int} (h : inL i t.words.length) : Chosen (val2 (valA L ((losA c t).drop (i + 1).toNat))) (candV (dpL L ((losA c t).drop (i + 1).toNat))) (fromTo L (longW c.texts (t.words.drop i.toNat))) (valA L ((losA c t).drop i.toNat)) := by
  rw [los_at h]
  exact stepV_chosen hl _ _
theorem long_bd {c : Corpus} {t : Text} {i : Int} (h : inL i t.words.length) : ((longW c.texts (t.words.drop i.toNat) : Nat) : Int) ≤ t.words.length - i := by
  have := longW_le c.texts (t.words.drop i.toNat)
  rw [List.length_drop] at this
  omega
theorem rest_get {L : Nat} {c : Corpus} {t : Text} {i k : Int} (h : inL i t.words.length) (h1 : 1 ≤ k) (h2 : i + k ≤ t.words.length) : (dpL L ((losA c t).drop (i + 1).toNat)).getD (k.toNat - 1) default = valA L ((losA c t).drop (i + k).toNat) := by
  rw [dpL_get _ _ _ (by rw [List.length_drop, longsN_len]; omega), List.drop_drop]
  congr 2; omega
theorem val_bd {L : Nat} (hl : 0 < L) {c : Corpus} {t : Text} (i : Int) : 0 ≤ (valA L ((losA c t).drop i.toNat)).1 ∧ (valA L ((losA c t).drop i.toNat)).1 ≤ t.words.length ∧ 0 ≤ (valA L ((losA c t).drop i.toNat)).2.1 ∧ (valA L ((losA c t).drop i.toNat)).2.1 ≤ t.words.length := by
  have := valA_bd hl _ ((losA c t).drop i.toNat) rfl (fit_drop _ (fit_longs _ _))
  rw [List.length_drop, longsN_len] at this
  omega
/-- Whether a length brings about what is best. -/
theorem same_iff {L : Nat} {c : Corpus} {t : Text} {i k : Int} (h : inL i t.words.length) (h1 : 1 ≤ k) (h2 : i + k ≤ t.words.length) :
    aeq 2 [(afterP (negV (valA L ((losA c t).drop (i + k).toNat))) k).1, (afterP (negV (valA L ((losA c t).drop (i + k).toNat))) k).2] [(negV (valA L ((losA c t).drop i.toNat))).1, (negV (valA L ((losA c t).drop i.toNat))).2] = true ↔
      val2 (candV (dpL L ((losA c t).drop (i + 1).toNat)) k.toNat) = val2 (valA L ((losA c t).drop i.toNat)) := by
  rw [aeq_two]
  simp only [afterP, negV, val2, candV, rest_get h h1 h2, Prod.mk.injEq]
  omega
/-- The last length that brings about what is best is the one that is chosen. -/
theorem last_len {L : Nat} (hl : 0 < L) {c : Corpus} {t : Text} {i k1 : Int} (h : inL i t.words.length) (hk : k1 ≤ longW c.texts (t.words.drop i.toNat)) (h0 : 0 ≤ k1)
    (hno : ∀ k : Int, k1 < k → k ≤ longW c.texts (t.words.drop i.toNat) → (L : Int) ≤ k → val2 (candV (dpL L ((losA c t).drop (i + 1).toNat)) k.toNat) ≠ val2 (valA L ((losA c t).drop i.toNat))) :
    (k1 < L → lenA L c t i = 0) ∧ ((L : Int) ≤ k1 → val2 (candV (dpL L ((losA c t).drop (i + 1).toNat)) k1.toNat) = val2 (valA L ((losA c t).drop i.toNat)) → (lenA L c t i : Int) = k1) := by
  have C := chosenA hl (c := c) h
  have at_ : lenA L c t i ≠ 0 → L ≤ lenA L c t i ∧ lenA L c t i ≤ longW c.texts (t.words.drop i.toNat) ∧ val2 (candV (dpL L ((losA c t).drop (i + 1).toNat)) (lenA L c t i)) = val2 (valA L ((losA c t).drop i.toNat)) := fun hz => by
    obtain ⟨h1, h2⟩ := C.len1 hz
    have h3 := fromTo_mem.1 h1
    exact ⟨h3.1, h3.2, congrArg val2 h2.symm⟩
  constructor
  · intro hlt
    apply Classical.byContradiction
    intro hz
    obtain ⟨a1, a2, a3⟩ := at_ hz
    exact hno (lenA L c t i) (by omega) (by omega) (by omega) (by simpa using a3)
  · intro hge he
    have hk1 : k1.toNat ∈ fromTo L (longW c.texts (t.words.drop i.toNat)) := fromTo_mem.2 ⟨by omega, by omega⟩
    have hle : ¬ lenA L c t i < k1.toNat := fun hlt => by
      have := C.last _ hk1 hlt
      rw [he, betV_iff] at this
      omega
    by_cases hz : lenA L c t i = 0
    · omega
    · obtain ⟨a1, a2, a3⟩ := at_ hz
      apply Classical.byContradiction
      intro hne
      exact hno (lenA L c t i) (by omega) (by omega) (by omega) (by simpa using a3)
theorem gi_repP {n : Nat} {i : Int} : gi (List.replicate n ((0 : Int), (0 : Int))) i = (0, 0) := by
  unfold gi
  rw [List.getD_eq_getElem?_getD, List.getElem?_replicate]
  split <;> rfl
theorem valA_nil {L : Nat} {c : Corpus} {t : Text} {j : Int} (h : j = t.words.length) : valA L ((losA c t).drop j.toNat) = (0, 0, 0) := by
  rw [List.drop_eq_nil_of_le (by rw [longsN_len]; omega)]; rfl
theorem valA_at {L : Nat} {c : Corpus} {t : Text} {i : Int} (h : inL i t.words.length) {k : Nat} (hk : longW c.texts (t.words.drop i.toNat) < k) : curV L ((losA c t).drop (i + 1).toNat) (longW c.texts (t.words.drop i.toNat)) k = valA L ((losA c t).drop i.toNat) := by
  rw [curV_end _ hk, los_at h]
theorem tof_ok (c : Corpus) (t : Text) (least : Int) (Q : Attribution × Int → Prop) (hp0 : okC c) (hp1 : okT t) (h : Q (attrF c t least)) : tof_vc c t least Q := by
  unfold attrF at h
  have hcl := hp0.1.1; have htl := hp1.2.1
  have hnoA : (Attribution.mk ByteArray.empty []) = noA := rfl
  rw [show (tof_vc c t least Q) = _ from rfl]
  refine ⟨hp0, hp1, fun hb => ?_, fun hb => ⟨fun hl => ?_, fun hl => ?_⟩⟩
  · rcases rightA_split (c := c) (t := t) (least := least) with ⟨_, e⟩ | ⟨h1, _⟩ | ⟨h1, _⟩
    · rw [e] at h; exact h
    · rw [hb] at h1; cases h1
    · rw [hb] at h1; cases h1
  · rcases rightA_split (c := c) (t := t) (least := least) with ⟨h1, _⟩ | ⟨_, _, e⟩ | ⟨_, h1, h2, _⟩
    · rw [hb] at h1; cases h1
    · rw [e] at h; exact h
    · omega
  have e : rightA c t least = 0 := by
    rcases rightA_split (c := c) (t := t) (least := least) with ⟨h1, _⟩ | ⟨_, h1, _⟩ | ⟨_, _, _, e⟩
    · rw [hb] at h1; cases h1
    · omega
    · exact e
  rw [e, if_pos rfl] at h
  have hL : 0 < least.toNat := by omega
  have hLi : ((least.toNat : Nat) : Int) = least := by omega
  generalize hLd : least.toNat = L at h hL hLi
  refine ⟨hp0, hp1, by omega, ⟨by omega, by omega, by omega⟩, by omega, (fun s => -1 ≤ s.2 ∧ s.2 ≤ (t.words.length : Int) - 1 ∧ (s.1.length : Int) = t.words.length + 1 ∧ ∀ j : Int, s.2 < j → j ≤ t.words.length → gi s.1 j = negV (valA L ((losA c t).drop j.toNat))), ⟨by simp only; omega, by simp only; omega, by simp only [List.length_replicate]; omega, fun j k0 k1 => ?_⟩, ?_⟩
  · simp only at k0
    rw [gi_repP, valA_nil (by omega)]; rfl
  rintro ⟨xs, ix⟩ ⟨j0, j1, j2, j3⟩
  simp only at j0 j1 j2 j3 ⊢
  refine ⟨fun hix => ?_, fun hn => ?_⟩
  · have hixl : inL ix t.words.length := by omega
    have hlg := longAF_gi (c := c) hixl
    have hlb := long_bd (c := c) hixl
    have hlal : (longAF c t).length = t.words.length := by simp [longAF, longsN_len]
    refine ⟨by omega, by omega, by omega, ?_⟩
    refine lfp2 (tof_L2 c t ix _) (fun xs1 k => least ≤ k ∧ (k ≤ longW c.texts (t.words.drop ix.toNat) + 1 ∨ k = least) ∧ (xs1.length : Int) = t.words.length + 1 ∧ (∀ j : Int, ix < j → j ≤ t.words.length → gi xs1 j = negV (valA L ((losA c t).drop j.toNat))) ∧ gi xs1 ix = negV (curV L ((losA c t).drop (ix + 1).toNat) (longW c.texts (t.words.drop ix.toNat)) k.toNat))
      (fun _ k => (longW c.texts (t.words.drop ix.toNat) + 1 - k).toNat) (fun xs1 k hst again11 hag11 => ?_) ⟨by omega, .inr rfl, by rw [si_length]; exact j2, fun j k0 k1 => ?_, ?_⟩
    · obtain ⟨g0, g1, g2, g3, g4⟩ := hst
      refine ⟨by omega, fun hle => ?_, fun hgt => ⟨by omega, by omega, g2, fun j k0 k1 => ?_⟩⟩
      · rw [hlg] at hle
        have hv := val_bd hL (c := c) (t := t) (ix + k)
        have e1 := g3 (ix + k) (by omega) (by omega)
        have hxl : inL ix xs1.length := by omega
        rw [e1]
        simp only [negV]
        refine ⟨by omega, by omega, by omega, by omega, by omega, by omega, hag11 _ _ ⟨by omega, .inl (by omega), by rw [si_length]; exact g2, fun j k0 k1 => ?_, ?_⟩ (by omega)⟩
        · rw [gi_siA hxl _ (by omega), if_neg (by omega)]; exact g3 j k0 k1
        · rw [gi_siA hxl _ (by omega), if_pos rfl, g4, show (k + 1).toNat = k.toNat + 1 by omega, curV_succ _ (by omega) (by omega), better_take, rest_get hixl (by omega) (by omega), show ((k.toNat : Nat) : Int) = k by omega]; rfl
      · simp only at k0 ⊢
        rw [hlg] at hgt
        by_cases hj : j = ix
        · subst hj
          rw [g4, valA_at hixl (by omega)]
        · exact g3 j (by omega) k1
    · rw [gi_siA (by omega) _ (by omega), if_neg (by omega)]; exact j3 j k0 k1
    · rw [gi_siA (by omega) _ (by omega), if_pos rfl, j3 (ix + 1) (by omega) (by omega), hLd, curV_start]; rfl
  · have hxs : ∀ j : Int, 0 ≤ j → j ≤ t.words.length → gi xs j = negV (valA L ((losA c t).drop j.toNat)) := fun j k0 k1 => j3 j (by omega) k1
    have hlal : (longAF c t).length = t.words.length := by simp [longAF, longsN_len]
    refine lfp2 (tof_L3 c t least xs Q) (fun ps i => 0 ≤ i ∧ i ≤ t.words.length ∧ (ps.length : Int) ≤ i ∧ ps ++ restP c t L i = piecesF c t L) (fun _ i => (t.words.length - i).toNat) (fun ps i hst again15 hag15 => ?_) ⟨by omega, by omega, by simp, by rw [restP_zero]; rfl⟩
    obtain ⟨g0, g1, g2, g3⟩ := hst
    refine ⟨fun hlt => ?_, fun hn2 => ?_⟩
    · have hil : inL i t.words.length := by omega
      have hlg := longAF_gi (c := c) hil
      have hlb := long_bd (c := c) hil
      refine ⟨by omega, ?_⟩
      refine lfp_of (fun k1 : Int => 0 ≤ k1 ∧ k1 ≤ longW c.texts (t.words.drop i.toNat) ∧ ∀ k : Int, k1 < k → k ≤ longW c.texts (t.words.drop i.toNat) → (L : Int) ≤ k → val2 (candV (dpL L ((losA c t).drop (i + 1).toNat)) k.toNat) ≠ val2 (valA L ((losA c t).drop i.toNat))) (fun k1 => k1.toNat) (fun k1 hst again17 hag17 => ?_) ⟨by omega, by omega, fun k a b => by omega⟩
      obtain ⟨q0, q1, q2⟩ := hst
      obtain ⟨l1, l2⟩ := last_len hL hil q1 q0 q2
      have hsame : k1 ≥ least → (aeq 2 [(afterP (gi xs (i + k1)) k1).1, (afterP (gi xs (i + k1)) k1).2] [(gi xs i).1, (gi xs i).2] = true ↔ val2 (candV (dpL L ((losA c t).drop (i + 1).toNat)) k1.toNat) = val2 (valA L ((losA c t).drop i.toNat))) := fun hge => by
        rw [hxs (i + k1) (by omega) (by omega), hxs i (by omega) (by omega)]
        exact same_iff hil (by omega) (by omega)
      refine ⟨fun hge => ?_, fun hb => ⟨by omega, hag17 _ ⟨by omega, by omega, fun k k0 k2 k3 => ?_⟩ (by omega)⟩, fun hg => ⟨fun hlt2 => ⟨by omega, hag15 _ _ ⟨by omega, by omega, by omega, ?_⟩ (by omega)⟩, fun hge => ?_⟩⟩
      · have hv := val_bd hL (c := c) (t := t) (i + k1)
        rw [hxs (i + k1) (by omega) (by omega)]
        simp only [negV]
        exact ⟨by omega, by omega, by omega, by omega, by omega⟩
      · rcases Int.lt_or_eq_of_le (show k1 ≤ k by omega) with hlt2 | rfl
        · exact q2 k hlt2 k2 k3
        · intro he
          rw [(hsame hb.1).2 he] at hb; cases hb.2
      · rw [← restP_skip hil (l1 (by omega))]; exact g3
      · have hek : aeq 2 [(afterP (gi xs (i + k1)) k1).1, (afterP (gi xs (i + k1)) k1).2] [(gi xs i).1, (gi xs i).2] = true := by
          rcases hg with hg | hg
          · omega
          · exact hg
        have hlen := l2 (by omega) ((hsame (by omega)).1 hek)
        have htk := restP_take hL (c := c) hil (by omega)
        rw [hlen] at htk
        have hs : inS i (i + k1) t.words.length := by omega
        have hsl := lsub_length hs
        refine ⟨by omega, hs, hp0, by omega, by omega, ⟨by simp only [List.length_append, List.length_singleton]; omega, by simp only [List.length_append, List.length_singleton]; omega⟩, by omega, hag15 _ _ ⟨by omega, by omega, by simp only [List.length_append, List.length_singleton]; omega, ?_⟩ (by omega)⟩
        rw [htk] at g3
        rw [← g3]; simp
    · rw [restP_end (by omega), List.append_nil] at g3
      rw [g3]; exact h
end Go.Lic
