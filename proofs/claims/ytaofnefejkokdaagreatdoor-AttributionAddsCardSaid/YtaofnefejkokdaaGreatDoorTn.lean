/-
  The conditions of functions of chapter 26 hold: what is found, what is near. No program in sight.
-/
import Derived.Test.YtaofnefejkokdaaGreatDoorCo3
import Derived.Test.YtaofnefejkokdaaGreatDoorTm
set_option linter.all false
namespace Go.Lic
open Go.Proofs Go.Sort Go.Shelf

theorem c26fewt_ok (l : (List Text)) (Q : Bool → Prop)  (h : Q (fewTs l)) : c26fewt_vc l Q := by
  unfold fewTs at h
  refine ⟨fun hb => by rw [decide_eq_false (by omega)] at h; exact h, fun hg => ?_⟩
  rw [decide_eq_true (by omega), Bool.true_and] at h
  refine lfp_of (fun x : Int => 0 ≤ x ∧ x ≤ l.length ∧ (l.drop x.toNat).all (fun t => fewW t.words && decide (t.path.size ≤ 200)) = l.all (fun t => fewW t.words && decide (t.path.size ≤ 200))) (fun x => (l.length - x).toNat) (fun x hst again hag => ?_) ⟨by omega, by omega, rfl⟩
  obtain ⟨h0, h1, h2⟩ := hst
  refine ⟨fun hlt => ?_, fun hn => ?_⟩
  · rw [drop_gi (by omega), List.all_cons] at h2
    refine ⟨by omega, fun hb => ?_, fun hs => ⟨by omega, hag _ ⟨by omega, by omega, ?_⟩ (by omega)⟩⟩
    · have e : (fewW (gi l x).words && decide ((gi l x).path.size ≤ 200)) = false := by
        rcases hb with hb | hb
        · rw [hb, Bool.false_and]
        · rw [decide_eq_false (by omega), Bool.and_false]
      rw [e, Bool.false_and] at h2
      rw [← h2] at h; exact h
    · rw [hs.1, decide_eq_true (by omega), Bool.true_and, Bool.true_and] at h2
      exact h2
  · rw [drop_end hn] at h2
    rw [← h2] at h; exact h
theorem c26few_ok (c : Corpus) (Q : Bool → Prop)  (h : Q (fewC c)) : c26few_vc c Q := by
  unfold fewC at h
  have e : decide ((c.posts.length : Int) ≤ 300) = decide (c.posts.length ≤ 300) := decide_eq_decide.2 (by omega)
  unfold c26few_vc
  rw [e]; exact h

/-! how many fingerprints two texts share -/
/-! sorting by insertion -/
/-! maps -/
/-! what is near, by a stable sort -/
theorem ixInt_ok (s_ : (List Int)) (v : Int) (Q : Int → Prop) (hp0 : s_.length ≤ 9223372036854775807) (h : Q ((idxOf (fun z_ => decide (z_ = v)) s_))) : ixInt_vc s_ v Q := by
  refine lfp_of (fun x : Int => 0 ≤ x ∧ x ≤ s_.length ∧ ∀ j : Int, 0 ≤ j → j < x → ¬ gi s_ j = v) (fun x => (s_.length - x).toNat) (fun x hst again hag => ?_) ⟨by omega, by omega, fun j _ _ => by omega⟩
  obtain ⟨h0, h1, h2⟩ := hst
  refine ⟨fun hlt => ⟨by omega, fun hp => ?_, fun hp => ⟨by omega, hag _ ⟨by omega, by omega, fun j hj hj2 => ?_⟩ (by omega)⟩⟩, fun hn => ?_⟩
  · rw [idx_some (p := fun z_ : Int => decide (z_ = v)) (l := s_) (x := x) (by omega) (decide_eq_true hp.symm) (fun j hj hj2 => decide_eq_false (h2 j hj hj2))] at h; exact h
  · by_cases e : j = x
    · rw [e]; exact fun k => hp k.symm
    · exact h2 j hj (by omega)
  · rw [idx_none (p := fun z_ : Int => decide (z_ = v)) (l := s_) (fun j hj hj2 => decide_eq_false (h2 j hj (by omega)))] at h; exact h
end Go.Lic

set_option linter.all false
namespace Go.Lic
open Go.Sort

theorem gi_cons {α : Type} [Inhabited α] (t : α) (l : List α) (j : Nat) : gi (t :: l) ((j + 1 : Nat) : Int) = gi l (j : Int) := by
  unfold gi
  rw [show (((j + 1 : Nat) : Int)).toNat = j + 1 by omega, show ((j : Int)).toNat = j by omega]
  simp

/-! runs -/
theorem common_le : ∀ a b : List Lexeme, commonW a b ≤ a.length ∧ commonW a b ≤ b.length
  | [], b => by simp [commonW]
  | _ :: _, [] => by simp [commonW]
  | x :: a, y :: b => by
    rw [commonW]
    have := common_le a b
    split <;> simp <;> omega
theorem common_takeR : ∀ (a b : List Lexeme) (n : Nat), commonW a (b.take n) = min (commonW a b) n
  | [], b, n => by simp [commonW]
  | x :: a, [], n => by simp [commonW]
  | x :: a, y :: b, 0 => by simp [commonW]
  | x :: a, y :: b, n + 1 => by
    rw [List.take_succ_cons, commonW, commonW]
    split
    · rw [common_takeR a b n]; omega
    · omega
theorem runMax_ge (a : List Lexeme) : ∀ (l : List Lexeme) (j : Nat), commonW (l.drop j) a ≤ runMax a l
  | [], j => by simp [commonW]
  | x :: l, 0 => by rw [runMax]; simp only [List.drop_zero]; omega
  | x :: l, j + 1 => by
    rw [runMax, List.drop_succ_cons]
    have := runMax_ge a l j
    omega
theorem runMax_ex (a : List Lexeme) : ∀ l : List Lexeme, 0 < runMax a l → ∃ j, j < l.length ∧ commonW (l.drop j) a = runMax a l
  | [], h => by simp [runMax] at h
  | x :: l, h => by
    rw [runMax] at h ⊢
    rcases Nat.le_total (commonW (x :: l) a) (runMax a l) with h1 | h1
    · obtain ⟨j, hj, e⟩ := runMax_ex a l (by omega)
      exact ⟨j + 1, by simpa using hj, by rw [List.drop_succ_cons, e]; omega⟩
    · exact ⟨0, by simp, by rw [List.drop_zero]; omega⟩
theorem runMax_le (a l : List Lexeme) : runMax a l ≤ a.length := by
  rcases Nat.eq_zero_or_pos (runMax a l) with h | h
  · omega
  · obtain ⟨j, _, e⟩ := runMax_ex a l h
    have := (common_le (l.drop j) a).2
    omega
theorem foldmax_eq {α : Type} (f : α → Nat) : ∀ (l : List α) (m : Nat), m ≤ l.foldl (fun m t => max m (f t)) m ∧ (∀ t ∈ l, f t ≤ l.foldl (fun m t => max m (f t)) m) ∧ (l.foldl (fun m t => max m (f t)) m = m ∨ ∃ t ∈ l, l.foldl (fun m t => max m (f t)) m = f t)
  | [], m => by simp
  | t :: l, m => by
    obtain ⟨h1, h2, h3⟩ := foldmax_eq f l (max m (f t))
    rw [List.foldl_cons]
    refine ⟨by omega, fun u hu => ?_, ?_⟩
    · rcases List.mem_cons.1 hu with rfl | hu
      · omega
      · exact h2 u hu
    · rcases h3 with h3 | ⟨u, hu, h3⟩
      · rcases Nat.le_total m (f t) with h4 | h4
        · right; exact ⟨t, by simp, by omega⟩
        · left; omega
      · right; exact ⟨u, by simp [hu], h3⟩
theorem longW_ge {ts : List Text} {a : List Lexeme} {t : Text} (h : t ∈ ts) : runMax a t.words ≤ longW ts a := (foldmax_eq (fun t : Text => runMax a t.words) ts 0).2.1 t h
theorem longW_ex {ts : List Text} {a : List Lexeme} (h : 0 < longW ts a) : ∃ t ∈ ts, longW ts a = runMax a t.words := by
  rcases (foldmax_eq (fun t : Text => runMax a t.words) ts 0).2.2 with h1 | h1
  · unfold longW at h; omega
  · exact h1
theorem longW_le (ts : List Text) (a : List Lexeme) : longW ts a ≤ a.length := by
  rcases Nat.eq_zero_or_pos (longW ts a) with h | h
  · omega
  · obtain ⟨t, _, e⟩ := longW_ex h
    rw [e]; exact runMax_le _ _
@[simp] theorem longsN_len (ts : List Text) : ∀ l : List Lexeme, (longsN ts l).length = l.length
  | [] => rfl
  | w :: l => by simp [longsN, longsN_len ts l]
theorem longsN_get (ts : List Text) : ∀ (l : List Lexeme) (i : Nat), i < l.length → (longsN ts l).getD i 0 = longW ts (l.drop i)
  | [], i, h => by simp at h
  | w :: l, 0, h => by simp [longsN]
  | w :: l, i + 1, h => by
    rw [longsN, List.drop_succ_cons, List.getD_cons_succ, longsN_get ts l i (by simpa using h)]

/-! where words stand -/
theorem srcW_some {a : List Lexeme} : ∀ {l : List Lexeme} {k : Nat}, srcW a l = some k → k < l.length ∧ commonW (l.drop k) a = a.length ∧ ∀ j, j < k → commonW (l.drop j) a ≠ a.length
  | [], k, h => by simp [srcW] at h
  | x :: l, k, h => by
    rw [srcW] at h
    split at h
    · next e =>
      obtain rfl := Option.some.inj h
      exact ⟨by simp, by simpa using e, fun j hj => by omega⟩
    · next e =>
      obtain ⟨m, hm, rfl⟩ := Option.map_eq_some_iff.1 h
      obtain ⟨h1, h2, h3⟩ := srcW_some hm
      refine ⟨by simpa using h1, by simpa using h2, fun j hj => ?_⟩
      cases j with
      | zero => simpa using e
      | succ j => simpa using h3 j (by omega)
theorem srcW_none {a : List Lexeme} : ∀ {l : List Lexeme}, srcW a l = none → ∀ j, j < l.length → commonW (l.drop j) a ≠ a.length
  | [], _, j, hj => by simp at hj
  | x :: l, h, j, hj => by
    rw [srcW] at h
    split at h
    · cases h
    · next e =>
      rw [Option.map_eq_none_iff] at h
      cases j with
      | zero => simpa using e
      | succ j => simpa using srcW_none h j (by simpa using hj)
theorem srcT_some {a : List Lexeme} : ∀ {ts : List Text} {p : Nat × Nat}, srcT a ts = some p → ∃ h : p.1 < ts.length, srcW a (ts[p.1]).words = some p.2 ∧ ∀ i (hi : i < p.1), srcW a (ts[i]'(by omega)).words = none
  | [], p, h => by simp [srcT] at h
  | t :: ts, p, h => by
    rw [srcT] at h
    split at h
    · next k e =>
      obtain rfl := Option.some.inj h
      exact ⟨by simp, by simpa using e, fun i hi => by simp at hi⟩
    · next e =>
      obtain ⟨q, hq, rfl⟩ := Option.map_eq_some_iff.1 h
      obtain ⟨h1, h2, h3⟩ := srcT_some hq
      refine ⟨by simpa using h1, by simpa using h2, fun i hi => ?_⟩
      cases i with
      | zero => simpa using e
      | succ i => simpa using h3 i (by simpa using hi)
theorem srcT_none {a : List Lexeme} : ∀ {ts : List Text}, srcT a ts = none → ∀ t ∈ ts, srcW a t.words = none
  | [], _, t, ht => by cases ht
  | u :: ts, h, t, ht => by
    rw [srcT] at h
    split at h
    · cases h
    · next e =>
      rw [Option.map_eq_none_iff] at h
      rcases List.mem_cons.1 ht with rfl | ht
      · exact e
      · exact srcT_none h t ht
theorem srcT_ex {ts : List Text} {w : List Lexeme} {m : Nat} (h0 : 0 < m) (h : m ≤ longW ts w) : ∃ p, srcT (w.take m) ts = some p := by
  cases e : srcT (w.take m) ts with
  | some p => exact ⟨p, rfl⟩
  | none =>
    exfalso
    obtain ⟨t, ht, e1⟩ := longW_ex (a := w) (ts := ts) (by omega)
    obtain ⟨j, hj, e2⟩ := runMax_ex w t.words (by omega)
    refine srcW_none (srcT_none e t ht) j hj ?_
    have := longW_le ts w
    rw [common_takeR, List.length_take]
    omega

/-! values -/
abbrev Val3 := Int × Int × Nat
abbrev val2 (v : Val3) : Int × Int := (v.1, v.2.1)
theorem betV_iff (a b : Int × Int) : betV a b = true ↔ b.1 < a.1 ∨ (a.1 = b.1 ∧ a.2 < b.2) := by
  unfold betV; simp
def valA (least : Nat) (los : List Nat) : Val3 := (dpL least los).headD default
theorem dpL_len (least : Nat) : ∀ los : List Nat, (dpL least los).length = los.length + 1
  | [] => rfl
  | lo :: los => by simp [dpL, dpL_len least los]
theorem dpL_get (least : Nat) : ∀ (los : List Nat) (k : Nat), k ≤ los.length → (dpL least los).getD k default = valA least (los.drop k)
  | [], 0, _ => rfl
  | [], k + 1, h => by simp at h
  | lo :: los, 0, _ => rfl
  | lo :: los, k + 1, h => by
    rw [dpL, List.getD_cons_succ, List.drop_succ_cons]
    exact dpL_get least los k (by simpa using h)
theorem dpL_drop (least : Nat) : ∀ (los : List Nat) (k : Nat), k ≤ los.length → (dpL least los).drop k = dpL least (los.drop k)
  | [], 0, _ => rfl
  | [], k + 1, h => by simp at h
  | lo :: los, 0, _ => rfl
  | lo :: los, k + 1, h => by
    rw [dpL, List.drop_succ_cons, List.drop_succ_cons]
    exact dpL_drop least los k (by simpa using h)
/-- What is known behind the choice among some lengths. -/
structure Chosen (c0 : Int × Int) (cd : Nat → Val3) (ks : List Nat) (v : Val3) : Prop where
  ge0 : ¬ betV c0 (val2 v) = true
  gek : ∀ k ∈ ks, ¬ betV (val2 (cd k)) (val2 v) = true
  len0 : v.2.2 = 0 → val2 v = c0
  len1 : v.2.2 ≠ 0 → v.2.2 ∈ ks ∧ v = cd v.2.2
  last : ∀ k ∈ ks, v.2.2 < k → betV (val2 v) (val2 (cd k)) = true
theorem candV_len (rest : List Val3) (k : Nat) : (candV rest k).2.2 = k := rfl
theorem chosen_fold (rest : List Val3) (c0 : Int × Int) : ∀ (ks done : List Nat) (v : Val3), (∀ k ∈ ks, 0 < k) → (∀ a ∈ done, ∀ k ∈ ks, a < k) → ks.Pairwise (· < ·) → Chosen c0 (candV rest) done v → Chosen c0 (candV rest) (done ++ ks) (ks.foldl (takeV rest) v)
  | [], done, v, _, _, _, h => by simpa using h
  | k :: ks, done, v, hp, hd, hs, h => by
    obtain ⟨hs1, hs2⟩ := List.pairwise_cons.1 hs
    rw [List.foldl_cons, show done ++ k :: ks = (done ++ [k]) ++ ks by simp]
    refine chosen_fold rest c0 ks (done ++ [k]) _ (fun a ha => hp a (by simp [ha])) (fun a ha b hb => ?_) hs2 ?_
    · rcases List.mem_append.1 ha with ha | ha
      · exact hd a ha b (by simp [hb])
      · rw [List.mem_singleton.1 ha]; exact hs1 b hb
    · unfold takeV
      split
      · next hb =>
        have hb : betV (val2 v) (val2 (candV rest k)) = true := hb
        refine ⟨h.ge0, fun a ha => ?_, h.len0, fun hn => ⟨List.mem_append.2 (.inl (h.len1 hn).1), (h.len1 hn).2⟩, fun a ha hl => ?_⟩
        · rcases List.mem_append.1 ha with ha | ha
          · exact h.gek a ha
          · rw [List.mem_singleton.1 ha]
            rw [betV_iff] at hb ⊢
            omega
        · rcases List.mem_append.1 ha with ha | ha
          · exact h.last a ha hl
          · rw [List.mem_singleton.1 ha]; exact hb
      · next hb =>
        have hb : ¬ betV (val2 v) (val2 (candV rest k)) = true := hb
        have h0 := h.ge0
        refine ⟨?_, fun a ha => ?_, fun hz => ?_, fun _ => ⟨by rw [candV_len]; simp, by rw [candV_len]⟩, fun a ha hl => ?_⟩
        · rw [betV_iff] at h0 hb ⊢
          simp only [val2] at h0 hb ⊢
          omega
        · rcases List.mem_append.1 ha with ha | ha
          · have h1 := h.gek a ha
            rw [betV_iff] at h1 hb ⊢
            simp only [val2] at h1 hb ⊢
            omega
          · rw [List.mem_singleton.1 ha, betV_iff]; omega
        · rw [candV_len] at hz
          have := hp k (by simp)
          omega
        · rw [candV_len] at hl
          rcases List.mem_append.1 ha with ha | ha
          · have := hd a ha k (by simp); omega
          · rw [List.mem_singleton.1 ha] at hl; omega
theorem fromTo_mem {least lo k : Nat} : k ∈ fromTo least lo ↔ least ≤ k ∧ k ≤ lo := by
  unfold fromTo
  rw [List.mem_map]
  constructor
  · rintro ⟨a, ha, rfl⟩
    have := List.mem_range.1 ha
    omega
  · rintro ⟨h1, h2⟩
    exact ⟨k - least, List.mem_range.2 (by omega), by omega⟩
theorem fromTo_pw (least lo : Nat) : (fromTo least lo).Pairwise (· < ·) := by
  unfold fromTo
  rw [List.pairwise_map]
  exact (List.pairwise_lt_range (n := lo + 1 - least)).imp (by omega)
theorem stepV_chosen {least : Nat} (hl : 0 < least) (rest : List Val3) (lo : Nat) : Chosen (val2 (rest.headD default)) (candV rest) (fromTo least lo) (stepV least rest lo) := by
  have := chosen_fold rest (val2 (rest.headD default)) (fromTo least lo) [] ((rest.headD default).1, (rest.headD default).2.1, 0) (fun k hk => by have := fromTo_mem.1 hk; omega) (fun a ha => by cases ha) (fromTo_pw _ _) ⟨by rw [betV_iff]; simp only [val2]; omega, (fun k hk => by cases hk), fun _ => rfl, fun h => absurd rfl h, (fun k hk => by cases hk)⟩
  exact this
theorem valA_cons (least lo : Nat) (los : List Nat) : valA least (lo :: los) = stepV least (dpL least los) lo := rfl
/-- A length of a list of longest runs does not lead out of the list. -/
def Fit : List Nat → Prop
  | [] => True
  | lo :: los => lo ≤ los.length + 1 ∧ Fit los
theorem fit_longs (ts : List Text) : ∀ l : List Lexeme, Fit (longsN ts l)
  | [] => trivial
  | w :: l => ⟨by have := longW_le ts (w :: l); simpa using this, fit_longs ts l⟩
theorem fit_drop : ∀ {los : List Nat} (k : Nat), Fit los → Fit (los.drop k)
  | los, 0, h => by simpa using h
  | [], k + 1, h => by simpa using h
  | lo :: los, k + 1, h => by rw [List.drop_succ_cons]; exact fit_drop k h.2
theorem cand_eq {least : Nat} {los : List Nat} {k : Nat} (h0 : 0 < k) (hk : k ≤ los.length + 1) : candV (dpL least los) k = ((valA least (los.drop (k - 1))).1 + k, (valA least (los.drop (k - 1))).2.1 + 1, k) := by
  unfold candV
  rw [dpL_get least los (k - 1) (by omega)]
theorem valA_mono {least : Nat} (hl : 0 < least) : ∀ (los : List Nat) (k : Nat), ¬ betV (val2 (valA least (los.drop k))) (val2 (valA least los)) = true
  | los, 0 => by rw [List.drop_zero, betV_iff]; omega
  | [], k + 1 => by rw [List.drop_nil, betV_iff]; omega
  | lo :: los, k + 1 => by
    rw [List.drop_succ_cons]
    have h1 := valA_mono hl los k
    have h2 := (stepV_chosen hl (dpL least los) lo).ge0
    rw [← valA_cons] at h2
    have e : (dpL least los).headD default = valA least los := rfl
    rw [e] at h2
    rw [betV_iff] at h1 h2 ⊢
    simp only [val2] at h1 h2 ⊢
    omega
theorem valA_nn {least : Nat} (hl : 0 < least) (los : List Nat) : ¬ betV (0, 0) (val2 (valA least los)) = true := by
  have := valA_mono hl los los.length
  rw [List.drop_length] at this
  exact this
/-- The pieces that are cut have the cover and the number of the best value. -/
theorem cut_val {least : Nat} (hl : 0 < least) : ∀ (los : List Nat) (i s : Nat), Fit los → s ≤ los.length → (((cutL i s ((dpL least los).map fun v => v.2.2)).map fun p => p.2).sum : Int) = (valA least (los.drop s)).1 ∧ ((cutL i s ((dpL least los).map fun v => v.2.2)).length : Int) = (valA least (los.drop s)).2.1
  | [], i, 0, _, _ => by simp [dpL, cutL, valA]
  | [], i, s + 1, _, h => by simp at h
  | lo :: los, i, s + 1, hf, h => by
    rw [dpL, List.map_cons, cutL, List.drop_succ_cons]
    exact cut_val hl los (i + 1) s hf.2 (by simpa using h)
  | lo :: los, i, 0, hf, h => by
    have C := stepV_chosen hl (dpL least los) lo
    rw [List.drop_zero, valA_cons, dpL, List.map_cons]
    generalize hv : stepV least (dpL least los) lo = v at C ⊢
    cases hz : v.2.2 with
    | zero =>
      rw [cutL]
      have h1 := C.len0 hz
      have e : (dpL least los).headD default = valA least los := rfl
      rw [e] at h1
      have h2 := cut_val hl los (i + 1) 0 hf.2 (by omega)
      rw [List.drop_zero] at h2
      have h3 := congrArg Prod.fst h1; have h4 := congrArg Prod.snd h1
      simp only [val2] at h3 h4
      rw [h3, h4]; exact h2
    | succ k =>
      rw [cutL]
      obtain ⟨h1, h2⟩ := C.len1 (by omega)
      rw [hz] at h1 h2
      have h3 := fromTo_mem.1 h1
      have h4 := hf.1
      rw [cand_eq (by omega) (by omega)] at h2
      obtain ⟨i1, i2⟩ := cut_val hl los (i + 1) k hf.2 (by omega)
      rw [h2]
      simp only [List.map_cons, List.sum_cons, List.length_cons, show k + 1 - 1 = k by omega]
      constructor <;> omega
/-- The pieces that are cut stand in order, and each of them is at most as long as the longest run. -/
theorem cut_mem {least : Nat} (hl : 0 < least) : ∀ (los : List Nat) (i s : Nat), Fit los → s ≤ los.length → (∀ p ∈ cutL i s ((dpL least los).map fun v => v.2.2), i + s ≤ p.1 ∧ p.1 < i + los.length ∧ least ≤ p.2 ∧ p.2 ≤ los.getD (p.1 - i) 0) ∧ (cutL i s ((dpL least los).map fun v => v.2.2)).Pairwise (fun a b => a.1 + a.2 ≤ b.1)
  | [], i, 0, _, _ => by simp [dpL, cutL]
  | [], i, s + 1, _, h => by simp at h
  | lo :: los, i, s + 1, hf, h => by
    rw [dpL, List.map_cons, cutL]
    obtain ⟨h1, h2⟩ := cut_mem hl los (i + 1) s hf.2 (by simpa using h)
    refine ⟨fun p hp => ?_, h2⟩
    obtain ⟨k1, k2, k3, k4⟩ := h1 p hp
    refine ⟨by omega, by simp; omega, k3, ?_⟩
    rw [show p.1 - i = (p.1 - (i + 1)) + 1 by omega, List.getD_cons_succ]
    exact k4
  | lo :: los, i, 0, hf, h => by
    have C := stepV_chosen hl (dpL least los) lo
    rw [dpL, List.map_cons]
    generalize hv : stepV least (dpL least los) lo = v at C ⊢
    cases hz : v.2.2 with
    | zero =>
      rw [cutL]
      obtain ⟨h1, h2⟩ := cut_mem hl los (i + 1) 0 hf.2 (by omega)
      refine ⟨fun p hp => ?_, h2⟩
      obtain ⟨k1, k2, k3, k4⟩ := h1 p hp
      refine ⟨by omega, by simp; omega, k3, ?_⟩
      rw [show p.1 - i = (p.1 - (i + 1)) + 1 by omega, List.getD_cons_succ]
      exact k4
    | succ k =>
      rw [cutL]
      obtain ⟨h1, h2⟩ := C.len1 (by omega)
      rw [hz] at h1 h2
      have h3 := fromTo_mem.1 h1
      have h4 := hf.1
      obtain ⟨i1, i2⟩ := cut_mem hl los (i + 1) k hf.2 (by omega)
      refine ⟨fun p hp => ?_, List.pairwise_cons.2 ⟨fun p hp => ?_, i2⟩⟩
      · rcases List.mem_cons.1 hp with rfl | hp
        · refine ⟨by omega, by simp, h3.1, ?_⟩
          simp only [Nat.sub_self, List.getD_cons_zero]
          exact h3.2
        · obtain ⟨k1, k2, k3, k4⟩ := i1 p hp
          refine ⟨by omega, by simp; omega, k3, ?_⟩
          rw [show p.1 - i = (p.1 - (i + 1)) + 1 by omega, List.getD_cons_succ]
          exact k4
      · obtain ⟨k1, _⟩ := i1 p hp
        simp only
        omega
end Go.Lic
