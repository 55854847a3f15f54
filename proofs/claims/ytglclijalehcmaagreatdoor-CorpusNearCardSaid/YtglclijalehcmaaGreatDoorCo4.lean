/-
  The conditions of functions of chapter 26 hold: what is found, what is near. No program in sight.
-/
import Derived.Test.YtglclijalehcmaaGreatDoorCo3
set_option linter.all false
namespace Go.Lic
open Go.Proofs Go.Sort Go.Shelf

theorem c26fewt_ok (l : (List Text)) (Q : Bool → Prop)  (h : Q (fewTs l)) : c26fewt_vc l Q := by
  unfold fewTs at h
  refine ⟨fun hb => by rw [decide_eq_false (by omega)] at h; exact h, fun hg => ?_⟩
  rw [decide_eq_true (by omega), Bool.true_and] at h
  refine lfp_of (fun x : Int => 0 ≤ x ∧ x ≤ l.length ∧ (l.drop x.toNat).all (fun t => fewW t.words && decide (t.path.size ≤ 200)) = l.all (fun t => fewW t.words && decide (t.path.size ≤ 200))) (fun x => (l.length - x).toNat) (fun x hst again hag => ?_) ⟨by omega, by omega, rfl⟩
  obtain ⟨h0, h1, h2⟩ := hst
  refine ⟨fun hlt => ?_, fun hn => ?_⟩
  · rw [drop_gi (by omega), List.all_cons] at h2
    refine ⟨by omega, fun hb => ?_, fun hs => ⟨by omega, hag _ ⟨by omega, by omega, ?_⟩ (by omega)⟩⟩
    · have e : (fewW (gi l x).words && decide ((gi l x).path.size ≤ 200)) = false := by
        rcases hb with hb | hb
        · rw [hb, Bool.false_and]
        · rw [decide_eq_false (by omega), Bool.and_false]
      rw [e, Bool.false_and] at h2
      rw [← h2] at h; exact h
    · rw [hs.1, decide_eq_true (by omega), Bool.true_and, Bool.true_and] at h2
      exact h2
  · rw [drop_end hn] at h2
    rw [← h2] at h; exact h
theorem c26few_ok (c : Corpus) (Q : Bool → Prop)  (h : Q (fewC c)) : c26few_vc c Q := by
  unfold fewC at h
  have e : decide ((c.posts.length : Int) ≤ 300) = decide (c.posts.length ≤ 300) := decide_eq_decide.2 (by omega)
  unfold c26few_vc
  rw [e]; exact h

/-! how many fingerprints two texts share -/
def firstI (l : List Pst) (i : Int) : Prop := i = 0 ∨ ¬ ((gi l (i - 1)).hash = (gi l i).hash ∧ (gi l (i - 1)).text = (gi l i).text)
theorem firstAt_iff (l : List Pst) (i : Nat) : firstAt l i = true ↔ firstI l i := by
  unfold firstAt firstI
  rw [Bool.or_eq_true, decide_eq_true_eq, Bool.not_eq_true', Bool.and_eq_false_iff, decide_eq_false_iff_not, decide_eq_false_iff_not]
  constructor
  · rintro (h | h)
    · left; omega
    · right; rintro ⟨h1, h2⟩; rcases h with h | h
      · exact h h1
      · exact h h2
  · rintro (h | h)
    · left; omega
    · right
      by_cases h1 : (gi l ((i : Int) - 1)).hash = (gi l (i : Int)).hash
      · right; exact fun h2 => h ⟨h1, h2⟩
      · left; exact h1
theorem firstI_iff {l : List Pst} (hs : PSorted l) {i : Int} (hi : inL i l.length) : firstI l i ↔ ¬ ∃ j : Int, 0 ≤ j ∧ j < i ∧ (gi l j).text = (gi l i).text ∧ (gi l j).hash = (gi l i).hash := by
  unfold firstI
  constructor
  · rintro h ⟨j, hj, hj2, h1, h2⟩
    rcases h with h | h
    · omega
    · apply h
      by_cases e : j = i - 1
      · rw [← e]; exact ⟨h2, h1⟩
      · have k1 := pw_gi hs hj (show j < i - 1 by omega) (by omega)
        have k2 := pw_gi hs (show 0 ≤ i - 1 by omega) (show i - 1 < i by omega) hi.2
        rw [poLt_iff] at k1 k2
        omega
  · intro h
    by_cases e : i = 0
    · exact .inl e
    · exact .inr fun ⟨h1, h2⟩ => h ⟨i - 1, by omega, by omega, h2, h1⟩
/-- A post that counts for a text. -/
def cntP (c : Corpus) (l : List Print) (t : Int) (i : Nat) : Bool := firstAt c.posts i && decide ((gi c.posts (i : Nat)).text = t) && l.any fun x => decide (x.hash = (gi c.posts (i : Nat)).hash)
def cntN (c : Corpus) (l : List Print) (t : Int) (n : Nat) : Nat := ((List.range n).filter (cntP c l t)).length
theorem sharedN_eq (c : Corpus) (l : List Print) (t : Int) : sharedN c l t = cntN c l t c.posts.length := rfl
theorem cntN_succ (c : Corpus) (l : List Print) (t : Int) (n : Nat) : cntN c l t (n + 1) = cntN c l t n + if cntP c l t n then 1 else 0 := by
  unfold cntN
  rw [List.range_succ, List.filter_append, List.length_append]
  congr 1
  by_cases h : cntP c l t n = true
  · simp [h]
  · simp [h]
theorem cntN_le (c : Corpus) (l : List Print) (t : Int) (n : Nat) : cntN c l t n ≤ n := by
  unfold cntN
  have := List.length_filter_le (cntP c l t) (List.range n)
  simpa using this
theorem cntP_iff (c : Corpus) (l : List Print) (t : Int) (i : Nat) : cntP c l t i = true ↔ firstI c.posts i ∧ (gi c.posts (i : Int)).text = t ∧ ∃ j : Int, inL j l.length ∧ (gi l j).hash = (gi c.posts (i : Int)).hash := by
  unfold cntP
  rw [Bool.and_eq_true, Bool.and_eq_true, firstAt_iff, decide_eq_true_eq, anyI, and_assoc]
  simp only [decide_eq_true_eq]
theorem good_sorted {c : Corpus} (h : GoodC c) : PSorted c.posts := by rw [h.posts]; exact posts_sorted _ _ _
def nearG (c : Corpus) (l : List Print) (m : Nat) : List Int := ((List.range c.texts.length).filter fun i => decide (sharedN c l (i : Nat) = m + 1)).map fun i => ((i : Nat) : Int)
theorem nearL_eq (c : Corpus) (l : List Print) : nearL c l = (List.range l.length).reverse.flatMap (nearG c l) := rfl
theorem valid_words {t : Text} (hv : validT t = true) : t.words.length ≤ 8192 := by
  unfold validT at hv
  simp only [Bool.and_eq_true, decide_eq_true_eq] at hv
  exact hv.1.1
theorem range_rev (n : Nat) : (List.range (n + 1)).reverse = n :: (List.range n).reverse := by rw [List.range_succ, List.reverse_append]; rfl
/-! sorting by insertion -/
theorem insS_pre {cf : Int → Int → Int} {x : Int} {B : List Int} : ∀ {A : List Int}, (∀ a ∈ A, ¬ cf x a < 0) → insS cf x (A ++ B) = A ++ insS cf x B
  | [], _ => rfl
  | a :: A, h => by
    rw [List.cons_append, insS, decide_eq_false (h a (by simp)), Bool.false_and, if_neg (by decide), insS_pre (fun b hb => h b (List.mem_cons_of_mem _ hb))]
    rfl
theorem insS_all {cf : Int → Int → Int} {x : Int} : ∀ {B : List Int}, (∀ b ∈ B, cf x b < 0) → insS cf x B = x :: B
  | [], _ => rfl
  | b :: B, h => by
    rw [insS, decide_eq_true (h b (by simp)), Bool.true_and, if_pos]
    rw [List.all_eq_true]; intro z hz; exact decide_eq_true (h z (List.mem_cons_of_mem _ hz))
/-- A number that does not go before the last of A is put behind it. -/
theorem insS_at {cf : Int → Int → Int} {x : Int} {B : List Int} (hB : ∀ b ∈ B, cf x b < 0) : ∀ {A : List Int}, (∀ o t, A = o ++ [t] → ¬ cf x t < 0) → insS cf x (A ++ B) = A ++ x :: B
  | [], _ => insS_all hB
  | a :: A, h => by
    have e : (decide (cf x a < 0) && (A ++ B).all fun z => decide (cf x z < 0)) = false := by
      rw [Bool.and_eq_false_iff, decide_eq_false_iff_not]
      rcases list_last A with rfl | ⟨o, t, rfl⟩
      · left; exact h [] a rfl
      · right
        cases hall : (o ++ [t] ++ B).all fun z => decide (cf x z < 0) with
        | false => rfl
        | true =>
          have := List.all_eq_true.1 hall t (by simp)
          exact absurd (of_decide_eq_true this) (h (a :: o) t rfl)
    rw [List.cons_append, insS, e, if_neg (by decide), insS_at hB (fun o t e2 => h (a :: o) t (by rw [e2]; rfl))]
    rfl
theorem isortF_snoc (cf : Int → Int → Int) (l : List Int) (x : Int) : isortF cf (l ++ [x]) = insS cf x (isortF cf l) := by unfold isortF; rw [List.foldl_append]; rfl
theorem insS_len (cf : Int → Int → Int) (x : Int) : ∀ l : List Int, (insS cf x l).length = l.length + 1
  | [] => rfl
  | y :: l => by
    rw [insS]
    split
    · simp
    · rw [List.length_cons, insS_len cf x l, List.length_cons]
theorem isortF_len (cf : Int → Int → Int) : ∀ (l out : List Int), (l.foldl (fun out x => insS cf x out) out).length = out.length + l.length
  | [], out => by simp
  | x :: l, out => by rw [List.foldl_cons, isortF_len cf l, insS_len, List.length_cons]; omega
theorem isort_len (cf : Int → Int → Int) (l : List Int) : (isortF cf l).length = l.length := by unfold isortF; rw [isortF_len]; simp
theorem gi_app_r {a b : List Int} {j : Int} (h : (a.length : Int) ≤ j ∧ j < a.length + b.length) : gi (a ++ b) j = gi b (j - a.length) := by
  rw [gi_lt (by rw [List.length_append]; omega), gi_lt (by omega), List.getElem_append_right (by omega)]
  congr 1; omega
theorem swap_at (A : List Int) (y x : Int) (C : List Int) : si (si (A ++ y :: x :: C) ((A.length : Int) + 1) y) (A.length : Int) x = A ++ x :: y :: C := by
  unfold si
  rw [show ((A.length : Int) + 1).toNat = A.length + 1 by omega, Int.toNat_natCast]
  rw [List.set_append_right _ _ (by omega), show A.length + 1 - A.length = 1 by omega, List.set_append_right _ _ (by omega), Nat.sub_self]
  rfl
theorem sortiI_ok (data : (List Int)) (a : Int) (b : Int) (p : Int → Int → Int) (pD : Int → Int → Prop) (Q : (List Int) → Prop) (hp0 : a = (0 : Int)) (hp1 : b = (data.length : Int)) (hp2 : data.length ≤ 100) (hp3 : ∀ y_ z_, pD y_ z_) (h : Q ((isortF p data))) : sortiI_vc data a b p pD Q := by
  subst hp0 hp1
  refine ⟨by omega, ?_⟩
  refine lfp2 (sortiI_L1 0 (data.length : Int) p pD Q) (fun data1 i => 1 ≤ i ∧ (i ≤ data.length ∨ i = 1) ∧ data1 = isortF p (data.take i.toNat) ++ data.drop i.toNat) (fun _ i => (data.length - i).toNat) (fun data1 i hst again hag => ?_) ⟨by omega, by omega, ?_⟩
  · obtain ⟨h0, h1, h2⟩ := hst
    refine ⟨fun hlt => ?_, fun hn => ?_⟩
    · have hS : (isortF p (data.take i.toNat)).length = i.toNat := by rw [isort_len, List.length_take]; omega
      generalize hSd : isortF p (data.take i.toNat) = S at *
      generalize hxd : gi data i = x at *
      have hdr : data.drop i.toNat = x :: data.drop (i + 1).toNat := by rw [drop_gi (by omega), hxd]
      rw [hdr] at h2
      refine lfp2 (sortiI_L2 0 p pD i again) (fun data2 j => 0 ≤ j ∧ j ≤ i ∧ ∃ A B : List Int, S = A ++ B ∧ (A.length : Int) = j ∧ (∀ b ∈ B, p x b < 0) ∧ data2 = A ++ x :: (B ++ data.drop (i + 1).toNat)) (fun _ j => j.toNat) (fun data2 j hj again3 hag3 => ?_) ⟨by omega, by omega, S, [], by simp, by omega, (fun b hb => by cases hb), by rw [h2]; rfl⟩
      obtain ⟨j0, j1, A, B, hAB, hA, hB, hd2⟩ := hj
      have hl2 : data2.length = data.length := by
        have := congrArg List.length hAB
        rw [hd2]; simp only [List.length_append, List.length_cons, List.length_drop] at *; omega
      have hgj : gi data2 j = x := by
        rw [hd2, gi_app_r (by simp; omega), hA, Int.sub_self]; rfl
      rcases list_last A with rfl | ⟨o, y, rfl⟩
      · refine ⟨fun hj => by simp at hA; omega, fun hc => by simp at hA; omega, fun _ => ⟨by omega, hag _ _ ⟨by omega, by omega, ?_⟩ (by omega)⟩⟩
        rw [tk_gi (by omega), isortF_snoc, hSd, hxd, hAB, hd2, List.nil_append, List.nil_append, insS_all hB]; rfl
      · simp only [List.length_append, List.length_singleton] at hA
        have hgy : gi data2 (j - 1) = y := by
          rw [hd2, List.append_assoc, gi_app_r (by simp; omega), show j - 1 - (o.length : Int) = 0 by omega]; rfl
        unfold sortiI_L2
        rw [hgj, hgy]
        refine ⟨fun _ => ⟨by omega, by omega, by omega, hp3 _ _⟩, fun hc => ?_, fun hc => ⟨by omega, hag _ _ ⟨by omega, by omega, ?_⟩ (by omega)⟩⟩
        · refine ⟨by omega, by omega, by omega, by omega, by omega, by omega, by omega, by omega, by omega, by omega, by omega, hag3 _ _ ⟨by omega, by omega, o, y :: B, by rw [hAB]; simp, by omega, ?_, ?_⟩ (by omega)⟩
          · intro b hb
            rcases List.mem_cons.1 hb with rfl | hb
            · exact hc.2
            · exact hB b hb
          · have e1 : j = (o.length : Int) + 1 := by omega
            have e2 : j - 1 = (o.length : Int) := by omega
            rw [e2, e1, hd2, List.append_assoc]
            exact swap_at o y x _
        · have hny : ¬ p x y < 0 := by
            rcases hc with hc | hc
            · omega
            · exact hc
          rw [tk_gi (by omega), isortF_snoc, hSd, hxd, hAB, hd2, insS_at hB (fun o' t' e => by
            have := List.append_inj_right' e (by simp)
            simp at this; rw [← this]; exact hny)]
          simp
    · rw [List.take_of_length_le (by omega), List.drop_eq_nil_of_le (by omega), List.append_nil] at h2
      rw [h2]; exact h
  · rw [show ((0 : Int) + 1).toNat = 1 by omega]
    cases data with
    | nil => rfl
    | cons x l => simp [isortF, insS]
theorem stableI_ok (data : (List Int)) (n : Int) (p : Int → Int → Int) (pD : Int → Int → Prop) (Q : (List Int) → Prop) (hp0 : n = (data.length : Int)) (hp1 : data.length ≤ 19) (hp2 : ∀ y_ z_, pD y_ z_) (h : Q ((isortF p data))) : stableI_vc data n p pD Q := by
  subst hp0
  refine fun I hI => hI _ ⟨fun hle => by simp at hle; omega, fun _ => ⟨rfl, rfl, by show data.length ≤ 100; omega, hp2, fun J hJ => hJ _ ⟨fun hlt => by omega, fun _ => h⟩⟩⟩
theorem sortStI_ok (x : (List Int)) (p : Int → Int → Int) (pD : Int → Int → Prop) (Q : (List Int) → Prop) (hp0 : x.length ≤ 19) (hp1 : ∀ y_ z_, pD y_ z_) (h : Q ((isortF p x))) : sortStI_vc x p pD Q := ⟨rfl, hp0, hp1, h⟩

/-! maps -/
theorem mget_mset {T : Type} (d : T) (k : Int) (v : T) (j : Int) : ∀ l : List (Int × T), mget d (mset l k v) j = if j = k then v else mget d l j
  | [] => by
    simp only [mset, mget]
    by_cases e : j = k
    · rw [if_pos e.symm, if_pos e]
    · rw [if_neg (fun h => e h.symm), if_neg e]
  | (q, u) :: l => by
    simp only [mset]
    by_cases e : q = k
    · rw [if_pos e]
      simp only [mget]
      by_cases e2 : j = k
      · rw [if_pos e2.symm, if_pos e2]
      · rw [if_neg (fun h => e2 h.symm), if_neg e2, if_neg (fun h => e2 (by rw [← h, e]))]
    · rw [if_neg e]
      simp only [mget, mget_mset d k v j l]
      by_cases e2 : q = j
      · rw [if_pos e2, if_pos e2, if_neg (fun h => e (by rw [e2, h]))]
      · rw [if_neg e2, if_neg e2]
theorem cnear1_ok (a : Int) (b : Int) (shared : (List (Int × Int))) (Q : Int → Prop)  (h : Q (nearC a b shared)) : cnear1_vc a b shared Q := h

/-! what is near, by a stable sort -/
theorem nodup_le {α : Type} [DecidableEq α] : ∀ {a b : List α}, a.Pairwise (fun x y => x ≠ y) → (∀ x ∈ a, x ∈ b) → a.length ≤ b.length
  | [], _, _, _ => Nat.zero_le _
  | x :: a, b, hp, hm => by
    obtain ⟨h1, h2⟩ := List.pairwise_cons.1 hp
    have hx := hm x (by simp)
    have ih := nodup_le (a := a) (b := b.erase x) h2 (fun y hy => (List.mem_erase_of_ne (fun e => h1 y hy e.symm)).2 (hm y (List.mem_cons_of_mem _ hy)))
    have hl := List.length_erase_of_mem hx
    have := List.length_pos_of_mem hx
    simp only [List.length_cons]; omega
theorem shared_le {c : Corpus} (hs : PSorted c.posts) (l : List Print) (t : Int) : sharedN c l t ≤ l.length := by
  have key : ∀ n : Nat, n ≤ c.posts.length → ((((List.range n).filter (cntP c l t)).map fun i => (gi c.posts (i : Nat)).hash).Pairwise fun x y => x ≠ y) := by
    intro n
    induction n with
    | zero => intro _; exact .nil
    | succ n ih =>
      intro hn
      rw [List.range_succ, List.filter_append, List.map_append, List.pairwise_append]
      refine ⟨ih (by omega), ?_, fun x hx y hy => ?_⟩
      · by_cases hc : cntP c l t n = true
        · rw [List.filter_cons_of_pos hc]; exact List.pairwise_singleton _ _
        · rw [List.filter_cons_of_neg hc]; exact .nil
      · by_cases hc : cntP c l t n = true
        · rw [List.filter_cons_of_pos hc] at hy
          have hy := List.mem_singleton.1 hy
          obtain ⟨i, hi, rfl⟩ := List.mem_map.1 hx
          obtain ⟨hi1, hi2⟩ := List.mem_filter.1 hi
          have hi1 := List.mem_range.1 hi1
          rw [hy]
          intro e
          obtain ⟨a1, a2, _⟩ := (cntP_iff c l t n).1 hc
          obtain ⟨_, b2, _⟩ := (cntP_iff c l t i).1 hi2
          exact (firstI_iff hs (by omega)).1 a1 ⟨i, by omega, by omega, by rw [a2, b2], e⟩
        · rw [List.filter_cons_of_neg hc] at hy; cases hy
  have := nodup_le (b := l.map fun x => x.hash) (key c.posts.length (Nat.le_refl _)) (fun h hh => by
    obtain ⟨i, hi, rfl⟩ := List.mem_map.1 hh
    obtain ⟨_, hi2⟩ := List.mem_filter.1 hi
    obtain ⟨_, _, j, hj, e⟩ := (cntP_iff c l t i).1 hi2
    exact List.mem_map.2 ⟨_, gi_mem hj, e⟩)
  rw [List.length_map, List.length_map] at this
  exact this
def byKey (g : Int → Nat) (l : List Int) (M : Nat) : List Int := (List.range M).reverse.flatMap fun m => l.filter fun i => decide (g i = m + 1)
theorem byKey_succ (g : Int → Nat) (l : List Int) (M : Nat) : byKey g l (M + 1) = l.filter (fun i => decide (g i = M + 1)) ++ byKey g l M := by
  unfold byKey; rw [range_rev, List.flatMap_cons]
theorem byKey_mem {g : Int → Nat} {l : List Int} : ∀ {M : Nat} {x : Int}, x ∈ byKey g l M → g x ≤ M
  | 0, x, h => by simp [byKey] at h
  | M + 1, x, h => by
    rw [byKey_succ] at h
    rcases List.mem_append.1 h with h | h
    · have := of_decide_eq_true (List.mem_filter.1 h).2; omega
    · have := byKey_mem h; omega
theorem byKey_big {g : Int → Nat} {l : List Int} {x : Int} : ∀ {M : Nat}, M < g x → byKey g (l ++ [x]) M = byKey g l M
  | 0, _ => rfl
  | M + 1, h => by
    rw [byKey_succ, byKey_succ, byKey_big (by omega), List.filter_append, List.filter_cons_of_neg (by rw [decide_eq_true_eq]; omega)]
    simp
theorem byKey_snoc {cf : Int → Int → Int} {g : Int → Nat} (hcf : ∀ a b, cf a b < 0 ↔ g b < g a) {l : List Int} {x : Int} : ∀ {M : Nat}, 0 < g x → g x ≤ M → byKey g (l ++ [x]) M = insS cf x (byKey g l M)
  | 0, h, h2 => by omega
  | M + 1, h, h2 => by
    rw [byKey_succ, byKey_succ]
    have hA : ∀ a ∈ l.filter (fun i => decide (g i = M + 1)), ¬ cf x a < 0 := fun a ha => by
      have := of_decide_eq_true (List.mem_filter.1 ha).2
      rw [hcf]; omega
    rw [insS_pre hA]
    by_cases e : g x = M + 1
    · rw [byKey_big (by omega), insS_all (fun b hb => by rw [hcf]; have := byKey_mem hb; omega), List.filter_append, List.filter_cons_of_pos (by rw [decide_eq_true_eq]; exact e)]
      simp
    · rw [byKey_snoc hcf h (by omega), List.filter_append, List.filter_cons_of_neg (by rw [decide_eq_true_eq]; exact e)]
      simp
theorem snoc_ind {α : Type} {P : List α → Prop} (h0 : P []) (h1 : ∀ l x, P l → P (l ++ [x])) (l : List α) : P l := by
  generalize hn : l.length = n
  induction n generalizing l with
  | zero => rw [List.eq_nil_of_length_eq_zero hn]; exact h0
  | succ n ih =>
    rcases list_last l with rfl | ⟨o, t, rfl⟩
    · simp at hn
    · exact h1 o t (ih o (by simpa using hn))
theorem isort_key {cf : Int → Int → Int} {g : Int → Nat} (hcf : ∀ a b, cf a b < 0 ↔ g b < g a) {M : Nat} (l : List Int) : (∀ x ∈ l, 0 < g x ∧ g x ≤ M) → isortF cf l = byKey g l M := by
  refine snoc_ind (P := fun l => (∀ x ∈ l, 0 < g x ∧ g x ≤ M) → isortF cf l = byKey g l M) (fun _ => ?_) (fun l x ih h => ?_) l
  · have : ∀ M, byKey g [] M = [] := by
      intro M
      induction M with
      | zero => rfl
      | succ M ih => rw [byKey_succ, ih]; rfl
    rw [this]; rfl
  · have hx := h x (by simp)
    rw [isortF_snoc, ih (fun y hy => h y (List.mem_append_left _ hy)), byKey_snoc hcf hx.1 hx.2]
theorem near_sort {c : Corpus} {l : List Print} (hs : PSorted c.posts) {cf : Int → Int → Int} (hcf : ∀ a b, cf a b < 0 ↔ sharedN c l b < sharedN c l a) : isortF cf (((List.range c.texts.length).filter fun i => decide (0 < sharedN c l (i : Nat))).map fun i => ((i : Nat) : Int)) = nearL c l := by
  rw [isort_key (g := fun i => sharedN c l i) (M := l.length) hcf, nearL_eq]
  · unfold byKey
    congr 1
    funext m
    unfold nearG
    rw [List.filter_map, List.filter_filter]
    congr 1
    apply List.filter_congr
    intro i _
    simp only [Function.comp]
    rw [Bool.eq_iff_iff]
    simp only [Bool.and_eq_true, decide_eq_true_eq]
    omega
  · intro x hx
    obtain ⟨i, hi, rfl⟩ := List.mem_map.1 hx
    exact ⟨of_decide_eq_true (List.mem_filter.1 hi).2, shared_le hs l _⟩
theorem cnear_ok (c : Corpus) (t : Text) (Q : (List Int) × Int → Prop) (hp0 : okC c) (hp1 : okT t) (hp2 : c.texts.length ≤ 19) (h : Q (nearF c t)) : cnear_vc c t Q := by
  unfold nearF at h
  refine ⟨hp0, fun _ => hp1, fun hb => ?_, fun hg => ?_⟩
  · rw [if_neg (by rintro ⟨h1, h2⟩; rcases hb with hb | hb; exact hb h1; rw [h2] at hb; cases hb)] at h; exact h
  rw [if_pos hg] at h
  have G := (checkF_iff c).1 hg.1
  have hsort := good_sorted G
  have hle := prints_len t c.k c.w
  have hw := valid_words hg.2
  have hpl := hp0.2
  refine ⟨hp1, ?_⟩
  refine lfp2 (cnear_L1 c t Q) (fun m x => 0 ≤ x ∧ x ≤ (printsF t c.k c.w).1.length ∧ ∀ hh : Int, mget false m hh = ((printsF t c.k c.w).1.take x.toNat).any (fun y => decide (y.hash = hh))) (fun _ x => ((printsF t c.k c.w).1.length - x).toNat) (fun m x hst again hag => ?_) ⟨by omega, by omega, fun hh => rfl⟩
  obtain ⟨h0, h1, h2⟩ := hst
  refine ⟨fun hlt => ⟨by omega, by omega, hag _ _ ⟨by omega, by omega, fun hh => ?_⟩ (by omega)⟩, fun hn => ?_⟩
  · rw [mget_mset, tk_gi (by omega), List.any_append, h2]
    by_cases e : hh = (gi (printsF t c.k c.w).1 x).hash
    · rw [if_pos e, e]; simp
    · rw [if_neg e, List.any_cons, List.any_nil, decide_eq_false (fun k => e k.symm), Bool.or_false, Bool.or_false]
  · rw [tk_end hn] at h2
    refine lfp2 (cnear_L2 c m Q) (fun m2 x1 => 0 ≤ x1 ∧ x1 ≤ c.posts.length ∧ ∀ tt : Int, mget 0 m2 tt = ((cntN c (printsF t c.k c.w).1 tt x1.toNat : Nat) : Int)) (fun _ x1 => (c.posts.length - x1).toNat) (fun m2 x1 hst1 again1 hag1 => ?_) ⟨by omega, by omega, fun tt => rfl⟩
    obtain ⟨g0, g1, g2⟩ := hst1
    have hst : (x1 + 1).toNat = x1.toNat + 1 := by omega
    have hcast : ((x1.toNat : Nat) : Int) = x1 := by omega
    have hany : ∀ hh : Int, mget false m hh = true ↔ ∃ j : Int, inL j (printsF t c.k c.w).1.length ∧ (gi (printsF t c.k c.w).1 j).hash = hh := fun hh => by
      rw [h2, anyI]; simp only [decide_eq_true_eq]
    refine ⟨fun hlt1 => ⟨by omega, fun _ => ⟨by omega, by omega⟩, fun _ => ⟨by omega, by omega⟩, fun hc => ?_, fun hc => ?_⟩, fun hn1 => ?_⟩
    · have hcl := cntN_le c (printsF t c.k c.w).1 (gi c.posts x1).text x1.toNat
      have hgg := g2 (gi c.posts x1).text
      refine ⟨by omega, by omega, hag1 _ _ ⟨by omega, by omega, fun tt => ?_⟩ (by omega)⟩
      have hci := cntP_iff c (printsF t c.k c.w).1 tt x1.toNat
      rw [hcast] at hci
      rw [mget_mset, hst, cntN_succ, g2 tt]
      by_cases e : tt = (gi c.posts x1).text
      · rw [if_pos e, if_pos, e, hgg]
        · omega
        · refine hci.2 ⟨?_, e.symm, (hany _).1 hc.2⟩
          rcases hc.1 with (hx | hx) | hx
          · exact .inl hx
          · exact .inr fun k => hx k.1
          · exact .inr fun k => hx k.2
      · rw [if_neg e, if_neg (fun k => e (hci.1 k).2.1.symm)]
        omega
    · refine ⟨by omega, hag1 _ _ ⟨by omega, by omega, fun tt => ?_⟩ (by omega)⟩
      have hci := cntP_iff c (printsF t c.k c.w).1 tt x1.toNat
      rw [hcast] at hci
      rw [hst, cntN_succ, g2 tt, if_neg]
      · omega
      · intro k
        obtain ⟨a1, a2, a3⟩ := hci.1 k
        rcases hc with hc | hc
        · rcases a1 with a1 | a1
          · exact hc.1.1 a1
          · exact a1 ⟨hc.1.2, hc.2⟩
        · rw [(hany _).2 a3] at hc; cases hc
    · have g2' : ∀ tt : Int, mget 0 m2 tt = ((sharedN c (printsF t c.k c.w).1 tt : Nat) : Int) := fun tt => by
        rw [g2, show x1.toNat = c.posts.length by omega, sharedN_eq]
      refine lfp2 (cnear_L3 c m2 Q) (fun out x2 => 0 ≤ x2 ∧ x2 ≤ c.texts.length ∧ out.length ≤ x2 ∧ out = ((List.range x2.toNat).filter fun i => decide (0 < sharedN c (printsF t c.k c.w).1 (i : Nat))).map fun i => ((i : Nat) : Int)) (fun _ x2 => (c.texts.length - x2).toNat) (fun out x2 hst2 again2 hag2 => ?_) ⟨by omega, by omega, by simp, rfl⟩
      obtain ⟨k0, k1, k2, k3⟩ := hst2
      have hcast2 : ((x2.toNat : Nat) : Int) = x2 := by omega
      have hg := g2' x2
      refine ⟨fun hlt2 => ⟨fun hp => ?_, fun hp => ?_⟩, fun hn2 => ⟨by omega, fun _ _ => trivial, ?_⟩⟩
      · refine ⟨⟨by simp; omega, by simp; omega⟩, by omega, hag2 _ _ ⟨by omega, by omega, by simp; omega, ?_⟩ (by omega)⟩
        rw [show (x2 + 1).toNat = x2.toNat + 1 by omega, List.range_succ, List.filter_append, List.filter_cons_of_pos (by rw [decide_eq_true_eq, hcast2]; omega), List.map_append, ← k3]
        simp; omega
      · refine ⟨by omega, hag2 _ _ ⟨by omega, by omega, by omega, ?_⟩ (by omega)⟩
        rw [show (x2 + 1).toNat = x2.toNat + 1 by omega, List.range_succ, List.filter_append, List.filter_cons_of_neg (by rw [decide_eq_true_eq, hcast2]; omega)]
        simpa using k3
      · have := near_sort (l := (printsF t c.k c.w).1) hsort (cf := fun x0_ x1_ => nearC x0_ x1_ m2) (fun a b => by
          show cmpI (mget 0 m2 b) (mget 0 m2 a) < 0 ↔ _
          rw [cmpI_neg, g2', g2']; omega)
        rw [k3, show x2.toNat = c.texts.length by omega, this]
        exact h
theorem commonW_drop {a b : List Lexeme} {n : Int} (h1 : inL n a.length) (h2 : inL n b.length) : commonW (a.drop n.toNat) (b.drop n.toNat) = if (gi a n).text = (gi b n).text then commonW (a.drop (n + 1).toNat) (b.drop (n + 1).toNat) + 1 else 0 := by
  rw [drop_gi h1, drop_gi h2, commonW]
theorem commonW_end {a b : List Lexeme} {n : Int} (h : ¬ n < a.length ∨ ¬ n < b.length) : commonW (a.drop n.toNat) (b.drop n.toNat) = 0 := by
  rcases h with h | h
  · rw [drop_end h]; simp [commonW]
  · rw [drop_end h]; cases a.drop n.toNat <;> simp [commonW]
theorem ncommon_ok (a : Text) (i : Int) (b : Text) (j : Int) (Q : Int → Prop) (hp0 : okT a) (hp1 : okT b) (h : Q (commonF4 a i b j)) : ncommon_vc a i b j Q := by
  unfold commonF4 at h
  have ha := hp0.2.1; have hb := hp1.2.1
  refine ⟨fun _ => hp0, fun _ => hp1, fun hbad => ?_, fun hg => ?_⟩
  · rw [if_neg] at h
    · exact h
    · rintro ⟨h1, h2, h3, h4, h5, h6⟩
      rcases hbad with ((((hx | hx) | hx) | hx) | hx) | hx
      · omega
      · omega
      · omega
      · omega
      · rw [h5] at hx; cases hx
      · rw [h6] at hx; cases hx
  · obtain ⟨⟨⟨⟨⟨h1, h2⟩, h3⟩, h4⟩, h5⟩, h6⟩ := hg
    rw [if_pos ⟨by omega, by omega, by omega, by omega, h5, h6⟩] at h
    refine ⟨by omega, by omega, ?_⟩
    refine lfp_of (fun n : Int => 0 ≤ n ∧ n ≤ 1000000 ∧ n + (commonW ((lsub a.words i (a.words.length : Int)).drop n.toNat) ((lsub b.words j (b.words.length : Int)).drop n.toNat) : Nat) = (commonW (a.words.drop i.toNat) (b.words.drop j.toNat) : Nat)) (fun n => (1000001 - n).toNat) (fun n hn again hag => ?_) ⟨by omega, by omega, by rw [lsub_from, lsub_from]; simp⟩
    obtain ⟨n0, n1, n2⟩ := hn
    have hla : (lsub a.words i (a.words.length : Int)).length ≤ 1000000 := by rw [lsub_from, List.length_drop]; omega
    refine ⟨fun hc => ⟨by omega, by omega⟩, fun hc => ⟨by omega, hag _ ⟨by omega, by omega, ?_⟩ (by omega)⟩, fun hc => ?_⟩
    · rw [commonW_drop (by omega) (by omega), if_pos hc.2] at n2
      omega
    · have e : commonW ((lsub a.words i (a.words.length : Int)).drop n.toNat) ((lsub b.words j (b.words.length : Int)).drop n.toNat) = 0 := by
        by_cases hx : n < ((lsub a.words i (a.words.length : Int)).length : Int) ∧ n < ((lsub b.words j (b.words.length : Int)).length : Int)
        · rw [commonW_drop (by omega) (by omega), if_neg]
          rcases hc with hc | hc
          · omega
          · exact hc
        · exact commonW_end (by omega)
      rw [e] at n2
      rw [← n2] at h
      rw [show n + ((0 : Nat) : Int) = n by omega] at h
      exact h
theorem eqInts_ok (s1 : (List Int)) (s2 : (List Int)) (Q : Bool → Prop) (hp0 : s1.length ≤ 9223372036854775807) (h : Q ((decide (s1 = s2)))) : eqInts_vc s1 s2 Q := by
  have := eq_gen (fun a b => decide (a = b)) (fun a b => decide_eq_true_iff) s1 s2 Q hp0 h
  refine ⟨this.1, fun hl => ?_⟩
  intro I hI
  refine this.2 hl I fun x hx => hI x ⟨fun hlt => ?_, hx.2⟩
  obtain ⟨a, b, c, d⟩ := hx.1 hlt
  exact ⟨a, b, fun hn => c (decide_eq_false hn), fun he => d (decide_eq_true he)⟩
theorem ixInt_ok (s_ : (List Int)) (v : Int) (Q : Int → Prop) (hp0 : s_.length ≤ 9223372036854775807) (h : Q ((idxOf (fun z_ => decide (z_ = v)) s_))) : ixInt_vc s_ v Q := by
  refine lfp_of (fun x : Int => 0 ≤ x ∧ x ≤ s_.length ∧ ∀ j : Int, 0 ≤ j → j < x → ¬ gi s_ j = v) (fun x => (s_.length - x).toNat) (fun x hst again hag => ?_) ⟨by omega, by omega, fun j _ _ => by omega⟩
  obtain ⟨h0, h1, h2⟩ := hst
  refine ⟨fun hlt => ⟨by omega, fun hp => ?_, fun hp => ⟨by omega, hag _ ⟨by omega, by omega, fun j hj hj2 => ?_⟩ (by omega)⟩⟩, fun hn => ?_⟩
  · rw [idx_some (p := fun z_ : Int => decide (z_ = v)) (l := s_) (x := x) (by omega) (decide_eq_true hp.symm) (fun j hj hj2 => decide_eq_false (h2 j hj hj2))] at h; exact h
  · by_cases e : j = x
    · rw [e]; exact fun k => hp k.symm
    · exact h2 j hj (by omega)
  · rw [idx_none (p := fun z_ : Int => decide (z_ = v)) (l := s_) (fun j hj hj2 => decide_eq_false (h2 j hj (by omega)))] at h; exact h
theorem ctInt_ok (s_ : (List Int)) (v : Int) (Q : Bool → Prop) (hp0 : s_.length ≤ 9223372036854775807) (h : Q ((s_.any (fun z_ => decide (z_ = v))))) : ctInt_vc s_ v Q := ⟨hp0, by rw [idx_nn]; exact h⟩
end Go.Lic
