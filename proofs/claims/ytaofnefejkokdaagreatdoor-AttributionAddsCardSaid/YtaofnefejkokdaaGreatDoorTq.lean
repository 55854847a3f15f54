/-
  Attributions: what is found is right, and no other list that is right is better. No program in sight.
-/
import Derived.Test.YtaofnefejkokdaaGreatDoorTn
set_option linter.all false
namespace Go.Lic
open Go.Sort

theorem coverF_from : ∀ (l : List Piece) (n : Int), l.foldl (fun n p => n + (p.to - p.from_)) n = n + coverF l
  | [], n => by simp [coverF]
  | p :: l, n => by
    have h1 := coverF_from l (n + (p.to - p.from_))
    have h2 := coverF_from l (0 + (p.to - p.from_))
    unfold coverF at h1 h2 ⊢
    rw [List.foldl_cons, List.foldl_cons, h1, h2]; omega
@[simp] theorem coverF_nil : coverF [] = 0 := rfl
theorem coverF_cons (p : Piece) (l : List Piece) : coverF (p :: l) = (p.to - p.from_) + coverF l := by
  have := coverF_from l (0 + (p.to - p.from_))
  unfold coverF at this ⊢
  rw [List.foldl_cons, this]; omega
theorem coverF_app (a b : List Piece) : coverF (a ++ b) = coverF a + coverF b := by
  induction a with
  | nil => simp
  | cons p a ih => rw [List.cons_append, coverF_cons, coverF_cons, ih]; omega
theorem rangedF_iff (t : Text) (p : Piece) : rangedF t p = true ↔ 0 ≤ p.from_ ∧ p.from_ < p.to ∧ p.to ≤ t.words.length := by
  unfold rangedF; simp [and_assoc]
theorem sameF_iff (a l : List Lexeme) (i : Int) : sameF a l i = true ↔ 0 ≤ i ∧ i + a.length ≤ l.length ∧ commonW (l.drop i.toNat) a = a.length := by
  unfold sameF; simp [and_assoc]
theorem pieceOk_iff (c : Corpus) (t : Text) (least : Int) (p : Piece) : pieceOk c t least p = true ↔ (0 ≤ p.from_ ∧ p.from_ < p.to ∧ p.to ≤ t.words.length) ∧ least ≤ p.to - p.from_ ∧ inL p.text c.texts.length ∧ sameF (lsub t.words p.from_ p.to) (gi c.texts p.text).words p.at_ = true := by
  unfold pieceOk
  simp only [Bool.and_eq_true, rangedF_iff, decide_eq_true_eq, and_assoc]
theorem lsub_eq {α : Type} (l : List α) {i j : Int} (h0 : 0 ≤ i) (h1 : i ≤ j) : lsub l i j = (l.drop i.toNat).take (j - i).toNat := by
  unfold lsub
  rw [List.drop_take, show j.toNat - i.toNat = (j - i).toNat by omega]
/-- A run of a known text is not longer than the longest one. -/
theorem ok_long {c : Corpus} {t : Text} {least : Int} {p : Piece} (h : pieceOk c t least p = true) : (p.to - p.from_).toNat ≤ longW c.texts (t.words.drop p.from_.toNat) := by
  obtain ⟨⟨h1, h2, h3⟩, _, h5, h6⟩ := (pieceOk_iff _ _ _ _).1 h
  obtain ⟨k1, k2, k3⟩ := (sameF_iff _ _ _).1 h6
  rw [lsub_eq _ h1 (by omega), common_takeR, List.length_take, List.length_drop] at k3
  have h7 := runMax_ge (t.words.drop p.from_.toNat) (gi c.texts p.text).words p.at_.toNat
  have h8 := longW_ge (a := t.words.drop p.from_.toNat) (gi_mem h5)
  omega
theorem drop_getD {l : List Nat} {i : Nat} (h : i < l.length) : l.drop i = l.getD i 0 :: l.drop (i + 1) := by
  rw [List.drop_eq_getElem_cons h, List.getD_eq_getElem?_getD, List.getElem?_eq_getElem h]; rfl
theorem best_le {c : Corpus} {t : Text} {least : Int} (hl : 1 ≤ least) : ∀ (l : List Piece) (e : Int), 0 ≤ e → e ≤ t.words.length → checkPs c t least e l = 0 → ¬ betV (coverF l, (l.length : Int)) (val2 (valA least.toNat ((longsN c.texts t.words).drop e.toNat))) = true
  | [], e, _, _, _ => valA_nn (by omega) _
  | p :: l, e, h0, h1, h => by
    rw [checkPs] at h
    split at h
    · next hp =>
      split at h
      · cases h
      · next he =>
        obtain ⟨⟨h2, h3, h4⟩, h5, _, _⟩ := (pieceOk_iff _ _ _ _).1 hp
        have ih := best_le hl l p.to (by omega) h4 h
        have hk := ok_long hp
        generalize hlos : longsN c.texts t.words = los at ih ⊢
        have hn : los.length = t.words.length := by rw [← hlos, longsN_len]
        have m1 := valA_mono (least := least.toNat) (by omega) (los.drop e.toNat) (p.from_ - e).toNat
        rw [List.drop_drop, show e.toNat + (p.from_ - e).toNat = p.from_.toNat by omega] at m1
        have hg : los.getD p.from_.toNat 0 = longW c.texts (t.words.drop p.from_.toNat) := by rw [← hlos]; exact longsN_get _ _ _ (by omega)
        have C := stepV_chosen (least := least.toNat) (by omega) (dpL least.toNat (los.drop (p.from_.toNat + 1))) (los.getD p.from_.toNat 0)
        rw [← valA_cons, ← drop_getD (by omega)] at C
        have g := C.gek (p.to - p.from_).toNat (fromTo_mem.2 ⟨by omega, by omega⟩)
        rw [cand_eq (by omega) (by rw [List.length_drop]; omega), List.drop_drop, show p.from_.toNat + 1 + ((p.to - p.from_).toNat - 1) = p.to.toNat by omega] at g
        rw [coverF_cons, List.length_cons]
        rw [betV_iff] at ih m1 g ⊢
        simp only [val2] at ih m1 g ⊢
        omega
    · cases h
/-- The pieces that are cut out. -/
theorem srcF_ok {c : Corpus} {w : List Lexeme} {m : Nat} (h0 : 0 < m) (h : m ≤ longW c.texts w) : ∃ i k : Nat, srcF c (w.take m) = ((i : Int), (k : Int)) ∧ srcT (w.take m) c.texts = some (i, k) ∧ ∃ hi : i < c.texts.length, sameF (w.take m) (c.texts[i]).words (k : Int) = true := by
  obtain ⟨⟨i, k⟩, hp⟩ := srcT_ex h0 h
  obtain ⟨h1, h2, _⟩ := srcT_some hp
  obtain ⟨h3, h4, _⟩ := srcW_some h2
  refine ⟨i, k, by unfold srcF; rw [hp], hp, h1, (sameF_iff _ _ _).2 ⟨by omega, ?_, by simpa using h4⟩⟩
  have := (common_le ((c.texts[i]).words.drop k) (w.take m)).1
  rw [List.length_drop] at this
  simp only at h3 h4 this
  omega
theorem pieceF_ok {c : Corpus} {t : Text} {least : Int} {p : Nat × Nat} (hl : 1 ≤ least) (h0 : least.toNat ≤ p.2) (h : p.1 < t.words.length) (h1 : p.2 ≤ longW c.texts (t.words.drop p.1)) : pieceOk c t least (pieceF c t p) = true := by
  have hle := longW_le c.texts (t.words.drop p.1)
  rw [List.length_drop] at hle
  obtain ⟨i, k, e, _, hi, hs⟩ := srcF_ok (c := c) (w := t.words.drop p.1) (m := p.2) (by omega) h1
  unfold pieceF
  rw [e]
  refine (pieceOk_iff _ _ _ _).2 ⟨⟨by simp only; omega, by simp only; omega, by simp only; omega⟩, by simp only; omega, ⟨by simp only; omega, by simp only; omega⟩, ?_⟩
  simp only
  rw [lsub_eq _ (by omega) (by omega), gi_nat hi, show ((((p.1 + p.2 : Nat) : Int)) - (p.1 : Int)).toNat = p.2 by omega, show ((p.1 : Nat) : Int).toNat = p.1 by omega]
  exact hs
theorem cut_right {c : Corpus} {t : Text} {least : Int} (hl : 1 ≤ least) : ∀ (ps : List (Nat × Nat)) (e : Int), (∀ p ∈ ps, e ≤ p.1 ∧ p.1 < t.words.length ∧ least.toNat ≤ p.2 ∧ p.2 ≤ longW c.texts (t.words.drop p.1)) → ps.Pairwise (fun a b => a.1 + a.2 ≤ b.1) → checkPs c t least e (ps.map (pieceF c t)) = 0
  | [], e, _, _ => rfl
  | p :: ps, e, h, hs => by
    obtain ⟨hs1, hs2⟩ := List.pairwise_cons.1 hs
    obtain ⟨h1, h2, h3, h4⟩ := h p (by simp)
    rw [List.map_cons, checkPs, if_pos (pieceF_ok hl h3 h2 h4), if_neg (by simp only [pieceF]; omega)]
    refine cut_right hl ps _ (fun q hq => ?_) hs2
    obtain ⟨_, k2, k3, k4⟩ := h q (by simp [hq])
    have := hs1 q hq
    exact ⟨by simp only [pieceF]; omega, k2, k3, k4⟩
theorem cover_map (c : Corpus) (t : Text) : ∀ ps : List (Nat × Nat), coverF (ps.map (pieceF c t)) = ((ps.map fun p => p.2).sum : Int)
  | [] => rfl
  | p :: ps => by
    rw [List.map_cons, coverF_cons, cover_map c t ps, List.map_cons, List.sum_cons]
    simp only [pieceF]; omega
abbrev lenL (c : Corpus) (t : Text) (least : Nat) : List Nat := (dpL least (longsN c.texts t.words)).map fun v => v.2.2
theorem found_right {c : Corpus} {t : Text} {least : Int} (hl : 1 ≤ least) : checkPs c t least 0 (piecesF c t least.toNat) = 0 := by
  obtain ⟨h1, h2⟩ := cut_mem (least := least.toNat) (by omega) (longsN c.texts t.words) 0 0 (fit_longs _ _) (by omega)
  refine cut_right hl _ 0 (fun p hp => ?_) h2
  obtain ⟨k1, k2, k3, k4⟩ := h1 p hp
  rw [longsN_len] at k2
  rw [Nat.sub_zero, longsN_get _ _ _ (by omega)] at k4
  exact ⟨by omega, by omega, k3, k4⟩
theorem found_val {c : Corpus} {t : Text} {least : Int} (hl : 1 ≤ least) : coverF (piecesF c t least.toNat) = (valA least.toNat (longsN c.texts t.words)).1 ∧ ((piecesF c t least.toNat).length : Int) = (valA least.toNat (longsN c.texts t.words)).2.1 := by
  obtain ⟨h1, h2⟩ := cut_val (least := least.toNat) (by omega) (longsN c.texts t.words) 0 0 (fit_longs _ _) (by omega)
  rw [List.drop_zero] at h1 h2
  unfold piecesF
  rw [cover_map, List.length_map]
  exact ⟨h1, h2⟩
/-- THE BEST: no list that is right covers more words, or as many with fewer pieces. -/
theorem found_best {c : Corpus} {t : Text} {least : Int} (hl : 1 ≤ least) {l : List Piece} (h : checkPs c t least 0 l = 0) : coverF l < coverF (piecesF c t least.toNat) ∨ (coverF l = coverF (piecesF c t least.toNat) ∧ ((piecesF c t least.toNat).length : Int) ≤ l.length) := by
  have h1 := best_le hl l 0 (by omega) (by omega) h
  obtain ⟨h2, h3⟩ := found_val (c := c) (t := t) hl
  rw [show ((0 : Int)).toNat = 0 by rfl, List.drop_zero, betV_iff] at h1
  simp only [val2] at h1
  omega
end Go.Lic

set_option linter.all false
namespace Go.Lic
open Go.Sort

theorem checkPs_cons {c : Corpus} {t : Text} {least e : Int} {p : Piece} {l : List Piece} : checkPs c t least e (p :: l) = 0 ↔ pieceOk c t least p = true ∧ e ≤ p.from_ ∧ checkPs c t least p.to l = 0 := by
  rw [checkPs]
  split
  · next hp =>
    split
    · next h => exact ⟨(fun h => by cases h), fun ⟨_, h2, _⟩ => by omega⟩
    · next h => exact ⟨fun h2 => ⟨hp, by omega, h2⟩, fun ⟨_, _, h2⟩ => h2⟩
  · next hp => exact ⟨fun h => (by cases h), fun ⟨h, _⟩ => absurd h hp⟩
/-- Pieces that are right contain at most the words behind their beginning. -/
theorem cover_le {c : Corpus} {t : Text} {least : Int} : ∀ (l : List Piece) (e : Int), e ≤ t.words.length → checkPs c t least e l = 0 → coverF l ≤ t.words.length - e ∧ 0 ≤ coverF l
  | [], e, he, _ => by rw [coverF_nil]; omega
  | p :: l, e, he, h => by
    obtain ⟨h1, h2, h3⟩ := checkPs_cons.1 h
    obtain ⟨⟨k1, k2, k3⟩, _⟩ := (pieceOk_iff _ _ _ _).1 h1
    obtain ⟨i1, i2⟩ := cover_le l p.to k3 h3
    rw [coverF_cons]; omega
theorem checkPs_mem {c : Corpus} {t : Text} {least : Int} : ∀ (l : List Piece) (e : Int), checkPs c t least e l = 0 → ∀ p ∈ l, pieceOk c t least p = true
  | [], e, _, p, hp => by cases hp
  | q :: l, e, h, p, hp => by
    obtain ⟨h1, h2, h3⟩ := checkPs_cons.1 h
    rcases List.mem_cons.1 hp with rfl | hp
    · exact h1
    · exact checkPs_mem l q.to h3 p hp
theorem common_self : ∀ l : List Lexeme, commonW l l = l.length
  | [] => rfl
  | x :: l => by rw [commonW, if_pos rfl, common_self l]; rfl
theorem common_texts : ∀ (a b b' : List Lexeme), b.map (fun w => w.text) = b'.map (fun w => w.text) → commonW a b = commonW a b'
  | [], b, b', _ => by simp [commonW]
  | x :: a, [], [], _ => rfl
  | x :: a, [], y :: b', h => by simp at h
  | x :: a, y :: b, [], h => by simp at h
  | x :: a, y :: b, z :: b', h => by
    simp only [List.map_cons, List.cons.injEq] at h
    rw [commonW, commonW, h.1, common_texts a b b' h.2]
/-- THE WHOLE: a text of the corpus is one piece, from itself or from an earlier text. -/
theorem known_one {c : Corpus} {k : Int} (hk : inL k c.texts.length) (hn : 0 < (gi c.texts k).words.length) : ∃ i a : Nat, (i : Int) ≤ k ∧ i < c.texts.length ∧ piecesF c (gi c.texts k) 1 = [⟨0, ((gi c.texts k).words.length : Int), (i : Int), (a : Int)⟩] := by
  generalize ht : gi c.texts k = t at hn ⊢
  have hmem : t ∈ c.texts := by rw [← ht]; exact gi_mem hk
  have hself : pieceOk c t 1 ⟨0, (t.words.length : Int), k, 0⟩ = true := by
    refine (pieceOk_iff _ _ _ _).2 ⟨⟨by simp only; omega, by simp only; omega, by simp only; omega⟩, by simp only; omega, hk, ?_⟩
    simp only
    have e : lsub t.words 0 (t.words.length : Int) = t.words := by rw [lsub_to]; exact List.take_of_length_le (by omega)
    rw [ht, e, sameF_iff]
    exact ⟨by omega, by omega, common_self _⟩
  have hone : checkPs c t 1 0 [⟨0, (t.words.length : Int), k, 0⟩] = 0 := checkPs_cons.2 ⟨hself, by simp only; omega, rfl⟩
  have hb := found_best (c := c) (t := t) (least := 1) (by omega) hone
  have hr := found_right (c := c) (t := t) (least := 1) (by omega)
  have hc := cover_le _ 0 (by omega) hr
  rw [coverF_cons, coverF_nil] at hb
  simp only [List.length_cons, List.length_nil] at hb
  rw [show ((1 : Int)).toNat = 1 by rfl] at hb hr hc
  have h1 : (piecesF c t 1).length ≤ 1 := by omega
  have h2 : coverF (piecesF c t 1) = t.words.length := by omega
  have hsrc : ∃ p, srcT t.words c.texts = some p := by
    have hw : t.words.length ≤ longW c.texts t.words := by
      have a1 := runMax_ge t.words t.words 0
      rw [List.drop_zero, common_self] at a1
      have a2 := longW_ge (a := t.words) hmem
      omega
    have := srcT_ex hn hw
    rwa [List.take_of_length_le (Nat.le_refl _)] at this
  obtain ⟨⟨i, a⟩, hp⟩ := hsrc
  obtain ⟨s1, s2, s3⟩ := srcT_some hp
  refine ⟨i, a, ?_, s1, ?_⟩
  · apply Classical.byContradiction
    intro hlt
    have h5 := s3 k.toNat (by simp only; omega)
    have h6 : c.texts[k.toNat]'(by omega) = t := by rw [← ht, gi_lt hk]
    rw [h6] at h5
    refine srcW_none h5 0 hn ?_
    rw [List.drop_zero]; exact common_self _
  · unfold piecesF at h1 h2 hr ⊢
    generalize hq : cutL 0 0 ((dpL 1 (longsN c.texts t.words)).map fun v => v.2.2) = qs at h1 h2 hr ⊢
    match qs, h1, h2, hr with
    | [], _, h2, _ => rw [List.map_nil, coverF_nil] at h2; omega
    | [q], _, h2, hr =>
      rw [List.map_cons, List.map_nil] at h2 hr ⊢
      obtain ⟨h3, _, _⟩ := checkPs_cons.1 hr
      obtain ⟨⟨k1, k2, k3⟩, _⟩ := (pieceOk_iff _ _ _ _).1 h3
      rw [coverF_cons, coverF_nil] at h2
      obtain ⟨q1, q2⟩ := q
      simp only [pieceF] at k1 k2 k3 h2
      have e1 : q1 = 0 := by omega
      have e2 : q2 = t.words.length := by omega
      subst e1 e2
      have e3 : srcF c ((t.words.drop 0).take t.words.length) = ((i : Int), (a : Int)) := by
        rw [List.drop_zero, List.take_of_length_le (Nat.le_refl _)]
        unfold srcF
        rw [hp]
      simp only [pieceF]
      rw [e3]
      simp
    | q :: q' :: l, h1, _, _ => simp at h1

/-! a text that is put together -/
theorem lsub_app {α : Type} (a b : List α) {i j : Int} (h : j ≤ a.length) : lsub (a ++ b) i j = lsub a i j := by
  unfold lsub
  rw [List.take_append_of_le_length (by omega)]
theorem pieceOk_ext {c : Corpus} {path path' : ByteArray} {ws ys : List Lexeme} {least : Int} {p : Piece} (h : pieceOk c ⟨path, ws⟩ least p = true) : pieceOk c ⟨path', ws ++ ys⟩ least p = true := by
  obtain ⟨⟨k1, k2, k3⟩, k4, k5, k6⟩ := (pieceOk_iff _ _ _ _).1 h
  simp only at k3
  refine (pieceOk_iff _ _ _ _).2 ⟨⟨k1, k2, by simp only [List.length_append]; omega⟩, k4, k5, ?_⟩
  simp only
  rw [lsub_app _ _ k3]; exact k6
theorem checkPs_ext {c : Corpus} {path path' : ByteArray} {ws ys : List Lexeme} {least : Int} : ∀ (l : List Piece) (e : Int), checkPs c ⟨path, ws⟩ least e l = 0 → checkPs c ⟨path', ws ++ ys⟩ least e l = 0
  | [], e, _ => rfl
  | p :: l, e, h => by
    obtain ⟨h1, h2, h3⟩ := checkPs_cons.1 h
    exact checkPs_cons.2 ⟨pieceOk_ext h1, h2, checkPs_ext l p.to h3⟩
theorem checkPs_snoc {c : Corpus} {t : Text} {least : Int} {p : Piece} (hp : pieceOk c t least p = true) : ∀ (l : List Piece) (e : Int), checkPs c t least e l = 0 → (∀ q ∈ l, q.to ≤ p.from_) → e ≤ p.from_ → checkPs c t least e (l ++ [p]) = 0
  | [], e, _, _, he => checkPs_cons.2 ⟨hp, he, rfl⟩
  | q :: l, e, h, hq, he => by
    obtain ⟨h1, h2, h3⟩ := checkPs_cons.1 h
    exact checkPs_cons.2 ⟨h1, h2, checkPs_snoc hp l q.to h3 (fun r hr => hq r (by simp [hr])) (hq q (by simp))⟩
/-- What is known of a text that runs make up. -/
structure Made (c : Corpus) (least : Int) (ws : List Lexeme) (many : Int) (ps : List Piece) : Prop where
  right : checkPs c ⟨⟨#[]⟩, ws⟩ least 0 ps = 0
  cover : coverF ps = ws.length
  many : (ps.length : Int) = many
theorem Made.step {c : Corpus} {least : Int} {ws : List Lexeme} {many : Int} {ps : List Piece} (h : Made c least ws many ps) {x from_ to : Int} {ys : List Lexeme} (hx : inL x c.texts.length) (h0 : 0 ≤ from_) (h1 : from_ ≤ to) (h2 : to ≤ (gi c.texts x).words.length) (hl : least ≤ to - from_) (h3 : 1 ≤ least)
    (hy : ys.map (fun w => w.text) = (lsub (gi c.texts x).words from_ to).map fun w => w.text) : Made c least (ws ++ ys) (many + 1) (ps ++ [⟨ws.length, ws.length + (to - from_), x, from_⟩]) := by
  have hyl := congrArg List.length hy
  rw [lsub_eq _ h0 h1] at hy hyl
  simp only [List.length_map, List.length_take, List.length_drop] at hyl
  have hyl2 : (ys.length : Int) = to - from_ := by omega
  have hp : pieceOk c ⟨⟨#[]⟩, ws ++ ys⟩ least ⟨ws.length, ws.length + (to - from_), x, from_⟩ = true := by
    refine (pieceOk_iff _ _ _ _).2 ⟨⟨by simp only; omega, by simp only; omega, by simp only [List.length_append]; omega⟩, by simp only; omega, hx, ?_⟩
    simp only
    have e : lsub (ws ++ ys) (ws.length : Int) ((ws.length : Int) + (to - from_)) = ys := by
      unfold lsub
      rw [List.take_of_length_le (by rw [List.length_append]; omega), show ((ws.length : Int)).toNat = ws.length by omega, List.drop_left]
    rw [e, sameF_iff]
    refine ⟨h0, by omega, ?_⟩
    rw [common_texts _ _ _ hy, common_takeR, common_self, List.length_drop]
    omega
  refine ⟨checkPs_snoc hp _ _ (checkPs_ext _ _ h.right) (fun q hq => ?_) (by simp only; omega), ?_, ?_⟩
  · obtain ⟨⟨_, _, k3⟩, _⟩ := (pieceOk_iff _ _ _ _).1 (checkPs_mem _ _ h.right q hq)
    exact k3
  · rw [coverF_app, h.cover, coverF_cons, coverF_nil, List.length_append]
    simp only; omega
  · rw [List.length_append, ← h.many]; simp
/-- A text that was put together is covered wholly, by at most as many pieces. -/
theorem made_found {c : Corpus} {least : Int} {ws : List Lexeme} {many : Int} {ps : List Piece} (h : Made c least ws many ps) (h1 : 1 ≤ least) (path : ByteArray) : coverF (piecesF c ⟨path, ws⟩ least.toNat) = ws.length ∧ ((piecesF c ⟨path, ws⟩ least.toNat).length : Int) ≤ many := by
  have hr : checkPs c ⟨path, ws⟩ least 0 ps = 0 := by
    have := checkPs_ext (ys := []) (path' := path) ps 0 h.right
    rwa [List.append_nil] at this
  have hb := found_best (c := c) (t := ⟨path, ws⟩) h1 hr
  have hc := cover_le _ 0 (by omega) (found_right (c := c) (t := ⟨path, ws⟩) h1)
  have e1 := h.cover; have e2 := h.many
  simp only at hc
  omega

/-! shares -/
theorem sum_si {l : List Int} {i : Int} (h : inL i l.length) (v : Int) : (si l i (gi l i + v)).sum = l.sum + v := by
  obtain ⟨n, rfl⟩ := Int.eq_ofNat_of_zero_le h.1
  have hn : n < l.length := by omega
  clear h
  induction l generalizing n with
  | nil => simp at hn
  | cons x l ih =>
    cases n with
    | zero =>
      have e : gi (x :: l) ((0 : Nat) : Int) = x := rfl
      rw [e]
      show ((x + v) :: l).sum = _
      rw [List.sum_cons, List.sum_cons]; omega
    | succ n =>
      have e : gi (x :: l) ((n + 1 : Nat) : Int) = gi l (n : Int) := gi_cons x l n
      rw [e]
      have := ih n (by simpa using hn)
      show (x :: si l (n : Int) (gi l (n : Int) + v)).sum = _
      rw [List.sum_cons, List.sum_cons, this]; omega
theorem share_sum : ∀ (l : List Piece) (out : List Int), (∀ p ∈ l, inL p.text out.length) → (l.foldl (fun out p => si out p.text (gi out p.text + (p.to - p.from_))) out).sum = out.sum + coverF l
  | [], out, _ => by simp
  | p :: l, out, h => by
    rw [List.foldl_cons, share_sum l _ (fun q hq => by rw [si_length]; exact h q (by simp [hq])), sum_si (h p (by simp)), coverF_cons]; omega
theorem rep_sum : ∀ n : Nat, (List.replicate n (0 : Int)).sum = 0
  | 0 => rfl
  | n + 1 => by rw [List.replicate_succ, List.sum_cons, rep_sum n]; rfl
theorem shareL_sum {n : Nat} {l : List Piece} (h : ∀ p ∈ l, inL p.text n) : (shareL n l).sum = coverF l := by
  unfold shareL
  rw [share_sum l _ (fun p hp => by rw [List.length_replicate]; exact h p hp)]
  rw [rep_sum]; omega
end Go.Lic
