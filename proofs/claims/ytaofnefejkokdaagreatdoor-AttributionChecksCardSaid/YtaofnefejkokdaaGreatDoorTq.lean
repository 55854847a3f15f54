/-
  Attributions: what is found is right, and no other list that is right is better. No program in sight.
-/
import Derived.Test.YtaofnefejkokdaaGreatDoorTn
set_option linter.all false
namespace Go.Lic
open Go.Sort
theorem coverF_from : ∀ (l : List Piece) (n : Int), l.foldl (fun n p => n + (p.to - p.from_)) n = n + coverF l
 | [], n => by simp [coverF]
 | p :: l, n => by
   have h1 := coverF_from l (n + (p.to - p.from_))
   have h2 := coverF_from l (0 + (p.to - p.from_))
   unfold coverF at h1 h2 ⊢
   rw [List.foldl_cons, List.foldl_cons, h1, h2]; omega
@[simp] theorem coverF_nil : coverF [] = 0 := rfl
theorem coverF_cons (p : Piece) (l : List Piece) : coverF (p :: l) = (p.to - p.from_) + coverF l := by
 have := coverF_from l (0 + (p.to - p.from_))
 unfold coverF at this ⊢
 rw [List.foldl_cons, this]; omega
theorem coverF_app (a b : List Piece) : coverF (a ++ b) = coverF a + coverF b := by
 induction a with
 | nil => simp
 | cons p a ih => rw [List.cons_append, coverF_cons, coverF_cons, ih]; omega
theorem rangedF_iff (t : Text) (p : Piece) : rangedF t p = true ↔ 0 ≤ p.from_ ∧ p.from_ < p.to ∧ p.to ≤ t.words.length := by
 unfold rangedF; simp [and_assoc]
theorem sameF_iff (a l : List Lexeme) (i : Int) : sameF a l i = true ↔ 0 ≤ i ∧ i + a.length ≤ l.length ∧ commonW (l.drop i.toNat) a = a.length := by
 unfold sameF; simp [and_assoc]
theorem pieceOk_iff (c : Corpus) (t : Text) (least : Int) (p : Piece) : pieceOk c t least p = true ↔ (0 ≤ p.from_ ∧ p.from_ < p.to ∧ p.to ≤ t.words.length) ∧ least ≤ p.to - p.from_ ∧ inL p.text c.texts.length ∧ sameF (lsub t.words p.from_ p.to) (gi c.texts p.text).words p.at_ = true := by
 unfold pieceOk
 simp only [Bool.and_eq_true, rangedF_iff, decide_eq_true_eq, and_assoc]
theorem lsub_eq {α : Type} (l : List α) {i j : Int} (h0 : 0 ≤ i) (h1 : i ≤ j) : lsub l i j = (l.drop i.toNat).take (j - i).toNat := by
 unfold lsub
 rw [List.drop_take, show j.toNat - i.toNat = (j - i).toNat by omega]
theorem drop_getD {l : List Nat} {i : Nat} (h : i < l.length) : l.drop i = l.getD i 0 :: l.drop (i + 1) := by
 rw [List.drop_eq_getElem_cons h, List.getD_eq_getElem?_getD, List.getElem?_eq_getElem h]; rfl
theorem srcF_ok {c : Corpus} {w : List Lexeme} {m : Nat} (h0 : 0 < m) (h : m ≤ longW c.texts w) : ∃ i k : Nat, srcF c (w.take m) = ((i : Int), (k : Int)) ∧ srcT (w.take m) c.texts = some (i, k) ∧ ∃ hi : i < c.texts.length, sameF (w.take m) (c.texts[i]).words (k : Int) = true := by
 obtain ⟨⟨i, k⟩, hp⟩ := srcT_ex h0 h
 obtain ⟨h1, h2, _⟩ := srcT_some hp
 obtain ⟨h3, h4, _⟩ := srcW_some h2
 refine ⟨i, k, by unfold srcF; rw [hp], hp, h1, (sameF_iff _ _ _).2 ⟨by omega, ?_, by simpa using h4⟩⟩
 have := (common_le ((c.texts[i]).words.drop k) (w.take m)).1
 rw [List.length_drop] at this
 simp only at h3 h4 this
 omega
theorem pieceF_ok {c : Corpus} {t : Text} {least : Int} {p : Nat × Nat} (hl : 1 ≤ least) (h0 : least.toNat ≤ p.2) (h : p.1 < t.words.length) (h1 : p.2 ≤ longW c.texts (t.words.drop p.1)) : pieceOk c t least (pieceF c t p) = true := by
 have hle := longW_le c.texts (t.words.drop p.1)
 rw [List.length_drop] at hle
 obtain ⟨i, k, e, _, hi, hs⟩ := srcF_ok (c := c) (w := t.words.drop p.1) (m := p.2) (by omega) h1
 unfold pieceF
 rw [e]
 refine (pieceOk_iff _ _ _ _).2 ⟨⟨by simp only; omega, by simp only; omega, by simp only; omega⟩, by simp only; omega, ⟨by simp only; omega, by simp only; omega⟩, ?_⟩
 simp only
 rw [lsub_eq _ (by omega) (by omega), gi_nat hi, show ((((p.1 + p.2 : Nat) : Int)) - (p.1 : Int)).toNat = p.2 by omega, show ((p.1 : Nat) : Int).toNat = p.1 by omega]
 exact hs
theorem cut_right {c : Corpus} {t : Text} {least : Int} (hl : 1 ≤ least) : ∀ (ps : List (Nat × Nat)) (e : Int), (∀ p ∈ ps, e ≤ p.1 ∧ p.1 < t.words.length ∧ least.toNat ≤ p.2 ∧ p.2 ≤ longW c.texts (t.words.drop p.1)) → ps.Pairwise (fun a b => a.1 + a.2 ≤ b.1) → checkPs c t least e (ps.map (pieceF c t)) = 0
 | [], e, _, _ => rfl
 | p :: ps, e, h, hs => by
   obtain ⟨hs1, hs2⟩ := List.pairwise_cons.1 hs
   obtain ⟨h1, h2, h3, h4⟩ := h p (by simp)
   rw [List.map_cons, checkPs, if_pos (pieceF_ok hl h3 h2 h4), if_neg (by simp only [pieceF]; omega)]
   refine cut_right hl ps _ (fun q hq => ?_) hs2
   obtain ⟨_, k2, k3, k4⟩ := h q (by simp [hq])
   have := hs1 q hq
   exact ⟨by simp only [pieceF]; omega, k2, k3, k4⟩
abbrev lenL (c : Corpus) (t : Text) (least : Nat) : List Nat := (dpL least (longsN c.texts t.words)).map fun v => v.2.2
theorem found_right {c : Corpus} {t : Text} {least : Int} (hl : 1 ≤ least) : checkPs c t least 0 (piecesF c t least.toNat) = 0 := by
 obtain ⟨h1, h2⟩ := cut_mem (least := least.toNat) (by omega) (longsN c.texts t.words) 0 0 (fit_longs _ _) (by omega)
 refine cut_right hl _ 0 (fun p hp => ?_) h2
 obtain ⟨k1, k2, k3, k4⟩ := h1 p hp
 rw [longsN_len] at k2
 rw [Nat.sub_zero, longsN_get _ _ _ (by omega)] at k4
 exact ⟨by omega, by omega, k3, k4⟩
end Go.Lic
set_option linter.all false
namespace Go.Lic
open Go.Sort
theorem checkPs_cons {c : Corpus} {t : Text} {least e : Int} {p : Piece} {l : List Piece} : checkPs c t least e (p :: l) = 0 ↔ pieceOk c t least p = true ∧ e ≤ p.from_ ∧ checkPs c t least p.to l = 0 := by
 rw [checkPs]
 split
 · next hp =>
   split
   · next h => exact ⟨(fun h => by cases h), fun ⟨_, h2, _⟩ => by omega⟩
   · next h => exact ⟨fun h2 => ⟨hp, by omega, h2⟩, fun ⟨_, _, h2⟩ => h2⟩
 · next hp => exact ⟨fun h => (by cases h), fun ⟨h, _⟩ => absurd h hp⟩
theorem cover_le {c : Corpus} {t : Text} {least : Int} : ∀ (l : List Piece) (e : Int), e ≤ t.words.length → checkPs c t least e l = 0 → coverF l ≤ t.words.length - e ∧ 0 ≤ coverF l
 | [], e, he, _ => by rw [coverF_nil]; omega
 | p :: l, e, he, h => by
   obtain ⟨h1, h2, h3⟩ := checkPs_cons.1 h
   obtain ⟨⟨k1, k2, k3⟩, _⟩ := (pieceOk_iff _ _ _ _).1 h1
   obtain ⟨i1, i2⟩ := cover_le l p.to k3 h3
   rw [coverF_cons]; omega
theorem checkPs_mem {c : Corpus} {t : Text} {least : Int} : ∀ (l : List Piece) (e : Int), checkPs c t least e l = 0 → ∀ p ∈ l, pieceOk c t least p = true
 | [], e, _, p, hp => by cases hp
 | q :: l, e, h, p, hp => by
   obtain ⟨h1, h2, h3⟩ := checkPs_cons.1 h
   rcases List.mem_cons.1 hp with rfl | hp
   · exact h1
   · exact checkPs_mem l q.to h3 p hp
theorem common_self : ∀ l : List Lexeme, commonW l l = l.length
 | [] => rfl
 | x :: l => by rw [commonW, if_pos rfl, common_self l]; rfl
theorem common_texts : ∀ (a b b' : List Lexeme), b.map (fun w => w.text) = b'.map (fun w => w.text) → commonW a b = commonW a b'
 | [], b, b', _ => by simp [commonW]
 | x :: a, [], [], _ => rfl
 | x :: a, [], y :: b', h => by simp at h
 | x :: a, y :: b, [], h => by simp at h
 | x :: a, y :: b, z :: b', h => by
   simp only [List.map_cons, List.cons.injEq] at h
   rw [commonW, commonW, h.1, common_texts a b b' h.2]
theorem lsub_app {α : Type} (a b : List α) {i j : Int} (h : j ≤ a.length) : lsub (a ++ b) i j = lsub a i j := by
 unfold lsub
 rw [List.take_append_of_le_length (by omega)]
theorem pieceOk_ext {c : Corpus} {path path' : ByteArray} {ws ys : List Lexeme} {least : Int} {p : Piece} (h : pieceOk c ⟨path, ws⟩ least p = true) : pieceOk c ⟨path', ws ++ ys⟩ least p = true := by
 obtain ⟨⟨k1, k2, k3⟩, k4, k5, k6⟩ := (pieceOk_iff _ _ _ _).1 h
 simp only at k3
 refine (pieceOk_iff _ _ _ _).2 ⟨⟨k1, k2, by simp only [List.length_append]; omega⟩, k4, k5, ?_⟩
 simp only
 rw [lsub_app _ _ k3]; exact k6
theorem checkPs_ext {c : Corpus} {path path' : ByteArray} {ws ys : List Lexeme} {least : Int} : ∀ (l : List Piece) (e : Int), checkPs c ⟨path, ws⟩ least e l = 0 → checkPs c ⟨path', ws ++ ys⟩ least e l = 0
 | [], e, _ => rfl
 | p :: l, e, h => by
   obtain ⟨h1, h2, h3⟩ := checkPs_cons.1 h
   exact checkPs_cons.2 ⟨pieceOk_ext h1, h2, checkPs_ext l p.to h3⟩
theorem checkPs_snoc {c : Corpus} {t : Text} {least : Int} {p : Piece} (hp : pieceOk c t least p = true) : ∀ (l : List Piece) (e : Int), checkPs c t least e l = 0 → (∀ q ∈ l, q.to ≤ p.from_) → e ≤ p.from_ → checkPs c t least e (l ++ [p]) = 0
 | [], e, _, _, he => checkPs_cons.2 ⟨hp, he, rfl⟩
 | q :: l, e, h, hq, he => by
   obtain ⟨h1, h2, h3⟩ := checkPs_cons.1 h
   exact checkPs_cons.2 ⟨h1, h2, checkPs_snoc hp l q.to h3 (fun r hr => hq r (by simp [hr])) (hq q (by simp))⟩
structure Made (c : Corpus) (least : Int) (ws : List Lexeme) (many : Int) (ps : List Piece) : Prop where
 right : checkPs c ⟨⟨#[]⟩, ws⟩ least 0 ps = 0
 cover : coverF ps = ws.length
 many : (ps.length : Int) = many
theorem Made.step {c : Corpus} {least : Int} {ws : List Lexeme} {many : Int} {ps : List Piece} (h : Made c least ws many ps) {x from_ to : Int} {ys : List Lexeme} (hx : inL x c.texts.length) (h0 : 0 ≤ from_) (h1 : from_ ≤ to) (h2 : to ≤ (gi c.texts x).words.length) (hl : least ≤ to - from_) (h3 : 1 ≤ least)
   (hy : ys.map (fun w => w.text) = (lsub (gi c.texts x).words from_ to).map fun w => w.text) : Made c least (ws ++ ys) (many + 1) (ps ++ [⟨ws.length, ws.length + (to - from_), x, from_⟩]) := by
 have hyl := congrArg List.length hy
 rw [lsub_eq _ h0 h1] at hy hyl
 simp only [List.length_map, List.length_take, List.length_drop] at hyl
 have hyl2 : (ys.length : Int) = to - from_ := by omega
 have hp : pieceOk c ⟨⟨#[]⟩, ws ++ ys⟩ least ⟨ws.length, ws.length + (to - from_), x, from_⟩ = true := by
   refine (pieceOk_iff _ _ _ _).2 ⟨⟨by simp only; omega, by simp only; omega, by simp only [List.length_append]; omega⟩, by simp only; omega, hx, ?_⟩
   simp only
   have e : lsub (ws ++ ys) (ws.length : Int) ((ws.length : Int) + (to - from_)) = ys := by
     unfold lsub
     rw [List.take_of_length_le (by rw [List.length_append]; omega), show ((ws.length : Int)).toNat = ws.length by omega, List.drop_left]
   rw [e, sameF_iff]
   refine ⟨h0, by omega, ?_⟩
   rw [common_texts _ _ _ hy, common_takeR, common_self, List.length_drop]
   omega
 refine ⟨checkPs_snoc hp _ _ (checkPs_ext _ _ h.right) (fun q hq => ?_) (by simp only; omega), ?_, ?_⟩
 · obtain ⟨⟨_, _, k3⟩, _⟩ := (pieceOk_iff _ _ _ _).1 (checkPs_mem _ _ h.right q hq)
   exact k3
 · rw [coverF_app, h.cover, coverF_cons, coverF_nil, List.length_append]
   simp only; omega
 · rw [List.length_append, ← h.many]; simp
theorem share_len (n : Nat) : ∀ (l : List Piece) (out : List Int), (l.foldl (fun out p => si out p.text (gi out p.text + (p.to - p.from_))) out).length = out.length
 | [], out => rfl
 | p :: l, out => by rw [List.foldl_cons, share_len n l, si_length]
theorem shareL_len (n : Nat) (l : List Piece) : (shareL n l).length = n := by unfold shareL; rw [share_len n, List.length_replicate]
end Go.Lic
