/-
  What is near: a run of words in common gives a fingerprint in common; which texts are named. No program in sight.
-/
import Derived.Test.YtglclijalehcmaaGreatDoorCw
set_option linter.all false
namespace Go.Lic
open Go.Proofs Go.Sort Go.Shelf

theorem insS_perm (cf : Int → Int → Int) (x : Int) : ∀ l : List Int, (insS cf x l).Perm (x :: l)
  | [] => .refl _
  | y :: l => by
    rw [insS]
    split
    · exact .refl _
    · exact ((insS_perm cf x l).cons y).trans (.swap _ _ _)
theorem isort_perm (cf : Int → Int → Int) (l : List Int) : (isortF cf l).Perm l := by
  refine snoc_ind (P := fun l => (isortF cf l).Perm l) (.refl _) (fun l x ih => ?_) l
  rw [isortF_snoc]
  exact (insS_perm cf x _).trans ((ih.cons x).trans (List.perm_append_comm (l₁ := [x]) (l₂ := l)))
def near0 (c : Corpus) (l : List Print) : List Int := ((List.range c.texts.length).filter fun i => decide (0 < sharedN c l (i : Nat))).map fun i => ((i : Nat) : Int)
theorem near_perm {c : Corpus} {l : List Print} (hs : PSorted c.posts) : (nearL c l).Perm (near0 c l) := by
  have hcf : ∀ a b : Int, (fun a b : Int => cmpI ((sharedN c l b : Nat) : Int) ((sharedN c l a : Nat) : Int)) a b < 0 ↔ sharedN c l b < sharedN c l a := fun a b => by
    show cmpI _ _ < 0 ↔ _
    rw [cmpI_neg]; omega
  rw [← near_sort hs hcf]
  exact isort_perm _ _
theorem near_mem {c : Corpus} {l : List Print} (hs : PSorted c.posts) {x : Int} : x ∈ nearL c l ↔ 0 ≤ x ∧ x < c.texts.length ∧ 0 < sharedN c l x := by
  rw [(near_perm hs).mem_iff]
  unfold near0
  rw [List.mem_map]
  constructor
  · rintro ⟨i, hi, rfl⟩
    obtain ⟨h1, h2⟩ := List.mem_filter.1 hi
    have := List.mem_range.1 h1
    exact ⟨by omega, by omega, of_decide_eq_true h2⟩
  · rintro ⟨h1, h2, h3⟩
    refine ⟨x.toNat, List.mem_filter.2 ⟨List.mem_range.2 (by omega), ?_⟩, by omega⟩
    rw [show ((x.toNat : Nat) : Int) = x by omega]
    exact decide_eq_true h3
theorem near_nodup {c : Corpus} {l : List Print} (hs : PSorted c.posts) : (nearL c l).Pairwise (fun a b => a ≠ b) := by
  refine ((near_perm hs).pairwise_iff (fun h => h.symm)).2 ?_
  unfold near0
  rw [List.pairwise_map]
  refine (List.Pairwise.filter _ (List.pairwise_lt_range (n := c.texts.length))).imp ?_
  intro a b h e
  omega
theorem gi_cons {α : Type} [Inhabited α] (t : α) (l : List α) (j : Nat) : gi (t :: l) ((j + 1 : Nat) : Int) = gi l (j : Int) := by
  unfold gi
  rw [show (((j + 1 : Nat) : Int)).toNat = j + 1 by omega, show ((j : Int)).toNat = j by omega]
  simp
theorem flatP_mem {p : Pst} {k w : Int} : ∀ (l : List Text) (i : Nat), p ∈ flatP i l k w ↔ ∃ j : Nat, j < l.length ∧ ∃ x ∈ (printsF (gi l (j : Int)) k w).1, p = ⟨x.hash, ((i + j : Nat) : Int), x.at_⟩
  | [], i => by simp [flatP]
  | t :: l, i => by
    rw [flatP, List.mem_append, flatP_mem l (i + 1)]
    constructor
    · rintro (h | ⟨j, hj, x, hx, e⟩)
      · obtain ⟨x, hx, e⟩ := List.mem_map.1 h
        exact ⟨0, by simp, x, hx, by rw [← e]; simp⟩
      · exact ⟨j + 1, by simpa using hj, x, by rw [gi_cons]; exact hx, by rw [e]; congr 1; omega⟩
    · rintro ⟨j, hj, x, hx, e⟩
      cases j with
      | zero =>
        left
        exact List.mem_map.2 ⟨x, hx, by rw [e]; simp⟩
      | succ j =>
        right
        rw [gi_cons] at hx
        exact ⟨j, by simpa using hj, x, hx, by rw [e]; congr 1; omega⟩
theorem posts_mem {l : List Text} {k w : Int} {p : Pst} : p ∈ postsF l k w ↔ ∃ j : Int, inL j l.length ∧ ∃ x ∈ (printsF (gi l j) k w).1, p = ⟨x.hash, j, x.at_⟩ := by
  rw [(posts_perm l k w).mem_iff, flatP_mem]
  constructor
  · rintro ⟨j, hj, x, hx, e⟩
    exact ⟨j, by omega, x, hx, by rw [e]; congr 1; omega⟩
  · rintro ⟨j, hj, x, hx, e⟩
    refine ⟨j.toNat, by omega, x, by rw [show ((j.toNat : Nat) : Int) = j by omega]; exact hx, by rw [e]; congr 1; omega⟩
theorem first_ex {l : List Pst} (hs : PSorted l) {h t : Int} : ∀ n : Nat, n < l.length → (gi l (n : Int)).text = t → (gi l (n : Int)).hash = h → ∃ j : Nat, j ≤ n ∧ firstI l (j : Int) ∧ (gi l (j : Int)).text = t ∧ (gi l (j : Int)).hash = h := by
  intro n
  induction n using Nat.strongRecOn with
  | _ n ih =>
    intro hn h1 h2
    by_cases hf : firstI l (n : Int)
    · exact ⟨n, by omega, hf, h1, h2⟩
    · have hiff := firstI_iff hs (i := (n : Int)) (by omega)
      have : ∃ j : Int, 0 ≤ j ∧ j < (n : Int) ∧ (gi l j).text = (gi l (n : Int)).text ∧ (gi l j).hash = (gi l (n : Int)).hash := by
        apply Classical.byContradiction
        intro hc; exact hf (hiff.2 hc)
      obtain ⟨j, hj, hj2, e1, e2⟩ := this
      obtain ⟨m, rfl⟩ := Int.eq_ofNat_of_zero_le hj
      obtain ⟨q, hq, k1, k2, k3⟩ := ih m (by omega) (by omega) (by rw [e1, h1]) (by rw [e2, h2])
      exact ⟨q, by omega, k1, k2, k3⟩
/-- A text shares fingerprints exactly if one of its hashes is among them. -/
theorem shared_pos {c : Corpus} (G : GoodC c) {l : List Print} {x : Int} (hx : inL x c.texts.length) : 0 < sharedN c l x ↔ ∃ u ∈ (printsF (gi c.texts x) c.k c.w).1, ∃ v ∈ l, v.hash = u.hash := by
  have hs := good_sorted G
  constructor
  · intro h
    unfold sharedN at h
    obtain ⟨i, hi⟩ := List.exists_mem_of_length_pos h
    obtain ⟨hi1, hi2⟩ := List.mem_filter.1 hi
    obtain ⟨_, h2, j, hj, h3⟩ := (cntP_iff c l x i).1 hi2
    have hm : gi c.posts (i : Int) ∈ c.posts := gi_mem (by have := List.mem_range.1 hi1; omega)
    rw [G.posts] at hm
    obtain ⟨q, hq, u, hu, e⟩ := posts_mem.1 hm
    rw [← G.posts] at e
    rw [e] at h2 h3
    simp only at h2 h3
    rw [h2] at hu
    exact ⟨u, hu, _, gi_mem hj, h3⟩
  · rintro ⟨u, hu, v, hv, e⟩
    have hm : (⟨u.hash, x, u.at_⟩ : Pst) ∈ c.posts := by rw [G.posts]; exact posts_mem.2 ⟨x, hx, u, hu, rfl⟩
    obtain ⟨n, hn, hn2⟩ := List.getElem_of_mem hm
    have hg : gi c.posts (n : Int) = ⟨u.hash, x, u.at_⟩ := by rw [gi_nat hn]; exact hn2
    obtain ⟨j, hj, k1, k2, k3⟩ := first_ex hs (h := u.hash) (t := x) n hn (by rw [hg]) (by rw [hg])
    rw [sharedN_eq]
    unfold cntN
    refine List.length_pos_of_mem (a := j) (List.mem_filter.2 ⟨List.mem_range.2 (by omega), (cntP_iff c l x j).2 ⟨k1, k2, ?_⟩⟩)
    obtain ⟨m, hm2, rfl⟩ := List.getElem_of_mem hv
    exact ⟨m, by omega, by rw [gi_nat hm2, k3]; exact e⟩

/-! words in common -/
theorem common_take : ∀ {A B : List Lexeme} {n : Nat}, n ≤ commonW A B → (A.take n).map (fun w => w.text) = (B.take n).map (fun w => w.text) ∧ n ≤ A.length ∧ n ≤ B.length
  | _, _, 0, _ => by simp
  | [], _, n + 1, h => by simp [commonW] at h
  | a :: A, [], n + 1, h => by simp [commonW] at h
  | a :: A, b :: B, n + 1, h => by
    rw [commonW] at h
    split at h
    · next e =>
      obtain ⟨h1, h2, h3⟩ := common_take (A := A) (B := B) (n := n) (by omega)
      refine ⟨?_, by simp; omega, by simp; omega⟩
      rw [List.take_succ_cons, List.take_succ_cons, List.map_cons, List.map_cons, h1, e]
    · omega
theorem hashF_texts (l : List Lexeme) : hashF l = (l.map fun w => w.text).foldl (fun h s => pushF h s) 0 := by
  unfold hashF; rw [List.foldl_map]
theorem common_gram {A B : List Lexeme} {p q k i : Nat} (h : i + k ≤ commonW (A.drop p) (B.drop q)) : gramAt A k (p + i) = gramAt B k (q + i) ∧ p + i + k ≤ A.length ∨ k = 0 := by
  rcases Nat.eq_zero_or_pos k with hk | hk
  · exact .inr hk
  obtain ⟨h1, h2, h3⟩ := common_take h
  rw [List.length_drop] at h2 h3
  left
  refine ⟨?_, by omega⟩
  unfold gramAt
  rw [hashF_texts, hashF_texts]
  have e : ∀ (L : List Lexeme) (s : Nat), ((L.drop (s + i)).take k).map (fun w => w.text) = (((L.drop s).take (i + k)).map (fun w => w.text)).drop i := fun L s => by
    rw [← List.map_drop, List.drop_take, List.drop_drop, show i + k - i = k by omega]
  rw [e, e, h1]
/-- THE GUARANTEE: a run of at least k + w - 1 words in common gives a fingerprint in common. -/
theorem guarantee {A B : List Lexeme} {p q k w : Nat} (hk : 1 ≤ k) (hw : 1 ≤ w) (h : k + w - 1 ≤ commonW (A.drop p) (B.drop q)) : ∃ u ∈ printsL A k w, ∃ v ∈ printsL B k w, v.hash = u.hash := by
  obtain ⟨_, hA, hB⟩ := common_take h
  rw [List.length_drop] at hA hB
  have hg : ∀ i : Nat, i < w → gi (gramsL A k) ((p + i : Nat) : Int) = gi (gramsL B k) ((q + i : Nat) : Int) := fun i hi => by
    rcases common_gram (A := A) (B := B) (p := p) (q := q) (k := k) (i := i) (by omega) with ⟨h1, _⟩ | h1
    · rw [grams_gi _ _ _ (by omega), grams_gi _ _ _ (by omega)]; exact h1
    · omega
  have hI : IsL (gramsL A k) p ((p : Int) + w) (leastF (gramsL A k) p ((p : Int) + w)) := leastF_spec (by omega)
  generalize leastF (gramsL A k) p ((p : Int) + w) = s at hI
  obtain ⟨h1, h2, h3, h4⟩ := hI
  have hs2 : ∀ x : Int, (p : Int) ≤ x → x < (p : Int) + w → gi (gramsL A k) x = gi (gramsL B k) (x - p + q) := fun x hx hx2 => by
    have := hg (x - p).toNat (by omega)
    rw [show ((p + (x - p).toNat : Nat) : Int) = x by omega, show ((q + (x - p).toNat : Nat) : Int) = x - p + q by omega] at this
    exact this
  have hJ : IsL (gramsL B k) q ((q : Int) + w) (s - p + q) := by
    refine ⟨by omega, by omega, fun x hx hx2 => ?_, fun x hx hx2 => ?_⟩
    · have a1 := h3 (x - q + p) (by omega) (by omega)
      have a2 := hs2 (x - q + p) (by omega) (by omega)
      have a3 := hs2 s h1 h2
      rw [show x - q + p - p + q = x by omega] at a2
      rw [← a2, ← a3]; exact a1
    · have a1 := h4 (x - q + p) (by omega) (by omega)
      have a2 := hs2 (x - q + p) (by omega) (by omega)
      have a3 := hs2 s h1 h2
      rw [show x - q + p - p + q = x by omega] at a2
      rw [← a2, ← a3]; exact a1
  have m1 : s ∈ selL (gramsL A k) w := (selL_mem (by omega)).2 ⟨p, by rw [grams_len]; omega, h1, h2, h3, h4⟩
  have m2 : s - p + q ∈ selL (gramsL B k) w := (selL_mem (by omega)).2 ⟨q, by rw [grams_len]; omega, hJ⟩
  refine ⟨⟨gi (gramsL A k) s, s⟩, List.mem_map.2 ⟨s, m1, rfl⟩, ⟨gi (gramsL B k) (s - p + q), s - p + q⟩, List.mem_map.2 ⟨_, m2, rfl⟩, ?_⟩
  exact (hs2 s h1 h2).symm
theorem printsF_valid {t : Text} {k w : Int} (hv : validT t = true) (hk : sizeF k = true) (hw : sizeF w = true) : printsF t k w = (printsL t.words k.toNat w.toNat, 0) := by
  unfold printsF
  rw [if_pos hv, if_pos ((sizes_iff k w).2 ⟨hk, hw⟩)]
theorem near_common {c : Corpus} (G : GoodC c) {t : Text} (hv : validT t = true) {x p q : Int} (hx : inL x c.texts.length) (hp : 0 ≤ p) (hq : 0 ≤ q) (h : (commonW ((gi c.texts x).words.drop p.toNat) (t.words.drop q.toNat) : Int) ≥ c.k + c.w - 1) : x ∈ nearL c (printsF t c.k c.w).1 := by
  have hk := (sizeF_iff _).1 G.k; have hw := (sizeF_iff _).1 G.w
  obtain ⟨u, hu, v, hv2, e⟩ := guarantee (A := (gi c.texts x).words) (B := t.words) (p := p.toNat) (q := q.toNat) (k := c.k.toNat) (w := c.w.toNat) (by omega) (by omega) (by omega)
  refine (near_mem (good_sorted G)).2 ⟨hx.1, hx.2, (shared_pos G hx).2 ⟨u, ?_, v, ?_, e⟩⟩
  · rw [printsF_valid (G.val _ (gi_mem hx)) G.k G.w]; exact hu
  · rw [printsF_valid hv G.k G.w]; exact hv2
end Go.Lic
