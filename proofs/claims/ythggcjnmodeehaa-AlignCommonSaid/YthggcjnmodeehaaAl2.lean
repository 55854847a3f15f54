/-
  Alignments and their steps; kept words; bounds. No program in sight.
-/
import Derived.Test.YthggcjnmodeehaaAl
import Derived.Test.YthggcjnmodeehaaSpec4
import Derived.Test.YthggcjnmodeehaaGo
set_option linter.all false
namespace Go.Lic
instance : Inhabited Lexeme := ⟨⟨default, default⟩⟩

theorem gi_ext {α : Type} [Inhabited α] {l m : List α} (hl : l.length = m.length) (h : ∀ k : Int, 0 ≤ k → k < l.length → gi l k = gi m k) : l = m := by
  apply List.ext_getElem hl
  intro i h1 h2
  have := h i (by omega) (by omega)
  rwa [gi_nat h1, gi_nat h2] at this
theorem gi_range {α : Type} [Inhabited α] {f : Nat → α} {n : Nat} {k : Int} (h : inL k n) : gi ((List.range n).map f) k = f k.toNat := by
  rw [gi_lt (by simpa using h)]; simp
theorem of_true {Q : Bool → Prop} {b : Bool} (h : Q true) (hb : b = true) : Q b := by rw [hb]; exact h
theorem gi_cons0 {α : Type} [Inhabited α] (x : α) (l : List α) : gi (x :: l) 0 = x := rfl
theorem gi_cons {α : Type} [Inhabited α] (x : α) (l : List α) {k : Int} (h : 0 < k) : gi (x :: l) k = gi l (k - 1) := by
  unfold gi
  obtain ⟨n, rfl⟩ : ∃ n : Nat, k = n + 1 := ⟨(k - 1).toNat, by omega⟩
  simp
theorem gi_app1 {α : Type} [Inhabited α] {l m : List α} {k : Int} (h : inL k l.length) : gi (l ++ m) k = gi l k := by
  rw [gi_lt (by simp; omega), gi_lt h, List.getElem_append_left]

theorem stepsF_cons {a b : List Lexeme} {c : Costs} {st : Nat × Nat × Int} {s : Int} {l : List Int} : stepsF a b c st (s :: l) = (stepF a b c st s).bind fun st' => stepsF a b c st' l := by
  unfold stepsF; rw [List.foldlM_cons]; rfl
theorem Al.steps {a b : List Lexeme} {c : Costs} {a' b' : List Lexeme} {s : List Int} {n : Int} (h : Al c a' b' s n) : ∀ (i j : Nat) (sum : Int), a.drop i = a' → b.drop j = b' → i ≤ a.length → j ≤ b.length → stepsF a b c (i, j, sum) s = some (a.length, b.length, sum + n) := by
  have hd : ∀ {l : List Lexeme} {i : Nat} {x : Lexeme} {r : List Lexeme}, l.drop i = x :: r → ∃ h : i < l.length, l[i] = x ∧ l.drop (i + 1) = r := by
    intro l i x r e
    have hi : i < l.length := by
      rcases Nat.lt_or_ge i l.length with h | h
      · exact h
      · rw [List.drop_eq_nil_of_le h] at e; cases e
    rw [List.drop_eq_getElem_cons hi] at e
    cases e; exact ⟨hi, rfl, rfl⟩
  have hn : ∀ {l : List Lexeme} {i : Nat}, l.drop i = [] → l.length ≤ i := by
    intro l i e; have := congrArg List.length e; simp at this; omega
  induction h with
  | nil => intro i j sum h1 h2 h3 h4; have := hn h1; have := hn h2; rw [show i = a.length by omega, show j = b.length by omega]; simp [stepsF]
  | keep ht h ih =>
    intro i j sum h1 h2 h3 h4
    obtain ⟨g1, g2, g3⟩ := hd h1
    obtain ⟨g4, g5, g6⟩ := hd h2
    rw [stepsF_cons, stepKeep rfl g1 g4 (by rw [g2, g5]; exact ht)]
    exact ih _ _ _ g3 g6 (by omega) (by omega)
  | @change x y a2 b2 s n ht h ih =>
    intro i j sum h1 h2 h3 h4
    obtain ⟨g1, g2, g3⟩ := hd h1
    obtain ⟨g4, g5, g6⟩ := hd h2
    rw [stepsF_cons, stepChange rfl g1 g4 (by rw [g2, g5]; exact ht)]
    have := ih (i + 1) (j + 1) (sum + c.change) g3 g6 (by omega) (by omega)
    rw [show sum + (n + c.change) = sum + c.change + n by omega]; exact this
  | @drop x a2 b2 s n h ih =>
    intro i j sum h1 h2 h3 h4
    obtain ⟨g1, g2, g3⟩ := hd h1
    rw [stepsF_cons, stepDrop rfl g1]
    have := ih (i + 1) j (sum + c.drop) g3 h2 (by omega) (by omega)
    rw [show sum + (n + c.drop) = sum + c.drop + n by omega]; exact this
  | @add y a2 b2 s n h ih =>
    intro i j sum h1 h2 h3 h4
    obtain ⟨g4, g5, g6⟩ := hd h2
    rw [stepsF_cons, stepAdd rfl g4]
    have := ih i (j + 1) (sum + c.add) h1 g6 (by omega) (by omega)
    rw [show sum + (n + c.add) = sum + c.add + n by omega]; exact this

theorem Al.of_steps {a b : List Lexeme} {c : Costs} : ∀ (s : List Int) (i j : Nat) (sum : Int) (i' j' : Nat) (sum' : Int), stepsF a b c (i, j, sum) s = some (i', j', sum') → a.length ≤ i' → b.length ≤ j' → ∃ n, Al c (a.drop i) (b.drop j) s n ∧ sum' = sum + n
  | [], i, j, sum, i', j', sum', h, h1, h2 => by
    simp [stepsF] at h
    obtain ⟨rfl, rfl, rfl⟩ := h
    rw [List.drop_eq_nil_of_le h1, List.drop_eq_nil_of_le h2]
    exact ⟨0, .nil, by omega⟩
  | s :: l, i, j, sum, i', j', sum', h, h1, h2 => by
    rw [stepsF_cons] at h
    have key : ∀ st, stepF a b c (i, j, sum) s = some st → stepsF a b c st l = some (i', j', sum') := by
      intro st hs; rw [hs] at h; exact h
    by_cases hA : s = 1 ∧ i < a.length ∧ j < b.length ∧ txt a i = txt b j
    · obtain ⟨rfl, g1, g2, g3⟩ := hA
      rw [txt_get g1, txt_get g2] at g3
      obtain ⟨n, h3, h4⟩ := Al.of_steps l _ _ _ _ _ _ (key _ (stepKeep rfl g1 g2 g3)) h1 h2
      rw [List.drop_eq_getElem_cons g1, List.drop_eq_getElem_cons g2]
      exact ⟨_, .keep g3 h3, h4⟩
    · by_cases hB : s = 2 ∧ i < a.length ∧ j < b.length ∧ txt a i ≠ txt b j
      · obtain ⟨rfl, g1, g2, g3⟩ := hB
        rw [txt_get g1, txt_get g2] at g3
        obtain ⟨n, h3, h4⟩ := Al.of_steps l _ _ _ _ _ _ (key _ (stepChange rfl g1 g2 g3)) h1 h2
        rw [List.drop_eq_getElem_cons g1, List.drop_eq_getElem_cons g2]
        exact ⟨_, .change g3 h3, by omega⟩
      · by_cases hC : s = 3 ∧ i < a.length
        · obtain ⟨rfl, g1⟩ := hC
          obtain ⟨n, h3, h4⟩ := Al.of_steps l _ _ _ _ _ _ (key _ (stepDrop rfl g1)) h1 h2
          rw [List.drop_eq_getElem_cons g1]
          exact ⟨_, .drop h3, by omega⟩
        · by_cases hD : s = 4 ∧ j < b.length
          · obtain ⟨rfl, g1⟩ := hD
            obtain ⟨n, h3, h4⟩ := Al.of_steps l _ _ _ _ _ _ (key _ (stepAdd rfl g1)) h1 h2
            rw [List.drop_eq_getElem_cons g1]
            exact ⟨_, .add h3, by omega⟩
          · exfalso
            have : stepF a b c (i, j, sum) s = none := by
              unfold stepF
              rw [if_neg hA, if_neg hB, if_neg hC, if_neg hD]
            rw [this] at h; cases h

theorem checkAlF_iff {a b : List Lexeme} {c : Costs} (hc : checkF a b c = 0) (x : Alignment) : checkAlF a b c x = 0 ↔ Al c a b x.steps x.cost := by
  constructor
  · intro h
    unfold checkAlF at h
    rw [if_neg (by simp [hc])] at h
    split at h
    · cases h
    · rename_i i j sum hs
      split at h
      · cases h
      · rename_i hn
        simp only [not_or, Nat.not_lt, ne_eq, Decidable.not_not] at hn
        obtain ⟨n, h1, h2⟩ := Al.of_steps _ _ _ _ _ _ _ hs hn.1 hn.2.1
        rw [← hn.2.2, h2]
        simpa using h1
  · intro h
    have := h.steps (a := a) (b := b) 0 0 0 rfl rfl (Nat.zero_le _) (Nat.zero_le _)
    exact checkAlF_ok hc this (Nat.le_refl _) (Nat.le_refl _) (by omega)
theorem checkAlF_best {a b : List Lexeme} {c : Costs} (hc : checkF a b c = 0) : checkAlF a b c (alignR a b c).1 = 0 := by
  rw [checkAlF_iff hc, alignR_ok hc]; exact Al.best c a b
theorem Al.len {c : Costs} {a b : List Lexeme} {s : List Int} {n : Int} (h : Al c a b s n) : s.length ≤ a.length + b.length := by
  induction h <;> simp only [List.length_cons, List.length_nil] at * <;> omega
theorem alignR_len (a b : List Lexeme) (c : Costs) : (alignR a b c).1.steps.length ≤ a.length + b.length := by
  unfold alignR; split
  · exact (Al.best c a b).len
  · simp

/-! Kept words. -/
def chg (s : List Int) : Nat := (s.filter (· == 2)).length
theorem keptStep1 (st : Nat × Nat × List (Int × Int)) : keptStep st 1 = some (st.1 + 1, st.2.1 + 1, st.2.2 ++ [((st.1 : Int), (st.2.1 : Int))]) := by simp [keptStep]
theorem Al.kept {c : Costs} {a b : List Lexeme} {s : List Int} {n : Int} (h : Al c a b s n) : ∀ (i j : Nat) (o : List (Int × Int)), ∃ o', s.foldlM keptStep (i, j, o) = some (i + a.length, j + b.length, o ++ o') ∧
    (∀ p ∈ o', (i : Int) ≤ p.1 ∧ p.1 < i + a.length ∧ (j : Int) ≤ p.2 ∧ p.2 < j + b.length ∧ (gi a (p.1 - i)).text = (gi b (p.2 - j)).text) ∧
    o'.Pairwise (fun p q => p.1 < q.1 ∧ p.2 < q.2) ∧ n = c.change * chg s + c.drop * ((a.length : Int) - (o'.length + chg s)) + c.add * ((b.length : Int) - (o'.length + chg s)) ∧ (s.length : Int) = a.length + b.length - (o'.length + chg s) := by
  induction h with
  | nil => intro i j o; exact ⟨[], by simp, by simp, .nil, by simp [chg], by simp [chg]⟩
  | @keep x y a b s n ht h ih =>
    intro i j o
    obtain ⟨o', h1, h2, h3, h4, h5⟩ := ih (i + 1) (j + 1) (o ++ [((i : Int), (j : Int))])
    refine ⟨((i : Int), (j : Int)) :: o', ?_, ?_, ?_, ?_, ?_⟩
    · rw [List.foldlM_cons, kept1 rfl]
      show s.foldlM keptStep _ = _
      rw [h1]; simp; omega
    · intro p hp
      rcases List.mem_cons.1 hp with rfl | hp
      · refine ⟨by simp, by simp; omega, by simp, by simp; omega, ?_⟩
        simp [gi_cons0, ht]
      · obtain ⟨g1, g2, g3, g4, g5⟩ := h2 p hp
        refine ⟨by omega, by simp; omega, by omega, by simp; omega, ?_⟩
        rw [gi_cons _ _ (by omega), gi_cons _ _ (by omega)]
        rw [show p.1 - (i : Int) - 1 = p.1 - ((i + 1 : Nat) : Int) by omega, show p.2 - (j : Int) - 1 = p.2 - ((j + 1 : Nat) : Int) by omega]
        exact g5
    · refine .cons ?_ h3
      intro p hp
      obtain ⟨g1, g2, g3, g4, g5⟩ := h2 p hp
      exact ⟨by simp; omega, by simp; omega⟩
    · have e : chg (1 :: s) = chg s := by simp [chg]
      rw [e, h4]
      simp only [List.length_cons]
      rw [show ((a.length + 1 : Nat) : Int) - (((o'.length + 1 : Nat) : Int) + chg s) = (a.length : Int) - (o'.length + chg s) by omega, show ((b.length + 1 : Nat) : Int) - (((o'.length + 1 : Nat) : Int) + chg s) = (b.length : Int) - (o'.length + chg s) by omega]
    · have e : chg (1 :: s) = chg s := by simp [chg]
      rw [e]; simp only [List.length_cons]; omega
  | @change x y a b s n ht h ih =>
    intro i j o
    obtain ⟨o', h1, h2, h3, h4, h5⟩ := ih (i + 1) (j + 1) o
    refine ⟨o', ?_, ?_, h3, ?_, ?_⟩
    · rw [List.foldlM_cons, kept2 rfl]
      show s.foldlM keptStep _ = _
      rw [h1]; simp; omega
    · intro p hp
      obtain ⟨g1, g2, g3, g4, g5⟩ := h2 p hp
      refine ⟨by omega, by simp; omega, by omega, by simp; omega, ?_⟩
      rw [gi_cons _ _ (by omega), gi_cons _ _ (by omega)]
      rw [show p.1 - (i : Int) - 1 = p.1 - ((i + 1 : Nat) : Int) by omega, show p.2 - (j : Int) - 1 = p.2 - ((j + 1 : Nat) : Int) by omega]
      exact g5
    · have e : chg (2 :: s) = chg s + 1 := by simp [chg]
      rw [e, h4]
      simp only [List.length_cons]
      rw [show ((a.length + 1 : Nat) : Int) - ((o'.length : Int) + ((chg s + 1 : Nat) : Int)) = (a.length : Int) - (o'.length + chg s) by omega, show ((b.length + 1 : Nat) : Int) - ((o'.length : Int) + ((chg s + 1 : Nat) : Int)) = (b.length : Int) - (o'.length + chg s) by omega]
      push_cast; rw [Int.mul_add, Int.mul_one]; omega
    · have e : chg (2 :: s) = chg s + 1 := by simp [chg]
      rw [e]; simp only [List.length_cons]; omega
  | @drop x a b s n h ih =>
    intro i j o
    obtain ⟨o', h1, h2, h3, h4, h5⟩ := ih (i + 1) j o
    refine ⟨o', ?_, ?_, h3, ?_, ?_⟩
    · rw [List.foldlM_cons, kept3 rfl]
      show s.foldlM keptStep _ = _
      rw [h1]; simp; omega
    · intro p hp
      obtain ⟨g1, g2, g3, g4, g5⟩ := h2 p hp
      refine ⟨by omega, by simp; omega, by omega, by omega, ?_⟩
      rw [gi_cons _ _ (by omega), show p.1 - (i : Int) - 1 = p.1 - ((i + 1 : Nat) : Int) by omega]
      exact g5
    · have e : chg (3 :: s) = chg s := by simp [chg]
      rw [e, h4]
      simp only [List.length_cons]
      rw [show ((a.length + 1 : Nat) : Int) - ((o'.length : Int) + chg s) = ((a.length : Int) - (o'.length + chg s)) + 1 by omega, Int.mul_add, Int.mul_one]; omega
    · have e : chg (3 :: s) = chg s := by simp [chg]
      rw [e]; simp only [List.length_cons]; omega
  | @add y a b s n h ih =>
    intro i j o
    obtain ⟨o', h1, h2, h3, h4, h5⟩ := ih i (j + 1) o
    refine ⟨o', ?_, ?_, h3, ?_, ?_⟩
    · rw [List.foldlM_cons, kept4 rfl]
      show s.foldlM keptStep _ = _
      rw [h1]; simp; omega
    · intro p hp
      obtain ⟨g1, g2, g3, g4, g5⟩ := h2 p hp
      refine ⟨by omega, by omega, by omega, by simp; omega, ?_⟩
      rw [gi_cons _ _ (by omega : (0 : Int) < p.2 - j), show p.2 - (j : Int) - 1 = p.2 - ((j + 1 : Nat) : Int) by omega]
      exact g5
    · have e : chg (4 :: s) = chg s := by simp [chg]
      rw [e, h4]
      simp only [List.length_cons]
      rw [show ((b.length + 1 : Nat) : Int) - ((o'.length : Int) + chg s) = ((b.length : Int) - (o'.length + chg s)) + 1 by omega, Int.mul_add, Int.mul_one]; omega
    · have e : chg (4 :: s) = chg s := by simp [chg]
      rw [e]; simp only [List.length_cons]; omega

theorem Al.cnt {c : Costs} {a b : List Lexeme} {s : List Int} {n : Int} (h : Al c a b s n) : ∀ (i j : Nat) (o : List (Int × Int)) (st : Nat × Nat × List (Int × Int)), s.foldlM keptStep (i, j, o) = some st → st.2.2.length + chg s ≤ o.length + a.length ∧ st.2.2.length + chg s ≤ o.length + b.length := by
  induction h with
  | nil => intro i j o st h; cases h; simp [chg]
  | keep ht h ih =>
    intro i j o st hs
    rw [List.foldlM_cons, kept1 rfl] at hs
    have := ih _ _ _ _ hs
    simp [chg] at this ⊢; omega
  | change ht h ih =>
    intro i j o st hs
    rw [List.foldlM_cons, kept2 rfl] at hs
    have := ih _ _ _ _ hs
    simp [chg] at this ⊢; omega
  | drop h ih =>
    intro i j o st hs
    rw [List.foldlM_cons, kept3 rfl] at hs
    have := ih _ _ _ _ hs
    simp [chg] at this ⊢; omega
  | add h ih =>
    intro i j o st hs
    rw [List.foldlM_cons, kept4 rfl] at hs
    have := ih _ _ _ _ hs
    simp [chg] at this ⊢; omega
theorem alignR_cnt {a b : List Lexeme} {c : Costs} (hc : checkF a b c = 0) : (keptF (alignR a b c).1).length + chg (alignR a b c).1.steps ≤ a.length ∧ (keptF (alignR a b c).1).length + chg (alignR a b c).1.steps ≤ b.length := by
  rw [alignR_ok hc]
  obtain ⟨o', h1, _⟩ := (Al.best c a b).kept 0 0 []
  have := (Al.best c a b).cnt 0 0 [] _ h1
  have e : keptF ⟨edit c a b, alignS c a b⟩ = [] ++ o' := by
    unfold keptF keptR
    simp only
    rw [h1]
  rw [e]; simpa using this
theorem alignR_kept {a b : List Lexeme} {c : Costs} (hc : checkF a b c = 0) : let x := (alignR a b c).1; let o := keptF x
    (∀ p ∈ o, 0 ≤ p.1 ∧ p.1 < a.length ∧ 0 ≤ p.2 ∧ p.2 < b.length ∧ (gi a p.1).text = (gi b p.2).text) ∧ o.Pairwise (fun p q => p.1 < q.1 ∧ p.2 < q.2) ∧
    x.cost = c.change * chg x.steps + c.drop * ((a.length : Int) - (o.length + chg x.steps)) + c.add * ((b.length : Int) - (o.length + chg x.steps)) ∧ (x.steps.length : Int) = a.length + b.length - (o.length + chg x.steps) := by
  rw [alignR_ok hc]
  obtain ⟨o', h1, h2, h3, h4, h5⟩ := (Al.best c a b).kept 0 0 []
  have e : keptF ⟨edit c a b, alignS c a b⟩ = o' := by
    unfold keptF keptR
    simp only
    rw [h1]; simp
  simp only [e]
  refine ⟨fun p hp => ?_, h3, h4, h5⟩
  have := h2 p hp
  simpa using this

/-! Bounds. -/
structure CellOk (a b : List Lexeme) (c : Costs) (p : List (List Int)) (i j : Int) : Prop where
  lo : 0 ≤ gi (gi p i) j
  hi : gi (gi p i) j ≤ 1099511627776
  zero : i + j > 0 ∨ gi (gi p i) j = 0
  up : i = 0 ∨ gi (gi p i) j ≤ gi (gi p (i - 1)) j + c.drop
  left : j = 0 ∨ gi (gi p i) j ≤ gi (gi p i) (j - 1) + c.add
  diag : i > 0 → j > 0 → gi (gi p i) j ≤ gi (gi p (i - 1)) (j - 1) + pairF (gi a (i - 1)) (gi b (j - 1)) c
structure BoundOk (a b : List Lexeme) (c : Costs) (p : List (List Int)) : Prop where
  len : (p.length : Int) = a.length + 1
  rows : ∀ i : Int, 0 ≤ i → i < p.length → ((gi p i).length : Int) = b.length + 1
  cell : ∀ i j : Int, 0 ≤ i → i ≤ a.length → 0 ≤ j → j ≤ b.length → CellOk a b c p i j
open Classical in
noncomputable def boundF (a b : List Lexeme) (c : Costs) (p : List (List Int)) : Int × Int :=
  if checkF a b c ≠ 0 then (0, checkF a b c) else if BoundOk a b c p then (gi (gi p a.length) b.length, 0) else (0, 18)
theorem boundF_err {a b : List Lexeme} {c : Costs} {p : List (List Int)} (h : ¬ checkF a b c = 0) : boundF a b c p = (0, checkF a b c) := by simp [boundF, h]
theorem boundF_bad {a b : List Lexeme} {c : Costs} {p : List (List Int)} (h : checkF a b c = 0) (hb : ¬ BoundOk a b c p) : boundF a b c p = (0, 18) := by simp [boundF, h, hb]
theorem boundF_ok {a b : List Lexeme} {c : Costs} {p : List (List Int)} (h : checkF a b c = 0) (hb : BoundOk a b c p) : boundF a b c p = (gi (gi p a.length) b.length, 0) := by simp [boundF, h, hb]

theorem BoundOk.le {a b : List Lexeme} {c : Costs} {p : List (List Int)} (h : BoundOk a b c p) : ∀ (k i j : Nat), i + j = k → i ≤ a.length → j ≤ b.length → gi (gi p i) j ≤ fkv a b c i j
  | 0, i, j, hk, hi, hj => by
    have : i = 0 := by omega
    have : j = 0 := by omega
    subst i; subst j
    have := (h.cell 0 0 (by omega) (by omega) (by omega) (by omega)).zero
    rw [fkv_a (by omega)]
    simp at this ⊢; omega
  | k + 1, i, j, hk, hi, hj => by
    have hcell := h.cell i j (by omega) (by omega) (by omega) (by omega)
    rcases Nat.eq_zero_or_pos i with h0 | h0
    · subst h0
      have h1 := h.le k 0 (j - 1) (by omega) (by omega) (by omega)
      have h2 := hcell.left
      rw [fkv_a (by omega)] at h1 ⊢
      rw [show ((j - 1 : Nat) : Int) = (j : Int) - 1 by omega] at h1
      rw [Int.sub_mul, Int.one_mul] at h1
      omega
    · rcases Nat.eq_zero_or_pos j with h0' | h0'
      · subst h0'
        have h1 := h.le k (i - 1) 0 (by omega) (by omega) (by omega)
        have h2 := hcell.up
        rw [fkv_b (by omega)] at h1 ⊢
        rw [show ((i - 1 : Nat) : Int) = (i : Int) - 1 by omega] at h1
        rw [Int.sub_mul, Int.one_mul] at h1
        omega
      · have h1 := h.le k (i - 1) j (by omega) (by omega) (by omega)
        have h2 := h.le k i (j - 1) (by omega) (by omega) (by omega)
        have hd := hcell.diag (by omega) (by omega)
        have hu := hcell.up
        have hl := hcell.left
        rw [fkv_step' h0 hi h0' hj]
        rw [show ((i - 1 : Nat) : Int) = (i : Int) - 1 by omega] at h1
        rw [show ((j - 1 : Nat) : Int) = (j : Int) - 1 by omega] at h2
        have e1 : gi a ((i : Int) - 1) = a[i - 1]'(by omega) := by rw [show (i : Int) - 1 = ((i - 1 : Nat) : Int) by omega, gi_nat]
        have e2 : gi b ((j : Int) - 1) = b[j - 1]'(by omega) := by rw [show (j : Int) - 1 = ((j - 1 : Nat) : Int) by omega, gi_nat]
        rw [e1, e2] at hd
        have h3 : gi (gi p ((i : Int) - 1)) ((j : Int) - 1) ≤ fkv a b c (i - 1) (j - 1) := by
          rcases k with _ | k
          · omega
          · have := h.le k (i - 1) (j - 1) (by omega) (by omega) (by omega)
            rwa [show ((i - 1 : Nat) : Int) = (i : Int) - 1 by omega, show ((j - 1 : Nat) : Int) = (j : Int) - 1 by omega] at this
        rcases min3_cases (fkv a b c (i - 1) (j - 1) + pairF (a[i - 1]'(by omega)) (b[j - 1]'(by omega)) c) (fkv a b c (i - 1) j + c.drop) (fkv a b c i (j - 1) + c.add) with h | h | h <;> omega

theorem BoundOk.edit {a b : List Lexeme} {c : Costs} (hc : c.ok) {p : List (List Int)} (h : BoundOk a b c p) : gi (gi p a.length) b.length ≤ edit c a b := by
  have := h.le _ a.length b.length rfl (Nat.le_refl _) (Nat.le_refl _)
  rwa [fkv_all hc] at this

theorem front_gi {a b : List Lexeme} {c : Costs} {i : Int} (h : inL i (a.length + 1)) : gi (frontF a b c) i = (List.range (b.length + 1)).map (fkv a b c i.toNat) := gi_range h
theorem front_cell {a b : List Lexeme} {c : Costs} {i j : Int} (h : inL i (a.length + 1)) (h2 : inL j (b.length + 1)) : gi (gi (frontF a b c) i) j = fkv a b c i.toNat j.toNat := by
  rw [front_gi h, gi_range h2]
theorem front_ok {a b : List Lexeme} {c : Costs} (hck : checkF a b c = 0) : BoundOk a b c (frontF a b c) := by
  obtain ⟨hc, ha, hb⟩ := checkF_ok hck
  refine ⟨by simp [frontF], fun i h0 h1 => ?_, fun i j h0 h1 h2 h3 => ?_⟩
  · have : (frontF a b c).length = a.length + 1 := by simp [frontF]
    rw [front_gi (by omega)]; simp
  · obtain ⟨i, rfl⟩ : ∃ k : Nat, i = k := ⟨i.toNat, by omega⟩
    obtain ⟨j, rfl⟩ : ∃ k : Nat, j = k := ⟨j.toNat, by omega⟩
    have e : ∀ (x y : Nat), x ≤ a.length → y ≤ b.length → gi (gi (frontF a b c) x) y = fkv a b c x y := fun x y hx hy => by rw [front_cell (by omega) (by omega)]; simp
    have ei : 0 < i → (i : Int) - 1 = ((i - 1 : Nat) : Int) := by omega
    have ej : 0 < j → (j : Int) - 1 = ((j - 1 : Nat) : Int) := by omega
    have hbd := fkv_bd hc ha hb i j
    have g := hc.drop; have g2 := hc.add
    rcases Nat.eq_zero_or_pos i with hi | hi
    · subst hi
      rcases Nat.eq_zero_or_pos j with hj | hj
      · subst hj
        refine ⟨?_, ?_, ?_, .inl rfl, .inl rfl, ?_⟩
        · rw [e _ _ (by omega) (by omega)]; exact hbd.1
        · rw [e _ _ (by omega) (by omega)]; omega
        · rw [e _ _ (by omega) (by omega), fkv_a (by omega)]; simp
        · omega
      · refine ⟨?_, ?_, .inl (by omega), .inl rfl, .inr ?_, by omega⟩
        · rw [e _ _ (by omega) (by omega)]; exact hbd.1
        · rw [e _ _ (by omega) (by omega)]; omega
        · rw [ej hj, e _ _ (by omega) (by omega), e _ _ (by omega) (by omega), fkv_a (by omega), fkv_a (by omega), ← ej hj, Int.sub_mul, Int.one_mul]; omega
    · rcases Nat.eq_zero_or_pos j with hj | hj
      · subst hj
        refine ⟨?_, ?_, .inl (by omega), .inr ?_, .inl rfl, by omega⟩
        · rw [e _ _ (by omega) (by omega)]; exact hbd.1
        · rw [e _ _ (by omega) (by omega)]; omega
        · rw [ei hi, e _ _ (by omega) (by omega), e _ _ (by omega) (by omega), fkv_b (by omega), fkv_b (by omega), ← ei hi, Int.sub_mul, Int.one_mul]; omega
      · have hs := fkv_step' (a := a) (b := b) (c := c) hi (by omega) hj (by omega)
        have e1 : gi a ((i : Int) - 1) = a[i - 1]'(by omega) := by rw [ei hi, gi_nat]
        have e2 : gi b ((j : Int) - 1) = b[j - 1]'(by omega) := by rw [ej hj, gi_nat]
        have hm := min3_cases (fkv a b c (i - 1) (j - 1) + pairF (a[i - 1]'(by omega)) (b[j - 1]'(by omega)) c) (fkv a b c (i - 1) j + c.drop) (fkv a b c i (j - 1) + c.add)
        refine ⟨?_, ?_, .inl (by omega), .inr ?_, .inr ?_, fun _ _ => ?_⟩
        · rw [e _ _ (by omega) (by omega)]; exact hbd.1
        · rw [e _ _ (by omega) (by omega)]; omega
        · rw [ei hi, e _ _ (by omega) (by omega), e _ _ (by omega) (by omega)]; omega
        · rw [ej hj, e _ _ (by omega) (by omega), e _ _ (by omega) (by omega)]; omega
        · rw [e1, e2, ei hi, ej hj, e _ _ (by omega) (by omega), e _ _ (by omega) (by omega)]; omega
end Go.Lic
