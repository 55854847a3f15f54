/-
  The edit distance and its alignments, in plain Lean. No program in sight.
-/
import Derived.Test.YthggcjnmodeehaaSpec3
set_option linter.all false
namespace Go.Lic

inductive Al (c : Costs) : List Lexeme → List Lexeme → List Int → Int → Prop
  | nil : Al c [] [] [] 0
  | keep {x y : Lexeme} {a b : List Lexeme} {s : List Int} {n : Int} (ht : x.text = y.text) (h : Al c a b s n) : Al c (x :: a) (y :: b) (1 :: s) n
  | change {x y : Lexeme} {a b : List Lexeme} {s : List Int} {n : Int} (ht : ¬ x.text = y.text) (h : Al c a b s n) : Al c (x :: a) (y :: b) (2 :: s) (n + c.change)
  | drop {x : Lexeme} {a b : List Lexeme} {s : List Int} {n : Int} (h : Al c a b s n) : Al c (x :: a) b (3 :: s) (n + c.drop)
  | add {y : Lexeme} {a b : List Lexeme} {s : List Int} {n : Int} (h : Al c a b s n) : Al c a (y :: b) (4 :: s) (n + c.add)

theorem Al.nonneg {c : Costs} (hc : c.ok) {a b : List Lexeme} {s : List Int} {n : Int} (h : Al c a b s n) : 0 ≤ n := by
  have h1 := hc.change; have h2 := hc.drop; have h3 := hc.add
  induction h <;> omega

theorem edit_drop {c : Costs} (hc : c.ok) (x : Lexeme) (a b : List Lexeme) : edit c (x :: a) b ≤ edit c a b + c.drop := by
  cases b with
  | nil => rw [edit_nil2, edit_nil2, List.length_cons]; simp [Int.add_mul]
  | cons y b =>
    rw [edit_cons]
    rcases min3_cases (edit c a b + pairF x y c) (edit c a (y :: b) + c.drop) (edit c (x :: a) b + c.add) with h | h | h <;> omega
theorem edit_add {c : Costs} (hc : c.ok) (y : Lexeme) (a b : List Lexeme) : edit c a (y :: b) ≤ edit c a b + c.add := by
  cases a with
  | nil => rw [edit_nil, edit_nil, List.length_cons]; simp [Int.add_mul]
  | cons x a =>
    rw [edit_cons]
    rcases min3_cases (edit c a b + pairF x y c) (edit c a (y :: b) + c.drop) (edit c (x :: a) b + c.add) with h | h | h <;> omega
theorem edit_pair {c : Costs} (x y : Lexeme) (a b : List Lexeme) : edit c (x :: a) (y :: b) ≤ edit c a b + pairF x y c := by
  rw [edit_cons]
  rcases min3_cases (edit c a b + pairF x y c) (edit c a (y :: b) + c.drop) (edit c (x :: a) b + c.add) with h | h | h <;> omega

theorem Al.least {c : Costs} (hc : c.ok) {a b : List Lexeme} {s : List Int} {n : Int} (h : Al c a b s n) : edit c a b ≤ n := by
  induction h with
  | nil => rw [edit_nil]; simp
  | @keep x y a b s n ht h ih => have := edit_pair (c := c) x y a b; rw [pair_eq ht] at this; omega
  | @change x y a b s n ht h ih => have := edit_pair (c := c) x y a b; rw [pair_ne ht] at this; omega
  | @drop x a b s n h ih => have := edit_drop hc x a b; omega
  | @add y a b s n h ih => have := edit_add hc y a b; omega

theorem Al.best (c : Costs) : ∀ (a b : List Lexeme), Al c a b (alignS c a b) (edit c a b)
  | [], [] => by rw [alignS, edit_nil]; simpa using Al.nil
  | [], y :: b => by
    rw [alignS]
    have h := Al.add (y := y) (Al.best c [] b)
    have e : edit c [] b + c.add = edit c [] (y :: b) := by rw [edit_nil, edit_nil, List.length_cons]; simp [Int.add_mul]
    rwa [e] at h
  | x :: a, [] => by
    rw [alignS]
    have h := Al.drop (x := x) (Al.best c a [])
    have e : edit c a [] + c.drop = edit c (x :: a) [] := by rw [edit_nil2, edit_nil2, List.length_cons]; simp [Int.add_mul]
    rwa [e] at h
  | x :: a, y :: b => by
    rw [alignS]
    split
    · rename_i h
      rw [h]
      split
      · rename_i ht; rw [pair_eq ht, Int.add_zero]; exact .keep ht (Al.best c a b)
      · rename_i ht; rw [pair_ne ht]; exact .change ht (Al.best c a b)
    · rename_i h1
      split
      · rename_i h; rw [h]; exact .drop (Al.best c a (y :: b))
      · rename_i h2
        have e : edit c (x :: a) (y :: b) = edit c (x :: a) b + c.add := by
          rw [edit_cons] at h1 h2 ⊢
          rcases min3_cases (edit c a b + pairF x y c) (edit c a (y :: b) + c.drop) (edit c (x :: a) b + c.add) with h | h | h <;> omega
        rw [e]; exact .add (Al.best c (x :: a) b)
termination_by a b => a.length + b.length

theorem Al.app {c : Costs} {a b : List Lexeme} {s : List Int} {n : Int} (h : Al c a b s n) {a' b' : List Lexeme} {s' : List Int} {n' : Int} (h' : Al c a' b' s' n') : Al c (a ++ a') (b ++ b') (s ++ s') (n + n') := by
  induction h with
  | nil => simpa using h'
  | keep ht h ih => exact .keep ht ih
  | @change x y a b s n ht h ih => have := Al.change ht ih; rwa [show n + n' + c.change = n + c.change + n' by omega] at this
  | @drop x a b s n h ih => have := Al.drop (x := x) ih; rwa [show n + n' + c.drop = n + c.drop + n' by omega] at this
  | @add y a b s n h ih => have := Al.add (y := y) ih; rwa [show n + n' + c.add = n + c.add + n' by omega] at this

theorem Al.rev {c : Costs} {a b : List Lexeme} {s : List Int} {n : Int} (h : Al c a b s n) : Al c a.reverse b.reverse s.reverse n := by
  induction h with
  | nil => exact .nil
  | keep ht h ih => have := ih.app (.keep ht .nil); simpa using this
  | @change x y a b s n ht h ih => have := ih.app (.change ht .nil); simpa using this
  | @drop x a b s n h ih => have := ih.app (.drop (x := x) .nil); simpa using this
  | @add y a b s n h ih => have := ih.app (.add (y := y) .nil); simpa using this

theorem edit_rev {c : Costs} (hc : c.ok) (a b : List Lexeme) : edit c a.reverse b.reverse = edit c a b := by
  have h1 := (Al.best c a b).rev.least hc
  have h2 := (Al.best c a.reverse b.reverse).rev.least hc
  rw [List.reverse_reverse, List.reverse_reverse] at h2
  omega

/-- The other way round. -/
def Costs.flip (c : Costs) : Costs := ⟨c.change, c.add, c.drop⟩
theorem Al.flip {c : Costs} {a b : List Lexeme} {s : List Int} {n : Int} (h : Al c a b s n) : ∃ s', Al c.flip b a s' n := by
  induction h with
  | nil => exact ⟨_, .nil⟩
  | keep ht h ih => obtain ⟨s', ih⟩ := ih; exact ⟨_, .keep ht.symm ih⟩
  | change ht h ih => obtain ⟨s', ih⟩ := ih; exact ⟨_, .change (fun e => ht e.symm) ih⟩
  | drop h ih => obtain ⟨s', ih⟩ := ih; exact ⟨_, .add ih⟩
  | add h ih => obtain ⟨s', ih⟩ := ih; exact ⟨_, .drop ih⟩
theorem Costs.ok.flip_ok {c : Costs} (hc : c.ok) : c.flip.ok := ⟨hc.change, hc.add, hc.drop⟩
theorem edit_flip {c : Costs} (hc : c.ok) (a b : List Lexeme) : edit c.flip b a = edit c a b := by
  obtain ⟨s1, h1⟩ := (Al.best c a b).flip
  obtain ⟨s2, h2⟩ := (Al.best c.flip b a).flip
  have g1 := h1.least hc.flip_ok
  have g2 : edit c a b ≤ _ := h2.least (c := c) hc
  omega

theorem Al.zero {c : Costs} (hc : c.ok) {a b : List Lexeme} {s : List Int} {n : Int} (h : Al c a b s n) (h0 : n = 0) : a.map (·.text) = b.map (·.text) := by
  have g1 := hc.change; have g2 := hc.drop; have g3 := hc.add
  induction h with
  | nil => rfl
  | keep ht h ih => simp [ht, ih h0]
  | change ht h ih => have := h.nonneg hc; omega
  | drop h ih => have := h.nonneg hc; omega
  | add h ih => have := h.nonneg hc; omega
theorem Al.same (c : Costs) : ∀ {a b : List Lexeme}, a.map (·.text) = b.map (·.text) → ∃ s, Al c a b s 0
  | [], [], _ => ⟨_, .nil⟩
  | [], _ :: _, h => by simp at h
  | _ :: _, [], h => by simp at h
  | x :: a, y :: b, h => by
    simp only [List.map_cons, List.cons.injEq] at h
    obtain ⟨s, hs⟩ := Al.same c h.2
    exact ⟨_, .keep h.1 hs⟩
theorem edit_zero {c : Costs} (hc : c.ok) (a b : List Lexeme) : edit c a b = 0 ↔ a.map (·.text) = b.map (·.text) := by
  constructor
  · intro h; exact (Al.best c a b).zero hc h
  · intro h
    obtain ⟨s, hs⟩ := Al.same c h
    have := hs.least hc
    have := (edit_bd hc a b).1
    omega

/-- By way of a third list. -/
theorem Al.trans {c : Costs} {d : Int} (hd : c = ⟨d, d, d⟩) (h0 : 0 ≤ d) : ∀ (a b e : List Lexeme) (s s' : List Int) (n m : Int), Al c a b s n → Al c b e s' m → ∃ s'' k, Al c a e s'' k ∧ k ≤ n + m
  | a, b, e, s, s', n, m, h, h' => by
    subst hd
    cases h with
    | nil => exact ⟨_, _, h', by omega⟩
    | @drop x a b s n h =>
      obtain ⟨t, k, h1, h2⟩ := Al.trans rfl h0 _ _ _ _ _ _ _ h h'
      exact ⟨_, _, .drop h1, by simp only at *; omega⟩
    | @keep x y a b s n ht h =>
      cases h' with
      | @keep _ z _ e s' m ht' h' =>
        obtain ⟨t, k, h1, h2⟩ := Al.trans rfl h0 _ _ _ _ _ _ _ h h'
        exact ⟨_, _, .keep (ht.trans ht') h1, h2⟩
      | @change _ z _ e s' m ht' h' =>
        obtain ⟨t, k, h1, h2⟩ := Al.trans rfl h0 _ _ _ _ _ _ _ h h'
        exact ⟨_, _, .change (by rw [ht]; exact ht') h1, by simp only at *; omega⟩
      | @drop _ _ _ s' m h' =>
        obtain ⟨t, k, h1, h2⟩ := Al.trans rfl h0 _ _ _ _ _ _ _ h h'
        exact ⟨_, _, .drop h1, by simp only at *; omega⟩
      | @add z _ e s' m h' =>
        obtain ⟨t, k, h1, h2⟩ := Al.trans rfl h0 _ _ _ _ _ _ _ (.keep ht h) h'
        exact ⟨_, _, .add h1, by simp only at *; omega⟩
    | @change x y a b s n ht h =>
      cases h' with
      | @keep _ z _ e s' m ht' h' =>
        obtain ⟨t, k, h1, h2⟩ := Al.trans rfl h0 _ _ _ _ _ _ _ h h'
        exact ⟨_, _, .change (by rw [← ht']; exact ht) h1, by simp only at *; omega⟩
      | @change _ z _ e s' m ht' h' =>
        obtain ⟨t, k, h1, h2⟩ := Al.trans rfl h0 _ _ _ _ _ _ _ h h'
        by_cases hxz : x.text = z.text
        · exact ⟨_, _, .keep hxz h1, by simp only at *; omega⟩
        · exact ⟨_, _, .change hxz h1, by simp only at *; omega⟩
      | @drop _ _ _ s' m h' =>
        obtain ⟨t, k, h1, h2⟩ := Al.trans rfl h0 _ _ _ _ _ _ _ h h'
        exact ⟨_, _, .drop h1, by simp only at *; omega⟩
      | @add z _ e s' m h' =>
        obtain ⟨t, k, h1, h2⟩ := Al.trans rfl h0 _ _ _ _ _ _ _ (.change ht h) h'
        exact ⟨_, _, .add h1, by simp only at *; omega⟩
    | @add y a b s n h =>
      cases h' with
      | @keep _ z _ e s' m ht' h' =>
        obtain ⟨t, k, h1, h2⟩ := Al.trans rfl h0 _ _ _ _ _ _ _ h h'
        exact ⟨_, _, .add h1, by simp only at *; omega⟩
      | @change _ z _ e s' m ht' h' =>
        obtain ⟨t, k, h1, h2⟩ := Al.trans rfl h0 _ _ _ _ _ _ _ h h'
        exact ⟨_, _, .add h1, by simp only at *; omega⟩
      | @drop _ _ _ s' m h' =>
        obtain ⟨t, k, h1, h2⟩ := Al.trans rfl h0 _ _ _ _ _ _ _ h h'
        exact ⟨_, _, h1, by simp only at *; omega⟩
      | @add z _ e s' m h' =>
        obtain ⟨t, k, h1, h2⟩ := Al.trans rfl h0 _ _ _ _ _ _ _ (.add (y := y) h) h'
        exact ⟨_, _, .add h1, by simp only at *; omega⟩
termination_by a b e s s' => s.length + s'.length

theorem edit_trans {c : Costs} (hc : c.ok) {d : Int} (hd : c = ⟨d, d, d⟩) (a b e : List Lexeme) : edit c a e ≤ edit c a b + edit c b e := by
  have h0 : 0 ≤ d := by have := hc.change; subst hd; simp at this; omega
  obtain ⟨s, k, h1, h2⟩ := Al.trans hd h0 _ _ _ _ _ _ _ (Al.best c a b) (Al.best c b e)
  have := h1.least hc; omega

theorem edit_max {c : Costs} (hc : c.ok) {d : Int} (hd : c = ⟨d, d, d⟩) : ∀ (a b : List Lexeme), edit c a b ≤ d * (max a.length b.length : Nat)
  | [], b => by subst hd; rw [edit_nil]; simp [Int.mul_comm]
  | x :: a, [] => by subst hd; rw [edit_nil2]; simp [Int.mul_comm]
  | x :: a, y :: b => by
    have h1 := edit_max hc hd a b
    have h2 := edit_pair (c := c) x y a b
    have h3 := (pairF_bd (x := x) (y := y) hc.change)
    have h4 : pairF x y c ≤ d := by
      have := hc.change
      subst hd
      unfold pairF; split
      · simp at this; omega
      · simp
    have e : (max (x :: a).length (y :: b).length : Nat) = max a.length b.length + 1 := by simp
    rw [e]
    push_cast
    rw [Int.mul_add, Int.mul_one]
    push_cast at h1
    omega

/-- One word less. -/
theorem Al.less {c : Costs} (hc : c.ok) {a b0 : List Lexeme} {s : List Int} {n : Int} (h : Al c a b0 s n) : ∀ {y : Lexeme} {b : List Lexeme}, b0 = y :: b → ∃ s' k, Al c a b s' k ∧ k ≤ n + c.drop := by
  have g1 := hc.change; have g2 := hc.drop; have g3 := hc.add
  induction h with
  | nil => intro y b e; cases e
  | keep ht h ih => intro y b e; cases e; exact ⟨_, _, .drop h, by omega⟩
  | change ht h ih => intro y b e; cases e; exact ⟨_, _, .drop h, by omega⟩
  | drop h ih => intro y b e; obtain ⟨s', k, h1, h2⟩ := ih e; exact ⟨_, _, .drop h1, by omega⟩
  | add h ih => intro y b e; cases e; exact ⟨_, _, h, by omega⟩
theorem edit_less {c : Costs} (hc : c.ok) (y : Lexeme) (a b : List Lexeme) : edit c a b ≤ edit c a (y :: b) + c.drop := by
  obtain ⟨s, k, h1, h2⟩ := (Al.best c a (y :: b)).less hc rfl
  have := h1.least hc; omega
theorem edit_less2 {c : Costs} (hc : c.ok) (x : Lexeme) (a b : List Lexeme) : edit c a b ≤ edit c (x :: a) b + c.add := by
  have := edit_less hc.flip_ok x b a
  rw [edit_flip hc, edit_flip hc] at this
  exact this
theorem edit_front1 {c : Costs} (hc : c.ok) (x : Lexeme) (a b : List Lexeme) : edit c (x :: a) (x :: b) = edit c a b := by
  rw [edit_cons, pair_eq rfl, Int.add_zero]
  have h1 := edit_less hc x a b
  have h2 := edit_less2 hc x a b
  rcases min3_cases (edit c a b) (edit c a (x :: b) + c.drop) (edit c (x :: a) b + c.add) with h | h | h <;> omega
theorem edit_front {c : Costs} (hc : c.ok) : ∀ (f a b : List Lexeme), edit c (f ++ a) (f ++ b) = edit c a b
  | [], a, b => rfl
  | x :: f, a, b => by rw [List.cons_append, List.cons_append, edit_front1 hc, edit_front hc f a b]
theorem edit_common {c : Costs} (hc : c.ok) (f a b k : List Lexeme) : edit c (f ++ (a ++ k)) (f ++ (b ++ k)) = edit c a b := by
  rw [edit_front hc, ← edit_rev hc, List.reverse_append, List.reverse_append, edit_front hc, edit_rev hc]

/-! What Distance, Potential and Bound answer. -/
def distF (a b : List Lexeme) (c : Costs) : Int × Int := if checkF a b c = 0 then (edit c a b, 0) else (0, checkF a b c)
def potF (a b : List Lexeme) (c : Costs) : List (List Int) × Int := if checkF a b c = 0 then (frontF a b c, 0) else ([], checkF a b c)
theorem fkv_all {a b : List Lexeme} {c : Costs} (hc : c.ok) : fkv a b c a.length b.length = edit c a b := by
  unfold fkv; rw [List.take_of_length_le (Nat.le_refl _), List.take_of_length_le (Nat.le_refl _), edit_rev hc]
end Go.Lic
