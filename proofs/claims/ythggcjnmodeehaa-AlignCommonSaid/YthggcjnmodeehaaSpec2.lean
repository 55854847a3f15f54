/-
  Tables of distances, in plain Lean. No program in sight.
-/
import Derived.Test.YthggcjnmodeehaaSpec
import Derived.Test.YthggcjnmodeehaaRule3
set_option linter.all false
namespace Go.Lic

/-- The least of three, as the built-in takes it. -/
def min3 (x y z : Int) : Int := [y, z].foldl (fun x y => if y < x then y else x) x
theorem min3_cases (x y z : Int) : (min3 x y z = x ∧ x ≤ y ∧ x ≤ z) ∨ (min3 x y z = y ∧ y ≤ x ∧ y ≤ z) ∨ (min3 x y z = z ∧ z ≤ x ∧ z ≤ y) := by
  unfold min3; simp only [List.foldl_cons, List.foldl_nil]
  split <;> split <;> omega

/-- The edit distance with these costs. -/
def edit (c : Costs) : List Lexeme → List Lexeme → Int
  | [], b => b.length * c.add
  | x :: a, [] => (x :: a).length * c.drop
  | x :: a, y :: b => min3 (edit c a b + pairF x y c) (edit c a (y :: b) + c.drop) (edit c (x :: a) b + c.add)
termination_by a b => a.length + b.length

theorem edit_nil (c : Costs) (b : List Lexeme) : edit c [] b = b.length * c.add := by rw [edit]
theorem edit_nil2 (c : Costs) (a : List Lexeme) : edit c a [] = a.length * c.drop := by
  cases a with
  | nil => rw [edit]; simp
  | cons x a => rw [edit]
theorem edit_cons (c : Costs) (x y : Lexeme) (a b : List Lexeme) : edit c (x :: a) (y :: b) = min3 (edit c a b + pairF x y c) (edit c a (y :: b) + c.drop) (edit c (x :: a) b + c.add) := by rw [edit]

structure Costs.ok (c : Costs) : Prop where
  change : 1 ≤ c.change ∧ c.change ≤ 1000
  drop : 1 ≤ c.drop ∧ c.drop ≤ 1000
  add : 1 ≤ c.add ∧ c.add ≤ 1000

theorem edit_bd {c : Costs} (hc : c.ok) : ∀ (a b : List Lexeme), 0 ≤ edit c a b ∧ edit c a b ≤ 1000 * (a.length + b.length)
  | [], b => by
    rw [edit_nil]
    have := hc.add
    have h1 : 0 ≤ (b.length : Int) * c.add := Int.mul_nonneg (by omega) (by omega)
    have h2 : (b.length : Int) * c.add ≤ b.length * 1000 := Int.mul_le_mul_of_nonneg_left (by omega) (by omega)
    simp; omega
  | x :: a, [] => by
    rw [edit_nil2]
    have := hc.drop
    have h1 : 0 ≤ ((x :: a).length : Int) * c.drop := Int.mul_nonneg (by omega) (by omega)
    have h2 : ((x :: a).length : Int) * c.drop ≤ (x :: a).length * 1000 := Int.mul_le_mul_of_nonneg_left (by omega) (by omega)
    rw [List.length_nil]; omega
  | x :: a, y :: b => by
    rw [edit_cons]
    have h1 := edit_bd hc a b
    have h2 := edit_bd hc a (y :: b)
    have h3 := edit_bd hc (x :: a) b
    have h4 := pairF_bd (x := x) (y := y) hc.change
    have h5 := hc.drop
    have h6 := hc.add
    simp only [List.length_cons] at *
    rcases min3_cases (edit c a b + pairF x y c) (edit c a (y :: b) + c.drop) (edit c (x :: a) b + c.add) with h | h | h <;> omega
termination_by a b => a.length + b.length

theorem edit_eq_zero_bd {c : Costs} (hc : c.ok) {a b : List Lexeme} (ha : a.length ≤ 1024) (hb : b.length ≤ 1024) : 0 ≤ edit c a b ∧ edit c a b ≤ 2048000 := by
  have := edit_bd hc a b; omega

/-- The distance of the rests behind i and j. -/
def bkv (a b : List Lexeme) (c : Costs) (i j : Nat) : Int := edit c (a.drop i) (b.drop j)
/-- The distance of the first i and the first j, told from their ends. -/
def fkv (a b : List Lexeme) (c : Costs) (i j : Nat) : Int := edit c (a.take i).reverse (b.take j).reverse

section
variable {a b : List Lexeme} {c : Costs} {i j : Nat}
theorem bkv_a (hi : a.length ≤ i) : bkv a b c i j = ((b.length - j : Nat) : Int) * c.add := by
  unfold bkv; rw [List.drop_eq_nil_of_le hi, edit_nil, List.length_drop]
theorem bkv_b (hj : b.length ≤ j) : bkv a b c i j = ((a.length - i : Nat) : Int) * c.drop := by
  unfold bkv; rw [List.drop_eq_nil_of_le hj, edit_nil2, List.length_drop]
theorem bkv_step (hi : i < a.length) (hj : j < b.length) : bkv a b c i j = min3 (bkv a b c (i + 1) (j + 1) + pairF a[i] b[j] c) (bkv a b c (i + 1) j + c.drop) (bkv a b c i (j + 1) + c.add) := by
  unfold bkv
  rw [List.drop_eq_getElem_cons hi, List.drop_eq_getElem_cons hj, edit_cons]
theorem bkv_r0 (hi : a.length ≤ i) (hj : b.length ≤ j) : bkv a b c i j = 0 := by rw [bkv_a hi, show b.length - j = 0 by omega]; simp
theorem bkv_r1 (hi : a.length ≤ i) (hj : j < b.length) : bkv a b c i j = bkv a b c i (j + 1) + c.add := by
  rw [bkv_a hi, bkv_a hi, show b.length - j = (b.length - (j + 1)) + 1 by omega]
  simp [Int.add_mul]
theorem bkv_r2 (hi : i < a.length) (hj : b.length ≤ j) : bkv a b c i j = bkv a b c (i + 1) j + c.drop := by
  rw [bkv_b hj, bkv_b hj, show a.length - i = (a.length - (i + 1)) + 1 by omega]
  simp [Int.add_mul]
theorem bkv_r3 (hi : i < a.length) (hj : j < b.length) : (bkv a b c i j = bkv a b c (i + 1) (j + 1) + pairF a[i] b[j] c ∨ bkv a b c i j = bkv a b c (i + 1) j + c.drop ∨ bkv a b c i j = bkv a b c i (j + 1) + c.add) ∧
    bkv a b c i j ≤ bkv a b c (i + 1) (j + 1) + pairF a[i] b[j] c ∧ bkv a b c i j ≤ bkv a b c (i + 1) j + c.drop ∧ bkv a b c i j ≤ bkv a b c i (j + 1) + c.add := by
  rw [bkv_step hi hj]
  rcases min3_cases (bkv a b c (i + 1) (j + 1) + pairF a[i] b[j] c) (bkv a b c (i + 1) j + c.drop) (bkv a b c i (j + 1) + c.add) with h | h | h <;> omega
theorem bkv_bd (hc : c.ok) (ha : a.length ≤ 1024) (hb : b.length ≤ 1024) (i j : Nat) : 0 ≤ bkv a b c i j ∧ bkv a b c i j ≤ 2048000 :=
  edit_eq_zero_bd hc (by rw [List.length_drop]; omega) (by rw [List.length_drop]; omega)
theorem fkv_a (hj : j ≤ b.length) : fkv a b c 0 j = (j : Int) * c.add := by
  unfold fkv; rw [List.take_zero, List.reverse_nil, edit_nil, List.length_reverse, List.length_take, Nat.min_eq_left hj]
theorem fkv_b (hi : i ≤ a.length) : fkv a b c i 0 = (i : Int) * c.drop := by
  unfold fkv; rw [List.take_zero, List.reverse_nil, edit_nil2, List.length_reverse, List.length_take, Nat.min_eq_left hi]
theorem fkv_step (hi : i < a.length) (hj : j < b.length) : fkv a b c (i + 1) (j + 1) = min3 (fkv a b c i j + pairF a[i] b[j] c) (fkv a b c i (j + 1) + c.drop) (fkv a b c (i + 1) j + c.add) := by
  unfold fkv
  rw [List.take_succ_eq_append_getElem hi, List.take_succ_eq_append_getElem hj, List.reverse_append, List.reverse_append]
  exact edit_cons _ _ _ _ _
theorem fkv_step' (hi : 1 ≤ i) (hi2 : i ≤ a.length) (hj : 1 ≤ j) (hj2 : j ≤ b.length) : fkv a b c i j = min3 (fkv a b c (i - 1) (j - 1) + pairF (a[i - 1]'(by omega)) (b[j - 1]'(by omega)) c) (fkv a b c (i - 1) j + c.drop) (fkv a b c i (j - 1) + c.add) := by
  obtain ⟨i, rfl⟩ : ∃ k, i = k + 1 := ⟨i - 1, by omega⟩
  obtain ⟨j, rfl⟩ : ∃ k, j = k + 1 := ⟨j - 1, by omega⟩
  exact fkv_step (by omega) (by omega)
theorem fkv_bd (hc : c.ok) (ha : a.length ≤ 1024) (hb : b.length ≤ 1024) (i j : Nat) : 0 ≤ fkv a b c i j ∧ fkv a b c i j ≤ 2048000 :=
  edit_eq_zero_bd hc (by rw [List.length_reverse, List.length_take]; omega) (by rw [List.length_reverse, List.length_take]; omega)
end

def backF (a b : List Lexeme) (c : Costs) : List (List Int) := (List.range (a.length + 1)).map fun i => (List.range (b.length + 1)).map (bkv a b c i)
def frontF (a b : List Lexeme) (c : Costs) : List (List Int) := (List.range (a.length + 1)).map fun i => (List.range (b.length + 1)).map (fkv a b c i)

theorem checkF_ok {a b : List Lexeme} {c : Costs} (h : checkF a b c = 0) : c.ok ∧ a.length ≤ 1024 ∧ b.length ≤ 1024 := by
  have := checkF_zero h
  exact ⟨⟨this.1, this.2.1, this.2.2.1⟩, this.2.2.2⟩

theorem mapI {l : List Int} {i : Nat} {v : Int} (h : l[i]? = some v) : (l.map D.i)[0 + i]? = some (.i v) := by rw [Nat.zero_add, List.getElem?_map, h]; rfl
theorem cell_set {l : List Int} {T : Nat → Int} {u m : Nat} {v : Int} (hl : l.length = m + 1) (hj : u ≤ m) (hL : ∀ j, j ≤ m → (u : Int) < j → l[j]? = some (T j)) (hv : v = T u) : ∀ j, j ≤ m → (u : Int) - 1 < j → (l.set (0 + u) v)[j]? = some (T j) := by
  intro j h1 h2
  rw [Nat.zero_add, List.getElem?_set]
  split
  · rename_i e; subst e; rw [if_pos (by omega), hv]
  · exact hL j h1 (by omega)
/-! Tables that are filled cell by cell. -/
theorem tab_set {l : List Int} {M i0 j0 i j : Nat} {v : Int} (hj0 : j0 < M) (hj : j < M) (hb : i0 * M + j0 < l.length) : (l.set (i0 * M + j0) v)[i * M + j]? = if i = i0 ∧ j = j0 then some v else l[i * M + j]? := by
  rw [List.getElem?_set]
  have key : i0 * M + j0 = i * M + j ↔ i = i0 ∧ j = j0 := by
    constructor
    · intro h
      have h1 : (i0 * M + j0) / M = i0 := by rw [Nat.mul_comm, Nat.mul_add_div (by omega), Nat.div_eq_of_lt hj0, Nat.add_zero]
      have h2 : (i * M + j) / M = i := by rw [Nat.mul_comm, Nat.mul_add_div (by omega), Nat.div_eq_of_lt hj, Nat.add_zero]
      have h3 : i0 = i := by rw [← h1, h, h2]
      subst h3; omega
    · rintro ⟨rfl, rfl⟩; rfl
  by_cases h : i = i0 ∧ j = j0
  · rw [if_pos (key.2 h), if_pos hb, if_pos h]
  · rw [if_neg (fun e => h (key.1 e)), if_neg h]

def Tab (l : List Int) (n m : Nat) (p : Nat → Nat → Prop) (T : Nat → Nat → Int) : Prop :=
  l.length = (n + 1) * (m + 1) ∧ ∀ i j, i ≤ n → j ≤ m → p i j → l[i * (m + 1) + j]? = some (T i j)

theorem tab_lt {n m i j : Nat} (hi : i ≤ n) (hj : j ≤ m) : i * (m + 1) + j < (n + 1) * (m + 1) := by
  have h1 : i * (m + 1) ≤ n * (m + 1) := Nat.mul_le_mul_right _ hi
  have h2 : (n + 1) * (m + 1) = n * (m + 1) + (m + 1) := by rw [Nat.add_mul, Nat.one_mul]
  omega
section
variable {l : List Int} {n m : Nat} {p p' : Nat → Nat → Prop} {T : Nat → Nat → Int}
theorem Tab.lt (h : Tab l n m p T) {i j : Nat} (hi : i ≤ n) (hj : j ≤ m) : i * (m + 1) + j < l.length := by rw [h.1]; exact tab_lt hi hj
theorem Tab.get (h : Tab l n m p T) {i j : Nat} (hi : i ≤ n) (hj : j ≤ m) (hp : p i j) : (l.map D.i)[i * (m + 1) + j]? = some (.i (T i j)) := by
  rw [List.getElem?_map, h.2 i j hi hj hp]; rfl
theorem Tab.set (h : Tab l n m p T) {i0 j0 : Nat} {v : Int} (hi : i0 ≤ n) (hj : j0 ≤ m) (hv : v = T i0 j0) (hp : ∀ i j, i ≤ n → j ≤ m → p' i j → p i j ∨ (i = i0 ∧ j = j0)) : Tab (l.set (i0 * (m + 1) + j0) v) n m p' T := by
  refine ⟨by rw [List.length_set]; exact h.1, fun i j h1 h2 h3 => ?_⟩
  rw [tab_set (by omega) (by omega) (h.lt hi hj)]
  split
  · rename_i e; obtain ⟨rfl, rfl⟩ := e; rw [hv]
  · rename_i e
    rcases hp i j h1 h2 h3 with h4 | h4
    · exact h.2 i j h1 h2 h4
    · exact absurd h4 e
theorem Tab.less (h : Tab l n m p T) (hp : ∀ i j, i ≤ n → j ≤ m → p' i j → p i j) : Tab l n m p' T := ⟨h.1, fun i j h1 h2 h3 => h.2 i j h1 h2 (hp i j h1 h2 h3)⟩
theorem Tab.zero (hp : ∀ i j, i ≤ n → j ≤ m → ¬ p i j) : Tab (List.replicate ((n + 1) * (m + 1)) 0) n m p T := ⟨by simp, fun i j h1 h2 h3 => absurd h3 (hp i j h1 h2)⟩
theorem Tab.snap (h : Tab l n m p T) (hp : ∀ i j, i ≤ n → j ≤ m → p i j) {hh : Heap} {r c : Nat} {ds ds' : List D} (hr : Has r (.cells 1 (rowsD c (n + 1) (m + 1))) hh) (hc : Has c (.cells 1 (l.map D.i)) hh) (hs : Snap false hh ds ds') :
    Snap false hh (.own r 1 0 (n + 1) :: ds) (.list 1 (((List.range (n + 1)).map fun i => (List.range (m + 1)).map (T i)).map fun x => .list 1 (x.map D.i)) :: ds') :=
  .table hr hc h.1 (fun i j hi hj => h.2 i j (by omega) (by omega) (hp i j (by omega) (by omega))) hs
end
end Go.Lic
