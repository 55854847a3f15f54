/-
  The alignment that is read off a table, in plain Lean. No program in sight.
-/
import Derived.Test.YthggcjnmodeehaaSpec2
set_option linter.all false
namespace Go.Lic

/-- The steps that are read off the table of rests. -/
def alignS (c : Costs) : List Lexeme → List Lexeme → List Int
  | [], [] => []
  | [], _ :: b => 4 :: alignS c [] b
  | _ :: a, [] => 3 :: alignS c a []
  | x :: a, y :: b =>
    if edit c (x :: a) (y :: b) = edit c a b + pairF x y c then (if x.text = y.text then 1 else 2) :: alignS c a b
    else if edit c (x :: a) (y :: b) = edit c a (y :: b) + c.drop then 3 :: alignS c a (y :: b)
    else 4 :: alignS c (x :: a) b
termination_by a b => a.length + b.length

/-- What Align answers: the alignment and the code. -/
def alignR (a b : List Lexeme) (c : Costs) : Alignment × Int := if checkF a b c = 0 then (⟨edit c a b, alignS c a b⟩, 0) else (⟨0, []⟩, checkF a b c)
def encRes (x : Alignment × Int) : D := .tup [encAl x.1, .i x.2]
theorem alignR_err {a b : List Lexeme} {c : Costs} (h : checkF a b c ≠ 0) : alignR a b c = (⟨0, []⟩, checkF a b c) := by simp [alignR, h]
theorem alignR_ok {a b : List Lexeme} {c : Costs} (h : checkF a b c = 0) : alignR a b c = (⟨edit c a b, alignS c a b⟩, 0) := by simp [alignR, h]

section
variable {a b : List Lexeme} {c : Costs} {i j : Nat}
theorem drop_cons {α : Type} {l : List α} {i : Nat} (h : i < l.length) : l.drop i = l[i] :: l.drop (i + 1) := List.drop_eq_getElem_cons h

theorem as1 (hi : i < a.length) (hj : j < b.length) (ht : a[i].text = b[j].text) (h : bkv a b c i j = bkv a b c (i + 1) (j + 1) + pairF a[i] b[j] c) : alignS c (a.drop i) (b.drop j) = 1 :: alignS c (a.drop (i + 1)) (b.drop (j + 1)) := by
  unfold bkv at h
  rw [drop_cons hi, drop_cons hj] at h ⊢
  rw [alignS, if_pos h, if_pos ht]
theorem as2 (hi : i < a.length) (hj : j < b.length) (ht : ¬ a[i].text = b[j].text) (h : bkv a b c i j = bkv a b c (i + 1) (j + 1) + pairF a[i] b[j] c) : alignS c (a.drop i) (b.drop j) = 2 :: alignS c (a.drop (i + 1)) (b.drop (j + 1)) := by
  unfold bkv at h
  rw [drop_cons hi, drop_cons hj] at h ⊢
  rw [alignS, if_pos h, if_neg ht]
theorem as3 (hi : i < a.length) (h1 : ∀ hj : j < b.length, ¬ bkv a b c i j = bkv a b c (i + 1) (j + 1) + pairF a[i] b[j] c) (h : bkv a b c i j = bkv a b c (i + 1) j + c.drop) : alignS c (a.drop i) (b.drop j) = 3 :: alignS c (a.drop (i + 1)) (b.drop j) := by
  unfold bkv at h h1
  by_cases hj : j < b.length
  · have h1 := h1 hj
    rw [drop_cons hi, drop_cons hj] at h h1 ⊢
    rw [alignS, if_neg h1, if_pos h]
  · rw [List.drop_eq_nil_of_le (by omega : b.length ≤ j), drop_cons hi, alignS]
theorem as4 (hij : i < a.length ∨ j < b.length) (h1 : ∀ (hi : i < a.length) (hj : j < b.length), ¬ bkv a b c i j = bkv a b c (i + 1) (j + 1) + pairF a[i] b[j] c) (h2 : i < a.length → ¬ bkv a b c i j = bkv a b c (i + 1) j + c.drop) :
    j < b.length ∧ alignS c (a.drop i) (b.drop j) = 4 :: alignS c (a.drop i) (b.drop (j + 1)) := by
  by_cases hj : j < b.length
  · refine ⟨hj, ?_⟩
    by_cases hi : i < a.length
    · have h1 := h1 hi hj
      have h2 := h2 hi
      unfold bkv at h1 h2
      rw [drop_cons hi, drop_cons hj] at h1 h2 ⊢
      rw [alignS, if_neg h1, if_neg h2]
    · rw [List.drop_eq_nil_of_le (by omega : a.length ≤ i), drop_cons hj, alignS]
  · have hi : i < a.length := by omega
    exfalso
    apply h2 hi
    rw [bkv_b (by omega), bkv_b (by omega), show a.length - i = (a.length - (i + 1)) + 1 by omega]
    simp [Int.add_mul]
theorem as_end (hi : a.length ≤ i) (hj : b.length ≤ j) : alignS c (a.drop i) (b.drop j) = [] := by
  rw [List.drop_eq_nil_of_le hi, List.drop_eq_nil_of_le hj, alignS]
theorem as_snoc {xs ys zs : List Int} {s : Int} {l : List Int} (h : xs ++ ys = zs) (hs : ys = s :: l) : (xs ++ [s]) ++ l = zs := by rw [← h, hs]; simp
theorem pair_eq {x y : Lexeme} (h : x.text = y.text) : pairF x y c = 0 := by simp [pairF, h]
theorem pair_ne {x y : Lexeme} (h : ¬ x.text = y.text) : pairF x y c = c.change := by simp [pairF, h]
theorem rowB (h : i < a.length + 1) : ((backF a b c).map encInts)[i]? = some (.list 1 (((List.range (b.length + 1)).map (bkv a b c i)).map D.i)) := by
  simp [backF, h, encInts]
theorem cellB {m : Nat} {f : Nat → Int} (h : j < m) : (((List.range m).map f).map D.i)[j]? = some (.i (f j)) := by simp [h]
theorem ints_snoc {ds : List D} {xs : List Int} {s : Int} (h : ds = xs.map D.i) : ds ++ [.i s] = (xs ++ [s]).map D.i := by simp [h]
end
end Go.Lic
