/-
  Tables of distances, in plain Lean. No program in sight.
-/
import Derived.Test.YtkifpidbpoghlaaGreatDoorQW1
import Derived.Test.YtkifpidbpoghlaaGreatDoorRule
import Derived.Test.YtkifpidbpoghlaaGreatDoorPa
set_option linter.all false
namespace Go.Lic
def min3 (x y z : Int) : Int := [y, z].foldl (fun x y => if y < x then y else x) x
theorem min3_cases (x y z : Int) : (min3 x y z = x ∧ x ≤ y ∧ x ≤ z) ∨ (min3 x y z = y ∧ y ≤ x ∧ y ≤ z) ∨ (min3 x y z = z ∧ z ≤ x ∧ z ≤ y) := by
 unfold min3; simp only [List.foldl_cons, List.foldl_nil]
 split <;> split <;> omega
def edit (c : Costs) : List Lexeme → List Lexeme → Int
 | [], b => b.length * c.add
 | x :: a, [] => (x :: a).length * c.drop
 | x :: a, y :: b => min3 (edit c a b + alPair x y c) (edit c a (y :: b) + c.drop) (edit c (x :: a) b + c.add)
termination_by a b => a.length + b.length
theorem edit_nil (c : Costs) (b : List Lexeme) : edit c [] b = b.length * c.add := by rw [edit]
theorem edit_nil2 (c : Costs) (a : List Lexeme) : edit c a [] = a.length * c.drop := by
 cases a with
 | nil => rw [edit]; simp
 | cons x a => rw [edit]
theorem edit_cons (c : Costs) (x y : Lexeme) (a b : List Lexeme) : edit c (x :: a) (y :: b) = min3 (edit c a b + alPair x y c) (edit c a (y :: b) + c.drop) (edit c (x :: a) b + c.add) := by rw [edit]
structure Costs.ok (c : Costs) : Prop where
 change : 1 ≤ c.change ∧ c.change ≤ 1000
 drop : 1 ≤ c.drop ∧ c.drop ≤ 1000
 add : 1 ≤ c.add ∧ c.add ≤ 1000
theorem edit_bd {c : Costs} (hc : c.ok) : ∀ (a b : List Lexeme), 0 ≤ edit c a b ∧ edit c a b ≤ 1000 * (a.length + b.length)
 | [], b => by
   rw [edit_nil]
   have := hc.add
   have h1 : 0 ≤ (b.length : Int) * c.add := Int.mul_nonneg (by omega) (by omega)
   have h2 : (b.length : Int) * c.add ≤ b.length * 1000 := Int.mul_le_mul_of_nonneg_left (by omega) (by omega)
   simp; omega
 | x :: a, [] => by
   rw [edit_nil2]
   have := hc.drop
   have h1 : 0 ≤ ((x :: a).length : Int) * c.drop := Int.mul_nonneg (by omega) (by omega)
   have h2 : ((x :: a).length : Int) * c.drop ≤ (x :: a).length * 1000 := Int.mul_le_mul_of_nonneg_left (by omega) (by omega)
   rw [List.length_nil]; omega
 | x :: a, y :: b => by
   rw [edit_cons]
   have h1 := edit_bd hc a b
   have h2 := edit_bd hc a (y :: b)
   have h3 := edit_bd hc (x :: a) b
   have h4 := pairF_bd (x := x) (y := y) hc.change
   have h5 := hc.drop
   have h6 := hc.add
   simp only [List.length_cons] at *
   rcases min3_cases (edit c a b + alPair x y c) (edit c a (y :: b) + c.drop) (edit c (x :: a) b + c.add) with h | h | h <;> omega
termination_by a b => a.length + b.length
theorem edit_eq_zero_bd {c : Costs} (hc : c.ok) {a b : List Lexeme} (ha : a.length ≤ 1024) (hb : b.length ≤ 1024) : 0 ≤ edit c a b ∧ edit c a b ≤ 2048000 := by
 have := edit_bd hc a b; omega
def bkv (a b : List Lexeme) (c : Costs) (i j : Nat) : Int := edit c (a.drop i) (b.drop j)
def fkv (a b : List Lexeme) (c : Costs) (i j : Nat) : Int := edit c (a.take i).reverse (b.take j).reverse
section
variable {a b : List Lexeme} {c : Costs} {i j : Nat}
theorem bkv_a (hi : a.length ≤ i) : bkv a b c i j = ((b.length - j : Nat) : Int) * c.add := by
 unfold bkv; rw [List.drop_eq_nil_of_le hi, edit_nil, List.length_drop]
theorem bkv_b (hj : b.length ≤ j) : bkv a b c i j = ((a.length - i : Nat) : Int) * c.drop := by
 unfold bkv; rw [List.drop_eq_nil_of_le hj, edit_nil2, List.length_drop]
theorem bkv_step (hi : i < a.length) (hj : j < b.length) : bkv a b c i j = min3 (bkv a b c (i + 1) (j + 1) + alPair a[i] b[j] c) (bkv a b c (i + 1) j + c.drop) (bkv a b c i (j + 1) + c.add) := by
 unfold bkv
 rw [List.drop_eq_getElem_cons hi, List.drop_eq_getElem_cons hj, edit_cons]
theorem bkv_bd (hc : c.ok) (ha : a.length ≤ 1024) (hb : b.length ≤ 1024) (i j : Nat) : 0 ≤ bkv a b c i j ∧ bkv a b c i j ≤ 2048000 :=
 edit_eq_zero_bd hc (by rw [List.length_drop]; omega) (by rw [List.length_drop]; omega)
theorem fkv_a (hj : j ≤ b.length) : fkv a b c 0 j = (j : Int) * c.add := by
 unfold fkv; rw [List.take_zero, List.reverse_nil, edit_nil, List.length_reverse, List.length_take, Nat.min_eq_left hj]
theorem fkv_b (hi : i ≤ a.length) : fkv a b c i 0 = (i : Int) * c.drop := by
 unfold fkv; rw [List.take_zero, List.reverse_nil, edit_nil2, List.length_reverse, List.length_take, Nat.min_eq_left hi]
theorem fkv_step (hi : i < a.length) (hj : j < b.length) : fkv a b c (i + 1) (j + 1) = min3 (fkv a b c i j + alPair a[i] b[j] c) (fkv a b c i (j + 1) + c.drop) (fkv a b c (i + 1) j + c.add) := by
 unfold fkv
 rw [List.take_succ_eq_append_getElem hi, List.take_succ_eq_append_getElem hj, List.reverse_append, List.reverse_append]
 exact edit_cons _ _ _ _ _
theorem fkv_step' (hi : 1 ≤ i) (hi2 : i ≤ a.length) (hj : 1 ≤ j) (hj2 : j ≤ b.length) : fkv a b c i j = min3 (fkv a b c (i - 1) (j - 1) + alPair (a[i - 1]'(by omega)) (b[j - 1]'(by omega)) c) (fkv a b c (i - 1) j + c.drop) (fkv a b c i (j - 1) + c.add) := by
 obtain ⟨i, rfl⟩ : ∃ k, i = k + 1 := ⟨i - 1, by omega⟩
 obtain ⟨j, rfl⟩ : ∃ k, j = k + 1 := ⟨j - 1, by omega⟩
 exact fkv_step (by omega) (by omega)
theorem fkv_bd (hc : c.ok) (ha : a.length ≤ 1024) (hb : b.length ≤ 1024) (i j : Nat) : 0 ≤ fkv a b c i j ∧ fkv a b c i j ≤ 2048000 :=
 edit_eq_zero_bd hc (by rw [List.length_reverse, List.length_take]; omega) (by rw [List.length_reverse, List.length_take]; omega)
end
def backF (a b : List Lexeme) (c : Costs) : List (List Int) := (List.range (a.length + 1)).map fun i => (List.range (b.length + 1)).map (bkv a b c i)
def frontF (a b : List Lexeme) (c : Costs) : List (List Int) := (List.range (a.length + 1)).map fun i => (List.range (b.length + 1)).map (fkv a b c i)
theorem checkF_ok {a b : List Lexeme} {c : Costs} (h : alCheck a b c = 0) : c.ok ∧ a.length ≤ 1024 ∧ b.length ≤ 1024 := by
 have := checkF_zero h
 exact ⟨⟨this.1, this.2.1, this.2.2.1⟩, this.2.2.2⟩
theorem tab_set {l : List Int} {M i0 j0 i j : Nat} {v : Int} (hj0 : j0 < M) (hj : j < M) (hb : i0 * M + j0 < l.length) : (l.set (i0 * M + j0) v)[i * M + j]? = if i = i0 ∧ j = j0 then some v else l[i * M + j]? := by
 rw [List.getElem?_set]
 have key : i0 * M + j0 = i * M + j ↔ i = i0 ∧ j = j0 := by
   constructor
   · intro h
     have h1 : (i0 * M + j0) / M = i0 := by rw [Nat.mul_comm, Nat.mul_add_div (by omega), Nat.div_eq_of_lt hj0, Nat.add_zero]
     have h2 : (i * M + j) / M = i := by rw [Nat.mul_comm, Nat.mul_add_div (by omega), Nat.div_eq_of_lt hj, Nat.add_zero]
     have h3 : i0 = i := by rw [← h1, h, h2]
     subst h3; omega
   · rintro ⟨rfl, rfl⟩; rfl
 by_cases h : i = i0 ∧ j = j0
 · rw [if_pos (key.2 h), if_pos hb, if_pos h]
 · rw [if_neg (fun e => h (key.1 e)), if_neg h]
def Tab (l : List Int) (n m : Nat) (p : Nat → Nat → Prop) (T : Nat → Nat → Int) : Prop :=
 l.length = (n + 1) * (m + 1) ∧ ∀ i j, i ≤ n → j ≤ m → p i j → l[i * (m + 1) + j]? = some (T i j)
theorem tab_lt {n m i j : Nat} (hi : i ≤ n) (hj : j ≤ m) : i * (m + 1) + j < (n + 1) * (m + 1) := by
 have h1 : i * (m + 1) ≤ n * (m + 1) := Nat.mul_le_mul_right _ hi
 have h2 : (n + 1) * (m + 1) = n * (m + 1) + (m + 1) := by rw [Nat.add_mul, Nat.one_mul]
 omega
section
variable {l : List Int} {n m : Nat} {p p' : Nat → Nat → Prop} {T : Nat → Nat → Int}
theorem Tab.lt (h : Tab l n m p T) {i j : Nat} (hi : i ≤ n) (hj : j ≤ m) : i * (m + 1) + j < l.length := by rw [h.1]; exact tab_lt hi hj
theorem Tab.get (h : Tab l n m p T) {i j : Nat} (hi : i ≤ n) (hj : j ≤ m) (hp : p i j) : (l.map D.i)[i * (m + 1) + j]? = some (.i (T i j)) := by
 rw [List.getElem?_map, h.2 i j hi hj hp]; rfl
theorem Tab.set (h : Tab l n m p T) {i0 j0 : Nat} {v : Int} (hi : i0 ≤ n) (hj : j0 ≤ m) (hv : v = T i0 j0) (hp : ∀ i j, i ≤ n → j ≤ m → p' i j → p i j ∨ (i = i0 ∧ j = j0)) : Tab (l.set (i0 * (m + 1) + j0) v) n m p' T := by
 refine ⟨by rw [List.length_set]; exact h.1, fun i j h1 h2 h3 => ?_⟩
 rw [tab_set (by omega) (by omega) (h.lt hi hj)]
 split
 · rename_i e; obtain ⟨rfl, rfl⟩ := e; rw [hv]
 · rename_i e
   rcases hp i j h1 h2 h3 with h4 | h4
   · exact h.2 i j h1 h2 h4
   · exact absurd h4 e
theorem Tab.less (h : Tab l n m p T) (hp : ∀ i j, i ≤ n → j ≤ m → p' i j → p i j) : Tab l n m p' T := ⟨h.1, fun i j h1 h2 h3 => h.2 i j h1 h2 (hp i j h1 h2 h3)⟩
theorem Tab.zero (hp : ∀ i j, i ≤ n → j ≤ m → ¬ p i j) : Tab (List.replicate ((n + 1) * (m + 1)) 0) n m p T := ⟨by simp, fun i j h1 h2 h3 => absurd h3 (hp i j h1 h2)⟩
theorem Tab.snap (h : Tab l n m p T) (hp : ∀ i j, i ≤ n → j ≤ m → p i j) {hh : Heap} {r c : Nat} {ds ds' : List D} (hr : Has r (.cells 1 (rowsD c (n + 1) (m + 1))) hh) (hc : Has c (.cells 1 (l.map D.i)) hh) (hs : Snap false hh ds ds') :
   Snap false hh (.own r 1 0 (n + 1) :: ds) (.list 1 (((List.range (n + 1)).map fun i => (List.range (m + 1)).map (T i)).map fun x => .list 1 (x.map D.i)) :: ds') :=
 .table hr hc h.1 (fun i j hi hj => h.2 i j (by omega) (by omega) (hp i j (by omega) (by omega))) hs
end
end Go.Lic
set_option linter.all false
namespace Go.Lic
def alignS (c : Costs) : List Lexeme → List Lexeme → List Int
 | [], [] => []
 | [], _ :: b => 4 :: alignS c [] b
 | _ :: a, [] => 3 :: alignS c a []
 | x :: a, y :: b =>
   if edit c (x :: a) (y :: b) = edit c a b + alPair x y c then (if x.text = y.text then 1 else 2) :: alignS c a b
   else if edit c (x :: a) (y :: b) = edit c a (y :: b) + c.drop then 3 :: alignS c a (y :: b)
   else 4 :: alignS c (x :: a) b
termination_by a b => a.length + b.length
def alignR (a b : List Lexeme) (c : Costs) : Alignment × Int := if alCheck a b c = 0 then (⟨edit c a b, alignS c a b⟩, 0) else (⟨0, []⟩, alCheck a b c)
def encRes (x : Alignment × Int) : D := .tup [encAl x.1, .i x.2]
theorem alignR_err {a b : List Lexeme} {c : Costs} (h : alCheck a b c ≠ 0) : alignR a b c = (⟨0, []⟩, alCheck a b c) := by simp [alignR, h]
theorem alignR_ok {a b : List Lexeme} {c : Costs} (h : alCheck a b c = 0) : alignR a b c = (⟨edit c a b, alignS c a b⟩, 0) := by simp [alignR, h]
section
variable {a b : List Lexeme} {c : Costs} {i j : Nat}
theorem drop_cons {α : Type} {l : List α} {i : Nat} (h : i < l.length) : l.drop i = l[i] :: l.drop (i + 1) := List.drop_eq_getElem_cons h
theorem as1 (hi : i < a.length) (hj : j < b.length) (ht : a[i].text = b[j].text) (h : bkv a b c i j = bkv a b c (i + 1) (j + 1) + alPair a[i] b[j] c) : alignS c (a.drop i) (b.drop j) = 1 :: alignS c (a.drop (i + 1)) (b.drop (j + 1)) := by
 unfold bkv at h
 rw [drop_cons hi, drop_cons hj] at h ⊢
 rw [alignS, if_pos h, if_pos ht]
theorem as2 (hi : i < a.length) (hj : j < b.length) (ht : ¬ a[i].text = b[j].text) (h : bkv a b c i j = bkv a b c (i + 1) (j + 1) + alPair a[i] b[j] c) : alignS c (a.drop i) (b.drop j) = 2 :: alignS c (a.drop (i + 1)) (b.drop (j + 1)) := by
 unfold bkv at h
 rw [drop_cons hi, drop_cons hj] at h ⊢
 rw [alignS, if_pos h, if_neg ht]
theorem as3 (hi : i < a.length) (h1 : ∀ hj : j < b.length, ¬ bkv a b c i j = bkv a b c (i + 1) (j + 1) + alPair a[i] b[j] c) (h : bkv a b c i j = bkv a b c (i + 1) j + c.drop) : alignS c (a.drop i) (b.drop j) = 3 :: alignS c (a.drop (i + 1)) (b.drop j) := by
 unfold bkv at h h1
 by_cases hj : j < b.length
 · have h1 := h1 hj
   rw [drop_cons hi, drop_cons hj] at h h1 ⊢
   rw [alignS, if_neg h1, if_pos h]
 · rw [List.drop_eq_nil_of_le (by omega : b.length ≤ j), drop_cons hi, alignS]
theorem as4 (hij : i < a.length ∨ j < b.length) (h1 : ∀ (hi : i < a.length) (hj : j < b.length), ¬ bkv a b c i j = bkv a b c (i + 1) (j + 1) + alPair a[i] b[j] c) (h2 : i < a.length → ¬ bkv a b c i j = bkv a b c (i + 1) j + c.drop) :
   j < b.length ∧ alignS c (a.drop i) (b.drop j) = 4 :: alignS c (a.drop i) (b.drop (j + 1)) := by
 by_cases hj : j < b.length
 · refine ⟨hj, ?_⟩
   by_cases hi : i < a.length
   · have h1 := h1 hi hj
     have h2 := h2 hi
     unfold bkv at h1 h2
     rw [drop_cons hi, drop_cons hj] at h1 h2 ⊢
     rw [alignS, if_neg h1, if_neg h2]
   · rw [List.drop_eq_nil_of_le (by omega : a.length ≤ i), drop_cons hj, alignS]
 · have hi : i < a.length := by omega
   exfalso
   apply h2 hi
   rw [bkv_b (by omega), bkv_b (by omega), show a.length - i = (a.length - (i + 1)) + 1 by omega]
   simp [Int.add_mul]
theorem as_end (hi : a.length ≤ i) (hj : b.length ≤ j) : alignS c (a.drop i) (b.drop j) = [] := by
 rw [List.drop_eq_nil_of_le hi, List.drop_eq_nil_of_le hj, alignS]
theorem as_snoc {xs ys zs : List Int} {s : Int} {l : List Int} (h : xs ++ ys = zs) (hs : ys = s :: l) : (xs ++ [s]) ++ l = zs := by rw [← h, hs]; simp
theorem pair_eq {x y : Lexeme} (h : x.text = y.text) : alPair x y c = 0 := by simp [alPair, h]
theorem pair_ne {x y : Lexeme} (h : ¬ x.text = y.text) : alPair x y c = c.change := by simp [alPair, h]
theorem rowB (h : i < a.length + 1) : ((backF a b c).map encInts)[i]? = some (.list 1 (((List.range (b.length + 1)).map (bkv a b c i)).map D.i)) := by
 simp [backF, h, encInts]
theorem cellB {m : Nat} {f : Nat → Int} (h : j < m) : (((List.range m).map f).map D.i)[j]? = some (.i (f j)) := by simp [h]
theorem ints_snoc {ds : List D} {xs : List Int} {s : Int} (h : ds = xs.map D.i) : ds ++ [.i s] = (xs ++ [s]).map D.i := by simp [h]
end
theorem zB {p : Prop} (h : p := by first | rfl | exact rowB (by omega) | exact cellB (by omega) | exact getM _ _ _ (by omega) | exact getO (by omega) | exact getL _ _ (by omega) | (simp; done)) : p := h
end Go.Lic
set_option linter.all false
namespace Go.Lic
inductive Al (c : Costs) : List Lexeme → List Lexeme → List Int → Int → Prop
 | nil : Al c [] [] [] 0
 | keep {x y : Lexeme} {a b : List Lexeme} {s : List Int} {n : Int} (ht : x.text = y.text) (h : Al c a b s n) : Al c (x :: a) (y :: b) (1 :: s) n
 | change {x y : Lexeme} {a b : List Lexeme} {s : List Int} {n : Int} (ht : ¬ x.text = y.text) (h : Al c a b s n) : Al c (x :: a) (y :: b) (2 :: s) (n + c.change)
 | drop {x : Lexeme} {a b : List Lexeme} {s : List Int} {n : Int} (h : Al c a b s n) : Al c (x :: a) b (3 :: s) (n + c.drop)
 | add {y : Lexeme} {a b : List Lexeme} {s : List Int} {n : Int} (h : Al c a b s n) : Al c a (y :: b) (4 :: s) (n + c.add)
theorem edit_drop {c : Costs} (hc : c.ok) (x : Lexeme) (a b : List Lexeme) : edit c (x :: a) b ≤ edit c a b + c.drop := by
 cases b with
 | nil => rw [edit_nil2, edit_nil2, List.length_cons]; simp [Int.add_mul]
 | cons y b =>
   rw [edit_cons]
   rcases min3_cases (edit c a b + alPair x y c) (edit c a (y :: b) + c.drop) (edit c (x :: a) b + c.add) with h | h | h <;> omega
theorem edit_add {c : Costs} (hc : c.ok) (y : Lexeme) (a b : List Lexeme) : edit c a (y :: b) ≤ edit c a b + c.add := by
 cases a with
 | nil => rw [edit_nil, edit_nil, List.length_cons]; simp [Int.add_mul]
 | cons x a =>
   rw [edit_cons]
   rcases min3_cases (edit c a b + alPair x y c) (edit c a (y :: b) + c.drop) (edit c (x :: a) b + c.add) with h | h | h <;> omega
theorem edit_pair {c : Costs} (x y : Lexeme) (a b : List Lexeme) : edit c (x :: a) (y :: b) ≤ edit c a b + alPair x y c := by
 rw [edit_cons]
 rcases min3_cases (edit c a b + alPair x y c) (edit c a (y :: b) + c.drop) (edit c (x :: a) b + c.add) with h | h | h <;> omega
theorem Al.least {c : Costs} (hc : c.ok) {a b : List Lexeme} {s : List Int} {n : Int} (h : Al c a b s n) : edit c a b ≤ n := by
 induction h with
 | nil => rw [edit_nil]; simp
 | @keep x y a b s n ht h ih => have := edit_pair (c := c) x y a b; rw [pair_eq ht] at this; omega
 | @change x y a b s n ht h ih => have := edit_pair (c := c) x y a b; rw [pair_ne ht] at this; omega
 | @drop x a b s n h ih => have := edit_drop hc x a b; omega
 | @add y a b s n h ih => have := edit_add hc y a b; omega
theorem Al.best (c : Costs) : ∀ (a b : List Lexeme), Al c a b (alignS c a b) (edit c a b)
 | [], [] => by rw [alignS, edit_nil]; simpa using Al.nil
 | [], y :: b => by
   rw [alignS]
   have h := Al.add (y := y) (Al.best c [] b)
   have e : edit c [] b + c.add = edit c [] (y :: b) := by rw [edit_nil, edit_nil, List.length_cons]; simp [Int.add_mul]
   rwa [e] at h
 | x :: a, [] => by
   rw [alignS]
   have h := Al.drop (x := x) (Al.best c a [])
   have e : edit c a [] + c.drop = edit c (x :: a) [] := by rw [edit_nil2, edit_nil2, List.length_cons]; simp [Int.add_mul]
   rwa [e] at h
 | x :: a, y :: b => by
   rw [alignS]
   split
   · rename_i h
     rw [h]
     split
     · rename_i ht; rw [pair_eq ht, Int.add_zero]; exact .keep ht (Al.best c a b)
     · rename_i ht; rw [pair_ne ht]; exact .change ht (Al.best c a b)
   · rename_i h1
     split
     · rename_i h; rw [h]; exact .drop (Al.best c a (y :: b))
     · rename_i h2
       have e : edit c (x :: a) (y :: b) = edit c (x :: a) b + c.add := by
         rw [edit_cons] at h1 h2 ⊢
         rcases min3_cases (edit c a b + alPair x y c) (edit c a (y :: b) + c.drop) (edit c (x :: a) b + c.add) with h | h | h <;> omega
       rw [e]; exact .add (Al.best c (x :: a) b)
termination_by a b => a.length + b.length
theorem Al.app {c : Costs} {a b : List Lexeme} {s : List Int} {n : Int} (h : Al c a b s n) {a' b' : List Lexeme} {s' : List Int} {n' : Int} (h' : Al c a' b' s' n') : Al c (a ++ a') (b ++ b') (s ++ s') (n + n') := by
 induction h with
 | nil => simpa using h'
 | keep ht h ih => exact .keep ht ih
 | @change x y a b s n ht h ih => have := Al.change ht ih; rwa [show n + n' + c.change = n + c.change + n' by omega] at this
 | @drop x a b s n h ih => have := Al.drop (x := x) ih; rwa [show n + n' + c.drop = n + c.drop + n' by omega] at this
 | @add y a b s n h ih => have := Al.add (y := y) ih; rwa [show n + n' + c.add = n + c.add + n' by omega] at this
theorem Al.rev {c : Costs} {a b : List Lexeme} {s : List Int} {n : Int} (h : Al c a b s n) : Al c a.reverse b.reverse s.reverse n := by
 induction h with
 | nil => exact .nil
 | keep ht h ih => have := ih.app (.keep ht .nil); simpa using this
 | @change x y a b s n ht h ih => have := ih.app (.change ht .nil); simpa using this
 | @drop x a b s n h ih => have := ih.app (.drop (x := x) .nil); simpa using this
 | @add y a b s n h ih => have := ih.app (.add (y := y) .nil); simpa using this
theorem edit_rev {c : Costs} (hc : c.ok) (a b : List Lexeme) : edit c a.reverse b.reverse = edit c a b := by
 have h1 := (Al.best c a b).rev.least hc
 have h2 := (Al.best c a.reverse b.reverse).rev.least hc
 rw [List.reverse_reverse, List.reverse_reverse] at h2
 omega
def potF (a b : List Lexeme) (c : Costs) : List (List Int) × Int := if alCheck a b c = 0 then (frontF a b c, 0) else ([], alCheck a b c)
theorem fkv_all {a b : List Lexeme} {c : Costs} (hc : c.ok) : fkv a b c a.length b.length = edit c a b := by
 unfold fkv; rw [List.take_of_length_le (Nat.le_refl _), List.take_of_length_le (Nat.le_refl _), edit_rev hc]
end Go.Lic
set_option linter.all false
namespace Go.Lic
instance : Inhabited Lexeme := ⟨⟨default, default⟩⟩
theorem alGiRange {α : Type} [Inhabited α] {f : Nat → α} {n : Nat} {k : Int} (h : inL k n) : gi ((List.range n).map f) k = f k.toNat := by
 rw [gi_lt (by simpa using h)]; simp
theorem gi_cons0 {α : Type} [Inhabited α] (x : α) (l : List α) : gi (x :: l) 0 = x := rfl
theorem alGiCons {α : Type} [Inhabited α] (x : α) (l : List α) {k : Int} (h : 0 < k) : gi (x :: l) k = gi l (k - 1) := by
 unfold gi
 obtain ⟨n, rfl⟩ : ∃ n : Nat, k = n + 1 := ⟨(k - 1).toNat, by omega⟩
 simp
theorem Al.len {c : Costs} {a b : List Lexeme} {s : List Int} {n : Int} (h : Al c a b s n) : s.length ≤ a.length + b.length := by
 induction h <;> simp only [List.length_cons, List.length_nil] at * <;> omega
theorem alignR_len (a b : List Lexeme) (c : Costs) : (alignR a b c).1.steps.length ≤ a.length + b.length := by
 unfold alignR; split
 · exact (Al.best c a b).len
 · simp
def chg (s : List Int) : Nat := (s.filter (· == 2)).length
theorem Al.kept {c : Costs} {a b : List Lexeme} {s : List Int} {n : Int} (h : Al c a b s n) : ∀ (i j : Nat) (o : List (Int × Int)), ∃ o', s.foldlM keptStep (i, j, o) = some (i + a.length, j + b.length, o ++ o') ∧
   (∀ p ∈ o', (i : Int) ≤ p.1 ∧ p.1 < i + a.length ∧ (j : Int) ≤ p.2 ∧ p.2 < j + b.length ∧ (gi a (p.1 - i)).text = (gi b (p.2 - j)).text) ∧
   o'.Pairwise (fun p q => p.1 < q.1 ∧ p.2 < q.2) ∧ n = c.change * chg s + c.drop * ((a.length : Int) - (o'.length + chg s)) + c.add * ((b.length : Int) - (o'.length + chg s)) ∧ (s.length : Int) = a.length + b.length - (o'.length + chg s) := by
 induction h with
 | nil => intro i j o; exact ⟨[], by simp, by simp, .nil, by simp [chg], by simp [chg]⟩
 | @keep x y a b s n ht h ih =>
   intro i j o
   obtain ⟨o', h1, h2, h3, h4, h5⟩ := ih (i + 1) (j + 1) (o ++ [((i : Int), (j : Int))])
   refine ⟨((i : Int), (j : Int)) :: o', ?_, ?_, ?_, ?_, ?_⟩
   · rw [List.foldlM_cons, kept1 rfl]
     show s.foldlM keptStep _ = _
     rw [h1]; simp; omega
   · intro p hp
     rcases List.mem_cons.1 hp with rfl | hp
     · refine ⟨by simp, by simp; omega, by simp, by simp; omega, ?_⟩
       simp [gi_cons0, ht]
     · obtain ⟨g1, g2, g3, g4, g5⟩ := h2 p hp
       refine ⟨by omega, by simp; omega, by omega, by simp; omega, ?_⟩
       rw [alGiCons _ _ (by omega), alGiCons _ _ (by omega)]
       rw [show p.1 - (i : Int) - 1 = p.1 - ((i + 1 : Nat) : Int) by omega, show p.2 - (j : Int) - 1 = p.2 - ((j + 1 : Nat) : Int) by omega]
       exact g5
   · refine .cons ?_ h3
     intro p hp
     obtain ⟨g1, g2, g3, g4, g5⟩ := h2 p hp
     exact ⟨by simp; omega, by simp; omega⟩
   · have e : chg (1 :: s) = chg s := by simp [chg]
     rw [e, h4]
     simp only [List.length_cons]
     rw [show ((a.length + 1 : Nat) : Int) - (((o'.length + 1 : Nat) : Int) + chg s) = (a.length : Int) - (o'.length + chg s) by omega, show ((b.length + 1 : Nat) : Int) - (((o'.length + 1 : Nat) : Int) + chg s) = (b.length : Int) - (o'.length + chg s) by omega]
   · have e : chg (1 :: s) = chg s := by simp [chg]
     rw [e]; simp only [List.length_cons]; omega
 | @change x y a b s n ht h ih =>
   intro i j o
   obtain ⟨o', h1, h2, h3, h4, h5⟩ := ih (i + 1) (j + 1) o
   refine ⟨o', ?_, ?_, h3, ?_, ?_⟩
   · rw [List.foldlM_cons, kept2 rfl]
     show s.foldlM keptStep _ = _
     rw [h1]; simp; omega
   · intro p hp
     obtain ⟨g1, g2, g3, g4, g5⟩ := h2 p hp
     refine ⟨by omega, by simp; omega, by omega, by simp; omega, ?_⟩
     rw [alGiCons _ _ (by omega), alGiCons _ _ (by omega)]
     rw [show p.1 - (i : Int) - 1 = p.1 - ((i + 1 : Nat) : Int) by omega, show p.2 - (j : Int) - 1 = p.2 - ((j + 1 : Nat) : Int) by omega]
     exact g5
   · have e : chg (2 :: s) = chg s + 1 := by simp [chg]
     rw [e, h4]
     simp only [List.length_cons]
     rw [show ((a.length + 1 : Nat) : Int) - ((o'.length : Int) + ((chg s + 1 : Nat) : Int)) = (a.length : Int) - (o'.length + chg s) by omega, show ((b.length + 1 : Nat) : Int) - ((o'.length : Int) + ((chg s + 1 : Nat) : Int)) = (b.length : Int) - (o'.length + chg s) by omega]
     push_cast; rw [Int.mul_add, Int.mul_one]; omega
   · have e : chg (2 :: s) = chg s + 1 := by simp [chg]
     rw [e]; simp only [List.length_cons]; omega
 | @drop x a b s n h ih =>
   intro i j o
   obtain ⟨o', h1, h2, h3, h4, h5⟩ := ih (i + 1) j o
   refine ⟨o', ?_, ?_, h3, ?_, ?_⟩
   · rw [List.foldlM_cons, kept3 rfl]
     show s.foldlM keptStep _ = _
     rw [h1]; simp; omega
   · intro p hp
     obtain ⟨g1, g2, g3, g4, g5⟩ := h2 p hp
     refine ⟨by omega, by simp; omega, by omega, by omega, ?_⟩
     rw [alGiCons _ _ (by omega), show p.1 - (i : Int) - 1 = p.1 - ((i + 1 : Nat) : Int) by omega]
     exact g5
   · have e : chg (3 :: s) = chg s := by simp [chg]
     rw [e, h4]
     simp only [List.length_cons]
     rw [show ((a.length + 1 : Nat) : Int) - ((o'.length : Int) + chg s) = ((a.length : Int) - (o'.length + chg s)) + 1 by omega, Int.mul_add, Int.mul_one]; omega
   · have e : chg (3 :: s) = chg s := by simp [chg]
     rw [e]; simp only [List.length_cons]; omega
 | @add y a b s n h ih =>
   intro i j o
   obtain ⟨o', h1, h2, h3, h4, h5⟩ := ih i (j + 1) o
   refine ⟨o', ?_, ?_, h3, ?_, ?_⟩
   · rw [List.foldlM_cons, kept4 rfl]
     show s.foldlM keptStep _ = _
     rw [h1]; simp; omega
   · intro p hp
     obtain ⟨g1, g2, g3, g4, g5⟩ := h2 p hp
     refine ⟨by omega, by omega, by omega, by simp; omega, ?_⟩
     rw [alGiCons _ _ (by omega : (0 : Int) < p.2 - j), show p.2 - (j : Int) - 1 = p.2 - ((j + 1 : Nat) : Int) by omega]
     exact g5
   · have e : chg (4 :: s) = chg s := by simp [chg]
     rw [e, h4]
     simp only [List.length_cons]
     rw [show ((b.length + 1 : Nat) : Int) - ((o'.length : Int) + chg s) = ((b.length : Int) - (o'.length + chg s)) + 1 by omega, Int.mul_add, Int.mul_one]; omega
   · have e : chg (4 :: s) = chg s := by simp [chg]
     rw [e]; simp only [List.length_cons]; omega
theorem alignR_kept {a b : List Lexeme} {c : Costs} (hc : alCheck a b c = 0) : let x := (alignR a b c).1; let o := keptF x
   (∀ p ∈ o, 0 ≤ p.1 ∧ p.1 < a.length ∧ 0 ≤ p.2 ∧ p.2 < b.length ∧ (gi a p.1).text = (gi b p.2).text) ∧ o.Pairwise (fun p q => p.1 < q.1 ∧ p.2 < q.2) ∧
   x.cost = c.change * chg x.steps + c.drop * ((a.length : Int) - (o.length + chg x.steps)) + c.add * ((b.length : Int) - (o.length + chg x.steps)) ∧ (x.steps.length : Int) = a.length + b.length - (o.length + chg x.steps) := by
 rw [alignR_ok hc]
 obtain ⟨o', h1, h2, h3, h4, h5⟩ := (Al.best c a b).kept 0 0 []
 have e : keptF ⟨edit c a b, alignS c a b⟩ = o' := by
   unfold keptF keptR
   simp only
   rw [h1]; simp
 simp only [e]
 refine ⟨fun p hp => ?_, h3, h4, h5⟩
 have := h2 p hp
 simpa using this
structure CellOk (a b : List Lexeme) (c : Costs) (p : List (List Int)) (i j : Int) : Prop where
 lo : 0 ≤ gi (gi p i) j
 hi : gi (gi p i) j ≤ 1099511627776
 zero : i + j > 0 ∨ gi (gi p i) j = 0
 up : i = 0 ∨ gi (gi p i) j ≤ gi (gi p (i - 1)) j + c.drop
 left : j = 0 ∨ gi (gi p i) j ≤ gi (gi p i) (j - 1) + c.add
 diag : i > 0 → j > 0 → gi (gi p i) j ≤ gi (gi p (i - 1)) (j - 1) + alPair (gi a (i - 1)) (gi b (j - 1)) c
structure BoundOk (a b : List Lexeme) (c : Costs) (p : List (List Int)) : Prop where
 len : (p.length : Int) = a.length + 1
 rows : ∀ i : Int, 0 ≤ i → i < p.length → ((gi p i).length : Int) = b.length + 1
 cell : ∀ i j : Int, 0 ≤ i → i ≤ a.length → 0 ≤ j → j ≤ b.length → CellOk a b c p i j
open Classical in
noncomputable def boundF (a b : List Lexeme) (c : Costs) (p : List (List Int)) : Int × Int :=
 if alCheck a b c ≠ 0 then (0, alCheck a b c) else if BoundOk a b c p then (gi (gi p a.length) b.length, 0) else (0, 18)
theorem boundF_err {a b : List Lexeme} {c : Costs} {p : List (List Int)} (h : ¬ alCheck a b c = 0) : boundF a b c p = (0, alCheck a b c) := by simp [boundF, h]
theorem boundF_bad {a b : List Lexeme} {c : Costs} {p : List (List Int)} (h : alCheck a b c = 0) (hb : ¬ BoundOk a b c p) : boundF a b c p = (0, 18) := by simp [boundF, h, hb]
theorem boundF_ok {a b : List Lexeme} {c : Costs} {p : List (List Int)} (h : alCheck a b c = 0) (hb : BoundOk a b c p) : boundF a b c p = (gi (gi p a.length) b.length, 0) := by simp [boundF, h, hb]
theorem front_gi {a b : List Lexeme} {c : Costs} {i : Int} (h : inL i (a.length + 1)) : gi (frontF a b c) i = (List.range (b.length + 1)).map (fkv a b c i.toNat) := alGiRange h
theorem front_cell {a b : List Lexeme} {c : Costs} {i j : Int} (h : inL i (a.length + 1)) (h2 : inL j (b.length + 1)) : gi (gi (frontF a b c) i) j = fkv a b c i.toNat j.toNat := by
 rw [front_gi h, alGiRange h2]
theorem front_ok {a b : List Lexeme} {c : Costs} (hck : alCheck a b c = 0) : BoundOk a b c (frontF a b c) := by
 obtain ⟨hc, ha, hb⟩ := checkF_ok hck
 refine ⟨by simp [frontF], fun i h0 h1 => ?_, fun i j h0 h1 h2 h3 => ?_⟩
 · have : (frontF a b c).length = a.length + 1 := by simp [frontF]
   rw [front_gi (by omega)]; simp
 · obtain ⟨i, rfl⟩ : ∃ k : Nat, i = k := ⟨i.toNat, by omega⟩
   obtain ⟨j, rfl⟩ : ∃ k : Nat, j = k := ⟨j.toNat, by omega⟩
   have e : ∀ (x y : Nat), x ≤ a.length → y ≤ b.length → gi (gi (frontF a b c) x) y = fkv a b c x y := fun x y hx hy => by rw [front_cell (by omega) (by omega)]; simp
   have ei : 0 < i → (i : Int) - 1 = ((i - 1 : Nat) : Int) := by omega
   have ej : 0 < j → (j : Int) - 1 = ((j - 1 : Nat) : Int) := by omega
   have hbd := fkv_bd hc ha hb i j
   have g := hc.drop; have g2 := hc.add
   rcases Nat.eq_zero_or_pos i with hi | hi
   · subst hi
     rcases Nat.eq_zero_or_pos j with hj | hj
     · subst hj
       refine ⟨?_, ?_, ?_, .inl rfl, .inl rfl, ?_⟩
       · rw [e _ _ (by omega) (by omega)]; exact hbd.1
       · rw [e _ _ (by omega) (by omega)]; omega
       · rw [e _ _ (by omega) (by omega), fkv_a (by omega)]; simp
       · omega
     · refine ⟨?_, ?_, .inl (by omega), .inl rfl, .inr ?_, by omega⟩
       · rw [e _ _ (by omega) (by omega)]; exact hbd.1
       · rw [e _ _ (by omega) (by omega)]; omega
       · rw [ej hj, e _ _ (by omega) (by omega), e _ _ (by omega) (by omega), fkv_a (by omega), fkv_a (by omega), ← ej hj, Int.sub_mul, Int.one_mul]; omega
   · rcases Nat.eq_zero_or_pos j with hj | hj
     · subst hj
       refine ⟨?_, ?_, .inl (by omega), .inr ?_, .inl rfl, by omega⟩
       · rw [e _ _ (by omega) (by omega)]; exact hbd.1
       · rw [e _ _ (by omega) (by omega)]; omega
       · rw [ei hi, e _ _ (by omega) (by omega), e _ _ (by omega) (by omega), fkv_b (by omega), fkv_b (by omega), ← ei hi, Int.sub_mul, Int.one_mul]; omega
     · have hs := fkv_step' (a := a) (b := b) (c := c) hi (by omega) hj (by omega)
       have e1 : gi a ((i : Int) - 1) = a[i - 1]'(by omega) := by rw [ei hi, gi_nat]
       have e2 : gi b ((j : Int) - 1) = b[j - 1]'(by omega) := by rw [ej hj, gi_nat]
       have hm := min3_cases (fkv a b c (i - 1) (j - 1) + alPair (a[i - 1]'(by omega)) (b[j - 1]'(by omega)) c) (fkv a b c (i - 1) j + c.drop) (fkv a b c i (j - 1) + c.add)
       refine ⟨?_, ?_, .inl (by omega), .inr ?_, .inr ?_, fun _ _ => ?_⟩
       · rw [e _ _ (by omega) (by omega)]; exact hbd.1
       · rw [e _ _ (by omega) (by omega)]; omega
       · rw [ei hi, e _ _ (by omega) (by omega), e _ _ (by omega) (by omega)]; omega
       · rw [ej hj, e _ _ (by omega) (by omega), e _ _ (by omega) (by omega)]; omega
       · rw [e1, e2, ei hi, ej hj, e _ _ (by omega) (by omega), e _ _ (by omega) (by omega)]; omega
end Go.Lic
