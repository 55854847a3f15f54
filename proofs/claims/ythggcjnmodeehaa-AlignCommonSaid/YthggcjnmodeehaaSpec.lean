/-
  Package align and its reference: the data, and what the small functions compute. No program in sight.
-/
import Derived.Test.YthggcjnmodeehaaPlain
set_option linter.all false
namespace Go.Lic

structure Lexeme where
  text : ByteArray
  line : Int
structure Costs where
  change : Int
  drop : Int
  add : Int
structure Alignment where
  cost : Int
  steps : List Int

def encLex (x : Lexeme) : D := .agg [.s x.text, .i x.line]
def encWords (l : List Lexeme) : D := .list 2 (l.map encLex)
def encCosts (c : Costs) : D := .agg [.i c.change, .i c.drop, .i c.add]
def encInts (l : List Int) : D := .list 1 (l.map D.i)
def encAl (x : Alignment) : D := .agg [.i x.cost, encInts x.steps]
def encPair (p : Int × Int) : D := .agg [.i p.1, .i p.2]
def encPairs (l : List (Int × Int)) : D := .list 2 (l.map encPair)
def encTable (l : List (List Int)) : D := .list 1 (l.map encInts)

def costB (n : Int) : Bool := decide (1 ≤ n) && decide (n ≤ 1000)
def pairF (a b : Lexeme) (c : Costs) : Int := if a.text = b.text then 0 else c.change
def checkF (a b : List Lexeme) (c : Costs) : Int := if costB c.change && costB c.drop && costB c.add then (if a.length > 1024 ∨ b.length > 1024 then 10 else 0) else 3
def shortB (x : Lexeme) : Bool := decide (x.text.size ≤ 40)
def fewF (l : List Lexeme) : Bool := decide (l.length ≤ 40) && l.all shortB

/-- The text of word i. -/
def txt (l : List Lexeme) (i : Nat) : ByteArray := match l[i]? with | some x => x.text | none => ByteArray.empty
theorem txt_get {l : List Lexeme} {i : Nat} (h : i < l.length) : txt l i = l[i].text := by simp [txt, h]

/-- One step of an alignment: where it leads, and the cost so far. -/
def stepF (a b : List Lexeme) (c : Costs) (st : Nat × Nat × Int) (s : Int) : Option (Nat × Nat × Int) :=
  if s = 1 ∧ st.1 < a.length ∧ st.2.1 < b.length ∧ txt a st.1 = txt b st.2.1 then some (st.1 + 1, st.2.1 + 1, st.2.2)
  else if s = 2 ∧ st.1 < a.length ∧ st.2.1 < b.length ∧ txt a st.1 ≠ txt b st.2.1 then some (st.1 + 1, st.2.1 + 1, st.2.2 + c.change)
  else if s = 3 ∧ st.1 < a.length then some (st.1 + 1, st.2.1, st.2.2 + c.drop)
  else if s = 4 ∧ st.2.1 < b.length then some (st.1, st.2.1 + 1, st.2.2 + c.add)
  else none
def stepsF (a b : List Lexeme) (c : Costs) (st : Nat × Nat × Int) (l : List Int) : Option (Nat × Nat × Int) := l.foldlM (stepF a b c) st
def checkAlF (a b : List Lexeme) (c : Costs) (x : Alignment) : Int :=
  if checkF a b c ≠ 0 then checkF a b c else
  match stepsF a b c (0, 0, 0) x.steps with
  | none => 18
  | some (i, j, sum) => if i < a.length ∨ j < b.length ∨ sum ≠ x.cost then 18 else 0

theorem stepsF_none {a b : List Lexeme} {c : Costs} {l : List Int} {k : Nat} {st : Nat × Nat × Int} (hk : k < l.length) (h : stepsF a b c (0, 0, 0) (l.take k) = some st) (hs : stepF a b c st l[k] = none) : stepsF a b c (0, 0, 0) l = none := by
  unfold stepsF at *
  have e : l = l.take k ++ l[k] :: l.drop (k + 1) := by rw [← List.drop_eq_getElem_cons hk, List.take_append_drop]
  rw [e, List.foldlM_append, h]
  show (stepF a b c st l[k]).bind _ = none
  rw [hs]; rfl
theorem stepsF_succ {a b : List Lexeme} {c : Costs} {l : List Int} {k : Nat} {st st' : Nat × Nat × Int} (hk : k < l.length) (h : stepsF a b c (0, 0, 0) (l.take k) = some st) (hs : stepF a b c st l[k] = some st') : stepsF a b c (0, 0, 0) (l.take (k + 1)) = some st' := by
  unfold stepsF at *
  rw [List.take_succ_eq_append_getElem hk, List.foldlM_append, h]
  show (stepF a b c st l[k]).bind _ = some st'
  rw [hs]; rfl
theorem stepsF_end {a b : List Lexeme} {c : Costs} {l : List Int} {k : Nat} {st : Nat × Nat × Int} (hk : l.length ≤ k) (h : stepsF a b c (0, 0, 0) (l.take k) = some st) : stepsF a b c (0, 0, 0) l = some st := by
  rwa [List.take_of_length_le hk] at h
theorem costB_iff {n : Int} : costB n = true ↔ 1 ≤ n ∧ n ≤ 1000 := by simp [costB]
theorem checkF_zero {a b : List Lexeme} {c : Costs} (h : checkF a b c = 0) : (1 ≤ c.change ∧ c.change ≤ 1000) ∧ (1 ≤ c.drop ∧ c.drop ≤ 1000) ∧ (1 ≤ c.add ∧ c.add ≤ 1000) ∧ a.length ≤ 1024 ∧ b.length ≤ 1024 := by
  unfold checkF at h
  split at h
  · rename_i hc
    simp only [Bool.and_eq_true, costB_iff] at hc
    split at h
    · simp at h
    · rename_i hl; omega
  · simp at h

section
variable {a b : List Lexeme} {c : Costs} {i j : Nat} {sum s : Int}
theorem stepKeep (h : s = 1) (hi : i < a.length) (hj : j < b.length) (ht : a[i].text = b[j].text) : stepF a b c (i, j, sum) s = some (i + 1, j + 1, sum) := by
  simp [stepF, h, hi, hj, txt_get hi, txt_get hj, ht]
theorem stepChange (h : s = 2) (hi : i < a.length) (hj : j < b.length) (ht : ¬ a[i].text = b[j].text) : stepF a b c (i, j, sum) s = some (i + 1, j + 1, sum + c.change) := by
  simp [stepF, h, hi, hj, txt_get hi, txt_get hj, ht]
theorem stepDrop (h : s = 3) (hi : i < a.length) : stepF a b c (i, j, sum) s = some (i + 1, j, sum + c.drop) := by simp [stepF, h, hi]
theorem stepAdd (h : s = 4) (hj : j < b.length) : stepF a b c (i, j, sum) s = some (i, j + 1, sum + c.add) := by simp [stepF, h, hj]
theorem stepNone (h1 : s = 1 → i < a.length → j < b.length → txt a i ≠ txt b j) (h2 : s = 2 → i < a.length → j < b.length → txt a i = txt b j) (h3 : s = 3 → a.length ≤ i) (h4 : s = 4 → b.length ≤ j) : stepF a b c (i, j, sum) s = none := by
  unfold stepF
  rw [if_neg (by rintro ⟨g1, g2, g3, g4⟩; exact h1 g1 g2 g3 g4), if_neg (by rintro ⟨g1, g2, g3, g4⟩; exact g4 (h2 g1 g2 g3)), if_neg (by rintro ⟨g1, g2⟩; have := h3 g1; have g2 : i < a.length := g2; omega), if_neg (by rintro ⟨g1, g2⟩; have := h4 g1; have g2 : j < b.length := g2; omega)]
end
theorem pairF_bd {x y : Lexeme} {c : Costs} (h : 1 ≤ c.change ∧ c.change ≤ 1000) : 0 ≤ pairF x y c ∧ pairF x y c ≤ 1000 := by unfold pairF; split <;> omega
theorem stepKC {a b : List Lexeme} {c : Costs} {i j : Nat} {sum s : Int} (hs : s = 1 ∨ s = 2) (hi : i < a.length) (hj : j < b.length) (h : decide (a[i].text = b[j].text) = (s == 1)) : stepF a b c (i, j, sum) s = some (i + 1, j + 1, sum + pairF a[i] b[j] c) := by
  rcases hs with rfl | rfl
  · have ht : a[i].text = b[j].text := by simpa using h
    rw [stepKeep rfl hi hj ht]; simp [pairF, ht]
  · have ht : ¬ a[i].text = b[j].text := by simpa using h
    rw [stepChange rfl hi hj ht]; simp [pairF, ht]
theorem checkAlF_none {a b : List Lexeme} {c : Costs} {x : Alignment} (h : checkF a b c = 0) (hs : stepsF a b c (0, 0, 0) x.steps = none) : checkAlF a b c x = 18 := by simp [checkAlF, h, hs]
theorem checkAlF_bad {a b : List Lexeme} {c : Costs} {x : Alignment} {i j : Nat} {sum : Int} (h : checkF a b c = 0) (hs : stepsF a b c (0, 0, 0) x.steps = some (i, j, sum)) (hb : i < a.length ∨ j < b.length ∨ sum ≠ x.cost) : checkAlF a b c x = 18 := by simp [checkAlF, h, hs]; intro h1 h2; omega
theorem checkAlF_ok {a b : List Lexeme} {c : Costs} {x : Alignment} {i j : Nat} {sum : Int} (h : checkF a b c = 0) (hs : stepsF a b c (0, 0, 0) x.steps = some (i, j, sum)) (hi : a.length ≤ i) (hj : b.length ≤ j) (hc : sum = x.cost) : checkAlF a b c x = 0 := by
  simp [checkAlF, h, hs]; omega
theorem checkAlF_err {a b : List Lexeme} {c : Costs} {x : Alignment} (h : checkF a b c ≠ 0) : checkAlF a b c x = checkF a b c := by simp [checkAlF, h]
/-- One step of the list of kept pairs. -/
def keptStep (st : Nat × Nat × List (Int × Int)) (s : Int) : Option (Nat × Nat × List (Int × Int)) :=
  if s = 1 then some (st.1 + 1, st.2.1 + 1, st.2.2 ++ [((st.1 : Int), (st.2.1 : Int))])
  else if s = 2 then some (st.1 + 1, st.2.1 + 1, st.2.2)
  else if s = 3 then some (st.1 + 1, st.2.1, st.2.2)
  else if s = 4 then some (st.1, st.2.1 + 1, st.2.2)
  else none
def keptR (l : List Int) : Option (Nat × Nat × List (Int × Int)) := l.foldlM keptStep (0, 0, [])
def keptF (x : Alignment) : List (Int × Int) := match keptR x.steps with | none => [] | some (_, _, o) => o
theorem keptR_none {l : List Int} {k : Nat} {st : Nat × Nat × List (Int × Int)} (hk : k < l.length) (h : keptR (l.take k) = some st) (hs : keptStep st l[k] = none) : keptR l = none := by
  unfold keptR at *
  have e : l = l.take k ++ l[k] :: l.drop (k + 1) := by rw [← List.drop_eq_getElem_cons hk, List.take_append_drop]
  rw [e, List.foldlM_append, h]
  show (keptStep st l[k]).bind _ = none
  rw [hs]; rfl
theorem keptR_succ {l : List Int} {k : Nat} {st st' : Nat × Nat × List (Int × Int)} (hk : k < l.length) (h : keptR (l.take k) = some st) (hs : keptStep st l[k] = some st') : keptR (l.take (k + 1)) = some st' := by
  unfold keptR at *
  rw [List.take_succ_eq_append_getElem hk, List.foldlM_append, h]
  show (keptStep st l[k]).bind _ = some st'
  rw [hs]; rfl
theorem keptF_none {x : Alignment} (h : keptR x.steps = none) : keptF x = [] := by simp [keptF, h]
theorem keptF_some {x : Alignment} {k i j : Nat} {o : List (Int × Int)} (hk : x.steps.length ≤ k) (h : keptR (x.steps.take k) = some (i, j, o)) : keptF x = o := by
  rw [List.take_of_length_le hk] at h; simp [keptF, h]
theorem kept1 {i j : Nat} {o : List (Int × Int)} {s : Int} (h : s = 1) : keptStep (i, j, o) s = some (i + 1, j + 1, o ++ [((i : Int), (j : Int))]) := by simp [keptStep, h]
theorem kept2 {i j : Nat} {o : List (Int × Int)} {s : Int} (h : s = 2) : keptStep (i, j, o) s = some (i + 1, j + 1, o) := by simp [keptStep, h]
theorem kept3 {i j : Nat} {o : List (Int × Int)} {s : Int} (h : s = 3) : keptStep (i, j, o) s = some (i + 1, j, o) := by simp [keptStep, h]
theorem kept4 {i j : Nat} {o : List (Int × Int)} {s : Int} (h : s = 4) : keptStep (i, j, o) s = some (i, j + 1, o) := by simp [keptStep, h]
theorem keptNone {i j : Nat} {o : List (Int × Int)} {s : Int} (h : s < 1 ∨ 4 < s) : keptStep (i, j, o) s = none := by
  unfold keptStep; rw [if_neg (by omega), if_neg (by omega), if_neg (by omega), if_neg (by omega)]
theorem snoc_pair {o : List (Int × Int)} {xs : List D} {i j : Nat} (h : xs = o.map encPair) : xs ++ [.agg [.i (i : Int), .i (j : Int)]] = (o ++ [((i : Int), (j : Int))]).map encPair := by simp [h, encPair]
end Go.Lic
