/-
  The words of a text, and the example that the laws look at first. No program in sight.
-/
import Derived.Test.YthggcjnmodeehaaSpec3
set_option linter.all false
namespace Go.Lic

def wordF (s : ByteArray) (i : Nat) : Lexeme := ⟨s.extract i (i + 1), 0⟩
def wordsF (s : ByteArray) : List Lexeme := (List.range s.size).map (wordF s)
theorem words_snoc {s : ByteArray} {k : Nat} {xs : List D} (h : xs = ((List.range k).map (wordF s)).map encLex) : xs ++ [.agg [.s (s.extract k (k + 1)), .i 0]] = ((List.range (k + 1)).map (wordF s)).map encLex := by
  rw [h, List.range_succ]; simp [wordF, encLex]

def abc : ByteArray := ⟨#[97, 98, 99]⟩
def acd : ByteArray := ⟨#[97, 99, 100]⟩
def costs322 : Costs := ⟨3, 2, 2⟩
theorem abc_words : wordsF abc = [⟨⟨#[97]⟩, 0⟩, ⟨⟨#[98]⟩, 0⟩, ⟨⟨#[99]⟩, 0⟩] := by rfl
theorem acd_words : wordsF acd = [⟨⟨#[97]⟩, 0⟩, ⟨⟨#[99]⟩, 0⟩, ⟨⟨#[100]⟩, 0⟩] := by rfl
theorem awake_align : alignR (wordsF abc) (wordsF acd) costs322 = (⟨4, [1, 3, 1, 4]⟩, 0) := by
  rw [abc_words, acd_words]
  have hck : checkF [⟨⟨#[97]⟩, 0⟩, ⟨⟨#[98]⟩, 0⟩, ⟨⟨#[99]⟩, 0⟩] [⟨⟨#[97]⟩, 0⟩, ⟨⟨#[99]⟩, 0⟩, ⟨⟨#[100]⟩, 0⟩] costs322 = 0 := by decide
  rw [alignR_ok hck]
  simp [alignS, edit, min3, pairF, costs322]
theorem awake_check : checkAlF (wordsF abc) (wordsF acd) costs322 ⟨4, [1, 3, 1, 4]⟩ = 0 := by
  rw [abc_words, acd_words]
  decide
theorem keptStep_len {st st' : Nat × Nat × List (Int × Int)} {s : Int} (h : keptStep st s = some st') : st'.2.2.length ≤ st.2.2.length + 1 := by
  unfold keptStep at h
  split at h
  · cases h; simp
  · split at h
    · cases h; simp
    · split at h
      · cases h; simp
      · split at h
        · cases h; simp
        · cases h
theorem keptR_len : ∀ (l : List Int) (st st' : Nat × Nat × List (Int × Int)), l.foldlM keptStep st = some st' → st'.2.2.length ≤ st.2.2.length + l.length
  | [], st, st', h => by cases h; simp
  | s :: l, st, st', h => by
    rw [List.foldlM_cons] at h
    cases hs : keptStep st s with
    | none => rw [hs] at h; cases h
    | some st1 =>
      rw [hs] at h
      have h1 := keptStep_len hs
      have h2 := keptR_len l st1 st' h
      simp only [List.length_cons]; omega
theorem keptF_len (x : Alignment) : (keptF x).length ≤ x.steps.length := by
  unfold keptF
  cases h : keptR x.steps with
  | none => simp
  | some st => have := keptR_len _ _ _ h; simpa using this
end Go.Lic
