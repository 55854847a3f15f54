/-
  What slices.SortFunc makes of a list: a sorted permutation.
-/
import Derived.Test.YtjncggaheahjiaaGreatDoorHv
import Derived.Sort.AssemblyPlain
import Derived.Shelf.SlSortCmp.Insertion
import Derived.Lib.BitFns
set_option linter.all false
namespace Go.Lic
open Go.Proofs Go.Sort
def sortF {T : Type} [Inhabited T] (cf : T → T → Int) (l : List T) : List T := (pdq (ltOf cf) l.toArray 0 l.length (Lib.bitLen l.length) true true).toList
theorem sortF_perm {T : Type} [Inhabited T] {cf : T → T → Int} (hO : SWO (ltOf cf)) (l : List T) : (sortF cf l).Perm l := by
 have h := (pdq_sorts (ltOf cf) hO l.toArray 0 l.length (Lib.bitLen l.length) true true (Nat.zero_le _) (by simp) (Or.inl rfl)).1
 obtain ⟨h1, _, h3⟩ := h
 have e1 : (pdq (ltOf cf) l.toArray 0 l.length (Lib.bitLen l.length) true true).extract 0 l.length = pdq (ltOf cf) l.toArray 0 l.length (Lib.bitLen l.length) true true := by
   apply Array.ext'
   rw [Array.toList_extract]
   have : (pdq (ltOf cf) l.toArray 0 l.length (Lib.bitLen l.length) true true).toList.length = l.length := by rw [Array.length_toList, h1]; simp
   show ((pdq (ltOf cf) l.toArray 0 l.length (Lib.bitLen l.length) true true).toList.drop 0).take (l.length - 0) = _
   rw [List.drop_zero, Nat.sub_zero, List.take_of_length_le (by omega)]
 have e2 : l.toArray.extract 0 l.length = l.toArray := by
   apply Array.ext'
   rw [Array.toList_extract]
   simp [List.extract_eq_take_drop]
 rw [e1, e2] at h3
 simpa [sortF] using h3
theorem sortF_len {T : Type} [Inhabited T] {cf : T → T → Int} (hO : SWO (ltOf cf)) (l : List T) : (sortF cf l).length = l.length := (sortF_perm hO l).length_eq
theorem sortF_sorted {T : Type} [Inhabited T] {cf : T → T → Int} (hO : SWO (ltOf cf)) (l : List T) : ∀ i j, i < j → j < l.length → ¬ cf ((sortF cf l)[j]!) ((sortF cf l)[i]!) < 0 := by
 have h := (pdq_sorts (ltOf cf) hO l.toArray 0 l.length (Lib.bitLen l.length) true true (Nat.zero_le _) (by simp) (Or.inl rfl)).2
 intro i j hij hj
 have := h i j (Nat.zero_le _) hij hj
 simp only [ltOf, decide_eq_false_iff_not] at this
 unfold sortF
 rw [← List.getElem!_toArray, ← List.getElem!_toArray, Array.toArray_toList]
 exact this
end Go.Lic
