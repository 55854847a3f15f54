/-
  What is near: a run of words in common gives a fingerprint in common; which texts are named. No program in sight.
-/
import Derived.Test.YtkoomieafmjjfaaDoorCw
set_option linter.all false
namespace Go.Lic
open Go.Proofs Go.Sort Go.Shelf

theorem gi_cons {α : Type} [Inhabited α] (t : α) (l : List α) (j : Nat) : gi (t :: l) ((j + 1 : Nat) : Int) = gi l (j : Int) := by
  unfold gi
  rw [show (((j + 1 : Nat) : Int)).toNat = j + 1 by omega, show ((j : Int)).toNat = j by omega]
  simp
theorem flatP_mem {p : Pst} {k w : Int} : ∀ (l : List Text) (i : Nat), p ∈ flatP i l k w ↔ ∃ j : Nat, j < l.length ∧ ∃ x ∈ (printsF (gi l (j : Int)) k w).1, p = ⟨x.hash, ((i + j : Nat) : Int), x.at_⟩
  | [], i => by simp [flatP]
  | t :: l, i => by
    rw [flatP, List.mem_append, flatP_mem l (i + 1)]
    constructor
    · rintro (h | ⟨j, hj, x, hx, e⟩)
      · obtain ⟨x, hx, e⟩ := List.mem_map.1 h
        exact ⟨0, by simp, x, hx, by rw [← e]; simp⟩
      · exact ⟨j + 1, by simpa using hj, x, by rw [gi_cons]; exact hx, by rw [e]; congr 1; omega⟩
    · rintro ⟨j, hj, x, hx, e⟩
      cases j with
      | zero =>
        left
        exact List.mem_map.2 ⟨x, hx, by rw [e]; simp⟩
      | succ j =>
        right
        rw [gi_cons] at hx
        exact ⟨j, by simpa using hj, x, hx, by rw [e]; congr 1; omega⟩
theorem posts_mem {l : List Text} {k w : Int} {p : Pst} : p ∈ postsF l k w ↔ ∃ j : Int, inL j l.length ∧ ∃ x ∈ (printsF (gi l j) k w).1, p = ⟨x.hash, j, x.at_⟩ := by
  rw [(posts_perm l k w).mem_iff, flatP_mem]
  constructor
  · rintro ⟨j, hj, x, hx, e⟩
    exact ⟨j, by omega, x, hx, by rw [e]; congr 1; omega⟩
  · rintro ⟨j, hj, x, hx, e⟩
    refine ⟨j.toNat, by omega, x, by rw [show ((j.toNat : Nat) : Int) = j by omega]; exact hx, by rw [e]; congr 1; omega⟩
/-! words in common -/
theorem printsF_valid {t : Text} {k w : Int} (hv : validT t = true) (hk : sizeF k = true) (hw : sizeF w = true) : printsF t k w = (printsL t.words k.toNat w.toNat, 0) := by
  unfold printsF
  rw [if_pos hv, if_pos ((sizes_iff k w).2 ⟨hk, hw⟩)]
end Go.Lic
