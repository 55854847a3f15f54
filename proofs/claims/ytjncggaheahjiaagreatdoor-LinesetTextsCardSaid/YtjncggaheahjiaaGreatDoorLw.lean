/-
  Sets of lines: the laws, over plain data.
-/
import Derived.Test.YtjncggaheahjiaaGreatDoorLo1
set_option linter.all false
namespace Go.Lic
open Go.Proofs Go.Sort Go.Shelf
theorem few_len {l : List Span} (h : fewF l = true) : l.length ≤ 12 ∧ ∀ x ∈ l, x.path.size ≤ 1000000 := by
 unfold fewF at h
 simp only [Bool.and_eq_true, decide_eq_true_eq, List.all_eq_true] at h
 exact ⟨h.1, fun x hx => by have := h.2 x hx; omega⟩
end Go.Lic
set_option linter.all false
namespace Go.Lic
open Go.Proofs Go.Sort Go.Shelf
theorem awake_of : ofF [⟨⟨#[97, 47, 120]⟩, 3⟩, ⟨⟨#[97, 47, 121]⟩, 0⟩, ⟨⟨#[97, 47, 120]⟩, 1⟩, ⟨⟨#[97, 47, 120]⟩, 2⟩] = ([⟨⟨#[97, 47, 120]⟩, 1, 4⟩, ⟨⟨#[97, 47, 121]⟩, 0, 1⟩], 0) := by decide +kernel
theorem awake_minus : minusF [⟨⟨#[97, 47, 120]⟩, 1, 4⟩, ⟨⟨#[97, 47, 121]⟩, 0, 1⟩] [⟨⟨#[97, 47, 120]⟩, 2, 3⟩] = ([⟨⟨#[97, 47, 120]⟩, 1, 2⟩, ⟨⟨#[97, 47, 120]⟩, 3, 4⟩, ⟨⟨#[97, 47, 121]⟩, 0, 1⟩], 0) := by decide +kernel
theorem awake_print : printF [⟨⟨#[97, 47, 120]⟩, 1, 4⟩, ⟨⟨#[97, 47, 121]⟩, 0, 1⟩] = (⟨#[97, 47, 120, 32, 49, 32, 52, 10, 97, 47, 121, 32, 48, 32, 49, 10]⟩, 0) := by decide +kernel
theorem awake_under : underF [⟨⟨#[97, 47, 120]⟩, 1, 4⟩, ⟨⟨#[97, 47, 121]⟩, 0, 1⟩] ⟨#[97, 47, 120]⟩ = ([], 0) := by decide +kernel
theorem awake_count : countL [⟨⟨#[97, 47, 120]⟩, 1, 4⟩, ⟨⟨#[97, 47, 121]⟩, 0, 1⟩] = 4 := by decide +kernel
theorem awake_has : hasF [⟨⟨#[97, 47, 120]⟩, 1, 4⟩, ⟨⟨#[97, 47, 121]⟩, 0, 1⟩] ⟨⟨#[97, 47, 121]⟩, 0⟩ = true := by decide +kernel
theorem sizes2 : ∀ x ∈ ([⟨⟨#[97, 47, 120]⟩, 1, 4⟩, ⟨⟨#[97, 47, 121]⟩, 0, 1⟩] : List Span), x.path.size ≤ 1000000 := by decide +kernel
theorem sizes1 : ∀ x ∈ ([⟨⟨#[97, 47, 120]⟩, 2, 3⟩] : List Span), x.path.size ≤ 1000000 := by decide +kernel
theorem sizes4 : ∀ x ∈ ([⟨⟨#[97, 47, 120]⟩, 3⟩, ⟨⟨#[97, 47, 121]⟩, 0⟩, ⟨⟨#[97, 47, 120]⟩, 1⟩, ⟨⟨#[97, 47, 120]⟩, 2⟩] : List Line), x.path.size ≤ 1000000 := by decide +kernel
theorem awake_ok (Q : Bool → Prop)  (h : Q (true)) : awake_vc  Q := by
 unfold awake_vc
 rw [awake_of]
 simp only
 rw [awake_minus, awake_print, awake_under, awake_count, awake_has]
 refine ⟨by decide, sizes4, by decide, by decide, sizes2, sizes1, by decide, sizes2, by decide, sizes2, by decide, fun _ => ⟨by decide, sizes2⟩, fun _ => by decide, fun _ => ⟨by decide, sizes2⟩, ?_⟩
 exact h
end Go.Lic
set_option linter.all false
namespace Go.Lic
open Go.Proofs Go.Sort Go.Shelf
end Go.Lic
