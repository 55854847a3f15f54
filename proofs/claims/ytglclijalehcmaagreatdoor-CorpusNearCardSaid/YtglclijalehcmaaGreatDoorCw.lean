/-
  Statements of chapter 26: sizes, the example. No program in sight.
-/
import Derived.Test.YtglclijalehcmaaGreatDoorCx
import Derived.Test.YtglclijalehcmaaGreatDoorCo4
set_option linter.all false
namespace Go.Lic
open Go.Proofs Go.Sort Go.Shelf

theorem fewW_ok {l : List Lexeme} (h : fewW l = true) : okW l := by
  unfold fewW at h
  rw [Bool.and_eq_true, decide_eq_true_eq, List.all_eq_true] at h
  exact ⟨by omega, fun w hw => by have := of_decide_eq_true (h.2 w hw); omega⟩
theorem fewT_ok {t : Text} (h : fewTs [t] = true) : okT t := by
  unfold fewTs at h
  rw [Bool.and_eq_true, List.all_cons, Bool.and_eq_true, Bool.and_eq_true, decide_eq_true_eq, decide_eq_true_eq] at h
  exact ⟨by omega, fewW_ok h.2.1.1⟩
theorem fewTs_ok {l : List Text} (h : fewTs l = true) : okTs l := by
  unfold fewTs at h
  rw [Bool.and_eq_true, decide_eq_true_eq, List.all_eq_true] at h
  refine ⟨by omega, fun t ht => ?_⟩
  have := h.2 t ht
  rw [Bool.and_eq_true, decide_eq_true_eq] at this
  exact ⟨by omega, fewW_ok this.1⟩
theorem fewTs_len {l : List Text} (h : fewTs l = true) : l.length ≤ 5 := by
  unfold fewTs at h
  rw [Bool.and_eq_true, decide_eq_true_eq] at h; exact h.1
theorem fewC_ok {c : Corpus} (h : fewC c = true) : okC c := by
  unfold fewC at h
  rw [Bool.and_eq_true, decide_eq_true_eq] at h
  exact ⟨fewTs_ok h.1, by omega⟩
theorem fewC_len {c : Corpus} (h : fewC c = true) : c.texts.length ≤ 5 := by
  unfold fewC at h
  rw [Bool.and_eq_true] at h
  exact fewTs_len h.1
theorem okC_no : okC noC := ⟨⟨by simp [noC], (fun t ht => by cases ht)⟩, by simp [noC]⟩
theorem okC_new (k w : Int) : okC (newF k w).1 := by
  unfold newF
  split
  · exact ⟨⟨by simp, (fun t ht => by cases ht)⟩, by simp⟩
  · exact okC_no
theorem near_len {c : Corpus} {l : List Print} (hs : PSorted c.posts) : (nearL c l).length ≤ c.texts.length := by
  have hcf : ∀ a b : Int, (fun a b : Int => cmpI ((sharedN c l b : Nat) : Int) ((sharedN c l a : Nat) : Int)) a b < 0 ↔ sharedN c l b < sharedN c l a := fun a b => by
    show cmpI _ _ < 0 ↔ _
    rw [cmpI_neg]; omega
  rw [← near_sort hs hcf, isort_len, List.length_map]
  have := List.length_filter_le (fun i => decide (0 < sharedN c l (i : Nat))) (List.range c.texts.length)
  simpa using this
theorem nearF_len (c : Corpus) (t : Text) : (nearF c t).1.length ≤ c.texts.length := by
  unfold nearF
  split
  · next h => exact near_len (good_sorted ((checkF_iff c).1 h.1))
  · simp
/-! the example -/
abbrev exA : Text := Text.mk (⟨#[112]⟩ : ByteArray) [Lexeme.mk (⟨#[97]⟩ : ByteArray) 0, Lexeme.mk (⟨#[98]⟩ : ByteArray) 0, Lexeme.mk (⟨#[97]⟩ : ByteArray) 0]
abbrev exB : Text := Text.mk (⟨#[113]⟩ : ByteArray) [Lexeme.mk (⟨#[98]⟩ : ByteArray) 0, Lexeme.mk (⟨#[97]⟩ : ByteArray) 0]
abbrev exC : Corpus := ⟨2, 1, [exA], [⟨99000397, 0, 0⟩, ⟨100000399, 0, 1⟩]⟩
theorem awake_new : newF 2 1 = (⟨2, 1, [], []⟩, 0) := by decide +kernel
theorem awake_add : addF ⟨2, 1, [], []⟩ exA = (exC, 0) := by decide +kernel
theorem awake_near : nearF exC exB = ([0], 0) := by decide +kernel
theorem exA_ok : okT exA := fewT_ok (by decide +kernel)
theorem exB_ok : okT exB := fewT_ok (by decide +kernel)
theorem exC_ok : okC exC := fewC_ok (by decide +kernel)
theorem awake_ok (Q : Bool → Prop) (h : Q (true)) : awake_vc Q := by
  unfold awake_vc
  rw [awake_new]
  refine ⟨okC_new 2 1 |> fun k => by rw [awake_new] at k; exact k, exA_ok, ?_⟩
  show okC (addF ⟨2, 1, [], []⟩ exA).1 ∧ _
  rw [awake_add]
  refine ⟨exC_ok, exB_ok, by decide, ?_⟩
  rw [awake_near]
  refine ⟨fun _ => by decide, fun _ => by decide, ?_⟩
  exact h
end Go.Lic
