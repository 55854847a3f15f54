/-
  The conditions of the statements of chapter 26, printed from their code.
-/
import Derived.Test.YtkoomieafmjjfaaGreatDoorCv
import Derived.Test.YtkoomieafmjjfaaGreatDoorCo4
set_option linter.all false
namespace Go.Lic
open Go.Proofs Go.Sort
def awake_vc (Q : Bool → Prop) : Prop :=
  (okC ((newF 2 1).1) ∧ okT (Text.mk (⟨#[112]⟩ : ByteArray) ([(Lexeme.mk (⟨#[97]⟩ : ByteArray) 0), (Lexeme.mk (⟨#[98]⟩ : ByteArray) 0), (Lexeme.mk (⟨#[97]⟩ : ByteArray) 0)] : List Lexeme)) ∧ (okC ((addF ((newF 2 1).1) (Text.mk (⟨#[112]⟩ : ByteArray) ([(Lexeme.mk (⟨#[97]⟩ : ByteArray) 0), (Lexeme.mk (⟨#[98]⟩ : ByteArray) 0), (Lexeme.mk (⟨#[97]⟩ : ByteArray) 0)] : List Lexeme))).1) ∧ okT (Text.mk (⟨#[113]⟩ : ByteArray) ([(Lexeme.mk (⟨#[98]⟩ : ByteArray) 0), (Lexeme.mk (⟨#[97]⟩ : ByteArray) 0)] : List Lexeme)) ∧ ((addF ((newF 2 1).1) (Text.mk (⟨#[112]⟩ : ByteArray) ([(Lexeme.mk (⟨#[97]⟩ : ByteArray) 0), (Lexeme.mk (⟨#[98]⟩ : ByteArray) 0), (Lexeme.mk (⟨#[97]⟩ : ByteArray) 0)] : List Lexeme))).1).texts.length ≤ 19 ∧ (((((newF 2 1).2 = 0 ∧ (addF ((newF 2 1).1) (Text.mk (⟨#[112]⟩ : ByteArray) ([(Lexeme.mk (⟨#[97]⟩ : ByteArray) 0), (Lexeme.mk (⟨#[98]⟩ : ByteArray) 0), (Lexeme.mk (⟨#[97]⟩ : ByteArray) 0)] : List Lexeme))).2 = 0) ∧ (nearF ((addF ((newF 2 1).1) (Text.mk (⟨#[112]⟩ : ByteArray) ([(Lexeme.mk (⟨#[97]⟩ : ByteArray) 0), (Lexeme.mk (⟨#[98]⟩ : ByteArray) 0), (Lexeme.mk (⟨#[97]⟩ : ByteArray) 0)] : List Lexeme))).1) (Text.mk (⟨#[113]⟩ : ByteArray) ([(Lexeme.mk (⟨#[98]⟩ : ByteArray) 0), (Lexeme.mk (⟨#[97]⟩ : ByteArray) 0)] : List Lexeme))).2 = 0) → (((addF ((newF 2 1).1) (Text.mk (⟨#[112]⟩ : ByteArray) ([(Lexeme.mk (⟨#[97]⟩ : ByteArray) 0), (Lexeme.mk (⟨#[98]⟩ : ByteArray) 0), (Lexeme.mk (⟨#[97]⟩ : ByteArray) 0)] : List Lexeme))).1).posts).length ≤ 9223372036854775807) ∧ (((((newF 2 1).2 = 0 ∧ (addF ((newF 2 1).1) (Text.mk (⟨#[112]⟩ : ByteArray) ([(Lexeme.mk (⟨#[97]⟩ : ByteArray) 0), (Lexeme.mk (⟨#[98]⟩ : ByteArray) 0), (Lexeme.mk (⟨#[97]⟩ : ByteArray) 0)] : List Lexeme))).2 = 0) ∧ (nearF ((addF ((newF 2 1).1) (Text.mk (⟨#[112]⟩ : ByteArray) ([(Lexeme.mk (⟨#[97]⟩ : ByteArray) 0), (Lexeme.mk (⟨#[98]⟩ : ByteArray) 0), (Lexeme.mk (⟨#[97]⟩ : ByteArray) 0)] : List Lexeme))).1) (Text.mk (⟨#[113]⟩ : ByteArray) ([(Lexeme.mk (⟨#[98]⟩ : ByteArray) 0), (Lexeme.mk (⟨#[97]⟩ : ByteArray) 0)] : List Lexeme))).2 = 0) ∧ (decide ((((addF ((newF 2 1).1) (Text.mk (⟨#[112]⟩ : ByteArray) ([(Lexeme.mk (⟨#[97]⟩ : ByteArray) 0), (Lexeme.mk (⟨#[98]⟩ : ByteArray) 0), (Lexeme.mk (⟨#[97]⟩ : ByteArray) 0)] : List Lexeme))).1).posts) = ([(Pst.mk 99000397 0 0), (Pst.mk 100000399 0 1)] : List Pst))) = true) → ((nearF ((addF ((newF 2 1).1) (Text.mk (⟨#[112]⟩ : ByteArray) ([(Lexeme.mk (⟨#[97]⟩ : ByteArray) 0), (Lexeme.mk (⟨#[98]⟩ : ByteArray) 0), (Lexeme.mk (⟨#[97]⟩ : ByteArray) 0)] : List Lexeme))).1) (Text.mk (⟨#[113]⟩ : ByteArray) ([(Lexeme.mk (⟨#[98]⟩ : ByteArray) 0), (Lexeme.mk (⟨#[97]⟩ : ByteArray) 0)] : List Lexeme))).1).length ≤ 9223372036854775807) ∧ Q (((((((newF 2 1).2) == 0) && (((addF ((newF 2 1).1) (Text.mk (⟨#[112]⟩ : ByteArray) ([(Lexeme.mk (⟨#[97]⟩ : ByteArray) 0), (Lexeme.mk (⟨#[98]⟩ : ByteArray) 0), (Lexeme.mk (⟨#[97]⟩ : ByteArray) 0)] : List Lexeme))).2) == 0)) && (((nearF ((addF ((newF 2 1).1) (Text.mk (⟨#[112]⟩ : ByteArray) ([(Lexeme.mk (⟨#[97]⟩ : ByteArray) 0), (Lexeme.mk (⟨#[98]⟩ : ByteArray) 0), (Lexeme.mk (⟨#[97]⟩ : ByteArray) 0)] : List Lexeme))).1) (Text.mk (⟨#[113]⟩ : ByteArray) ([(Lexeme.mk (⟨#[98]⟩ : ByteArray) 0), (Lexeme.mk (⟨#[97]⟩ : ByteArray) 0)] : List Lexeme))).2) == 0)) && (decide ((((addF ((newF 2 1).1) (Text.mk (⟨#[112]⟩ : ByteArray) ([(Lexeme.mk (⟨#[97]⟩ : ByteArray) 0), (Lexeme.mk (⟨#[98]⟩ : ByteArray) 0), (Lexeme.mk (⟨#[97]⟩ : ByteArray) 0)] : List Lexeme))).1).posts) = ([(Pst.mk 99000397 0 0), (Pst.mk 100000399 0 1)] : List Pst)))) && (decide (((nearF ((addF ((newF 2 1).1) (Text.mk (⟨#[112]⟩ : ByteArray) ([(Lexeme.mk (⟨#[97]⟩ : ByteArray) 0), (Lexeme.mk (⟨#[98]⟩ : ByteArray) 0), (Lexeme.mk (⟨#[97]⟩ : ByteArray) 0)] : List Lexeme))).1) (Text.mk (⟨#[113]⟩ : ByteArray) ([(Lexeme.mk (⟨#[98]⟩ : ByteArray) 0), (Lexeme.mk (⟨#[97]⟩ : ByteArray) 0)] : List Lexeme))).1) = ([0] : List Int)))))))
end Go.Lic

set_option linter.all false
namespace Go.Lic
open Go.Proofs Go.Sort Go.Shelf

theorem fewW_ok {l : List Lexeme} (h : fewW l = true) : okW l := by
  unfold fewW at h
  rw [Bool.and_eq_true, decide_eq_true_eq, List.all_eq_true] at h
  exact ⟨by omega, fun w hw => by have := of_decide_eq_true (h.2 w hw); omega⟩
theorem fewT_ok {t : Text} (h : fewTs [t] = true) : okT t := by
  unfold fewTs at h
  rw [Bool.and_eq_true, List.all_cons, Bool.and_eq_true, Bool.and_eq_true, decide_eq_true_eq, decide_eq_true_eq] at h
  exact ⟨by omega, fewW_ok h.2.1.1⟩
theorem fewTs_ok {l : List Text} (h : fewTs l = true) : okTs l := by
  unfold fewTs at h
  rw [Bool.and_eq_true, decide_eq_true_eq, List.all_eq_true] at h
  refine ⟨by omega, fun t ht => ?_⟩
  have := h.2 t ht
  rw [Bool.and_eq_true, decide_eq_true_eq] at this
  exact ⟨by omega, fewW_ok this.1⟩
theorem fewTs_len {l : List Text} (h : fewTs l = true) : l.length ≤ 5 := by
  unfold fewTs at h
  rw [Bool.and_eq_true, decide_eq_true_eq] at h; exact h.1
theorem fewC_ok {c : Corpus} (h : fewC c = true) : okC c := by
  unfold fewC at h
  rw [Bool.and_eq_true, decide_eq_true_eq] at h
  exact ⟨fewTs_ok h.1, by omega⟩
theorem postsF_len {l : List Text} (h : okTs l) (h2 : l.length ≤ 900) (k w : Int) : (postsF l k w).length ≤ 1000000000 := by
  rw [(posts_perm l k w).length_eq]
  have := flatP_len l 0 k w h.2
  omega
theorem okC_of {l : List Text} (h : okTs l) (h2 : l.length ≤ 900) (k w : Int) : okC (corpusOf l k w) := ⟨h, postsF_len h h2 k w⟩
theorem okC_no : okC noC := ⟨⟨by simp [noC], (fun t ht => by cases ht)⟩, by simp [noC]⟩
theorem okC_new (k w : Int) : okC (newF k w).1 := by
  unfold newF
  split
  · exact ⟨⟨by simp, (fun t ht => by cases ht)⟩, by simp⟩
  · exact okC_no
theorem okC_add {c : Corpus} {t : Text} (h : okC c) (ht : okT t) : okC (addF c t).1 := by
  unfold addF
  split
  · next hg =>
    split
    · exact okC_no
    · split
      · exact okC_no
      · have h64 := ((checkF_iff c).1 hg.1).few
        have hl := placeT_le c.texts t.path
        exact okC_of (okTs_add h ht h64 _ hl) (by simp; omega) _ _
  · exact okC_no
/-! the example -/
abbrev exA : Text := Text.mk (⟨#[112]⟩ : ByteArray) [Lexeme.mk (⟨#[97]⟩ : ByteArray) 0, Lexeme.mk (⟨#[98]⟩ : ByteArray) 0, Lexeme.mk (⟨#[97]⟩ : ByteArray) 0]
abbrev exB : Text := Text.mk (⟨#[113]⟩ : ByteArray) [Lexeme.mk (⟨#[98]⟩ : ByteArray) 0, Lexeme.mk (⟨#[97]⟩ : ByteArray) 0]
abbrev exC : Corpus := ⟨2, 1, [exA], [⟨99000397, 0, 0⟩, ⟨100000399, 0, 1⟩]⟩
theorem awake_new : newF 2 1 = (⟨2, 1, [], []⟩, 0) := by decide +kernel
theorem awake_add : addF ⟨2, 1, [], []⟩ exA = (exC, 0) := by decide +kernel
theorem awake_near : nearF exC exB = ([0], 0) := by decide +kernel
theorem exA_ok : okT exA := fewT_ok (by decide +kernel)
theorem exB_ok : okT exB := fewT_ok (by decide +kernel)
theorem exC_ok : okC exC := fewC_ok (by decide +kernel)
theorem awake_ok (Q : Bool → Prop) (h : Q (true)) : awake_vc Q := by
  unfold awake_vc
  rw [awake_new]
  refine ⟨okC_new 2 1 |> fun k => by rw [awake_new] at k; exact k, exA_ok, ?_⟩
  show okC (addF ⟨2, 1, [], []⟩ exA).1 ∧ _
  rw [awake_add]
  refine ⟨exC_ok, exB_ok, by decide, ?_⟩
  rw [awake_near]
  refine ⟨fun _ => by decide, fun _ => by decide, ?_⟩
  exact h
end Go.Lic
