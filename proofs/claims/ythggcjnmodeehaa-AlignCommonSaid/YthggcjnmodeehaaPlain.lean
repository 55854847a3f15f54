/-
  Plain lemmas on lists for loops.
-/
import Derived.Test.YthggcjnmodeehaaRule2
set_option linter.all false
namespace Go.Lic

def AllTo {α : Type} (p : α → Bool) (l : List α) (i : Nat) : Prop := ∀ j, (h : j < l.length) → j < i → p l[j] = true

theorem AllTo.zero {α : Type} (p : α → Bool) (l : List α) : AllTo p l 0 := fun _ _ h => by omega
theorem AllTo.succ {α : Type} {p : α → Bool} {l : List α} {i : Nat} (h : AllTo p l i) (hi : i < l.length) (hp : p l[i] = true) : AllTo p l (i + 1) := fun j hj hji => by
  by_cases h1 : j = i
  · subst h1; exact hp
  · exact h j hj (by omega)
theorem AllTo.all {α : Type} {p : α → Bool} {l : List α} {i : Nat} (h : AllTo p l i) (hi : l.length ≤ i) : l.all p = true := by
  rw [List.all_eq_true]
  intro x hx
  obtain ⟨j, hj, rfl⟩ := List.mem_iff_getElem.1 hx
  exact h j hj (by omega)
theorem all_false {α : Type} {p : α → Bool} {l : List α} {i : Nat} (hi : i < l.length) (hp : p l[i] = false) : l.all p = false := by
  rw [List.all_eq_false]
  exact ⟨_, List.getElem_mem hi, by simp [hp]⟩

/-- slices.IndexFunc. -/
def idxF {α : Type} (p : α → Bool) (l : List α) : Int := match l.findIdx? p with | some i => i | none => -1

theorem idxF_hit {α : Type} {p : α → Bool} {l : List α} {i : Nat} (hi : i < l.length) (hp : p l[i] = true) (h : AllTo (fun x => !p x) l i) : idxF p l = i := by
  have : l.findIdx? p = some i := List.findIdx?_eq_some_iff_getElem.2 ⟨hi, hp, fun j hj => by have := h j (by omega) hj; simpa using this⟩
  simp [idxF, this]
theorem idxF_miss {α : Type} {p : α → Bool} {l : List α} {i : Nat} (hi : l.length ≤ i) (h : AllTo (fun x => !p x) l i) : idxF p l = -1 := by
  have : l.findIdx? p = none := by
    rw [List.findIdx?_eq_none_iff]
    intro x hx
    obtain ⟨j, hj, rfl⟩ := List.mem_iff_getElem.1 hx
    have := h j hj (by omega); simpa using this
  simp [idxF, this]
theorem idxF_nonneg {α : Type} (p : α → Bool) (l : List α) : decide (0 ≤ idxF p l) = l.any p := by
  rw [Bool.eq_iff_iff, decide_eq_true_eq, List.any_eq_true]
  unfold idxF
  cases h : l.findIdx? p with
  | none =>
    rw [List.findIdx?_eq_none_iff] at h
    constructor
    · intro h0; simp at h0
    · rintro ⟨x, hx, hp⟩; rw [h x hx] at hp; simp at hp
  | some i =>
    obtain ⟨hi, hp, _⟩ := List.findIdx?_eq_some_iff_getElem.1 h
    exact ⟨fun _ => ⟨_, List.getElem_mem hi, hp⟩, fun _ => by simp⟩

/-- slices.Equal. -/
def EqTo {α : Type} (l m : List α) (i : Nat) : Prop := ∀ j, (h : j < l.length) → (h2 : j < m.length) → j < i → l[j] = m[j]
theorem EqTo.zero {α : Type} (l m : List α) : EqTo l m 0 := fun _ _ _ h => by omega
theorem EqTo.succ {α : Type} {l m : List α} {i : Nat} (h : EqTo l m i) (hi : i < l.length) (hm : i < m.length) (hp : l[i] = m[i]) : EqTo l m (i + 1) := fun j hj hj2 hji => by
  by_cases h1 : j = i
  · subst h1; exact hp
  · exact h j hj hj2 (by omega)
theorem EqTo.eq {α : Type} {l m : List α} {i : Nat} (h : EqTo l m i) (hl : l.length = m.length) (hi : l.length ≤ i) : l = m :=
  List.ext_getElem hl fun j h1 h2 => h j h1 h2 (by omega)
theorem ne_at {α : Type} {l m : List α} {i : Nat} (hi : i < l.length) (hm : i < m.length) (hp : l[i] ≠ m[i]) : l ≠ m := fun e => by subst e; exact hp rfl
theorem ne_len {α : Type} {l m : List α} (h : (l.length : Int) ≠ m.length) : l ≠ m := fun e => by subst e; exact h rfl
end Go.Lic
