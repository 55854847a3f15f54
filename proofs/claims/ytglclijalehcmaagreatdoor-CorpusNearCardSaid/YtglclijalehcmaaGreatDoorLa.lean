/-
  Sets of lines: spans in order, and the plain mathematics of them.
-/
import Derived.Test.YtglclijalehcmaaGreatDoorLm
set_option linter.all false
namespace Go.Lic
open Go.Sort Go.Proofs Go.Shelf

/-! the order of strings -/
theorem bl_irrefl : ∀ a : List UInt8, Op.bytesLess a a = false
  | [] => rfl
  | x :: a => by simp [Op.bytesLess, UInt8.lt_irrefl, bl_irrefl a]
theorem bl_trans : ∀ a b c : List UInt8, Op.bytesLess a b = true → Op.bytesLess b c = true → Op.bytesLess a c = true
  | [], [], _, h, _ => by cases h
  | [], _ :: _, [], _, h => by cases h
  | [], _ :: _, _ :: _, _, _ => rfl
  | _ :: _, [], _, h, _ => by cases h
  | _ :: _, _ :: _, [], _, h => by cases h
  | x :: a, y :: b, z :: c, h1, h2 => by
    simp only [Op.bytesLess, Bool.or_eq_true, Bool.and_eq_true, decide_eq_true_eq, beq_iff_eq] at h1 h2 ⊢
    rcases h1 with h1 | ⟨rfl, h1⟩
    · rcases h2 with h2 | ⟨rfl, h2⟩
      · exact .inl (UInt8.lt_trans h1 h2)
      · exact .inl h1
    · rcases h2 with h2 | ⟨rfl, h2⟩
      · exact .inl h2
      · exact .inr ⟨rfl, bl_trans a b c h1 h2⟩
theorem bl_tri : ∀ a b : List UInt8, Op.bytesLess a b = true ∨ a = b ∨ Op.bytesLess b a = true
  | [], [] => .inr (.inl rfl)
  | [], _ :: _ => .inl rfl
  | _ :: _, [] => .inr (.inr rfl)
  | x :: a, y :: b => by
    simp only [Op.bytesLess, Bool.or_eq_true, Bool.and_eq_true, decide_eq_true_eq, beq_iff_eq, List.cons.injEq]
    by_cases h : x = y
    · subst h
      rcases bl_tri a b with h1 | h1 | h1
      · exact .inl (.inr ⟨rfl, h1⟩)
      · exact .inr (.inl ⟨rfl, h1⟩)
      · exact .inr (.inr (.inr ⟨rfl, h1⟩))
    · rcases UInt8.lt_or_lt_of_ne h with h1 | h1
      · exact .inl (.inl h1)
      · exact .inr (.inr (.inl h1))
theorem cb_eq : ∀ a b : List UInt8, Lib.compareBytes a b = if Op.bytesLess a b = true then -1 else if a = b then 0 else 1
  | [], [] => rfl
  | [], _ :: _ => rfl
  | _ :: _, [] => by simp [Lib.compareBytes, Op.bytesLess]
  | x :: a, y :: b => by
    simp only [Lib.compareBytes, Op.bytesLess, Bool.or_eq_true, Bool.and_eq_true, decide_eq_true_eq, beq_iff_eq, List.cons.injEq]
    rw [cb_eq a b]
    by_cases h : x = y
    · subst h
      simp [UInt8.lt_irrefl]
    · rcases UInt8.lt_or_lt_of_ne h with h1 | h1
      · simp [h1]
      · have : ¬ x < y := UInt8.lt_asymm h1
        simp [h1, this, h]
theorem ba_eq {a b : ByteArray} (h : a.data.toList = b.data.toList) : a = b := by
  obtain ⟨⟨a⟩⟩ := a; obtain ⟨⟨b⟩⟩ := b
  cases h; rfl
abbrev SLt (a b : ByteArray) : Prop := sless a b = true
theorem sl_irrefl (a : ByteArray) : ¬ SLt a a := by simp [sless, bl_irrefl]
theorem sl_trans {a b c : ByteArray} (h1 : SLt a b) (h2 : SLt b c) : SLt a c := bl_trans _ _ _ h1 h2
theorem sl_asymm {a b : ByteArray} (h1 : SLt a b) : ¬ SLt b a := fun h2 => sl_irrefl a (sl_trans h1 h2)
theorem sl_ne {a b : ByteArray} (h1 : SLt a b) : a ≠ b := fun h => sl_irrefl a (by rw [← h] at h1; exact h1)
theorem sl_tri (a b : ByteArray) : SLt a b ∨ a = b ∨ SLt b a := by
  rcases bl_tri a.data.toList b.data.toList with h | h | h
  · exact .inl h
  · exact .inr (.inl (ba_eq h))
  · exact .inr (.inr h)
theorem cmpB_eq (a b : ByteArray) : cmpB a b = if sless a b = true then -1 else if a = b then 0 else 1 := by
  unfold cmpB
  rw [cb_eq]
  by_cases h : a = b
  · subst h; simp [sless]
  · have : ¬ a.data.toList = b.data.toList := fun e => h (ba_eq e)
    simp [sless, h, this]

/-! the order of spans -/
/-! chains -/
def inSpan (s : Span) (p : ByteArray) (n : Int) : Prop := s.path = p ∧ s.from_ ≤ n ∧ n < s.to
def In (l : List Span) (p : ByteArray) (n : Int) : Prop := ∃ s ∈ l, inSpan s p n
/-! merging -/
theorem gi_last {α : Type} [Inhabited α] (o : List α) (t : α) : gi (o ++ [t]) (((o ++ [t]).length : Int) - 1) = t := by
  have : (((o ++ [t]).length : Int) - 1) = ((o.length : Nat) : Int) := by simp
  rw [this, gi_nat (by simp)]
  simp
theorem si_last {α : Type} (o : List α) (t v : α) : si (o ++ [t]) (((o ++ [t]).length : Int) - 1) v = o ++ [v] := by
  have : (((o ++ [t]).length : Int) - 1).toNat = o.length := by simp
  unfold si
  rw [this]
  simp
theorem gmax1 (a b : Int) : gmax a [b] = max a b := by simp only [gmax, List.foldl]; omega
theorem gmin1 (a b : Int) : gmin a [b] = min a b := by simp only [gmin, List.foldl]; omega
theorem list_last {α : Type} (l : List α) : l = [] ∨ ∃ o t, l = o ++ [t] := by
  rcases List.eq_nil_or_concat l with h | ⟨o, t, h⟩
  · exact .inl h
  · exact .inr ⟨o, t, by simpa using h⟩
theorem foldl_len {α β : Type} {f : List α → β → List α} (h : ∀ o x, (f o x).length ≤ o.length + 1) : ∀ (r : List β) (o : List α), (r.foldl f o).length ≤ o.length + r.length
  | [], o => by simp
  | x :: r, o => by
    rw [List.foldl_cons]
    have h1 := foldl_len h r (f o x)
    have h2 := h o x
    simp only [List.length_cons]; omega
end Go.Lic

set_option linter.all false
namespace Go.Lic
open Go.Sort Go.Proofs Go.Shelf

/-! packing lines -/
/-! lines in order -/
end Go.Lic

set_option linter.all false
namespace Go.Lic
open Go.Sort Go.Proofs Go.Shelf

/-! what is left -/
end Go.Lic
