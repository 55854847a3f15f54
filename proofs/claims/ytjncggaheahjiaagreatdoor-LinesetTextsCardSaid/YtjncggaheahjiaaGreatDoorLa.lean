/-
  Sets of lines: spans in order, and the plain mathematics of them.
-/
import Derived.Test.YtjncggaheahjiaaGreatDoorLm
set_option linter.all false
namespace Go.Lic
open Go.Sort Go.Proofs Go.Shelf
theorem bl_irrefl : ∀ a : List UInt8, Op.bytesLess a a = false
 | [] => rfl
 | x :: a => by simp [Op.bytesLess, UInt8.lt_irrefl, bl_irrefl a]
theorem bl_trans : ∀ a b c : List UInt8, Op.bytesLess a b = true → Op.bytesLess b c = true → Op.bytesLess a c = true
 | [], [], _, h, _ => by cases h
 | [], _ :: _, [], _, h => by cases h
 | [], _ :: _, _ :: _, _, _ => rfl
 | _ :: _, [], _, h, _ => by cases h
 | _ :: _, _ :: _, [], _, h => by cases h
 | x :: a, y :: b, z :: c, h1, h2 => by
   simp only [Op.bytesLess, Bool.or_eq_true, Bool.and_eq_true, decide_eq_true_eq, beq_iff_eq] at h1 h2 ⊢
   rcases h1 with h1 | ⟨rfl, h1⟩
   · rcases h2 with h2 | ⟨rfl, h2⟩
     · exact .inl (UInt8.lt_trans h1 h2)
     · exact .inl h1
   · rcases h2 with h2 | ⟨rfl, h2⟩
     · exact .inl h2
     · exact .inr ⟨rfl, bl_trans a b c h1 h2⟩
theorem bl_tri : ∀ a b : List UInt8, Op.bytesLess a b = true ∨ a = b ∨ Op.bytesLess b a = true
 | [], [] => .inr (.inl rfl)
 | [], _ :: _ => .inl rfl
 | _ :: _, [] => .inr (.inr rfl)
 | x :: a, y :: b => by
   simp only [Op.bytesLess, Bool.or_eq_true, Bool.and_eq_true, decide_eq_true_eq, beq_iff_eq, List.cons.injEq]
   by_cases h : x = y
   · subst h
     rcases bl_tri a b with h1 | h1 | h1
     · exact .inl (.inr ⟨rfl, h1⟩)
     · exact .inr (.inl ⟨rfl, h1⟩)
     · exact .inr (.inr (.inr ⟨rfl, h1⟩))
   · rcases UInt8.lt_or_lt_of_ne h with h1 | h1
     · exact .inl (.inl h1)
     · exact .inr (.inr (.inl h1))
theorem cb_eq : ∀ a b : List UInt8, Lib.compareBytes a b = if Op.bytesLess a b = true then -1 else if a = b then 0 else 1
 | [], [] => rfl
 | [], _ :: _ => rfl
 | _ :: _, [] => by simp [Lib.compareBytes, Op.bytesLess]
 | x :: a, y :: b => by
   simp only [Lib.compareBytes, Op.bytesLess, Bool.or_eq_true, Bool.and_eq_true, decide_eq_true_eq, beq_iff_eq, List.cons.injEq]
   rw [cb_eq a b]
   by_cases h : x = y
   · subst h
     simp [UInt8.lt_irrefl]
   · rcases UInt8.lt_or_lt_of_ne h with h1 | h1
     · simp [h1]
     · have : ¬ x < y := UInt8.lt_asymm h1
       simp [h1, this, h]
theorem ba_eq {a b : ByteArray} (h : a.data.toList = b.data.toList) : a = b := by
 obtain ⟨⟨a⟩⟩ := a; obtain ⟨⟨b⟩⟩ := b
 cases h; rfl
abbrev SLt (a b : ByteArray) : Prop := sless a b = true
theorem sl_irrefl (a : ByteArray) : ¬ SLt a a := by simp [sless, bl_irrefl]
theorem sl_trans {a b c : ByteArray} (h1 : SLt a b) (h2 : SLt b c) : SLt a c := bl_trans _ _ _ h1 h2
theorem sl_tri (a b : ByteArray) : SLt a b ∨ a = b ∨ SLt b a := by
 rcases bl_tri a.data.toList b.data.toList with h | h | h
 · exact .inl h
 · exact .inr (.inl (ba_eq h))
 · exact .inr (.inr h)
theorem cmpB_eq (a b : ByteArray) : cmpB a b = if sless a b = true then -1 else if a = b then 0 else 1 := by
 unfold cmpB
 rw [cb_eq]
 by_cases h : a = b
 · subst h; simp [sless]
 · have : ¬ a.data.toList = b.data.toList := fun e => h (ba_eq e)
   simp [sless, h, this]
def PLt (p : ByteArray) (n : Int) (q : ByteArray) (m : Int) : Prop := SLt p q ∨ (p = q ∧ n < m)
theorem pl_irrefl (p : ByteArray) (n : Int) : ¬ PLt p n p n := by
 rintro (h | ⟨_, h⟩)
 · exact sl_irrefl _ h
 · omega
theorem pl_trans {p q r : ByteArray} {n m k : Int} (h1 : PLt p n q m) (h2 : PLt q m r k) : PLt p n r k := by
 rcases h1 with h1 | ⟨rfl, h1⟩
 · rcases h2 with h2 | ⟨rfl, h2⟩
   · exact .inl (sl_trans h1 h2)
   · exact .inl h1
 · rcases h2 with h2 | ⟨rfl, h2⟩
   · exact .inl h2
   · exact .inr ⟨rfl, by omega⟩
theorem pl_tri (p : ByteArray) (n : Int) (q : ByteArray) (m : Int) : PLt p n q m ∨ (p = q ∧ n = m) ∨ PLt q m p n := by
 rcases sl_tri p q with h | rfl | h
 · exact .inl (.inl h)
 · rcases Int.lt_trichotomy n m with h | h | h
   · exact .inl (.inr ⟨rfl, h⟩)
   · exact .inr (.inl ⟨rfl, h⟩)
   · exact .inr (.inr (.inr ⟨rfl, h⟩))
 · exact .inr (.inr (.inl h))
abbrev SpLt (a b : Span) : Prop := PLt a.path a.from_ b.path b.from_
theorem spanCmp_neg (a b : Span) : spanCmp a b < 0 ↔ SpLt a b := by
 have e : spanCmp a b = if cmpB a.path b.path ≠ 0 then cmpB a.path b.path else if cmpI a.from_ b.from_ ≠ 0 then cmpI a.from_ b.from_ else 0 := by
   unfold spanCmp orF
   by_cases h1 : cmpB a.path b.path = 0
   · by_cases h2 : cmpI a.from_ b.from_ = 0
     · simp [h1, h2]
     · simp [h1, h2]
   · simp [h1]
 rw [e, cmpB_eq]
 unfold SpLt PLt cmpI SLt
 by_cases h : sless a.path b.path = true
 · simp [h]
 · by_cases h2 : a.path = b.path
   · rw [h2]
     have : ¬ (sless b.path b.path = true) := sl_irrefl _
     simp only [this, if_false, if_true, ne_eq, not_true, false_or, true_and]
     by_cases h3 : a.from_ < b.from_
     · simp [h3]
     · by_cases h4 : b.from_ < a.from_
       · simp [h3, h4]
       · simp [h3, h4]
   · simp [h, h2]
theorem ltOf_iff (a b : Span) : ltOf spanCmp a b = true ↔ SpLt a b := by
 unfold ltOf
 rw [decide_eq_true_eq]
 exact spanCmp_neg a b
theorem ltOf_false (a b : Span) : ltOf spanCmp a b = false ↔ ¬ SpLt a b := by
 rw [← ltOf_iff]; simp
theorem pl_ntrans {p q r : ByteArray} {n m k : Int} (h1 : ¬ PLt p n q m) (h2 : ¬ PLt q m r k) : ¬ PLt p n r k := by
 intro h3
 rcases pl_tri p n q m with h | ⟨rfl, rfl⟩ | h
 · exact h1 h
 · exact h2 h3
 · exact h2 (pl_trans h h3)
theorem spanCmp_swo : SWO (ltOf spanCmp) where
 irrefl a := (ltOf_false _ _).2 (pl_irrefl _ _)
 trans a b c h1 h2 := (ltOf_iff _ _).2 (pl_trans ((ltOf_iff _ _).1 h1) ((ltOf_iff _ _).1 h2))
 ntrans a b c h1 h2 := (ltOf_false _ _).2 (pl_ntrans ((ltOf_false _ _).1 h1) ((ltOf_false _ _).1 h2))
def inSpan (s : Span) (p : ByteArray) (n : Int) : Prop := s.path = p ∧ s.from_ ≤ n ∧ n < s.to
def In (l : List Span) (p : ByteArray) (n : Int) : Prop := ∃ s ∈ l, inSpan s p n
theorem si_last {α : Type} (o : List α) (t v : α) : si (o ++ [t]) (((o ++ [t]).length : Int) - 1) v = o ++ [v] := by
 have : (((o ++ [t]).length : Int) - 1).toNat = o.length := by simp
 unfold si
 rw [this]
 simp
theorem gmin1 (a b : Int) : gmin a [b] = min a b := by simp only [gmin, List.foldl]; omega
end Go.Lic
set_option linter.all false
namespace Go.Lic
open Go.Sort Go.Proofs Go.Shelf
end Go.Lic
set_option linter.all false
namespace Go.Lic
open Go.Sort Go.Proofs Go.Shelf
theorem common_nil1 (b : List Span) : commonF [] b = [] := by rw [commonF]
theorem common_nil2 (a : List Span) : commonF a [] = [] := by cases a <;> rw [commonF]
theorem common_cons (x y : Span) (a b : List Span) : commonF (x :: a) (y :: b) = cutP x y ++ if fstEnds x y then commonF a (y :: b) else commonF (x :: a) b := by rw [commonF]
theorem fst_iff (x y : Span) : fstEnds x y = true ↔ SLt x.path y.path ∨ (x.path = y.path ∧ x.to ≤ y.to) := by unfold fstEnds; simp
theorem common_len : ∀ (a b : List Span), (commonF a b).length ≤ a.length + b.length
 | [], b => by rw [common_nil1]; simp
 | _ :: _, [] => by rw [common_nil2]; simp
 | x :: a, y :: b => by
   rw [common_cons]
   have h0 : (cutP x y).length ≤ 1 := by unfold cutP; split <;> simp
   simp only [List.length_append, List.length_cons]
   split
   · have := common_len a (y :: b); simp only [List.length_cons] at this; omega
   · have := common_len (x :: a) b; simp only [List.length_cons] at this; omega
termination_by a b => a.length + b.length
theorem cutF_nil (s : Span) : cutF s [] = ([], s, []) := rfl
theorem cutF_no (s t : Span) (both : List Span) (h : ¬ (t.path = s.path ∧ t.to ≤ s.to)) : cutF s (t :: both) = ([], s, t :: both) := by rw [cutF]; rw [if_neg h]
theorem cutF_yes (s t : Span) (both : List Span) (h : t.path = s.path ∧ t.to ≤ s.to) : cutF s (t :: both) = ((if s.from_ < t.from_ then [⟨s.path, s.from_, t.from_⟩] else []) ++ (cutF ⟨s.path, t.to, s.to⟩ both).1, (cutF ⟨s.path, t.to, s.to⟩ both).2) := by rw [cutF]; rw [if_pos h]
def leftOf (s : Span) : List Span := if s.from_ < s.to then [s] else []
theorem minusL_nil (both : List Span) : minusL [] both = [] := by unfold minusL; rfl
theorem minusL_cons (s : Span) (a both : List Span) : minusL (s :: a) both = ((cutF s both).1 ++ leftOf (cutF s both).2.1) ++ minusL a (cutF s both).2.2 := by
 conv => lhs; unfold minusL
 rfl
end Go.Lic
