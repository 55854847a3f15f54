/-
  Structures of chapter 16 and how memory holds them.
-/
import Derived.Test.YtkoomieafmjjfaaGreatDoorVr
import Derived.Test.YtkoomieafmjjfaaGreatDoorGo
import Derived.Lib.Bytealg
import Derived.Lib.ItoaNum
import Derived.Lib.BitFns
import Derived.Test.YtkoomieafmjjfaaGreatDoorSortA
set_option linter.all false
namespace Go.Lic
structure Span where
  path : ByteArray
  from_ : Int
  to : Int
deriving DecidableEq
instance : Inhabited Span := ⟨⟨default, default, default⟩⟩
structure Line where
  path : ByteArray
  n : Int
deriving DecidableEq
instance : Inhabited Line := ⟨⟨default, default⟩⟩
end Go.Lic

set_option linter.all false
namespace Go.Lic
structure Lexeme where
  text : ByteArray
  line : Int
deriving DecidableEq
instance : Inhabited Lexeme := ⟨⟨default, default⟩⟩
def encLex (x : Lexeme) : D := .agg ([D.s x.text, D.i x.line])
def eqLexeme (a b : Lexeme) : Bool := decide (a.text = b.text) && (decide (a.line = b.line) && true)
structure Text where
  path : ByteArray
  words : (List Lexeme)
deriving DecidableEq
instance : Inhabited Text := ⟨⟨default, default⟩⟩
def encText (x : Text) : D := .agg ([D.s x.path, (encL 2 encLex) x.words])
structure Print where
  hash : Int
  at_ : Int
deriving DecidableEq
instance : Inhabited Print := ⟨⟨default, default⟩⟩
def encPrint (x : Print) : D := .agg ([D.i x.hash, D.i x.at_])
structure Pst where
  hash : Int
  text : Int
  at_ : Int
deriving DecidableEq
instance : Inhabited Pst := ⟨⟨default, default, default⟩⟩
def encPst (x : Pst) : D := .agg ([D.i x.hash, D.i x.text, D.i x.at_])
def eqPst (a b : Pst) : Bool := decide (a.hash = b.hash) && (decide (a.text = b.text) && (decide (a.at_ = b.at_) && true))
structure Corpus where
  k : Int
  w : Int
  texts : (List Text)
  posts : (List Pst)
deriving DecidableEq
instance : Inhabited Corpus := ⟨⟨default, default, default, default⟩⟩
def encCorpus (x : Corpus) : D := .agg ([D.i x.k, D.i x.w, (encL 2 encText) x.texts, (encL 3 encPst) x.posts])
def valPst (x : Pst) : List Value := [.int .i64 x.hash, .int .i64 x.text, .int .i64 x.at_]
theorem valPst_one : ∀ x : Pst, ∀ v ∈ valPst x, v.oneCell' = true := by
  intro x v hv
  simp only [valPst, List.mem_cons, List.not_mem_nil, or_false] at hv
  rcases hv with rfl | rfl | rfl <;> rfl
end Go.Lic

set_option linter.all false
namespace Go.Lic

def idxOf {α : Type} (p : α → Bool) (l : List α) : Int := match l.findIdx? p with | some i => i | none => -1
def cmpB (a b : ByteArray) : Int := Lib.compareBytes a.data.toList b.data.toList
def cmpI (a b : Int) : Int := if a < b then -1 else if b < a then 1 else 0
def orF (l : List Int) : Int := (l.find? (· != 0)).getD 0
def lenF (n : Int) : Int := Lib.bitLen n.toNat
def sepOf (s : ByteArray) : UInt8 := s.data.toList.headD 0
def countF (s sep : ByteArray) : Int := (s.data.toList.count (sepOf sep) : Nat)
def indexF (s sep : ByteArray) : Int := Lib.indexByte s.data.toList (sepOf sep)
def itoaF (n : Int) : ByteArray := ⟨(Lib.itoa n).toArray⟩
/-- A string, cut at a byte. -/
def splitL (c : UInt8) : List UInt8 → List (List UInt8)
  | [] => [[]]
  | b :: l => if b = c then [] :: splitL c l else match splitL c l with | p :: r => (b :: p) :: r | [] => [[b]]
def splitF (s sep : ByteArray) : List ByteArray := (splitL (sepOf sep) s.data.toList).map fun l => ⟨l.toArray⟩
def nameB (c : Int) : Bool := (decide (97 ≤ c) && decide (c ≤ 122)) || (decide (48 ≤ c) && decide (c ≤ 57)) || decide (c = 46) || decide (c = 95) || decide (c = 45)
def badR (r : Int) : Bool := !nameB r
def runeIdxL (f : Int → Bool) (s : ByteArray) : Nat → Int → Int
  | 0, _ => -1
  | n + 1, i => if i < s.size then if f (Utf8.decode s i.toNat).1 then i else runeIdxL f s n (i + (Utf8.decode s i.toNat).2) else -1
def partF (s : ByteArray) : Bool := decide (1 ≤ s.size) && decide (s.size ≤ 32) && !decide (sgi s 0 = 46) && !decide (sgi s 0 = 45) && (sbytes s).all nameB
def pathB (s : ByteArray) : Bool := decide (s.size ≤ 128) && decide ((splitF s ⟨#[47]⟩).length ≤ 8) && (splitF s ⟨#[47]⟩).all partF
def pathF (s : ByteArray) : Int := if pathB s then 0 else 2
end Go.Lic

set_option linter.all false
namespace Go.Lic
open Go.Sort

def splitG (s sep : ByteArray) (_ _ : Int) : List ByteArray := splitF s sep
def runeIx (p : Int → Bool) (s : ByteArray) (t : Bool) : Int := runeIdxL (fun r => p r == t) s (s.size + 1) 0
def nameR (s : ByteArray) : Bool := partF s
end Go.Lic

set_option linter.all false
namespace Go.Lic
open Go.Sort Go.Proofs Go.Shelf

/-! the order of strings -/
theorem bl_irrefl : ∀ a : List UInt8, Op.bytesLess a a = false
  | [] => rfl
  | x :: a => by simp [Op.bytesLess, UInt8.lt_irrefl, bl_irrefl a]
theorem bl_trans : ∀ a b c : List UInt8, Op.bytesLess a b = true → Op.bytesLess b c = true → Op.bytesLess a c = true
  | [], [], _, h, _ => by cases h
  | [], _ :: _, [], _, h => by cases h
  | [], _ :: _, _ :: _, _, _ => rfl
  | _ :: _, [], _, h, _ => by cases h
  | _ :: _, _ :: _, [], _, h => by cases h
  | x :: a, y :: b, z :: c, h1, h2 => by
    simp only [Op.bytesLess, Bool.or_eq_true, Bool.and_eq_true, decide_eq_true_eq, beq_iff_eq] at h1 h2 ⊢
    rcases h1 with h1 | ⟨rfl, h1⟩
    · rcases h2 with h2 | ⟨rfl, h2⟩
      · exact .inl (UInt8.lt_trans h1 h2)
      · exact .inl h1
    · rcases h2 with h2 | ⟨rfl, h2⟩
      · exact .inl h2
      · exact .inr ⟨rfl, bl_trans a b c h1 h2⟩
theorem bl_tri : ∀ a b : List UInt8, Op.bytesLess a b = true ∨ a = b ∨ Op.bytesLess b a = true
  | [], [] => .inr (.inl rfl)
  | [], _ :: _ => .inl rfl
  | _ :: _, [] => .inr (.inr rfl)
  | x :: a, y :: b => by
    simp only [Op.bytesLess, Bool.or_eq_true, Bool.and_eq_true, decide_eq_true_eq, beq_iff_eq, List.cons.injEq]
    by_cases h : x = y
    · subst h
      rcases bl_tri a b with h1 | h1 | h1
      · exact .inl (.inr ⟨rfl, h1⟩)
      · exact .inr (.inl ⟨rfl, h1⟩)
      · exact .inr (.inr (.inr ⟨rfl, h1⟩))
    · rcases UInt8.lt_or_lt_of_ne h with h1 | h1
      · exact .inl (.inl h1)
      · exact .inr (.inr (.inl h1))
theorem cb_eq : ∀ a b : List UInt8, Lib.compareBytes a b = if Op.bytesLess a b = true then -1 else if a = b then 0 else 1
  | [], [] => rfl
  | [], _ :: _ => rfl
  | _ :: _, [] => by simp [Lib.compareBytes, Op.bytesLess]
  | x :: a, y :: b => by
    simp only [Lib.compareBytes, Op.bytesLess, Bool.or_eq_true, Bool.and_eq_true, decide_eq_true_eq, beq_iff_eq, List.cons.injEq]
    rw [cb_eq a b]
    by_cases h : x = y
    · subst h
      simp [UInt8.lt_irrefl]
    · rcases UInt8.lt_or_lt_of_ne h with h1 | h1
      · simp [h1]
      · have : ¬ x < y := UInt8.lt_asymm h1
        simp [h1, this, h]
theorem ba_eq {a b : ByteArray} (h : a.data.toList = b.data.toList) : a = b := by
  obtain ⟨⟨a⟩⟩ := a; obtain ⟨⟨b⟩⟩ := b
  cases h; rfl
abbrev SLt (a b : ByteArray) : Prop := sless a b = true
theorem sl_irrefl (a : ByteArray) : ¬ SLt a a := by simp [sless, bl_irrefl]
theorem sl_trans {a b c : ByteArray} (h1 : SLt a b) (h2 : SLt b c) : SLt a c := bl_trans _ _ _ h1 h2
theorem sl_asymm {a b : ByteArray} (h1 : SLt a b) : ¬ SLt b a := fun h2 => sl_irrefl a (sl_trans h1 h2)
theorem sl_ne {a b : ByteArray} (h1 : SLt a b) : a ≠ b := fun h => sl_irrefl a (by rw [← h] at h1; exact h1)
theorem sl_tri (a b : ByteArray) : SLt a b ∨ a = b ∨ SLt b a := by
  rcases bl_tri a.data.toList b.data.toList with h | h | h
  · exact .inl h
  · exact .inr (.inl (ba_eq h))
  · exact .inr (.inr h)
theorem cmpB_eq (a b : ByteArray) : cmpB a b = if sless a b = true then -1 else if a = b then 0 else 1 := by
  unfold cmpB
  rw [cb_eq]
  by_cases h : a = b
  · subst h; simp [sless]
  · have : ¬ a.data.toList = b.data.toList := fun e => h (ba_eq e)
    simp [sless, h, this]

/-! the order of spans -/
/-! chains -/
def inSpan (s : Span) (p : ByteArray) (n : Int) : Prop := s.path = p ∧ s.from_ ≤ n ∧ n < s.to
def In (l : List Span) (p : ByteArray) (n : Int) : Prop := ∃ s ∈ l, inSpan s p n
/-! merging -/
theorem gi_last {α : Type} [Inhabited α] (o : List α) (t : α) : gi (o ++ [t]) (((o ++ [t]).length : Int) - 1) = t := by
  have : (((o ++ [t]).length : Int) - 1) = ((o.length : Nat) : Int) := by simp
  rw [this, gi_nat (by simp)]
  simp
theorem si_last {α : Type} (o : List α) (t v : α) : si (o ++ [t]) (((o ++ [t]).length : Int) - 1) v = o ++ [v] := by
  have : (((o ++ [t]).length : Int) - 1).toNat = o.length := by simp
  unfold si
  rw [this]
  simp
theorem gmin1 (a b : Int) : gmin a [b] = min a b := by simp only [gmin, List.foldl]; omega
theorem list_last {α : Type} (l : List α) : l = [] ∨ ∃ o t, l = o ++ [t] := by
  rcases List.eq_nil_or_concat l with h | ⟨o, t, h⟩
  · exact .inl h
  · exact .inr ⟨o, t, by simpa using h⟩
theorem foldl_len {α β : Type} {f : List α → β → List α} (h : ∀ o x, (f o x).length ≤ o.length + 1) : ∀ (r : List β) (o : List α), (r.foldl f o).length ≤ o.length + r.length
  | [], o => by simp
  | x :: r, o => by
    rw [List.foldl_cons]
    have h1 := foldl_len h r (f o x)
    have h2 := h o x
    simp only [List.length_cons]; omega
end Go.Lic

set_option linter.all false
namespace Go.Lic
open Go.Sort Go.Proofs Go.Shelf

/-! packing lines -/
/-! lines in order -/
end Go.Lic

set_option linter.all false
namespace Go.Lic
open Go.Sort Go.Proofs Go.Shelf

/-! what is left -/
end Go.Lic
