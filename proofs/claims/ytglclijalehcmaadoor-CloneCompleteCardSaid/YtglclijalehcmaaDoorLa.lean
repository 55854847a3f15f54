/-
  Structures of chapter 16 and how memory holds them.
-/
import Derived.Test.YtglclijalehcmaaDoorVr
import Derived.Test.YtglclijalehcmaaDoorEq
import Derived.Sort.AssemblyPlain
import Derived.Shelf.SlSortCmp.Insertion
import Derived.Lib.BitFns
import Derived.Test.YtglclijalehcmaaDoorGo
import Derived.Lib.Bytealg
import Derived.Lib.ItoaNum
set_option linter.all false
namespace Go.Lic
structure Span where
 path : ByteArray
 from_ : Int
 to : Int
deriving DecidableEq
instance : Inhabited Span := ⟨⟨default, default, default⟩⟩
structure Line where
 path : ByteArray
 n : Int
deriving DecidableEq
instance : Inhabited Line := ⟨⟨default, default⟩⟩
end Go.Lic
set_option linter.all false
namespace Go.Lic
structure Lexeme where
 text : ByteArray
 line : Int
deriving DecidableEq
instance : Inhabited Lexeme := ⟨⟨default, default⟩⟩
def encLex (x : Lexeme) : D := .agg ([D.s x.text, D.i x.line])
structure Text where
 path : ByteArray
 words : (List Lexeme)
deriving DecidableEq
instance : Inhabited Text := ⟨⟨default, default⟩⟩
def encText (x : Text) : D := .agg ([D.s x.path, (encL 2 encLex) x.words])
structure Print where
 hash : Int
 at_ : Int
deriving DecidableEq
instance : Inhabited Print := ⟨⟨default, default⟩⟩
def encPrint (x : Print) : D := .agg ([D.i x.hash, D.i x.at_])
structure Pst where
 hash : Int
 text : Int
 at_ : Int
deriving DecidableEq
instance : Inhabited Pst := ⟨⟨default, default, default⟩⟩
structure Corpus where
 k : Int
 w : Int
 texts : (List Text)
 posts : (List Pst)
deriving DecidableEq
instance : Inhabited Corpus := ⟨⟨default, default, default, default⟩⟩
end Go.Lic
set_option linter.all false
namespace Go.Lic
structure Clone where
 a : Int
 atA : Int
 b : Int
 atB : Int
 len : Int
deriving DecidableEq
instance : Inhabited Clone := ⟨⟨default, default, default, default, default⟩⟩
def encClone (x : Clone) : D := .agg ([D.i x.a, D.i x.atA, D.i x.b, D.i x.atB, D.i x.len])
def eqClone (a b : Clone) : Bool := decide (a.a = b.a) && (decide (a.atA = b.atA) && (decide (a.b = b.b) && (decide (a.atB = b.atB) && (decide (a.len = b.len) && true))))
structure CloneDiagonal where
 a : Int
 b : Int
 by_ : Int
deriving DecidableEq
instance : Inhabited CloneDiagonal := ⟨⟨default, default, default⟩⟩
def encCloneDiagonal (x : CloneDiagonal) : D := .agg ([D.i x.a, D.i x.b, D.i x.by_])
structure ClonePlace where
 text : Int
 at_ : Int
deriving DecidableEq
instance : Inhabited ClonePlace := ⟨⟨default, default⟩⟩
def encClonePlace (x : ClonePlace) : D := .agg ([D.i x.text, D.i x.at_])
def eqClonePlace (a b : ClonePlace) : Bool := decide (a.text = b.text) && (decide (a.at_ = b.at_) && true)
def valClone (x : Clone) : List Value := [.int .i64 x.a, .int .i64 x.atA, .int .i64 x.b, .int .i64 x.atB, .int .i64 x.len]
theorem valClone_one : ∀ x : Clone, ∀ v ∈ valClone x, v.oneCell' = true := by
 intro x v hv
 simp only [valClone, List.mem_cons, List.not_mem_nil, or_false] at hv
 rcases hv with rfl | rfl | rfl | rfl | rfl <;> rfl
end Go.Lic
set_option linter.all false
namespace Go.Lic
open Go.Proofs Go.Sort
def sortF {T : Type} [Inhabited T] (cf : T → T → Int) (l : List T) : List T := (pdq (ltOf cf) l.toArray 0 l.length (Lib.bitLen l.length) true true).toList
theorem sortF_perm {T : Type} [Inhabited T] {cf : T → T → Int} (hO : SWO (ltOf cf)) (l : List T) : (sortF cf l).Perm l := by
 have h := (pdq_sorts (ltOf cf) hO l.toArray 0 l.length (Lib.bitLen l.length) true true (Nat.zero_le _) (by simp) (Or.inl rfl)).1
 obtain ⟨h1, _, h3⟩ := h
 have e1 : (pdq (ltOf cf) l.toArray 0 l.length (Lib.bitLen l.length) true true).extract 0 l.length = pdq (ltOf cf) l.toArray 0 l.length (Lib.bitLen l.length) true true := by
   apply Array.ext'
   rw [Array.toList_extract]
   have : (pdq (ltOf cf) l.toArray 0 l.length (Lib.bitLen l.length) true true).toList.length = l.length := by rw [Array.length_toList, h1]; simp
   show ((pdq (ltOf cf) l.toArray 0 l.length (Lib.bitLen l.length) true true).toList.drop 0).take (l.length - 0) = _
   rw [List.drop_zero, Nat.sub_zero, List.take_of_length_le (by omega)]
 have e2 : l.toArray.extract 0 l.length = l.toArray := by
   apply Array.ext'
   rw [Array.toList_extract]
   simp [List.extract_eq_take_drop]
 rw [e1, e2] at h3
 simpa [sortF] using h3
theorem sortF_len {T : Type} [Inhabited T] {cf : T → T → Int} (hO : SWO (ltOf cf)) (l : List T) : (sortF cf l).length = l.length := (sortF_perm hO l).length_eq
theorem sortF_sorted {T : Type} [Inhabited T] {cf : T → T → Int} (hO : SWO (ltOf cf)) (l : List T) : ∀ i j, i < j → j < l.length → ¬ cf ((sortF cf l)[j]!) ((sortF cf l)[i]!) < 0 := by
 have h := (pdq_sorts (ltOf cf) hO l.toArray 0 l.length (Lib.bitLen l.length) true true (Nat.zero_le _) (by simp) (Or.inl rfl)).2
 intro i j hij hj
 have := h i j (Nat.zero_le _) hij hj
 simp only [ltOf, decide_eq_false_iff_not] at this
 unfold sortF
 rw [← List.getElem!_toArray, ← List.getElem!_toArray, Array.toArray_toList]
 exact this
end Go.Lic
set_option linter.all false
namespace Go.Lic
def idxOf {α : Type} (p : α → Bool) (l : List α) : Int := match l.findIdx? p with | some i => i | none => -1
def cmpI (a b : Int) : Int := if a < b then -1 else if b < a then 1 else 0
def orF (l : List Int) : Int := (l.find? (· != 0)).getD 0
def lenF (n : Int) : Int := Lib.bitLen n.toNat
def sepOf (s : ByteArray) : UInt8 := s.data.toList.headD 0
def countF (s sep : ByteArray) : Int := (s.data.toList.count (sepOf sep) : Nat)
def indexF (s sep : ByteArray) : Int := Lib.indexByte s.data.toList (sepOf sep)
def splitL (c : UInt8) : List UInt8 → List (List UInt8)
 | [] => [[]]
 | b :: l => if b = c then [] :: splitL c l else match splitL c l with | p :: r => (b :: p) :: r | [] => [[b]]
def splitF (s sep : ByteArray) : List ByteArray := (splitL (sepOf sep) s.data.toList).map fun l => ⟨l.toArray⟩
def nameB (c : Int) : Bool := (decide (97 ≤ c) && decide (c ≤ 122)) || (decide (48 ≤ c) && decide (c ≤ 57)) || decide (c = 46) || decide (c = 95) || decide (c = 45)
def badR (r : Int) : Bool := !nameB r
def runeIdxL (f : Int → Bool) (s : ByteArray) : Nat → Int → Int
 | 0, _ => -1
 | n + 1, i => if i < s.size then if f (Utf8.decode s i.toNat).1 then i else runeIdxL f s n (i + (Utf8.decode s i.toNat).2) else -1
def partF (s : ByteArray) : Bool := decide (1 ≤ s.size) && decide (s.size ≤ 32) && !decide (sgi s 0 = 46) && !decide (sgi s 0 = 45) && (sbytes s).all nameB
def pathB (s : ByteArray) : Bool := decide (s.size ≤ 128) && decide ((splitF s ⟨#[47]⟩).length ≤ 8) && (splitF s ⟨#[47]⟩).all partF
def pathF (s : ByteArray) : Int := if pathB s then 0 else 2
end Go.Lic
set_option linter.all false
namespace Go.Lic
open Go.Sort
def splitG (s sep : ByteArray) (_ _ : Int) : List ByteArray := splitF s sep
def runeIx (p : Int → Bool) (s : ByteArray) (t : Bool) : Int := runeIdxL (fun r => p r == t) s (s.size + 1) 0
def nameR (s : ByteArray) : Bool := partF s
end Go.Lic
set_option linter.all false
namespace Go.Lic
open Go.Sort Go.Proofs Go.Shelf
theorem bl_irrefl : ∀ a : List UInt8, Op.bytesLess a a = false
 | [] => rfl
 | x :: a => by simp [Op.bytesLess, UInt8.lt_irrefl, bl_irrefl a]
theorem bl_trans : ∀ a b c : List UInt8, Op.bytesLess a b = true → Op.bytesLess b c = true → Op.bytesLess a c = true
 | [], [], _, h, _ => by cases h
 | [], _ :: _, [], _, h => by cases h
 | [], _ :: _, _ :: _, _, _ => rfl
 | _ :: _, [], _, h, _ => by cases h
 | _ :: _, _ :: _, [], _, h => by cases h
 | x :: a, y :: b, z :: c, h1, h2 => by
   simp only [Op.bytesLess, Bool.or_eq_true, Bool.and_eq_true, decide_eq_true_eq, beq_iff_eq] at h1 h2 ⊢
   rcases h1 with h1 | ⟨rfl, h1⟩
   · rcases h2 with h2 | ⟨rfl, h2⟩
     · exact .inl (UInt8.lt_trans h1 h2)
     · exact .inl h1
   · rcases h2 with h2 | ⟨rfl, h2⟩
     · exact .inl h2
     · exact .inr ⟨rfl, bl_trans a b c h1 h2⟩
theorem bl_tri : ∀ a b : List UInt8, Op.bytesLess a b = true ∨ a = b ∨ Op.bytesLess b a = true
 | [], [] => .inr (.inl rfl)
 | [], _ :: _ => .inl rfl
 | _ :: _, [] => .inr (.inr rfl)
 | x :: a, y :: b => by
   simp only [Op.bytesLess, Bool.or_eq_true, Bool.and_eq_true, decide_eq_true_eq, beq_iff_eq, List.cons.injEq]
   by_cases h : x = y
   · subst h
     rcases bl_tri a b with h1 | h1 | h1
     · exact .inl (.inr ⟨rfl, h1⟩)
     · exact .inr (.inl ⟨rfl, h1⟩)
     · exact .inr (.inr (.inr ⟨rfl, h1⟩))
   · rcases UInt8.lt_or_lt_of_ne h with h1 | h1
     · exact .inl (.inl h1)
     · exact .inr (.inr (.inl h1))
theorem ba_eq {a b : ByteArray} (h : a.data.toList = b.data.toList) : a = b := by
 obtain ⟨⟨a⟩⟩ := a; obtain ⟨⟨b⟩⟩ := b
 cases h; rfl
abbrev SLt (a b : ByteArray) : Prop := sless a b = true
theorem sl_irrefl (a : ByteArray) : ¬ SLt a a := by simp [sless, bl_irrefl]
theorem sl_trans {a b c : ByteArray} (h1 : SLt a b) (h2 : SLt b c) : SLt a c := bl_trans _ _ _ h1 h2
theorem sl_asymm {a b : ByteArray} (h1 : SLt a b) : ¬ SLt b a := fun h2 => sl_irrefl a (sl_trans h1 h2)
theorem sl_tri (a b : ByteArray) : SLt a b ∨ a = b ∨ SLt b a := by
 rcases bl_tri a.data.toList b.data.toList with h | h | h
 · exact .inl h
 · exact .inr (.inl (ba_eq h))
 · exact .inr (.inr h)
def inSpan (s : Span) (p : ByteArray) (n : Int) : Prop := s.path = p ∧ s.from_ ≤ n ∧ n < s.to
def In (l : List Span) (p : ByteArray) (n : Int) : Prop := ∃ s ∈ l, inSpan s p n
theorem gi_last {α : Type} [Inhabited α] (o : List α) (t : α) : gi (o ++ [t]) (((o ++ [t]).length : Int) - 1) = t := by
 have : (((o ++ [t]).length : Int) - 1) = ((o.length : Nat) : Int) := by simp
 rw [this, gi_nat (by simp)]
 simp
theorem si_last {α : Type} (o : List α) (t v : α) : si (o ++ [t]) (((o ++ [t]).length : Int) - 1) v = o ++ [v] := by
 have : (((o ++ [t]).length : Int) - 1).toNat = o.length := by simp
 unfold si
 rw [this]
 simp
theorem gmin1 (a b : Int) : gmin a [b] = min a b := by simp only [gmin, List.foldl]; omega
theorem list_last {α : Type} (l : List α) : l = [] ∨ ∃ o t, l = o ++ [t] := by
 rcases List.eq_nil_or_concat l with h | ⟨o, t, h⟩
 · exact .inl h
 · exact .inr ⟨o, t, by simpa using h⟩
theorem foldl_len {α β : Type} {f : List α → β → List α} (h : ∀ o x, (f o x).length ≤ o.length + 1) : ∀ (r : List β) (o : List α), (r.foldl f o).length ≤ o.length + r.length
 | [], o => by simp
 | x :: r, o => by
   rw [List.foldl_cons]
   have h1 := foldl_len h r (f o x)
   have h2 := h o x
   simp only [List.length_cons]; omega
end Go.Lic
set_option linter.all false
namespace Go.Lic
open Go.Sort Go.Proofs Go.Shelf
end Go.Lic
set_option linter.all false
namespace Go.Lic
open Go.Sort Go.Proofs Go.Shelf
def leftOf (s : Span) : List Span := if s.from_ < s.to then [s] else []
end Go.Lic
