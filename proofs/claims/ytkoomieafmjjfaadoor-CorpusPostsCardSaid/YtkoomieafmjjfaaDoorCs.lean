/-
  Structures of chapter 16 and how memory holds them.
-/
import Derived.Test.YtkoomieafmjjfaaDoorVr
set_option linter.all false
namespace Go.Lic
structure Span where
  path : ByteArray
  from_ : Int
  to : Int
deriving DecidableEq
instance : Inhabited Span := ⟨⟨default, default, default⟩⟩
structure Line where
  path : ByteArray
  n : Int
deriving DecidableEq
instance : Inhabited Line := ⟨⟨default, default⟩⟩
end Go.Lic

set_option linter.all false
namespace Go.Lic
structure Lexeme where
  text : ByteArray
  line : Int
deriving DecidableEq
instance : Inhabited Lexeme := ⟨⟨default, default⟩⟩
def encLex (x : Lexeme) : D := .agg ([D.s x.text, D.i x.line])
structure Text where
  path : ByteArray
  words : (List Lexeme)
deriving DecidableEq
instance : Inhabited Text := ⟨⟨default, default⟩⟩
def encText (x : Text) : D := .agg ([D.s x.path, (encL 2 encLex) x.words])
structure Print where
  hash : Int
  at_ : Int
deriving DecidableEq
instance : Inhabited Print := ⟨⟨default, default⟩⟩
def encPrint (x : Print) : D := .agg ([D.i x.hash, D.i x.at_])
structure Pst where
  hash : Int
  text : Int
  at_ : Int
deriving DecidableEq
instance : Inhabited Pst := ⟨⟨default, default, default⟩⟩
def encPst (x : Pst) : D := .agg ([D.i x.hash, D.i x.text, D.i x.at_])
def eqPst (a b : Pst) : Bool := decide (a.hash = b.hash) && (decide (a.text = b.text) && (decide (a.at_ = b.at_) && true))
structure Corpus where
  k : Int
  w : Int
  texts : (List Text)
  posts : (List Pst)
deriving DecidableEq
instance : Inhabited Corpus := ⟨⟨default, default, default, default⟩⟩
def encCorpus (x : Corpus) : D := .agg ([D.i x.k, D.i x.w, (encL 2 encText) x.texts, (encL 3 encPst) x.posts])
def valPst (x : Pst) : List Value := [.int .i64 x.hash, .int .i64 x.text, .int .i64 x.at_]
theorem valPst_one : ∀ x : Pst, ∀ v ∈ valPst x, v.oneCell' = true := by
  intro x v hv
  simp only [valPst, List.mem_cons, List.not_mem_nil, or_false] at hv
  rcases hv with rfl | rfl | rfl <;> rfl
end Go.Lic
