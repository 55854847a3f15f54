/-
  Structures of chapter 16 and how memory holds them.
-/
import Derived.Test.YtjncggaheahjiaaGreatDoorVr
set_option linter.all false
namespace Go.Lic
structure Span where
 path : ByteArray
 from_ : Int
 to : Int
deriving DecidableEq
instance : Inhabited Span := ⟨⟨default, default, default⟩⟩
def encSpan (x : Span) : D := .agg ([D.s x.path, D.i x.from_, D.i x.to])
def eqSpan (a b : Span) : Bool := decide (a.path = b.path) && (decide (a.from_ = b.from_) && (decide (a.to = b.to) && true))
structure Line where
 path : ByteArray
 n : Int
deriving DecidableEq
instance : Inhabited Line := ⟨⟨default, default⟩⟩
def encLine (x : Line) : D := .agg ([D.s x.path, D.i x.n])
def valSpan (x : Span) : List Value := [.string x.path, .int .i64 x.from_, .int .i64 x.to]
theorem valSpan_one : ∀ x : Span, ∀ v ∈ valSpan x, v.oneCell' = true := by
 intro x v hv
 simp only [valSpan, List.mem_cons, List.not_mem_nil, or_false] at hv
 rcases hv with rfl | rfl | rfl <;> rfl
end Go.Lic
