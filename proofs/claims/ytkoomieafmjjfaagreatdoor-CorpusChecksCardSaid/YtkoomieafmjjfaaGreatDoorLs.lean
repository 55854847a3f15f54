/-
  Structures of chapter 16 and how memory holds them.
-/
import Derived.Test.YtkoomieafmjjfaaGreatDoorVr
set_option linter.all false
namespace Go.Lic
structure Span where
  path : ByteArray
  from_ : Int
  to : Int
deriving DecidableEq
instance : Inhabited Span := ⟨⟨default, default, default⟩⟩
structure Line where
  path : ByteArray
  n : Int
deriving DecidableEq
instance : Inhabited Line := ⟨⟨default, default⟩⟩
end Go.Lic
