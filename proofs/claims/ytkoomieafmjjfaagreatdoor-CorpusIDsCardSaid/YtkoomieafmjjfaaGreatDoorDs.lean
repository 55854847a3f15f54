/-
  Structures of chapter 01 and how memory holds them.
-/
import Derived.Test.YtkoomieafmjjfaaGreatDoorBld
set_option linter.all false
namespace Go.Lic
structure DigestSponge where
  state : (List Int)
  rest : (List Int)
  taken : Int
  seen : (List Int)
  tail : ByteArray
  sum : ByteArray
instance : Inhabited DigestSponge := ⟨⟨default, default, default, default, default, default⟩⟩
end Go.Lic
