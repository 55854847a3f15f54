/-
  Structures of chapter 01 and how memory holds them.
-/
import Derived.Test.YtchidogjhgelpaaBld
set_option linter.all false
namespace Go.Lic
structure DigestSponge where
  state : (List Int)
  rest : (List Int)
  taken : Int
  seen : (List Int)
  tail : ByteArray
  sum : ByteArray
instance : Inhabited DigestSponge := ⟨⟨default, default, default, default, default, default⟩⟩
def encDigestSponge (x : DigestSponge) : D := .agg (arrC 25 (D.k .u64) x.state ++ ([(encL 1 (D.k .u8)) x.rest, D.i x.taken] ++ (arrC 25 (D.k .u64) x.seen ++ ([D.s x.tail, D.s x.sum]))))
end Go.Lic
