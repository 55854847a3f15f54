/-
  Texts of sets of lines: what is parsed is printed, what is printed is parsed. No program in sight.
-/
import Derived.Test.YtjncggaheahjiaaGreatDoorNo3
set_option linter.all false
namespace Go.Lic
open Go.Proofs Go.Sort Go.Shelf
end Go.Lic
