/-
  The rows' condition: nothing is asked of package-level variables.
-/
import Derived.Test.YtaofnefejkokdaaGreatDoorRel
set_option linter.all false
namespace Go.Lic
theorem glob_none (W : World) : Glob W (fun b => (fun _ : Nat => False) (2 * b)) := ⟨W, trivial, fun g hg => by cases hg⟩
end Go.Lic
