/-
  What is known of package-level variables (nothing here).
-/
import Derived.Test.YtglclijalehcmaaGreatDoorBase
set_option linter.all false
namespace Go.Lic
def globIds : List Nat := []
def globP : World → Prop := fun _ => True
end Go.Lic
