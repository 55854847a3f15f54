/-
  A region whose order is drawn, of which some moves may come late.
-/
import Derived.Test.YtjncggaheahjiaaGreatDoorDraw
set_option linter.all false
namespace Go.Lic
variable [Fl]
section
variable {P : Program} {ops : Array Oper} {Q : Exit → Act → World → Prop}
end
section
end
end Go.Lic
