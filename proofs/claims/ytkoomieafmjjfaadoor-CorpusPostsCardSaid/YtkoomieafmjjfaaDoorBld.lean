/-
  strings.Builder: its block and its buffer, as memory of our own.
-/
import Derived.Test.YtkoomieafmjjfaaDoorHv
import Derived.Lib.Builder
import Derived.Lib.UnsafeStr
import Derived.Laws.Externs
set_option linter.all false
namespace Go.Lic

section
variable {P : Program} {o : Oper} {fr : Nat → D} {h : Heap} {K : D → Heap → Prop}

end
end Go.Lic
