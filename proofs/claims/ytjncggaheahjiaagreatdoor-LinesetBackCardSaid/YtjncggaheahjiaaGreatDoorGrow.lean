/-
  append(nil, make(..)...): a new slice of zero values; cap of nil; a slice of nil.
-/
import Derived.Test.YtjncggaheahjiaaGreatDoorHv
set_option linter.all false
namespace Go.Lic
variable [Fl]
section
variable {P : Program} {o : Oper} {fr : Nat → D} {h : Heap} {K : D → Heap → Prop} {T : Type} [Inhabited T] {enc : T → D}
end
section
variable {P : Program} {o : Oper} {fr : Nat → D} {h : Heap} {K : D → Heap → Prop}
end
end Go.Lic
