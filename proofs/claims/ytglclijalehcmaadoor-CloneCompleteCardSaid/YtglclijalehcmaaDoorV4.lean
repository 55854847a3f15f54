/-
  walks and contracts
-/
import Derived.Test.YtglclijalehcmaaDoorV3
set_option linter.all false
namespace Go.Proofs.YtglclijalehcmaaDoor
open Go Go.Lic Go.Sort Go.Proofs
attribute [local irreducible] addP badR blankF checkC checkF29 cloneCmp clonesF cmpI cmpL codeF commonF4 countF fewTs fewW findC gramsF guarF hashF indexF insideT lenC lenF lookF mul64F mulP nameR orF pairF partF pathB pathF powF printsF pushF rightL rollF sameW selectF sizeF splitF splitG textF validT
end Go.Proofs.YtglclijalehcmaaDoor
