/-
  walks and contracts
-/
import Derived.Test.YtkoomieafmjjfaaGreatDoorV6
set_option linter.all false
namespace Go.Proofs.YtkoomieafmjjfaaGreatDoor
open Go Go.Lic Go.Sort Go.Proofs
attribute [local irreducible] addF addP badR blankF checkF cmpB cmpI codeF commonF4 corpusOf countF dropF fewC fewTs fewW findP findT gramsF growTF guarF hashF indexF leastF lenF mul64F mulP nameR nearC nearF newF orF partF pathB pathF postCmp postLt postsF powF printsF pushF rollF selectF sizeF splitF splitG validT



end Go.Proofs.YtkoomieafmjjfaaGreatDoor
