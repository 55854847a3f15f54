/-
  walks and contracts
-/
import Derived.Test.YtkoomieafmjjfaaDoorV6
set_option linter.all false
namespace Go.Proofs.YtkoomieafmjjfaaDoor
open Go Go.Lic Go.Sort Go.Proofs
attribute [local irreducible] addF addP badR blankF checkF cmpB cmpI codeF countF fewC fewTs fewW findP findT gramsF growTF hashF indexF lenF mul64F mulP nearC nearF newF orF partF pathF postCmp postsF powF printsF pushF rollF selectF sizeF splitF splitG validT




end Go.Proofs.YtkoomieafmjjfaaDoor
