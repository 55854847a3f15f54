/-
  walks and contracts
-/
import Derived.Test.YtaofnefejkokdaaGreatDoorV7
set_option linter.all false
namespace Go.Proofs.YtaofnefejkokdaaGreatDoor
open Go Go.Lic Go.Sort Go.Proofs
attribute [local irreducible] addF addP attrF badR behindF betR betterP blankF checkA checkF cmpB cmpI cmpL codeF countF countL fewC fewTs fewW findT gramsF growTF has1F hasF hashF indexF insideF leastF lenF longAF mainF maxF mergeF mul64F mulP nameR newF ofF orF packF partF pathB pathF pieceOk postCmp postLt postsF powF printsF pushF rangedF rightA rightCT rollF sameF selectF shareF sizeF smallF spanCmp splitF splitG srcF srcR textF unknownF validF validT



end Go.Proofs.YtaofnefejkokdaaGreatDoor
