/-
  DERIVED. GIVEN WITH THE SEED: THE CARDS: each row of YtnnbgemjkhgldaaGreatDoorRows.lean that lists a variable, with what it lists TIED to the program's text (the seventh form; the later family's looks); each row that meets fmt, with fmt's text TOLD by the authors' own Lean function (tested against real Go, not proved from fmt's source: count such statements apart). THE CARD IS WHAT COUNTS. Prove the row's statement (the work); the ties are given (YtnnbgemjkhgldaaGreatDoorTie.lean); close each card by the builder's one call (the guide's Derived/Test/ToyasCard.lean, 'card_holds'). Laid BY PROGRAM, IN A SANDBOX (cutbox-door.mjs). By AI agents, Wed Nov 11 2026. No macro, syntax, notation, axiom, sorry.
-/
import Derived.Test.YtnnbgemjkhgldaaGreatDoorRows
import GoSem.ClaimSeven
namespace Go.Proofs.YtnnbgemjkhgldaaGreatDoor
namespace Rows

/-- THE TIED CARD OF 'licitlaw16.LinesetCombines'. -/
def linesetCombinesCard : Claim7 := { stood := { row := linesetCombinesRow, standIns := [], harness := (true, "b7b4ed3dc9872946dc48a9bad303d91d15e5e930eaebadb995a9d4185f60b1c9"), looks := true }, kinds := [], alts := [], laidByText := true, laidKinds := [.data, .data, .data, .data, .pinned], laidTests := true, laidLooks := .later }
def LinesetCombinesCardSaid : Prop := Claim7.holds Tryz.pinned (.plain (OpenSpec.ofChange linesetCombinesSpec)) linesetCombinesCard

/-- THE TIED CARD OF 'licitlaw16.LinesetTexts'. -/
def linesetTextsCard : Claim7 := { stood := { row := linesetTextsRow, standIns := [], harness := (true, "b7b4ed3dc9872946dc48a9bad303d91d15e5e930eaebadb995a9d4185f60b1c9"), looks := true }, kinds := [], alts := [], laidByText := true, laidKinds := [.data, .data, .data, .data, .sentinel, .sentinel, .pinned], laidTests := true, laidLooks := .later }
def LinesetTextsCardSaid : Prop := Claim7.holds Tryz.pinned (.plain (OpenSpec.ofChange linesetTextsSpec)) linesetTextsCard

/-- THE TIED CARD OF 'licitlaw16.LinesetBack'. -/
def linesetBackCard : Claim7 := { stood := { row := linesetBackRow, standIns := [], harness := (true, "b7b4ed3dc9872946dc48a9bad303d91d15e5e930eaebadb995a9d4185f60b1c9"), looks := true }, kinds := [], alts := [], laidByText := true, laidKinds := [.data, .data, .data, .data, .sentinel, .sentinel, .pinned], laidTests := true, laidLooks := .later }
def LinesetBackCardSaid : Prop := Claim7.holds Tryz.pinned (.plain (OpenSpec.ofChange linesetBackSpec)) linesetBackCard

/-- THE SECOND FORM's CARD OF 'licitlaw16.LinesetCombines'. -/
def linesetCombinesUptoCard : Claim7 := { stood := { row := linesetCombinesUptoRow, standIns := [], harness := (true, "b7b4ed3dc9872946dc48a9bad303d91d15e5e930eaebadb995a9d4185f60b1c9"), looks := true }, kinds := [], alts := [], laidByText := true, laidKinds := [.data, .data, .data, .data, .pinned], laidTests := true, laidLooks := .later }
def LinesetCombinesUptoCardSaid : Prop := Claim7.holds Tryz.pinned (.plain (OpenSpec.upto linesetCombinesSpec)) linesetCombinesUptoCard

/-- THE SECOND FORM's CARD OF 'licitlaw16.LinesetTexts'. -/
def linesetTextsUptoCard : Claim7 := { stood := { row := linesetTextsUptoRow, standIns := [], harness := (true, "b7b4ed3dc9872946dc48a9bad303d91d15e5e930eaebadb995a9d4185f60b1c9"), looks := true }, kinds := [], alts := [], laidByText := true, laidKinds := [.data, .data, .data, .data, .sentinel, .sentinel, .pinned], laidTests := true, laidLooks := .later }
def LinesetTextsUptoCardSaid : Prop := Claim7.holds Tryz.pinned (.plain (OpenSpec.upto linesetTextsSpec)) linesetTextsUptoCard

/-- THE SECOND FORM's CARD OF 'licitlaw16.LinesetBack'. -/
def linesetBackUptoCard : Claim7 := { stood := { row := linesetBackUptoRow, standIns := [], harness := (true, "b7b4ed3dc9872946dc48a9bad303d91d15e5e930eaebadb995a9d4185f60b1c9"), looks := true }, kinds := [], alts := [], laidByText := true, laidKinds := [.data, .data, .data, .data, .sentinel, .sentinel, .pinned], laidTests := true, laidLooks := .later }
def LinesetBackUptoCardSaid : Prop := Claim7.holds Tryz.pinned (.plain (OpenSpec.upto linesetBackSpec)) linesetBackUptoCard
end Rows
end Go.Proofs.YtnnbgemjkhgldaaGreatDoor
