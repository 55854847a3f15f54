/-
  DERIVED. GIVEN WITH THE SEED: THE CARDS: each row of YtjncggaheahjiaaGreatDoorRows.lean that lists a variable, with what it lists TIED to the program's text (the seventh form; the later family's looks); each row that meets fmt, with fmt's text TOLD by the authors' own Lean function (tested against real Go, not proved from fmt's source: count such statements apart). THE CARD IS WHAT COUNTS. Prove the row's statement (the work); the ties are given (YtjncggaheahjiaaGreatDoorTie.lean); close each card by the builder's one call (the guide's Derived/Test/ToyasCard.lean, 'card_holds'). Laid BY PROGRAM, IN A SANDBOX (cutbox-door.mjs). By AI agents, Wed Nov 11 2026. No macro, syntax, notation, axiom, sorry.
-/
import Derived.Test.YtjncggaheahjiaaGreatDoorRows
import GoSem.ClaimSeven
namespace Go.Proofs.YtjncggaheahjiaaGreatDoor
namespace Rows

/-- THE TIED CARD OF 'licitlaw16.LinesetTexts'. -/
def linesetTextsCard : Claim7 := { stood := { row := linesetTextsRow, standIns := [], harness := (true, "4c3024ea7912d45ce54d985962493d778fbf7c0e130a4d5506f8fa882362f54d"), looks := true }, kinds := [], alts := [], laidByText := true, laidKinds := [.data, .data, .data, .data, .sentinel, .sentinel, .pinned], laidTests := true, laidLooks := .later }
def LinesetTextsCardSaid : Prop := Claim7.holds Tryz.pinned (.plain (OpenSpec.ofChange linesetTextsSpec)) linesetTextsCard

/-- THE TIED CARD OF 'licitlaw16.LinesetBack'. -/
def linesetBackCard : Claim7 := { stood := { row := linesetBackRow, standIns := [], harness := (true, "4c3024ea7912d45ce54d985962493d778fbf7c0e130a4d5506f8fa882362f54d"), looks := true }, kinds := [], alts := [], laidByText := true, laidKinds := [.data, .data, .data, .data, .sentinel, .sentinel, .pinned], laidTests := true, laidLooks := .later }
def LinesetBackCardSaid : Prop := Claim7.holds Tryz.pinned (.plain (OpenSpec.ofChange linesetBackSpec)) linesetBackCard

/-- THE SECOND FORM's CARD OF 'licitlaw16.LinesetTexts'. -/
def linesetTextsUptoCard : Claim7 := { stood := { row := linesetTextsUptoRow, standIns := [], harness := (true, "4c3024ea7912d45ce54d985962493d778fbf7c0e130a4d5506f8fa882362f54d"), looks := true }, kinds := [], alts := [], laidByText := true, laidKinds := [.data, .data, .data, .data, .sentinel, .sentinel, .pinned], laidTests := true, laidLooks := .later }
def LinesetTextsUptoCardSaid : Prop := Claim7.holds Tryz.pinned (.plain (OpenSpec.upto linesetTextsSpec)) linesetTextsUptoCard

/-- THE SECOND FORM's CARD OF 'licitlaw16.LinesetBack'. -/
def linesetBackUptoCard : Claim7 := { stood := { row := linesetBackUptoRow, standIns := [], harness := (true, "4c3024ea7912d45ce54d985962493d778fbf7c0e130a4d5506f8fa882362f54d"), looks := true }, kinds := [], alts := [], laidByText := true, laidKinds := [.data, .data, .data, .data, .sentinel, .sentinel, .pinned], laidTests := true, laidLooks := .later }
def LinesetBackUptoCardSaid : Prop := Claim7.holds Tryz.pinned (.plain (OpenSpec.upto linesetBackSpec)) linesetBackUptoCard
end Rows
end Go.Proofs.YtjncggaheahjiaaGreatDoor
