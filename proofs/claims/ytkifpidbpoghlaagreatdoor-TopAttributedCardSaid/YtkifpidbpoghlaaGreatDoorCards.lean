/-
  DERIVED. GIVEN WITH THE SEED: THE CARDS: each row of YtkifpidbpoghlaaGreatDoorRows.lean that lists a variable, with what it lists TIED to the program's text (the seventh form; the later family's looks); each row that meets fmt, with fmt's text TOLD by the authors' own Lean function (tested against real Go, not proved from fmt's source: count such statements apart). THE CARD IS WHAT COUNTS. Prove the row's statement (the work); the ties are given (YtkifpidbpoghlaaGreatDoorTie.lean); close each card by the builder's one call (the guide's Derived/Test/ToyasCard.lean, 'card_holds'). Laid BY PROGRAM, IN A SANDBOX (cutbox-door.mjs). By AI agents, Wed Nov 11 2026. No macro, syntax, notation, axiom, sorry.
-/
import Derived.Test.YtkifpidbpoghlaaGreatDoorRows
import GoSem.ClaimSeven
namespace Go.Proofs.YtkifpidbpoghlaaGreatDoor
namespace Rows

/-- THE TIED CARD OF 'licittop.TopAlignOptimal'. -/
def topAlignOptimalCard : Claim7 := { stood := { row := topAlignOptimalRow, standIns := [], harness := (true, "78bd7a859c214e79cc61c171726bc5ce7fe51d972040986304935e3f95a5b7d7"), looks := true }, kinds := [], alts := [], laidByText := true, laidKinds := [.data, .data, .data, .data, .sentinel, .sentinel, .pinned], laidTests := true, laidLooks := .later }
def TopAlignOptimalCardSaid : Prop := Claim7.holds Tryz.pinned (.plain (OpenSpec.ofChange topAlignOptimalSpec)) topAlignOptimalCard

/-- THE TIED CARD OF 'licittop.TopAttributed'. -/
def topAttributedCard : Claim7 := { stood := { row := topAttributedRow, standIns := [], harness := (true, "78bd7a859c214e79cc61c171726bc5ce7fe51d972040986304935e3f95a5b7d7"), looks := true }, kinds := [], alts := [], laidByText := true, laidKinds := [.data, .data, .data, .data, .sentinel, .sentinel, .pinned], laidTests := true, laidLooks := .later }
def TopAttributedCardSaid : Prop := Claim7.holds Tryz.pinned (.plain (OpenSpec.ofChange topAttributedSpec)) topAttributedCard

/-- THE SECOND FORM's CARD OF 'licittop.TopAlignOptimal'. -/
def topAlignOptimalUptoCard : Claim7 := { stood := { row := topAlignOptimalUptoRow, standIns := [], harness := (true, "78bd7a859c214e79cc61c171726bc5ce7fe51d972040986304935e3f95a5b7d7"), looks := true }, kinds := [], alts := [], laidByText := true, laidKinds := [.data, .data, .data, .data, .sentinel, .sentinel, .pinned], laidTests := true, laidLooks := .later }
def TopAlignOptimalUptoCardSaid : Prop := Claim7.holds Tryz.pinned (.plain (OpenSpec.upto topAlignOptimalSpec)) topAlignOptimalUptoCard

/-- THE SECOND FORM's CARD OF 'licittop.TopAttributed'. -/
def topAttributedUptoCard : Claim7 := { stood := { row := topAttributedUptoRow, standIns := [], harness := (true, "78bd7a859c214e79cc61c171726bc5ce7fe51d972040986304935e3f95a5b7d7"), looks := true }, kinds := [], alts := [], laidByText := true, laidKinds := [.data, .data, .data, .data, .sentinel, .sentinel, .pinned], laidTests := true, laidLooks := .later }
def TopAttributedUptoCardSaid : Prop := Claim7.holds Tryz.pinned (.plain (OpenSpec.upto topAttributedSpec)) topAttributedUptoCard
end Rows
end Go.Proofs.YtkifpidbpoghlaaGreatDoor
