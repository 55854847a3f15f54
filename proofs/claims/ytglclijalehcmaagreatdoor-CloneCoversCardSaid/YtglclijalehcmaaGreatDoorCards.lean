/-
  DERIVED. GIVEN WITH THE SEED: THE CARDS: each row of YtglclijalehcmaaGreatDoorRows.lean that lists a variable, with what it lists TIED to the program's text (the seventh form; the later family's looks); each row that meets fmt, with fmt's text TOLD by the authors' own Lean function (tested against real Go, not proved from fmt's source: count such statements apart). THE CARD IS WHAT COUNTS. Prove the row's statement (the work); the ties are given (YtglclijalehcmaaGreatDoorTie.lean); close each card by the builder's one call (the guide's Derived/Test/ToyasCard.lean, 'card_holds'). Laid BY PROGRAM, IN A SANDBOX (cutbox-door.mjs). By AI agents, Wed Nov 11 2026. No macro, syntax, notation, axiom, sorry.
-/
import Derived.Test.YtglclijalehcmaaGreatDoorRows
import GoSem.ClaimSeven
namespace Go.Proofs.YtglclijalehcmaaGreatDoor
namespace Rows

/-- THE TIED CARD OF 'licitlaw29.CloneAgainst'. -/
def cloneAgainstCard : Claim7 := { stood := { row := cloneAgainstRow, standIns := [], harness := (true, "906de28a732203552ca5b4fb8bcc391238f68168db909a99d9398086fde0b3d4"), looks := false }, kinds := [], alts := [], laidByText := true, laidKinds := [.data, .pinned], laidTests := true, laidLooks := .later }
def CloneAgainstCardSaid : Prop := Claim7.holds Tryz.pinned (.plain (OpenSpec.ofChange cloneAgainstSpec)) cloneAgainstCard

/-- THE TIED CARD OF 'licitlaw29.CloneKnown'. -/
def cloneKnownCard : Claim7 := { stood := { row := cloneKnownRow, standIns := [], harness := (true, "906de28a732203552ca5b4fb8bcc391238f68168db909a99d9398086fde0b3d4"), looks := false }, kinds := [], alts := [], laidByText := true, laidKinds := [.data, .pinned], laidTests := true, laidLooks := .later }
def CloneKnownCardSaid : Prop := Claim7.holds Tryz.pinned (.plain (OpenSpec.ofChange cloneKnownSpec)) cloneKnownCard

/-- THE TIED CARD OF 'licitlaw29.CloneChecks'. -/
def cloneChecksCard : Claim7 := { stood := { row := cloneChecksRow, standIns := [], harness := (true, "906de28a732203552ca5b4fb8bcc391238f68168db909a99d9398086fde0b3d4"), looks := false }, kinds := [], alts := [], laidByText := true, laidKinds := [.data, .pinned], laidTests := true, laidLooks := .later }
def CloneChecksCardSaid : Prop := Claim7.holds Tryz.pinned (.plain (OpenSpec.ofChange cloneChecksSpec)) cloneChecksCard

/-- THE TIED CARD OF 'licitlaw29.CloneCovers'. -/
def cloneCoversCard : Claim7 := { stood := { row := cloneCoversRow, standIns := [], harness := (true, "906de28a732203552ca5b4fb8bcc391238f68168db909a99d9398086fde0b3d4"), looks := false }, kinds := [], alts := [], laidByText := true, laidKinds := [.data, .pinned], laidTests := true, laidLooks := .later }
def CloneCoversCardSaid : Prop := Claim7.holds Tryz.pinned (.plain (OpenSpec.ofChange cloneCoversSpec)) cloneCoversCard

/-- THE TIED CARD OF 'licitlaw26.CorpusNear'. -/
def corpusNearCard : Claim7 := { stood := { row := corpusNearRow, standIns := [], harness := (true, "906de28a732203552ca5b4fb8bcc391238f68168db909a99d9398086fde0b3d4"), looks := false }, kinds := [], alts := [], laidByText := true, laidKinds := [.data, .pinned], laidTests := true, laidLooks := .later }
def CorpusNearCardSaid : Prop := Claim7.holds Tryz.pinned (.plain (OpenSpec.ofChange corpusNearSpec)) corpusNearCard

/-- THE SECOND FORM's CARD OF 'licitlaw29.CloneAgainst'. -/
def cloneAgainstUptoCard : Claim7 := { stood := { row := cloneAgainstUptoRow, standIns := [], harness := (true, "906de28a732203552ca5b4fb8bcc391238f68168db909a99d9398086fde0b3d4"), looks := false }, kinds := [], alts := [], laidByText := true, laidKinds := [.data, .pinned], laidTests := true, laidLooks := .later }
def CloneAgainstUptoCardSaid : Prop := Claim7.holds Tryz.pinned (.plain (OpenSpec.upto cloneAgainstSpec)) cloneAgainstUptoCard

/-- THE SECOND FORM's CARD OF 'licitlaw29.CloneKnown'. -/
def cloneKnownUptoCard : Claim7 := { stood := { row := cloneKnownUptoRow, standIns := [], harness := (true, "906de28a732203552ca5b4fb8bcc391238f68168db909a99d9398086fde0b3d4"), looks := false }, kinds := [], alts := [], laidByText := true, laidKinds := [.data, .pinned], laidTests := true, laidLooks := .later }
def CloneKnownUptoCardSaid : Prop := Claim7.holds Tryz.pinned (.plain (OpenSpec.upto cloneKnownSpec)) cloneKnownUptoCard

/-- THE SECOND FORM's CARD OF 'licitlaw29.CloneChecks'. -/
def cloneChecksUptoCard : Claim7 := { stood := { row := cloneChecksUptoRow, standIns := [], harness := (true, "906de28a732203552ca5b4fb8bcc391238f68168db909a99d9398086fde0b3d4"), looks := false }, kinds := [], alts := [], laidByText := true, laidKinds := [.data, .pinned], laidTests := true, laidLooks := .later }
def CloneChecksUptoCardSaid : Prop := Claim7.holds Tryz.pinned (.plain (OpenSpec.upto cloneChecksSpec)) cloneChecksUptoCard

/-- THE SECOND FORM's CARD OF 'licitlaw29.CloneCovers'. -/
def cloneCoversUptoCard : Claim7 := { stood := { row := cloneCoversUptoRow, standIns := [], harness := (true, "906de28a732203552ca5b4fb8bcc391238f68168db909a99d9398086fde0b3d4"), looks := false }, kinds := [], alts := [], laidByText := true, laidKinds := [.data, .pinned], laidTests := true, laidLooks := .later }
def CloneCoversUptoCardSaid : Prop := Claim7.holds Tryz.pinned (.plain (OpenSpec.upto cloneCoversSpec)) cloneCoversUptoCard

/-- THE SECOND FORM's CARD OF 'licitlaw26.CorpusNear'. -/
def corpusNearUptoCard : Claim7 := { stood := { row := corpusNearUptoRow, standIns := [], harness := (true, "906de28a732203552ca5b4fb8bcc391238f68168db909a99d9398086fde0b3d4"), looks := false }, kinds := [], alts := [], laidByText := true, laidKinds := [.data, .pinned], laidTests := true, laidLooks := .later }
def CorpusNearUptoCardSaid : Prop := Claim7.holds Tryz.pinned (.plain (OpenSpec.upto corpusNearSpec)) corpusNearUptoCard
end Rows
end Go.Proofs.YtglclijalehcmaaGreatDoor
