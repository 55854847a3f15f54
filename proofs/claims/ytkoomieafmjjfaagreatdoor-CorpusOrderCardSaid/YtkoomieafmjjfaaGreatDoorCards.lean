/-
  DERIVED. GIVEN WITH THE SEED: THE CARDS: each row of YtkoomieafmjjfaaGreatDoorRows.lean that lists a variable, with what it lists TIED to the program's text (the seventh form; the later family's looks); each row that meets fmt, with fmt's text TOLD by the authors' own Lean function (tested against real Go, not proved from fmt's source: count such statements apart). THE CARD IS WHAT COUNTS. Prove the row's statement (the work); the ties are given (YtkoomieafmjjfaaGreatDoorTie.lean); close each card by the builder's one call (the guide's Derived/Test/ToyasCard.lean, 'card_holds'). Laid BY PROGRAM, IN A SANDBOX (cutbox-door.mjs). By AI agents, Wed Nov 11 2026. No macro, syntax, notation, axiom, sorry.
-/
import Derived.Test.YtkoomieafmjjfaaGreatDoorRows
import GoSem.ClaimSeven
namespace Go.Proofs.YtkoomieafmjjfaaGreatDoor
namespace Rows

/-- THE TIED CARD OF 'licitlaw26.CorpusChecks'. -/
def corpusChecksCard : Claim7 := { stood := { row := corpusChecksRow, standIns := [], harness := (true, "a27c14a828b580cac456c3638327443cb46b32cfaba9e4f4103e379c4dfe1a11"), looks := false }, kinds := [], alts := [], laidByText := true, laidKinds := [.data, .pinned], laidTests := true, laidLooks := .later }
def CorpusChecksCardSaid : Prop := Claim7.holds Tryz.pinned (.plain (OpenSpec.ofChange corpusChecksSpec)) corpusChecksCard

/-- THE TIED CARD OF 'licitlaw26.CorpusChanges'. -/
def corpusChangesCard : Claim7 := { stood := { row := corpusChangesRow, standIns := [], harness := (true, "a27c14a828b580cac456c3638327443cb46b32cfaba9e4f4103e379c4dfe1a11"), looks := false }, kinds := [], alts := [], laidByText := true, laidKinds := [.data, .pinned], laidTests := true, laidLooks := .later }
def CorpusChangesCardSaid : Prop := Claim7.holds Tryz.pinned (.plain (OpenSpec.ofChange corpusChangesSpec)) corpusChangesCard

/-- THE TIED CARD OF 'licitlaw26.CorpusFinds'. -/
def corpusFindsCard : Claim7 := { stood := { row := corpusFindsRow, standIns := [], harness := (true, "a27c14a828b580cac456c3638327443cb46b32cfaba9e4f4103e379c4dfe1a11"), looks := false }, kinds := [], alts := [], laidByText := true, laidKinds := [.data, .pinned], laidTests := true, laidLooks := .later }
def CorpusFindsCardSaid : Prop := Claim7.holds Tryz.pinned (.plain (OpenSpec.ofChange corpusFindsSpec)) corpusFindsCard

/-- THE TIED CARD OF 'licitlaw26.CorpusNear'. -/
def corpusNearCard : Claim7 := { stood := { row := corpusNearRow, standIns := [], harness := (true, "a27c14a828b580cac456c3638327443cb46b32cfaba9e4f4103e379c4dfe1a11"), looks := false }, kinds := [], alts := [], laidByText := true, laidKinds := [.data, .pinned], laidTests := true, laidLooks := .later }
def CorpusNearCardSaid : Prop := Claim7.holds Tryz.pinned (.plain (OpenSpec.ofChange corpusNearSpec)) corpusNearCard

/-- THE TIED CARD OF 'licitlaw26.CorpusIDs'. -/
def corpusIDsCard : Claim7 := { stood := { row := corpusIDsRow, standIns := [], harness := (true, "a27c14a828b580cac456c3638327443cb46b32cfaba9e4f4103e379c4dfe1a11"), looks := false }, kinds := [], alts := [], laidByText := true, laidKinds := [.data, .data, .data, .data, .pinned], laidTests := true, laidLooks := .later }
def CorpusIDsCardSaid : Prop := Claim7.holds Tryz.pinned (.plain (OpenSpec.ofChange corpusIDsSpec)) corpusIDsCard

/-- THE TIED CARD OF 'licitlaw26.CorpusOrder'. -/
def corpusOrderCard : Claim7 := { stood := { row := corpusOrderRow, standIns := [], harness := (true, "a27c14a828b580cac456c3638327443cb46b32cfaba9e4f4103e379c4dfe1a11"), looks := false }, kinds := [], alts := [], laidByText := true, laidKinds := [.data, .data, .data, .data, .pinned], laidTests := true, laidLooks := .later }
def CorpusOrderCardSaid : Prop := Claim7.holds Tryz.pinned (.plain (OpenSpec.ofChange corpusOrderSpec)) corpusOrderCard

/-- THE SECOND FORM's CARD OF 'licitlaw26.CorpusChecks'. -/
def corpusChecksUptoCard : Claim7 := { stood := { row := corpusChecksUptoRow, standIns := [], harness := (true, "a27c14a828b580cac456c3638327443cb46b32cfaba9e4f4103e379c4dfe1a11"), looks := false }, kinds := [], alts := [], laidByText := true, laidKinds := [.data, .pinned], laidTests := true, laidLooks := .later }
def CorpusChecksUptoCardSaid : Prop := Claim7.holds Tryz.pinned (.plain (OpenSpec.upto corpusChecksSpec)) corpusChecksUptoCard

/-- THE SECOND FORM's CARD OF 'licitlaw26.CorpusChanges'. -/
def corpusChangesUptoCard : Claim7 := { stood := { row := corpusChangesUptoRow, standIns := [], harness := (true, "a27c14a828b580cac456c3638327443cb46b32cfaba9e4f4103e379c4dfe1a11"), looks := false }, kinds := [], alts := [], laidByText := true, laidKinds := [.data, .pinned], laidTests := true, laidLooks := .later }
def CorpusChangesUptoCardSaid : Prop := Claim7.holds Tryz.pinned (.plain (OpenSpec.upto corpusChangesSpec)) corpusChangesUptoCard

/-- THE SECOND FORM's CARD OF 'licitlaw26.CorpusFinds'. -/
def corpusFindsUptoCard : Claim7 := { stood := { row := corpusFindsUptoRow, standIns := [], harness := (true, "a27c14a828b580cac456c3638327443cb46b32cfaba9e4f4103e379c4dfe1a11"), looks := false }, kinds := [], alts := [], laidByText := true, laidKinds := [.data, .pinned], laidTests := true, laidLooks := .later }
def CorpusFindsUptoCardSaid : Prop := Claim7.holds Tryz.pinned (.plain (OpenSpec.upto corpusFindsSpec)) corpusFindsUptoCard

/-- THE SECOND FORM's CARD OF 'licitlaw26.CorpusNear'. -/
def corpusNearUptoCard : Claim7 := { stood := { row := corpusNearUptoRow, standIns := [], harness := (true, "a27c14a828b580cac456c3638327443cb46b32cfaba9e4f4103e379c4dfe1a11"), looks := false }, kinds := [], alts := [], laidByText := true, laidKinds := [.data, .pinned], laidTests := true, laidLooks := .later }
def CorpusNearUptoCardSaid : Prop := Claim7.holds Tryz.pinned (.plain (OpenSpec.upto corpusNearSpec)) corpusNearUptoCard

/-- THE SECOND FORM's CARD OF 'licitlaw26.CorpusIDs'. -/
def corpusIDsUptoCard : Claim7 := { stood := { row := corpusIDsUptoRow, standIns := [], harness := (true, "a27c14a828b580cac456c3638327443cb46b32cfaba9e4f4103e379c4dfe1a11"), looks := false }, kinds := [], alts := [], laidByText := true, laidKinds := [.data, .data, .data, .data, .pinned], laidTests := true, laidLooks := .later }
def CorpusIDsUptoCardSaid : Prop := Claim7.holds Tryz.pinned (.plain (OpenSpec.upto corpusIDsSpec)) corpusIDsUptoCard

/-- THE SECOND FORM's CARD OF 'licitlaw26.CorpusOrder'. -/
def corpusOrderUptoCard : Claim7 := { stood := { row := corpusOrderUptoRow, standIns := [], harness := (true, "a27c14a828b580cac456c3638327443cb46b32cfaba9e4f4103e379c4dfe1a11"), looks := false }, kinds := [], alts := [], laidByText := true, laidKinds := [.data, .data, .data, .data, .pinned], laidTests := true, laidLooks := .later }
def CorpusOrderUptoCardSaid : Prop := Claim7.holds Tryz.pinned (.plain (OpenSpec.upto corpusOrderSpec)) corpusOrderUptoCard
end Rows
end Go.Proofs.YtkoomieafmjjfaaGreatDoor
