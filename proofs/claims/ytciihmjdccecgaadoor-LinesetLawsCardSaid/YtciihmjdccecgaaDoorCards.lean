/-
  DERIVED. GIVEN WITH THE SEED: THE CARDS: each row of YtciihmjdccecgaaDoorRows.lean that lists a variable, with what it lists TIED to the program's text (the seventh form; the later family's looks); each row that meets fmt, with fmt's text TOLD by the authors' own Lean function (tested against real Go, not proved from fmt's source: count such statements apart). THE CARD IS WHAT COUNTS. Prove the row's statement (the work); the ties are given (YtciihmjdccecgaaDoorTie.lean); close each card by the builder's one call (the guide's Derived/Test/ToyasCard.lean, 'card_holds'). Laid BY PROGRAM, IN A SANDBOX (cutbox-door.mjs). By AI agents, Wed Nov 11 2026. No macro, syntax, notation, axiom, sorry.
-/
import Derived.Test.YtciihmjdccecgaaDoorRows
import GoSem.ClaimSeven
namespace Go.Proofs.YtciihmjdccecgaaDoor
namespace Rows

/-- THE TIED CARD OF 'licitlaw16.LinesetLaws'. -/
def linesetLawsCard : Claim7 := { stood := { row := linesetLawsRow, standIns := [], harness := (true, "5190660431e887f4d34db868403c1c328ef303f96278108c6f6157d00cb8f269"), looks := false }, kinds := [], alts := [], laidByText := true, laidKinds := [.data, .data, .data, .data, .pinned], laidTests := true, laidLooks := .later }
def LinesetLawsCardSaid : Prop := Claim7.holds Tryd.pinned (.plain (OpenSpec.ofChange linesetLawsSpec)) linesetLawsCard

/-- THE SECOND FORM's CARD OF 'licitlaw16.LinesetLaws'. -/
def linesetLawsUptoCard : Claim7 := { stood := { row := linesetLawsUptoRow, standIns := [], harness := (true, "5190660431e887f4d34db868403c1c328ef303f96278108c6f6157d00cb8f269"), looks := false }, kinds := [], alts := [], laidByText := true, laidKinds := [.data, .data, .data, .data, .pinned], laidTests := true, laidLooks := .later }
def LinesetLawsUptoCardSaid : Prop := Claim7.holds Tryd.pinned (.plain (OpenSpec.upto linesetLawsSpec)) linesetLawsUptoCard
end Rows
end Go.Proofs.YtciihmjdccecgaaDoor
