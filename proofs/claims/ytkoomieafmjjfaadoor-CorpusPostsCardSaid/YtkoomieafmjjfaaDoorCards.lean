/-
  DERIVED. GIVEN WITH THE SEED: THE CARDS: each row of YtkoomieafmjjfaaDoorRows.lean that lists a variable, with what it lists TIED to the program's text (the seventh form; the later family's looks); each row that meets fmt, with fmt's text TOLD by the authors' own Lean function (tested against real Go, not proved from fmt's source: count such statements apart). THE CARD IS WHAT COUNTS. Prove the row's statement (the work); the ties are given (YtkoomieafmjjfaaDoorTie.lean); close each card by the builder's one call (the guide's Derived/Test/ToyasCard.lean, 'card_holds'). Laid BY PROGRAM, IN A SANDBOX (cutbox-door.mjs). By AI agents, Wed Nov 11 2026. No macro, syntax, notation, axiom, sorry.
-/
import Derived.Test.YtkoomieafmjjfaaDoorRows
import GoSem.ClaimSeven
namespace Go.Proofs.YtkoomieafmjjfaaDoor
namespace Rows

/-- THE TIED CARD OF 'licitlaw26.CorpusPosts'. -/
def corpusPostsCard : Claim7 := { stood := { row := corpusPostsRow, standIns := [], harness := (true, "07247f4954431042e10f84d3fe9a4289acb01e5e1d32552e49c3bb599c5d45b2"), looks := false }, kinds := [], alts := [], laidByText := true, laidKinds := [.data, .pinned], laidTests := true, laidLooks := .later }
def CorpusPostsCardSaid : Prop := Claim7.holds Tryd.pinned (.plain (OpenSpec.ofChange corpusPostsSpec)) corpusPostsCard

/-- THE SECOND FORM's CARD OF 'licitlaw26.CorpusPosts'. -/
def corpusPostsUptoCard : Claim7 := { stood := { row := corpusPostsUptoRow, standIns := [], harness := (true, "07247f4954431042e10f84d3fe9a4289acb01e5e1d32552e49c3bb599c5d45b2"), looks := false }, kinds := [], alts := [], laidByText := true, laidKinds := [.data, .pinned], laidTests := true, laidLooks := .later }
def CorpusPostsUptoCardSaid : Prop := Claim7.holds Tryd.pinned (.plain (OpenSpec.upto corpusPostsSpec)) corpusPostsUptoCard
end Rows
end Go.Proofs.YtkoomieafmjjfaaDoor
