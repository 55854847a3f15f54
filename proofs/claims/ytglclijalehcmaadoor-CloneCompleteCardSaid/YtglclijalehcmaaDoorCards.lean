/-
  DERIVED. GIVEN WITH THE SEED: THE CARDS: each row of YtglclijalehcmaaDoorRows.lean that lists a variable, with what it lists TIED to the program's text (the seventh form; the later family's looks); each row that meets fmt, with fmt's text TOLD by the authors' own Lean function (tested against real Go, not proved from fmt's source: count such statements apart). THE CARD IS WHAT COUNTS. Prove the row's statement (the work); the ties are given (YtglclijalehcmaaDoorTie.lean); close each card by the builder's one call (the guide's Derived/Test/ToyasCard.lean, 'card_holds'). Laid BY PROGRAM, IN A SANDBOX (cutbox-door.mjs). By AI agents, Wed Nov 11 2026. No macro, syntax, notation, axiom, sorry.
-/
import Derived.Test.YtglclijalehcmaaDoorRows
import GoSem.ClaimSeven
namespace Go.Proofs.YtglclijalehcmaaDoor
namespace Rows

/-- THE TIED CARD OF 'licitlaw29.CloneFinds'. -/
def cloneFindsCard : Claim7 := { stood := { row := cloneFindsRow, standIns := [], harness := (true, "e9b6772b84fcfd58eae03d542ec174927fe652e10578b7eece3b6ce48100afbd"), looks := false }, kinds := [], alts := [], laidByText := true, laidKinds := [.data, .pinned], laidTests := true, laidLooks := .later }
def CloneFindsCardSaid : Prop := Claim7.holds Tryd.pinned (.plain (OpenSpec.ofChange cloneFindsSpec)) cloneFindsCard

/-- THE TIED CARD OF 'licitlaw29.CloneComplete'. -/
def cloneCompleteCard : Claim7 := { stood := { row := cloneCompleteRow, standIns := [], harness := (true, "e9b6772b84fcfd58eae03d542ec174927fe652e10578b7eece3b6ce48100afbd"), looks := false }, kinds := [], alts := [], laidByText := true, laidKinds := [.data, .pinned], laidTests := true, laidLooks := .later }
def CloneCompleteCardSaid : Prop := Claim7.holds Tryd.pinned (.plain (OpenSpec.ofChange cloneCompleteSpec)) cloneCompleteCard

/-- THE TIED CARD OF 'licitlaw29.CloneSound'. -/
def cloneSoundCard : Claim7 := { stood := { row := cloneSoundRow, standIns := [], harness := (true, "e9b6772b84fcfd58eae03d542ec174927fe652e10578b7eece3b6ce48100afbd"), looks := false }, kinds := [], alts := [], laidByText := true, laidKinds := [.data, .pinned], laidTests := true, laidLooks := .later }
def CloneSoundCardSaid : Prop := Claim7.holds Tryd.pinned (.plain (OpenSpec.ofChange cloneSoundSpec)) cloneSoundCard

/-- THE SECOND FORM's CARD OF 'licitlaw29.CloneFinds'. -/
def cloneFindsUptoCard : Claim7 := { stood := { row := cloneFindsUptoRow, standIns := [], harness := (true, "e9b6772b84fcfd58eae03d542ec174927fe652e10578b7eece3b6ce48100afbd"), looks := false }, kinds := [], alts := [], laidByText := true, laidKinds := [.data, .pinned], laidTests := true, laidLooks := .later }
def CloneFindsUptoCardSaid : Prop := Claim7.holds Tryd.pinned (.plain (OpenSpec.upto cloneFindsSpec)) cloneFindsUptoCard

/-- THE SECOND FORM's CARD OF 'licitlaw29.CloneComplete'. -/
def cloneCompleteUptoCard : Claim7 := { stood := { row := cloneCompleteUptoRow, standIns := [], harness := (true, "e9b6772b84fcfd58eae03d542ec174927fe652e10578b7eece3b6ce48100afbd"), looks := false }, kinds := [], alts := [], laidByText := true, laidKinds := [.data, .pinned], laidTests := true, laidLooks := .later }
def CloneCompleteUptoCardSaid : Prop := Claim7.holds Tryd.pinned (.plain (OpenSpec.upto cloneCompleteSpec)) cloneCompleteUptoCard

/-- THE SECOND FORM's CARD OF 'licitlaw29.CloneSound'. -/
def cloneSoundUptoCard : Claim7 := { stood := { row := cloneSoundUptoRow, standIns := [], harness := (true, "e9b6772b84fcfd58eae03d542ec174927fe652e10578b7eece3b6ce48100afbd"), looks := false }, kinds := [], alts := [], laidByText := true, laidKinds := [.data, .pinned], laidTests := true, laidLooks := .later }
def CloneSoundUptoCardSaid : Prop := Claim7.holds Tryd.pinned (.plain (OpenSpec.upto cloneSoundSpec)) cloneSoundUptoCard
end Rows
end Go.Proofs.YtglclijalehcmaaDoor
