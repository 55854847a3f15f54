/-
  DERIVED. GIVEN WITH THE SEED: THE CARDS: each row of YtnnbgemjkhgldaaDoorRows.lean that lists a variable, with what it lists TIED to the program's text (the seventh form; the later family's looks); each row that meets fmt, with fmt's text TOLD by the authors' own Lean function (tested against real Go, not proved from fmt's source: count such statements apart). THE CARD IS WHAT COUNTS. Prove the row's statement (the work); the ties are given (YtnnbgemjkhgldaaDoorTie.lean); close each card by the builder's one call (the guide's Derived/Test/ToyasCard.lean, 'card_holds'). Laid BY PROGRAM, IN A SANDBOX (cutbox-door.mjs). By AI agents, Wed Nov 11 2026. No macro, syntax, notation, axiom, sorry.
-/
import Derived.Test.YtnnbgemjkhgldaaDoorRows
import GoSem.ClaimSeven
namespace Go.Proofs.YtnnbgemjkhgldaaDoor
namespace Rows

/-- THE TIED CARD OF 'licitlaw16.LinesetOf'. -/
def linesetOfCard : Claim7 := { stood := { row := linesetOfRow, standIns := [], harness := (true, "5e4b8432b81f4f3b802acefdd13fae5be92e409876d4a58b97aa84afda39d490"), looks := false }, kinds := [], alts := [], laidByText := true, laidKinds := [.data, .data, .data, .data, .pinned], laidTests := true, laidLooks := .later }
def LinesetOfCardSaid : Prop := Claim7.holds Tryd.pinned (.plain (OpenSpec.ofChange linesetOfSpec)) linesetOfCard

/-- THE TIED CARD OF 'licitlaw16.LinesetValid'. -/
def linesetValidCard : Claim7 := { stood := { row := linesetValidRow, standIns := [], harness := (true, "5e4b8432b81f4f3b802acefdd13fae5be92e409876d4a58b97aa84afda39d490"), looks := false }, kinds := [], alts := [], laidByText := true, laidKinds := [.data, .data, .data, .data, .pinned], laidTests := true, laidLooks := .later }
def LinesetValidCardSaid : Prop := Claim7.holds Tryd.pinned (.plain (OpenSpec.ofChange linesetValidSpec)) linesetValidCard

/-- THE TIED CARD OF 'licitlaw16.LinesetPoints'. -/
def linesetPointsCard : Claim7 := { stood := { row := linesetPointsRow, standIns := [], harness := (true, "5e4b8432b81f4f3b802acefdd13fae5be92e409876d4a58b97aa84afda39d490"), looks := false }, kinds := [], alts := [], laidByText := true, laidKinds := [.data, .data, .data, .data, .pinned], laidTests := true, laidLooks := .later }
def LinesetPointsCardSaid : Prop := Claim7.holds Tryd.pinned (.plain (OpenSpec.ofChange linesetPointsSpec)) linesetPointsCard

/-- THE TIED CARD OF 'licitlaw16.LinesetCounts'. -/
def linesetCountsCard : Claim7 := { stood := { row := linesetCountsRow, standIns := [], harness := (true, "5e4b8432b81f4f3b802acefdd13fae5be92e409876d4a58b97aa84afda39d490"), looks := false }, kinds := [], alts := [], laidByText := true, laidKinds := [.data, .data, .data, .data, .pinned], laidTests := true, laidLooks := .later }
def LinesetCountsCardSaid : Prop := Claim7.holds Tryd.pinned (.plain (OpenSpec.ofChange linesetCountsSpec)) linesetCountsCard

/-- THE TIED CARD OF 'licitlaw16.LinesetLaws'. -/
def linesetLawsCard : Claim7 := { stood := { row := linesetLawsRow, standIns := [], harness := (true, "5e4b8432b81f4f3b802acefdd13fae5be92e409876d4a58b97aa84afda39d490"), looks := false }, kinds := [], alts := [], laidByText := true, laidKinds := [.data, .data, .data, .data, .pinned], laidTests := true, laidLooks := .later }
def LinesetLawsCardSaid : Prop := Claim7.holds Tryd.pinned (.plain (OpenSpec.ofChange linesetLawsSpec)) linesetLawsCard

/-- THE SECOND FORM's CARD OF 'licitlaw16.LinesetOf'. -/
def linesetOfUptoCard : Claim7 := { stood := { row := linesetOfUptoRow, standIns := [], harness := (true, "5e4b8432b81f4f3b802acefdd13fae5be92e409876d4a58b97aa84afda39d490"), looks := false }, kinds := [], alts := [], laidByText := true, laidKinds := [.data, .data, .data, .data, .pinned], laidTests := true, laidLooks := .later }
def LinesetOfUptoCardSaid : Prop := Claim7.holds Tryd.pinned (.plain (OpenSpec.upto linesetOfSpec)) linesetOfUptoCard

/-- THE SECOND FORM's CARD OF 'licitlaw16.LinesetValid'. -/
def linesetValidUptoCard : Claim7 := { stood := { row := linesetValidUptoRow, standIns := [], harness := (true, "5e4b8432b81f4f3b802acefdd13fae5be92e409876d4a58b97aa84afda39d490"), looks := false }, kinds := [], alts := [], laidByText := true, laidKinds := [.data, .data, .data, .data, .pinned], laidTests := true, laidLooks := .later }
def LinesetValidUptoCardSaid : Prop := Claim7.holds Tryd.pinned (.plain (OpenSpec.upto linesetValidSpec)) linesetValidUptoCard

/-- THE SECOND FORM's CARD OF 'licitlaw16.LinesetPoints'. -/
def linesetPointsUptoCard : Claim7 := { stood := { row := linesetPointsUptoRow, standIns := [], harness := (true, "5e4b8432b81f4f3b802acefdd13fae5be92e409876d4a58b97aa84afda39d490"), looks := false }, kinds := [], alts := [], laidByText := true, laidKinds := [.data, .data, .data, .data, .pinned], laidTests := true, laidLooks := .later }
def LinesetPointsUptoCardSaid : Prop := Claim7.holds Tryd.pinned (.plain (OpenSpec.upto linesetPointsSpec)) linesetPointsUptoCard

/-- THE SECOND FORM's CARD OF 'licitlaw16.LinesetCounts'. -/
def linesetCountsUptoCard : Claim7 := { stood := { row := linesetCountsUptoRow, standIns := [], harness := (true, "5e4b8432b81f4f3b802acefdd13fae5be92e409876d4a58b97aa84afda39d490"), looks := false }, kinds := [], alts := [], laidByText := true, laidKinds := [.data, .data, .data, .data, .pinned], laidTests := true, laidLooks := .later }
def LinesetCountsUptoCardSaid : Prop := Claim7.holds Tryd.pinned (.plain (OpenSpec.upto linesetCountsSpec)) linesetCountsUptoCard

/-- THE SECOND FORM's CARD OF 'licitlaw16.LinesetLaws'. -/
def linesetLawsUptoCard : Claim7 := { stood := { row := linesetLawsUptoRow, standIns := [], harness := (true, "5e4b8432b81f4f3b802acefdd13fae5be92e409876d4a58b97aa84afda39d490"), looks := false }, kinds := [], alts := [], laidByText := true, laidKinds := [.data, .data, .data, .data, .pinned], laidTests := true, laidLooks := .later }
def LinesetLawsUptoCardSaid : Prop := Claim7.holds Tryd.pinned (.plain (OpenSpec.upto linesetLawsSpec)) linesetLawsUptoCard
end Rows
end Go.Proofs.YtnnbgemjkhgldaaDoor
