/-
  DERIVED. GIVEN WITH THE SEED: THE CARDS: each row of YtaofnefejkokdaaGreatDoorRows.lean that lists a variable, with what it lists TIED to the program's text (the seventh form; the later family's looks); each row that meets fmt, with fmt's text TOLD by the authors' own Lean function (tested against real Go, not proved from fmt's source: count such statements apart). THE CARD IS WHAT COUNTS. Prove the row's statement (the work); the ties are given (YtaofnefejkokdaaGreatDoorTie.lean); close each card by the builder's one call (the guide's Derived/Test/ToyasCard.lean, 'card_holds'). Laid BY PROGRAM, IN A SANDBOX (cutbox-door.mjs). By AI agents, Wed Nov 11 2026. No macro, syntax, notation, axiom, sorry.
-/
import Derived.Test.YtaofnefejkokdaaGreatDoorRows
import GoSem.ClaimSeven
namespace Go.Proofs.YtaofnefejkokdaaGreatDoor
namespace Rows

/-- THE TIED CARD OF 'licitlaw30.AttributionOf'. -/
def attributionOfCard : Claim7 := { stood := { row := attributionOfRow, standIns := [], harness := (true, "56cade6e149a0414b0b2f2f5b486bac0e1dd1ccecdcfc4d6db0f68fbf4f105ab"), looks := false }, kinds := [], alts := [], laidByText := true, laidKinds := [.data, .pinned], laidTests := true, laidLooks := .later }
def AttributionOfCardSaid : Prop := Claim7.holds Tryz.pinned (.plain (OpenSpec.ofChange attributionOfSpec)) attributionOfCard

/-- THE TIED CARD OF 'licitlaw30.AttributionMains'. -/
def attributionMainsCard : Claim7 := { stood := { row := attributionMainsRow, standIns := [], harness := (true, "56cade6e149a0414b0b2f2f5b486bac0e1dd1ccecdcfc4d6db0f68fbf4f105ab"), looks := false }, kinds := [], alts := [], laidByText := true, laidKinds := [.data, .pinned], laidTests := true, laidLooks := .later }
def AttributionMainsCardSaid : Prop := Claim7.holds Tryz.pinned (.plain (OpenSpec.ofChange attributionMainsSpec)) attributionMainsCard

/-- THE TIED CARD OF 'licitlaw30.AttributionBest'. -/
def attributionBestCard : Claim7 := { stood := { row := attributionBestRow, standIns := [], harness := (true, "56cade6e149a0414b0b2f2f5b486bac0e1dd1ccecdcfc4d6db0f68fbf4f105ab"), looks := false }, kinds := [], alts := [], laidByText := true, laidKinds := [.data, .pinned], laidTests := true, laidLooks := .later }
def AttributionBestCardSaid : Prop := Claim7.holds Tryz.pinned (.plain (OpenSpec.ofChange attributionBestSpec)) attributionBestCard

/-- THE TIED CARD OF 'licitlaw30.AttributionAssembled'. -/
def attributionAssembledCard : Claim7 := { stood := { row := attributionAssembledRow, standIns := [], harness := (true, "56cade6e149a0414b0b2f2f5b486bac0e1dd1ccecdcfc4d6db0f68fbf4f105ab"), looks := false }, kinds := [], alts := [], laidByText := true, laidKinds := [.data, .pinned], laidTests := true, laidLooks := .later }
def AttributionAssembledCardSaid : Prop := Claim7.holds Tryz.pinned (.plain (OpenSpec.ofChange attributionAssembledSpec)) attributionAssembledCard

/-- THE TIED CARD OF 'licitlaw30.AttributionChecks'. -/
def attributionChecksCard : Claim7 := { stood := { row := attributionChecksRow, standIns := [], harness := (true, "56cade6e149a0414b0b2f2f5b486bac0e1dd1ccecdcfc4d6db0f68fbf4f105ab"), looks := false }, kinds := [], alts := [], laidByText := true, laidKinds := [.data, .pinned], laidTests := true, laidLooks := .later }
def AttributionChecksCardSaid : Prop := Claim7.holds Tryz.pinned (.plain (OpenSpec.ofChange attributionChecksSpec)) attributionChecksCard

/-- THE TIED CARD OF 'licitlaw30.AttributionKnown'. -/
def attributionKnownCard : Claim7 := { stood := { row := attributionKnownRow, standIns := [], harness := (true, "56cade6e149a0414b0b2f2f5b486bac0e1dd1ccecdcfc4d6db0f68fbf4f105ab"), looks := false }, kinds := [], alts := [], laidByText := true, laidKinds := [.data, .pinned], laidTests := true, laidLooks := .later }
def AttributionKnownCardSaid : Prop := Claim7.holds Tryz.pinned (.plain (OpenSpec.ofChange attributionKnownSpec)) attributionKnownCard

/-- THE TIED CARD OF 'licitlaw30.AttributionAdds'. -/
def attributionAddsCard : Claim7 := { stood := { row := attributionAddsRow, standIns := [], harness := (true, "56cade6e149a0414b0b2f2f5b486bac0e1dd1ccecdcfc4d6db0f68fbf4f105ab"), looks := false }, kinds := [], alts := [], laidByText := true, laidKinds := [.data, .pinned], laidTests := true, laidLooks := .later }
def AttributionAddsCardSaid : Prop := Claim7.holds Tryz.pinned (.plain (OpenSpec.ofChange attributionAddsSpec)) attributionAddsCard

/-- THE SECOND FORM's CARD OF 'licitlaw30.AttributionOf'. -/
def attributionOfUptoCard : Claim7 := { stood := { row := attributionOfUptoRow, standIns := [], harness := (true, "56cade6e149a0414b0b2f2f5b486bac0e1dd1ccecdcfc4d6db0f68fbf4f105ab"), looks := false }, kinds := [], alts := [], laidByText := true, laidKinds := [.data, .pinned], laidTests := true, laidLooks := .later }
def AttributionOfUptoCardSaid : Prop := Claim7.holds Tryz.pinned (.plain (OpenSpec.upto attributionOfSpec)) attributionOfUptoCard

/-- THE SECOND FORM's CARD OF 'licitlaw30.AttributionMains'. -/
def attributionMainsUptoCard : Claim7 := { stood := { row := attributionMainsUptoRow, standIns := [], harness := (true, "56cade6e149a0414b0b2f2f5b486bac0e1dd1ccecdcfc4d6db0f68fbf4f105ab"), looks := false }, kinds := [], alts := [], laidByText := true, laidKinds := [.data, .pinned], laidTests := true, laidLooks := .later }
def AttributionMainsUptoCardSaid : Prop := Claim7.holds Tryz.pinned (.plain (OpenSpec.upto attributionMainsSpec)) attributionMainsUptoCard

/-- THE SECOND FORM's CARD OF 'licitlaw30.AttributionBest'. -/
def attributionBestUptoCard : Claim7 := { stood := { row := attributionBestUptoRow, standIns := [], harness := (true, "56cade6e149a0414b0b2f2f5b486bac0e1dd1ccecdcfc4d6db0f68fbf4f105ab"), looks := false }, kinds := [], alts := [], laidByText := true, laidKinds := [.data, .pinned], laidTests := true, laidLooks := .later }
def AttributionBestUptoCardSaid : Prop := Claim7.holds Tryz.pinned (.plain (OpenSpec.upto attributionBestSpec)) attributionBestUptoCard

/-- THE SECOND FORM's CARD OF 'licitlaw30.AttributionAssembled'. -/
def attributionAssembledUptoCard : Claim7 := { stood := { row := attributionAssembledUptoRow, standIns := [], harness := (true, "56cade6e149a0414b0b2f2f5b486bac0e1dd1ccecdcfc4d6db0f68fbf4f105ab"), looks := false }, kinds := [], alts := [], laidByText := true, laidKinds := [.data, .pinned], laidTests := true, laidLooks := .later }
def AttributionAssembledUptoCardSaid : Prop := Claim7.holds Tryz.pinned (.plain (OpenSpec.upto attributionAssembledSpec)) attributionAssembledUptoCard

/-- THE SECOND FORM's CARD OF 'licitlaw30.AttributionChecks'. -/
def attributionChecksUptoCard : Claim7 := { stood := { row := attributionChecksUptoRow, standIns := [], harness := (true, "56cade6e149a0414b0b2f2f5b486bac0e1dd1ccecdcfc4d6db0f68fbf4f105ab"), looks := false }, kinds := [], alts := [], laidByText := true, laidKinds := [.data, .pinned], laidTests := true, laidLooks := .later }
def AttributionChecksUptoCardSaid : Prop := Claim7.holds Tryz.pinned (.plain (OpenSpec.upto attributionChecksSpec)) attributionChecksUptoCard

/-- THE SECOND FORM's CARD OF 'licitlaw30.AttributionKnown'. -/
def attributionKnownUptoCard : Claim7 := { stood := { row := attributionKnownUptoRow, standIns := [], harness := (true, "56cade6e149a0414b0b2f2f5b486bac0e1dd1ccecdcfc4d6db0f68fbf4f105ab"), looks := false }, kinds := [], alts := [], laidByText := true, laidKinds := [.data, .pinned], laidTests := true, laidLooks := .later }
def AttributionKnownUptoCardSaid : Prop := Claim7.holds Tryz.pinned (.plain (OpenSpec.upto attributionKnownSpec)) attributionKnownUptoCard

/-- THE SECOND FORM's CARD OF 'licitlaw30.AttributionAdds'. -/
def attributionAddsUptoCard : Claim7 := { stood := { row := attributionAddsUptoRow, standIns := [], harness := (true, "56cade6e149a0414b0b2f2f5b486bac0e1dd1ccecdcfc4d6db0f68fbf4f105ab"), looks := false }, kinds := [], alts := [], laidByText := true, laidKinds := [.data, .pinned], laidTests := true, laidLooks := .later }
def AttributionAddsUptoCardSaid : Prop := Claim7.holds Tryz.pinned (.plain (OpenSpec.upto attributionAddsSpec)) attributionAddsUptoCard
end Rows
end Go.Proofs.YtaofnefejkokdaaGreatDoor
