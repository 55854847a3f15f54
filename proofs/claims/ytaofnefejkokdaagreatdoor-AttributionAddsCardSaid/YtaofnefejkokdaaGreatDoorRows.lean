/-
  NARROWER THAN 'FOR EVERY INPUT', by the rows' own cells (each row's printed sentence says how): AttributionOf: laid · AttributionMains: laid · AttributionBest: laid · AttributionAssembled: laid · AttributionChecks: laid · AttributionKnown: laid · AttributionAdds: laid.
  DERIVED. THE GIVEN ROWS OF THIS SEAT. 7 by the template 'for every input the law returns true; each argument reads behind the call as it read before'; 0 by the template 'total and deterministic' (their statements: YtaofnefejkokdaaGreatDoorTotals.lean).
  GIVEN WITH THE SEED: the statements are not yours to turn. If you find one false, say at which input.
  Laid BY PROGRAM, IN A SANDBOX (cutbox-rows.mjs): the forced cells as the released guide's own fill.sh prints them over the translation b13e644dde86bd3f… (all of the seat's roots in one cut). By AI agents, Wed Nov 11 2026. No macro, syntax, notation, axiom, sorry.
-/
import Derived.Test.YtaofnefejkokdaaGreatDoorChecked
import GoSem.PinnedTables
import GoSem.Claim
import GoSem.ClaimJoined
import GoSem.ClaimMapViews
import Derived.JoinedTies
import Derived.KernelRfl
namespace Go.Proofs.YtaofnefejkokdaaGreatDoor
/- THE CELL 'sum', in the pinned program and in every row, IS THE sha256 OF THE DUMP (.gsa) THAT YtaofnefejkokdaaGreatDoorProg.lean LOADS. Nothing in Lean hashes anything: it is a label: what it is worth is what the hold of that sum in a sandbox is worth. -/
noncomputable def Tryz.pinned : Pinned := { name := "ytaofnefejkokdaagreatdoor", sum := "b13e644dde86bd3fef49ed1976d0126793b892df27916f42e35489200b7dafbd", checked := Tryz.checked }
namespace Rows
def none {H : Type} : Left H := { results := [], args := [] }

/- WHAT THE LISTED PACKAGE-LEVEL VARIABLES READ AS WHEN THE CALL BEGINS. Each datum BY PROGRAM (the guide's laid-datum.mjs) off the statement by which the dump's own 'gosem.cut.vars' lays the variable. In a bare row this is a premise. The card (YtaofnefejkokdaaGreatDoorCards.lean) ties it to the program's text. -/
def laid_unicode_utf8_acceptRanges {H : Type} : DataW H := .agg [.agg [.lit (.int .u8 128), .lit (.int .u8 191)], .agg [.lit (.int .u8 160), .lit (.int .u8 191)], .agg [.lit (.int .u8 128), .lit (.int .u8 159)], .agg [.lit (.int .u8 144), .lit (.int .u8 191)], .agg [.lit (.int .u8 128), .lit (.int .u8 143)], .agg [.lit (.int .u8 0), .lit (.int .u8 0)], .agg [.lit (.int .u8 0), .lit (.int .u8 0)], .agg [.lit (.int .u8 0), .lit (.int .u8 0)], .agg [.lit (.int .u8 0), .lit (.int .u8 0)], .agg [.lit (.int .u8 0), .lit (.int .u8 0)], .agg [.lit (.int .u8 0), .lit (.int .u8 0)], .agg [.lit (.int .u8 0), .lit (.int .u8 0)], .agg [.lit (.int .u8 0), .lit (.int .u8 0)], .agg [.lit (.int .u8 0), .lit (.int .u8 0)], .agg [.lit (.int .u8 0), .lit (.int .u8 0)], .agg [.lit (.int .u8 0), .lit (.int .u8 0)]]
/-- One of Go's own tables, pinned by name: the form's constant. -/
def laid_unicode_utf8_first : DataW Unit := Go.Pinned.utf8First

/-- 'licitlaw30.AttributionOf': WHATEVER THE INPUT: true; the input reads as it did. -/
def attributionOfSpec : ChangeSpec := { name := "attributionOf", fn := fun _ => fun
  | [d1, d2, d3] => { results := [.lit (.bool true)], args := [d1, d2, d3] }
  | _ => none }
def attributionOfRow : OpenClaim := { program := "ytaofnefejkokdaagreatdoor", sum := "b13e644dde86bd3fef49ed1976d0126793b892df27916f42e35489200b7dafbd", func := "licit/licitlaw30.AttributionOf", spec := "attributionOf", inPlace := ["internal/bytealg.CountString", "internal/bytealg.IndexByteString", "internal/bytealg.IndexString", "internal/bytealg.abigen_runtime_cmpstring"], unfollowed := true, recurses := true, named := ["unicode/utf8.first", "unicode/utf8.acceptRanges", "internal/bytealg.MaxLen"], apart := false, laid := [("unicode/utf8.acceptRanges", laid_unicode_utf8_acceptRanges), ("unicode/utf8.first", laid_unicode_utf8_first)] }
def AttributionOfSaid : Prop := attributionOfRow.holds Tryz.pinned (OpenSpec.ofChange attributionOfSpec)

/-- ITS FALSE NEIGHBOUR: 'it returns false'. Refute it at one input. -/
def attributionOfWrong : ChangeSpec := { name := "attributionOf", fn := fun _ => fun
  | [d1, d2, d3] => { results := [.lit (.bool false)], args := [d1, d2, d3] }
  | _ => none }
def AttributionOfWrongFalsely : Prop := attributionOfRow.holds Tryz.pinned (OpenSpec.ofChange attributionOfWrong)

/-- 'licitlaw30.AttributionMains': WHATEVER THE INPUT: true; the input reads as it did. -/
def attributionMainsSpec : ChangeSpec := { name := "attributionMains", fn := fun _ => fun
  | [d1, d2, d3, d4] => { results := [.lit (.bool true)], args := [d1, d2, d3, d4] }
  | _ => none }
def attributionMainsRow : OpenClaim := { program := "ytaofnefejkokdaagreatdoor", sum := "b13e644dde86bd3fef49ed1976d0126793b892df27916f42e35489200b7dafbd", func := "licit/licitlaw30.AttributionMains", spec := "attributionMains", inPlace := ["internal/bytealg.CountString", "internal/bytealg.IndexByteString", "internal/bytealg.IndexString", "internal/bytealg.abigen_runtime_cmpstring"], unfollowed := true, recurses := true, named := ["unicode/utf8.first", "unicode/utf8.acceptRanges", "internal/bytealg.MaxLen"], apart := false, laid := [("unicode/utf8.acceptRanges", laid_unicode_utf8_acceptRanges), ("unicode/utf8.first", laid_unicode_utf8_first)] }
def AttributionMainsSaid : Prop := attributionMainsRow.holds Tryz.pinned (OpenSpec.ofChange attributionMainsSpec)

/-- ITS FALSE NEIGHBOUR: 'it returns false'. Refute it at one input. -/
def attributionMainsWrong : ChangeSpec := { name := "attributionMains", fn := fun _ => fun
  | [d1, d2, d3, d4] => { results := [.lit (.bool false)], args := [d1, d2, d3, d4] }
  | _ => none }
def AttributionMainsWrongFalsely : Prop := attributionMainsRow.holds Tryz.pinned (OpenSpec.ofChange attributionMainsWrong)

/-- 'licitlaw30.AttributionBest': WHATEVER THE INPUT: true; the input reads as it did. -/
def attributionBestSpec : ChangeSpec := { name := "attributionBest", fn := fun _ => fun
  | [d1, d2, d3, d4] => { results := [.lit (.bool true)], args := [d1, d2, d3, d4] }
  | _ => none }
def attributionBestRow : OpenClaim := { program := "ytaofnefejkokdaagreatdoor", sum := "b13e644dde86bd3fef49ed1976d0126793b892df27916f42e35489200b7dafbd", func := "licit/licitlaw30.AttributionBest", spec := "attributionBest", inPlace := ["internal/bytealg.CountString", "internal/bytealg.IndexByteString", "internal/bytealg.IndexString", "internal/bytealg.abigen_runtime_cmpstring"], unfollowed := true, recurses := true, named := ["unicode/utf8.first", "unicode/utf8.acceptRanges", "internal/bytealg.MaxLen"], apart := false, laid := [("unicode/utf8.acceptRanges", laid_unicode_utf8_acceptRanges), ("unicode/utf8.first", laid_unicode_utf8_first)] }
def AttributionBestSaid : Prop := attributionBestRow.holds Tryz.pinned (OpenSpec.ofChange attributionBestSpec)

/-- ITS FALSE NEIGHBOUR: 'it returns false'. Refute it at one input. -/
def attributionBestWrong : ChangeSpec := { name := "attributionBest", fn := fun _ => fun
  | [d1, d2, d3, d4] => { results := [.lit (.bool false)], args := [d1, d2, d3, d4] }
  | _ => none }
def AttributionBestWrongFalsely : Prop := attributionBestRow.holds Tryz.pinned (OpenSpec.ofChange attributionBestWrong)

/-- 'licitlaw30.AttributionAssembled': WHATEVER THE INPUT: true; the input reads as it did. -/
def attributionAssembledSpec : ChangeSpec := { name := "attributionAssembled", fn := fun _ => fun
  | [d1, d2, d3] => { results := [.lit (.bool true)], args := [d1, d2, d3] }
  | _ => none }
def attributionAssembledRow : OpenClaim := { program := "ytaofnefejkokdaagreatdoor", sum := "b13e644dde86bd3fef49ed1976d0126793b892df27916f42e35489200b7dafbd", func := "licit/licitlaw30.AttributionAssembled", spec := "attributionAssembled", inPlace := ["internal/bytealg.CountString", "internal/bytealg.IndexByteString", "internal/bytealg.IndexString", "internal/bytealg.abigen_runtime_cmpstring"], unfollowed := true, recurses := true, named := ["unicode/utf8.first", "unicode/utf8.acceptRanges", "internal/bytealg.MaxLen"], apart := false, laid := [("unicode/utf8.acceptRanges", laid_unicode_utf8_acceptRanges), ("unicode/utf8.first", laid_unicode_utf8_first)] }
def AttributionAssembledSaid : Prop := attributionAssembledRow.holds Tryz.pinned (OpenSpec.ofChange attributionAssembledSpec)

/-- ITS FALSE NEIGHBOUR: 'it returns false'. Refute it at one input. -/
def attributionAssembledWrong : ChangeSpec := { name := "attributionAssembled", fn := fun _ => fun
  | [d1, d2, d3] => { results := [.lit (.bool false)], args := [d1, d2, d3] }
  | _ => none }
def AttributionAssembledWrongFalsely : Prop := attributionAssembledRow.holds Tryz.pinned (OpenSpec.ofChange attributionAssembledWrong)

/-- 'licitlaw30.AttributionChecks': WHATEVER THE INPUT: true; the input reads as it did. -/
def attributionChecksSpec : ChangeSpec := { name := "attributionChecks", fn := fun _ => fun
  | [d1, d2, d3, d4] => { results := [.lit (.bool true)], args := [d1, d2, d3, d4] }
  | _ => none }
def attributionChecksRow : OpenClaim := { program := "ytaofnefejkokdaagreatdoor", sum := "b13e644dde86bd3fef49ed1976d0126793b892df27916f42e35489200b7dafbd", func := "licit/licitlaw30.AttributionChecks", spec := "attributionChecks", inPlace := ["internal/bytealg.CountString", "internal/bytealg.IndexByteString", "internal/bytealg.IndexString", "internal/bytealg.abigen_runtime_cmpstring"], unfollowed := true, recurses := true, named := ["unicode/utf8.first", "unicode/utf8.acceptRanges", "internal/bytealg.MaxLen"], apart := false, laid := [("unicode/utf8.acceptRanges", laid_unicode_utf8_acceptRanges), ("unicode/utf8.first", laid_unicode_utf8_first)] }
def AttributionChecksSaid : Prop := attributionChecksRow.holds Tryz.pinned (OpenSpec.ofChange attributionChecksSpec)

/-- ITS FALSE NEIGHBOUR: 'it returns false'. Refute it at one input. -/
def attributionChecksWrong : ChangeSpec := { name := "attributionChecks", fn := fun _ => fun
  | [d1, d2, d3, d4] => { results := [.lit (.bool false)], args := [d1, d2, d3, d4] }
  | _ => none }
def AttributionChecksWrongFalsely : Prop := attributionChecksRow.holds Tryz.pinned (OpenSpec.ofChange attributionChecksWrong)

/-- 'licitlaw30.AttributionKnown': WHATEVER THE INPUT: true; the input reads as it did. -/
def attributionKnownSpec : ChangeSpec := { name := "attributionKnown", fn := fun _ => fun
  | [d1, d2] => { results := [.lit (.bool true)], args := [d1, d2] }
  | _ => none }
def attributionKnownRow : OpenClaim := { program := "ytaofnefejkokdaagreatdoor", sum := "b13e644dde86bd3fef49ed1976d0126793b892df27916f42e35489200b7dafbd", func := "licit/licitlaw30.AttributionKnown", spec := "attributionKnown", inPlace := ["internal/bytealg.CountString", "internal/bytealg.IndexByteString", "internal/bytealg.IndexString", "internal/bytealg.abigen_runtime_cmpstring"], unfollowed := true, recurses := true, named := ["unicode/utf8.first", "unicode/utf8.acceptRanges", "internal/bytealg.MaxLen"], apart := false, laid := [("unicode/utf8.acceptRanges", laid_unicode_utf8_acceptRanges), ("unicode/utf8.first", laid_unicode_utf8_first)] }
def AttributionKnownSaid : Prop := attributionKnownRow.holds Tryz.pinned (OpenSpec.ofChange attributionKnownSpec)

/-- ITS FALSE NEIGHBOUR: 'it returns false'. Refute it at one input. -/
def attributionKnownWrong : ChangeSpec := { name := "attributionKnown", fn := fun _ => fun
  | [d1, d2] => { results := [.lit (.bool false)], args := [d1, d2] }
  | _ => none }
def AttributionKnownWrongFalsely : Prop := attributionKnownRow.holds Tryz.pinned (OpenSpec.ofChange attributionKnownWrong)

/-- 'licitlaw30.AttributionAdds': WHATEVER THE INPUT: true; the input reads as it did. -/
def attributionAddsSpec : ChangeSpec := { name := "attributionAdds", fn := fun _ => fun
  | [d1, d2, d3, d4] => { results := [.lit (.bool true)], args := [d1, d2, d3, d4] }
  | _ => none }
def attributionAddsRow : OpenClaim := { program := "ytaofnefejkokdaagreatdoor", sum := "b13e644dde86bd3fef49ed1976d0126793b892df27916f42e35489200b7dafbd", func := "licit/licitlaw30.AttributionAdds", spec := "attributionAdds", inPlace := ["internal/bytealg.CountString", "internal/bytealg.IndexByteString", "internal/bytealg.IndexString", "internal/bytealg.abigen_runtime_cmpstring"], unfollowed := true, recurses := true, named := ["unicode/utf8.first", "unicode/utf8.acceptRanges", "internal/bytealg.MaxLen"], apart := false, laid := [("unicode/utf8.acceptRanges", laid_unicode_utf8_acceptRanges), ("unicode/utf8.first", laid_unicode_utf8_first)] }
def AttributionAddsSaid : Prop := attributionAddsRow.holds Tryz.pinned (OpenSpec.ofChange attributionAddsSpec)

/-- ITS FALSE NEIGHBOUR: 'it returns false'. Refute it at one input. -/
def attributionAddsWrong : ChangeSpec := { name := "attributionAdds", fn := fun _ => fun
  | [d1, d2, d3, d4] => { results := [.lit (.bool false)], args := [d1, d2, d3, d4] }
  | _ => none }
def AttributionAddsWrongFalsely : Prop := attributionAddsRow.holds Tryz.pinned (OpenSpec.ofChange attributionAddsWrong)

/- THE SECOND FORM. 'bulk': how many values and letters a reading holds, each counted each time it is reached (what is shared counts as often as it is met; a slice's spare places count too). A statement '..UptoSaid' is the law's where the arguments, and the package variables that the reading takes, are together of bulk at most 1048576: NARROWER than '..Said'. Prove '..Said' where nothing that the law and all that it calls make is longer than what came in: it says more and counts as full. Else prove '..UptoSaid'. A law counts once. -/
mutual
def uptoBulk {H : Type} : DataW H → Nat
  | .lit (.string bytes) => bytes.length + 1
  | .lit _ => 1
  | .nil => 1
  | .ptr d => uptoBulk d + 1
  | .slice elems spare => uptoBulkAll elems + uptoBulkAll spare + 1
  | .agg parts => uptoBulkAll parts + 1
  | .iface _ d => uptoBulk d + 1
  | .map entries => uptoBulkEntries entries + 1
  | .held _ => 1
def uptoBulkAll {H : Type} : List (DataW H) → Nat
  | [] => 0
  | d :: r => uptoBulk d + uptoBulkAll r
def uptoBulkEntries {H : Type} : List (Lit × DataW H) → Nat
  | [] => 0
  | x :: r => uptoBulkEntry x + uptoBulkEntries r
def uptoBulkEntry {H : Type} : Lit × DataW H → Nat
  | (.string bytes, d) => bytes.length + uptoBulk d + 1
  | (_, d) => uptoBulk d + 1
 end
def uptoSmall : (H : Type) → List (DataW H) → Bool := fun _ ds => decide (uptoBulkAll ds ≤ 1048576)
def OpenSpec.upto (s : _root_.Go.ChangeSpec) : _root_.Go.OpenSpec := { _root_.Go.OpenSpec.ofChange s with cond := some uptoSmall }

/-- 'licitlaw30.AttributionOf', WHERE WHAT IT READS IS OF BULK AT MOST 1048576: true; the input reads as it did. -/
def attributionOfUptoRow : OpenClaim := { program := "ytaofnefejkokdaagreatdoor", sum := "b13e644dde86bd3fef49ed1976d0126793b892df27916f42e35489200b7dafbd", func := "licit/licitlaw30.AttributionOf", spec := "attributionOf", inPlace := ["internal/bytealg.CountString", "internal/bytealg.IndexByteString", "internal/bytealg.IndexString", "internal/bytealg.abigen_runtime_cmpstring"], unfollowed := true, recurses := true, named := ["unicode/utf8.first", "unicode/utf8.acceptRanges", "internal/bytealg.MaxLen"], apart := false, laid := [("unicode/utf8.acceptRanges", laid_unicode_utf8_acceptRanges), ("unicode/utf8.first", laid_unicode_utf8_first)], narrowed := true }
def AttributionOfUptoSaid : Prop := attributionOfUptoRow.holds Tryz.pinned (OpenSpec.upto attributionOfSpec)

/-- 'licitlaw30.AttributionMains', WHERE WHAT IT READS IS OF BULK AT MOST 1048576: true; the input reads as it did. -/
def attributionMainsUptoRow : OpenClaim := { program := "ytaofnefejkokdaagreatdoor", sum := "b13e644dde86bd3fef49ed1976d0126793b892df27916f42e35489200b7dafbd", func := "licit/licitlaw30.AttributionMains", spec := "attributionMains", inPlace := ["internal/bytealg.CountString", "internal/bytealg.IndexByteString", "internal/bytealg.IndexString", "internal/bytealg.abigen_runtime_cmpstring"], unfollowed := true, recurses := true, named := ["unicode/utf8.first", "unicode/utf8.acceptRanges", "internal/bytealg.MaxLen"], apart := false, laid := [("unicode/utf8.acceptRanges", laid_unicode_utf8_acceptRanges), ("unicode/utf8.first", laid_unicode_utf8_first)], narrowed := true }
def AttributionMainsUptoSaid : Prop := attributionMainsUptoRow.holds Tryz.pinned (OpenSpec.upto attributionMainsSpec)

/-- 'licitlaw30.AttributionBest', WHERE WHAT IT READS IS OF BULK AT MOST 1048576: true; the input reads as it did. -/
def attributionBestUptoRow : OpenClaim := { program := "ytaofnefejkokdaagreatdoor", sum := "b13e644dde86bd3fef49ed1976d0126793b892df27916f42e35489200b7dafbd", func := "licit/licitlaw30.AttributionBest", spec := "attributionBest", inPlace := ["internal/bytealg.CountString", "internal/bytealg.IndexByteString", "internal/bytealg.IndexString", "internal/bytealg.abigen_runtime_cmpstring"], unfollowed := true, recurses := true, named := ["unicode/utf8.first", "unicode/utf8.acceptRanges", "internal/bytealg.MaxLen"], apart := false, laid := [("unicode/utf8.acceptRanges", laid_unicode_utf8_acceptRanges), ("unicode/utf8.first", laid_unicode_utf8_first)], narrowed := true }
def AttributionBestUptoSaid : Prop := attributionBestUptoRow.holds Tryz.pinned (OpenSpec.upto attributionBestSpec)

/-- 'licitlaw30.AttributionAssembled', WHERE WHAT IT READS IS OF BULK AT MOST 1048576: true; the input reads as it did. -/
def attributionAssembledUptoRow : OpenClaim := { program := "ytaofnefejkokdaagreatdoor", sum := "b13e644dde86bd3fef49ed1976d0126793b892df27916f42e35489200b7dafbd", func := "licit/licitlaw30.AttributionAssembled", spec := "attributionAssembled", inPlace := ["internal/bytealg.CountString", "internal/bytealg.IndexByteString", "internal/bytealg.IndexString", "internal/bytealg.abigen_runtime_cmpstring"], unfollowed := true, recurses := true, named := ["unicode/utf8.first", "unicode/utf8.acceptRanges", "internal/bytealg.MaxLen"], apart := false, laid := [("unicode/utf8.acceptRanges", laid_unicode_utf8_acceptRanges), ("unicode/utf8.first", laid_unicode_utf8_first)], narrowed := true }
def AttributionAssembledUptoSaid : Prop := attributionAssembledUptoRow.holds Tryz.pinned (OpenSpec.upto attributionAssembledSpec)

/-- 'licitlaw30.AttributionChecks', WHERE WHAT IT READS IS OF BULK AT MOST 1048576: true; the input reads as it did. -/
def attributionChecksUptoRow : OpenClaim := { program := "ytaofnefejkokdaagreatdoor", sum := "b13e644dde86bd3fef49ed1976d0126793b892df27916f42e35489200b7dafbd", func := "licit/licitlaw30.AttributionChecks", spec := "attributionChecks", inPlace := ["internal/bytealg.CountString", "internal/bytealg.IndexByteString", "internal/bytealg.IndexString", "internal/bytealg.abigen_runtime_cmpstring"], unfollowed := true, recurses := true, named := ["unicode/utf8.first", "unicode/utf8.acceptRanges", "internal/bytealg.MaxLen"], apart := false, laid := [("unicode/utf8.acceptRanges", laid_unicode_utf8_acceptRanges), ("unicode/utf8.first", laid_unicode_utf8_first)], narrowed := true }
def AttributionChecksUptoSaid : Prop := attributionChecksUptoRow.holds Tryz.pinned (OpenSpec.upto attributionChecksSpec)

/-- 'licitlaw30.AttributionKnown', WHERE WHAT IT READS IS OF BULK AT MOST 1048576: true; the input reads as it did. -/
def attributionKnownUptoRow : OpenClaim := { program := "ytaofnefejkokdaagreatdoor", sum := "b13e644dde86bd3fef49ed1976d0126793b892df27916f42e35489200b7dafbd", func := "licit/licitlaw30.AttributionKnown", spec := "attributionKnown", inPlace := ["internal/bytealg.CountString", "internal/bytealg.IndexByteString", "internal/bytealg.IndexString", "internal/bytealg.abigen_runtime_cmpstring"], unfollowed := true, recurses := true, named := ["unicode/utf8.first", "unicode/utf8.acceptRanges", "internal/bytealg.MaxLen"], apart := false, laid := [("unicode/utf8.acceptRanges", laid_unicode_utf8_acceptRanges), ("unicode/utf8.first", laid_unicode_utf8_first)], narrowed := true }
def AttributionKnownUptoSaid : Prop := attributionKnownUptoRow.holds Tryz.pinned (OpenSpec.upto attributionKnownSpec)

/-- 'licitlaw30.AttributionAdds', WHERE WHAT IT READS IS OF BULK AT MOST 1048576: true; the input reads as it did. -/
def attributionAddsUptoRow : OpenClaim := { program := "ytaofnefejkokdaagreatdoor", sum := "b13e644dde86bd3fef49ed1976d0126793b892df27916f42e35489200b7dafbd", func := "licit/licitlaw30.AttributionAdds", spec := "attributionAdds", inPlace := ["internal/bytealg.CountString", "internal/bytealg.IndexByteString", "internal/bytealg.IndexString", "internal/bytealg.abigen_runtime_cmpstring"], unfollowed := true, recurses := true, named := ["unicode/utf8.first", "unicode/utf8.acceptRanges", "internal/bytealg.MaxLen"], apart := false, laid := [("unicode/utf8.acceptRanges", laid_unicode_utf8_acceptRanges), ("unicode/utf8.first", laid_unicode_utf8_first)], narrowed := true }
def AttributionAddsUptoSaid : Prop := attributionAddsUptoRow.holds Tryz.pinned (OpenSpec.upto attributionAddsSpec)

end Rows
end Go.Proofs.YtaofnefejkokdaaGreatDoor
