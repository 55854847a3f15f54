/-
  NARROWER THAN 'FOR EVERY INPUT', by the rows' own cells (each row's printed sentence says how): CloneAgainst: laid · CloneKnown: laid · CloneChecks: laid · CloneCovers: laid · CorpusNear: laid.
  DERIVED. THE GIVEN ROWS OF THIS SEAT. 5 by the template 'for every input the law returns true; each argument reads behind the call as it read before'; 0 by the template 'total and deterministic' (their statements: YtglclijalehcmaaGreatDoorTotals.lean).
  GIVEN WITH THE SEED: the statements are not yours to turn. If you find one false, say at which input.
  Laid BY PROGRAM, IN A SANDBOX (cutbox-rows.mjs): the forced cells as the released guide's own fill.sh prints them over the translation 46369de175b1409f… (all of the seat's roots in one cut). By AI agents, Wed Nov 11 2026. No macro, syntax, notation, axiom, sorry.
-/
import Derived.Test.YtglclijalehcmaaGreatDoorChecked
import GoSem.PinnedTables
import GoSem.Claim
import GoSem.ClaimJoined
import GoSem.ClaimMapViews
import Derived.JoinedTies
import Derived.KernelRfl
namespace Go.Proofs.YtglclijalehcmaaGreatDoor
/- THE CELL 'sum', in the pinned program and in every row, IS THE sha256 OF THE DUMP (.gsa) THAT YtglclijalehcmaaGreatDoorProg.lean LOADS. Nothing in Lean hashes anything: it is a label: what it is worth is what the hold of that sum in a sandbox is worth. -/
noncomputable def Tryz.pinned : Pinned := { name := "ytglclijalehcmaagreatdoor", sum := "46369de175b1409f323c4b24f4281c86e4e859d38ce6c33a9477b09bebcf4329", checked := Tryz.checked }
namespace Rows
def none {H : Type} : Left H := { results := [], args := [] }

/- WHAT THE LISTED PACKAGE-LEVEL VARIABLES READ AS WHEN THE CALL BEGINS. Each datum BY PROGRAM (the guide's laid-datum.mjs) off the statement by which the dump's own 'gosem.cut.vars' lays the variable. In a bare row this is a premise. The card (YtglclijalehcmaaGreatDoorCards.lean) ties it to the program's text. -/
def laid_unicode_utf8_acceptRanges {H : Type} : DataW H := .agg [.agg [.lit (.int .u8 128), .lit (.int .u8 191)], .agg [.lit (.int .u8 160), .lit (.int .u8 191)], .agg [.lit (.int .u8 128), .lit (.int .u8 159)], .agg [.lit (.int .u8 144), .lit (.int .u8 191)], .agg [.lit (.int .u8 128), .lit (.int .u8 143)], .agg [.lit (.int .u8 0), .lit (.int .u8 0)], .agg [.lit (.int .u8 0), .lit (.int .u8 0)], .agg [.lit (.int .u8 0), .lit (.int .u8 0)], .agg [.lit (.int .u8 0), .lit (.int .u8 0)], .agg [.lit (.int .u8 0), .lit (.int .u8 0)], .agg [.lit (.int .u8 0), .lit (.int .u8 0)], .agg [.lit (.int .u8 0), .lit (.int .u8 0)], .agg [.lit (.int .u8 0), .lit (.int .u8 0)], .agg [.lit (.int .u8 0), .lit (.int .u8 0)], .agg [.lit (.int .u8 0), .lit (.int .u8 0)], .agg [.lit (.int .u8 0), .lit (.int .u8 0)]]
/-- One of Go's own tables, pinned by name: the form's constant. -/
def laid_unicode_utf8_first : DataW Unit := Go.Pinned.utf8First

/-- 'licitlaw29.CloneAgainst': WHATEVER THE INPUT: true; the input reads as it did. -/
def cloneAgainstSpec : ChangeSpec := { name := "cloneAgainst", fn := fun _ => fun
  | [d1, d2] => { results := [.lit (.bool true)], args := [d1, d2] }
  | _ => none }
def cloneAgainstRow : OpenClaim := { program := "ytglclijalehcmaagreatdoor", sum := "46369de175b1409f323c4b24f4281c86e4e859d38ce6c33a9477b09bebcf4329", func := "licit/licitlaw29.CloneAgainst", spec := "cloneAgainst", inPlace := ["internal/bytealg.CountString", "internal/bytealg.IndexByteString", "internal/bytealg.IndexString"], unfollowed := true, recurses := true, named := ["unicode/utf8.first", "unicode/utf8.acceptRanges", "internal/bytealg.MaxLen"], plainKeys := false, apart := false, laid := [("unicode/utf8.acceptRanges", laid_unicode_utf8_acceptRanges), ("unicode/utf8.first", laid_unicode_utf8_first)] }
def CloneAgainstSaid : Prop := cloneAgainstRow.holds Tryz.pinned (OpenSpec.ofChange cloneAgainstSpec)

/-- ITS FALSE NEIGHBOUR: 'it returns false'. Refute it at one input. -/
def cloneAgainstWrong : ChangeSpec := { name := "cloneAgainst", fn := fun _ => fun
  | [d1, d2] => { results := [.lit (.bool false)], args := [d1, d2] }
  | _ => none }
def CloneAgainstWrongFalsely : Prop := cloneAgainstRow.holds Tryz.pinned (OpenSpec.ofChange cloneAgainstWrong)

/-- 'licitlaw29.CloneKnown': WHATEVER THE INPUT: true; the input reads as it did. -/
def cloneKnownSpec : ChangeSpec := { name := "cloneKnown", fn := fun _ => fun
  | [d1, d2] => { results := [.lit (.bool true)], args := [d1, d2] }
  | _ => none }
def cloneKnownRow : OpenClaim := { program := "ytglclijalehcmaagreatdoor", sum := "46369de175b1409f323c4b24f4281c86e4e859d38ce6c33a9477b09bebcf4329", func := "licit/licitlaw29.CloneKnown", spec := "cloneKnown", inPlace := ["internal/bytealg.CountString", "internal/bytealg.IndexByteString", "internal/bytealg.IndexString"], unfollowed := true, recurses := true, named := ["unicode/utf8.first", "unicode/utf8.acceptRanges", "internal/bytealg.MaxLen"], plainKeys := false, apart := false, laid := [("unicode/utf8.acceptRanges", laid_unicode_utf8_acceptRanges), ("unicode/utf8.first", laid_unicode_utf8_first)] }
def CloneKnownSaid : Prop := cloneKnownRow.holds Tryz.pinned (OpenSpec.ofChange cloneKnownSpec)

/-- ITS FALSE NEIGHBOUR: 'it returns false'. Refute it at one input. -/
def cloneKnownWrong : ChangeSpec := { name := "cloneKnown", fn := fun _ => fun
  | [d1, d2] => { results := [.lit (.bool false)], args := [d1, d2] }
  | _ => none }
def CloneKnownWrongFalsely : Prop := cloneKnownRow.holds Tryz.pinned (OpenSpec.ofChange cloneKnownWrong)

/-- 'licitlaw29.CloneChecks': WHATEVER THE INPUT: true; the input reads as it did. -/
def cloneChecksSpec : ChangeSpec := { name := "cloneChecks", fn := fun _ => fun
  | [d1, d2, d3, d4] => { results := [.lit (.bool true)], args := [d1, d2, d3, d4] }
  | _ => none }
def cloneChecksRow : OpenClaim := { program := "ytglclijalehcmaagreatdoor", sum := "46369de175b1409f323c4b24f4281c86e4e859d38ce6c33a9477b09bebcf4329", func := "licit/licitlaw29.CloneChecks", spec := "cloneChecks", inPlace := ["internal/bytealg.CountString", "internal/bytealg.IndexByteString", "internal/bytealg.IndexString", "internal/bytealg.abigen_runtime_cmpstring"], unfollowed := true, recurses := true, named := ["unicode/utf8.first", "unicode/utf8.acceptRanges", "internal/bytealg.MaxLen"], plainKeys := false, apart := false, laid := [("unicode/utf8.acceptRanges", laid_unicode_utf8_acceptRanges), ("unicode/utf8.first", laid_unicode_utf8_first)] }
def CloneChecksSaid : Prop := cloneChecksRow.holds Tryz.pinned (OpenSpec.ofChange cloneChecksSpec)

/-- ITS FALSE NEIGHBOUR: 'it returns false'. Refute it at one input. -/
def cloneChecksWrong : ChangeSpec := { name := "cloneChecks", fn := fun _ => fun
  | [d1, d2, d3, d4] => { results := [.lit (.bool false)], args := [d1, d2, d3, d4] }
  | _ => none }
def CloneChecksWrongFalsely : Prop := cloneChecksRow.holds Tryz.pinned (OpenSpec.ofChange cloneChecksWrong)

/-- 'licitlaw29.CloneCovers': WHATEVER THE INPUT: true; the input reads as it did. -/
def cloneCoversSpec : ChangeSpec := { name := "cloneCovers", fn := fun _ => fun
  | [d1, d2] => { results := [.lit (.bool true)], args := [d1, d2] }
  | _ => none }
def cloneCoversRow : OpenClaim := { program := "ytglclijalehcmaagreatdoor", sum := "46369de175b1409f323c4b24f4281c86e4e859d38ce6c33a9477b09bebcf4329", func := "licit/licitlaw29.CloneCovers", spec := "cloneCovers", inPlace := ["internal/bytealg.CountString", "internal/bytealg.IndexByteString", "internal/bytealg.IndexString", "internal/bytealg.abigen_runtime_cmpstring"], unfollowed := true, recurses := true, named := ["unicode/utf8.first", "unicode/utf8.acceptRanges", "internal/bytealg.MaxLen"], plainKeys := false, apart := false, laid := [("unicode/utf8.acceptRanges", laid_unicode_utf8_acceptRanges), ("unicode/utf8.first", laid_unicode_utf8_first)] }
def CloneCoversSaid : Prop := cloneCoversRow.holds Tryz.pinned (OpenSpec.ofChange cloneCoversSpec)

/-- ITS FALSE NEIGHBOUR: 'it returns false'. Refute it at one input. -/
def cloneCoversWrong : ChangeSpec := { name := "cloneCovers", fn := fun _ => fun
  | [d1, d2] => { results := [.lit (.bool false)], args := [d1, d2] }
  | _ => none }
def CloneCoversWrongFalsely : Prop := cloneCoversRow.holds Tryz.pinned (OpenSpec.ofChange cloneCoversWrong)

/-- 'licitlaw26.CorpusNear': WHATEVER THE INPUT: true; the input reads as it did. -/
def corpusNearSpec : ChangeSpec := { name := "corpusNear", fn := fun _ => fun
  | [d1, d2] => { results := [.lit (.bool true)], args := [d1, d2] }
  | _ => none }
def corpusNearRow : OpenClaim := { program := "ytglclijalehcmaagreatdoor", sum := "46369de175b1409f323c4b24f4281c86e4e859d38ce6c33a9477b09bebcf4329", func := "licit/licitlaw26.CorpusNear", spec := "corpusNear", inPlace := ["internal/bytealg.CountString", "internal/bytealg.IndexByteString", "internal/bytealg.IndexString", "internal/bytealg.abigen_runtime_cmpstring"], unfollowed := true, recurses := true, named := ["unicode/utf8.first", "unicode/utf8.acceptRanges", "internal/bytealg.MaxLen"], plainKeys := false, apart := false, laid := [("unicode/utf8.acceptRanges", laid_unicode_utf8_acceptRanges), ("unicode/utf8.first", laid_unicode_utf8_first)] }
def CorpusNearSaid : Prop := corpusNearRow.holds Tryz.pinned (OpenSpec.ofChange corpusNearSpec)

/-- ITS FALSE NEIGHBOUR: 'it returns false'. Refute it at one input. -/
def corpusNearWrong : ChangeSpec := { name := "corpusNear", fn := fun _ => fun
  | [d1, d2] => { results := [.lit (.bool false)], args := [d1, d2] }
  | _ => none }
def CorpusNearWrongFalsely : Prop := corpusNearRow.holds Tryz.pinned (OpenSpec.ofChange corpusNearWrong)

/- THE SECOND FORM. 'bulk': how many values and letters a reading holds, each counted each time it is reached (what is shared counts as often as it is met; a slice's spare places count too). A statement '..UptoSaid' is the law's where the arguments, and the package variables that the reading takes, are together of bulk at most 1048576: NARROWER than '..Said'. Prove '..Said' where nothing that the law and all that it calls make is longer than what came in: it says more and counts as full. Else prove '..UptoSaid'. A law counts once. -/
mutual
def uptoBulk {H : Type} : DataW H → Nat
  | .lit (.string bytes) => bytes.length + 1
  | .lit _ => 1
  | .nil => 1
  | .ptr d => uptoBulk d + 1
  | .slice elems spare => uptoBulkAll elems + uptoBulkAll spare + 1
  | .agg parts => uptoBulkAll parts + 1
  | .iface _ d => uptoBulk d + 1
  | .map entries => uptoBulkEntries entries + 1
  | .held _ => 1
def uptoBulkAll {H : Type} : List (DataW H) → Nat
  | [] => 0
  | d :: r => uptoBulk d + uptoBulkAll r
def uptoBulkEntries {H : Type} : List (Lit × DataW H) → Nat
  | [] => 0
  | x :: r => uptoBulkEntry x + uptoBulkEntries r
def uptoBulkEntry {H : Type} : Lit × DataW H → Nat
  | (.string bytes, d) => bytes.length + uptoBulk d + 1
  | (_, d) => uptoBulk d + 1
 end
def uptoSmall : (H : Type) → List (DataW H) → Bool := fun _ ds => decide (uptoBulkAll ds ≤ 1048576)
def OpenSpec.upto (s : _root_.Go.ChangeSpec) : _root_.Go.OpenSpec := { _root_.Go.OpenSpec.ofChange s with cond := some uptoSmall }

/-- 'licitlaw29.CloneAgainst', WHERE WHAT IT READS IS OF BULK AT MOST 1048576: true; the input reads as it did. -/
def cloneAgainstUptoRow : OpenClaim := { program := "ytglclijalehcmaagreatdoor", sum := "46369de175b1409f323c4b24f4281c86e4e859d38ce6c33a9477b09bebcf4329", func := "licit/licitlaw29.CloneAgainst", spec := "cloneAgainst", inPlace := ["internal/bytealg.CountString", "internal/bytealg.IndexByteString", "internal/bytealg.IndexString"], unfollowed := true, recurses := true, named := ["unicode/utf8.first", "unicode/utf8.acceptRanges", "internal/bytealg.MaxLen"], plainKeys := false, apart := false, laid := [("unicode/utf8.acceptRanges", laid_unicode_utf8_acceptRanges), ("unicode/utf8.first", laid_unicode_utf8_first)], narrowed := true }
def CloneAgainstUptoSaid : Prop := cloneAgainstUptoRow.holds Tryz.pinned (OpenSpec.upto cloneAgainstSpec)

/-- 'licitlaw29.CloneKnown', WHERE WHAT IT READS IS OF BULK AT MOST 1048576: true; the input reads as it did. -/
def cloneKnownUptoRow : OpenClaim := { program := "ytglclijalehcmaagreatdoor", sum := "46369de175b1409f323c4b24f4281c86e4e859d38ce6c33a9477b09bebcf4329", func := "licit/licitlaw29.CloneKnown", spec := "cloneKnown", inPlace := ["internal/bytealg.CountString", "internal/bytealg.IndexByteString", "internal/bytealg.IndexString"], unfollowed := true, recurses := true, named := ["unicode/utf8.first", "unicode/utf8.acceptRanges", "internal/bytealg.MaxLen"], plainKeys := false, apart := false, laid := [("unicode/utf8.acceptRanges", laid_unicode_utf8_acceptRanges), ("unicode/utf8.first", laid_unicode_utf8_first)], narrowed := true }
def CloneKnownUptoSaid : Prop := cloneKnownUptoRow.holds Tryz.pinned (OpenSpec.upto cloneKnownSpec)

/-- 'licitlaw29.CloneChecks', WHERE WHAT IT READS IS OF BULK AT MOST 1048576: true; the input reads as it did. -/
def cloneChecksUptoRow : OpenClaim := { program := "ytglclijalehcmaagreatdoor", sum := "46369de175b1409f323c4b24f4281c86e4e859d38ce6c33a9477b09bebcf4329", func := "licit/licitlaw29.CloneChecks", spec := "cloneChecks", inPlace := ["internal/bytealg.CountString", "internal/bytealg.IndexByteString", "internal/bytealg.IndexString", "internal/bytealg.abigen_runtime_cmpstring"], unfollowed := true, recurses := true, named := ["unicode/utf8.first", "unicode/utf8.acceptRanges", "internal/bytealg.MaxLen"], plainKeys := false, apart := false, laid := [("unicode/utf8.acceptRanges", laid_unicode_utf8_acceptRanges), ("unicode/utf8.first", laid_unicode_utf8_first)], narrowed := true }
def CloneChecksUptoSaid : Prop := cloneChecksUptoRow.holds Tryz.pinned (OpenSpec.upto cloneChecksSpec)

/-- 'licitlaw29.CloneCovers', WHERE WHAT IT READS IS OF BULK AT MOST 1048576: true; the input reads as it did. -/
def cloneCoversUptoRow : OpenClaim := { program := "ytglclijalehcmaagreatdoor", sum := "46369de175b1409f323c4b24f4281c86e4e859d38ce6c33a9477b09bebcf4329", func := "licit/licitlaw29.CloneCovers", spec := "cloneCovers", inPlace := ["internal/bytealg.CountString", "internal/bytealg.IndexByteString", "internal/bytealg.IndexString", "internal/bytealg.abigen_runtime_cmpstring"], unfollowed := true, recurses := true, named := ["unicode/utf8.first", "unicode/utf8.acceptRanges", "internal/bytealg.MaxLen"], plainKeys := false, apart := false, laid := [("unicode/utf8.acceptRanges", laid_unicode_utf8_acceptRanges), ("unicode/utf8.first", laid_unicode_utf8_first)], narrowed := true }
def CloneCoversUptoSaid : Prop := cloneCoversUptoRow.holds Tryz.pinned (OpenSpec.upto cloneCoversSpec)

/-- 'licitlaw26.CorpusNear', WHERE WHAT IT READS IS OF BULK AT MOST 1048576: true; the input reads as it did. -/
def corpusNearUptoRow : OpenClaim := { program := "ytglclijalehcmaagreatdoor", sum := "46369de175b1409f323c4b24f4281c86e4e859d38ce6c33a9477b09bebcf4329", func := "licit/licitlaw26.CorpusNear", spec := "corpusNear", inPlace := ["internal/bytealg.CountString", "internal/bytealg.IndexByteString", "internal/bytealg.IndexString", "internal/bytealg.abigen_runtime_cmpstring"], unfollowed := true, recurses := true, named := ["unicode/utf8.first", "unicode/utf8.acceptRanges", "internal/bytealg.MaxLen"], plainKeys := false, apart := false, laid := [("unicode/utf8.acceptRanges", laid_unicode_utf8_acceptRanges), ("unicode/utf8.first", laid_unicode_utf8_first)], narrowed := true }
def CorpusNearUptoSaid : Prop := corpusNearUptoRow.holds Tryz.pinned (OpenSpec.upto corpusNearSpec)

end Rows
end Go.Proofs.YtglclijalehcmaaGreatDoor
