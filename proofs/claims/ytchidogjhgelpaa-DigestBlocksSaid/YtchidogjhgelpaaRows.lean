/-
  No cell of these rows narrows 'for every input' (looked for: loops, veiled, ifaces, maps, wideKeys, modest, calm, conditions, laid).
  DERIVED. THE GIVEN ROWS OF THIS SEAT. 7 by the template 'for every input the law returns true; each argument reads behind the call as it read before'; 0 by the template 'total and deterministic' (their statements: YtchidogjhgelpaaTotals.lean).
  GIVEN WITH THE SEED: the statements are not yours to turn. If you find one false, say at which input.
  Laid BY PROGRAM, IN A SANDBOX (cutbox-rows.mjs): the forced cells as the released guide's own fill.sh prints them over the translation 77ccc6499dca685e… (all of the seat's roots in one cut). By AI agents, Wed Nov 11 2026. No macro, syntax, notation, axiom, sorry.
-/
import Derived.Test.YtchidogjhgelpaaChecked
import GoSem.Claim
import GoSem.ClaimJoined
import GoSem.ClaimMapViews
import Derived.JoinedTies
import Derived.KernelRfl
namespace Go.Proofs.Ytchidogjhgelpaa
/- THE CELL 'sum', in the pinned program and in every row, IS THE sha256 OF THE DUMP (.gsa) THAT YtchidogjhgelpaaProg.lean LOADS. Nothing in Lean hashes anything: it is a label: what it is worth is what the hold of that sum in a sandbox is worth. -/
noncomputable def Try.pinned : Pinned := { name := "ytchidogjhgelpaa", sum := "77ccc6499dca685e9327f5da2541144f2e75f8189960e3aca461076ed1def41e", checked := Try.checked }
namespace Rows
def none {H : Type} : Left H := { results := [], args := [] }

/-- 'licitlaw01.DigestSums': WHATEVER THE INPUT: true; the input reads as it did. -/
def digestSumsSpec : ChangeSpec := { name := "digestSums", fn := fun _ => fun
  | [d] => { results := [.lit (.bool true)], args := [d] }
  | _ => none }
def digestSumsRow : OpenClaim := { program := "ytchidogjhgelpaa", sum := "77ccc6499dca685e9327f5da2541144f2e75f8189960e3aca461076ed1def41e", func := "licit/licitlaw01.DigestSums", spec := "digestSums", inPlace := ["internal/abi.NoEscape", "internal/bytealg.IndexByteString"], unfollowed := true, recurses := true, apart := false }
def DigestSumsSaid : Prop := digestSumsRow.holds Try.pinned (OpenSpec.ofChange digestSumsSpec)

/-- ITS FALSE NEIGHBOUR: 'it returns false'. Refute it at one input. -/
def digestSumsWrong : ChangeSpec := { name := "digestSums", fn := fun _ => fun
  | [d] => { results := [.lit (.bool false)], args := [d] }
  | _ => none }
def DigestSumsWrongFalsely : Prop := digestSumsRow.holds Try.pinned (OpenSpec.ofChange digestSumsWrong)

/-- 'licitlaw01.DigestPermutes': WHATEVER THE INPUT: true; the input reads as it did. -/
def digestPermutesSpec : ChangeSpec := { name := "digestPermutes", fn := fun _ => fun
  | [d] => { results := [.lit (.bool true)], args := [d] }
  | _ => none }
def digestPermutesRow : OpenClaim := { program := "ytchidogjhgelpaa", sum := "77ccc6499dca685e9327f5da2541144f2e75f8189960e3aca461076ed1def41e", func := "licit/licitlaw01.DigestPermutes", spec := "digestPermutes", inPlace := ["internal/abi.NoEscape", "internal/bytealg.IndexByteString"], unfollowed := true, recurses := true, apart := false }
def DigestPermutesSaid : Prop := digestPermutesRow.holds Try.pinned (OpenSpec.ofChange digestPermutesSpec)

/-- ITS FALSE NEIGHBOUR: 'it returns false'. Refute it at one input. -/
def digestPermutesWrong : ChangeSpec := { name := "digestPermutes", fn := fun _ => fun
  | [d] => { results := [.lit (.bool false)], args := [d] }
  | _ => none }
def DigestPermutesWrongFalsely : Prop := digestPermutesRow.holds Try.pinned (OpenSpec.ofChange digestPermutesWrong)

/-- 'licitlaw01.DigestPermutations': WHATEVER THE INPUT: true; the input reads as it did. -/
def digestPermutationsSpec : ChangeSpec := { name := "digestPermutations", fn := fun _ => fun
  | [d1, d2] => { results := [.lit (.bool true)], args := [d1, d2] }
  | _ => none }
def digestPermutationsRow : OpenClaim := { program := "ytchidogjhgelpaa", sum := "77ccc6499dca685e9327f5da2541144f2e75f8189960e3aca461076ed1def41e", func := "licit/licitlaw01.DigestPermutations", spec := "digestPermutations", inPlace := ["internal/abi.NoEscape", "internal/bytealg.IndexByteString"], unfollowed := true, recurses := true, apart := false }
def DigestPermutationsSaid : Prop := digestPermutationsRow.holds Try.pinned (OpenSpec.ofChange digestPermutationsSpec)

/-- ITS FALSE NEIGHBOUR: 'it returns false'. Refute it at one input. -/
def digestPermutationsWrong : ChangeSpec := { name := "digestPermutations", fn := fun _ => fun
  | [d1, d2] => { results := [.lit (.bool false)], args := [d1, d2] }
  | _ => none }
def DigestPermutationsWrongFalsely : Prop := digestPermutationsRow.holds Try.pinned (OpenSpec.ofChange digestPermutationsWrong)

/-- 'licitlaw01.DigestStream': WHATEVER THE INPUT: true; the input reads as it did. -/
def digestStreamSpec : ChangeSpec := { name := "digestStream", fn := fun _ => fun
  | [d] => { results := [.lit (.bool true)], args := [d] }
  | _ => none }
def digestStreamRow : OpenClaim := { program := "ytchidogjhgelpaa", sum := "77ccc6499dca685e9327f5da2541144f2e75f8189960e3aca461076ed1def41e", func := "licit/licitlaw01.DigestStream", spec := "digestStream", inPlace := ["internal/abi.NoEscape", "internal/bytealg.IndexByteString"], unfollowed := true, recurses := true, apart := false }
def DigestStreamSaid : Prop := digestStreamRow.holds Try.pinned (OpenSpec.ofChange digestStreamSpec)

/-- ITS FALSE NEIGHBOUR: 'it returns false'. Refute it at one input. -/
def digestStreamWrong : ChangeSpec := { name := "digestStream", fn := fun _ => fun
  | [d] => { results := [.lit (.bool false)], args := [d] }
  | _ => none }
def DigestStreamWrongFalsely : Prop := digestStreamRow.holds Try.pinned (OpenSpec.ofChange digestStreamWrong)

/-- 'licitlaw01.DigestClones': WHATEVER THE INPUT: true; the input reads as it did. -/
def digestClonesSpec : ChangeSpec := { name := "digestClones", fn := fun _ => fun
  | [d1, d2, d3] => { results := [.lit (.bool true)], args := [d1, d2, d3] }
  | _ => none }
def digestClonesRow : OpenClaim := { program := "ytchidogjhgelpaa", sum := "77ccc6499dca685e9327f5da2541144f2e75f8189960e3aca461076ed1def41e", func := "licit/licitlaw01.DigestClones", spec := "digestClones", inPlace := ["internal/abi.NoEscape", "internal/bytealg.IndexByteString"], unfollowed := true, recurses := true, apart := false }
def DigestClonesSaid : Prop := digestClonesRow.holds Try.pinned (OpenSpec.ofChange digestClonesSpec)

/-- ITS FALSE NEIGHBOUR: 'it returns false'. Refute it at one input. -/
def digestClonesWrong : ChangeSpec := { name := "digestClones", fn := fun _ => fun
  | [d1, d2, d3] => { results := [.lit (.bool false)], args := [d1, d2, d3] }
  | _ => none }
def DigestClonesWrongFalsely : Prop := digestClonesRow.holds Try.pinned (OpenSpec.ofChange digestClonesWrong)

/-- 'licitlaw01.DigestTexts': WHATEVER THE INPUT: true; the input reads as it did. -/
def digestTextsSpec : ChangeSpec := { name := "digestTexts", fn := fun _ => fun
  | [d1, d2] => { results := [.lit (.bool true)], args := [d1, d2] }
  | _ => none }
def digestTextsRow : OpenClaim := { program := "ytchidogjhgelpaa", sum := "77ccc6499dca685e9327f5da2541144f2e75f8189960e3aca461076ed1def41e", func := "licit/licitlaw01.DigestTexts", spec := "digestTexts", inPlace := ["internal/abi.NoEscape", "internal/bytealg.IndexByteString"], unfollowed := true, recurses := true, apart := false }
def DigestTextsSaid : Prop := digestTextsRow.holds Try.pinned (OpenSpec.ofChange digestTextsSpec)

/-- ITS FALSE NEIGHBOUR: 'it returns false'. Refute it at one input. -/
def digestTextsWrong : ChangeSpec := { name := "digestTexts", fn := fun _ => fun
  | [d1, d2] => { results := [.lit (.bool false)], args := [d1, d2] }
  | _ => none }
def DigestTextsWrongFalsely : Prop := digestTextsRow.holds Try.pinned (OpenSpec.ofChange digestTextsWrong)

/-- 'licitlaw01.DigestBlocks': WHATEVER THE INPUT: true; the input reads as it did. -/
def digestBlocksSpec : ChangeSpec := { name := "digestBlocks", fn := fun _ => fun
  | [d] => { results := [.lit (.bool true)], args := [d] }
  | _ => none }
def digestBlocksRow : OpenClaim := { program := "ytchidogjhgelpaa", sum := "77ccc6499dca685e9327f5da2541144f2e75f8189960e3aca461076ed1def41e", func := "licit/licitlaw01.DigestBlocks", spec := "digestBlocks", inPlace := ["internal/abi.NoEscape", "internal/bytealg.IndexByteString"], unfollowed := true, recurses := true, apart := false }
def DigestBlocksSaid : Prop := digestBlocksRow.holds Try.pinned (OpenSpec.ofChange digestBlocksSpec)

/-- ITS FALSE NEIGHBOUR: 'it returns false'. Refute it at one input. -/
def digestBlocksWrong : ChangeSpec := { name := "digestBlocks", fn := fun _ => fun
  | [d] => { results := [.lit (.bool false)], args := [d] }
  | _ => none }
def DigestBlocksWrongFalsely : Prop := digestBlocksRow.holds Try.pinned (OpenSpec.ofChange digestBlocksWrong)

/- THE SECOND FORM. 'bulk': how many values and letters a reading holds, each counted each time it is reached (what is shared counts as often as it is met; a slice's spare places count too). A statement '..UptoSaid' is the law's where the arguments, and the package variables that the reading takes, are together of bulk at most 1048576: NARROWER than '..Said'. Prove '..Said' where nothing that the law and all that it calls make is longer than what came in: it says more and counts as full. Else prove '..UptoSaid'. A law counts once. -/
mutual
def uptoBulk {H : Type} : DataW H → Nat
  | .lit (.string bytes) => bytes.length + 1
  | .lit _ => 1
  | .nil => 1
  | .ptr d => uptoBulk d + 1
  | .slice elems spare => uptoBulkAll elems + uptoBulkAll spare + 1
  | .agg parts => uptoBulkAll parts + 1
  | .iface _ d => uptoBulk d + 1
  | .map entries => uptoBulkEntries entries + 1
  | .held _ => 1
def uptoBulkAll {H : Type} : List (DataW H) → Nat
  | [] => 0
  | d :: r => uptoBulk d + uptoBulkAll r
def uptoBulkEntries {H : Type} : List (Lit × DataW H) → Nat
  | [] => 0
  | x :: r => uptoBulkEntry x + uptoBulkEntries r
def uptoBulkEntry {H : Type} : Lit × DataW H → Nat
  | (.string bytes, d) => bytes.length + uptoBulk d + 1
  | (_, d) => uptoBulk d + 1
 end
def uptoSmall : (H : Type) → List (DataW H) → Bool := fun _ ds => decide (uptoBulkAll ds ≤ 1048576)
def OpenSpec.upto (s : _root_.Go.ChangeSpec) : _root_.Go.OpenSpec := { _root_.Go.OpenSpec.ofChange s with cond := some uptoSmall }

/-- 'licitlaw01.DigestSums', WHERE WHAT IT READS IS OF BULK AT MOST 1048576: true; the input reads as it did. -/
def digestSumsUptoRow : OpenClaim := { program := "ytchidogjhgelpaa", sum := "77ccc6499dca685e9327f5da2541144f2e75f8189960e3aca461076ed1def41e", func := "licit/licitlaw01.DigestSums", spec := "digestSums", inPlace := ["internal/abi.NoEscape", "internal/bytealg.IndexByteString"], unfollowed := true, recurses := true, apart := false, narrowed := true }
def DigestSumsUptoSaid : Prop := digestSumsUptoRow.holds Try.pinned (OpenSpec.upto digestSumsSpec)

/-- 'licitlaw01.DigestPermutes', WHERE WHAT IT READS IS OF BULK AT MOST 1048576: true; the input reads as it did. -/
def digestPermutesUptoRow : OpenClaim := { program := "ytchidogjhgelpaa", sum := "77ccc6499dca685e9327f5da2541144f2e75f8189960e3aca461076ed1def41e", func := "licit/licitlaw01.DigestPermutes", spec := "digestPermutes", inPlace := ["internal/abi.NoEscape", "internal/bytealg.IndexByteString"], unfollowed := true, recurses := true, apart := false, narrowed := true }
def DigestPermutesUptoSaid : Prop := digestPermutesUptoRow.holds Try.pinned (OpenSpec.upto digestPermutesSpec)

/-- 'licitlaw01.DigestPermutations', WHERE WHAT IT READS IS OF BULK AT MOST 1048576: true; the input reads as it did. -/
def digestPermutationsUptoRow : OpenClaim := { program := "ytchidogjhgelpaa", sum := "77ccc6499dca685e9327f5da2541144f2e75f8189960e3aca461076ed1def41e", func := "licit/licitlaw01.DigestPermutations", spec := "digestPermutations", inPlace := ["internal/abi.NoEscape", "internal/bytealg.IndexByteString"], unfollowed := true, recurses := true, apart := false, narrowed := true }
def DigestPermutationsUptoSaid : Prop := digestPermutationsUptoRow.holds Try.pinned (OpenSpec.upto digestPermutationsSpec)

/-- 'licitlaw01.DigestStream', WHERE WHAT IT READS IS OF BULK AT MOST 1048576: true; the input reads as it did. -/
def digestStreamUptoRow : OpenClaim := { program := "ytchidogjhgelpaa", sum := "77ccc6499dca685e9327f5da2541144f2e75f8189960e3aca461076ed1def41e", func := "licit/licitlaw01.DigestStream", spec := "digestStream", inPlace := ["internal/abi.NoEscape", "internal/bytealg.IndexByteString"], unfollowed := true, recurses := true, apart := false, narrowed := true }
def DigestStreamUptoSaid : Prop := digestStreamUptoRow.holds Try.pinned (OpenSpec.upto digestStreamSpec)

/-- 'licitlaw01.DigestClones', WHERE WHAT IT READS IS OF BULK AT MOST 1048576: true; the input reads as it did. -/
def digestClonesUptoRow : OpenClaim := { program := "ytchidogjhgelpaa", sum := "77ccc6499dca685e9327f5da2541144f2e75f8189960e3aca461076ed1def41e", func := "licit/licitlaw01.DigestClones", spec := "digestClones", inPlace := ["internal/abi.NoEscape", "internal/bytealg.IndexByteString"], unfollowed := true, recurses := true, apart := false, narrowed := true }
def DigestClonesUptoSaid : Prop := digestClonesUptoRow.holds Try.pinned (OpenSpec.upto digestClonesSpec)

/-- 'licitlaw01.DigestTexts', WHERE WHAT IT READS IS OF BULK AT MOST 1048576: true; the input reads as it did. -/
def digestTextsUptoRow : OpenClaim := { program := "ytchidogjhgelpaa", sum := "77ccc6499dca685e9327f5da2541144f2e75f8189960e3aca461076ed1def41e", func := "licit/licitlaw01.DigestTexts", spec := "digestTexts", inPlace := ["internal/abi.NoEscape", "internal/bytealg.IndexByteString"], unfollowed := true, recurses := true, apart := false, narrowed := true }
def DigestTextsUptoSaid : Prop := digestTextsUptoRow.holds Try.pinned (OpenSpec.upto digestTextsSpec)

/-- 'licitlaw01.DigestBlocks', WHERE WHAT IT READS IS OF BULK AT MOST 1048576: true; the input reads as it did. -/
def digestBlocksUptoRow : OpenClaim := { program := "ytchidogjhgelpaa", sum := "77ccc6499dca685e9327f5da2541144f2e75f8189960e3aca461076ed1def41e", func := "licit/licitlaw01.DigestBlocks", spec := "digestBlocks", inPlace := ["internal/abi.NoEscape", "internal/bytealg.IndexByteString"], unfollowed := true, recurses := true, apart := false, narrowed := true }
def DigestBlocksUptoSaid : Prop := digestBlocksUptoRow.holds Try.pinned (OpenSpec.upto digestBlocksSpec)

end Rows
end Go.Proofs.Ytchidogjhgelpaa
