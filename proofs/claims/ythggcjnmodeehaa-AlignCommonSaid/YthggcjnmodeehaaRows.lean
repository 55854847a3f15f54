/-
  No cell of these rows narrows 'for every input' (looked for: loops, veiled, ifaces, maps, wideKeys, modest, calm, conditions, laid).
  DERIVED. THE GIVEN ROWS OF THIS SEAT. 7 by the template 'for every input the law returns true; each argument reads behind the call as it read before'; 0 by the template 'total and deterministic' (their statements: YthggcjnmodeehaaTotals.lean).
  GIVEN WITH THE SEED: the statements are not yours to turn. If you find one false, say at which input.
  Laid BY PROGRAM, IN A SANDBOX (cutbox-rows.mjs): the forced cells as the released guide's own fill.sh prints them over the translation 92da0de046012ca0… (all of the seat's roots in one cut). By AI agents, Wed Nov 11 2026. No macro, syntax, notation, axiom, sorry.
-/
import Derived.Test.YthggcjnmodeehaaChecked
import GoSem.Claim
import GoSem.ClaimJoined
import GoSem.ClaimMapViews
import Derived.JoinedTies
import Derived.KernelRfl
namespace Go.Proofs.Ythggcjnmodeehaa
/- THE CELL 'sum', in the pinned program and in every row, IS THE sha256 OF THE DUMP (.gsa) THAT YthggcjnmodeehaaProg.lean LOADS. Nothing in Lean hashes anything: it is a label: what it is worth is what the hold of that sum in a sandbox is worth. -/
noncomputable def Try.pinned : Pinned := { name := "ythggcjnmodeehaa", sum := "92da0de046012ca0887b2408ab333743f7d1b5b6ce5ddad86ff4872d59208162", checked := Try.checked }
namespace Rows
def none {H : Type} : Left H := { results := [], args := [] }

/-- 'licitlaw28.AlignChecks': WHATEVER THE INPUT: true; the input reads as it did. -/
def alignChecksSpec : ChangeSpec := { name := "alignChecks", fn := fun _ => fun
  | [d1, d2, d3, d4] => { results := [.lit (.bool true)], args := [d1, d2, d3, d4] }
  | _ => none }
def alignChecksRow : OpenClaim := { program := "ythggcjnmodeehaa", sum := "92da0de046012ca0887b2408ab333743f7d1b5b6ce5ddad86ff4872d59208162", func := "licit/licitlaw28.AlignChecks", spec := "alignChecks", unfollowed := true, recurses := true, apart := false }
def AlignChecksSaid : Prop := alignChecksRow.holds Try.pinned (OpenSpec.ofChange alignChecksSpec)

/-- ITS FALSE NEIGHBOUR: 'it returns false'. Refute it at one input. -/
def alignChecksWrong : ChangeSpec := { name := "alignChecks", fn := fun _ => fun
  | [d1, d2, d3, d4] => { results := [.lit (.bool false)], args := [d1, d2, d3, d4] }
  | _ => none }
def AlignChecksWrongFalsely : Prop := alignChecksRow.holds Try.pinned (OpenSpec.ofChange alignChecksWrong)

/-- 'licitlaw28.AlignKept': WHATEVER THE INPUT: true; the input reads as it did. -/
def alignKeptSpec : ChangeSpec := { name := "alignKept", fn := fun _ => fun
  | [d1, d2, d3] => { results := [.lit (.bool true)], args := [d1, d2, d3] }
  | _ => none }
def alignKeptRow : OpenClaim := { program := "ythggcjnmodeehaa", sum := "92da0de046012ca0887b2408ab333743f7d1b5b6ce5ddad86ff4872d59208162", func := "licit/licitlaw28.AlignKept", spec := "alignKept", unfollowed := true, recurses := true, apart := false }
def AlignKeptSaid : Prop := alignKeptRow.holds Try.pinned (OpenSpec.ofChange alignKeptSpec)

/-- ITS FALSE NEIGHBOUR: 'it returns false'. Refute it at one input. -/
def alignKeptWrong : ChangeSpec := { name := "alignKept", fn := fun _ => fun
  | [d1, d2, d3] => { results := [.lit (.bool false)], args := [d1, d2, d3] }
  | _ => none }
def AlignKeptWrongFalsely : Prop := alignKeptRow.holds Try.pinned (OpenSpec.ofChange alignKeptWrong)

/-- 'licitlaw28.AlignBest': WHATEVER THE INPUT: true; the input reads as it did. -/
def alignBestSpec : ChangeSpec := { name := "alignBest", fn := fun _ => fun
  | [d1, d2, d3] => { results := [.lit (.bool true)], args := [d1, d2, d3] }
  | _ => none }
def alignBestRow : OpenClaim := { program := "ythggcjnmodeehaa", sum := "92da0de046012ca0887b2408ab333743f7d1b5b6ce5ddad86ff4872d59208162", func := "licit/licitlaw28.AlignBest", spec := "alignBest", unfollowed := true, recurses := true, apart := false }
def AlignBestSaid : Prop := alignBestRow.holds Try.pinned (OpenSpec.ofChange alignBestSpec)

/-- ITS FALSE NEIGHBOUR: 'it returns false'. Refute it at one input. -/
def alignBestWrong : ChangeSpec := { name := "alignBest", fn := fun _ => fun
  | [d1, d2, d3] => { results := [.lit (.bool false)], args := [d1, d2, d3] }
  | _ => none }
def AlignBestWrongFalsely : Prop := alignBestRow.holds Try.pinned (OpenSpec.ofChange alignBestWrong)

/-- 'licitlaw28.AlignMetric': WHATEVER THE INPUT: true; the input reads as it did. -/
def alignMetricSpec : ChangeSpec := { name := "alignMetric", fn := fun _ => fun
  | [d1, d2, d3, d4] => { results := [.lit (.bool true)], args := [d1, d2, d3, d4] }
  | _ => none }
def alignMetricRow : OpenClaim := { program := "ythggcjnmodeehaa", sum := "92da0de046012ca0887b2408ab333743f7d1b5b6ce5ddad86ff4872d59208162", func := "licit/licitlaw28.AlignMetric", spec := "alignMetric", unfollowed := true, recurses := true, apart := false }
def AlignMetricSaid : Prop := alignMetricRow.holds Try.pinned (OpenSpec.ofChange alignMetricSpec)

/-- ITS FALSE NEIGHBOUR: 'it returns false'. Refute it at one input. -/
def alignMetricWrong : ChangeSpec := { name := "alignMetric", fn := fun _ => fun
  | [d1, d2, d3, d4] => { results := [.lit (.bool false)], args := [d1, d2, d3, d4] }
  | _ => none }
def AlignMetricWrongFalsely : Prop := alignMetricRow.holds Try.pinned (OpenSpec.ofChange alignMetricWrong)

/-- 'licitlaw28.AlignBounds': WHATEVER THE INPUT: true; the input reads as it did. -/
def alignBoundsSpec : ChangeSpec := { name := "alignBounds", fn := fun _ => fun
  | [d1, d2, d3, d4] => { results := [.lit (.bool true)], args := [d1, d2, d3, d4] }
  | _ => none }
def alignBoundsRow : OpenClaim := { program := "ythggcjnmodeehaa", sum := "92da0de046012ca0887b2408ab333743f7d1b5b6ce5ddad86ff4872d59208162", func := "licit/licitlaw28.AlignBounds", spec := "alignBounds", unfollowed := true, recurses := true, apart := false }
def AlignBoundsSaid : Prop := alignBoundsRow.holds Try.pinned (OpenSpec.ofChange alignBoundsSpec)

/-- ITS FALSE NEIGHBOUR: 'it returns false'. Refute it at one input. -/
def alignBoundsWrong : ChangeSpec := { name := "alignBounds", fn := fun _ => fun
  | [d1, d2, d3, d4] => { results := [.lit (.bool false)], args := [d1, d2, d3, d4] }
  | _ => none }
def AlignBoundsWrongFalsely : Prop := alignBoundsRow.holds Try.pinned (OpenSpec.ofChange alignBoundsWrong)

/-- 'licitlaw28.AlignOptimal': WHATEVER THE INPUT: true; the input reads as it did. -/
def alignOptimalSpec : ChangeSpec := { name := "alignOptimal", fn := fun _ => fun
  | [d1, d2, d3, d4, d5] => { results := [.lit (.bool true)], args := [d1, d2, d3, d4, d5] }
  | _ => none }
def alignOptimalRow : OpenClaim := { program := "ythggcjnmodeehaa", sum := "92da0de046012ca0887b2408ab333743f7d1b5b6ce5ddad86ff4872d59208162", func := "licit/licitlaw28.AlignOptimal", spec := "alignOptimal", unfollowed := true, recurses := true, apart := false }
def AlignOptimalSaid : Prop := alignOptimalRow.holds Try.pinned (OpenSpec.ofChange alignOptimalSpec)

/-- ITS FALSE NEIGHBOUR: 'it returns false'. Refute it at one input. -/
def alignOptimalWrong : ChangeSpec := { name := "alignOptimal", fn := fun _ => fun
  | [d1, d2, d3, d4, d5] => { results := [.lit (.bool false)], args := [d1, d2, d3, d4, d5] }
  | _ => none }
def AlignOptimalWrongFalsely : Prop := alignOptimalRow.holds Try.pinned (OpenSpec.ofChange alignOptimalWrong)

/-- 'licitlaw28.AlignCommon': WHATEVER THE INPUT: true; the input reads as it did. -/
def alignCommonSpec : ChangeSpec := { name := "alignCommon", fn := fun _ => fun
  | [d1, d2, d3, d4, d5] => { results := [.lit (.bool true)], args := [d1, d2, d3, d4, d5] }
  | _ => none }
def alignCommonRow : OpenClaim := { program := "ythggcjnmodeehaa", sum := "92da0de046012ca0887b2408ab333743f7d1b5b6ce5ddad86ff4872d59208162", func := "licit/licitlaw28.AlignCommon", spec := "alignCommon", unfollowed := true, recurses := true, apart := false }
def AlignCommonSaid : Prop := alignCommonRow.holds Try.pinned (OpenSpec.ofChange alignCommonSpec)

/-- ITS FALSE NEIGHBOUR: 'it returns false'. Refute it at one input. -/
def alignCommonWrong : ChangeSpec := { name := "alignCommon", fn := fun _ => fun
  | [d1, d2, d3, d4, d5] => { results := [.lit (.bool false)], args := [d1, d2, d3, d4, d5] }
  | _ => none }
def AlignCommonWrongFalsely : Prop := alignCommonRow.holds Try.pinned (OpenSpec.ofChange alignCommonWrong)

/- THE SECOND FORM. 'bulk': how many values and letters a reading holds, each counted each time it is reached (what is shared counts as often as it is met; a slice's spare places count too). A statement '..UptoSaid' is the law's where the arguments, and the package variables that the reading takes, are together of bulk at most 1048576: NARROWER than '..Said'. Prove '..Said' where nothing that the law and all that it calls make is longer than what came in: it says more and counts as full. Else prove '..UptoSaid'. A law counts once. -/
mutual
def uptoBulk {H : Type} : DataW H → Nat
  | .lit (.string bytes) => bytes.length + 1
  | .lit _ => 1
  | .nil => 1
  | .ptr d => uptoBulk d + 1
  | .slice elems spare => uptoBulkAll elems + uptoBulkAll spare + 1
  | .agg parts => uptoBulkAll parts + 1
  | .iface _ d => uptoBulk d + 1
  | .map entries => uptoBulkEntries entries + 1
  | .held _ => 1
def uptoBulkAll {H : Type} : List (DataW H) → Nat
  | [] => 0
  | d :: r => uptoBulk d + uptoBulkAll r
def uptoBulkEntries {H : Type} : List (Lit × DataW H) → Nat
  | [] => 0
  | x :: r => uptoBulkEntry x + uptoBulkEntries r
def uptoBulkEntry {H : Type} : Lit × DataW H → Nat
  | (.string bytes, d) => bytes.length + uptoBulk d + 1
  | (_, d) => uptoBulk d + 1
 end
def uptoSmall : (H : Type) → List (DataW H) → Bool := fun _ ds => decide (uptoBulkAll ds ≤ 1048576)
def OpenSpec.upto (s : _root_.Go.ChangeSpec) : _root_.Go.OpenSpec := { _root_.Go.OpenSpec.ofChange s with cond := some uptoSmall }

/-- 'licitlaw28.AlignChecks', WHERE WHAT IT READS IS OF BULK AT MOST 1048576: true; the input reads as it did. -/
def alignChecksUptoRow : OpenClaim := { program := "ythggcjnmodeehaa", sum := "92da0de046012ca0887b2408ab333743f7d1b5b6ce5ddad86ff4872d59208162", func := "licit/licitlaw28.AlignChecks", spec := "alignChecks", unfollowed := true, recurses := true, apart := false, narrowed := true }
def AlignChecksUptoSaid : Prop := alignChecksUptoRow.holds Try.pinned (OpenSpec.upto alignChecksSpec)

/-- 'licitlaw28.AlignKept', WHERE WHAT IT READS IS OF BULK AT MOST 1048576: true; the input reads as it did. -/
def alignKeptUptoRow : OpenClaim := { program := "ythggcjnmodeehaa", sum := "92da0de046012ca0887b2408ab333743f7d1b5b6ce5ddad86ff4872d59208162", func := "licit/licitlaw28.AlignKept", spec := "alignKept", unfollowed := true, recurses := true, apart := false, narrowed := true }
def AlignKeptUptoSaid : Prop := alignKeptUptoRow.holds Try.pinned (OpenSpec.upto alignKeptSpec)

/-- 'licitlaw28.AlignBest', WHERE WHAT IT READS IS OF BULK AT MOST 1048576: true; the input reads as it did. -/
def alignBestUptoRow : OpenClaim := { program := "ythggcjnmodeehaa", sum := "92da0de046012ca0887b2408ab333743f7d1b5b6ce5ddad86ff4872d59208162", func := "licit/licitlaw28.AlignBest", spec := "alignBest", unfollowed := true, recurses := true, apart := false, narrowed := true }
def AlignBestUptoSaid : Prop := alignBestUptoRow.holds Try.pinned (OpenSpec.upto alignBestSpec)

/-- 'licitlaw28.AlignMetric', WHERE WHAT IT READS IS OF BULK AT MOST 1048576: true; the input reads as it did. -/
def alignMetricUptoRow : OpenClaim := { program := "ythggcjnmodeehaa", sum := "92da0de046012ca0887b2408ab333743f7d1b5b6ce5ddad86ff4872d59208162", func := "licit/licitlaw28.AlignMetric", spec := "alignMetric", unfollowed := true, recurses := true, apart := false, narrowed := true }
def AlignMetricUptoSaid : Prop := alignMetricUptoRow.holds Try.pinned (OpenSpec.upto alignMetricSpec)

/-- 'licitlaw28.AlignBounds', WHERE WHAT IT READS IS OF BULK AT MOST 1048576: true; the input reads as it did. -/
def alignBoundsUptoRow : OpenClaim := { program := "ythggcjnmodeehaa", sum := "92da0de046012ca0887b2408ab333743f7d1b5b6ce5ddad86ff4872d59208162", func := "licit/licitlaw28.AlignBounds", spec := "alignBounds", unfollowed := true, recurses := true, apart := false, narrowed := true }
def AlignBoundsUptoSaid : Prop := alignBoundsUptoRow.holds Try.pinned (OpenSpec.upto alignBoundsSpec)

/-- 'licitlaw28.AlignOptimal', WHERE WHAT IT READS IS OF BULK AT MOST 1048576: true; the input reads as it did. -/
def alignOptimalUptoRow : OpenClaim := { program := "ythggcjnmodeehaa", sum := "92da0de046012ca0887b2408ab333743f7d1b5b6ce5ddad86ff4872d59208162", func := "licit/licitlaw28.AlignOptimal", spec := "alignOptimal", unfollowed := true, recurses := true, apart := false, narrowed := true }
def AlignOptimalUptoSaid : Prop := alignOptimalUptoRow.holds Try.pinned (OpenSpec.upto alignOptimalSpec)

/-- 'licitlaw28.AlignCommon', WHERE WHAT IT READS IS OF BULK AT MOST 1048576: true; the input reads as it did. -/
def alignCommonUptoRow : OpenClaim := { program := "ythggcjnmodeehaa", sum := "92da0de046012ca0887b2408ab333743f7d1b5b6ce5ddad86ff4872d59208162", func := "licit/licitlaw28.AlignCommon", spec := "alignCommon", unfollowed := true, recurses := true, apart := false, narrowed := true }
def AlignCommonUptoSaid : Prop := alignCommonUptoRow.holds Try.pinned (OpenSpec.upto alignCommonSpec)

end Rows
end Go.Proofs.Ythggcjnmodeehaa
