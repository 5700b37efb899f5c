/-
  No cell of these rows narrows 'for every input' (looked for: loops, veiled, ifaces, maps, wideKeys, modest, calm, conditions, laid).
  DERIVED. THE GIVEN ROWS OF THIS SEAT. 11 by the template 'for every input the law returns true; each argument reads behind the call as it read before'; 0 by the template 'total and deterministic' (their statements: YtapmpegblfcknaaTotals.lean).
  GIVEN WITH THE SEED: the statements are not yours to turn. If you find one false, say at which input.
  Laid BY PROGRAM, IN A SANDBOX (cutbox-rows.mjs): the forced cells as the released guide's own fill.sh prints them over the translation 9c5000f244b6eaaf… (all of the seat's roots in one cut). By AI agents, Wed Nov 11 2026. No macro, syntax, notation, axiom, sorry.
-/
import Derived.Test.YtapmpegblfcknaaChecked
import GoSem.Claim
import GoSem.ClaimJoined
import GoSem.ClaimMapViews
import Derived.JoinedTies
import Derived.KernelRfl
namespace Go.Proofs.Ytapmpegblfcknaa
/- THE CELL 'sum', in the pinned program and in every row, IS THE sha256 OF THE DUMP (.gsa) THAT YtapmpegblfcknaaProg.lean LOADS. Nothing in Lean hashes anything: it is a label: what it is worth is what the hold of that sum in a sandbox is worth. -/
noncomputable def Try.pinned : Pinned := { name := "ytapmpegblfcknaa", sum := "9c5000f244b6eaaf71549c453387317de59495e8cf31844c85159a0dfd9e847f", checked := Try.checked }
namespace Rows
def none {H : Type} : Left H := { results := [], args := [] }

/-- 'ravelinlaw04.CheckAll': WHATEVER THE INPUT: true; the input reads as it did. -/
def checkAllSpec : ChangeSpec := { name := "checkAll", fn := fun _ => fun
  | [d] => { results := [.lit (.bool true)], args := [d] }
  | _ => none }
def checkAllRow : OpenClaim := { program := "ytapmpegblfcknaa", sum := "9c5000f244b6eaaf71549c453387317de59495e8cf31844c85159a0dfd9e847f", func := "ravelin/ravelinlaw04.CheckAll", spec := "checkAll", unfollowed := true, recurses := true, apart := false }
def CheckAllSaid : Prop := checkAllRow.holds Try.pinned (OpenSpec.ofChange checkAllSpec)

/-- ITS FALSE NEIGHBOUR: 'it returns false'. Refute it at one input. -/
def checkAllWrong : ChangeSpec := { name := "checkAll", fn := fun _ => fun
  | [d] => { results := [.lit (.bool false)], args := [d] }
  | _ => none }
def CheckAllWrongFalsely : Prop := checkAllRow.holds Try.pinned (OpenSpec.ofChange checkAllWrong)

/-- 'ravelinlaw04.CheckLong': WHATEVER THE INPUT: true; the input reads as it did. -/
def checkLongSpec : ChangeSpec := { name := "checkLong", fn := fun _ => fun
  | [d1, d2] => { results := [.lit (.bool true)], args := [d1, d2] }
  | _ => none }
def checkLongRow : OpenClaim := { program := "ytapmpegblfcknaa", sum := "9c5000f244b6eaaf71549c453387317de59495e8cf31844c85159a0dfd9e847f", func := "ravelin/ravelinlaw04.CheckLong", spec := "checkLong", unfollowed := true, recurses := true, apart := false }
def CheckLongSaid : Prop := checkLongRow.holds Try.pinned (OpenSpec.ofChange checkLongSpec)

/-- ITS FALSE NEIGHBOUR: 'it returns false'. Refute it at one input. -/
def checkLongWrong : ChangeSpec := { name := "checkLong", fn := fun _ => fun
  | [d1, d2] => { results := [.lit (.bool false)], args := [d1, d2] }
  | _ => none }
def CheckLongWrongFalsely : Prop := checkLongRow.holds Try.pinned (OpenSpec.ofChange checkLongWrong)

/-- 'ravelinlaw04.CheckRest': WHATEVER THE INPUT: true; the input reads as it did. -/
def checkRestSpec : ChangeSpec := { name := "checkRest", fn := fun _ => fun
  | [d1, d2] => { results := [.lit (.bool true)], args := [d1, d2] }
  | _ => none }
def checkRestRow : OpenClaim := { program := "ytapmpegblfcknaa", sum := "9c5000f244b6eaaf71549c453387317de59495e8cf31844c85159a0dfd9e847f", func := "ravelin/ravelinlaw04.CheckRest", spec := "checkRest", unfollowed := true, recurses := true, apart := false }
def CheckRestSaid : Prop := checkRestRow.holds Try.pinned (OpenSpec.ofChange checkRestSpec)

/-- ITS FALSE NEIGHBOUR: 'it returns false'. Refute it at one input. -/
def checkRestWrong : ChangeSpec := { name := "checkRest", fn := fun _ => fun
  | [d1, d2] => { results := [.lit (.bool false)], args := [d1, d2] }
  | _ => none }
def CheckRestWrongFalsely : Prop := checkRestRow.holds Try.pinned (OpenSpec.ofChange checkRestWrong)

/-- 'ravelinlaw04.CheckJoined': WHATEVER THE INPUT: true; the input reads as it did. -/
def checkJoinedSpec : ChangeSpec := { name := "checkJoined", fn := fun _ => fun
  | [d1, d2] => { results := [.lit (.bool true)], args := [d1, d2] }
  | _ => none }
def checkJoinedRow : OpenClaim := { program := "ytapmpegblfcknaa", sum := "9c5000f244b6eaaf71549c453387317de59495e8cf31844c85159a0dfd9e847f", func := "ravelin/ravelinlaw04.CheckJoined", spec := "checkJoined", unfollowed := true, recurses := true, apart := false }
def CheckJoinedSaid : Prop := checkJoinedRow.holds Try.pinned (OpenSpec.ofChange checkJoinedSpec)

/-- ITS FALSE NEIGHBOUR: 'it returns false'. Refute it at one input. -/
def checkJoinedWrong : ChangeSpec := { name := "checkJoined", fn := fun _ => fun
  | [d1, d2] => { results := [.lit (.bool false)], args := [d1, d2] }
  | _ => none }
def CheckJoinedWrongFalsely : Prop := checkJoinedRow.holds Try.pinned (OpenSpec.ofChange checkJoinedWrong)

/-- 'ravelinlaw04.CheckOnes': WHATEVER THE INPUT: true; the input reads as it did. -/
def checkOnesSpec : ChangeSpec := { name := "checkOnes", fn := fun _ => fun
  | [d1, d2, d3] => { results := [.lit (.bool true)], args := [d1, d2, d3] }
  | _ => none }
def checkOnesRow : OpenClaim := { program := "ytapmpegblfcknaa", sum := "9c5000f244b6eaaf71549c453387317de59495e8cf31844c85159a0dfd9e847f", func := "ravelin/ravelinlaw04.CheckOnes", spec := "checkOnes", unfollowed := true, recurses := true, apart := false }
def CheckOnesSaid : Prop := checkOnesRow.holds Try.pinned (OpenSpec.ofChange checkOnesSpec)

/-- ITS FALSE NEIGHBOUR: 'it returns false'. Refute it at one input. -/
def checkOnesWrong : ChangeSpec := { name := "checkOnes", fn := fun _ => fun
  | [d1, d2, d3] => { results := [.lit (.bool false)], args := [d1, d2, d3] }
  | _ => none }
def CheckOnesWrongFalsely : Prop := checkOnesRow.holds Try.pinned (OpenSpec.ofChange checkOnesWrong)

/-- 'ravelinlaw10.FlowNext': WHATEVER THE INPUT: true; the input reads as it did. -/
def flowNextSpec : ChangeSpec := { name := "flowNext", fn := fun _ => fun
  | [d1, d2] => { results := [.lit (.bool true)], args := [d1, d2] }
  | _ => none }
def flowNextRow : OpenClaim := { program := "ytapmpegblfcknaa", sum := "9c5000f244b6eaaf71549c453387317de59495e8cf31844c85159a0dfd9e847f", func := "ravelin/ravelinlaw10.FlowNext", spec := "flowNext", unfollowed := true, recurses := true, apart := false }
def FlowNextSaid : Prop := flowNextRow.holds Try.pinned (OpenSpec.ofChange flowNextSpec)

/-- ITS FALSE NEIGHBOUR: 'it returns false'. Refute it at one input. -/
def flowNextWrong : ChangeSpec := { name := "flowNext", fn := fun _ => fun
  | [d1, d2] => { results := [.lit (.bool false)], args := [d1, d2] }
  | _ => none }
def FlowNextWrongFalsely : Prop := flowNextRow.holds Try.pinned (OpenSpec.ofChange flowNextWrong)

/-- 'ravelinlaw10.FlowRest': WHATEVER THE INPUT: true; the input reads as it did. -/
def flowRestSpec : ChangeSpec := { name := "flowRest", fn := fun _ => fun
  | [d1, d2, d3] => { results := [.lit (.bool true)], args := [d1, d2, d3] }
  | _ => none }
def flowRestRow : OpenClaim := { program := "ytapmpegblfcknaa", sum := "9c5000f244b6eaaf71549c453387317de59495e8cf31844c85159a0dfd9e847f", func := "ravelin/ravelinlaw10.FlowRest", spec := "flowRest", unfollowed := true, recurses := true, apart := false }
def FlowRestSaid : Prop := flowRestRow.holds Try.pinned (OpenSpec.ofChange flowRestSpec)

/-- ITS FALSE NEIGHBOUR: 'it returns false'. Refute it at one input. -/
def flowRestWrong : ChangeSpec := { name := "flowRest", fn := fun _ => fun
  | [d1, d2, d3] => { results := [.lit (.bool false)], args := [d1, d2, d3] }
  | _ => none }
def FlowRestWrongFalsely : Prop := flowRestRow.holds Try.pinned (OpenSpec.ofChange flowRestWrong)

/-- 'ravelinlaw10.FlowParts': WHATEVER THE INPUT: true; the input reads as it did. -/
def flowPartsSpec : ChangeSpec := { name := "flowParts", fn := fun _ => fun
  | [d] => { results := [.lit (.bool true)], args := [d] }
  | _ => none }
def flowPartsRow : OpenClaim := { program := "ytapmpegblfcknaa", sum := "9c5000f244b6eaaf71549c453387317de59495e8cf31844c85159a0dfd9e847f", func := "ravelin/ravelinlaw10.FlowParts", spec := "flowParts", unfollowed := true, recurses := true, apart := false }
def FlowPartsSaid : Prop := flowPartsRow.holds Try.pinned (OpenSpec.ofChange flowPartsSpec)

/-- ITS FALSE NEIGHBOUR: 'it returns false'. Refute it at one input. -/
def flowPartsWrong : ChangeSpec := { name := "flowParts", fn := fun _ => fun
  | [d] => { results := [.lit (.bool false)], args := [d] }
  | _ => none }
def FlowPartsWrongFalsely : Prop := flowPartsRow.holds Try.pinned (OpenSpec.ofChange flowPartsWrong)

/-- 'ravelinlaw10.FlowTells': WHATEVER THE INPUT: true; the input reads as it did. -/
def flowTellsSpec : ChangeSpec := { name := "flowTells", fn := fun _ => fun
  | [d] => { results := [.lit (.bool true)], args := [d] }
  | _ => none }
def flowTellsRow : OpenClaim := { program := "ytapmpegblfcknaa", sum := "9c5000f244b6eaaf71549c453387317de59495e8cf31844c85159a0dfd9e847f", func := "ravelin/ravelinlaw10.FlowTells", spec := "flowTells", unfollowed := true, recurses := true, apart := false }
def FlowTellsSaid : Prop := flowTellsRow.holds Try.pinned (OpenSpec.ofChange flowTellsSpec)

/-- ITS FALSE NEIGHBOUR: 'it returns false'. Refute it at one input. -/
def flowTellsWrong : ChangeSpec := { name := "flowTells", fn := fun _ => fun
  | [d] => { results := [.lit (.bool false)], args := [d] }
  | _ => none }
def FlowTellsWrongFalsely : Prop := flowTellsRow.holds Try.pinned (OpenSpec.ofChange flowTellsWrong)

/-- 'ravelinlaw10.FlowRuns': WHATEVER THE INPUT: true; the input reads as it did. -/
def flowRunsSpec : ChangeSpec := { name := "flowRuns", fn := fun _ => fun
  | [d1, d2] => { results := [.lit (.bool true)], args := [d1, d2] }
  | _ => none }
def flowRunsRow : OpenClaim := { program := "ytapmpegblfcknaa", sum := "9c5000f244b6eaaf71549c453387317de59495e8cf31844c85159a0dfd9e847f", func := "ravelin/ravelinlaw10.FlowRuns", spec := "flowRuns", unfollowed := true, recurses := true, apart := false }
def FlowRunsSaid : Prop := flowRunsRow.holds Try.pinned (OpenSpec.ofChange flowRunsSpec)

/-- ITS FALSE NEIGHBOUR: 'it returns false'. Refute it at one input. -/
def flowRunsWrong : ChangeSpec := { name := "flowRuns", fn := fun _ => fun
  | [d1, d2] => { results := [.lit (.bool false)], args := [d1, d2] }
  | _ => none }
def FlowRunsWrongFalsely : Prop := flowRunsRow.holds Try.pinned (OpenSpec.ofChange flowRunsWrong)

/-- 'ravelinlaw04.CheckRuns': WHATEVER THE INPUT: true; the input reads as it did. -/
def checkRunsSpec : ChangeSpec := { name := "checkRuns", fn := fun _ => fun
  | [d1, d2] => { results := [.lit (.bool true)], args := [d1, d2] }
  | _ => none }
def checkRunsRow : OpenClaim := { program := "ytapmpegblfcknaa", sum := "9c5000f244b6eaaf71549c453387317de59495e8cf31844c85159a0dfd9e847f", func := "ravelin/ravelinlaw04.CheckRuns", spec := "checkRuns", unfollowed := true, recurses := true, apart := false }
def CheckRunsSaid : Prop := checkRunsRow.holds Try.pinned (OpenSpec.ofChange checkRunsSpec)

/-- ITS FALSE NEIGHBOUR: 'it returns false'. Refute it at one input. -/
def checkRunsWrong : ChangeSpec := { name := "checkRuns", fn := fun _ => fun
  | [d1, d2] => { results := [.lit (.bool false)], args := [d1, d2] }
  | _ => none }
def CheckRunsWrongFalsely : Prop := checkRunsRow.holds Try.pinned (OpenSpec.ofChange checkRunsWrong)

/- THE SECOND FORM. 'bulk': how many values and letters a reading holds, each counted each time it is reached (what is shared counts as often as it is met; a slice's spare places count too). A statement '..UptoSaid' is the law's where the arguments, and the package variables that the reading takes, are together of bulk at most 1048576: NARROWER than '..Said'. Prove '..Said' where nothing that the law and all that it calls make is longer than what came in: it says more and counts as full. Else prove '..UptoSaid'. A law counts once. -/
mutual
def uptoBulk {H : Type} : DataW H → Nat
  | .lit (.string bytes) => bytes.length + 1
  | .lit _ => 1
  | .nil => 1
  | .ptr d => uptoBulk d + 1
  | .slice elems spare => uptoBulkAll elems + uptoBulkAll spare + 1
  | .agg parts => uptoBulkAll parts + 1
  | .iface _ d => uptoBulk d + 1
  | .map entries => uptoBulkEntries entries + 1
  | .held _ => 1
def uptoBulkAll {H : Type} : List (DataW H) → Nat
  | [] => 0
  | d :: r => uptoBulk d + uptoBulkAll r
def uptoBulkEntries {H : Type} : List (Lit × DataW H) → Nat
  | [] => 0
  | x :: r => uptoBulkEntry x + uptoBulkEntries r
def uptoBulkEntry {H : Type} : Lit × DataW H → Nat
  | (.string bytes, d) => bytes.length + uptoBulk d + 1
  | (_, d) => uptoBulk d + 1
 end
def uptoSmall : (H : Type) → List (DataW H) → Bool := fun _ ds => decide (uptoBulkAll ds ≤ 1048576)
def OpenSpec.upto (s : _root_.Go.ChangeSpec) : _root_.Go.OpenSpec := { _root_.Go.OpenSpec.ofChange s with cond := some uptoSmall }

/-- 'ravelinlaw04.CheckAll', WHERE WHAT IT READS IS OF BULK AT MOST 1048576: true; the input reads as it did. -/
def checkAllUptoRow : OpenClaim := { program := "ytapmpegblfcknaa", sum := "9c5000f244b6eaaf71549c453387317de59495e8cf31844c85159a0dfd9e847f", func := "ravelin/ravelinlaw04.CheckAll", spec := "checkAll", unfollowed := true, recurses := true, apart := false, narrowed := true }
def CheckAllUptoSaid : Prop := checkAllUptoRow.holds Try.pinned (OpenSpec.upto checkAllSpec)

/-- 'ravelinlaw04.CheckLong', WHERE WHAT IT READS IS OF BULK AT MOST 1048576: true; the input reads as it did. -/
def checkLongUptoRow : OpenClaim := { program := "ytapmpegblfcknaa", sum := "9c5000f244b6eaaf71549c453387317de59495e8cf31844c85159a0dfd9e847f", func := "ravelin/ravelinlaw04.CheckLong", spec := "checkLong", unfollowed := true, recurses := true, apart := false, narrowed := true }
def CheckLongUptoSaid : Prop := checkLongUptoRow.holds Try.pinned (OpenSpec.upto checkLongSpec)

/-- 'ravelinlaw04.CheckRest', WHERE WHAT IT READS IS OF BULK AT MOST 1048576: true; the input reads as it did. -/
def checkRestUptoRow : OpenClaim := { program := "ytapmpegblfcknaa", sum := "9c5000f244b6eaaf71549c453387317de59495e8cf31844c85159a0dfd9e847f", func := "ravelin/ravelinlaw04.CheckRest", spec := "checkRest", unfollowed := true, recurses := true, apart := false, narrowed := true }
def CheckRestUptoSaid : Prop := checkRestUptoRow.holds Try.pinned (OpenSpec.upto checkRestSpec)

/-- 'ravelinlaw04.CheckJoined', WHERE WHAT IT READS IS OF BULK AT MOST 1048576: true; the input reads as it did. -/
def checkJoinedUptoRow : OpenClaim := { program := "ytapmpegblfcknaa", sum := "9c5000f244b6eaaf71549c453387317de59495e8cf31844c85159a0dfd9e847f", func := "ravelin/ravelinlaw04.CheckJoined", spec := "checkJoined", unfollowed := true, recurses := true, apart := false, narrowed := true }
def CheckJoinedUptoSaid : Prop := checkJoinedUptoRow.holds Try.pinned (OpenSpec.upto checkJoinedSpec)

/-- 'ravelinlaw04.CheckOnes', WHERE WHAT IT READS IS OF BULK AT MOST 1048576: true; the input reads as it did. -/
def checkOnesUptoRow : OpenClaim := { program := "ytapmpegblfcknaa", sum := "9c5000f244b6eaaf71549c453387317de59495e8cf31844c85159a0dfd9e847f", func := "ravelin/ravelinlaw04.CheckOnes", spec := "checkOnes", unfollowed := true, recurses := true, apart := false, narrowed := true }
def CheckOnesUptoSaid : Prop := checkOnesUptoRow.holds Try.pinned (OpenSpec.upto checkOnesSpec)

/-- 'ravelinlaw10.FlowNext', WHERE WHAT IT READS IS OF BULK AT MOST 1048576: true; the input reads as it did. -/
def flowNextUptoRow : OpenClaim := { program := "ytapmpegblfcknaa", sum := "9c5000f244b6eaaf71549c453387317de59495e8cf31844c85159a0dfd9e847f", func := "ravelin/ravelinlaw10.FlowNext", spec := "flowNext", unfollowed := true, recurses := true, apart := false, narrowed := true }
def FlowNextUptoSaid : Prop := flowNextUptoRow.holds Try.pinned (OpenSpec.upto flowNextSpec)

/-- 'ravelinlaw10.FlowRest', WHERE WHAT IT READS IS OF BULK AT MOST 1048576: true; the input reads as it did. -/
def flowRestUptoRow : OpenClaim := { program := "ytapmpegblfcknaa", sum := "9c5000f244b6eaaf71549c453387317de59495e8cf31844c85159a0dfd9e847f", func := "ravelin/ravelinlaw10.FlowRest", spec := "flowRest", unfollowed := true, recurses := true, apart := false, narrowed := true }
def FlowRestUptoSaid : Prop := flowRestUptoRow.holds Try.pinned (OpenSpec.upto flowRestSpec)

/-- 'ravelinlaw10.FlowParts', WHERE WHAT IT READS IS OF BULK AT MOST 1048576: true; the input reads as it did. -/
def flowPartsUptoRow : OpenClaim := { program := "ytapmpegblfcknaa", sum := "9c5000f244b6eaaf71549c453387317de59495e8cf31844c85159a0dfd9e847f", func := "ravelin/ravelinlaw10.FlowParts", spec := "flowParts", unfollowed := true, recurses := true, apart := false, narrowed := true }
def FlowPartsUptoSaid : Prop := flowPartsUptoRow.holds Try.pinned (OpenSpec.upto flowPartsSpec)

/-- 'ravelinlaw10.FlowTells', WHERE WHAT IT READS IS OF BULK AT MOST 1048576: true; the input reads as it did. -/
def flowTellsUptoRow : OpenClaim := { program := "ytapmpegblfcknaa", sum := "9c5000f244b6eaaf71549c453387317de59495e8cf31844c85159a0dfd9e847f", func := "ravelin/ravelinlaw10.FlowTells", spec := "flowTells", unfollowed := true, recurses := true, apart := false, narrowed := true }
def FlowTellsUptoSaid : Prop := flowTellsUptoRow.holds Try.pinned (OpenSpec.upto flowTellsSpec)

/-- 'ravelinlaw10.FlowRuns', WHERE WHAT IT READS IS OF BULK AT MOST 1048576: true; the input reads as it did. -/
def flowRunsUptoRow : OpenClaim := { program := "ytapmpegblfcknaa", sum := "9c5000f244b6eaaf71549c453387317de59495e8cf31844c85159a0dfd9e847f", func := "ravelin/ravelinlaw10.FlowRuns", spec := "flowRuns", unfollowed := true, recurses := true, apart := false, narrowed := true }
def FlowRunsUptoSaid : Prop := flowRunsUptoRow.holds Try.pinned (OpenSpec.upto flowRunsSpec)

/-- 'ravelinlaw04.CheckRuns', WHERE WHAT IT READS IS OF BULK AT MOST 1048576: true; the input reads as it did. -/
def checkRunsUptoRow : OpenClaim := { program := "ytapmpegblfcknaa", sum := "9c5000f244b6eaaf71549c453387317de59495e8cf31844c85159a0dfd9e847f", func := "ravelin/ravelinlaw04.CheckRuns", spec := "checkRuns", unfollowed := true, recurses := true, apart := false, narrowed := true }
def CheckRunsUptoSaid : Prop := checkRunsUptoRow.holds Try.pinned (OpenSpec.upto checkRunsSpec)

end Rows
end Go.Proofs.Ytapmpegblfcknaa
