/-
  No cell of these rows narrows 'for every input' (looked for: loops, veiled, ifaces, maps, wideKeys, modest, calm, conditions, laid).
  DERIVED. THE GIVEN ROWS OF THIS SEAT. 8 by the template 'for every input the law returns true; each argument reads behind the call as it read before'; 0 by the template 'total and deterministic' (their statements: YtpofdjnkpplimaaTotals.lean).
  GIVEN WITH THE SEED: the statements are not yours to turn. If you find one false, say at which input.
  Laid BY PROGRAM, IN A SANDBOX (cutbox-rows.mjs): the forced cells as the released guide's own fill.sh prints them over the translation 5e1e86ef03b0f960… (all of the seat's roots in one cut). By AI agents, Wed Nov 11 2026. No macro, syntax, notation, axiom, sorry.
-/
import Derived.Test.YtpofdjnkpplimaaChecked
import GoSem.Claim
import GoSem.ClaimJoined
import GoSem.ClaimMapViews
import Derived.JoinedTies
import Derived.KernelRfl
namespace Go.Proofs.Ytpofdjnkpplimaa
/- THE CELL 'sum', in the pinned program and in every row, IS THE sha256 OF THE DUMP (.gsa) THAT YtpofdjnkpplimaaProg.lean LOADS. Nothing in Lean hashes anything: it is a label: what it is worth is what the hold of that sum in a sandbox is worth. -/
noncomputable def Try.pinned : Pinned := { name := "ytpofdjnkpplimaa", sum := "5e1e86ef03b0f960e2af550075a2f77344dcecacbce5f53a8346c9d7d85ccdbc", checked := Try.checked }
namespace Rows
def none {H : Type} : Left H := { results := [], args := [] }

/-- 'ravelinlaw03.CbpfRuns': WHATEVER THE INPUT: true; the input reads as it did. -/
def cbpfRunsSpec : ChangeSpec := { name := "cbpfRuns", fn := fun _ => fun
  | [d1, d2] => { results := [.lit (.bool true)], args := [d1, d2] }
  | _ => none }
def cbpfRunsRow : OpenClaim := { program := "ytpofdjnkpplimaa", sum := "5e1e86ef03b0f960e2af550075a2f77344dcecacbce5f53a8346c9d7d85ccdbc", func := "ravelin/ravelinlaw03.CbpfRuns", spec := "cbpfRuns", unfollowed := true, recurses := true, apart := false }
def CbpfRunsSaid : Prop := cbpfRunsRow.holds Try.pinned (OpenSpec.ofChange cbpfRunsSpec)

/-- ITS FALSE NEIGHBOUR: 'it returns false'. Refute it at one input. -/
def cbpfRunsWrong : ChangeSpec := { name := "cbpfRuns", fn := fun _ => fun
  | [d1, d2] => { results := [.lit (.bool false)], args := [d1, d2] }
  | _ => none }
def CbpfRunsWrongFalsely : Prop := cbpfRunsRow.holds Try.pinned (OpenSpec.ofChange cbpfRunsWrong)

/-- 'ravelinlaw03.CbpfEnds': WHATEVER THE INPUT: true; the input reads as it did. -/
def cbpfEndsSpec : ChangeSpec := { name := "cbpfEnds", fn := fun _ => fun
  | [d1, d2] => { results := [.lit (.bool true)], args := [d1, d2] }
  | _ => none }
def cbpfEndsRow : OpenClaim := { program := "ytpofdjnkpplimaa", sum := "5e1e86ef03b0f960e2af550075a2f77344dcecacbce5f53a8346c9d7d85ccdbc", func := "ravelin/ravelinlaw03.CbpfEnds", spec := "cbpfEnds", unfollowed := true, recurses := true, apart := false }
def CbpfEndsSaid : Prop := cbpfEndsRow.holds Try.pinned (OpenSpec.ofChange cbpfEndsSpec)

/-- ITS FALSE NEIGHBOUR: 'it returns false'. Refute it at one input. -/
def cbpfEndsWrong : ChangeSpec := { name := "cbpfEnds", fn := fun _ => fun
  | [d1, d2] => { results := [.lit (.bool false)], args := [d1, d2] }
  | _ => none }
def CbpfEndsWrongFalsely : Prop := cbpfEndsRow.holds Try.pinned (OpenSpec.ofChange cbpfEndsWrong)

/-- 'ravelinlaw03.CbpfBehind': WHATEVER THE INPUT: true; the input reads as it did. -/
def cbpfBehindSpec : ChangeSpec := { name := "cbpfBehind", fn := fun _ => fun
  | [d1, d2, d3] => { results := [.lit (.bool true)], args := [d1, d2, d3] }
  | _ => none }
def cbpfBehindRow : OpenClaim := { program := "ytpofdjnkpplimaa", sum := "5e1e86ef03b0f960e2af550075a2f77344dcecacbce5f53a8346c9d7d85ccdbc", func := "ravelin/ravelinlaw03.CbpfBehind", spec := "cbpfBehind", unfollowed := true, recurses := true, apart := false }
def CbpfBehindSaid : Prop := cbpfBehindRow.holds Try.pinned (OpenSpec.ofChange cbpfBehindSpec)

/-- ITS FALSE NEIGHBOUR: 'it returns false'. Refute it at one input. -/
def cbpfBehindWrong : ChangeSpec := { name := "cbpfBehind", fn := fun _ => fun
  | [d1, d2, d3] => { results := [.lit (.bool false)], args := [d1, d2, d3] }
  | _ => none }
def CbpfBehindWrongFalsely : Prop := cbpfBehindRow.holds Try.pinned (OpenSpec.ofChange cbpfBehindWrong)

/-- 'ravelinlaw03.CbpfFields': WHATEVER THE INPUT: true; the input reads as it did. -/
def cbpfFieldsSpec : ChangeSpec := { name := "cbpfFields", fn := fun _ => fun
  | [d1, d2, d3, d4] => { results := [.lit (.bool true)], args := [d1, d2, d3, d4] }
  | _ => none }
def cbpfFieldsRow : OpenClaim := { program := "ytpofdjnkpplimaa", sum := "5e1e86ef03b0f960e2af550075a2f77344dcecacbce5f53a8346c9d7d85ccdbc", func := "ravelin/ravelinlaw03.CbpfFields", spec := "cbpfFields", unfollowed := true, recurses := true, apart := false }
def CbpfFieldsSaid : Prop := cbpfFieldsRow.holds Try.pinned (OpenSpec.ofChange cbpfFieldsSpec)

/-- ITS FALSE NEIGHBOUR: 'it returns false'. Refute it at one input. -/
def cbpfFieldsWrong : ChangeSpec := { name := "cbpfFields", fn := fun _ => fun
  | [d1, d2, d3, d4] => { results := [.lit (.bool false)], args := [d1, d2, d3, d4] }
  | _ => none }
def CbpfFieldsWrongFalsely : Prop := cbpfFieldsRow.holds Try.pinned (OpenSpec.ofChange cbpfFieldsWrong)

/-- 'ravelinlaw03.CbpfSteps': WHATEVER THE INPUT: true; the input reads as it did. -/
def cbpfStepsSpec : ChangeSpec := { name := "cbpfSteps", fn := fun _ => fun
  | [d1, d2, d3] => { results := [.lit (.bool true)], args := [d1, d2, d3] }
  | _ => none }
def cbpfStepsRow : OpenClaim := { program := "ytpofdjnkpplimaa", sum := "5e1e86ef03b0f960e2af550075a2f77344dcecacbce5f53a8346c9d7d85ccdbc", func := "ravelin/ravelinlaw03.CbpfSteps", spec := "cbpfSteps", unfollowed := true, recurses := true, apart := false }
def CbpfStepsSaid : Prop := cbpfStepsRow.holds Try.pinned (OpenSpec.ofChange cbpfStepsSpec)

/-- ITS FALSE NEIGHBOUR: 'it returns false'. Refute it at one input. -/
def cbpfStepsWrong : ChangeSpec := { name := "cbpfSteps", fn := fun _ => fun
  | [d1, d2, d3] => { results := [.lit (.bool false)], args := [d1, d2, d3] }
  | _ => none }
def CbpfStepsWrongFalsely : Prop := cbpfStepsRow.holds Try.pinned (OpenSpec.ofChange cbpfStepsWrong)

/-- 'ravelinlaw03.CbpfBytes': WHATEVER THE INPUT: true; the input reads as it did. -/
def cbpfBytesSpec : ChangeSpec := { name := "cbpfBytes", fn := fun _ => fun
  | [d] => { results := [.lit (.bool true)], args := [d] }
  | _ => none }
def cbpfBytesRow : OpenClaim := { program := "ytpofdjnkpplimaa", sum := "5e1e86ef03b0f960e2af550075a2f77344dcecacbce5f53a8346c9d7d85ccdbc", func := "ravelin/ravelinlaw03.CbpfBytes", spec := "cbpfBytes", unfollowed := true, recurses := true, apart := false }
def CbpfBytesSaid : Prop := cbpfBytesRow.holds Try.pinned (OpenSpec.ofChange cbpfBytesSpec)

/-- ITS FALSE NEIGHBOUR: 'it returns false'. Refute it at one input. -/
def cbpfBytesWrong : ChangeSpec := { name := "cbpfBytes", fn := fun _ => fun
  | [d] => { results := [.lit (.bool false)], args := [d] }
  | _ => none }
def CbpfBytesWrongFalsely : Prop := cbpfBytesRow.holds Try.pinned (OpenSpec.ofChange cbpfBytesWrong)

/-- 'ravelinlaw03.CbpfReads': WHATEVER THE INPUT: true; the input reads as it did. -/
def cbpfReadsSpec : ChangeSpec := { name := "cbpfReads", fn := fun _ => fun
  | [d] => { results := [.lit (.bool true)], args := [d] }
  | _ => none }
def cbpfReadsRow : OpenClaim := { program := "ytpofdjnkpplimaa", sum := "5e1e86ef03b0f960e2af550075a2f77344dcecacbce5f53a8346c9d7d85ccdbc", func := "ravelin/ravelinlaw03.CbpfReads", spec := "cbpfReads", unfollowed := true, recurses := true, apart := false }
def CbpfReadsSaid : Prop := cbpfReadsRow.holds Try.pinned (OpenSpec.ofChange cbpfReadsSpec)

/-- ITS FALSE NEIGHBOUR: 'it returns false'. Refute it at one input. -/
def cbpfReadsWrong : ChangeSpec := { name := "cbpfReads", fn := fun _ => fun
  | [d] => { results := [.lit (.bool false)], args := [d] }
  | _ => none }
def CbpfReadsWrongFalsely : Prop := cbpfReadsRow.holds Try.pinned (OpenSpec.ofChange cbpfReadsWrong)

/-- 'ravelinlaw04.CheckRuns': WHATEVER THE INPUT: true; the input reads as it did. -/
def checkRunsSpec : ChangeSpec := { name := "checkRuns", fn := fun _ => fun
  | [d1, d2] => { results := [.lit (.bool true)], args := [d1, d2] }
  | _ => none }
def checkRunsRow : OpenClaim := { program := "ytpofdjnkpplimaa", sum := "5e1e86ef03b0f960e2af550075a2f77344dcecacbce5f53a8346c9d7d85ccdbc", func := "ravelin/ravelinlaw04.CheckRuns", spec := "checkRuns", unfollowed := true, recurses := true, apart := false }
def CheckRunsSaid : Prop := checkRunsRow.holds Try.pinned (OpenSpec.ofChange checkRunsSpec)

/-- ITS FALSE NEIGHBOUR: 'it returns false'. Refute it at one input. -/
def checkRunsWrong : ChangeSpec := { name := "checkRuns", fn := fun _ => fun
  | [d1, d2] => { results := [.lit (.bool false)], args := [d1, d2] }
  | _ => none }
def CheckRunsWrongFalsely : Prop := checkRunsRow.holds Try.pinned (OpenSpec.ofChange checkRunsWrong)

/- THE SECOND FORM. 'bulk': how many values and letters a reading holds, each counted each time it is reached (what is shared counts as often as it is met; a slice's spare places count too). A statement '..UptoSaid' is the law's where the arguments, and the package variables that the reading takes, are together of bulk at most 1048576: NARROWER than '..Said'. Prove '..Said' where nothing that the law and all that it calls make is longer than what came in: it says more and counts as full. Else prove '..UptoSaid'. A law counts once. -/
mutual
def uptoBulk {H : Type} : DataW H → Nat
  | .lit (.string bytes) => bytes.length + 1
  | .lit _ => 1
  | .nil => 1
  | .ptr d => uptoBulk d + 1
  | .slice elems spare => uptoBulkAll elems + uptoBulkAll spare + 1
  | .agg parts => uptoBulkAll parts + 1
  | .iface _ d => uptoBulk d + 1
  | .map entries => uptoBulkEntries entries + 1
  | .held _ => 1
def uptoBulkAll {H : Type} : List (DataW H) → Nat
  | [] => 0
  | d :: r => uptoBulk d + uptoBulkAll r
def uptoBulkEntries {H : Type} : List (Lit × DataW H) → Nat
  | [] => 0
  | x :: r => uptoBulkEntry x + uptoBulkEntries r
def uptoBulkEntry {H : Type} : Lit × DataW H → Nat
  | (.string bytes, d) => bytes.length + uptoBulk d + 1
  | (_, d) => uptoBulk d + 1
 end
def uptoSmall : (H : Type) → List (DataW H) → Bool := fun _ ds => decide (uptoBulkAll ds ≤ 1048576)
def OpenSpec.upto (s : _root_.Go.ChangeSpec) : _root_.Go.OpenSpec := { _root_.Go.OpenSpec.ofChange s with cond := some uptoSmall }

/-- 'ravelinlaw03.CbpfRuns', WHERE WHAT IT READS IS OF BULK AT MOST 1048576: true; the input reads as it did. -/
def cbpfRunsUptoRow : OpenClaim := { program := "ytpofdjnkpplimaa", sum := "5e1e86ef03b0f960e2af550075a2f77344dcecacbce5f53a8346c9d7d85ccdbc", func := "ravelin/ravelinlaw03.CbpfRuns", spec := "cbpfRuns", unfollowed := true, recurses := true, apart := false, narrowed := true }
def CbpfRunsUptoSaid : Prop := cbpfRunsUptoRow.holds Try.pinned (OpenSpec.upto cbpfRunsSpec)

/-- 'ravelinlaw03.CbpfEnds', WHERE WHAT IT READS IS OF BULK AT MOST 1048576: true; the input reads as it did. -/
def cbpfEndsUptoRow : OpenClaim := { program := "ytpofdjnkpplimaa", sum := "5e1e86ef03b0f960e2af550075a2f77344dcecacbce5f53a8346c9d7d85ccdbc", func := "ravelin/ravelinlaw03.CbpfEnds", spec := "cbpfEnds", unfollowed := true, recurses := true, apart := false, narrowed := true }
def CbpfEndsUptoSaid : Prop := cbpfEndsUptoRow.holds Try.pinned (OpenSpec.upto cbpfEndsSpec)

/-- 'ravelinlaw03.CbpfBehind', WHERE WHAT IT READS IS OF BULK AT MOST 1048576: true; the input reads as it did. -/
def cbpfBehindUptoRow : OpenClaim := { program := "ytpofdjnkpplimaa", sum := "5e1e86ef03b0f960e2af550075a2f77344dcecacbce5f53a8346c9d7d85ccdbc", func := "ravelin/ravelinlaw03.CbpfBehind", spec := "cbpfBehind", unfollowed := true, recurses := true, apart := false, narrowed := true }
def CbpfBehindUptoSaid : Prop := cbpfBehindUptoRow.holds Try.pinned (OpenSpec.upto cbpfBehindSpec)

/-- 'ravelinlaw03.CbpfFields', WHERE WHAT IT READS IS OF BULK AT MOST 1048576: true; the input reads as it did. -/
def cbpfFieldsUptoRow : OpenClaim := { program := "ytpofdjnkpplimaa", sum := "5e1e86ef03b0f960e2af550075a2f77344dcecacbce5f53a8346c9d7d85ccdbc", func := "ravelin/ravelinlaw03.CbpfFields", spec := "cbpfFields", unfollowed := true, recurses := true, apart := false, narrowed := true }
def CbpfFieldsUptoSaid : Prop := cbpfFieldsUptoRow.holds Try.pinned (OpenSpec.upto cbpfFieldsSpec)

/-- 'ravelinlaw03.CbpfSteps', WHERE WHAT IT READS IS OF BULK AT MOST 1048576: true; the input reads as it did. -/
def cbpfStepsUptoRow : OpenClaim := { program := "ytpofdjnkpplimaa", sum := "5e1e86ef03b0f960e2af550075a2f77344dcecacbce5f53a8346c9d7d85ccdbc", func := "ravelin/ravelinlaw03.CbpfSteps", spec := "cbpfSteps", unfollowed := true, recurses := true, apart := false, narrowed := true }
def CbpfStepsUptoSaid : Prop := cbpfStepsUptoRow.holds Try.pinned (OpenSpec.upto cbpfStepsSpec)

/-- 'ravelinlaw03.CbpfBytes', WHERE WHAT IT READS IS OF BULK AT MOST 1048576: true; the input reads as it did. -/
def cbpfBytesUptoRow : OpenClaim := { program := "ytpofdjnkpplimaa", sum := "5e1e86ef03b0f960e2af550075a2f77344dcecacbce5f53a8346c9d7d85ccdbc", func := "ravelin/ravelinlaw03.CbpfBytes", spec := "cbpfBytes", unfollowed := true, recurses := true, apart := false, narrowed := true }
def CbpfBytesUptoSaid : Prop := cbpfBytesUptoRow.holds Try.pinned (OpenSpec.upto cbpfBytesSpec)

/-- 'ravelinlaw03.CbpfReads', WHERE WHAT IT READS IS OF BULK AT MOST 1048576: true; the input reads as it did. -/
def cbpfReadsUptoRow : OpenClaim := { program := "ytpofdjnkpplimaa", sum := "5e1e86ef03b0f960e2af550075a2f77344dcecacbce5f53a8346c9d7d85ccdbc", func := "ravelin/ravelinlaw03.CbpfReads", spec := "cbpfReads", unfollowed := true, recurses := true, apart := false, narrowed := true }
def CbpfReadsUptoSaid : Prop := cbpfReadsUptoRow.holds Try.pinned (OpenSpec.upto cbpfReadsSpec)

/-- 'ravelinlaw04.CheckRuns', WHERE WHAT IT READS IS OF BULK AT MOST 1048576: true; the input reads as it did. -/
def checkRunsUptoRow : OpenClaim := { program := "ytpofdjnkpplimaa", sum := "5e1e86ef03b0f960e2af550075a2f77344dcecacbce5f53a8346c9d7d85ccdbc", func := "ravelin/ravelinlaw04.CheckRuns", spec := "checkRuns", unfollowed := true, recurses := true, apart := false, narrowed := true }
def CheckRunsUptoSaid : Prop := checkRunsUptoRow.holds Try.pinned (OpenSpec.upto checkRunsSpec)

end Rows
end Go.Proofs.Ytpofdjnkpplimaa
