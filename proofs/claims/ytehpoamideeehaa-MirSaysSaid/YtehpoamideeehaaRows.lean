/-
  No cell of these rows narrows 'for every input' (looked for: loops, veiled, ifaces, maps, wideKeys, modest, calm, conditions, laid).
  DERIVED. THE GIVEN ROWS OF THIS SEAT. 2 by the template 'for every input the law returns true; each argument reads behind the call as it read before'; 0 by the template 'total and deterministic' (their statements: YtehpoamideeehaaTotals.lean).
  GIVEN WITH THE SEED: the statements are not yours to turn. If you find one false, say at which input.
  Laid BY PROGRAM, IN A SANDBOX (cutbox-rows.mjs): the forced cells as the released guide's own fill.sh prints them over the translation 4396c932d0e2dadc… (all of the seat's roots in one cut). By AI agents, Wed Nov 11 2026. No macro, syntax, notation, axiom, sorry.
-/
import Derived.Test.YtehpoamideeehaaChecked
import GoSem.Claim
import GoSem.ClaimJoined
import GoSem.ClaimMapViews
import Derived.JoinedTies
import Derived.KernelRfl
namespace Go.Proofs.Ytehpoamideeehaa
/- THE CELL 'sum', in the pinned program and in every row, IS THE sha256 OF THE DUMP (.gsa) THAT YtehpoamideeehaaProg.lean LOADS. Nothing in Lean hashes anything: it is a label: what it is worth is what the hold of that sum in a sandbox is worth. -/
noncomputable def Try.pinned : Pinned := { name := "ytehpoamideeehaa", sum := "4396c932d0e2dadc421738d7582e0f68c5b958610796ff715f0b8630ec957fbd", checked := Try.checked }
namespace Rows
def none {H : Type} : Left H := { results := [], args := [] }

/-- 'ravelinlaw12.MirFrom': WHATEVER THE INPUT: true; the input reads as it did. -/
def mirFromSpec : ChangeSpec := { name := "mirFrom", fn := fun _ => fun
  | [d] => { results := [.lit (.bool true)], args := [d] }
  | _ => none }
def mirFromRow : OpenClaim := { program := "ytehpoamideeehaa", sum := "4396c932d0e2dadc421738d7582e0f68c5b958610796ff715f0b8630ec957fbd", func := "ravelin/ravelinlaw12.MirFrom", spec := "mirFrom", unfollowed := true, recurses := true, apart := false }
def MirFromSaid : Prop := mirFromRow.holds Try.pinned (OpenSpec.ofChange mirFromSpec)

/-- ITS FALSE NEIGHBOUR: 'it returns false'. Refute it at one input. -/
def mirFromWrong : ChangeSpec := { name := "mirFrom", fn := fun _ => fun
  | [d] => { results := [.lit (.bool false)], args := [d] }
  | _ => none }
def MirFromWrongFalsely : Prop := mirFromRow.holds Try.pinned (OpenSpec.ofChange mirFromWrong)

/-- 'ravelinlaw12.MirSays': WHATEVER THE INPUT: true; the input reads as it did. -/
def mirSaysSpec : ChangeSpec := { name := "mirSays", fn := fun _ => fun
  | [d1, d2] => { results := [.lit (.bool true)], args := [d1, d2] }
  | _ => none }
def mirSaysRow : OpenClaim := { program := "ytehpoamideeehaa", sum := "4396c932d0e2dadc421738d7582e0f68c5b958610796ff715f0b8630ec957fbd", func := "ravelin/ravelinlaw12.MirSays", spec := "mirSays", unfollowed := true, recurses := true, apart := false }
def MirSaysSaid : Prop := mirSaysRow.holds Try.pinned (OpenSpec.ofChange mirSaysSpec)

/-- ITS FALSE NEIGHBOUR: 'it returns false'. Refute it at one input. -/
def mirSaysWrong : ChangeSpec := { name := "mirSays", fn := fun _ => fun
  | [d1, d2] => { results := [.lit (.bool false)], args := [d1, d2] }
  | _ => none }
def MirSaysWrongFalsely : Prop := mirSaysRow.holds Try.pinned (OpenSpec.ofChange mirSaysWrong)

/- THE SECOND FORM. 'bulk': how many values and letters a reading holds, each counted each time it is reached (what is shared counts as often as it is met; a slice's spare places count too). A statement '..UptoSaid' is the law's where the arguments, and the package variables that the reading takes, are together of bulk at most 1048576: NARROWER than '..Said'. Prove '..Said' where nothing that the law and all that it calls make is longer than what came in: it says more and counts as full. Else prove '..UptoSaid'. A law counts once. -/
mutual
def uptoBulk {H : Type} : DataW H → Nat
  | .lit (.string bytes) => bytes.length + 1
  | .lit _ => 1
  | .nil => 1
  | .ptr d => uptoBulk d + 1
  | .slice elems spare => uptoBulkAll elems + uptoBulkAll spare + 1
  | .agg parts => uptoBulkAll parts + 1
  | .iface _ d => uptoBulk d + 1
  | .map entries => uptoBulkEntries entries + 1
  | .held _ => 1
def uptoBulkAll {H : Type} : List (DataW H) → Nat
  | [] => 0
  | d :: r => uptoBulk d + uptoBulkAll r
def uptoBulkEntries {H : Type} : List (Lit × DataW H) → Nat
  | [] => 0
  | x :: r => uptoBulkEntry x + uptoBulkEntries r
def uptoBulkEntry {H : Type} : Lit × DataW H → Nat
  | (.string bytes, d) => bytes.length + uptoBulk d + 1
  | (_, d) => uptoBulk d + 1
 end
def uptoSmall : (H : Type) → List (DataW H) → Bool := fun _ ds => decide (uptoBulkAll ds ≤ 1048576)
def OpenSpec.upto (s : _root_.Go.ChangeSpec) : _root_.Go.OpenSpec := { _root_.Go.OpenSpec.ofChange s with cond := some uptoSmall }

/-- 'ravelinlaw12.MirFrom', WHERE WHAT IT READS IS OF BULK AT MOST 1048576: true; the input reads as it did. -/
def mirFromUptoRow : OpenClaim := { program := "ytehpoamideeehaa", sum := "4396c932d0e2dadc421738d7582e0f68c5b958610796ff715f0b8630ec957fbd", func := "ravelin/ravelinlaw12.MirFrom", spec := "mirFrom", unfollowed := true, recurses := true, apart := false, narrowed := true }
def MirFromUptoSaid : Prop := mirFromUptoRow.holds Try.pinned (OpenSpec.upto mirFromSpec)

/-- 'ravelinlaw12.MirSays', WHERE WHAT IT READS IS OF BULK AT MOST 1048576: true; the input reads as it did. -/
def mirSaysUptoRow : OpenClaim := { program := "ytehpoamideeehaa", sum := "4396c932d0e2dadc421738d7582e0f68c5b958610796ff715f0b8630ec957fbd", func := "ravelin/ravelinlaw12.MirSays", spec := "mirSays", unfollowed := true, recurses := true, apart := false, narrowed := true }
def MirSaysUptoSaid : Prop := mirSaysUptoRow.holds Try.pinned (OpenSpec.upto mirSaysSpec)

end Rows
end Go.Proofs.Ytehpoamideeehaa
