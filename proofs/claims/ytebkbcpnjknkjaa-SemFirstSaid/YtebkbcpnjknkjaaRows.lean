/-
  NARROWER THAN 'FOR EVERY INPUT', by the rows' own cells (each row's printed sentence says how): SemChecks: loops · SemFirst: loops · SemEvals: loops · SemTurned: loops · SemNamed: loops.
  DERIVED. THE GIVEN ROWS OF THIS SEAT. 7 by the template 'for every input the law returns true; each argument reads behind the call as it read before'; 0 by the template 'total and deterministic' (their statements: YtebkbcpnjknkjaaTotals.lean).
  GIVEN WITH THE SEED: the statements are not yours to turn. If you find one false, say at which input.
  Laid BY PROGRAM, IN A SANDBOX (cutbox-rows.mjs): the forced cells as the released guide's own fill.sh prints them over the translation 51da8f336bba8dee… (all of the seat's roots in one cut). By AI agents, Wed Nov 11 2026. No macro, syntax, notation, axiom, sorry.
-/
import Derived.Test.YtebkbcpnjknkjaaChecked
import GoSem.Claim
import GoSem.ClaimJoined
import GoSem.ClaimMapViews
import Derived.JoinedTies
import Derived.KernelRfl
namespace Go.Proofs.Ytebkbcpnjknkjaa
/- THE CELL 'sum', in the pinned program and in every row, IS THE sha256 OF THE DUMP (.gsa) THAT YtebkbcpnjknkjaaProg.lean LOADS. Nothing in Lean hashes anything: it is a label: what it is worth is what the hold of that sum in a sandbox is worth. -/
noncomputable def Try.pinned : Pinned := { name := "ytebkbcpnjknkjaa", sum := "51da8f336bba8dee8a90d42bce23d53378c70c5adbb4bf9146242cede0d79b5f", checked := Try.checked }
namespace Rows
def none {H : Type} : Left H := { results := [], args := [] }

/-- 'ravelinlaw07.SemNames': WHATEVER THE INPUT: true; the input reads as it did. -/
def semNamesSpec : ChangeSpec := { name := "semNames", fn := fun _ => fun
  | [] => { results := [.lit (.bool true)], args := [] }
  | _ => none }
def semNamesRow : OpenClaim := { program := "ytebkbcpnjknkjaa", sum := "51da8f336bba8dee8a90d42bce23d53378c70c5adbb4bf9146242cede0d79b5f", func := "ravelin/ravelinlaw07.SemNames", spec := "semNames", unfollowed := true, recurses := true, apart := false }
def SemNamesSaid : Prop := semNamesRow.holds Try.pinned (OpenSpec.ofChange semNamesSpec)

/-- ITS FALSE NEIGHBOUR: 'it returns false'. Refute it at one input. -/
def semNamesWrong : ChangeSpec := { name := "semNames", fn := fun _ => fun
  | [] => { results := [.lit (.bool false)], args := [] }
  | _ => none }
def SemNamesWrongFalsely : Prop := semNamesRow.holds Try.pinned (OpenSpec.ofChange semNamesWrong)

/-- 'ravelinlaw07.SemChecks': WHATEVER THE INPUT: true; the input reads as it did. -/
def semChecksSpec : ChangeSpec := { name := "semChecks", fn := fun _ => fun
  | [d] => { results := [.lit (.bool true)], args := [d] }
  | _ => none }
def semChecksRow : OpenClaim := { program := "ytebkbcpnjknkjaa", sum := "51da8f336bba8dee8a90d42bce23d53378c70c5adbb4bf9146242cede0d79b5f", func := "ravelin/ravelinlaw07.SemChecks", spec := "semChecks", unfollowed := true, recurses := true, loops := true, apart := false }
def SemChecksSaid : Prop := semChecksRow.holds Try.pinned (OpenSpec.ofChange semChecksSpec)

/-- ITS FALSE NEIGHBOUR: 'it returns false'. Refute it at one input. -/
def semChecksWrong : ChangeSpec := { name := "semChecks", fn := fun _ => fun
  | [d] => { results := [.lit (.bool false)], args := [d] }
  | _ => none }
def SemChecksWrongFalsely : Prop := semChecksRow.holds Try.pinned (OpenSpec.ofChange semChecksWrong)

/-- 'ravelinlaw07.SemFirst': WHATEVER THE INPUT: true; the input reads as it did. -/
def semFirstSpec : ChangeSpec := { name := "semFirst", fn := fun _ => fun
  | [d] => { results := [.lit (.bool true)], args := [d] }
  | _ => none }
def semFirstRow : OpenClaim := { program := "ytebkbcpnjknkjaa", sum := "51da8f336bba8dee8a90d42bce23d53378c70c5adbb4bf9146242cede0d79b5f", func := "ravelin/ravelinlaw07.SemFirst", spec := "semFirst", unfollowed := true, recurses := true, loops := true, apart := false }
def SemFirstSaid : Prop := semFirstRow.holds Try.pinned (OpenSpec.ofChange semFirstSpec)

/-- ITS FALSE NEIGHBOUR: 'it returns false'. Refute it at one input. -/
def semFirstWrong : ChangeSpec := { name := "semFirst", fn := fun _ => fun
  | [d] => { results := [.lit (.bool false)], args := [d] }
  | _ => none }
def SemFirstWrongFalsely : Prop := semFirstRow.holds Try.pinned (OpenSpec.ofChange semFirstWrong)

/-- 'ravelinlaw07.SemEvals': WHATEVER THE INPUT: true; the input reads as it did. -/
def semEvalsSpec : ChangeSpec := { name := "semEvals", fn := fun _ => fun
  | [d1, d2] => { results := [.lit (.bool true)], args := [d1, d2] }
  | _ => none }
def semEvalsRow : OpenClaim := { program := "ytebkbcpnjknkjaa", sum := "51da8f336bba8dee8a90d42bce23d53378c70c5adbb4bf9146242cede0d79b5f", func := "ravelin/ravelinlaw07.SemEvals", spec := "semEvals", unfollowed := true, recurses := true, loops := true, apart := false }
def SemEvalsSaid : Prop := semEvalsRow.holds Try.pinned (OpenSpec.ofChange semEvalsSpec)

/-- ITS FALSE NEIGHBOUR: 'it returns false'. Refute it at one input. -/
def semEvalsWrong : ChangeSpec := { name := "semEvals", fn := fun _ => fun
  | [d1, d2] => { results := [.lit (.bool false)], args := [d1, d2] }
  | _ => none }
def SemEvalsWrongFalsely : Prop := semEvalsRow.holds Try.pinned (OpenSpec.ofChange semEvalsWrong)

/-- 'ravelinlaw07.SemTurned': WHATEVER THE INPUT: true; the input reads as it did. -/
def semTurnedSpec : ChangeSpec := { name := "semTurned", fn := fun _ => fun
  | [d1, d2] => { results := [.lit (.bool true)], args := [d1, d2] }
  | _ => none }
def semTurnedRow : OpenClaim := { program := "ytebkbcpnjknkjaa", sum := "51da8f336bba8dee8a90d42bce23d53378c70c5adbb4bf9146242cede0d79b5f", func := "ravelin/ravelinlaw07.SemTurned", spec := "semTurned", unfollowed := true, recurses := true, loops := true, apart := false }
def SemTurnedSaid : Prop := semTurnedRow.holds Try.pinned (OpenSpec.ofChange semTurnedSpec)

/-- ITS FALSE NEIGHBOUR: 'it returns false'. Refute it at one input. -/
def semTurnedWrong : ChangeSpec := { name := "semTurned", fn := fun _ => fun
  | [d1, d2] => { results := [.lit (.bool false)], args := [d1, d2] }
  | _ => none }
def SemTurnedWrongFalsely : Prop := semTurnedRow.holds Try.pinned (OpenSpec.ofChange semTurnedWrong)

/-- 'ravelinlaw07.SemTables': WHATEVER THE INPUT: true; the input reads as it did. -/
def semTablesSpec : ChangeSpec := { name := "semTables", fn := fun _ => fun
  | [d1, d2, d3] => { results := [.lit (.bool true)], args := [d1, d2, d3] }
  | _ => none }
def semTablesRow : OpenClaim := { program := "ytebkbcpnjknkjaa", sum := "51da8f336bba8dee8a90d42bce23d53378c70c5adbb4bf9146242cede0d79b5f", func := "ravelin/ravelinlaw07.SemTables", spec := "semTables", unfollowed := true, recurses := true, apart := false }
def SemTablesSaid : Prop := semTablesRow.holds Try.pinned (OpenSpec.ofChange semTablesSpec)

/-- ITS FALSE NEIGHBOUR: 'it returns false'. Refute it at one input. -/
def semTablesWrong : ChangeSpec := { name := "semTables", fn := fun _ => fun
  | [d1, d2, d3] => { results := [.lit (.bool false)], args := [d1, d2, d3] }
  | _ => none }
def SemTablesWrongFalsely : Prop := semTablesRow.holds Try.pinned (OpenSpec.ofChange semTablesWrong)

/-- 'ravelinlaw07.SemNamed': WHATEVER THE INPUT: true; the input reads as it did. -/
def semNamedSpec : ChangeSpec := { name := "semNamed", fn := fun _ => fun
  | [d1, d2] => { results := [.lit (.bool true)], args := [d1, d2] }
  | _ => none }
def semNamedRow : OpenClaim := { program := "ytebkbcpnjknkjaa", sum := "51da8f336bba8dee8a90d42bce23d53378c70c5adbb4bf9146242cede0d79b5f", func := "ravelin/ravelinlaw07.SemNamed", spec := "semNamed", unfollowed := true, recurses := true, loops := true, apart := false }
def SemNamedSaid : Prop := semNamedRow.holds Try.pinned (OpenSpec.ofChange semNamedSpec)

/-- ITS FALSE NEIGHBOUR: 'it returns false'. Refute it at one input. -/
def semNamedWrong : ChangeSpec := { name := "semNamed", fn := fun _ => fun
  | [d1, d2] => { results := [.lit (.bool false)], args := [d1, d2] }
  | _ => none }
def SemNamedWrongFalsely : Prop := semNamedRow.holds Try.pinned (OpenSpec.ofChange semNamedWrong)

/- THE SECOND FORM. 'bulk': how many values and letters a reading holds, each counted each time it is reached (what is shared counts as often as it is met; a slice's spare places count too). A statement '..UptoSaid' is the law's where the arguments, and the package variables that the reading takes, are together of bulk at most 1048576: NARROWER than '..Said'. Prove '..Said' where nothing that the law and all that it calls make is longer than what came in: it says more and counts as full. Else prove '..UptoSaid'. A law counts once. -/
mutual
def uptoBulk {H : Type} : DataW H → Nat
  | .lit (.string bytes) => bytes.length + 1
  | .lit _ => 1
  | .nil => 1
  | .ptr d => uptoBulk d + 1
  | .slice elems spare => uptoBulkAll elems + uptoBulkAll spare + 1
  | .agg parts => uptoBulkAll parts + 1
  | .iface _ d => uptoBulk d + 1
  | .map entries => uptoBulkEntries entries + 1
  | .held _ => 1
def uptoBulkAll {H : Type} : List (DataW H) → Nat
  | [] => 0
  | d :: r => uptoBulk d + uptoBulkAll r
def uptoBulkEntries {H : Type} : List (Lit × DataW H) → Nat
  | [] => 0
  | x :: r => uptoBulkEntry x + uptoBulkEntries r
def uptoBulkEntry {H : Type} : Lit × DataW H → Nat
  | (.string bytes, d) => bytes.length + uptoBulk d + 1
  | (_, d) => uptoBulk d + 1
 end
def uptoSmall : (H : Type) → List (DataW H) → Bool := fun _ ds => decide (uptoBulkAll ds ≤ 1048576)
def OpenSpec.upto (s : _root_.Go.ChangeSpec) : _root_.Go.OpenSpec := { _root_.Go.OpenSpec.ofChange s with cond := some uptoSmall }

/-- 'ravelinlaw07.SemNames', WHERE WHAT IT READS IS OF BULK AT MOST 1048576: true; the input reads as it did. -/
def semNamesUptoRow : OpenClaim := { program := "ytebkbcpnjknkjaa", sum := "51da8f336bba8dee8a90d42bce23d53378c70c5adbb4bf9146242cede0d79b5f", func := "ravelin/ravelinlaw07.SemNames", spec := "semNames", unfollowed := true, recurses := true, apart := false, narrowed := true }
def SemNamesUptoSaid : Prop := semNamesUptoRow.holds Try.pinned (OpenSpec.upto semNamesSpec)

/-- 'ravelinlaw07.SemChecks', WHERE WHAT IT READS IS OF BULK AT MOST 1048576: true; the input reads as it did. -/
def semChecksUptoRow : OpenClaim := { program := "ytebkbcpnjknkjaa", sum := "51da8f336bba8dee8a90d42bce23d53378c70c5adbb4bf9146242cede0d79b5f", func := "ravelin/ravelinlaw07.SemChecks", spec := "semChecks", unfollowed := true, recurses := true, loops := true, apart := false, narrowed := true }
def SemChecksUptoSaid : Prop := semChecksUptoRow.holds Try.pinned (OpenSpec.upto semChecksSpec)

/-- 'ravelinlaw07.SemFirst', WHERE WHAT IT READS IS OF BULK AT MOST 1048576: true; the input reads as it did. -/
def semFirstUptoRow : OpenClaim := { program := "ytebkbcpnjknkjaa", sum := "51da8f336bba8dee8a90d42bce23d53378c70c5adbb4bf9146242cede0d79b5f", func := "ravelin/ravelinlaw07.SemFirst", spec := "semFirst", unfollowed := true, recurses := true, loops := true, apart := false, narrowed := true }
def SemFirstUptoSaid : Prop := semFirstUptoRow.holds Try.pinned (OpenSpec.upto semFirstSpec)

/-- 'ravelinlaw07.SemEvals', WHERE WHAT IT READS IS OF BULK AT MOST 1048576: true; the input reads as it did. -/
def semEvalsUptoRow : OpenClaim := { program := "ytebkbcpnjknkjaa", sum := "51da8f336bba8dee8a90d42bce23d53378c70c5adbb4bf9146242cede0d79b5f", func := "ravelin/ravelinlaw07.SemEvals", spec := "semEvals", unfollowed := true, recurses := true, loops := true, apart := false, narrowed := true }
def SemEvalsUptoSaid : Prop := semEvalsUptoRow.holds Try.pinned (OpenSpec.upto semEvalsSpec)

/-- 'ravelinlaw07.SemTurned', WHERE WHAT IT READS IS OF BULK AT MOST 1048576: true; the input reads as it did. -/
def semTurnedUptoRow : OpenClaim := { program := "ytebkbcpnjknkjaa", sum := "51da8f336bba8dee8a90d42bce23d53378c70c5adbb4bf9146242cede0d79b5f", func := "ravelin/ravelinlaw07.SemTurned", spec := "semTurned", unfollowed := true, recurses := true, loops := true, apart := false, narrowed := true }
def SemTurnedUptoSaid : Prop := semTurnedUptoRow.holds Try.pinned (OpenSpec.upto semTurnedSpec)

/-- 'ravelinlaw07.SemTables', WHERE WHAT IT READS IS OF BULK AT MOST 1048576: true; the input reads as it did. -/
def semTablesUptoRow : OpenClaim := { program := "ytebkbcpnjknkjaa", sum := "51da8f336bba8dee8a90d42bce23d53378c70c5adbb4bf9146242cede0d79b5f", func := "ravelin/ravelinlaw07.SemTables", spec := "semTables", unfollowed := true, recurses := true, apart := false, narrowed := true }
def SemTablesUptoSaid : Prop := semTablesUptoRow.holds Try.pinned (OpenSpec.upto semTablesSpec)

/-- 'ravelinlaw07.SemNamed', WHERE WHAT IT READS IS OF BULK AT MOST 1048576: true; the input reads as it did. -/
def semNamedUptoRow : OpenClaim := { program := "ytebkbcpnjknkjaa", sum := "51da8f336bba8dee8a90d42bce23d53378c70c5adbb4bf9146242cede0d79b5f", func := "ravelin/ravelinlaw07.SemNamed", spec := "semNamed", unfollowed := true, recurses := true, loops := true, apart := false, narrowed := true }
def SemNamedUptoSaid : Prop := semNamedUptoRow.holds Try.pinned (OpenSpec.upto semNamedSpec)

end Rows
end Go.Proofs.Ytebkbcpnjknkjaa
