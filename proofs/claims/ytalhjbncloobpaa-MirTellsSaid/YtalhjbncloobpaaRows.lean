/-
  No cell of these rows narrows 'for every input' (looked for: loops, veiled, ifaces, maps, wideKeys, modest, calm, conditions, laid).
  DERIVED. THE GIVEN ROWS OF THIS SEAT. 12 by the template 'for every input the law returns true; each argument reads behind the call as it read before'; 0 by the template 'total and deterministic' (their statements: YtalhjbncloobpaaTotals.lean).
  GIVEN WITH THE SEED: the statements are not yours to turn. If you find one false, say at which input.
  Laid BY PROGRAM, IN A SANDBOX (cutbox-rows.mjs): the forced cells as the released guide's own fill.sh prints them over the translation 4dc495963848519f… (all of the seat's roots in one cut). By AI agents, Wed Nov 11 2026. No macro, syntax, notation, axiom, sorry.
-/
import Derived.Test.YtalhjbncloobpaaChecked
import GoSem.Claim
import GoSem.ClaimJoined
import GoSem.ClaimMapViews
import Derived.JoinedTies
import Derived.KernelRfl
namespace Go.Proofs.Ytalhjbncloobpaa
/- THE CELL 'sum', in the pinned program and in every row, IS THE sha256 OF THE DUMP (.gsa) THAT YtalhjbncloobpaaProg.lean LOADS. Nothing in Lean hashes anything: it is a label: what it is worth is what the hold of that sum in a sandbox is worth. -/
noncomputable def Try.pinned : Pinned := { name := "ytalhjbncloobpaa", sum := "4dc495963848519fde24c53d2a4230bdabd5bb1ab8a4e294d8e4c2f6fe6e8421", checked := Try.checked }
namespace Rows
def none {H : Type} : Left H := { results := [], args := [] }

/-- 'ravelinlaw21.BlindNames': WHATEVER THE INPUT: true; the input reads as it did. -/
def blindNamesSpec : ChangeSpec := { name := "blindNames", fn := fun _ => fun
  | [] => { results := [.lit (.bool true)], args := [] }
  | _ => none }
def blindNamesRow : OpenClaim := { program := "ytalhjbncloobpaa", sum := "4dc495963848519fde24c53d2a4230bdabd5bb1ab8a4e294d8e4c2f6fe6e8421", func := "ravelin/ravelinlaw21.BlindNames", spec := "blindNames", unfollowed := true, recurses := true, apart := false }
def BlindNamesSaid : Prop := blindNamesRow.holds Try.pinned (OpenSpec.ofChange blindNamesSpec)

/-- ITS FALSE NEIGHBOUR: 'it returns false'. Refute it at one input. -/
def blindNamesWrong : ChangeSpec := { name := "blindNames", fn := fun _ => fun
  | [] => { results := [.lit (.bool false)], args := [] }
  | _ => none }
def BlindNamesWrongFalsely : Prop := blindNamesRow.holds Try.pinned (OpenSpec.ofChange blindNamesWrong)

/-- 'ravelinlaw21.BlindBlinds': WHATEVER THE INPUT: true; the input reads as it did. -/
def blindBlindsSpec : ChangeSpec := { name := "blindBlinds", fn := fun _ => fun
  | [d1, d2, d3] => { results := [.lit (.bool true)], args := [d1, d2, d3] }
  | _ => none }
def blindBlindsRow : OpenClaim := { program := "ytalhjbncloobpaa", sum := "4dc495963848519fde24c53d2a4230bdabd5bb1ab8a4e294d8e4c2f6fe6e8421", func := "ravelin/ravelinlaw21.BlindBlinds", spec := "blindBlinds", unfollowed := true, recurses := true, apart := false }
def BlindBlindsSaid : Prop := blindBlindsRow.holds Try.pinned (OpenSpec.ofChange blindBlindsSpec)

/-- ITS FALSE NEIGHBOUR: 'it returns false'. Refute it at one input. -/
def blindBlindsWrong : ChangeSpec := { name := "blindBlinds", fn := fun _ => fun
  | [d1, d2, d3] => { results := [.lit (.bool false)], args := [d1, d2, d3] }
  | _ => none }
def BlindBlindsWrongFalsely : Prop := blindBlindsRow.holds Try.pinned (OpenSpec.ofChange blindBlindsWrong)

/-- 'ravelinlaw12.MirChecks': WHATEVER THE INPUT: true; the input reads as it did. -/
def mirChecksSpec : ChangeSpec := { name := "mirChecks", fn := fun _ => fun
  | [d] => { results := [.lit (.bool true)], args := [d] }
  | _ => none }
def mirChecksRow : OpenClaim := { program := "ytalhjbncloobpaa", sum := "4dc495963848519fde24c53d2a4230bdabd5bb1ab8a4e294d8e4c2f6fe6e8421", func := "ravelin/ravelinlaw12.MirChecks", spec := "mirChecks", unfollowed := true, recurses := true, apart := false }
def MirChecksSaid : Prop := mirChecksRow.holds Try.pinned (OpenSpec.ofChange mirChecksSpec)

/-- ITS FALSE NEIGHBOUR: 'it returns false'. Refute it at one input. -/
def mirChecksWrong : ChangeSpec := { name := "mirChecks", fn := fun _ => fun
  | [d] => { results := [.lit (.bool false)], args := [d] }
  | _ => none }
def MirChecksWrongFalsely : Prop := mirChecksRow.holds Try.pinned (OpenSpec.ofChange mirChecksWrong)

/-- 'ravelinlaw12.MirLong': WHATEVER THE INPUT: true; the input reads as it did. -/
def mirLongSpec : ChangeSpec := { name := "mirLong", fn := fun _ => fun
  | [d] => { results := [.lit (.bool true)], args := [d] }
  | _ => none }
def mirLongRow : OpenClaim := { program := "ytalhjbncloobpaa", sum := "4dc495963848519fde24c53d2a4230bdabd5bb1ab8a4e294d8e4c2f6fe6e8421", func := "ravelin/ravelinlaw12.MirLong", spec := "mirLong", unfollowed := true, recurses := true, apart := false }
def MirLongSaid : Prop := mirLongRow.holds Try.pinned (OpenSpec.ofChange mirLongSpec)

/-- ITS FALSE NEIGHBOUR: 'it returns false'. Refute it at one input. -/
def mirLongWrong : ChangeSpec := { name := "mirLong", fn := fun _ => fun
  | [d] => { results := [.lit (.bool false)], args := [d] }
  | _ => none }
def MirLongWrongFalsely : Prop := mirLongRow.holds Try.pinned (OpenSpec.ofChange mirLongWrong)

/-- 'ravelinlaw12.MirRuns': WHATEVER THE INPUT: true; the input reads as it did. -/
def mirRunsSpec : ChangeSpec := { name := "mirRuns", fn := fun _ => fun
  | [d1, d2] => { results := [.lit (.bool true)], args := [d1, d2] }
  | _ => none }
def mirRunsRow : OpenClaim := { program := "ytalhjbncloobpaa", sum := "4dc495963848519fde24c53d2a4230bdabd5bb1ab8a4e294d8e4c2f6fe6e8421", func := "ravelin/ravelinlaw12.MirRuns", spec := "mirRuns", unfollowed := true, recurses := true, apart := false }
def MirRunsSaid : Prop := mirRunsRow.holds Try.pinned (OpenSpec.ofChange mirRunsSpec)

/-- ITS FALSE NEIGHBOUR: 'it returns false'. Refute it at one input. -/
def mirRunsWrong : ChangeSpec := { name := "mirRuns", fn := fun _ => fun
  | [d1, d2] => { results := [.lit (.bool false)], args := [d1, d2] }
  | _ => none }
def MirRunsWrongFalsely : Prop := mirRunsRow.holds Try.pinned (OpenSpec.ofChange mirRunsWrong)

/-- 'ravelinlaw12.MirEnds': WHATEVER THE INPUT: true; the input reads as it did. -/
def mirEndsSpec : ChangeSpec := { name := "mirEnds", fn := fun _ => fun
  | [d1, d2] => { results := [.lit (.bool true)], args := [d1, d2] }
  | _ => none }
def mirEndsRow : OpenClaim := { program := "ytalhjbncloobpaa", sum := "4dc495963848519fde24c53d2a4230bdabd5bb1ab8a4e294d8e4c2f6fe6e8421", func := "ravelin/ravelinlaw12.MirEnds", spec := "mirEnds", unfollowed := true, recurses := true, apart := false }
def MirEndsSaid : Prop := mirEndsRow.holds Try.pinned (OpenSpec.ofChange mirEndsSpec)

/-- ITS FALSE NEIGHBOUR: 'it returns false'. Refute it at one input. -/
def mirEndsWrong : ChangeSpec := { name := "mirEnds", fn := fun _ => fun
  | [d1, d2] => { results := [.lit (.bool false)], args := [d1, d2] }
  | _ => none }
def MirEndsWrongFalsely : Prop := mirEndsRow.holds Try.pinned (OpenSpec.ofChange mirEndsWrong)

/-- 'ravelinlaw12.MirFields': WHATEVER THE INPUT: true; the input reads as it did. -/
def mirFieldsSpec : ChangeSpec := { name := "mirFields", fn := fun _ => fun
  | [d1, d2, d3] => { results := [.lit (.bool true)], args := [d1, d2, d3] }
  | _ => none }
def mirFieldsRow : OpenClaim := { program := "ytalhjbncloobpaa", sum := "4dc495963848519fde24c53d2a4230bdabd5bb1ab8a4e294d8e4c2f6fe6e8421", func := "ravelin/ravelinlaw12.MirFields", spec := "mirFields", unfollowed := true, recurses := true, apart := false }
def MirFieldsSaid : Prop := mirFieldsRow.holds Try.pinned (OpenSpec.ofChange mirFieldsSpec)

/-- ITS FALSE NEIGHBOUR: 'it returns false'. Refute it at one input. -/
def mirFieldsWrong : ChangeSpec := { name := "mirFields", fn := fun _ => fun
  | [d1, d2, d3] => { results := [.lit (.bool false)], args := [d1, d2, d3] }
  | _ => none }
def MirFieldsWrongFalsely : Prop := mirFieldsRow.holds Try.pinned (OpenSpec.ofChange mirFieldsWrong)

/-- 'ravelinlaw12.MirTells': WHATEVER THE INPUT: true; the input reads as it did. -/
def mirTellsSpec : ChangeSpec := { name := "mirTells", fn := fun _ => fun
  | [d1, d2] => { results := [.lit (.bool true)], args := [d1, d2] }
  | _ => none }
def mirTellsRow : OpenClaim := { program := "ytalhjbncloobpaa", sum := "4dc495963848519fde24c53d2a4230bdabd5bb1ab8a4e294d8e4c2f6fe6e8421", func := "ravelin/ravelinlaw12.MirTells", spec := "mirTells", unfollowed := true, recurses := true, apart := false }
def MirTellsSaid : Prop := mirTellsRow.holds Try.pinned (OpenSpec.ofChange mirTellsSpec)

/-- ITS FALSE NEIGHBOUR: 'it returns false'. Refute it at one input. -/
def mirTellsWrong : ChangeSpec := { name := "mirTells", fn := fun _ => fun
  | [d1, d2] => { results := [.lit (.bool false)], args := [d1, d2] }
  | _ => none }
def MirTellsWrongFalsely : Prop := mirTellsRow.holds Try.pinned (OpenSpec.ofChange mirTellsWrong)

/-- 'ravelinlaw21.BlindSays': WHATEVER THE INPUT: true; the input reads as it did. -/
def blindSaysSpec : ChangeSpec := { name := "blindSays", fn := fun _ => fun
  | [d1, d2, d3] => { results := [.lit (.bool true)], args := [d1, d2, d3] }
  | _ => none }
def blindSaysRow : OpenClaim := { program := "ytalhjbncloobpaa", sum := "4dc495963848519fde24c53d2a4230bdabd5bb1ab8a4e294d8e4c2f6fe6e8421", func := "ravelin/ravelinlaw21.BlindSays", spec := "blindSays", unfollowed := true, recurses := true, apart := false }
def BlindSaysSaid : Prop := blindSaysRow.holds Try.pinned (OpenSpec.ofChange blindSaysSpec)

/-- ITS FALSE NEIGHBOUR: 'it returns false'. Refute it at one input. -/
def blindSaysWrong : ChangeSpec := { name := "blindSays", fn := fun _ => fun
  | [d1, d2, d3] => { results := [.lit (.bool false)], args := [d1, d2, d3] }
  | _ => none }
def BlindSaysWrongFalsely : Prop := blindSaysRow.holds Try.pinned (OpenSpec.ofChange blindSaysWrong)

/-- 'ravelinlaw21.BlindTwice': WHATEVER THE INPUT: true; the input reads as it did. -/
def blindTwiceSpec : ChangeSpec := { name := "blindTwice", fn := fun _ => fun
  | [d1, d2, d3] => { results := [.lit (.bool true)], args := [d1, d2, d3] }
  | _ => none }
def blindTwiceRow : OpenClaim := { program := "ytalhjbncloobpaa", sum := "4dc495963848519fde24c53d2a4230bdabd5bb1ab8a4e294d8e4c2f6fe6e8421", func := "ravelin/ravelinlaw21.BlindTwice", spec := "blindTwice", unfollowed := true, recurses := true, apart := false }
def BlindTwiceSaid : Prop := blindTwiceRow.holds Try.pinned (OpenSpec.ofChange blindTwiceSpec)

/-- ITS FALSE NEIGHBOUR: 'it returns false'. Refute it at one input. -/
def blindTwiceWrong : ChangeSpec := { name := "blindTwice", fn := fun _ => fun
  | [d1, d2, d3] => { results := [.lit (.bool false)], args := [d1, d2, d3] }
  | _ => none }
def BlindTwiceWrongFalsely : Prop := blindTwiceRow.holds Try.pinned (OpenSpec.ofChange blindTwiceWrong)

/-- 'ravelinlaw12.MirFrom': WHATEVER THE INPUT: true; the input reads as it did. -/
def mirFromSpec : ChangeSpec := { name := "mirFrom", fn := fun _ => fun
  | [d] => { results := [.lit (.bool true)], args := [d] }
  | _ => none }
def mirFromRow : OpenClaim := { program := "ytalhjbncloobpaa", sum := "4dc495963848519fde24c53d2a4230bdabd5bb1ab8a4e294d8e4c2f6fe6e8421", func := "ravelin/ravelinlaw12.MirFrom", spec := "mirFrom", unfollowed := true, recurses := true, apart := false }
def MirFromSaid : Prop := mirFromRow.holds Try.pinned (OpenSpec.ofChange mirFromSpec)

/-- ITS FALSE NEIGHBOUR: 'it returns false'. Refute it at one input. -/
def mirFromWrong : ChangeSpec := { name := "mirFrom", fn := fun _ => fun
  | [d] => { results := [.lit (.bool false)], args := [d] }
  | _ => none }
def MirFromWrongFalsely : Prop := mirFromRow.holds Try.pinned (OpenSpec.ofChange mirFromWrong)

/-- 'ravelinlaw12.MirSays': WHATEVER THE INPUT: true; the input reads as it did. -/
def mirSaysSpec : ChangeSpec := { name := "mirSays", fn := fun _ => fun
  | [d1, d2] => { results := [.lit (.bool true)], args := [d1, d2] }
  | _ => none }
def mirSaysRow : OpenClaim := { program := "ytalhjbncloobpaa", sum := "4dc495963848519fde24c53d2a4230bdabd5bb1ab8a4e294d8e4c2f6fe6e8421", func := "ravelin/ravelinlaw12.MirSays", spec := "mirSays", unfollowed := true, recurses := true, apart := false }
def MirSaysSaid : Prop := mirSaysRow.holds Try.pinned (OpenSpec.ofChange mirSaysSpec)

/-- ITS FALSE NEIGHBOUR: 'it returns false'. Refute it at one input. -/
def mirSaysWrong : ChangeSpec := { name := "mirSays", fn := fun _ => fun
  | [d1, d2] => { results := [.lit (.bool false)], args := [d1, d2] }
  | _ => none }
def MirSaysWrongFalsely : Prop := mirSaysRow.holds Try.pinned (OpenSpec.ofChange mirSaysWrong)

/- THE SECOND FORM. 'bulk': how many values and letters a reading holds, each counted each time it is reached (what is shared counts as often as it is met; a slice's spare places count too). A statement '..UptoSaid' is the law's where the arguments, and the package variables that the reading takes, are together of bulk at most 1048576: NARROWER than '..Said'. Prove '..Said' where nothing that the law and all that it calls make is longer than what came in: it says more and counts as full. Else prove '..UptoSaid'. A law counts once. -/
mutual
def uptoBulk {H : Type} : DataW H → Nat
  | .lit (.string bytes) => bytes.length + 1
  | .lit _ => 1
  | .nil => 1
  | .ptr d => uptoBulk d + 1
  | .slice elems spare => uptoBulkAll elems + uptoBulkAll spare + 1
  | .agg parts => uptoBulkAll parts + 1
  | .iface _ d => uptoBulk d + 1
  | .map entries => uptoBulkEntries entries + 1
  | .held _ => 1
def uptoBulkAll {H : Type} : List (DataW H) → Nat
  | [] => 0
  | d :: r => uptoBulk d + uptoBulkAll r
def uptoBulkEntries {H : Type} : List (Lit × DataW H) → Nat
  | [] => 0
  | x :: r => uptoBulkEntry x + uptoBulkEntries r
def uptoBulkEntry {H : Type} : Lit × DataW H → Nat
  | (.string bytes, d) => bytes.length + uptoBulk d + 1
  | (_, d) => uptoBulk d + 1
 end
def uptoSmall : (H : Type) → List (DataW H) → Bool := fun _ ds => decide (uptoBulkAll ds ≤ 1048576)
def OpenSpec.upto (s : _root_.Go.ChangeSpec) : _root_.Go.OpenSpec := { _root_.Go.OpenSpec.ofChange s with cond := some uptoSmall }

/-- 'ravelinlaw21.BlindNames', WHERE WHAT IT READS IS OF BULK AT MOST 1048576: true; the input reads as it did. -/
def blindNamesUptoRow : OpenClaim := { program := "ytalhjbncloobpaa", sum := "4dc495963848519fde24c53d2a4230bdabd5bb1ab8a4e294d8e4c2f6fe6e8421", func := "ravelin/ravelinlaw21.BlindNames", spec := "blindNames", unfollowed := true, recurses := true, apart := false, narrowed := true }
def BlindNamesUptoSaid : Prop := blindNamesUptoRow.holds Try.pinned (OpenSpec.upto blindNamesSpec)

/-- 'ravelinlaw21.BlindBlinds', WHERE WHAT IT READS IS OF BULK AT MOST 1048576: true; the input reads as it did. -/
def blindBlindsUptoRow : OpenClaim := { program := "ytalhjbncloobpaa", sum := "4dc495963848519fde24c53d2a4230bdabd5bb1ab8a4e294d8e4c2f6fe6e8421", func := "ravelin/ravelinlaw21.BlindBlinds", spec := "blindBlinds", unfollowed := true, recurses := true, apart := false, narrowed := true }
def BlindBlindsUptoSaid : Prop := blindBlindsUptoRow.holds Try.pinned (OpenSpec.upto blindBlindsSpec)

/-- 'ravelinlaw12.MirChecks', WHERE WHAT IT READS IS OF BULK AT MOST 1048576: true; the input reads as it did. -/
def mirChecksUptoRow : OpenClaim := { program := "ytalhjbncloobpaa", sum := "4dc495963848519fde24c53d2a4230bdabd5bb1ab8a4e294d8e4c2f6fe6e8421", func := "ravelin/ravelinlaw12.MirChecks", spec := "mirChecks", unfollowed := true, recurses := true, apart := false, narrowed := true }
def MirChecksUptoSaid : Prop := mirChecksUptoRow.holds Try.pinned (OpenSpec.upto mirChecksSpec)

/-- 'ravelinlaw12.MirLong', WHERE WHAT IT READS IS OF BULK AT MOST 1048576: true; the input reads as it did. -/
def mirLongUptoRow : OpenClaim := { program := "ytalhjbncloobpaa", sum := "4dc495963848519fde24c53d2a4230bdabd5bb1ab8a4e294d8e4c2f6fe6e8421", func := "ravelin/ravelinlaw12.MirLong", spec := "mirLong", unfollowed := true, recurses := true, apart := false, narrowed := true }
def MirLongUptoSaid : Prop := mirLongUptoRow.holds Try.pinned (OpenSpec.upto mirLongSpec)

/-- 'ravelinlaw12.MirRuns', WHERE WHAT IT READS IS OF BULK AT MOST 1048576: true; the input reads as it did. -/
def mirRunsUptoRow : OpenClaim := { program := "ytalhjbncloobpaa", sum := "4dc495963848519fde24c53d2a4230bdabd5bb1ab8a4e294d8e4c2f6fe6e8421", func := "ravelin/ravelinlaw12.MirRuns", spec := "mirRuns", unfollowed := true, recurses := true, apart := false, narrowed := true }
def MirRunsUptoSaid : Prop := mirRunsUptoRow.holds Try.pinned (OpenSpec.upto mirRunsSpec)

/-- 'ravelinlaw12.MirEnds', WHERE WHAT IT READS IS OF BULK AT MOST 1048576: true; the input reads as it did. -/
def mirEndsUptoRow : OpenClaim := { program := "ytalhjbncloobpaa", sum := "4dc495963848519fde24c53d2a4230bdabd5bb1ab8a4e294d8e4c2f6fe6e8421", func := "ravelin/ravelinlaw12.MirEnds", spec := "mirEnds", unfollowed := true, recurses := true, apart := false, narrowed := true }
def MirEndsUptoSaid : Prop := mirEndsUptoRow.holds Try.pinned (OpenSpec.upto mirEndsSpec)

/-- 'ravelinlaw12.MirFields', WHERE WHAT IT READS IS OF BULK AT MOST 1048576: true; the input reads as it did. -/
def mirFieldsUptoRow : OpenClaim := { program := "ytalhjbncloobpaa", sum := "4dc495963848519fde24c53d2a4230bdabd5bb1ab8a4e294d8e4c2f6fe6e8421", func := "ravelin/ravelinlaw12.MirFields", spec := "mirFields", unfollowed := true, recurses := true, apart := false, narrowed := true }
def MirFieldsUptoSaid : Prop := mirFieldsUptoRow.holds Try.pinned (OpenSpec.upto mirFieldsSpec)

/-- 'ravelinlaw12.MirTells', WHERE WHAT IT READS IS OF BULK AT MOST 1048576: true; the input reads as it did. -/
def mirTellsUptoRow : OpenClaim := { program := "ytalhjbncloobpaa", sum := "4dc495963848519fde24c53d2a4230bdabd5bb1ab8a4e294d8e4c2f6fe6e8421", func := "ravelin/ravelinlaw12.MirTells", spec := "mirTells", unfollowed := true, recurses := true, apart := false, narrowed := true }
def MirTellsUptoSaid : Prop := mirTellsUptoRow.holds Try.pinned (OpenSpec.upto mirTellsSpec)

/-- 'ravelinlaw21.BlindSays', WHERE WHAT IT READS IS OF BULK AT MOST 1048576: true; the input reads as it did. -/
def blindSaysUptoRow : OpenClaim := { program := "ytalhjbncloobpaa", sum := "4dc495963848519fde24c53d2a4230bdabd5bb1ab8a4e294d8e4c2f6fe6e8421", func := "ravelin/ravelinlaw21.BlindSays", spec := "blindSays", unfollowed := true, recurses := true, apart := false, narrowed := true }
def BlindSaysUptoSaid : Prop := blindSaysUptoRow.holds Try.pinned (OpenSpec.upto blindSaysSpec)

/-- 'ravelinlaw21.BlindTwice', WHERE WHAT IT READS IS OF BULK AT MOST 1048576: true; the input reads as it did. -/
def blindTwiceUptoRow : OpenClaim := { program := "ytalhjbncloobpaa", sum := "4dc495963848519fde24c53d2a4230bdabd5bb1ab8a4e294d8e4c2f6fe6e8421", func := "ravelin/ravelinlaw21.BlindTwice", spec := "blindTwice", unfollowed := true, recurses := true, apart := false, narrowed := true }
def BlindTwiceUptoSaid : Prop := blindTwiceUptoRow.holds Try.pinned (OpenSpec.upto blindTwiceSpec)

/-- 'ravelinlaw12.MirFrom', WHERE WHAT IT READS IS OF BULK AT MOST 1048576: true; the input reads as it did. -/
def mirFromUptoRow : OpenClaim := { program := "ytalhjbncloobpaa", sum := "4dc495963848519fde24c53d2a4230bdabd5bb1ab8a4e294d8e4c2f6fe6e8421", func := "ravelin/ravelinlaw12.MirFrom", spec := "mirFrom", unfollowed := true, recurses := true, apart := false, narrowed := true }
def MirFromUptoSaid : Prop := mirFromUptoRow.holds Try.pinned (OpenSpec.upto mirFromSpec)

/-- 'ravelinlaw12.MirSays', WHERE WHAT IT READS IS OF BULK AT MOST 1048576: true; the input reads as it did. -/
def mirSaysUptoRow : OpenClaim := { program := "ytalhjbncloobpaa", sum := "4dc495963848519fde24c53d2a4230bdabd5bb1ab8a4e294d8e4c2f6fe6e8421", func := "ravelin/ravelinlaw12.MirSays", spec := "mirSays", unfollowed := true, recurses := true, apart := false, narrowed := true }
def MirSaysUptoSaid : Prop := mirSaysUptoRow.holds Try.pinned (OpenSpec.upto mirSaysSpec)

end Rows
end Go.Proofs.Ytalhjbncloobpaa
