import Derived.Test.YtkckaimefklenaaBase
set_option linter.unusedVariables false
set_option linter.unusedSimpArgs false
namespace Go.Proofs.Ytkckaimefklenaa
open Go.RowKit
/-! Architectures' words, plainly. -/
def archP (s : List UInt8) : Int × Bool :=
  if s = [120, 56, 54, 95, 54, 52] then (3221225534, true) else if s = [114, 105, 115, 99, 118, 54, 52] then (3221225715, true) else if s = [97, 97, 114, 99, 104, 54, 52] then (3221225655, true) else (0, false)
end Go.Proofs.Ytkckaimefklenaa
