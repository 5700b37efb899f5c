import Derived.Test.YtfpemoellglknaaCheckW1
set_option linter.unusedVariables false
set_option linter.unusedSimpArgs false
namespace Go.Proofs.Ytfpemoellglknaa
open Go.RowKit
/-! ravelinref03.Jump, alu, Seals: the walks. -/
theorem memC_no {c : Int} {l : List Int} (h : memC c l = false) (x : Int) (hx : x ∈ l) : (c == x) = false := by
  rw [beq_eq_false_iff_ne]; rintro rfl; simp [memC, hx] at h
theorem sealsL_mem (c : Int) : sealsL c = (memC c aluL || memC c jumpL || memC c restL) := by simp [sealsL, memC, List.contains_iff_mem]
end Go.Proofs.Ytfpemoellglknaa
