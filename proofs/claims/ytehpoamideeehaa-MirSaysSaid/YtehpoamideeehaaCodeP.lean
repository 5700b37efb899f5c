import Derived.Test.YtehpoamideeehaaCheckW1
set_option linter.unusedVariables false
set_option linter.unusedSimpArgs false
namespace Go.Proofs.Ytehpoamideeehaa
open Go.RowKit
/-! The codes that there are. -/
theorem sealsL_cases {c : Int} (h : sealsL c = true) : c ∈ aluL ++ jumpL ++ restL := by
  simpa [sealsL, List.contains_iff_mem, or_assoc] using h
theorem mem_of_memC {c : Int} {l : List Int} (h : memC c l = true) : c ∈ l := by simpa [memC] using h
theorem memC_of {c : Int} {l : List Int} (h : c ∈ l) : memC c l = true := by simpa [memC] using h
theorem memC_false {c : Int} {l : List Int} (h : c ∉ l) : memC c l = false := by simpa [memC] using h
end Go.Proofs.Ytehpoamideeehaa
