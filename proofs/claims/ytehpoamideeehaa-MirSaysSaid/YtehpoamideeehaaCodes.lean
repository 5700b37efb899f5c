import Derived.Test.YtehpoamideeehaaCheckW1
set_option linter.unusedVariables false
set_option linter.unusedSimpArgs false
namespace Go.Proofs.Ytehpoamideeehaa
open Go.RowKit
/-! ravelinref03.Jump, alu, Seals: the walks. -/
theorem memC_no {c : Int} {l : List Int} (h : memC c l = false) (x : Int) (hx : x ∈ l) : (c == x) = false := by
  rw [beq_eq_false_iff_ne]; rintro rfl; simp [memC, hx] at h
set_option maxHeartbeats 400000 in
theorem Jump_c (c : Int) (w : World) : Calls Try.prog 46 #[.int .u16 c] w fun e w' => e = .returned (.bool (memC c jumpL)) ∧ w = w' := by
  go_enter Try.func46, Try.ntmps46
  go_wp2
  all_goals go_ret
  all_goals exact ⟨ret_b (by simp only [beq_iff_eq, beq_eq_false_iff_ne] at *; simp [memC, jumpL, *]), rfl⟩
set_option maxHeartbeats 800000 in
theorem alu_c (c : Int) (w : World) : Calls Try.prog 45 #[.int .u16 c] w fun e w' => e = .returned (.bool (memC c aluL)) ∧ w = w' := by
  go_enter Try.func45, Try.ntmps45
  go_wp2
  all_goals go_ret
  all_goals exact ⟨ret_b (by simp only [beq_iff_eq, beq_eq_false_iff_ne] at *; simp [memC, aluL, *]), rfl⟩
theorem sealsL_mem (c : Int) : sealsL c = (memC c aluL || memC c jumpL || memC c restL) := by simp [sealsL, memC, List.contains_iff_mem]
set_option maxHeartbeats 800000 in
theorem rSeals_c (c : Int) (w : World) : Calls Try.prog 69 #[.int .u16 c] w fun e w' => e = .returned (.bool (sealsL c)) ∧ w = w' := by
  rw [sealsL_mem]
  go_enter Try.func69, Try.ntmps69
  go_wp2_with fail
  refine (alu_c c w).mono ?_
  rintro e w' ⟨rfl, rfl⟩
  go_wp2_with fail
  refine (Jump_c c w).mono ?_
  rintro e w' ⟨rfl, rfl⟩
  by_cases h1 : memC c aluL = true
  · go_wp2
    go_ret
    exact ⟨ret_b (by simp [*]), rfl⟩
  · have h1' : memC c aluL = false := by simpa using h1
    clear h1
    by_cases h2 : memC c jumpL = true
    · go_wp2
      go_ret
      exact ⟨ret_b (by simp [*]), rfl⟩
    · have h2' : memC c jumpL = false := by simpa using h2
      clear h2
      go_wp2
      all_goals go_ret
      all_goals exact ⟨ret_b (by rw [h1', h2']; simp only [beq_iff_eq, beq_eq_false_iff_ne] at *; simp [memC, restL, *]), rfl⟩
end Go.Proofs.Ytehpoamideeehaa
