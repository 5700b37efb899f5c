import Derived.Test.YtpofdjnkpplimaaCheckW4
set_option linter.unusedVariables false
set_option linter.unusedSimpArgs false
namespace Go.Proofs.Ytpofdjnkpplimaa
open Go.RowKit
/-! ravelinlaw04.Head: the walk. -/
set_option maxHeartbeats 400000 in
theorem Head04_c (w : World) : Calls Try.prog 29 #[] w fun e w' => e = .returned (.bool true) ∧ Below w.heap.size w w' := by
  have e1 : checkP [⟨6, 0, 0, 0⟩] = (0, 0) := by decide +kernel
  have e2 : checkP [⟨6, 0, 0, 0⟩, ⟨0, 0, 0, 0⟩] = (48, 1) := by decide +kernel
  have HE1 := Lib.hid e1
  have HE2 := Lib.hid e2
  clear e1 e2
  go_enter Try.func29, Try.ntmps29
  go_wp2_with fail
  refine (Check_c _ 1 [⟨6, 0, 0, 0⟩] (by intro x hx; simp at hx; subst hx; simp [I4.ok]) (by decide) _ (by rw [World.size_alloc]; exact reads_new w _ _ 4 1 (cellsI [⟨6, 0, 0, 0⟩]) rfl rfl)).mono ?_
  rintro e w1 ⟨rfl, hb1⟩
  rw [HE1.out]
  have hb1' := below_t (below1 w _) hb1
  go_wp2_with fail
  refine (Check_c _ 2 [⟨6, 0, 0, 0⟩, ⟨0, 0, 0, 0⟩] (by intro x hx; simp at hx; rcases hx with rfl | rfl <;> simp [I4.ok]) (by decide) _ (by rw [World.size_alloc]; exact reads_new w1 _ _ 4 2 (cellsI [⟨6, 0, 0, 0⟩, ⟨0, 0, 0, 0⟩]) rfl rfl)).mono ?_
  rintro e w2 ⟨rfl, hb2⟩
  rw [HE2.out]
  go_wp2
  go_ret
  exact ⟨rfl, below_t hb1' (below_t (below1 w1 _) hb2)⟩
end Go.Proofs.Ytpofdjnkpplimaa
