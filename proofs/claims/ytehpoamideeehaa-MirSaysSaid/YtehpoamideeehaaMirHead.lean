import Derived.Test.YtehpoamideeehaaMirRun
import Derived.Test.YtehpoamideeehaaOpenG
import Derived.Test.YtehpoamideeehaaStep
set_option linter.unusedVariables false
set_option linter.unusedSimpArgs false
namespace Go.Proofs.Ytehpoamideeehaa
open Go.RowKit
/-! ravelinlaw12.Head: the walk. -/
def headR : List R7 := [⟨1, 0, 0, 0, 7, 0, 0⟩, ⟨4, 1, 0, 0, 0, 0, 0⟩, ⟨19, 0, 1, 0, 0, 0, 0⟩]
theorem headP : runP 2 headR (List.replicate 64 0) = (14, 3, 0, 0) := by decide +kernel
set_option maxRecDepth 100000 in
set_option maxHeartbeats 1600000 in
theorem Head12_c (w : World) : Calls Try.prog 5 #[] w fun e w' => e = .returned (.bool true) ∧ Below w.heap.size w w' := by
  have HE := Lib.hid headP
  obtain ⟨i0, HI⟩ : ∃ i0, Hid (Try.prog.info? 5 = some i0 ∧ i0.zero = some (.int .u8 0) ∧ i0.size = 1 ∧ i0.bytes = 1) := by
    obtain ⟨i0, hi, hz0, hz1, hz2⟩ := info_parts infoU8
    exact ⟨i0, Lib.hid ⟨hi, hz0, hz1, hz2⟩⟩
  go_enter Try.func5, Try.ntmps5
  go_wp2_with fail
  obtain ⟨W0, hW0⟩ : ∃ W0, W0 = (w.alloc (.cells (cellsR headR).toArray 37)).alloc (.cells #[.int .i64 2, .slice (some ⟨w.heap.size, 0, none⟩) 3 3] 27) := ⟨_, rfl⟩
  have hR0 : Reads W0 W0.heap.size 7 (some ⟨w.heap.size, 0, none⟩) 3 (cellsR headR) := by
    rw [hW0]
    exact ((reads_new w _ _ 7 3 (cellsR headR) rfl rfl).alloc (by simp) _).more (by simp)
  have hb0 : Below w.heap.size w W0 := by rw [hW0]; exact below_al (below1 w _) _
  have hc0 : W0.cell? ⟨w.heap.size + 1, 0, none⟩ = some (.int .i64 2) := by rw [hW0]; simp [go_sem]
  have hc1 : W0.cell? ⟨w.heap.size + 1, 1, none⟩ = some (.slice (some ⟨w.heap.size, 0, none⟩) 3 3) := by rw [hW0]; simp [go_sem]
  have HR := Lib.hid hR0
  have hok : ∀ x ∈ headR, x.ok := by intro x hx; simp [headR] at hx; rcases hx with rfl | rfl | rfl <;> simp [R7.ok, inI64]
  have HOK := Lib.hid hok
  change Code.wp _ _ _ _ ((w.alloc (.cells (cellsR headR).toArray 37)).alloc (.cells #[.int .i64 2, .slice (some ⟨w.heap.size, 0, none⟩) 3 3] 27))
  rw [← hW0]
  clear hW0 hR0 hok
  obtain ⟨w2, hrun, hown, hg⟩ := run_make_full (P := Try.prog) W0.drew w.heap.size 40 5 i0 _ 1 Try.underlying40 HI.out.1 HI.out.2.1 HI.out.2.2.1 .i64 .i64 64 (by rw [HI.out.2.2.2]; decide) (by decide) (by show w.heap.size ≤ W0.heap.size; exact hb0.size)
  have hb2 : Below W0.heap.size W0 w2 := ⟨hg.os, hg.tape, hg.output, hg.size, fun k hk => hg.block k hk (by simp)⟩
  have HD : Hid (Reads w2 w2.heap.size 1 (some ⟨W0.drew.heap.size, 0, none⟩) 64 (numV .u8 (List.replicate 64 0))) := Lib.hid (by
    have e : (madeCells #[Value.int .u8 0] (64 * 1)).toList = numV .u8 (List.replicate 64 0) := by
      simp only [numV, List.map_replicate]; exact toList_madeCells_one _ _
    rw [← e]; exact Reads.of_own hown)
  have hc0' : w2.cell? ⟨w.heap.size + 1, 0, none⟩ = some (.int .i64 2) := keepC hb2 hc0
  have hc1' : w2.cell? ⟨w.heap.size + 1, 1, none⟩ = some (.slice (some ⟨w.heap.size, 0, none⟩) 3 3) := keepC hb2 hc1
  have hb2' : Below w.heap.size w w2 := below_t hb0 hb2
  clear hown hg
  change _ = Result.ok _ w2 at hrun
  simp at hrun
  go_region_held3 (fun W => W.cell? ⟨w.heap.size + 1, 0, none⟩ = some (.int .i64 2) ∧ W.cell? ⟨w.heap.size + 1, 1, none⟩ = some (.slice (some ⟨w.heap.size, 0, none⟩) 3 3) ∧ Below w.heap.size w W)
    (first | exact ⟨hc0, hc1, below_dr hb0⟩ | assumption | exact ⟨hc0', hc1', hb2'⟩ | exact ⟨keepC hb3 hc0', keepC hb3 hc1', below_t hb2' hb3⟩)
    (first | (go_at_call 14; go_must (refine (MRun_c (some ⟨w.heap.size, 0, none⟩) 2 3 headR _ 64 (List.replicate 64 0) HOK.out (by decide) (by decide) (by decide) w2 (HR.out.up hb2) HD.out).mono ?_; rintro e w3 ⟨rfl, hb3⟩; rw [HE.out]; simp only [ret4])))
  go_wp2
  go_ret
  exact ⟨rfl, below_t hb2' hb3⟩
end Go.Proofs.Ytehpoamideeehaa
