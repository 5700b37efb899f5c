import Derived.Test.YtapmpegblfcknaaFlowLong
import Derived.Test.YtapmpegblfcknaaFlowRef
set_option linter.unusedVariables false
set_option linter.unusedSimpArgs false
namespace Go.Proofs.Ytapmpegblfcknaa
open Go.RowKit Go.Shelf
/-! ravelinlaw10.some, head: the contracts. -/
def some10 : List I4 := [⟨32, 0, 0, 0⟩, ⟨21, 0, 1, 5⟩, ⟨6, 0, 0, 1⟩, ⟨6, 0, 0, 2⟩, ⟨6, 0, 0, 3⟩]
theorem some10_ok : ∀ x ∈ some10, x.ok := by intro x hx; simp [some10] at hx; rcases hx with rfl | rfl | rfl | rfl | rfl <;> simp [I4.ok]
theorem some10_check : (checkP some10).1 = 0 := by decide +kernel
theorem some10_long : longP some10 = 3 := by decide +kernel
theorem some10_reach : reachV some10 = [true, true, true, true, false] := by decide +kernel
set_option maxHeartbeats 400000 in
theorem some_c (w : World) : Calls Try.prog 43 #[] w fun e w' => e = .returned (.slice (some ⟨w.heap.size, 0, none⟩) 5 5) ∧ w' = w.alloc (.cells (cellsI some10).toArray 33) := by
  go_enter Try.func43, Try.ntmps43
  go_wp2
  go_ret
  exact ⟨rfl, rfl⟩
theorem NatsPost.form {w W : World} {l : List Nat} {e : Ending} (h : NatsPost w l e W) : ∃ A c, e = .returned (.slice A l.length c) ∧ Hid (Reads W W.heap.size 1 A l.length (numV .i64 (natsI l))) ∧ Below w.heap.size w W := by
  obtain ⟨v, rfl, hown, hb⟩ := h
  cases l with
  | nil =>
    rcases hown.2 with ⟨h1, _⟩ | ⟨g, cap, cur, h1, _⟩
    · subst h1; exact ⟨none, 0, rfl, Lib.hid Reads.none_, hb⟩
    · subst h1; exact ⟨_, cap, rfl, Lib.hid (Reads.of_own hown), hb⟩
  | cons x l =>
    obtain ⟨g, c, hv, -⟩ := hown.form (by simp)
    subst hv
    exact ⟨_, c, rfl, Lib.hid (Reads.of_own hown), hb⟩
set_option maxRecDepth 100000 in
set_option maxHeartbeats 800000 in
theorem Head10_c (w : World) : Calls Try.prog 23 #[] w fun e w' => e = .returned (.bool true) ∧ Below w.heap.size w w' := by
  go_enter Try.func23, Try.ntmps23
  go_wp2_with fail
  refine (some_c w).mono ?_
  rintro e w1 ⟨rfl, rfl⟩
  obtain ⟨W1, hW1⟩ : ∃ W1, W1 = w.alloc (.cells (cellsI some10).toArray 33) := ⟨_, rfl⟩
  have hb1 : Below w.heap.size w W1 := by rw [hW1]; exact below1 _ _
  have hr1 : Reads W1 W1.heap.size 4 (some ⟨w.heap.size, 0, none⟩) 5 (cellsI some10) := by rw [hW1]; have h := reads_new w (cellsI some10).toArray 33 4 5 (cellsI some10) rfl rfl; simpa using h
  have HR1 := Lib.hid hr1
  rw [← hW1]
  clear hW1 hr1
  go_wp2_with fail
  refine (Longest_c (some ⟨w.heap.size, 0, none⟩) 5 some10 some10_ok (by decide) W1 HR1.out).mono ?_
  rintro e w2 (⟨h0, -⟩ | ⟨-, rfl, hb2⟩)
  · exact absurd some10_check h0
  rw [some10_long]
  have hb2' := below_t hb1 hb2
  go_wp2_with fail
  refine (some_c w2).mono ?_
  rintro e w3 ⟨rfl, rfl⟩
  obtain ⟨W3, hW3⟩ : ∃ W3, W3 = w2.alloc (.cells (cellsI some10).toArray 33) := ⟨_, rfl⟩
  have hb3 : Below w.heap.size w W3 := by rw [hW3]; exact below_al hb2' _
  have hr3 : Reads W3 W3.heap.size 4 (some ⟨w2.heap.size, 0, none⟩) 5 (cellsI some10) := by rw [hW3]; have h := reads_new w2 (cellsI some10).toArray 33 4 5 (cellsI some10) rfl rfl; simpa using h
  have HR3 := Lib.hid hr3
  rw [← hW3]
  clear hW3 hr3
  go_wp2_with fail
  refine (Reach_c (some ⟨w2.heap.size, 0, none⟩) 5 some10 some10_ok (by decide) W3 HR3.out).mono ?_
  rintro e w4 (⟨h0, -⟩ | ⟨-, v, rfl, hown, hb4⟩)
  · exact absurd some10_check h0
  rw [some10_reach] at hown
  obtain ⟨g, c, hv, -⟩ := hown.form (by decide)
  subst hv
  have hc := hown.cells (g := g) rfl
  have c3 : w4.cell? ⟨g, 3, none⟩ = some (.bool true) := by simpa [add_plain] using hc 3 (.bool true) rfl
  have c4 : w4.cell? ⟨g, 4, none⟩ = some (.bool false) := by simpa [add_plain] using hc 4 (.bool false) rfl
  have hb4' := below_t hb3 hb4
  clear hc hown
  rw [show some10.length = 5 from rfl]
  go_wp2
  go_ret
  exact ⟨rfl, hb4'⟩
end Go.Proofs.Ytapmpegblfcknaa
