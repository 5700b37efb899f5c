import Derived.Test.YtkckaimefklenaaLowLA
import Derived.Test.YtkckaimefklenaaSameI
set_option linter.unusedVariables false
set_option linter.unusedSimpArgs false
namespace Go.Proofs.Ytkckaimefklenaa
open Go.RowKit
/-! ravelinlaw09.lives: the walk; Grown's nodes. -/
theorem grown_ok {l : List N8} {n : Nat} {side : Bool} (hl : ∀ x ∈ l, x.ok) (hn : n < 4104) (hlen : l.length ≤ 1000000000000000) : ∀ x ∈ grownP l n side, x.ok := by
  intro x hx
  unfold grownP at hx
  rcases List.mem_append.1 hx with h | h
  · obtain ⟨i, hi, rfl⟩ := List.mem_map.1 h
    have hi : i < n := by simpa using hi
    have g : ∀ a b : Int, gmin a b = a ∨ gmin a b = b := fun a b => by unfold gmin; split <;> simp
    unfold grownI N8.ok in32 in64
    dsimp only
    have g1 := g ((i : Int) + 1 + (i : Int) % 400) ((n : Int) + l.length - 1)
    refine ⟨by omega, by omega, by split <;> omega, by omega, by omega, ?_, by split <;> omega⟩
    split
    · rcases g1 with e | e <;> rw [e] <;> omega
    · split <;> omega
  · obtain ⟨y, hy, rfl⟩ := List.mem_map.1 h
    have h := hl y hy
    unfold grownJ
    split
    · exact h
    · obtain ⟨h1, h2, h3, h4, h5, h6, h7⟩ := h
      refine ⟨h1, h2, h3, h4, h5, ?_, ?_⟩
      all_goals (unfold in64 gmin gmax; dsimp only; repeat (first | split | omega))
theorem grown_len (l : List N8) (n : Nat) (side : Bool) : (grownP l n side).length = n + l.length := by simp [grownP]
def liveN : List N8 := [⟨true, 7, 0, 0, 0, 0, 0, 0⟩]
theorem live_emit (far : List (Bool × Bool)) : emitTo liveN far liveN.length = [⟨6, 0, 0, 7⟩] ∧ placeN liveN far liveN.length = 1 := by constructor <;> rfl
set_option maxRecDepth 100000 in
set_option maxHeartbeats 1600000 in
theorem lives_c (w : World) : Calls Try.prog 4 #[] w fun e w' => e = .returned (.bool true) ∧ Below w.heap.size w w' := by
  have HR : Hid (Reads (w.alloc (.cells #[.bool true, .int .u32 7, .int .i64 0, .int .u32 0, .int .i64 0, .int .u32 0, .int .i64 0, .int .i64 0] 26)) (w.alloc (.cells #[.bool true, .int .u32 7, .int .i64 0, .int .u32 0, .int .i64 0, .int .u32 0, .int .i64 0, .int .i64 0] 26)).heap.size 8 (some ⟨w.heap.size, 0, none⟩) liveN.length (cellsN liveN)) := Lib.hid (by
    have h := reads_new w #[.bool true, .int .u32 7, .int .i64 0, .int .u32 0, .int .i64 0, .int .u32 0, .int .i64 0, .int .i64 0] 26 8 1 _ rfl rfl
    rw [← World.size_alloc w (.cells #[.bool true, .int .u32 7, .int .i64 0, .int .u32 0, .int .i64 0, .int .u32 0, .int .i64 0, .int .i64 0] 26)] at h
    exact h)
  have HC := Lib.hid (Emit_c (some ⟨w.heap.size, 0, none⟩) 1 liveN (by intro x hx; simp [liveN] at hx; subst hx; simp [N8.ok, in32, in64]) (by decide) _ HR.out)
  have hc0 : (checkD liveN).1 = 0 := by decide
  have HC0 := Lib.hid hc0
  clear hc0
  go_enter Try.func4, Try.ntmps4
  go_wp2_with fail
  refine HC.out.mono ?_
  rintro e w1 ⟨hb1, ⟨h, -⟩ | ⟨-, k, -, ⟨h, -⟩ | ⟨-, v, rfl, hown⟩⟩⟩
  · exact absurd HC0.out h
  · rw [(live_emit _).2] at h; omega
  · have HB1 := Lib.hid (below_t (below1 w _) hb1)
    rw [(live_emit _).1] at hown
    have hown1 : w1.ownsRow (w.alloc (.cells #[.bool true, .int .u32 7, .int .i64 0, .int .u32 0, .int .i64 0, .int .u32 0, .int .i64 0, .int .i64 0] 26)).heap.size 45 4 v 1 (cellsI [⟨6, 0, 0, 7⟩]) := hown
    obtain ⟨g, cv, rfl, -, -⟩ := hown1.form (by decide)
    obtain ⟨b, off, e, -, i0, i1, i2, i3⟩ := (Reads.of_own hown1).insn (i := 0) (x := ⟨6, 0, 0, 7⟩) rfl
    injection e with e; injection e with e1 e2
    subst e1 e2
    simp only [Nat.zero_mul, Nat.zero_add, Nat.add_zero] at i0 i3
    clear hb1 hown hown1 i1 i2
    go_wp2
    go_ret
    exact ⟨rfl, HB1.out⟩
end Go.Proofs.Ytkckaimefklenaa
