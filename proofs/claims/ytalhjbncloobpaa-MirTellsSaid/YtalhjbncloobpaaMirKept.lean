import Derived.Test.YtalhjbncloobpaaMirLent
set_option linter.unusedVariables false
set_option linter.unusedSimpArgs false
namespace Go.Proofs.Ytalhjbncloobpaa
open Go.RowKit
/-! ravelinlaw12.Kept: the walk. -/
theorem equalIn_ir (d : Nat) (w : World) (o d' a b k t f : Int) :
    (Op.equalIn (d + 2) 34 (.agg #[.int .i64 o, .int .i64 d', .int .i64 a, .int .i64 b, .int .u32 k, .int .i64 t, .int .i64 f]) (.agg #[.int .i64 o, .int .i64 d', .int .i64 a, .int .i64 b, .int .u32 k, .int .i64 t, .int .i64 f])).run Try.prog w = .ok true w := by
  rw [equalIn_of Try.underlying34 (by kernel_rfl)]
  simp only [List.toList_toArray]
  rw [eqFields_if (r := true) (by decide) (by go_simp; rfl) (by go_simp; rfl) (by go_simp)]
  rw [eqFields_if (r := true) (by decide) (by go_simp; rfl) (by go_simp; rfl) (by go_simp)]
  rw [eqFields_if (r := true) (by decide) (by go_simp; rfl) (by go_simp; rfl) (by go_simp)]
  rw [eqFields_if (r := true) (by decide) (by go_simp; rfl) (by go_simp; rfl) (by go_simp)]
  rw [eqFields_if (r := true) (by decide) (by go_simp; rfl) (by go_simp; rfl) (by go_simp)]
  rw [eqFields_if (r := true) (by decide) (by go_simp; rfl) (by go_simp; rfl) (by go_simp)]
  rw [eqFields_if (r := true) (by decide) (by go_simp; rfl) (by go_simp; rfl) (by go_simp)]
  simp [Op.eqFields]
attribute [local go_sem high] equalIn_ir
set_option maxRecDepth 100000 in
set_option maxHeartbeats 1600000 in
theorem KeptR_c (A' : Option Addr) (regs : Int) (base g cap cap' : Nat) (q : List R7) (w : World) (hn : q.length * 56 ≤ 140737488351232) (hL : IsLentR w base q g cap) (hr' : Reads w w.heap.size 7 A' q.length (cellsR q)) :
    Calls Try.prog 30 #[.agg #[.int .i64 regs, .slice (some ⟨g, 0, none⟩) q.length cap], .agg #[.int .i64 regs, .slice A' q.length cap']] w fun e w' => e = .returned (.bool true) ∧ Below w.heap.size w w' := by
  have HR := Lib.hid hL.readsQ
  have HR' := Lib.hid hr'
  have HM := Lib.hid hL.reads
  have hcap := hL.2
  obtain ⟨b, off, he, hbl, i0, _⟩ := (HM.out.up ((below1 w (.cells #[.int .i64 regs, .slice (some ⟨g, 0, none⟩) q.length cap] 25)).trans (below_of (below1 _ (.cells #[.int .i64 regs, .slice A' q.length cap'] 25)) (by simp)))).ir (i := q.length) (x := markR) (by simp)
  injection he with he
  injection he with h1 h2
  subst h1 h2
  rw [Nat.zero_add] at i0
  change _ = some (Value.int .i64 77) at i0
  have hle : (q.length : Int) + 1 ≤ cap := by omega
  have hle2 : q.length + 1 ≤ cap := by omega
  clear hr' hL HM
  go_enter Try.func30, Try.ntmps30
  go_wp2_with fail
  go_quiet (fail)
  clear i0 hbl hle hle2 hcap
  go_wp2_with fail
  go_loopw [5] (fun i wr => ∃ n : Nat, n ≤ q.length ∧ i = .int .i64 n ∧ Below w.heap.size w wr ∧ wr.cell? ⟨w.heap.size, 1, none⟩ = some (.slice (some ⟨g, 0, none⟩) q.length cap) ∧ wr.cell? ⟨w.heap.size + 1, 1, none⟩ = some (.slice A' q.length cap')) (fun i _ => q.length - (intOf i).toNat)
  case atStart => exact ⟨0, by omega, rfl, below_drN (below_al (below1 w _) _) _, by simp [go_sem], by simp [go_sem]⟩
  case round =>
    obtain ⟨n, hn6, rfl, hBw, c1, c2⟩ := hrel
    by_cases h6 : n < q.length
    · obtain ⟨x, hx⟩ : ∃ x, q[n]? = some x := ⟨_, List.getElem?_eq_getElem h6⟩
      obtain ⟨b, off, he, hb, i0, i1, i2, i3, i4, i5, i6⟩ := (HR.out.up hBw).ir hx
      injection he with he
      injection he with h1 h2
      subst h1 h2
      obtain ⟨b', off', rfl, hb', j0, j1, j2, j3, j4, j5, j6⟩ := (HR'.out.up hBw).ir hx
      have hlt1 : (n : Int) < q.length := by omega
      clear hx
      obtain ⟨o, d, a, b2, k, t, f⟩ := x
      dsimp only at *
      simp only [Nat.zero_add] at i0 i1 i2 i3 i4 i5 i6
      go_wp2
      go_quiet (fail)
      go_wp2
      go_roundw
      case rel => exact ⟨n + 1, by omega, by go_num, below_drN hBw _, c1, c2⟩
      case measure => simp [intOf]; omega
    · go_wp2
      go_ret
      exact ⟨rfl, hBw⟩
end Go.Proofs.Ytalhjbncloobpaa
