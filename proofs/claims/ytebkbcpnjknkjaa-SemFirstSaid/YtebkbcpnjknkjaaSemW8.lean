import Derived.Test.YtebkbcpnjknkjaaSemP2
import Derived.Test.YtebkbcpnjknkjaaSemW4
set_option linter.unusedVariables false
set_option linter.unusedSimpArgs false
set_option maxRecDepth 100000
namespace Go.Proofs.Ytebkbcpnjknkjaa
open Go.RowKit
/-! sem.number, ravelinref07.Nr: the walks. -/
set_option maxHeartbeats 800000 in
theorem number_c (a : ByteArray) (x : CallP) (hx : 0 ≤ x.nr ∧ x.nr < 18446744073709551616) (w : World) : Calls Try.prog 33 #[.string a, x.val] w (NumPost7 (nrP a x) w) := by
  obtain ⟨nm, nr⟩ := x
  unfold CallP.val
  dsimp only at hx ⊢
  obtain ⟨h0, h1⟩ := hx
  by_cases hn : nm.toList = []
  · have HF : Hid (nrP a ⟨nm, nr⟩ = (nr % 4294967296, decide (nr < 4294967296))) := Lib.hid (by unfold nrP; rw [if_pos (by rw [← ByteArray.toList_eq]; exact hn)])
    have hn2 : nm.toList.isEmpty = true := by simp [hn]
    have HN := Lib.hid (And.intro h0 h1)
    clear hn
    go_enter Try.func33, Try.ntmps33
    go_wp2
    go_quiet (fail)
    go_wp2
    go_ret2
    exact ⟨ret_ub (by rw [HF.out]) (by rw [HF.out]; have := HN.out; rw [Bool.eq_iff_iff]; simp; omega), below_drN (below1 w _) _⟩
  · have hn2 : nm.toList.isEmpty = false := by simpa using hn
    have HC := Lib.hid (fun w => Number_c07 a nm w)
    obtain ⟨n, ok, hno⟩ : ∃ n ok, numP a nm = (n, ok) := ⟨_, _, rfl⟩
    have HF : Hid (nrP a ⟨nm, nr⟩ = (n, ok && nr == 0)) := Lib.hid (by unfold nrP; rw [if_neg (by rw [← ByteArray.toList_eq]; exact hn), hno])
    rw [hno] at HC
    unfold NumPost7 at HC
    dsimp only at HC
    clear hn hno
    cases ok with
    | true =>
      go_enter Try.func33, Try.ntmps33
      go_wp2_with fail
      refine (HC.out _).mono ?_
      rintro e w1 ⟨rfl, hb⟩
      have hk0 : w1.cell? ⟨w.heap.size, 0, none⟩ = some (.string nm) := keepC hb (by simp [go_sem])
      have hk1 : w1.cell? ⟨w.heap.size, 1, none⟩ = some (.int .u64 nr) := keepC hb (by simp [go_sem])
      have HB := Lib.hid (below_t (below1 w _) hb)
      clear hb
      go_wp2
      go_quiet (fail)
      go_wp2
      go_ret2
      exact ⟨ret_ub (by rw [HF.out]) (by rw [HF.out]; rfl), below_drN HB.out _⟩
    | false =>
      go_enter Try.func33, Try.ntmps33
      go_wp2_with fail
      refine (HC.out _).mono ?_
      rintro e w1 ⟨rfl, hb⟩
      have HB := Lib.hid (below_t (below1 w _) hb)
      clear hb
      go_wp2
      go_quiet (fail)
      go_wp2
      go_ret2
      exact ⟨ret_ub (by rw [HF.out]) (by rw [HF.out]; rfl), below_drN HB.out _⟩
set_option maxHeartbeats 800000 in
theorem rNr_c (a : ByteArray) (x : CallP) (hx : 0 ≤ x.nr ∧ x.nr < 18446744073709551616) (w : World) : Calls Try.prog 48 #[.string a, x.val] w (NumPost7 (nrP a x) w) := by
  obtain ⟨nm, nr⟩ := x
  unfold CallP.val
  dsimp only at hx ⊢
  obtain ⟨h0, h1⟩ := hx
  by_cases hn : nm.toList = []
  · have HF : Hid (nrP a ⟨nm, nr⟩ = (nr % 4294967296, decide (nr < 4294967296))) := Lib.hid (by unfold nrP; rw [if_pos (by rw [← ByteArray.toList_eq]; exact hn)])
    have hn2 : nm.toList.isEmpty = true := by simp [hn]
    have HN := Lib.hid (And.intro h0 h1)
    clear hn
    go_enter Try.func48, Try.ntmps48
    go_wp2
    go_quiet (fail)
    go_wp2
    go_ret2
    exact ⟨ret_ub (by rw [HF.out]) (by rw [HF.out]; have := HN.out; rw [decide_eq_decide]; omega), below_drN (below1 w _) _⟩
  · have hn2 : nm.toList.isEmpty = false := by simpa using hn
    have HC := Lib.hid (fun w => rNumber_c a nm w)
    obtain ⟨n, ok, hno⟩ : ∃ n ok, numP a nm = (n, ok) := ⟨_, _, rfl⟩
    have HF : Hid (nrP a ⟨nm, nr⟩ = (n, ok && nr == 0)) := Lib.hid (by unfold nrP; rw [if_neg (by rw [← ByteArray.toList_eq]; exact hn), hno])
    rw [hno] at HC
    unfold NumPost7 at HC
    dsimp only at HC
    clear hn hno
    cases ok with
    | true =>
      go_enter Try.func48, Try.ntmps48
      go_wp2_with fail
      refine (HC.out _).mono ?_
      rintro e w1 ⟨rfl, hb⟩
      have hk0 : w1.cell? ⟨w.heap.size, 0, none⟩ = some (.string nm) := keepC hb (by simp [go_sem])
      have hk1 : w1.cell? ⟨w.heap.size, 1, none⟩ = some (.int .u64 nr) := keepC hb (by simp [go_sem])
      have HB := Lib.hid (below_t (below1 w _) hb)
      clear hb
      go_wp2
      go_quiet (fail)
      go_wp2
      go_ret2
      exact ⟨ret_ub (by rw [HF.out]) (by rw [HF.out]; rfl), below_drN HB.out _⟩
    | false =>
      go_enter Try.func48, Try.ntmps48
      go_wp2_with fail
      refine (HC.out _).mono ?_
      rintro e w1 ⟨rfl, hb⟩
      have HB := Lib.hid (below_t (below1 w _) hb)
      clear hb
      go_wp2
      go_quiet (fail)
      go_wp2
      go_ret2
      exact ⟨ret_ub (by rw [HF.out]) (by rw [HF.out]; rfl), below_drN HB.out _⟩
end Go.Proofs.Ytebkbcpnjknkjaa
