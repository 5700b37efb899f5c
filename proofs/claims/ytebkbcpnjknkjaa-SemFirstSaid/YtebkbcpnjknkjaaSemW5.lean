import Derived.Test.YtebkbcpnjknkjaaSemP2
import Derived.Test.YtebkbcpnjknkjaaOwnX
set_option linter.unusedVariables false
set_option linter.unusedSimpArgs false
set_option maxRecDepth 100000
namespace Go.Proofs.Ytebkbcpnjknkjaa
open Go.RowKit
/-! sem.args, one, within, Expr: the walks. -/
theorem ret_ii {a b x y : Int} (h1 : a = b) (h2 : x = y) : Ending.returned (.tuple #[.int .i64 a, .int .i64 x]) = .returned (.tuple #[.int .i64 b, .int .i64 y]) := by rw [h1, h2]
theorem args_c (op : Int) (w : World) : Calls Try.prog 76 #[.int .i64 op] w fun e w' => e = .returned (.tuple #[.int .i64 (leastP op), .int .i64 (mostP 1099511627776 op)]) ∧ w' = w := by
  have HL : Hid (leastP op = if (op == 3) = true then 1 else if (op == 4) = true then 2 else if (op == 5) = true then 2 else 0) := Lib.hid (by unfold leastP; simp only [beq_iff_eq]; repeat' split <;> first | rfl | omega)
  have HM : Hid (mostP 1099511627776 op = if (op == 3) = true then 1 else if (op == 4) = true then 1099511627776 else if (op == 5) = true then 1099511627776 else 0) := Lib.hid (by unfold mostP; simp only [beq_iff_eq]; repeat' split <;> first | rfl | omega)
  go_enter Try.func76, Try.ntmps76
  go_wp2
  all_goals go_ret2
  all_goals exact ⟨ret_ii (by rw [HL.out]; simp [*]) (by rw [HM.out]; simp [*]), rfl⟩
set_option maxHeartbeats 1600000 in
theorem one_c (op : Int) (A : Option Addr) (n c : Nat) (f m r v : Int) (w : World) : Calls Try.prog 70 #[.agg #[.int .i64 op, .slice A n c, .int .i64 f, .int .u64 m, .int .i64 r, .int .u64 v]] w fun e w' => e = .returned (.int .i64 (oneP 1099511627776 op n f m r v)) ∧ Below w.heap.size w w' := by
  obtain ⟨L, hL⟩ : ∃ L, L = leastP op := ⟨_, rfl⟩
  obtain ⟨M, hM⟩ : ∃ M, M = mostP 1099511627776 op := ⟨_, rfl⟩
  have HA := Lib.hid (fun w => args_c op w)
  have HO : Hid (oneP 1099511627776 op n f m r v = if op < 1 ∨ 6 < op ∨ (n : Int) < L ∨ M < n then 76 else if op ≠ 6 then 0 else if f < 0 ∨ 6 < f ∨ r < 1 ∨ 6 < r then 76 else if m = 0 ∨ bits .andNot .u64 v m ≠ 0 then 75 else 0) := Lib.hid (by unfold oneP; rw [← hL, ← hM])
  rw [← hL, ← hM] at HA
  obtain ⟨bn, hbn⟩ : ∃ bn, bn = bits .andNot .u64 v m := ⟨_, rfl⟩
  rw [← hbn] at HO
  have hbits : (bits .andNot .u64 v m != 0) = (bn != 0) := by rw [hbn]
  clear hL hM
  by_cases h1 : op < 1
  · have HF : Hid (oneP 1099511627776 op n f m r v = 76) := Lib.hid (by rw [HO.out, if_pos (Or.inl h1)])
    have d1 : decide (op < 1) = true := decide_eq_true h1
    go_enter Try.func70, Try.ntmps70
    go_wp2_with fail
    refine (HA.out _).mono ?_
    rintro e w1 ⟨rfl, rfl⟩
    go_wp2
    go_ret
    exact ⟨ret_i HF.out.symm, below1 w _⟩
  have d1 : decide (op < 1) = false := decide_eq_false h1
  by_cases h2 : 6 < op
  · have HF : Hid (oneP 1099511627776 op n f m r v = 76) := Lib.hid (by rw [HO.out, if_pos (Or.inr (Or.inl h2))])
    have d2 : decide (6 < op) = true := decide_eq_true h2
    clear h1
    go_enter Try.func70, Try.ntmps70
    go_wp2_with fail
    refine (HA.out _).mono ?_
    rintro e w1 ⟨rfl, rfl⟩
    go_wp2
    go_ret
    exact ⟨ret_i HF.out.symm, below1 w _⟩
  have d2 : decide (6 < op) = false := decide_eq_false h2
  by_cases h3 : (n : Int) < L
  · have HF : Hid (oneP 1099511627776 op n f m r v = 76) := Lib.hid (by rw [HO.out, if_pos (Or.inr (Or.inr (Or.inl h3)))])
    have d3 : decide ((n : Int) < L) = true := decide_eq_true h3
    clear h1 h2
    go_enter Try.func70, Try.ntmps70
    go_wp2_with fail
    refine (HA.out _).mono ?_
    rintro e w1 ⟨rfl, rfl⟩
    go_wp2
    go_ret
    exact ⟨ret_i HF.out.symm, below1 w _⟩
  have d3 : decide ((n : Int) < L) = false := decide_eq_false h3
  by_cases h4 : M < (n : Int)
  · have HF : Hid (oneP 1099511627776 op n f m r v = 76) := Lib.hid (by rw [HO.out, if_pos (Or.inr (Or.inr (Or.inr h4)))])
    have d4 : decide (M < (n : Int)) = true := decide_eq_true h4
    clear h1 h2 h3
    go_enter Try.func70, Try.ntmps70
    go_wp2_with fail
    refine (HA.out _).mono ?_
    rintro e w1 ⟨rfl, rfl⟩
    go_wp2
    go_ret
    exact ⟨ret_i HF.out.symm, below1 w _⟩
  have d4 : decide (M < (n : Int)) = false := decide_eq_false h4
  have HO2 := HO.out
  rw [if_neg (by rintro (h | h | h | h); exact h1 h; exact h2 h; exact h3 h; exact h4 h)] at HO2
  clear h1 h2 h3 h4 HO
  by_cases h5 : op = 6
  · subst h5
    rw [if_neg (fun h => h rfl)] at HO2
    by_cases g1 : f < 0
    · rw [if_pos (Or.inl g1)] at HO2
      have HF := Lib.hid HO2
      have e1 : decide (f < 0) = true := decide_eq_true g1
      clear HO2 
      go_enter Try.func70, Try.ntmps70
      go_wp2_with fail
      refine (HA.out _).mono ?_
      rintro e w1 ⟨rfl, rfl⟩
      go_wp2
      go_ret
      exact ⟨ret_i HF.out.symm, below1 w _⟩
    have e1 : decide (f < 0) = false := decide_eq_false g1
    by_cases g2 : 6 < f
    · rw [if_pos (Or.inr (Or.inl g2))] at HO2
      have HF := Lib.hid HO2
      have e2 : decide (6 < f) = true := decide_eq_true g2
      clear HO2 
      go_enter Try.func70, Try.ntmps70
      go_wp2_with fail
      refine (HA.out _).mono ?_
      rintro e w1 ⟨rfl, rfl⟩
      go_wp2
      go_ret
      exact ⟨ret_i HF.out.symm, below1 w _⟩
    have e2 : decide (6 < f) = false := decide_eq_false g2
    by_cases g3 : r < 1
    · rw [if_pos (Or.inr (Or.inr (Or.inl g3)))] at HO2
      have HF := Lib.hid HO2
      have e3 : decide (r < 1) = true := decide_eq_true g3
      clear HO2 
      go_enter Try.func70, Try.ntmps70
      go_wp2_with fail
      refine (HA.out _).mono ?_
      rintro e w1 ⟨rfl, rfl⟩
      go_wp2
      go_ret
      exact ⟨ret_i HF.out.symm, below1 w _⟩
    have e3 : decide (r < 1) = false := decide_eq_false g3
    by_cases g4 : 6 < r
    · rw [if_pos (Or.inr (Or.inr (Or.inr g4)))] at HO2
      have HF := Lib.hid HO2
      have e4 : decide (6 < r) = true := decide_eq_true g4
      clear HO2 
      go_enter Try.func70, Try.ntmps70
      go_wp2_with fail
      refine (HA.out _).mono ?_
      rintro e w1 ⟨rfl, rfl⟩
      go_wp2
      go_ret
      exact ⟨ret_i HF.out.symm, below1 w _⟩
    have e4 : decide (6 < r) = false := decide_eq_false g4
    rw [if_neg (by rintro (h | h | h | h); exact g1 h; exact g2 h; exact g3 h; exact g4 h)] at HO2
    by_cases g5 : m = 0
    · rw [if_pos (Or.inl g5)] at HO2
      have HF := Lib.hid HO2
      have e5 : (m == 0) = true := by simp [g5]
      clear HO2 g5
      go_enter Try.func70, Try.ntmps70
      go_wp2_with fail
      refine (HA.out _).mono ?_
      rintro e w1 ⟨rfl, rfl⟩
      go_wp2
      go_ret
      exact ⟨ret_i HF.out.symm, below1 w _⟩
    have e5 : (m == 0) = false := by simpa using g5
    by_cases g6 : bn = 0
    · rw [if_neg (by rintro (h | h); exact g5 h; exact h g6)] at HO2
      have HF := Lib.hid HO2
      have e6 : (bits .andNot .u64 v m != 0) = false := by rw [hbits]; simp [g6]
      clear HO2 hbits hbn g5 g6
      go_enter Try.func70, Try.ntmps70
      go_wp2_with fail
      refine (HA.out _).mono ?_
      rintro e w1 ⟨rfl, rfl⟩
      go_wp2
      go_ret
      exact ⟨ret_i HF.out.symm, below1 w _⟩
    · rw [if_pos (Or.inr g6)] at HO2
      have HF := Lib.hid HO2
      have e6 : (bits .andNot .u64 v m != 0) = true := by rw [hbits]; simpa using g6
      clear HO2 hbits hbn g5 g6
      go_enter Try.func70, Try.ntmps70
      go_wp2_with fail
      refine (HA.out _).mono ?_
      rintro e w1 ⟨rfl, rfl⟩
      go_wp2
      go_ret
      exact ⟨ret_i HF.out.symm, below1 w _⟩
  · rw [if_pos h5] at HO2
    have HF := Lib.hid HO2
    have d5 : (op != 6) = true := by simpa using h5
    clear HO2 h5
    go_enter Try.func70, Try.ntmps70
    go_wp2_with fail
    refine (HA.out _).mono ?_
    rintro e w1 ⟨rfl, rfl⟩
    go_wp2
    go_ret
    exact ⟨ret_i HF.out.symm, below1 w _⟩
end Go.Proofs.Ytebkbcpnjknkjaa
