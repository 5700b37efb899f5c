import Derived.Test.YtehpoamideeehaaMirW2
import Derived.Test.YtehpoamideeehaaWord
import Derived.Test.YtehpoamideeehaaRun4
set_option linter.unusedVariables false
set_option linter.unusedSimpArgs false
namespace Go.Proofs.Ytehpoamideeehaa
open Go.RowKit
/-! mir.sum, ravelinref12.Two, Says: the walks. -/
theorem ret_ib {a b : Int} {c : Bool} {k : IntKind} (h : a = b) : Ending.returned (.tuple #[.int k a, .bool c]) = .returned (.tuple #[.int k b, .bool c]) := by rw [h]
theorem sum_4 (a b : Int) (ha : u32ok a) (hb : u32ok b) (w : World) : Calls Try.prog 29 #[.int .i64 4, .int .u32 a, .int .u32 b] w fun e w' => e = .returned (.tuple #[.int .u32 (sumP 4 a b), .bool true]) ∧ w = w' := by
  obtain ⟨a0, a1⟩ := ha
  obtain ⟨b0, b1⟩ := hb
  have e31 : bits .and .u32 b 31 = b % 32 := and31 b b0 b1
  have l1 : 0 ≤ b % 32 := by omega
  have l2 : b % 32 ≤ 32 := by omega
  go_enter Try.func29, Try.ntmps29
  go_wp2
  go_ret2
  exact ⟨ret_ib (by simp [sumP]), rfl⟩
theorem Two_4 (a b : Int) (ha : u32ok a) (hb : u32ok b) (w : World) : Calls Try.prog 53 #[.int .i64 4, .int .u32 a, .int .u32 b] w fun e w' => e = .returned (.int .u32 (sumP 4 a b)) ∧ w = w' := by
  obtain ⟨a0, a1⟩ := ha
  obtain ⟨b0, b1⟩ := hb
  have e31 : bits .and .u32 b 31 = b % 32 := and31 b b0 b1
  have l1 : 0 ≤ b % 32 := by omega
  have l2 : b % 32 ≤ 32 := by omega
  go_enter Try.func53, Try.ntmps53
  go_wp2
  go_ret
  exact ⟨ret_i (by simp [sumP]), rfl⟩
theorem sum_5 (a b : Int) (ha : u32ok a) (hb : u32ok b) (w : World) : Calls Try.prog 29 #[.int .i64 5, .int .u32 a, .int .u32 b] w fun e w' => e = .returned (.tuple #[.int .u32 (sumP 5 a b), .bool true]) ∧ w = w' := by
  obtain ⟨a0, a1⟩ := ha
  obtain ⟨b0, b1⟩ := hb
  have e31 : bits .and .u32 b 31 = b % 32 := and31 b b0 b1
  have l1 : 0 ≤ b % 32 := by omega
  have l2 : b % 32 ≤ 32 := by omega
  go_enter Try.func29, Try.ntmps29
  go_wp2
  go_ret2
  exact ⟨ret_ib (by simp [sumP]), rfl⟩
theorem Two_5 (a b : Int) (ha : u32ok a) (hb : u32ok b) (w : World) : Calls Try.prog 53 #[.int .i64 5, .int .u32 a, .int .u32 b] w fun e w' => e = .returned (.int .u32 (sumP 5 a b)) ∧ w = w' := by
  obtain ⟨a0, a1⟩ := ha
  obtain ⟨b0, b1⟩ := hb
  have e31 : bits .and .u32 b 31 = b % 32 := and31 b b0 b1
  have l1 : 0 ≤ b % 32 := by omega
  have l2 : b % 32 ≤ 32 := by omega
  go_enter Try.func53, Try.ntmps53
  go_wp2
  go_ret
  exact ⟨ret_i (by simp [sumP]), rfl⟩
theorem sum_6 (a b : Int) (ha : u32ok a) (hb : u32ok b) (w : World) : Calls Try.prog 29 #[.int .i64 6, .int .u32 a, .int .u32 b] w fun e w' => e = .returned (.tuple #[.int .u32 (sumP 6 a b), .bool true]) ∧ w = w' := by
  obtain ⟨a0, a1⟩ := ha
  obtain ⟨b0, b1⟩ := hb
  have e31 : bits .and .u32 b 31 = b % 32 := and31 b b0 b1
  have l1 : 0 ≤ b % 32 := by omega
  have l2 : b % 32 ≤ 32 := by omega
  go_enter Try.func29, Try.ntmps29
  go_wp2
  go_ret2
  exact ⟨ret_ib (by simp [sumP]), rfl⟩
theorem Two_6 (a b : Int) (ha : u32ok a) (hb : u32ok b) (w : World) : Calls Try.prog 53 #[.int .i64 6, .int .u32 a, .int .u32 b] w fun e w' => e = .returned (.int .u32 (sumP 6 a b)) ∧ w = w' := by
  obtain ⟨a0, a1⟩ := ha
  obtain ⟨b0, b1⟩ := hb
  have e31 : bits .and .u32 b 31 = b % 32 := and31 b b0 b1
  have l1 : 0 ≤ b % 32 := by omega
  have l2 : b % 32 ≤ 32 := by omega
  go_enter Try.func53, Try.ntmps53
  go_wp2
  go_ret
  exact ⟨ret_i (by simp [sumP]), rfl⟩
theorem sum_7 (a b : Int) (ha : u32ok a) (hb : u32ok b) (hz : ¬ b = 0) (w : World) : Calls Try.prog 29 #[.int .i64 7, .int .u32 a, .int .u32 b] w fun e w' => e = .returned (.tuple #[.int .u32 (sumP 7 a b), .bool true]) ∧ w = w' := by
  obtain ⟨a0, a1⟩ := ha
  obtain ⟨b0, b1⟩ := hb
  have e31 : bits .and .u32 b 31 = b % 32 := and31 b b0 b1
  have l1 : 0 ≤ b % 32 := by omega
  have l2 : b % 32 ≤ 32 := by omega
  have hz' : (b == 0) = false := by simpa using hz
  go_enter Try.func29, Try.ntmps29
  go_wp2
  go_ret2
  exact ⟨ret_ib (by simp [sumP]), rfl⟩
theorem Two_7 (a b : Int) (ha : u32ok a) (hb : u32ok b) (hz : ¬ b = 0) (w : World) : Calls Try.prog 53 #[.int .i64 7, .int .u32 a, .int .u32 b] w fun e w' => e = .returned (.int .u32 (sumP 7 a b)) ∧ w = w' := by
  obtain ⟨a0, a1⟩ := ha
  obtain ⟨b0, b1⟩ := hb
  have e31 : bits .and .u32 b 31 = b % 32 := and31 b b0 b1
  have l1 : 0 ≤ b % 32 := by omega
  have l2 : b % 32 ≤ 32 := by omega
  have hz' : (b == 0) = false := by simpa using hz
  go_enter Try.func53, Try.ntmps53
  go_wp2
  go_ret
  exact ⟨ret_i (by simp [sumP]), rfl⟩
theorem sum_8 (a b : Int) (ha : u32ok a) (hb : u32ok b) (w : World) : Calls Try.prog 29 #[.int .i64 8, .int .u32 a, .int .u32 b] w fun e w' => e = .returned (.tuple #[.int .u32 (sumP 8 a b), .bool true]) ∧ w = w' := by
  obtain ⟨a0, a1⟩ := ha
  obtain ⟨b0, b1⟩ := hb
  have e31 : bits .and .u32 b 31 = b % 32 := and31 b b0 b1
  have l1 : 0 ≤ b % 32 := by omega
  have l2 : b % 32 ≤ 32 := by omega
  go_enter Try.func29, Try.ntmps29
  go_wp2
  go_ret2
  exact ⟨ret_ib (by simp [sumP]), rfl⟩
theorem Two_8 (a b : Int) (ha : u32ok a) (hb : u32ok b) (w : World) : Calls Try.prog 53 #[.int .i64 8, .int .u32 a, .int .u32 b] w fun e w' => e = .returned (.int .u32 (sumP 8 a b)) ∧ w = w' := by
  obtain ⟨a0, a1⟩ := ha
  obtain ⟨b0, b1⟩ := hb
  have e31 : bits .and .u32 b 31 = b % 32 := and31 b b0 b1
  have l1 : 0 ≤ b % 32 := by omega
  have l2 : b % 32 ≤ 32 := by omega
  go_enter Try.func53, Try.ntmps53
  go_wp2
  go_ret
  exact ⟨ret_i (by simp [sumP]), rfl⟩
theorem sum_9 (a b : Int) (ha : u32ok a) (hb : u32ok b) (w : World) : Calls Try.prog 29 #[.int .i64 9, .int .u32 a, .int .u32 b] w fun e w' => e = .returned (.tuple #[.int .u32 (sumP 9 a b), .bool true]) ∧ w = w' := by
  obtain ⟨a0, a1⟩ := ha
  obtain ⟨b0, b1⟩ := hb
  have e31 : bits .and .u32 b 31 = b % 32 := and31 b b0 b1
  have l1 : 0 ≤ b % 32 := by omega
  have l2 : b % 32 ≤ 32 := by omega
  go_enter Try.func29, Try.ntmps29
  go_wp2
  go_ret2
  exact ⟨ret_ib (by simp [sumP]), rfl⟩
theorem Two_9 (a b : Int) (ha : u32ok a) (hb : u32ok b) (w : World) : Calls Try.prog 53 #[.int .i64 9, .int .u32 a, .int .u32 b] w fun e w' => e = .returned (.int .u32 (sumP 9 a b)) ∧ w = w' := by
  obtain ⟨a0, a1⟩ := ha
  obtain ⟨b0, b1⟩ := hb
  have e31 : bits .and .u32 b 31 = b % 32 := and31 b b0 b1
  have l1 : 0 ≤ b % 32 := by omega
  have l2 : b % 32 ≤ 32 := by omega
  go_enter Try.func53, Try.ntmps53
  go_wp2
  go_ret
  exact ⟨ret_i (by simp [sumP]), rfl⟩
theorem sum_10 (a b : Int) (ha : u32ok a) (hb : u32ok b) (w : World) : Calls Try.prog 29 #[.int .i64 10, .int .u32 a, .int .u32 b] w fun e w' => e = .returned (.tuple #[.int .u32 (sumP 10 a b), .bool true]) ∧ w = w' := by
  obtain ⟨a0, a1⟩ := ha
  obtain ⟨b0, b1⟩ := hb
  have e31 : bits .and .u32 b 31 = b % 32 := and31 b b0 b1
  have l1 : 0 ≤ b % 32 := by omega
  have l2 : b % 32 ≤ 32 := by omega
  go_enter Try.func29, Try.ntmps29
  go_wp2
  go_ret2
  exact ⟨ret_ib (by simp [sumP]), rfl⟩
theorem Two_10 (a b : Int) (ha : u32ok a) (hb : u32ok b) (w : World) : Calls Try.prog 53 #[.int .i64 10, .int .u32 a, .int .u32 b] w fun e w' => e = .returned (.int .u32 (sumP 10 a b)) ∧ w = w' := by
  obtain ⟨a0, a1⟩ := ha
  obtain ⟨b0, b1⟩ := hb
  have e31 : bits .and .u32 b 31 = b % 32 := and31 b b0 b1
  have l1 : 0 ≤ b % 32 := by omega
  have l2 : b % 32 ≤ 32 := by omega
  go_enter Try.func53, Try.ntmps53
  go_wp2
  go_ret
  exact ⟨ret_i (by simp [sumP]), rfl⟩
theorem sum_11 (a b : Int) (ha : u32ok a) (hb : u32ok b) (w : World) : Calls Try.prog 29 #[.int .i64 11, .int .u32 a, .int .u32 b] w fun e w' => e = .returned (.tuple #[.int .u32 (sumP 11 a b), .bool true]) ∧ w = w' := by
  obtain ⟨a0, a1⟩ := ha
  obtain ⟨b0, b1⟩ := hb
  have e31 : bits .and .u32 b 31 = b % 32 := and31 b b0 b1
  have l1 : 0 ≤ b % 32 := by omega
  have l2 : b % 32 ≤ 32 := by omega
  go_enter Try.func29, Try.ntmps29
  go_wp2
  go_ret2
  exact ⟨ret_ib (by simp [sumP]), rfl⟩
theorem Two_11 (a b : Int) (ha : u32ok a) (hb : u32ok b) (w : World) : Calls Try.prog 53 #[.int .i64 11, .int .u32 a, .int .u32 b] w fun e w' => e = .returned (.int .u32 (sumP 11 a b)) ∧ w = w' := by
  obtain ⟨a0, a1⟩ := ha
  obtain ⟨b0, b1⟩ := hb
  have e31 : bits .and .u32 b 31 = b % 32 := and31 b b0 b1
  have l1 : 0 ≤ b % 32 := by omega
  have l2 : b % 32 ≤ 32 := by omega
  go_enter Try.func53, Try.ntmps53
  go_wp2
  go_ret
  exact ⟨ret_i (by simp [sumP]), rfl⟩
theorem sum_12 (a b : Int) (ha : u32ok a) (hb : u32ok b) (w : World) : Calls Try.prog 29 #[.int .i64 12, .int .u32 a, .int .u32 b] w fun e w' => e = .returned (.tuple #[.int .u32 (sumP 12 a b), .bool true]) ∧ w = w' := by
  obtain ⟨a0, a1⟩ := ha
  obtain ⟨b0, b1⟩ := hb
  have e31 : bits .and .u32 b 31 = b % 32 := and31 b b0 b1
  have l1 : 0 ≤ b % 32 := by omega
  have l2 : b % 32 ≤ 32 := by omega
  go_enter Try.func29, Try.ntmps29
  go_wp2
  go_ret2
  exact ⟨ret_ib (by simp [sumP]), rfl⟩
theorem Two_12 (a b : Int) (ha : u32ok a) (hb : u32ok b) (w : World) : Calls Try.prog 53 #[.int .i64 12, .int .u32 a, .int .u32 b] w fun e w' => e = .returned (.int .u32 (sumP 12 a b)) ∧ w = w' := by
  obtain ⟨a0, a1⟩ := ha
  obtain ⟨b0, b1⟩ := hb
  have e31 : bits .and .u32 b 31 = b % 32 := and31 b b0 b1
  have l1 : 0 ≤ b % 32 := by omega
  have l2 : b % 32 ≤ 32 := by omega
  go_enter Try.func53, Try.ntmps53
  go_wp2
  go_ret
  exact ⟨ret_i (by simp [sumP]), rfl⟩
theorem sum_zero (a : Int) (w : World) : Calls Try.prog 29 #[.int .i64 7, .int .u32 a, .int .u32 0] w fun e w' => e = .returned (.tuple #[.int .u32 0, .bool false]) ∧ w = w' := by
  go_enter Try.func29, Try.ntmps29
  go_wp2
  go_ret2
  exact ⟨rfl, rfl⟩
theorem Says_15 (a b : Int) (w : World) : Calls Try.prog 54 #[.int .i64 15, .int .u32 a, .int .u32 b] w fun e w' => e = .returned (.bool (saysP 15 a b)) ∧ w = w' := by
  go_enter Try.func54, Try.ntmps54
  go_wp2
  go_ret
  exact ⟨ret_b (by simp [saysP]), rfl⟩
theorem Says_16 (a b : Int) (w : World) : Calls Try.prog 54 #[.int .i64 16, .int .u32 a, .int .u32 b] w fun e w' => e = .returned (.bool (saysP 16 a b)) ∧ w = w' := by
  go_enter Try.func54, Try.ntmps54
  go_wp2
  go_ret
  exact ⟨ret_b (by simp [saysP]), rfl⟩
theorem Says_17 (a b : Int) (w : World) : Calls Try.prog 54 #[.int .i64 17, .int .u32 a, .int .u32 b] w fun e w' => e = .returned (.bool (saysP 17 a b)) ∧ w = w' := by
  go_enter Try.func54, Try.ntmps54
  go_wp2
  go_ret
  exact ⟨ret_b (by simp [saysP]), rfl⟩
theorem Says_18 (a b : Int) (w : World) : Calls Try.prog 54 #[.int .i64 18, .int .u32 a, .int .u32 b] w fun e w' => e = .returned (.bool (saysP 18 a b)) ∧ w = w' := by
  go_enter Try.func54, Try.ntmps54
  go_wp2
  go_ret
  exact ⟨ret_b (by simp [saysP]), rfl⟩
theorem mid_cases {o : Int} (h1 : 4 ≤ o) (h2 : o ≤ 12) : o = 4 ∨ o = 5 ∨ o = 6 ∨ o = 7 ∨ o = 8 ∨ o = 9 ∨ o = 10 ∨ o = 11 ∨ o = 12 := by omega
theorem sum_c (o a b : Int) (h1 : 4 ≤ o) (h2 : o ≤ 12) (ha : u32ok a) (hb : u32ok b) (hz : ¬ (o = 7 ∧ b = 0)) (w : World) : Calls Try.prog 29 #[.int .i64 o, .int .u32 a, .int .u32 b] w fun e w' => e = .returned (.tuple #[.int .u32 (sumP o a b), .bool true]) ∧ w = w' := by
  rcases mid_cases h1 h2 with rfl | rfl | rfl | rfl | rfl | rfl | rfl | rfl | rfl
  · exact sum_4 a b ha hb w
  · exact sum_5 a b ha hb w
  · exact sum_6 a b ha hb w
  · exact sum_7 a b ha hb (fun h => hz ⟨rfl, h⟩) w
  · exact sum_8 a b ha hb w
  · exact sum_9 a b ha hb w
  · exact sum_10 a b ha hb w
  · exact sum_11 a b ha hb w
  · exact sum_12 a b ha hb w
theorem Two_c (o a b : Int) (h1 : 4 ≤ o) (h2 : o ≤ 12) (ha : u32ok a) (hb : u32ok b) (hz : ¬ (o = 7 ∧ b = 0)) (w : World) : Calls Try.prog 53 #[.int .i64 o, .int .u32 a, .int .u32 b] w fun e w' => e = .returned (.int .u32 (sumP o a b)) ∧ w = w' := by
  rcases mid_cases h1 h2 with rfl | rfl | rfl | rfl | rfl | rfl | rfl | rfl | rfl
  · exact Two_4 a b ha hb w
  · exact Two_5 a b ha hb w
  · exact Two_6 a b ha hb w
  · exact Two_7 a b ha hb (fun h => hz ⟨rfl, h⟩) w
  · exact Two_8 a b ha hb w
  · exact Two_9 a b ha hb w
  · exact Two_10 a b ha hb w
  · exact Two_11 a b ha hb w
  · exact Two_12 a b ha hb w
theorem Says_c (o a b : Int) (h1 : 15 ≤ o) (h2 : o ≤ 18) (w : World) : Calls Try.prog 54 #[.int .i64 o, .int .u32 a, .int .u32 b] w fun e w' => e = .returned (.bool (saysP o a b)) ∧ w = w' := by
  rcases (by omega : o = 15 ∨ o = 16 ∨ o = 17 ∨ o = 18) with rfl | rfl | rfl | rfl
  · exact Says_15 a b w
  · exact Says_16 a b w
  · exact Says_17 a b w
  · exact Says_18 a b w
end Go.Proofs.Ytehpoamideeehaa
