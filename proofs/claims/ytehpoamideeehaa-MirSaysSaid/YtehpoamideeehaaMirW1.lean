import Derived.Test.YtehpoamideeehaaMirPure
set_option linter.unusedVariables false
set_option linter.unusedSimpArgs false
namespace Go.Proofs.Ytehpoamideeehaa
open Go.RowKit
/-! mir.of, mir.wrong$1, mir.wrong$2: the walks. -/
def ofV (d a b t f k : Bool) : Value := .tuple #[.agg #[.bool d, .bool a, .bool b, .bool t, .bool f], .bool k]
theorem of_1 (w : World) : Calls Try.prog 39 #[.int .i64 1] w fun e w' => e = .returned (ofV true false false false false true) ∧ Below w.heap.size w w' := by
  go_enter Try.func39, Try.ntmps39
  go_wp2
  refine bodyPost_ret (v := .tuple #[.agg #[.bool true, .bool false, .bool false, .bool false, .bool false], .bool true]) (by simp [results, Try.results39, go_sem]) rfl ⟨rfl, below1 _ _⟩
theorem of_2 (w : World) : Calls Try.prog 39 #[.int .i64 2] w fun e w' => e = .returned (ofV true true false false false true) ∧ Below w.heap.size w w' := by
  go_enter Try.func39, Try.ntmps39
  go_wp2
  refine bodyPost_ret (v := .tuple #[.agg #[.bool true, .bool true, .bool false, .bool false, .bool false], .bool true]) (by simp [results, Try.results39, go_sem]) rfl ⟨rfl, below1 _ _⟩
theorem of_3 (w : World) : Calls Try.prog 39 #[.int .i64 3] w fun e w' => e = .returned (ofV true false false false false true) ∧ Below w.heap.size w w' := by
  go_enter Try.func39, Try.ntmps39
  go_wp2
  refine bodyPost_ret (v := .tuple #[.agg #[.bool true, .bool false, .bool false, .bool false, .bool false], .bool true]) (by simp [results, Try.results39, go_sem]) rfl ⟨rfl, below1 _ _⟩
theorem of_13 (w : World) : Calls Try.prog 39 #[.int .i64 13] w fun e w' => e = .returned (ofV true true false false false true) ∧ Below w.heap.size w w' := by
  go_enter Try.func39, Try.ntmps39
  go_wp2
  refine bodyPost_ret (v := .tuple #[.agg #[.bool true, .bool true, .bool false, .bool false, .bool false], .bool true]) (by simp [results, Try.results39, go_sem]) rfl ⟨rfl, below1 _ _⟩
theorem of_14 (w : World) : Calls Try.prog 39 #[.int .i64 14] w fun e w' => e = .returned (ofV false false false true false true) ∧ Below w.heap.size w w' := by
  go_enter Try.func39, Try.ntmps39
  go_wp2
  refine bodyPost_ret (v := .tuple #[.agg #[.bool false, .bool false, .bool false, .bool true, .bool false], .bool true]) (by simp [results, Try.results39, go_sem]) rfl ⟨rfl, below1 _ _⟩
theorem of_15 (w : World) : Calls Try.prog 39 #[.int .i64 15] w fun e w' => e = .returned (ofV false true true true true true) ∧ Below w.heap.size w w' := by
  go_enter Try.func39, Try.ntmps39
  go_wp2
  refine bodyPost_ret (v := .tuple #[.agg #[.bool false, .bool true, .bool true, .bool true, .bool true], .bool true]) (by simp [results, Try.results39, go_sem]) rfl ⟨rfl, below1 _ _⟩
theorem of_16 (w : World) : Calls Try.prog 39 #[.int .i64 16] w fun e w' => e = .returned (ofV false true true true true true) ∧ Below w.heap.size w w' := by
  go_enter Try.func39, Try.ntmps39
  go_wp2
  refine bodyPost_ret (v := .tuple #[.agg #[.bool false, .bool true, .bool true, .bool true, .bool true], .bool true]) (by simp [results, Try.results39, go_sem]) rfl ⟨rfl, below1 _ _⟩
theorem of_17 (w : World) : Calls Try.prog 39 #[.int .i64 17] w fun e w' => e = .returned (ofV false true true true true true) ∧ Below w.heap.size w w' := by
  go_enter Try.func39, Try.ntmps39
  go_wp2
  refine bodyPost_ret (v := .tuple #[.agg #[.bool false, .bool true, .bool true, .bool true, .bool true], .bool true]) (by simp [results, Try.results39, go_sem]) rfl ⟨rfl, below1 _ _⟩
theorem of_18 (w : World) : Calls Try.prog 39 #[.int .i64 18] w fun e w' => e = .returned (ofV false true true true true true) ∧ Below w.heap.size w w' := by
  go_enter Try.func39, Try.ntmps39
  go_wp2
  refine bodyPost_ret (v := .tuple #[.agg #[.bool false, .bool true, .bool true, .bool true, .bool true], .bool true]) (by simp [results, Try.results39, go_sem]) rfl ⟨rfl, below1 _ _⟩
theorem of_19 (w : World) : Calls Try.prog 39 #[.int .i64 19] w fun e w' => e = .returned (ofV false true false false false true) ∧ Below w.heap.size w w' := by
  go_enter Try.func39, Try.ntmps39
  go_wp2
  refine bodyPost_ret (v := .tuple #[.agg #[.bool false, .bool true, .bool false, .bool false, .bool false], .bool true]) (by simp [results, Try.results39, go_sem]) rfl ⟨rfl, below1 _ _⟩
theorem of_mid (o : Int) (h1 : 4 ≤ o) (h2 : o ≤ 12) (w : World) : Calls Try.prog 39 #[.int .i64 o] w fun e w' => e = .returned (ofV true true true false false true) ∧ Below w.heap.size w w' := by
  have n1 : (o == 1) = false := by rw [beq_eq_false_iff_ne]; omega
  have n2 : (o == 2) = false := by rw [beq_eq_false_iff_ne]; omega
  have n3 : (o == 3) = false := by rw [beq_eq_false_iff_ne]; omega
  have n13 : (o == 13) = false := by rw [beq_eq_false_iff_ne]; omega
  have n14 : (o == 14) = false := by rw [beq_eq_false_iff_ne]; omega
  have n15 : (o == 15) = false := by rw [beq_eq_false_iff_ne]; omega
  have n16 : (o == 16) = false := by rw [beq_eq_false_iff_ne]; omega
  have n17 : (o == 17) = false := by rw [beq_eq_false_iff_ne]; omega
  have n18 : (o == 18) = false := by rw [beq_eq_false_iff_ne]; omega
  have n19 : (o == 19) = false := by rw [beq_eq_false_iff_ne]; omega
  have g1 : decide (4 ≤ o) = true := by simpa using h1
  have g2 : decide (o ≤ 12) = true := by simpa using h2
  go_enter Try.func39, Try.ntmps39
  go_wp2
  refine bodyPost_ret (v := .tuple #[.agg #[.bool true, .bool true, .bool true, .bool false, .bool false], .bool true]) (by simp [results, Try.results39, go_sem]) rfl ⟨rfl, below1 _ _⟩
theorem of_lo (o : Int) (h1 : ¬ 4 ≤ o) (h2 : ¬ o = 1) (h3 : ¬ o = 2) (h4 : ¬ o = 3) (w : World) : Calls Try.prog 39 #[.int .i64 o] w fun e w' => e = .returned (ofV true true true false false false) ∧ Below w.heap.size w w' := by
  have n1 : (o == 1) = false := by rw [beq_eq_false_iff_ne]; omega
  have n2 : (o == 2) = false := by rw [beq_eq_false_iff_ne]; omega
  have n3 : (o == 3) = false := by rw [beq_eq_false_iff_ne]; omega
  have n13 : (o == 13) = false := by rw [beq_eq_false_iff_ne]; omega
  have n14 : (o == 14) = false := by rw [beq_eq_false_iff_ne]; omega
  have n15 : (o == 15) = false := by rw [beq_eq_false_iff_ne]; omega
  have n16 : (o == 16) = false := by rw [beq_eq_false_iff_ne]; omega
  have n17 : (o == 17) = false := by rw [beq_eq_false_iff_ne]; omega
  have n18 : (o == 18) = false := by rw [beq_eq_false_iff_ne]; omega
  have n19 : (o == 19) = false := by rw [beq_eq_false_iff_ne]; omega
  have g1 : decide (4 ≤ o) = false := by simpa using h1
  go_enter Try.func39, Try.ntmps39
  go_wp2
  refine bodyPost_ret (v := .tuple #[.agg #[.bool true, .bool true, .bool true, .bool false, .bool false], .bool false]) (by simp [results, Try.results39, go_sem]) rfl ⟨rfl, below1 _ _⟩
theorem of_hi (o : Int) (h1 : 19 < o) (w : World) : Calls Try.prog 39 #[.int .i64 o] w fun e w' => e = .returned (ofV true true true false false false) ∧ Below w.heap.size w w' := by
  have n1 : (o == 1) = false := by rw [beq_eq_false_iff_ne]; omega
  have n2 : (o == 2) = false := by rw [beq_eq_false_iff_ne]; omega
  have n3 : (o == 3) = false := by rw [beq_eq_false_iff_ne]; omega
  have n13 : (o == 13) = false := by rw [beq_eq_false_iff_ne]; omega
  have n14 : (o == 14) = false := by rw [beq_eq_false_iff_ne]; omega
  have n15 : (o == 15) = false := by rw [beq_eq_false_iff_ne]; omega
  have n16 : (o == 16) = false := by rw [beq_eq_false_iff_ne]; omega
  have n17 : (o == 17) = false := by rw [beq_eq_false_iff_ne]; omega
  have n18 : (o == 18) = false := by rw [beq_eq_false_iff_ne]; omega
  have n19 : (o == 19) = false := by rw [beq_eq_false_iff_ne]; omega
  have g1 : decide (4 ≤ o) = true := by simp; omega
  have g2 : decide (o ≤ 12) = false := by simp; omega
  go_enter Try.func39, Try.ntmps39
  go_wp2
  refine bodyPost_ret (v := .tuple #[.agg #[.bool true, .bool true, .bool true, .bool false, .bool false], .bool false]) (by simp [results, Try.results39, go_sem]) rfl ⟨rfl, below1 _ _⟩
/-- The shape that mir.of tells. -/
def ofD (o : Int) : Bool := !(o == 14 || (decide (15 ≤ o) && decide (o ≤ 19)))
def ofA (o : Int) : Bool := !(o == 1 || o == 3 || o == 14)
def ofB (o : Int) : Bool := !(o == 1 || o == 2 || o == 3 || o == 13 || o == 14 || o == 19)
theorem of_c (o : Int) (w : World) : Calls Try.prog 39 #[.int .i64 o] w fun e w' => e = .returned (ofV (ofD o) (ofA o) (ofB o) (shT o) (shF o) (known o)) ∧ Below w.heap.size w w' := by
  by_cases h1 : o = 1
  · subst h1; exact of_1 w
  by_cases h2 : o = 2
  · subst h2; exact of_2 w
  by_cases h3 : o = 3
  · subst h3; exact of_3 w
  by_cases h13 : o = 13
  · subst h13; exact of_13 w
  by_cases h14 : o = 14
  · subst h14; exact of_14 w
  by_cases h15 : o = 15
  · subst h15; exact of_15 w
  by_cases h16 : o = 16
  · subst h16; exact of_16 w
  by_cases h17 : o = 17
  · subst h17; exact of_17 w
  by_cases h18 : o = 18
  · subst h18; exact of_18 w
  by_cases h19 : o = 19
  · subst h19; exact of_19 w
  by_cases hm : 4 ≤ o ∧ o ≤ 12
  · have e1 : ofD o = true := by simp [ofD]; omega
    have e2 : ofA o = true := by simp [ofA]; omega
    have e3 : ofB o = true := by simp [ofB]; omega
    have e4 : shT o = false := by simp [shT]; omega
    have e5 : shF o = false := by simp [shF]; omega
    have e6 : known o = true := by simp [known]; omega
    rw [e1, e2, e3, e4, e5, e6]; exact of_mid o hm.1 hm.2 w
  · have e1 : ofD o = true := by simp [ofD]; omega
    have e2 : ofA o = true := by simp [ofA]; omega
    have e3 : ofB o = true := by simp [ofB]; omega
    have e4 : shT o = false := by simp [shT]; omega
    have e5 : shF o = false := by simp [shF]; omega
    have e6 : known o = false := by simp [known]; omega
    rw [e1, e2, e3, e4, e5, e6]
    by_cases hl : 4 ≤ o
    · exact of_hi o (by omega) w
    · exact of_lo o hl h1 h2 h3 w
theorem ofD_eq {o : Int} (h : known o = true) : ofD o = shD o := by
  simp only [known, Bool.and_eq_true, decide_eq_true_eq] at h
  rw [Bool.eq_iff_iff]; simp [ofD, shD]; omega
theorem ofA_eq {o : Int} (h : known o = true) : ofA o = shA o := by
  simp only [known, Bool.and_eq_true, decide_eq_true_eq] at h
  rw [Bool.eq_iff_iff]; simp [ofA, shA]; omega
theorem ofB_eq {o : Int} (h : known o = true) : ofB o = shB o := by
  simp only [known, Bool.and_eq_true, decide_eq_true_eq] at h
  rw [Bool.eq_iff_iff]; simp [ofB, shB]; omega

theorem reg_c (named : Bool) (r regs : Int) (B : Nat) (w : World) (hB : w.cell? ⟨B, 0, none⟩ = some (.int .i64 regs)) (hl : B < w.heap.size) :
    Calls Try.prog 71 #[.bool named, .int .i64 r, .pointer (some ⟨B, 0, none⟩)] w fun e w' => e = .returned (.bool (regB named r regs)) ∧ w = w' := by
  cases named
  · go_enter Try.func71, Try.ntmps71
    go_wp2
    go_ret
    exact ⟨ret_b (by simp [regB]), rfl⟩
  · by_cases h1 : 0 ≤ r
    · have g1 : decide (0 ≤ r) = true := by simpa using h1
      by_cases h2 : r < regs
      · have g2 : decide (r < regs) = true := by simpa using h2
        go_enter Try.func71, Try.ntmps71
        go_wp2
        go_ret
        exact ⟨ret_b (by simp [regB, h1, h2]), rfl⟩
      · have g2 : decide (r < regs) = false := by simpa using h2
        go_enter Try.func71, Try.ntmps71
        go_wp2
        go_ret
        exact ⟨ret_b (by simp [regB, h1, h2]), rfl⟩
    · have g1 : decide (0 ≤ r) = false := by simpa using h1
      go_enter Try.func71, Try.ntmps71
      go_wp2
      go_ret
      exact ⟨ret_b (by simp [regB]; omega), rfl⟩
theorem ahead_c (named : Bool) (to : Int) (at_ n cap : Nat) (A : Option Addr) (B B' : Nat) (w : World) (hB : w.cell? ⟨B, 0, none⟩ = some (.int .i64 at_)) (hl : B < w.heap.size) (hB' : w.cell? ⟨B', 1, none⟩ = some (.slice A n cap)) (hl' : B' < w.heap.size) :
    Calls Try.prog 72 #[.bool named, .int .i64 to, .pointer (some ⟨B, 0, none⟩), .pointer (some ⟨B', 0, none⟩)] w fun e w' => e = .returned (.bool (aheadB named to at_ n)) ∧ w = w' := by
  cases named
  · go_enter Try.func72, Try.ntmps72
    go_wp2
    go_ret
    exact ⟨ret_b (by simp [aheadB]), rfl⟩
  · by_cases h1 : (at_ : Int) < to
    · have g1 : decide ((at_ : Int) < to) = true := by simpa using h1
      by_cases h2 : to < (n : Int)
      · have g2 : decide (to < (n : Int)) = true := by simpa using h2
        go_enter Try.func72, Try.ntmps72
        go_wp2
        go_ret
        exact ⟨ret_b (by simp [aheadB, h1, h2]), rfl⟩
      · have g2 : decide (to < (n : Int)) = false := by simpa using h2
        go_enter Try.func72, Try.ntmps72
        go_wp2
        go_ret
        exact ⟨ret_b (by simp [aheadB, h1, h2]), rfl⟩
    · have g1 : decide ((at_ : Int) < to) = false := by simpa using h1
      go_enter Try.func72, Try.ntmps72
      go_wp2
      go_ret
      exact ⟨ret_b (by simp [aheadB]; omega), rfl⟩
end Go.Proofs.Ytehpoamideeehaa
