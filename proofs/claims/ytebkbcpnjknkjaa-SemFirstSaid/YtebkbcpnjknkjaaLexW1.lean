import Derived.Test.YtebkbcpnjknkjaaLexP
set_option linter.unusedVariables false
set_option linter.unusedSimpArgs false
set_option maxRecDepth 100000
namespace Go.Proofs.Ytebkbcpnjknkjaa
open Go.RowKit
/-! ravelinref05: letter, digit, skip, run: the walks. -/
theorem digit_c (c : Int) (w : World) : Calls Try.prog 79 #[.int .u8 c] w fun e w' => e = .returned (.bool (digitB c)) ∧ w' = w := by
  go_enter Try.func79, Try.ntmps79
  go_wp2
  all_goals go_ret
  all_goals exact ⟨ret_b (by unfold digitB; grind), rfl⟩
theorem letter_c (c : Int) (w : World) : Calls Try.prog 78 #[.int .u8 c] w fun e w' => e = .returned (.bool (letterB c)) ∧ w' = w := by
  go_enter Try.func78, Try.ntmps78
  go_wp2
  all_goals go_ret
  all_goals exact ⟨ret_b (by unfold letterB; grind), rfl⟩
set_option maxHeartbeats 800000 in
theorem run5_c (s : ByteArray) (a : Nat) (ha : a ≤ s.size) (hs : s.size ≤ 65536) (w : World) : Calls Try.prog 80 #[.string s, .int .i64 a] w fun e w' => e = .returned (.int .i64 (runP5 s s.size a)) ∧ w' = w := by
  have hs' : (s.size : Int) ≤ 65536 := by omega
  go_enter Try.func80, Try.ntmps80
  go_wp2_with fail
  go_loopw [1] (fun i wr => wr = w ∧ ∃ b f : Nat, i = .int .i64 b ∧ b ≤ s.size ∧ s.size ≤ f + b ∧ Hid (runP5 s s.size a = runP5 s f b)) (fun i _ => s.size - (intOf i).toNat)
  case atStart => exact ⟨rfl, a, s.size, rfl, ha, by omega, Lib.hid rfl⟩
  case round =>
    obtain ⟨rfl, b, f, rfl, hb, hf, HE⟩ := hrel
    rcases Nat.lt_or_ge b s.size with hlt | hge
    · have hlt' : (b : Int) < s.size := by omega
      have hix := run_index_bt Try.underlying9 s b hlt
      obtain ⟨c, hc⟩ : ∃ c, c = bt s b := ⟨_, rfl⟩
      have HCC := Lib.hid hc
      rw [← hc] at hix
      clear hc
      cases hl : letterB c with
      | true =>
        have HS : Hid (runP5 s s.size a = runP5 s (f - 1) (b + 1)) := Lib.hid (by rw [HE.out, show f = f - 1 + 1 by omega, runP5, if_pos ⟨hlt, by rw [← HCC.out, hl]; rfl⟩]; rfl)
        go_wp2_with fail
        refine (letter_c c _).mono ?_
        rintro e w' ⟨rfl, rfl⟩
        rw [hl]
        go_wp2_with fail
        refine (digit_c c _).mono ?_
        rintro e w' ⟨rfl, rfl⟩
        go_wp2
        go_roundw
        case rel => exact ⟨trivial, b + 1, f - 1, by go_num, by omega, by omega, HS⟩
        case measure => simp [intOf]; omega
      | false =>
        cases hd : digitB c with
        | true =>
          have HS : Hid (runP5 s s.size a = runP5 s (f - 1) (b + 1)) := Lib.hid (by rw [HE.out, show f = f - 1 + 1 by omega, runP5, if_pos ⟨hlt, by rw [← HCC.out, hl, hd]; rfl⟩]; rfl)
          go_wp2_with fail
          refine (letter_c c _).mono ?_
          rintro e w' ⟨rfl, rfl⟩
          rw [hl]
          go_wp2_with fail
          refine (digit_c c _).mono ?_
          rintro e w' ⟨rfl, rfl⟩
          rw [hd]
          go_wp2
          go_roundw
          case rel => exact ⟨trivial, b + 1, f - 1, by go_num, by omega, by omega, HS⟩
          case measure => simp [intOf]; omega
        | false =>
          have HS : Hid (runP5 s s.size a = b) := Lib.hid (by rw [HE.out, show f = f - 1 + 1 by omega, runP5, if_neg (fun h => by rw [← HCC.out, hl, hd] at h; exact absurd h.2 (by decide))])
          go_wp2_with fail
          refine (letter_c c _).mono ?_
          rintro e w' ⟨rfl, rfl⟩
          rw [hl]
          go_wp2_with fail
          refine (digit_c c _).mono ?_
          rintro e w' ⟨rfl, rfl⟩
          rw [hd]
          go_wp2
          go_ret
          exact ⟨ret_i (by rw [HS.out]), rfl⟩
    · obtain rfl : b = s.size := by omega
      have HS : Hid (runP5 s s.size a = s.size) := Lib.hid (by rw [HE.out]; cases f with
        | zero => rfl
        | succ f => rw [runP5, if_neg (by omega)])
      go_wp2
      go_ret
      exact ⟨ret_i (by rw [HS.out]), rfl⟩
set_option maxHeartbeats 800000 in
theorem skip_c (s : ByteArray) (a : Nat) (ha : a ≤ s.size) (hs : s.size ≤ 65536) (hno : ∀ i, bt s i ≠ 35) (w : World) : Calls Try.prog 77 #[.string s, .int .i64 a] w fun e w' => e = .returned (.int .i64 (skipP s s.size a)) ∧ w' = w := by
  have hs' : (s.size : Int) ≤ 65536 := by omega
  have HNO := Lib.hid hno
  clear hno
  go_enter Try.func77, Try.ntmps77
  go_wp2_with fail
  go_loopw [1] (fun i wr => wr = w ∧ ∃ b f : Nat, i = .int .i64 b ∧ b ≤ s.size ∧ s.size ≤ f + b ∧ Hid (skipP s s.size a = skipP s f b)) (fun i _ => s.size - (intOf i).toNat)
  case atStart => exact ⟨rfl, a, s.size, rfl, ha, by omega, Lib.hid rfl⟩
  case round =>
    obtain ⟨rfl, b, f, rfl, hb, hf, HE⟩ := hrel
    rcases Nat.lt_or_ge b s.size with hlt | hge
    · have hlt' : (b : Int) < s.size := by omega
      have hix := run_index_bt Try.underlying9 s b hlt
      have hn35 : (bt s b == 35) = false := by rw [beq_eq_false_iff_ne]; exact HNO.out b
      obtain ⟨c, hc⟩ : ∃ c, c = bt s b := ⟨_, rfl⟩
      have HCC := Lib.hid hc
      rw [← hc] at hix hn35
      clear hc
      cases hl : blankB c with
      | true =>
        have HS : Hid (skipP s s.size a = skipP s (f - 1) (b + 1)) := Lib.hid (by rw [HE.out, show f = f - 1 + 1 by omega, skipP, if_pos ⟨hlt, by rw [← HCC.out, hl]⟩]; rfl)
        have : c = 9 ∨ c = 10 ∨ c = 13 ∨ c = 32 := by simpa [blankB, or_assoc] using hl
        clear hl HCC
        rcases this with rfl | rfl | rfl | rfl
        all_goals (
          go_wp2
          go_roundw
          case rel => exact ⟨trivial, b + 1, f - 1, by go_num, by omega, by omega, HS⟩
          case measure => simp [intOf]; omega)
      | false =>
        have HS : Hid (skipP s s.size a = b) := Lib.hid (by rw [HE.out, show f = f - 1 + 1 by omega, skipP, if_neg (fun h => by rw [← HCC.out, hl] at h; exact absurd h.2 (by decide))])
        have hq : (c != 9) = true ∧ (c != 10) = true ∧ (c != 13) = true ∧ (c != 32) = true := by simp [blankB] at hl; simp [hl]
        obtain ⟨q1, q2, q3, q4⟩ := hq
        clear hl
        go_wp2
        go_ret
        exact ⟨ret_i (by rw [HS.out]), rfl⟩
    · obtain rfl : b = s.size := by omega
      have HS : Hid (skipP s s.size a = s.size) := Lib.hid (by rw [HE.out]; cases f with
        | zero => rfl
        | succ f => rw [skipP, if_neg (by omega)])
      go_wp2
      go_ret
      exact ⟨ret_i (by rw [HS.out]), rfl⟩
end Go.Proofs.Ytebkbcpnjknkjaa
