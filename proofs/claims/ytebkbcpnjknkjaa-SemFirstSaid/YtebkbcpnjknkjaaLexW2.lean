import Derived.Test.YtebkbcpnjknkjaaLexW1
set_option linter.unusedVariables false
set_option linter.unusedSimpArgs false
set_option maxRecDepth 100000
namespace Go.Proofs.Ytebkbcpnjknkjaa
open Go.RowKit
/-! ravelinref05: sign, Number: the walks. -/
theorem index_int {t : TypeId} (ht : Try.prog.underlying t = some .string) (s : ByteArray) (i : Nat) (j : Int) (hj : j = i) (hi : i < s.size) (w : World) : (Instr.index t (.string s) (.int .i64 j)).run Try.prog w = .ok (.int .u8 (bt s i)) w := by
  subst hj; exact run_index_bt ht s i hi w
set_option maxHeartbeats 800000 in
theorem sign_c (s : ByteArray) (a : Nat) (ha : a < s.size) (hs : s.size ≤ 65536) (w : World) : Calls Try.prog 82 #[.string s, .int .i64 a] w fun e w' => e = .returned (.int .i64 (signP s a)) ∧ w' = w := by
  have hs' : (s.size : Int) ≤ 65536 := by omega
  have ha' : (a : Int) < s.size := by omega
  have hix := run_index_bt Try.underlying9 s a ha
  obtain ⟨c, hc⟩ : ∃ c, c = bt s a := ⟨_, rfl⟩
  have HE : Hid (signP s a = if (c == 59 || c == 44 || c == 40 || c == 41 || c == 38) = true then 1 else if (c == 60 || c == 62) = true then (if twoB s a = true then 2 else 1) else if (c == 61 || c == 33) = true then (if twoB s a = true then 2 else 0) else 0) := Lib.hid (by rw [hc]; rfl)
  rw [← hc] at hix
  clear hc
  rcases Nat.lt_or_ge (a + 1) s.size with h1 | h1
  · have h1' : (a : Int) + 1 < s.size := by omega
    have hix1 := index_int Try.underlying9 s (a + 1) ((a : Int) + 1) (by omega) h1
    obtain ⟨d, hd⟩ : ∃ d, d = bt s (a + 1) := ⟨_, rfl⟩
    have HT : Hid (twoB s a = (d == 61)) := Lib.hid (by unfold twoB; rw [← hd]; simp [h1])
    rw [← hd] at hix1
    clear hd
    cases h61 : (d == 61)
    all_goals (
      have HH := Lib.hid h61
      go_enter Try.func82, Try.ntmps82
      go_wp2
      all_goals go_ret
      all_goals exact ⟨ret_i (by rw [HE.out, HT.out, HH.out]; simp only [beq_iff_eq, beq_eq_false_iff_ne] at *; simp [*]), rfl⟩)
  · have h1' : ¬ (a : Int) + 1 < s.size := by omega
    have HT : Hid (twoB s a = false) := Lib.hid (by unfold twoB; simp; intro h; omega)
    go_enter Try.func82, Try.ntmps82
    go_wp2
    all_goals go_ret
    all_goals exact ⟨ret_i (by rw [HE.out, HT.out]; simp only [beq_iff_eq, beq_eq_false_iff_ne] at *; simp [*]), rfl⟩
theorem ret_nb {x : Int × Bool} {a : Int} {b : Bool} (h : x = (a, b)) : Ending.returned (.tuple #[.int .u64 a, .bool b]) = .returned (.tuple #[.int .u64 x.1, .bool x.2]) := by rw [h]
def NumPost (s : ByteArray) (w : World) (e : Ending) (w' : World) : Prop := e = .returned (.tuple #[.int .u64 (numberP s).1, .bool (numberP s).2]) ∧ w' = w
set_option maxHeartbeats 1600000 in
theorem hex_c (s : ByteArray) (h2 : 2 ≤ s.size) (h18 : s.size ≤ 18) (h0 : bt s 0 = 48) (h1 : bt s 1 = 120) (w : World) : Calls Try.prog 81 #[.string s] w (NumPost s w) := by
  have hs' : (s.size : Int) ≤ 18 := by omega
  have hs2 : (2 : Int) ≤ s.size := by omega
  have ix0 := index_int Try.underlying9 s 0 0 rfl (by omega)
  have ix1 := index_int Try.underlying9 s 1 1 rfl (by omega)
  rw [h0] at ix0
  rw [h1] at ix1
  by_cases h3 : s.size < 3
  · have h3' : (s.size : Int) < 3 := by omega
    have HE : Hid (numberP s = (0, false)) := Lib.hid (by unfold numberP; rw [if_pos (by simp [h0, h1]; omega), if_pos (.inl h3)])
    clear h3
    go_enter Try.func81, Try.ntmps81
    go_wp2
    go_ret2
    exact ⟨ret_nb HE.out, rfl⟩
  · have h3' : ¬ (s.size : Int) < 3 := by omega
    have HE : Hid (numberP s = hexP s s.size 2 0) := Lib.hid (by unfold numberP; rw [if_pos (by simp [h0, h1]; omega), if_neg (by omega)])
    clear h3
    go_enter Try.func81, Try.ntmps81
    go_wp2_with fail
    go_loopw [5, 4] (fun i n wr => wr = w ∧ ∃ (b f : Nat) (m : Int), i = .int .i64 b ∧ n = .int .u64 m ∧ 0 ≤ m ∧ m < 18446744073709551616 ∧ b ≤ s.size ∧ s.size ≤ f + b ∧ Hid (numberP s = hexP s f b m)) (fun i _ _ => s.size - (intOf i).toNat)
    case atStart => exact ⟨rfl, 2, s.size, 0, rfl, rfl, by decide, by decide, by omega, by omega, HE⟩
    case round =>
      obtain ⟨rfl, b, f, m, rfl, rfl, m0, m1, hb, hf, HN⟩ := hrel
      clear HE ix0 ix1
      rcases Nat.lt_or_ge b s.size with hlt | hge
      · have hlt' : (b : Int) < s.size := by omega
        have hix := run_index_bt Try.underlying9 s b hlt
        obtain ⟨c0, c1⟩ := bt_range s b
        obtain ⟨c, hc⟩ : ∃ c, c = bt s b := ⟨_, rfl⟩
        rw [← hc] at hix c0 c1
        have HX : Hid (numberP s = if digitB c = true then hexP s (f - 1) (b + 1) ((16 * m + (c - 48)) % 18446744073709551616) else if (decide (97 ≤ c) && decide (c ≤ 102)) = true then hexP s (f - 1) (b + 1) ((16 * m + (c - 97) + 10) % 18446744073709551616) else (0, false)) := Lib.hid (by rw [HN.out, show f = f - 1 + 1 by omega, hexP, if_pos hlt, ← hc]; rfl)
        obtain ⟨q, hq⟩ : ∃ q, q = (16 * m) % 18446744073709551616 := ⟨_, rfl⟩
        have e16 : IntKind.u64.wrap (16 * m) = q := by rw [IntKind.wrap_u64, hq]
        by_cases hd : 48 ≤ c ∧ c ≤ 57
        · obtain ⟨d0, d1⟩ := hd
          have HX2 : Hid (numberP s = hexP s (f - 1) (b + 1) ((16 * m + (c - 48)) % 18446744073709551616)) := Lib.hid (by rw [HX.out, if_pos (by simp [digitB, d0, d1])])
          obtain ⟨r, hr⟩ : ∃ r, r = (16 * m + (c - 48)) % 18446744073709551616 := ⟨_, rfl⟩
          rw [← hr] at HX2
          have e8 : IntKind.u8.wrap (c - 48) = c - 48 := by rw [IntKind.wrap_u8]; omega
          have ea : IntKind.u64.wrap (q + (c - 48)) = r := by rw [IntKind.wrap_u64, hr, hq]; omega
          have hr0 : 0 ≤ r ∧ r < 18446744073709551616 := by rw [hr]; omega
          have HR0 := Lib.hid hr0
          clear hr hq hc m0 m1 hr0
          go_wp2
          go_roundw
          case rel => exact ⟨trivial, b + 1, f - 1, r, by go_num, rfl, HR0.out.1, HR0.out.2, by omega, by omega, HX2⟩
          case measure => simp [intOf]; omega
        · have HX2 : Hid (numberP s = if (decide (97 ≤ c) && decide (c ≤ 102)) = true then hexP s (f - 1) (b + 1) ((16 * m + (c - 97) + 10) % 18446744073709551616) else (0, false)) := Lib.hid (by rw [HX.out, if_neg (by simp [digitB]; omega)])
          by_cases ha : 97 ≤ c ∧ c ≤ 102
          · obtain ⟨d0, d1⟩ := ha
            have HX3 : Hid (numberP s = hexP s (f - 1) (b + 1) ((16 * m + (c - 97) + 10) % 18446744073709551616)) := Lib.hid (by rw [HX2.out, if_pos (by simp [d0, d1])])
            obtain ⟨r, hr⟩ : ∃ r, r = (16 * m + (c - 97) + 10) % 18446744073709551616 := ⟨_, rfl⟩
            obtain ⟨t, ht⟩ : ∃ t, t = (q + (c - 97)) % 18446744073709551616 := ⟨_, rfl⟩
            rw [← hr] at HX3
            have e8 : IntKind.u8.wrap (c - 97) = c - 97 := by rw [IntKind.wrap_u8]; omega
            have ea : IntKind.u64.wrap (q + (c - 97)) = t := by rw [IntKind.wrap_u64, ht]
            have eb : IntKind.u64.wrap (t + 10) = r := by rw [IntKind.wrap_u64, hr, ht, hq]; omega
            have hr0 : 0 ≤ r ∧ r < 18446744073709551616 := by rw [hr]; omega
            have HR0 := Lib.hid hr0
            have dd : ¬ c ≤ 57 := by omega
            clear hr hq hc m0 m1 hr0 ht hd
            go_wp2
            go_roundw
            case rel => exact ⟨trivial, b + 1, f - 1, r, by go_num, rfl, HR0.out.1, HR0.out.2, by omega, by omega, HX3⟩
            case measure => simp [intOf]; omega
          · have HX3 : Hid (numberP s = (0, false)) := Lib.hid (by rw [HX2.out, if_neg (by simp; omega)])
            have n1 : (decide (48 ≤ c) && decide (c ≤ 57)) = false := by simp; omega
            have n2 : (decide (97 ≤ c) && decide (c ≤ 102)) = false := by simp; omega
            clear hq hc m0 m1
            cases k1 : decide (48 ≤ c) <;> cases k2 : decide (97 ≤ c)
            all_goals (
              go_wp2
              all_goals (first | (exfalso; simp at *; omega) | (go_ret2; exact ⟨ret_nb HX3.out, rfl⟩)))
      · obtain rfl : b = s.size := by omega
        have HF : Hid (numberP s = (m, true)) := Lib.hid (by rw [HN.out]; cases f with
          | zero => rfl
          | succ f => rw [hexP, if_neg (by omega)])
        go_wp2
        go_ret2
        exact ⟨ret_nb HF.out, rfl⟩
set_option maxHeartbeats 1600000 in
theorem dec_c (s : ByteArray) (hs : s.size ≤ 65536) (hnx : (decide (2 ≤ s.size) && bt s 0 == 48 && bt s 1 == 120) = false) (w : World) : Calls Try.prog 81 #[.string s] w (NumPost s w) := by
  have hs' : (s.size : Int) ≤ 65536 := by omega
  by_cases hbad : s.size < 1 ∨ 20 < s.size ∨ (bt s 0 = 48 ∧ 1 < s.size)
  · have HE : Hid (numberP s = (0, false)) := Lib.hid (by unfold numberP; rw [hnx, if_neg (by decide), if_pos hbad])
    by_cases hz : s.size < 1
    · have hz' : s.size = 0 := by omega
      have q1 : (s.size : Int) < 1 := by omega
      have q2 : (s.size : Int) < 2 := by omega
      clear hbad hnx hz hz'
      go_enter Try.func81, Try.ntmps81
      go_wp2
      go_ret2
      exact ⟨ret_nb HE.out, rfl⟩
    · have ix0 := index_int Try.underlying9 s 0 0 rfl (by omega)
      have p1 : (1 : Int) ≤ s.size := by omega
      obtain ⟨c, hc⟩ : ∃ c, c = bt s 0 := ⟨_, rfl⟩
      rw [← hc] at ix0 hbad hnx
      by_cases h1 : s.size = 1
      · exfalso; omega
      · have ix1 := index_int Try.underlying9 s 1 1 rfl (by omega)
        have p2 : (2 : Int) ≤ s.size := by omega
        obtain ⟨d, hd⟩ : ∃ d, d = bt s 1 := ⟨_, rfl⟩
        rw [← hd] at ix1 hnx
        have p3 : decide (2 ≤ s.size) = true := by simp; omega
        rw [p3] at hnx
        clear hc hd
        cases k0 : (c == 48)
        · have hc48 : ¬ c = 48 := by simpa using k0
          have hb2 : (20 : Int) < s.size := by omega
          clear hbad hnx hz h1 hc48
          go_enter Try.func81, Try.ntmps81
          go_wp2
          go_ret2
          exact ⟨ret_nb HE.out, rfl⟩
        · have k1 : (d == 120) = false := by rw [k0] at hnx; simpa using hnx
          have hc48 : c = 48 := by simpa using k0
          by_cases h20 : 20 < s.size
          · have hb2 : (20 : Int) < s.size := by omega
            clear hbad hnx hz h1 hc48 h20
            go_enter Try.func81, Try.ntmps81
            go_wp2
            go_ret2
            exact ⟨ret_nb HE.out, rfl⟩
          · have hb2 : (s.size : Int) ≤ 20 := by omega
            have hb3 : (1 : Int) < s.size := by omega
            clear hbad hnx hz h1 hc48 h20
            go_enter Try.func81, Try.ntmps81
            go_wp2
            go_ret2
            exact ⟨ret_nb HE.out, rfl⟩
  · have hz : 1 ≤ s.size ∧ s.size ≤ 20 := by omega
    obtain ⟨z1, z2⟩ := hz
    have HE : Hid (numberP s = decP s s.size 0 0) := Lib.hid (by unfold numberP; rw [hnx, if_neg (by decide), if_neg hbad])
    have ix0 := index_int Try.underlying9 s 0 0 rfl (by omega)
    have p1 : (1 : Int) ≤ s.size := by omega
    have p2 : (s.size : Int) ≤ 20 := by omega
    have hloop : ∀ c, c = bt s 0 → (c == 48) = false ∨ ((c == 48) = true ∧ s.size = 1) := fun c hc => by
      cases k : (c == 48)
      · exact .inl rfl
      · have : c = 48 := by simpa using k
        exact .inr ⟨rfl, by omega⟩
    obtain ⟨c, hc⟩ : ∃ c, c = bt s 0 := ⟨_, rfl⟩
    have hk := hloop c hc
    rw [← hc] at ix0
    have HIX1 : Hid (2 ≤ s.size → (Instr.index 9 (.string s) (.int .i64 1)).run Try.prog w = .ok (.int .u8 (bt s 1)) w) := Lib.hid (fun h => index_int Try.underlying9 s 1 1 rfl (by omega) w)
    clear hbad hnx hloop hc
    have go : ∀ (k1 : (c == 48) = false ∧ 2 ≤ s.size ∨ s.size = 1), True := fun _ => trivial
    clear go
    by_cases h1 : s.size = 1
    · have q1 : (s.size : Int) < 2 := by omega
      have q2 : ¬ (1 : Int) < s.size := by omega
      clear h1 hk
      go_enter Try.func81, Try.ntmps81
      cases k : (c == 48)
      all_goals (
        go_wp2_with fail
        go_loopw [8, 7] (fun i n wr => wr = w ∧ ∃ (b f : Nat) (m : Int), i = .int .i64 b ∧ n = .int .u64 m ∧ 0 ≤ m ∧ m < 18446744073709551616 ∧ b ≤ s.size ∧ s.size ≤ f + b ∧ Hid (numberP s = decP s f b m)) (fun i _ _ => s.size - (intOf i).toNat)
        case atStart => exact ⟨rfl, 0, s.size, 0, rfl, rfl, by decide, by decide, by omega, by omega, HE⟩
        case round =>
          obtain ⟨rfl, b, f, m, rfl, rfl, m0, m1, hb, hf, HN⟩ := hrel
          clear HE ix0
          rcases Nat.lt_or_ge b s.size with hlt | hge
          · have hlt' : (b : Int) < s.size := by omega
            have hix := run_index_bt Try.underlying9 s b hlt
            obtain ⟨e0, e1⟩ := bt_range s b
            obtain ⟨d, hd⟩ : ∃ d, d = bt s b := ⟨_, rfl⟩
            rw [← hd] at hix e0 e1
            have HX : Hid (numberP s = if digitB d = false then (0, false) else if (decide (1844674407370955161 < m) || (m == 1844674407370955161 && decide (5 < d - 48))) = true then (0, false) else decP s (f - 1) (b + 1) (10 * m + (d - 48))) := Lib.hid (by rw [HN.out, show f = f - 1 + 1 by omega, decP, if_pos hlt, ← hd]; rfl)
            cases hdg : digitB d with
            | false =>
              have HX2 : Hid (numberP s = (0, false)) := Lib.hid (by rw [HX.out, if_pos hdg])
              clear hd
              go_wp2_with fail
              refine (digit_c d _).mono ?_
              rintro e w' ⟨rfl, rfl⟩
              rw [hdg]
              go_wp2
              go_ret2
              exact ⟨ret_nb HX2.out, rfl⟩
            | true =>
              have hr : 48 ≤ d ∧ d ≤ 57 := by simpa [digitB] using hdg
              obtain ⟨r0, r1⟩ := hr
              obtain ⟨x, hx⟩ : ∃ x, x = d - 48 := ⟨_, rfl⟩
              have x0 : 0 ≤ x := by omega
              have x9 : x ≤ 9 := by omega
              rw [← hx] at HX
              have e8 : IntKind.u8.wrap (d - 48) = x := by rw [IntKind.wrap_u8]; omega
              by_cases hov : 1844674407370955161 < m ∨ (m = 1844674407370955161 ∧ 5 < x)
              · have HX2 : Hid (numberP s = (0, false)) := Lib.hid (by rw [HX.out, if_neg (by rw [hdg]; decide), if_pos (by simpa using hov)])
                clear hd hx m0 m1 r0 r1
                by_cases hbig : 1844674407370955161 < m
                · clear hov
                  go_wp2_with fail
                  refine (digit_c d _).mono ?_
                  rintro e w' ⟨rfl, rfl⟩
                  rw [hdg]
                  go_wp2
                  go_ret2
                  exact ⟨ret_nb HX2.out, rfl⟩
                · have hm : m = 1844674407370955161 := by omega
                  have h5 : 5 < x := by omega
                  subst hm
                  clear hov hbig
                  go_wp2_with fail
                  refine (digit_c d _).mono ?_
                  rintro e w' ⟨rfl, rfl⟩
                  rw [hdg]
                  go_wp2
                  go_ret2
                  exact ⟨ret_nb HX2.out, rfl⟩
              · have HX2 : Hid (numberP s = decP s (f - 1) (b + 1) (10 * m + x)) := Lib.hid (by rw [HX.out, if_neg (by rw [hdg]; decide), if_neg (by simp; omega)])
                obtain ⟨r, hr⟩ : ∃ r, r = 10 * m + x := ⟨_, rfl⟩
                obtain ⟨t, ht⟩ : ∃ t, t = 10 * m := ⟨_, rfl⟩
                rw [← hr] at HX2
                have ea : IntKind.u64.wrap (10 * m) = t := by rw [IntKind.wrap_u64]; omega
                have eb : IntKind.u64.wrap (t + x) = r := by rw [IntKind.wrap_u64]; omega
                have hr0 : 0 ≤ r ∧ r < 18446744073709551616 := by omega
                have HR0 := Lib.hid hr0
                have g1 : decide (1844674407370955161 < m) = false := by simp; omega
                cases g2 : (m == 1844674407370955161)
                · clear hr ht hd hx m0 m1 hr0 hov r0 r1
                  go_wp2_with fail
                  refine (digit_c d _).mono ?_
                  rintro e w' ⟨rfl, rfl⟩
                  rw [hdg]
                  go_wp2
                  go_roundw
                  case rel => exact ⟨trivial, b + 1, f - 1, r, by go_num, rfl, HR0.out.1, HR0.out.2, by omega, by omega, HX2⟩
                  case measure => simp [intOf]; omega
                · have hm : m = 1844674407370955161 := by simpa using g2
                  have g3 : decide (5 < x) = false := by simp; omega
                  clear hr ht hd hx m0 m1 hr0 hov hm r0 r1
                  go_wp2_with fail
                  refine (digit_c d _).mono ?_
                  rintro e w' ⟨rfl, rfl⟩
                  rw [hdg]
                  go_wp2
                  go_roundw
                  case rel => exact ⟨trivial, b + 1, f - 1, r, by go_num, rfl, HR0.out.1, HR0.out.2, by omega, by omega, HX2⟩
                  case measure => simp [intOf]; omega
          · obtain rfl : b = s.size := by omega
            have HF : Hid (numberP s = (m, true)) := Lib.hid (by rw [HN.out]; cases f with
              | zero => rfl
              | succ f => rw [decP, if_neg (by omega)])
            go_wp2
            go_ret2
            exact ⟨ret_nb HF.out, rfl⟩)
    · have q1 : (2 : Int) ≤ s.size := by omega
      have ix1 := HIX1.out (by omega)
      have k : (c == 48) = false := by rcases hk with h | h; exact h; omega
      clear h1 hk
      go_enter Try.func81, Try.ntmps81
      go_wp2_with fail
      go_loopw [8, 7] (fun i n wr => wr = w ∧ ∃ (b f : Nat) (m : Int), i = .int .i64 b ∧ n = .int .u64 m ∧ 0 ≤ m ∧ m < 18446744073709551616 ∧ b ≤ s.size ∧ s.size ≤ f + b ∧ Hid (numberP s = decP s f b m)) (fun i _ _ => s.size - (intOf i).toNat)
      case atStart => exact ⟨rfl, 0, s.size, 0, rfl, rfl, by decide, by decide, by omega, by omega, HE⟩
      case round =>
        obtain ⟨rfl, b, f, m, rfl, rfl, m0, m1, hb, hf, HN⟩ := hrel
        clear HE ix0
        rcases Nat.lt_or_ge b s.size with hlt | hge
        · have hlt' : (b : Int) < s.size := by omega
          have hix := run_index_bt Try.underlying9 s b hlt
          obtain ⟨e0, e1⟩ := bt_range s b
          obtain ⟨d, hd⟩ : ∃ d, d = bt s b := ⟨_, rfl⟩
          rw [← hd] at hix e0 e1
          have HX : Hid (numberP s = if digitB d = false then (0, false) else if (decide (1844674407370955161 < m) || (m == 1844674407370955161 && decide (5 < d - 48))) = true then (0, false) else decP s (f - 1) (b + 1) (10 * m + (d - 48))) := Lib.hid (by rw [HN.out, show f = f - 1 + 1 by omega, decP, if_pos hlt, ← hd]; rfl)
          cases hdg : digitB d with
          | false =>
            have HX2 : Hid (numberP s = (0, false)) := Lib.hid (by rw [HX.out, if_pos hdg])
            clear hd
            go_wp2_with fail
            refine (digit_c d _).mono ?_
            rintro e w' ⟨rfl, rfl⟩
            rw [hdg]
            go_wp2
            go_ret2
            exact ⟨ret_nb HX2.out, rfl⟩
          | true =>
            have hr : 48 ≤ d ∧ d ≤ 57 := by simpa [digitB] using hdg
            obtain ⟨r0, r1⟩ := hr
            obtain ⟨x, hx⟩ : ∃ x, x = d - 48 := ⟨_, rfl⟩
            have x0 : 0 ≤ x := by omega
            have x9 : x ≤ 9 := by omega
            rw [← hx] at HX
            have e8 : IntKind.u8.wrap (d - 48) = x := by rw [IntKind.wrap_u8]; omega
            by_cases hov : 1844674407370955161 < m ∨ (m = 1844674407370955161 ∧ 5 < x)
            · have HX2 : Hid (numberP s = (0, false)) := Lib.hid (by rw [HX.out, if_neg (by rw [hdg]; decide), if_pos (by simpa using hov)])
              clear hd hx m0 m1 r0 r1
              by_cases hbig : 1844674407370955161 < m
              · clear hov
                go_wp2_with fail
                refine (digit_c d _).mono ?_
                rintro e w' ⟨rfl, rfl⟩
                rw [hdg]
                go_wp2
                go_ret2
                exact ⟨ret_nb HX2.out, rfl⟩
              · have hm : m = 1844674407370955161 := by omega
                have h5 : 5 < x := by omega
                subst hm
                clear hov hbig
                go_wp2_with fail
                refine (digit_c d _).mono ?_
                rintro e w' ⟨rfl, rfl⟩
                rw [hdg]
                go_wp2
                go_ret2
                exact ⟨ret_nb HX2.out, rfl⟩
            · have HX2 : Hid (numberP s = decP s (f - 1) (b + 1) (10 * m + x)) := Lib.hid (by rw [HX.out, if_neg (by rw [hdg]; decide), if_neg (by simp; omega)])
              obtain ⟨r, hr⟩ : ∃ r, r = 10 * m + x := ⟨_, rfl⟩
              obtain ⟨t, ht⟩ : ∃ t, t = 10 * m := ⟨_, rfl⟩
              rw [← hr] at HX2
              have ea : IntKind.u64.wrap (10 * m) = t := by rw [IntKind.wrap_u64]; omega
              have eb : IntKind.u64.wrap (t + x) = r := by rw [IntKind.wrap_u64]; omega
              have hr0 : 0 ≤ r ∧ r < 18446744073709551616 := by omega
              have HR0 := Lib.hid hr0
              have g1 : decide (1844674407370955161 < m) = false := by simp; omega
              cases g2 : (m == 1844674407370955161)
              · clear hr ht hd hx m0 m1 hr0 hov r0 r1
                go_wp2_with fail
                refine (digit_c d _).mono ?_
                rintro e w' ⟨rfl, rfl⟩
                rw [hdg]
                go_wp2
                go_roundw
                case rel => exact ⟨trivial, b + 1, f - 1, r, by go_num, rfl, HR0.out.1, HR0.out.2, by omega, by omega, HX2⟩
                case measure => simp [intOf]; omega
              · have hm : m = 1844674407370955161 := by simpa using g2
                have g3 : decide (5 < x) = false := by simp; omega
                clear hr ht hd hx m0 m1 hr0 hov hm r0 r1
                go_wp2_with fail
                refine (digit_c d _).mono ?_
                rintro e w' ⟨rfl, rfl⟩
                rw [hdg]
                go_wp2
                go_roundw
                case rel => exact ⟨trivial, b + 1, f - 1, r, by go_num, rfl, HR0.out.1, HR0.out.2, by omega, by omega, HX2⟩
                case measure => simp [intOf]; omega
        · obtain rfl : b = s.size := by omega
          have HF : Hid (numberP s = (m, true)) := Lib.hid (by rw [HN.out]; cases f with
            | zero => rfl
            | succ f => rw [decP, if_neg (by omega)])
          go_wp2
          go_ret2
          exact ⟨ret_nb HF.out, rfl⟩
theorem hexLong_c (s : ByteArray) (h18 : 18 < s.size) (hs : s.size ≤ 65536) (h0 : bt s 0 = 48) (h1 : bt s 1 = 120) (w : World) : Calls Try.prog 81 #[.string s] w (NumPost s w) := by
  have hs' : (18 : Int) < s.size := by omega
  have hs2 : (2 : Int) ≤ s.size := by omega
  have hs3 : ¬ (s.size : Int) < 3 := by omega
  have ix0 := index_int Try.underlying9 s 0 0 rfl (by omega)
  have ix1 := index_int Try.underlying9 s 1 1 rfl (by omega)
  rw [h0] at ix0
  rw [h1] at ix1
  have HE : Hid (numberP s = (0, false)) := Lib.hid (by unfold numberP; rw [if_pos (by simp [h0, h1]; omega), if_pos (.inr h18)])
  clear h18 h0 h1
  go_enter Try.func81, Try.ntmps81
  go_wp2
  go_ret2
  exact ⟨ret_nb HE.out, rfl⟩
theorem Number_c (s : ByteArray) (hs : s.size ≤ 65536) (w : World) : Calls Try.prog 81 #[.string s] w (NumPost s w) := by
  cases h : (decide (2 ≤ s.size) && bt s 0 == 48 && bt s 1 == 120) with
  | false => exact dec_c s hs h w
  | true =>
    have h' : (2 ≤ s.size ∧ bt s 0 = 48) ∧ bt s 1 = 120 := by simpa using h
    rcases Nat.lt_or_ge 18 s.size with h18 | h18
    · exact hexLong_c s h18 hs h'.1.2 h'.2 w
    · exact hex_c s h'.1.1 h18 h'.1.2 h'.2 w
end Go.Proofs.Ytebkbcpnjknkjaa
