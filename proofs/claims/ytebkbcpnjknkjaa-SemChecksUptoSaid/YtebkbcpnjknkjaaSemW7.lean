import Derived.Test.YtebkbcpnjknkjaaSemW6
set_option linter.unusedVariables false
set_option linter.unusedSimpArgs false
set_option maxRecDepth 100000
namespace Go.Proofs.Ytebkbcpnjknkjaa
open Go.RowKit
/-! ravelinref07.expr, Expr: the walks. -/
def BadX (op : Int) (n : Nat) (f r : Int) : Prop := ((op = 1 ∨ op = 2) ∧ n ≠ 0) ∨ (op = 3 ∧ n ≠ 1) ∨ ((op = 4 ∨ op = 5) ∧ n < 2) ∨ (op = 6 ∧ (n ≠ 0 ∨ f < 0 ∨ 6 < f ∨ r < 1 ∨ 6 < r)) ∨ op < 1 ∨ 6 < op
set_option maxHeartbeats 1600000 in
theorem rexpr_76 (op : Int) (A : Option Addr) (n c : Nat) (f m r v : Int) (deep : Int) (hd : deep ≤ 200) (h : BadX op n f r) (w : World) : Calls Try.prog 46 #[.agg #[.int .i64 op, .slice A n c, .int .i64 f, .int .u64 m, .int .i64 r, .int .u64 v], .int .i64 deep] w fun e w' => e = .returned (.int .i64 76) ∧ Below w.heap.size w w' := by
  have hd2 : decide (200 < deep) = false := decide_eq_false (by omega)
  clear hd
  rcases h with ⟨h | h, h2⟩ | ⟨h, h2⟩ | ⟨h | h, h2⟩ | ⟨h, h2⟩ | h | h
  · subst h
    have q : ((n : Int) != 0) = true := by simpa using h2
    clear h2
    go_enter Try.func46, Try.ntmps46
    go_wp2
    go_ret
    exact ⟨rfl, below1 w _⟩
  · subst h
    have q : ((n : Int) != 0) = true := by simpa using h2
    clear h2
    go_enter Try.func46, Try.ntmps46
    go_wp2
    go_ret
    exact ⟨rfl, below1 w _⟩
  · subst h
    have q : ((n : Int) != 1) = true := by rw [bne_iff_ne]; omega
    clear h2
    go_enter Try.func46, Try.ntmps46
    go_wp2
    go_ret
    exact ⟨rfl, below1 w _⟩
  · subst h
    have q : (n : Int) < 2 := by omega
    clear h2
    go_enter Try.func46, Try.ntmps46
    go_wp2
    go_ret
    exact ⟨rfl, below1 w _⟩
  · subst h
    have q : (n : Int) < 2 := by omega
    clear h2
    go_enter Try.func46, Try.ntmps46
    go_wp2
    go_ret
    exact ⟨rfl, below1 w _⟩
  · subst h
    by_cases q : n = 0
    · have q1 : ((n : Int) != 0) = false := by simp [q]
      by_cases g1 : f < 0
      · have e1 : decide (f < 0) = true := decide_eq_true g1
        clear h2 q g1
        go_enter Try.func46, Try.ntmps46
        go_wp2
        go_ret
        exact ⟨rfl, below1 w _⟩
      have e1 : decide (f < 0) = false := decide_eq_false g1
      by_cases g2 : 6 < f
      · have e2 : decide (6 < f) = true := decide_eq_true g2
        clear h2 q g1 g2
        go_enter Try.func46, Try.ntmps46
        go_wp2
        go_ret
        exact ⟨rfl, below1 w _⟩
      have e2 : decide (6 < f) = false := decide_eq_false g2
      by_cases g3 : r < 1
      · have e3 : decide (r < 1) = true := decide_eq_true g3
        clear h2 q g1 g2 g3
        go_enter Try.func46, Try.ntmps46
        go_wp2
        go_ret
        exact ⟨rfl, below1 w _⟩
      have e3 : decide (r < 1) = false := decide_eq_false g3
      have g4 : 6 < r := by omega
      have e4 : decide (6 < r) = true := decide_eq_true g4
      clear h2 q g1 g2 g3 g4
      go_enter Try.func46, Try.ntmps46
      go_wp2
      go_ret
      exact ⟨rfl, below1 w _⟩
    · have q1 : ((n : Int) != 0) = true := by simpa using q
      clear h2 q
      go_enter Try.func46, Try.ntmps46
      go_wp2
      go_ret
      exact ⟨rfl, below1 w _⟩
  · have n1 : (op == 1) = false := by rw [beq_eq_false_iff_ne]; omega
    have n2 : (op == 2) = false := by rw [beq_eq_false_iff_ne]; omega
    have n3 : (op == 3) = false := by rw [beq_eq_false_iff_ne]; omega
    have n4 : (op == 4) = false := by rw [beq_eq_false_iff_ne]; omega
    have n5 : (op == 5) = false := by rw [beq_eq_false_iff_ne]; omega
    have n6 : (op == 6) = false := by rw [beq_eq_false_iff_ne]; omega
    clear h
    go_enter Try.func46, Try.ntmps46
    go_wp2
    go_ret
    exact ⟨rfl, below1 w _⟩
  · have n1 : (op == 1) = false := by rw [beq_eq_false_iff_ne]; omega
    have n2 : (op == 2) = false := by rw [beq_eq_false_iff_ne]; omega
    have n3 : (op == 3) = false := by rw [beq_eq_false_iff_ne]; omega
    have n4 : (op == 4) = false := by rw [beq_eq_false_iff_ne]; omega
    have n5 : (op == 5) = false := by rw [beq_eq_false_iff_ne]; omega
    have n6 : (op == 6) = false := by rw [beq_eq_false_iff_ne]; omega
    clear h
    go_enter Try.func46, Try.ntmps46
    go_wp2
    go_ret
    exact ⟨rfl, below1 w _⟩
set_option maxHeartbeats 800000 in
theorem rexpr_75 (A : Option Addr) (c : Nat) (f m r v : Int) (deep : Int) (hd : deep ≤ 200) (h0 : 0 ≤ f ∧ f ≤ 6 ∧ 1 ≤ r ∧ r ≤ 6) (h : m = 0 ∨ (m ≠ 0 ∧ bits .andNot .u64 v m ≠ 0)) (w : World) : Calls Try.prog 46 #[.agg #[.int .i64 6, .slice A 0 c, .int .i64 f, .int .u64 m, .int .i64 r, .int .u64 v], .int .i64 deep] w fun e w' => e = .returned (.int .i64 75) ∧ Below w.heap.size w w' := by
  have hd2 : decide (200 < deep) = false := decide_eq_false (by omega)
  have e1 : decide (f < 0) = false := decide_eq_false (by omega)
  have e2 : decide (6 < f) = false := decide_eq_false (by omega)
  have e3 : decide (r < 1) = false := decide_eq_false (by omega)
  have e4 : decide (6 < r) = false := decide_eq_false (by omega)
  clear hd h0
  rcases h with h | ⟨h1, h2⟩
  · have e5 : (m == 0) = true := by simp [h]
    clear h
    go_enter Try.func46, Try.ntmps46
    go_wp2
    go_ret
    exact ⟨rfl, below1 w _⟩
  · have e5 : (m == 0) = false := by simpa using h1
    have e6 : (bits .andNot .u64 v m != 0) = true := by simpa using h2
    clear h1 h2
    go_enter Try.func46, Try.ntmps46
    go_wp2
    go_ret
    exact ⟨rfl, below1 w _⟩
set_option maxHeartbeats 6400000 in
theorem rexpr_c (M : Nat) (N : Nat → Prop) : ∀ (k : Nat) (x : ExA) (deep : Nat) (w : World), 201 ≤ k + deep → deep ≤ 201 → x.In w N → x.fits → x.small M → Calls Try.prog 46 #[x.val, .int .i64 deep] w fun e w' => e = .returned (.int .i64 (withinP M deep x)) ∧ Below w.heap.size w w' := by
  intro k
  induction k with
  | zero =>
    intro x deep w hk hd hin hfit hsm
    obtain ⟨op, A, c, l, f, m, r, v⟩ := x
    obtain rfl : deep = 201 := by omega
    have HF : Hid (withinP M 201 (.mk op A c l f m r v) = 76) := Lib.hid (by rw [withinP, if_pos (by decide)])
    have h201 : ((201 : Nat) : Int) = 201 := rfl
    rw [h201]
    unfold ExA.val
    dsimp only
    clear hk hd hin hfit hsm
    go_enter Try.func46, Try.ntmps46
    go_wp2
    go_ret
    exact ⟨ret_i HF.out.symm, below1 w _⟩
  | succ k ih =>
    intro x deep w hk hd hin hfit hsm
    by_cases h200 : 200 < deep
    · exact ih x deep w (by omega) hd hin hfit hsm
    · obtain ⟨op, A, c, l, f, m, r, v⟩ := x
      have hd3 : (deep : Int) ≤ 200 := by omega
      by_cases hone : oneP M op l.length f m r v = 0
      · have IH := Lib.hid ih
        have hd2 : decide ((200 : Int) < deep) = false := decide_eq_false (by omega)
        obtain ⟨hrow, hinl⟩ := hin
        obtain ⟨hlen, hfl⟩ := hfit
        obtain ⟨-, hsm⟩ := hsm
        have HFL := Lib.hid hfl
        have HSM := Lib.hid hsm
        have HROW := Lib.hid hrow
        have HINL := Lib.hid hinl
        have HK := Lib.hid hk
        have HW : Hid (withinP M deep (.mk op A c l f m r v) = withinL M (deep + 1) (l.drop 0)) := Lib.hid (by rw [withinP, if_neg h200, if_neg (fun h => h hone)]; rfl)
        obtain ⟨res, hres⟩ : ∃ res, res = withinP M deep (.mk op A c l f m r v) := ⟨_, rfl⟩
        rw [← hres] at HW ⊢
        have hg := oneP_good hone
        have HS := Lib.hid (show Below w.heap.size w (w.alloc (.cells #[.int .i64 op, .slice A l.length c, .int .i64 f, .int .u64 m, .int .i64 r, .int .u64 v] 48)) ∧ (w.alloc (.cells #[.int .i64 op, .slice A l.length c, .int .i64 f, .int .u64 m, .int .i64 r, .int .u64 v] 48)).heap[w.heap.size]? = some (.cells #[.int .i64 op, .slice A l.length c, .int .i64 f, .int .u64 m, .int .i64 r, .int .u64 v] 48 (0, 0)) from ⟨below1 w _, heap_nwT w _⟩)
        clear ih hres hrow hinl hk h200 hd hfl hsm hone
        unfold ExA.val
        dsimp only
        rcases hg with ⟨rfl, hn⟩ | ⟨rfl, hn⟩ | ⟨rfl, hn⟩ | ⟨rfl, hn⟩ | ⟨rfl, hn⟩ | ⟨rfl, hn, h1, h2, h3, h4, h5, h6⟩
        · have q : ((l.length : Int) != 0) = false := by simp [hn]
          clear hn
          go_enter Try.func46, Try.ntmps46
          go_wp2_with fail
          go_loopw [6] (fun i wr => ∃ (n : Nat), i = .int .i64 n ∧ n ≤ l.length ∧ Hid (Below w.heap.size w wr ∧ wr.heap[w.heap.size]? = some (.cells #[.int .i64 1, .slice A l.length c, .int .i64 f, .int .u64 m, .int .i64 r, .int .u64 v] 48 (0, 0))) ∧ Hid (res = withinL M (deep + 1) (l.drop n))) (fun i _ => l.length - (intOf i).toNat)
          case atStart => exact ⟨0, rfl, by omega, HS, HW⟩
          case round =>
            obtain ⟨n, rfl, hn, HB, HE⟩ := hrel
            clear HS HW
            obtain ⟨b0, b1, b2, b3, b4, b5⟩ := (box6 HB.out.2).1
            rcases Nat.lt_or_ge n l.length with hlt | hge
            · have hlt' : (n : Int) < l.length := by omega
              obtain ⟨y, hy⟩ : ∃ y, l[n]? = some y := ⟨_, List.getElem?_eq_getElem hlt⟩
              have hE := HE.out
              rw [withinL_drop hy] at hE
              have hiny := (ExA.InL_get HINL.out hy).keep (N' := N) (fun b hb hl => ⟨hb, HB.out.1.block b hl⟩)
              have hcall := IH.out y (deep + 1) wr (by have := HK.out; omega) (by omega) hiny (ExA.fitsL_get HFL.out hy) (ExA.smallL_get HSM.out hy)
              obtain ⟨yo, yA, yc, yl, yf, ym, yr, yv⟩ := y
              obtain ⟨er2, her2⟩ : ∃ er2, er2 = withinP M (deep + 1) (.mk yo yA yc yl yf ym yr yv) := ⟨_, rfl⟩
              rw [← her2] at hE hcall
              obtain ⟨bb, off, rfl, hbb, i0, i1, i2, i3, i4, i5⟩ := (HROW.out.keep (N' := N) (fun b hb hl => ⟨hb, HB.out.1.block b hl⟩) (by decide)).ex hy
              unfold ExA.val at hcall
              dsimp only at hcall
              rw [Int.natCast_add] at hcall
              have HCALL := Lib.hid hcall
              clear hcall hiny hy her2
              by_cases her : er2 = 0
              · subst her
                rw [if_neg (by decide)] at hE
                have HF := Lib.hid hE
                clear hE
                go_wp2_with fail
                refine HCALL.out.mono ?_
                rintro e w2 ⟨rfl, hb2⟩
                have HB2 := Lib.hid (show Below w.heap.size w w2 ∧ w2.heap[w.heap.size]? = _ from ⟨below_t HB.out.1 hb2, (hb2.block _ (Array.getElem?_eq_some_iff.1 HB.out.2).1).trans HB.out.2⟩)
                clear hb2
                go_wp2
                go_roundw
                case rel => exact ⟨n + 1, by go_num, by omega, HB2, HF⟩
                case measure => simp [intOf]; omega
              · rw [if_pos her] at hE
                have HF := Lib.hid hE
                have h1 : (er2 != 0) = true := by simpa using her
                clear hE her
                go_wp2_with fail
                refine HCALL.out.mono ?_
                rintro e w2 ⟨rfl, hb2⟩
                have HB2 := Lib.hid (below_t HB.out.1 hb2)
                clear hb2
                go_wp2
                go_ret
                exact ⟨ret_i HF.out.symm, HB2.out⟩
            · obtain rfl : n = l.length := by omega
              have HF : Hid (res = 0) := Lib.hid (by rw [HE.out, within_nil (Nat.le_refl _)])
              go_wp2
              go_ret
              exact ⟨ret_i HF.out.symm, HB.out.1⟩
        · have q : ((l.length : Int) != 0) = false := by simp [hn]
          clear hn
          go_enter Try.func46, Try.ntmps46
          go_wp2_with fail
          go_loopw [6] (fun i wr => ∃ (n : Nat), i = .int .i64 n ∧ n ≤ l.length ∧ Hid (Below w.heap.size w wr ∧ wr.heap[w.heap.size]? = some (.cells #[.int .i64 2, .slice A l.length c, .int .i64 f, .int .u64 m, .int .i64 r, .int .u64 v] 48 (0, 0))) ∧ Hid (res = withinL M (deep + 1) (l.drop n))) (fun i _ => l.length - (intOf i).toNat)
          case atStart => exact ⟨0, rfl, by omega, HS, HW⟩
          case round =>
            obtain ⟨n, rfl, hn, HB, HE⟩ := hrel
            clear HS HW
            obtain ⟨b0, b1, b2, b3, b4, b5⟩ := (box6 HB.out.2).1
            rcases Nat.lt_or_ge n l.length with hlt | hge
            · have hlt' : (n : Int) < l.length := by omega
              obtain ⟨y, hy⟩ : ∃ y, l[n]? = some y := ⟨_, List.getElem?_eq_getElem hlt⟩
              have hE := HE.out
              rw [withinL_drop hy] at hE
              have hiny := (ExA.InL_get HINL.out hy).keep (N' := N) (fun b hb hl => ⟨hb, HB.out.1.block b hl⟩)
              have hcall := IH.out y (deep + 1) wr (by have := HK.out; omega) (by omega) hiny (ExA.fitsL_get HFL.out hy) (ExA.smallL_get HSM.out hy)
              obtain ⟨yo, yA, yc, yl, yf, ym, yr, yv⟩ := y
              obtain ⟨er2, her2⟩ : ∃ er2, er2 = withinP M (deep + 1) (.mk yo yA yc yl yf ym yr yv) := ⟨_, rfl⟩
              rw [← her2] at hE hcall
              obtain ⟨bb, off, rfl, hbb, i0, i1, i2, i3, i4, i5⟩ := (HROW.out.keep (N' := N) (fun b hb hl => ⟨hb, HB.out.1.block b hl⟩) (by decide)).ex hy
              unfold ExA.val at hcall
              dsimp only at hcall
              rw [Int.natCast_add] at hcall
              have HCALL := Lib.hid hcall
              clear hcall hiny hy her2
              by_cases her : er2 = 0
              · subst her
                rw [if_neg (by decide)] at hE
                have HF := Lib.hid hE
                clear hE
                go_wp2_with fail
                refine HCALL.out.mono ?_
                rintro e w2 ⟨rfl, hb2⟩
                have HB2 := Lib.hid (show Below w.heap.size w w2 ∧ w2.heap[w.heap.size]? = _ from ⟨below_t HB.out.1 hb2, (hb2.block _ (Array.getElem?_eq_some_iff.1 HB.out.2).1).trans HB.out.2⟩)
                clear hb2
                go_wp2
                go_roundw
                case rel => exact ⟨n + 1, by go_num, by omega, HB2, HF⟩
                case measure => simp [intOf]; omega
              · rw [if_pos her] at hE
                have HF := Lib.hid hE
                have h1 : (er2 != 0) = true := by simpa using her
                clear hE her
                go_wp2_with fail
                refine HCALL.out.mono ?_
                rintro e w2 ⟨rfl, hb2⟩
                have HB2 := Lib.hid (below_t HB.out.1 hb2)
                clear hb2
                go_wp2
                go_ret
                exact ⟨ret_i HF.out.symm, HB2.out⟩
            · obtain rfl : n = l.length := by omega
              have HF : Hid (res = 0) := Lib.hid (by rw [HE.out, within_nil (Nat.le_refl _)])
              go_wp2
              go_ret
              exact ⟨ret_i HF.out.symm, HB.out.1⟩
        · have q : ((l.length : Int) != 1) = false := by simp [hn]
          clear hn
          go_enter Try.func46, Try.ntmps46
          go_wp2_with fail
          go_loopw [6] (fun i wr => ∃ (n : Nat), i = .int .i64 n ∧ n ≤ l.length ∧ Hid (Below w.heap.size w wr ∧ wr.heap[w.heap.size]? = some (.cells #[.int .i64 3, .slice A l.length c, .int .i64 f, .int .u64 m, .int .i64 r, .int .u64 v] 48 (0, 0))) ∧ Hid (res = withinL M (deep + 1) (l.drop n))) (fun i _ => l.length - (intOf i).toNat)
          case atStart => exact ⟨0, rfl, by omega, HS, HW⟩
          case round =>
            obtain ⟨n, rfl, hn, HB, HE⟩ := hrel
            clear HS HW
            obtain ⟨b0, b1, b2, b3, b4, b5⟩ := (box6 HB.out.2).1
            rcases Nat.lt_or_ge n l.length with hlt | hge
            · have hlt' : (n : Int) < l.length := by omega
              obtain ⟨y, hy⟩ : ∃ y, l[n]? = some y := ⟨_, List.getElem?_eq_getElem hlt⟩
              have hE := HE.out
              rw [withinL_drop hy] at hE
              have hiny := (ExA.InL_get HINL.out hy).keep (N' := N) (fun b hb hl => ⟨hb, HB.out.1.block b hl⟩)
              have hcall := IH.out y (deep + 1) wr (by have := HK.out; omega) (by omega) hiny (ExA.fitsL_get HFL.out hy) (ExA.smallL_get HSM.out hy)
              obtain ⟨yo, yA, yc, yl, yf, ym, yr, yv⟩ := y
              obtain ⟨er2, her2⟩ : ∃ er2, er2 = withinP M (deep + 1) (.mk yo yA yc yl yf ym yr yv) := ⟨_, rfl⟩
              rw [← her2] at hE hcall
              obtain ⟨bb, off, rfl, hbb, i0, i1, i2, i3, i4, i5⟩ := (HROW.out.keep (N' := N) (fun b hb hl => ⟨hb, HB.out.1.block b hl⟩) (by decide)).ex hy
              unfold ExA.val at hcall
              dsimp only at hcall
              rw [Int.natCast_add] at hcall
              have HCALL := Lib.hid hcall
              clear hcall hiny hy her2
              by_cases her : er2 = 0
              · subst her
                rw [if_neg (by decide)] at hE
                have HF := Lib.hid hE
                clear hE
                go_wp2_with fail
                refine HCALL.out.mono ?_
                rintro e w2 ⟨rfl, hb2⟩
                have HB2 := Lib.hid (show Below w.heap.size w w2 ∧ w2.heap[w.heap.size]? = _ from ⟨below_t HB.out.1 hb2, (hb2.block _ (Array.getElem?_eq_some_iff.1 HB.out.2).1).trans HB.out.2⟩)
                clear hb2
                go_wp2
                go_roundw
                case rel => exact ⟨n + 1, by go_num, by omega, HB2, HF⟩
                case measure => simp [intOf]; omega
              · rw [if_pos her] at hE
                have HF := Lib.hid hE
                have h1 : (er2 != 0) = true := by simpa using her
                clear hE her
                go_wp2_with fail
                refine HCALL.out.mono ?_
                rintro e w2 ⟨rfl, hb2⟩
                have HB2 := Lib.hid (below_t HB.out.1 hb2)
                clear hb2
                go_wp2
                go_ret
                exact ⟨ret_i HF.out.symm, HB2.out⟩
            · obtain rfl : n = l.length := by omega
              have HF : Hid (res = 0) := Lib.hid (by rw [HE.out, within_nil (Nat.le_refl _)])
              go_wp2
              go_ret
              exact ⟨ret_i HF.out.symm, HB.out.1⟩
        · have q : ¬ (l.length : Int) < 2 := by omega
          clear hn
          go_enter Try.func46, Try.ntmps46
          go_wp2_with fail
          go_loopw [6] (fun i wr => ∃ (n : Nat), i = .int .i64 n ∧ n ≤ l.length ∧ Hid (Below w.heap.size w wr ∧ wr.heap[w.heap.size]? = some (.cells #[.int .i64 4, .slice A l.length c, .int .i64 f, .int .u64 m, .int .i64 r, .int .u64 v] 48 (0, 0))) ∧ Hid (res = withinL M (deep + 1) (l.drop n))) (fun i _ => l.length - (intOf i).toNat)
          case atStart => exact ⟨0, rfl, by omega, HS, HW⟩
          case round =>
            obtain ⟨n, rfl, hn, HB, HE⟩ := hrel
            clear HS HW
            obtain ⟨b0, b1, b2, b3, b4, b5⟩ := (box6 HB.out.2).1
            rcases Nat.lt_or_ge n l.length with hlt | hge
            · have hlt' : (n : Int) < l.length := by omega
              obtain ⟨y, hy⟩ : ∃ y, l[n]? = some y := ⟨_, List.getElem?_eq_getElem hlt⟩
              have hE := HE.out
              rw [withinL_drop hy] at hE
              have hiny := (ExA.InL_get HINL.out hy).keep (N' := N) (fun b hb hl => ⟨hb, HB.out.1.block b hl⟩)
              have hcall := IH.out y (deep + 1) wr (by have := HK.out; omega) (by omega) hiny (ExA.fitsL_get HFL.out hy) (ExA.smallL_get HSM.out hy)
              obtain ⟨yo, yA, yc, yl, yf, ym, yr, yv⟩ := y
              obtain ⟨er2, her2⟩ : ∃ er2, er2 = withinP M (deep + 1) (.mk yo yA yc yl yf ym yr yv) := ⟨_, rfl⟩
              rw [← her2] at hE hcall
              obtain ⟨bb, off, rfl, hbb, i0, i1, i2, i3, i4, i5⟩ := (HROW.out.keep (N' := N) (fun b hb hl => ⟨hb, HB.out.1.block b hl⟩) (by decide)).ex hy
              unfold ExA.val at hcall
              dsimp only at hcall
              rw [Int.natCast_add] at hcall
              have HCALL := Lib.hid hcall
              clear hcall hiny hy her2
              by_cases her : er2 = 0
              · subst her
                rw [if_neg (by decide)] at hE
                have HF := Lib.hid hE
                clear hE
                go_wp2_with fail
                refine HCALL.out.mono ?_
                rintro e w2 ⟨rfl, hb2⟩
                have HB2 := Lib.hid (show Below w.heap.size w w2 ∧ w2.heap[w.heap.size]? = _ from ⟨below_t HB.out.1 hb2, (hb2.block _ (Array.getElem?_eq_some_iff.1 HB.out.2).1).trans HB.out.2⟩)
                clear hb2
                go_wp2
                go_roundw
                case rel => exact ⟨n + 1, by go_num, by omega, HB2, HF⟩
                case measure => simp [intOf]; omega
              · rw [if_pos her] at hE
                have HF := Lib.hid hE
                have h1 : (er2 != 0) = true := by simpa using her
                clear hE her
                go_wp2_with fail
                refine HCALL.out.mono ?_
                rintro e w2 ⟨rfl, hb2⟩
                have HB2 := Lib.hid (below_t HB.out.1 hb2)
                clear hb2
                go_wp2
                go_ret
                exact ⟨ret_i HF.out.symm, HB2.out⟩
            · obtain rfl : n = l.length := by omega
              have HF : Hid (res = 0) := Lib.hid (by rw [HE.out, within_nil (Nat.le_refl _)])
              go_wp2
              go_ret
              exact ⟨ret_i HF.out.symm, HB.out.1⟩
        · have q : ¬ (l.length : Int) < 2 := by omega
          clear hn
          go_enter Try.func46, Try.ntmps46
          go_wp2_with fail
          go_loopw [6] (fun i wr => ∃ (n : Nat), i = .int .i64 n ∧ n ≤ l.length ∧ Hid (Below w.heap.size w wr ∧ wr.heap[w.heap.size]? = some (.cells #[.int .i64 5, .slice A l.length c, .int .i64 f, .int .u64 m, .int .i64 r, .int .u64 v] 48 (0, 0))) ∧ Hid (res = withinL M (deep + 1) (l.drop n))) (fun i _ => l.length - (intOf i).toNat)
          case atStart => exact ⟨0, rfl, by omega, HS, HW⟩
          case round =>
            obtain ⟨n, rfl, hn, HB, HE⟩ := hrel
            clear HS HW
            obtain ⟨b0, b1, b2, b3, b4, b5⟩ := (box6 HB.out.2).1
            rcases Nat.lt_or_ge n l.length with hlt | hge
            · have hlt' : (n : Int) < l.length := by omega
              obtain ⟨y, hy⟩ : ∃ y, l[n]? = some y := ⟨_, List.getElem?_eq_getElem hlt⟩
              have hE := HE.out
              rw [withinL_drop hy] at hE
              have hiny := (ExA.InL_get HINL.out hy).keep (N' := N) (fun b hb hl => ⟨hb, HB.out.1.block b hl⟩)
              have hcall := IH.out y (deep + 1) wr (by have := HK.out; omega) (by omega) hiny (ExA.fitsL_get HFL.out hy) (ExA.smallL_get HSM.out hy)
              obtain ⟨yo, yA, yc, yl, yf, ym, yr, yv⟩ := y
              obtain ⟨er2, her2⟩ : ∃ er2, er2 = withinP M (deep + 1) (.mk yo yA yc yl yf ym yr yv) := ⟨_, rfl⟩
              rw [← her2] at hE hcall
              obtain ⟨bb, off, rfl, hbb, i0, i1, i2, i3, i4, i5⟩ := (HROW.out.keep (N' := N) (fun b hb hl => ⟨hb, HB.out.1.block b hl⟩) (by decide)).ex hy
              unfold ExA.val at hcall
              dsimp only at hcall
              rw [Int.natCast_add] at hcall
              have HCALL := Lib.hid hcall
              clear hcall hiny hy her2
              by_cases her : er2 = 0
              · subst her
                rw [if_neg (by decide)] at hE
                have HF := Lib.hid hE
                clear hE
                go_wp2_with fail
                refine HCALL.out.mono ?_
                rintro e w2 ⟨rfl, hb2⟩
                have HB2 := Lib.hid (show Below w.heap.size w w2 ∧ w2.heap[w.heap.size]? = _ from ⟨below_t HB.out.1 hb2, (hb2.block _ (Array.getElem?_eq_some_iff.1 HB.out.2).1).trans HB.out.2⟩)
                clear hb2
                go_wp2
                go_roundw
                case rel => exact ⟨n + 1, by go_num, by omega, HB2, HF⟩
                case measure => simp [intOf]; omega
              · rw [if_pos her] at hE
                have HF := Lib.hid hE
                have h1 : (er2 != 0) = true := by simpa using her
                clear hE her
                go_wp2_with fail
                refine HCALL.out.mono ?_
                rintro e w2 ⟨rfl, hb2⟩
                have HB2 := Lib.hid (below_t HB.out.1 hb2)
                clear hb2
                go_wp2
                go_ret
                exact ⟨ret_i HF.out.symm, HB2.out⟩
            · obtain rfl : n = l.length := by omega
              have HF : Hid (res = 0) := Lib.hid (by rw [HE.out, within_nil (Nat.le_refl _)])
              go_wp2
              go_ret
              exact ⟨ret_i HF.out.symm, HB.out.1⟩
        · have q : ((l.length : Int) != 0) = false := by simp [hn]
          have e1 : decide (f < 0) = false := decide_eq_false (by omega)
          have e2 : decide (6 < f) = false := decide_eq_false (by omega)
          have e3 : decide (r < 1) = false := decide_eq_false (by omega)
          have e4 : decide (6 < r) = false := decide_eq_false (by omega)
          have e5 : (m == 0) = false := by simpa using h5
          have e6 : (bits .andNot .u64 v m != 0) = false := by simp [h6]
          clear hn h1 h2 h3 h4 h5 h6
          go_enter Try.func46, Try.ntmps46
          go_wp2_with fail
          go_loopw [6] (fun i wr => ∃ (n : Nat), i = .int .i64 n ∧ n ≤ l.length ∧ Hid (Below w.heap.size w wr ∧ wr.heap[w.heap.size]? = some (.cells #[.int .i64 6, .slice A l.length c, .int .i64 f, .int .u64 m, .int .i64 r, .int .u64 v] 48 (0, 0))) ∧ Hid (res = withinL M (deep + 1) (l.drop n))) (fun i _ => l.length - (intOf i).toNat)
          case atStart => exact ⟨0, rfl, by omega, HS, HW⟩
          case round =>
            obtain ⟨n, rfl, hn, HB, HE⟩ := hrel
            clear HS HW
            obtain ⟨b0, b1, b2, b3, b4, b5⟩ := (box6 HB.out.2).1
            rcases Nat.lt_or_ge n l.length with hlt | hge
            · have hlt' : (n : Int) < l.length := by omega
              obtain ⟨y, hy⟩ : ∃ y, l[n]? = some y := ⟨_, List.getElem?_eq_getElem hlt⟩
              have hE := HE.out
              rw [withinL_drop hy] at hE
              have hiny := (ExA.InL_get HINL.out hy).keep (N' := N) (fun b hb hl => ⟨hb, HB.out.1.block b hl⟩)
              have hcall := IH.out y (deep + 1) wr (by have := HK.out; omega) (by omega) hiny (ExA.fitsL_get HFL.out hy) (ExA.smallL_get HSM.out hy)
              obtain ⟨yo, yA, yc, yl, yf, ym, yr, yv⟩ := y
              obtain ⟨er2, her2⟩ : ∃ er2, er2 = withinP M (deep + 1) (.mk yo yA yc yl yf ym yr yv) := ⟨_, rfl⟩
              rw [← her2] at hE hcall
              obtain ⟨bb, off, rfl, hbb, i0, i1, i2, i3, i4, i5⟩ := (HROW.out.keep (N' := N) (fun b hb hl => ⟨hb, HB.out.1.block b hl⟩) (by decide)).ex hy
              unfold ExA.val at hcall
              dsimp only at hcall
              rw [Int.natCast_add] at hcall
              have HCALL := Lib.hid hcall
              clear hcall hiny hy her2
              by_cases her : er2 = 0
              · subst her
                rw [if_neg (by decide)] at hE
                have HF := Lib.hid hE
                clear hE
                go_wp2_with fail
                refine HCALL.out.mono ?_
                rintro e w2 ⟨rfl, hb2⟩
                have HB2 := Lib.hid (show Below w.heap.size w w2 ∧ w2.heap[w.heap.size]? = _ from ⟨below_t HB.out.1 hb2, (hb2.block _ (Array.getElem?_eq_some_iff.1 HB.out.2).1).trans HB.out.2⟩)
                clear hb2
                go_wp2
                go_roundw
                case rel => exact ⟨n + 1, by go_num, by omega, HB2, HF⟩
                case measure => simp [intOf]; omega
              · rw [if_pos her] at hE
                have HF := Lib.hid hE
                have h1 : (er2 != 0) = true := by simpa using her
                clear hE her
                go_wp2_with fail
                refine HCALL.out.mono ?_
                rintro e w2 ⟨rfl, hb2⟩
                have HB2 := Lib.hid (below_t HB.out.1 hb2)
                clear hb2
                go_wp2
                go_ret
                exact ⟨ret_i HF.out.symm, HB2.out⟩
            · obtain rfl : n = l.length := by omega
              have HF : Hid (res = 0) := Lib.hid (by rw [HE.out, within_nil (Nat.le_refl _)])
              go_wp2
              go_ret
              exact ⟨ret_i HF.out.symm, HB.out.1⟩
      · have HW : withinP M deep (.mk op A c l f m r v) = oneP M op l.length f m r v := by rw [withinP, if_neg h200, if_pos hone]
        rw [HW]
        rcases oneP_bad (by have := hsm.1; omega) hone with ⟨h1, h2⟩ | ⟨h1, rfl, h2, h3, h4, h5, h6, h7⟩
        · rw [h1]; exact rexpr_76 op A l.length c f m r v deep hd3 h2 w
        · rw [h1]
          unfold ExA.val
          dsimp only
          rw [h2]
          exact rexpr_75 A c f m r v deep hd3 ⟨h3, h4, h5, h6⟩ h7 w
theorem rExpr_c (M : Nat) (N : Nat → Prop) (x : ExA) (w : World) (hin : x.In w N) (hfit : x.fits) (hsm : x.small M) : Calls Try.prog 17 #[x.val] w fun e w' => e = .returned (.int .i64 (withinP M 0 x)) ∧ Below w.heap.size w w' := by
  have HC := Lib.hid (fun w h => rexpr_c M N 201 x 0 w (by omega) (by omega) h hfit hsm)
  have HI := Lib.hid (hin.belowW (below1 w (.cells x.cells.toArray 48)))
  obtain ⟨op, A, c, l, f, m, r, v⟩ := x
  unfold ExA.cells at HI
  unfold ExA.val at HC ⊢
  dsimp only at HC HI ⊢
  clear hin hfit hsm
  go_enter Try.func17, Try.ntmps17
  go_wp2_with fail
  refine (HC.out _ HI.out).mono ?_
  rintro e w1 ⟨rfl, hb⟩
  have HB := Lib.hid (below_t (below1 w _) hb)
  clear hb
  go_wp2
  go_ret
  exact ⟨rfl, HB.out⟩
end Go.Proofs.Ytebkbcpnjknkjaa
