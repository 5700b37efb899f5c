import Derived.Test.YtebkbcpnjknkjaaSemW5
set_option linter.unusedVariables false
set_option linter.unusedSimpArgs false
set_option maxRecDepth 100000
namespace Go.Proofs.Ytebkbcpnjknkjaa
open Go.RowKit
/-! sem.within, Expr: the walks. -/
theorem ExA.In.belowW {W W' : World} {N : Nat → Prop} {x : ExA} (h : x.In W N) (k : Below W.heap.size W W') : x.In W' N := h.keep fun b hb hl => ⟨hb, k.block b hl⟩
set_option maxHeartbeats 1600000 in
theorem within_c (N : Nat → Prop) : ∀ (k : Nat) (x : ExA) (deep : Nat) (w : World), 201 ≤ k + deep → deep ≤ 201 → x.In w N → x.fits → Calls Try.prog 44 #[x.val, .int .i64 deep] w fun e w' => e = .returned (.int .i64 (withinP 1099511627776 deep x)) ∧ Below w.heap.size w w' := by
  intro k
  induction k with
  | zero =>
    intro x deep w hk hd hin hfit
    obtain ⟨op, A, c, l, f, m, r, v⟩ := x
    obtain rfl : deep = 201 := by omega
    have HF : Hid (withinP 1099511627776 201 (.mk op A c l f m r v) = 76) := Lib.hid (by rw [withinP, if_pos (by decide)])
    have h201 : ((201 : Nat) : Int) = 201 := rfl
    rw [h201]
    unfold ExA.val
    dsimp only
    clear hk hd hin hfit
    go_enter Try.func44, Try.ntmps44
    go_wp2
    go_ret
    exact ⟨ret_i HF.out.symm, below1 w _⟩
  | succ k ih =>
    intro x deep w hk hd hin hfit
    by_cases h200 : 200 < deep
    · exact ih x deep w (by omega) hd hin hfit
    · obtain ⟨op, A, c, l, f, m, r, v⟩ := x
      have IH := Lib.hid ih
      have hd2 : ¬ (200 : Int) < deep := by omega
      have hd3 : (deep : Int) ≤ 200 := by omega
      obtain ⟨hrow, hinl⟩ := hin
      obtain ⟨hlen, hfl⟩ := hfit
      have HFL := Lib.hid hfl
      have HROW := Lib.hid hrow
      have HINL := Lib.hid hinl
      have HK := Lib.hid hk
      obtain ⟨e1, he1⟩ : ∃ e1, e1 = oneP 1099511627776 op l.length f m r v := ⟨_, rfl⟩
      have HONE := Lib.hid (fun w => one_c op A l.length c f m r v w)
      have HW : Hid (withinP 1099511627776 deep (.mk op A c l f m r v) = if e1 ≠ 0 then e1 else withinL 1099511627776 (deep + 1) (l.drop 0)) := Lib.hid (by rw [withinP, if_neg h200, ← he1]; rfl)
      rw [← he1] at HONE
      obtain ⟨res, hres⟩ : ∃ res, res = withinP 1099511627776 deep (.mk op A c l f m r v) := ⟨_, rfl⟩
      rw [← hres] at HW ⊢
      clear ih he1 hres hrow hinl hk h200 hd hfl
      unfold ExA.val
      dsimp only
      go_enter Try.func44, Try.ntmps44
      go_wp2_with fail
      refine (HONE.out _).mono ?_
      rintro e w1 ⟨rfl, hb⟩
      have HS := Lib.hid (show Below w.heap.size w w1 ∧ w1.heap[w.heap.size]? = some (.cells #[.int .i64 op, .slice A l.length c, .int .i64 f, .int .u64 m, .int .i64 r, .int .u64 v] 48 (0, 0)) from ⟨below_t (below1 w _) hb, (hb.block _ (by simp)).trans (heap_nwT w _)⟩)
      clear hb
      go_wp2_with fail
      go_loopw [5, 6] (fun e i wr => ∃ (n : Nat) (er : Int), i = .int .i64 n ∧ e = .int .i64 er ∧ n ≤ l.length ∧ Hid (Below w.heap.size w wr ∧ wr.heap[w.heap.size]? = some (.cells #[.int .i64 op, .slice A l.length c, .int .i64 f, .int .u64 m, .int .i64 r, .int .u64 v] 48 (0, 0))) ∧ Hid (res = if er ≠ 0 then er else withinL 1099511627776 (deep + 1) (l.drop n))) (fun _ i _ => l.length - (intOf i).toNat)
      case atStart => exact ⟨0, e1, rfl, rfl, by omega, HS, HW⟩
      case round =>
        obtain ⟨n, er, rfl, rfl, hn, HB, HE⟩ := hrel
        clear HS HW
        obtain ⟨b0, b1, b2, b3, b4, b5⟩ := (box6 HB.out.2).1
        by_cases her : er = 0
        · subst her
          rcases Nat.lt_or_ge n l.length with hlt | hge
          · have hlt' : (n : Int) < l.length := by omega
            obtain ⟨y, hy⟩ : ∃ y, l[n]? = some y := ⟨_, List.getElem?_eq_getElem hlt⟩
            have hE := HE.out
            rw [if_neg (by decide), withinL_drop hy] at hE
            have hiny := (ExA.InL_get HINL.out hy).keep (N' := N) (fun b hb hl => ⟨hb, HB.out.1.block b hl⟩)
            have hcall := IH.out y (deep + 1) wr (by have := HK.out; omega) (by omega) hiny (ExA.fitsL_get HFL.out hy)
            obtain ⟨yo, yA, yc, yl, yf, ym, yr, yv⟩ := y
            obtain ⟨er2, her2⟩ : ∃ er2, er2 = withinP 1099511627776 (deep + 1) (.mk yo yA yc yl yf ym yr yv) := ⟨_, rfl⟩
            rw [← her2] at hE hcall
            obtain ⟨bb, off, rfl, hbb, i0, i1, i2, i3, i4, i5⟩ := (HROW.out.keep (N' := N) (fun b hb hl => ⟨hb, HB.out.1.block b hl⟩) (by decide)).ex hy
            unfold ExA.val at hcall
            dsimp only at hcall
            rw [Int.natCast_add] at hcall
            have HCALL := Lib.hid hcall
            have HF := Lib.hid hE
            clear hE hcall hiny hy her2
            go_wp2_with fail
            refine HCALL.out.mono ?_
            rintro e w2 ⟨rfl, hb2⟩
            have HB2 := Lib.hid (show Below w.heap.size w w2 ∧ w2.heap[w.heap.size]? = _ from ⟨below_t HB.out.1 hb2, (hb2.block _ (Array.getElem?_eq_some_iff.1 HB.out.2).1).trans HB.out.2⟩)
            clear hb2
            go_wp2
            go_roundw
            case rel => exact ⟨n + 1, er2, by go_num, rfl, by omega, HB2, HF⟩
            case measure => simp [intOf]; omega
          · obtain rfl : n = l.length := by omega
            have HF : Hid (res = 0) := Lib.hid (by rw [HE.out, if_neg (by decide), within_nil (Nat.le_refl _)])
            go_wp2
            go_ret
            exact ⟨ret_i HF.out.symm, HB.out.1⟩
        · have h0 : (er == 0) = false := by simpa using her
          have HF : Hid (res = er) := Lib.hid (by rw [HE.out, if_pos her])
          clear her
          rcases Nat.lt_or_ge n l.length with hlt | hge
          · have hlt' : (n : Int) < l.length := by omega
            go_wp2
            go_ret
            exact ⟨ret_i HF.out.symm, HB.out.1⟩
          · have hge' : ¬ (n : Int) < l.length := by omega
            go_wp2
            go_ret
            exact ⟨ret_i HF.out.symm, HB.out.1⟩
theorem Expr_c (N : Nat → Prop) (x : ExA) (w : World) (hin : x.In w N) (hfit : x.fits) : Calls Try.prog 15 #[x.val] w fun e w' => e = .returned (.int .i64 (withinP 1099511627776 0 x)) ∧ Below w.heap.size w w' := by
  have HC := Lib.hid (fun w h => within_c N 201 x 0 w (by omega) (by omega) h hfit)
  have HI := Lib.hid (hin.belowW (below1 w (.cells x.cells.toArray 48)))
  obtain ⟨op, A, c, l, f, m, r, v⟩ := x
  unfold ExA.cells at HI
  unfold ExA.val at HC ⊢
  dsimp only at HC HI ⊢
  clear hin hfit
  go_enter Try.func15, Try.ntmps15
  go_wp2_with fail
  refine (HC.out _ HI.out).mono ?_
  rintro e w1 ⟨rfl, hb⟩
  have HB := Lib.hid (below_t (below1 w _) hb)
  clear hb
  go_wp2
  go_ret
  exact ⟨rfl, HB.out⟩
end Go.Proofs.Ytebkbcpnjknkjaa
