import Derived.Test.YtebkbcpnjknkjaaSemWH
import Derived.Test.YtebkbcpnjknkjaaSemWC
set_option linter.unusedVariables false
set_option linter.unusedSimpArgs false
set_option maxRecDepth 100000
namespace Go.Proofs.Ytebkbcpnjknkjaa
open Go.RowKit
/-! ravelinref07.holds, Holds: the walks. -/
set_option maxHeartbeats 3200000 in
theorem rholds_test (d : D9) (A : Option Addr) (n c : Nat) (f m r v : Int) (hf : 0 ≤ f ∧ f ≤ 6) (w : World) :
    Calls Try.prog 49 #[.agg #[.int .i64 6, .slice A n c, .int .i64 f, .int .u64 m, .int .i64 r, .int .u64 v], d.val] w (BoolPost (relB r (bits .and .u64 (fieldV d f) m) v) w) := by
  have HS := Lib.hid (HD.start w #[.int .i64 6, .slice A n c, .int .i64 f, .int .u64 m, .int .i64 r, .int .u64 v] d.cells.toArray 48 34)
  obtain ⟨X, hX⟩ : ∃ X, X = bits .and .u64 (fieldV d f) m := ⟨_, rfl⟩
  have HX := Lib.hid hX
  have HR : Hid (relB r X v = if (r == 1) = true then X == v else if (r == 2) = true then X != v else if (r == 3) = true then decide (X < v) else if (r == 4) = true then decide (X ≤ v) else if (r == 5) = true then decide (v < X) else decide (v ≤ X)) := Lib.hid (by unfold relB; simp only [beq_iff_eq])
  rw [← hX]
  unfold D9.val
  unfold D9.cells at HS
  by_cases h6 : f = 6
  · subst h6
    have hb : ∀ w : World, bits .and .u64 d.ip m = X := fun _ => by rw [HX.out]; rfl
    have hb := hb w
    clear hX
    go_enter Try.func49, Try.ntmps49
    go_upto_region 1 with (fail)
    generalize (w.alloc (.cells #[.int .i64 6, .slice A n c, .int .i64 6, .int .u64 m, .int .i64 r, .int .u64 v] 48)).alloc (.cells #[.int .u32 d.nr, .int .u32 d.arch, .int .u64 d.ip, .int .u64 d.a0, .int .u64 d.a1, .int .u64 d.a2, .int .u64 d.a3, .int .u64 d.a4, .int .u64 d.a5] 34) = wr at HS ⊢
    obtain ⟨b0, b1, b2, b3, b4, b5⟩ := (box6 HS.out.ebox).1
    obtain ⟨d0, d1, d2, d3, d4, d5, d6, d7, d8⟩ := dcl HS.out.dbox
    go_wp2
    all_goals go_ret
    all_goals exact ⟨ret_b (by rw [HR.out]; simp [*]), HS.out.below⟩
  · have hf6 : f < 6 := by omega
    have hf0 := hf.1
    clear h6 hf hX
    go_enter Try.func49, Try.ntmps49
    go_upto_region 1 with (fail)
    generalize (w.alloc (.cells #[.int .i64 6, .slice A n c, .int .i64 f, .int .u64 m, .int .i64 r, .int .u64 v] 48)).alloc (.cells #[.int .u32 d.nr, .int .u32 d.arch, .int .u64 d.ip, .int .u64 d.a0, .int .u64 d.a1, .int .u64 d.a2, .int .u64 d.a3, .int .u64 d.a4, .int .u64 d.a5] 34) = wr at HS ⊢
    obtain ⟨b0, b1, b2, b3, b4, b5⟩ := (box6 HS.out.ebox).1
    have hcf : wr.cell? ⟨w.heap.size + 1, 3 + f.toNat, none⟩ = some (.int .u64 (fieldV d f)) := by
      obtain ⟨d0, d1, d2, d3, d4, d5, d6, d7, d8⟩ := dcl HS.out.dbox
      have : f = 0 ∨ f = 1 ∨ f = 2 ∨ f = 3 ∨ f = 4 ∨ f = 5 := by omega
      rcases this with rfl | rfl | rfl | rfl | rfl | rfl
      · exact d3
      · exact d4
      · exact d5
      · exact d6
      · exact d7
      · exact d8
    obtain ⟨fv, hfv⟩ : ∃ fv, fv = fieldV d f := ⟨_, rfl⟩
    rw [← hfv] at hcf
    obtain ⟨-, -, d2, -⟩ := dcl HS.out.dbox
    have hb : bits .and .u64 fv m = X := by rw [HX.out, hfv]
    clear hfv
    go_wp2
    all_goals go_ret
    all_goals exact ⟨ret_b (by rw [HR.out]; simp [*]), HS.out.below⟩
set_option maxHeartbeats 3200000 in
theorem rholds_c (d : D9) (M : Int) (N : Nat → Prop) : ∀ (k : Nat) (x : ExA) (deep : Nat) (w : World), 201 ≤ k + deep → withinP M deep x = 0 → x.In w N → x.fits → Calls Try.prog 49 #[x.val, d.val] w (BoolPost (holdsP d x) w) := by
  intro k
  induction k with
  | zero =>
    intro x deep w hk hv hin hfit
    obtain ⟨op, A, c, l, f, m, r, v⟩ := x
    have := (within_parts hv).1
    omega
  | succ k ih =>
    intro x deep w hk hv hin hfit
    obtain ⟨op, A, c, l, f, m, r, v⟩ := x
    obtain ⟨hd, hone, hwl⟩ := within_parts hv
    obtain ⟨hrow, hinl⟩ := hin
    obtain ⟨hlen, hfl⟩ := hfit
    have HS := Lib.hid (HD.start w #[.int .i64 op, .slice A l.length c, .int .i64 f, .int .u64 m, .int .i64 r, .int .u64 v] d.cells.toArray 48 34)
    have IH := Lib.hid (show ∀ (i : Nat) (y : ExA) (W : World), l[i]? = some y → Below w.heap.size w W → Calls Try.prog 49 #[y.val, d.val] W (BoolPost (holdsP d y) W) from fun i y W hy hb =>
      ih y (deep + 1) W (by omega) (withinL_get hwl hy) ((ExA.InL_get hinl hy).keep (fun b hb' hl => ⟨hb', hb.block b hl⟩)) (ExA.fitsL_get hfl hy))
    have HROW := Lib.hid hrow
    unfold D9.val at IH ⊢
    unfold D9.cells at HS
    clear ih hv hinl hfl hwl hrow
    rcases oneP_good hone with ⟨rfl, hn⟩ | ⟨rfl, hn⟩ | ⟨rfl, hn⟩ | ⟨rfl, hn⟩ | ⟨rfl, hn⟩ | ⟨rfl, hn, h1, h2, h3, h4, h5, h6⟩
    · have HF : Hid (holdsP d (.mk 1 A c l f m r v) = true) := Lib.hid (by simp [holdsP])
      unfold ExA.val
      dsimp only
      clear hone hn IH
      go_enter Try.func49, Try.ntmps49
      go_wp2
      go_ret
      exact ⟨ret_b HF.out.symm, below_al (below1 w _) _⟩
    · have HF : Hid (holdsP d (.mk 2 A c l f m r v) = false) := Lib.hid (by simp [holdsP])
      unfold ExA.val
      dsimp only
      clear hone hn IH
      go_enter Try.func49, Try.ntmps49
      go_wp2
      go_ret
      exact ⟨ret_b HF.out.symm, below_al (below1 w _) _⟩
    · obtain ⟨y, rfl⟩ := List.length_eq_one_iff.1 hn
      have HF : Hid (holdsP d (.mk 3 A c [y] f m r v) = !(holdsP d y)) := Lib.hid (by simp [holdsP, anyP])
      obtain ⟨q, hq⟩ : ∃ q, q = holdsP d y := ⟨_, rfl⟩
      rw [← hq] at HF
      have HC := Lib.hid (fun W hb => IH.out 0 y W rfl hb)
      rw [← hq] at HC
      obtain ⟨yo, yA, yc, yl, yf, ym, yr, yv⟩ := y
      obtain ⟨wr, hwr⟩ : ∃ wr, wr = (w.alloc (.cells #[.int .i64 3, .slice A [ExA.mk yo yA yc yl yf ym yr yv].length c, .int .i64 f, .int .u64 m, .int .i64 r, .int .u64 v] 48)).alloc (.cells #[.int .u32 d.nr, .int .u32 d.arch, .int .u64 d.ip, .int .u64 d.a0, .int .u64 d.a1, .int .u64 d.a2, .int .u64 d.a3, .int .u64 d.a4, .int .u64 d.a5] 34) := ⟨_, rfl⟩
      have HW := Lib.hid hwr
      rw [← hwr] at HS
      obtain ⟨bb, off, rfl, hbb, i0, i1, i2, i3, i4, i5⟩ := (HROW.out.keep (N' := N) (W' := wr) (fun b hb hl => ⟨hb, HS.out.below.block b hl⟩) (by decide)).ex (i := 0) rfl
      unfold ExA.val BoolPost at HC
      unfold ExA.val
      dsimp only at HC ⊢
      simp only [List.length_cons, List.length_nil, Nat.zero_add] at HS HW ⊢
      simp only [Nat.zero_mul, Nat.add_zero] at i0 i1 i2 i3 i4 i5
      clear hone hn IH hq hwr
      go_enter Try.func49, Try.ntmps49
      go_upto_region 7 with (fail)
      rw [← HW.out]
      obtain ⟨b0, b1, b2, b3, b4, b5⟩ := (box6 HS.out.ebox).1
      obtain ⟨d0, d1, d2, d3, d4, d5, d6, d7, d8⟩ := dcl HS.out.dbox
      clear HW
      refine wp_tail 5 (by kernel_rfl) (by kernel_rfl) ?_
      simp only [List.take_succ_cons, List.take_zero, List.drop_succ_cons, List.drop_zero]
      repeat still_step
      refine wpStill_nil ?_
      go_wp2_with fail
      refine (HC.out _ (HS.out.drewN 1).below).mono ?_
      rintro e w1 ⟨rfl, hb⟩
      have HB := Lib.hid (below_t (HS.out.drewN 1).below hb)
      clear hb
      go_wp2
      go_ret
      exact ⟨ret_b HF.out.symm, HB.out⟩
    · have HF : Hid (holdsP d (.mk 4 A c l f m r v) = allP d (l.drop 0)) := Lib.hid (by simp [holdsP])
      obtain ⟨res, hres⟩ : ∃ res, res = holdsP d (.mk 4 A c l f m r v) := ⟨_, rfl⟩
      rw [← hres] at HF ⊢
      unfold ExA.val
      dsimp only
      clear hone hn hres
      go_enter Try.func49, Try.ntmps49
      go_wp2_with fail
      go_loopw [6] (fun i wr => ∃ n : Nat, i = .int .i64 n ∧ n ≤ l.length ∧ Hid (HD w (.cells #[.int .i64 4, .slice A l.length c, .int .i64 f, .int .u64 m, .int .i64 r, .int .u64 v] 48 (0, 0)) (.cells #[.int .u32 d.nr, .int .u32 d.arch, .int .u64 d.ip, .int .u64 d.a0, .int .u64 d.a1, .int .u64 d.a2, .int .u64 d.a3, .int .u64 d.a4, .int .u64 d.a5] 34 (0, 0)) wr) ∧ Hid (res = allP d (l.drop n))) (fun i _ => l.length - (intOf i).toNat)
      case atStart => exact ⟨0, rfl, by omega, HS, HF⟩
      case round =>
        obtain ⟨n, rfl, hn, HB, HE⟩ := hrel
        clear HS HF
        obtain ⟨b0, b1, b2, b3, b4, b5⟩ := (box6 HB.out.ebox).1
        obtain ⟨d0, d1, d2, d3, d4, d5, d6, d7, d8⟩ := dcl HB.out.dbox
        rcases Nat.lt_or_ge n l.length with hlt | hge
        · have hlt' : (n : Int) < l.length := by omega
          obtain ⟨y, hy⟩ : ∃ y, l[n]? = some y := ⟨_, List.getElem?_eq_getElem hlt⟩
          have hE := HE.out
          rw [allP_drop hy] at hE
          have hcl := fun W hb => IH.out n y W hy hb
          obtain ⟨q, hq⟩ : ∃ q, q = holdsP d y := ⟨_, rfl⟩
          rw [← hq] at hE hcl
          obtain ⟨yo, yA, yc, yl, yf, ym, yr, yv⟩ := y
          obtain ⟨bb, off, rfl, hbb, i0, i1, i2, i3, i4, i5⟩ := (HROW.out.keep (N' := N) (fun b hb hl => ⟨hb, HB.out.below.block b hl⟩) (by decide)).ex hy
          unfold ExA.val BoolPost at hcl
          dsimp only at hcl
          have HCL := Lib.hid hcl
          have HE2 := Lib.hid hE
          clear hcl hy hq hE
          go_wp2_with fail
          refine wp_tail 6 (by kernel_rfl) (by kernel_rfl) ?_
          simp only [List.take_succ_cons, List.take_zero, List.drop_succ_cons, List.drop_zero]
          repeat still_step
          refine wpStill_nil ?_
          go_wp2_with fail
          refine (HCL.out _ (HB.out.drewN 1).below).mono ?_
          rintro e w1 ⟨rfl, hb⟩
          have HB1 := Lib.hid ((HB.out.drewN 1).call hb)
          clear hb b0 b1 b2 b3 b4 b5 d0 d1 d2 d3 d4 d5 d6 d7 d8
          obtain ⟨b0, b1, b2, b3, b4, b5⟩ := (box6 HB1.out.ebox).1
          cases q with
          | false =>
            have HF : Hid (res = false) := Lib.hid (by rw [HE2.out]; rfl)
            go_wp2
            go_ret
            exact ⟨ret_b HF.out.symm, HB1.out.below⟩
          | true =>
            have HF : Hid (res = allP d (l.drop (n + 1))) := Lib.hid (by rw [HE2.out]; rfl)
            go_wp2
            go_roundw
            case rel => exact ⟨n + 1, by go_num, by omega, HB1, HF⟩
            case measure => simp [intOf]; omega
        · obtain rfl : n = l.length := by omega
          have HF : Hid (res = true) := Lib.hid (by rw [HE.out, List.drop_length]; rfl)
          go_wp2
          go_ret
          exact ⟨ret_b HF.out.symm, HB.out.below⟩
    · have HF : Hid (holdsP d (.mk 5 A c l f m r v) = anyP d (l.drop 0)) := Lib.hid (by simp [holdsP])
      obtain ⟨res, hres⟩ : ∃ res, res = holdsP d (.mk 5 A c l f m r v) := ⟨_, rfl⟩
      rw [← hres] at HF ⊢
      unfold ExA.val
      dsimp only
      clear hone hn hres
      go_enter Try.func49, Try.ntmps49
      go_wp2_with fail
      go_loopw [6] (fun i wr => ∃ n : Nat, i = .int .i64 n ∧ n ≤ l.length ∧ Hid (HD w (.cells #[.int .i64 5, .slice A l.length c, .int .i64 f, .int .u64 m, .int .i64 r, .int .u64 v] 48 (0, 0)) (.cells #[.int .u32 d.nr, .int .u32 d.arch, .int .u64 d.ip, .int .u64 d.a0, .int .u64 d.a1, .int .u64 d.a2, .int .u64 d.a3, .int .u64 d.a4, .int .u64 d.a5] 34 (0, 0)) wr) ∧ Hid (res = anyP d (l.drop n))) (fun i _ => l.length - (intOf i).toNat)
      case atStart => exact ⟨0, rfl, by omega, HS, HF⟩
      case round =>
        obtain ⟨n, rfl, hn, HB, HE⟩ := hrel
        clear HS HF
        obtain ⟨b0, b1, b2, b3, b4, b5⟩ := (box6 HB.out.ebox).1
        obtain ⟨d0, d1, d2, d3, d4, d5, d6, d7, d8⟩ := dcl HB.out.dbox
        rcases Nat.lt_or_ge n l.length with hlt | hge
        · have hlt' : (n : Int) < l.length := by omega
          obtain ⟨y, hy⟩ : ∃ y, l[n]? = some y := ⟨_, List.getElem?_eq_getElem hlt⟩
          have hE := HE.out
          rw [anyP_drop hy] at hE
          have hcl := fun W hb => IH.out n y W hy hb
          obtain ⟨q, hq⟩ : ∃ q, q = holdsP d y := ⟨_, rfl⟩
          rw [← hq] at hE hcl
          obtain ⟨yo, yA, yc, yl, yf, ym, yr, yv⟩ := y
          obtain ⟨bb, off, rfl, hbb, i0, i1, i2, i3, i4, i5⟩ := (HROW.out.keep (N' := N) (fun b hb hl => ⟨hb, HB.out.below.block b hl⟩) (by decide)).ex hy
          unfold ExA.val BoolPost at hcl
          dsimp only at hcl
          have HCL := Lib.hid hcl
          have HE2 := Lib.hid hE
          clear hcl hy hq hE
          go_wp2_with fail
          refine wp_tail 6 (by kernel_rfl) (by kernel_rfl) ?_
          simp only [List.take_succ_cons, List.take_zero, List.drop_succ_cons, List.drop_zero]
          repeat still_step
          refine wpStill_nil ?_
          go_wp2_with fail
          refine (HCL.out _ (HB.out.drewN 1).below).mono ?_
          rintro e w1 ⟨rfl, hb⟩
          have HB1 := Lib.hid ((HB.out.drewN 1).call hb)
          clear hb b0 b1 b2 b3 b4 b5 d0 d1 d2 d3 d4 d5 d6 d7 d8
          obtain ⟨b0, b1, b2, b3, b4, b5⟩ := (box6 HB1.out.ebox).1
          cases q with
          | true =>
            have HF : Hid (res = true) := Lib.hid (by rw [HE2.out]; rfl)
            go_wp2
            go_ret
            exact ⟨ret_b HF.out.symm, HB1.out.below⟩
          | false =>
            have HF : Hid (res = anyP d (l.drop (n + 1))) := Lib.hid (by rw [HE2.out]; rfl)
            go_wp2
            go_roundw
            case rel => exact ⟨n + 1, by go_num, by omega, HB1, HF⟩
            case measure => simp [intOf]; omega
        · obtain rfl : n = l.length := by omega
          have HF : Hid (res = false) := Lib.hid (by rw [HE.out, List.drop_length]; rfl)
          go_wp2
          go_ret
          exact ⟨ret_b HF.out.symm, HB.out.below⟩
    · have HF : holdsP d (.mk 6 A c l f m r v) = relB r (bits .and .u64 (fieldV d f) m) v := by simp [holdsP]
      rw [HF]
      exact rholds_test d A l.length c f m r v ⟨h1, h2⟩ w
set_option maxHeartbeats 800000 in
theorem rHolds_c (M : Nat) (N : Nat → Prop) (x : ExA) (d : D9) (w : World) (hin : x.In w N) (hfit : x.fits) (hsm : x.small M) : Calls Try.prog 21 #[x.val, d.val] w (BoolPost (holdsAt M d x) w) := by
  have HX := Lib.hid (fun W hb => rExpr_c M N x W (hin.keep (N' := N) (fun b hb' hl => ⟨hb', (show Below w.heap.size w W from hb).block b hl⟩)) hfit hsm)
  have HH := Lib.hid (fun W hb (hv : withinP M 0 x = 0) => rholds_c d M N 201 x 0 W (by omega) hv (hin.keep (N' := N) (fun b hb' hl => ⟨hb', (show Below w.heap.size w W from hb).block b hl⟩)) hfit)
  obtain ⟨ev, hev⟩ : ∃ ev, ev = withinP M 0 x := ⟨_, rfl⟩
  obtain ⟨q, hq⟩ : ∃ q, q = holdsP d x := ⟨_, rfl⟩
  have HF : Hid (holdsAt M d x = (ev == 0 && q)) := Lib.hid (by unfold holdsAt; rw [← hev, ← hq])
  rw [← hev] at HX
  rw [← hev, ← hq] at HH
  obtain ⟨op, A, c, l, f, m, r, v⟩ := x
  have HS := Lib.hid (HD.start w #[.int .i64 op, .slice A l.length c, .int .i64 f, .int .u64 m, .int .i64 r, .int .u64 v] d.cells.toArray 48 34)
  unfold ExA.val D9.val
  unfold ExA.val at HX HH
  unfold D9.val BoolPost at HH
  unfold D9.cells at HS
  dsimp only at HX HH ⊢
  clear hin hfit hev hq hsm
  go_enter Try.func21, Try.ntmps21
  go_wp2_with fail
  refine (HX.out _ HS.out.below).mono ?_
  rintro e w1 ⟨rfl, hb⟩
  have H1 := Lib.hid (HS.out.call hb)
  clear hb
  obtain ⟨b0, b1, b2, b3, b4, b5⟩ := (box6 H1.out.ebox).1
  obtain ⟨d0, d1, d2, d3, d4, d5, d6, d7, d8⟩ := dcl H1.out.dbox
  by_cases h0 : ev = 0
  · subst h0
    go_wp2_with fail
    refine (HH.out _ H1.out.below (by trivial)).mono ?_
    rintro e w2 ⟨rfl, hb⟩
    have H2 := Lib.hid (H1.out.call hb)
    clear hb
    go_wp2
    go_ret
    exact ⟨ret_b (by rw [HF.out]; rfl), H2.out.below⟩
  · have h1 : (ev != 0) = true := by simpa using h0
    have h2 : (ev == 0) = false := by simpa using h0
    clear h0
    go_wp2
    go_ret
    exact ⟨ret_b (by rw [HF.out, h2]; rfl), H1.out.below⟩
end Go.Proofs.Ytebkbcpnjknkjaa
