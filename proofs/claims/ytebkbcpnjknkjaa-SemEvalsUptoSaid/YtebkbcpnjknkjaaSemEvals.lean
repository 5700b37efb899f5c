/- SemEvals: of any policy and any data that read as at most 1048576 values and letters, what the policy says of the data, and whether its first five rules' expressions hold, is the document's. -/
import Derived.Test.YtebkbcpnjknkjaaSemHead
import Derived.Test.YtebkbcpnjknkjaaOpenX
import Derived.Test.YtebkbcpnjknkjaaSemBig
import Derived.Test.YtebkbcpnjknkjaaSemWM
import Derived.Test.YtebkbcpnjknkjaaFlatG
import Derived.Deep.CondSized
set_option linter.unusedVariables false
set_option linter.unusedSimpArgs false
set_option maxRecDepth 100000
namespace Go.Proofs.Ytebkbcpnjknkjaa
open Go.RowKit Go.ChangeShapes Go.WideShapes Go.Deep
theorem data_cells7T {H : Type} {enc : TypeId × Value → H} {w : World} {base : Nat} {spare : Nat → Bool} {held : Bool} (n : Nat) (cs : List Value) (y : DataW H × List MemPlace) (h : DataW.trod enc Try.prog w base spare held n 34 cs = some y) : ∃ x : D9, cs = x.cells ∧ True := by
  obtain ⟨x, e⟩ := data_cells7 n cs y h
  exact ⟨x, e, trivial⟩
set_option maxHeartbeats 3200000 in
theorem SemEvals_w (p : PolA) (A2 : Option Addr) (cap2 : Nat) (ds : List D9) (w : World) (hin : p.In w (fun b => b < w.heap.size)) (hok : p.Ok) (hsm : p.small 1048576)
    (ho2 : ∀ x ∈ ds, True) (hc2 : ds.length ≤ cap2) (hA2 : A2 = none → cap2 = 0) (hB2 : ds.length * 64 ≤ 140737488351232) (hr2 : Reads w w.heap.size 9 A2 ds.length (ds.flatMap D9.cells)) :
    Calls Try.prog 6 #[p.val, .slice A2 ds.length cap2] w fun e w' => e = .returned (.bool true) ∧ Below w.heap.size w w' := by
  obtain ⟨N, hN⟩ : ∃ N : Nat → Prop, N = fun b => b < w.heap.size := ⟨_, rfl⟩
  rw [← hN] at hin
  clear hN
  have HL := Lib.hid (fun w => lives7_c w)
  have HC := Lib.hid (fun d W hb => Eval_c N p d W hok (hin.below (show Below w.heap.size w W from hb)))
  have HR := Lib.hid (fun d W hb => rEval_c 1048576 (by decide) N p d W hok hsm (hin.below (show Below w.heap.size w W from hb)))
  have HEQ := Lib.hid (fun d => eval_big (M := 1048576) (M' := 1099511627776) (by decide) p hsm d)
  unfold PolA.small at hsm
  unfold U32Post at HC HR
  obtain ⟨ar, fk, fd, dk, dd, A, cap, rs⟩ := p
  obtain ⟨hsz, hfd, hdd, hrs⟩ := hok
  obtain ⟨hrow, hall⟩ := hin
  dsimp only at hrs hrow hall hsm
  have HSM := Lib.hid hsm
  have HRS := Lib.hid hrs
  have HROW := Lib.hid hrow
  have HALL := Lib.hid hall
  have HD2 := Lib.hid hr2
  have HS := Lib.hid (show BoxS w (.cells #[.string ar, .int .i64 fk, .int .u64 fd, .int .i64 dk, .int .u64 dd, .slice A rs.length cap] 29 (0, 0)) _ from ⟨below1 w _, heap_nwT w _⟩)
  unfold PolA.val D9.val at HC HR
  unfold PolA.val
  dsimp only at HC HR ⊢
  clear hsz hfd hdd hrs hrow hall hsm ho2 hc2 hA2 hr2
  go_enter Try.func6, Try.ntmps6
  go_wp2_with fail
  refine (HL.out _).mono ?_
  rintro e w1 ⟨rfl, hb⟩
  have H1 := Lib.hid (HS.out.call hb)
  clear hb
  go_wp2_with fail
  go_loopw [6] (fun i wr => ∃ n : Nat, i = .int .i64 n ∧ n ≤ ds.length ∧ Hid (BoxS w (.cells #[.string ar, .int .i64 fk, .int .u64 fd, .int .i64 dk, .int .u64 dd, .slice A rs.length cap] 29 (0, 0)) wr)) (fun i _ => ds.length - (intOf i).toNat)
  case atStart => exact ⟨0, rfl, by omega, H1⟩
  case round =>
    obtain ⟨n, rfl, hn, HB⟩ := hrel
    clear H1 HS
    obtain ⟨b0, b1, b2, b3, b4, b5⟩ := (box6 HB.out.box).1
    rcases Nat.lt_or_ge n ds.length with hlt | hge
    · have hlt' : (n : Int) < ds.length := by omega
      obtain ⟨d, hx⟩ : ∃ x, ds[n]? = some x := ⟨_, List.getElem?_eq_getElem hlt⟩
      have HX := Lib.hid hx
      obtain ⟨xb, xo, rfl, hxb, x0, x1, x2, x3, x4, x5, x6, x7, x8⟩ := (HD2.out.up HB.out.below).dat hx
      have HC1 := Lib.hid (HC.out d)
      have HR1 := Lib.hid (HR.out d)
      rw [HEQ.out d] at HC1
      rw [show ((1048576 : Nat) : Int) = 1048576 from rfl] at HC1 HR1
      obtain ⟨ev, hev⟩ : ∃ ev, ev = evalP 1048576 ⟨ar, fk, fd, dk, dd, A, cap, rs⟩ d := ⟨_, rfl⟩
      rw [← hev] at HC1 HR1
      clear hx hev
      go_wp2_with fail
      refine wp_tail 5 (by kernel_rfl) (by kernel_rfl) ?_
      simp only [List.take_succ_cons, List.take_zero, List.drop_succ_cons, List.drop_zero]
      repeat still_step
      refine wpStill_nil ?_
      go_wp2_with fail
      refine (HC1.out _ (HB.out.drewN 1).below).mono ?_
      rintro e w2 ⟨rfl, hb0⟩
      have hb : Below wr.heap.size wr w2 := below_t (below_dr (Below.refl _ _)) hb0
      have H2 := Lib.hid (HB.out.call hb)
      have j0 := keepC hb x0
      have j1 := keepC hb x1
      have j2 := keepC hb x2
      have j3 := keepC hb x3
      have j4 := keepC hb x4
      have j5 := keepC hb x5
      have j6 := keepC hb x6
      have j7 := keepC hb x7
      have j8 := keepC hb x8
      clear hb hb0 b0 b1 b2 b3 b4 b5 x0 x1 x2 x3 x4 x5 x6 x7 x8
      obtain ⟨b0, b1, b2, b3, b4, b5⟩ := (box6 H2.out.box).1
      go_wp2_with fail
      go_region_held3 (fun W => (W.cell? ⟨w.heap.size, 0, none⟩ = some (.string ar) ∧ W.cell? ⟨w.heap.size, 1, none⟩ = some (.int .i64 fk) ∧ W.cell? ⟨w.heap.size, 2, none⟩ = some (.int .u64 fd) ∧ W.cell? ⟨w.heap.size, 3, none⟩ = some (.int .i64 dk) ∧ W.cell? ⟨w.heap.size, 4, none⟩ = some (.int .u64 dd) ∧ W.cell? ⟨w.heap.size, 5, none⟩ = some (.slice A rs.length cap)) ∧
          (W.cell? ⟨xb, xo + n * 9, none⟩ = some (.int .u32 d.nr) ∧ W.cell? ⟨xb, xo + n * 9 + 1, none⟩ = some (.int .u32 d.arch) ∧ W.cell? ⟨xb, xo + n * 9 + 2, none⟩ = some (.int .u64 d.ip) ∧ W.cell? ⟨xb, xo + n * 9 + 3, none⟩ = some (.int .u64 d.a0) ∧ W.cell? ⟨xb, xo + n * 9 + 4, none⟩ = some (.int .u64 d.a1) ∧ W.cell? ⟨xb, xo + n * 9 + 5, none⟩ = some (.int .u64 d.a2) ∧ W.cell? ⟨xb, xo + n * 9 + 6, none⟩ = some (.int .u64 d.a3) ∧ W.cell? ⟨xb, xo + n * 9 + 7, none⟩ = some (.int .u64 d.a4) ∧ W.cell? ⟨xb, xo + n * 9 + 8, none⟩ = some (.int .u64 d.a5)) ∧ Below w2.heap.size w2 W)
        (first | exact ⟨⟨b0, b1, b2, b3, b4, b5⟩, ⟨j0, j1, j2, j3, j4, j5, j6, j7, j8⟩, below_dr (Below.refl _ _)⟩ | assumption | exact ⟨⟨keepC hb b0, keepC hb b1, keepC hb b2, keepC hb b3, keepC hb b4, keepC hb b5⟩, ⟨keepC hb j0, keepC hb j1, keepC hb j2, keepC hb j3, keepC hb j4, keepC hb j5, keepC hb j6, keepC hb j7, keepC hb j8⟩, hb⟩)
        (first | (go_at_call 19; refine (HR1.out _ (H2.out.drewN 1).below).mono ?_; rintro e w3 ⟨rfl, hb0⟩; have hb : Below w2.heap.size w2 w3 := below_t (below_dr (Below.refl w2.heap.size w2)) hb0; clear hb0))
      have H3 := Lib.hid (H2.out.call hb)
      have HXR := Lib.hid (show Reads w w.heap.size 9 (some ⟨xb, xo, none⟩) ds.length (ds.flatMap D9.cells) from HD2.out)
      clear hb b0 b1 b2 b3 b4 b5 j0 j1 j2 j3 j4 j5 j6 j7 j8 HC1 HR1 H2 HB
      obtain ⟨wo, hwo⟩ : ∃ wo : World, wo = w3 := ⟨_, rfl⟩
      go_wp2_with fail
      clear hwo hxb
      go_loopw [8] (fun i wr => ∃ k : Nat, i = .int .i64 k ∧ k ≤ rs.length ∧ k ≤ 5 ∧ Hid (BoxS w (.cells #[.string ar, .int .i64 fk, .int .u64 fd, .int .i64 dk, .int .u64 dd, .slice A rs.length cap] 29 (0, 0)) wr)) (fun i _ => rs.length - (intOf i).toNat)
      case atStart => exact ⟨0, rfl, by omega, by omega, H3⟩
      case round =>
        obtain ⟨k, rfl, hk, hk5, HB⟩ := hrel
        clear H3
        obtain ⟨b0, b1, b2, b3, b4, b5⟩ := (box6 HB.out.box).1
        rcases Nat.lt_or_ge k rs.length with hlt | hge
        · have hlt' : (k : Int) < rs.length := by omega
          rcases Nat.lt_or_ge k 5 with hl5 | hg5
          · have hl5' : (k : Int) < 5 := by omega
            obtain ⟨xb', xo', hxe, hxb', x0, x1, x2, x3, x4, x5, x6, x7, x8⟩ := (HXR.out.up HB.out.below).dat HX.out
            injection hxe with hxe
            injection hxe with hx1 hx2 _
            subst hx1 hx2
            obtain ⟨⟨xA, xcap, cs, ⟨eo, xeA, xc, xl, xf, xm, xr, xv⟩, xdk, xdd⟩, hy⟩ : ∃ y, rs[k]? = some y := ⟨_, List.getElem?_eq_getElem hlt⟩
            have hmem := List.mem_of_getElem? hy
            obtain ⟨b, off, rfl, hbb, i0, i1, i2, i3, i4, i5, i6, i7, i8⟩ := (HROW.out.keep (N' := N) (fun b hb hl => ⟨hb, HB.out.below.block b hl⟩) (by decide)).rule hy
            have hinr := ((HALL.out _ hmem).keep (N' := N) (fun b hb hl => ⟨hb, HB.out.below.block b hl⟩)).when_
            have hfit := (HRS.out _ hmem).fits
            have hsmx := (HSM.out _ hmem).1
            dsimp only at hinr hfit hsmx
            have HPX := Lib.hid (fun W hb => Holds_c N (.mk eo xeA xc xl xf xm xr xv) d W (hinr.keep (N' := N) (fun b hb' hl => ⟨hb', (show Below wr.heap.size wr W from hb).block b hl⟩)) hfit)
            have HPY := Lib.hid (fun W hb => rHolds_c 1048576 N (.mk eo xeA xc xl xf xm xr xv) d W (hinr.keep (N' := N) (fun b hb' hl => ⟨hb', (show Below wr.heap.size wr W from hb).block b hl⟩)) hfit hsmx)
            rw [holdsAt_big (M := 1048576) (M' := 1099511627776) (by decide) _ hsmx d] at HPX
            rw [show ((1048576 : Nat) : Int) = 1048576 from rfl] at HPX HPY
            obtain ⟨hv, hhv⟩ : ∃ hv, hv = holdsAt 1048576 d (.mk eo xeA xc xl xf xm xr xv) := ⟨_, rfl⟩
            rw [← hhv] at HPX HPY
            unfold BoolPost ExA.val D9.val at HPX HPY
            dsimp only at HPX HPY
            clear hy hmem hinr hfit hsmx hhv
            go_wp2_with fail
            refine wp_tail 10 (by kernel_rfl) (by kernel_rfl) ?_
            simp only [List.take_succ_cons, List.take_zero, List.drop_succ_cons, List.drop_zero]
            repeat still_step
            refine wpStill_nil ?_
            go_wp2_with fail
            refine (HPX.out _ (below_dr (Below.refl _ _))).mono ?_
            rintro e w4 ⟨rfl, hb0⟩
            have hb : Below wr.heap.size wr w4 := below_t (below_dr (Below.refl _ _)) hb0
            have H4 := Lib.hid (HB.out.call hb)
            have HW4 := Lib.hid hb
            have j0 := keepC hb x0
            have j1 := keepC hb x1
            have j2 := keepC hb x2
            have j3 := keepC hb x3
            have j4 := keepC hb x4
            have j5 := keepC hb x5
            have j6 := keepC hb x6
            have j7 := keepC hb x7
            have j8 := keepC hb x8
            have l1 := keepC hb i1
            have l2 := keepC hb i2
            have l3 := keepC hb i3
            have l4 := keepC hb i4
            have l5 := keepC hb i5
            have l6 := keepC hb i6
            clear hb hb0 b0 b1 b2 b3 b4 b5 x0 x1 x2 x3 x4 x5 x6 x7 x8 i0 i1 i2 i3 i4 i5 i6 i7 i8
            obtain ⟨b0, b1, b2, b3, b4, b5⟩ := (box6 H4.out.box).1
            go_wp2_with fail
            go_region_held3 (fun W => W.cell? ⟨w.heap.size, 5, none⟩ = some (.slice (some ⟨b, off, none⟩) rs.length cap) ∧
              (W.cell? ⟨b, off + k * 9 + 1, none⟩ = some (.int .i64 eo) ∧ W.cell? ⟨b, off + k * 9 + 2, none⟩ = some (.slice xeA xl.length xc) ∧ W.cell? ⟨b, off + k * 9 + 3, none⟩ = some (.int .i64 xf) ∧ W.cell? ⟨b, off + k * 9 + 4, none⟩ = some (.int .u64 xm) ∧ W.cell? ⟨b, off + k * 9 + 5, none⟩ = some (.int .i64 xr) ∧ W.cell? ⟨b, off + k * 9 + 6, none⟩ = some (.int .u64 xv)) ∧
              (W.cell? ⟨xb, xo + n * 9, none⟩ = some (.int .u32 d.nr) ∧ W.cell? ⟨xb, xo + n * 9 + 1, none⟩ = some (.int .u32 d.arch) ∧ W.cell? ⟨xb, xo + n * 9 + 2, none⟩ = some (.int .u64 d.ip) ∧ W.cell? ⟨xb, xo + n * 9 + 3, none⟩ = some (.int .u64 d.a0) ∧ W.cell? ⟨xb, xo + n * 9 + 4, none⟩ = some (.int .u64 d.a1) ∧ W.cell? ⟨xb, xo + n * 9 + 5, none⟩ = some (.int .u64 d.a2) ∧ W.cell? ⟨xb, xo + n * 9 + 6, none⟩ = some (.int .u64 d.a3) ∧ W.cell? ⟨xb, xo + n * 9 + 7, none⟩ = some (.int .u64 d.a4) ∧ W.cell? ⟨xb, xo + n * 9 + 8, none⟩ = some (.int .u64 d.a5)) ∧ Below w4.heap.size w4 W)
              (first | exact ⟨b5, ⟨l1, l2, l3, l4, l5, l6⟩, ⟨j0, j1, j2, j3, j4, j5, j6, j7, j8⟩, below_dr (Below.refl _ _)⟩ | assumption | exact ⟨keepC hb b5, ⟨keepC hb l1, keepC hb l2, keepC hb l3, keepC hb l4, keepC hb l5, keepC hb l6⟩, ⟨keepC hb j0, keepC hb j1, keepC hb j2, keepC hb j3, keepC hb j4, keepC hb j5, keepC hb j6, keepC hb j7, keepC hb j8⟩, hb⟩)
              (first | (go_at_call 21; refine (HPY.out _ (below_dr HW4.out)).mono ?_; rintro e w5 ⟨rfl, hb0⟩; have hb : Below w4.heap.size w4 w5 := below_t (below_dr (Below.refl w4.heap.size w4)) hb0; clear hb0))
            have H5 := Lib.hid (H4.out.call hb)
            clear hb b0 b1 b2 b3 b4 b5 j0 j1 j2 j3 j4 j5 j6 j7 j8 l1 l2 l3 l4 l5 l6
            go_wp2
            go_roundw
            case rel => exact ⟨k + 1, by go_num, by omega, by omega, H5⟩
            case measure => simp [intOf]; omega
          · have hl5' : ¬ (k : Int) < 5 := by omega
            go_wp2
            go_roundw
            case rel => exact ⟨n + 1, by go_num, by omega, HB⟩
            case measure => simp [intOf]; omega
        · obtain rfl : k = rs.length := by omega
          go_wp2
          go_roundw
          case rel => exact ⟨n + 1, by go_num, by omega, HB⟩
          case measure => simp [intOf]; omega
    · obtain rfl : n = ds.length := by omega
      go_wp2
      go_ret
      exact ⟨rfl, HB.out.below⟩
/-! ### the row of SemEvals -/
set_option maxRecDepth 100000 in
theorem SemEvals_lifted (os : Os) (started : os.Started) (H : Type) (enc : TypeId × Value → H) (F0 : Stop.Interp) :
    ReturnsInHanded {} Try.checked os 6 .any ((Rows.OpenSpec.upto Rows.semEvalsSpec).pre6 enc Try.prog Try.f6 Rows.semEvalsUptoRow.domain false) (((Rows.OpenSpec.upto Rows.semEvalsSpec).at F0).post enc Try.prog Try.f6 false true false false) := by
  refine returnsInHanded_of_cond_sized (C := Try.checked) (s := (Rows.OpenSpec.upto Rows.semEvalsSpec)) (k := Rows.uptoSmall) rfl ownNone started (by kernel_rfl) Try.func6
    (OpenSpec.witness (enc := enc) (C := Try.checked) (s := (Rows.OpenSpec.upto Rows.semEvalsSpec)) (k := Rows.uptoSmall) rfl false ⟨#[], #[.agg #[.string ⟨#[]⟩, .int .i64 0, .int .u64 0, .int .i64 0, .int .u64 0, .slice none 0 0], .slice none 0 0], []⟩ 8 (by kernel_rfl) (by kernel_rfl) (by kernel_rfl)
      (x := ([.agg [.lit (.string []), .agg [.lit (.int .i64 0), .lit (.int .u64 0)], .agg [.lit (.int .i64 0), .lit (.int .u64 0)], .nil], .nil], [], [])) (by kernel_rfl) (by kernel_rfl) (by kernel_rfl)) ?_
  intro W base args ds gs before hval0 hW hcnd hkk0 hsz0 _
  have hkk : Rows.uptoBulkAll (ds ++ gs) ≤ 1048576 := of_decide_eq_true hkk0
  have hsz : (DataW.weightsEach Try.prog (Try.f6.params.toList ++ Rows.semEvalsSpec.plain.varTypes Try.prog) (ds ++ gs)).all (· ≤ reachBytes) = true := hsz0
  have hval : ∀ (j : Nat) t v, Try.f6.params[j]? = some t → args[j]? = some v → Value.okWide Try.prog W .any base t v := hval0
  have hW' := hW
  obtain ⟨p, q, hA0, hV, rfl, hfz, hnd⟩ := hW
  have hA : DataW.TrodAll enc Try.prog W 0 (fun _ => true) true Try.f6.params.toList args.toList ds p := hA0
  rw [Try.params6] at hA hval hsz
  obtain ⟨v0, vs0, d0, ds0, p0, q0, hargs, rfl, rfl, h0, r0⟩ := trodAll_cons hA
  obtain ⟨v1, vs1, d1, ds1, p1, q1, rfl, rfl, rfl, h1, r1⟩ := trodAll_cons r0
  obtain ⟨rfl, rfl, rfl⟩ := trodAll_nil r1
  obtain rfl : args = #[v0, v1] := by cases args; simp_all
  obtain ⟨rfl, rfl⟩ := trodVars_none hV
  simp only [Rows.uptoBulkAll, List.append_nil] at hkk
  have hbk0 : Rows.uptoBulk d0 ≤ 1048576 := by omega
  have hbk1 : Rows.uptoBulk d1 ≤ 1048576 := by omega
  clear hkk hkk0
  obtain ⟨x0, rfl, hin0, hok0, hsm0⟩ := open_policy (hval 0 29 v0 rfl rfl) h0
  have k0 := h0
  have lt0 : ∀ x ∈ p0, x.block < W.heap.size := by obtain ⟨m, hm⟩ := k0; exact DataW.trod_lt m _ _ _ hm
  obtain ⟨a1, len1, cap1, rfl⟩ := okWide_slice Try.underlying57 (hval 1 57 v1 rfl rfl)
  have k1 := h1
  have lt1 : ∀ x ∈ p1, x.block < W.heap.size := by obtain ⟨m, hm⟩ := k1; exact DataW.trod_lt m _ _ _ hm
  obtain ⟨xs1, hl1, hr1, ho1, hc1, ha1, hb1⟩ := open_rows (α := D9) (j := 1) D9.cells (fun _ : D9 => True) 9 64 Try.underlying57 (by kernel_rfl) (by decide) (fun _ => rfl) (by kernel_rfl) data_cells7T hsz rfl rfl h1
  subst hl1
  clear hA0 hval0 hsz0 hsz
  refine (SemEvals_w x0 a1 cap1 xs1 W hin0 hok0 (hsm0 1048576 hbk0) ho1 hc1 ha1 hb1 hr1).mono fun e W' ⟨he, bel⟩ => ?_
  subst he
  exact ⟨_, rfl, _, _, _, [], _, [], hW', trodAll_mk1 (shut_bool Try.underlying4 _), (trodAll_cons_mk (Below.trod laidOutB_ (by kernel_rfl) (of_decide_eq_true (by kernel_rfl)) k0 bel lt0) (trodAll_cons_mk (Below.trod laidOutB_ (by kernel_rfl) (of_decide_eq_true (by kernel_rfl)) k1 bel lt1) trodAll_mk0)), rfl, bel.frame _, fun h => by cases h⟩
theorem SemEvals_holds : Rows.SemEvalsUptoSaid :=
  OpenClaim.holds_of_cond 6 Try.f6 rfl rfl rfl rfl rfl rfl rfl ⟨rfl, rfl, rfl, rfl, rfl⟩ rfl rfl rfl rfl rfl (by kernel_rfl) Try.func6 (by kernel_rfl)
    (of_decide_eq_true (by kernel_rfl)) (by unfold Func.isWrapper; first | (rw [if_pos (by decide +kernel)]; kernel_rfl) | (rw [if_neg (by decide +kernel)]; exact ⟨rfl, rfl⟩))
    (fun os started H enc _ F0 => SemEvals_lifted os started H enc F0)
#print axioms SemEvals_holds
end Go.Proofs.Ytebkbcpnjknkjaa
