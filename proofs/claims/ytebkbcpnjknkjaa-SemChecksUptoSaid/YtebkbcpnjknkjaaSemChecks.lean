/- SemChecks: of any policy that reads as at most 1048576 values and letters, what is wrong with it, and where, is the document's; and what is wrong with its first five rules' expressions is. -/
import Derived.Test.YtebkbcpnjknkjaaSemHead
import Derived.Test.YtebkbcpnjknkjaaOpenX
import Derived.Test.YtebkbcpnjknkjaaSemBig
import Derived.Deep.CondSized
set_option linter.unusedVariables false
set_option linter.unusedSimpArgs false
set_option maxRecDepth 100000
namespace Go.Proofs.Ytebkbcpnjknkjaa
open Go.RowKit Go.ChangeShapes Go.WideShapes Go.Deep
set_option maxHeartbeats 3200000 in
theorem SemChecks_w (p : PolA) (w : World) (hin : p.In w (fun b => b < w.heap.size)) (hok : p.Ok) (hsm : p.small 1048576) :
    Calls Try.prog 4 #[p.val] w fun e w' => e = .returned (.bool true) ∧ Below w.heap.size w w' := by
  obtain ⟨N, hN⟩ : ∃ N : Nat → Prop, N = fun b => b < w.heap.size := ⟨_, rfl⟩
  rw [← hN] at hin
  clear hN
  have HL := Lib.hid (fun w => lives7_c w)
  have HC := Lib.hid (fun W hb => Check_c N p W hok (hin.below (show Below w.heap.size w W from hb)))
  have HR := Lib.hid (fun W hb => rCheck_c 1048576 (by decide) N p W hok hsm (hin.below (show Below w.heap.size w W from hb)))
  rw [check_big (M := 1048576) (M' := 1099511627776) (by decide) p hsm] at HC
  obtain ⟨ck, hck⟩ : ∃ ck, ck = checkP 1048576 p := ⟨_, rfl⟩
  rw [show ((1048576 : Nat) : Int) = 1048576 from rfl] at HC HR
  rw [← hck] at HC HR
  obtain ⟨c1, c2⟩ := ck
  unfold CheckPost at HC HR
  dsimp only at HC HR
  unfold PolA.small at hsm
  obtain ⟨ar, fk, fd, dk, dd, A, cap, rs⟩ := p
  obtain ⟨hsz, hfd, hdd, hrs⟩ := hok
  obtain ⟨hrow, hall⟩ := hin
  dsimp only at hrs hrow hall hsm
  have HSM := Lib.hid hsm
  have HRS := Lib.hid hrs
  have HROW := Lib.hid hrow
  have HALL := Lib.hid hall
  have HS := Lib.hid (show BoxS w (.cells #[.string ar, .int .i64 fk, .int .u64 fd, .int .i64 dk, .int .u64 dd, .slice A rs.length cap] 29 (0, 0)) _ from ⟨below1 w _, heap_nwT w _⟩)
  unfold PolA.val at HC HR ⊢
  dsimp only at HC HR ⊢
  clear hsz hfd hdd hrs hrow hall hck hsm
  go_enter Try.func4, Try.ntmps4
  go_wp2_with fail
  refine (HL.out _).mono ?_
  rintro e w1 ⟨rfl, hb⟩
  have H1 := Lib.hid (HS.out.call hb)
  clear hb
  obtain ⟨b0, b1, b2, b3, b4, b5⟩ := (box6 H1.out.box).1
  go_wp2_with fail
  refine (HC.out _ H1.out.below).mono ?_
  rintro e w2 ⟨rfl, hb⟩
  have H2 := Lib.hid (H1.out.call hb)
  clear hb b0 b1 b2 b3 b4 b5
  obtain ⟨b0, b1, b2, b3, b4, b5⟩ := (box6 H2.out.box).1
  go_wp2_with fail
  refine (HR.out _ H2.out.below).mono ?_
  rintro e w3 ⟨rfl, hb⟩
  have H3 := Lib.hid (H2.out.call hb)
  clear hb b0 b1 b2 b3 b4 b5
  go_wp2_with fail
  go_loopw [8] (fun i wr => ∃ n : Nat, i = .int .i64 n ∧ n ≤ rs.length ∧ n ≤ 5 ∧ Hid (BoxS w (.cells #[.string ar, .int .i64 fk, .int .u64 fd, .int .i64 dk, .int .u64 dd, .slice A rs.length cap] 29 (0, 0)) wr)) (fun i _ => rs.length - (intOf i).toNat)
  case atStart => exact ⟨0, rfl, by omega, by omega, H3⟩
  case round =>
    obtain ⟨n, rfl, hn, hn5, HB⟩ := hrel
    clear H3
    obtain ⟨b0, b1, b2, b3, b4, b5⟩ := (box6 HB.out.box).1
    rcases Nat.lt_or_ge n rs.length with hlt | hge
    · have hlt' : (n : Int) < rs.length := by omega
      rcases Nat.lt_or_ge n 5 with hl5 | hg5
      · have hl5' : (n : Int) < 5 := by omega
        obtain ⟨⟨xA, xcap, cs, ⟨xo, xeA, xc, xl, xf, xm, xr, xv⟩, xdk, xdd⟩, hy⟩ : ∃ y, rs[n]? = some y := ⟨_, List.getElem?_eq_getElem hlt⟩
        have hmem := List.mem_of_getElem? hy
        obtain ⟨b, off, rfl, hbb, i0, i1, i2, i3, i4, i5, i6, i7, i8⟩ := (HROW.out.keep (N' := N) (fun b hb hl => ⟨hb, HB.out.below.block b hl⟩) (by decide)).rule hy
        have hinr := ((HALL.out _ hmem).keep (N' := N) (fun b hb hl => ⟨hb, HB.out.below.block b hl⟩)).when_
        have hfit := (HRS.out _ hmem).fits
        have hsmx := (HSM.out _ hmem).1
        dsimp only at hinr hfit hsmx
        have HX := Lib.hid (fun W hb => Expr_c N (.mk xo xeA xc xl xf xm xr xv) W (hinr.keep (N' := N) (fun b hb' hl => ⟨hb', (show Below wr.heap.size wr W from hb).block b hl⟩)) hfit)
        have HY := Lib.hid (fun W hb => rExpr_c 1048576 N (.mk xo xeA xc xl xf xm xr xv) W (hinr.keep (N' := N) (fun b hb' hl => ⟨hb', (show Below wr.heap.size wr W from hb).block b hl⟩)) hfit hsmx)
        rw [within_big (M := 1048576) (M' := 1099511627776) (by decide) _ _ hsmx] at HX
        rw [show ((1048576 : Nat) : Int) = 1048576 from rfl] at HX HY
        obtain ⟨ev, hev⟩ : ∃ ev, ev = withinP 1048576 0 (.mk xo xeA xc xl xf xm xr xv) := ⟨_, rfl⟩
        rw [← hev] at HX HY
        unfold ExA.val at HX HY
        dsimp only at HX HY
        clear hy hmem hinr hfit hsmx hev
        go_wp2_with fail
        refine (HX.out _ (Below.refl _ _)).mono ?_
        rintro e w5 ⟨rfl, hb⟩
        have HB5 := Lib.hid (HB.out.call hb)
        have HW5 := Lib.hid (show Below wr.heap.size wr w5 from hb)
        have i1' := keepC hb i1
        have i2' := keepC hb i2
        have i3' := keepC hb i3
        have i4' := keepC hb i4
        have i5' := keepC hb i5
        have i6' := keepC hb i6
        clear hb b0 b1 b2 b3 b4 b5 i0 i1 i2 i3 i4 i5 i6 i7 i8
        obtain ⟨b0, b1, b2, b3, b4, b5⟩ := (box6 HB5.out.box).1
        go_wp2_with fail
        refine (HY.out _ HW5.out).mono ?_
        rintro e w6 ⟨rfl, hb⟩
        have HB6 := Lib.hid (HB5.out.call hb)
        clear hb b0 b1 b2 b3 b4 b5 i1' i2' i3' i4' i5' i6'
        go_wp2
        go_roundw
        case rel => exact ⟨n + 1, by go_num, by omega, by omega, HB6⟩
        case measure => simp [intOf]; omega
      · have hl5' : ¬ (n : Int) < 5 := by omega
        go_wp2
        go_ret
        exact ⟨rfl, HB.out.below⟩
    · obtain rfl : n = rs.length := by omega
      go_wp2
      go_ret
      exact ⟨rfl, HB.out.below⟩
/-! ### the row of SemChecks -/
set_option maxRecDepth 100000 in
theorem SemChecks_lifted (os : Os) (started : os.Started) (H : Type) (enc : TypeId × Value → H) (F0 : Stop.Interp) :
    ReturnsInHanded {} Try.checked os 4 .any ((Rows.OpenSpec.upto Rows.semChecksSpec).pre6 enc Try.prog Try.f4 Rows.semChecksUptoRow.domain false) (((Rows.OpenSpec.upto Rows.semChecksSpec).at F0).post enc Try.prog Try.f4 false true false false) := by
  refine returnsInHanded_of_cond_sized (C := Try.checked) (s := (Rows.OpenSpec.upto Rows.semChecksSpec)) (k := Rows.uptoSmall) rfl ownNone started (by kernel_rfl) Try.func4
    (OpenSpec.witness (enc := enc) (C := Try.checked) (s := (Rows.OpenSpec.upto Rows.semChecksSpec)) (k := Rows.uptoSmall) rfl false ⟨#[], #[.agg #[.string ⟨#[]⟩, .int .i64 0, .int .u64 0, .int .i64 0, .int .u64 0, .slice none 0 0]], []⟩ 8 (by kernel_rfl) (by kernel_rfl) (by kernel_rfl)
      (x := ([.agg [.lit (.string []), .agg [.lit (.int .i64 0), .lit (.int .u64 0)], .agg [.lit (.int .i64 0), .lit (.int .u64 0)], .nil]], [], [])) (by kernel_rfl) (by kernel_rfl) (by kernel_rfl)) ?_
  intro W base args ds gs before hval0 hW hcnd hkk0 hsz0 _
  have hkk : Rows.uptoBulkAll (ds ++ gs) ≤ 1048576 := of_decide_eq_true hkk0
  have hsz : (DataW.weightsEach Try.prog (Try.f4.params.toList ++ Rows.semChecksSpec.plain.varTypes Try.prog) (ds ++ gs)).all (· ≤ reachBytes) = true := hsz0
  have hval : ∀ (j : Nat) t v, Try.f4.params[j]? = some t → args[j]? = some v → Value.okWide Try.prog W .any base t v := hval0
  have hW' := hW
  obtain ⟨p, q, hA0, hV, rfl, hfz, hnd⟩ := hW
  have hA : DataW.TrodAll enc Try.prog W 0 (fun _ => true) true Try.f4.params.toList args.toList ds p := hA0
  rw [Try.params4] at hA hval hsz
  obtain ⟨v0, vs0, d0, ds0, p0, q0, hargs, rfl, rfl, h0, r0⟩ := trodAll_cons hA
  obtain ⟨rfl, rfl, rfl⟩ := trodAll_nil r0
  obtain rfl : args = #[v0] := by cases args; simp_all
  obtain ⟨rfl, rfl⟩ := trodVars_none hV
  simp only [Rows.uptoBulkAll, List.append_nil] at hkk
  have hbk0 : Rows.uptoBulk d0 ≤ 1048576 := by omega
  clear hkk hkk0
  obtain ⟨x0, rfl, hin0, hok0, hsm0⟩ := open_policy (hval 0 29 v0 rfl rfl) h0
  have k0 := h0
  have lt0 : ∀ x ∈ p0, x.block < W.heap.size := by obtain ⟨m, hm⟩ := k0; exact DataW.trod_lt m _ _ _ hm
  clear hA0 hval0 hsz0 hsz
  refine (SemChecks_w x0 W hin0 hok0 (hsm0 1048576 hbk0)).mono fun e W' ⟨he, bel⟩ => ?_
  subst he
  exact ⟨_, rfl, _, _, _, [], _, [], hW', trodAll_mk1 (shut_bool Try.underlying4 _), (trodAll_cons_mk (Below.trod laidOutB_ (by kernel_rfl) (of_decide_eq_true (by kernel_rfl)) k0 bel lt0) trodAll_mk0), rfl, bel.frame _, fun h => by cases h⟩
theorem SemChecks_holds : Rows.SemChecksUptoSaid :=
  OpenClaim.holds_of_cond 4 Try.f4 rfl rfl rfl rfl rfl rfl rfl ⟨rfl, rfl, rfl, rfl, rfl⟩ rfl rfl rfl rfl rfl (by kernel_rfl) Try.func4 (by kernel_rfl)
    (of_decide_eq_true (by kernel_rfl)) (by unfold Func.isWrapper; first | (rw [if_pos (by decide +kernel)]; kernel_rfl) | (rw [if_neg (by decide +kernel)]; exact ⟨rfl, rfl⟩))
    (fun os started H enc _ F0 => SemChecks_lifted os started H enc F0)
#print axioms SemChecks_holds
end Go.Proofs.Ytebkbcpnjknkjaa
