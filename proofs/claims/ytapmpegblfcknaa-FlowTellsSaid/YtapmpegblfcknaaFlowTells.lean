import Derived.Test.YtapmpegblfcknaaFlowAcc
import Derived.Test.YtapmpegblfcknaaFlowHead
import Derived.Test.YtapmpegblfcknaaOpen
set_option linter.unusedVariables false
set_option linter.unusedSimpArgs false
namespace Go.Proofs.Ytapmpegblfcknaa
open Go.RowKit Go.ChangeShapes Go.WideShapes Go.ChangeAt
open Go.ChangeMaps (open_string shut_string)
/-! FlowTells. -/
set_option maxRecDepth 100000 in
set_option maxHeartbeats 3200000 in
theorem FlowTells_no (A : Option Addr) (cap : Nat) (q : List I4) (w : World) (hq : ∀ x ∈ q, x.ok) (hc : q.length ≤ cap) (hA : A = none → cap = 0) (hB : q.length * 8 ≤ 140737488351232) (hr : Reads w w.heap.size 4 A q.length (cellsI q)) (h0 : (checkP q).1 ≠ 0) :
    Calls Try.prog 11 #[.slice A q.length cap] w fun e w' => e = .returned (.bool true) ∧ Below w.heap.size w w' := by
  have HR := Lib.hid hr
  have HQ := Lib.hid hq
  have HA := Lib.hid hA
  have H0 := Lib.hid h0
  have HSM := Lib.hid (show sameP q q = true by simp [sameP])
  clear hr hq hA h0
  go_enter Try.func11, Try.ntmps11
  go_wp2_with fail
  refine (Head10_c w).mono ?_
  rintro e w1 ⟨rfl, hb1⟩
  go_wp2_with fail
  refine (Lent_c A cap q HA.out hc hB w1 (HR.out.up hb1)).mono ?_
  rintro e w2 ⟨g, cap2, rfl, hL, hb2⟩
  have HB2 := Lib.hid (below_t hb1 hb2)
  have HL := Lib.hid hL
  clear hb2 hL hb1
  go_wp2_with fail
  refine (Reach_c (some ⟨g, 0, none⟩) cap2 q HQ.out (by omega) w2 HL.out.readsQ).mono ?_
  rintro e w3 (⟨-, rfl, hb3⟩ | ⟨h, -⟩)
  rotate_left
  · exact absurd h H0.out
  have HB3 := Lib.hid hb3
  clear hb3
  go_wp2_with fail
  refine (Blocks_c (some ⟨g, 0, none⟩) cap2 q HQ.out (by omega) w3 (HL.out.readsQ.up HB3.out)).mono ?_
  rintro e w4 (⟨-, rfl, hb4⟩ | ⟨h, -⟩)
  rotate_left
  · exact absurd h H0.out
  have HB4 := Lib.hid (below_t HB3.out hb4)
  clear hb4
  go_wp2_with fail
  refine (Above_c (some ⟨g, 0, none⟩) cap2 q HQ.out (by omega) w4 (HL.out.readsQ.up HB4.out)).mono ?_
  rintro e w5 (⟨-, rfl, hb5⟩ | ⟨h, -⟩)
  rotate_left
  · exact absurd h H0.out
  have HB5 := Lib.hid (below_t HB4.out hb5)
  clear hb5
  go_wp2_with fail
  refine (Longest_c (some ⟨g, 0, none⟩) cap2 q HQ.out (by omega) w5 (HL.out.readsQ.up HB5.out)).mono ?_
  rintro e w6 (⟨-, rfl, hb6⟩ | ⟨h, -⟩)
  rotate_left
  · exact absurd h H0.out
  have HB6 := Lib.hid (below_t HB5.out hb6)
  have HW6 := Lib.hid (below_t HB2.out HB6.out)
  clear hb6
  go_wp2_with fail
  refine (Kept_c A _ g cap2 cap q q w6 hB (HL.out.keep HB6.out) (HR.out.up HW6.out)).mono ?_
  rw [HSM.out]
  rintro e w7 ⟨rfl, hb7⟩
  have HW7 := Lib.hid (below_t HW6.out hb7)
  clear hb7
  go_wp2_with fail
  refine (Accepted_c A cap q HQ.out (by omega) w7 (HR.out.up HW7.out)).mono ?_
  rintro e w8 ⟨rfl, hb8⟩
  rw [isP_not H0.out]
  have hb8' := below_t HW7.out hb8
  go_wp2
  go_ret
  exact ⟨rfl, hb8'⟩
set_option maxRecDepth 100000 in
set_option maxHeartbeats 3200000 in
theorem FlowTells_yes (A : Option Addr) (cap : Nat) (q : List I4) (w : World) (hq : ∀ x ∈ q, x.ok) (hc : q.length ≤ cap) (hA : A = none → cap = 0) (hB : q.length * 8 ≤ 140737488351232) (hr : Reads w w.heap.size 4 A q.length (cellsI q)) (h0 : (checkP q).1 = 0) :
    Calls Try.prog 11 #[.slice A q.length cap] w fun e w' => e = .returned (.bool true) ∧ Below w.heap.size w w' := by
  obtain ⟨a1, a2, -, -⟩ := acc_facts h0
  have HR := Lib.hid hr
  have HQ := Lib.hid hq
  have HA := Lib.hid hA
  have H0 := Lib.hid h0
  have HSM := Lib.hid (show sameP q q = true by simp [sameP])
  have hm2 : (blocksQ q).length ≤ 4096 := Nat.le_trans (blocks_le q (intoP q) q.length 0) a2
  have hm1 : 0 < (blocksQ q).length := blocks_pos h0 hq
  have HIL := Lib.hid (intoP_len q)
  clear hr hq hA h0
  go_enter Try.func11, Try.ntmps11
  go_wp2_with fail
  refine (Head10_c w).mono ?_
  rintro e w1 ⟨rfl, hb1⟩
  go_wp2_with fail
  refine (Lent_c A cap q HA.out hc hB w1 (HR.out.up hb1)).mono ?_
  rintro e w2 ⟨g, cap2, rfl, hL, hb2⟩
  have HB2 := Lib.hid (below_t hb1 hb2)
  have HL := Lib.hid hL
  clear hb2 hL hb1
  go_wp2_with fail
  refine (Reach_c (some ⟨g, 0, none⟩) cap2 q HQ.out (by omega) w2 HL.out.readsQ).mono ?_
  rintro e w3 (⟨h, -⟩ | ⟨-, v3, rfl, hro3, hb3⟩)
  · exact absurd H0.out h
  obtain ⟨g3, c3, hv3, -, -⟩ := hro3.form a1
  subst hv3
  have HR3 := Lib.hid (Reads.of_own hro3)
  have HB3 := Lib.hid hb3
  clear hro3 hb3
  go_wp2_with fail
  refine (Blocks_c (some ⟨g, 0, none⟩) cap2 q HQ.out (by omega) w3 (HL.out.readsQ.up HB3.out)).mono ?_
  rintro e w4 (⟨h, -⟩ | ⟨-, v4, rfl, hP4⟩)
  · exact absurd H0.out h
  obtain ⟨A4, c4, hv4, HR4, hb4⟩ := hP4.reads H0.out HQ.out
  injection hv4 with hv4
  subst hv4
  have HR34 := Lib.hid (HR3.out.up hb4)
  have HB4 := Lib.hid (below_t HB3.out hb4)
  clear hP4 hb4 HR3
  go_wp2_with fail
  refine (Above_c (some ⟨g, 0, none⟩) cap2 q HQ.out (by omega) w4 (HL.out.readsQ.up HB4.out)).mono ?_
  rintro e w5 (⟨h, -⟩ | ⟨-, g5, rfl, hI5, hb5⟩)
  · exact absurd H0.out h
  have HR35 := Lib.hid (HR34.out.up hb5)
  have HR45 := Lib.hid (HR4.out.up hb5)
  have HR5 := Lib.hid (Reads.of_own hI5.2)
  have HAL := Lib.hid hI5.1
  have HB5 := Lib.hid (below_t HB4.out hb5)
  clear hI5 hb5 HR4 HR34
  go_wp2_with fail
  refine (Longest_c (some ⟨g, 0, none⟩) cap2 q HQ.out (by omega) w5 (HL.out.readsQ.up HB5.out)).mono ?_
  rintro e w6 (⟨h, -⟩ | ⟨-, rfl, hb6⟩)
  · exact absurd H0.out h
  have HB6 := Lib.hid (below_t HB5.out hb6)
  have HW6 := Lib.hid (below_t HB2.out HB6.out)
  have HX6 := Lib.hid hb6
  clear hb6
  go_wp2_with fail
  refine (Kept_c A _ g cap2 cap q q w6 hB (HL.out.keep HB6.out) (HR.out.up HW6.out)).mono ?_
  rw [HSM.out]
  rintro e w7 ⟨rfl, hb7⟩
  have HW7 := Lib.hid (below_t HW6.out hb7)
  have HX7 := Lib.hid (below_t HX6.out hb7)
  clear hb7
  go_wp2_with fail
  refine (Accepted_c A cap q HQ.out (by omega) w7 (HR.out.up HW7.out)).mono ?_
  rintro e w8 ⟨rfl, hb8⟩
  rw [isP_of H0.out]
  have HW8 := Lib.hid (below_t HW7.out hb8)
  have HX8 := Lib.hid (below_t HX7.out hb8)
  clear hb8
  go_wp2_with fail
  refine (rReach_c A cap q H0.out HQ.out w8 (HR.out.up HW8.out)).mono ?_
  rintro e w9 ⟨rfl, hR9, hb9⟩
  have HR9 := Lib.hid (Reads.of_own hR9.2)
  have HW9 := Lib.hid (below_t HW8.out hb9)
  have HX9 := Lib.hid (below_t HX8.out hb9)
  obtain ⟨g9, hg9⟩ : ∃ g9, g9 = w8.heap.size := ⟨_, rfl⟩
  rw [← hg9] at HR9 ⊢
  clear hR9 hb9 hg9
  go_wp2_with fail
  refine (rBlocks_c A cap q H0.out HQ.out w9 (HR.out.up HW9.out)).mono ?_
  rintro e w10 hP10
  obtain ⟨A10, c10, rfl, HR10, hb10⟩ := hP10.reads H0.out HQ.out
  have HR90 := Lib.hid (HR9.out.up hb10)
  have HW10 := Lib.hid (below_t HW9.out hb10)
  have HX10 := Lib.hid (below_t HX9.out hb10)
  clear hP10 hb10
  go_wp2_with fail
  refine (rLongest_c A cap q H0.out HQ.out w10 (HR.out.up HW10.out)).mono ?_
  rintro e w11 ⟨rfl, hb11⟩
  have HR91 := Lib.hid (HR90.out.up hb11)
  have HR101 := Lib.hid (HR10.out.up hb11)
  have HW11 := Lib.hid (below_t HW10.out hb11)
  have HX11 := Lib.hid (below_t HX10.out hb11)
  have HR3' := Lib.hid (HR35.out.up HX11.out)
  have HR4' := Lib.hid (HR45.out.up HX11.out)
  have HR5' := Lib.hid (HR5.out.up HX11.out)
  clear hb11 HR90 HR10 HR35 HR45 HR5
  obtain ⟨m, hm⟩ : ∃ m, m = (blocksQ q).length := ⟨_, rfl⟩
  obtain ⟨ps, hps⟩ : ∃ ps, ps = blocksQ q := ⟨_, rfl⟩
  have HPL : Hid (ps.length = m) := Lib.hid (by rw [hm, hps])
  have HNX := Lib.hid (nx_len q)
  rw [← hm] at hm1 hm2 HAL HR5' ⊢
  rw [← hps] at HR4' HR101
  have HMM := Lib.hid hm
  have hm3 : (m : Int) ≤ 4096 := by omega
  have hq1 : (q.length : Int) ≤ 4096 := by omega
  clear hm hps
  go_wp2_with fail
  go_loopw [17] (fun i wr => ∃ k : Nat, k ≤ q.length ∧ i = .int .i64 k ∧ Hid (Below w11.heap.size w11 wr)) (fun i _ => q.length - (intOf i).toNat)
  case atStart => exact ⟨0, by omega, rfl, Lib.hid (Below.refl _ _)⟩
  case round =>
    obtain ⟨k, hk, rfl, HBW⟩ := hrel
    rcases Nat.lt_or_ge k q.length with hkl | hkl
    · have hkl' : (k : Int) < q.length := by omega
      obtain ⟨y, hy⟩ : ∃ y, (boolsV (reachV q))[k]? = some (.bool y) := by
        have h2 : (intoP q)[k]? = some ((intoP q).getD k 0) := by rw [List.getD_eq_getElem?_getD, List.getElem?_eq_getElem (by rw [HIL.out]; exact hkl)]; rfl
        exact ⟨decide (0 < (intoP q).getD k 0), by simp only [boolsV, reachV, List.getElem?_map, h2, Option.map_some]⟩
      obtain ⟨b1, o1, e1, hb1, hc1⟩ := (HR3'.out.up HBW.out).2 a1
      injection e1 with e1; injection e1 with e1 e2
      subst e1 e2
      obtain ⟨b2, o2, e1, hb2, hc2⟩ := (HR91.out.up HBW.out).2 a1
      injection e1 with e1; injection e1 with e1 e2
      subst e1 e2
      have d1 := hc1 k _ hy
      have d2 := hc2 k _ hy
      rw [Nat.zero_add] at d1 d2
      clear hy hc1 hc2
      go_wp2_with fail
      go_quiet (fail)
      go_wp2
      go_roundw
      case rel => exact ⟨k + 1, by omega, by go_num, Lib.hid (below_drN HBW.out _)⟩
      case measure => simp [intOf]; omega
    · obtain rfl : k = q.length := by omega
      go_wp2_with fail
      go_loopw [18] (fun i wr => ∃ k : Nat, k ≤ m ∧ i = .int .i64 k ∧ Hid (Below w11.heap.size w11 wr)) (fun i _ => m - (intOf i).toNat)
      case atStart => exact ⟨0, by omega, rfl, Lib.hid HBW.out⟩
      case round =>
        obtain ⟨k, hk, rfl, HBW2⟩ := hrel
        rcases Nat.lt_or_ge k m with hkm | hkm
        · have hkm' : (k : Int) < m := by omega
          obtain ⟨p, hp⟩ : ∃ p, ps[k]? = some p := ⟨_, List.getElem?_eq_getElem (by rw [HPL.out]; exact hkm)⟩
          obtain ⟨b1, A1, c1, rfl, hb1, x0, x1, x2, xr⟩ := (HR4'.out.up HBW2.out) k p hp
          obtain ⟨b2, A2, c2, rfl, hb2, y0, y1, y2, yr⟩ := (HR101.out.up HBW2.out) k p hp
          obtain ⟨L, hL⟩ : ∃ L, L = nxQ q k := ⟨_, rfl⟩
          rw [← hL] at x2 y2 xr yr
          have hL2 : (L.length : Int) ≤ 2 := by have := HNX.out k; rw [← hL] at this; omega
          have HXR := Lib.hid xr
          have HYR := Lib.hid yr
          clear hp hL xr yr
          go_wp2_with fail
          refine wp_tail 10 (by kernel_rfl) (by kernel_rfl) ?_
          simp only [List.take_succ_cons, List.take_zero, List.drop_succ_cons, List.drop_zero]
          repeat still_step
          refine wpStill_nil ?_
          go_wp2_with fail
          refine (numbers_c A1 A2 c1 c2 L (by omega) _ HXR.out.drew HYR.out.drew).mono ?_
          rintro e w12 ⟨rfl, hb12⟩
          have hb12' : Below wr.heap.size wr w12 := below_t (below_dr (Below.refl _ _)) hb12
          have x0' := keepC hb12' x0
          have x1' := keepC hb12' x1
          have y0' := keepC hb12' y0
          have y1' := keepC hb12' y1
          have HN := Lib.hid (below_t HBW2.out hb12')
          clear hb12 hb12' x0 x1 x2 y0 y1 y2
          go_wp2_with fail
          go_quiet (fail)
          go_wp2
          go_roundw
          case rel => exact ⟨k + 1, by omega, by go_num, Lib.hid (below_drN HN.out _)⟩
          case measure => simp [intOf]; omega
        · obtain rfl : k = m := by omega
          have HWr := Lib.hid (below_t HW11.out HBW2.out)
          go_wp2_with fail
          refine (rAbove_c A cap q H0.out HQ.out wr (HR.out.up HWr.out)).mono ?_
          rintro e w13 ⟨g13, rfl, hI13, hb13⟩
          have HR13 := Lib.hid (Reads.of_own hI13.2)
          rw [← HMM.out] at HR13 ⊢
          have HR513 := Lib.hid (HR5'.out.up (below_t HBW2.out hb13))
          have HW13 := Lib.hid (below_t HWr.out hb13)
          clear hI13 hb13
          go_wp2_with fail
          refine (numbersI_c _ _ _ _ k (aboveP q) HAL.out (by omega) w13 HR513.out HR13.out).mono ?_
          rintro e w14 ⟨rfl, hb14⟩
          have hbE := below_t HW13.out hb14
          go_wp2
          go_ret
          exact ⟨rfl, hbE⟩
theorem FlowTells_w (A : Option Addr) (cap : Nat) (q : List I4) (w : World) (hq : ∀ x ∈ q, x.ok) (hc : q.length ≤ cap) (hA : A = none → cap = 0) (hB : q.length * 8 ≤ 140737488351232) (hr : Reads w w.heap.size 4 A q.length (cellsI q)) :
    Calls Try.prog 11 #[.slice A q.length cap] w fun e w' => e = .returned (.bool true) ∧ Below w.heap.size w w' := by
  by_cases h0 : (checkP q).1 = 0
  · exact FlowTells_yes A cap q w hq hc hA hB hr h0
  · exact FlowTells_no A cap q w hq hc hA hB hr h0
/-! ### the row of FlowTells -/
set_option maxRecDepth 100000 in
theorem FlowTells_lifted (os : Os) (started : os.Started) (H : Type) (enc : TypeId × Value → H) :
    ReturnsInHanded {} Try.checked os 11 .any (Rows.flowTellsSpec.pre6 enc Try.prog Try.f11 Rows.flowTellsRow.domain false) (Rows.flowTellsSpec.post enc Try.prog Try.f11 false true false false) := by
  refine returnsInHanded_of_change_sized (C := Try.checked) ownNone started (by kernel_rfl) Try.func11
    (ChangeSpec.witness6 (enc := enc) (C := Try.checked) false ⟨#[], #[.slice none 0 0], []⟩ 8 (by kernel_rfl) (by kernel_rfl) (by kernel_rfl) (by kernel_rfl)) ?_
  intro W base args ds gs before hval0 hW hcnd hsz0 _
  have hsz : (DataW.weightsEach Try.prog (Try.f11.params.toList ++ Rows.flowTellsSpec.plain.varTypes Try.prog) (ds ++ gs)).all (· ≤ reachBytes) = true := hsz0
  have hval : ∀ (j : Nat) t v, Try.f11.params[j]? = some t → args[j]? = some v → Value.okWide Try.prog W .any base t v := hval0
  have hW' := hW
  obtain ⟨p, q, hA0, hV, rfl, hfz, hnd⟩ := hW
  have hA : DataW.TrodAll enc Try.prog W 0 (fun _ => true) true Try.f11.params.toList args.toList ds p := hA0
  rw [Try.params11] at hA hval hsz
  obtain ⟨v0, vs0, d0, ds0, p0, q0, hargs, rfl, rfl, h0, r0⟩ := trodAll_cons hA
  obtain ⟨rfl, rfl, rfl⟩ := trodAll_nil r0
  obtain rfl : args = #[v0] := by cases args; simp_all
  obtain ⟨rfl, rfl⟩ := trodVars_none hV
  obtain ⟨a0, len0, cap0, rfl⟩ := okWide_slice Try.underlying22 (hval 0 22 v0 rfl rfl)
  have k0 := h0
  have lt0 : ∀ x ∈ p0, x.block < W.heap.size := by obtain ⟨m, hm⟩ := k0; exact DataW.trod_lt m _ _ _ hm
  obtain ⟨xs0, hl0, hr0, ho0, hc0, ha0, hb0⟩ := open_rows (α := I4) (j := 0) I4.cells I4.ok 4 8 Try.underlying22 (by kernel_rfl) (by decide) (fun _ => rfl) (by kernel_rfl) insn_cells hsz rfl rfl h0
  subst hl0
  clear hA0 hval0 hsz0 hsz
  refine (FlowTells_w a0 cap0 xs0 W ho0 hc0 ha0 hb0 hr0).mono fun e W' ⟨he, bel⟩ => ?_
  subst he
  exact ⟨_, rfl, _, _, _, [], _, [], hW', trodAll_mk1 (shut_bool Try.underlying4 _), (trodAll_cons_mk (Below.trod laidOutB_ (by kernel_rfl) (of_decide_eq_true (by kernel_rfl)) k0 bel lt0) trodAll_mk0), rfl, bel.frame _, fun h => by cases h⟩
theorem FlowTells_holds : Rows.FlowTellsSaid :=
  OpenClaim.holds_of_wide 11 Try.f11 rfl rfl rfl rfl rfl rfl rfl ⟨rfl, rfl, rfl, rfl, rfl⟩ rfl rfl rfl rfl rfl (by kernel_rfl) Try.func11 (by kernel_rfl)
    (of_decide_eq_true (by kernel_rfl)) (by unfold Func.isWrapper; first | (rw [if_pos (by decide +kernel)]; kernel_rfl) | (rw [if_neg (by decide +kernel)]; exact ⟨rfl, rfl⟩))
    (fun os started H enc _ => FlowTells_lifted os started H enc)
#print axioms FlowTells_holds
end Go.Proofs.Ytapmpegblfcknaa
