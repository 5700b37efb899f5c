/- LowerSays: of any nodes, any number of tests put ahead, and any data, a decision's program is accepted and answers what the decision answers, in at most five steps a node; where there is no program, the document's Check says why. No conditions. -/
import Derived.Test.YtfpemoellglknaaLowHead
import Derived.Test.YtfpemoellglknaaLowSP2
import Derived.Test.YtfpemoellglknaaOpenD
set_option linter.unusedVariables false
set_option linter.unusedSimpArgs false
namespace Go.Proofs.Ytfpemoellglknaa
open Go.RowKit Go.ChangeShapes Go.WideShapes Go.ChangeAt
/-! LowerSays. -/
theorem checkD_codes (q : List N8) : (checkD q).1 = 0 ∨ (checkD q).1 = 83 ∨ (checkD q).1 = 84 ∨ (checkD q).1 = 85 := by
  have hb : ∀ i, badQ q i = 0 ∨ badQ q i = 84 ∨ badQ q i = 85 := fun i => by
    unfold badQ badN
    split
    · split
      · exact .inl rfl
      · split
        · exact .inr (.inl rfl)
        · split
          · exact .inl rfl
          · exact .inr (.inr rfl)
    · exact .inl rfl
  unfold checkD
  split
  · exact .inr (.inl rfl)
  · split
    · rename_i i _
      have := hb i
      dsimp only
      omega
    · exact .inl rfl
set_option maxRecDepth 100000 in
set_option maxHeartbeats 3200000 in
theorem LowerSays_w (A : Option Addr) (cap : Nat) (l : List N8) (many : Int) (Ad : Option Addr) (capd : Nat) (ds : List D9) (w : World) (hq : ∀ x ∈ l, x.ok) (hc : l.length ≤ cap) (hA : A = none → cap = 0) (hB : l.length * 56 ≤ 140737488351232) (hr : Reads w w.heap.size 8 A l.length (cellsN l)) (hm : 0 ≤ many ∧ many < 65536)
    (hqd : ∀ x ∈ ds, x.ok) (hcd : ds.length ≤ capd) (hAd : Ad = none → capd = 0) (hBd : ds.length * 64 ≤ 140737488351232) (hrd : Reads w w.heap.size 9 Ad ds.length (cellsD ds)) :
    Calls Try.prog 4 #[.slice A l.length cap, .int .u16 many, .slice Ad ds.length capd] w fun e w' => e = .returned (.bool true) ∧ Below w.heap.size w w' := by
  have HR := Lib.hid hr
  have HRD := Lib.hid hrd
  have HQD := Lib.hid hqd
  have hN : (many % 4104).toNat < 4104 := by omega
  have HOKS : Hid (∀ sd, (∀ x ∈ grownP l (many % 4104).toNat sd, x.ok) ∧ (grownP l (many % 4104).toNat sd).length ≤ 9223372036854775807) := Lib.hid (fun sd => ⟨grown_ok hq hN (by omega), by rw [grown_len]; omega⟩)
  have HHM := Lib.hid hm
  have HHB := Lib.hid hB
  have hdl : (ds.length : Int) ≤ 2199023255552 := by omega
  clear hr hq hc hA hm hN hB hrd hqd hcd hAd hBd
  go_enter Try.func4, Try.ntmps4
  go_wp2_with fail
  refine (lives_c w).mono ?_
  rintro e w1 ⟨rfl, hb1⟩
  have HB1 := Lib.hid hb1
  clear hb1
  go_wp2_with fail
  refine (Grown_c A cap l many _ HHB.out HHM.out w1 (HR.out.up HB1.out)).mono ?_
  rintro e w2 ⟨v, rfl, hown, hb2⟩
  generalize hqq : grownP l (many % 4104).toNat _ = q at hown
  have HOK : Hid (∀ x ∈ q, x.ok) := Lib.hid (by rw [← hqq]; exact (HOKS.out _).1)
  have HLEN : Hid (q.length ≤ 9223372036854775807) := Lib.hid (by rw [← hqq]; exact (HOKS.out _).2)
  obtain ⟨Aq, cq, rfl, -, -, hrq⟩ := own_sl hown
  have HRQ := Lib.hid hrq
  have HB2 := Lib.hid (below_t HB1.out hb2)
  clear hown hrq hb2 hqq
  go_wp2_with fail
  refine (Emit_c Aq cq q HOK.out HLEN.out w2 HRQ.out).mono ?_
  rintro e w3 ⟨hb3, hs⟩
  have HB3 := Lib.hid (below_t HB2.out hb3)
  have HQ3 := Lib.hid (HRQ.out.up hb3)
  clear hb3
  rcases hs with ⟨h0, rfl⟩ | ⟨h0, k, hk, ⟨hbig, rfl⟩ | ⟨hsm, v, rfl, hown⟩⟩
  · have hcodes := checkD_codes q
    obtain ⟨c, hcc⟩ : ∃ c, c = (checkD q).1 := ⟨_, rfl⟩
    obtain ⟨pp, hpp⟩ : ∃ pp, pp = (checkD q).2 := ⟨_, rfl⟩
    have HCC := Lib.hid hcc
    have HPP := Lib.hid hpp
    rw [← hcc] at hcodes h0 ⊢
    have e1 : (c != 0) = true := by simpa using h0
    have e2 : (c != 91) = true := by simp; omega
    clear h0 hcodes hcc hpp
    go_wp2_with fail
    refine (rDCheck_c Aq cq q HOK.out HLEN.out w3 HQ3.out).mono ?_
    rintro e w4 ⟨rfl, hb4⟩
    rw [← HCC.out, ← HPP.out]
    have HB4 := Lib.hid (below_t HB3.out hb4)
    clear hb4
    go_wp2
    go_ret
    exact ⟨rfl, HB4.out⟩
  · obtain ⟨pp, hpp⟩ : ∃ pp, pp = (checkD q).2 := ⟨_, rfl⟩
    have H0 := Lib.hid h0
    have HPP := Lib.hid hpp
    clear h0 hpp hbig hk
    go_wp2_with fail
    refine (rDCheck_c Aq cq q HOK.out HLEN.out w3 HQ3.out).mono ?_
    rintro e w4 ⟨rfl, hb4⟩
    rw [H0.out, ← HPP.out]
    have HB4 := Lib.hid (below_t HB3.out hb4)
    clear hb4
    go_wp2
    go_ret
    exact ⟨rfl, HB4.out⟩
  · have hfx : farNext q (farTo q k) = farTo q k := hk
    obtain ⟨hPok, hPc⟩ := emit_accepted hfx h0 HOK.out hsm
    have HRUN := Lib.hid (fun (d : D9) => run_all hfx h0 (bytesD_ok d) (bytesD_len d))
    obtain ⟨P, hP⟩ : ∃ P, P = emitTo q (farTo q k) q.length := ⟨_, rfl⟩
    have hPl : P.length ≤ 4096 := by rw [hP, emitTo_len]; exact hsm
    rw [← hP] at hown hPok hPc HRUN
    have HPOK := Lib.hid hPok
    have HPC := Lib.hid hPc
    obtain ⟨Av, cv, rfl, hcv, hAv, hrv⟩ := own_sl hown
    have HAV := Lib.hid hAv
    have HCV := Lib.hid hcv
    have HRV := Lib.hid hrv
    clear h0 hk hsm hown hPok hPc hP hcv hAv hrv hfx
    go_wp2_with fail
    refine (Check_c Av cv P HPOK.out (by omega) w3 HRV.out).mono ?_
    rintro e w4 ⟨rfl, hb4⟩
    rw [HPC.out]
    have HB4 := Lib.hid (below_t HB3.out hb4)
    have HB34 := Lib.hid hb4
    clear hb4
    go_wp2_with fail
    go_loopw [15] (fun i wr => ∃ n : Nat, n ≤ ds.length ∧ i = .int .i64 n ∧ Hid (Below w3.heap.size w3 wr)) (fun i _ => ds.length - (intOf i).toNat)
    case atStart => exact ⟨0, by omega, rfl, HB34⟩
    case round =>
      obtain ⟨n, hn, rfl, HBR⟩ := hrel
      have HBW := Lib.hid (below_t HB3.out HBR.out)
      rcases Nat.lt_or_ge n ds.length with h6 | h6
      · obtain ⟨d, hd⟩ : ∃ d, ds[n]? = some d := ⟨_, List.getElem?_eq_getElem h6⟩
        have HDOK := Lib.hid (HQD.out d (List.mem_of_getElem? hd))
        obtain ⟨bb, off, rfl, hbl, c0, c1, c2, c3, c4, c5, c6, c7, c8⟩ := (HRD.out.up HBW.out).datum hd
        have h6' : (n : Int) < ds.length := by omega
        obtain ⟨r, m, c, hr1, hr2, hr3, hr4, hr5, hr6, hr7⟩ := HRUN.out d
        have HR1 := Lib.hid hr1
        have HR2 := Lib.hid hr2
        have HC := Lib.hid (show _ ∧ _ ∧ _ ∧ _ ∧ _ ∧ _ ∧ _ ∧ _ ∧ _ from ⟨c0, c1, c2, c3, c4, c5, c6, c7, c8⟩)
        clear hr1 hr2 hd
        go_wp2_with fail
        refine (DRun_c Aq cq q d HDOK.out HOK.out HLEN.out wr (HQ3.out.up HBR.out)).mono ?_
        rintro e w5 ⟨rfl, hb5⟩
        rw [HR2.out]
        have HB5 := Lib.hid (below_t HBR.out hb5)
        have HB5' := Lib.hid (below_t HBW.out hb5)
        have c0' := keepC hb5 c0
        have c1' := keepC hb5 c1
        have c2' := keepC hb5 c2
        have c3' := keepC hb5 c3
        have c4' := keepC hb5 c4
        have c5' := keepC hb5 c5
        have c6' := keepC hb5 c6
        have c7' := keepC hb5 c7
        have c8' := keepC hb5 c8
        clear hb5 c0 c1 c2 c3 c4 c5 c6 c7 c8
        go_wp2_with fail
        refine (DBytes_c d HDOK.out w5).mono ?_
        rintro e w6 ⟨g, rfl, -, hrow, hb6⟩
        have HROW := Lib.hid hrow
        have HB6 := Lib.hid (below_t HB5.out hb6)
        have HB6' := Lib.hid (below_t HB5'.out hb6)
        have HRC : Hid (Calls Try.prog 15 #[.slice Av P.length cv, .slice (some ⟨g, 0, none⟩) 64 64] w6 (RunPost w6 (r, (m : Int), 0, 0))) := Lib.hid (by
          have h := Run_c Av cv P (some ⟨g, 0, none⟩) 64 (bytesD d) HAV.out HCV.out (by omega) (fun h => by cases h) (by rw [bytesD_len]; decide) (by rw [bytesD_len]; decide) HPOK.out (bytesD_ok d) w6 (HRV.out.up HB6.out) (by rw [bytesD_len]; exact Reads.of_own HROW.out.2)
          rw [bytesD_len, HR1.out] at h
          exact h)
        clear hrow hb6 c0' c1' c2' c3' c4' c5' c6' c7' c8'
        go_wp2_with fail
        refine HRC.out.mono ?_
        rintro e w7 ⟨rfl, hb7⟩
        unfold ret4
        dsimp only
        have HB7 := Lib.hid (below_t HB6.out hb7)
        clear hb7
        obtain ⟨C, hC⟩ : ∃ C : Int, C = c := ⟨_, rfl⟩
        obtain ⟨M, hM⟩ : ∃ M : Int, M = m := ⟨_, rfl⟩
        rw [← hC, ← hM]
        have i1 : C ≤ 4096 := by omega
        have i2 : 1 ≤ C := by omega
        have i3 : M ≤ 20480 := by omega
        have i4 : 0 ≤ M := by omega
        obtain ⟨T, hT⟩ : ∃ T, (if 2 < C then 2 else C) = T := ⟨_, rfl⟩
        have d1 : decide (5 * C < M) = false := by simp; omega
        have d2 : decide (M < T) = false := by
          have : T ≤ M := by rw [← hT]; split <;> omega
          simp; omega
        clear hC hM hr3 hr4 hr5 hr6 hr7 HRC HROW HR1 HR2 HC
        go_wp2
        go_roundw
        case rel => exact ⟨n + 1, by omega, by go_num, HB7⟩
        case measure => simp [intOf]; omega
      · obtain rfl : n = ds.length := by omega
        go_wp2
        go_ret
        exact ⟨rfl, HBW.out⟩
/-! ### the row of LowerSays -/
set_option maxRecDepth 100000 in
theorem LowerSays_lifted (os : Os) (started : os.Started) (H : Type) (enc : TypeId × Value → H) :
    ReturnsInHanded {} Try.checked os 4 .any (Rows.lowerSaysSpec.pre6 enc Try.prog Try.f4 Rows.lowerSaysRow.domain false) (Rows.lowerSaysSpec.post enc Try.prog Try.f4 false true false false) := by
  refine returnsInHanded_of_change_sized (C := Try.checked) ownNone started (by kernel_rfl) Try.func4
    (ChangeSpec.witness6 (enc := enc) (C := Try.checked) false ⟨#[], #[.slice none 0 0, .int .u16 0, .slice none 0 0], []⟩ 8 (by kernel_rfl) (by kernel_rfl) (by kernel_rfl) (by kernel_rfl)) ?_
  intro W base args ds gs before hval0 hW hcnd hsz0 _
  have hsz : (DataW.weightsEach Try.prog (Try.f4.params.toList ++ Rows.lowerSaysSpec.plain.varTypes Try.prog) (ds ++ gs)).all (· ≤ reachBytes) = true := hsz0
  have hval : ∀ (j : Nat) t v, Try.f4.params[j]? = some t → args[j]? = some v → Value.okWide Try.prog W .any base t v := hval0
  have hW' := hW
  obtain ⟨p, q, hA0, hV, rfl, hfz, hnd⟩ := hW
  have hA : DataW.TrodAll enc Try.prog W 0 (fun _ => true) true Try.f4.params.toList args.toList ds p := hA0
  rw [Try.params4] at hA hval hsz
  obtain ⟨v0, vs0, d0, ds0, p0, q0, hargs, rfl, rfl, h0, r0⟩ := trodAll_cons hA
  obtain ⟨v1, vs1, d1, ds1, p1, q1, rfl, rfl, rfl, h1, r1⟩ := trodAll_cons r0
  obtain ⟨v2, vs2, d2, ds2, p2, q2, rfl, rfl, rfl, h2, r2⟩ := trodAll_cons r1
  obtain ⟨rfl, rfl, rfl⟩ := trodAll_nil r2
  obtain rfl : args = #[v0, v1, v2] := by cases args; simp_all
  obtain ⟨rfl, rfl⟩ := trodVars_none hV
  obtain ⟨a0, len0, cap0, rfl⟩ := okWide_slice Try.underlying22 (hval 0 22 v0 rfl rfl)
  have k0 := h0
  have lt0 : ∀ x ∈ p0, x.block < W.heap.size := by obtain ⟨m, hm⟩ := k0; exact DataW.trod_lt m _ _ _ hm
  obtain ⟨xs0, hl0, hr0, ho0, hc0, ha0, hb0⟩ := open_rows (α := N8) (j := 0) N8.cells N8.ok 8 56 Try.underlying22 (by kernel_rfl) (by decide) (fun _ => rfl) (by kernel_rfl) node_cells hsz rfl rfl h0
  subst hl0
  obtain ⟨x1, rfl, rfl, rfl, w1⟩ := open_int Try.underlying23 (hval 1 23 v1 rfl rfl) h1
  obtain ⟨a2, len2, cap2, rfl⟩ := okWide_slice Try.underlying34 (hval 2 34 v2 rfl rfl)
  have k2 := h2
  have lt2 : ∀ x ∈ p2, x.block < W.heap.size := by obtain ⟨m, hm⟩ := k2; exact DataW.trod_lt m _ _ _ hm
  obtain ⟨xs2, hl2, hr2, ho2, hc2, ha2, hb2⟩ := open_rows (α := D9) (j := 2) D9.cells D9.ok 9 64 Try.underlying34 (by kernel_rfl) (by decide) (fun _ => rfl) (by kernel_rfl) data_cells hsz rfl rfl h2
  subst hl2
  clear hA0 hval0 hsz0 hsz
  refine (LowerSays_w a0 cap0 xs0 x1 a2 cap2 xs2 W ho0 hc0 ha0 hb0 hr0 (wf_u16 w1) ho2 hc2 ha2 hb2 hr2).mono fun e W' ⟨he, bel⟩ => ?_
  subst he
  exact ⟨_, rfl, _, _, _, [], _, [], hW', trodAll_mk1 (shut_bool Try.underlying4 _), (trodAll_cons_mk (Below.trod laidOutB_ (by kernel_rfl) (of_decide_eq_true (by kernel_rfl)) k0 bel lt0) (trodAll_cons_mk (shut_int Try.underlying23 w1) (trodAll_cons_mk (Below.trod laidOutB_ (by kernel_rfl) (of_decide_eq_true (by kernel_rfl)) k2 bel lt2) trodAll_mk0))), rfl, bel.frame _, fun h => by cases h⟩
theorem LowerSays_holds : Rows.LowerSaysSaid :=
  OpenClaim.holds_of_wide 4 Try.f4 rfl rfl rfl rfl rfl rfl rfl ⟨rfl, rfl, rfl, rfl, rfl⟩ rfl rfl rfl rfl rfl (by kernel_rfl) Try.func4 (by kernel_rfl)
    (of_decide_eq_true (by kernel_rfl)) (by unfold Func.isWrapper; first | (rw [if_pos (by decide +kernel)]; kernel_rfl) | (rw [if_neg (by decide +kernel)]; exact ⟨rfl, rfl⟩))
    (fun os started H enc _ => LowerSays_lifted os started H enc)
#print axioms LowerSays_holds
end Go.Proofs.Ytfpemoellglknaa
