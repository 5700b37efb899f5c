/- LowerEmits: of any nodes, any number of tests put ahead and either side, what lower.Size and lower.Emit answer is what the document's answer is. No conditions. -/
import Derived.Test.YtfpemoellglknaaLowHead
import Derived.Test.YtfpemoellglknaaOpenN
set_option linter.unusedVariables false
set_option linter.unusedSimpArgs false
namespace Go.Proofs.Ytfpemoellglknaa
open Go.RowKit Go.ChangeShapes Go.WideShapes Go.ChangeAt
/-! LowerEmits. -/
theorem fixed_place {q : List N8} {j k : Nat} (h : Fixed q j) (h2 : Fixed q k) : placeN q (farTo q j) q.length = placeN q (farTo q k) q.length := by rw [fixed_one h h2]
set_option maxRecDepth 100000 in
set_option maxHeartbeats 1600000 in
theorem LowerEmits_w (A : Option Addr) (cap : Nat) (l : List N8) (many : Int) (side : Bool) (w : World) (hq : ∀ x ∈ l, x.ok) (hc : l.length ≤ cap) (hA : A = none → cap = 0) (hB : l.length * 56 ≤ 140737488351232) (hr : Reads w w.heap.size 8 A l.length (cellsN l)) (hm : 0 ≤ many ∧ many < 65536) :
    Calls Try.prog 3 #[.slice A l.length cap, .int .u16 many, .bool side] w fun e w' => e = .returned (.bool true) ∧ Below w.heap.size w w' := by
  have HR := Lib.hid hr
  have hN : (many % 4104).toNat < 4104 := by omega
  obtain ⟨q, hqq⟩ : ∃ q, q = grownP l (many % 4104).toNat side := ⟨_, rfl⟩
  have HOK : Hid (∀ x ∈ q, x.ok) := Lib.hid (by rw [hqq]; exact grown_ok hq hN (by omega))
  have HLEN : Hid (q.length ≤ 9223372036854775807) := Lib.hid (by rw [hqq, grown_len]; omega)
  have HQQ := Lib.hid hqq
  have HHM := Lib.hid hm
  have HHB := Lib.hid hB
  clear hr hq hc hA hm hN hqq hB
  go_enter Try.func3, Try.ntmps3
  go_wp2_with fail
  refine (lives_c w).mono ?_
  rintro e w1 ⟨rfl, hb1⟩
  have HB1 := Lib.hid hb1
  clear hb1
  go_wp2_with fail
  refine (Grown_c A cap l many side HHB.out HHM.out w1 (HR.out.up HB1.out)).mono ?_
  rintro e w2 ⟨v, rfl, hown, hb2⟩
  rw [← HQQ.out] at hown
  obtain ⟨Aq, cq, rfl, -, -, hrq⟩ := own_sl hown
  have HRQ := Lib.hid hrq
  have HB2 := Lib.hid (below_t HB1.out hb2)
  clear hown hrq hb2
  go_wp2_with fail
  refine (Size_c Aq cq q HOK.out HLEN.out w2 HRQ.out).mono ?_
  rintro e w3 ⟨hb3, hs⟩
  have HB3 := Lib.hid (below_t HB2.out hb3)
  have HQ3 := Lib.hid (HRQ.out.up hb3)
  clear hb3
  by_cases h0 : (checkD q).1 = 0
  · rcases hs with ⟨h, -⟩ | ⟨-, k, hk, rfl⟩
    · exact absurd h0 h
    have HK := Lib.hid hk
    have H0 := Lib.hid h0
    obtain ⟨P, hP⟩ : ∃ P, P = placeN q (farTo q k) q.length := ⟨_, rfl⟩
    have HPP := Lib.hid hP
    rw [← hP]
    clear hk h0 hP
    go_wp2_with fail
    refine (rSize_c Aq cq q HOK.out HLEN.out w3 HQ3.out).mono ?_
    rintro e w4 ⟨hb4, ⟨h, -⟩ | ⟨-, k2, hk2, rfl⟩⟩
    · exact absurd H0.out h
    rw [← fixed_place HK.out hk2, ← HPP.out]
    have HB4 := Lib.hid (below_t HB3.out hb4)
    have HQ4 := Lib.hid (HQ3.out.up hb4)
    clear hk2 hb4
    go_wp2_with fail
    refine (Emit_c Aq cq q HOK.out HLEN.out w4 HQ4.out).mono ?_
    rintro e w5 ⟨hb5, ⟨h, -⟩ | ⟨-, k3, hk3, he⟩⟩
    · exact absurd H0.out h
    rw [← fixed_place HK.out hk3, ← HPP.out, ← fixed_one HK.out hk3] at he
    have HB5 := Lib.hid (below_t HB4.out hb5)
    have HQ5 := Lib.hid (HQ4.out.up hb5)
    clear hk3 hb5
    rcases he with ⟨hbig, rfl⟩ | ⟨hsm, v, rfl, hown⟩
    · go_wp2_with fail
      refine (rEmit_c Aq cq q HOK.out HLEN.out w5 HQ5.out).mono ?_
      rintro e w6 ⟨hb6, ⟨h, -⟩ | ⟨-, k4, hk4, he⟩⟩
      · exact absurd H0.out h
      rw [← fixed_place HK.out hk4, ← HPP.out] at he
      have HB6 := Lib.hid (below_t HB5.out hb6)
      rcases he with ⟨-, rfl⟩ | ⟨hsm, -⟩
      · clear hbig hk4 hb6
        go_wp2_with fail
        refine (Same_c none none 0 0 [] [] w6 (by decide) Reads.none_ Reads.none_).mono ?_
        rintro e w7 ⟨rfl, hb7⟩
        rw [sameP_self]
        have HB7 := Lib.hid (below_t HB6.out hb7)
        go_wp2
        go_ret
        exact ⟨rfl, HB7.out⟩
      · omega
    · obtain ⟨E, hE⟩ : ∃ E, E = emitTo q (farTo q k) q.length := ⟨_, rfl⟩
      have HE := Lib.hid hE
      have hEl : E.length ≤ 4096 := by rw [hE, emitTo_len, ← HPP.out]; exact hsm
      rw [← hE] at hown
      obtain ⟨Av, cv, rfl, -, -, hrv⟩ := own_sl hown
      have HRV := Lib.hid hrv
      clear hown hrv hE
      go_wp2_with fail
      refine (rEmit_c Aq cq q HOK.out HLEN.out w5 HQ5.out).mono ?_
      rintro e w6 ⟨hb6, ⟨h, -⟩ | ⟨-, k4, hk4, he⟩⟩
      · exact absurd H0.out h
      rw [← fixed_place HK.out hk4, ← HPP.out, ← fixed_one HK.out hk4] at he
      have HB6 := Lib.hid (below_t HB5.out hb6)
      have HRV6 := Lib.hid (HRV.out.up hb6)
      rcases he with ⟨hbig, -⟩ | ⟨-, v6, rfl, hown6⟩
      · omega
      · rw [← HE.out] at hown6
        obtain ⟨Au, cu, rfl, -, -, hru⟩ := own_sl hown6
        have HRU := Lib.hid hru
        clear hown6 hru hk4 hb6 hsm
        go_wp2_with fail
        refine (Same_c Av Au cv cu E E w6 (by omega) HRV6.out HRU.out).mono ?_
        rintro e w7 ⟨rfl, hb7⟩
        rw [sameP_self]
        have HB7 := Lib.hid (below_t HB6.out hb7)
        go_wp2
        go_ret
        exact ⟨rfl, HB7.out⟩
  · rcases hs with ⟨-, rfl⟩ | ⟨h, -⟩
    · have H0 := Lib.hid h0
      obtain ⟨c, hcc⟩ : ∃ c, c = (checkD q).1 := ⟨_, rfl⟩
      have HCC := Lib.hid hcc
      rw [← hcc]
      clear h0 hcc
      go_wp2_with fail
      refine (rSize_c Aq cq q HOK.out HLEN.out w3 HQ3.out).mono ?_
      rintro e w4 ⟨hb4, ⟨-, rfl⟩ | ⟨h, -⟩⟩
      · rw [← HCC.out]
        have HB4 := Lib.hid (below_t HB3.out hb4)
        have HQ4 := Lib.hid (HQ3.out.up hb4)
        clear hb4
        go_wp2_with fail
        refine (Emit_c Aq cq q HOK.out HLEN.out w4 HQ4.out).mono ?_
        rintro e w5 ⟨hb5, ⟨-, rfl⟩ | ⟨h, -⟩⟩
        · rw [← HCC.out]
          have HB5 := Lib.hid (below_t HB4.out hb5)
          have HQ5 := Lib.hid (HQ4.out.up hb5)
          clear hb5
          go_wp2_with fail
          refine (rEmit_c Aq cq q HOK.out HLEN.out w5 HQ5.out).mono ?_
          rintro e w6 ⟨hb6, ⟨-, rfl⟩ | ⟨h, -⟩⟩
          · rw [← HCC.out]
            have HB6 := Lib.hid (below_t HB5.out hb6)
            clear hb6
            go_wp2_with fail
            refine (Same_c none none 0 0 [] [] w6 (by decide) Reads.none_ Reads.none_).mono ?_
            rintro e w7 ⟨rfl, hb7⟩
            rw [sameP_self]
            have HB7 := Lib.hid (below_t HB6.out hb7)
            go_wp2
            go_ret
            exact ⟨rfl, HB7.out⟩
          · exact absurd h H0.out
        · exact absurd h H0.out
      · exact absurd h H0.out
    · exact absurd h h0
/-! ### the row of LowerEmits -/
set_option maxRecDepth 100000 in
theorem LowerEmits_lifted (os : Os) (started : os.Started) (H : Type) (enc : TypeId × Value → H) :
    ReturnsInHanded {} Try.checked os 3 .any (Rows.lowerEmitsSpec.pre6 enc Try.prog Try.f3 Rows.lowerEmitsRow.domain false) (Rows.lowerEmitsSpec.post enc Try.prog Try.f3 false true false false) := by
  refine returnsInHanded_of_change_sized (C := Try.checked) ownNone started (by kernel_rfl) Try.func3
    (ChangeSpec.witness6 (enc := enc) (C := Try.checked) false ⟨#[], #[.slice none 0 0, .int .u16 0, .bool false], []⟩ 8 (by kernel_rfl) (by kernel_rfl) (by kernel_rfl) (by kernel_rfl)) ?_
  intro W base args ds gs before hval0 hW hcnd hsz0 _
  have hsz : (DataW.weightsEach Try.prog (Try.f3.params.toList ++ Rows.lowerEmitsSpec.plain.varTypes Try.prog) (ds ++ gs)).all (· ≤ reachBytes) = true := hsz0
  have hval : ∀ (j : Nat) t v, Try.f3.params[j]? = some t → args[j]? = some v → Value.okWide Try.prog W .any base t v := hval0
  have hW' := hW
  obtain ⟨p, q, hA0, hV, rfl, hfz, hnd⟩ := hW
  have hA : DataW.TrodAll enc Try.prog W 0 (fun _ => true) true Try.f3.params.toList args.toList ds p := hA0
  rw [Try.params3] at hA hval hsz
  obtain ⟨v0, vs0, d0, ds0, p0, q0, hargs, rfl, rfl, h0, r0⟩ := trodAll_cons hA
  obtain ⟨v1, vs1, d1, ds1, p1, q1, rfl, rfl, rfl, h1, r1⟩ := trodAll_cons r0
  obtain ⟨v2, vs2, d2, ds2, p2, q2, rfl, rfl, rfl, h2, r2⟩ := trodAll_cons r1
  obtain ⟨rfl, rfl, rfl⟩ := trodAll_nil r2
  obtain rfl : args = #[v0, v1, v2] := by cases args; simp_all
  obtain ⟨rfl, rfl⟩ := trodVars_none hV
  obtain ⟨a0, len0, cap0, rfl⟩ := okWide_slice Try.underlying22 (hval 0 22 v0 rfl rfl)
  have k0 := h0
  have lt0 : ∀ x ∈ p0, x.block < W.heap.size := by obtain ⟨m, hm⟩ := k0; exact DataW.trod_lt m _ _ _ hm
  obtain ⟨xs0, hl0, hr0, ho0, hc0, ha0, hb0⟩ := open_rows (α := N8) (j := 0) N8.cells N8.ok 8 56 Try.underlying22 (by kernel_rfl) (by decide) (fun _ => rfl) (by kernel_rfl) node_cells hsz rfl rfl h0
  subst hl0
  obtain ⟨x1, rfl, rfl, rfl, w1⟩ := open_int Try.underlying23 (hval 1 23 v1 rfl rfl) h1
  obtain ⟨x2, rfl, rfl, rfl⟩ := open_bool Try.underlying4 (hval 2 4 v2 rfl rfl) h2
  clear hA0 hval0 hsz0 hsz
  refine (LowerEmits_w a0 cap0 xs0 x1 x2 W ho0 hc0 ha0 hb0 hr0 (wf_u16 w1)).mono fun e W' ⟨he, bel⟩ => ?_
  subst he
  exact ⟨_, rfl, _, _, _, [], _, [], hW', trodAll_mk1 (shut_bool Try.underlying4 _), (trodAll_cons_mk (Below.trod laidOutB_ (by kernel_rfl) (of_decide_eq_true (by kernel_rfl)) k0 bel lt0) (trodAll_cons_mk (shut_int Try.underlying23 w1) (trodAll_cons_mk (shut_bool Try.underlying4 _) trodAll_mk0))), rfl, bel.frame _, fun h => by cases h⟩
theorem LowerEmits_holds : Rows.LowerEmitsSaid :=
  OpenClaim.holds_of_wide 3 Try.f3 rfl rfl rfl rfl rfl rfl rfl ⟨rfl, rfl, rfl, rfl, rfl⟩ rfl rfl rfl rfl rfl (by kernel_rfl) Try.func3 (by kernel_rfl)
    (of_decide_eq_true (by kernel_rfl)) (by unfold Func.isWrapper; first | (rw [if_pos (by decide +kernel)]; kernel_rfl) | (rw [if_neg (by decide +kernel)]; exact ⟨rfl, rfl⟩))
    (fun os started H enc _ => LowerEmits_lifted os started H enc)
#print axioms LowerEmits_holds
end Go.Proofs.Ytfpemoellglknaa
