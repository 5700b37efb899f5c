import Derived.Test.YtapmpegblfcknaaFlowHead
import Derived.Test.YtapmpegblfcknaaOpen
set_option linter.unusedVariables false
set_option linter.unusedSimpArgs false
namespace Go.Proofs.Ytapmpegblfcknaa
open Go.RowKit Go.ChangeShapes Go.WideShapes Go.ChangeAt
open Go.ChangeMaps (open_string shut_string)
/-! FlowNext. -/
set_option maxRecDepth 100000 in
set_option maxHeartbeats 1600000 in
theorem FlowNext_w (A : Option Addr) (cap : Nat) (q : List I4) (A1 : Option Addr) (cap1 : Nat) (pl : List Int) (w : World) (hq : ∀ x ∈ q, x.ok) (hc : q.length ≤ cap) (hA : A = none → cap = 0) (hB : q.length * 8 ≤ 140737488351232) (hr : Reads w w.heap.size 4 A q.length (cellsI q))
    (hq1 : ∀ x ∈ pl, -9223372036854775808 ≤ x ∧ x ≤ 9223372036854775807) (hc1 : pl.length ≤ cap1) (hA1 : A1 = none → cap1 = 0) (hB1 : pl.length * 8 ≤ 140737488351232) (hr1 : Reads w w.heap.size 1 A1 pl.length (numV .i64 pl)) :
    Calls Try.prog 8 #[.slice A q.length cap, .slice A1 pl.length cap1] w fun e w' => e = .returned (.bool true) ∧ Below w.heap.size w w' := by
  have HR := Lib.hid hr
  have HR1 := Lib.hid hr1
  have HQ := Lib.hid hq
  have HA := Lib.hid hA
  have HSM := Lib.hid (show sameP q q = true by simp [sameP])
  have hpl : (pl.length : Int) ≤ 17592186043904 := by omega
  clear hr hr1 hq hq1 hA hA1
  go_enter Try.func8, Try.ntmps8
  go_wp2_with fail
  refine (Head10_c w).mono ?_
  rintro e w1 ⟨rfl, hb1⟩
  go_wp2_with fail
  refine (Lent_c A cap q HA.out hc hB w1 (HR.out.up hb1)).mono ?_
  rintro e w2 ⟨g, cap2, rfl, hL, hb2⟩
  have hb2' := below_t hb1 hb2
  have HL := Lib.hid hL
  have HB2 := Lib.hid hb2'
  clear hb2 hL hb2' hb1
  go_wp2_with fail
  go_loopw [7] (fun i wr => ∃ n : Nat, n ≤ pl.length ∧ i = .int .i64 n ∧ Hid (Below w.heap.size w wr ∧ Below w2.heap.size w2 wr)) (fun i _ => pl.length - (intOf i).toNat)
  case atStart => exact ⟨0, by omega, rfl, Lib.hid ⟨HB2.out, Below.refl _ _⟩⟩
  case round =>
    obtain ⟨n, hn, rfl, HBR⟩ := hrel
    rcases Nat.lt_or_ge n pl.length with h6 | h6
    · obtain ⟨x, hx⟩ : ∃ x, pl[n]? = some x := ⟨_, List.getElem?_eq_getElem h6⟩
      obtain ⟨b, off, rfl, hbl, i0⟩ := (HR1.out.up HBR.out.1).num hx
      have h6' : (n : Int) < pl.length := by omega
      clear hx
      go_wp2_with fail
      refine (NextA_c (some ⟨g, 0, none⟩) cap2 q x HQ.out (by omega) wr (HL.out.readsQ.up HBR.out.2)).mono ?_
      rintro e w3 h3
      obtain ⟨A3, c3, rfl, HR3, hb3⟩ := h3.form
      have j0 := keepC hb3 i0
      have HB3 := Lib.hid (below_t HBR.out.1 hb3)
      have HC3 := Lib.hid (below_t HBR.out.2 hb3)
      clear hb3 h3
      go_wp2_with fail
      refine (rNextA_c A cap q x HQ.out (by omega) w3 (HR.out.up HB3.out)).mono ?_
      rintro e w4 h4
      obtain ⟨A4, c4, rfl, HR4, hb4⟩ := h4.form
      have HB4 := Lib.hid (below_t HB3.out hb4)
      have HC4 := Lib.hid (below_t HC3.out hb4)
      have HR34 := Lib.hid (HR3.out.up hb4)
      clear hb4 h4
      go_wp2_with fail
      refine (numbers_c A3 A4 c3 c4 (nextAt q x) (by have := nextQ_len q x.toNat; unfold nextAt; split <;> simp <;> omega) w4 HR34.out HR4.out).mono ?_
      rintro e w5 ⟨rfl, hb5⟩
      have HB5 := Lib.hid (below_t HB4.out hb5)
      have HC5 := Lib.hid (below_t HC4.out hb5)
      clear hb5
      go_wp2_with fail
      exact ⟨⟨n + 1, h6, rfl, Lib.hid ⟨HB5.out, HC5.out⟩⟩, by simp only [intOf]; omega⟩
    · obtain rfl : n = pl.length := by omega
      go_wp2_with fail
      refine (Kept_c A _ g cap2 cap q q wr hB (HL.out.keep HBR.out.2) (HR.out.up HBR.out.1)).mono ?_
      rw [HSM.out]
      rintro e w7 ⟨rfl, hb7⟩
      have hb7' := below_t HBR.out.1 hb7
      go_wp2
      go_ret
      exact ⟨rfl, hb7'⟩
/-! ### the row of FlowNext -/
set_option maxRecDepth 100000 in
theorem FlowNext_lifted (os : Os) (started : os.Started) (H : Type) (enc : TypeId × Value → H) :
    ReturnsInHanded {} Try.checked os 8 .any (Rows.flowNextSpec.pre6 enc Try.prog Try.f8 Rows.flowNextRow.domain false) (Rows.flowNextSpec.post enc Try.prog Try.f8 false true false false) := by
  refine returnsInHanded_of_change_sized (C := Try.checked) ownNone started (by kernel_rfl) Try.func8
    (ChangeSpec.witness6 (enc := enc) (C := Try.checked) false ⟨#[], #[.slice none 0 0, .slice none 0 0], []⟩ 8 (by kernel_rfl) (by kernel_rfl) (by kernel_rfl) (by kernel_rfl)) ?_
  intro W base args ds gs before hval0 hW hcnd hsz0 _
  have hsz : (DataW.weightsEach Try.prog (Try.f8.params.toList ++ Rows.flowNextSpec.plain.varTypes Try.prog) (ds ++ gs)).all (· ≤ reachBytes) = true := hsz0
  have hval : ∀ (j : Nat) t v, Try.f8.params[j]? = some t → args[j]? = some v → Value.okWide Try.prog W .any base t v := hval0
  have hW' := hW
  obtain ⟨p, q, hA0, hV, rfl, hfz, hnd⟩ := hW
  have hA : DataW.TrodAll enc Try.prog W 0 (fun _ => true) true Try.f8.params.toList args.toList ds p := hA0
  rw [Try.params8] at hA hval hsz
  obtain ⟨v0, vs0, d0, ds0, p0, q0, hargs, rfl, rfl, h0, r0⟩ := trodAll_cons hA
  obtain ⟨v1, vs1, d1, ds1, p1, q1, rfl, rfl, rfl, h1, r1⟩ := trodAll_cons r0
  obtain ⟨rfl, rfl, rfl⟩ := trodAll_nil r1
  obtain rfl : args = #[v0, v1] := by cases args; simp_all
  obtain ⟨rfl, rfl⟩ := trodVars_none hV
  obtain ⟨a0, len0, cap0, rfl⟩ := okWide_slice Try.underlying22 (hval 0 22 v0 rfl rfl)
  have k0 := h0
  have lt0 : ∀ x ∈ p0, x.block < W.heap.size := by obtain ⟨m, hm⟩ := k0; exact DataW.trod_lt m _ _ _ hm
  obtain ⟨xs0, hl0, hr0, ho0, hc0, ha0, hb0⟩ := open_rows (α := I4) (j := 0) I4.cells I4.ok 4 8 Try.underlying22 (by kernel_rfl) (by decide) (fun _ => rfl) (by kernel_rfl) insn_cells hsz rfl rfl h0
  subst hl0
  obtain ⟨a1, len1, cap1, rfl⟩ := okWide_slice Try.underlying36 (hval 1 36 v1 rfl rfl)
  have k1 := h1
  have lt1 : ∀ x ∈ p1, x.block < W.heap.size := by obtain ⟨m, hm⟩ := k1; exact DataW.trod_lt m _ _ _ hm
  obtain ⟨xs1, hl1, hr1, ho1, hc1, ha1, hb1⟩ := open_rows (α := Int) (j := 1) (fun x : Int => [Value.int .i64 x]) (fun x : Int => -9223372036854775808 ≤ x ∧ x ≤ 9223372036854775807) 1 8 Try.underlying36 (by kernel_rfl) (by decide) (fun _ => rfl) (by kernel_rfl) (int_cells Try.underlying3 (fun h => wf_i64 h)) hsz rfl rfl h1
  subst hl1
  clear hA0 hval0 hsz0 hsz
  refine (FlowNext_w a0 cap0 xs0 a1 cap1 xs1 W ho0 hc0 ha0 hb0 hr0 ho1 hc1 ha1 hb1 (reads_num hr1)).mono fun e W' ⟨he, bel⟩ => ?_
  subst he
  exact ⟨_, rfl, _, _, _, [], _, [], hW', trodAll_mk1 (shut_bool Try.underlying4 _), (trodAll_cons_mk (Below.trod laidOutB_ (by kernel_rfl) (of_decide_eq_true (by kernel_rfl)) k0 bel lt0) (trodAll_cons_mk (Below.trod laidOutB_ (by kernel_rfl) (of_decide_eq_true (by kernel_rfl)) k1 bel lt1) trodAll_mk0)), rfl, bel.frame _, fun h => by cases h⟩
theorem FlowNext_holds : Rows.FlowNextSaid :=
  OpenClaim.holds_of_wide 8 Try.f8 rfl rfl rfl rfl rfl rfl rfl ⟨rfl, rfl, rfl, rfl, rfl⟩ rfl rfl rfl rfl rfl (by kernel_rfl) Try.func8 (by kernel_rfl)
    (of_decide_eq_true (by kernel_rfl)) (by unfold Func.isWrapper; first | (rw [if_pos (by decide +kernel)]; kernel_rfl) | (rw [if_neg (by decide +kernel)]; exact ⟨rfl, rfl⟩))
    (fun os started H enc _ => FlowNext_lifted os started H enc)
#print axioms FlowNext_holds
end Go.Proofs.Ytapmpegblfcknaa
