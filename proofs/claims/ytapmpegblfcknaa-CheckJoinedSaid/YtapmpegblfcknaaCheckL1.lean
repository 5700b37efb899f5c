import Derived.Test.YtapmpegblfcknaaOpen
set_option linter.unusedVariables false
set_option linter.unusedSimpArgs false
namespace Go.Proofs.Ytapmpegblfcknaa
open Go.RowKit Go.ChangeShapes Go.WideShapes Go.ChangeAt
open Go.ChangeMaps (open_string shut_string)
/-! ravelinlaw04.Head, CheckAll. -/
set_option maxHeartbeats 400000 in
theorem Head04_c (w : World) : Calls Try.prog 14 #[] w fun e w' => e = .returned (.bool true) ∧ Below w.heap.size w w' := by
  have e1 : checkP [⟨6, 0, 0, 0⟩] = (0, 0) := by decide +kernel
  have e2 : checkP [⟨6, 0, 0, 0⟩, ⟨0, 0, 0, 0⟩] = (48, 1) := by decide +kernel
  have HE1 := Lib.hid e1
  have HE2 := Lib.hid e2
  clear e1 e2
  go_enter Try.func14, Try.ntmps14
  go_wp2_with fail
  refine (Check_c _ 1 [⟨6, 0, 0, 0⟩] (by intro x hx; simp at hx; subst hx; simp [I4.ok]) (by decide) _ (by rw [World.size_alloc]; exact reads_new w _ _ 4 1 (cellsI [⟨6, 0, 0, 0⟩]) rfl rfl)).mono ?_
  rintro e w1 ⟨rfl, hb1⟩
  rw [HE1.out]
  have hb1' := below_t (below1 w _) hb1
  go_wp2_with fail
  refine (Check_c _ 2 [⟨6, 0, 0, 0⟩, ⟨0, 0, 0, 0⟩] (by intro x hx; simp at hx; rcases hx with rfl | rfl <;> simp [I4.ok]) (by decide) _ (by rw [World.size_alloc]; exact reads_new w1 _ _ 4 2 (cellsI [⟨6, 0, 0, 0⟩, ⟨0, 0, 0, 0⟩]) rfl rfl)).mono ?_
  rintro e w2 ⟨rfl, hb2⟩
  rw [HE2.out]
  go_wp2
  go_ret
  exact ⟨rfl, below_t hb1' (below_t (below1 w1 _) hb2)⟩
set_option maxHeartbeats 400000 in
theorem CheckAll_w (A : Option Addr) (cap : Nat) (q : List I4) (w : World) (hq : ∀ x ∈ q, x.ok) (hc : q.length ≤ cap) (hA : A = none → cap = 0) (hB : q.length * 8 ≤ 140737488351232) (hr : Reads w w.heap.size 4 A q.length (cellsI q)) :
    Calls Try.prog 3 #[.slice A q.length cap] w fun e w' => e = .returned (.bool true) ∧ Below w.heap.size w w' := by
  have HR := Lib.hid hr
  have HQ := Lib.hid hq
  clear hr hq
  have HA := Lib.hid hA
  clear hA
  have hs : sameP q q = true := by simp [sameP]
  have HS := Lib.hid hs
  clear hs
  go_enter Try.func3, Try.ntmps3
  go_wp2_with fail
  refine (Head04_c w).mono ?_
  rintro e w1 ⟨rfl, hb1⟩
  go_wp2_with fail
  refine (Lent_c A cap q HA.out hc hB w1 (HR.out.up hb1)).mono ?_
  rintro e w2 ⟨g, cap2, rfl, hL, hb2⟩
  have HL := Lib.hid hL
  clear hL
  have hb2' := below_t hb1 hb2
  go_wp2_with fail
  refine (Check_c _ cap2 q HQ.out (by omega) w2 HL.out.readsQ).mono ?_
  rintro e w3 ⟨rfl, hb3⟩
  have hb3' := below_t hb2' hb3
  go_wp2_with fail
  refine (rCheck_c A cap q HQ.out (by omega) w3 (HR.out.up hb3')).mono ?_
  rintro e w4 ⟨rfl, hb4⟩
  have hb4' := below_t hb3' hb4
  go_wp2_with fail
  refine (Kept_c A w1.heap.size g cap2 cap q q w4 hB (HL.out.keep (below_t hb3 hb4)) (HR.out.up hb4')).mono ?_
  rw [HS.out]
  rintro e w5 ⟨rfl, hb5⟩
  go_wp2
  go_ret
  exact ⟨rfl, below_t hb4' hb5⟩
/-! ### the row of CheckAll -/
set_option maxRecDepth 100000 in
theorem CheckAll_lifted (os : Os) (started : os.Started) (H : Type) (enc : TypeId × Value → H) :
    ReturnsInHanded {} Try.checked os 3 .any (Rows.checkAllSpec.pre6 enc Try.prog Try.f3 Rows.checkAllRow.domain false) (Rows.checkAllSpec.post enc Try.prog Try.f3 false true false false) := by
  refine returnsInHanded_of_change_sized (C := Try.checked) ownNone started (by kernel_rfl) Try.func3
    (ChangeSpec.witness6 (enc := enc) (C := Try.checked) false ⟨#[], #[.slice none 0 0], []⟩ 8 (by kernel_rfl) (by kernel_rfl) (by kernel_rfl) (by kernel_rfl)) ?_
  intro W base args ds gs before hval0 hW hcnd hsz0 _
  have hsz : (DataW.weightsEach Try.prog (Try.f3.params.toList ++ Rows.checkAllSpec.plain.varTypes Try.prog) (ds ++ gs)).all (· ≤ reachBytes) = true := hsz0
  have hval : ∀ (j : Nat) t v, Try.f3.params[j]? = some t → args[j]? = some v → Value.okWide Try.prog W .any base t v := hval0
  have hW' := hW
  obtain ⟨p, q, hA0, hV, rfl, hfz, hnd⟩ := hW
  have hA : DataW.TrodAll enc Try.prog W 0 (fun _ => true) true Try.f3.params.toList args.toList ds p := hA0
  rw [Try.params3] at hA hval hsz
  obtain ⟨v0, vs0, d0, ds0, p0, q0, hargs, rfl, rfl, h0, r0⟩ := trodAll_cons hA
  obtain ⟨rfl, rfl, rfl⟩ := trodAll_nil r0
  obtain rfl : args = #[v0] := by cases args; simp_all
  obtain ⟨rfl, rfl⟩ := trodVars_none hV
  obtain ⟨a0, len0, cap0, rfl⟩ := okWide_slice Try.underlying22 (hval 0 22 v0 rfl rfl)
  have k0 := h0
  have lt0 : ∀ x ∈ p0, x.block < W.heap.size := by obtain ⟨m, hm⟩ := k0; exact DataW.trod_lt m _ _ _ hm
  obtain ⟨xs0, hl0, hr0, ho0, hc0, ha0, hb0⟩ := open_rows (α := I4) (j := 0) I4.cells I4.ok 4 8 Try.underlying22 (by kernel_rfl) (by decide) (fun _ => rfl) (by kernel_rfl) insn_cells hsz rfl rfl h0
  subst hl0
  clear hA0 hval0 hsz0 hsz
  refine (CheckAll_w a0 cap0 xs0 W ho0 hc0 ha0 hb0 hr0).mono fun e W' ⟨he, bel⟩ => ?_
  subst he
  exact ⟨_, rfl, _, _, _, [], _, [], hW', trodAll_mk1 (shut_bool Try.underlying4 _), (trodAll_cons_mk (Below.trod laidOutB_ (by kernel_rfl) (of_decide_eq_true (by kernel_rfl)) k0 bel lt0) trodAll_mk0), rfl, bel.frame _, fun h => by cases h⟩
theorem CheckAll_holds : Rows.CheckAllSaid :=
  OpenClaim.holds_of_wide 3 Try.f3 rfl rfl rfl rfl rfl rfl rfl ⟨rfl, rfl, rfl, rfl, rfl⟩ rfl rfl rfl rfl rfl (by kernel_rfl) Try.func3 (by kernel_rfl)
    (of_decide_eq_true (by kernel_rfl)) (by unfold Func.isWrapper; first | (rw [if_pos (by decide +kernel)]; kernel_rfl) | (rw [if_neg (by decide +kernel)]; exact ⟨rfl, rfl⟩))
    (fun os started H enc _ => CheckAll_lifted os started H enc)
#print axioms CheckAll_holds
end Go.Proofs.Ytapmpegblfcknaa
