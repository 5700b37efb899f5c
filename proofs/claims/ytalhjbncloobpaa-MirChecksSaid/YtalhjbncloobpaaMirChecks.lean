import Derived.Test.YtalhjbncloobpaaMirHead
set_option linter.unusedVariables false
set_option linter.unusedSimpArgs false
namespace Go.Proofs.Ytalhjbncloobpaa
open Go.RowKit Go.ChangeShapes Go.WideShapes Go.ChangeAt
open Go.ChangeMaps (open_string shut_string)
/-! MirChecks. -/
set_option maxRecDepth 100000 in
set_option maxHeartbeats 1600000 in
theorem MirChecks_w (regs : Int) (A : Option Addr) (cap : Nat) (q : List R7) (w : World) (hg : inI64 regs) (hq : ∀ x ∈ q, x.ok) (hc : q.length ≤ cap) (hA : A = none → cap = 0) (hB : q.length * 56 ≤ 140737488351232) (hr : Reads w w.heap.size 7 A q.length (cellsR q)) :
    Calls Try.prog 5 #[.agg #[.int .i64 regs, .slice A q.length cap]] w fun e w' => e = .returned (.bool true) ∧ Below w.heap.size w w' := by
  have HR := Lib.hid hr
  have HQ := Lib.hid hq
  have HA := Lib.hid hA
  clear hr hq hA
  go_enter Try.func5, Try.ntmps5
  go_wp2_with fail
  refine (Head12_c _).mono ?_
  rintro e w1 ⟨rfl, hb1⟩
  obtain ⟨hc1, hf1⟩ := bcell hb1
  have c0 : w1.cell? ⟨w.heap.size, 0, none⟩ = some (.int .i64 regs) := by rw [hc1 _ _ (by simp)]; simp [go_sem]
  have c1 : w1.cell? ⟨w.heap.size, 1, none⟩ = some (.slice A q.length cap) := by rw [hc1 _ _ (by simp)]; simp [go_sem]
  have hs1 : w.heap.size < w1.heap.size := by have := hb1.size; simp at this; omega
  have hb1' := below_t (below1 w _) hb1
  clear hc1 hf1 hb1
  go_wp2_with fail
  refine (LentR_c A regs cap q HA.out hc hB w1 (HR.out.up hb1')).mono ?_
  rintro e w2 ⟨g, cap2, rfl, hL, hb2⟩
  have c0' := keepC hb2 c0
  have c1' := keepC hb2 c1
  have hs2 : w.heap.size < w2.heap.size := by have := hb2.size; omega
  have hb2' := below_t hb1' hb2
  have HL := Lib.hid hL
  clear hb2 hL c0 c1 hs1 hb1'
  go_wp2_with fail
  refine (MCheck_c _ regs cap2 q HQ.out (by omega) _ (HL.out.readsQ.up (below1 w2 _))).mono ?_
  rintro e w3 ⟨rfl, hb3⟩
  have d0 : w3.cell? ⟨w2.heap.size, 0, none⟩ = some (.int .i64 regs) := keepC hb3 (by simp [go_sem])
  have d1 : w3.cell? ⟨w2.heap.size, 1, none⟩ = some (.slice (some ⟨g, 0, none⟩) q.length cap2) := keepC hb3 (by simp [go_sem])
  have c0 := keepC hb3 (keepC (below1 w2 (.cells #[.int .i64 regs, .slice (some ⟨g, 0, none⟩) q.length cap2] 25)) c0')
  have c1 := keepC hb3 (keepC (below1 w2 (.cells #[.int .i64 regs, .slice (some ⟨g, 0, none⟩) q.length cap2] 25)) c1')
  have hk3 := below_t (below1 w2 _) hb3
  have hb3' := below_t hb2' hk3
  clear c0' c1' hb3
  go_wp2_with fail
  refine (rMCheck_c A regs cap q HQ.out (by omega) _ (HR.out.up hb3')).mono ?_
  rintro e w4 ⟨rfl, hb4⟩
  have d0' := keepC hb4 d0
  have d1' := keepC hb4 d1
  have c0' := keepC hb4 c0
  have c1' := keepC hb4 c1
  have hk4 := below_t hk3 hb4
  have hb4' := below_t hb3' hb4
  clear d0 d1 c0 c1 hb4 hk3 hb3'
  go_wp2_with fail
  refine (KeptR_c A regs _ g cap2 cap q w4 hB (HL.out.keep hk4) (HR.out.up hb4')).mono ?_
  rintro e w5 ⟨rfl, hb5⟩
  go_wp2
  go_ret
  exact ⟨rfl, below_t hb4' hb5⟩
/-! ### the row of MirChecks -/
set_option maxRecDepth 100000 in
theorem MirChecks_lifted (os : Os) (started : os.Started) (H : Type) (enc : TypeId × Value → H) :
    ReturnsInHanded {} Try.checked os 5 .any (Rows.mirChecksSpec.pre6 enc Try.prog Try.f5 Rows.mirChecksRow.domain false) (Rows.mirChecksSpec.post enc Try.prog Try.f5 false true false false) := by
  refine returnsInHanded_of_change_sized (C := Try.checked) ownNone started (by kernel_rfl) Try.func5
    (ChangeSpec.witness6 (enc := enc) (C := Try.checked) false ⟨#[], #[.agg #[.int .i64 0, .slice none 0 0]], []⟩ 8 (by kernel_rfl) (by kernel_rfl) (by kernel_rfl) (by kernel_rfl)) ?_
  intro W base args ds gs before hval0 hW hcnd hsz0 _
  have hsz : (DataW.weightsEach Try.prog (Try.f5.params.toList ++ Rows.mirChecksSpec.plain.varTypes Try.prog) (ds ++ gs)).all (· ≤ reachBytes) = true := hsz0
  have hval : ∀ (j : Nat) t v, Try.f5.params[j]? = some t → args[j]? = some v → Value.okWide Try.prog W .any base t v := hval0
  have hW' := hW
  obtain ⟨p, q, hA0, hV, rfl, hfz, hnd⟩ := hW
  have hA : DataW.TrodAll enc Try.prog W 0 (fun _ => true) true Try.f5.params.toList args.toList ds p := hA0
  rw [Try.params5] at hA hval hsz
  obtain ⟨v0, vs0, d0, ds0, p0, q0, hargs, rfl, rfl, h0, r0⟩ := trodAll_cons hA
  obtain ⟨rfl, rfl, rfl⟩ := trodAll_nil r0
  obtain rfl : args = #[v0] := by cases args; simp_all
  obtain ⟨rfl, rfl⟩ := trodVars_none hV
  obtain ⟨rg0, a0, cap0, xs0, rfl, hi0, ho0, hc0, ha0, hb0, hr0⟩ := open_mir (j := 0) hsz rfl rfl (hval 0 25 v0 rfl rfl) h0
  have k0 := h0
  have lt0 : ∀ x ∈ p0, x.block < W.heap.size := by obtain ⟨m, hm⟩ := k0; exact DataW.trod_lt m _ _ _ hm
  clear hA0 hval0 hsz0 hsz
  refine (MirChecks_w rg0 a0 cap0 xs0 W hi0 ho0 hc0 ha0 hb0 hr0).mono fun e W' ⟨he, bel⟩ => ?_
  subst he
  exact ⟨_, rfl, _, _, _, [], _, [], hW', trodAll_mk1 (shut_bool Try.underlying4 _), (trodAll_cons_mk (Below.trod laidOutB_ (by kernel_rfl) (of_decide_eq_true (by kernel_rfl)) k0 bel lt0) trodAll_mk0), rfl, bel.frame _, fun h => by cases h⟩
theorem MirChecks_holds : Rows.MirChecksSaid :=
  OpenClaim.holds_of_wide 5 Try.f5 rfl rfl rfl rfl rfl rfl rfl ⟨rfl, rfl, rfl, rfl, rfl⟩ rfl rfl rfl rfl rfl (by kernel_rfl) Try.func5 (by kernel_rfl)
    (of_decide_eq_true (by kernel_rfl)) (by unfold Func.isWrapper; first | (rw [if_pos (by decide +kernel)]; kernel_rfl) | (rw [if_neg (by decide +kernel)]; exact ⟨rfl, rfl⟩))
    (fun os started H enc _ => MirChecks_lifted os started H enc)
#print axioms MirChecks_holds
end Go.Proofs.Ytalhjbncloobpaa
