import Derived.Test.YtpofdjnkpplimaaCbpfHead
import Derived.Test.YtpofdjnkpplimaaCbpfAcc
import Derived.Test.YtpofdjnkpplimaaHead04
import Derived.Test.YtpofdjnkpplimaaOpen
set_option linter.unusedVariables false
set_option linter.unusedSimpArgs false
namespace Go.Proofs.Ytpofdjnkpplimaa
open Go.RowKit Go.ChangeShapes Go.WideShapes Go.ChangeAt
open Go.ChangeMaps (open_string shut_string)
/-! CheckRuns. -/
set_option maxRecDepth 100000 in
set_option maxHeartbeats 800000 in
theorem CheckRuns_w (A : Option Addr) (cap : Nat) (q : List I4) (A1 : Option Addr) (cap1 : Nat) (dat : List Int) (w : World) (hq : ∀ x ∈ q, x.ok) (hc : q.length ≤ cap) (hA : A = none → cap = 0) (hB : q.length * 8 ≤ 140737488351232) (hr : Reads w w.heap.size 4 A q.length (cellsI q))
    (hq1 : ∀ x ∈ dat, 0 ≤ x ∧ x < 256) (hc1 : dat.length ≤ cap1) (hA1 : A1 = none → cap1 = 0) (hB1 : dat.length * 1 ≤ 140737488351232) (hr1 : Reads w w.heap.size 1 A1 dat.length (numV .u8 dat)) :
    Calls Try.prog 10 #[.slice A q.length cap, .slice A1 dat.length cap1] w fun e w' => e = .returned (.bool true) ∧ Below w.heap.size w w' := by
  have HK := Lib.hid (fun (W : World) (hb : Below w.heap.size w W) => Check_c A cap q hq (by omega) W (hr.up hb))
  have HC := Lib.hid (fun (W : World) (hb : Below w.heap.size w W) => Run_c A cap q A1 cap1 dat hA hc hB hA1 hc1 hB1 hq hq1 W (hr.up hb) (hr1.up hb))
  have HQ := Lib.hid hq
  clear hr hA hr1 hq1 hA1 hq
  by_cases hz : (checkP q).1 = 0
  · by_cases h64 : dat.length = 64
    · obtain ⟨b1, b2, b3⟩ := runC_acc hz HQ.out dat h64
      obtain ⟨⟨rv, rs, rf, ra⟩, hR0⟩ : ∃ R, R = runC q dat := ⟨_, rfl⟩
      rw [← hR0] at b1 b2 b3
      dsimp only at b1 b2 b3
      have HR0 := Lib.hid hR0
      have hz' : ((checkP q).1 != 0) = false := by simp [hz]
      have hdd : ((dat.length : Int) != 64) = false := by simp; omega
      subst b1
      clear hR0 hz h64
      go_enter Try.func10, Try.ntmps10
      go_wp2_with fail
      refine (Head04_c w).mono ?_
      rintro e w1 ⟨rfl, hb1⟩
      go_wp2_with fail
      refine (HK.out w1 hb1).mono ?_
      rintro e w2 ⟨rfl, hb2⟩
      have hb2' := below_t hb1 hb2
      go_wp2_with fail
      refine (HC.out w2 hb2').mono ?_
      rintro e w3 ⟨rfl, hb3⟩
      rw [← HR0.out]
      unfold ret4
      dsimp only
      have hb3' := below_t hb2' hb3
      go_wp2
      go_ret
      exact ⟨rfl, hb3'⟩
    · have hz' : ((checkP q).1 != 0) = false := by simp [hz]
      have hdd : ((dat.length : Int) != 64) = true := by simp; omega
      clear hz h64
      go_enter Try.func10, Try.ntmps10
      go_wp2_with fail
      refine (Head04_c w).mono ?_
      rintro e w1 ⟨rfl, hb1⟩
      go_wp2_with fail
      refine (HK.out w1 hb1).mono ?_
      rintro e w2 ⟨rfl, hb2⟩
      have hb2' := below_t hb1 hb2
      go_wp2
      go_ret
      exact ⟨rfl, hb2'⟩
  · have hz' : ((checkP q).1 != 0) = true := by simpa using hz
    clear hz
    go_enter Try.func10, Try.ntmps10
    go_wp2_with fail
    refine (Head04_c w).mono ?_
    rintro e w1 ⟨rfl, hb1⟩
    go_wp2_with fail
    refine (HK.out w1 hb1).mono ?_
    rintro e w2 ⟨rfl, hb2⟩
    have hb2' := below_t hb1 hb2
    go_wp2
    go_ret
    exact ⟨rfl, hb2'⟩
/-! ### the row of CheckRuns -/
set_option maxRecDepth 100000 in
theorem CheckRuns_lifted (os : Os) (started : os.Started) (H : Type) (enc : TypeId × Value → H) :
    ReturnsInHanded {} Try.checked os 10 .any (Rows.checkRunsSpec.pre6 enc Try.prog Try.f10 Rows.checkRunsRow.domain false) (Rows.checkRunsSpec.post enc Try.prog Try.f10 false true false false) := by
  refine returnsInHanded_of_change_sized (C := Try.checked) ownNone started (by kernel_rfl) Try.func10
    (ChangeSpec.witness6 (enc := enc) (C := Try.checked) false ⟨#[], #[.slice none 0 0, .slice none 0 0], []⟩ 8 (by kernel_rfl) (by kernel_rfl) (by kernel_rfl) (by kernel_rfl)) ?_
  intro W base args ds gs before hval0 hW hcnd hsz0 _
  have hsz : (DataW.weightsEach Try.prog (Try.f10.params.toList ++ Rows.checkRunsSpec.plain.varTypes Try.prog) (ds ++ gs)).all (· ≤ reachBytes) = true := hsz0
  have hval : ∀ (j : Nat) t v, Try.f10.params[j]? = some t → args[j]? = some v → Value.okWide Try.prog W .any base t v := hval0
  have hW' := hW
  obtain ⟨p, q, hA0, hV, rfl, hfz, hnd⟩ := hW
  have hA : DataW.TrodAll enc Try.prog W 0 (fun _ => true) true Try.f10.params.toList args.toList ds p := hA0
  rw [Try.params10] at hA hval hsz
  obtain ⟨v0, vs0, d0, ds0, p0, q0, hargs, rfl, rfl, h0, r0⟩ := trodAll_cons hA
  obtain ⟨v1, vs1, d1, ds1, p1, q1, rfl, rfl, rfl, h1, r1⟩ := trodAll_cons r0
  obtain ⟨rfl, rfl, rfl⟩ := trodAll_nil r1
  obtain rfl : args = #[v0, v1] := by cases args; simp_all
  obtain ⟨rfl, rfl⟩ := trodVars_none hV
  obtain ⟨a0, len0, cap0, rfl⟩ := okWide_slice Try.underlying22 (hval 0 22 v0 rfl rfl)
  have k0 := h0
  have lt0 : ∀ x ∈ p0, x.block < W.heap.size := by obtain ⟨m, hm⟩ := k0; exact DataW.trod_lt m _ _ _ hm
  obtain ⟨xs0, hl0, hr0, ho0, hc0, ha0, hb0⟩ := open_rows (α := I4) (j := 0) I4.cells I4.ok 4 8 Try.underlying22 (by kernel_rfl) (by decide) (fun _ => rfl) (by kernel_rfl) insn_cells hsz rfl rfl h0
  subst hl0
  obtain ⟨a1, len1, cap1, rfl⟩ := okWide_slice Try.underlying23 (hval 1 23 v1 rfl rfl)
  have k1 := h1
  have lt1 : ∀ x ∈ p1, x.block < W.heap.size := by obtain ⟨m, hm⟩ := k1; exact DataW.trod_lt m _ _ _ hm
  obtain ⟨xs1, hl1, hr1, ho1, hc1, ha1, hb1⟩ := open_rows (α := Int) (j := 1) (fun x : Int => [Value.int .u8 x]) (fun x : Int => 0 ≤ x ∧ x < 256) 1 1 Try.underlying23 (by kernel_rfl) (by decide) (fun _ => rfl) (by kernel_rfl) (int_cells Try.underlying5 (fun h => wf_u8 h)) hsz rfl rfl h1
  subst hl1
  clear hA0 hval0 hsz0 hsz
  refine (CheckRuns_w a0 cap0 xs0 a1 cap1 xs1 W ho0 hc0 ha0 hb0 hr0 ho1 hc1 ha1 hb1 (reads_num hr1)).mono fun e W' ⟨he, bel⟩ => ?_
  subst he
  exact ⟨_, rfl, _, _, _, [], _, [], hW', trodAll_mk1 (shut_bool Try.underlying4 _), (trodAll_cons_mk (Below.trod laidOutB_ (by kernel_rfl) (of_decide_eq_true (by kernel_rfl)) k0 bel lt0) (trodAll_cons_mk (Below.trod laidOutB_ (by kernel_rfl) (of_decide_eq_true (by kernel_rfl)) k1 bel lt1) trodAll_mk0)), rfl, bel.frame _, fun h => by cases h⟩
theorem CheckRuns_holds : Rows.CheckRunsSaid :=
  OpenClaim.holds_of_wide 10 Try.f10 rfl rfl rfl rfl rfl rfl rfl ⟨rfl, rfl, rfl, rfl, rfl⟩ rfl rfl rfl rfl rfl (by kernel_rfl) Try.func10 (by kernel_rfl)
    (of_decide_eq_true (by kernel_rfl)) (by unfold Func.isWrapper; first | (rw [if_pos (by decide +kernel)]; kernel_rfl) | (rw [if_neg (by decide +kernel)]; exact ⟨rfl, rfl⟩))
    (fun os started H enc _ => CheckRuns_lifted os started H enc)
#print axioms CheckRuns_holds
end Go.Proofs.Ytpofdjnkpplimaa
