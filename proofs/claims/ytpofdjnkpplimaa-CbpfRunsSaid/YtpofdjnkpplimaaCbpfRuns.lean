import Derived.Test.YtpofdjnkpplimaaCbpfHead
import Derived.Test.YtpofdjnkpplimaaOpen
set_option linter.unusedVariables false
set_option linter.unusedSimpArgs false
namespace Go.Proofs.Ytpofdjnkpplimaa
open Go.RowKit Go.ChangeShapes Go.WideShapes Go.ChangeAt
open Go.ChangeMaps (open_string shut_string)
/-! CbpfRuns. -/
set_option maxRecDepth 100000 in
set_option maxHeartbeats 1600000 in
theorem CbpfRuns_w (A : Option Addr) (cap : Nat) (q : List I4) (A1 : Option Addr) (cap1 : Nat) (dat : List Int) (w : World) (hq : ∀ x ∈ q, x.ok) (hc : q.length ≤ cap) (hA : A = none → cap = 0) (hB : q.length * 8 ≤ 140737488351232) (hr : Reads w w.heap.size 4 A q.length (cellsI q))
    (hq1 : ∀ x ∈ dat, 0 ≤ x ∧ x < 256) (hc1 : dat.length ≤ cap1) (hA1 : A1 = none → cap1 = 0) (hB1 : dat.length * 1 ≤ 140737488351232) (hr1 : Reads w w.heap.size 1 A1 dat.length (numV .u8 dat)) :
    Calls Try.prog 3 #[.slice A q.length cap, .slice A1 dat.length cap1] w fun e w' => e = .returned (.bool true) ∧ Below w.heap.size w w' := by
  have HR := Lib.hid hr
  have HQ := Lib.hid hq
  have HR1 := Lib.hid hr1
  have HQ1 := Lib.hid hq1
  have HA := Lib.hid hA
  have HA1 := Lib.hid hA1
  have HSM := Lib.hid (show sameP q q = true by simp [sameP])
  clear hr hq hA hr1 hq1 hA1
  obtain ⟨i0, HI⟩ : ∃ i0, Hid (Try.prog.info? 5 = some i0 ∧ i0.zero = some (.int .u8 0) ∧ i0.size = 1 ∧ i0.bytes = 1) := by
    obtain ⟨i0, hi, hz0, hz1, hz2⟩ := info_parts infoU8
    exact ⟨i0, Lib.hid ⟨hi, hz0, hz1, hz2⟩⟩
  go_enter Try.func3, Try.ntmps3
  go_wp2_with fail
  refine (Head03_c w).mono ?_
  rintro e w1 ⟨rfl, hb1⟩
  go_wp2_with fail
  refine (Lent_c A cap q HA.out hc hB w1 (HR.out.up hb1)).mono ?_
  rintro e W2 ⟨g, cap2, rfl, hL, hb2⟩
  have hb2' := below_t hb1 hb2
  have HL := Lib.hid hL
  have hcap2 : q.length + 1 ≤ cap2 := hL.2
  have hown0 := bytes_own0 W2
  clear hb2 hL
  have tok : True := trivial
  go_wp2_with (at_builtin; have _t := tok; clear tok; refine wpList_app rfl (.tmp 20) (.tmp 21) 23 rfl W2.heap.size 5 i0 _ 1 1 Try.underlying23 HI.out.1 HI.out.2.1 HI.out.2.2.1 HI.out.2.2.2 rfl (by decide) _ 0 [] rfl hown0 A1 W2.heap.size dat.length cap1 (numV .u8 dat) rfl HA1.out ((HR1.out.up hb2').alloc (Nat.le_refl _) _) (by intro u hu; simp only [numV, List.mem_map] at hu; obtain ⟨x, _, rfl⟩ := hu; rfl) (by simp only [maxLen]; omega) (by omega) (by simp) ?_; intro v1 w4 hown1 hg1 hnil; have hb4 : Below W2.heap.size W2 w4 := below_gr (below1 W2 _) hg1 (by simp) (fun k hk => by have := own_ge hown0 k hk; omega); obtain ⟨g1, cap3, hv1⟩ : ∃ g1 cap3, v1 = .slice (some ⟨g1, 0, none⟩) dat.length cap3 := (by rcases hown1.2 with ⟨h, _⟩ | ⟨g', cap', cur, h, _⟩; exact absurd (hnil.1 h).1 (by intro e; cases e); exact ⟨g', cap', by simpa using h⟩); subst hv1; (simp only [Nat.zero_add, List.nil_append] at hown1); have hcap3 := own_cap hown1; have HD := Lib.hid (Reads.of_own hown1); have hb4' := below_t hb2' hb4; clear hnil hg1 hown1 hown0)
  refine (Run_c (some ⟨g, 0, none⟩) cap2 q (some ⟨g1, 0, none⟩) cap3 dat (fun h => by cases h) (by omega) hB (fun h => by cases h) hcap3 hB1 HQ.out HQ1.out w4 (HL.out.readsQ.up hb4) HD.out).mono ?_
  rintro e w5 ⟨rfl, hb5⟩
  obtain ⟨⟨rv, rs, rf, ra⟩, hR0⟩ : ∃ R, R = runC q dat := ⟨_, rfl⟩
  have HR0 := Lib.hid hR0
  clear hR0
  rw [← HR0.out]
  unfold ret4
  dsimp only
  have hk5 := below_t hb4 hb5
  have hb5' := below_t hb4' hb5
  have HD5 := Lib.hid (HD.out.up hb5)
  clear hb5 hb4' HD hb4
  go_wp2_with fail
  refine (rRun_c A cap q A1 cap1 dat (by omega) HQ.out HQ1.out w5 (HR.out.up hb5') (HR1.out.up hb5')).mono ?_
  rintro e w6 ⟨rfl, hb6⟩
  rw [← HR0.out]
  unfold ret4
  dsimp only
  have hk6 := below_t hk5 hb6
  have hb6' := below_t hb5' hb6
  have HD6 := Lib.hid (HD5.out.up hb6)
  clear hb6 hk5 hb5' HD5
  go_wp2_with fail
  refine (Kept_c A _ g cap2 cap q q w6 hB (HL.out.keep hk6) (HR.out.up hb6')).mono ?_
  rw [HSM.out]
  rintro e w7 ⟨rfl, hb7⟩
  have hb7' := below_t hb6' hb7
  have HD7 := Lib.hid (HD6.out.up hb7)
  have HS7 := Lib.hid (HR1.out.up hb7')
  have t1 := conv_reads (cap := cap3) (fun h => by cases h) HD7.out
  have t2 := conv_reads HA1.out HS7.out
  go_wp2
  go_ret
  exact ⟨rfl, hb7'⟩
/-! ### the row of CbpfRuns -/
set_option maxRecDepth 100000 in
theorem CbpfRuns_lifted (os : Os) (started : os.Started) (H : Type) (enc : TypeId × Value → H) :
    ReturnsInHanded {} Try.checked os 3 .any (Rows.cbpfRunsSpec.pre6 enc Try.prog Try.f3 Rows.cbpfRunsRow.domain false) (Rows.cbpfRunsSpec.post enc Try.prog Try.f3 false true false false) := by
  refine returnsInHanded_of_change_sized (C := Try.checked) ownNone started (by kernel_rfl) Try.func3
    (ChangeSpec.witness6 (enc := enc) (C := Try.checked) false ⟨#[], #[.slice none 0 0, .slice none 0 0], []⟩ 8 (by kernel_rfl) (by kernel_rfl) (by kernel_rfl) (by kernel_rfl)) ?_
  intro W base args ds gs before hval0 hW hcnd hsz0 _
  have hsz : (DataW.weightsEach Try.prog (Try.f3.params.toList ++ Rows.cbpfRunsSpec.plain.varTypes Try.prog) (ds ++ gs)).all (· ≤ reachBytes) = true := hsz0
  have hval : ∀ (j : Nat) t v, Try.f3.params[j]? = some t → args[j]? = some v → Value.okWide Try.prog W .any base t v := hval0
  have hW' := hW
  obtain ⟨p, q, hA0, hV, rfl, hfz, hnd⟩ := hW
  have hA : DataW.TrodAll enc Try.prog W 0 (fun _ => true) true Try.f3.params.toList args.toList ds p := hA0
  rw [Try.params3] at hA hval hsz
  obtain ⟨v0, vs0, d0, ds0, p0, q0, hargs, rfl, rfl, h0, r0⟩ := trodAll_cons hA
  obtain ⟨v1, vs1, d1, ds1, p1, q1, rfl, rfl, rfl, h1, r1⟩ := trodAll_cons r0
  obtain ⟨rfl, rfl, rfl⟩ := trodAll_nil r1
  obtain rfl : args = #[v0, v1] := by cases args; simp_all
  obtain ⟨rfl, rfl⟩ := trodVars_none hV
  obtain ⟨a0, len0, cap0, rfl⟩ := okWide_slice Try.underlying22 (hval 0 22 v0 rfl rfl)
  have k0 := h0
  have lt0 : ∀ x ∈ p0, x.block < W.heap.size := by obtain ⟨m, hm⟩ := k0; exact DataW.trod_lt m _ _ _ hm
  obtain ⟨xs0, hl0, hr0, ho0, hc0, ha0, hb0⟩ := open_rows (α := I4) (j := 0) I4.cells I4.ok 4 8 Try.underlying22 (by kernel_rfl) (by decide) (fun _ => rfl) (by kernel_rfl) insn_cells hsz rfl rfl h0
  subst hl0
  obtain ⟨a1, len1, cap1, rfl⟩ := okWide_slice Try.underlying23 (hval 1 23 v1 rfl rfl)
  have k1 := h1
  have lt1 : ∀ x ∈ p1, x.block < W.heap.size := by obtain ⟨m, hm⟩ := k1; exact DataW.trod_lt m _ _ _ hm
  obtain ⟨xs1, hl1, hr1, ho1, hc1, ha1, hb1⟩ := open_rows (α := Int) (j := 1) (fun x : Int => [Value.int .u8 x]) (fun x : Int => 0 ≤ x ∧ x < 256) 1 1 Try.underlying23 (by kernel_rfl) (by decide) (fun _ => rfl) (by kernel_rfl) (int_cells Try.underlying5 (fun h => wf_u8 h)) hsz rfl rfl h1
  subst hl1
  clear hA0 hval0 hsz0 hsz
  refine (CbpfRuns_w a0 cap0 xs0 a1 cap1 xs1 W ho0 hc0 ha0 hb0 hr0 ho1 hc1 ha1 hb1 (reads_num hr1)).mono fun e W' ⟨he, bel⟩ => ?_
  subst he
  exact ⟨_, rfl, _, _, _, [], _, [], hW', trodAll_mk1 (shut_bool Try.underlying4 _), (trodAll_cons_mk (Below.trod laidOutB_ (by kernel_rfl) (of_decide_eq_true (by kernel_rfl)) k0 bel lt0) (trodAll_cons_mk (Below.trod laidOutB_ (by kernel_rfl) (of_decide_eq_true (by kernel_rfl)) k1 bel lt1) trodAll_mk0)), rfl, bel.frame _, fun h => by cases h⟩
theorem CbpfRuns_holds : Rows.CbpfRunsSaid :=
  OpenClaim.holds_of_wide 3 Try.f3 rfl rfl rfl rfl rfl rfl rfl ⟨rfl, rfl, rfl, rfl, rfl⟩ rfl rfl rfl rfl rfl (by kernel_rfl) Try.func3 (by kernel_rfl)
    (of_decide_eq_true (by kernel_rfl)) (by unfold Func.isWrapper; first | (rw [if_pos (by decide +kernel)]; kernel_rfl) | (rw [if_neg (by decide +kernel)]; exact ⟨rfl, rfl⟩))
    (fun os started H enc _ => CbpfRuns_lifted os started H enc)
#print axioms CbpfRuns_holds
end Go.Proofs.Ytpofdjnkpplimaa
