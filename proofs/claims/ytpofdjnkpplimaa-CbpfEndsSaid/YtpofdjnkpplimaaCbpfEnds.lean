import Derived.Test.YtpofdjnkpplimaaCbpfHead
import Derived.Test.YtpofdjnkpplimaaOpen
set_option linter.unusedVariables false
set_option linter.unusedSimpArgs false
namespace Go.Proofs.Ytpofdjnkpplimaa
open Go.RowKit Go.ChangeShapes Go.WideShapes Go.ChangeAt
open Go.ChangeMaps (open_string shut_string)
/-! CbpfEnds. -/
theorem crun_bounds (q : List I4) (d : List Int) : ∀ (n at_ : Nat) (s : CM) (steps : Nat), steps ≤ at_ → at_ ≤ q.length ∨ steps ≤ q.length →
    0 ≤ (crun q d n at_ s steps).2.1 ∧ (crun q d n at_ s steps).2.1 ≤ q.length ∧ 0 ≤ (crun q d n at_ s steps).2.2.2 ∧ ((crun q d n at_ s steps).2.2.1 ≠ 0 ∨ (crun q d n at_ s steps).2.2.2 = 0) := by
  intro n
  induction n with
  | zero => intro at_ s steps h1 h2; simp [crun]
  | succ n ih =>
    intro at_ s steps h1 h2
    rw [crun]
    cases hx : q[at_]? with
    | none => simp only; have hs : steps ≤ q.length := by omega
              refine ⟨by omega, by omega, by omega, .inl (by decide)⟩
    | some i =>
      have hlt := (List.getElem?_eq_some_iff.1 hx).1
      simp only
      cases hs : cstep d i s with
      | go on s' => have h3 := cstep_on hs; exact ih _ _ _ (by omega) (.inr (by omega))
      | done v => simp only; refine ⟨by omega, by omega, by omega, .inr trivial⟩
      | err e => simp only; refine ⟨by omega, by omega, by omega, .inl (cstep_err hs).2⟩
theorem runC_bounds (q : List I4) (d : List Int) : 0 ≤ (runC q d).2.1 ∧ (runC q d).2.1 ≤ q.length ∧ 0 ≤ (runC q d).2.2.2 ∧ ((runC q d).2.2.1 ≠ 0 ∨ (runC q d).2.2.2 = 0) := by
  unfold runC
  split
  · simp
  · exact crun_bounds q d _ 0 _ 0 (Nat.le_refl _) (.inr (Nat.zero_le _))
set_option maxRecDepth 100000 in
set_option maxHeartbeats 800000 in
theorem CbpfEnds_w (A : Option Addr) (cap : Nat) (q : List I4) (A1 : Option Addr) (cap1 : Nat) (dat : List Int) (w : World) (hq : ∀ x ∈ q, x.ok) (hc : q.length ≤ cap) (hA : A = none → cap = 0) (hB : q.length * 8 ≤ 140737488351232) (hr : Reads w w.heap.size 4 A q.length (cellsI q))
    (hq1 : ∀ x ∈ dat, 0 ≤ x ∧ x < 256) (hc1 : dat.length ≤ cap1) (hA1 : A1 = none → cap1 = 0) (hB1 : dat.length * 1 ≤ 140737488351232) (hr1 : Reads w w.heap.size 1 A1 dat.length (numV .u8 dat)) :
    Calls Try.prog 4 #[.slice A q.length cap, .slice A1 dat.length cap1] w fun e w' => e = .returned (.bool true) ∧ Below w.heap.size w w' := by
  have HC := Lib.hid (fun (W : World) (hb : Below w.heap.size w W) => Run_c A cap q A1 cap1 dat hA hc hB hA1 hc1 hB1 hq hq1 W (hr.up hb) (hr1.up hb))
  obtain ⟨b1, b2, b3, b4⟩ := runC_bounds q dat
  obtain ⟨⟨rv, rs, rf, ra⟩, hR0⟩ : ∃ R, R = runC q dat := ⟨_, rfl⟩
  rw [← hR0] at b1 b2 b3 b4
  dsimp only at b1 b2 b3 b4
  have HR0 := Lib.hid hR0
  clear hR0 hr hq hA hr1 hq1 hA1
  go_enter Try.func4, Try.ntmps4
  go_wp2_with fail
  refine (Head03_c w).mono ?_
  rintro e w1 ⟨rfl, hb1⟩
  go_wp2_with fail
  refine (HC.out w1 hb1).mono ?_
  rintro e w2 ⟨rfl, hb2⟩
  rw [← HR0.out]
  unfold ret4
  dsimp only
  have hb2' := below_t hb1 hb2
  rcases b4 with h | h
  · have h' : (rf != 0) = true := by simpa using h
    clear h
    go_wp2
    go_ret
    exact ⟨rfl, hb2'⟩
  · subst h
    by_cases h0 : rf = 0
    · have h' : (rf != 0) = false := by simpa using h0
      clear h0
      go_wp2
      go_ret
      exact ⟨rfl, hb2'⟩
    · have h' : (rf != 0) = true := by simpa using h0
      clear h0
      go_wp2
      go_ret
      exact ⟨rfl, hb2'⟩
/-! ### the row of CbpfEnds -/
set_option maxRecDepth 100000 in
theorem CbpfEnds_lifted (os : Os) (started : os.Started) (H : Type) (enc : TypeId × Value → H) :
    ReturnsInHanded {} Try.checked os 4 .any (Rows.cbpfEndsSpec.pre6 enc Try.prog Try.f4 Rows.cbpfEndsRow.domain false) (Rows.cbpfEndsSpec.post enc Try.prog Try.f4 false true false false) := by
  refine returnsInHanded_of_change_sized (C := Try.checked) ownNone started (by kernel_rfl) Try.func4
    (ChangeSpec.witness6 (enc := enc) (C := Try.checked) false ⟨#[], #[.slice none 0 0, .slice none 0 0], []⟩ 8 (by kernel_rfl) (by kernel_rfl) (by kernel_rfl) (by kernel_rfl)) ?_
  intro W base args ds gs before hval0 hW hcnd hsz0 _
  have hsz : (DataW.weightsEach Try.prog (Try.f4.params.toList ++ Rows.cbpfEndsSpec.plain.varTypes Try.prog) (ds ++ gs)).all (· ≤ reachBytes) = true := hsz0
  have hval : ∀ (j : Nat) t v, Try.f4.params[j]? = some t → args[j]? = some v → Value.okWide Try.prog W .any base t v := hval0
  have hW' := hW
  obtain ⟨p, q, hA0, hV, rfl, hfz, hnd⟩ := hW
  have hA : DataW.TrodAll enc Try.prog W 0 (fun _ => true) true Try.f4.params.toList args.toList ds p := hA0
  rw [Try.params4] at hA hval hsz
  obtain ⟨v0, vs0, d0, ds0, p0, q0, hargs, rfl, rfl, h0, r0⟩ := trodAll_cons hA
  obtain ⟨v1, vs1, d1, ds1, p1, q1, rfl, rfl, rfl, h1, r1⟩ := trodAll_cons r0
  obtain ⟨rfl, rfl, rfl⟩ := trodAll_nil r1
  obtain rfl : args = #[v0, v1] := by cases args; simp_all
  obtain ⟨rfl, rfl⟩ := trodVars_none hV
  obtain ⟨a0, len0, cap0, rfl⟩ := okWide_slice Try.underlying22 (hval 0 22 v0 rfl rfl)
  have k0 := h0
  have lt0 : ∀ x ∈ p0, x.block < W.heap.size := by obtain ⟨m, hm⟩ := k0; exact DataW.trod_lt m _ _ _ hm
  obtain ⟨xs0, hl0, hr0, ho0, hc0, ha0, hb0⟩ := open_rows (α := I4) (j := 0) I4.cells I4.ok 4 8 Try.underlying22 (by kernel_rfl) (by decide) (fun _ => rfl) (by kernel_rfl) insn_cells hsz rfl rfl h0
  subst hl0
  obtain ⟨a1, len1, cap1, rfl⟩ := okWide_slice Try.underlying23 (hval 1 23 v1 rfl rfl)
  have k1 := h1
  have lt1 : ∀ x ∈ p1, x.block < W.heap.size := by obtain ⟨m, hm⟩ := k1; exact DataW.trod_lt m _ _ _ hm
  obtain ⟨xs1, hl1, hr1, ho1, hc1, ha1, hb1⟩ := open_rows (α := Int) (j := 1) (fun x : Int => [Value.int .u8 x]) (fun x : Int => 0 ≤ x ∧ x < 256) 1 1 Try.underlying23 (by kernel_rfl) (by decide) (fun _ => rfl) (by kernel_rfl) (int_cells Try.underlying5 (fun h => wf_u8 h)) hsz rfl rfl h1
  subst hl1
  clear hA0 hval0 hsz0 hsz
  refine (CbpfEnds_w a0 cap0 xs0 a1 cap1 xs1 W ho0 hc0 ha0 hb0 hr0 ho1 hc1 ha1 hb1 (reads_num hr1)).mono fun e W' ⟨he, bel⟩ => ?_
  subst he
  exact ⟨_, rfl, _, _, _, [], _, [], hW', trodAll_mk1 (shut_bool Try.underlying4 _), (trodAll_cons_mk (Below.trod laidOutB_ (by kernel_rfl) (of_decide_eq_true (by kernel_rfl)) k0 bel lt0) (trodAll_cons_mk (Below.trod laidOutB_ (by kernel_rfl) (of_decide_eq_true (by kernel_rfl)) k1 bel lt1) trodAll_mk0)), rfl, bel.frame _, fun h => by cases h⟩
theorem CbpfEnds_holds : Rows.CbpfEndsSaid :=
  OpenClaim.holds_of_wide 4 Try.f4 rfl rfl rfl rfl rfl rfl rfl ⟨rfl, rfl, rfl, rfl, rfl⟩ rfl rfl rfl rfl rfl (by kernel_rfl) Try.func4 (by kernel_rfl)
    (of_decide_eq_true (by kernel_rfl)) (by unfold Func.isWrapper; first | (rw [if_pos (by decide +kernel)]; kernel_rfl) | (rw [if_neg (by decide +kernel)]; exact ⟨rfl, rfl⟩))
    (fun os started H enc _ => CbpfEnds_lifted os started H enc)
#print axioms CbpfEnds_holds
end Go.Proofs.Ytpofdjnkpplimaa
