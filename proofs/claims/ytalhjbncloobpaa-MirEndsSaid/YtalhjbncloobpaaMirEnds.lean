import Derived.Test.YtalhjbncloobpaaMirHead
import Derived.Test.YtalhjbncloobpaaMirEndsP
set_option linter.unusedVariables false
set_option linter.unusedSimpArgs false
namespace Go.Proofs.Ytalhjbncloobpaa
open Go.RowKit Go.ChangeShapes Go.WideShapes Go.ChangeAt
open Go.ChangeMaps (open_string shut_string)
/-! MirEnds. -/
set_option maxRecDepth 100000 in
set_option maxHeartbeats 3200000 in
theorem MirEnds_w (regs : Int) (A : Option Addr) (cap : Nat) (q : List R7) (A1 : Option Addr) (cap1 : Nat) (dat : List Int) (w : World) (hg : inI64 regs) (hq : ∀ x ∈ q, x.ok) (hc : q.length ≤ cap) (hA : A = none → cap = 0) (hB : q.length * 56 ≤ 140737488351232) (hr : Reads w w.heap.size 7 A q.length (cellsR q))
    (hq1 : ∀ x ∈ dat, 0 ≤ x ∧ x < 256) (hc1 : dat.length ≤ cap1) (hA1 : A1 = none → cap1 = 0) (hB1 : dat.length * 1 ≤ 140737488351232) (hr1 : Reads w w.heap.size 1 A1 dat.length (numV .u8 dat)) :
    Calls Try.prog 8 #[.agg #[.int .i64 regs, .slice A q.length cap], .slice A1 dat.length cap1] w fun e w' => e = .returned (.bool true) ∧ Below w.heap.size w w' := by
  have HR := Lib.hid hr
  have HQ := Lib.hid hq
  have HR1 := Lib.hid hr1
  have HQ1 := Lib.hid hq1
  clear hr hq hA hr1 hq1 hA1
  obtain ⟨R, hRR⟩ : ∃ R, R = runP regs q dat := ⟨_, rfl⟩
  have HX : Hid ((mcheckP regs q).1 = 0 → dat.length = 64 → EndsWell q R) := Lib.hid (fun h1 h2 => by rw [hRR]; exact runP_ends h1 h2)
  have HRR := Lib.hid hRR
  clear hRR
  obtain ⟨E, hE⟩ : ∃ E, E = (mcheckP regs q).1 := ⟨_, rfl⟩
  have HEE := Lib.hid hE
  clear hE
  go_enter Try.func8, Try.ntmps8
  go_wp2_with fail
  refine (Head12_c _).mono ?_
  rintro e w1 ⟨rfl, hb1⟩
  have c0 : w1.cell? ⟨w.heap.size, 0, none⟩ = some (.int .i64 regs) := keepC hb1 (by simp [go_sem])
  have c1 : w1.cell? ⟨w.heap.size, 1, none⟩ = some (.slice A q.length cap) := keepC hb1 (by simp [go_sem])
  have hb1' := below_t (below1 w _) hb1
  clear hb1
  go_wp2_with fail
  refine (MCheck_c A regs cap q HQ.out (by omega) _ (HR.out.up hb1')).mono ?_
  rintro e w2 ⟨rfl, hb2⟩
  rw [← HEE.out]
  have c0' := keepC hb2 c0
  have c1' := keepC hb2 c1
  have hb2' := below_t hb1' hb2
  clear hb2 c0 c1 hb1'
  by_cases hz : E = 0
  · have t1 : (E != 0) = false := by simpa using hz
    by_cases hd : dat.length = 64
    · have t2 : ((dat.length : Int) != 64) = false := by simp [hd]
      have HW := Lib.hid (HX.out (HEE.out.symm.trans hz) hd)
      clear hz hd
      go_wp2_with fail
      refine (MRun_c A regs cap q A1 cap1 dat HQ.out (by omega) HQ1.out (by omega) _ (HR.out.up hb2') (HR1.out.up hb2')).mono ?_
      rintro e w3 ⟨rfl, hb3⟩
      have c0 := keepC hb3 c0'
      have c1 := keepC hb3 c1'
      have hb3' := below_t hb2' hb3
      clear hb3 c0' c1' hb2'
      rw [← HRR.out]
      clear HRR HX
      obtain ⟨v, s, f, a⟩ := R
      unfold ret4
      have HV := HW.out
      unfold EndsWell at HV
      dsimp only at HV ⊢
      rcases HV with ⟨h8, i, x, ha, hx, ho, hs1, hs2⟩ | ⟨h0, h1, h2, h3⟩
      · skip
        subst h8 ha
        have hi := (List.getElem?_eq_some_iff.1 hx).1
        obtain ⟨b, off, rfl, hb, i0, _⟩ := (HR.out.up hb3').ir hx
        rw [ho] at i0
        have hi' : (i : Int) < q.length := by omega
        have g1 : decide ((0 : Int) ≤ i) = true := by simp
        have g2 : decide ((i : Int) < q.length) = true := by simp; omega
        have g3 : decide (s ≤ i) = true := by simp; omega
        clear hx ho hs1 hs2 hi
        go_wp2
        go_ret
        exact ⟨rfl, hb3'⟩
      · skip
        subst h0 h3
        have g1 : decide (1 ≤ s) = true := by simp; omega
        have g2 : decide (s ≤ q.length) = true := by simp; omega
        clear h1 h2
        go_wp2
        go_ret
        exact ⟨rfl, hb3'⟩
    · have t2 : ((dat.length : Int) != 64) = true := by simp; omega
      clear hz hd
      go_wp2
      go_ret
      exact ⟨rfl, hb2'⟩
  · have t1 : (E != 0) = true := by simpa using hz
    clear hz
    go_wp2
    go_ret
    exact ⟨rfl, hb2'⟩
/-! ### the row of MirEnds -/
set_option maxRecDepth 100000 in
theorem MirEnds_lifted (os : Os) (started : os.Started) (H : Type) (enc : TypeId × Value → H) :
    ReturnsInHanded {} Try.checked os 8 .any (Rows.mirEndsSpec.pre6 enc Try.prog Try.f8 Rows.mirEndsRow.domain false) (Rows.mirEndsSpec.post enc Try.prog Try.f8 false true false false) := by
  refine returnsInHanded_of_change_sized (C := Try.checked) ownNone started (by kernel_rfl) Try.func8
    (ChangeSpec.witness6 (enc := enc) (C := Try.checked) false ⟨#[], #[.agg #[.int .i64 0, .slice none 0 0], .slice none 0 0], []⟩ 8 (by kernel_rfl) (by kernel_rfl) (by kernel_rfl) (by kernel_rfl)) ?_
  intro W base args ds gs before hval0 hW hcnd hsz0 _
  have hsz : (DataW.weightsEach Try.prog (Try.f8.params.toList ++ Rows.mirEndsSpec.plain.varTypes Try.prog) (ds ++ gs)).all (· ≤ reachBytes) = true := hsz0
  have hval : ∀ (j : Nat) t v, Try.f8.params[j]? = some t → args[j]? = some v → Value.okWide Try.prog W .any base t v := hval0
  have hW' := hW
  obtain ⟨p, q, hA0, hV, rfl, hfz, hnd⟩ := hW
  have hA : DataW.TrodAll enc Try.prog W 0 (fun _ => true) true Try.f8.params.toList args.toList ds p := hA0
  rw [Try.params8] at hA hval hsz
  obtain ⟨v0, vs0, d0, ds0, p0, q0, hargs, rfl, rfl, h0, r0⟩ := trodAll_cons hA
  obtain ⟨v1, vs1, d1, ds1, p1, q1, rfl, rfl, rfl, h1, r1⟩ := trodAll_cons r0
  obtain ⟨rfl, rfl, rfl⟩ := trodAll_nil r1
  obtain rfl : args = #[v0, v1] := by cases args; simp_all
  obtain ⟨rfl, rfl⟩ := trodVars_none hV
  obtain ⟨rg0, a0, cap0, xs0, rfl, hi0, ho0, hc0, ha0, hb0, hr0⟩ := open_mir (j := 0) hsz rfl rfl (hval 0 25 v0 rfl rfl) h0
  have k0 := h0
  have lt0 : ∀ x ∈ p0, x.block < W.heap.size := by obtain ⟨m, hm⟩ := k0; exact DataW.trod_lt m _ _ _ hm
  obtain ⟨a1, len1, cap1, rfl⟩ := okWide_slice Try.underlying45 (hval 1 45 v1 rfl rfl)
  have k1 := h1
  have lt1 : ∀ x ∈ p1, x.block < W.heap.size := by obtain ⟨m, hm⟩ := k1; exact DataW.trod_lt m _ _ _ hm
  obtain ⟨xs1, hl1, hr1, ho1, hc1, ha1, hb1⟩ := open_rows (α := Int) (j := 1) (fun x : Int => [Value.int .u8 x]) (fun x : Int => 0 ≤ x ∧ x < 256) 1 1 Try.underlying45 (by kernel_rfl) (by decide) (fun _ => rfl) (by kernel_rfl) (int_cells Try.underlying5 (fun h => wf_u8 h)) hsz rfl rfl h1
  subst hl1
  clear hA0 hval0 hsz0 hsz
  refine (MirEnds_w rg0 a0 cap0 xs0 a1 cap1 xs1 W hi0 ho0 hc0 ha0 hb0 hr0 ho1 hc1 ha1 hb1 (reads_num hr1)).mono fun e W' ⟨he, bel⟩ => ?_
  subst he
  exact ⟨_, rfl, _, _, _, [], _, [], hW', trodAll_mk1 (shut_bool Try.underlying4 _), (trodAll_cons_mk (Below.trod laidOutB_ (by kernel_rfl) (of_decide_eq_true (by kernel_rfl)) k0 bel lt0) (trodAll_cons_mk (Below.trod laidOutB_ (by kernel_rfl) (of_decide_eq_true (by kernel_rfl)) k1 bel lt1) trodAll_mk0)), rfl, bel.frame _, fun h => by cases h⟩
theorem MirEnds_holds : Rows.MirEndsSaid :=
  OpenClaim.holds_of_wide 8 Try.f8 rfl rfl rfl rfl rfl rfl rfl ⟨rfl, rfl, rfl, rfl, rfl⟩ rfl rfl rfl rfl rfl (by kernel_rfl) Try.func8 (by kernel_rfl)
    (of_decide_eq_true (by kernel_rfl)) (by unfold Func.isWrapper; first | (rw [if_pos (by decide +kernel)]; kernel_rfl) | (rw [if_neg (by decide +kernel)]; exact ⟨rfl, rfl⟩))
    (fun os started H enc _ => MirEnds_lifted os started H enc)
#print axioms MirEnds_holds
end Go.Proofs.Ytalhjbncloobpaa
