import Derived.Test.YtalhjbncloobpaaMirHead
import Derived.Test.YtalhjbncloobpaaMirRRun
import Derived.Laws.BytesArg
set_option linter.unusedVariables false
set_option linter.unusedSimpArgs false
namespace Go.Proofs.Ytalhjbncloobpaa
open Go.RowKit Go.ChangeShapes Go.WideShapes Go.ChangeAt
open Go.ChangeMaps (open_string shut_string)
/-! MirRuns. -/
theorem bytes_own0 (w : World) : (w.alloc (.cells #[] 5)).ownsRow w.heap.size 5 1 (.slice (some ⟨w.heap.size, 0, none⟩) 0 0) 0 [] := World.ownsRow_lit w #[] 0 (Nat.le_refl _) (by decide) rfl
theorem conv_empty (w : World) (a : Addr) (c : Nat) : (convert 45 9 (.slice (some a) 0 c)).run Try.prog w = .ok (.string (strOfNums [])) w := by
  rw [run_convert_bytes_string w _ _ 5 _ 0 c Try.underlying45 Try.underlying5 Try.underlying9]
  have hl : (loadCells a 0).run Try.prog w = .ok #[] w := by
    have := run_loadCells_list (P := Try.prog) w a [] (fun j v hj => by simp at hj)
    simpa using this
  rw [run_bytesToString w _ 0 c [] (by simpa using hl), foldl_push_bytes]
  simp [strOfNums, ByteArray.empty, ByteArray.emptyWithCapacity]
  rfl
set_option maxRecDepth 100000 in
set_option maxHeartbeats 3200000 in
theorem MirRuns_w (regs : Int) (A : Option Addr) (cap : Nat) (q : List R7) (A1 : Option Addr) (cap1 : Nat) (dat : List Int) (w : World) (hg : inI64 regs) (hq : ∀ x ∈ q, x.ok) (hc : q.length ≤ cap) (hA : A = none → cap = 0) (hB : q.length * 56 ≤ 140737488351232) (hr : Reads w w.heap.size 7 A q.length (cellsR q))
    (hq1 : ∀ x ∈ dat, 0 ≤ x ∧ x < 256) (hc1 : dat.length ≤ cap1) (hA1 : A1 = none → cap1 = 0) (hB1 : dat.length * 1 ≤ 140737488351232) (hr1 : Reads w w.heap.size 1 A1 dat.length (numV .u8 dat)) :
    Calls Try.prog 7 #[.agg #[.int .i64 regs, .slice A q.length cap], .slice A1 dat.length cap1] w fun e w' => e = .returned (.bool true) ∧ Below w.heap.size w w' := by
  have HR := Lib.hid hr
  have HQ := Lib.hid hq
  have HR1 := Lib.hid hr1
  have HQ1 := Lib.hid hq1
  have HA := Lib.hid hA
  have HA1 := Lib.hid hA1
  clear hr hq hA hr1 hq1 hA1 hg
  obtain ⟨i0, HI⟩ : ∃ i0, Hid (Try.prog.info? 5 = some i0 ∧ i0.zero = some (.int .u8 0) ∧ i0.size = 1 ∧ i0.bytes = 1) := by
    obtain ⟨i0, hi, hz0, hz1, hz2⟩ := info_parts infoU8
    exact ⟨i0, Lib.hid ⟨hi, hz0, hz1, hz2⟩⟩
  go_enter Try.func7, Try.ntmps7
  go_wp2_with fail
  refine (Head12_c _).mono ?_
  rintro e w1 ⟨rfl, hb1⟩
  have c0 : w1.cell? ⟨w.heap.size, 0, none⟩ = some (.int .i64 regs) := keepC hb1 (by simp [go_sem])
  have c1 : w1.cell? ⟨w.heap.size, 1, none⟩ = some (.slice A q.length cap) := keepC hb1 (by simp [go_sem])
  have hb1' := below_t (below1 w _) hb1
  clear hb1
  go_wp2_with fail
  refine (LentR_c A regs cap q HA.out hc hB w1 (HR.out.up hb1')).mono ?_
  rintro e w2 ⟨g, cap2, rfl, hL, hb2⟩
  have c0' := keepC hb2 c0
  have c1' := keepC hb2 c1
  have hb2' := below_t hb1' hb2
  have HL := Lib.hid hL
  clear hb2 hL c0 c1 hb1'
  obtain ⟨W2, hW2⟩ : ∃ W2, W2 = w2.alloc (.cells #[.int .i64 regs, .slice (some ⟨g, 0, none⟩) q.length cap2] 25) := ⟨_, rfl⟩
  have hb3 : Below w2.heap.size w2 W2 := by rw [hW2]; exact below1 w2 _
  have d0 : W2.cell? ⟨w2.heap.size, 0, none⟩ = some (.int .i64 regs) := by rw [hW2]; simp [go_sem]
  have d1 : W2.cell? ⟨w2.heap.size, 1, none⟩ = some (.slice (some ⟨g, 0, none⟩) q.length cap2) := by rw [hW2]; simp [go_sem]
  have hown0 := bytes_own0 W2
  have hsz : W2.heap.size = w2.heap.size + 1 := by rw [hW2]; simp
  rw [hsz] at hown0
  have HSZ := Lib.hid hsz
  clear hsz
  have tok : True := trivial
  have hb3' := below_t hb2' hb3
  go_wp2_with (at_builtin; have _t := tok; clear tok; rw [← hW2]; go_must (refine wpList_app rfl (.tmp 20) (.tmp 21) 45 rfl (w2.heap.size + 1) 5 i0 _ 1 1 Try.underlying45 HI.out.1 HI.out.2.1 HI.out.2.2.1 HI.out.2.2.2 rfl (by decide) _ 0 [] rfl hown0 A1 W2.heap.size dat.length cap1 (numV .u8 dat) rfl HA1.out ((HR1.out.up hb3').alloc (Nat.le_refl _) _) (by intro u hu; simp only [numV, List.mem_map] at hu; obtain ⟨x, _, rfl⟩ := hu; rfl) (by simp only [maxLen]; omega) (by omega) (by have := HSZ.out; simp; omega) ?_; intro v1 w4 hown1 hg1 hnil; have hb4 : Below W2.heap.size W2 w4 := below_gr (below1 W2 _) hg1 (by simp) (fun k hk => by have := HSZ.out; have := own_ge hown0 k hk; omega); obtain ⟨g1, cap3, hv1⟩ : ∃ g1 cap3, v1 = .slice (some ⟨g1, 0, none⟩) dat.length cap3 := (by rcases hown1.2 with ⟨h, _⟩ | ⟨g', cap', cur, h, _⟩; exact absurd (hnil.1 h).1 (by intro e; cases e); exact ⟨g', cap', by simpa using h⟩); subst hv1; (simp only [Nat.zero_add, List.nil_append] at hown1); have HD := Lib.hid (Reads.of_own hown1); have e0 := keepC hb4 d0; have e1 := keepC hb4 d1; have f0 := keepC hb4 (keepC hb3 c0'); have f1 := keepC hb4 (keepC hb3 c1'); have hk4 := below_t hb3 hb4; have hb4' := below_t hb3' hb4; clear hnil hg1 hown1 hown0 d0 d1 c0' c1' hb4 hb3 hb3' hW2))
  refine (MRun_c (some ⟨g, 0, none⟩) regs cap2 q (some ⟨g1, 0, none⟩) cap3 dat HQ.out (by omega) HQ1.out (by omega) w4 (HL.out.readsQ.up hk4) HD.out).mono ?_
  rintro e w5 ⟨rfl, hb5⟩
  obtain ⟨⟨rv, rs, rf, ra⟩, hR0⟩ : ∃ R, R = runP regs q dat := ⟨_, rfl⟩
  have HR0 := Lib.hid hR0
  clear hR0
  rw [← HR0.out]
  unfold ret4
  dsimp only
  have e0' := keepC hb5 e0
  have e1' := keepC hb5 e1
  have f0' := keepC hb5 f0
  have f1' := keepC hb5 f1
  have hk5 := below_t hk4 hb5
  have hb5' := below_t hb4' hb5
  have HD5 := Lib.hid (HD.out.up hb5)
  clear e0 e1 f0 f1 hb5 hk4 hb4' HD
  go_wp2_with fail
  refine (rMRun_c A regs cap q A1 cap1 dat HQ.out (by omega) HQ1.out (by omega) w5 (HR.out.up hb5') (HR1.out.up hb5')).mono ?_
  rintro e w6 ⟨rfl, hb6⟩
  rw [← HR0.out]
  unfold ret4
  dsimp only
  have e0 := keepC hb6 e0'
  have e1 := keepC hb6 e1'
  have f0 := keepC hb6 f0'
  have f1 := keepC hb6 f1'
  have hk6 := below_t hk5 hb6
  have hb6' := below_t hb5' hb6
  have HD6 := Lib.hid (HD5.out.up hb6)
  clear e0' e1' f0' f1' hb6 hk5 hb5' HD5
  go_wp2_with fail
  refine (KeptR_c A regs _ g cap2 cap q w6 hB (HL.out.keep hk6) (HR.out.up hb6')).mono ?_
  rintro e w7 ⟨rfl, hb7⟩
  have hb7' := below_t hb6' hb7
  have HD7 := Lib.hid (HD6.out.up hb7)
  have HS7 := Lib.hid (HR1.out.up hb7')
  have t1 : (convert 45 9 (.slice (some ⟨g1, 0, none⟩) dat.length cap3)).run Try.prog w7 = .ok (.string (strOfNums dat)) w7 := by
    refine run_convert_bytes_arg w7 _ 5 Try.underlying45 Try.underlying5 g1 0 dat.length cap3 dat rfl (fun i hi => ?_) _ Try.underlying9
    obtain ⟨b, off, e, _, hc⟩ := HD7.out.num (List.getElem?_eq_getElem hi)
    injection e with e
    injection e with e1 e2
    subst e1 e2
    rw [hc, List.getD_eq_getElem?_getD, List.getElem?_eq_getElem hi]; rfl
  have t2 : (convert 45 9 (.slice A1 dat.length cap1)).run Try.prog w7 = .ok (.string (strOfNums dat)) w7 := by
    by_cases h0 : 0 < dat.length
    · obtain ⟨b, off, e, _, _⟩ := HS7.out.2 h0
      subst e
      refine run_convert_bytes_arg w7 _ 5 Try.underlying45 Try.underlying5 b off dat.length cap1 dat rfl (fun i hi => ?_) _ Try.underlying9
      obtain ⟨b', off', e, _, hc⟩ := HS7.out.num (List.getElem?_eq_getElem hi)
      injection e with e
      injection e with e1 e2
      subst e1 e2
      rw [hc, List.getD_eq_getElem?_getD, List.getElem?_eq_getElem hi]; rfl
    · have hd : dat = [] := List.eq_nil_of_length_eq_zero (by omega)
      subst hd
      cases A1 with
      | none => exact run_convert_bytes_nil w7 _ 5 Try.underlying45 Try.underlying5 _ _ _ Try.underlying9
      | some a => exact conv_empty w7 a cap1
  go_wp2
  go_ret
  exact ⟨rfl, hb7'⟩
/-! ### the row of MirRuns -/
set_option maxRecDepth 100000 in
theorem MirRuns_lifted (os : Os) (started : os.Started) (H : Type) (enc : TypeId × Value → H) :
    ReturnsInHanded {} Try.checked os 7 .any (Rows.mirRunsSpec.pre6 enc Try.prog Try.f7 Rows.mirRunsRow.domain false) (Rows.mirRunsSpec.post enc Try.prog Try.f7 false true false false) := by
  refine returnsInHanded_of_change_sized (C := Try.checked) ownNone started (by kernel_rfl) Try.func7
    (ChangeSpec.witness6 (enc := enc) (C := Try.checked) false ⟨#[], #[.agg #[.int .i64 0, .slice none 0 0], .slice none 0 0], []⟩ 8 (by kernel_rfl) (by kernel_rfl) (by kernel_rfl) (by kernel_rfl)) ?_
  intro W base args ds gs before hval0 hW hcnd hsz0 _
  have hsz : (DataW.weightsEach Try.prog (Try.f7.params.toList ++ Rows.mirRunsSpec.plain.varTypes Try.prog) (ds ++ gs)).all (· ≤ reachBytes) = true := hsz0
  have hval : ∀ (j : Nat) t v, Try.f7.params[j]? = some t → args[j]? = some v → Value.okWide Try.prog W .any base t v := hval0
  have hW' := hW
  obtain ⟨p, q, hA0, hV, rfl, hfz, hnd⟩ := hW
  have hA : DataW.TrodAll enc Try.prog W 0 (fun _ => true) true Try.f7.params.toList args.toList ds p := hA0
  rw [Try.params7] at hA hval hsz
  obtain ⟨v0, vs0, d0, ds0, p0, q0, hargs, rfl, rfl, h0, r0⟩ := trodAll_cons hA
  obtain ⟨v1, vs1, d1, ds1, p1, q1, rfl, rfl, rfl, h1, r1⟩ := trodAll_cons r0
  obtain ⟨rfl, rfl, rfl⟩ := trodAll_nil r1
  obtain rfl : args = #[v0, v1] := by cases args; simp_all
  obtain ⟨rfl, rfl⟩ := trodVars_none hV
  obtain ⟨rg0, a0, cap0, xs0, rfl, hi0, ho0, hc0, ha0, hb0, hr0⟩ := open_mir (j := 0) hsz rfl rfl (hval 0 25 v0 rfl rfl) h0
  have k0 := h0
  have lt0 : ∀ x ∈ p0, x.block < W.heap.size := by obtain ⟨m, hm⟩ := k0; exact DataW.trod_lt m _ _ _ hm
  obtain ⟨a1, len1, cap1, rfl⟩ := okWide_slice Try.underlying45 (hval 1 45 v1 rfl rfl)
  have k1 := h1
  have lt1 : ∀ x ∈ p1, x.block < W.heap.size := by obtain ⟨m, hm⟩ := k1; exact DataW.trod_lt m _ _ _ hm
  obtain ⟨xs1, hl1, hr1, ho1, hc1, ha1, hb1⟩ := open_rows (α := Int) (j := 1) (fun x : Int => [Value.int .u8 x]) (fun x : Int => 0 ≤ x ∧ x < 256) 1 1 Try.underlying45 (by kernel_rfl) (by decide) (fun _ => rfl) (by kernel_rfl) (int_cells Try.underlying5 (fun h => wf_u8 h)) hsz rfl rfl h1
  subst hl1
  clear hA0 hval0 hsz0 hsz
  refine (MirRuns_w rg0 a0 cap0 xs0 a1 cap1 xs1 W hi0 ho0 hc0 ha0 hb0 hr0 ho1 hc1 ha1 hb1 (reads_num hr1)).mono fun e W' ⟨he, bel⟩ => ?_
  subst he
  exact ⟨_, rfl, _, _, _, [], _, [], hW', trodAll_mk1 (shut_bool Try.underlying4 _), (trodAll_cons_mk (Below.trod laidOutB_ (by kernel_rfl) (of_decide_eq_true (by kernel_rfl)) k0 bel lt0) (trodAll_cons_mk (Below.trod laidOutB_ (by kernel_rfl) (of_decide_eq_true (by kernel_rfl)) k1 bel lt1) trodAll_mk0)), rfl, bel.frame _, fun h => by cases h⟩
theorem MirRuns_holds : Rows.MirRunsSaid :=
  OpenClaim.holds_of_wide 7 Try.f7 rfl rfl rfl rfl rfl rfl rfl ⟨rfl, rfl, rfl, rfl, rfl⟩ rfl rfl rfl rfl rfl (by kernel_rfl) Try.func7 (by kernel_rfl)
    (of_decide_eq_true (by kernel_rfl)) (by unfold Func.isWrapper; first | (rw [if_pos (by decide +kernel)]; kernel_rfl) | (rw [if_neg (by decide +kernel)]; exact ⟨rfl, rfl⟩))
    (fun os started H enc _ => MirRuns_lifted os started H enc)
#print axioms MirRuns_holds
end Go.Proofs.Ytalhjbncloobpaa
