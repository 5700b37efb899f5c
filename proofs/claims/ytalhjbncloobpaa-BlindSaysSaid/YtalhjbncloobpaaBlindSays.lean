import Derived.Test.YtalhjbncloobpaaBlindW5
import Derived.Test.YtalhjbncloobpaaBlindHead
import Derived.Test.YtalhjbncloobpaaMirRRun
set_option linter.unusedVariables false
set_option linter.unusedSimpArgs false
namespace Go.Proofs.Ytalhjbncloobpaa
open Go.RowKit Go.ChangeShapes Go.WideShapes Go.ChangeAt
open Go.ChangeMaps (open_string shut_string)
/-! BlindSays. -/
theorem blindP_bad {regs : Int} {q : List R7} {ws : List Int} (h : (blindP regs q ws).2.2 ≠ 0) : (blindP regs q ws).2.1 = [] := by
  unfold blindP at h ⊢
  split at h
  · next h1 => rw [if_pos h1]
  · next h1 =>
    rw [if_neg h1]
    split at h
    · simp at h
    · next h2 =>
      rw [if_neg h2]
      split at h
      · next h3 => rw [if_pos h3]
      · next h3 =>
        rw [if_neg h3]
        split at h
        · next h4 => rw [if_pos h4]
        · simp at h
theorem blindP_ok {regs : Int} {q : List R7} {ws : List Int} (hq : ∀ x ∈ q, x.ok) (hw : ∀ x ∈ ws, u32ok x) : ∀ x ∈ (blindP regs q ws).2.1, x.ok := by
  unfold blindP
  split
  · intro x hx; simp at hx
  · next h1 =>
    split
    · exact hq
    · split
      · intro x hx; simp at hx
      · split
        · intro x hx; simp at hx
        · exact blindL_ok (by simpa using h1) hq hw _ (Nat.le_refl _)
set_option maxRecDepth 100000 in
set_option maxHeartbeats 3200000 in
theorem BlindSays_w (regs : Int) (A : Option Addr) (cap : Nat) (q : List R7) (A1 : Option Addr) (cap1 : Nat) (ws : List Int) (A2 : Option Addr) (cap2 : Nat) (dat : List Int) (w : World) (hg : inI64 regs) (hq : ∀ x ∈ q, x.ok) (hc : q.length ≤ cap) (hA : A = none → cap = 0) (hB : q.length * 56 ≤ 140737488351232) (hr : Reads w w.heap.size 7 A q.length (cellsR q))
    (hq1 : ∀ x ∈ ws, 0 ≤ x ∧ x < 4294967296) (hc1 : ws.length ≤ cap1) (hA1 : A1 = none → cap1 = 0) (hB1 : ws.length * 4 ≤ 140737488351232) (hr1 : Reads w w.heap.size 1 A1 ws.length (numV .u32 ws))
    (hq2 : ∀ x ∈ dat, 0 ≤ x ∧ x < 256) (hc2 : dat.length ≤ cap2) (hA2 : A2 = none → cap2 = 0) (hB2 : dat.length * 1 ≤ 140737488351232) (hr2 : Reads w w.heap.size 1 A2 dat.length (numV .u8 dat)) :
    Calls Try.prog 11 #[.agg #[.int .i64 regs, .slice A q.length cap], .slice A1 ws.length cap1, .slice A2 dat.length cap2] w fun e w' => e = .returned (.bool true) ∧ Below w.heap.size w w' := by
  have HR := Lib.hid hr
  have HQ := Lib.hid hq
  have HR1 := Lib.hid hr1
  have HR2 := Lib.hid hr2
  have HQ1 := Lib.hid hq1
  have HQ2 := Lib.hid hq2
  have HA := Lib.hid hA
  obtain ⟨⟨R, L, E⟩, hP⟩ : ∃ P, P = blindP regs q ws := ⟨_, rfl⟩
  have HP := Lib.hid hP
  have hLok : ∀ x ∈ L, x.ok := by have := blindP_ok (regs := regs) hq hq1; rw [← hP] at this; exact this
  have HLOK := Lib.hid hLok
  have hbad : E ≠ 0 → L = [] := by intro h; have := blindP_bad (regs := regs) (q := q) (ws := ws) (by rw [← hP]; exact h); rw [← hP] at this; exact this
  have HSAY : Hid (E = 0 → (runP regs q dat).1 = (runP R L dat).1 ∧ (runP regs q dat).2.2.1 = (runP R L dat).2.2.1 ∧ mcheckP R L = (0, 0)) := Lib.hid (by
    intro h
    have := blindP_says (regs := regs) (d := dat) hq hq1 (by rw [← hP]; exact h)
    rw [← hP] at this
    exact this)
  clear hr hq hA hr1 hq1 hA1 hr2 hq2 hA2 hg hP hLok
  go_enter Try.func11, Try.ntmps11
  go_wp2_with fail
  refine (lives21_c _).mono ?_
  rintro e w1 ⟨rfl, hb1⟩
  have c0 : w1.cell? ⟨w.heap.size, 0, none⟩ = some (.int .i64 regs) := keepC hb1 (by simp [go_sem])
  have c1 : w1.cell? ⟨w.heap.size, 1, none⟩ = some (.slice A q.length cap) := keepC hb1 (by simp [go_sem])
  have hb1' := below_t (below1 w _) hb1
  clear hb1
  go_wp2_with fail
  refine (Blind_c A regs cap q A1 cap1 ws HQ.out HA.out hc hB hc1 hB1 w1 (HR.out.up hb1') (HR1.out.up hb1')).mono ?_
  rintro e w2 ⟨v, rfl, hown, hb2⟩
  rw [← HP.out] at hown ⊢
  dsimp only at hown ⊢
  obtain ⟨Av, capv, rfl, hcv, hAv, hrv, -⟩ := own_slice hown
  have HRV := Lib.hid hrv
  have c0' := keepC hb2 c0
  have c1' := keepC hb2 c1
  have hb2' := below_t hb1' hb2
  clear hb2 hown hrv c0 c1 hb1'
  by_cases hE : E = 0
  · have t1 : (E != 0) = false := by simpa using hE
    obtain ⟨y1, y2, y3⟩ := HSAY.out hE
    have hL := (mcheckP_zero (by rw [y3])).2.2.2.1
    have HY := Lib.hid (show (mcheckP R L) = (0, 0) from y3)
    have HY1 := Lib.hid y1
    have HY2 := Lib.hid y2
    clear hE y1 y2 y3 hbad
    obtain ⟨W2, hW2⟩ : ∃ W2, W2 = w2.alloc (.cells #[.int .i64 R, .slice Av L.length capv] 25) := ⟨_, rfl⟩
    have hb3 : Below w2.heap.size w2 W2 := by rw [hW2]; exact below1 w2 _
    have d0 : W2.cell? ⟨w2.heap.size, 0, none⟩ = some (.int .i64 R) := by rw [hW2]; simp [go_sem]
    have d1 : W2.cell? ⟨w2.heap.size, 1, none⟩ = some (.slice Av L.length capv) := by rw [hW2]; simp [go_sem]
    have f0 := keepC hb3 c0'
    have f1 := keepC hb3 c1'
    have hb3' := below_t hb2' hb3
    go_wp2_with fail
    rw [← hW2]
    clear hW2 c0' c1'
    refine (MCheck_c Av R capv L HLOK.out (by omega) W2 (HRV.out.up hb3)).mono ?_
    rintro e w4 ⟨rfl, hb4⟩
    rw [HY.out]
    dsimp only
    have d0' := keepC hb4 d0
    have d1' := keepC hb4 d1
    have f0' := keepC hb4 f0
    have f1' := keepC hb4 f1
    have hk4 := below_t hb3 hb4
    have hb4' := below_t hb3' hb4
    clear d0 d1 f0 f1 hb3 hb3' hb4
    go_wp2_with fail
    refine (MRun_c A regs cap q A2 cap2 dat HQ.out (by omega) HQ2.out (by omega) w4 (HR.out.up hb4') (HR2.out.up hb4')).mono ?_
    rintro e w5 ⟨rfl, hb5⟩
    obtain ⟨⟨rv, rs, rf, ra⟩, hR0⟩ : ∃ R, R = runP regs q dat := ⟨_, rfl⟩
    have h1 := HY1.out
    have h2 := HY2.out
    rw [← hR0] at h1 h2 ⊢
    unfold ret4
    dsimp only at h1 h2 ⊢
    have d0 := keepC hb5 d0'
    have d1 := keepC hb5 d1'
    have f0 := keepC hb5 f0'
    have f1 := keepC hb5 f1'
    have hk5 := below_t hk4 hb5
    have hb5' := below_t hb4' hb5
    clear d0' d1' f0' f1' hk4 hb4' hb5 hR0 HY1 HY2
    obtain ⟨⟨rv', rs', rf', ra'⟩, hR1⟩ : ∃ X, X = runP R L dat := ⟨_, rfl⟩
    rw [← hR1] at h1 h2
    dsimp only at h1 h2
    subst h1 h2
    have HR1' := Lib.hid hR1
    clear hR1
    go_wp2_with fail
    refine (MRun_c Av R capv L A2 cap2 dat HLOK.out (by omega) HQ2.out (by omega) w5 (HRV.out.up hk5) (HR2.out.up hb5')).mono ?_
    rintro e w6 ⟨rfl, hb6⟩
    rw [← HR1'.out]
    unfold ret4
    dsimp only
    have d0' := keepC hb6 d0
    have d1' := keepC hb6 d1
    have hk6 := below_t hk5 hb6
    have hb6' := below_t hb5' hb6
    clear d0 d1 f0 f1 hk5 hb5' hb6
    go_wp2_with fail
    refine (rMRun_c Av R capv L A2 cap2 dat HLOK.out (by omega) HQ2.out (by omega) w6 (HRV.out.up hk6) (HR2.out.up hb6')).mono ?_
    rintro e w7 ⟨rfl, hb7⟩
    rw [← HR1'.out]
    unfold ret4
    dsimp only
    have hb7' := below_t hb6' hb7
    clear d0' d1' hk6 hb6' hb7
    go_wp2
    go_ret
    exact ⟨rfl, hb7'⟩
  · have t1 : (E != 0) = true := by simpa using hE
    have hLn := hbad hE
    subst hLn
    clear hE hbad
    go_wp2
    go_ret
    exact ⟨rfl, below_al hb2' _⟩
/-! ### the row of BlindSays -/
set_option maxRecDepth 100000 in
theorem BlindSays_lifted (os : Os) (started : os.Started) (H : Type) (enc : TypeId × Value → H) :
    ReturnsInHanded {} Try.checked os 11 .any (Rows.blindSaysSpec.pre6 enc Try.prog Try.f11 Rows.blindSaysRow.domain false) (Rows.blindSaysSpec.post enc Try.prog Try.f11 false true false false) := by
  refine returnsInHanded_of_change_sized (C := Try.checked) ownNone started (by kernel_rfl) Try.func11
    (ChangeSpec.witness6 (enc := enc) (C := Try.checked) false ⟨#[], #[.agg #[.int .i64 0, .slice none 0 0], .slice none 0 0, .slice none 0 0], []⟩ 8 (by kernel_rfl) (by kernel_rfl) (by kernel_rfl) (by kernel_rfl)) ?_
  intro W base args ds gs before hval0 hW hcnd hsz0 _
  have hsz : (DataW.weightsEach Try.prog (Try.f11.params.toList ++ Rows.blindSaysSpec.plain.varTypes Try.prog) (ds ++ gs)).all (· ≤ reachBytes) = true := hsz0
  have hval : ∀ (j : Nat) t v, Try.f11.params[j]? = some t → args[j]? = some v → Value.okWide Try.prog W .any base t v := hval0
  have hW' := hW
  obtain ⟨p, q, hA0, hV, rfl, hfz, hnd⟩ := hW
  have hA : DataW.TrodAll enc Try.prog W 0 (fun _ => true) true Try.f11.params.toList args.toList ds p := hA0
  rw [Try.params11] at hA hval hsz
  obtain ⟨v0, vs0, d0, ds0, p0, q0, hargs, rfl, rfl, h0, r0⟩ := trodAll_cons hA
  obtain ⟨v1, vs1, d1, ds1, p1, q1, rfl, rfl, rfl, h1, r1⟩ := trodAll_cons r0
  obtain ⟨v2, vs2, d2, ds2, p2, q2, rfl, rfl, rfl, h2, r2⟩ := trodAll_cons r1
  obtain ⟨rfl, rfl, rfl⟩ := trodAll_nil r2
  obtain rfl : args = #[v0, v1, v2] := by cases args; simp_all
  obtain ⟨rfl, rfl⟩ := trodVars_none hV
  obtain ⟨rg0, a0, cap0, xs0, rfl, hi0, ho0, hc0, ha0, hb0, hr0⟩ := open_mir (j := 0) hsz rfl rfl (hval 0 25 v0 rfl rfl) h0
  have k0 := h0
  have lt0 : ∀ x ∈ p0, x.block < W.heap.size := by obtain ⟨m, hm⟩ := k0; exact DataW.trod_lt m _ _ _ hm
  obtain ⟨a1, len1, cap1, rfl⟩ := okWide_slice Try.underlying31 (hval 1 31 v1 rfl rfl)
  have k1 := h1
  have lt1 : ∀ x ∈ p1, x.block < W.heap.size := by obtain ⟨m, hm⟩ := k1; exact DataW.trod_lt m _ _ _ hm
  obtain ⟨xs1, hl1, hr1, ho1, hc1, ha1, hb1⟩ := open_rows (α := Int) (j := 1) (fun x : Int => [Value.int .u32 x]) (fun x : Int => 0 ≤ x ∧ x < 4294967296) 1 4 Try.underlying31 (by kernel_rfl) (by decide) (fun _ => rfl) (by kernel_rfl) (int_cells Try.underlying30 (fun h => wf_u32 h)) hsz rfl rfl h1
  subst hl1
  obtain ⟨a2, len2, cap2, rfl⟩ := okWide_slice Try.underlying45 (hval 2 45 v2 rfl rfl)
  have k2 := h2
  have lt2 : ∀ x ∈ p2, x.block < W.heap.size := by obtain ⟨m, hm⟩ := k2; exact DataW.trod_lt m _ _ _ hm
  obtain ⟨xs2, hl2, hr2, ho2, hc2, ha2, hb2⟩ := open_rows (α := Int) (j := 2) (fun x : Int => [Value.int .u8 x]) (fun x : Int => 0 ≤ x ∧ x < 256) 1 1 Try.underlying45 (by kernel_rfl) (by decide) (fun _ => rfl) (by kernel_rfl) (int_cells Try.underlying5 (fun h => wf_u8 h)) hsz rfl rfl h2
  subst hl2
  clear hA0 hval0 hsz0 hsz
  refine (BlindSays_w rg0 a0 cap0 xs0 a1 cap1 xs1 a2 cap2 xs2 W hi0 ho0 hc0 ha0 hb0 hr0 ho1 hc1 ha1 hb1 (reads_num hr1) ho2 hc2 ha2 hb2 (reads_num hr2)).mono fun e W' ⟨he, bel⟩ => ?_
  subst he
  exact ⟨_, rfl, _, _, _, [], _, [], hW', trodAll_mk1 (shut_bool Try.underlying4 _), (trodAll_cons_mk (Below.trod laidOutB_ (by kernel_rfl) (of_decide_eq_true (by kernel_rfl)) k0 bel lt0) (trodAll_cons_mk (Below.trod laidOutB_ (by kernel_rfl) (of_decide_eq_true (by kernel_rfl)) k1 bel lt1) (trodAll_cons_mk (Below.trod laidOutB_ (by kernel_rfl) (of_decide_eq_true (by kernel_rfl)) k2 bel lt2) trodAll_mk0))), rfl, bel.frame _, fun h => by cases h⟩
theorem BlindSays_holds : Rows.BlindSaysSaid :=
  OpenClaim.holds_of_wide 11 Try.f11 rfl rfl rfl rfl rfl rfl rfl ⟨rfl, rfl, rfl, rfl, rfl⟩ rfl rfl rfl rfl rfl (by kernel_rfl) Try.func11 (by kernel_rfl)
    (of_decide_eq_true (by kernel_rfl)) (by unfold Func.isWrapper; first | (rw [if_pos (by decide +kernel)]; kernel_rfl) | (rw [if_neg (by decide +kernel)]; exact ⟨rfl, rfl⟩))
    (fun os started H enc _ => BlindSays_lifted os started H enc)
#print axioms BlindSays_holds
end Go.Proofs.Ytalhjbncloobpaa
