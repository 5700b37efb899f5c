import Derived.Test.YtalhjbncloobpaaBlindW5
import Derived.Test.YtalhjbncloobpaaBlindHead
import Derived.Deep.RegionLaw
set_option linter.unusedVariables false
set_option linter.unusedSimpArgs false
namespace Go.Proofs.Ytalhjbncloobpaa
open Go.RowKit Go.ChangeShapes Go.WideShapes Go.ChangeAt
open Go.ChangeMaps (open_string shut_string)
/-! BlindNames. -/
def wantR : List R7 := [⟨1, 0, 0, 0, 3979651448, 0, 0⟩, ⟨1, 1, 0, 0, 4278255360, 0, 0⟩, ⟨10, 0, 0, 1, 0, 0, 0⟩, ⟨19, 0, 0, 0, 0, 0, 0⟩]
theorem ex1 : blindP 1 (oneR 305419896) [4278255360] = (2, wantR, 0) := by decide +kernel
theorem ex2 : blindP 1 (oneR 5) [7] = (1, oneR 5, 0) := by decide +kernel
theorem ex3 : blindP 64 (oneR 305419896) [] = (0, [], 211) := by decide +kernel
theorem ex4 : blindP 0 [] [] = (0, [], 1) := by decide +kernel
set_option maxRecDepth 100000 in
set_option maxHeartbeats 3200000 in
theorem BlindNames_w (w : World) :
    Calls Try.prog 3 #[] w fun e w' => e = .returned (.bool true) ∧ Below w.heap.size w w' := by
  have H1 := Lib.hid ex1
  have H2 := Lib.hid ex2
  have H3 := Lib.hid ex3
  have H4 := Lib.hid ex4
  go_enter Try.func3, Try.ntmps3
  go_wp2_with fail
  refine (lives21_c _).mono ?_
  rintro e w1 ⟨rfl, hb1⟩
  go_wp2_with fail
  refine (one_c 305419896 w1).mono ?_
  rintro e w2 ⟨A2, rfl, hA2, hr2, hb2⟩
  have hb2' := below_t hb1 hb2
  have HA2 := Lib.hid hA2
  have HR2 := Lib.hid hr2
  clear hb1 hb2 hA2 hr2
  go_wp2_with fail
  refine (Blind_c A2 1 2 (oneR 305419896) (some ⟨w2.heap.size, 0, none⟩) 1 [4278255360] (oneR_ok _ ⟨by decide, by decide⟩) HA2.out (by decide) (by decide) (by decide) (by decide) _ (HR2.out.up (below1 w2 _)) ((reads_new w2 _ _ 1 1 (numV .u32 [4278255360]) rfl rfl).more (by simp))).mono ?_
  rintro e w3 ⟨v3, rfl, hown3, hb3⟩
  rw [H1.out] at hown3 ⊢
  dsimp only at hown3 ⊢
  obtain ⟨A3, cap3, rfl, -, -, hr3, -⟩ := own_slice hown3
  have HR3 := Lib.hid hr3
  have hb3' := below_t (below_al hb2' _) hb3
  clear hown3 hr3 hb3 hb2' HA2 HR2
  obtain ⟨X3, hX3⟩ : ∃ X3, X3 = w3.alloc (.cells #[.int .i64 2, .slice A3 4 cap3] 25) := ⟨_, rfl⟩
  have k3 : Below w3.heap.size w3 X3 := by rw [hX3]; exact below1 w3 _
  have p0 : X3.cell? ⟨w3.heap.size, 0, none⟩ = some (.int .i64 2) := by rw [hX3]; simp [go_sem]
  have p1 : X3.cell? ⟨w3.heap.size, 1, none⟩ = some (.slice A3 4 cap3) := by rw [hX3]; simp [go_sem]
  have b3 := below_t hb3' k3
  clear hb3'
  go_wp2_with fail
  change Calls _ _ _ (w3.alloc (.cells #[.int .i64 2, .slice A3 4 cap3] 25)) _
  rw [← hX3]
  clear hX3
  refine (one_c 5 X3).mono ?_
  rintro e w4 ⟨A4, rfl, hA4, hr4, hb4⟩
  have HA4 := Lib.hid hA4
  have HR4 := Lib.hid hr4
  have b4 := below_t b3 hb4
  have k4 := below_t k3 hb4
  have p0' := keepC hb4 p0
  have p1' := keepC hb4 p1
  clear hA4 hr4 hb4 b3 k3 p0 p1
  go_wp2_with fail
  refine (Blind_c A4 1 2 (oneR 5) (some ⟨w4.heap.size, 0, none⟩) 1 [7] (oneR_ok _ ⟨by decide, by decide⟩) HA4.out (by decide) (by decide) (by decide) (by decide) _ (HR4.out.up (below1 w4 _)) ((reads_new w4 _ _ 1 1 (numV .u32 [7]) rfl rfl).more (by simp))).mono ?_
  rintro e w5 ⟨v5, rfl, hown5, hb5⟩
  rw [H2.out] at hown5 ⊢
  dsimp only at hown5 ⊢
  obtain ⟨A5, cap5, rfl, -, -, hr5, -⟩ := own_slice hown5
  have HR5 := Lib.hid hr5
  have hb5' := below_t (below1 w4 _) hb5
  have b5 := below_t b4 hb5'
  have k5 := below_t k4 hb5'
  have p0 := keepC hb5' p0'
  have p1 := keepC hb5' p1'
  clear hown5 hr5 hb5 hb5' HA4 HR4 b4 k4 p0' p1'
  obtain ⟨X5, hX5⟩ : ∃ X5, X5 = w5.alloc (.cells #[.int .i64 1, .slice A5 2 cap5] 25) := ⟨_, rfl⟩
  have j5 : Below w5.heap.size w5 X5 := by rw [hX5]; exact below1 w5 _
  have q0 : X5.cell? ⟨w5.heap.size, 0, none⟩ = some (.int .i64 1) := by rw [hX5]; simp [go_sem]
  have q1 : X5.cell? ⟨w5.heap.size, 1, none⟩ = some (.slice A5 2 cap5) := by rw [hX5]; simp [go_sem]
  have b6 := below_t b5 j5
  have k6 := below_t k5 j5
  have p0' := keepC j5 p0
  have p1' := keepC j5 p1
  clear b5 k5 p0 p1
  go_wp2_with fail
  change Calls _ _ _ (w5.alloc (.cells #[.int .i64 1, .slice A5 2 cap5] 25)) _
  rw [← hX5]
  clear hX5
  refine (one_c 305419896 X5).mono ?_
  rintro e w6 ⟨A6, rfl, hA6, hr6, hb6⟩
  have HA6 := Lib.hid hA6
  have HR6 := Lib.hid hr6
  have b7 := below_t b6 hb6
  have k7 := below_t k6 hb6
  have j7 := below_t j5 hb6
  have p0 := keepC hb6 p0'
  have p1 := keepC hb6 p1'
  have q0' := keepC hb6 q0
  have q1' := keepC hb6 q1
  clear hA6 hr6 hb6 b6 k6 j5 p0' p1' q0 q1
  go_wp2_with fail
  refine (Blind_c A6 64 2 (oneR 305419896) none 0 [] (oneR_ok _ ⟨by decide, by decide⟩) HA6.out (by decide) (by decide) (by decide) (by decide) _ (HR6.out.up (below1 w6 _)) Reads.none_).mono ?_
  rintro e w7 ⟨v7, rfl, hown7, hb7⟩
  rw [H3.out] at hown7 ⊢
  dsimp only at hown7 ⊢
  obtain ⟨A7, cap7, rfl, -, -, -, -⟩ := own_slice hown7
  have hb7' := below_t (below1 w6 _) hb7
  have b8 := below_t b7 hb7'
  have k8 := below_t k7 hb7'
  have j8 := below_t j7 hb7'
  have p0' := keepC hb7' p0
  have p1' := keepC hb7' p1
  have q0 := keepC hb7' q0'
  have q1 := keepC hb7' q1'
  clear hown7 hb7 hb7' HA6 HR6 b7 k7 j7 p0 p1 q0' q1'
  go_wp2_with fail
  refine (Blind_c none 0 0 [] none 0 [] (by simp) (fun _ => rfl) (by decide) (by decide) (by decide) (by decide) _ Reads.none_ Reads.none_).mono ?_
  rintro e w8 ⟨v8, rfl, hown8, hb8⟩
  rw [H4.out] at hown8 ⊢
  dsimp only at hown8 ⊢
  obtain ⟨A8, cap8, rfl, -, -, -, -⟩ := own_slice hown8
  have hb8' := below_t (below1 w7 _) hb8
  have b9 := below_t b8 hb8'
  have k9 := below_t k8 hb8'
  have j9 := below_t j8 hb8'
  have p0 := keepC hb8' p0'
  have p1 := keepC hb8' p1'
  have q0' := keepC hb8' q0
  have q1' := keepC hb8' q1
  clear hown8 hb8 hb8' b8 k8 j8 p0' p1' q0 q1
  go_wp2_with fail
  obtain ⟨W9, hW9⟩ : ∃ W9, W9 = ((w8.alloc (.cells #[.int .i64 0, .slice A8 0 cap8] 25)).alloc (.cells (cellsR wantR).toArray 34)).alloc (.cells #[.int .i64 2, .slice (some ⟨w8.heap.size + 1, 0, none⟩) 4 4] 25) := ⟨_, rfl⟩
  have e9 : Below w8.heap.size w8 W9 := by rw [hW9]; exact al_below w8 [_, _, _]
  have n0 : W9.cell? ⟨w8.heap.size + 2, 0, none⟩ = some (.int .i64 2) := by rw [hW9]; exact al_cell w8 [.cells #[.int .i64 0, .slice A8 0 cap8] 25, .cells (cellsR wantR).toArray 34, .cells #[.int .i64 2, .slice (some ⟨w8.heap.size + 1, 0, none⟩) 4 4] 25] 2 rfl 0
  have n1 : W9.cell? ⟨w8.heap.size + 2, 1, none⟩ = some (.slice (some ⟨w8.heap.size + 1, 0, none⟩) 4 4) := by rw [hW9]; exact al_cell w8 [.cells #[.int .i64 0, .slice A8 0 cap8] 25, .cells (cellsR wantR).toArray 34, .cells #[.int .i64 2, .slice (some ⟨w8.heap.size + 1, 0, none⟩) 4 4] 25] 2 rfl 1
  have HRN : Hid (Reads W9 W9.heap.size 7 (some ⟨w8.heap.size + 1, 0, none⟩) 4 (cellsR wantR)) := Lib.hid (by
    rw [hW9]
    have h := rn1 w8 (.cells #[.int .i64 0, .slice A8 0 cap8] 25) (cellsR wantR).toArray 34 7 4 (cellsR wantR) (by simp) rfl
    exact (h.alloc (by simp) _).more (by simp))
  change Calls _ _ _ (((w8.alloc (.cells #[.int .i64 0, .slice A8 0 cap8] 25)).alloc (.cells (cellsR wantR).toArray 34)).alloc (.cells #[.int .i64 2, .slice (some ⟨w8.heap.size + 1, 0, none⟩) 4 4] 25)) _
  rw [← hW9]
  clear hW9
  have u0 := keepC e9 p0
  have u1 := keepC e9 p1
  have v0 := keepC e9 q0'
  have v1 := keepC e9 q1'
  have bb := below_t b9 e9
  have HR3' := Lib.hid (HR3.out.up (below_t k9 e9))
  have HR5' := Lib.hid (HR5.out.up (below_t j9 e9))
  clear p0 p1 q0' q1' b9 k9 j9 e9 HR3 HR5
  refine (Exempt_c 1048575 ⟨by decide, by decide⟩ _).mono ?_
  rintro e w10 ⟨rfl, rfl⟩
  rw [show exemptB 1048575 = true by decide]
  go_wp2_with fail
  refine (Exempt_c 1048576 ⟨by decide, by decide⟩ _).mono ?_
  rintro e w10 ⟨rfl, rfl⟩
  rw [show exemptB 1048576 = false by decide]
  go_wp2_with fail
  refine (Exempt_c 4293918720 ⟨by decide, by decide⟩ _).mono ?_
  rintro e w10 ⟨rfl, rfl⟩
  rw [show exemptB 4293918720 = true by decide]
  go_wp2_with fail
  refine (Exempt_c 4293918719 ⟨by decide, by decide⟩ _).mono ?_
  rintro e w10 ⟨rfl, rfl⟩
  rw [show exemptB 4293918719 = false by decide]
  go_wp2_with fail
  have HK := Lib.hid (show ∀ W, Below W9.heap.size W9 W → W.cell? ⟨w3.heap.size, 0, none⟩ = some (.int .i64 2) ∧ W.cell? ⟨w3.heap.size, 1, none⟩ = some (.slice A3 4 cap3) ∧ W.cell? ⟨w5.heap.size, 0, none⟩ = some (.int .i64 1) ∧ W.cell? ⟨w5.heap.size, 1, none⟩ = some (.slice A5 2 cap5) ∧ W.cell? ⟨w8.heap.size + 2, 0, none⟩ = some (.int .i64 2) ∧ W.cell? ⟨w8.heap.size + 2, 1, none⟩ = some (.slice (some ⟨w8.heap.size + 1, 0, none⟩) 4 4) ∧ Below W9.heap.size W9 W from
    fun W hb => ⟨keepC hb u0, keepC hb u1, keepC hb v0, keepC hb v1, keepC hb n0, keepC hb n1, hb⟩)
  clear u0 u1 v0 v1 n0 n1
  go_region_held3 (fun W => W.cell? ⟨w3.heap.size, 0, none⟩ = some (.int .i64 2) ∧ W.cell? ⟨w3.heap.size, 1, none⟩ = some (.slice A3 4 cap3) ∧ W.cell? ⟨w5.heap.size, 0, none⟩ = some (.int .i64 1) ∧ W.cell? ⟨w5.heap.size, 1, none⟩ = some (.slice A5 2 cap5) ∧ W.cell? ⟨w8.heap.size + 2, 0, none⟩ = some (.int .i64 2) ∧ W.cell? ⟨w8.heap.size + 2, 1, none⟩ = some (.slice (some ⟨w8.heap.size + 1, 0, none⟩) 4 4) ∧ Below W9.heap.size W9 W)
    (first | exact HK.out _ (below_dr (Below.refl _ _)) | exact HK.out _ hbz | exact HK.out _ hby | exact HK.out _ hbx | assumption)
    (first
     | (have _t := hby; go_at_call 19; go_must (refine (rSame_c A5 A9 1 cap5 2 (oneR 5) _ (by decide) (HR5'.out.up hby) HR9.out).mono ?_; rintro e wz ⟨rfl, hbz'⟩; have hbz : Below W9.heap.size W9 wz := below_t hby hbz'; clear hbz'))
     | (go_at_call 19; go_must (refine (rSame_c A3 (some ⟨w8.heap.size + 1, 0, none⟩) 2 cap3 4 wantR _ (by decide) (HR3'.out.up (below_dr (Below.refl _ _))) (HRN.out.up (below_dr (Below.refl _ _)))).mono ?_; rintro e wx ⟨rfl, hbx'⟩; have hbx : Below W9.heap.size W9 wx := below_t (below_dr (Below.refl _ _)) hbx'; clear hbx'))
     | (go_at_call 17; go_must (refine (one_c 5 _).mono ?_; rintro e wy ⟨A9, rfl, hA9, hr9, hby'⟩; have hby : Below W9.heap.size W9 wy := below_t hbx hby'; have HR9 := Lib.hid hr9; clear hby' hA9 hr9)))
  all_goals (
    rename_i hHeld
    clear hHeld
    go_wp2
    go_ret
    exact ⟨rfl, below_t bb hbz⟩)
/-! ### the row of BlindNames -/
set_option maxRecDepth 100000 in
theorem BlindNames_lifted (os : Os) (started : os.Started) (H : Type) (enc : TypeId × Value → H) :
    ReturnsInHanded {} Try.checked os 3 .any (Rows.blindNamesSpec.pre6 enc Try.prog Try.f3 Rows.blindNamesRow.domain false) (Rows.blindNamesSpec.post enc Try.prog Try.f3 false true false false) := by
  refine returnsInHanded_of_change_sized (C := Try.checked) ownNone started (by kernel_rfl) Try.func3
    (ChangeSpec.witness6 (enc := enc) (C := Try.checked) false ⟨#[], #[], []⟩ 8 (by kernel_rfl) (by kernel_rfl) (by kernel_rfl) (by kernel_rfl)) ?_
  intro W base args ds gs before hval0 hW hcnd hsz0 _
  have hsz : (DataW.weightsEach Try.prog (Try.f3.params.toList ++ Rows.blindNamesSpec.plain.varTypes Try.prog) (ds ++ gs)).all (· ≤ reachBytes) = true := hsz0
  have hval : ∀ (j : Nat) t v, Try.f3.params[j]? = some t → args[j]? = some v → Value.okWide Try.prog W .any base t v := hval0
  have hW' := hW
  obtain ⟨p, q, hA0, hV, rfl, hfz, hnd⟩ := hW
  have hA : DataW.TrodAll enc Try.prog W 0 (fun _ => true) true Try.f3.params.toList args.toList ds p := hA0
  rw [Try.params3] at hA hval hsz
  obtain ⟨hargs, rfl, rfl⟩ := trodAll_nil hA
  obtain rfl : args = #[] := by cases args; simp_all
  obtain ⟨rfl, rfl⟩ := trodVars_none hV
  clear hA0 hval0 hsz0 hsz
  refine (BlindNames_w  W ).mono fun e W' ⟨he, bel⟩ => ?_
  subst he
  exact ⟨_, rfl, _, _, _, [], _, [], hW', trodAll_mk1 (shut_bool Try.underlying4 _), trodAll_mk0, rfl, bel.frame _, fun h => by cases h⟩
theorem BlindNames_holds : Rows.BlindNamesSaid :=
  OpenClaim.holds_of_wide 3 Try.f3 rfl rfl rfl rfl rfl rfl rfl ⟨rfl, rfl, rfl, rfl, rfl⟩ rfl rfl rfl rfl rfl (by kernel_rfl) Try.func3 (by kernel_rfl)
    (of_decide_eq_true (by kernel_rfl)) (by unfold Func.isWrapper; first | (rw [if_pos (by decide +kernel)]; kernel_rfl) | (rw [if_neg (by decide +kernel)]; exact ⟨rfl, rfl⟩))
    (fun os started H enc _ => BlindNames_lifted os started H enc)
#print axioms BlindNames_holds
end Go.Proofs.Ytalhjbncloobpaa
