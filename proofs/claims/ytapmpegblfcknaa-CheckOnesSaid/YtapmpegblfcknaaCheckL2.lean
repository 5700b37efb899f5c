import Derived.Test.YtapmpegblfcknaaCheckL1
import Derived.Deep.RegionHeld3
import Derived.Deep.DeepMust
set_option linter.unusedVariables false
set_option linter.unusedSimpArgs false
namespace Go.Proofs.Ytapmpegblfcknaa
open Go.RowKit Go.ChangeShapes Go.WideShapes Go.ChangeAt
open Go.ChangeMaps (open_string shut_string)
/-! CheckOnes. -/
theorem keepS {w w1 w2 : World} {a : Addr} {v : Value} (h : w1.cell? a = some v ∧ Below w.heap.size w w1) (hb : Below w1.heap.size w1 w2) : w2.cell? a = some v ∧ Below w.heap.size w w2 :=
  ⟨(hb.cell (World.block_lt_of_cell? _ _ h.1)).trans h.1, below_t h.2 hb⟩
set_option maxHeartbeats 400000 in
theorem CheckOnes_w (A : Option Addr) (cap : Nat) (q : List I4) (A1 : Option Addr) (cap1 : Nat) (pl : List Int) (A2 : Option Addr) (cap2 : Nat) (cd : List Int) (w : World)
    (hq : ∀ x ∈ q, x.ok) (hc : q.length ≤ cap) (hA : A = none → cap = 0) (hB : q.length * 8 ≤ 140737488351232) (hr : Reads w w.heap.size 4 A q.length (cellsI q))
    (hq1 : ∀ x ∈ pl, -9223372036854775808 ≤ x ∧ x ≤ 9223372036854775807) (hc1 : pl.length ≤ cap1) (hA1 : A1 = none → cap1 = 0) (hB1 : pl.length * 8 ≤ 140737488351232) (hr1 : Reads w w.heap.size 1 A1 pl.length (numV .i64 pl))
    (hq2 : ∀ x ∈ cd, 0 ≤ x ∧ x < 65536) (hc2 : cd.length ≤ cap2) (hA2 : A2 = none → cap2 = 0) (hB2 : cd.length * 2 ≤ 140737488351232) (hr2 : Reads w w.heap.size 1 A2 cd.length (numV .u16 cd)) :
    Calls Try.prog 7 #[.slice A q.length cap, .slice A1 pl.length cap1, .slice A2 cd.length cap2] w fun e w' => e = .returned (.bool true) ∧ Below w.heap.size w w' := by
  have HR := Lib.hid hr
  have HR1 := Lib.hid hr1
  have HR2 := Lib.hid hr2
  have HQ := Lib.hid hq
  have HQ1 := Lib.hid hq1
  have HQ2 := Lib.hid hq2
  clear hr hr1 hr2 hq hq1 hq2 hA hA1 hA2
  go_enter Try.func7, Try.ntmps7
  go_wp2_with fail
  refine (Head04_c w).mono ?_
  rintro e w1 ⟨rfl, hb1⟩
  go_wp2_with fail
  go_loopw [8] (fun i wr => ∃ n : Nat, n ≤ pl.length ∧ i = .int .i64 n ∧ Below w.heap.size w wr) (fun i _ => pl.length - (intOf i).toNat)
  case atStart => exact ⟨0, by omega, rfl, hb1⟩
  case round =>
    obtain ⟨n, hn, rfl, hb⟩ := hrel
    by_cases h6 : n < pl.length
    · obtain ⟨x, hx⟩ : ∃ x, pl[n]? = some x := ⟨_, List.getElem?_eq_getElem h6⟩
      obtain ⟨b, off, rfl, hbl, i0⟩ := (HR1.out.up hb).num hx
      have hxb := HQ1.out x (List.mem_of_getElem? hx)
      have h6' : (n : Int) < pl.length := by omega
      clear hx
      go_wp2_with fail
      have h7 : (n : Int) < pl.length := h6'
      go_region_held3 (fun w' => w'.cell? ⟨b, off + n, none⟩ = some (.int .i64 x) ∧ Below w.heap.size w w') (first | exact ⟨i0, below_dr hb⟩ | exact keepS (by assumption) (by assumption) | exact keepS ⟨by assumption, by assumption⟩ (by assumption))
        (first | (go_at_call 19; go_must (refine (One_c A cap x hxb q HQ.out (by omega) _ (HR.out.up (by first | assumption | exact And.right (by assumption)))).mono ?_; rintro e w2 ⟨rfl, hb2⟩)) | (go_at_call 20; go_must (refine (rOne_c A cap x hxb q HQ.out (by omega) _ (HR.out.up (by first | assumption | exact And.right (by assumption)))).mono ?_; rintro e w2 ⟨rfl, hb2⟩)))
      obtain ⟨_, hbn⟩ : w2.cell? ⟨b, off + n, none⟩ = some (.int .i64 x) ∧ Below w.heap.size w w2 := by assumption
      go_wp2
      go_roundw
      case rel => exact ⟨n + 1, by omega, by go_num, hbn⟩
      case measure => simp [intOf]; omega
    · go_wp2_with fail
      go_loopw [9] (fun i wr => ∃ n : Nat, n ≤ cd.length ∧ i = .int .i64 n ∧ Below w.heap.size w wr) (fun i _ => cd.length - (intOf i).toNat)
      case atStart => exact ⟨0, by omega, rfl, hb⟩
      case round =>
        obtain ⟨m, hm, rfl, hc⟩ := hrel
        by_cases h7 : m < cd.length
        · obtain ⟨x, hx⟩ : ∃ x, cd[m]? = some x := ⟨_, List.getElem?_eq_getElem h7⟩
          obtain ⟨b, off, rfl, hbl, i0⟩ := (HR2.out.up hc).num hx
          have hxb := HQ2.out x (List.mem_of_getElem? hx)
          have h7' : (m : Int) < cd.length := by omega
          clear hx
          go_wp2_with fail
          go_region_held3 (fun w' => w'.cell? ⟨b, off + m, none⟩ = some (.int .u16 x) ∧ Below w.heap.size w w') (first | exact ⟨i0, below_dr hc⟩ | assumption | exact ⟨by assumption, by assumption⟩)
            (first | (go_at_call 21; go_must (refine (Seals_c x hxb.1 hxb.2 _).mono ?_; rintro e w2 ⟨rfl, rfl⟩)) | (go_at_call 22; go_must (refine (rSeals_c x _).mono ?_; rintro e w2 ⟨rfl, rfl⟩)))
          have hbn : Below w.heap.size w _ := below_dr hc
          go_wp2
          go_roundw
          case rel => exact ⟨m + 1, by omega, by go_num, hbn⟩
          case measure => simp [intOf]; omega
        · go_wp2
          go_ret
          exact ⟨rfl, hc⟩
/-! ### the row of CheckOnes -/
set_option maxRecDepth 100000 in
theorem CheckOnes_lifted (os : Os) (started : os.Started) (H : Type) (enc : TypeId × Value → H) :
    ReturnsInHanded {} Try.checked os 7 .any (Rows.checkOnesSpec.pre6 enc Try.prog Try.f7 Rows.checkOnesRow.domain false) (Rows.checkOnesSpec.post enc Try.prog Try.f7 false true false false) := by
  refine returnsInHanded_of_change_sized (C := Try.checked) ownNone started (by kernel_rfl) Try.func7
    (ChangeSpec.witness6 (enc := enc) (C := Try.checked) false ⟨#[], #[.slice none 0 0, .slice none 0 0, .slice none 0 0], []⟩ 8 (by kernel_rfl) (by kernel_rfl) (by kernel_rfl) (by kernel_rfl)) ?_
  intro W base args ds gs before hval0 hW hcnd hsz0 _
  have hsz : (DataW.weightsEach Try.prog (Try.f7.params.toList ++ Rows.checkOnesSpec.plain.varTypes Try.prog) (ds ++ gs)).all (· ≤ reachBytes) = true := hsz0
  have hval : ∀ (j : Nat) t v, Try.f7.params[j]? = some t → args[j]? = some v → Value.okWide Try.prog W .any base t v := hval0
  have hW' := hW
  obtain ⟨p, q, hA0, hV, rfl, hfz, hnd⟩ := hW
  have hA : DataW.TrodAll enc Try.prog W 0 (fun _ => true) true Try.f7.params.toList args.toList ds p := hA0
  rw [Try.params7] at hA hval hsz
  obtain ⟨v0, vs0, d0, ds0, p0, q0, hargs, rfl, rfl, h0, r0⟩ := trodAll_cons hA
  obtain ⟨v1, vs1, d1, ds1, p1, q1, rfl, rfl, rfl, h1, r1⟩ := trodAll_cons r0
  obtain ⟨v2, vs2, d2, ds2, p2, q2, rfl, rfl, rfl, h2, r2⟩ := trodAll_cons r1
  obtain ⟨rfl, rfl, rfl⟩ := trodAll_nil r2
  obtain rfl : args = #[v0, v1, v2] := by cases args; simp_all
  obtain ⟨rfl, rfl⟩ := trodVars_none hV
  obtain ⟨a0, len0, cap0, rfl⟩ := okWide_slice Try.underlying22 (hval 0 22 v0 rfl rfl)
  have k0 := h0
  have lt0 : ∀ x ∈ p0, x.block < W.heap.size := by obtain ⟨m, hm⟩ := k0; exact DataW.trod_lt m _ _ _ hm
  obtain ⟨xs0, hl0, hr0, ho0, hc0, ha0, hb0⟩ := open_rows (α := I4) (j := 0) I4.cells I4.ok 4 8 Try.underlying22 (by kernel_rfl) (by decide) (fun _ => rfl) (by kernel_rfl) insn_cells hsz rfl rfl h0
  subst hl0
  obtain ⟨a1, len1, cap1, rfl⟩ := okWide_slice Try.underlying36 (hval 1 36 v1 rfl rfl)
  have k1 := h1
  have lt1 : ∀ x ∈ p1, x.block < W.heap.size := by obtain ⟨m, hm⟩ := k1; exact DataW.trod_lt m _ _ _ hm
  obtain ⟨xs1, hl1, hr1, ho1, hc1, ha1, hb1⟩ := open_rows (α := Int) (j := 1) (fun x : Int => [Value.int .i64 x]) (fun x : Int => -9223372036854775808 ≤ x ∧ x ≤ 9223372036854775807) 1 8 Try.underlying36 (by kernel_rfl) (by decide) (fun _ => rfl) (by kernel_rfl) (int_cells Try.underlying3 (fun h => wf_i64 h)) hsz rfl rfl h1
  subst hl1
  obtain ⟨a2, len2, cap2, rfl⟩ := okWide_slice Try.underlying37 (hval 2 37 v2 rfl rfl)
  have k2 := h2
  have lt2 : ∀ x ∈ p2, x.block < W.heap.size := by obtain ⟨m, hm⟩ := k2; exact DataW.trod_lt m _ _ _ hm
  obtain ⟨xs2, hl2, hr2, ho2, hc2, ha2, hb2⟩ := open_rows (α := Int) (j := 2) (fun x : Int => [Value.int .u16 x]) (fun x : Int => 0 ≤ x ∧ x < 65536) 1 2 Try.underlying37 (by kernel_rfl) (by decide) (fun _ => rfl) (by kernel_rfl) (int_cells Try.underlying30 (fun h => wf_u16 h)) hsz rfl rfl h2
  subst hl2
  clear hA0 hval0 hsz0 hsz
  refine (CheckOnes_w a0 cap0 xs0 a1 cap1 xs1 a2 cap2 xs2 W ho0 hc0 ha0 hb0 hr0 ho1 hc1 ha1 hb1 (reads_num hr1) ho2 hc2 ha2 hb2 (reads_num hr2)).mono fun e W' ⟨he, bel⟩ => ?_
  subst he
  exact ⟨_, rfl, _, _, _, [], _, [], hW', trodAll_mk1 (shut_bool Try.underlying4 _), (trodAll_cons_mk (Below.trod laidOutB_ (by kernel_rfl) (of_decide_eq_true (by kernel_rfl)) k0 bel lt0) (trodAll_cons_mk (Below.trod laidOutB_ (by kernel_rfl) (of_decide_eq_true (by kernel_rfl)) k1 bel lt1) (trodAll_cons_mk (Below.trod laidOutB_ (by kernel_rfl) (of_decide_eq_true (by kernel_rfl)) k2 bel lt2) trodAll_mk0))), rfl, bel.frame _, fun h => by cases h⟩
theorem CheckOnes_holds : Rows.CheckOnesSaid :=
  OpenClaim.holds_of_wide 7 Try.f7 rfl rfl rfl rfl rfl rfl rfl ⟨rfl, rfl, rfl, rfl, rfl⟩ rfl rfl rfl rfl rfl (by kernel_rfl) Try.func7 (by kernel_rfl)
    (of_decide_eq_true (by kernel_rfl)) (by unfold Func.isWrapper; first | (rw [if_pos (by decide +kernel)]; kernel_rfl) | (rw [if_neg (by decide +kernel)]; exact ⟨rfl, rfl⟩))
    (fun os started H enc _ => CheckOnes_lifted os started H enc)
#print axioms CheckOnes_holds
end Go.Proofs.Ytapmpegblfcknaa
