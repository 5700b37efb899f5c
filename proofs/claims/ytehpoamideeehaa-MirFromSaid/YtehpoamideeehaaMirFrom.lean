/- MirFrom: of any instructions, mir.From makes of an accepted program one that is right, of at most four instructions for one, whose constants are the program's; of others ErrArg and nothing; and it leaves its argument as it was. No conditions. -/
import Derived.Test.YtehpoamideeehaaMirFW6
import Derived.Test.YtehpoamideeehaaMirHead
import Derived.Test.YtehpoamideeehaaMirW4
import Derived.Test.YtehpoamideeehaaCheckR3
import Derived.Test.YtehpoamideeehaaLent
import Derived.Test.YtehpoamideeehaaOpen
set_option linter.unusedVariables false
set_option linter.unusedSimpArgs false
namespace Go.Proofs.Ytehpoamideeehaa
open Go.RowKit Go.ChangeShapes Go.WideShapes Go.ChangeAt
/-! MirFrom. -/
def Small (y : R7) : Prop := (0 ≤ y.o ∧ y.o ≤ 19) ∧ (0 ≤ y.d ∧ y.d ≤ 18) ∧ (0 ≤ y.a ∧ y.a ≤ 18) ∧ (0 ≤ y.b ∧ y.b ≤ 18) ∧ (0 ≤ y.k ∧ y.k < 4294967296) ∧ (-10000000000 ≤ y.t ∧ y.t ≤ 10000000000) ∧ (-10000000000 ≤ y.f ∧ y.f ≤ 10000000000)
theorem lay_small {q : List I4} (hacc : (checkP q).1 = 0) (hq : ∀ x ∈ q, x.ok) {y : R7} (hy : y ∈ fromTo q q.length) : Small y := by
  obtain ⟨i, x, hx, hi, hm⟩ := fromTo_mem q.length (Nat.le_refl _) y hy
  obtain ⟨-, hl, -, -⟩ := acc_facts hacc
  have hbl := begin_le q i
  have hg := good_at hacc hx
  obtain ⟨c0, c1, j0, j1, f0, f1, k0, k1⟩ := hq x (List.mem_of_getElem? hx)
  have hr := rk_range x
  have hmm := mem_range (x := x) k0
  have pre : y ∈ preK x → Small y := fun h => by
    unfold preK at h
    split at h
    · simp at h
    · simp at h; subst h; unfold Small; dsimp only; omega
  rcases code_parts hg with ⟨h, h60⟩ | h | h
  · rw [lay_alu _ _ h h60] at hm
    have hr := mop_range h
    rcases List.mem_append.1 hm with hm | hm
    · exact pre hm
    · simp at hm; subst hm; unfold Small; dsimp only; omega
  · rw [lay_jump _ _ h] at hm
    have hr := mq_range h
    rcases List.mem_append.1 hm with hm | hm
    · exact pre hm
    · simp at hm; subst hm; unfold Small; dsimp only; omega
  · rcases lay_plain h i (beginN q i) with ⟨e, hl⟩ | ⟨e, hl⟩ | ⟨e, hl⟩ | ⟨e, hl⟩ | ⟨e, hl⟩ | ⟨e, hl⟩ | ⟨e, hl⟩ | ⟨e, hl⟩ | ⟨e, hl⟩ | ⟨e, hl⟩ | ⟨e, hl⟩ | ⟨e, hl⟩ | ⟨e, hl⟩ | ⟨e, hl⟩ | ⟨e, hl⟩ | ⟨e, hl⟩
    all_goals (
      rw [hl] at hm
      simp only [List.mem_cons, List.not_mem_nil, or_false] at hm
      first
        | (subst hm; unfold Small; dsimp only; omega)
        | (rcases hm with rfl | rfl | rfl | rfl <;> (unfold Small; dsimp only; omega))
        | (rcases hm with rfl | rfl <;> (unfold Small; dsimp only; omega)))
theorem from_ok {q : List I4} (hacc : (checkP q).1 = 0) (hq : ∀ x ∈ q, x.ok) : ∀ y ∈ fromP q, y.ok := by
  intro y hy
  unfold fromP at hy
  obtain ⟨z, hz, rfl⟩ := List.mem_map.1 hy
  obtain ⟨h1, h2, h3, h4, h5, h6, h7⟩ := lay_small hacc hq hz
  obtain ⟨-, hl, -, -⟩ := acc_facts hacc
  have hb : ∀ j, beginN q j ≤ 4 * j := begin_le q
  obtain ⟨t1, t2⟩ := lay_targets hacc hq hz
  have bt : shT z.o = true → 0 ≤ z.t → (beginN q z.t.toNat : Int) ≤ 20000 := fun h h0 => by
    have := (t1 h).2 h0
    have := hb z.t.toNat
    omega
  have bf : shF z.o = true → 0 ≤ z.f → (beginN q z.f.toNat : Int) ≤ 20000 := fun h h0 => by
    have := (t2 h).2 h0
    have := hb z.f.toNat
    omega
  unfold settleR R7.ok inI64
  dsimp only
  refine ⟨by omega, by omega, by omega, by omega, by omega, ?_, ?_⟩
  · split
    · rename_i h
      split
      · omega
      · have := bt h (by omega); omega
    · omega
  · split
    · rename_i h
      split
      · omega
      · have := bf h (by omega); omega
    · omega
set_option maxRecDepth 100000 in
set_option maxHeartbeats 3200000 in
theorem MirFrom_w (A : Option Addr) (cap : Nat) (q : List I4) (w : World) (hq : ∀ x ∈ q, x.ok) (hc : q.length ≤ cap) (hA : A = none → cap = 0) (hB : q.length * 8 ≤ 140737488351232) (hr : Reads w w.heap.size 4 A q.length (cellsI q)) :
    Calls Try.prog 3 #[.slice A q.length cap] w fun e w' => e = .returned (.bool true) ∧ Below w.heap.size w w' := by
  have HR := Lib.hid hr
  have HQ := Lib.hid hq
  have HA := Lib.hid hA
  have HB8 := Lib.hid hB
  have hql : (q.length : Int) ≤ 17592186043904 := by omega
  clear hr hq hA
  go_enter Try.func3, Try.ntmps3
  go_wp2_with fail
  refine (Head12_c w).mono ?_
  rintro e w1 ⟨rfl, hb1⟩
  have HB1 := Lib.hid hb1
  clear hb1
  go_wp2_with fail
  refine (Lent_c A cap q HA.out hc HB8.out w1 (HR.out.up HB1.out)).mono ?_
  rintro e w2 ⟨g, cap2, rfl, hL, hb2⟩
  have HL := Lib.hid hL
  have HB2 := Lib.hid (below_t HB1.out hb2)
  clear hL hb2
  go_wp2_with fail
  refine (From_c (some ⟨g, 0, none⟩) cap2 q HQ.out (by have := HB8.out; omega) w2 HL.out.readsQ).mono ?_
  rintro e w3 ⟨hb3, ⟨hne, rfl⟩ | ⟨h0, v, rfl, hown⟩⟩
  · have HIS : Hid (isP q = false) := Lib.hid (by unfold isP; simpa using hne)
    have HB3 := Lib.hid (below_t HB2.out hb3)
    have HL3 := Lib.hid (HL.out.keep hb3)
    clear hne hb3
    go_wp2_with fail
    refine (Kept_c A w1.heap.size g cap2 cap q q _ HB8.out (HL3.out.keep (below1 w3 _)) (HR.out.up (below_al HB3.out _))).mono ?_
    rintro e w4 ⟨rfl, hb4⟩
    have HB4 := Lib.hid (below_t (below_al HB3.out _) hb4)
    have r0 := keepC hb4 (show (w3.alloc (.cells #[.int .i64 0, .slice none 0 0] 27)).cell? ⟨w3.heap.size, 0, none⟩ = some (.int .i64 0) by simp [go_sem])
    have r1 := keepC hb4 (show (w3.alloc (.cells #[.int .i64 0, .slice none 0 0] 27)).cell? ⟨w3.heap.size, 1, none⟩ = some (.slice none 0 0) by simp [go_sem])
    rw [show sameP q q = true by simp [sameP]]
    clear hb4
    go_wp2_with fail
    refine (rIs_c A cap q HQ.out (by have := HB8.out; omega) w4 (HR.out.up HB4.out)).mono ?_
    rintro e w5 ⟨rfl, hb5⟩
    rw [HIS.out]
    have HB5 := Lib.hid (below_t HB4.out hb5)
    have k0 := keepC hb5 r0
    have k1 := keepC hb5 r1
    clear hb5 r0 r1
    go_wp2
    go_ret
    exact ⟨rfl, HB5.out⟩
  · have HIS : Hid (isP q = true) := Lib.hid (by unfold isP; simpa using h0)
    obtain ⟨a1, a2, -, -⟩ := acc_facts h0
    have H0 := Lib.hid h0
    have HB3 := Lib.hid (below_t HB2.out hb3)
    have HL3 := Lib.hid (HL.out.keep hb3)
    have hfl : 0 < (fromP q).length := by rw [from_len]; exact begin_lt (q := q) (i := 0) (j := q.length) a1 a1
    obtain ⟨P, hP⟩ : ∃ P, P = fromP q := ⟨_, rfl⟩
    have hPl : P.length ≤ 4 * q.length := by rw [hP, from_len]; exact begin_le q q.length
    have HPOK : Hid (∀ y ∈ P, y.ok) := Lib.hid (by rw [hP]; exact from_ok h0 HQ.out)
    have HPR : Hid ((mcheckP 19 P).1 = 0) := Lib.hid (by rw [hP, from_right h0 HQ.out])
    have HPC : Hid (∀ (a : Nat) (y : R7), P[a]? = some y → y.o = 1 → constB q y.k = true) := Lib.hid (fun a y hy ho => from_const h0 (by rw [← hP]; exact hy) ho)
    rw [← hP] at hown hfl
    obtain ⟨g3, c3, hv, -, hg3l⟩ := hown.form hfl
    subst hv
    have HOW := Lib.hid hown
    clear h0 hb3 hown hP
    go_wp2_with fail
    refine (Kept_c A w1.heap.size g cap2 cap q q _ HB8.out (HL3.out.keep (below1 w3 _)) (HR.out.up (below_al HB3.out _))).mono ?_
    rintro e w4 ⟨rfl, hb4⟩
    have HB4 := Lib.hid (below_t (below_al HB3.out _) hb4)
    have r0 := keepC hb4 (show (w3.alloc (.cells #[.int .i64 19, .slice (some ⟨g3, 0, none⟩) P.length c3] 27)).cell? ⟨w3.heap.size, 0, none⟩ = some (.int .i64 19) by simp [go_sem])
    have r1 := keepC hb4 (show (w3.alloc (.cells #[.int .i64 19, .slice (some ⟨g3, 0, none⟩) P.length c3] 27)).cell? ⟨w3.heap.size, 1, none⟩ = some (.slice (some ⟨g3, 0, none⟩) P.length c3) by simp [go_sem])
    have HB34 := Lib.hid (below_t (below1 w3 (.cells #[.int .i64 19, .slice (some ⟨g3, 0, none⟩) P.length c3] 27)) hb4)
    rw [show sameP q q = true by simp [sameP]]
    clear hb4
    go_wp2_with fail
    refine (rIs_c A cap q HQ.out (by have := HB8.out; omega) w4 (HR.out.up HB4.out)).mono ?_
    rintro e w5 ⟨rfl, hb5⟩
    rw [HIS.out]
    have HB5 := Lib.hid (below_t HB4.out hb5)
    have HB35 := Lib.hid (below_t HB34.out hb5)
    have k0 := keepC hb5 r0
    have k1 := keepC hb5 r1
    clear hb5 r0 r1
    go_wp2_with fail
    refine (Right_c (some ⟨g3, 0, none⟩) 19 c3 P HPOK.out (by omega) w5 ((Reads.of_own HOW.out).up HB35.out)).mono ?_
    rintro e w6 ⟨rfl, hb6⟩
    rw [HPR.out]
    have HB6 := Lib.hid (below_t HB5.out hb6)
    have HB36 := Lib.hid (below_t HB35.out hb6)
    have m0 := keepC hb6 k0
    have m1 := keepC hb6 k1
    have M1 := Lib.hid m1
    have hPq : (P.length : Int) ≤ 4 * q.length := by omega
    have d1 : decide (4 * (q.length : Int) < P.length) = false := by simp; omega
    have d2 : decide (4 * q.length < P.length) = false := by simp; omega
    have hPb : (P.length : Int) ≤ 16384 := by omega
    clear hb6 k0 k1
    go_wp2_with fail
    go_loopw [10] (fun i wr => ∃ n : Nat, n ≤ P.length ∧ i = .int .i64 n ∧ Hid (Below w6.heap.size w6 wr)) (fun i _ => P.length - (intOf i).toNat)
    case atStart => exact ⟨0, by omega, rfl, Lib.hid (Below.refl _ _)⟩
    case round =>
      obtain ⟨n, hn, rfl, HBR⟩ := hrel
      have p1 := keepC HBR.out M1.out
      rcases Nat.lt_or_ge n P.length with hnl | hnl
      · have hnl' : (n : Int) < P.length := by omega
        obtain ⟨y, hy⟩ : ∃ y, P[n]? = some y := ⟨_, List.getElem?_eq_getElem hnl⟩
        have HY := Lib.hid hy
        obtain ⟨b, off, e, -, y0, y1, y2, y3, y4, y5, y6⟩ := ((Reads.of_own HOW.out).up (below_t HB36.out HBR.out)).ir hy
        injection e with e; injection e with e1 e2
        subst e1 e2
        simp only [Nat.zero_add] at y0 y1 y2 y3 y4 y5 y6
        clear hy m0 m1 d1 d2
        by_cases ho : y.o = 1
        · have hne : (y.o != 1) = false := by simp [ho]
          have HCC : Hid (constB q y.k = true) := Lib.hid (HPC.out n y HY.out ho)
          clear ho
          go_wp2_with fail
          refine (constant_c A cap q y.k (by omega) wr (HR.out.up (below_t HB6.out HBR.out))).mono ?_
          rintro e w7 ⟨rfl, hb7⟩
          rw [HCC.out]
          have HB7 := Lib.hid (below_t HBR.out hb7)
          clear hb7
          go_wp2
          go_roundw
          case rel => exact ⟨n + 1, by omega, by go_num, HB7⟩
          case measure => simp [intOf]; omega
        · have hne : (y.o != 1) = true := by simpa using ho
          clear ho
          go_wp2
          go_roundw
          case rel => exact ⟨n + 1, by omega, by go_num, HBR⟩
          case measure => simp [intOf]; omega
      · obtain rfl : n = P.length := by omega
        have HF := Lib.hid (below_t HB6.out HBR.out)
        go_wp2
        go_ret
        exact ⟨rfl, HF.out⟩
/-! ### the row of MirFrom -/
set_option maxRecDepth 100000 in
theorem MirFrom_lifted (os : Os) (started : os.Started) (H : Type) (enc : TypeId × Value → H) :
    ReturnsInHanded {} Try.checked os 3 .any (Rows.mirFromSpec.pre6 enc Try.prog Try.f3 Rows.mirFromRow.domain false) (Rows.mirFromSpec.post enc Try.prog Try.f3 false true false false) := by
  refine returnsInHanded_of_change_sized (C := Try.checked) ownNone started (by kernel_rfl) Try.func3
    (ChangeSpec.witness6 (enc := enc) (C := Try.checked) false ⟨#[], #[.slice none 0 0], []⟩ 8 (by kernel_rfl) (by kernel_rfl) (by kernel_rfl) (by kernel_rfl)) ?_
  intro W base args ds gs before hval0 hW hcnd hsz0 _
  have hsz : (DataW.weightsEach Try.prog (Try.f3.params.toList ++ Rows.mirFromSpec.plain.varTypes Try.prog) (ds ++ gs)).all (· ≤ reachBytes) = true := hsz0
  have hval : ∀ (j : Nat) t v, Try.f3.params[j]? = some t → args[j]? = some v → Value.okWide Try.prog W .any base t v := hval0
  have hW' := hW
  obtain ⟨p, q, hA0, hV, rfl, hfz, hnd⟩ := hW
  have hA : DataW.TrodAll enc Try.prog W 0 (fun _ => true) true Try.f3.params.toList args.toList ds p := hA0
  rw [Try.params3] at hA hval hsz
  obtain ⟨v0, vs0, d0, ds0, p0, q0, hargs, rfl, rfl, h0, r0⟩ := trodAll_cons hA
  obtain ⟨rfl, rfl, rfl⟩ := trodAll_nil r0
  obtain rfl : args = #[v0] := by cases args; simp_all
  obtain ⟨rfl, rfl⟩ := trodVars_none hV
  obtain ⟨a0, len0, cap0, rfl⟩ := okWide_slice Try.underlying22 (hval 0 22 v0 rfl rfl)
  have k0 := h0
  have lt0 : ∀ x ∈ p0, x.block < W.heap.size := by obtain ⟨m, hm⟩ := k0; exact DataW.trod_lt m _ _ _ hm
  obtain ⟨xs0, hl0, hr0, ho0, hc0, ha0, hb0⟩ := open_rows (α := I4) (j := 0) I4.cells I4.ok 4 8 Try.underlying22 (by kernel_rfl) (by decide) (fun _ => rfl) (by kernel_rfl) insn_cells hsz rfl rfl h0
  subst hl0
  clear hA0 hval0 hsz0 hsz
  refine (MirFrom_w a0 cap0 xs0 W ho0 hc0 ha0 hb0 hr0).mono fun e W' ⟨he, bel⟩ => ?_
  subst he
  exact ⟨_, rfl, _, _, _, [], _, [], hW', trodAll_mk1 (shut_bool Try.underlying4 _), (trodAll_cons_mk (Below.trod laidOutB_ (by kernel_rfl) (of_decide_eq_true (by kernel_rfl)) k0 bel lt0) trodAll_mk0), rfl, bel.frame _, fun h => by cases h⟩
theorem MirFrom_holds : Rows.MirFromSaid :=
  OpenClaim.holds_of_wide 3 Try.f3 rfl rfl rfl rfl rfl rfl rfl ⟨rfl, rfl, rfl, rfl, rfl⟩ rfl rfl rfl rfl rfl (by kernel_rfl) Try.func3 (by kernel_rfl)
    (of_decide_eq_true (by kernel_rfl)) (by unfold Func.isWrapper; first | (rw [if_pos (by decide +kernel)]; kernel_rfl) | (rw [if_neg (by decide +kernel)]; exact ⟨rfl, rfl⟩))
    (fun os started H enc _ => MirFrom_lifted os started H enc)
#print axioms MirFrom_holds
end Go.Proofs.Ytehpoamideeehaa
