/- MirSays: of any accepted program and any data of 64 bytes, the program of registers that mir.From makes answers what the program answers, by the document's runs and by the program's own. No conditions. -/
import Derived.Test.YtehpoamideeehaaMirFW2
import Derived.Test.YtehpoamideeehaaMirFromP
import Derived.Test.YtehpoamideeehaaMirHead
import Derived.Test.YtehpoamideeehaaMirRRun
import Derived.Test.YtehpoamideeehaaCbpfS4
import Derived.Test.YtehpoamideeehaaRefS3
import Derived.Test.YtehpoamideeehaaCheckR3
import Derived.Test.YtehpoamideeehaaOpenB
import Derived.Deep.RegionLaw
set_option linter.unusedVariables false
set_option linter.unusedSimpArgs false
namespace Go.Proofs.Ytehpoamideeehaa
open Go.RowKit Go.ChangeShapes Go.WideShapes Go.ChangeAt
/-! MirSays. -/
set_option maxRecDepth 100000 in
set_option maxHeartbeats 3200000 in
theorem MirSays_w (A : Option Addr) (cap : Nat) (q : List I4) (Ad : Option Addr) (capd : Nat) (l : List RowB) (w : World) (hq : ∀ x ∈ q, x.ok) (hc : q.length ≤ cap) (hA : A = none → cap = 0) (hB : q.length * 8 ≤ 140737488351232) (hr : Reads w w.heap.size 4 A q.length (cellsI q))
    (hql : ∀ x ∈ l, x.ok w) (hcl : l.length ≤ capd) (hAl : Ad = none → capd = 0) (hBl : l.length * 24 ≤ 140737488351232) (hrl : Reads w w.heap.size 1 Ad l.length (cellsB l)) :
    Calls Try.prog 4 #[.slice A q.length cap, .slice Ad l.length capd] w fun e w' => e = .returned (.bool true) ∧ Below w.heap.size w w' := by
  have HR := Lib.hid hr
  have HQ := Lib.hid hq
  have HA := Lib.hid hA
  have HB8 := Lib.hid hB
  have HC := Lib.hid hc
  have HRL := Lib.hid hrl
  have HQL := Lib.hid hql
  have hll : (l.length : Int) ≤ 17592186043904 := by omega
  clear hr hq hA hrl hql hcl hAl hBl hB hc
  go_enter Try.func4, Try.ntmps4
  go_wp2_with fail
  refine (Head12_c w).mono ?_
  rintro e w1 ⟨rfl, hb1⟩
  have HB1 := Lib.hid hb1
  clear hb1
  go_wp2_with fail
  refine (rIs_c A cap q HQ.out (by have := HB8.out; omega) w1 (HR.out.up HB1.out)).mono ?_
  rintro e w2 ⟨rfl, hb2⟩
  have HB2 := Lib.hid (below_t HB1.out hb2)
  clear hb2
  cases hf : isP q with
  | false =>
    go_wp2
    go_ret
    exact ⟨rfl, HB2.out⟩
  | true =>
    have h0 : (checkP q).1 = 0 := by unfold isP at hf; simpa using hf
    have H0 := Lib.hid h0
    clear hf
    go_wp2_with fail
    refine (From_c A cap q HQ.out (by have := HB8.out; omega) w2 (HR.out.up HB2.out)).mono ?_
    rintro e w3 ⟨hb3, ⟨hne, rfl⟩ | ⟨-, v, rfl, hown⟩⟩
    · exact absurd H0.out hne
    obtain ⟨a1, a2, -, -⟩ := acc_facts h0
    have HB3 := Lib.hid (below_t HB2.out hb3)
    have hfl : 0 < (fromP q).length := by rw [from_len]; exact begin_lt (q := q) (i := 0) (j := q.length) a1 a1
    have HSAY := Lib.hid (fun (d : List Int) (h : d.length = 64) => from_says h0 HQ.out h)
    have hPl : (fromP q).length ≤ 4 * q.length := by rw [from_len]; exact begin_le q q.length
    have HPOK : Hid (∀ y ∈ fromP q, y.ok) := Lib.hid (from_ok h0 HQ.out)
    obtain ⟨P, hP⟩ : ∃ P, P = fromP q := ⟨_, rfl⟩
    rw [← hP] at hown hfl HSAY hPl HPOK
    obtain ⟨g3, c3, hv, -, hg3l⟩ := hown.form hfl
    subst hv
    have HOW := Lib.hid (Reads.of_own hown)
    have HPL : Hid (P.length ≤ 9223372036854775807) := Lib.hid (by omega)
    have m0 : (w3.alloc (.cells #[.int .i64 19, .slice (some ⟨g3, 0, none⟩) P.length c3] 27)).cell? ⟨w3.heap.size, 0, none⟩ = some (.int .i64 19) := by simp [go_sem]
    have m1 : (w3.alloc (.cells #[.int .i64 19, .slice (some ⟨g3, 0, none⟩) P.length c3] 27)).cell? ⟨w3.heap.size, 1, none⟩ = some (.slice (some ⟨g3, 0, none⟩) P.length c3) := by simp [go_sem]
    obtain ⟨W3, hW3⟩ : ∃ W3, W3 = w3.alloc (.cells #[.int .i64 19, .slice (some ⟨g3, 0, none⟩) P.length c3] 27) := ⟨_, rfl⟩
    rw [← hW3] at m0 m1
    have HW3 := Lib.hid hW3
    have HO3 := Lib.hid (HOW.out.up (show Below w3.heap.size w3 W3 by rw [hW3]; exact below1 w3 _))
    have HB3' : Hid (Below w.heap.size w W3) := Lib.hid (by rw [hW3]; exact below_al HB3.out _)
    have M0 := Lib.hid m0
    have M1 := Lib.hid m1
    clear h0 hb3 hown hP hW3 m0 m1 hfl hPl
    go_wp2_with fail
    rw [← HW3.out]
    go_loopw [9] (fun i wr => ∃ n : Nat, n ≤ l.length ∧ i = .int .i64 n ∧ Hid (Below W3.heap.size W3 wr)) (fun i _ => l.length - (intOf i).toNat)
    case atStart => exact ⟨0, by omega, rfl, Lib.hid (Below.refl _ _)⟩
    case round =>
      obtain ⟨n, hn, rfl, HBR⟩ := hrel
      have HBW := Lib.hid (below_t HB3'.out HBR.out)
      rcases Nat.lt_or_ge n l.length with hnl | hnl
      · have hnl' : (n : Int) < l.length := by omega
        obtain ⟨y, hy⟩ : ∃ y, l[n]? = some y := ⟨_, List.getElem?_eq_getElem hnl⟩
        obtain ⟨b, off, rfl, hb, i0⟩ := (HRL.out.up HBW.out).rowB hy
        obtain ⟨y1, y2, y3, y4⟩ := HQL.out y (List.mem_of_getElem? hy)
        have HY1 := Lib.hid y1
        have HY3 := Lib.hid y3
        have HY4 := Lib.hid y4
        have HY2 := Lib.hid y2
        obtain ⟨Ay, cy, dy⟩ := y
        dsimp only at i0
        clear hy y1 y2 y3 y4
        by_cases h64 : dy.length = 64
        · have hne : ((dy.length : Int) != 64) = false := by simp [h64]
          obtain ⟨v, sa, sb, e1, e2⟩ := HSAY.out dy h64
          have HD1 : Hid (dy.length * 1 ≤ 140737488351232) := Lib.hid (by omega)
          have HE1 := Lib.hid e1
          have HE2 := Lib.hid e2
          have i1 := keepC (below_dr (Below.refl wr.heap.size wr)) i0
          clear h64 e1 e2 i1
          go_wp2_with fail
          refine (rRun_c A cap q Ay cy dy (by have := HB8.out; omega) HQ.out HY1.out wr (HR.out.up HBW.out) (HY4.out.up HBW.out)).mono ?_
          rintro e w4 ⟨rfl, hb4⟩
          rw [HE1.out]
          unfold ret4
          dsimp only
          have j0 := keepC hb4 i0
          have k0 := keepC hb4 (keepC HBR.out M0.out)
          have k1 := keepC hb4 (keepC HBR.out M1.out)
          have HB4 := Lib.hid (below_t HBR.out hb4)
          clear hb4 i0
          go_wp2_with fail
          go_region_law (go_simp; go_at_call 13; refine (rMRun_c (some ⟨g3, 0, none⟩) 19 c3 P Ay cy dy HPOK.out HPL.out HY1.out (by have := HD1.out; omega) _ ((HO3.out.up HB4.out).drew) ((HY4.out.up (below_t HB3'.out HB4.out)).drew)).mono ?_; rintro e w5 ⟨rfl, hb5⟩; rw [HE2.out]; unfold ret4; dsimp only; have j1 := keepC (below_t (below_dr (Below.refl w4.heap.size w4)) hb5) j0; have n0 := keepC (below_t (below_dr (Below.refl w4.heap.size w4)) hb5) k0; have n1 := keepC (below_t (below_dr (Below.refl w4.heap.size w4)) hb5) k1; have HB5 := Lib.hid (below_t (below_dr HB4.out) hb5); clear hb5)
          all_goals (
            clear j0 k0 k1
            go_wp2_with fail
            go_region_law (go_simp; go_at_call 14; refine (MRun_c (some ⟨g3, 0, none⟩) 19 c3 P Ay cy dy HPOK.out HPL.out HY1.out (by have := HD1.out; omega) _ ((HO3.out.up HB5.out).drew) ((HY4.out.up (below_t HB3'.out HB5.out)).drew)).mono ?_; rintro e w6 ⟨rfl, hb6⟩; rw [HE2.out]; unfold ret4; dsimp only; have j2 := keepC (below_t (below_dr (Below.refl w5.heap.size w5)) hb6) j1; have HB6 := Lib.hid (below_t (below_dr HB5.out) hb6); clear hb6)
            all_goals (
              clear j1 n0 n1
              go_wp2_with fail
              refine (Run_c A cap q Ay cy dy HA.out HC.out HB8.out HY3.out HY2.out HD1.out HQ.out HY1.out w6 (HR.out.up (below_t HB3'.out HB6.out)) (HY4.out.up (below_t HB3'.out HB6.out))).mono ?_
              rintro e w7 ⟨rfl, hb7⟩
              rw [HE1.out]
              unfold ret4
              dsimp only
              have HB7 := Lib.hid (below_t HB6.out hb7)
              clear hb7
              go_wp2
              go_roundw
              case rel => exact ⟨n + 1, by omega, by go_num, HB7⟩
              case measure => simp [intOf]; omega))
        · have hne : ((dy.length : Int) != 64) = true := by simp; omega
          clear h64
          go_wp2
          go_roundw
          case rel => exact ⟨n + 1, by omega, by go_num, HBR⟩
          case measure => simp [intOf]; omega
      · obtain rfl : n = l.length := by omega
        go_wp2
        go_ret
        exact ⟨rfl, HBW.out⟩
/-! ### the row of MirSays -/
set_option maxRecDepth 100000 in
theorem MirSays_lifted (os : Os) (started : os.Started) (H : Type) (enc : TypeId × Value → H) :
    ReturnsInHanded {} Try.checked os 4 .any (Rows.mirSaysSpec.pre6 enc Try.prog Try.f4 Rows.mirSaysRow.domain false) (Rows.mirSaysSpec.post enc Try.prog Try.f4 false true false false) := by
  refine returnsInHanded_of_change_sized (C := Try.checked) ownNone started (by kernel_rfl) Try.func4
    (ChangeSpec.witness6 (enc := enc) (C := Try.checked) false ⟨#[], #[.slice none 0 0, .slice none 0 0], []⟩ 8 (by kernel_rfl) (by kernel_rfl) (by kernel_rfl) (by kernel_rfl)) ?_
  intro W base args ds gs before hval0 hW hcnd hsz0 _
  have hsz : (DataW.weightsEach Try.prog (Try.f4.params.toList ++ Rows.mirSaysSpec.plain.varTypes Try.prog) (ds ++ gs)).all (· ≤ reachBytes) = true := hsz0
  have hval : ∀ (j : Nat) t v, Try.f4.params[j]? = some t → args[j]? = some v → Value.okWide Try.prog W .any base t v := hval0
  have hW' := hW
  obtain ⟨p, q, hA0, hV, rfl, hfz, hnd⟩ := hW
  have hA : DataW.TrodAll enc Try.prog W 0 (fun _ => true) true Try.f4.params.toList args.toList ds p := hA0
  rw [Try.params4] at hA hval hsz
  obtain ⟨v0, vs0, d0, ds0, p0, q0, hargs, rfl, rfl, h0, r0⟩ := trodAll_cons hA
  obtain ⟨v1, vs1, d1, ds1, p1, q1, rfl, rfl, rfl, h1, r1⟩ := trodAll_cons r0
  obtain ⟨rfl, rfl, rfl⟩ := trodAll_nil r1
  obtain rfl : args = #[v0, v1] := by cases args; simp_all
  obtain ⟨rfl, rfl⟩ := trodVars_none hV
  obtain ⟨a0, len0, cap0, rfl⟩ := okWide_slice Try.underlying22 (hval 0 22 v0 rfl rfl)
  have k0 := h0
  have lt0 : ∀ x ∈ p0, x.block < W.heap.size := by obtain ⟨m, hm⟩ := k0; exact DataW.trod_lt m _ _ _ hm
  obtain ⟨xs0, hl0, hr0, ho0, hc0, ha0, hb0⟩ := open_rows (α := I4) (j := 0) I4.cells I4.ok 4 8 Try.underlying22 (by kernel_rfl) (by decide) (fun _ => rfl) (by kernel_rfl) insn_cells hsz rfl rfl h0
  subst hl0
  obtain ⟨a1, len1, cap1, rfl⟩ := okWide_slice Try.underlying39 (hval 1 39 v1 rfl rfl)
  have k1 := h1
  have lt1 : ∀ x ∈ p1, x.block < W.heap.size := by obtain ⟨m, hm⟩ := k1; exact DataW.trod_lt m _ _ _ hm
  obtain ⟨xs1, hl1, hr1, ho1, hc1, ha1, hb1⟩ := open_rows (α := RowB) (j := 1) RowB.cells (RowB.ok W) 1 24 Try.underlying39 (by kernel_rfl) (by decide) (fun _ => rfl) (by kernel_rfl) bytes_cells hsz rfl rfl h1
  subst hl1
  clear hA0 hval0 hsz0 hsz
  refine (MirSays_w a0 cap0 xs0 a1 cap1 xs1 W ho0 hc0 ha0 hb0 hr0 ho1 hc1 ha1 hb1 hr1).mono fun e W' ⟨he, bel⟩ => ?_
  subst he
  exact ⟨_, rfl, _, _, _, [], _, [], hW', trodAll_mk1 (shut_bool Try.underlying4 _), (trodAll_cons_mk (Below.trod laidOutB_ (by kernel_rfl) (of_decide_eq_true (by kernel_rfl)) k0 bel lt0) (trodAll_cons_mk (Below.trod laidOutB_ (by kernel_rfl) (of_decide_eq_true (by kernel_rfl)) k1 bel lt1) trodAll_mk0)), rfl, bel.frame _, fun h => by cases h⟩
theorem MirSays_holds : Rows.MirSaysSaid :=
  OpenClaim.holds_of_wide 4 Try.f4 rfl rfl rfl rfl rfl rfl rfl ⟨rfl, rfl, rfl, rfl, rfl⟩ rfl rfl rfl rfl rfl (by kernel_rfl) Try.func4 (by kernel_rfl)
    (of_decide_eq_true (by kernel_rfl)) (by unfold Func.isWrapper; first | (rw [if_pos (by decide +kernel)]; kernel_rfl) | (rw [if_neg (by decide +kernel)]; exact ⟨rfl, rfl⟩))
    (fun os started H enc _ => MirSays_lifted os started H enc)
#print axioms MirSays_holds
end Go.Proofs.Ytehpoamideeehaa
