import Derived.Test.YtapmpegblfcknaaFlowBlk
import Derived.Test.YtapmpegblfcknaaCheckR3
import Derived.Test.YtapmpegblfcknaaFlowHead
import Derived.Test.YtapmpegblfcknaaOpen
import Derived.BigQuiet
import Derived.Deep.QuietTactic
set_option linter.unusedVariables false
set_option linter.unusedSimpArgs false
namespace Go.Proofs.Ytapmpegblfcknaa
open Go.RowKit Go.ChangeShapes Go.WideShapes Go.ChangeAt
open Go.ChangeMaps (open_string shut_string)
/-! FlowParts. -/
theorem Accepted_c (A : Option Addr) (cap : Nat) (q : List I4) (hq : ∀ x ∈ q, x.ok) (hn : q.length ≤ 9223372036854775807) (w : World) (hr : Reads w w.heap.size 4 A q.length (cellsI q)) :
    Calls Try.prog 27 #[.slice A q.length cap] w fun e w' => e = .returned (.bool (isP q)) ∧ Below w.heap.size w w' := by
  have HC := Lib.hid (rIs_c A cap q hq hn w hr)
  clear hr hq
  go_enter Try.func27, Try.ntmps27
  go_wp2_with fail
  refine HC.out.mono ?_
  rintro e w' ⟨rfl, hb⟩
  go_wp2
  go_ret
  exact ⟨rfl, hb⟩
def lastTo (ps : List (Nat × Nat)) (k : Nat) : Nat := match k with | 0 => 0 | k + 1 => (ps.getD k (0, 0)).2
theorem inParts_take {ps : List (Nat × Nat)} {k : Nat} {p : Nat × Nat} (hp : ps[k]? = some p) (j : Nat) : inParts (ps.take (k + 1)) j = inParts (ps.take k) j + if p.1 ≤ j ∧ j < p.2 then 1 else 0 := by
  unfold inParts
  rw [List.take_add_one, hp, List.countP_append]
  simp [List.countP_cons]
theorem getD_mod (l : List Nat) (i j : Nat) (hi : i < l.length) : (l.modify i (· + 1)).getD j 0 = l.getD j 0 + if i = j then 1 else 0 := by
  rw [List.getD_eq_getElem?_getD, List.getD_eq_getElem?_getD, List.getElem?_modify]
  by_cases h : i = j
  · subst h
    rw [List.getElem?_eq_getElem hi]; simp
  · cases h2 : l[j]? <;> simp [h, h2]
set_option maxRecDepth 100000 in
set_option maxHeartbeats 6400000 in
theorem FlowParts_w (A : Option Addr) (cap : Nat) (q : List I4) (w : World) (hq : ∀ x ∈ q, x.ok) (hc : q.length ≤ cap) (hA : A = none → cap = 0) (hB : q.length * 8 ≤ 140737488351232) (hr : Reads w w.heap.size 4 A q.length (cellsI q)) :
    Calls Try.prog 10 #[.slice A q.length cap] w fun e w' => e = .returned (.bool true) ∧ Below w.heap.size w w' := by
  have HR := Lib.hid hr
  have HQ := Lib.hid hq
  clear hr hq hA
  obtain ⟨i0, HI⟩ : ∃ i0, Hid (Try.prog.info? 3 = some i0 ∧ i0.zero = some (.int .i64 0) ∧ i0.size = 1 ∧ i0.bytes = 8) := by
    obtain ⟨i0, hi, hz0, hz1, hz2⟩ := info_parts infoInt
    exact ⟨i0, Lib.hid ⟨hi, hz0, hz1, hz2⟩⟩
  obtain ⟨B, hBB⟩ : ∃ B, B = isP q := ⟨_, rfl⟩
  have HBB := Lib.hid hBB
  clear hBB
  go_enter Try.func10, Try.ntmps10
  go_wp2_with fail
  refine (Head10_c w).mono ?_
  rintro e w1 ⟨rfl, hb1⟩
  go_wp2_with fail
  refine (Accepted_c A cap q HQ.out (by omega) w1 (HR.out.up hb1)).mono ?_
  rintro e w2 ⟨rfl, hb2⟩
  have hb2' := below_t hb1 hb2
  rw [← HBB.out]
  clear hb1 hb2
  cases B with
  | false =>
    go_wp2
    go_ret
    exact ⟨rfl, hb2'⟩
  | true =>
    have h0 : (checkP q).1 = 0 := by have := HBB.out; unfold isP at this; simpa using this.symm
    obtain ⟨a1, a2, -, -⟩ := acc_facts h0
    have H0 := Lib.hid h0
    have HPI := Lib.hid (parts_in q (intoP q) (end_last h0) q.length 0 (by omega))
    have HPR := Lib.hid (parts_rise q (intoP q) (end_last h0) q.length 0)
    have hbl : (blocksQ q).length ≤ q.length := blocks_le q (intoP q) q.length 0
    have hil : (intoP q).length = q.length := intoP_len q
    have HIL := Lib.hid hil
    clear h0 hil
    go_wp2_with fail
    refine (Reach_c A cap q HQ.out (by omega) w2 (HR.out.up hb2')).mono ?_
    rintro e w3 hP3
    obtain ⟨v5, rfl, hro5, hb3⟩ : ∃ v, e = .returned (.tuple #[v, .int .i64 0]) ∧ w3.ownsRow w2.heap.size 4 1 v q.length (boolsV (reachV q)) ∧ Below w2.heap.size w2 w3 := by
      rcases hP3 with ⟨h, _⟩ | ⟨_, h⟩
      · exact absurd H0.out h
      · exact h
    clear hP3
    obtain ⟨g5, c5, hv5, -, -⟩ := hro5.form a1
    subst hv5
    have hb3' := below_t hb2' hb3
    have HR5 := Lib.hid (Reads.of_own hro5)
    clear hro5 hb3 hb2'
    go_wp2_with fail
    refine (Blocks_c A cap q HQ.out (by omega) w3 (HR.out.up hb3')).mono ?_
    rintro e w4 hP4
    obtain ⟨v7, vs, rfl, hvl, hro7, hb4⟩ : ∃ v vs, e = .returned (.tuple #[v, .int .i64 0]) ∧ vs.length = (blocksQ q).length ∧ w4.ownsRow w3.heap.size 52 3 v (blocksQ q).length (blkV (blocksQ q) vs) ∧ Below w3.heap.size w3 w4 := by
      rcases hP4 with ⟨h, _⟩ | ⟨_, v, rfl, v', vs, nu, e', h1, h2, h3, -⟩
      · exact absurd H0.out h
      · injection e' with e'; subst e'; exact ⟨v, vs, rfl, h1, h2, h3⟩
    clear hP4
    obtain ⟨A7, c7, hv7, hc7, hr7⟩ : ∃ A7 c7, v7 = .slice A7 (blocksQ q).length c7 ∧ (blocksQ q).length ≤ c7 ∧ Reads w4 w4.heap.size 3 A7 (blocksQ q).length (blkV (blocksQ q) vs) := by
      rcases hro7.2 with ⟨h1, h2⟩ | ⟨g, cap', cur, h1, h2, h3, h4, h5⟩
      · have e0 : blocksQ q = [] := List.eq_nil_of_length_eq_zero h2
        refine ⟨none, 0, by rw [h1, h2], by omega, ?_⟩
        have hn : blkV (blocksQ q) vs = [] := by rw [e0]; cases vs <;> rfl
        rw [hn, e0]; exact Reads.none_
      · subst h1
        exact ⟨_, _, rfl, h4, Reads.of_own hro7⟩
    subst hv7
    have hb4' := below_t hb3' hb4
    have HR54 := Lib.hid (HR5.out.up hb4)
    have HR7 := Lib.hid hr7
    have HVL := Lib.hid hvl
    obtain ⟨ps, hps⟩ : ∃ ps, ps = blocksQ q := ⟨_, rfl⟩
    have HPS := Lib.hid hps
    have HR7' : Hid (Reads w4 w4.heap.size 3 A7 ps.length (blkV ps vs)) := Lib.hid (by rw [hps]; exact hr7)
    have HVL' : Hid (vs.length = ps.length) := Lib.hid (by rw [hps]; exact hvl)
    have HPI' : Hid (∀ k, k < q.length → inParts ps k = if (intoP q).getD k 0 ≠ 0 then 1 else 0) := Lib.hid (by rw [hps]; intro k hk; have := HPI.out k hk; simpa [blocksQ] using this)
    have HPR' : Hid ((∀ p ∈ ps, 0 ≤ p.1 ∧ p.1 < p.2 ∧ p.2 ≤ q.length) ∧ ps.Pairwise (fun a b => a.2 ≤ b.1)) := Lib.hid (by rw [hps]; exact HPR.out)
    rw [← hps] at hbl ⊢
    clear hps hr7 hvl hro7 hb4 hb3' HR7 HVL HR5 HPI HPR
    obtain ⟨w6, hrun, hown, hg⟩ := run_make_full (P := Try.prog) w4 w4.heap.size 36 3 i0 _ 1 Try.underlying36 HI.out.1 HI.out.2.1 HI.out.2.2.1 .i64 .i64 q.length (by rw [HI.out.2.2.2]; omega) (by simp only [maxLen]; omega) (Nat.le_refl _)
    have hb6 : Below w4.heap.size w4 w6 := ⟨hg.os, hg.tape, hg.output, hg.size, fun k hk => hg.block k hk (by simp)⟩
    have hrow : NRow w4.heap.size w4.heap.size q.length (List.replicate q.length 0) w6 := NRow.new (w := w4) hown
    have HROW := Lib.hid hrow
    have hb6' := below_t hb4' hb6
    have HR56 := Lib.hid (HR54.out.below hb6)
    have HR76 := Lib.hid (HR7'.out.below hb6)
    have hgl := hrow.lt a1
    have hq1 : (q.length : Int) ≤ 4096 := by omega
    have hww : w.heap.size ≤ w4.heap.size := hb4'.size
    clear hown hg hrow HR54 HR7' hb4' hb6
    go_wp2_with fail
    clear hrun
    go_loopw [10, 11, 12] (fun lt i u wr => ∃ (k : Nat) (l : List Nat), k ≤ ps.length ∧ i = .int .i64 k ∧ lt = .int .i64 (lastTo ps k) ∧ Hid (NRow w4.heap.size w4.heap.size q.length l wr ∧ (∀ j, j < q.length → l.getD j 0 = inParts (ps.take k) j) ∧ Below w.heap.size w wr ∧ (∀ b o, b < w4.heap.size → wr.cell? ⟨b, o, none⟩ = w6.cell? ⟨b, o, none⟩))) (fun _ i _ _ => ps.length - (intOf i).toNat)
    case atStart =>
      refine ⟨0, _, by omega, rfl, rfl, Lib.hid ⟨HROW.out, fun j hj => ?_, hb6', fun _ _ _ => rfl⟩⟩
      simp [inParts, List.getD_eq_getElem?_getD, List.getElem?_replicate, hj]
    case round =>
      obtain ⟨k, l, hk, rfl, rfl, HW⟩ := hrel
      rcases Nat.lt_or_ge k ps.length with hkl | hkl
      · obtain ⟨hn1, hn2, hBw, hsame⟩ := HW.out
        obtain ⟨p, hp⟩ : ∃ p, ps[k]? = some p := ⟨_, List.getElem?_eq_getElem hkl⟩
        obtain ⟨u2, hu2⟩ : ∃ u, vs[k]? = some u := ⟨_, List.getElem?_eq_getElem (by rw [HVL'.out]; exact hkl)⟩
        obtain ⟨pr1, pr2, pr3⟩ := HPR'.out.1 p (List.mem_of_getElem? hp)
        have hlast : lastTo ps k ≤ p.1 := by
          unfold lastTo
          cases k with
          | zero => exact Nat.zero_le _
          | succ k =>
            have hk1 : k < ps.length := by omega
            have h1 := List.pairwise_iff_getElem.1 HPR'.out.2 k (k + 1) hk1 hkl (by omega)
            have h2 : ps[k + 1] = p := by have := List.getElem?_eq_getElem hkl; rw [hp] at this; exact (Option.some.inj this).symm
            rw [h2] at h1
            simp only [List.getD_eq_getElem?_getD, List.getElem?_eq_getElem hk1, Option.getD_some]
            exact h1
        obtain ⟨g0, g1, g2⟩ := blkV_get ps vs k p u2 hp hu2
        obtain ⟨b7, o7, hA7, hb7, hc7'⟩ := HR76.out.2 (by omega)
        subst hA7
        have HCF : Hid (∀ W : World, (∀ b o, b < w4.heap.size → W.cell? ⟨b, o, none⟩ = w6.cell? ⟨b, o, none⟩) → W.cell? ⟨b7, o7 + k * 3, none⟩ = some (.int .i64 p.1) ∧ W.cell? ⟨b7, o7 + k * 3 + 1, none⟩ = some (.int .i64 p.2)) := Lib.hid (fun W h => ⟨(h _ _ hb7).trans (hc7' _ _ g0), (h _ _ hb7).trans (by rw [Nat.add_assoc]; exact hc7' _ _ g1)⟩)
        obtain ⟨cf, ct⟩ := HCF.out wr hsame
        have hkl' : (k : Int) < ps.length := by omega
        have t1 : decide (p.1 < lastTo ps k) = false := decide_eq_false (by omega)
        have t2 : decide (p.2 ≤ p.1) = false := decide_eq_false (by omega)
        have t3 : decide (q.length < p.2) = false := decide_eq_false (by omega)
        have HN1 := Lib.hid hn1
        have HN2 := Lib.hid hn2
        have HBW := Lib.hid hBw
        have HSM := Lib.hid hsame
        have HP := Lib.hid hp
        clear hn1 hn2 hBw hsame g0 g1 g2 hc7' hlast hp hu2
        go_wp2
        go_quiet (fail)
        go_wp2_with fail
        go_loopw [12] (fun u wr2 => ∃ (m : Nat) (l2 : List Nat), p.1 ≤ m ∧ m ≤ p.2 ∧ u = .int .i64 m ∧ Hid (NRow w4.heap.size w4.heap.size q.length l2 wr2 ∧ (∀ j, j < q.length → l2.getD j 0 = inParts (ps.take k) j + if p.1 ≤ j ∧ j < m then 1 else 0) ∧ Below w.heap.size w wr2 ∧ (∀ b o, b < w4.heap.size → wr2.cell? ⟨b, o, none⟩ = w6.cell? ⟨b, o, none⟩))) (fun u _ => p.2 - (intOf u).toNat)
        case atStart => exact ⟨p.1, l, Nat.le_refl _, by omega, rfl, Lib.hid ⟨HN1.out.keep (below_drN (Below.refl _ _) _), fun j hj => by rw [HN2.out j hj, if_neg (by omega)]; rfl, below_drN HBW.out _, HSM.out⟩⟩
        case round =>
          obtain ⟨m, l2, hm1, hm2, rfl, HW2⟩ := hrel
          obtain ⟨hn3, hn4, hBw2, hsame2⟩ := HW2.out
          obtain ⟨cf, ct⟩ := HCF.out wr hsame2
          rcases Nat.lt_or_ge m p.2 with hml | hml
          · have hmq : m < q.length := by omega
            have cm := hn3.get hmq
            have fm := hn3.free m
            have hval := hn4 m hmq
            rw [if_neg (by omega)] at hval
            have hle : inParts (ps.take k) m ≤ ps.length := by unfold inParts; exact Nat.le_trans List.countP_le_length (by rw [List.length_take]; omega)
            obtain ⟨y, hy⟩ : ∃ y, y = l2.getD m 0 := ⟨_, rfl⟩
            rw [← hy] at cm hval
            have hy2 : (y : Int) ≤ 4096 := by omega
            have hml' : (m : Int) < p.2 := by omega
            have hmq' : (m : Int) < q.length := by omega
            have HN3 := Lib.hid hn3
            have HN4 := Lib.hid hn4
            have HBW2 := Lib.hid hBw2
            have HSM2 := Lib.hid hsame2
            have HY := Lib.hid hy
            clear hn3 hn4 hBw2 hsame2 hval hle hy
            go_wp2
            go_roundw
            case rel =>
              refine ⟨m + 1, l2.modify m (· + 1), by omega, by omega, by go_num, Lib.hid ⟨?_, fun j hj => ?_, HBW2.out.setCell (p := ⟨w4.heap.size, m, none⟩) hww _, fun b o hb => (World.cell?_setCell_far _ _ _ _ (by show w4.heap.size ≠ b; omega)).trans (HSM2.out b o hb)⟩⟩
              · have h := HN3.out.bump hmq
                rw [← HY.out] at h
                exact h
              · rw [getD_mod _ _ _ (by rw [HN3.out.1]; exact hmq), HN4.out j hj]
                by_cases e : m = j
                · subst e; rw [if_neg (by omega), if_pos rfl, if_pos (by omega)]
                · rw [if_neg e]
                  by_cases e2 : p.1 ≤ j ∧ j < m
                  · rw [if_pos e2, if_pos (by omega)]
                  · rw [if_neg e2, if_neg (by omega)]
            case measure => simp [intOf]; omega
          · obtain rfl : m = p.2 := by omega
            have hml' : (p.2 : Int) ≤ p.2 := Int.le_refl _
            have HW3 := Lib.hid HW2.out
            clear hn3 hn4 hBw2 hsame2 hml'
            go_wp2
            go_roundw
            case rel =>
              refine ⟨k + 1, l2, by omega, by go_num, ?_, Lib.hid ⟨HW2.out.1, fun j hj => ?_, HW2.out.2.2.1, HW2.out.2.2.2⟩⟩
              · simp [lastTo, List.getD_eq_getElem?_getD, HP.out]
              · rw [HW2.out.2.1 j hj, inParts_take HP.out j]
            case measure => simp [intOf]; omega
      · obtain rfl : k = ps.length := by omega
        have HW4 := Lib.hid HW.out
        go_wp2_with fail
        go_loopw [13] (fun i wr2 => ∃ n : Nat, n ≤ q.length ∧ i = .int .i64 n ∧ Hid (NRow w4.heap.size w4.heap.size q.length l wr2 ∧ Below w.heap.size w wr2 ∧ (∀ b o, b < w4.heap.size → wr2.cell? ⟨b, o, none⟩ = w6.cell? ⟨b, o, none⟩))) (fun i _ => q.length - (intOf i).toNat)
        case atStart => exact ⟨0, by omega, rfl, Lib.hid ⟨HW4.out.1, HW4.out.2.2.1, HW4.out.2.2.2⟩⟩
        case round =>
          obtain ⟨n, hn, rfl, HW5⟩ := hrel
          rcases Nat.lt_or_ge n q.length with hnl | hnl
          · have cm := HW5.out.1.get hnl
            have hval : l.getD n 0 = if (intoP q).getD n 0 ≠ 0 then 1 else 0 := by
              have h1 := HW4.out.2.1 n hnl
              rw [List.take_length] at h1
              rw [h1, HPI'.out n hnl]
            obtain ⟨b5, o5, e5, hl5, hc5⟩ := HR56.out.2 a1
            injection e5 with e5; injection e5 with e5a e5b
            subst e5a e5b
            have hrb : (boolsV (reachV q))[n]? = some (.bool (decide (0 < (intoP q).getD n 0))) := by
              have h2 : (intoP q)[n]? = some ((intoP q).getD n 0) := by rw [List.getD_eq_getElem?_getD, List.getElem?_eq_getElem (by rw [HIL.out]; exact hnl)]; rfl
              simp only [boolsV, reachV, List.getElem?_map, h2, Option.map_some]
            have cr := (HW5.out.2.2 _ _ hl5).trans (hc5 n _ hrb)
            rw [Nat.zero_add] at cr
            have hnl' : (n : Int) < q.length := by omega
            have HBB2 := Lib.hid HW5.out
            clear hrb hc5
            by_cases hz : (intoP q).getD n 0 = 0
            · rw [if_neg (by simpa using hz)] at hval
              rw [hval] at cm
              rw [decide_eq_false (by omega : ¬ 0 < (intoP q).getD n 0)] at cr
              have cm : wr.cell? ⟨w4.heap.size, n, none⟩ = some (.int .i64 0) := cm
              clear hval hz
              go_wp2
              go_quiet (fail)
              go_wp2
              go_roundw
              case rel => exact ⟨n + 1, by omega, by go_num, Lib.hid ⟨HBB2.out.1.keep (below_drN (Below.refl _ _) _), below_drN HBB2.out.2.1 _, HBB2.out.2.2⟩⟩
              case measure => simp [intOf]; omega
            · rw [if_pos hz] at hval
              rw [hval] at cm
              rw [decide_eq_true (by omega : 0 < (intoP q).getD n 0)] at cr
              have cm : wr.cell? ⟨w4.heap.size, n, none⟩ = some (.int .i64 1) := cm
              clear hval hz
              go_wp2
              go_quiet (fail)
              go_wp2
              go_roundw
              case rel => exact ⟨n + 1, by omega, by go_num, Lib.hid ⟨HBB2.out.1.keep (below_drN (Below.refl _ _) _), below_drN HBB2.out.2.1 _, HBB2.out.2.2⟩⟩
              case measure => simp [intOf]; omega
          · have hf := HW5.out.2.1
            go_wp2
            go_ret
            exact ⟨rfl, hf⟩
/-! ### the row of FlowParts -/
set_option maxRecDepth 100000 in
theorem FlowParts_lifted (os : Os) (started : os.Started) (H : Type) (enc : TypeId × Value → H) :
    ReturnsInHanded {} Try.checked os 10 .any (Rows.flowPartsSpec.pre6 enc Try.prog Try.f10 Rows.flowPartsRow.domain false) (Rows.flowPartsSpec.post enc Try.prog Try.f10 false true false false) := by
  refine returnsInHanded_of_change_sized (C := Try.checked) ownNone started (by kernel_rfl) Try.func10
    (ChangeSpec.witness6 (enc := enc) (C := Try.checked) false ⟨#[], #[.slice none 0 0], []⟩ 8 (by kernel_rfl) (by kernel_rfl) (by kernel_rfl) (by kernel_rfl)) ?_
  intro W base args ds gs before hval0 hW hcnd hsz0 _
  have hsz : (DataW.weightsEach Try.prog (Try.f10.params.toList ++ Rows.flowPartsSpec.plain.varTypes Try.prog) (ds ++ gs)).all (· ≤ reachBytes) = true := hsz0
  have hval : ∀ (j : Nat) t v, Try.f10.params[j]? = some t → args[j]? = some v → Value.okWide Try.prog W .any base t v := hval0
  have hW' := hW
  obtain ⟨p, q, hA0, hV, rfl, hfz, hnd⟩ := hW
  have hA : DataW.TrodAll enc Try.prog W 0 (fun _ => true) true Try.f10.params.toList args.toList ds p := hA0
  rw [Try.params10] at hA hval hsz
  obtain ⟨v0, vs0, d0, ds0, p0, q0, hargs, rfl, rfl, h0, r0⟩ := trodAll_cons hA
  obtain ⟨rfl, rfl, rfl⟩ := trodAll_nil r0
  obtain rfl : args = #[v0] := by cases args; simp_all
  obtain ⟨rfl, rfl⟩ := trodVars_none hV
  obtain ⟨a0, len0, cap0, rfl⟩ := okWide_slice Try.underlying22 (hval 0 22 v0 rfl rfl)
  have k0 := h0
  have lt0 : ∀ x ∈ p0, x.block < W.heap.size := by obtain ⟨m, hm⟩ := k0; exact DataW.trod_lt m _ _ _ hm
  obtain ⟨xs0, hl0, hr0, ho0, hc0, ha0, hb0⟩ := open_rows (α := I4) (j := 0) I4.cells I4.ok 4 8 Try.underlying22 (by kernel_rfl) (by decide) (fun _ => rfl) (by kernel_rfl) insn_cells hsz rfl rfl h0
  subst hl0
  clear hA0 hval0 hsz0 hsz
  refine (FlowParts_w a0 cap0 xs0 W ho0 hc0 ha0 hb0 hr0).mono fun e W' ⟨he, bel⟩ => ?_
  subst he
  exact ⟨_, rfl, _, _, _, [], _, [], hW', trodAll_mk1 (shut_bool Try.underlying4 _), (trodAll_cons_mk (Below.trod laidOutB_ (by kernel_rfl) (of_decide_eq_true (by kernel_rfl)) k0 bel lt0) trodAll_mk0), rfl, bel.frame _, fun h => by cases h⟩
theorem FlowParts_holds : Rows.FlowPartsSaid :=
  OpenClaim.holds_of_wide 10 Try.f10 rfl rfl rfl rfl rfl rfl rfl ⟨rfl, rfl, rfl, rfl, rfl⟩ rfl rfl rfl rfl rfl (by kernel_rfl) Try.func10 (by kernel_rfl)
    (of_decide_eq_true (by kernel_rfl)) (by unfold Func.isWrapper; first | (rw [if_pos (by decide +kernel)]; kernel_rfl) | (rw [if_neg (by decide +kernel)]; exact ⟨rfl, rfl⟩))
    (fun os started H enc _ => FlowParts_lifted os started H enc)
#print axioms FlowParts_holds
end Go.Proofs.Ytapmpegblfcknaa
