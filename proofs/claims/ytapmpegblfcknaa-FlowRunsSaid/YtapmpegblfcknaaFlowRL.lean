import Derived.Test.YtapmpegblfcknaaFlowRR
import Derived.Test.YtapmpegblfcknaaFlowLong
set_option linter.unusedVariables false
set_option linter.unusedSimpArgs false
namespace Go.Proofs.Ytapmpegblfcknaa
open Go.RowKit Go.Shelf
/-! The reference's Longest. -/
theorem longTo_len (q : List I4) (k : Nat) : (longTo q k).length = q.length := by
  induction k with
  | zero => simp [longTo]
  | succ k ih => rw [longTo_succ]; unfold longStep; simp [maxTo_len, ih]
theorem NRow.get' {B g m : Nat} {l : List Nat} {W : World} (h : NRow B g m l W) {j : Nat} (hj : j < m) {y : Nat} (hy : y = l.getD j 0) : W.cell? ⟨g, j, none⟩ = some (.int .i64 y) := by rw [hy]; exact h.get hj
set_option maxRecDepth 100000 in
set_option maxHeartbeats 1600000 in
theorem rLongest_c (A : Option Addr) (cap : Nat) (q : List I4) (h0 : (checkP q).1 = 0) (hok : ∀ x ∈ q, x.ok) (w : World) (hr : Reads w w.heap.size 4 A q.length (cellsI q)) :
    Calls Try.prog 34 #[.slice A q.length cap] w fun e w' => e = .returned (.int .i64 (longP q)) ∧ Below w.heap.size w w' := by
  obtain ⟨a1, a2, -, -⟩ := acc_facts h0
  have HR := Lib.hid hr
  have HOK := Lib.hid hok
  clear hr hok h0
  obtain ⟨i0, HI⟩ : ∃ i0, Hid (Try.prog.info? 3 = some i0 ∧ i0.zero = some (.int .i64 0) ∧ i0.size = 1 ∧ i0.bytes = 8) := by
    obtain ⟨i0, hi, hz0, hz1, hz2⟩ := info_parts infoInt
    exact ⟨i0, Lib.hid ⟨hi, hz0, hz1, hz2⟩⟩
  obtain ⟨w1, hrun, hown, hg⟩ := run_make_full (P := Try.prog) w w.heap.size 36 3 i0 _ 1 Try.underlying36 HI.out.1 HI.out.2.1 HI.out.2.2.1 .i64 .i64 q.length (by rw [HI.out.2.2.2]; omega) (by simp only [maxLen]; omega) (Nat.le_refl _)
  have hb1 : Below w.heap.size w w1 := ⟨hg.os, hg.tape, hg.output, hg.size, fun k hk => hg.block k hk (by simp)⟩
  have hrow : NRow w.heap.size w.heap.size q.length (List.replicate q.length 0) w1 := NRow.new (w := w) hown
  have hq1 : (0 : Int) < q.length := by omega
  have hq2 : (q.length : Int) ≤ 4096 := by omega
  have HS : Hid (NRow w.heap.size w.heap.size q.length (longTo q 0) w1 ∧ Below w.heap.size w w1) := Lib.hid ⟨hrow, hb1⟩
  clear hown hg hrow hb1
  go_enter Try.func34, Try.ntmps34
  go_wp2_with fail
  clear hrun
  go_loopw [4] (fun i wr => ∃ n : Nat, n ≤ q.length ∧ i = .int .i64 ((q.length : Int) - 1 - n) ∧ Hid (NRow w.heap.size w.heap.size q.length (longTo q n) wr ∧ Below w.heap.size w wr)) (fun i _ => (intOf i + 1).toNat)
  case atStart => exact ⟨0, by omega, by go_num, HS⟩
  case round =>
    obtain ⟨n, hn, rfl, HW⟩ := hrel
    clear HS
    rcases Nat.lt_or_ge n q.length with hnl | hnl
    · obtain ⟨p, hp⟩ : ∃ p, p + n + 1 = q.length := ⟨q.length - 1 - n, by omega⟩
      have hpe : (q.length : Int) - 1 - n = p := by omega
      have hpl : p < q.length := by omega
      have hpl' : (p : Int) < q.length := by omega
      rw [hpe]
      have HPE := Lib.hid hpe
      have HPP := Lib.hid hp
      clear hpe hp
      go_wp2_with fail
      refine (rNext_c A cap q p hpl HOK.out (by omega) wr (HR.out.up HW.out.2)).mono ?_
      rintro e w3 hP
      obtain ⟨An, cn, rfl, HRn, hb3⟩ := hP.row
      have hgl := HW.out.1.lt a1
      obtain ⟨L, hL⟩ : ∃ L, L = nextQ q p := ⟨_, rfl⟩
      have HM : Hid (∀ t ∈ L, t < q.length) := Lib.hid (fun t ht => (nextQ_mem HOK.out (by rw [← hL]; exact ht)).2)
      have hL2 : (L.length : Int) ≤ 2 := by have := nextQ_len q p; rw [← hL] at this; omega
      rw [← hL] at HRn ⊢
      have HL := Lib.hid hL
      obtain ⟨X, hX⟩ : ∃ X, X = wr.heap.size := ⟨_, rfl⟩
      rw [← hX] at HRn hgl
      have HS3 : Hid (NRow w.heap.size w.heap.size q.length (maxTo p (longTo q n) (L.take 0)) w3 ∧ Below w.heap.size w w3 ∧ LRow X An cn L w3) := Lib.hid ⟨HW.out.1.keep hb3, below_t HW.out.2 hb3, HRn.out⟩
      clear hL hP hb3 hX HRn
      go_wp2_with fail
      go_loopw [6] (fun k wr2 => ∃ m : Nat, m ≤ L.length ∧ k = .int .i64 m ∧ Hid (NRow w.heap.size w.heap.size q.length (maxTo p (longTo q n) (L.take m)) wr2 ∧ Below w.heap.size w wr2 ∧ LRow X An cn L wr2)) (fun k _ => L.length - (intOf k).toNat)
      case atStart => exact ⟨0, by omega, rfl, HS3⟩
      case round =>
        obtain ⟨m, hm, rfl, HW2⟩ := hrel
        clear HS3
        rcases Nat.lt_or_ge m L.length with hml | hml
        · obtain ⟨y, hy⟩ : ∃ y, L[m]? = some y := ⟨_, List.getElem?_eq_getElem hml⟩
          obtain ⟨gA, rfl, hgA, cy⟩ := HW2.out.2.2.get hy
          have hyq : (y : Int) < q.length := by have := HM.out y (List.mem_of_getElem? hy); omega
          have hyq2 : y < q.length := by omega
          have hml' : (m : Int) < L.length := by omega
          obtain ⟨u, hu⟩ : ∃ u, u = (maxTo p (longTo q n) (L.take m)).getD p 0 := ⟨_, rfl⟩
          obtain ⟨v, hv⟩ : ∃ v, v = (maxTo p (longTo q n) (L.take m)).getD y 0 := ⟨_, rfl⟩
          have c1 := HW2.out.1.get' hyq2 hv
          have c2 := HW2.out.1.get' hpl hu
          have f2 := HW2.out.1.free p
          have HY := Lib.hid (take_snocN hy)
          have emax : ((max u v : Nat) : Int) = (if u < v then (v : Int) else (u : Int)) := by split <;> omega
          have HN2 : Hid (NRow w.heap.size w.heap.size q.length (maxTo p (longTo q n) (L.take (m + 1))) (wr.setCell ⟨w.heap.size, p, none⟩ (.int .i64 (if u < v then (v : Int) else (u : Int)))).drew ∧ Below w.heap.size w (wr.setCell ⟨w.heap.size, p, none⟩ (.int .i64 (if u < v then (v : Int) else (u : Int)))).drew ∧ LRow X (some ⟨gA, 0, none⟩) cn L (wr.setCell ⟨w.heap.size, p, none⟩ (.int .i64 (if u < v then (v : Int) else (u : Int)))).drew) :=
            Lib.hid ⟨by
              rw [HY.out, maxTo_snoc, ← hu, ← hv, ← emax]
              exact (HW2.out.1.set p _).keep (below_dr (Below.refl _ _)), below_dr (HW2.out.2.1.setCell (p := ⟨w.heap.size, p, none⟩) (Nat.le_refl _) _), (HW2.out.2.2.other (a := ⟨w.heap.size, p, none⟩) (show w.heap.size < X by omega) _).drN 1⟩
          clear hy hu hv emax
          go_wp2_with fail
          refine wp_tail 15 (by kernel_rfl) (by kernel_rfl) ?_
          simp only [List.take_succ_cons, List.take_zero, List.drop_succ_cons, List.drop_zero]
          repeat still_step
          refine wpStill_nil ?_
          go_wp2
          go_roundw
          case rel => exact ⟨m + 1, by omega, by go_num, HN2⟩
          case measure => simp [intOf]; omega
        · obtain rfl : m = L.length := by omega
          obtain ⟨u, hu⟩ : ∃ u, u = (maxTo p (longTo q n) L).getD p 0 := ⟨_, rfl⟩
          have hrow := HW2.out.1
          rw [List.take_length] at hrow
          have c2 := hrow.get' hpl hu
          have f2 := hrow.free p
          have hend : Hid (NRow w.heap.size w.heap.size q.length (longTo q (n + 1)) (wr.setCell ⟨w.heap.size, p, none⟩ (.int .i64 ((u : Int) + 1))) ∧ Below w.heap.size w (wr.setCell ⟨w.heap.size, p, none⟩ (.int .i64 ((u : Int) + 1)))) := Lib.hid ⟨by
              rw [longTo_succ, show q.length - 1 - n = p by have := HPP.out; omega]
              unfold longStep
              rw [← HL.out, hu]
              exact hrow.bump hpl, HW2.out.2.1.setCell (p := ⟨w.heap.size, p, none⟩) (Nat.le_refl _) _⟩
          have hub : (u : Int) ≤ 4096 := by
            have h1 := maxTo_le p n L (longTo q n) (longTo_le q n) p
            omega
          clear hrow hu
          go_wp2
          go_roundw
          case rel => exact ⟨n + 1, by omega, by have := HPE.out; go_num, hend⟩
          case measure => have := HPE.out; simp [intOf] <;> omega
    · obtain rfl : n = q.length := by omega
      have hv := HW.out.1.get a1
      have HB := Lib.hid HW.out.2
      have hv : wr.cell? ⟨w.heap.size, 0, none⟩ = some (.int .i64 (longP q)) := hv
      go_wp2
      go_ret
      exact ⟨rfl, HB.out⟩
end Go.Proofs.Ytapmpegblfcknaa
