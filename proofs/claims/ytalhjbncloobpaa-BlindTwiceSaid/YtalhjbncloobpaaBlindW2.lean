import Derived.Test.YtalhjbncloobpaaBlindW1
import Derived.Test.YtalhjbncloobpaaMirW4
set_option linter.unusedVariables false
set_option linter.unusedSimpArgs false
namespace Go.Proofs.Ytalhjbncloobpaa
open Go.RowKit
/-! blind.Count and the reference's: the walks. -/
theorem IrAt.up {w w1 : World} (hb : Below w.heap.size w w1) {b o : Nat} {x : R7} (h : IrAt w b o x) : IrAt w1 b o x := h.keep hb
def CountPost (w : World) (regs : Int) (q : List R7) (e : Ending) (w' : World) : Prop := e = .returned (.tuple #[.int .i64 (countP regs q).1, .int .i64 (countP regs q).2]) ∧ Below w.heap.size w w'
theorem hids_add {q : List R7} {n : Nat} {x : R7} {B : Bool} (hx : q[n]? = some x) (hB : B = hidB x) : hids (q.take (n + 1)) = hids (q.take n) + (if B = true then 1 else 0) := by rw [hids_succ hx, hB]
theorem hids_all {q : List R7} {n : Nat} (h : n = q.length) : hids (q.take n) = hids q := by rw [h, List.take_length]
set_option maxHeartbeats 800000 in
theorem Count_c (A : Option Addr) (regs : Int) (cap : Nat) (q : List R7) (hq : ∀ x ∈ q, x.ok) (hn : q.length ≤ 9223372036854775807) (w : World) (hr : Reads w w.heap.size 7 A q.length (cellsR q)) :
    Calls Try.prog 21 #[.agg #[.int .i64 regs, .slice A q.length cap]] w (CountPost w regs q) := by
  have HR := Lib.hid hr
  have HQ := Lib.hid hq
  clear hr hq
  obtain ⟨E, hE⟩ : ∃ E, E = (mcheckP regs q).1 := ⟨_, rfl⟩
  have HE := Lib.hid hE
  by_cases hz : E = 0
  · have hl := (mcheckP_zero (hE.symm.trans hz)).2.2.2.1
    have HV := Lib.hid (show countP regs q = ((hids q : Int), 0) by unfold countP; rw [if_neg (by rw [← hE]; simpa using hz)])
    have t1 : (E != 0) = false := by simpa using hz
    clear hE hz
    go_enter Try.func21, Try.ntmps21
    go_wp2_with fail
    refine (MCheck_c A regs cap q HQ.out hn _ (HR.out.up (below1 w _))).mono ?_
    rintro e w1 ⟨rfl, hb1⟩
    rw [← HE.out]
    have c1 : w1.cell? ⟨w.heap.size, 1, none⟩ = some (.slice A q.length cap) := keepC hb1 (by simp [go_sem])
    have hb1' := below_t (below1 w _) hb1
    clear hb1
    go_wp2_with fail
    go_loopw [6, 19] (fun c i wr => ∃ n : Nat, n ≤ q.length ∧ i = .int .i64 n ∧ c = .int .i64 (hids (q.take n)) ∧ Below w.heap.size w wr) (fun _ i _ => q.length - (intOf i).toNat)
    case atStart => exact ⟨0, by omega, rfl, by simp [hids], hb1'⟩
    case round =>
      obtain ⟨n, hn6, rfl, rfl, hBw⟩ := hrel
      by_cases h6 : n < q.length
      · obtain ⟨x, hx⟩ : ∃ x, q[n]? = some x := ⟨_, List.getElem?_eq_getElem h6⟩
        obtain ⟨b, off, he, hb, i0, i1, i2, i3, i4, i5, i6⟩ := (HR.out.up hBw).ir hx
        subst he
        have hlt1 : (n : Int) < q.length := by omega
        have HXO := Lib.hid (HQ.out x (List.mem_of_getElem? hx))
        have hh := hids_le q n
        have HX := Lib.hid hx
        clear hx
        go_wp2_with fail
        refine (hidden_c x HXO.out _).mono ?_
        rintro e w2 ⟨rfl, hb2⟩
        have hb2' := below_t (below_al hBw _) hb2
        clear hb2
        obtain ⟨B, hB⟩ : ∃ B, B = hidB x := ⟨_, rfl⟩
        have HB := Lib.hid (hids_add HX.out hB)
        rw [← hB]
        clear hB
        cases B with
        | true =>
          go_wp2
          go_roundw
          case rel => exact ⟨n + 1, by omega, by go_num, by rw [HB.out]; go_num, hb2'⟩
          case measure => simp [intOf]; omega
        | false =>
          go_wp2
          go_roundw
          case rel => exact ⟨n + 1, by omega, by go_num, by rw [HB.out]; go_num, hb2'⟩
          case measure => simp [intOf]; omega
      · have hq := hids_all (q := q) (n := n) (by omega)
        have HQ2 := Lib.hid hq
        clear hq
        go_wp2
        refine bodyPost_ret (v := .tuple #[.int .i64 (hids (q.take n)), .int .i64 0]) (by simp [results, Try.results21, go_sem]) rfl ⟨?_, hBw⟩
        rw [HV.out, HQ2.out]
  · have HV := Lib.hid (show countP regs q = (0, 1) by unfold countP; rw [if_pos (by rw [← hE]; simpa using hz)])
    have t1 : (E != 0) = true := by simpa using hz
    clear hE hz
    go_enter Try.func21, Try.ntmps21
    go_wp2_with fail
    refine (MCheck_c A regs cap q HQ.out hn _ (HR.out.up (below1 w _))).mono ?_
    rintro e w1 ⟨rfl, hb1⟩
    rw [← HE.out]
    go_wp2
    refine bodyPost_ret (v := .tuple #[.int .i64 0, .int .i64 1]) (by simp [results, Try.results21, go_sem]) rfl ⟨?_, below_t (below1 w _) hb1⟩
    rw [HV.out]
set_option maxHeartbeats 800000 in
theorem rCount_c (A : Option Addr) (regs : Int) (cap : Nat) (q : List R7) (hq : ∀ x ∈ q, x.ok) (hn : q.length ≤ 9223372036854775807) (w : World) (hr : Reads w w.heap.size 7 A q.length (cellsR q)) :
    Calls Try.prog 22 #[.agg #[.int .i64 regs, .slice A q.length cap]] w (CountPost w regs q) := by
  have HR := Lib.hid hr
  have HQ := Lib.hid hq
  clear hr hq
  obtain ⟨E, hE⟩ : ∃ E, E = (mcheckP regs q).1 := ⟨_, rfl⟩
  have HE := Lib.hid hE
  by_cases hz : E = 0
  · have hl := (mcheckP_zero (hE.symm.trans hz)).2.2.2.1
    have HV := Lib.hid (show countP regs q = ((hids q : Int), 0) by unfold countP; rw [if_neg (by rw [← hE]; simpa using hz)])
    have t1 : (E != 0) = false := by simpa using hz
    clear hE hz
    go_enter Try.func22, Try.ntmps22
    go_wp2_with fail
    refine (rMCheck_c A regs cap q HQ.out hn _ (HR.out.up (below1 w _))).mono ?_
    rintro e w1 ⟨rfl, hb1⟩
    rw [← HE.out]
    have c1 : w1.cell? ⟨w.heap.size, 1, none⟩ = some (.slice A q.length cap) := keepC hb1 (by simp [go_sem])
    have hb1' := below_t (below1 w _) hb1
    have hs1 : w.heap.size < w1.heap.size := by have := hb1.size; simp at this; omega
    clear hb1
    go_wp2_with fail
    go_loopw [6, 7] (fun c i wr => ∃ n : Nat, n ≤ q.length ∧ i = .int .i64 n ∧ c = .int .i64 (hids (q.take n)) ∧ Below w.heap.size w wr ∧ wr.cell? ⟨w.heap.size, 1, none⟩ = some (.slice A q.length cap)) (fun _ i _ => q.length - (intOf i).toNat)
    case atStart => exact ⟨0, by omega, rfl, by simp [hids], hb1', c1⟩
    case round =>
      obtain ⟨n, hn6, rfl, rfl, hBw, cr⟩ := hrel
      by_cases h6 : n < q.length
      · obtain ⟨x, hx⟩ : ∃ x, q[n]? = some x := ⟨_, List.getElem?_eq_getElem h6⟩
        obtain ⟨b, off, he, hb, i0, i1, i2, i3, i4, i5, i6⟩ := (HR.out.up hBw).ir hx
        subst he
        have hlt1 : (n : Int) < q.length := by omega
        have HXO := Lib.hid (HQ.out x (List.mem_of_getElem? hx))
        have hh := hids_le q n
        have HX := Lib.hid hx
        clear hx
        go_wp2_with fail
        refine (rhidden_c x HXO.out _).mono ?_
        rintro e w2 ⟨rfl, hb2⟩
        have hb2' := below_t hBw hb2
        have cr2 := keepC hb2 cr
        clear hb2
        obtain ⟨B, hB⟩ : ∃ B, B = hidB x := ⟨_, rfl⟩
        have HB := Lib.hid (hids_add HX.out hB)
        rw [← hB]
        clear hB
        cases B with
        | true =>
          go_wp2
          go_roundw
          case rel => exact ⟨n + 1, by omega, by go_num, by rw [HB.out]; go_num, hb2', cr2⟩
          case measure => simp [intOf]; omega
        | false =>
          go_wp2
          go_roundw
          case rel => exact ⟨n + 1, by omega, by go_num, by rw [HB.out]; go_num, hb2', cr2⟩
          case measure => simp [intOf]; omega
      · have hq := hids_all (q := q) (n := n) (by omega)
        have HQ2 := Lib.hid hq
        clear hq
        go_wp2
        refine bodyPost_ret (v := .tuple #[.int .i64 (hids (q.take n)), .int .i64 0]) (by simp [results, Try.results22, go_sem]) rfl ⟨?_, hBw⟩
        rw [HV.out, HQ2.out]
  · have HV := Lib.hid (show countP regs q = (0, 1) by unfold countP; rw [if_pos (by rw [← hE]; simpa using hz)])
    have t1 : (E != 0) = true := by simpa using hz
    clear hE hz
    go_enter Try.func22, Try.ntmps22
    go_wp2_with fail
    refine (rMCheck_c A regs cap q HQ.out hn _ (HR.out.up (below1 w _))).mono ?_
    rintro e w1 ⟨rfl, hb1⟩
    rw [← HE.out]
    go_wp2
    refine bodyPost_ret (v := .tuple #[.int .i64 0, .int .i64 1]) (by simp [results, Try.results22, go_sem]) rfl ⟨?_, below_t (below1 w _) hb1⟩
    rw [HV.out]
end Go.Proofs.Ytalhjbncloobpaa
