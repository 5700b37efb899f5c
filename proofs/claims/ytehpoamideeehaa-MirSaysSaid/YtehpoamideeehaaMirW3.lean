import Derived.Test.YtehpoamideeehaaMirW2
set_option linter.unusedVariables false
set_option linter.unusedSimpArgs false
namespace Go.Proofs.Ytehpoamideeehaa
open Go.RowKit
/-! ravelinref12.Names, One: the walks. -/
def namesV (d a b t f : Bool) : Value := .tuple #[.bool d, .bool a, .bool b, .bool t, .bool f]
theorem regB_no (r regs : Int) : regB false r regs = true := rfl
theorem regB_neg {r regs : Int} (h : r < 0) : regB true r regs = false := by simp [regB]; omega
theorem regB_big {r regs : Int} (h : regs ≤ r) : regB true r regs = false := by simp [regB]; omega
theorem regB_ok {r regs : Int} (h : 0 ≤ r) (h' : r < regs) : regB true r regs = true := by simp [regB]; omega
theorem aheadB_no (r a n : Int) : aheadB false r a n = true := rfl
theorem aheadB_neg {r a n : Int} (h : r ≤ a) : aheadB true r a n = false := by simp [aheadB]; omega
theorem aheadB_big {r a n : Int} (h : n ≤ r) : aheadB true r a n = false := by simp [aheadB]; omega
theorem aheadB_ok {r a n : Int} (h : a < r) (h' : r < n) : aheadB true r a n = true := by simp [aheadB]; omega

theorem Names_1 (w : World) : Calls Try.prog 51 #[.int .i64 1] w fun e w' => e = .returned (namesV true false false false false) ∧ w = w' := by
  go_enter Try.func51, Try.ntmps51
  go_wp2
  refine bodyPost_ret (v := .tuple #[.bool true, .bool false, .bool false, .bool false, .bool false]) (by simp [results, Try.results51, go_sem]) rfl ⟨rfl, rfl⟩

theorem Names_3 (w : World) : Calls Try.prog 51 #[.int .i64 3] w fun e w' => e = .returned (namesV true false false false false) ∧ w = w' := by
  go_enter Try.func51, Try.ntmps51
  go_wp2
  refine bodyPost_ret (v := .tuple #[.bool true, .bool false, .bool false, .bool false, .bool false]) (by simp [results, Try.results51, go_sem]) rfl ⟨rfl, rfl⟩

theorem Names_2 (w : World) : Calls Try.prog 51 #[.int .i64 2] w fun e w' => e = .returned (namesV true true false false false) ∧ w = w' := by
  go_enter Try.func51, Try.ntmps51
  go_wp2
  refine bodyPost_ret (v := .tuple #[.bool true, .bool true, .bool false, .bool false, .bool false]) (by simp [results, Try.results51, go_sem]) rfl ⟨rfl, rfl⟩

theorem Names_13 (w : World) : Calls Try.prog 51 #[.int .i64 13] w fun e w' => e = .returned (namesV true true false false false) ∧ w = w' := by
  go_enter Try.func51, Try.ntmps51
  go_wp2
  refine bodyPost_ret (v := .tuple #[.bool true, .bool true, .bool false, .bool false, .bool false]) (by simp [results, Try.results51, go_sem]) rfl ⟨rfl, rfl⟩

theorem Names_mid (o : Int) (g0 : 4 ≤ o) (g1 : o ≤ 12) (w : World) : Calls Try.prog 51 #[.int .i64 o] w fun e w' => e = .returned (namesV true true true false false) ∧ w = w' := by
  have n1 : (o == 1) = false := by rw [beq_eq_false_iff_ne]; omega
  have n2 : (o == 2) = false := by rw [beq_eq_false_iff_ne]; omega
  have n3 : (o == 3) = false := by rw [beq_eq_false_iff_ne]; omega
  have n13 : (o == 13) = false := by rw [beq_eq_false_iff_ne]; omega
  have n14 : (o == 14) = false := by rw [beq_eq_false_iff_ne]; omega
  have n19 : (o == 19) = false := by rw [beq_eq_false_iff_ne]; omega
  have m1 : decide (4 ≤ o) = true := by simp; omega
  have m2 : decide (o ≤ 12) = true := by simp; omega
  have m5 : decide (o < 1) = false := by simp; omega
  have m6 : decide (19 < o) = false := by simp; omega
  go_enter Try.func51, Try.ntmps51
  go_wp2
  refine bodyPost_ret (v := .tuple #[.bool true, .bool true, .bool true, .bool false, .bool false]) (by simp [results, Try.results51, go_sem]) rfl ⟨rfl, rfl⟩

theorem Names_14 (w : World) : Calls Try.prog 51 #[.int .i64 14] w fun e w' => e = .returned (namesV false false false true false) ∧ w = w' := by
  go_enter Try.func51, Try.ntmps51
  go_wp2
  refine bodyPost_ret (v := .tuple #[.bool false, .bool false, .bool false, .bool true, .bool false]) (by simp [results, Try.results51, go_sem]) rfl ⟨rfl, rfl⟩

theorem Names_iff (o : Int) (g0 : 15 ≤ o) (g1 : o ≤ 18) (w : World) : Calls Try.prog 51 #[.int .i64 o] w fun e w' => e = .returned (namesV false true true true true) ∧ w = w' := by
  have n1 : (o == 1) = false := by rw [beq_eq_false_iff_ne]; omega
  have n2 : (o == 2) = false := by rw [beq_eq_false_iff_ne]; omega
  have n3 : (o == 3) = false := by rw [beq_eq_false_iff_ne]; omega
  have n13 : (o == 13) = false := by rw [beq_eq_false_iff_ne]; omega
  have n14 : (o == 14) = false := by rw [beq_eq_false_iff_ne]; omega
  have n19 : (o == 19) = false := by rw [beq_eq_false_iff_ne]; omega
  have m1 : decide (4 ≤ o) = true := by simp; omega
  have m2 : decide (o ≤ 12) = false := by simp; omega
  have m3 : decide (15 ≤ o) = true := by simp; omega
  have m4 : decide (o ≤ 18) = true := by simp; omega
  have m5 : decide (o < 1) = false := by simp; omega
  have m6 : decide (19 < o) = false := by simp; omega
  go_enter Try.func51, Try.ntmps51
  go_wp2
  refine bodyPost_ret (v := .tuple #[.bool false, .bool true, .bool true, .bool true, .bool true]) (by simp [results, Try.results51, go_sem]) rfl ⟨rfl, rfl⟩

theorem Names_19 (w : World) : Calls Try.prog 51 #[.int .i64 19] w fun e w' => e = .returned (namesV false true false false false) ∧ w = w' := by
  go_enter Try.func51, Try.ntmps51
  go_wp2
  refine bodyPost_ret (v := .tuple #[.bool false, .bool true, .bool false, .bool false, .bool false]) (by simp [results, Try.results51, go_sem]) rfl ⟨rfl, rfl⟩

theorem Names_lo (o : Int) (h : o < 1) (w : World) : Calls Try.prog 51 #[.int .i64 o] w fun e w' => e = .returned (namesV false false false false false) ∧ w = w' := by
  have n1 : (o == 1) = false := by rw [beq_eq_false_iff_ne]; omega
  have n2 : (o == 2) = false := by rw [beq_eq_false_iff_ne]; omega
  have n3 : (o == 3) = false := by rw [beq_eq_false_iff_ne]; omega
  have n13 : (o == 13) = false := by rw [beq_eq_false_iff_ne]; omega
  have n14 : (o == 14) = false := by rw [beq_eq_false_iff_ne]; omega
  have n19 : (o == 19) = false := by rw [beq_eq_false_iff_ne]; omega
  have m1 : decide (4 ≤ o) = false := by simp; omega
  have m2 : decide (o ≤ 12) = true := by simp; omega
  have m3 : decide (15 ≤ o) = false := by simp; omega
  have m4 : decide (o ≤ 18) = true := by simp; omega
  go_enter Try.func51, Try.ntmps51
  go_wp2
  refine bodyPost_ret (v := .tuple #[.bool false, .bool false, .bool false, .bool false, .bool false]) (by simp [results, Try.results51, go_sem]) rfl ⟨rfl, rfl⟩

theorem Names_hi (o : Int) (h : 19 < o) (w : World) : Calls Try.prog 51 #[.int .i64 o] w fun e w' => e = .returned (namesV false false false false false) ∧ w = w' := by
  have n1 : (o == 1) = false := by rw [beq_eq_false_iff_ne]; omega
  have n2 : (o == 2) = false := by rw [beq_eq_false_iff_ne]; omega
  have n3 : (o == 3) = false := by rw [beq_eq_false_iff_ne]; omega
  have n13 : (o == 13) = false := by rw [beq_eq_false_iff_ne]; omega
  have n14 : (o == 14) = false := by rw [beq_eq_false_iff_ne]; omega
  have n19 : (o == 19) = false := by rw [beq_eq_false_iff_ne]; omega
  have m1 : decide (4 ≤ o) = true := by simp; omega
  have m2 : decide (o ≤ 12) = false := by simp; omega
  have m3 : decide (15 ≤ o) = true := by simp; omega
  have m4 : decide (o ≤ 18) = false := by simp; omega
  go_enter Try.func51, Try.ntmps51
  go_wp2
  refine bodyPost_ret (v := .tuple #[.bool false, .bool false, .bool false, .bool false, .bool false]) (by simp [results, Try.results51, go_sem]) rfl ⟨rfl, rfl⟩

set_option maxHeartbeats 1600000 in
theorem rOne12_1 (A : Option Addr) (regs : Int) (cap at_ : Nat) (q : List R7) (x : R7) (hx : q[at_]? = some x) (hok : x.ok) (hn : q.length ≤ 9223372036854775807) (w : World) (hr : Reads w w.heap.size 7 A q.length (cellsR q)) (ho : x.o = 1) :
    Calls Try.prog 42 #[.agg #[.int .i64 regs, .slice A q.length cap], .int .i64 at_] w fun e w' => e = .returned (.int .i64 (wrongP regs q.length at_ x)) ∧ Below w.heap.size w w' := by
  have hlt : at_ < q.length := (List.getElem?_eq_some_iff.1 hx).1
  have hlt' : (at_ : Int) < q.length := by omega
  obtain ⟨b, off, rfl, hb, i0, i1, i2, i3, i4, i5, i6⟩ := hr.ir hx
  obtain ⟨o, d, a, b', k, t, f⟩ := x
  obtain ⟨k1, k2⟩ : 0 ≤ k ∧ k < 4294967296 := hok.2.2.2.2.1
  dsimp only at *
  clear hr hx hok
  subst ho
  have HK := Lib.hid (show known 1 = true by simp [known])
  have Hd := Lib.hid (show shD 1 = true by decide)
  have Ha := Lib.hid (show shA 1 = false by decide)
  have Hb := Lib.hid (show shB 1 = false by decide)
  have Ht := Lib.hid (show shT 1 = false by decide)
  have Hf := Lib.hid (show shF 1 = false by decide)
  go_enter Try.func42, Try.ntmps42
  go_wp2_with fail
  refine (Names_1 _).mono ?_
  rintro e w' ⟨rfl, rfl⟩
  unfold namesV
  by_cases ud : d < 0
  · have Rd := Lib.hid (regB_neg (regs := regs) ud)
    have HW := Lib.hid (show wrongP regs q.length at_ ⟨1, d, a, b', k, t, f⟩ = 124 by simp only [wrongP, HK.out, Hd.out, Ha.out, Hb.out, Ht.out, Hf.out, Rd.out, regB_no, aheadB_no]; simp)
    go_wp2
    go_ret
    exact ⟨ret_i HW.out.symm, below_al (below1 w _) _⟩
  · by_cases vd : regs ≤ d
    · have Rd := Lib.hid (regB_big vd)
      have HW := Lib.hid (show wrongP regs q.length at_ ⟨1, d, a, b', k, t, f⟩ = 124 by simp only [wrongP, HK.out, Hd.out, Ha.out, Hb.out, Ht.out, Hf.out, Rd.out, regB_no, aheadB_no]; simp)
      go_wp2
      go_ret
      exact ⟨ret_i HW.out.symm, below_al (below1 w _) _⟩
    · have Rd := Lib.hid (regB_ok (regs := regs) (r := d) (by omega) (by omega))
      have HW := Lib.hid (show wrongP regs q.length at_ ⟨1, d, a, b', k, t, f⟩ = 0 by simp only [wrongP, HK.out, Hd.out, Ha.out, Hb.out, Ht.out, Hf.out, Rd.out, regB_no, aheadB_no]; simp)
      go_wp2
      go_ret
      exact ⟨ret_i HW.out.symm, below_al (below1 w _) _⟩

set_option maxHeartbeats 1600000 in
theorem rOne12_3 (A : Option Addr) (regs : Int) (cap at_ : Nat) (q : List R7) (x : R7) (hx : q[at_]? = some x) (hok : x.ok) (hn : q.length ≤ 9223372036854775807) (w : World) (hr : Reads w w.heap.size 7 A q.length (cellsR q)) (ho : x.o = 3) :
    Calls Try.prog 42 #[.agg #[.int .i64 regs, .slice A q.length cap], .int .i64 at_] w fun e w' => e = .returned (.int .i64 (wrongP regs q.length at_ x)) ∧ Below w.heap.size w w' := by
  have hlt : at_ < q.length := (List.getElem?_eq_some_iff.1 hx).1
  have hlt' : (at_ : Int) < q.length := by omega
  obtain ⟨b, off, rfl, hb, i0, i1, i2, i3, i4, i5, i6⟩ := hr.ir hx
  obtain ⟨o, d, a, b', k, t, f⟩ := x
  obtain ⟨k1, k2⟩ : 0 ≤ k ∧ k < 4294967296 := hok.2.2.2.2.1
  dsimp only at *
  clear hr hx hok
  subst ho
  have HK := Lib.hid (show known 3 = true by simp [known])
  have Hd := Lib.hid (show shD 3 = true by decide)
  have Ha := Lib.hid (show shA 3 = false by decide)
  have Hb := Lib.hid (show shB 3 = false by decide)
  have Ht := Lib.hid (show shT 3 = false by decide)
  have Hf := Lib.hid (show shF 3 = false by decide)
  go_enter Try.func42, Try.ntmps42
  go_wp2_with fail
  refine (Names_3 _).mono ?_
  rintro e w' ⟨rfl, rfl⟩
  unfold namesV
  by_cases ud : d < 0
  · have Rd := Lib.hid (regB_neg (regs := regs) ud)
    have HW := Lib.hid (show wrongP regs q.length at_ ⟨3, d, a, b', k, t, f⟩ = 124 by simp only [wrongP, HK.out, Hd.out, Ha.out, Hb.out, Ht.out, Hf.out, Rd.out, regB_no, aheadB_no]; simp)
    go_wp2
    go_ret
    exact ⟨ret_i HW.out.symm, below_al (below1 w _) _⟩
  · by_cases vd : regs ≤ d
    · have Rd := Lib.hid (regB_big vd)
      have HW := Lib.hid (show wrongP regs q.length at_ ⟨3, d, a, b', k, t, f⟩ = 124 by simp only [wrongP, HK.out, Hd.out, Ha.out, Hb.out, Ht.out, Hf.out, Rd.out, regB_no, aheadB_no]; simp)
      go_wp2
      go_ret
      exact ⟨ret_i HW.out.symm, below_al (below1 w _) _⟩
    · have Rd := Lib.hid (regB_ok (regs := regs) (r := d) (by omega) (by omega))
      by_cases l1 : 60 < k
      · have e1 : (k % 4 != 0 || decide (64 ≤ k)) = true := by simp; omega
        have E1 := Lib.hid e1
        clear e1
        have HW := Lib.hid (show wrongP regs q.length at_ ⟨3, d, a, b', k, t, f⟩ = 125 by simp only [wrongP, HK.out, Hd.out, Ha.out, Hb.out, Ht.out, Hf.out, Rd.out, regB_no, aheadB_no, E1.out]; simp)
        go_wp2
        go_ret
        exact ⟨ret_i HW.out.symm, below_al (below1 w _) _⟩
      · by_cases l2 : k % 4 = 0
        · have e1 : (k % 4 != 0 || decide (64 ≤ k)) = false := by simp; omega
          have E1 := Lib.hid e1
          have l3 : (k % 4 != 0) = false := by simpa using l2
          clear e1 l2
          have HW := Lib.hid (show wrongP regs q.length at_ ⟨3, d, a, b', k, t, f⟩ = 0 by simp only [wrongP, HK.out, Hd.out, Ha.out, Hb.out, Ht.out, Hf.out, Rd.out, regB_no, aheadB_no, E1.out]; simp)
          go_wp2
          go_ret
          exact ⟨ret_i HW.out.symm, below_al (below1 w _) _⟩
        · have e1 : (k % 4 != 0 || decide (64 ≤ k)) = true := by simp; omega
          have E1 := Lib.hid e1
          have l3 : (k % 4 != 0) = true := by simpa using l2
          clear e1 l2
          have HW := Lib.hid (show wrongP regs q.length at_ ⟨3, d, a, b', k, t, f⟩ = 125 by simp only [wrongP, HK.out, Hd.out, Ha.out, Hb.out, Ht.out, Hf.out, Rd.out, regB_no, aheadB_no, E1.out]; simp)
          go_wp2
          go_ret
          exact ⟨ret_i HW.out.symm, below_al (below1 w _) _⟩

set_option maxHeartbeats 1600000 in
theorem rOne12_2 (A : Option Addr) (regs : Int) (cap at_ : Nat) (q : List R7) (x : R7) (hx : q[at_]? = some x) (hok : x.ok) (hn : q.length ≤ 9223372036854775807) (w : World) (hr : Reads w w.heap.size 7 A q.length (cellsR q)) (ho : x.o = 2) :
    Calls Try.prog 42 #[.agg #[.int .i64 regs, .slice A q.length cap], .int .i64 at_] w fun e w' => e = .returned (.int .i64 (wrongP regs q.length at_ x)) ∧ Below w.heap.size w w' := by
  have hlt : at_ < q.length := (List.getElem?_eq_some_iff.1 hx).1
  have hlt' : (at_ : Int) < q.length := by omega
  obtain ⟨b, off, rfl, hb, i0, i1, i2, i3, i4, i5, i6⟩ := hr.ir hx
  obtain ⟨o, d, a, b', k, t, f⟩ := x
  obtain ⟨k1, k2⟩ : 0 ≤ k ∧ k < 4294967296 := hok.2.2.2.2.1
  dsimp only at *
  clear hr hx hok
  subst ho
  have HK := Lib.hid (show known 2 = true by simp [known])
  have Hd := Lib.hid (show shD 2 = true by decide)
  have Ha := Lib.hid (show shA 2 = true by decide)
  have Hb := Lib.hid (show shB 2 = false by decide)
  have Ht := Lib.hid (show shT 2 = false by decide)
  have Hf := Lib.hid (show shF 2 = false by decide)
  go_enter Try.func42, Try.ntmps42
  go_wp2_with fail
  refine (Names_2 _).mono ?_
  rintro e w' ⟨rfl, rfl⟩
  unfold namesV
  by_cases ud : d < 0
  · have Rd := Lib.hid (regB_neg (regs := regs) ud)
    have HW := Lib.hid (show wrongP regs q.length at_ ⟨2, d, a, b', k, t, f⟩ = 124 by simp only [wrongP, HK.out, Hd.out, Ha.out, Hb.out, Ht.out, Hf.out, Rd.out, regB_no, aheadB_no]; simp)
    go_wp2
    go_ret
    exact ⟨ret_i HW.out.symm, below_al (below1 w _) _⟩
  · by_cases vd : regs ≤ d
    · have Rd := Lib.hid (regB_big vd)
      have HW := Lib.hid (show wrongP regs q.length at_ ⟨2, d, a, b', k, t, f⟩ = 124 by simp only [wrongP, HK.out, Hd.out, Ha.out, Hb.out, Ht.out, Hf.out, Rd.out, regB_no, aheadB_no]; simp)
      go_wp2
      go_ret
      exact ⟨ret_i HW.out.symm, below_al (below1 w _) _⟩
    · have Rd := Lib.hid (regB_ok (regs := regs) (r := d) (by omega) (by omega))
      by_cases ua : a < 0
      · have Ra := Lib.hid (regB_neg (regs := regs) ua)
        have HW := Lib.hid (show wrongP regs q.length at_ ⟨2, d, a, b', k, t, f⟩ = 124 by simp only [wrongP, HK.out, Hd.out, Ha.out, Hb.out, Ht.out, Hf.out, Rd.out, Ra.out, regB_no, aheadB_no]; simp)
        go_wp2
        go_ret
        exact ⟨ret_i HW.out.symm, below_al (below1 w _) _⟩
      · by_cases va : regs ≤ a
        · have Ra := Lib.hid (regB_big va)
          have HW := Lib.hid (show wrongP regs q.length at_ ⟨2, d, a, b', k, t, f⟩ = 124 by simp only [wrongP, HK.out, Hd.out, Ha.out, Hb.out, Ht.out, Hf.out, Rd.out, Ra.out, regB_no, aheadB_no]; simp)
          go_wp2
          go_ret
          exact ⟨ret_i HW.out.symm, below_al (below1 w _) _⟩
        · have Ra := Lib.hid (regB_ok (regs := regs) (r := a) (by omega) (by omega))
          have HW := Lib.hid (show wrongP regs q.length at_ ⟨2, d, a, b', k, t, f⟩ = 0 by simp only [wrongP, HK.out, Hd.out, Ha.out, Hb.out, Ht.out, Hf.out, Rd.out, Ra.out, regB_no, aheadB_no]; simp)
          go_wp2
          go_ret
          exact ⟨ret_i HW.out.symm, below_al (below1 w _) _⟩

set_option maxHeartbeats 1600000 in
theorem rOne12_13 (A : Option Addr) (regs : Int) (cap at_ : Nat) (q : List R7) (x : R7) (hx : q[at_]? = some x) (hok : x.ok) (hn : q.length ≤ 9223372036854775807) (w : World) (hr : Reads w w.heap.size 7 A q.length (cellsR q)) (ho : x.o = 13) :
    Calls Try.prog 42 #[.agg #[.int .i64 regs, .slice A q.length cap], .int .i64 at_] w fun e w' => e = .returned (.int .i64 (wrongP regs q.length at_ x)) ∧ Below w.heap.size w w' := by
  have hlt : at_ < q.length := (List.getElem?_eq_some_iff.1 hx).1
  have hlt' : (at_ : Int) < q.length := by omega
  obtain ⟨b, off, rfl, hb, i0, i1, i2, i3, i4, i5, i6⟩ := hr.ir hx
  obtain ⟨o, d, a, b', k, t, f⟩ := x
  obtain ⟨k1, k2⟩ : 0 ≤ k ∧ k < 4294967296 := hok.2.2.2.2.1
  dsimp only at *
  clear hr hx hok
  subst ho
  have HK := Lib.hid (show known 13 = true by simp [known])
  have Hd := Lib.hid (show shD 13 = true by decide)
  have Ha := Lib.hid (show shA 13 = true by decide)
  have Hb := Lib.hid (show shB 13 = false by decide)
  have Ht := Lib.hid (show shT 13 = false by decide)
  have Hf := Lib.hid (show shF 13 = false by decide)
  go_enter Try.func42, Try.ntmps42
  go_wp2_with fail
  refine (Names_13 _).mono ?_
  rintro e w' ⟨rfl, rfl⟩
  unfold namesV
  by_cases ud : d < 0
  · have Rd := Lib.hid (regB_neg (regs := regs) ud)
    have HW := Lib.hid (show wrongP regs q.length at_ ⟨13, d, a, b', k, t, f⟩ = 124 by simp only [wrongP, HK.out, Hd.out, Ha.out, Hb.out, Ht.out, Hf.out, Rd.out, regB_no, aheadB_no]; simp)
    go_wp2
    go_ret
    exact ⟨ret_i HW.out.symm, below_al (below1 w _) _⟩
  · by_cases vd : regs ≤ d
    · have Rd := Lib.hid (regB_big vd)
      have HW := Lib.hid (show wrongP regs q.length at_ ⟨13, d, a, b', k, t, f⟩ = 124 by simp only [wrongP, HK.out, Hd.out, Ha.out, Hb.out, Ht.out, Hf.out, Rd.out, regB_no, aheadB_no]; simp)
      go_wp2
      go_ret
      exact ⟨ret_i HW.out.symm, below_al (below1 w _) _⟩
    · have Rd := Lib.hid (regB_ok (regs := regs) (r := d) (by omega) (by omega))
      by_cases ua : a < 0
      · have Ra := Lib.hid (regB_neg (regs := regs) ua)
        have HW := Lib.hid (show wrongP regs q.length at_ ⟨13, d, a, b', k, t, f⟩ = 124 by simp only [wrongP, HK.out, Hd.out, Ha.out, Hb.out, Ht.out, Hf.out, Rd.out, Ra.out, regB_no, aheadB_no]; simp)
        go_wp2
        go_ret
        exact ⟨ret_i HW.out.symm, below_al (below1 w _) _⟩
      · by_cases va : regs ≤ a
        · have Ra := Lib.hid (regB_big va)
          have HW := Lib.hid (show wrongP regs q.length at_ ⟨13, d, a, b', k, t, f⟩ = 124 by simp only [wrongP, HK.out, Hd.out, Ha.out, Hb.out, Ht.out, Hf.out, Rd.out, Ra.out, regB_no, aheadB_no]; simp)
          go_wp2
          go_ret
          exact ⟨ret_i HW.out.symm, below_al (below1 w _) _⟩
        · have Ra := Lib.hid (regB_ok (regs := regs) (r := a) (by omega) (by omega))
          have HW := Lib.hid (show wrongP regs q.length at_ ⟨13, d, a, b', k, t, f⟩ = 0 by simp only [wrongP, HK.out, Hd.out, Ha.out, Hb.out, Ht.out, Hf.out, Rd.out, Ra.out, regB_no, aheadB_no]; simp)
          go_wp2
          go_ret
          exact ⟨ret_i HW.out.symm, below_al (below1 w _) _⟩

set_option maxHeartbeats 1600000 in
theorem rOne12_mid (A : Option Addr) (regs : Int) (cap at_ : Nat) (q : List R7) (x : R7) (hx : q[at_]? = some x) (hok : x.ok) (hn : q.length ≤ 9223372036854775807) (w : World) (hr : Reads w w.heap.size 7 A q.length (cellsR q)) (g0 : 4 ≤ x.o) (g1 : x.o ≤ 12) :
    Calls Try.prog 42 #[.agg #[.int .i64 regs, .slice A q.length cap], .int .i64 at_] w fun e w' => e = .returned (.int .i64 (wrongP regs q.length at_ x)) ∧ Below w.heap.size w w' := by
  have hlt : at_ < q.length := (List.getElem?_eq_some_iff.1 hx).1
  have hlt' : (at_ : Int) < q.length := by omega
  obtain ⟨b, off, rfl, hb, i0, i1, i2, i3, i4, i5, i6⟩ := hr.ir hx
  obtain ⟨o, d, a, b', k, t, f⟩ := x
  obtain ⟨k1, k2⟩ : 0 ≤ k ∧ k < 4294967296 := hok.2.2.2.2.1
  dsimp only at *
  clear hr hx hok
  have n1 : (o == 1) = false := by rw [beq_eq_false_iff_ne]; omega
  have n2 : (o == 2) = false := by rw [beq_eq_false_iff_ne]; omega
  have n3 : (o == 3) = false := by rw [beq_eq_false_iff_ne]; omega
  have n13 : (o == 13) = false := by rw [beq_eq_false_iff_ne]; omega
  have n14 : (o == 14) = false := by rw [beq_eq_false_iff_ne]; omega
  have n19 : (o == 19) = false := by rw [beq_eq_false_iff_ne]; omega
  have m1 : decide (4 ≤ o) = true := by simp; omega
  have m2 : decide (o ≤ 12) = true := by simp; omega
  have m5 : decide (o < 1) = false := by simp; omega
  have m6 : decide (19 < o) = false := by simp; omega
  have HK := Lib.hid (show known o = true by simp [known]; omega)
  have Hd := Lib.hid (show shD o = true by simp [shD]; omega)
  have Ha := Lib.hid (show shA o = true by simp [shA]; omega)
  have Hb := Lib.hid (show shB o = true by simp [shB]; omega)
  have Ht := Lib.hid (show shT o = false by simp [shT]; omega)
  have Hf := Lib.hid (show shF o = false by simp [shF]; omega)
  go_enter Try.func42, Try.ntmps42
  go_wp2_with fail
  refine (Names_mid o g0 g1 _).mono ?_
  rintro e w' ⟨rfl, rfl⟩
  unfold namesV
  by_cases ud : d < 0
  · have Rd := Lib.hid (regB_neg (regs := regs) ud)
    have HW := Lib.hid (show wrongP regs q.length at_ ⟨o, d, a, b', k, t, f⟩ = 124 by simp only [wrongP, HK.out, Hd.out, Ha.out, Hb.out, Ht.out, Hf.out, Rd.out, regB_no, aheadB_no, n3]; simp)
    go_wp2
    go_ret
    exact ⟨ret_i HW.out.symm, below_al (below1 w _) _⟩
  · by_cases vd : regs ≤ d
    · have Rd := Lib.hid (regB_big vd)
      have HW := Lib.hid (show wrongP regs q.length at_ ⟨o, d, a, b', k, t, f⟩ = 124 by simp only [wrongP, HK.out, Hd.out, Ha.out, Hb.out, Ht.out, Hf.out, Rd.out, regB_no, aheadB_no, n3]; simp)
      go_wp2
      go_ret
      exact ⟨ret_i HW.out.symm, below_al (below1 w _) _⟩
    · have Rd := Lib.hid (regB_ok (regs := regs) (r := d) (by omega) (by omega))
      by_cases ua : a < 0
      · have Ra := Lib.hid (regB_neg (regs := regs) ua)
        have HW := Lib.hid (show wrongP regs q.length at_ ⟨o, d, a, b', k, t, f⟩ = 124 by simp only [wrongP, HK.out, Hd.out, Ha.out, Hb.out, Ht.out, Hf.out, Rd.out, Ra.out, regB_no, aheadB_no, n3]; simp)
        go_wp2
        go_ret
        exact ⟨ret_i HW.out.symm, below_al (below1 w _) _⟩
      · by_cases va : regs ≤ a
        · have Ra := Lib.hid (regB_big va)
          have HW := Lib.hid (show wrongP regs q.length at_ ⟨o, d, a, b', k, t, f⟩ = 124 by simp only [wrongP, HK.out, Hd.out, Ha.out, Hb.out, Ht.out, Hf.out, Rd.out, Ra.out, regB_no, aheadB_no, n3]; simp)
          go_wp2
          go_ret
          exact ⟨ret_i HW.out.symm, below_al (below1 w _) _⟩
        · have Ra := Lib.hid (regB_ok (regs := regs) (r := a) (by omega) (by omega))
          by_cases ub : b' < 0
          · have Rb := Lib.hid (regB_neg (regs := regs) ub)
            have HW := Lib.hid (show wrongP regs q.length at_ ⟨o, d, a, b', k, t, f⟩ = 124 by simp only [wrongP, HK.out, Hd.out, Ha.out, Hb.out, Ht.out, Hf.out, Rd.out, Ra.out, Rb.out, regB_no, aheadB_no, n3]; simp)
            go_wp2
            go_ret
            exact ⟨ret_i HW.out.symm, below_al (below1 w _) _⟩
          · by_cases vb : regs ≤ b'
            · have Rb := Lib.hid (regB_big vb)
              have HW := Lib.hid (show wrongP regs q.length at_ ⟨o, d, a, b', k, t, f⟩ = 124 by simp only [wrongP, HK.out, Hd.out, Ha.out, Hb.out, Ht.out, Hf.out, Rd.out, Ra.out, Rb.out, regB_no, aheadB_no, n3]; simp)
              go_wp2
              go_ret
              exact ⟨ret_i HW.out.symm, below_al (below1 w _) _⟩
            · have Rb := Lib.hid (regB_ok (regs := regs) (r := b') (by omega) (by omega))
              have HW := Lib.hid (show wrongP regs q.length at_ ⟨o, d, a, b', k, t, f⟩ = 0 by simp only [wrongP, HK.out, Hd.out, Ha.out, Hb.out, Ht.out, Hf.out, Rd.out, Ra.out, Rb.out, regB_no, aheadB_no, n3]; simp)
              go_wp2
              go_ret
              exact ⟨ret_i HW.out.symm, below_al (below1 w _) _⟩

set_option maxHeartbeats 1600000 in
theorem rOne12_14 (A : Option Addr) (regs : Int) (cap at_ : Nat) (q : List R7) (x : R7) (hx : q[at_]? = some x) (hok : x.ok) (hn : q.length ≤ 9223372036854775807) (w : World) (hr : Reads w w.heap.size 7 A q.length (cellsR q)) (ho : x.o = 14) :
    Calls Try.prog 42 #[.agg #[.int .i64 regs, .slice A q.length cap], .int .i64 at_] w fun e w' => e = .returned (.int .i64 (wrongP regs q.length at_ x)) ∧ Below w.heap.size w w' := by
  have hlt : at_ < q.length := (List.getElem?_eq_some_iff.1 hx).1
  have hlt' : (at_ : Int) < q.length := by omega
  obtain ⟨b, off, rfl, hb, i0, i1, i2, i3, i4, i5, i6⟩ := hr.ir hx
  obtain ⟨o, d, a, b', k, t, f⟩ := x
  obtain ⟨k1, k2⟩ : 0 ≤ k ∧ k < 4294967296 := hok.2.2.2.2.1
  dsimp only at *
  clear hr hx hok
  subst ho
  have HK := Lib.hid (show known 14 = true by simp [known])
  have Hd := Lib.hid (show shD 14 = false by decide)
  have Ha := Lib.hid (show shA 14 = false by decide)
  have Hb := Lib.hid (show shB 14 = false by decide)
  have Ht := Lib.hid (show shT 14 = true by decide)
  have Hf := Lib.hid (show shF 14 = false by decide)
  go_enter Try.func42, Try.ntmps42
  go_wp2_with fail
  refine (Names_14 _).mono ?_
  rintro e w' ⟨rfl, rfl⟩
  unfold namesV
  by_cases ut : t ≤ (at_ : Int)
  · have Rt := Lib.hid (aheadB_neg (n := (q.length : Int)) ut)
    have HW := Lib.hid (show wrongP regs q.length at_ ⟨14, d, a, b', k, t, f⟩ = 126 by simp only [wrongP, HK.out, Hd.out, Ha.out, Hb.out, Ht.out, Hf.out, Rt.out, regB_no, aheadB_no]; simp)
    go_wp2
    go_ret
    exact ⟨ret_i HW.out.symm, below_al (below1 w _) _⟩
  · by_cases vt : (q.length : Int) ≤ t
    · have Rt := Lib.hid (aheadB_big (a := (at_ : Int)) vt)
      have HW := Lib.hid (show wrongP regs q.length at_ ⟨14, d, a, b', k, t, f⟩ = 126 by simp only [wrongP, HK.out, Hd.out, Ha.out, Hb.out, Ht.out, Hf.out, Rt.out, regB_no, aheadB_no]; simp)
      go_wp2
      go_ret
      exact ⟨ret_i HW.out.symm, below_al (below1 w _) _⟩
    · have Rt := Lib.hid (aheadB_ok (a := (at_ : Int)) (n := (q.length : Int)) (r := t) (by omega) (by omega))
      have HW := Lib.hid (show wrongP regs q.length at_ ⟨14, d, a, b', k, t, f⟩ = 0 by simp only [wrongP, HK.out, Hd.out, Ha.out, Hb.out, Ht.out, Hf.out, Rt.out, regB_no, aheadB_no]; simp)
      go_wp2
      go_ret
      exact ⟨ret_i HW.out.symm, below_al (below1 w _) _⟩

set_option maxHeartbeats 1600000 in
theorem rOne12_iff (A : Option Addr) (regs : Int) (cap at_ : Nat) (q : List R7) (x : R7) (hx : q[at_]? = some x) (hok : x.ok) (hn : q.length ≤ 9223372036854775807) (w : World) (hr : Reads w w.heap.size 7 A q.length (cellsR q)) (g0 : 15 ≤ x.o) (g1 : x.o ≤ 18) :
    Calls Try.prog 42 #[.agg #[.int .i64 regs, .slice A q.length cap], .int .i64 at_] w fun e w' => e = .returned (.int .i64 (wrongP regs q.length at_ x)) ∧ Below w.heap.size w w' := by
  have hlt : at_ < q.length := (List.getElem?_eq_some_iff.1 hx).1
  have hlt' : (at_ : Int) < q.length := by omega
  obtain ⟨b, off, rfl, hb, i0, i1, i2, i3, i4, i5, i6⟩ := hr.ir hx
  obtain ⟨o, d, a, b', k, t, f⟩ := x
  obtain ⟨k1, k2⟩ : 0 ≤ k ∧ k < 4294967296 := hok.2.2.2.2.1
  dsimp only at *
  clear hr hx hok
  have n1 : (o == 1) = false := by rw [beq_eq_false_iff_ne]; omega
  have n2 : (o == 2) = false := by rw [beq_eq_false_iff_ne]; omega
  have n3 : (o == 3) = false := by rw [beq_eq_false_iff_ne]; omega
  have n13 : (o == 13) = false := by rw [beq_eq_false_iff_ne]; omega
  have n14 : (o == 14) = false := by rw [beq_eq_false_iff_ne]; omega
  have n19 : (o == 19) = false := by rw [beq_eq_false_iff_ne]; omega
  have m1 : decide (4 ≤ o) = true := by simp; omega
  have m2 : decide (o ≤ 12) = false := by simp; omega
  have m3 : decide (15 ≤ o) = true := by simp; omega
  have m4 : decide (o ≤ 18) = true := by simp; omega
  have m5 : decide (o < 1) = false := by simp; omega
  have m6 : decide (19 < o) = false := by simp; omega
  have HK := Lib.hid (show known o = true by simp [known]; omega)
  have Hd := Lib.hid (show shD o = false by simp [shD]; omega)
  have Ha := Lib.hid (show shA o = true by simp [shA]; omega)
  have Hb := Lib.hid (show shB o = true by simp [shB]; omega)
  have Ht := Lib.hid (show shT o = true by simp [shT]; omega)
  have Hf := Lib.hid (show shF o = true by simp [shF]; omega)
  go_enter Try.func42, Try.ntmps42
  go_wp2_with fail
  refine (Names_iff o g0 g1 _).mono ?_
  rintro e w' ⟨rfl, rfl⟩
  unfold namesV
  by_cases ua : a < 0
  · have Ra := Lib.hid (regB_neg (regs := regs) ua)
    have HW := Lib.hid (show wrongP regs q.length at_ ⟨o, d, a, b', k, t, f⟩ = 124 by simp only [wrongP, HK.out, Hd.out, Ha.out, Hb.out, Ht.out, Hf.out, Ra.out, regB_no, aheadB_no, n3]; simp)
    go_wp2
    go_ret
    exact ⟨ret_i HW.out.symm, below_al (below1 w _) _⟩
  · by_cases va : regs ≤ a
    · have Ra := Lib.hid (regB_big va)
      have HW := Lib.hid (show wrongP regs q.length at_ ⟨o, d, a, b', k, t, f⟩ = 124 by simp only [wrongP, HK.out, Hd.out, Ha.out, Hb.out, Ht.out, Hf.out, Ra.out, regB_no, aheadB_no, n3]; simp)
      go_wp2
      go_ret
      exact ⟨ret_i HW.out.symm, below_al (below1 w _) _⟩
    · have Ra := Lib.hid (regB_ok (regs := regs) (r := a) (by omega) (by omega))
      by_cases ub : b' < 0
      · have Rb := Lib.hid (regB_neg (regs := regs) ub)
        have HW := Lib.hid (show wrongP regs q.length at_ ⟨o, d, a, b', k, t, f⟩ = 124 by simp only [wrongP, HK.out, Hd.out, Ha.out, Hb.out, Ht.out, Hf.out, Ra.out, Rb.out, regB_no, aheadB_no, n3]; simp)
        go_wp2
        go_ret
        exact ⟨ret_i HW.out.symm, below_al (below1 w _) _⟩
      · by_cases vb : regs ≤ b'
        · have Rb := Lib.hid (regB_big vb)
          have HW := Lib.hid (show wrongP regs q.length at_ ⟨o, d, a, b', k, t, f⟩ = 124 by simp only [wrongP, HK.out, Hd.out, Ha.out, Hb.out, Ht.out, Hf.out, Ra.out, Rb.out, regB_no, aheadB_no, n3]; simp)
          go_wp2
          go_ret
          exact ⟨ret_i HW.out.symm, below_al (below1 w _) _⟩
        · have Rb := Lib.hid (regB_ok (regs := regs) (r := b') (by omega) (by omega))
          by_cases ut : t ≤ (at_ : Int)
          · have Rt := Lib.hid (aheadB_neg (n := (q.length : Int)) ut)
            have HW := Lib.hid (show wrongP regs q.length at_ ⟨o, d, a, b', k, t, f⟩ = 126 by simp only [wrongP, HK.out, Hd.out, Ha.out, Hb.out, Ht.out, Hf.out, Ra.out, Rb.out, Rt.out, regB_no, aheadB_no, n3]; simp)
            go_wp2
            go_ret
            exact ⟨ret_i HW.out.symm, below_al (below1 w _) _⟩
          · by_cases vt : (q.length : Int) ≤ t
            · have Rt := Lib.hid (aheadB_big (a := (at_ : Int)) vt)
              have HW := Lib.hid (show wrongP regs q.length at_ ⟨o, d, a, b', k, t, f⟩ = 126 by simp only [wrongP, HK.out, Hd.out, Ha.out, Hb.out, Ht.out, Hf.out, Ra.out, Rb.out, Rt.out, regB_no, aheadB_no, n3]; simp)
              go_wp2
              go_ret
              exact ⟨ret_i HW.out.symm, below_al (below1 w _) _⟩
            · have Rt := Lib.hid (aheadB_ok (a := (at_ : Int)) (n := (q.length : Int)) (r := t) (by omega) (by omega))
              by_cases uf : f ≤ (at_ : Int)
              · have Rf := Lib.hid (aheadB_neg (n := (q.length : Int)) uf)
                have HW := Lib.hid (show wrongP regs q.length at_ ⟨o, d, a, b', k, t, f⟩ = 126 by simp only [wrongP, HK.out, Hd.out, Ha.out, Hb.out, Ht.out, Hf.out, Ra.out, Rb.out, Rt.out, Rf.out, regB_no, aheadB_no, n3]; simp)
                go_wp2
                go_ret
                exact ⟨ret_i HW.out.symm, below_al (below1 w _) _⟩
              · by_cases vf : (q.length : Int) ≤ f
                · have Rf := Lib.hid (aheadB_big (a := (at_ : Int)) vf)
                  have HW := Lib.hid (show wrongP regs q.length at_ ⟨o, d, a, b', k, t, f⟩ = 126 by simp only [wrongP, HK.out, Hd.out, Ha.out, Hb.out, Ht.out, Hf.out, Ra.out, Rb.out, Rt.out, Rf.out, regB_no, aheadB_no, n3]; simp)
                  go_wp2
                  go_ret
                  exact ⟨ret_i HW.out.symm, below_al (below1 w _) _⟩
                · have Rf := Lib.hid (aheadB_ok (a := (at_ : Int)) (n := (q.length : Int)) (r := f) (by omega) (by omega))
                  have HW := Lib.hid (show wrongP regs q.length at_ ⟨o, d, a, b', k, t, f⟩ = 0 by simp only [wrongP, HK.out, Hd.out, Ha.out, Hb.out, Ht.out, Hf.out, Ra.out, Rb.out, Rt.out, Rf.out, regB_no, aheadB_no, n3]; simp)
                  go_wp2
                  go_ret
                  exact ⟨ret_i HW.out.symm, below_al (below1 w _) _⟩

set_option maxHeartbeats 1600000 in
theorem rOne12_19 (A : Option Addr) (regs : Int) (cap at_ : Nat) (q : List R7) (x : R7) (hx : q[at_]? = some x) (hok : x.ok) (hn : q.length ≤ 9223372036854775807) (w : World) (hr : Reads w w.heap.size 7 A q.length (cellsR q)) (ho : x.o = 19) :
    Calls Try.prog 42 #[.agg #[.int .i64 regs, .slice A q.length cap], .int .i64 at_] w fun e w' => e = .returned (.int .i64 (wrongP regs q.length at_ x)) ∧ Below w.heap.size w w' := by
  have hlt : at_ < q.length := (List.getElem?_eq_some_iff.1 hx).1
  have hlt' : (at_ : Int) < q.length := by omega
  obtain ⟨b, off, rfl, hb, i0, i1, i2, i3, i4, i5, i6⟩ := hr.ir hx
  obtain ⟨o, d, a, b', k, t, f⟩ := x
  obtain ⟨k1, k2⟩ : 0 ≤ k ∧ k < 4294967296 := hok.2.2.2.2.1
  dsimp only at *
  clear hr hx hok
  subst ho
  have HK := Lib.hid (show known 19 = true by simp [known])
  have Hd := Lib.hid (show shD 19 = false by decide)
  have Ha := Lib.hid (show shA 19 = true by decide)
  have Hb := Lib.hid (show shB 19 = false by decide)
  have Ht := Lib.hid (show shT 19 = false by decide)
  have Hf := Lib.hid (show shF 19 = false by decide)
  go_enter Try.func42, Try.ntmps42
  go_wp2_with fail
  refine (Names_19 _).mono ?_
  rintro e w' ⟨rfl, rfl⟩
  unfold namesV
  by_cases ua : a < 0
  · have Ra := Lib.hid (regB_neg (regs := regs) ua)
    have HW := Lib.hid (show wrongP regs q.length at_ ⟨19, d, a, b', k, t, f⟩ = 124 by simp only [wrongP, HK.out, Hd.out, Ha.out, Hb.out, Ht.out, Hf.out, Ra.out, regB_no, aheadB_no]; simp)
    go_wp2
    go_ret
    exact ⟨ret_i HW.out.symm, below_al (below1 w _) _⟩
  · by_cases va : regs ≤ a
    · have Ra := Lib.hid (regB_big va)
      have HW := Lib.hid (show wrongP regs q.length at_ ⟨19, d, a, b', k, t, f⟩ = 124 by simp only [wrongP, HK.out, Hd.out, Ha.out, Hb.out, Ht.out, Hf.out, Ra.out, regB_no, aheadB_no]; simp)
      go_wp2
      go_ret
      exact ⟨ret_i HW.out.symm, below_al (below1 w _) _⟩
    · have Ra := Lib.hid (regB_ok (regs := regs) (r := a) (by omega) (by omega))
      have HW := Lib.hid (show wrongP regs q.length at_ ⟨19, d, a, b', k, t, f⟩ = 0 by simp only [wrongP, HK.out, Hd.out, Ha.out, Hb.out, Ht.out, Hf.out, Ra.out, regB_no, aheadB_no]; simp)
      go_wp2
      go_ret
      exact ⟨ret_i HW.out.symm, below_al (below1 w _) _⟩

set_option maxHeartbeats 1600000 in
theorem rOne12_lo (A : Option Addr) (regs : Int) (cap at_ : Nat) (q : List R7) (x : R7) (hx : q[at_]? = some x) (hok : x.ok) (hn : q.length ≤ 9223372036854775807) (w : World) (hr : Reads w w.heap.size 7 A q.length (cellsR q)) (h : x.o < 1) :
    Calls Try.prog 42 #[.agg #[.int .i64 regs, .slice A q.length cap], .int .i64 at_] w fun e w' => e = .returned (.int .i64 (wrongP regs q.length at_ x)) ∧ Below w.heap.size w w' := by
  have hlt : at_ < q.length := (List.getElem?_eq_some_iff.1 hx).1
  have hlt' : (at_ : Int) < q.length := by omega
  obtain ⟨b, off, rfl, hb, i0, i1, i2, i3, i4, i5, i6⟩ := hr.ir hx
  obtain ⟨o, d, a, b', k, t, f⟩ := x
  obtain ⟨k1, k2⟩ : 0 ≤ k ∧ k < 4294967296 := hok.2.2.2.2.1
  dsimp only at *
  clear hr hx hok
  have m5 : decide (o < 1) = true := by simp; omega
  have m6 : decide (19 < o) = false := by simp; omega
  have hK : known o = false := by simp [known]; omega
  have HW := Lib.hid (show wrongP regs q.length at_ ⟨o, d, a, b', k, t, f⟩ = 123 by simp only [wrongP, hK]; simp)
  clear hK
  go_enter Try.func42, Try.ntmps42
  go_wp2
  go_ret
  exact ⟨ret_i HW.out.symm, below_al (below1 w _) _⟩

set_option maxHeartbeats 1600000 in
theorem rOne12_hi (A : Option Addr) (regs : Int) (cap at_ : Nat) (q : List R7) (x : R7) (hx : q[at_]? = some x) (hok : x.ok) (hn : q.length ≤ 9223372036854775807) (w : World) (hr : Reads w w.heap.size 7 A q.length (cellsR q)) (h : 19 < x.o) :
    Calls Try.prog 42 #[.agg #[.int .i64 regs, .slice A q.length cap], .int .i64 at_] w fun e w' => e = .returned (.int .i64 (wrongP regs q.length at_ x)) ∧ Below w.heap.size w w' := by
  have hlt : at_ < q.length := (List.getElem?_eq_some_iff.1 hx).1
  have hlt' : (at_ : Int) < q.length := by omega
  obtain ⟨b, off, rfl, hb, i0, i1, i2, i3, i4, i5, i6⟩ := hr.ir hx
  obtain ⟨o, d, a, b', k, t, f⟩ := x
  obtain ⟨k1, k2⟩ : 0 ≤ k ∧ k < 4294967296 := hok.2.2.2.2.1
  dsimp only at *
  clear hr hx hok
  have m5 : decide (o < 1) = false := by simp; omega
  have m6 : decide (19 < o) = true := by simp; omega
  have hK : known o = false := by simp [known]; omega
  have HW := Lib.hid (show wrongP regs q.length at_ ⟨o, d, a, b', k, t, f⟩ = 123 by simp only [wrongP, hK]; simp)
  clear hK
  go_enter Try.func42, Try.ntmps42
  go_wp2
  go_ret
  exact ⟨ret_i HW.out.symm, below_al (below1 w _) _⟩

theorem rOne12_c (A : Option Addr) (regs : Int) (cap at_ : Nat) (q : List R7) (x : R7) (hx : q[at_]? = some x) (hok : x.ok) (hn : q.length ≤ 9223372036854775807) (w : World) (hr : Reads w w.heap.size 7 A q.length (cellsR q)) :
    Calls Try.prog 42 #[.agg #[.int .i64 regs, .slice A q.length cap], .int .i64 at_] w fun e w' => e = .returned (.int .i64 (wrongP regs q.length at_ x)) ∧ Below w.heap.size w w' := by
  by_cases hlo : x.o < 1
  · exact rOne12_lo A regs cap at_ q x hx hok hn w hr hlo
  by_cases hhi : 19 < x.o
  · exact rOne12_hi A regs cap at_ q x hx hok hn w hr hhi
  by_cases h1 : x.o = 1
  · exact rOne12_1 A regs cap at_ q x hx hok hn w hr h1
  by_cases h2 : x.o = 2
  · exact rOne12_2 A regs cap at_ q x hx hok hn w hr h2
  by_cases h3 : x.o = 3
  · exact rOne12_3 A regs cap at_ q x hx hok hn w hr h3
  by_cases h13 : x.o = 13
  · exact rOne12_13 A regs cap at_ q x hx hok hn w hr h13
  by_cases h14 : x.o = 14
  · exact rOne12_14 A regs cap at_ q x hx hok hn w hr h14
  by_cases h19 : x.o = 19
  · exact rOne12_19 A regs cap at_ q x hx hok hn w hr h19
  by_cases hm : x.o ≤ 12
  · exact rOne12_mid A regs cap at_ q x hx hok hn w hr (by omega) hm
  · exact rOne12_iff A regs cap at_ q x hx hok hn w hr (by omega) (by omega)
theorem Names_c (o : Int) (w : World) : Calls Try.prog 51 #[.int .i64 o] w fun e w' => e = .returned (namesV (shD o) (shA o) (shB o) (shT o) (shF o)) ∧ w = w' := by
  have go : ∀ d a b t f : Bool, Calls Try.prog 51 #[.int .i64 o] w (fun e w' => e = .returned (namesV d a b t f) ∧ w = w') → shD o = d → shA o = a → shB o = b → shT o = t → shF o = f → Calls Try.prog 51 #[.int .i64 o] w fun e w' => e = .returned (namesV (shD o) (shA o) (shB o) (shT o) (shF o)) ∧ w = w' := by
    rintro d a b t f h rfl rfl rfl rfl rfl; exact h
  by_cases hlo : o < 1
  · exact go _ _ _ _ _ (Names_lo o hlo w) (by simp [shD]; omega) (by simp [shA]; omega) (by simp [shB]; omega) (by simp [shT]; omega) (by simp [shF]; omega)
  by_cases hhi : 19 < o
  · exact go _ _ _ _ _ (Names_hi o hhi w) (by simp [shD]; omega) (by simp [shA]; omega) (by simp [shB]; omega) (by simp [shT]; omega) (by simp [shF]; omega)
  by_cases h1 : o = 1
  · subst h1; exact Names_1 w
  by_cases h2 : o = 2
  · subst h2; exact Names_2 w
  by_cases h3 : o = 3
  · subst h3; exact Names_3 w
  by_cases h13 : o = 13
  · subst h13; exact Names_13 w
  by_cases h14 : o = 14
  · subst h14; exact Names_14 w
  by_cases h19 : o = 19
  · subst h19; exact Names_19 w
  by_cases hm : o ≤ 12
  · exact go _ _ _ _ _ (Names_mid o (by omega) hm w) (by simp [shD]; omega) (by simp [shA]; omega) (by simp [shB]; omega) (by simp [shT]; omega) (by simp [shF]; omega)
  · exact go _ _ _ _ _ (Names_iff o (by omega) (by omega) w) (by simp [shD]; omega) (by simp [shA]; omega) (by simp [shB]; omega) (by simp [shT]; omega) (by simp [shF]; omega)
end Go.Proofs.Ytehpoamideeehaa
