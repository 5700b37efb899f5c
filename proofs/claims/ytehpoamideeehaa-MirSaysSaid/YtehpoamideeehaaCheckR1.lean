import Derived.Test.YtehpoamideeehaaCheckW4
import Derived.Test.YtehpoamideeehaaCodes
set_option linter.unusedVariables false
set_option linter.unusedSimpArgs false
namespace Go.Proofs.Ytehpoamideeehaa
open Go.RowKit
/-! ravelinref03.Jump, alu, Seals; ravelinref04.One: the walks. -/
theorem oneP_5 (j f k : Int) (L : Nat) : oneP ⟨5, j, f, k⟩ L = if (L : Int) ≤ k then 43 else 0 := by
  have e0 : sealsL 5 = true := by decide
  have e1 : (bits .and .u16 5 7 == 5) = true := by decide +kernel
  have m1 : memC 5 [32] = false := by decide
  have m2 : memC 5 [52] = false := by decide
  have m3 : memC 5 [100, 116] = false := by decide
  have m4 : memC 5 [96, 97, 2, 3] = false := by decide
  simp only [oneP, brk, firstOf, br0, br1, br2, br3, br4, br5, e0, e1, m1, m2, m3, m4, Bool.not_true, Bool.false_and, Bool.true_and, Bool.false_eq_true, if_false, if_true]
  repeat' split
  all_goals (first | rfl | (simp at *; omega) | grind)

set_option maxHeartbeats 400000 in
theorem rOne_5 (A : Option Addr) (cap n : Nat) (q : List I4) (x : I4) (hx : q[n]? = some x) (hok : x.ok) (hn : q.length ≤ 9223372036854775807) (w : World) (hr : Reads w w.heap.size 4 A q.length (cellsI q)) (hc : x.c = 5) :
    Calls Try.prog 41 #[.slice A q.length cap, .int .i64 n] w fun e w' => e = .returned (.int .i64 (oneP x (q.length - n - 1 : Nat))) ∧ Below w.heap.size w w' := by
  have hlt : n < q.length := (List.getElem?_eq_some_iff.1 hx).1
  have hleft := left_in n q.length hlt hn
  obtain ⟨L, hL⟩ : ∃ L : Nat, L = q.length - n - 1 := ⟨_, rfl⟩
  have HX := Lib.hid (show (L : Int) = (q.length : Int) - n - 1 by omega)
  rw [← hL]
  have hL2 : L < 9223372036854775807 := by omega
  clear hL hleft
  obtain ⟨b, off, rfl, hb, i0, i1, i2, i3⟩ := hr.insn hx
  obtain ⟨c, j, f, k⟩ := x
  obtain ⟨a1, a2, a3, a4, a5, a6, a7, a8⟩ := hok
  dsimp only at *
  clear hr hx
  have hle : (n : Int) < q.length := by omega
  subst hc
  go_enter Try.func41, Try.ntmps41
  go_wp2_with fail
  refine (rSeals_c 5 _).mono ?_
  rintro e w' ⟨rfl, rfl⟩
  go_wp2_with fail
  refine (Jump_c 5 _).mono ?_
  rintro e w' ⟨rfl, rfl⟩
  have hS : sealsL 5 = true := by decide
  have hJ : memC 5 jumpL = false := by decide
  have hXX := HX.out
  by_cases t : (L : Int) ≤ k
  · skip
    go_wp2
    all_goals go_ret
    all_goals exact ⟨ret_i (by have := HX.out; rw [oneP_5]; first | (rw [if_pos (by omega)]; done) | (rw [if_neg (by omega)]; done) | grind), below1 _ _⟩
  · have t' : k < (L : Int) := by omega
    clear t
    go_wp2
    all_goals go_ret
    all_goals exact ⟨ret_i (by have := HX.out; rw [oneP_5]; first | (rw [if_pos (by omega)]; done) | (rw [if_neg (by omega)]; done) | grind), below1 _ _⟩

theorem oneP_32 (j f k : Int) (L : Nat) : oneP ⟨32, j, f, k⟩ L = if 60 < k ∨ ¬ k % 4 = 0 then 44 else 0 := by
  have e0 : sealsL 32 = true := by decide
  have e1 : (bits .and .u16 32 7 == 5) = false := by decide +kernel
  have m1 : memC 32 [32] = true := by decide
  have m2 : memC 32 [52] = false := by decide
  have m3 : memC 32 [100, 116] = false := by decide
  have m4 : memC 32 [96, 97, 2, 3] = false := by decide
  simp only [oneP, brk, firstOf, br0, br1, br2, br3, br4, br5, e0, e1, m1, m2, m3, m4, Bool.not_true, Bool.false_and, Bool.true_and, Bool.false_eq_true, if_false, if_true]
  repeat' split
  all_goals (first | rfl | (simp at *; omega) | grind)

set_option maxHeartbeats 400000 in
theorem rOne_32 (A : Option Addr) (cap n : Nat) (q : List I4) (x : I4) (hx : q[n]? = some x) (hok : x.ok) (hn : q.length ≤ 9223372036854775807) (w : World) (hr : Reads w w.heap.size 4 A q.length (cellsI q)) (hc : x.c = 32) :
    Calls Try.prog 41 #[.slice A q.length cap, .int .i64 n] w fun e w' => e = .returned (.int .i64 (oneP x (q.length - n - 1 : Nat))) ∧ Below w.heap.size w w' := by
  have hlt : n < q.length := (List.getElem?_eq_some_iff.1 hx).1
  have hleft := left_in n q.length hlt hn
  obtain ⟨L, hL⟩ : ∃ L : Nat, L = q.length - n - 1 := ⟨_, rfl⟩
  have HX := Lib.hid (show (L : Int) = (q.length : Int) - n - 1 by omega)
  rw [← hL]
  have hL2 : L < 9223372036854775807 := by omega
  clear hL hleft
  obtain ⟨b, off, rfl, hb, i0, i1, i2, i3⟩ := hr.insn hx
  obtain ⟨c, j, f, k⟩ := x
  obtain ⟨a1, a2, a3, a4, a5, a6, a7, a8⟩ := hok
  dsimp only at *
  clear hr hx
  have hle : (n : Int) < q.length := by omega
  subst hc
  go_enter Try.func41, Try.ntmps41
  go_wp2_with fail
  refine (rSeals_c 32 _).mono ?_
  rintro e w' ⟨rfl, rfl⟩
  go_wp2_with fail
  refine (Jump_c 32 _).mono ?_
  rintro e w' ⟨rfl, rfl⟩
  have hS : sealsL 32 = true := by decide
  have hJ : memC 32 jumpL = false := by decide
  have hXX := HX.out
  by_cases t : 60 < k
  · skip
    go_wp2
    all_goals go_ret
    all_goals exact ⟨ret_i (by have := HX.out; rw [oneP_32]; first | (rw [if_pos (by omega)]; done) | (rw [if_neg (by omega)]; done) | grind), below1 _ _⟩
  · have t' : k ≤ 60 := by omega
    clear t
    go_wp2
    all_goals go_ret
    all_goals exact ⟨ret_i (by have := HX.out; rw [oneP_32]; first | (rw [if_pos (by omega)]; done) | (rw [if_neg (by omega)]; done) | grind), below1 _ _⟩

theorem oneP_52 (j f k : Int) (L : Nat) : oneP ⟨52, j, f, k⟩ L = if k = 0 then 45 else 0 := by
  have e0 : sealsL 52 = true := by decide
  have e1 : (bits .and .u16 52 7 == 5) = false := by decide +kernel
  have m1 : memC 52 [32] = false := by decide
  have m2 : memC 52 [52] = true := by decide
  have m3 : memC 52 [100, 116] = false := by decide
  have m4 : memC 52 [96, 97, 2, 3] = false := by decide
  simp only [oneP, brk, firstOf, br0, br1, br2, br3, br4, br5, e0, e1, m1, m2, m3, m4, Bool.not_true, Bool.false_and, Bool.true_and, Bool.false_eq_true, if_false, if_true]
  repeat' split
  all_goals (first | rfl | (simp at *; omega) | grind)

set_option maxHeartbeats 400000 in
theorem rOne_52 (A : Option Addr) (cap n : Nat) (q : List I4) (x : I4) (hx : q[n]? = some x) (hok : x.ok) (hn : q.length ≤ 9223372036854775807) (w : World) (hr : Reads w w.heap.size 4 A q.length (cellsI q)) (hc : x.c = 52) :
    Calls Try.prog 41 #[.slice A q.length cap, .int .i64 n] w fun e w' => e = .returned (.int .i64 (oneP x (q.length - n - 1 : Nat))) ∧ Below w.heap.size w w' := by
  have hlt : n < q.length := (List.getElem?_eq_some_iff.1 hx).1
  have hleft := left_in n q.length hlt hn
  obtain ⟨L, hL⟩ : ∃ L : Nat, L = q.length - n - 1 := ⟨_, rfl⟩
  have HX := Lib.hid (show (L : Int) = (q.length : Int) - n - 1 by omega)
  rw [← hL]
  have hL2 : L < 9223372036854775807 := by omega
  clear hL hleft
  obtain ⟨b, off, rfl, hb, i0, i1, i2, i3⟩ := hr.insn hx
  obtain ⟨c, j, f, k⟩ := x
  obtain ⟨a1, a2, a3, a4, a5, a6, a7, a8⟩ := hok
  dsimp only at *
  clear hr hx
  have hle : (n : Int) < q.length := by omega
  subst hc
  go_enter Try.func41, Try.ntmps41
  go_wp2_with fail
  refine (rSeals_c 52 _).mono ?_
  rintro e w' ⟨rfl, rfl⟩
  go_wp2_with fail
  refine (Jump_c 52 _).mono ?_
  rintro e w' ⟨rfl, rfl⟩
  have hS : sealsL 52 = true := by decide
  have hJ : memC 52 jumpL = false := by decide
  have hXX := HX.out
  go_wp2
  all_goals go_ret
  all_goals exact ⟨ret_i (by have := HX.out; rw [oneP_52]; first | (rw [if_pos (by omega)]; done) | (rw [if_neg (by omega)]; done) | grind), below1 _ _⟩

theorem oneP_100 (j f k : Int) (L : Nat) : oneP ⟨100, j, f, k⟩ L = if 31 < k then 46 else 0 := by
  have e0 : sealsL 100 = true := by decide
  have e1 : (bits .and .u16 100 7 == 5) = false := by decide +kernel
  have m1 : memC 100 [32] = false := by decide
  have m2 : memC 100 [52] = false := by decide
  have m3 : memC 100 [100, 116] = true := by decide
  have m4 : memC 100 [96, 97, 2, 3] = false := by decide
  simp only [oneP, brk, firstOf, br0, br1, br2, br3, br4, br5, e0, e1, m1, m2, m3, m4, Bool.not_true, Bool.false_and, Bool.true_and, Bool.false_eq_true, if_false, if_true]
  repeat' split
  all_goals (first | rfl | (simp at *; omega) | grind)

set_option maxHeartbeats 400000 in
theorem rOne_100 (A : Option Addr) (cap n : Nat) (q : List I4) (x : I4) (hx : q[n]? = some x) (hok : x.ok) (hn : q.length ≤ 9223372036854775807) (w : World) (hr : Reads w w.heap.size 4 A q.length (cellsI q)) (hc : x.c = 100) :
    Calls Try.prog 41 #[.slice A q.length cap, .int .i64 n] w fun e w' => e = .returned (.int .i64 (oneP x (q.length - n - 1 : Nat))) ∧ Below w.heap.size w w' := by
  have hlt : n < q.length := (List.getElem?_eq_some_iff.1 hx).1
  have hleft := left_in n q.length hlt hn
  obtain ⟨L, hL⟩ : ∃ L : Nat, L = q.length - n - 1 := ⟨_, rfl⟩
  have HX := Lib.hid (show (L : Int) = (q.length : Int) - n - 1 by omega)
  rw [← hL]
  have hL2 : L < 9223372036854775807 := by omega
  clear hL hleft
  obtain ⟨b, off, rfl, hb, i0, i1, i2, i3⟩ := hr.insn hx
  obtain ⟨c, j, f, k⟩ := x
  obtain ⟨a1, a2, a3, a4, a5, a6, a7, a8⟩ := hok
  dsimp only at *
  clear hr hx
  have hle : (n : Int) < q.length := by omega
  subst hc
  go_enter Try.func41, Try.ntmps41
  go_wp2_with fail
  refine (rSeals_c 100 _).mono ?_
  rintro e w' ⟨rfl, rfl⟩
  go_wp2_with fail
  refine (Jump_c 100 _).mono ?_
  rintro e w' ⟨rfl, rfl⟩
  have hS : sealsL 100 = true := by decide
  have hJ : memC 100 jumpL = false := by decide
  have hXX := HX.out
  by_cases t : 32 ≤ k
  · skip
    go_wp2
    all_goals go_ret
    all_goals exact ⟨ret_i (by have := HX.out; rw [oneP_100]; first | (rw [if_pos (by omega)]; done) | (rw [if_neg (by omega)]; done) | grind), below1 _ _⟩
  · have t' : k < 32 := by omega
    clear t
    go_wp2
    all_goals go_ret
    all_goals exact ⟨ret_i (by have := HX.out; rw [oneP_100]; first | (rw [if_pos (by omega)]; done) | (rw [if_neg (by omega)]; done) | grind), below1 _ _⟩

theorem oneP_116 (j f k : Int) (L : Nat) : oneP ⟨116, j, f, k⟩ L = if 31 < k then 46 else 0 := by
  have e0 : sealsL 116 = true := by decide
  have e1 : (bits .and .u16 116 7 == 5) = false := by decide +kernel
  have m1 : memC 116 [32] = false := by decide
  have m2 : memC 116 [52] = false := by decide
  have m3 : memC 116 [100, 116] = true := by decide
  have m4 : memC 116 [96, 97, 2, 3] = false := by decide
  simp only [oneP, brk, firstOf, br0, br1, br2, br3, br4, br5, e0, e1, m1, m2, m3, m4, Bool.not_true, Bool.false_and, Bool.true_and, Bool.false_eq_true, if_false, if_true]
  repeat' split
  all_goals (first | rfl | (simp at *; omega) | grind)

set_option maxHeartbeats 400000 in
theorem rOne_116 (A : Option Addr) (cap n : Nat) (q : List I4) (x : I4) (hx : q[n]? = some x) (hok : x.ok) (hn : q.length ≤ 9223372036854775807) (w : World) (hr : Reads w w.heap.size 4 A q.length (cellsI q)) (hc : x.c = 116) :
    Calls Try.prog 41 #[.slice A q.length cap, .int .i64 n] w fun e w' => e = .returned (.int .i64 (oneP x (q.length - n - 1 : Nat))) ∧ Below w.heap.size w w' := by
  have hlt : n < q.length := (List.getElem?_eq_some_iff.1 hx).1
  have hleft := left_in n q.length hlt hn
  obtain ⟨L, hL⟩ : ∃ L : Nat, L = q.length - n - 1 := ⟨_, rfl⟩
  have HX := Lib.hid (show (L : Int) = (q.length : Int) - n - 1 by omega)
  rw [← hL]
  have hL2 : L < 9223372036854775807 := by omega
  clear hL hleft
  obtain ⟨b, off, rfl, hb, i0, i1, i2, i3⟩ := hr.insn hx
  obtain ⟨c, j, f, k⟩ := x
  obtain ⟨a1, a2, a3, a4, a5, a6, a7, a8⟩ := hok
  dsimp only at *
  clear hr hx
  have hle : (n : Int) < q.length := by omega
  subst hc
  go_enter Try.func41, Try.ntmps41
  go_wp2_with fail
  refine (rSeals_c 116 _).mono ?_
  rintro e w' ⟨rfl, rfl⟩
  go_wp2_with fail
  refine (Jump_c 116 _).mono ?_
  rintro e w' ⟨rfl, rfl⟩
  have hS : sealsL 116 = true := by decide
  have hJ : memC 116 jumpL = false := by decide
  have hXX := HX.out
  by_cases t : 32 ≤ k
  · skip
    go_wp2
    all_goals go_ret
    all_goals exact ⟨ret_i (by have := HX.out; rw [oneP_116]; first | (rw [if_pos (by omega)]; done) | (rw [if_neg (by omega)]; done) | grind), below1 _ _⟩
  · have t' : k < 32 := by omega
    clear t
    go_wp2
    all_goals go_ret
    all_goals exact ⟨ret_i (by have := HX.out; rw [oneP_116]; first | (rw [if_pos (by omega)]; done) | (rw [if_neg (by omega)]; done) | grind), below1 _ _⟩

theorem oneP_96 (j f k : Int) (L : Nat) : oneP ⟨96, j, f, k⟩ L = if 16 ≤ k then 47 else 0 := by
  have e0 : sealsL 96 = true := by decide
  have e1 : (bits .and .u16 96 7 == 5) = false := by decide +kernel
  have m1 : memC 96 [32] = false := by decide
  have m2 : memC 96 [52] = false := by decide
  have m3 : memC 96 [100, 116] = false := by decide
  have m4 : memC 96 [96, 97, 2, 3] = true := by decide
  simp only [oneP, brk, firstOf, br0, br1, br2, br3, br4, br5, e0, e1, m1, m2, m3, m4, Bool.not_true, Bool.false_and, Bool.true_and, Bool.false_eq_true, if_false, if_true]
  repeat' split
  all_goals (first | rfl | (simp at *; omega) | grind)

set_option maxHeartbeats 400000 in
theorem rOne_96 (A : Option Addr) (cap n : Nat) (q : List I4) (x : I4) (hx : q[n]? = some x) (hok : x.ok) (hn : q.length ≤ 9223372036854775807) (w : World) (hr : Reads w w.heap.size 4 A q.length (cellsI q)) (hc : x.c = 96) :
    Calls Try.prog 41 #[.slice A q.length cap, .int .i64 n] w fun e w' => e = .returned (.int .i64 (oneP x (q.length - n - 1 : Nat))) ∧ Below w.heap.size w w' := by
  have hlt : n < q.length := (List.getElem?_eq_some_iff.1 hx).1
  have hleft := left_in n q.length hlt hn
  obtain ⟨L, hL⟩ : ∃ L : Nat, L = q.length - n - 1 := ⟨_, rfl⟩
  have HX := Lib.hid (show (L : Int) = (q.length : Int) - n - 1 by omega)
  rw [← hL]
  have hL2 : L < 9223372036854775807 := by omega
  clear hL hleft
  obtain ⟨b, off, rfl, hb, i0, i1, i2, i3⟩ := hr.insn hx
  obtain ⟨c, j, f, k⟩ := x
  obtain ⟨a1, a2, a3, a4, a5, a6, a7, a8⟩ := hok
  dsimp only at *
  clear hr hx
  have hle : (n : Int) < q.length := by omega
  subst hc
  go_enter Try.func41, Try.ntmps41
  go_wp2_with fail
  refine (rSeals_c 96 _).mono ?_
  rintro e w' ⟨rfl, rfl⟩
  go_wp2_with fail
  refine (Jump_c 96 _).mono ?_
  rintro e w' ⟨rfl, rfl⟩
  have hS : sealsL 96 = true := by decide
  have hJ : memC 96 jumpL = false := by decide
  have hXX := HX.out
  by_cases t : 16 ≤ k
  · skip
    go_wp2
    all_goals go_ret
    all_goals exact ⟨ret_i (by have := HX.out; rw [oneP_96]; first | (rw [if_pos (by omega)]; done) | (rw [if_neg (by omega)]; done) | grind), below1 _ _⟩
  · have t' : k < 16 := by omega
    clear t
    go_wp2
    all_goals go_ret
    all_goals exact ⟨ret_i (by have := HX.out; rw [oneP_96]; first | (rw [if_pos (by omega)]; done) | (rw [if_neg (by omega)]; done) | grind), below1 _ _⟩

theorem oneP_97 (j f k : Int) (L : Nat) : oneP ⟨97, j, f, k⟩ L = if 16 ≤ k then 47 else 0 := by
  have e0 : sealsL 97 = true := by decide
  have e1 : (bits .and .u16 97 7 == 5) = false := by decide +kernel
  have m1 : memC 97 [32] = false := by decide
  have m2 : memC 97 [52] = false := by decide
  have m3 : memC 97 [100, 116] = false := by decide
  have m4 : memC 97 [96, 97, 2, 3] = true := by decide
  simp only [oneP, brk, firstOf, br0, br1, br2, br3, br4, br5, e0, e1, m1, m2, m3, m4, Bool.not_true, Bool.false_and, Bool.true_and, Bool.false_eq_true, if_false, if_true]
  repeat' split
  all_goals (first | rfl | (simp at *; omega) | grind)

set_option maxHeartbeats 400000 in
theorem rOne_97 (A : Option Addr) (cap n : Nat) (q : List I4) (x : I4) (hx : q[n]? = some x) (hok : x.ok) (hn : q.length ≤ 9223372036854775807) (w : World) (hr : Reads w w.heap.size 4 A q.length (cellsI q)) (hc : x.c = 97) :
    Calls Try.prog 41 #[.slice A q.length cap, .int .i64 n] w fun e w' => e = .returned (.int .i64 (oneP x (q.length - n - 1 : Nat))) ∧ Below w.heap.size w w' := by
  have hlt : n < q.length := (List.getElem?_eq_some_iff.1 hx).1
  have hleft := left_in n q.length hlt hn
  obtain ⟨L, hL⟩ : ∃ L : Nat, L = q.length - n - 1 := ⟨_, rfl⟩
  have HX := Lib.hid (show (L : Int) = (q.length : Int) - n - 1 by omega)
  rw [← hL]
  have hL2 : L < 9223372036854775807 := by omega
  clear hL hleft
  obtain ⟨b, off, rfl, hb, i0, i1, i2, i3⟩ := hr.insn hx
  obtain ⟨c, j, f, k⟩ := x
  obtain ⟨a1, a2, a3, a4, a5, a6, a7, a8⟩ := hok
  dsimp only at *
  clear hr hx
  have hle : (n : Int) < q.length := by omega
  subst hc
  go_enter Try.func41, Try.ntmps41
  go_wp2_with fail
  refine (rSeals_c 97 _).mono ?_
  rintro e w' ⟨rfl, rfl⟩
  go_wp2_with fail
  refine (Jump_c 97 _).mono ?_
  rintro e w' ⟨rfl, rfl⟩
  have hS : sealsL 97 = true := by decide
  have hJ : memC 97 jumpL = false := by decide
  have hXX := HX.out
  by_cases t : 16 ≤ k
  · skip
    go_wp2
    all_goals go_ret
    all_goals exact ⟨ret_i (by have := HX.out; rw [oneP_97]; first | (rw [if_pos (by omega)]; done) | (rw [if_neg (by omega)]; done) | grind), below1 _ _⟩
  · have t' : k < 16 := by omega
    clear t
    go_wp2
    all_goals go_ret
    all_goals exact ⟨ret_i (by have := HX.out; rw [oneP_97]; first | (rw [if_pos (by omega)]; done) | (rw [if_neg (by omega)]; done) | grind), below1 _ _⟩

theorem oneP_2 (j f k : Int) (L : Nat) : oneP ⟨2, j, f, k⟩ L = if 16 ≤ k then 47 else 0 := by
  have e0 : sealsL 2 = true := by decide
  have e1 : (bits .and .u16 2 7 == 5) = false := by decide +kernel
  have m1 : memC 2 [32] = false := by decide
  have m2 : memC 2 [52] = false := by decide
  have m3 : memC 2 [100, 116] = false := by decide
  have m4 : memC 2 [96, 97, 2, 3] = true := by decide
  simp only [oneP, brk, firstOf, br0, br1, br2, br3, br4, br5, e0, e1, m1, m2, m3, m4, Bool.not_true, Bool.false_and, Bool.true_and, Bool.false_eq_true, if_false, if_true]
  repeat' split
  all_goals (first | rfl | (simp at *; omega) | grind)

set_option maxHeartbeats 400000 in
theorem rOne_2 (A : Option Addr) (cap n : Nat) (q : List I4) (x : I4) (hx : q[n]? = some x) (hok : x.ok) (hn : q.length ≤ 9223372036854775807) (w : World) (hr : Reads w w.heap.size 4 A q.length (cellsI q)) (hc : x.c = 2) :
    Calls Try.prog 41 #[.slice A q.length cap, .int .i64 n] w fun e w' => e = .returned (.int .i64 (oneP x (q.length - n - 1 : Nat))) ∧ Below w.heap.size w w' := by
  have hlt : n < q.length := (List.getElem?_eq_some_iff.1 hx).1
  have hleft := left_in n q.length hlt hn
  obtain ⟨L, hL⟩ : ∃ L : Nat, L = q.length - n - 1 := ⟨_, rfl⟩
  have HX := Lib.hid (show (L : Int) = (q.length : Int) - n - 1 by omega)
  rw [← hL]
  have hL2 : L < 9223372036854775807 := by omega
  clear hL hleft
  obtain ⟨b, off, rfl, hb, i0, i1, i2, i3⟩ := hr.insn hx
  obtain ⟨c, j, f, k⟩ := x
  obtain ⟨a1, a2, a3, a4, a5, a6, a7, a8⟩ := hok
  dsimp only at *
  clear hr hx
  have hle : (n : Int) < q.length := by omega
  subst hc
  go_enter Try.func41, Try.ntmps41
  go_wp2_with fail
  refine (rSeals_c 2 _).mono ?_
  rintro e w' ⟨rfl, rfl⟩
  go_wp2_with fail
  refine (Jump_c 2 _).mono ?_
  rintro e w' ⟨rfl, rfl⟩
  have hS : sealsL 2 = true := by decide
  have hJ : memC 2 jumpL = false := by decide
  have hXX := HX.out
  by_cases t : 16 ≤ k
  · skip
    go_wp2
    all_goals go_ret
    all_goals exact ⟨ret_i (by have := HX.out; rw [oneP_2]; first | (rw [if_pos (by omega)]; done) | (rw [if_neg (by omega)]; done) | grind), below1 _ _⟩
  · have t' : k < 16 := by omega
    clear t
    go_wp2
    all_goals go_ret
    all_goals exact ⟨ret_i (by have := HX.out; rw [oneP_2]; first | (rw [if_pos (by omega)]; done) | (rw [if_neg (by omega)]; done) | grind), below1 _ _⟩

theorem oneP_3 (j f k : Int) (L : Nat) : oneP ⟨3, j, f, k⟩ L = if 16 ≤ k then 47 else 0 := by
  have e0 : sealsL 3 = true := by decide
  have e1 : (bits .and .u16 3 7 == 5) = false := by decide +kernel
  have m1 : memC 3 [32] = false := by decide
  have m2 : memC 3 [52] = false := by decide
  have m3 : memC 3 [100, 116] = false := by decide
  have m4 : memC 3 [96, 97, 2, 3] = true := by decide
  simp only [oneP, brk, firstOf, br0, br1, br2, br3, br4, br5, e0, e1, m1, m2, m3, m4, Bool.not_true, Bool.false_and, Bool.true_and, Bool.false_eq_true, if_false, if_true]
  repeat' split
  all_goals (first | rfl | (simp at *; omega) | grind)

set_option maxHeartbeats 400000 in
theorem rOne_3 (A : Option Addr) (cap n : Nat) (q : List I4) (x : I4) (hx : q[n]? = some x) (hok : x.ok) (hn : q.length ≤ 9223372036854775807) (w : World) (hr : Reads w w.heap.size 4 A q.length (cellsI q)) (hc : x.c = 3) :
    Calls Try.prog 41 #[.slice A q.length cap, .int .i64 n] w fun e w' => e = .returned (.int .i64 (oneP x (q.length - n - 1 : Nat))) ∧ Below w.heap.size w w' := by
  have hlt : n < q.length := (List.getElem?_eq_some_iff.1 hx).1
  have hleft := left_in n q.length hlt hn
  obtain ⟨L, hL⟩ : ∃ L : Nat, L = q.length - n - 1 := ⟨_, rfl⟩
  have HX := Lib.hid (show (L : Int) = (q.length : Int) - n - 1 by omega)
  rw [← hL]
  have hL2 : L < 9223372036854775807 := by omega
  clear hL hleft
  obtain ⟨b, off, rfl, hb, i0, i1, i2, i3⟩ := hr.insn hx
  obtain ⟨c, j, f, k⟩ := x
  obtain ⟨a1, a2, a3, a4, a5, a6, a7, a8⟩ := hok
  dsimp only at *
  clear hr hx
  have hle : (n : Int) < q.length := by omega
  subst hc
  go_enter Try.func41, Try.ntmps41
  go_wp2_with fail
  refine (rSeals_c 3 _).mono ?_
  rintro e w' ⟨rfl, rfl⟩
  go_wp2_with fail
  refine (Jump_c 3 _).mono ?_
  rintro e w' ⟨rfl, rfl⟩
  have hS : sealsL 3 = true := by decide
  have hJ : memC 3 jumpL = false := by decide
  have hXX := HX.out
  by_cases t : 16 ≤ k
  · skip
    go_wp2
    all_goals go_ret
    all_goals exact ⟨ret_i (by have := HX.out; rw [oneP_3]; first | (rw [if_pos (by omega)]; done) | (rw [if_neg (by omega)]; done) | grind), below1 _ _⟩
  · have t' : k < 16 := by omega
    clear t
    go_wp2
    all_goals go_ret
    all_goals exact ⟨ret_i (by have := HX.out; rw [oneP_3]; first | (rw [if_pos (by omega)]; done) | (rw [if_neg (by omega)]; done) | grind), below1 _ _⟩

end Go.Proofs.Ytehpoamideeehaa
