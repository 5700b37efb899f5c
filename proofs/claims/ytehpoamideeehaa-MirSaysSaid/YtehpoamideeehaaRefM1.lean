import Derived.Test.YtehpoamideeehaaMVBase
import Derived.Test.YtehpoamideeehaaCodes
import Derived.Test.YtehpoamideeehaaWord
import Derived.Test.YtehpoamideeehaaStep
import Derived.Deep.DeepMust
set_option linter.unusedVariables false
set_option linter.unusedSimpArgs false
namespace Go.Proofs.Ytehpoamideeehaa
open Go.RowKit
/-! A machine of package ravelinref03 in memory; its small methods. -/
/-- What does not turn: the slices' places. -/
structure RK where
  Aq : Option Addr
  nq : Nat
  cq : Nat
  Ad : Option Addr
  nd : Nat
  cd : Nat
def rrow (K : RK) (z : MV) : List Value := [.slice K.Aq K.nq K.cq, .slice K.Ad K.nd K.cd, .int .u32 z.a, .int .u32 z.x] ++ (numV .u32 z.m ++ [.int .i64 z.place, .int .i64 z.steps, .bool z.through, .int .u32 z.ans, .int .i64 z.err])
def RMAt (w : World) (B : Nat) (K : RK) (z : MV) : Prop := z.m.length = 16 ∧ w.heap[B]? = some (.cells (rrow K z).toArray 89 (0, 0))
section
variable {w W : World} {B : Nat} {K : RK} {z z' : MV}
theorem RMAt.cast (h : RMAt w B K z) (e : z = z') : RMAt w B K z' := e ▸ h
theorem RMAt.lt (h : RMAt w B K z) : B < w.heap.size := (Array.getElem?_eq_some_iff.1 h.2).1
theorem RMAt.cell (h : RMAt w B K z) {j : Nat} {v : Value} (hv : (rrow K z)[j]? = some v) : w.cell? ⟨B, j, none⟩ = some v := by
  simp [World.cell?, h.2, hv]
theorem RMAt.free (h : RMAt w B K z) (j : Nat) : w.frozen? ⟨B, j, none⟩ = false := by simp [World.frozen?, h.2]
theorem RMAt.keep (h : RMAt w B K z) (hb : Below w.heap.size w W) : RMAt W B K z := ⟨h.1, (hb.block B h.lt).trans h.2⟩
theorem RMAt.alloc (h : RMAt w B K z) (o : Obj) : RMAt (w.alloc o) B K z := h.keep (below1 w o)
theorem RMAt.drew (h : RMAt w B K z) : RMAt w.drew B K z := h
theorem RMAt.drewN (h : RMAt w B K z) (n : Nat) : RMAt (w.drewN n) B K z := h
theorem rrow_low (K : RK) (z : MV) {j : Nat} (hj : j < 4) : (rrow K z)[j]? = [Value.slice K.Aq K.nq K.cq, .slice K.Ad K.nd K.cd, .int .u32 z.a, .int .u32 z.x][j]? := by
  unfold rrow; rw [List.getElem?_append_left (by simpa using hj)]
theorem rrow_mid (K : RK) (z : MV) (h : z.m.length = 16) {j : Nat} (hj : j < 16) : (rrow K z)[4 + j]? = some (.int .u32 (getN z.m j)) := by
  unfold rrow
  rw [List.getElem?_append_right (by simp), List.getElem?_append_left (by simp [numV]; omega)]
  have : z.m[j]? = some (getN z.m j) := by unfold getN; rw [List.getD_eq_getElem?_getD, List.getElem?_eq_getElem (by omega)]; rfl
  simp [numV, this]
theorem rrow_high (K : RK) (z : MV) (h : z.m.length = 16) (j : Nat) : (rrow K z)[20 + j]? = [Value.int .i64 z.place, .int .i64 z.steps, .bool z.through, .int .u32 z.ans, .int .i64 z.err][j]? := by
  unfold rrow
  rw [List.getElem?_append_right (by simp; omega), List.getElem?_append_right (by simp [numV, h]; omega)]
  congr 1; simp [numV, h]; omega
theorem RMAt.c0 (h : RMAt w B K z) : w.cell? ⟨B, 0, none⟩ = some (.slice K.Aq K.nq K.cq) := h.cell (rrow_low K z (by decide))
theorem RMAt.c1 (h : RMAt w B K z) : w.cell? ⟨B, 1, none⟩ = some (.slice K.Ad K.nd K.cd) := h.cell (rrow_low K z (by decide))
theorem RMAt.c2 (h : RMAt w B K z) : w.cell? ⟨B, 2, none⟩ = some (.int .u32 z.a) := h.cell (rrow_low K z (by decide))
theorem RMAt.c3 (h : RMAt w B K z) : w.cell? ⟨B, 3, none⟩ = some (.int .u32 z.x) := h.cell (rrow_low K z (by decide))
theorem RMAt.cm (h : RMAt w B K z) {j : Nat} (hj : j < 16) : w.cell? ⟨B, 4 + j, none⟩ = some (.int .u32 (getN z.m j)) := h.cell (rrow_mid K z h.1 hj)
theorem RMAt.c20 (h : RMAt w B K z) : w.cell? ⟨B, 20, none⟩ = some (.int .i64 z.place) := h.cell (rrow_high K z h.1 0)
theorem RMAt.c21 (h : RMAt w B K z) : w.cell? ⟨B, 21, none⟩ = some (.int .i64 z.steps) := h.cell (rrow_high K z h.1 1)
theorem RMAt.c22 (h : RMAt w B K z) : w.cell? ⟨B, 22, none⟩ = some (.bool z.through) := h.cell (rrow_high K z h.1 2)
theorem RMAt.c23 (h : RMAt w B K z) : w.cell? ⟨B, 23, none⟩ = some (.int .u32 z.ans) := h.cell (rrow_high K z h.1 3)
theorem RMAt.c24 (h : RMAt w B K z) : w.cell? ⟨B, 24, none⟩ = some (.int .i64 z.err) := h.cell (rrow_high K z h.1 4)
theorem rset_low (K : RK) {z z' : MV} (h : z.m.length = 16) (j : Nat) (v : Value) (e : (rrow K z).set j v = rrow K z') (hl : z'.m.length = 16) (hm : RMAt w B K z) : RMAt (w.setCell ⟨B, j, none⟩ v) B K z' := by
  refine ⟨hl, ?_⟩
  rw [heap_setCell_same hm.2, ← e]
  simp
theorem RMAt.setA (h : RMAt w B K z) (v : Int) : RMAt (w.setCell ⟨B, 2, none⟩ (.int .u32 v)) B K { z with a := v } := rset_low K h.1 2 _ (by simp [rrow]) h.1 h
theorem RMAt.setX (h : RMAt w B K z) (v : Int) : RMAt (w.setCell ⟨B, 3, none⟩ (.int .u32 v)) B K { z with x := v } := rset_low K h.1 3 _ (by simp [rrow]) h.1 h
theorem RMAt.setM (h : RMAt w B K z) {j : Nat} (hj : j < 16) (v : Int) : RMAt (w.setCell ⟨B, 4 + j, none⟩ (.int .u32 v)) B K { z with m := z.m.set j v } := rset_low K h.1 (4 + j) _ (by
  unfold rrow
  rw [set_high _ _ 4 j rfl, List.set_append_left _ _ (by simp [numV, h.1]; omega)]
  simp [numV, List.map_set]) (by simp [h.1]) h
theorem rset_high (h : RMAt w B K z) (j : Nat) (v : Value) (z' : MV) (e : [Value.int .i64 z.place, .int .i64 z.steps, .bool z.through, .int .u32 z.ans, .int .i64 z.err].set j v = [Value.int .i64 z'.place, .int .i64 z'.steps, .bool z'.through, .int .u32 z'.ans, .int .i64 z'.err])
    (ea : z'.a = z.a) (ex : z'.x = z.x) (em : z'.m = z.m) : RMAt (w.setCell ⟨B, 20 + j, none⟩ v) B K z' := rset_low K h.1 (20 + j) _ (by
  unfold rrow
  rw [show 20 + j = 4 + (16 + j) by omega, set_high _ _ 4 (16 + j) rfl, set_high _ _ 16 j (by simp [numV, h.1]), e, ea, ex, em]) (by rw [em]; exact h.1) h
theorem RMAt.setPlace (h : RMAt w B K z) (v : Int) : RMAt (w.setCell ⟨B, 20, none⟩ (.int .i64 v)) B K { z with place := v } := rset_high h 0 _ _ rfl rfl rfl rfl
theorem RMAt.setSteps (h : RMAt w B K z) (v : Int) : RMAt (w.setCell ⟨B, 21, none⟩ (.int .i64 v)) B K { z with steps := v } := rset_high h 1 _ _ rfl rfl rfl rfl
theorem RMAt.setThrough (h : RMAt w B K z) (v : Bool) : RMAt (w.setCell ⟨B, 22, none⟩ (.bool v)) B K { z with through := v } := rset_high h 2 _ _ rfl rfl rfl rfl
theorem RMAt.setAns (h : RMAt w B K z) (v : Int) : RMAt (w.setCell ⟨B, 23, none⟩ (.int .u32 v)) B K { z with ans := v } := rset_high h 3 _ _ rfl rfl rfl rfl
theorem RMAt.setErr (h : RMAt w B K z) (v : Int) : RMAt (w.setCell ⟨B, 24, none⟩ (.int .i64 v)) B K { z with err := v } := rset_high h 4 _ _ rfl rfl rfl rfl
end
set_option maxHeartbeats 400000 in
theorem rfails_c (v : Int) (B : Nat) (K : RK) (z : MV) (w : World) (hm : RMAt w B K z) :
    Calls Try.prog 43 #[.pointer (some ⟨B, 0, none⟩), .int .i64 v] w fun e w' => e = .returned (.bool true) ∧ RMAt w' B K { z with through := true, err := v } ∧ w.grownBy w' (some B) := by
  have c22 := hm.c22
  have f22 := hm.free 22
  have c24 := hm.c24
  have f24 := hm.free 24
  have hl := hm.lt
  have HM := Lib.hid hm
  clear hm
  go_enter Try.func43, Try.ntmps43
  go_wp2
  go_ret
  exact ⟨rfl, (HM.out.setThrough true).setErr v, (by repeat (first | exact World.grownBy.refl _ _ | apply grow_drew | apply grow_al | apply grow_set))⟩
set_option maxHeartbeats 400000 in
theorem rends_c (v : Int) (B : Nat) (K : RK) (z : MV) (hs : 0 ≤ z.steps ∧ z.steps ≤ 9223372036854775806) (w : World) (hm : RMAt w B K z) :
    Calls Try.prog 47 #[.pointer (some ⟨B, 0, none⟩), .int .u32 v] w fun e w' => e = .returned (.bool true) ∧ RMAt w' B K { z with through := true, ans := v, steps := z.steps + 1 } ∧ w.grownBy w' (some B) := by
  obtain ⟨s1, s2⟩ := hs
  have c22 := hm.c22
  have f22 := hm.free 22
  have c23 := hm.c23
  have f23 := hm.free 23
  have c21 := hm.c21
  have f21 := hm.free 21
  have hl := hm.lt
  have HM := Lib.hid hm
  clear hm
  go_enter Try.func47, Try.ntmps47
  go_wp2
  go_ret
  exact ⟨rfl, ((HM.out.setThrough true).setAns v).setSteps _, (by repeat (first | exact World.grownBy.refl _ _ | apply grow_drew | apply grow_al | apply grow_set))⟩
theorem rTwo_0 (c a b : Int) (hh : bits .and .u16 c 240 = 0) (a0 : 0 ≤ a) (a1 : a < 4294967296) (b0 : 0 ≤ b) (b1 : b < 4294967296) (w : World) : Calls Try.prog 48 #[.int .u16 c, .int .u32 a, .int .u32 b] w fun e w' => e = .returned (.int .u32 (sumP 4 a b)) ∧ w = w' := by
  have e31 : bits .and .u32 b 31 = b % 32 := and31 b b0 b1
  have l1 : 0 ≤ b % 32 := by omega
  have l2 : b % 32 ≤ 32 := by omega
  go_enter Try.func48, Try.ntmps48
  go_wp2
  go_ret
  exact ⟨ret_i (by simp [sumP]), rfl⟩
theorem rTwo_16 (c a b : Int) (hh : bits .and .u16 c 240 = 16) (a0 : 0 ≤ a) (a1 : a < 4294967296) (b0 : 0 ≤ b) (b1 : b < 4294967296) (w : World) : Calls Try.prog 48 #[.int .u16 c, .int .u32 a, .int .u32 b] w fun e w' => e = .returned (.int .u32 (sumP 5 a b)) ∧ w = w' := by
  have e31 : bits .and .u32 b 31 = b % 32 := and31 b b0 b1
  have l1 : 0 ≤ b % 32 := by omega
  have l2 : b % 32 ≤ 32 := by omega
  go_enter Try.func48, Try.ntmps48
  go_wp2
  go_ret
  exact ⟨ret_i (by simp [sumP]), rfl⟩
theorem rTwo_32 (c a b : Int) (hh : bits .and .u16 c 240 = 32) (a0 : 0 ≤ a) (a1 : a < 4294967296) (b0 : 0 ≤ b) (b1 : b < 4294967296) (w : World) : Calls Try.prog 48 #[.int .u16 c, .int .u32 a, .int .u32 b] w fun e w' => e = .returned (.int .u32 (sumP 6 a b)) ∧ w = w' := by
  have e31 : bits .and .u32 b 31 = b % 32 := and31 b b0 b1
  have l1 : 0 ≤ b % 32 := by omega
  have l2 : b % 32 ≤ 32 := by omega
  go_enter Try.func48, Try.ntmps48
  go_wp2
  go_ret
  exact ⟨ret_i (by simp [sumP]), rfl⟩
theorem rTwo_48 (c a b : Int) (hh : bits .and .u16 c 240 = 48) (a0 : 0 ≤ a) (a1 : a < 4294967296) (b0 : 0 ≤ b) (b1 : b < 4294967296) (hne : b ≠ 0) (w : World) : Calls Try.prog 48 #[.int .u16 c, .int .u32 a, .int .u32 b] w fun e w' => e = .returned (.int .u32 (sumP 7 a b)) ∧ w = w' := by
  have e31 : bits .and .u32 b 31 = b % 32 := and31 b b0 b1
  have l1 : 0 ≤ b % 32 := by omega
  have l2 : b % 32 ≤ 32 := by omega
  go_enter Try.func48, Try.ntmps48
  go_wp2
  go_ret
  exact ⟨ret_i (by simp [sumP]), rfl⟩
theorem rTwo_64 (c a b : Int) (hh : bits .and .u16 c 240 = 64) (a0 : 0 ≤ a) (a1 : a < 4294967296) (b0 : 0 ≤ b) (b1 : b < 4294967296) (w : World) : Calls Try.prog 48 #[.int .u16 c, .int .u32 a, .int .u32 b] w fun e w' => e = .returned (.int .u32 (sumP 9 a b)) ∧ w = w' := by
  have e31 : bits .and .u32 b 31 = b % 32 := and31 b b0 b1
  have l1 : 0 ≤ b % 32 := by omega
  have l2 : b % 32 ≤ 32 := by omega
  go_enter Try.func48, Try.ntmps48
  go_wp2
  go_ret
  exact ⟨ret_i (by simp [sumP]), rfl⟩
theorem rTwo_80 (c a b : Int) (hh : bits .and .u16 c 240 = 80) (a0 : 0 ≤ a) (a1 : a < 4294967296) (b0 : 0 ≤ b) (b1 : b < 4294967296) (w : World) : Calls Try.prog 48 #[.int .u16 c, .int .u32 a, .int .u32 b] w fun e w' => e = .returned (.int .u32 (sumP 8 a b)) ∧ w = w' := by
  have e31 : bits .and .u32 b 31 = b % 32 := and31 b b0 b1
  have l1 : 0 ≤ b % 32 := by omega
  have l2 : b % 32 ≤ 32 := by omega
  go_enter Try.func48, Try.ntmps48
  go_wp2
  go_ret
  exact ⟨ret_i (by simp [sumP]), rfl⟩
theorem rTwo_96 (c a b : Int) (hh : bits .and .u16 c 240 = 96) (a0 : 0 ≤ a) (a1 : a < 4294967296) (b0 : 0 ≤ b) (b1 : b < 4294967296) (w : World) : Calls Try.prog 48 #[.int .u16 c, .int .u32 a, .int .u32 b] w fun e w' => e = .returned (.int .u32 (sumP 11 a b)) ∧ w = w' := by
  have e31 : bits .and .u32 b 31 = b % 32 := and31 b b0 b1
  have l1 : 0 ≤ b % 32 := by omega
  have l2 : b % 32 ≤ 32 := by omega
  go_enter Try.func48, Try.ntmps48
  go_wp2
  go_ret
  exact ⟨ret_i (by simp [sumP]), rfl⟩
theorem rTwo_112 (c a b : Int) (hh : bits .and .u16 c 240 = 112) (a0 : 0 ≤ a) (a1 : a < 4294967296) (b0 : 0 ≤ b) (b1 : b < 4294967296) (w : World) : Calls Try.prog 48 #[.int .u16 c, .int .u32 a, .int .u32 b] w fun e w' => e = .returned (.int .u32 (sumP 12 a b)) ∧ w = w' := by
  have e31 : bits .and .u32 b 31 = b % 32 := and31 b b0 b1
  have l1 : 0 ≤ b % 32 := by omega
  have l2 : b % 32 ≤ 32 := by omega
  go_enter Try.func48, Try.ntmps48
  go_wp2
  go_ret
  exact ⟨ret_i (by simp [sumP]), rfl⟩
theorem rTwo_160 (c a b : Int) (hh : bits .and .u16 c 240 = 160) (a0 : 0 ≤ a) (a1 : a < 4294967296) (b0 : 0 ≤ b) (b1 : b < 4294967296) (w : World) : Calls Try.prog 48 #[.int .u16 c, .int .u32 a, .int .u32 b] w fun e w' => e = .returned (.int .u32 (sumP 10 a b)) ∧ w = w' := by
  have e31 : bits .and .u32 b 31 = b % 32 := and31 b b0 b1
  have l1 : 0 ≤ b % 32 := by omega
  have l2 : b % 32 ≤ 32 := by omega
  go_enter Try.func48, Try.ntmps48
  go_wp2
  go_ret
  exact ⟨ret_i (by simp [sumP]), rfl⟩
theorem rSays_16 (c a b : Int) (hh : bits .and .u16 c 240 = 16) (a0 : 0 ≤ a) (a1 : a < 4294967296) (b0 : 0 ≤ b) (b1 : b < 4294967296) (w : World) : Calls Try.prog 49 #[.int .u16 c, .int .u32 a, .int .u32 b] w fun e w' => e = .returned (.bool (saysP 15 a b)) ∧ w = w' := by
  go_enter Try.func49, Try.ntmps49
  go_wp2
  go_ret
  exact ⟨ret_b (by simp [saysP]), rfl⟩
theorem rSays_32 (c a b : Int) (hh : bits .and .u16 c 240 = 32) (a0 : 0 ≤ a) (a1 : a < 4294967296) (b0 : 0 ≤ b) (b1 : b < 4294967296) (w : World) : Calls Try.prog 49 #[.int .u16 c, .int .u32 a, .int .u32 b] w fun e w' => e = .returned (.bool (saysP 16 a b)) ∧ w = w' := by
  go_enter Try.func49, Try.ntmps49
  go_wp2
  go_ret
  exact ⟨ret_b (by simp [saysP]), rfl⟩
theorem rSays_48 (c a b : Int) (hh : bits .and .u16 c 240 = 48) (a0 : 0 ≤ a) (a1 : a < 4294967296) (b0 : 0 ≤ b) (b1 : b < 4294967296) (w : World) : Calls Try.prog 49 #[.int .u16 c, .int .u32 a, .int .u32 b] w fun e w' => e = .returned (.bool (saysP 17 a b)) ∧ w = w' := by
  go_enter Try.func49, Try.ntmps49
  go_wp2
  go_ret
  exact ⟨ret_b (by simp [saysP]), rfl⟩
theorem rSays_64 (c a b : Int) (hh : bits .and .u16 c 240 = 64) (a0 : 0 ≤ a) (a1 : a < 4294967296) (b0 : 0 ≤ b) (b1 : b < 4294967296) (w : World) : Calls Try.prog 49 #[.int .u16 c, .int .u32 a, .int .u32 b] w fun e w' => e = .returned (.bool (saysP 18 a b)) ∧ w = w' := by
  go_enter Try.func49, Try.ntmps49
  go_wp2
  go_ret
  exact ⟨ret_b (by simp [saysP]), rfl⟩
end Go.Proofs.Ytehpoamideeehaa
