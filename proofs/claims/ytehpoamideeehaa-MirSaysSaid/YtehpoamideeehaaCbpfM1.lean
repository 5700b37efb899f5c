import Derived.Test.YtehpoamideeehaaCbpfMap
import Derived.Test.YtehpoamideeehaaMVBase
import Derived.Maps.AppendAt
set_option linter.unusedVariables false
set_option linter.unusedSimpArgs false
namespace Go.Proofs.Ytehpoamideeehaa
open Go.RowKit
/-! A machine of package cbpf in memory; its small methods. -/
/-- What does not turn: the slices' places, the map. -/
structure MK where
  Aq : Option Addr
  nq : Nat
  cq : Nat
  Ad : Option Addr
  nd : Nat
  cd : Nat
  mb : Nat
def mrow (K : MK) (z : MV) : List Value := [.slice K.Aq K.nq K.cq, .slice K.Ad K.nd K.cd, .int .u32 z.a, .int .u32 z.x] ++ (numV .u32 z.m ++ [.int .i64 z.place, .int .i64 z.steps, .bool z.through, .int .u32 z.ans, .int .i64 z.err, .map (some K.mb)])
def MachAt (w : World) (B : Nat) (K : MK) (z : MV) : Prop := z.m.length = 16 ∧ w.heap[B]? = some (.cells (mrow K z).toArray 108 (0, 0))
section
variable {w W : World} {B : Nat} {K : MK} {z z' : MV}
theorem MachAt.cast (h : MachAt w B K z) (e : z = z') : MachAt w B K z' := e ▸ h
theorem MachAt.lt (h : MachAt w B K z) : B < w.heap.size := (Array.getElem?_eq_some_iff.1 h.2).1
theorem MachAt.cell (h : MachAt w B K z) {j : Nat} {v : Value} (hv : (mrow K z)[j]? = some v) : w.cell? ⟨B, j, none⟩ = some v := by
  simp [World.cell?, h.2, hv]
theorem MachAt.free (h : MachAt w B K z) (j : Nat) : w.frozen? ⟨B, j, none⟩ = false := by simp [World.frozen?, h.2]
theorem MachAt.keep (h : MachAt w B K z) (hb : Below w.heap.size w W) : MachAt W B K z := ⟨h.1, (hb.block B h.lt).trans h.2⟩
theorem MachAt.alloc (h : MachAt w B K z) (o : Obj) : MachAt (w.alloc o) B K z := h.keep (below1 w o)
theorem MachAt.drew (h : MachAt w B K z) : MachAt w.drew B K z := h
theorem MachAt.drewN (h : MachAt w B K z) (n : Nat) : MachAt (w.drewN n) B K z := h
theorem mrow_low (K : MK) (z : MV) {j : Nat} (hj : j < 4) : (mrow K z)[j]? = [Value.slice K.Aq K.nq K.cq, .slice K.Ad K.nd K.cd, .int .u32 z.a, .int .u32 z.x][j]? := by
  unfold mrow; rw [List.getElem?_append_left (by simpa using hj)]
theorem mrow_mid (K : MK) (z : MV) (h : z.m.length = 16) {j : Nat} (hj : j < 16) : (mrow K z)[4 + j]? = some (.int .u32 (getN z.m j)) := by
  unfold mrow
  rw [List.getElem?_append_right (by simp), List.getElem?_append_left (by simp [numV]; omega)]
  have : z.m[j]? = some (getN z.m j) := by unfold getN; rw [List.getD_eq_getElem?_getD, List.getElem?_eq_getElem (by omega)]; rfl
  simp [numV, this]
theorem mrow_high (K : MK) (z : MV) (h : z.m.length = 16) (j : Nat) : (mrow K z)[20 + j]? = [Value.int .i64 z.place, .int .i64 z.steps, .bool z.through, .int .u32 z.ans, .int .i64 z.err, .map (some K.mb)][j]? := by
  unfold mrow
  rw [List.getElem?_append_right (by simp; omega), List.getElem?_append_right (by simp [numV, h]; omega)]
  congr 1; simp [numV, h]; omega
theorem MachAt.c0 (h : MachAt w B K z) : w.cell? ⟨B, 0, none⟩ = some (.slice K.Aq K.nq K.cq) := h.cell (mrow_low K z (by decide))
theorem MachAt.c1 (h : MachAt w B K z) : w.cell? ⟨B, 1, none⟩ = some (.slice K.Ad K.nd K.cd) := h.cell (mrow_low K z (by decide))
theorem MachAt.c2 (h : MachAt w B K z) : w.cell? ⟨B, 2, none⟩ = some (.int .u32 z.a) := h.cell (mrow_low K z (by decide))
theorem MachAt.c3 (h : MachAt w B K z) : w.cell? ⟨B, 3, none⟩ = some (.int .u32 z.x) := h.cell (mrow_low K z (by decide))
theorem MachAt.cm (h : MachAt w B K z) {j : Nat} (hj : j < 16) : w.cell? ⟨B, 4 + j, none⟩ = some (.int .u32 (getN z.m j)) := h.cell (mrow_mid K z h.1 hj)
theorem MachAt.c20 (h : MachAt w B K z) : w.cell? ⟨B, 20, none⟩ = some (.int .i64 z.place) := h.cell (mrow_high K z h.1 0)
theorem MachAt.c21 (h : MachAt w B K z) : w.cell? ⟨B, 21, none⟩ = some (.int .i64 z.steps) := h.cell (mrow_high K z h.1 1)
theorem MachAt.c22 (h : MachAt w B K z) : w.cell? ⟨B, 22, none⟩ = some (.bool z.through) := h.cell (mrow_high K z h.1 2)
theorem MachAt.c23 (h : MachAt w B K z) : w.cell? ⟨B, 23, none⟩ = some (.int .u32 z.ans) := h.cell (mrow_high K z h.1 3)
theorem MachAt.c24 (h : MachAt w B K z) : w.cell? ⟨B, 24, none⟩ = some (.int .i64 z.err) := h.cell (mrow_high K z h.1 4)
theorem MachAt.c25 (h : MachAt w B K z) : w.cell? ⟨B, 25, none⟩ = some (.map (some K.mb)) := h.cell (mrow_high K z h.1 5)
theorem mset_low (K : MK) {z z' : MV} (h : z.m.length = 16) (j : Nat) (v : Value) (e : (mrow K z).set j v = mrow K z') (hl : z'.m.length = 16) (hm : MachAt w B K z) : MachAt (w.setCell ⟨B, j, none⟩ v) B K z' := by
  refine ⟨hl, ?_⟩
  rw [heap_setCell_same hm.2, ← e]
  simp
theorem MachAt.setA (h : MachAt w B K z) (v : Int) : MachAt (w.setCell ⟨B, 2, none⟩ (.int .u32 v)) B K { z with a := v } := mset_low K h.1 2 _ (by simp [mrow]) h.1 h
theorem MachAt.setX (h : MachAt w B K z) (v : Int) : MachAt (w.setCell ⟨B, 3, none⟩ (.int .u32 v)) B K { z with x := v } := mset_low K h.1 3 _ (by simp [mrow]) h.1 h
theorem MachAt.setM (h : MachAt w B K z) {j : Nat} (hj : j < 16) (v : Int) : MachAt (w.setCell ⟨B, 4 + j, none⟩ (.int .u32 v)) B K { z with m := z.m.set j v } := mset_low K h.1 (4 + j) _ (by
  unfold mrow
  rw [set_high _ _ 4 j rfl, List.set_append_left _ _ (by simp [numV, h.1]; omega)]
  simp [numV, List.map_set]) (by simp [h.1]) h
theorem mset_high (h : MachAt w B K z) (j : Nat) (v : Value) (z' : MV) (e : [Value.int .i64 z.place, .int .i64 z.steps, .bool z.through, .int .u32 z.ans, .int .i64 z.err, .map (some K.mb)].set j v = [Value.int .i64 z'.place, .int .i64 z'.steps, .bool z'.through, .int .u32 z'.ans, .int .i64 z'.err, .map (some K.mb)])
    (ea : z'.a = z.a) (ex : z'.x = z.x) (em : z'.m = z.m) : MachAt (w.setCell ⟨B, 20 + j, none⟩ v) B K z' := mset_low K h.1 (20 + j) _ (by
  unfold mrow
  rw [show 20 + j = 4 + (16 + j) by omega, set_high _ _ 4 (16 + j) rfl, set_high _ _ 16 j (by simp [numV, h.1]), e, ea, ex, em]) (by rw [em]; exact h.1) h
theorem MachAt.setPlace (h : MachAt w B K z) (v : Int) : MachAt (w.setCell ⟨B, 20, none⟩ (.int .i64 v)) B K { z with place := v } := mset_high h 0 _ _ rfl rfl rfl rfl
theorem MachAt.setSteps (h : MachAt w B K z) (v : Int) : MachAt (w.setCell ⟨B, 21, none⟩ (.int .i64 v)) B K { z with steps := v } := mset_high h 1 _ _ rfl rfl rfl rfl
theorem MachAt.setThrough (h : MachAt w B K z) (v : Bool) : MachAt (w.setCell ⟨B, 22, none⟩ (.bool v)) B K { z with through := v } := mset_high h 2 _ _ rfl rfl rfl rfl
theorem MachAt.setAns (h : MachAt w B K z) (v : Int) : MachAt (w.setCell ⟨B, 23, none⟩ (.int .u32 v)) B K { z with ans := v } := mset_high h 3 _ _ rfl rfl rfl rfl
theorem MachAt.setErr (h : MachAt w B K z) (v : Int) : MachAt (w.setCell ⟨B, 24, none⟩ (.int .i64 v)) B K { z with err := v } := mset_high h 4 _ _ rfl rfl rfl rfl
end
/-- What a method comes to. -/
def MPost (w : World) (B : Nat) (K : MK) (z' : MV) (e' : Int) (e : Ending) (w' : World) : Prop := e = .returned (.int .i64 e') ∧ MachAt w' B K z' ∧ w.grownBy w' (some B)
set_option maxHeartbeats 400000 in
theorem cset_a (i : I4) (v : Int) (h1 : (bits .and .u16 i.c 7 == 1) = false) (B : Nat) (K : MK) (z : MV) (w : World) (hm : MachAt w B K z) :
    Calls Try.prog 86 #[.pointer (some ⟨B, 0, none⟩), .agg #[.int .u16 i.c, .int .u8 i.j, .int .u8 i.f, .int .u32 i.k], .int .u32 v] w fun e w' => e = .returned (.tuple #[]) ∧ MachAt w' B K { z with a := v } ∧ w.grownBy w' (some B) := by
  have c2 := hm.c2
  have f2 := hm.free 2
  have hl := hm.lt
  have HM := Lib.hid hm
  clear hm
  go_enter Try.func86, Try.ntmps86
  go_wp2
  go_end0
  exact ⟨rfl, (HM.out.setA v).alloc _, (by repeat (first | exact World.grownBy.refl _ _ | apply grow_drew | apply grow_al | apply grow_set))⟩
set_option maxHeartbeats 400000 in
theorem cset_x (i : I4) (v : Int) (h1 : (bits .and .u16 i.c 7 == 1) = true) (B : Nat) (K : MK) (z : MV) (w : World) (hm : MachAt w B K z) :
    Calls Try.prog 86 #[.pointer (some ⟨B, 0, none⟩), .agg #[.int .u16 i.c, .int .u8 i.j, .int .u8 i.f, .int .u32 i.k], .int .u32 v] w fun e w' => e = .returned (.tuple #[]) ∧ MachAt w' B K { z with x := v } ∧ w.grownBy w' (some B) := by
  have c2 := hm.c3
  have f2 := hm.free 3
  have hl := hm.lt
  have HM := Lib.hid hm
  clear hm
  go_enter Try.func86, Try.ntmps86
  go_wp2
  go_end0
  exact ⟨rfl, (HM.out.setX v).alloc _, (by repeat (first | exact World.grownBy.refl _ _ | apply grow_drew | apply grow_al | apply grow_set))⟩
set_option maxHeartbeats 400000 in
theorem coper_c (i : I4) (B : Nat) (K : MK) (z : MV) (w : World) (hm : MachAt w B K z) :
    Calls Try.prog 87 #[.pointer (some ⟨B, 0, none⟩), .agg #[.int .u16 i.c, .int .u8 i.j, .int .u8 i.f, .int .u32 i.k]] w fun e w' => e = .returned (.int .u32 (operC i ⟨z.a, z.x, z.m⟩)) ∧ Below w.heap.size w w' := by
  have c2 := hm.c3
  have hl := hm.lt
  clear hm
  have HX := Lib.hid (show operC i ⟨z.a, z.x, z.m⟩ = if xBit i.c = true then z.x else i.k from rfl)
  by_cases hx : xBit i.c = true
  · have hx' : (bits .and .u16 i.c 8 != 0) = true := hx
    have HV := Lib.hid (HX.out.trans (if_pos hx))
    clear hx HX
    go_enter Try.func87, Try.ntmps87
    go_wp2
    go_ret
    exact ⟨ret_i HV.out.symm, below1 _ _⟩
  · have hx' : (bits .and .u16 i.c 8 != 0) = false := by simpa [xBit] using hx
    have HV := Lib.hid (HX.out.trans (if_neg hx))
    clear hx HX
    go_enter Try.func87, Try.ntmps87
    go_wp2
    go_ret
    exact ⟨ret_i HV.out.symm, below1 _ _⟩
set_option maxHeartbeats 400000 in
theorem cfails_c (v : Int) (B : Nat) (K : MK) (z : MV) (w : World) (hm : MachAt w B K z) :
    Calls Try.prog 60 #[.pointer (some ⟨B, 0, none⟩), .int .i64 v] w fun e w' => e = .returned (.bool true) ∧ MachAt w' B K { z with through := true, err := v } ∧ w.grownBy w' (some B) := by
  have c22 := hm.c22
  have f22 := hm.free 22
  have c24 := hm.c24
  have f24 := hm.free 24
  have hl := hm.lt
  have HM := Lib.hid hm
  clear hm
  go_enter Try.func60, Try.ntmps60
  go_wp2
  go_ret
  exact ⟨rfl, (HM.out.setThrough true).setErr v, (by repeat (first | exact World.grownBy.refl _ _ | apply grow_drew | apply grow_al | apply grow_set))⟩
end Go.Proofs.Ytehpoamideeehaa
