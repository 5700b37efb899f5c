import Derived.Test.YtkckaimefklenaaLowL1
set_option linter.unusedVariables false
set_option linter.unusedSimpArgs false
namespace Go.Proofs.Ytkckaimefklenaa
open Go.RowKit
/-! lower.layout in memory; its place: the walk. -/
def prow (x : N8) (first : Nat) (v : Value) : List Value := x.cells ++ [.int .i64 first, v]
def waysV (x : N8) (Y : Nat) : Value := if x.lf = true then .slice none 0 0 else .slice (some ⟨Y, 0, none⟩) 2 2
def wrow (x : N8) (v : Bool × Bool) : List Value := [.int .i64 x.t, .bool v.1, .int .i64 x.f, .bool v.2]
theorem heapSet {w : World} {B j : Nat} {c : Array Value} {t : TypeId} {fr : Nat × Nat} (h : w.heap[B]? = some (.cells c t fr)) (v : Value) : (w.setCell ⟨B, j, none⟩ v).heap[B]? = some (.cells (c.setIfInBounds j v) t fr) := by
  have hlt := (Array.getElem?_eq_some_iff.1 h).1
  have h' : w.heap[B] = .cells c t fr := (Array.getElem?_eq_some_iff.1 h).2
  show (w.heap.modify B _)[B]? = _
  rw [Array.getElem?_eq_getElem (by simpa using hlt), Array.getElem_modify_self, h']
  rfl
theorem heapOther {w : World} {B b j : Nat} {o : Obj} (h : w.heap[b]? = some o) (hne : b ≠ B) (v : Value) : (w.setCell ⟨B, j, none⟩ v).heap[b]? = some o := by
  rw [Below.heap_setCell _ _ _ _ hne]; exact h
structure LayAt (lo : Nat) (q : List N8) (L B c : Nat) (Pn Yn first : Nat → Nat) (size : Nat) (far : Nat → Bool × Bool) (W : World) : Prop where
  lay : W.heap[L]? = some (.cells #[.slice (some ⟨B, 0, none⟩) q.length c, .int .i64 size] 52 (0, 0))
  ptr : ∀ i, i < q.length → W.cell? ⟨B, i, none⟩ = some (.pointer (some ⟨Pn i, 0, none⟩))
  part : ∀ i x, q[i]? = some x → W.heap[Pn i]? = some (.cells (prow x (first i) (waysV x (Yn i))).toArray 64 (0, 0))
  ways : ∀ i x, q[i]? = some x → x.lf = false → W.heap[Yn i]? = some (.cells (wrow x (far i)).toArray 66 (0, 0))
  tag : ∃ tag : Nat → Nat, tag L = 0 ∧ tag B = 1 ∧ (∀ i x, q[i]? = some x → tag (Pn i) = 2 * i + 2 ∧ (x.lf = false → tag (Yn i) = 2 * i + 3))
  lo : lo ≤ L ∧ lo ≤ B ∧ ∀ i x, q[i]? = some x → lo ≤ Pn i ∧ (x.lf = false → lo ≤ Yn i)
section
variable {lo : Nat} {q : List N8} {L B c : Nat} {Pn Yn first : Nat → Nat} {size : Nat} {far : Nat → Bool × Bool} {W W' : World}
theorem heap_lt {W : World} {b : Nat} {o : Obj} (h : W.heap[b]? = some o) : b < W.heap.size := (Array.getElem?_eq_some_iff.1 h).1
theorem LayAt.keep (h : LayAt lo q L B c Pn Yn first size far W) (hb : Below W.heap.size W W') : LayAt lo q L B c Pn Yn first size far W' :=
  ⟨(hb.block _ (heap_lt h.lay)).trans h.lay, fun i hi => keepB hb (World.block_lt_of_cell? W _ (h.ptr i hi)) (h.ptr i hi), fun i x hx => (hb.block _ (heap_lt (h.part i x hx))).trans (h.part i x hx), fun i x hx hl => (hb.block _ (heap_lt (h.ways i x hx hl))).trans (h.ways i x hx hl), h.tag, h.lo⟩
theorem LayAt.drew (h : LayAt lo q L B c Pn Yn first size far W) : LayAt lo q L B c Pn Yn first size far W.drew := ⟨h.lay, h.ptr, h.part, h.ways, h.tag, h.lo⟩
theorem undrew {B : Nat} (h : Below B W.drew W') : Below B W W' := ⟨h.os, h.tape, h.output, h.size, h.block⟩
theorem LayAt.LB (h : LayAt lo q L B c Pn Yn first size far W) : L ≠ B := by obtain ⟨t, a, b, -⟩ := h.tag; intro e; subst e; omega
theorem LayAt.LP (h : LayAt lo q L B c Pn Yn first size far W) {i : Nat} {x : N8} (hx : q[i]? = some x) : Pn i ≠ L := by obtain ⟨t, a, b, d⟩ := h.tag; have := (d i x hx).1; intro e; rw [e] at this; omega
theorem LayAt.BP (h : LayAt lo q L B c Pn Yn first size far W) {i : Nat} {x : N8} (hx : q[i]? = some x) : Pn i ≠ B := by obtain ⟨t, a, b, d⟩ := h.tag; have := (d i x hx).1; intro e; rw [e] at this; omega
theorem LayAt.LY (h : LayAt lo q L B c Pn Yn first size far W) {i : Nat} {x : N8} (hx : q[i]? = some x) (hl : x.lf = false) : Yn i ≠ L := by obtain ⟨t, a, b, d⟩ := h.tag; have := (d i x hx).2 hl; intro e; rw [e] at this; omega
theorem LayAt.BY (h : LayAt lo q L B c Pn Yn first size far W) {i : Nat} {x : N8} (hx : q[i]? = some x) (hl : x.lf = false) : Yn i ≠ B := by obtain ⟨t, a, b, d⟩ := h.tag; have := (d i x hx).2 hl; intro e; rw [e] at this; omega
theorem LayAt.PP (h : LayAt lo q L B c Pn Yn first size far W) {i j : Nat} {x y : N8} (hx : q[i]? = some x) (hy : q[j]? = some y) (e : Pn i = Pn j) : i = j := by obtain ⟨t, a, b, d⟩ := h.tag; have h1 := (d i x hx).1; have h2 := (d j y hy).1; rw [e] at h1; omega
theorem LayAt.PY (h : LayAt lo q L B c Pn Yn first size far W) {i j : Nat} {x y : N8} (hx : q[i]? = some x) (hy : q[j]? = some y) (hl : y.lf = false) : Yn j ≠ Pn i := by obtain ⟨t, a, b, d⟩ := h.tag; have h1 := (d i x hx).1; have h2 := (d j y hy).2 hl; intro e; rw [e] at h2; omega
theorem LayAt.YY (h : LayAt lo q L B c Pn Yn first size far W) {i j : Nat} {x y : N8} (hx : q[i]? = some x) (hy : q[j]? = some y) (hl : x.lf = false) (hm : y.lf = false) (e : Yn i = Yn j) : i = j := by obtain ⟨t, a, b, d⟩ := h.tag; have h1 := (d i x hx).2 hl; have h2 := (d j y hy).2 hm; rw [e] at h1; omega
theorem otherC {W : World} {B b j o : Nat} {u : Value} (h : W.cell? ⟨b, o, none⟩ = some u) (hne : b ≠ B) (v : Value) : (W.setCell ⟨B, j, none⟩ v).cell? ⟨b, o, none⟩ = some u := (World.cell?_setCell_other _ _ _ _ (by intro e; injection e with e; exact hne e.symm)).trans h
theorem LayAt.setSize (h : LayAt lo q L B c Pn Yn first size far W) (s : Nat) : LayAt lo q L B c Pn Yn first s far (W.setCell ⟨L, 1, none⟩ (.int .i64 s)) :=
  ⟨by rw [heapSet h.lay]; rfl, fun i hi => otherC (h.ptr i hi) (Ne.symm h.LB) _, fun i x hx => heapOther (h.part i x hx) (h.LP hx) _, fun i x hx hl => heapOther (h.ways i x hx hl) (h.LY hx hl) _, h.tag, h.lo⟩
theorem LayAt.setSize' (h : LayAt lo q L B c Pn Yn first size far W) (s : Nat) (v : Int) (e : v = s) : LayAt lo q L B c Pn Yn first s far (W.setCell ⟨L, 1, none⟩ (.int .i64 v)) := by subst e; exact h.setSize s
theorem LayAt.setFirst (h : LayAt lo q L B c Pn Yn first size far W) {k : Nat} {y : N8} (hy : q[k]? = some y) (s : Nat) : LayAt lo q L B c Pn Yn (fun i => if i = k then s else first i) size far (W.setCell ⟨Pn k, 8, none⟩ (.int .i64 s)) :=
  ⟨heapOther h.lay (Ne.symm (h.LP hy)) _, fun i hi => otherC (h.ptr i hi) (Ne.symm (h.BP hy)) _, fun i x hx => by
    by_cases e : i = k
    · subst e
      have : x = y := by rw [hy] at hx; injection hx with hx; exact hx.symm
      subst this
      rw [heapSet (h.part i x hx), if_pos rfl]
      simp [prow, N8.cells]
    · rw [if_neg e]
      exact heapOther (h.part i x hx) (fun e2 => e (h.PP hx hy e2)) _, fun i x hx hl => heapOther (h.ways i x hx hl) (h.PY hy hx hl) _, h.tag, h.lo⟩
theorem LayAt.setT (h : LayAt lo q L B c Pn Yn first size far W) {k : Nat} {y : N8} (hy : q[k]? = some y) (hk : y.lf = false) : LayAt lo q L B c Pn Yn first size (fun i => if i = k then (true, (far k).2) else far i) (W.setCell ⟨Yn k, 1, none⟩ (.bool true)) :=
  ⟨heapOther h.lay (Ne.symm (h.LY hy hk)) _, fun i hi => otherC (h.ptr i hi) (Ne.symm (h.BY hy hk)) _, fun i x hx => heapOther (h.part i x hx) (Ne.symm (h.PY hx hy hk)) _, fun i x hx hl => by
    by_cases e : i = k
    · subst e
      have : x = y := by rw [hy] at hx; injection hx with hx; exact hx.symm
      subst this
      rw [heapSet (h.ways i x hx hl), if_pos rfl]
      simp [wrow]
    · rw [if_neg e]
      exact heapOther (h.ways i x hx hl) (fun e2 => e (h.YY hx hy hl hk e2)) _, h.tag, h.lo⟩
theorem LayAt.setF (h : LayAt lo q L B c Pn Yn first size far W) {k : Nat} {y : N8} (hy : q[k]? = some y) (hk : y.lf = false) : LayAt lo q L B c Pn Yn first size (fun i => if i = k then ((far k).1, true) else far i) (W.setCell ⟨Yn k, 3, none⟩ (.bool true)) :=
  ⟨heapOther h.lay (Ne.symm (h.LY hy hk)) _, fun i hi => otherC (h.ptr i hi) (Ne.symm (h.BY hy hk)) _, fun i x hx => heapOther (h.part i x hx) (Ne.symm (h.PY hx hy hk)) _, fun i x hx hl => by
    by_cases e : i = k
    · subst e
      have : x = y := by rw [hy] at hx; injection hx with hx; exact hx.symm
      subst this
      rw [heapSet (h.ways i x hx hl), if_pos rfl]
      simp [wrow]
    · rw [if_neg e]
      exact heapOther (h.ways i x hx hl) (fun e2 => e (h.YY hx hy hl hk e2)) _, h.tag, h.lo⟩
theorem LayAt.cast {first' : Nat → Nat} {size' : Nat} {far' : Nat → Bool × Bool} (h : LayAt lo q L B c Pn Yn first size far W) (e1 : ∀ i x, q[i]? = some x → first i = first' i) (e2 : size = size') (e3 : ∀ i x, q[i]? = some x → x.lf = false → far i = far' i) : LayAt lo q L B c Pn Yn first' size' far' W :=
  ⟨by rw [← e2]; exact h.lay, h.ptr, fun i x hx => by rw [← e1 i x hx]; exact h.part i x hx, fun i x hx hl => by rw [← e3 i x hx hl]; exact h.ways i x hx hl, h.tag, h.lo⟩
theorem LayAt.partAt (h : LayAt lo q L B c Pn Yn first size far W) {i : Nat} {x : N8} (hx : q[i]? = some x) : PartAt W (Pn i) x (first i) (waysV x (Yn i)) := by
  have g := h.part i x hx
  refine ⟨?_, ?_, ?_, ?_, ?_, ?_, ?_, ?_, ?_, ?_⟩ <;> simp [World.cell?, g, prow, N8.cells]
theorem LayAt.waysAt (h : LayAt lo q L B c Pn Yn first size far W) {i : Nat} {x : N8} (hx : q[i]? = some x) (hl : x.lf = false) : WaysAt W (Yn i) x.t x.f (far i) := by
  have g := h.ways i x hx hl
  refine ⟨?_, ?_, ?_, ?_⟩ <;> simp [World.cell?, g, wrow]
theorem LayAt.l0 (h : LayAt lo q L B c Pn Yn first size far W) : W.cell? ⟨L, 0, none⟩ = some (.slice (some ⟨B, 0, none⟩) q.length c) := by simp [World.cell?, h.lay]
theorem LayAt.l1 (h : LayAt lo q L B c Pn Yn first size far W) : W.cell? ⟨L, 1, none⟩ = some (.int .i64 size) := by simp [World.cell?, h.lay]
theorem LayAt.freeL (h : LayAt lo q L B c Pn Yn first size far W) (j : Nat) : W.frozen? ⟨L, j, none⟩ = false := by simp [World.frozen?, h.lay]
theorem LayAt.freeP (h : LayAt lo q L B c Pn Yn first size far W) {i : Nat} {x : N8} (hx : q[i]? = some x) (j : Nat) : W.frozen? ⟨Pn i, j, none⟩ = false := by simp [World.frozen?, h.part i x hx]
theorem LayAt.freeY (h : LayAt lo q L B c Pn Yn first size far W) {i : Nat} {x : N8} (hx : q[i]? = some x) (hl : x.lf = false) (j : Nat) : W.frozen? ⟨Yn i, j, none⟩ = false := by simp [World.frozen?, h.ways i x hx hl]
end
end Go.Proofs.Ytkckaimefklenaa
