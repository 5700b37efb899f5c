import Derived.Test.YtkckaimefklenaaLowL4
import Derived.Maps.AppendAt
import Derived.Test.YtkckaimefklenaaOwn
set_option linter.unusedVariables false
set_option linter.unusedSimpArgs false
set_option maxRecDepth 20000
namespace Go.Proofs.Ytkckaimefklenaa
open Go.RowKit
/-! lower.lay: the layout as it is built. -/
def ptrs (Pn : Nat → Nat) (k : Nat) : List Value := (List.range k).map fun i => .pointer (some ⟨Pn i, 0, none⟩)
theorem ptrs_succ (Pn : Nat → Nat) (k : Nat) : ptrs Pn (k + 1) = ptrs Pn k ++ [.pointer (some ⟨Pn k, 0, none⟩)] := by simp [ptrs, List.range_succ]
theorem ptrs_ext {Pn Pn' : Nat → Nat} {k : Nat} (h : ∀ i, i < k → Pn i = Pn' i) : ptrs Pn k = ptrs Pn' k := by
  unfold ptrs
  exact List.map_congr_left fun i hi => by rw [h i (List.mem_range.1 hi)]
structure LayK (w : World) (lo : Nat) (q : List N8) (k L : Nat) (v : Value) (Pn Yn : Nat → Nat) (W : World) : Prop where
  lay : W.heap[L]? = some (.cells #[v, .int .i64 0] 52 (0, 0))
  own : W.ownsRow lo 57 1 v k (ptrs Pn k)
  part : ∀ i x, i < k → q[i]? = some x → W.heap[Pn i]? = some (.cells (prow x 0 (waysV x (Yn i))).toArray 64 (0, 0))
  ways : ∀ i x, i < k → q[i]? = some x → x.lf = false → W.heap[Yn i]? = some (.cells (wrow x (false, false)).toArray 66 (0, 0))
  tag : ∃ tag : Nat → Nat, tag L = 0 ∧ (∀ b, v.ownBlock = some b → tag b = 1) ∧ (∀ i x, i < k → q[i]? = some x → tag (Pn i) = 2 * i + 2 ∧ (x.lf = false → tag (Yn i) = 2 * i + 3))
  low : lo ≤ L ∧ (∀ i x, i < k → q[i]? = some x → lo ≤ Pn i ∧ (x.lf = false → lo ≤ Yn i))
  below : Below lo w W
theorem own_lt2 {W : World} {base e size n : Nat} {v : Value} {xs : List Value} (h : W.ownsRow base e size v n xs) (k : Nat) (hk : v.ownBlock = some k) : k < W.heap.size := by
  rcases h.2 with ⟨rfl, _⟩ | ⟨g, cap, cur, rfl, hb, hg, _⟩
  · simp [Value.ownBlock] at hk
  · have : g = k := by simpa [Value.ownBlock] using hk
    subst this
    exact (Array.getElem?_eq_some_iff.1 hg).1
theorem own_setc {w : World} {base : Nat} {e : TypeId} {size n : Nat} {v : Value} {xs : List Value} (h : w.ownsRow base e size v n xs) (g j : Nat) (u : Value) (hg : v.ownBlock ≠ some g) : (w.setCell ⟨g, j, none⟩ u).ownsRow base e size v n xs :=
  h.kept (row := some g) ⟨rfl, rfl, rfl, by simp, fun k _ hk => Below.heap_setCell _ _ _ k (fun e => hk (by rw [e]))⟩ (.inr hg)
def upd (f : Nat → Nat) (k v : Nat) : Nat → Nat := fun i => if i = k then v else f i
theorem upd_at (f : Nat → Nat) (k v : Nat) : upd f k v k = v := by simp [upd]
theorem upd_lt (f : Nat → Nat) (k v : Nat) {i : Nat} (h : i < k) : upd f k v i = f i := by unfold upd; rw [if_neg (by omega)]
/-- One more part. -/
theorem LayK.next {w : World} {lo : Nat} {q : List N8} {k L : Nat} {v v' : Value} {Pn Yn : Nat → Nat} {W W3 W5 : World} {P Y : Nat} {o : Obj} {x : N8} (h : LayK w lo q k L v Pn Yn W) (hx : q[k]? = some x) (hw : lo ≤ W.heap.size) (hb : Below W.heap.size W W3)
    (hP : W3.heap[P]? = some (.cells (prow x 0 (waysV x Y)).toArray 64 (0, 0))) (hY : x.lf = false → W3.heap[Y]? = some (.cells (wrow x (false, false)).toArray 66 (0, 0))) (hp : W.heap.size ≤ P) (hy : W.heap.size ≤ Y) (hpy : P ≠ Y)
    (hg : (W3.alloc o).grownBy W5 v.ownBlock) (hown : W5.ownsRow lo 57 1 v' (k + 1) (ptrs Pn k ++ [.pointer (some ⟨P, 0, none⟩)])) (hl : v'.ownBlock = v.ownBlock ∨ ∀ b, v'.ownBlock = some b → W3.heap.size + 1 ≤ b) :
    LayK w lo q (k + 1) L v' (upd Pn k P) (upd Yn k Y) (W5.setCell ⟨L, 0, none⟩ v') := by
  obtain ⟨tag, t0, t1, t2⟩ := h.tag
  have hsz := hg.size
  have hb3 := hb.size
  simp at hsz
  have old : ∀ b, b < W.heap.size → tag b ≠ 1 → W5.heap[b]? = W.heap[b]? := fun b hlt ht => ((hg.block b (by simp; omega) (fun e => ht (t1 b e.symm))).trans (Below.heap_alloc W3 o b (by omega))).trans (hb.block b hlt)
  have new : ∀ b, b < W3.heap.size → W.heap.size ≤ b → W5.heap[b]? = W3.heap[b]? := fun b hlt hge => (hg.block b (by simp; omega) (fun e => by have := own_lt2 h.own b e.symm; omega)).trans (Below.heap_alloc W3 o b hlt)
  have hL : L < W.heap.size := heap_lt h.lay
  have hPl : P < W3.heap.size := heap_lt hP
  have hW5 : W5.heap[L]? = some (.cells #[v, .int .i64 0] 52 (0, 0)) := (old L hL (by omega)).trans h.lay
  have hbig : ∀ b, v'.ownBlock = some b → (b < W.heap.size ∧ tag b = 1) ∨ W3.heap.size + 1 ≤ b := fun b hb' => by
    rcases hl with e | e
    · rw [e] at hb'; exact .inl ⟨own_lt2 h.own b hb', t1 b hb'⟩
    · exact .inr (e b hb')
  have hYl : x.lf = false → Y < W3.heap.size := fun e => heap_lt (hY e)
  refine ⟨?_, ?_, ?_, ?_, ?_, ?_, ?_⟩
  · rw [heapSet hW5]; rfl
  · rw [ptrs_succ, upd_at, ptrs_ext (Pn := upd Pn k P) (Pn' := Pn) (fun i hi => upd_lt _ _ _ hi)]
    exact own_setc hown L 0 v' (fun e => by rcases hbig L e with ⟨_, h1⟩ | h1 <;> omega)
  · intro i y hi hy'
    by_cases e : i = k
    · subst e
      obtain rfl : y = x := by rw [hx] at hy'; injection hy' with hy'; exact hy'.symm
      rw [upd_at, upd_at]
      exact heapOther ((new P hPl hp).trans hP) (by omega) _
    · have hik : i < k := by omega
      rw [upd_lt _ _ _ hik, upd_lt _ _ _ hik]
      have g := h.part i y hik hy'
      have t := (t2 i y hik hy').1
      exact heapOther ((old _ (heap_lt g) (by omega)).trans g) (fun e => by rw [e] at t; omega) _
  · intro i y hi hy' hly
    by_cases e : i = k
    · subst e
      obtain rfl : y = x := by rw [hx] at hy'; injection hy' with hy'; exact hy'.symm
      rw [upd_at]
      exact heapOther ((new Y (hYl hly) hy).trans (hY hly)) (by omega) _
    · have hik : i < k := by omega
      rw [upd_lt _ _ _ hik]
      have g := h.ways i y hik hy' hly
      have t := (t2 i y hik hy').2 hly
      exact heapOther ((old _ (heap_lt g) (by omega)).trans g) (fun e => by rw [e] at t; omega) _
  · refine ⟨fun b => if b = P then 2 * k + 2 else if b = Y ∧ b < W3.heap.size then 2 * k + 3 else if W3.heap.size ≤ b then 1 else tag b, ?_, ?_, ?_⟩
    · show (if L = P then _ else _) = _
      rw [if_neg (by omega), if_neg (by omega), if_neg (by omega)]; exact t0
    · intro b hb'
      show (if b = P then _ else _) = _
      rcases hbig b hb' with ⟨h1, h2⟩ | h1
      · rw [if_neg (by omega), if_neg (by omega), if_neg (by omega)]; exact h2
      · rw [if_neg (by omega), if_neg (by omega), if_pos (by omega)]
    · intro i y hi hy'
      by_cases e : i = k
      · subst e
        obtain rfl : y = x := by rw [hx] at hy'; injection hy' with hy'; exact hy'.symm
        rw [upd_at, upd_at]
        exact ⟨if_pos rfl, fun hly => by have := hYl hly; show (if Y = P then _ else _) = _; rw [if_neg (by omega), if_pos ⟨rfl, this⟩]⟩
      · have hik : i < k := by omega
        rw [upd_lt _ _ _ hik, upd_lt _ _ _ hik]
        have g := heap_lt (h.part i y hik hy')
        refine ⟨?_, fun hly => ?_⟩
        · show (if Pn i = P then _ else _) = _
          rw [if_neg (by omega), if_neg (by omega), if_neg (by omega)]; exact (t2 i y hik hy').1
        · have g2 := heap_lt (h.ways i y hik hy' hly)
          show (if Yn i = P then _ else _) = _
          rw [if_neg (by omega), if_neg (by omega), if_neg (by omega)]; exact (t2 i y hik hy').2 hly
  · refine ⟨h.low.1, fun i y hi hy' => ?_⟩
    by_cases e : i = k
    · subst e; rw [upd_at, upd_at]; exact ⟨by omega, fun _ => by omega⟩
    · have hik : i < k := by omega
      rw [upd_lt _ _ _ hik, upd_lt _ _ _ hik]; exact h.low.2 i y hik hy'
  · refine Below.setCell (p := ⟨L, 0, none⟩) ?_ h.low.1 _
    exact below_gr ((below_tr h.below hw hb).alloc (by omega) o) hg (by simp; omega) (fun j hj => own_ge h.own j hj)
theorem heap_new (W : World) (o : Obj) : (W.alloc o).heap[W.heap.size]? = some o := by
  show (W.heap.push o)[W.heap.size]? = some o
  exact Array.getElem?_push_size
theorem heap_old {W : World} {b : Nat} {r : Obj} (h : W.heap[b]? = some r) (o : Obj) : (W.alloc o).heap[b]? = some r := (Below.heap_alloc W o b (heap_lt h)).trans h
theorem infoP : (Try.prog.info? 57).map (fun i => (i.zero, i.size, i.bytes)) = some (some (.pointer none), 1, 8) := by kernel_rfl
theorem LayK.size_le {w : World} {lo : Nat} {q : List N8} {k L : Nat} {v : Value} {Pn Yn : Nat → Nat} {W : World} (h : LayK w lo q k L v Pn Yn W) : L < W.heap.size := heap_lt h.lay
/-- A part's pointer is put behind: the append, ahead of its store. -/
theorem ptr_step {w : World} {lo : Nat} {q : List N8} {k L : Nat} {v : Value} {Pn Yn : Nat → Nat} {W W3 : World} {P Y : Nat} {x : N8} {ops : Array Oper} {rest : List Oper} {op : Oper} {a : Act} {Q : Exit → Act → World → Prop} (h : LayK w lo q k L v Pn Yn W) (hx : q[k]? = some x) (hw : lo ≤ W.heap.size) (hb : Below W.heap.size W W3)
    (hP : W3.heap[P]? = some (.cells (prow x 0 (waysV x Y)).toArray 64 (0, 0))) (hY : x.lf = false → W3.heap[Y]? = some (.cells (wrow x (false, false)).toArray 66 (0, 0))) (hp : W.heap.size ≤ P) (hy : W.heap.size ≤ Y) (hpy : P ≠ Y)
    (hk : k ≤ 4096) (hgd : op.guard = none) (s y : Operand) (ho : op.op = .call { callee := .builtin .append, args := #[s, y], argTypes := #[50, 50] }) (hs : a.eval s = v) (B : Nat) (hB : W3.heap.size = B) (hy2 : a.eval y = .slice (some ⟨B, 0, none⟩) 1 1)
    (hnext : ∀ g c W5, W5.cell? ⟨L, 0, none⟩ = some v → W5.frozen? ⟨L, 0, none⟩ = false → LayK w lo q (k + 1) L (.slice (some ⟨g, 0, none⟩) (k + 1) c) (upd Pn k P) (upd Yn k Y) (W5.setCell ⟨L, 0, none⟩ (.slice (some ⟨g, 0, none⟩) (k + 1) c)) → wpList Try.prog ops Q rest (a.put op.dst (.slice (some ⟨g, 0, none⟩) (k + 1) c)) W5) : wpList Try.prog ops Q (op :: rest) a (W3.alloc (.cells #[.pointer (some ⟨P, 0, none⟩)] 57)) := by
  subst hB
  obtain ⟨i1, hi, hz0, hz1, hz2⟩ := info_parts infoP
  have hsz := hb.size
  obtain ⟨tag, t0, t1, -⟩ := h.tag
  have hL := h.size_le
  have hown3 : W3.ownsRow lo 57 1 v k (ptrs Pn k) := h.own.kept (row := none) ⟨hb.os, hb.tape, hb.output, hb.size, fun b hb' _ => hb.block b hb'⟩ (by
    cases v.ownBlock with
    | none => exact .inl rfl
    | some k => exact .inr (by simp))
  refine wpList_append_own_at _ hgd s y 50 ho lo 57 i1 _ 1 8 Try.underlying50 hi hz0 hz1 hz2 rfl (by decide) v k (ptrs Pn k) hs (hown3.alloc _) ⟨W3.heap.size, 0, none⟩ 1 1 [.pointer (some ⟨P, 0, none⟩)] hy2 rfl (fun j u hu => ?_) (by simp [Value.oneCell']) (by simp only [maxLen]; omega) (by omega) (by simp; omega) fun v' w' hown hg _ hl => ?_
  · obtain ⟨b, off, e, -, hc⟩ := (reads_new W3 #[.pointer (some ⟨P, 0, none⟩)] 57 1 1 [.pointer (some ⟨P, 0, none⟩)] rfl rfl).2 (by decide)
    injection e with e; injection e with e1 e2
    subst e1 e2
    rw [add_plain]; exact hc j u hu
  · obtain ⟨g', cap', hv, -, -⟩ := hown.form (by omega)
    subst hv
    have hlay : w'.heap[L]? = some (.cells #[v, .int .i64 0] 52 (0, 0)) := ((hg.block L (by simp; omega) (fun e => by have := t1 L e.symm; omega)).trans (Below.heap_alloc W3 _ L (by omega))).trans ((hb.block L hL).trans h.lay)
    have hc0 : w'.cell? ⟨L, 0, none⟩ = some v := by simp [World.cell?, hlay]
    have hf0 : w'.frozen? ⟨L, 0, none⟩ = false := by simp [World.frozen?, hlay]
    refine hnext g' cap' w' hc0 hf0 (h.next hx hw hb hP hY hp hy hpy hg hown ?_)
    rcases hl with e | e
    · exact .inl e
    · exact .inr fun b hb' => by rw [e] at hb'; injection hb' with hb'; simp at hb'; omega
theorem farTo_zero (q : List N8) (i : Nat) : farAt (farTo q 0) i = (false, false) := by
  unfold farAt farTo
  rw [List.getD_eq_getElem?_getD]
  by_cases h : i < q.length
  · rw [List.getElem?_replicate, if_pos h]; rfl
  · rw [List.getElem?_replicate, if_neg h]; rfl
/-- The layout that is built. -/
theorem LayK.done {w : World} {lo : Nat} {q : List N8} {L : Nat} {v : Value} {Pn Yn : Nat → Nat} {W : World} (h : LayK w lo q q.length L v Pn Yn W) (hq : 0 < q.length) : ∃ B c, LayAt lo q L B c Pn Yn (fun _ => 0) 0 (farAt (farTo q 0)) W := by
  obtain ⟨g, c, hv, -, -⟩ := h.own.form hq
  subst hv
  have hr := Reads.of_own h.own
  obtain ⟨b, off, e, -, hc⟩ := hr.2 hq
  injection e with e; injection e with e1 e2
  subst e1 e2
  have hlt : ∀ i x, q[i]? = some x → i < q.length := fun i x hx => (List.getElem?_eq_some_iff.1 hx).1
  obtain ⟨tag, t0, t1, t2⟩ := h.tag
  refine ⟨g, c, h.lay, fun i hi => ?_, fun i x hx => h.part i x (hlt i x hx) hx, fun i x hx hl => by rw [farTo_zero]; exact h.ways i x (hlt i x hx) hx hl, ⟨tag, t0, t1 g rfl, fun i x hx => t2 i x (hlt i x hx) hx⟩, h.low.1, own_ge h.own g rfl, fun i x hx => h.low.2 i x (hlt i x hx) hx⟩
  have := hc i (.pointer (some ⟨Pn i, 0, none⟩)) (by unfold ptrs; simp [hi])
  simpa using this
end Go.Proofs.Ytkckaimefklenaa
