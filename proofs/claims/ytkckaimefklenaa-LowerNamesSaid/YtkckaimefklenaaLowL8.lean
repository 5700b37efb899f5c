import Derived.Test.YtkckaimefklenaaLowL7
set_option linter.unusedVariables false
set_option linter.unusedSimpArgs false
namespace Go.Proofs.Ytkckaimefklenaa
open Go.RowKit
/-! lower.layout's emit: the walk. -/
/-- What the loop over the ways has made. -/
structure WaySt (w5 : World) (fl : List I4) (a b : Int) (v : Value) (W : World) : Prop where
  below : Below w5.heap.size w5 W
  skip : W.heap[w5.heap.size]? = some (.cells #[.int .u8 a, .int .u8 b] 67 (0, 0))
  own : W.ownsRow (w5.heap.size + 1) 45 4 v fl.length (cellsI fl)
  sz : w5.heap.size + 1 ≤ W.heap.size
section
variable {w5 : World} {fl : List I4} {a b : Int} {v : Value} {W W' : World}
theorem WaySt.start (w5 : World) : WaySt w5 [] 0 0 (.slice none 0 0) (w5.alloc (.cells #[.int .u8 0, .int .u8 0] 67)) :=
  ⟨below1 w5 _, heap_new w5 _, World.ownsRow_nil _ _ _ _, by simp⟩
theorem WaySt.keep (h : WaySt w5 fl a b v W) (hb : Below W.heap.size W W') : WaySt w5 fl a b v W' :=
  ⟨below_t h.below hb, (hb.block _ (heap_lt h.skip)).trans h.skip, own_up2 h.own hb, Nat.le_trans h.sz hb.size⟩
where own_up2 {w w' : World} {base : Nat} {e : TypeId} {size n : Nat} {v : Value} {xs : List Value} (h : w.ownsRow base e size v n xs) (hb : Below w.heap.size w w') : w'.ownsRow base e size v n xs :=
  h.kept (row := none) ⟨hb.os, hb.tape, hb.output, hb.size, fun k hk _ => hb.block k hk⟩ (by cases e : v.ownBlock with | none => exact .inl rfl | some b => exact .inr (by simp))
theorem WaySt.c (h : WaySt w5 fl a b v W) : W.cell? ⟨w5.heap.size, 0, none⟩ = some (.int .u8 a) ∧ W.cell? ⟨w5.heap.size, 1, none⟩ = some (.int .u8 b) ∧ W.frozen? ⟨w5.heap.size, 0, none⟩ = false ∧ W.frozen? ⟨w5.heap.size, 1, none⟩ = false := by simp [World.cell?, World.frozen?, h.skip]
theorem WaySt.set0 (h : WaySt w5 fl a b v W) (c : Int) : WaySt w5 fl c b v (W.setCell ⟨w5.heap.size, 0, none⟩ (.int .u8 c)) :=
  ⟨h.below.setCell (p := ⟨w5.heap.size, 0, none⟩) (Nat.le_refl _) _, by rw [heapSet h.skip]; rfl, own_setc h.own _ 0 _ (Ne.symm (own_ne h.own (by omega))), by simpa using h.sz⟩
theorem WaySt.set1 (h : WaySt w5 fl a b v W) (c : Int) : WaySt w5 fl a c v (W.setCell ⟨w5.heap.size, 1, none⟩ (.int .u8 c)) :=
  ⟨h.below.setCell (p := ⟨w5.heap.size, 1, none⟩) (Nat.le_refl _) _, by rw [heapSet h.skip]; rfl, own_setc h.own _ 1 _ (Ne.symm (own_ne h.own (by omega))), by simpa using h.sz⟩
theorem WaySt.drewN (h : WaySt w5 fl a b v W) (n : Nat) : WaySt w5 fl a b v (W.drewN n) := ⟨below_drN h.below n, h.skip, h.own, h.sz⟩
theorem way_step {ops : Array Oper} {rest : List Oper} {o : Oper} {ac : Act} {Q : Exit → Act → World → Prop} (h : WaySt w5 fl a b v W) (i1 : TypeInfo) (HI1 : Try.prog.info? 45 = some i1 ∧ i1.zero = some (.agg #[.int .u16 0, .int .u8 0, .int .u8 0, .int .u32 0]) ∧ i1.size = 4 ∧ i1.bytes = 8)
    (hgd : o.guard = none) (s x : Operand) (ho : o.op = .call { callee := .builtin .append, args := #[s, x], argTypes := #[28, 28] }) (i : I4) (hs : ac.eval s = v) (B : Nat) (hB : W.heap.size = B) (hx : ac.eval x = .slice (some ⟨B, 0, none⟩) 1 1) (hn : fl.length ≤ 100)
    (hk : ∀ v' W', WaySt w5 (fl ++ [i]) a b v' W' → wpList Try.prog ops Q rest (ac.put o.dst v') W') : wpList Try.prog ops Q (o :: rest) ac (W.alloc (.cells i.cells.toArray 45)) := by
  subst hB
  have h1 := h.sz
  refine wpList_append_own_at _ hgd s x 28 ho (w5.heap.size + 1) 45 i1 _ 4 8 Try.underlying28 HI1.1 HI1.2.1 HI1.2.2.1 HI1.2.2.2 rfl (by decide) v fl.length (cellsI fl) hs (h.own.alloc _) ⟨W.heap.size, 0, none⟩ 1 1 i.cells hx rfl (fun j u hu => ?_) (I4_one _) (by simp only [maxLen]; omega) (by omega) (by simp; omega) fun v' w' hown hg _ hl => ?_
  · obtain ⟨b, off, e, -, hc⟩ := (reads_new W i.cells.toArray 45 4 1 i.cells rfl rfl).2 (by decide)
    injection e with e; injection e with e1 e2
    subst e1 e2
    rw [add_plain]; exact hc j u hu
  · have hs := hg.size
    simp at hs
    have hsl := heap_lt h.skip
    exact hk v' w' ⟨below_gr (h.below.alloc (by omega) _) hg (by simp; omega) (fun k hk => by have := own_ge h.own k hk; omega), ((hg.block _ (by simp; omega) (own_ne h.own (by omega))).trans (Below.heap_alloc W _ _ hsl)).trans h.skip, by rw [cellsI_snoc] at hown; rw [List.length_append]; exact hown, by omega⟩
end
theorem GenAt.any {w : World} {G : Nat} {W0 W1 : World} {xs : List I4} {v : Value} {W : World} (h : GenAt w G [] W0 xs v W) : GenAt w G [] W1 xs v W :=
  ⟨⟨h.out.own, h.out.below, fun b hb => absurd hb (by simp), h.out.sz, h.out.hH, fun b hb => absurd hb (by simp), fun b hb => absurd hb (by simp)⟩, h.gen, h.notin, h.ge⟩
theorem GenAt.box (w0 : World) : GenAt w0 w0.heap.size [] w0 [] (.slice none 0 0) (w0.alloc (.cells #[.slice none 0 0] 55)) :=
  ⟨⟨World.ownsRow_nil _ _ _ _, below1 w0 _, fun b hb => absurd hb (by simp), by simp, by omega, fun b hb => absurd hb (by simp), fun b hb => absurd hb (by simp)⟩, heap_new w0 _, by simp, Nat.le_refl _⟩
def EmPost (w0 : World) (G : Nat) (xs : List I4) (e : Ending) (w' : World) : Prop := e = .returned (.tuple #[]) ∧ ∃ v', GenAt w0 G [] w0 xs v' w'
set_option maxRecDepth 100000 in
set_option maxHeartbeats 1600000 in
theorem emitLeaf_c {lo : Nat} {q : List N8} {far : List (Bool × Bool)} {L B c size : Nat} {Pn Yn : Nat → Nat} {w0 : World} (HL : LayAt lo q L B c Pn Yn (placeN q far) size (farAt far) w0) {n : Nat} {x : N8} (hx : q[n]? = some x) (hl : x.lf = true) (hn : n < q.length) (hq : q.length ≤ 4096) {G : Nat} {v : Value} (w : World) (h : GenAt w0 G [] w0 (emitTo q far n) v w) :
    Calls Try.prog 12 #[.pointer (some ⟨L, 0, none⟩), .pointer (some ⟨Pn n, 0, none⟩), .func (.func 11) #[.pointer (some ⟨G, 0, none⟩)] #[]] w (EmPost w0 G (emitTo q far (n + 1))) := by
  obtain ⟨d0, d1, d2, d3, d4, d5, d6, d7, d8, d9⟩ := (HL.keep h.out.below).partAt hx
  rw [hl] at d0
  have hlen : (emitTo q far n).length ≤ 100000 := by rw [emitTo_len]; have := placeN_le q far n; omega
  have HE : Hid (emitTo q far (n + 1) = emitTo q far n ++ [⟨6, 0, 0, x.wd⟩]) := Lib.hid (by rw [emitTo, hx]; simp only [emitN]; rw [if_pos hl])
  have HG := Lib.hid h
  clear h hl hx
  go_enter Try.func12, Try.ntmps12
  go_wp2_with (go_at_call 11; refine (put_c ⟨6, 0, 0, x.wd⟩ _ HG.out hlen).mono ?_; rintro e w' ⟨rfl, v', H'⟩)
  go_end0
  exact ⟨rfl, v', by rw [HE.out]; exact H'.out⟩
end Go.Proofs.Ytkckaimefklenaa
