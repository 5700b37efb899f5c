import Derived.Test.YtkckaimefklenaaLowW4
import Derived.Maps.AppendAt
import Derived.Deep.AppendLies
import Derived.Deep.DeepCutAuto
import Derived.Deep.CutBlock
set_option linter.unusedVariables false
set_option linter.unusedSimpArgs false
namespace Go.Proofs.Ytkckaimefklenaa
open Go.RowKit
/-! ravelinref09.Size: the walk. -/
def SizePost (w : World) (q : List N8) (e : Ending) (w' : World) : Prop := Below w.heap.size w w' ∧ (((checkD q).1 ≠ 0 ∧ e = .returned (.tuple #[.int .i64 0, .int .i64 (checkD q).1])) ∨ ((checkD q).1 = 0 ∧ ∃ k, Fixed q k ∧ e = .returned (.tuple #[.int .i64 (placeN q (farTo q k) q.length), .int .i64 0])))
theorem PlAt.cellAt {W : World} {g B : Nat} {q : List N8} {far : List (Bool × Bool)} (h : PlAt W g B q far) : W.cell? ⟨g, q.length, none⟩ = some (.int .i64 (placeN q far q.length)) := h.2 _ (Nat.le_refl _)
/-! ravelinref09.Emit: the walk. -/
theorem emit_eq {q : List N8} {far : List (Bool × Bool)} {n : Nat} {x : N8} {va vb : Bool} {T F pT pF : Nat} {xs xs1 : List I4} (hes : emitTo q far (n + 1) = emitTo q far n ++ emitN q far n x) (hxs : xs = emitTo q far n) (hx1 : xs1 = xs ++ ([⟨32, 0, 0, x.off⟩] ++ (if (x.msk != ones32) = true then [⟨84, 0, 0, x.msk⟩] else []))) (hlf : x.lf = false) (hfv : (va, vb) = farAt far n) (hT : x.t = T) (hF : x.f = F) (hpT : pT = placeN q far T) (hpF : pF = placeN q far F) (hJ : xs1.length = jumpN x (placeN q far n)) :
    emitTo q far (n + 1) = xs1 ++ [⟨codeN x.op, if va = true then 0 else (pT : Int) - xs1.length - 1, if vb = true then b2n va else (pF : Int) - xs1.length - 1, x.k⟩] ++ (if va = true then [⟨5, 0, 0, (pT : Int) - (xs1.length + 1) - 1⟩] else []) ++ (if vb = true then [⟨5, 0, 0, (pF : Int) - (xs1.length + 1 + b2n va) - 1⟩] else []) := by
  have e1 : wayN q far n x x.t = (pT : Int) - xs1.length - 1 := by unfold wayN; rw [hT, Int.toNat_natCast, ← hpT, ← hJ]
  have e2 : wayN q far n x x.f = (pF : Int) - xs1.length - 1 := by unfold wayN; rw [hF, Int.toNat_natCast, ← hpF, ← hJ]
  have e3 : (pT : Int) - (xs1.length + 1) - 1 = (pT : Int) - xs1.length - 1 - 1 := by omega
  have e4 : (pF : Int) - (xs1.length + 1 + b2n va) - 1 = (pF : Int) - xs1.length - 1 - b2n va - 1 := by omega
  rw [hes, ← hxs, e3, e4]
  unfold emitN
  rw [if_neg (by rw [hlf]; decide), ← hfv, e1, e2]
  rw [hx1]
  simp only [List.append_assoc]
def SameB (bs : List Nat) (W W' : World) : Prop := ∀ b ∈ bs, W'.heap[b]? = W.heap[b]?
theorem SameB.cell {bs : List Nat} {W W' : World} (h : SameB bs W W') {b o : Nat} (hb : b ∈ bs) : W'.cell? ⟨b, o, none⟩ = W.cell? ⟨b, o, none⟩ := World.cell?_of_block (a := ⟨b, o, none⟩) (h b hb)
/-- The program so far, and what is not touched. -/
structure OutAt (w : World) (H : Nat) (bs : List Nat) (W0 : World) (xs : List I4) (v : Value) (W : World) : Prop where
  own : W.ownsRow H 45 4 v xs.length (cellsI xs)
  below : Below w.heap.size w W
  same : SameB bs W0 W
  sz : H ≤ W.heap.size
  hH : w.heap.size ≤ H
  big : ∀ b ∈ bs, b < W.heap.size
  ne : ∀ b ∈ bs, some b ≠ v.ownBlock
theorem OutAt.app {w : World} {H : Nat} {bs : List Nat} {W0 : World} {xs : List I4} {v v' : Value} {W W' : World} {o : Obj} {x : I4} (h : OutAt w H bs W0 xs v W) (hg : (W.alloc o).grownBy W' v.ownBlock) (hown : W'.ownsRow H 45 4 v' (xs.length + 1) (cellsI xs ++ x.cells)) (hl : v'.ownBlock = v.ownBlock ∨ ∀ b, v'.ownBlock = some b → W.heap.size ≤ b) :
    OutAt w H bs W0 (xs ++ [x]) v' W' := by
  have hs := hg.size
  have h1 := h.sz
  have h2 := h.hH
  simp at hs
  refine ⟨by rw [cellsI_snoc] at hown; rw [List.length_append]; exact hown, below_gr (h.below.alloc h.below.size o) hg (by have := h.below.size; simp; omega) (fun k hk => by have := own_ge h.own k hk; omega), fun b hb => ?_, by omega, h2, fun b hb => by have := h.big b hb; omega, fun b hb e => ?_⟩
  · exact ((hg.block b (by have := h.big b hb; simp; omega) (h.ne b hb)).trans (Below.heap_alloc W o b (h.big b hb))).trans (h.same b hb)
  · rcases hl with e2 | e2
    · exact h.ne b hb (e.trans e2)
    · have := e2 b e.symm
      have := h.big b hb
      omega
theorem OutAt.keep {w : World} {H : Nat} {bs : List Nat} {W0 : World} {xs : List I4} {v : Value} {W W' : World} (h : OutAt w H bs W0 xs v W) (hb : Below W.heap.size W W') : OutAt w H bs W0 xs v W' :=
  ⟨by
    refine h.own.kept (row := none) ⟨hb.os, hb.tape, hb.output, hb.size, fun k hk _ => hb.block k hk⟩ ?_
    cases v.ownBlock with
    | none => exact .inl rfl
    | some k => exact .inr (by simp), below_t h.below hb, fun b hb' => (hb.block b (h.big b hb')).trans (h.same b hb'), Nat.le_trans h.sz hb.size, h.hH, fun b hb' => Nat.lt_of_lt_of_le (h.big b hb') hb.size, h.ne⟩
theorem own_le {W : World} {base e size n : Nat} {v : Value} {xs : List Value} (h : W.ownsRow base e size v n xs) (k : Nat) (hk : v.ownBlock = some k) : k < W.heap.size := by
  rcases h.2 with ⟨rfl, _⟩ | ⟨g, cap, cur, rfl, hb, hg, _⟩
  · simp [Value.ownBlock] at hk
  · have : g = k := by simpa [Value.ownBlock] using hk
    subst this
    exact (Array.getElem?_eq_some_iff.1 hg).1
/-- One more block is not touched. -/
theorem OutAt.more {w : World} {H : Nat} {bs : List Nat} {W0 : World} {xs : List I4} {v : Value} {W : World} (h : OutAt w H bs W0 xs v W) (o : Obj) : OutAt w H (W.heap.size :: bs) (W.alloc o) xs v (W.alloc o) :=
  ⟨(h.keep (below1 W o)).own, (h.keep (below1 W o)).below, fun b _ => rfl, (h.keep (below1 W o)).sz, h.hH, fun b hb => by
    rcases List.mem_cons.1 hb with e | e
    · subst e; simp
    · have := h.big b e; simp; omega, fun b hb e => by
    rcases List.mem_cons.1 hb with e2 | e2
    · subst e2; have := own_le h.own _ e.symm; omega
    · exact h.ne b e2 e⟩
theorem OutAt.less {w : World} {H : Nat} {bs : List Nat} {W0 W1 : World} {xs ys : List I4} {v v1 : Value} {W : World} {P : Nat} {o : Obj} (h : OutAt w H (P :: bs) (W1.alloc o) xs v W) (h1 : OutAt w H bs W0 ys v1 W1) : OutAt w H bs W0 xs v W :=
  ⟨h.own, h.below, fun b hb => ((h.same b (by simp [hb])).trans (Below.heap_alloc W1 o b (h1.big b hb))).trans (h1.same b hb), h.sz, h.hH, fun b hb => h.big b (by simp [hb]), fun b hb => h.ne b (by simp [hb])⟩
/-- An instruction is put behind. -/
theorem put_step {w : World} {H : Nat} {bs : List Nat} {W0 : World} {xs : List I4} {v : Value} {W : World} {ops : Array Oper} {rest : List Oper} {o : Oper} {a : Act} {Q : Exit → Act → World → Prop} (hOA : OutAt w H bs W0 xs v W) (i1 : TypeInfo) (HI1 : Try.prog.info? 45 = some i1 ∧ i1.zero = some (.agg #[.int .u16 0, .int .u8 0, .int .u8 0, .int .u32 0]) ∧ i1.size = 4 ∧ i1.bytes = 8)
    (hgd : o.guard = none) (s x : Operand) (ho : o.op = .call { callee := .builtin .append, args := #[s, x], argTypes := #[28, 28] }) (i : I4) (hs : a.eval s = v) (B : Nat) (hB : W.heap.size = B) (hx : a.eval x = .slice (some ⟨B, 0, none⟩) 1 1) (L : Nat) (hL : xs.length = L) (hn : L ≤ 100000)
    (h : ∀ g c W', OutAt w H bs W0 (xs ++ [i]) (.slice (some ⟨g, 0, none⟩) (L + 1) c) W' → wpList Try.prog ops Q rest (a.put o.dst (.slice (some ⟨g, 0, none⟩) (L + 1) c)) W') : wpList Try.prog ops Q (o :: rest) a (W.alloc (.cells i.cells.toArray 45)) := by
  subst hB hL
  have h1 := hOA.sz
  refine wpList_append_own_at _ hgd s x 28 ho H 45 i1 _ 4 8 Try.underlying28 HI1.1 HI1.2.1 HI1.2.2.1 HI1.2.2.2 rfl (by decide) v xs.length (cellsI xs) hs (hOA.own.alloc _) ⟨W.heap.size, 0, none⟩ 1 1 i.cells hx rfl (fun j u hu => ?_) (I4_one _) (by simp only [maxLen]; omega) (by omega) (by simp; omega) fun v' w' hown hg _ hl => ?_
  · obtain ⟨b, off, e, -, hc⟩ := (reads_new W i.cells.toArray 45 4 1 i.cells rfl rfl).2 (by decide)
    injection e with e; injection e with e1 e2
    subst e1 e2
    rw [add_plain]; exact hc j u hu
  · obtain ⟨g', cap', hv, -, -⟩ := hown.form (by omega)
    subst hv
    refine h g' cap' w' (hOA.app hg hown ?_)
    rcases hl with e | e
    · exact .inl e
    · exact .inr fun b hb => by rw [e] at hb; injection hb with hb; simp at hb; omega
/-- The same, as a step of a region that draws. -/
theorem put_drawn {w : World} {H : Nat} {bs : List Nat} {W0 : World} {xs : List I4} {v : Value} {W : World} {ops : Array Oper} {o : Oper} {a : Act} {K : Act → World → Prop} {Q : Exit → Act → World → Prop} {E : Prop} (hOA : OutAt w H bs W0 xs v W) (i1 : TypeInfo) (HI1 : Try.prog.info? 45 = some i1 ∧ i1.zero = some (.agg #[.int .u16 0, .int .u8 0, .int .u8 0, .int .u32 0]) ∧ i1.size = 4 ∧ i1.bytes = 8)
    (hgd : o.guard = none) (s x : Operand) (ho : o.op = .call { callee := .builtin .append, args := #[s, x], argTypes := #[28, 28] }) (i : I4) (hs : a.eval s = v) (B : Nat) (hB : W.heap.size = B) (hx : a.eval x = .slice (some ⟨B, 0, none⟩) 1 1) (hn : xs.length ≤ 100000)
    (h : ∀ g c W', OutAt w H bs W0 (xs ++ [i]) (.slice (some ⟨g, 0, none⟩) (xs.length + 1) c) W' → K (a.put o.dst (.slice (some ⟨g, 0, none⟩) (xs.length + 1) c)) W') : if Region.wanted o (yielded ops a.tmps) = true then Oper.wp Try.prog o a ((W.alloc (.cells i.cells.toArray 45)).drew) K Q else E := by
  subst hB
  have h1 := hOA.sz
  have hOD : OutAt w H bs W0 xs v W.drew := hOA.keep (below_dr (Below.refl _ _))
  refine step_append_lies _ hgd s x 28 ho H 45 i1 _ 4 8 Try.underlying28 HI1.1 HI1.2.1 HI1.2.2.1 HI1.2.2.2 rfl (by decide) v xs.length (cellsI xs) hs (hOA.own.alloc _).drew ⟨W.heap.size, 0, none⟩ 1 1 i.cells hx rfl (fun j u hu => ?_) (I4_one _) (by decide) (by simp only [maxLen]; omega) (by omega) (by simp; omega) (W.heap.size + 1) (by simp) fun g' cap' w' hown hg hl _ => ?_
  · obtain ⟨b, off, e, -, hc⟩ := (reads_new W i.cells.toArray 45 4 1 i.cells rfl rfl).2 (by decide)
    injection e with e; injection e with e1 e2
    subst e1 e2
    rw [add_plain]; exact hc j u hu
  · refine h g' cap' w' (hOA.app (o := .cells i.cells.toArray 45) ⟨hg.os, hg.tape, hg.output, hg.size, hg.block⟩ hown ?_)
    rcases hl with e | e
    · exact .inl (by rw [e]; rfl)
    · exact .inr fun b hb => by have : g' = b := by simpa [Value.ownBlock] using hb
                                omega
def OutS (w : World) (H : Nat) (bs : List Nat) (W0 : World) (xs : List I4) (s : Value) (W : World) : Prop := ∃ g c, s = .slice (some ⟨g, 0, none⟩) xs.length c ∧ Hid (OutAt w H bs W0 xs s W)
def EmitPost (w : World) (q : List N8) (e : Ending) (w' : World) : Prop := Below w.heap.size w w' ∧ (((checkD q).1 ≠ 0 ∧ e = .returned (.tuple #[.slice none 0 0, .int .i64 (checkD q).1])) ∨ ((checkD q).1 = 0 ∧ ∃ k, Fixed q k ∧ ((4096 < placeN q (farTo q k) q.length ∧ e = .returned (.tuple #[.slice none 0 0, .int .i64 91])) ∨
  (placeN q (farTo q k) q.length ≤ 4096 ∧ ∃ v, e = .returned (.tuple #[v, .int .i64 0]) ∧ w'.ownsRow w.heap.size 45 4 v (emitTo q (farTo q k) q.length).length (cellsI (emitTo q (farTo q k) q.length))))))
end Go.Proofs.Ytkckaimefklenaa
