import Derived.Test.YtalhjbncloobpaaBlindW3
import Derived.Test.YtalhjbncloobpaaMirLent
import Derived.Lib.SliceRun
set_option linter.unusedVariables false
set_option linter.unusedSimpArgs false
namespace Go.Proofs.Ytalhjbncloobpaa
open Go.RowKit
/-! blind.Blind: what a round keeps. -/
def BS (w : World) (regs : Int) (A : Option Addr) (n cap : Nat) (W : World) : Prop :=
  W.cell? ⟨w.heap.size, 0, none⟩ = some (.int .i64 regs) ∧ W.cell? ⟨w.heap.size, 1, none⟩ = some (.slice A n cap) ∧ W.cell? ⟨w.heap.size + 1, 0, none⟩ = some (.int .i64 0) ∧ W.cell? ⟨w.heap.size + 1, 1, none⟩ = some (.slice none 0 0) ∧
  W.frozen? ⟨w.heap.size + 1, 0, none⟩ = false ∧ W.frozen? ⟨w.heap.size + 1, 1, none⟩ = false ∧ Below w.heap.size w W ∧ w.heap.size + 2 ≤ W.heap.size
theorem BS.on {w W W1 : World} {regs : Int} {A : Option Addr} {n cap : Nat} (h : BS w regs A n cap W) (hb : Below (w.heap.size + 2) W W1) : BS w regs A n cap W1 := by
  obtain ⟨h1, h2, h3, h4, h5, h6, h7, h8⟩ := h
  exact ⟨(hb.cell (p := ⟨w.heap.size, 0, none⟩) (by simp)).trans h1, (hb.cell (p := ⟨w.heap.size, 1, none⟩) (by simp)).trans h2, (hb.cell (p := ⟨w.heap.size + 1, 0, none⟩) (by simp)).trans h3, (hb.cell (p := ⟨w.heap.size + 1, 1, none⟩) (by simp)).trans h4,
    (hb.frozen (p := ⟨w.heap.size + 1, 0, none⟩) (by simp)).trans h5, (hb.frozen (p := ⟨w.heap.size + 1, 1, none⟩) (by simp)).trans h6, h7.trans (below_of hb (by omega)), Nat.le_trans h8 hb.size⟩
theorem BS.up {w W W1 : World} {regs : Int} {A : Option Addr} {n cap : Nat} (h : BS w regs A n cap W) (hb : Below W.heap.size W W1) : BS w regs A n cap W1 := h.on (below_of hb h.2.2.2.2.2.2.2)
theorem BS.start (w : World) (regs : Int) (A : Option Addr) (n cap : Nat) (t t' : TypeId) : BS w regs A n cap ((w.alloc (.cells #[.int .i64 regs, .slice A n cap] t)).alloc (.cells #[.int .i64 0, .slice none 0 0] t')) := by
  have e := al_below w [.cells #[.int .i64 regs, .slice A n cap] t, .cells #[.int .i64 0, .slice none 0 0] t']
  refine ⟨?_, ?_, ?_, ?_, ?_, ?_, e, by simp⟩
  · exact al_cell w [.cells #[.int .i64 regs, .slice A n cap] t, .cells #[.int .i64 0, .slice none 0 0] t'] 0 rfl 0
  · exact al_cell w [.cells #[.int .i64 regs, .slice A n cap] t, .cells #[.int .i64 0, .slice none 0 0] t'] 0 rfl 1
  · exact al_cell w [.cells #[.int .i64 regs, .slice A n cap] t, .cells #[.int .i64 0, .slice none 0 0] t'] 1 rfl 0
  · exact al_cell w [.cells #[.int .i64 regs, .slice A n cap] t, .cells #[.int .i64 0, .slice none 0 0] t'] 1 rfl 1
  · exact al_frozen w [.cells #[.int .i64 regs, .slice A n cap] t, .cells #[.int .i64 0, .slice none 0 0] t'] 1 rfl 0
  · exact al_frozen w [.cells #[.int .i64 regs, .slice A n cap] t, .cells #[.int .i64 0, .slice none 0 0] t'] 1 rfl 1
theorem set2 {W : World} {B : Nat} {u0 u1 : Value} (h0 : W.cell? ⟨B, 0, none⟩ = some u0) (h1 : W.cell? ⟨B, 1, none⟩ = some u1) (x y : Value) :
    ((W.setCell ⟨B, 0, none⟩ x).setCell ⟨B, 1, none⟩ y).cell? ⟨B, 0, none⟩ = some x ∧ ((W.setCell ⟨B, 0, none⟩ x).setCell ⟨B, 1, none⟩ y).cell? ⟨B, 1, none⟩ = some y := by
  constructor
  · rw [World.cell?_setCell_other _ _ _ _ (by simp)]; exact World.cell?_setCell_same _ _ _ h0
  · exact World.cell?_setCell_same _ _ _ ((World.cell?_setCell_other W ⟨B, 0, none⟩ ⟨B, 1, none⟩ x (by simp)).trans h1)
theorem set2_below {w W : World} {B : Nat} (hb : Below w.heap.size w W) (h : w.heap.size ≤ B) (x y : Value) : Below w.heap.size w ((W.setCell ⟨B, 0, none⟩ x).setCell ⟨B, 1, none⟩ y) :=
  (hb.setCell (p := ⟨B, 0, none⟩) h _).setCell (p := ⟨B, 1, none⟩) h _
theorem Left.keep {D B : Nat} {rest : List Int} {w w' : World} (h : Left D B rest w) (hb : Below (D + 1) w w') : Left D B rest w' := by
  obtain ⟨A, cap, h1, h2, h3, h4, h5⟩ := h
  exact ⟨A, cap, (hb.cell (p := ⟨D, 0, none⟩) (by simp)).trans h1, h2, (hb.frozen (p := ⟨D, 0, none⟩) (by simp)).trans h3, h4, h5.below (below_of hb (by omega))⟩
/-- What a round of the second loop keeps: the words that are left, the program that is grown. -/
structure BL (w W1 : World) (regs : Int) (A : Option Addr) (cap : Nat) (q : List R7) (ws : List Int) (D n m : Nat) (vOut : Value) (wr : World) : Prop where
  bs : BS w regs A q.length cap wr
  hD : w.heap.size + 2 ≤ D
  one : Below D W1 wr
  left : Left D D (ws.drop m) wr
  p0 : wr.cell? ⟨D + 1, 0, none⟩ = some (.int .i64 (regs + 1))
  p1 : wr.cell? ⟨D + 1, 1, none⟩ = some vOut
  f1 : wr.frozen? ⟨D + 1, 1, none⟩ = false
  own : wr.ownsRow (D + 2) 34 7 vOut (blindL q regs ws n).length (cellsR (blindL q regs ws n))
  size : D + 2 ≤ wr.heap.size
section
variable {w W1 : World} {regs : Int} {A : Option Addr} {cap : Nat} {q : List R7} {ws : List Int} {D n m : Nat} {vOut : Value} {wr : World}
theorem BL.keep (h : BL w W1 regs A cap q ws D n m vOut wr) {W : World} (hb : Below wr.heap.size wr W) : BL w W1 regs A cap q ws D n m vOut W := by
  have hs := h.size
  exact ⟨h.bs.up hb, h.hD, h.one.trans (below_of hb (by omega)), h.left.keep (below_of hb (by omega)), (hb.cell (p := ⟨D + 1, 0, none⟩) (by simp; omega)).trans h.p0, (hb.cell (p := ⟨D + 1, 1, none⟩) (by simp; omega)).trans h.p1, (hb.frozen (p := ⟨D + 1, 1, none⟩) (by simp; omega)).trans h.f1,
    h.own.kept (row := none) ⟨hb.os, hb.tape, hb.output, hb.size, fun k hk _ => hb.block k hk⟩ (by cases e : vOut.ownBlock with | none => exact .inl rfl | some b => exact .inr (by simp)), Nat.le_trans hs hb.size⟩
theorem BL.drawn (h : BL w W1 regs A cap q ws D n m vOut wr) {W : World} (hd : DrawnBy D wr W) (hl : Left D D ((ws.drop m).drop 1) W) : BL w W1 regs A cap q ws D n (m + 1) vOut W := by
  refine ⟨h.bs.on (below_of hd.below h.hD), h.hD, h.one.trans hd.below, by rw [List.drop_drop] at hl; exact hl, (hd.cell _ _ (by omega)).trans h.p0, (hd.cell _ _ (by omega)).trans h.p1, (hd.frozen _ _ (by omega)).trans h.f1, hd.own _ _ _ _ _ _ (by omega) h.own, by rw [hd.size]; exact h.size⟩
theorem BL.push (h : BL w W1 regs A cap q ws D n m vOut wr) {x : R7} (hx : q[n]? = some x) {W w3 : World} {v' : Value} {k : Nat} (hb : Below wr.heap.size wr W) (hg : W.grownBy w3 vOut.ownBlock) (hk : k = (blindOne q regs ws n x).length)
    (ho : w3.ownsRow (D + 2) 34 7 v' ((blindL q regs ws n).length + k) (cellsR (blindL q regs ws n) ++ cellsR (blindOne q regs ws n x))) : BL w W1 regs A cap q ws D (n + 1) m v' (w3.setCell ⟨D + 1, 1, none⟩ v') := by
  have hs := h.size
  have hgb : Below (D + 2) wr w3 := below_gr (below_of hb hs) hg (Nat.le_trans hs hb.size) (fun j hj => own_ge h.own j hj)
  have hp1 := (hgb.cell (p := ⟨D + 1, 1, none⟩) (by simp)).trans h.p1
  have hbs : Below (D + 1) wr (w3.setCell ⟨D + 1, 1, none⟩ v') := (below_of hgb (by omega)).setCell (p := ⟨D + 1, 1, none⟩) (by simp) _
  refine ⟨h.bs.on (below_of hbs (by have := h.hD; omega)), h.hD, h.one.trans (below_of hbs (by omega)), h.left.keep hbs, ?_, World.cell?_setCell_same _ _ _ hp1, by rw [World.frozen?_setCell]; exact (hgb.frozen (p := ⟨D + 1, 1, none⟩) (by simp)).trans h.f1, ?_, Nat.le_trans hs hbs.size⟩
  · rw [World.cell?_setCell_other _ _ _ _ (by simp)]; exact (hgb.cell (p := ⟨D + 1, 0, none⟩) (by simp)).trans h.p0
  · rw [blindL_succ hx, List.length_append, ← hk, show cellsR (blindL q regs ws n ++ blindOne q regs ws n x) = cellsR (blindL q regs ws n) ++ cellsR (blindOne q regs ws n x) by simp [cellsR]]
    exact own_set ho _ _ _ (by omega)
end
set_option maxHeartbeats 400000 in
theorem CloneR_c (A : Option Addr) (cap : Nat) (q : List R7) (hA : A = none → cap = 0) (hc : q.length ≤ cap) (hn : q.length * 56 ≤ 140737488351232) (w : World) (hr : Reads w w.heap.size 7 A q.length (cellsR q)) :
    Calls Try.prog 47 #[.slice A q.length cap] w fun e w' => ∃ v, e = .returned v ∧ w'.ownsRow w.heap.size 34 7 v q.length (cellsR q) ∧ Below w.heap.size w w' := by
  obtain ⟨cells, hcells⟩ : ∃ cells, cells = cellsR q := ⟨_, rfl⟩
  have h1 : ∀ u ∈ cells, u.oneCell' = true := by rw [hcells]; exact cellsR_one q
  rw [← hcells] at hr ⊢
  obtain ⟨n, hnq⟩ : ∃ n, n = q.length := ⟨_, rfl⟩
  rw [← hnq] at hr hc hn ⊢
  clear hcells hnq
  cases A with
  | none =>
    have hc0 : cap = 0 := hA rfl
    subst hc0
    obtain rfl : n = 0 := by omega
    have hl : cells = [] := List.eq_nil_of_length_eq_zero (by have := hr.1; simpa using this)
    subst hl
    have heq := Lib.run_eql_slice_nil (P := Try.prog) w 23 34 none 0 0 0 0 Try.underlying23
    clear hr hA h1 hc hn
    go_enter Try.func47, Try.ntmps47
    go_wp2
    go_ret
    exact ⟨_, rfl, World.ownsRow_nil _ _ _ _, Below.refl _ _⟩
  | some ad =>
    have heq := Lib.run_eql_slice_nil (P := Try.prog) w 23 34 (some ad) n cap 0 0 Try.underlying23
    obtain ⟨i0, HI⟩ : ∃ i0, Hid (Try.prog.info? 34 = some i0 ∧ i0.zero = some (.agg #[.int .i64 0, .int .i64 0, .int .i64 0, .int .i64 0, .int .u32 0, .int .i64 0, .int .i64 0]) ∧ i0.size = 7 ∧ i0.bytes = 56) := by
      obtain ⟨i0, hi, hz0, hz1, hz2⟩ := info_parts infoR
      exact ⟨i0, Lib.hid ⟨hi, hz0, hz1, hz2⟩⟩
    have HR := Lib.hid hr
    have H1 := Lib.hid h1
    clear hr hA h1
    have h0 : (w.alloc (.cells #[] 34)).ownsRow w.heap.size 34 7 (.slice (some ⟨w.heap.size, 0, none⟩) 0 0) 0 [] := World.ownsRow_lit w #[] 0 (Nat.le_refl _) (by decide) rfl
    go_enter Try.func47, Try.ntmps47
    go_wp2_with (at_builtin; refine wpList_app rfl (.tmp 5) (.tmp 6) 23 rfl w.heap.size 34 i0 _ 7 56 Try.underlying23 HI.out.1 HI.out.2.1 HI.out.2.2.1 HI.out.2.2.2 rfl (by decide) _ 0 [] rfl h0 (some ad) w.heap.size n cap cells rfl (fun h => by cases h) (HR.out.alloc (Nat.le_refl _) _) H1.out (by simp only [maxLen]; omega) (by omega) (by simp) ?_; intro v1 w1 hown1 hg1 hnil; have hb1 : Below w.heap.size w w1 := below_gr (below1 w _) hg1 (by simp) (fun k hk => Nat.le_of_eq (Option.some.inj hk)); (try simp only [Nat.zero_add, List.nil_append] at hown1); have HO := Lib.hid hown1; clear hnil hg1 hown1)
    go_ret
    exact ⟨_, rfl, HO.out, hb1⟩
def BlindPost (w : World) (regs : Int) (q : List R7) (ws : List Int) (e : Ending) (w' : World) : Prop :=
  ∃ v, e = .returned (.tuple #[.agg #[.int .i64 (blindP regs q ws).1, v], .int .i64 (blindP regs q ws).2.2]) ∧ w'.ownsRow w.heap.size 34 7 v (blindP regs q ws).2.1.length (cellsR (blindP regs q ws).2.1) ∧ Below w.heap.size w w'
theorem blindPost_of {w : World} {regs : Int} {q : List R7} {ws : List Int} {R : Int} {L : List R7} {E : Int} (h : blindP regs q ws = (R, L, E)) {v : Value} {w' : World} (ho : w'.ownsRow w.heap.size 34 7 v L.length (cellsR L)) (hb : Below w.heap.size w w') :
    BlindPost w regs q ws (.returned (.tuple #[.agg #[.int .i64 R, v], .int .i64 E])) w' := by
  refine ⟨v, ?_, ?_, hb⟩ <;> rw [h]
  exact ho
theorem SL.of_bs {w W : World} {regs : Int} {A : Option Addr} {n cap : Nat} (h : BS w regs A n cap W) : SL w regs A n cap W := by
  obtain ⟨h1, h2, h3, h4, h5, h6, h7, h8⟩ := h
  exact ⟨h1, h2, by rw [h3]; rfl, by rw [h4]; rfl, h5, h6, h7, h8⟩
theorem nil_own (w : World) (base : Nat) : w.ownsRow base 34 7 (.slice none 0 0) ([] : List R7).length (cellsR []) := World.ownsRow_nil _ _ _ _
theorem box_keep {wr w3 : World} {cs : Array Value} {t : TypeId} {o : Obj} {row : Option Nat} (hg : ((wr.alloc (.cells cs t)).alloc o).grownBy w3 row) (h : row ≠ some wr.heap.size) (j : Nat) : w3.cell? ⟨wr.heap.size, j, none⟩ = cs[j]? := by
  rw [World.cell?_of_block (a := ⟨wr.heap.size, j, none⟩) (hg.block wr.heap.size (by simp; omega) (fun e => h e.symm))]
  exact al_cell wr [.cells cs t, o] 0 rfl j
theorem getN_drop (l : List Int) (m : Nat) : getN (l.drop m) 0 = getN l m := by unfold getN; simp [List.getD_eq_getElem?_getD]
/-- What the region that moves an instruction reads and writes. -/
def S27 (D c : Nat) (x : R7) (W : World) : Prop := (W.cell? ⟨D + 1, 1, none⟩).isSome = true ∧ W.frozen? ⟨D + 1, 1, none⟩ = false ∧ IrAt W c 0 x
theorem S27.c {D c : Nat} {o d a b k t f : Int} {W : World} (h : S27 D c ⟨o, d, a, b, k, t, f⟩ W) :
    W.cell? ⟨D + 1, 1, none⟩ = some (cellD W ⟨D + 1, 1, none⟩) ∧ W.frozen? ⟨D + 1, 1, none⟩ = false ∧ W.cell? ⟨c, 0, none⟩ = some (.int .i64 o) ∧ W.cell? ⟨c, 1, none⟩ = some (.int .i64 d) ∧ W.cell? ⟨c, 2, none⟩ = some (.int .i64 a) ∧ W.cell? ⟨c, 3, none⟩ = some (.int .i64 b) ∧ W.cell? ⟨c, 4, none⟩ = some (.int .u32 k) ∧ W.cell? ⟨c, 5, none⟩ = some (.int .i64 t) ∧ W.cell? ⟨c, 6, none⟩ = some (.int .i64 f) := by
  obtain ⟨h1, h2, i0, i1, i2, i3, i4, i5, i6⟩ := h
  simp only [Nat.zero_add] at i0 i1 i2 i3 i4 i5 i6
  exact ⟨cellD_of h1, h2, i0, i1, i2, i3, i4, i5, i6⟩
theorem S27.up {D c : Nat} {x : R7} {W W1 : World} (h : S27 D c x W) (hb : Below W.heap.size W W1) (hD : D + 1 < W.heap.size) : S27 D c x W1 := by
  obtain ⟨h1, h2, h3⟩ := h
  exact ⟨(congrArg Option.isSome (hb.cell (p := ⟨D + 1, 1, none⟩) hD)).trans h1, (hb.frozen (p := ⟨D + 1, 1, none⟩) hD).trans h2, h3.keep hb⟩
theorem S27.grown {D c : Nat} {x : R7} {W W1 : World} {row : Option Nat} (h : S27 D c x W) (hg : W.grownBy W1 row) (hD : D + 1 < W.heap.size) (hc : c < W.heap.size) (h1 : row ≠ some (D + 1)) (h2 : row ≠ some c) : S27 D c x W1 := by
  obtain ⟨g1, g2, i0, i1, i2, i3, i4, i5, i6⟩ := h
  have e1 := hg.block (D + 1) hD (fun e => h1 e.symm)
  have e2 := fun j => World.cell?_of_block (a := ⟨c, j, none⟩) (hg.block c hc (fun e => h2 e.symm))
  refine ⟨by rw [World.cell?_of_block (a := ⟨D + 1, 1, none⟩) e1]; exact g1, by rw [World.frozen?_of_block (a := ⟨D + 1, 1, none⟩) e1]; exact g2, ?_⟩
  exact ⟨(e2 _).trans i0, (e2 _).trans i1, (e2 _).trans i2, (e2 _).trans i3, (e2 _).trans i4, (e2 _).trans i5, (e2 _).trans i6⟩
theorem S27.set {D c : Nat} {x : R7} {W : World} (h : S27 D c x W) (hc : D + 1 ≠ c) (v : Value) : S27 D c x (W.setCell ⟨D + 1, 1, none⟩ v) := by
  obtain ⟨g1, g2, i0, i1, i2, i3, i4, i5, i6⟩ := h
  have e : ∀ j, (W.setCell ⟨D + 1, 1, none⟩ v).cell? ⟨c, j, none⟩ = W.cell? ⟨c, j, none⟩ := fun j => World.cell?_setCell_far _ _ _ _ hc
  exact ⟨isSome_set g1, by rw [World.frozen?_setCell]; exact g2, (e _).trans i0, (e _).trans i1, (e _).trans i2, (e _).trans i3, (e _).trans i4, (e _).trans i5, (e _).trans i6⟩
theorem own_up {w w' : World} {base : Nat} {e : TypeId} {size n : Nat} {v : Value} {xs : List Value} (h : w.ownsRow base e size v n xs) (hb : Below w.heap.size w w') : w'.ownsRow base e size v n xs :=
  h.kept (row := none) ⟨hb.os, hb.tape, hb.output, hb.size, fun k hk _ => hb.block k hk⟩ (by cases e : v.ownBlock with | none => exact .inl rfl | some b => exact .inr (by simp))
theorem BL.start {w W1 : World} {regs : Int} {A : Option Addr} {cap : Nat} {q : List R7} {ws : List Int} {Aw : Option Addr} {capw : Nat} (t t' : TypeId) (hs : BS w regs A q.length cap W1) (hc : ws.length ≤ capw) (hr : Reads W1 W1.heap.size 1 Aw ws.length (numV .u32 ws)) :
    BL w W1 regs A cap q ws W1.heap.size 0 (hids (q.take 0)) (.slice none 0 0) ((W1.alloc (.cells #[.slice Aw ws.length capw] t)).alloc (.cells #[.int .i64 (regs + 1), .slice none 0 0] t')) := by
  have e := al_below W1 [.cells #[.slice Aw ws.length capw] t, .cells #[.int .i64 (regs + 1), .slice none 0 0] t']
  have e0 : hids (q.take 0) = 0 := by simp [hids]
  rw [e0]
  refine ⟨hs.up e, hs.2.2.2.2.2.2.2, e, ⟨Aw, capw, ?_, hc, ?_, Nat.le_refl _, hr.below e⟩, ?_, ?_, ?_, nil_own _ _, by simp⟩
  · exact al_cell W1 [.cells #[.slice Aw ws.length capw] t, .cells #[.int .i64 (regs + 1), .slice none 0 0] t'] 0 rfl 0
  · exact al_frozen W1 [.cells #[.slice Aw ws.length capw] t, .cells #[.int .i64 (regs + 1), .slice none 0 0] t'] 0 rfl 0
  · exact al_cell W1 [.cells #[.slice Aw ws.length capw] t, .cells #[.int .i64 (regs + 1), .slice none 0 0] t'] 1 rfl 0
  · exact al_cell W1 [.cells #[.slice Aw ws.length capw] t, .cells #[.int .i64 (regs + 1), .slice none 0 0] t'] 1 rfl 1
  · exact al_frozen W1 [.cells #[.slice Aw ws.length capw] t, .cells #[.int .i64 (regs + 1), .slice none 0 0] t'] 1 rfl 1
end Go.Proofs.Ytalhjbncloobpaa
