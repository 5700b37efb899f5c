import Derived.Test.YtalhjbncloobpaaBlindW4
import Derived.Test.YtalhjbncloobpaaMirStore
set_option linter.unusedVariables false
set_option linter.unusedSimpArgs false
namespace Go.Proofs.Ytalhjbncloobpaa
open Go.RowKit
/-! A program of registers copied into a box of its own: what the orders leave. -/
def SF (w : World) (regs : Int) (A : Option Addr) (n cap : Nat) (W : World) : Prop :=
  W.cell? ⟨w.heap.size, 0, none⟩ = some (.int .i64 regs) ∧ W.cell? ⟨w.heap.size, 1, none⟩ = some (.slice A n cap) ∧ Below w.heap.size w W ∧ w.heap.size + 1 ≤ W.heap.size
section
variable {w W W1 : World} {regs : Int} {A : Option Addr} {n cap : Nat}
theorem SF.on (h : SF w regs A n cap W) (hb : Below (w.heap.size + 1) W W1) : SF w regs A n cap W1 := by
  obtain ⟨h1, h2, h7, h8⟩ := h
  exact ⟨(hb.cell (p := ⟨w.heap.size, 0, none⟩) (by simp)).trans h1, (hb.cell (p := ⟨w.heap.size, 1, none⟩) (by simp)).trans h2, h7.trans (below_of hb (by omega)), Nat.le_trans h8 hb.size⟩
theorem SF.al (h : SF w regs A n cap W) (o : Obj) : SF w regs A n cap (W.alloc o) := h.on ((Below.refl _ _).alloc h.2.2.2 o)
theorem SF.dr (h : SF w regs A n cap W) : SF w regs A n cap W.drew := ⟨h.1, h.2.1, below_dr h.2.2.1, h.2.2.2⟩
theorem SF.grown2 {row : Option Nat} (h : SF w regs A n cap W) (hg : W.grownBy W1 row) (hk : ∀ k, row = some k → w.heap.size + 1 ≤ k) : SF w regs A n cap W1 :=
  h.on (below_gr (Below.refl _ _) hg h.2.2.2 hk)
theorem SF.set (h : SF w regs A n cap W) (b o : Nat) (u : Value) (hb : w.heap.size + 1 ≤ b) : SF w regs A n cap (W.setCell ⟨b, o, none⟩ u) :=
  h.on ((Below.refl _ _).setCell (p := ⟨b, o, none⟩) hb u)
theorem SF.c (h : SF w regs A n cap W) : W.cell? ⟨w.heap.size, 0, none⟩ = some (.int .i64 regs) ∧ W.cell? ⟨w.heap.size, 1, none⟩ = some (.slice A n cap) ∧ Below w.heap.size w W ∧ w.heap.size + 1 ≤ W.heap.size := h
end
theorem own_base {w : World} {b b' : Nat} {e : TypeId} {size n : Nat} {v : Value} {xs : List Value} (h : w.ownsRow b e size v n xs) (hb : b' ≤ b) : w.ownsRow b' e size v n xs := by
  refine ⟨h.1, ?_⟩
  rcases h.2 with h' | ⟨g, cap, cur, h1, h2, h3⟩
  · exact .inl h'
  · exact .inr ⟨g, cap, cur, h1, by omega, h3⟩
theorem own_form {w : World} {base n : Nat} {e : TypeId} {size : Nat} {v : Value} {xs : List Value} (h : w.ownsRow base e size v n xs) (hv : v ≠ .slice none 0 0) : ∃ g cap, v = .slice (some ⟨g, 0, none⟩) n cap ∧ base ≤ g ∧ g < w.heap.size ∧ ∃ cur, w.heap[g]? = some (.cells cur e (0, 0)) := by
  rcases h.2 with ⟨h', _⟩ | ⟨g, cap, cur, h1, h2, h3, _⟩
  · exact absurd h' hv
  · exact ⟨g, cap, h1, h2, (Array.getElem?_eq_some_iff.1 h3).1, cur, h3⟩
def VarAt (W : World) (P : Nat) : Prop := W.heap[P]? = some (.cells #[.int .i64 0, .slice none 0 0] 25 (0, 0))
theorem VarAt.facts {W : World} {P : Nat} (h : VarAt W P) : W.cell? ⟨P, 0, none⟩ = some (.int .i64 0) ∧ W.cell? ⟨P, 1, none⟩ = some (.slice none 0 0) ∧ W.frozen? ⟨P, 0, none⟩ = false ∧ W.frozen? ⟨P, 1, none⟩ = false := by
  unfold VarAt at h
  refine ⟨?_, ?_, ?_, ?_⟩ <;> simp [World.cell?, World.frozen?, h]
theorem VarAt.grown {W W1 : World} {P : Nat} {row : Option Nat} (h : VarAt W P) (hg : W.grownBy W1 row) (hP : P < W.heap.size) (hne : row ≠ some P) : VarAt W1 P :=
  (hg.block P hP (fun e => hne e.symm)).trans h
theorem VarAt.new (W : World) : VarAt (W.alloc (.cells #[.int .i64 0, .slice none 0 0] 25)) W.heap.size := heap_alloc_new W _
theorem VarAt.al {W : World} {P : Nat} (h : VarAt W P) (hP : P < W.heap.size) (o : Obj) : VarAt (W.alloc o) P := ((below1 W o).block P hP).trans h
theorem var_last {W W1 : World} {e : Obj} (hg : ((W.alloc e).alloc (.cells #[.int .i64 0, .slice none 0 0] 25)).drew.grownBy W1 (some W.heap.size)) : VarAt W1 (W.heap.size + 1) := by
  have h := VarAt.grown (W := ((W.alloc e).alloc (.cells #[.int .i64 0, .slice none 0 0] 25)).drew) (P := (W.alloc e).heap.size) (VarAt.new (W.alloc e)) hg (by show _ < ((W.alloc e).alloc _).heap.size; simp) (by simp)
  rwa [World.size_alloc] at h
theorem var_first {W W1 : World} {e : Obj} (hg : ((W.alloc (.cells #[.int .i64 0, .slice none 0 0] 25)).alloc e).drew.grownBy W1 (some (W.heap.size + 1))) : VarAt W1 W.heap.size :=
  VarAt.grown (W := ((W.alloc (.cells #[.int .i64 0, .slice none 0 0] 25)).alloc e).drew) ((VarAt.new W).al (by simp) e) hg (by show _ < ((W.alloc _).alloc e).heap.size; simp; omega) (by simp)
theorem VarAt.ne {w : World} {P g : Nat} (h : VarAt w P) (hg : ∃ cur, w.heap[g]? = some (.cells cur 34 (0, 0))) : g ≠ P := by
  rintro rfl
  obtain ⟨cur, hc⟩ := hg
  unfold VarAt at h
  rw [hc] at h
  injection h with h
  injection h with _ h _
  exact absurd h (by decide)
theorem own_set2 {w : World} {base g n cap : Nat} {e : TypeId} {size : Nat} {xs : List Value} (h : w.ownsRow base e size (.slice (some ⟨g, 0, none⟩) n cap) n xs) (b o : Nat) (u : Value) (hb : g ≠ b) : (w.setCell ⟨b, o, none⟩ u).ownsRow base e size (.slice (some ⟨g, 0, none⟩) n cap) n xs :=
  h.kept (row := some b) ⟨rfl, rfl, rfl, by simp [World.setCell], fun k _ hk => Below.heap_setCell _ _ _ k (fun e => hk (by rw [e]))⟩ (.inr (fun e => hb (by simpa [Value.ownBlock] using e)))
theorem put_new {w w1 : World} {regs : Int} {A : Option Addr} {n cap g cap2 base : Nat} {q : List R7} (hs : SF w regs A n cap w1) (hq : ∀ y ∈ q, y.ok) (ho : w1.ownsRow (w.heap.size + 1) 34 7 (.slice (some ⟨g, 0, none⟩) q.length cap2) q.length (cellsR q)) (t : TypeId) :
    PutRel w regs g cap2 w1.heap.size q (w1.alloc (.cells #[.int .i64 regs, .slice (some ⟨g, 0, none⟩) q.length cap2] t)) :=
  ⟨hq, own_base (ho.alloc _) (by omega), below_al hs.2.2.1 _, by simp [go_sem], by simp [go_sem]⟩
theorem put_old {w w1 : World} {regs : Int} {A : Option Addr} {n cap g cap2 P : Nat} {q : List R7} (hs : SF w regs A n cap w1) (hq : ∀ y ∈ q, y.ok) (ho : w1.ownsRow (w.heap.size + 1) 34 7 (.slice (some ⟨g, 0, none⟩) q.length cap2) q.length (cellsR q)) (hP : VarAt w1 P) (hne : g ≠ P) (hwP : w.heap.size ≤ P) :
    PutRel w regs g cap2 P q ((w1.setCell ⟨P, 0, none⟩ (.int .i64 regs)).setCell ⟨P, 1, none⟩ (.slice (some ⟨g, 0, none⟩) q.length cap2)) := by
  obtain ⟨p1, p2, _, _⟩ := hP.facts
  refine ⟨hq, own_base (own_set2 (own_set2 ho _ _ _ hne) _ _ _ hne) (by omega), (hs.2.2.1.setCell (p := ⟨P, 0, none⟩) hwP _).setCell (p := ⟨P, 1, none⟩) hwP _, ?_, ?_⟩
  · rw [World.cell?_setCell_other _ _ _ _ (by simp)]; exact World.cell?_setCell_same _ _ _ p1
  · exact World.cell?_setCell_same _ _ _ ((World.cell?_setCell_other _ _ _ _ (by simp)).trans p2)
theorem sf_old {w w1 : World} {regs : Int} {A : Option Addr} {n cap P : Nat} (hs : SF w regs A n cap w1) (hwP : w.heap.size + 1 ≤ P) (u v : Value) : SF w regs A n cap ((w1.setCell ⟨P, 0, none⟩ u).setCell ⟨P, 1, none⟩ v) := (hs.set P 0 u hwP).set P 1 v hwP
end Go.Proofs.Ytalhjbncloobpaa
