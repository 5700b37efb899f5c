import Derived.Test.YtalhjbncloobpaaMirKept
set_option linter.unusedVariables false
set_option linter.unusedSimpArgs false
namespace Go.Proofs.Ytalhjbncloobpaa
open Go.RowKit
/-! A program of registers in new memory, its header in a box: one field of one instruction is written. -/
def R7.put (x : R7) (m : Nat) (v : Int) : R7 :=
  match m with
  | 0 => { x with o := v } | 1 => { x with d := v } | 2 => { x with a := v } | 3 => { x with b := v } | 4 => { x with k := v } | 5 => { x with t := v } | _ => { x with f := v }
def kindOf (m : Nat) : IntKind := if m = 4 then .u32 else .i64
theorem cells_put (x : R7) (m : Nat) (hm : m < 7) (v : Int) : x.cells.set m (.int (kindOf m) v) = (x.put m v).cells := by
  match m, hm with
  | 0, _ => rfl | 1, _ => rfl | 2, _ => rfl | 3, _ => rfl | 4, _ => rfl | 5, _ => rfl | 6, _ => rfl
theorem cellsR_put (L : List R7) (n : Nat) (x : R7) (hx : L[n]? = some x) (m : Nat) (hm : m < 7) (v : Int) : (cellsR L).set (n * 7 + m) (.int (kindOf m) v) = cellsR (L.set n (x.put m v)) := by
  induction L generalizing n with
  | nil => simp at hx
  | cons y L ih =>
    have e : ∀ (z : R7) (l : List R7), cellsR (z :: l) = z.cells ++ cellsR l := fun z l => by simp [cellsR]
    cases n with
    | zero =>
      simp at hx; subst hx
      rw [e, List.set_cons_zero, e, List.set_append, if_pos (by simp [R7.cells]; omega), Nat.zero_mul, Nat.zero_add, cells_put _ _ hm]
    | succ n =>
      rw [List.set_cons_succ, e, e, List.set_append, if_neg (by simp [R7.cells]; omega), ← ih n (by simpa using hx)]
      congr 2
      simp [R7.cells]; omega
/-- New memory: the row at block g, the header at block P. -/
def PutRel (w : World) (regs : Int) (g cap P : Nat) (L : List R7) (wr : World) : Prop :=
  (∀ y ∈ L, y.ok) ∧ wr.ownsRow w.heap.size 34 7 (.slice (some ⟨g, 0, none⟩) L.length cap) L.length (cellsR L) ∧ Below w.heap.size w wr ∧ wr.cell? ⟨P, 0, none⟩ = some (.int .i64 regs) ∧ wr.cell? ⟨P, 1, none⟩ = some (.slice (some ⟨g, 0, none⟩) L.length cap)
theorem PutRel.put {w wr : World} {regs : Int} {g cap P : Nat} {L : List R7} {n : Nat} {x : R7} (h : PutRel w regs g cap P L wr) (hx : L[n]? = some x) (m : Nat) (hm : m < 7) (v : Int) (hv : (x.put m v).ok) (hg : w.heap.size ≤ g) (hP : g ≠ P) :
    PutRel w regs g cap P (L.set n (x.put m v)) (wr.setCell ⟨g, n * 7 + m, none⟩ (.int (kindOf m) v)) := by
  obtain ⟨h1, h2, h3, h4, h5⟩ := h
  refine ⟨?_, ?_, h3.setCell (p := ⟨g, _, none⟩) hg _, ?_, ?_⟩
  · intro z hz
    rcases List.mem_or_eq_of_mem_set hz with h | rfl
    · exact h1 z h
    · exact hv
  · rw [← cellsR_put L n x hx m hm v, List.length_set]
    exact (h2.stored _ _).1
  · rw [World.cell?_setCell_far _ _ _ _ hP]; exact h4
  · rw [World.cell?_setCell_far _ _ _ _ hP, List.length_set]; exact h5
theorem PutRel.reads {w wr : World} {regs : Int} {g cap P : Nat} {L : List R7} (h : PutRel w regs g cap P L wr) : Reads wr wr.heap.size 7 (some ⟨g, 0, none⟩) L.length (cellsR L) := Reads.of_own h.2.1
theorem PutRel.get {w wr : World} {regs : Int} {g cap P : Nat} {L : List R7} {n : Nat} {x : R7} (h : PutRel w regs g cap P L wr) (hx : L[n]? = some x) (m : Nat) (hm : m < 7) : wr.cell? ⟨g, n * 7 + m, none⟩ = x.cells[m]? := by
  have hn := (List.getElem?_eq_some_iff.1 hx).1
  rw [h.2.1.cellAt _ (by omega)]
  exact cellsR_get L n x hx m hm
theorem PutRel.frozen {w wr : World} {regs : Int} {g cap P : Nat} {L : List R7} (h : PutRel w regs g cap P L wr) (j : Nat) : wr.frozen? ⟨g, j, none⟩ = false := h.2.1.frozenAt j
theorem PutRel.keep {w wr w' : World} {regs : Int} {g cap P : Nat} {L : List R7} (h : PutRel w regs g cap P L wr) (hb : Below wr.heap.size wr w') : PutRel w regs g cap P L w' :=
  ⟨h.1, h.2.1.kept (row := none) ⟨hb.os, hb.tape, hb.output, hb.size, fun k hk _ => hb.block k hk⟩ (.inr (by simp [Value.ownBlock])), below_t h.2.2.1 hb, keepC hb h.2.2.2.1, keepC hb h.2.2.2.2⟩
end Go.Proofs.Ytalhjbncloobpaa
