import Derived.Test.YtpofdjnkpplimaaOwn
import Derived.Test.YtpofdjnkpplimaaStep
set_option linter.unusedVariables false
set_option linter.unusedSimpArgs false
namespace Go.Proofs.Ytpofdjnkpplimaa
open Go.RowKit
/-! Instructions in memory of the call's own, that are written over field by field. -/
theorem cellsI_set (l : List I4) (n : Nat) (x y : I4) (m : Nat) (v : Value) (hx : l[n]? = some x) (hm : m < 4) (hv : x.cells.set m v = y.cells) : (cellsI l).set (n * 4 + m) v = cellsI (l.set n y) := by
  induction l generalizing n with
  | nil => simp at hx
  | cons z l ih =>
    have e : ∀ (z : I4) (l : List I4), cellsI (z :: l) = z.cells ++ cellsI l := fun z l => by simp [cellsI]
    cases n with
    | zero =>
      simp at hx; subst hx
      rw [e, List.set_cons_zero, e, List.set_append_left _ _ (by simp [I4.cells]; omega)]
      simp [hv]
    | succ n =>
      simp at hx
      rw [e, List.set_cons_succ, e, List.set_append_right _ _ (by simp [I4.cells]; omega)]
      rw [← ih n hx]
      congr 2
      simp [I4.cells]; omega
def IRow (w : World) (base g cap : Nat) (l : List I4) (wr : World) : Prop := wr.ownsRow base 34 4 (.slice (some ⟨g, 0, none⟩) l.length cap) l.length (cellsI l) ∧ Below w.heap.size w wr ∧ w.heap.size ≤ g ∧ g < wr.heap.size
section
variable {w wr : World} {base g cap n : Nat} {l : List I4} {x : I4}
theorem IRow.put (h : IRow w base g cap l wr) (hx : l[n]? = some x) (y : I4) (m : Nat) (v : Value) (hm : m < 4) (hv : x.cells.set m v = y.cells) : IRow w base g cap (l.set n y) (wr.setCell ⟨g, n * 4 + m, none⟩ v) := by
  obtain ⟨h1, h2, h3, h4⟩ := h
  refine ⟨?_, h2.setCell (p := ⟨g, n * 4 + m, none⟩) h3 _, h3, by simpa using h4⟩
  have := (h1.stored (n * 4 + m) v).1
  rw [cellsI_set l n x y m v hx hm hv] at this
  rwa [List.length_set]
theorem IRow.setJ (h : IRow w base g cap l wr) (hx : l[n]? = some x) (v : Int) : IRow w base g cap (l.set n { x with j := v }) (wr.setCell ⟨g, n * 4 + 1, none⟩ (.int .u8 v)) := h.put hx _ 1 _ (by decide) rfl
theorem IRow.setF (h : IRow w base g cap l wr) (hx : l[n]? = some x) (v : Int) : IRow w base g cap (l.set n { x with f := v }) (wr.setCell ⟨g, n * 4 + 2, none⟩ (.int .u8 v)) := h.put hx _ 2 _ (by decide) rfl
theorem IRow.setK (h : IRow w base g cap l wr) (hx : l[n]? = some x) (v : Int) : IRow w base g cap (l.set n { x with k := v }) (wr.setCell ⟨g, n * 4 + 3, none⟩ (.int .u32 v)) := h.put hx _ 3 _ (by decide) rfl
theorem IRow.setC (h : IRow w base g cap l wr) (hx : l[n]? = some x) (v : Int) : IRow w base g cap (l.set n { x with c := v }) (wr.setCell ⟨g, n * 4, none⟩ (.int .u16 v)) := h.put hx _ 0 _ (by decide) rfl
theorem IRow.cells (h : IRow w base g cap l wr) (hx : l[n]? = some x) : wr.cell? ⟨g, n * 4, none⟩ = some (.int .u16 x.c) ∧ wr.cell? ⟨g, n * 4 + 1, none⟩ = some (.int .u8 x.j) ∧ wr.cell? ⟨g, n * 4 + 2, none⟩ = some (.int .u8 x.f) ∧ wr.cell? ⟨g, n * 4 + 3, none⟩ = some (.int .u32 x.k) := by
  obtain ⟨b, off, e, _, i0, i1, i2, i3⟩ := (Reads.of_own h.1).insn hx
  injection e with e
  injection e with e1 e2
  subst e1 e2
  simp only [Nat.zero_add] at i0 i1 i2 i3
  exact ⟨i0, i1, i2, i3⟩
theorem IRow.free (h : IRow w base g cap l wr) (j : Nat) : wr.frozen? ⟨g, j, none⟩ = false := h.1.frozenAt j
theorem IRow.keep {W : World} (h : IRow w base g cap l wr) (hb : Below wr.heap.size wr W) : IRow w base g cap l W :=
  ⟨h.1.kept (row := none) ⟨hb.os, hb.tape, hb.output, hb.size, fun k hk _ => hb.block k hk⟩ (.inr (by simp [Value.ownBlock])), below_t h.2.1 hb, h.2.2.1, Nat.lt_of_lt_of_le h.2.2.2 hb.size⟩
theorem IRow.drew (h : IRow w base g cap l wr) : IRow w base g cap l wr.drew := h.keep (below_dr (Below.refl _ _))
theorem IRow.cast {l' : List I4} (h : IRow w base g cap l wr) (e : l = l') : IRow w base g cap l' wr := e ▸ h
end
end Go.Proofs.Ytpofdjnkpplimaa
