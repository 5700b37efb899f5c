import Derived.Test.YtehpoamideeehaaBase
set_option linter.unusedVariables false
set_option linter.unusedSimpArgs false
namespace Go.Proofs.Ytehpoamideeehaa
open Go.RowKit
/-! The plain side of layer 12: instructions of registers, Check, Run. -/
structure R7 where
  o : Int
  d : Int
  a : Int
  b : Int
  k : Int
  t : Int
  f : Int
deriving DecidableEq
def inI64 (x : Int) : Prop := -9223372036854775808 ≤ x ∧ x ≤ 9223372036854775807
def R7.ok (x : R7) : Prop := inI64 x.o ∧ inI64 x.d ∧ inI64 x.a ∧ inI64 x.b ∧ (0 ≤ x.k ∧ x.k < 4294967296) ∧ inI64 x.t ∧ inI64 x.f
def R7.cells (x : R7) : List Value := [.int .i64 x.o, .int .i64 x.d, .int .i64 x.a, .int .i64 x.b, .int .u32 x.k, .int .i64 x.t, .int .i64 x.f]
def cellsR (q : List R7) : List Value := q.flatMap R7.cells
theorem cellsR_length (q : List R7) : (cellsR q).length = q.length * 7 := by
  induction q with
  | nil => rfl
  | cons x q ih => simp only [cellsR, List.flatMap_cons, List.length_append] at ih ⊢; rw [ih]; simp [R7.cells]; omega
theorem cellsR_get (q : List R7) (i : Nat) (x : R7) (h : q[i]? = some x) (m : Nat) (hm : m < 7) : (cellsR q)[i * 7 + m]? = x.cells[m]? := by
  induction q generalizing i with
  | nil => simp at h
  | cons y q ih =>
    have e : cellsR (y :: q) = y.cells ++ cellsR q := by simp [cellsR]
    rw [e]
    cases i with
    | zero => simp at h; subst h; rw [List.getElem?_append_left (by simp [R7.cells]; omega)]; simp
    | succ i =>
      simp at h
      rw [List.getElem?_append_right (by simp [R7.cells]; omega)]
      have := ih i h
      rw [← this]; congr 1; simp [R7.cells]; omega
theorem Reads.lenR {w : World} {B n : Nat} {A : Option Addr} {q : List R7} (h : Reads w B 7 A n (cellsR q)) : q.length = n := by have := h.1; rw [cellsR_length] at this; omega
/-- An instruction that lies at a place. -/
def IrAt (w : World) (b off : Nat) (x : R7) : Prop :=
  w.cell? ⟨b, off, none⟩ = some (.int .i64 x.o) ∧ w.cell? ⟨b, off + 1, none⟩ = some (.int .i64 x.d) ∧ w.cell? ⟨b, off + 2, none⟩ = some (.int .i64 x.a) ∧ w.cell? ⟨b, off + 3, none⟩ = some (.int .i64 x.b) ∧ w.cell? ⟨b, off + 4, none⟩ = some (.int .u32 x.k) ∧ w.cell? ⟨b, off + 5, none⟩ = some (.int .i64 x.t) ∧ w.cell? ⟨b, off + 6, none⟩ = some (.int .i64 x.f)
theorem Reads.ir {w : World} {B n : Nat} {A : Option Addr} {q : List R7} (h : Reads w B 7 A n (cellsR q)) {i : Nat} {x : R7} (hx : q[i]? = some x) :
    ∃ b off, A = some ⟨b, off, none⟩ ∧ b < B ∧ IrAt w b (off + i * 7) x := by
  have hl : q.length = n := h.lenR
  have hi : i < q.length := (List.getElem?_eq_some_iff.1 hx).1
  obtain ⟨b, off, e, hb, hc⟩ := h.2 (by omega)
  have g := fun m hm => cellsR_get q i x hx m hm
  exact ⟨b, off, e, hb, hc (i * 7 + 0) _ (by rw [g 0 (by omega)]; rfl), hc (i * 7 + 1) _ (by rw [g 1 (by omega)]; rfl), hc (i * 7 + 2) _ (by rw [g 2 (by omega)]; rfl), hc (i * 7 + 3) _ (by rw [g 3 (by omega)]; rfl), hc (i * 7 + 4) _ (by rw [g 4 (by omega)]; rfl), hc (i * 7 + 5) _ (by rw [g 5 (by omega)]; rfl), hc (i * 7 + 6) _ (by rw [g 6 (by omega)]; rfl)⟩

/-! Which fields an operation names. -/
def shD (o : Int) : Bool := o == 1 || o == 3 || o == 2 || o == 13 || (decide (4 ≤ o) && decide (o ≤ 12))
def shA (o : Int) : Bool := o == 2 || o == 13 || (decide (4 ≤ o) && decide (o ≤ 12)) || (decide (15 ≤ o) && decide (o ≤ 18)) || o == 19
def shB (o : Int) : Bool := (decide (4 ≤ o) && decide (o ≤ 12)) || (decide (15 ≤ o) && decide (o ≤ 18))
def shT (o : Int) : Bool := o == 14 || (decide (15 ≤ o) && decide (o ≤ 18))
def shF (o : Int) : Bool := decide (15 ≤ o) && decide (o ≤ 18)
def known (o : Int) : Bool := decide (1 ≤ o) && decide (o ≤ 19)
def regB (named : Bool) (r regs : Int) : Bool := !named || (decide (0 ≤ r) && decide (r < regs))
def aheadB (named : Bool) (to at_ len : Int) : Bool := !named || (decide (at_ < to) && decide (to < len))
def wrongP (regs len at_ : Int) (x : R7) : Int :=
  if known x.o = false then 123
  else if (regB (shD x.o) x.d regs && regB (shA x.o) x.a regs && regB (shB x.o) x.b regs) = false then 124
  else if (x.o == 3 && (x.k % 4 != 0 || decide (64 ≤ x.k))) = true then 125
  else if (aheadB (shT x.o) x.t at_ len && aheadB (shF x.o) x.f at_ len) = false then 126
  else 0
def wrongQ (regs : Int) (q : List R7) (i : Nat) : Int := match q[i]? with | some x => wrongP regs q.length i x | none => 0
def lastO (q : List R7) : Int := match q[q.length - 1]? with | some x => x.o | none => 0
def mcheckP (regs : Int) (q : List R7) : Int × Int :=
  if regs < 1 ∨ 64 < regs then (121, 0)
  else if q.length < 1 ∨ 65536 < q.length then (122, 0)
  else match (List.range q.length).find? (fun i => wrongQ regs q i != 0) with
  | some i => (wrongQ regs q i, i)
  | none => if lastO q = 19 then (0, 0) else (127, q.length - 1)
end Go.Proofs.Ytehpoamideeehaa
