import Derived.Test.YtebkbcpnjknkjaaTreeP
set_option linter.unusedVariables false
set_option linter.unusedSimpArgs false
namespace Go.Proofs.Ytebkbcpnjknkjaa
open Go.RowKit
/-! Policies: calls, rules, policies with the places of their rows; what it is that they lie in memory. -/
/-- A call: its name, its number. -/
structure CallP where
  (name : ByteArray)
  (nr : Int)
def CallP.val (x : CallP) : Value := .agg #[.string x.name, .int .u64 x.nr]
def CallP.cells (x : CallP) : List Value := [.string x.name, .int .u64 x.nr]
theorem CallP.cells_one (x : CallP) : ∀ u ∈ x.cells, u.oneCell' = true := by
  intro u hu
  simp only [CallP.cells, List.mem_cons, List.mem_nil_iff, or_false] at hu
  rcases hu with rfl | rfl <;> rfl
def cellsC (l : List CallP) : List Value := l.flatMap CallP.cells
theorem cellsC_length (l : List CallP) : (cellsC l).length = l.length * 2 := by
  induction l with
  | nil => rfl
  | cons x l ih => simp only [cellsC, List.flatMap_cons, List.length_append, List.length_cons] at ih ⊢; rw [ih]; simp [CallP.cells]; omega
theorem cellsC_snoc (l : List CallP) (x : CallP) : cellsC l ++ x.cells = cellsC (l ++ [x]) := by simp [cellsC]
theorem cellsC_get (l : List CallP) (i : Nat) (x : CallP) (hx : l[i]? = some x) (k : Nat) (hk : k < 2) : (cellsC l)[i * 2 + k]? = x.cells[k]? := by
  induction l generalizing i with
  | nil => simp at hx
  | cons y l ih =>
    cases i with
    | zero => simp only [List.getElem?_cons_zero, Option.some.injEq] at hx; subst hx; simp only [cellsC, List.flatMap_cons]; rw [List.getElem?_append_left (by simp [CallP.cells]; omega)]; simp
    | succ i =>
      rw [List.getElem?_cons_succ] at hx
      have e : (i + 1) * 2 + k = y.cells.length + (i * 2 + k) := by simp [CallP.cells]; omega
      simp only [cellsC, List.flatMap_cons] at ih ⊢
      rw [e, List.getElem?_append_right (by omega), Nat.add_sub_cancel_left]
      exact ih i hx
structure RuA where
  (A : Option Addr)
  (cap : Nat)
  (calls : List CallP)
  (when_ : ExA)
  (dk dd : Int)
def RuA.cells (x : RuA) : List Value := .slice x.A x.calls.length x.cap :: (x.when_.cells ++ [.int .i64 x.dk, .int .u64 x.dd])
def RuA.val (x : RuA) : Value := .agg x.cells.toArray
theorem RuA.cells_length (x : RuA) : x.cells.length = 9 := by simp [RuA.cells, ExA.cells_length]
theorem RuA.cells_one (x : RuA) : ∀ u ∈ x.cells, u.oneCell' = true := by
  intro u hu
  simp only [RuA.cells, List.mem_cons, List.mem_append, List.mem_nil_iff, or_false] at hu
  rcases hu with rfl | h | rfl | rfl
  · rfl
  · exact x.when_.cells_one u h
  · rfl
  · rfl
def cellsU (l : List RuA) : List Value := l.flatMap RuA.cells
theorem cellsU_length (l : List RuA) : (cellsU l).length = l.length * 9 := by
  induction l with
  | nil => rfl
  | cons x l ih => simp only [cellsU, List.flatMap_cons, List.length_append, List.length_cons] at ih ⊢; rw [ih, RuA.cells_length]; omega
theorem cellsU_snoc (l : List RuA) (x : RuA) : cellsU l ++ x.cells = cellsU (l ++ [x]) := by simp [cellsU]
theorem cellsU_get (l : List RuA) (i : Nat) (x : RuA) (hx : l[i]? = some x) (k : Nat) (hk : k < 9) : (cellsU l)[i * 9 + k]? = x.cells[k]? := by
  induction l generalizing i with
  | nil => simp at hx
  | cons y l ih =>
    cases i with
    | zero => simp only [List.getElem?_cons_zero, Option.some.injEq] at hx; subst hx; simp only [cellsU, List.flatMap_cons]; rw [List.getElem?_append_left (by rw [RuA.cells_length]; omega)]; simp
    | succ i =>
      rw [List.getElem?_cons_succ] at hx
      have e : (i + 1) * 9 + k = y.cells.length + (i * 9 + k) := by rw [RuA.cells_length]; omega
      simp only [cellsU, List.flatMap_cons] at ih ⊢
      rw [e, List.getElem?_append_right (by omega), Nat.add_sub_cancel_left]
      exact ih i hx
structure RuA.In (W : World) (N : Nat → Prop) (x : RuA) : Prop where
  calls : RowN W N 2 x.A x.calls.length (cellsC x.calls)
  when_ : x.when_.In W N
theorem RuA.In.keep {W W' : World} {N N' : Nat → Prop} {x : RuA} (h : x.In W N) (hk : ∀ b, N b → b < W.heap.size → N' b ∧ W'.heap[b]? = W.heap[b]?) : x.In W' N' := ⟨h.calls.keep hk (by decide), h.when_.keep hk⟩
def RuA.strip (x : RuA) : RuA := ⟨none, 0, x.calls, x.when_.strip, x.dk, x.dd⟩
structure PolA where
  (arch : ByteArray)
  (fk fd dk dd : Int)
  (A : Option Addr)
  (cap : Nat)
  (rules : List RuA)
def PolA.val (x : PolA) : Value := .agg #[.string x.arch, .int .i64 x.fk, .int .u64 x.fd, .int .i64 x.dk, .int .u64 x.dd, .slice x.A x.rules.length x.cap]
structure PolA.In (W : World) (N : Nat → Prop) (x : PolA) : Prop where
  rows : RowN W N 9 x.A x.rules.length (cellsU x.rules)
  all : ∀ r ∈ x.rules, r.In W N
theorem PolA.In.keep {W W' : World} {N N' : Nat → Prop} {x : PolA} (h : x.In W N) (hk : ∀ b, N b → b < W.heap.size → N' b ∧ W'.heap[b]? = W.heap[b]?) : x.In W' N' := ⟨h.rows.keep hk (by decide), fun r hr => (h.all r hr).keep hk⟩
theorem PolA.In.below {W W' : World} {N : Nat → Prop} {x : PolA} (h : x.In W N) (k : Below W.heap.size W W') : x.In W' N := h.keep fun b hb hl => ⟨hb, k.block b hl⟩
def PolA.strip (x : PolA) : PolA := ⟨x.arch, x.fk, x.fd, x.dk, x.dd, none, 0, x.rules.map RuA.strip⟩
end Go.Proofs.Ytebkbcpnjknkjaa
