import Derived.Test.YtebkbcpnjknkjaaBase
import Derived.Laws.Strings
set_option linter.unusedVariables false
set_option linter.unusedSimpArgs false
namespace Go.Proofs.Ytebkbcpnjknkjaa
open Go.RowKit
/-! Expressions: trees with the places of their rows; what it is that they lie in memory. -/
inductive ExA where
  | mk (op : Int) (A : Option Addr) (c : Nat) (args : List ExA) (f m r v : Int)
namespace ExA
def op : ExA → Int | .mk op _ _ _ _ _ _ _ => op
def A : ExA → Option Addr | .mk _ A _ _ _ _ _ _ => A
def c : ExA → Nat | .mk _ _ c _ _ _ _ _ => c
def args : ExA → List ExA | .mk _ _ _ l _ _ _ _ => l
def f : ExA → Int | .mk _ _ _ _ f _ _ _ => f
def m : ExA → Int | .mk _ _ _ _ _ m _ _ => m
def r : ExA → Int | .mk _ _ _ _ _ _ r _ => r
def v : ExA → Int | .mk _ _ _ _ _ _ _ v => v
def val : ExA → Value | .mk op A c l f m r v => .agg #[.int .i64 op, .slice A l.length c, .int .i64 f, .int .u64 m, .int .i64 r, .int .u64 v]
def cells : ExA → List Value | .mk op A c l f m r v => [.int .i64 op, .slice A l.length c, .int .i64 f, .int .u64 m, .int .i64 r, .int .u64 v]
theorem cells_length (x : ExA) : x.cells.length = 6 := by cases x; rfl
theorem cells_one (x : ExA) : ∀ u ∈ x.cells, u.oneCell' = true := by
  cases x
  intro u hu
  simp only [cells, List.mem_cons, List.mem_nil_iff, or_false] at hu
  rcases hu with rfl | rfl | rfl | rfl | rfl | rfl <;> rfl
end ExA
def cellsX (l : List ExA) : List Value := l.flatMap ExA.cells
theorem cellsX_length (l : List ExA) : (cellsX l).length = l.length * 6 := by
  induction l with
  | nil => rfl
  | cons x l ih => simp only [cellsX, List.flatMap_cons, List.length_append, List.length_cons] at ih ⊢; rw [ih, ExA.cells_length]; omega
theorem cellsX_snoc (l : List ExA) (x : ExA) : cellsX l ++ x.cells = cellsX (l ++ [x]) := by simp [cellsX]
theorem cellsX_get (l : List ExA) (i : Nat) (x : ExA) (hx : l[i]? = some x) (k : Nat) (hk : k < 6) : (cellsX l)[i * 6 + k]? = x.cells[k]? := by
  induction l generalizing i with
  | nil => simp at hx
  | cons y l ih =>
    cases i with
    | zero => simp only [List.getElem?_cons_zero, Option.some.injEq] at hx; subst hx; simp only [cellsX, List.flatMap_cons]; rw [List.getElem?_append_left (by rw [ExA.cells_length]; omega)]; simp
    | succ i =>
      rw [List.getElem?_cons_succ] at hx
      have e : (i + 1) * 6 + k = y.cells.length + (i * 6 + k) := by rw [ExA.cells_length]; omega
      simp only [cellsX, List.flatMap_cons] at ih ⊢
      rw [e, List.getElem?_append_right (by omega), Nat.add_sub_cancel_left]
      exact ih i hx
theorem cellsX_mem (l : List ExA) : ∀ u ∈ cellsX l, u.oneCell' = true := by
  intro u hu
  simp only [cellsX, List.mem_flatMap] at hu
  obtain ⟨x, _, h⟩ := hu
  exact x.cells_one u h
/-- A row of cells in one of the blocks that N allows. -/
def RowN (W : World) (N : Nat → Prop) (size : Nat) (A : Option Addr) (n : Nat) (xs : List Value) : Prop :=
  xs.length = n * size ∧ (0 < n → ∃ b off, A = some ⟨b, off, none⟩ ∧ N b ∧ ∀ j u, xs[j]? = some u → W.cell? ⟨b, off + j, none⟩ = some u)
section
variable {W W' : World} {N N' : Nat → Prop} {size n : Nat} {A : Option Addr} {xs : List Value}
theorem RowN.keep (h : RowN W N size A n xs) (hk : ∀ b, N b → b < W.heap.size → N' b ∧ W'.heap[b]? = W.heap[b]?) (hs : 0 < size) : RowN W' N' size A n xs :=
  ⟨h.1, fun hn => by
    obtain ⟨b, off, e, hb, hc⟩ := h.2 hn
    have h0 : 0 < xs.length := by rw [h.1]; exact Nat.mul_pos hn hs
    have hlt : b < W.heap.size := World.block_lt_of_cell? W _ (hc 0 _ (List.getElem?_eq_getElem h0))
    obtain ⟨k1, k2⟩ := hk b hb hlt
    refine ⟨b, off, e, k1, fun j u hu => ?_⟩
    have := hc j u hu
    simp only [World.cell?] at this ⊢
    rw [k2]; exact this⟩
theorem RowN.reads (h : RowN W N size A n xs) (hs : 0 < size) : Reads W W.heap.size size A n xs :=
  ⟨h.1, fun hn => by
    obtain ⟨b, off, e, hb, hc⟩ := h.2 hn
    have h0 : 0 < xs.length := by rw [h.1]; exact Nat.mul_pos hn hs
    exact ⟨b, off, e, World.block_lt_of_cell? W _ (hc 0 _ (List.getElem?_eq_getElem h0)), hc⟩⟩
theorem RowN.of_own {base : Nat} {e : TypeId} {c : Nat} (h : W.ownsRow base e size (.slice A n c) n xs) (hN : ∀ g, A = some ⟨g, 0, none⟩ → base ≤ g → N g) : RowN W N size A n xs := by
  refine ⟨h.1, fun hn => ?_⟩
  obtain ⟨g, cap, hv, hb, hlt⟩ := h.form hn
  have hA : A = some ⟨g, 0, none⟩ := by injection hv
  subst hA
  exact ⟨_, _, rfl, hN g rfl hb, fun j u hu => by rw [← add_plain]; exact h.cells (g := g) rfl j u hu⟩
end
mutual
def ExA.In (W : World) (N : Nat → Prop) : ExA → Prop
  | .mk _ A _ l _ _ _ _ => RowN W N 6 A l.length (cellsX l) ∧ ExA.InL W N l
def ExA.InL (W : World) (N : Nat → Prop) : List ExA → Prop
  | [] => True
  | x :: l => ExA.In W N x ∧ ExA.InL W N l
end
mutual
def ExA.strip : ExA → ExA
  | .mk op _ _ l f m r v => .mk op none 0 (ExA.stripL l) f m r v
def ExA.stripL : List ExA → List ExA
  | [] => []
  | x :: l => ExA.strip x :: ExA.stripL l
end
theorem ExA.InL_append {W : World} {N : Nat → Prop} (l k : List ExA) : ExA.InL W N (l ++ k) ↔ ExA.InL W N l ∧ ExA.InL W N k := by
  induction l with
  | nil => simp [ExA.InL]
  | cons x l ih => simp only [List.cons_append, ExA.InL, ih, and_assoc]
theorem ExA.stripL_append (l k : List ExA) : ExA.stripL (l ++ k) = ExA.stripL l ++ ExA.stripL k := by
  induction l with
  | nil => rfl
  | cons x l ih => simp only [List.cons_append, ExA.stripL, ih]
theorem ExA.stripL_length (l : List ExA) : (ExA.stripL l).length = l.length := by
  induction l with
  | nil => rfl
  | cons x l ih => simp only [ExA.stripL, List.length_cons, ih]
theorem ExA.InL_get {W : World} {N : Nat → Prop} {l : List ExA} (h : ExA.InL W N l) {i : Nat} {x : ExA} (hx : l[i]? = some x) : x.In W N := by
  induction l generalizing i with
  | nil => simp at hx
  | cons y l ih =>
    simp only [ExA.InL] at h
    cases i with
    | zero => simp at hx; subst hx; exact h.1
    | succ i => exact ih h.2 (by simpa using hx)
mutual
theorem ExA.In.keep {W W' : World} {N N' : Nat → Prop} (hk : ∀ b, N b → b < W.heap.size → N' b ∧ W'.heap[b]? = W.heap[b]?) : ∀ (x : ExA), x.In W N → x.In W' N'
  | .mk _ _ _ l _ _ _ _, h => ⟨h.1.keep hk (by decide), ExA.InL.keep hk l h.2⟩
theorem ExA.InL.keep {W W' : World} {N N' : Nat → Prop} (hk : ∀ b, N b → b < W.heap.size → N' b ∧ W'.heap[b]? = W.heap[b]?) : ∀ (l : List ExA), ExA.InL W N l → ExA.InL W' N' l
  | [], _ => trivial
  | x :: l, h => ⟨ExA.In.keep hk x h.1, ExA.InL.keep hk l h.2⟩
end
end Go.Proofs.Ytebkbcpnjknkjaa
