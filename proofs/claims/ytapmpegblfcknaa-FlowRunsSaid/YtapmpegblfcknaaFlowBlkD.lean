import Derived.Test.YtapmpegblfcknaaFlowHead
import Derived.Test.YtapmpegblfcknaaFlowPartsP
set_option linter.unusedVariables false
set_option linter.unusedSimpArgs false
namespace Go.Proofs.Ytapmpegblfcknaa
open Go.RowKit Go.Shelf
/-! The blocks of a program, as they lie in memory; what flow.Blocks answers. -/
def blkV : List (Nat × Nat) → List Value → List Value
  | p :: ps, v :: vs => .int .i64 p.1 :: .int .i64 p.2 :: v :: blkV ps vs
  | _, _ => []
theorem blkV_len : ∀ (ps : List (Nat × Nat)) (vs : List Value), vs.length = ps.length → (blkV ps vs).length = ps.length * 3
  | [], [], _ => rfl
  | p :: ps, v :: vs, h => by
    have := blkV_len ps vs (by simpa using h)
    simp only [blkV, List.length_cons, this]; omega
theorem blkV_get : ∀ (ps : List (Nat × Nat)) (vs : List Value) (i : Nat) (p : Nat × Nat) (v : Value), ps[i]? = some p → vs[i]? = some v → (blkV ps vs)[i * 3]? = some (.int .i64 p.1) ∧ (blkV ps vs)[i * 3 + 1]? = some (.int .i64 p.2) ∧ (blkV ps vs)[i * 3 + 2]? = some v
  | [], _, i, p, v, h, _ => by simp at h
  | _ :: _, [], i, p, v, _, h => by simp at h
  | q :: ps, u :: vs, 0, p, v, h1, h2 => by
    simp at h1 h2
    subst h1 h2
    exact ⟨rfl, rfl, rfl⟩
  | q :: ps, u :: vs, i + 1, p, v, h1, h2 => by
    have := blkV_get ps vs i p v (by simpa using h1) (by simpa using h2)
    simp only [blkV]
    rw [show (i + 1) * 3 = i * 3 + 3 by omega, show i * 3 + 3 + 1 = i * 3 + 1 + 3 by omega, show i * 3 + 3 + 2 = i * 3 + 2 + 3 by omega]
    simpa using this
/-- The parts of an accepted program. -/
def blocksQ (q : List I4) : List (Nat × Nat) := partsQ q (intoP q) q.length 0
theorem blkV_set : ∀ (ps : List (Nat × Nat)) (vs : List Value) (i : Nat) (v : Value), i < ps.length → vs.length = ps.length → (blkV ps vs).set (i * 3 + 2) v = blkV ps (vs.set i v)
  | [], _, i, v, h, _ => by simp at h
  | _ :: _, [], i, v, _, h => by simp at h
  | q :: ps, u :: vs, 0, v, _, _ => rfl
  | q :: ps, u :: vs, i + 1, v, h1, h2 => by
    have := blkV_set ps vs i v (by simpa using h1) (by simpa using h2)
    rw [show (i + 1) * 3 + 2 = i * 3 + 2 + 3 by omega]
    simp only [blkV, List.set_cons_succ]
    rw [this]
/-- The row of blocks, while none leads anywhere. -/
def rowB (ps : List (Nat × Nat)) : List Value := ps.flatMap fun p => [.int .i64 p.1, .int .i64 p.2, .slice none 0 0]
theorem rowB_snoc (ps : List (Nat × Nat)) (a b : Nat) : rowB (ps ++ [(a, b)]) = rowB ps ++ [.int .i64 a, .int .i64 b, .slice none 0 0] := by simp [rowB]
theorem rowB_eq : ∀ ps : List (Nat × Nat), rowB ps = blkV ps (List.replicate ps.length (.slice none 0 0))
  | [] => rfl
  | p :: ps => by
    have := rowB_eq ps
    simp only [rowB, List.flatMap_cons, List.length_cons, List.replicate_succ, blkV] at this ⊢
    rw [this]; rfl
/-- The numbers of the blocks that instructions are in. -/
def NumOk (ps : List (Nat × Nat)) (nu : List Nat) : Prop := ∀ i p j, ps[i]? = some p → p.1 ≤ j → j < p.2 → nu.getD j 0 = i
def nextsQ (q : List I4) (ps : List (Nat × Nat)) (nu : List Nat) (j : Nat) : List Nat := (nextQ q ((ps.getD j (0, 0)).2 - 1)).map fun t => nu.getD t 0
def NextRows (H : Nat) (f : Nat → List Nat) (vs : List Value) (i : Nat) (V : World) : Prop := ∀ j v, j < i → vs[j]? = some v → V.ownsRow H 3 1 v (f j).length (numV .i64 (natsI (f j)))
def BlksPost (w : World) (q : List I4) (e : Ending) (w' : World) : Prop := ∃ v vs nu, e = .returned v ∧ vs.length = (blocksQ q).length ∧ w'.ownsRow w.heap.size 52 3 v (blocksQ q).length (blkV (blocksQ q) vs) ∧ Below w.heap.size w w' ∧ NumOk (blocksQ q) nu ∧ nu.length = q.length ∧ NextRows w.heap.size (nextsQ q (blocksQ q) nu) vs (blocksQ q).length w'
def BlocksPost (w : World) (q : List I4) (e : Ending) (w' : World) : Prop :=
  ((checkP q).1 ≠ 0 ∧ e = .returned (.tuple #[.slice none 0 0, .int .i64 1]) ∧ Below w.heap.size w w') ∨
  ((checkP q).1 = 0 ∧ ∃ v, e = .returned (.tuple #[v, .int .i64 0]) ∧ BlksPost w q (.returned v) w')
theorem end_last {q : List I4} (h : (checkP q).1 = 0) : endQ q (q.length - 1) = true := by
  obtain ⟨a1, -, -, -⟩ := acc_facts h
  obtain ⟨x, hx⟩ : ∃ x, q[q.length - 1]? = some x := ⟨_, List.getElem?_eq_getElem (by omega)⟩
  unfold endQ
  rw [hx]
  rcases acc_last h hx (by omega) with e | e <;> · simp only [endsJ, e]; decide
theorem blocks_le (q : List I4) (n : List Nat) : ∀ (f at_ : Nat), (partsQ q n f at_).length ≤ f := by
  intro f
  induction f with
  | zero => intro at_; simp [partsQ]
  | succ f ih =>
    intro at_
    unfold partsQ
    split
    · split
      · have := ih (at_ + 1); omega
      · have := ih (runEnd q n q.length at_); simp; omega
    · simp
end Go.Proofs.Ytapmpegblfcknaa
