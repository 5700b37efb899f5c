import Derived.Test.YtkckaimefklenaaLowW2
import Derived.Test.YtkckaimefklenaaStep
import Derived.Deep.RegionLaw
import Derived.IntWalk
set_option linter.unusedVariables false
set_option linter.unusedSimpArgs false
namespace Go.Proofs.Ytkckaimefklenaa
open Go.RowKit
/-! ravelinref09: size, jump, code, places: the walks. -/
def aggN (x : N8) : Value := .agg #[.bool x.lf, .int .u32 x.wd, .int .i64 x.off, .int .u32 x.msk, .int .i64 x.op, .int .u32 x.k, .int .i64 x.t, .int .i64 x.f]
/-! Rows of ways: which are long. -/
def farV (far : List (Bool × Bool)) : List Value := far.flatMap fun p => [.bool p.1, .bool p.2]
theorem farV_length (far : List (Bool × Bool)) : (farV far).length = far.length * 2 := by
  induction far with
  | nil => rfl
  | cons p far ih => simp only [farV, List.flatMap_cons, List.length_append, List.length_cons, List.length_nil] at ih ⊢; omega
theorem farV_get (far : List (Bool × Bool)) (i : Nat) (h : i < far.length) : (farV far)[i * 2]? = some (.bool (farAt far i).1) ∧ (farV far)[i * 2 + 1]? = some (.bool (farAt far i).2) := by
  induction far generalizing i with
  | nil => simp at h
  | cons p far ih =>
    have e : farV (p :: far) = [.bool p.1, .bool p.2] ++ farV far := by simp [farV]
    rw [e]
    cases i with
    | zero => exact ⟨rfl, rfl⟩
    | succ i =>
      have := ih i (by simpa using h)
      rw [show (i + 1) * 2 = i * 2 + 2 by omega, show i * 2 + 2 + 1 = i * 2 + 1 + 2 by omega]
      exact this
theorem farV_set (far : List (Bool × Bool)) (i : Nat) (h : i < far.length) : (∀ b, (farV far).set (i * 2) (.bool b) = farV (far.set i (b, (farAt far i).2))) ∧ (∀ b, (farV far).set (i * 2 + 1) (.bool b) = farV (far.set i ((farAt far i).1, b))) := by
  induction far generalizing i with
  | nil => simp at h
  | cons p far ih =>
    have e : ∀ (p : Bool × Bool) (far : List (Bool × Bool)), farV (p :: far) = .bool p.1 :: .bool p.2 :: farV far := fun p far => by simp [farV]
    cases i with
    | zero => exact ⟨fun b => by simp [e, farAt], fun b => by simp [e, farAt]⟩
    | succ i =>
      have := ih i (by simpa using h)
      rw [show (i + 1) * 2 = i * 2 + 1 + 1 by omega, show i * 2 + 1 + 1 + 1 = i * 2 + 1 + 1 + 1 by omega]
      refine ⟨fun b => ?_, fun b => ?_⟩
      · simp only [e, List.set_cons_succ]; rw [this.1 b]; rfl
      · simp only [e, List.set_cons_succ]; rw [this.2 b]; rfl
theorem farV_rep (n : Nat) : (madeCells (Value.agg #[.bool false, .bool false]).cells (n * 2)).toList = farV (List.replicate n (false, false)) := by
  refine List.ext_getElem? fun j => ?_
  rcases Nat.lt_or_ge j (n * 2) with hj | hj
  · have h := farV_get (List.replicate n (false, false)) (j / 2) (by simp; omega)
    have e : farAt (List.replicate n (false, false)) (j / 2) = (false, false) := by unfold farAt; rw [List.getD_eq_getElem?_getD, List.getElem?_replicate]; split <;> rfl
    rw [e] at h
    have hz : (Value.agg #[.bool false, .bool false]).cells = #[Value.bool false, .bool false] := rfl
    have hl : (madeCells #[Value.bool false, .bool false] (n * 2)).toList[j]? = some (.bool false) := by
      simp only [madeCells, Array.toList_map, List.getElem?_map, Array.toList_range, List.getElem?_range hj, Option.map_some, Option.some.injEq]
      rcases Nat.mod_two_eq_zero_or_one j with e | e <;> · show (#[Value.bool false, Value.bool false] : Array Value)[j % 2]! = _; rw [e]; rfl
    rw [hz, hl]
    rcases Nat.mod_two_eq_zero_or_one j with e2 | e2
    · rw [show j = j / 2 * 2 by omega]; exact h.1.symm
    · rw [show j = j / 2 * 2 + 1 by omega]; exact h.2.symm
  · rw [List.getElem?_eq_none (by simp [madeCells]; omega), List.getElem?_eq_none (by rw [farV_length]; simp; omega)]
def natsL (l : List Nat) : List Int := l.map fun n : Nat => (n : Int)
theorem infoInt9 : (Try.prog.info? 3).map (fun i => (i.zero, i.size, i.bytes)) = some (some (.int .i64 0), 1, 8) := by kernel_rfl
/-- The places of nodes. -/
def placeL (q : List N8) (far : List (Bool × Bool)) (k : Nat) : List Nat := (List.range k).map (placeN q far)
theorem placeL_snoc (q : List N8) (far : List (Bool × Bool)) (k : Nat) : placeL q far (k + 1) = placeL q far k ++ [placeN q far k] := by unfold placeL; rw [List.range_succ, List.map_append]; rfl
theorem placeL_len (q : List N8) (far : List (Bool × Bool)) (k : Nat) : (placeL q far k).length = k := by simp [placeL]
theorem placeL_get (q : List N8) (far : List (Bool × Bool)) {i k : Nat} (h : i < k) : (placeL q far k)[i]? = some (placeN q far i) := by simp [placeL, h]
def PlacesPost (w : World) (q : List N8) (far : List (Bool × Bool)) (e : Ending) (w' : World) : Prop := ∃ g c, e = .returned (.slice (some ⟨g, 0, none⟩) (q.length + 1) c) ∧ w'.ownsRow w.heap.size 3 1 (.slice (some ⟨g, 0, none⟩) (q.length + 1) c) (q.length + 1) (numV .i64 (natsL (placeL q far (q.length + 1)))) ∧ Below w.heap.size w w'
end Go.Proofs.Ytkckaimefklenaa
