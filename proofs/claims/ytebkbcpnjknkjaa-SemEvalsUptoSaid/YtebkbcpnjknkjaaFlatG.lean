import Derived.Test.YtebkbcpnjknkjaaBase
import Derived.Test.YtebkbcpnjknkjaaD9P
set_option linter.unusedVariables false
set_option linter.unusedSimpArgs false
namespace Go.Proofs.Ytebkbcpnjknkjaa
open Go.RowKit
/-! Rows of rows of one length each; data in a row. -/
theorem flat_length {α : Type} (cells : α → List Value) (size : Nat) (hl : ∀ x, (cells x).length = size) (l : List α) : (l.flatMap cells).length = l.length * size := by
  induction l with
  | nil => simp
  | cons x l ih => simp only [List.flatMap_cons, List.length_append, List.length_cons, ih, hl]; rw [Nat.add_mul]; omega
theorem flat_get {α : Type} (cells : α → List Value) (size : Nat) (hl : ∀ x, (cells x).length = size) (l : List α) (i : Nat) (x : α) (hx : l[i]? = some x) (k : Nat) (hk : k < size) : (l.flatMap cells)[i * size + k]? = (cells x)[k]? := by
  induction l generalizing i with
  | nil => simp at hx
  | cons y l ih =>
    simp only [List.flatMap_cons]
    cases i with
    | zero => simp only [List.getElem?_cons_zero, Option.some.injEq] at hx; subst hx; rw [List.getElem?_append_left (by rw [hl]; omega)]; simp
    | succ i =>
      rw [List.getElem?_cons_succ] at hx
      have e : (i + 1) * size + k = (cells y).length + (i * size + k) := by rw [hl, Nat.add_mul]; omega
      rw [e, List.getElem?_append_right (by omega), Nat.add_sub_cancel_left]
      exact ih i hx
theorem Reads.dat {w : World} {B n : Nat} {A : Option Addr} {l : List D9} (h : Reads w B 9 A n (l.flatMap D9.cells)) {i : Nat} {x : D9} (hx : l[i]? = some x) :
    ∃ b off, A = some ⟨b, off, none⟩ ∧ b < B ∧ w.cell? ⟨b, off + i * 9, none⟩ = some (.int .u32 x.nr) ∧ w.cell? ⟨b, off + i * 9 + 1, none⟩ = some (.int .u32 x.arch) ∧ w.cell? ⟨b, off + i * 9 + 2, none⟩ = some (.int .u64 x.ip) ∧
      w.cell? ⟨b, off + i * 9 + 3, none⟩ = some (.int .u64 x.a0) ∧ w.cell? ⟨b, off + i * 9 + 4, none⟩ = some (.int .u64 x.a1) ∧ w.cell? ⟨b, off + i * 9 + 5, none⟩ = some (.int .u64 x.a2) ∧ w.cell? ⟨b, off + i * 9 + 6, none⟩ = some (.int .u64 x.a3) ∧ w.cell? ⟨b, off + i * 9 + 7, none⟩ = some (.int .u64 x.a4) ∧ w.cell? ⟨b, off + i * 9 + 8, none⟩ = some (.int .u64 x.a5) := by
  have hl : l.length = n := by have := h.1; rw [flat_length _ 9 (fun _ => rfl)] at this; omega
  have hi : i < l.length := (List.getElem?_eq_some_iff.1 hx).1
  obtain ⟨b, off, e, hb, hc⟩ := h.2 (by omega)
  have g := fun m hm => flat_get D9.cells 9 (fun _ => rfl) l i x hx m hm
  exact ⟨b, off, e, hb, hc (i * 9 + 0) _ (by rw [g 0 (by omega)]; rfl), hc (i * 9 + 1) _ (by rw [g 1 (by omega)]; rfl), hc (i * 9 + 2) _ (by rw [g 2 (by omega)]; rfl), hc (i * 9 + 3) _ (by rw [g 3 (by omega)]; rfl), hc (i * 9 + 4) _ (by rw [g 4 (by omega)]; rfl), hc (i * 9 + 5) _ (by rw [g 5 (by omega)]; rfl), hc (i * 9 + 6) _ (by rw [g 6 (by omega)]; rfl), hc (i * 9 + 7) _ (by rw [g 7 (by omega)]; rfl), hc (i * 9 + 8) _ (by rw [g 8 (by omega)]; rfl)⟩
end Go.Proofs.Ytebkbcpnjknkjaa
