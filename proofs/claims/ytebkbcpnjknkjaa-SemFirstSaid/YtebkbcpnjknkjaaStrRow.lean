import Derived.Test.YtebkbcpnjknkjaaSemWL
set_option linter.unusedVariables false
set_option linter.unusedSimpArgs false
namespace Go.Proofs.Ytebkbcpnjknkjaa
open Go.RowKit
/-! Rows of strings, of verdicts. -/
def strC (x : ByteArray) : List Value := [.string x]
def verC (x : Int × Int) : List Value := [.int .i64 x.1, .int .u64 x.2]
def verOk (x : Int × Int) : Prop := 0 ≤ x.2 ∧ x.2 < 18446744073709551616
theorem strsV_flat (l : List ByteArray) : strsV l = l.flatMap strC := by
  induction l with
  | nil => rfl
  | cons x l ih => simp only [strsV, List.map_cons, List.flatMap_cons, strC] at ih ⊢; rw [ih]; rfl
theorem verC_length (l : List (Int × Int)) : (l.flatMap verC).length = l.length * 2 := by
  induction l with
  | nil => rfl
  | cons x l ih => simp only [List.flatMap_cons, List.length_append, List.length_cons] at ih ⊢; rw [ih]; simp [verC]; omega
theorem verC_get (l : List (Int × Int)) (i : Nat) (x : Int × Int) (hx : l[i]? = some x) (k : Nat) (hk : k < 2) : (l.flatMap verC)[i * 2 + k]? = (verC x)[k]? := by
  induction l generalizing i with
  | nil => simp at hx
  | cons y l ih =>
    cases i with
    | zero => simp only [List.getElem?_cons_zero, Option.some.injEq] at hx; subst hx; simp only [List.flatMap_cons]; rw [List.getElem?_append_left (by simp [verC]; omega)]; simp
    | succ i =>
      rw [List.getElem?_cons_succ] at hx
      have e : (i + 1) * 2 + k = (verC y).length + (i * 2 + k) := by simp [verC]; omega
      simp only [List.flatMap_cons] at ih ⊢
      rw [e, List.getElem?_append_right (by omega), Nat.add_sub_cancel_left]
      exact ih i hx
theorem Reads.str {w : World} {B n : Nat} {A : Option Addr} {l : List ByteArray} (h : Reads w B 1 A n (strsV l)) {i : Nat} {x : ByteArray} (hx : l[i]? = some x) :
    ∃ b off, A = some ⟨b, off, none⟩ ∧ b < B ∧ w.cell? ⟨b, off + i, none⟩ = some (.string x) := by
  have hl : l.length = n := by have := h.1; simp [strsV] at this; exact this
  have hi : i < l.length := (List.getElem?_eq_some_iff.1 hx).1
  obtain ⟨b, off, e, hb, hc⟩ := h.2 (by omega)
  exact ⟨b, off, e, hb, hc i _ (by simp [strsV, hx])⟩
theorem Reads.ver {w : World} {B n : Nat} {A : Option Addr} {l : List (Int × Int)} (h : Reads w B 2 A n (l.flatMap verC)) {i : Nat} {x : Int × Int} (hx : l[i]? = some x) :
    ∃ b off, A = some ⟨b, off, none⟩ ∧ b < B ∧ w.cell? ⟨b, off + i * 2, none⟩ = some (.int .i64 x.1) ∧ w.cell? ⟨b, off + i * 2 + 1, none⟩ = some (.int .u64 x.2) := by
  have hl : l.length = n := by have := h.1; rw [verC_length] at this; omega
  have hi : i < l.length := (List.getElem?_eq_some_iff.1 hx).1
  obtain ⟨b, off, e, hb, hc⟩ := h.2 (by omega)
  exact ⟨b, off, e, hb, hc (i * 2 + 0) _ (by rw [verC_get l i x hx 0 (by omega)]; rfl), hc (i * 2 + 1) _ (by rw [verC_get l i x hx 1 (by omega)]; rfl)⟩
theorem NamesPost.slice {l : List ByteArray} {w w' : World} {e : Ending} (h : NamesPost l w e w') : ∃ A c, e = .returned (.slice A l.length c) ∧ Reads w' w'.heap.size 1 A l.length (strsV l) ∧ Below w.heap.size w w' := by
  obtain ⟨v, h1, h2, h3⟩ := h
  rcases h2.2 with ⟨e1, e2⟩ | ⟨g, cap, cur, e1, _⟩
  · have e3 : l = [] := by cases l with | nil => rfl | cons x l => simp [strsV] at e2
    subst e3
    exact ⟨none, 0, by rw [h1, e1]; rfl, Reads.none_, h3⟩
  · exact ⟨_, _, by rw [h1, e1], Reads.of_own (by rw [e1] at h2; exact h2), h3⟩
theorem namesP_len (a : ByteArray) : (namesP a).length ≤ 24 := by unfold namesP; rw [List.length_map]; exact tableP_len _
end Go.Proofs.Ytebkbcpnjknkjaa
