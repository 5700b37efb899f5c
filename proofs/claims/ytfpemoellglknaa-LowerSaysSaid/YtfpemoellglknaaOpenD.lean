import Derived.Test.YtfpemoellglknaaOpenN
import Derived.Test.YtfpemoellglknaaDecR
set_option linter.unusedVariables false
set_option linter.unusedSimpArgs false
namespace Go.Proofs.Ytfpemoellglknaa
open Go.RowKit Go.ChangeShapes Go.WideShapes Go.Deep
/-! Data as arguments. -/
theorem list9 (l : List Value) (h : l.length = 9) : ∃ a b c d e f g k m, l = [a, b, c, d, e, f, g, k, m] := by
  match l, h with
  | [a, b, c, d, e, f, g, k, m], _ => exact ⟨a, b, c, d, e, f, g, k, m, rfl⟩
theorem data_cells {H : Type} {enc : TypeId × Value → H} {w : World} {base : Nat} {spare : Nat → Bool} {held : Bool} (n : Nat) (cs : List Value) (y : DataW H × List MemPlace) (h : DataW.trod enc Try.prog w base spare held n 44 cs = some y) : ∃ x : D9, cs = x.cells ∧ x.ok := by
  obtain ⟨ys, n', hn', hy, hlen, hyl, hf⟩ := DataW.trod_struct Try.underlying44 h
  have hl : cs.length = 9 := hlen.trans (by kernel_rfl)
  obtain ⟨a, b, c, v0, v1, v2, v3, v4, v5, rfl⟩ := list9 cs hl
  obtain ⟨z0, hz0⟩ : ∃ z, ys[0]? = some z := ⟨_, List.getElem?_eq_getElem (by rw [hyl]; decide)⟩
  obtain ⟨z1, hz1⟩ : ∃ z, ys[1]? = some z := ⟨_, List.getElem?_eq_getElem (by rw [hyl]; decide)⟩
  obtain ⟨z2, hz2⟩ : ∃ z, ys[2]? = some z := ⟨_, List.getElem?_eq_getElem (by rw [hyl]; decide)⟩
  obtain ⟨z3, hz3⟩ : ∃ z, ys[3]? = some z := ⟨_, List.getElem?_eq_getElem (by rw [hyl]; decide)⟩
  have g0 := (hf 0 _ rfl).trans hz0
  have g1 := (hf 1 _ rfl).trans hz1
  have g2 := (hf 2 _ rfl).trans hz2
  have g3 := (hf 3 _ rfl).trans hz3
  have c32 : Try.prog.cellsOf 38 = 1 := by kernel_rfl
  have c64 : Try.prog.cellsOf 41 = 1 := by kernel_rfl
  have c6 : Try.prog.cellsOf 42 = 6 := by kernel_rfl
  simp [c32, c64, c6] at g0 g1 g2 g3
  obtain ⟨k0, e0, _, w0⟩ := DataW.trod_int Try.underlying38 g0
  obtain ⟨k1, e1, _, w1⟩ := DataW.trod_int Try.underlying38 g1
  obtain ⟨k2, e2, _, w2⟩ := DataW.trod_int Try.underlying41 g2
  simp at e0 e1 e2
  obtain ⟨xs, m, _, _, _, hx6, hfa⟩ := DataW.trod_array Try.underlying42 g3
  obtain ⟨x0, hx0⟩ : ∃ z, xs[0]? = some z := ⟨_, List.getElem?_eq_getElem (by rw [hx6]; decide)⟩
  have m0 := (hfa 0 (by decide)).trans hx0
  simp [c64] at m0
  obtain ⟨q0, s0, _, t0⟩ := DataW.trod_int Try.underlying41 m0
  simp at s0
  obtain ⟨x1, hx1⟩ : ∃ z, xs[1]? = some z := ⟨_, List.getElem?_eq_getElem (by rw [hx6]; decide)⟩
  have m1 := (hfa 1 (by decide)).trans hx1
  simp [c64] at m1
  obtain ⟨q1, s1, _, t1⟩ := DataW.trod_int Try.underlying41 m1
  simp at s1
  obtain ⟨x2, hx2⟩ : ∃ z, xs[2]? = some z := ⟨_, List.getElem?_eq_getElem (by rw [hx6]; decide)⟩
  have m2 := (hfa 2 (by decide)).trans hx2
  simp [c64] at m2
  obtain ⟨q2, s2, _, t2⟩ := DataW.trod_int Try.underlying41 m2
  simp at s2
  obtain ⟨x3, hx3⟩ : ∃ z, xs[3]? = some z := ⟨_, List.getElem?_eq_getElem (by rw [hx6]; decide)⟩
  have m3 := (hfa 3 (by decide)).trans hx3
  simp [c64] at m3
  obtain ⟨q3, s3, _, t3⟩ := DataW.trod_int Try.underlying41 m3
  simp at s3
  obtain ⟨x4, hx4⟩ : ∃ z, xs[4]? = some z := ⟨_, List.getElem?_eq_getElem (by rw [hx6]; decide)⟩
  have m4 := (hfa 4 (by decide)).trans hx4
  simp [c64] at m4
  obtain ⟨q4, s4, _, t4⟩ := DataW.trod_int Try.underlying41 m4
  simp at s4
  obtain ⟨x5, hx5⟩ : ∃ z, xs[5]? = some z := ⟨_, List.getElem?_eq_getElem (by rw [hx6]; decide)⟩
  have m5 := (hfa 5 (by decide)).trans hx5
  simp [c64] at m5
  obtain ⟨q5, s5, _, t5⟩ := DataW.trod_int Try.underlying41 m5
  simp at s5
  subst e0 e1 e2 s0 s1 s2 s3 s4 s5
  have := wf_u32 w0; have := wf_u32 w1; have := wf_u64 w2; have := wf_u64 t0; have := wf_u64 t1; have := wf_u64 t2; have := wf_u64 t3; have := wf_u64 t4; have := wf_u64 t5
  exact ⟨⟨k0, k1, k2, q0, q1, q2, q3, q4, q5⟩, rfl, by simp only [D9.ok, in32, in64u]; omega⟩
def cellsD (ds : List D9) : List Value := ds.flatMap D9.cells
theorem cellsD_length (q : List D9) : (cellsD q).length = q.length * 9 := by
  induction q with
  | nil => rfl
  | cons x q ih => simp only [cellsD, List.flatMap_cons, List.length_append] at ih ⊢; rw [ih]; simp [D9.cells]; omega
theorem cellsD_get (q : List D9) (i : Nat) (x : D9) (h : q[i]? = some x) (m : Nat) (hm : m < 9) : (cellsD q)[i * 9 + m]? = x.cells[m]? := by
  induction q generalizing i with
  | nil => simp at h
  | cons y q ih =>
    have e : cellsD (y :: q) = y.cells ++ cellsD q := by simp [cellsD]
    rw [e]
    cases i with
    | zero => simp at h; subst h; rw [List.getElem?_append_left (by simp [D9.cells]; omega)]; simp
    | succ i =>
      simp at h
      rw [List.getElem?_append_right (by simp [D9.cells]; omega)]
      have := ih i h
      rw [← this]; congr 1; simp [D9.cells]; omega
theorem Reads.datum {w : World} {B n : Nat} {A : Option Addr} {q : List D9} (h : Reads w B 9 A n (cellsD q)) {i : Nat} {x : D9} (hx : q[i]? = some x) :
    ∃ b off, A = some ⟨b, off, none⟩ ∧ b < B ∧ w.cell? ⟨b, off + i * 9, none⟩ = some (.int .u32 x.nr) ∧ w.cell? ⟨b, off + i * 9 + 1, none⟩ = some (.int .u32 x.arch) ∧ w.cell? ⟨b, off + i * 9 + 2, none⟩ = some (.int .u64 x.ip) ∧ w.cell? ⟨b, off + i * 9 + 3, none⟩ = some (.int .u64 x.a0) ∧ w.cell? ⟨b, off + i * 9 + 4, none⟩ = some (.int .u64 x.a1) ∧ w.cell? ⟨b, off + i * 9 + 5, none⟩ = some (.int .u64 x.a2) ∧ w.cell? ⟨b, off + i * 9 + 6, none⟩ = some (.int .u64 x.a3) ∧ w.cell? ⟨b, off + i * 9 + 7, none⟩ = some (.int .u64 x.a4) ∧ w.cell? ⟨b, off + i * 9 + 8, none⟩ = some (.int .u64 x.a5) := by
  have hi := (List.getElem?_eq_some_iff.1 hx).1
  have hl : q.length = n := by have := h.1; rw [cellsD_length] at this; omega
  obtain ⟨b, off, e, hb, hc⟩ := h.2 (by omega)
  have g := fun m hm => cellsD_get q i x hx m hm
  exact ⟨b, off, e, hb, hc (i * 9 + 0) _ (by rw [g 0 (by omega)]; rfl), hc (i * 9 + 1) _ (by rw [g 1 (by omega)]; rfl), hc (i * 9 + 2) _ (by rw [g 2 (by omega)]; rfl), hc (i * 9 + 3) _ (by rw [g 3 (by omega)]; rfl), hc (i * 9 + 4) _ (by rw [g 4 (by omega)]; rfl), hc (i * 9 + 5) _ (by rw [g 5 (by omega)]; rfl), hc (i * 9 + 6) _ (by rw [g 6 (by omega)]; rfl), hc (i * 9 + 7) _ (by rw [g 7 (by omega)]; rfl), hc (i * 9 + 8) _ (by rw [g 8 (by omega)]; rfl)⟩
end Go.Proofs.Ytfpemoellglknaa
