import Derived.Test.YtkckaimefklenaaBase
set_option linter.unusedVariables false
set_option linter.unusedSimpArgs false
namespace Go.Proofs.Ytkckaimefklenaa
open Go.RowKit
/-! The plain side of layer 4: instructions, codes, Check. -/
structure I4 where
  c : Int
  j : Int
  f : Int
  k : Int
deriving DecidableEq
def I4.ok (x : I4) : Prop := 0 ≤ x.c ∧ x.c < 65536 ∧ 0 ≤ x.j ∧ x.j < 256 ∧ 0 ≤ x.f ∧ x.f < 256 ∧ 0 ≤ x.k ∧ x.k < 4294967296
def I4.cells (x : I4) : List Value := [.int .u16 x.c, .int .u8 x.j, .int .u8 x.f, .int .u32 x.k]
def cellsI (q : List I4) : List Value := q.flatMap I4.cells
theorem cellsI_length (q : List I4) : (cellsI q).length = q.length * 4 := by
  induction q with
  | nil => rfl
  | cons x q ih => simp only [cellsI, List.flatMap_cons, List.length_append] at ih ⊢; rw [ih]; simp [I4.cells]; omega
theorem cellsI_get (q : List I4) (i : Nat) (x : I4) (h : q[i]? = some x) (m : Nat) (hm : m < 4) : (cellsI q)[i * 4 + m]? = x.cells[m]? := by
  induction q generalizing i with
  | nil => simp at h
  | cons y q ih =>
    have e : cellsI (y :: q) = y.cells ++ cellsI q := by simp [cellsI]
    rw [e]
    cases i with
    | zero => simp at h; subst h; rw [List.getElem?_append_left (by simp [I4.cells]; omega)]; simp
    | succ i =>
      simp at h
      rw [List.getElem?_append_right (by simp [I4.cells]; omega)]
      have := ih i h
      rw [← this]; congr 1; simp [I4.cells]; omega
theorem Reads.insn {w : World} {B n : Nat} {A : Option Addr} {q : List I4} (h : Reads w B 4 A n (cellsI q)) {i : Nat} {x : I4} (hx : q[i]? = some x) :
    ∃ b off, A = some ⟨b, off, none⟩ ∧ b < B ∧ w.cell? ⟨b, off + i * 4, none⟩ = some (.int .u16 x.c) ∧ w.cell? ⟨b, off + i * 4 + 1, none⟩ = some (.int .u8 x.j) ∧ w.cell? ⟨b, off + i * 4 + 2, none⟩ = some (.int .u8 x.f) ∧ w.cell? ⟨b, off + i * 4 + 3, none⟩ = some (.int .u32 x.k) := by
  have hl : q.length = n := by have := h.1; rw [cellsI_length] at this; omega
  have hi : i < q.length := (List.getElem?_eq_some_iff.1 hx).1
  obtain ⟨b, off, e, hb, hc⟩ := h.2 (by omega)
  have g := fun m hm => cellsI_get q i x hx m hm
  exact ⟨b, off, e, hb, hc (i * 4 + 0) _ (by rw [g 0 (by omega)]; rfl), hc (i * 4 + 1) _ (by rw [g 1 (by omega)]; rfl), hc (i * 4 + 2) _ (by rw [g 2 (by omega)]; rfl), hc (i * 4 + 3) _ (by rw [g 3 (by omega)]; rfl)⟩
theorem Reads.lenI {w : World} {B n : Nat} {A : Option Addr} {q : List I4} (h : Reads w B 4 A n (cellsI q)) : q.length = n := by have := h.1; rw [cellsI_length] at this; omega

/-- Seals, as the code reckons it. -/
def sealsP (c : Int) : Bool :=
  if bits .and .u16 c 7 == 4 then (decide (bits .andNot .u16 (bits .andNot .u16 c 7) 8 ≤ 112) && ((bits .andNot .u16 (bits .andNot .u16 c 7) 8).tmod 16 == 0)) || bits .andNot .u16 (bits .andNot .u16 c 7) 8 == 160 || c == 132
  else if bits .and .u16 c 7 == 5 then (decide (16 ≤ bits .andNot .u16 (bits .andNot .u16 c 7) 8) && decide (bits .andNot .u16 (bits .andNot .u16 c 7) 8 ≤ 64) && ((bits .andNot .u16 (bits .andNot .u16 c 7) 8) % 16 == 0)) || c == 5
  else if bits .and .u16 c 7 == 0 || bits .and .u16 c 7 == 1 then bits .andNot .u16 c 7 == 0 || bits .andNot .u16 c 7 == 96 || bits .andNot .u16 c 7 == 128 || c == 32
  else if bits .and .u16 c 7 == 2 || bits .and .u16 c 7 == 3 then bits .andNot .u16 c 7 == 0
  else if bits .and .u16 c 7 == 6 then bits .andNot .u16 c 7 == 0 || bits .andNot .u16 c 7 == 16
  else bits .andNot .u16 c 7 == 0 || bits .andNot .u16 c 7 == 128
def aluL : List Int := [0x04, 0x14, 0x24, 0x34, 0x44, 0x54, 0x64, 0x74, 0xa4, 0x0c, 0x1c, 0x2c, 0x3c, 0x4c, 0x5c, 0x6c, 0x7c, 0xac]
def jumpL : List Int := [0x15, 0x25, 0x35, 0x45, 0x1d, 0x2d, 0x3d, 0x4d]
def restL : List Int := [0x20, 0x80, 0x81, 0x00, 0x01, 0x60, 0x61, 0x02, 0x03, 0x84, 0x05, 0x06, 0x16, 0x07, 0x87]
def sealsL (c : Int) : Bool := aluL.contains c || jumpL.contains c || restL.contains c
def chk (f : Nat → Bool) : Nat → Bool | 0 => true | n + 1 => f n && chk f n
theorem chk_all (f : Nat → Bool) : ∀ n, chk f n = true → ∀ i, i < n → f i = true
  | 0, _, i, h => by omega
  | n + 1, h, i, hi => by
    simp only [chk, Bool.and_eq_true] at h
    rcases Nat.lt_succ_iff_lt_or_eq.1 hi with h' | rfl
    · exact chk_all f n h.2 i h'
    · exact h.1
theorem seals_small : chk (fun n => sealsP (n : Int) == sealsL (n : Int)) 256 = true := by decide +kernel
theorem sealsL_big (c : Int) (h : 256 ≤ c) : sealsL c = false := by
  simp only [sealsL, aluL, jumpL, restL, List.contains_cons, List.contains_nil, Bool.or_eq_false_iff, beq_eq_false_iff_ne]
  repeat' (first | (refine ⟨?_, ?_⟩) | omega | trivial)
theorem sealsP_big (c : Nat) (h : 256 ≤ c) (h1 : c < 65536) : sealsP c = false := by
  have a8 : (c - c % 8) &&& 8 ≤ 8 := Nat.and_le_right
  unfold sealsP
  rw [and7 c h1, not7 c h1, not8 (c - c % 8) (by omega)]
  have e : ∀ (x : Nat) (y : Int), 200 ≤ x → y < 200 → ((x : Int) == y) = false := fun x y hx hy => by rw [beq_eq_false_iff_ne]; omega
  have e2 : ∀ (x : Nat) (y : Int), 200 ≤ x → y < 200 → decide ((x : Int) ≤ y) = false := fun x y hx hy => by rw [decide_eq_false_iff_not]; omega
  simp only [e _ _ (show 200 ≤ c - c % 8 - (c - c % 8 &&& 8) by omega) (show (160 : Int) < 200 by omega), e2 _ _ (show 200 ≤ c - c % 8 - (c - c % 8 &&& 8) by omega) (show (112 : Int) < 200 by omega), e2 _ _ (show 200 ≤ c - c % 8 - (c - c % 8 &&& 8) by omega) (show (64 : Int) < 200 by omega),
    e _ _ (show 200 ≤ c - c % 8 by omega) (show (0 : Int) < 200 by omega), e _ _ (show 200 ≤ c - c % 8 by omega) (show (96 : Int) < 200 by omega), e _ _ (show 200 ≤ c - c % 8 by omega) (show (128 : Int) < 200 by omega), e _ _ (show 200 ≤ c - c % 8 by omega) (show (16 : Int) < 200 by omega),
    e c _ (by omega) (show (132 : Int) < 200 by omega), e c _ (by omega) (show (5 : Int) < 200 by omega), e c _ (by omega) (show (32 : Int) < 200 by omega), Bool.false_and, Bool.and_false, Bool.or_false]
  split <;> (try split) <;> (try split) <;> (try split) <;> (try split) <;> rfl
theorem sealsP_eq (c : Int) (h0 : 0 ≤ c) (h1 : c < 65536) : sealsP c = sealsL c := by
  obtain ⟨n, rfl⟩ := Int.eq_ofNat_of_zero_le h0
  by_cases h : n < 256
  · have := chk_all _ _ seals_small n h
    simpa using this
  · rw [sealsP_big n (by omega) (by omega), sealsL_big _ (by omega)]
end Go.Proofs.Ytkckaimefklenaa
