import Derived.Test.YtebkbcpnjknkjaaPolP
set_option linter.unusedVariables false
set_option linter.unusedSimpArgs false
set_option maxRecDepth 100000
namespace Go.Proofs.Ytebkbcpnjknkjaa
open Go.RowKit
/-! Chapter 07, plainly: architectures, names, actions, which expressions, rules and policies may be, what they say. -/
def archP (s : List UInt8) : Int × Bool :=
  if s = [120, 56, 54, 95, 54, 52] then (3221225534, true) else if s = [114, 105, 115, 99, 118, 54, 52] then (3221225715, true) else if s = [97, 97, 114, 99, 104, 54, 52] then (3221225655, true) else (0, false)
structure Nm where
  (name : ByteArray)
  (nr : Int)
def Nm.cells (x : Nm) : List Value := [.string x.name, .int .u32 x.nr]
def cellsN (l : List Nm) : List Value := l.flatMap Nm.cells
theorem cellsN_length (l : List Nm) : (cellsN l).length = l.length * 2 := by
  induction l with
  | nil => rfl
  | cons x l ih => simp only [cellsN, List.flatMap_cons, List.length_append, List.length_cons] at ih ⊢; rw [ih]; simp [Nm.cells]; omega
theorem cellsN_get (l : List Nm) (i : Nat) (x : Nm) (hx : l[i]? = some x) (k : Nat) (hk : k < 2) : (cellsN l)[i * 2 + k]? = x.cells[k]? := by
  induction l generalizing i with
  | nil => simp at hx
  | cons y l ih =>
    cases i with
    | zero => simp only [List.getElem?_cons_zero, Option.some.injEq] at hx; subst hx; simp only [cellsN, List.flatMap_cons]; rw [List.getElem?_append_left (by simp [Nm.cells]; omega)]; simp
    | succ i =>
      rw [List.getElem?_cons_succ] at hx
      have e : (i + 1) * 2 + k = y.cells.length + (i * 2 + k) := by simp [Nm.cells]; omega
      simp only [cellsN, List.flatMap_cons] at ih ⊢
      rw [e, List.getElem?_append_right (by omega), Nat.add_sub_cancel_left]
      exact ih i hx
theorem Reads.nm {w : World} {B n : Nat} {A : Option Addr} {l : List Nm} (h : Reads w B 2 A n (cellsN l)) {i : Nat} {x : Nm} (hx : l[i]? = some x) :
    ∃ b off, A = some ⟨b, off, none⟩ ∧ b < B ∧ w.cell? ⟨b, off + i * 2, none⟩ = some (.string x.name) ∧ w.cell? ⟨b, off + i * 2 + 1, none⟩ = some (.int .u32 x.nr) := by
  have hl : l.length = n := by have := h.1; rw [cellsN_length] at this; omega
  have hi : i < l.length := (List.getElem?_eq_some_iff.1 hx).1
  obtain ⟨b, off, e, hb, hc⟩ := h.2 (by omega)
  exact ⟨b, off, e, hb, hc (i * 2 + 0) _ (by rw [cellsN_get l i x hx 0 (by omega)]; rfl), hc (i * 2 + 1) _ (by rw [cellsN_get l i x hx 1 (by omega)]; rfl)⟩
def tabX : List Nm := [⟨⟨#[114, 101, 97, 100]⟩, 0⟩, ⟨⟨#[119, 114, 105, 116, 101]⟩, 1⟩, ⟨⟨#[111, 112, 101, 110]⟩, 2⟩, ⟨⟨#[99, 108, 111, 115, 101]⟩, 3⟩, ⟨⟨#[115, 116, 97, 116]⟩, 4⟩, ⟨⟨#[109, 109, 97, 112]⟩, 9⟩, ⟨⟨#[109, 112, 114, 111, 116, 101, 99, 116]⟩, 10⟩, ⟨⟨#[98, 114, 107]⟩, 12⟩, ⟨⟨#[105, 111, 99, 116, 108]⟩, 16⟩, ⟨⟨#[103, 101, 116, 112, 105, 100]⟩, 39⟩, ⟨⟨#[115, 111, 99, 107, 101, 116]⟩, 41⟩, ⟨⟨#[99, 111, 110, 110, 101, 99, 116]⟩, 42⟩, ⟨⟨#[99, 108, 111, 110, 101]⟩, 56⟩, ⟨⟨#[102, 111, 114, 107]⟩, 57⟩, ⟨⟨#[101, 120, 101, 99, 118, 101]⟩, 59⟩, ⟨⟨#[101, 120, 105, 116]⟩, 60⟩, ⟨⟨#[107, 105, 108, 108]⟩, 62⟩, ⟨⟨#[112, 116, 114, 97, 99, 101]⟩, 101⟩, ⟨⟨#[112, 114, 99, 116, 108]⟩, 157⟩, ⟨⟨#[101, 120, 105, 116, 95, 103, 114, 111, 117, 112]⟩, 231⟩, ⟨⟨#[111, 112, 101, 110, 97, 116]⟩, 257⟩, ⟨⟨#[115, 101, 99, 99, 111, 109, 112]⟩, 317⟩, ⟨⟨#[103, 101, 116, 114, 97, 110, 100, 111, 109]⟩, 318⟩, ⟨⟨#[98, 112, 102]⟩, 321⟩]
def tabR : List Nm := [⟨⟨#[105, 111, 99, 116, 108]⟩, 29⟩, ⟨⟨#[111, 112, 101, 110, 97, 116]⟩, 56⟩, ⟨⟨#[99, 108, 111, 115, 101]⟩, 57⟩, ⟨⟨#[114, 101, 97, 100]⟩, 63⟩, ⟨⟨#[119, 114, 105, 116, 101]⟩, 64⟩, ⟨⟨#[101, 120, 105, 116]⟩, 93⟩, ⟨⟨#[101, 120, 105, 116, 95, 103, 114, 111, 117, 112]⟩, 94⟩, ⟨⟨#[112, 116, 114, 97, 99, 101]⟩, 117⟩, ⟨⟨#[107, 105, 108, 108]⟩, 129⟩, ⟨⟨#[112, 114, 99, 116, 108]⟩, 167⟩, ⟨⟨#[103, 101, 116, 112, 105, 100]⟩, 172⟩, ⟨⟨#[115, 111, 99, 107, 101, 116]⟩, 198⟩, ⟨⟨#[99, 111, 110, 110, 101, 99, 116]⟩, 203⟩, ⟨⟨#[98, 114, 107]⟩, 214⟩, ⟨⟨#[99, 108, 111, 110, 101]⟩, 220⟩, ⟨⟨#[101, 120, 101, 99, 118, 101]⟩, 221⟩, ⟨⟨#[109, 109, 97, 112]⟩, 222⟩, ⟨⟨#[109, 112, 114, 111, 116, 101, 99, 116]⟩, 226⟩, ⟨⟨#[115, 101, 99, 99, 111, 109, 112]⟩, 277⟩, ⟨⟨#[103, 101, 116, 114, 97, 110, 100, 111, 109]⟩, 278⟩, ⟨⟨#[98, 112, 102]⟩, 280⟩]
def tableP (s : List UInt8) : List Nm := if s = [120, 56, 54, 95, 54, 52] then tabX else if s = [114, 105, 115, 99, 118, 54, 52] ∨ s = [97, 97, 114, 99, 104, 54, 52] then tabR else []
theorem tableP_len (s : List UInt8) : (tableP s).length ≤ 24 := by unfold tableP; split <;> (try split) <;> decide
def numIn : List Nm → ByteArray → Int × Bool
  | [], _ => (0, false)
  | x :: l, s => if x.name = s then (x.nr, true) else numIn l s
def numP (arch name : ByteArray) : Int × Bool := numIn (tableP arch.data.toList) name
def namesP (arch : ByteArray) : List ByteArray := (tableP arch.data.toList).map Nm.name
def actionP (k d : Int) : Int × Bool :=
  if k = 1 then (if d = 0 then (2147483648, true) else (0, false)) else if k = 2 then (if d = 0 then (0, true) else (0, false))
  else if k = 3 then (if d ≤ 65535 then (196608 + d, true) else (0, false)) else if k = 4 then (if d ≤ 4095 then (327680 + d, true) else (0, false))
  else if k = 5 then (if d = 0 then (2143289344, true) else (0, false)) else if k = 6 then (if d ≤ 65535 then (2146435072 + d, true) else (0, false))
  else if k = 7 then (if d = 0 then (2147221504, true) else (0, false)) else if k = 8 then (if d = 0 then (2147418112, true) else (0, false)) else (0, false)
end Go.Proofs.Ytebkbcpnjknkjaa
