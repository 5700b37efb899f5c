import Derived.Test.YtebkbcpnjknkjaaBase
set_option linter.unusedVariables false
set_option linter.unusedSimpArgs false
namespace Go.Proofs.Ytebkbcpnjknkjaa
open Go.RowKit
/-! The plain side of ravelinref05 (tokens), for texts without remarks. -/
def bt (s : ByteArray) (i : Nat) : Int := if h : i < s.size then ((s[i]'h).toNat : Int) else 0
theorem bt_range (s : ByteArray) (i : Nat) : 0 ≤ bt s i ∧ bt s i < 256 := by
  unfold bt
  split
  · rename_i h
    have := (s[i]'h).toNat_lt
    omega
  · omega
def letterB (c : Int) : Bool := (decide (97 ≤ c) && decide (c ≤ 122)) || (decide (65 ≤ c) && decide (c ≤ 90)) || c == 95
def digitB (c : Int) : Bool := decide (48 ≤ c) && decide (c ≤ 57)
def blankB (c : Int) : Bool := c == 9 || c == 10 || c == 13 || c == 32
def skipP (s : ByteArray) : Nat → Nat → Nat
  | 0, a => a
  | f + 1, a => if a < s.size ∧ blankB (bt s a) = true then skipP s f (a + 1) else a
def runP5 (s : ByteArray) : Nat → Nat → Nat
  | 0, a => a
  | f + 1, a => if a < s.size ∧ (letterB (bt s a) || digitB (bt s a)) = true then runP5 s f (a + 1) else a
theorem run_index_bt {t : TypeId} (ht : Try.prog.underlying t = some .string) (s : ByteArray) (i : Nat) (hi : i < s.size) (w : World) : (Instr.index t (.string s) (.int .i64 i)).run Try.prog w = .ok (.int .u8 (bt s i)) w := by
  rw [run_index_string (P := Try.prog) w t s .i64 i ht]
  rw [dif_pos ⟨by omega, by omega⟩]
  unfold bt
  rw [dif_pos hi]
  simp
theorem skipP_le (s : ByteArray) : ∀ f a, a ≤ s.size → skipP s f a ≤ s.size ∧ a ≤ skipP s f a := by
  intro f
  induction f with
  | zero => intro a h; exact ⟨h, Nat.le_refl _⟩
  | succ f ih =>
    intro a h
    rw [skipP]
    split
    · rename_i h2
      have := ih (a + 1) (by omega)
      omega
    · omega
theorem runP5_le (s : ByteArray) : ∀ f a, a ≤ s.size → runP5 s f a ≤ s.size ∧ a ≤ runP5 s f a := by
  intro f
  induction f with
  | zero => intro a h; exact ⟨h, Nat.le_refl _⟩
  | succ f ih =>
    intro a h
    rw [runP5]
    split
    · rename_i h2
      have := ih (a + 1) (by omega)
      omega
    · omega
def twoB (s : ByteArray) (a : Nat) : Bool := decide (a + 1 < s.size) && bt s (a + 1) == 61
def signP (s : ByteArray) (a : Nat) : Nat :=
  let c := bt s a
  if (c == 59 || c == 44 || c == 40 || c == 41 || c == 38) = true then 1
  else if (c == 60 || c == 62) = true then (if twoB s a = true then 2 else 1)
  else if (c == 61 || c == 33) = true then (if twoB s a = true then 2 else 0) else 0
def hexP (s : ByteArray) : Nat → Nat → Int → Int × Bool
  | 0, _, n => (n, true)
  | f + 1, i, n => if i < s.size then (if digitB (bt s i) = true then hexP s f (i + 1) ((16 * n + (bt s i - 48)) % 18446744073709551616)
      else if (decide (97 ≤ bt s i) && decide (bt s i ≤ 102)) = true then hexP s f (i + 1) ((16 * n + (bt s i - 97) + 10) % 18446744073709551616) else (0, false)) else (n, true)
def decP (s : ByteArray) : Nat → Nat → Int → Int × Bool
  | 0, _, n => (n, true)
  | f + 1, i, n => if i < s.size then (if digitB (bt s i) = false then (0, false)
      else if (decide (1844674407370955161 < n) || (n == 1844674407370955161 && decide (5 < bt s i - 48))) = true then (0, false) else decP s f (i + 1) (10 * n + (bt s i - 48))) else (n, true)
def numberP (s : ByteArray) : Int × Bool :=
  if (decide (2 ≤ s.size) && bt s 0 == 48 && bt s 1 == 120) = true then (if s.size < 3 ∨ 18 < s.size then (0, false) else hexP s s.size 2 0)
  else if s.size < 1 ∨ 20 < s.size ∨ (bt s 0 = 48 ∧ 1 < s.size) then (0, false) else decP s s.size 0 0
end Go.Proofs.Ytebkbcpnjknkjaa
