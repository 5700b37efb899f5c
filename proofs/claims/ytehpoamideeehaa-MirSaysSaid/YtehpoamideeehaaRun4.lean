import Derived.Test.YtehpoamideeehaaBase
set_option linter.unusedVariables false
set_option linter.unusedSimpArgs false
namespace Go.Proofs.Ytehpoamideeehaa
open Go.RowKit
/-! Two words: what operations and questions make of them. -/
def u32ok (x : Int) : Prop := 0 ≤ x ∧ x < 4294967296
def sumP (o a b : Int) : Int :=
  if o = 4 then (a + b) % 4294967296 else if o = 5 then (a - b) % 4294967296 else if o = 6 then (a * b) % 4294967296 else if o = 7 then a / b else if o = 8 then bits .and .u32 a b
  else if o = 9 then bits .or .u32 a b else if o = 10 then bits .xor .u32 a b else if o = 11 then (a * 2 ^ (b % 32).toNat) % 4294967296 else a / 2 ^ (b % 32).toNat
def saysP (o a b : Int) : Bool := if o = 15 then a == b else if o = 16 then decide (b < a) else if o = 17 then decide (b ≤ a) else bits .and .u32 a b != 0
theorem and31 (b : Int) (h0 : 0 ≤ b) (h1 : b < 4294967296) : bits .and .u32 b 31 = b % 32 := bits_mask .u32 32 (by decide) (fun n h h' => by rw [IntKind.wrap_u32]; omega) 5 (by decide) b h0 h1
theorem bits_u32 (op : BinOp) (a b : Int) : 0 ≤ bits op .u32 a b ∧ bits op .u32 a b < 4294967296 := by
  unfold bits; simp only [IntKind.wrap_u32]; omega
theorem sumP_ok {o a b : Int} (ha : u32ok a) (hb : u32ok b) : u32ok (sumP o a b) := by
  obtain ⟨a0, a1⟩ := ha
  obtain ⟨b0, b1⟩ := hb
  have d : ∀ c : Int, 0 ≤ c → 0 ≤ a / c ∧ a / c < 4294967296 := fun c hc => ⟨Int.ediv_nonneg a0 hc, Int.lt_of_le_of_lt (Int.ediv_le_self c a0) a1⟩
  unfold sumP u32ok
  split
  · omega
  split
  · omega
  split
  · exact ⟨Int.emod_nonneg _ (by decide), Int.emod_lt_of_pos _ (by decide)⟩
  split
  · exact d b b0
  split
  · exact bits_u32 _ _ _
  split
  · exact bits_u32 _ _ _
  split
  · exact bits_u32 _ _ _
  split
  · exact ⟨Int.emod_nonneg _ (by decide), Int.emod_lt_of_pos _ (by decide)⟩
  · exact d _ (Int.pow_nonneg (by decide))
end Go.Proofs.Ytehpoamideeehaa
set_option linter.unusedVariables false
set_option linter.unusedSimpArgs false
namespace Go.Proofs.Ytehpoamideeehaa
open Go.RowKit
/-! Four results; words in a list. -/
def getN (r : List Int) (i : Nat) : Int := r.getD i 0
abbrev Res4 := Int × Int × Int × Int
theorem getN_ok {r : List Int} (h : ∀ v ∈ r, u32ok v) (i : Nat) : u32ok (getN r i) := by
  unfold getN
  rw [List.getD_eq_getElem?_getD]
  cases e : r[i]? with
  | none => exact ⟨by decide, by decide⟩
  | some x => exact h x (List.mem_of_getElem? e)
def ret4 (x : Res4) : Value := .tuple #[.int .u32 x.1, .int .i64 x.2.1, .int .i64 x.2.2.1, .int .i64 x.2.2.2]
def RunPost (w : World) (x : Res4) (e : Ending) (w' : World) : Prop := e = .returned (ret4 x) ∧ Below w.heap.size w w'
theorem ret4_eq {a b c d : Int} {x : Res4} (h : x = (a, b, c, d)) : Ending.returned (.tuple #[.int .u32 a, .int .i64 b, .int .i64 c, .int .i64 d]) = .returned (ret4 x) := by rw [h]; rfl
theorem nat_of {x : Int} (h : 0 ≤ x) : ∃ n : Nat, x = n := Int.eq_ofNat_of_zero_le h
theorem infoU32 : (Try.prog.info? 35).map (fun i => (i.zero, i.size, i.bytes)) = some (some (.int .u32 0), 1, 4) := by kernel_rfl
theorem infoU8 : (Try.prog.info? 5).map (fun i => (i.zero, i.size, i.bytes)) = some (some (.int .u8 0), 1, 1) := by kernel_rfl
end Go.Proofs.Ytehpoamideeehaa
