import Derived.Test.YtehpoamideeehaaSumP
set_option linter.unusedVariables false
set_option linter.unusedSimpArgs false
namespace Go.Proofs.Ytehpoamideeehaa
open Go.RowKit
/-! Four results; words in a list. -/
def getN (r : List Int) (i : Nat) : Int := r.getD i 0
abbrev Res4 := Int × Int × Int × Int
theorem getN_ok {r : List Int} (h : ∀ v ∈ r, u32ok v) (i : Nat) : u32ok (getN r i) := by
  unfold getN
  rw [List.getD_eq_getElem?_getD]
  cases e : r[i]? with
  | none => exact ⟨by decide, by decide⟩
  | some x => exact h x (List.mem_of_getElem? e)
def ret4 (x : Res4) : Value := .tuple #[.int .u32 x.1, .int .i64 x.2.1, .int .i64 x.2.2.1, .int .i64 x.2.2.2]
def RunPost (w : World) (x : Res4) (e : Ending) (w' : World) : Prop := e = .returned (ret4 x) ∧ Below w.heap.size w w'
theorem ret4_eq {a b c d : Int} {x : Res4} (h : x = (a, b, c, d)) : Ending.returned (.tuple #[.int .u32 a, .int .i64 b, .int .i64 c, .int .i64 d]) = .returned (ret4 x) := by rw [h]; rfl
theorem nat_of {x : Int} (h : 0 ≤ x) : ∃ n : Nat, x = n := Int.eq_ofNat_of_zero_le h
theorem infoU32 : (Try.prog.info? 35).map (fun i => (i.zero, i.size, i.bytes)) = some (some (.int .u32 0), 1, 4) := by kernel_rfl
theorem infoU8 : (Try.prog.info? 5).map (fun i => (i.zero, i.size, i.bytes)) = some (some (.int .u8 0), 1, 1) := by kernel_rfl
end Go.Proofs.Ytehpoamideeehaa
