import Derived.Test.YtkckaimefklenaaLowW3
import Derived.Deep.DeepCutAuto
import Derived.Deep.CutBlock
set_option linter.unusedVariables false
set_option linter.unusedSimpArgs false
namespace Go.Proofs.Ytkckaimefklenaa
open Go.RowKit
/-! lower.part: jump, size: the walks. -/
theorem keepB {B P o : Nat} {W W' : World} {v : Value} (hb : Below B W W') (hP : P < B) (h : W.cell? ⟨P, o, none⟩ = some v) : W'.cell? ⟨P, o, none⟩ = some v := (World.cell?_of_block (a := ⟨P, o, none⟩) (hb.block P hP)).trans h
/-- A part that lies at a block: its node, its place, its ways. -/
def PartAt (W : World) (P : Nat) (x : N8) (first : Int) (v : Value) : Prop :=
  W.cell? ⟨P, 0, none⟩ = some (.bool x.lf) ∧ W.cell? ⟨P, 1, none⟩ = some (.int .u32 x.wd) ∧ W.cell? ⟨P, 2, none⟩ = some (.int .i64 x.off) ∧ W.cell? ⟨P, 3, none⟩ = some (.int .u32 x.msk) ∧ W.cell? ⟨P, 4, none⟩ = some (.int .i64 x.op) ∧ W.cell? ⟨P, 5, none⟩ = some (.int .u32 x.k) ∧ W.cell? ⟨P, 6, none⟩ = some (.int .i64 x.t) ∧ W.cell? ⟨P, 7, none⟩ = some (.int .i64 x.f) ∧ W.cell? ⟨P, 8, none⟩ = some (.int .i64 first) ∧ W.cell? ⟨P, 9, none⟩ = some v
theorem PartAt.keep {B : Nat} {W W' : World} {P : Nat} {x : N8} {first : Int} {v : Value} (h : PartAt W P x first v) (hb : Below B W W') (hP : P < B) : PartAt W' P x first v := by
  obtain ⟨h0, h1, h2, h3, h4, h5, h6, h7, h8, h9⟩ := h
  exact ⟨keepB hb hP h0, keepB hb hP h1, keepB hb hP h2, keepB hb hP h3, keepB hb hP h4, keepB hb hP h5, keepB hb hP h6, keepB hb hP h7, keepB hb hP h8, keepB hb hP h9⟩
/-- Its ways. -/
def WaysAt (W : World) (Y : Nat) (t f : Int) (v : Bool × Bool) : Prop :=
  W.cell? ⟨Y, 0, none⟩ = some (.int .i64 t) ∧ W.cell? ⟨Y, 1, none⟩ = some (.bool v.1) ∧ W.cell? ⟨Y, 2, none⟩ = some (.int .i64 f) ∧ W.cell? ⟨Y, 3, none⟩ = some (.bool v.2)
theorem WaysAt.keep {B : Nat} {W W' : World} {Y : Nat} {t f : Int} {v : Bool × Bool} (h : WaysAt W Y t f v) (hb : Below B W W') (hY : Y < B) : WaysAt W' Y t f v := by
  obtain ⟨h0, h1, h2, h3⟩ := h
  exact ⟨keepB hb hY h0, keepB hb hY h1, keepB hb hY h2, keepB hb hY h3⟩
theorem jump_c (P : Nat) (x : N8) (p : Nat) (v : Value) (hp : (p : Int) ≤ 100000) (w : World) (h : PartAt w P x p v) :
    Calls Try.prog 17 #[.pointer (some ⟨P, 0, none⟩)] w fun e w' => e = .returned (.int .i64 (jumpN x p)) ∧ w = w' := by
  obtain ⟨-, -, -, h3, -, -, -, -, h8, -⟩ := h
  cases hm : (x.msk != 4294967295)
  all_goals (
    have HX := Lib.hid hm
    go_enter Try.func17, Try.ntmps17
    go_wp2
    go_ret
    exact ⟨ret_i (by have h := HX.out; simp only [jumpN, ones32, b2n, h]; simp; try omega), rfl⟩)
theorem partLeaf_c (P : Nat) (x : N8) (hx : x.lf = true) (p : Int) (v : Value) (w : World) (h : PartAt w P x p v) :
    Calls Try.prog 30 #[.pointer (some ⟨P, 0, none⟩)] w fun e w' => e = .returned (.int .i64 1) ∧ w = w' := by
  obtain ⟨h0, -⟩ := h
  rw [hx] at h0
  clear hx
  go_enter Try.func30, Try.ntmps30
  go_wp2
  go_ret
  exact ⟨rfl, rfl⟩
set_option maxHeartbeats 1600000 in
theorem partSize_c (P Y c : Nat) (x : N8) (hx : x.lf = false) (p : Nat) (va vb : Bool) (hp : (p : Int) ≤ 100000) (w : World) (hY : Y < w.heap.size) (h : PartAt w P x p (.slice (some ⟨Y, 0, none⟩) 2 c)) (hy : WaysAt w Y x.t x.f (va, vb)) :
    Calls Try.prog 30 #[.pointer (some ⟨P, 0, none⟩)] w fun e w' => e = .returned (.int .i64 (sizeN x (va, vb))) ∧ Below w.heap.size w w' := by
  have HPA := Lib.hid h
  have HPB := Lib.hid hp
  have HY := Lib.hid hy
  obtain ⟨h0, -, -, -, -, -, -, -, h8, h9⟩ := h
  rw [hx] at h0
  obtain ⟨s0, hs0⟩ : ∃ s0 : Nat, s0 = 2 + b2n (x.msk != ones32) := ⟨_, rfl⟩
  have hsz : Hid (sizeN x (va, vb) = s0 + b2n va + b2n vb) := Lib.hid (by unfold sizeN; rw [if_neg (by rw [hx]; decide), hs0])
  have hj : jumpN x p = p + s0 - 1 := by unfold jumpN; omega
  have hs1 : (s0 : Int) ≤ 3 := by have : b2n (x.msk != ones32) ≤ 1 := by unfold b2n; split <;> omega
                                  omega
  have hs2 : (2 : Int) ≤ s0 := by omega
  obtain ⟨J, hJ⟩ : ∃ J, J = jumpN x p := ⟨_, rfl⟩
  have HJJ : Hid (J = jumpN x p) := Lib.hid hJ
  have e1 : IntKind.i64.wrap ((J : Int) - p) = s0 - 1 := by rw [IntWalk.i64_in] <;> omega
  have e2 : IntKind.i64.wrap ((s0 : Int) - 1 + 1) = s0 := by rw [IntWalk.i64_in] <;> omega
  have HE1 := Lib.hid e1
  have HE2 := Lib.hid e2
  clear hx hs0 hj hy hJ e1 e2
  go_enter Try.func30, Try.ntmps30
  go_upto_region 3 with fail
  have e1 := HE1.out
  have e2 := HE2.out
  go_region_law (first | (go_simp; go_at_call 17; refine (jump_c P x p _ HPB.out _ (by exact HPA.out)).mono ?_; rintro e w' ⟨rfl, rfl⟩; rw [← HJJ.out]))
  all_goals (
    clear e1 e2
    go_wp2_with fail
    go_loopw [24, 3] (fun i n wr => Hid (Below w.heap.size w wr) ∧ ((i = .int .i64 0 ∧ n = .int .i64 s0) ∨ (i = .int .i64 1 ∧ n = .int .i64 (s0 + b2n va)) ∨ (i = .int .i64 2 ∧ n = .int .i64 (s0 + b2n va + b2n vb)))) (fun i _ _ => 2 - (intOf i).toNat)
    case atStart => exact ⟨Lib.hid (below_dr (Below.refl _ _)), .inl ⟨rfl, rfl⟩⟩
    case round =>
      obtain ⟨HB, hh⟩ := hrel
      obtain ⟨y0, y1, y2, y3⟩ := HY.out.keep HB.out hY
      rcases hh with ⟨rfl, rfl⟩ | ⟨rfl, rfl⟩ | ⟨rfl, rfl⟩
      · cases va
        all_goals (
          go_wp2
          go_roundw
          case rel => exact ⟨Lib.hid (below_al HB.out _), .inr (.inl ⟨by go_num, by simp [b2n]⟩)⟩
          case measure => simp [intOf])
      · cases va <;> cases vb
        all_goals (
          go_wp2
          go_roundw
          case rel => exact ⟨Lib.hid (below_al HB.out _), .inr (.inr ⟨by go_num, by simp [b2n] <;> (unfold wrap64; omega)⟩)⟩
          case measure => simp [intOf])
      · go_wp2
        go_ret
        exact ⟨ret_i (by rw [hsz.out]; simp), HB.out⟩)
end Go.Proofs.Ytkckaimefklenaa
