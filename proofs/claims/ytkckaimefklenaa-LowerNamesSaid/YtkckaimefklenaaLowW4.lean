import Derived.Test.YtkckaimefklenaaLowW3
import Derived.Test.YtkckaimefklenaaLowF
set_option linter.unusedVariables false
set_option linter.unusedSimpArgs false
namespace Go.Proofs.Ytkckaimefklenaa
open Go.RowKit
/-! ravelinref09.Long: the walk. -/
section
variable {B g m : Nat} {far : List (Bool × Bool)} {W W' : World}
end
/-- The places, as they are read. -/
def PlAt (W : World) (g B : Nat) (q : List N8) (far : List (Bool × Bool)) : Prop := g ≠ B ∧ ∀ i, i ≤ q.length → W.cell? ⟨g, i, none⟩ = some (.int .i64 (placeN q far i))
theorem PlAt.set {W : World} {g B : Nat} {q : List N8} {far : List (Bool × Bool)} (h : PlAt W g B q far) (o : Nat) (v : Value) : PlAt (W.setCell ⟨B, o, none⟩ v) g B q far := ⟨h.1, fun i hi => (World.cell?_setCell_far _ _ _ _ (by show B ≠ g; exact fun e => h.1 e.symm)).trans (h.2 i hi)⟩
theorem PlAt.keep {W W' : World} {g B : Nat} {q : List N8} {far : List (Bool × Bool)} (h : PlAt W g B q far) (hb : Below W.heap.size W W') : PlAt W' g B q far := ⟨h.1, fun i hi => keepC hb (h.2 i hi)⟩
theorem PlacesPost.at_ {w w' : World} {q : List N8} {far : List (Bool × Bool)} {e : Ending} (h : PlacesPost w q far e w') {B : Nat} (hB : B < w.heap.size) : ∃ g c, e = .returned (.slice (some ⟨g, 0, none⟩) (q.length + 1) c) ∧ Hid (PlAt w' g B q far) ∧ Below w.heap.size w w' := by
  obtain ⟨g, c, rfl, hown, hb⟩ := h
  refine ⟨g, c, rfl, Lib.hid ⟨fun e => by have := own_ge hown g (by simp [Value.ownBlock]); omega, fun i hi => ?_⟩, hb⟩
  rw [hown.cellAt i (by omega)]
  simp [numV, natsL, placeL_get q far (show i < q.length + 1 by omega)]
def farOf (B n : Nat) (W : World) : List (Bool × Bool) := (List.range n).map fun i => ((match W.cell? ⟨B, i * 2, none⟩ with | some (.bool b) => b | _ => false), (match W.cell? ⟨B, i * 2 + 1, none⟩ with | some (.bool b) => b | _ => false))
end Go.Proofs.Ytkckaimefklenaa
