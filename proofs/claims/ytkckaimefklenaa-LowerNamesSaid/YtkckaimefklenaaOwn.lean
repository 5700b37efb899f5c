import Derived.Test.YtkckaimefklenaaCheckPure
set_option linter.unusedVariables false
set_option linter.unusedSimpArgs false
namespace Go.Proofs.Ytkckaimefklenaa
open Go.RowKit
/-! Rows that a call owns. -/
theorem infoI : (Try.prog.info? 45).map (fun i => (i.zero, i.size, i.bytes)) = some (some (.agg #[.int .u16 0, .int .u8 0, .int .u8 0, .int .u32 0]), 4, 8) := by kernel_rfl
theorem cellsI_one (q : List I4) : ∀ u ∈ cellsI q, u.oneCell' = true := by
  intro u hu
  simp only [cellsI, List.mem_flatMap, I4.cells, List.mem_cons, List.mem_nil_iff, or_false] at hu
  obtain ⟨x, _, rfl | rfl | rfl | rfl⟩ := hu <;> rfl
theorem I4_one (x : I4) : ∀ u ∈ x.cells, u.oneCell' = true := by
  intro u hu
  have := cellsI_one [x] u (by simpa [cellsI] using hu)
  exact this
theorem cellsI_snoc (q : List I4) (x : I4) : cellsI q ++ x.cells = cellsI (q ++ [x]) := by simp [cellsI]
theorem ownsRow_reads {w : World} {base : Nat} {e : TypeId} {size n c : Nat} {g : Nat} {xs : List Value} (h : w.ownsRow base e size (.slice (some ⟨g, 0, none⟩) n c) n xs) : Reads w w.heap.size size (some ⟨g, 0, none⟩) n xs := Reads.of_own h
theorem below_gr {B : Nat} {w w1 w2 : World} (h : Below B w w1) {row : Option Nat} (hg : w1.grownBy w2 row) (hB : B ≤ w1.heap.size) (hr : ∀ k, row = some k → B ≤ k) : Below B w w2 := h.grown hg hB hr
theorem own_ge {w : World} {base : Nat} {e : TypeId} {size n : Nat} {v : Value} {xs : List Value} (h : w.ownsRow base e size v n xs) (k : Nat) (hk : v.ownBlock = some k) : base ≤ k := by
  rcases h.2 with ⟨rfl, _⟩ | ⟨g, cap, cur, rfl, hb, _⟩
  · simp [Value.ownBlock] at hk
  · have : g = k := by simpa [Value.ownBlock] using hk
    omega
theorem own_cap {w : World} {base : Nat} {e : TypeId} {size n c g : Nat} {xs : List Value} (h : w.ownsRow base e size (.slice (some ⟨g, 0, none⟩) n c) n xs) : n ≤ c := by
  rcases h.2 with ⟨h', _⟩ | ⟨g', cap, cur, h', hb, _, hc, _⟩
  · cases h'
  · injection h' with _ _ h3; omega
end Go.Proofs.Ytkckaimefklenaa
