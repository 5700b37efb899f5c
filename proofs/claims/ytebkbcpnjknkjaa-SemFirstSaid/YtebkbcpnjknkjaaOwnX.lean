import Derived.Test.YtebkbcpnjknkjaaBase
set_option linter.unusedVariables false
set_option linter.unusedSimpArgs false
namespace Go.Proofs.Ytebkbcpnjknkjaa
open Go.RowKit
/-! Rows and boxes that a run has made. -/
theorem heap_nwT (W : World) (o : Obj) : (W.alloc o).heap[W.heap.size]? = some o := by
  show (W.heap.push o)[W.heap.size]? = some o
  exact Array.getElem?_push_size
theorem alloc_box {W : World} {g : Nat} {o : Obj} (h : W.heap[g]? = some o) (o2 : Obj) : (W.alloc o2).heap[g]? = some o := (Below.heap_alloc W o2 g (Array.getElem?_eq_some_iff.1 h).1).trans h
theorem own_upT {w w' : World} {base : Nat} {e : TypeId} {size n : Nat} {v : Value} {xs : List Value} (h : w.ownsRow base e size v n xs) (hb : Below w.heap.size w w') : w'.ownsRow base e size v n xs :=
  h.kept (row := none) ⟨hb.os, hb.tape, hb.output, hb.size, fun k hk _ => hb.block k hk⟩ (by cases e : v.ownBlock with | none => exact .inl rfl | some b => exact .inr (by simp))
theorem own_geT {w : World} {base : Nat} {e : TypeId} {size n : Nat} {v : Value} {xs : List Value} (h : w.ownsRow base e size v n xs) (k : Nat) (hk : v.ownBlock = some k) : base ≤ k := by
  rcases h.2 with ⟨rfl, _⟩ | ⟨g, cap, cur, rfl, hb, _⟩
  · simp [Value.ownBlock] at hk
  · have : g = k := by simpa [Value.ownBlock] using hk
    omega
theorem own_ltT {W : World} {base e size n : Nat} {v : Value} {xs : List Value} (h : W.ownsRow base e size v n xs) (k : Nat) (hk : v.ownBlock = some k) : k < W.heap.size := by
  rcases h.2 with ⟨rfl, _⟩ | ⟨g, cap, cur, rfl, hb, hg, _⟩
  · simp [Value.ownBlock] at hk
  · have : g = k := by simpa [Value.ownBlock] using hk
    subst this
    exact (Array.getElem?_eq_some_iff.1 hg).1
theorem own_lit {W : World} {cs : Array Value} {base : Nat} {e : TypeId} (size n : Nat) (hs : cs.size = n * size) (hn : n ≤ maxLen) (hb : base ≤ W.heap.size) : (W.alloc (.cells cs e)).ownsRow base e size (.slice (some ⟨W.heap.size, 0, none⟩) n n) n cs.toList :=
  ⟨by simpa using hs, .inr ⟨W.heap.size, n, cs, rfl, hb, heap_nwT _ _, Nat.le_refl _, hn, hs, by rw [List.take_of_length_le (by simp [hs])]⟩⟩
theorem own_set {W : World} {base : Nat} {e : TypeId} {size n : Nat} {v : Value} {xs : List Value} (h : W.ownsRow base e size v n xs) {g : Nat} (hg : g < base) (j : Nat) (u : Value) : (W.setCell ⟨g, j, none⟩ u).ownsRow base e size v n xs := by
  refine ⟨h.1, ?_⟩
  rcases h.2 with h2 | ⟨k, cap, cur, h1, h2, h3, h4⟩
  · exact .inl h2
  · exact .inr ⟨k, cap, cur, h1, h2, (Below.heap_setCell W ⟨g, j, none⟩ u k (by show k ≠ g; omega)).trans h3, h4⟩
theorem own_alloc {W : World} {base : Nat} {e : TypeId} {size n : Nat} {v : Value} {xs : List Value} (h : W.ownsRow base e size v n xs) (o : Obj) : (W.alloc o).ownsRow base e size v n xs := by
  refine ⟨h.1, ?_⟩
  rcases h.2 with h2 | ⟨g, cap, cur, h1, h2, h3, h4⟩
  · exact .inl h2
  · exact .inr ⟨g, cap, cur, h1, h2, alloc_box h3 _, h4⟩
theorem grown_box {W W' : World} {row : Option Nat} (hg : W.grownBy W' row) {g : Nat} {o : Obj} (h : W.heap[g]? = some o) (hn : row ≠ some g) : W'.heap[g]? = some o :=
  (hg.block g (Array.getElem?_eq_some_iff.1 h).1 (fun e => hn (by first | exact e | exact e.symm))).trans h
def lenV : Value → Nat
  | .slice _ n _ => n
  | _ => 0
theorem own_lenV {W : World} {base : Nat} {e : TypeId} {size n : Nat} {v : Value} {xs : List Value} (h : W.ownsRow base e size v n xs) : lenV v = n := by
  rcases h.2 with ⟨rfl, h2⟩ | ⟨k, cap, cur, rfl, _⟩
  · exact h2.symm
  · rfl
theorem box6 {W : World} {g : Nat} {a b c d e f : Value} {t : TypeId} (h : W.heap[g]? = some (.cells #[a, b, c, d, e, f] t (0, 0))) : (W.cell? ⟨g, 0, none⟩ = some a ∧ W.cell? ⟨g, 1, none⟩ = some b ∧ W.cell? ⟨g, 2, none⟩ = some c ∧ W.cell? ⟨g, 3, none⟩ = some d ∧ W.cell? ⟨g, 4, none⟩ = some e ∧ W.cell? ⟨g, 5, none⟩ = some f) ∧ W.frozen? ⟨g, 0, none⟩ = false ∧ W.frozen? ⟨g, 1, none⟩ = false ∧ W.frozen? ⟨g, 2, none⟩ = false ∧ W.frozen? ⟨g, 3, none⟩ = false ∧ W.frozen? ⟨g, 4, none⟩ = false ∧ W.frozen? ⟨g, 5, none⟩ = false := by simp [World.cell?, World.frozen?, h]
theorem keepH {W W' : World} (hb : Below W.heap.size W W') {g : Nat} {o : Obj} (h : W.heap[g]? = some o) : W'.heap[g]? = some o := (hb.block g (Array.getElem?_eq_some_iff.1 h).1).trans h
theorem box4R {W : World} {g : Nat} {a b c d : Value} {t : TypeId} (h : W.heap[g]? = some (.cells #[a, b, c, d] t (0, 0))) : W.cell? ⟨g, 0, none⟩ = some a ∧ W.cell? ⟨g, 1, none⟩ = some b ∧ W.cell? ⟨g, 2, none⟩ = some c ∧ W.cell? ⟨g, 3, none⟩ = some d ∧ True := by simp [World.cell?, h]
end Go.Proofs.Ytebkbcpnjknkjaa
