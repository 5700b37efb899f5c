import Derived.Test.YtalhjbncloobpaaOpenG
import Derived.Test.YtalhjbncloobpaaMirPure
set_option linter.unusedVariables false
set_option linter.unusedSimpArgs false
namespace Go.Proofs.Ytalhjbncloobpaa
open Go.RowKit Go.ChangeShapes Go.WideShapes Go.Deep
/-! api.Ir, api.Mir: what an argument reads as. -/
theorem list7 (l : List Value) (h : l.length = 7) : ∃ a b c d e f g, l = [a, b, c, d, e, f, g] := by
  match l, h with
  | [a, b, c, d, e, f, g], _ => exact ⟨a, b, c, d, e, f, g, rfl⟩
theorem list2 (l : List Value) (h : l.length = 2) : ∃ a b, l = [a, b] := by
  match l, h with
  | [a, b], _ => exact ⟨a, b, rfl⟩
theorem ir_cells {H : Type} {enc : TypeId × Value → H} {w : World} {base : Nat} {spare : Nat → Bool} {held : Bool} (n : Nat) (cs : List Value) (y : DataW H × List MemPlace) (h : DataW.trod enc Try.prog w base spare held n 34 cs = some y) : ∃ x : R7, cs = x.cells ∧ x.ok := by
  obtain ⟨ys, n', hn', hy, hlen, hyl, hf⟩ := DataW.trod_struct Try.underlying34 h
  have hl : cs.length = 7 := hlen.trans (by kernel_rfl)
  obtain ⟨c0, c1, c2, c3, c4, c5, c6, rfl⟩ := list7 cs hl
  have hz : ∀ i, i < 7 → ∃ z, ys[i]? = some z := fun i hi => ⟨_, List.getElem?_eq_getElem (by rw [hyl]; exact hi)⟩
  obtain ⟨z0, hz0⟩ := hz 0 (by decide)
  obtain ⟨z1, hz1⟩ := hz 1 (by decide)
  obtain ⟨z2, hz2⟩ := hz 2 (by decide)
  obtain ⟨z3, hz3⟩ := hz 3 (by decide)
  obtain ⟨z4, hz4⟩ := hz 4 (by decide)
  obtain ⟨z5, hz5⟩ := hz 5 (by decide)
  obtain ⟨z6, hz6⟩ := hz 6 (by decide)
  have g0 := (hf 0 _ rfl).trans hz0
  have g1 := (hf 1 _ rfl).trans hz1
  have g2 := (hf 2 _ rfl).trans hz2
  have g3 := (hf 3 _ rfl).trans hz3
  have g4 := (hf 4 _ rfl).trans hz4
  have g5 := (hf 5 _ rfl).trans hz5
  have g6 := (hf 6 _ rfl).trans hz6
  obtain ⟨k0, e0, _, w0⟩ := DataW.trod_int Try.underlying32 g0
  obtain ⟨k1, e1, _, w1⟩ := DataW.trod_int Try.underlying3 g1
  obtain ⟨k2, e2, _, w2⟩ := DataW.trod_int Try.underlying3 g2
  obtain ⟨k3, e3, _, w3⟩ := DataW.trod_int Try.underlying3 g3
  obtain ⟨k4, e4, _, w4⟩ := DataW.trod_int Try.underlying30 g4
  obtain ⟨k5, e5, _, w5⟩ := DataW.trod_int Try.underlying3 g5
  obtain ⟨k6, e6, _, w6⟩ := DataW.trod_int Try.underlying3 g6
  have q1 : Try.prog.cellsOf 3 = 1 := by kernel_rfl
  have q2 : Try.prog.cellsOf 30 = 1 := by kernel_rfl
  have q3 : Try.prog.cellsOf 32 = 1 := by kernel_rfl
  simp [q1, q2, q3] at e0 e1 e2 e3 e4 e5 e6
  subst e0 e1 e2 e3 e4 e5 e6
  have := wf_i64 w0; have := wf_i64 w1; have := wf_i64 w2; have := wf_i64 w3; have := wf_u32 w4; have := wf_i64 w5; have := wf_i64 w6
  exact ⟨⟨k0, k1, k2, k3, k4, k5, k6⟩, rfl, by simp only [R7.ok, inI64]; omega⟩
set_option maxRecDepth 100000 in
theorem open_mir {H : Type} {enc : TypeId × Value → H} {w : World} {base b0 : Nat} {r : Reach} {spare : Nat → Bool} {held : Bool} {v : Value} {d : DataW H} {ps : List MemPlace} {ts : List TypeId} {ds : List (DataW H)} {j : Nat}
    (hsz : (DataW.weightsEach Try.prog ts ds).all (· ≤ reachBytes) = true) (htj : ts[j]? = some 25) (hdj : ds[j]? = some d) (hv : Value.okWide Try.prog w r b0 25 v) (h : DataW.Trod enc Try.prog w base spare held 25 v d ps) :
    ∃ (regs : Int) (A : Option Addr) (cap : Nat) (q : List R7), v = .agg #[.int .i64 regs, .slice A q.length cap] ∧ inI64 regs ∧ (∀ x ∈ q, x.ok) ∧ q.length ≤ cap ∧ (A = none → cap = 0) ∧ q.length * 56 ≤ 140737488351232 ∧ Reads w w.heap.size 7 A q.length (cellsR q) := by
  obtain ⟨cs, rfl, hs⟩ := okWide_struct Try.underlying25 hv
  obtain ⟨n, hn⟩ := h
  obtain ⟨ys, n', hn', hy, hlen, hyl, hf⟩ := DataW.trod_struct Try.underlying25 hn
  have hl : cs.toList.length = 2 := hlen.trans (by kernel_rfl)
  obtain ⟨c0, c1, hcs⟩ := list2 cs.toList hl
  obtain ⟨z0, hz0⟩ : ∃ z, ys[0]? = some z := ⟨_, List.getElem?_eq_getElem (by rw [hyl]; decide)⟩
  obtain ⟨z1, hz1⟩ : ∃ z, ys[1]? = some z := ⟨_, List.getElem?_eq_getElem (by rw [hyl]; decide)⟩
  have g0 := (hf 0 _ rfl).trans hz0
  have g1 := (hf 1 _ rfl).trans hz1
  obtain ⟨l⟩ := cs
  simp only at hcs
  subst hcs
  obtain ⟨k0, e0, _, w0⟩ := DataW.trod_int Try.underlying3 g0
  have q1 : Try.prog.cellsOf 3 = 1 := by kernel_rfl
  have q2 : Try.prog.cellsOf 23 = 1 := by kernel_rfl
  simp [q1, Value.cells] at e0
  subst e0
  simp only [q2, Value.cells] at g1
  have hc1 : ∃ A len cap, c1 = .slice A len cap := by
    rcases DataW.trod_slice Try.underlying23 g1 with ⟨h', _⟩ | ⟨a, len, cap, _, _, _, _, h', _⟩
    · exact ⟨_, _, _, by simpa [q2] using h'⟩
    · exact ⟨_, _, _, by simpa [q2] using h'⟩
  obtain ⟨A, len, cap, rfl⟩ := hc1
  have hd : d = .agg (ys.map (·.1)) := congrArg Prod.fst hy
  subst hd
  have hsz2 : (DataW.weightsEach Try.prog [3, 23] (ys.map (·.1))).all (· ≤ reachBytes) = true := by
    rw [List.all_eq_true]
    intro m hm
    refine List.all_eq_true.1 hsz m (DataW.weights_mem_each htj hdj m ?_)
    simp only [DataW.weights, Try.underlying25]
    exact hm
  obtain ⟨q, h1, h2, h3, h4, h5, h6⟩ := open_rows (α := R7) (j := 1) R7.cells R7.ok 7 56 Try.underlying23 (by kernel_rfl) (by decide) (fun _ => rfl) (by kernel_rfl) ir_cells hsz2 rfl (by rw [List.getElem?_map, hz1]; rfl) (ps := z1.2) ⟨n', by simpa [q2, Value.cells] using g1⟩
  subst h1
  exact ⟨k0, A, cap, q, rfl, wf_i64 w0, h3, h4, h5, h6, h2⟩
end Go.Proofs.Ytalhjbncloobpaa
