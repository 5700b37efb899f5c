import Derived.Test.YtehpoamideeehaaOpen
set_option linter.unusedVariables false
set_option linter.unusedSimpArgs false
namespace Go.Proofs.Ytehpoamideeehaa
open Go.RowKit Go.ChangeShapes Go.WideShapes Go.Deep
/-! Arguments that are slices of slices of bytes. -/
theorem open_rows0 {α : Type} {H : Type} {enc : TypeId × Value → H} {P : Program} {w : World} {base : Nat} {spare : Nat → Bool} {held : Bool} {t e : TypeId} {a : Option Addr} {len cap : Nat} {d : DataW H} {ps : List MemPlace}
    (cells : α → List Value) (ok : α → Prop) (size : Nat)
    (ht : P.underlying t = some (.slice e)) (hC : P.cellsOf e = size) (hs0 : 0 < size) (hlen : ∀ x, (cells x).length = size)
    (hel : ∀ n cs' y, DataW.trod enc P w base spare held n e cs' = some y → ∃ x : α, cs' = cells x ∧ ok x)
    (h : DataW.Trod enc P w base spare held t (.slice a len cap) d ps) :
    ∃ xs : List α, xs.length = len ∧ Reads w w.heap.size size a len (xs.flatMap cells) ∧ (∀ x ∈ xs, ok x) ∧ len ≤ cap ∧ (a = none → cap = 0) := by
  obtain ⟨fuel, hf⟩ := h
  rcases open_slice ht hf with ⟨hcs, _⟩ | ⟨ad, l, c, m, n, D, Pl, hcs, hb, hl, hm, hmm, hx, hi⟩
  · simp only [Value.cells, List.cons.injEq, and_true, Value.slice.injEq] at hcs
    obtain ⟨rfl, rfl, rfl⟩ := hcs
    exact ⟨[], rfl, Reads.none_, by simp, Nat.le_refl _, fun _ => rfl⟩
  · simp only [Value.cells, List.cons.injEq, and_true, Value.slice.injEq] at hcs
    obtain ⟨rfl, rfl, rfl⟩ := hcs
    have hlm : len ≤ m := by rw [hmm]; split <;> omega
    have key : ∀ k, k ≤ len → ∃ xs : List α, xs.length = k ∧ (∀ x ∈ xs, ok x) ∧ ∀ i, i < k → ∃ x, xs[i]? = some x ∧ ∀ q u, (cells x)[q]? = some u → w.cell? (ad.add (i * size + q)) = some u := by
      intro k
      induction k with
      | zero => exact fun _ => ⟨[], rfl, by simp, fun i h => by omega⟩
      | succ k ih =>
        intro hk
        obtain ⟨xs, h1, h2, h3⟩ := ih (by omega)
        obtain ⟨cs', hc, ht'⟩ := hi k (by omega)
        rw [hC] at hc
        obtain ⟨x, rfl, hox⟩ := hel _ _ _ ht'
        obtain ⟨_, hcl, hat⟩ := World.cells?_some hc
        refine ⟨xs ++ [x], by simp [h1], ?_, fun i hik => ?_⟩
        · intro y hy
          rcases List.mem_append.1 hy with h | h
          · exact h2 y h
          · simp at h; subst h; exact hox
        · rcases Nat.lt_succ_iff_lt_or_eq.1 hik with h | rfl
          · obtain ⟨y, hy, hyc⟩ := h3 i h
            exact ⟨y, by rw [List.getElem?_append_left (by omega)]; exact hy, hyc⟩
          · refine ⟨x, by rw [List.getElem?_append_right (by omega)]; simp [h1], fun q u hu => ?_⟩
            have hq : q < size := by rw [← hlen x]; exact (List.getElem?_eq_some_iff.1 hu).1
            rw [← hu, ← hat q hq, ← Go.Deep.add_add]
    obtain ⟨xs, h1, h2, h3⟩ := key len (Nat.le_refl _)
    have hfl : ∀ (l : List α), (l.flatMap cells).length = l.length * size := by
      intro l
      induction l with
      | nil => simp
      | cons y l ih => simp only [List.flatMap_cons, List.length_append, ih, hlen, List.length_cons]; rw [Nat.add_one_mul]; omega
    have hget : ∀ (l : List α) i x q, l[i]? = some x → q < size → (l.flatMap cells)[i * size + q]? = (cells x)[q]? := by
      intro l
      induction l with
      | nil => intro i x q h; simp at h
      | cons y l ih =>
        intro i x q h hq
        simp only [List.flatMap_cons]
        cases i with
        | zero => simp at h; subst h; rw [List.getElem?_append_left (by rw [hlen]; omega)]; simp
        | succ i =>
          simp at h
          rw [List.getElem?_append_right (by rw [hlen, Nat.add_one_mul]; omega), hlen, ← ih i x q h hq]
          congr 1; rw [Nat.add_one_mul]; omega
    refine ⟨xs, h1, ⟨by rw [hfl, h1], fun hn => ?_⟩, h2, hl, (fun h => by cases h)⟩
    obtain ⟨x0, hx0, hc0⟩ := h3 0 hn
    have hz : 0 < (cells x0).length := by rw [hlen]; exact hs0
    have hc00 := hc0 0 _ (List.getElem?_eq_getElem hz)
    have had : (ad.add (0 * size + 0)) = ad := by simp [Addr.add]
    rw [had] at hc00
    obtain ⟨hp, hlt⟩ := cell_plain hc00
    refine ⟨ad.block, ad.off, by rw [← hp], hlt, fun q u hu => ?_⟩
    have hq := (List.getElem?_eq_some_iff.1 hu).1
    rw [hfl, h1] at hq
    have hi' : q / size < len := Nat.div_lt_of_lt_mul (by rw [Nat.mul_comm]; exact hq)
    obtain ⟨x, hx', hxc⟩ := h3 (q / size) hi'
    have hqe : q / size * size + q % size = q := by rw [Nat.mul_comm]; exact Nat.div_add_mod q size
    have hg := hget xs (q / size) x (q % size) hx' (Nat.mod_lt _ hs0)
    rw [hqe, hu] at hg
    have := hxc (q % size) u hg.symm
    rw [hqe] at this
    rw [← add_plain, ← hp]
    exact this
structure RowB where
  A : Option Addr
  cap : Nat
  d : List Int
def RowB.cells (x : RowB) : List Value := [.slice x.A x.d.length x.cap]
def RowB.ok (w : World) (x : RowB) : Prop := (∀ b ∈ x.d, 0 ≤ b ∧ b < 256) ∧ x.d.length ≤ x.cap ∧ (x.A = none → x.cap = 0) ∧ Reads w w.heap.size 1 x.A x.d.length (numV .u8 x.d)
def cellsB (l : List RowB) : List Value := l.flatMap RowB.cells
theorem bytes_cells {H : Type} {enc : TypeId × Value → H} {w : World} {base : Nat} {spare : Nat → Bool} {held : Bool} (n : Nat) (cs : List Value) (y : DataW H × List MemPlace) (h : DataW.trod enc Try.prog w base spare held n 40 cs = some y) : ∃ x : RowB, cs = x.cells ∧ x.ok w := by
  have q1 : Try.prog.cellsOf 40 = 1 := by kernel_rfl
  obtain ⟨A, len, cap, rfl⟩ : ∃ A len cap, cs = [.slice A len cap] := by
    rcases DataW.trod_slice Try.underlying40 h with ⟨h', _⟩ | ⟨a, len, cap, _, _, _, _, h', _⟩
    · exact ⟨_, _, _, by simpa [q1] using h'⟩
    · exact ⟨_, _, _, by simpa [q1] using h'⟩
  obtain ⟨d, ps⟩ := y
  have ht : DataW.Trod enc Try.prog w base spare held 40 (.slice A len cap) d ps := ⟨n, h⟩
  obtain ⟨xs, h1, h2, h3, h4, h5⟩ := open_rows0 (α := Int) (fun x : Int => [Value.int .u8 x]) (fun x : Int => 0 ≤ x ∧ x < 256) 1 Try.underlying40 (by kernel_rfl) (by decide) (fun _ => rfl) (int_cells Try.underlying5 (fun h => wf_u8 h)) ht
  subst h1
  exact ⟨⟨A, cap, xs⟩, rfl, h3, h4, h5, reads_num h2⟩
theorem cellsB_get (l : List RowB) (i : Nat) (x : RowB) (h : l[i]? = some x) : (cellsB l)[i]? = some (.slice x.A x.d.length x.cap) := by
  induction l generalizing i with
  | nil => simp at h
  | cons y l ih =>
    have e : cellsB (y :: l) = .slice y.A y.d.length y.cap :: cellsB l := by simp [cellsB, RowB.cells]
    rw [e]
    cases i with
    | zero => simp at h; subst h; rfl
    | succ i => simp at h; simpa using ih i h
theorem cellsB_length (l : List RowB) : (cellsB l).length = l.length := by
  induction l with
  | nil => rfl
  | cons x l ih => simp only [cellsB, List.flatMap_cons, List.length_append] at ih ⊢; rw [ih]; simp [RowB.cells]; omega
theorem Reads.rowB {w : World} {B n : Nat} {A : Option Addr} {l : List RowB} (h : Reads w B 1 A n (cellsB l)) {i : Nat} {x : RowB} (hx : l[i]? = some x) : ∃ b off, A = some ⟨b, off, none⟩ ∧ b < B ∧ w.cell? ⟨b, off + i, none⟩ = some (.slice x.A x.d.length x.cap) := by
  have hi := (List.getElem?_eq_some_iff.1 hx).1
  have hl := h.1
  rw [cellsB_length] at hl
  obtain ⟨b, off, e, hb, hc⟩ := h.2 (by omega)
  exact ⟨b, off, e, hb, hc i _ (cellsB_get l i x hx)⟩
end Go.Proofs.Ytehpoamideeehaa
