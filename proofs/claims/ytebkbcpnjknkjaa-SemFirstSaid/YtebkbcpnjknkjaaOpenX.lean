import Derived.Test.YtebkbcpnjknkjaaOpenG
import Derived.Test.YtebkbcpnjknkjaaSemP3
set_option linter.unusedVariables false
set_option linter.unusedSimpArgs false
set_option maxRecDepth 100000
namespace Go.Proofs.Ytebkbcpnjknkjaa
open Go.RowKit Go.ChangeShapes Go.WideShapes Go.Deep
/-! Expressions, rules, policies, data as arguments: what they read as. -/
section
variable {H : Type} {enc : TypeId × Value → H} {P : Program} {w : World} {base : Nat} {spare : Nat → Bool} {held : Bool}
/-- A slice's row, element by element, each with less fuel, and what each reads as. -/
theorem row_cells {α : Type} {t e : TypeId} (cells : α → List Value) (ok : α → DataW H → Prop) (size : Nat) (ht : P.underlying t = some (.slice e)) (hC : P.cellsOf e = size) (hs0 : 0 < size) (hlen : ∀ x, (cells x).length = size)
    {fuel : Nat} {cs : List Value} {y : DataW H × List MemPlace} (h : DataW.trod enc P w base spare held fuel t cs = some y) (hel : ∀ n cs' y, n < fuel → DataW.trod enc P w base spare held n e cs' = some y → ∃ x : α, cs' = cells x ∧ ok x y.1) :
    ∃ (A : Option Addr) (cap : Nat) (xs : List α), cs = [.slice A xs.length cap] ∧ Reads w w.heap.size size A xs.length (xs.flatMap cells) ∧ xs.length ≤ cap ∧ cap ≤ maxLen ∧ (A = none → cap = 0) ∧
      (xs = [] ∨ ∃ ds rs, y.1 = .slice ds rs ∧ ds.length = xs.length ∧ ∀ x ∈ xs, ∃ dd ∈ ds, ok x dd) := by
  rcases DataW.trod_slice ht h with ⟨rfl, _⟩ | ⟨ad, len, cap, elems, rest, n, rfl, rfl, rfl, hb, hl, hm, hlen', hel', _, _⟩
  · exact ⟨none, 0, [], rfl, Reads.none_, by simp, by simp [maxLen], fun _ => rfl, Or.inl rfl⟩
  · have hi : ∀ i, i < len → ∃ cs' d, w.cells? base (ad.add (i * size)) size = some cs' ∧ DataW.trod enc P w base spare held n e cs' = some d ∧ elems[i]? = some d := by
      intro i hil
      have := hel' i hil
      rw [hC, List.getElem?_eq_getElem (by omega)] at this
      obtain ⟨cs', h1, h2⟩ := Option.bind_eq_some_iff.1 this
      exact ⟨cs', _, h1, h2, List.getElem?_eq_getElem (by omega)⟩
    have key : ∀ k, k ≤ len → ∃ xs : List α, xs.length = k ∧ (∀ x ∈ xs, ∃ dd ∈ elems.map (·.1), ok x dd) ∧ ∀ i, i < k → ∃ x, xs[i]? = some x ∧ ∀ q u, (cells x)[q]? = some u → w.cell? (ad.add (i * size + q)) = some u := by
      intro k
      induction k with
      | zero => exact fun _ => ⟨[], rfl, by simp, fun i h => by omega⟩
      | succ k ih =>
        intro hk
        obtain ⟨xs, h1, h2, h3⟩ := ih (by omega)
        obtain ⟨cs', d, hc, ht', hd⟩ := hi k (by omega)
        obtain ⟨x, rfl, hox⟩ := hel _ _ _ (Nat.lt_succ_self n) ht'
        obtain ⟨_, hcl, hat⟩ := World.cells?_some hc
        refine ⟨xs ++ [x], by simp [h1], ?_, fun i hik => ?_⟩
        · intro y hy
          rcases List.mem_append.1 hy with h | h
          · exact h2 y h
          · simp at h; subst h; exact ⟨d.1, List.mem_map.2 ⟨d, List.mem_of_getElem? hd, rfl⟩, hox⟩
        · rcases Nat.lt_succ_iff_lt_or_eq.1 hik with h | rfl
          · obtain ⟨y, hy, hyc⟩ := h3 i h
            exact ⟨y, by rw [List.getElem?_append_left (by omega)]; exact hy, hyc⟩
          · refine ⟨x, by rw [List.getElem?_append_right (by omega)]; simp [h1], fun q u hu => ?_⟩
            have hq : q < size := by rw [← hlen x]; exact (List.getElem?_eq_some_iff.1 hu).1
            rw [← hu, ← hat q hq, ← Go.Deep.add_add]
    obtain ⟨xs, h1, h2, h3⟩ := key len (Nat.le_refl _)
    have hfl : ∀ (l : List α), (l.flatMap cells).length = l.length * size := by
      intro l
      induction l with
      | nil => simp
      | cons y l ih => simp only [List.flatMap_cons, List.length_append, ih, hlen, List.length_cons]; rw [Nat.add_one_mul]; omega
    have hget : ∀ (l : List α) i x q, l[i]? = some x → q < size → (l.flatMap cells)[i * size + q]? = (cells x)[q]? := by
      intro l
      induction l with
      | nil => intro i x q h; simp at h
      | cons y l ih =>
        intro i x q h hq
        simp only [List.flatMap_cons]
        cases i with
        | zero => simp at h; subst h; rw [List.getElem?_append_left (by rw [hlen]; omega)]; simp
        | succ i =>
          simp at h
          rw [List.getElem?_append_right (by rw [hlen, Nat.add_one_mul]; omega), hlen, ← ih i x q h hq]
          congr 1; rw [Nat.add_one_mul]; omega
    subst h1
    refine ⟨some ad, cap, xs, rfl, ⟨hfl _, fun hn => ?_⟩, hl, hm, (fun h => by cases h), Or.inr ⟨_, _, rfl, by simp [hlen'], h2⟩⟩
    obtain ⟨x0, hx0, hc0⟩ := h3 0 hn
    have hz : 0 < (cells x0).length := by rw [hlen]; exact hs0
    have hc00 := hc0 0 _ (List.getElem?_eq_getElem hz)
    have had : (ad.add (0 * size + 0)) = ad := by simp [Addr.add]
    rw [had] at hc00
    obtain ⟨hp, hlt⟩ := cell_plain hc00
    refine ⟨ad.block, ad.off, by rw [← hp], hlt, fun q u hu => ?_⟩
    have hq := (List.getElem?_eq_some_iff.1 hu).1
    rw [hfl] at hq
    have hi' : q / size < xs.length := Nat.div_lt_of_lt_mul (by rw [Nat.mul_comm]; exact hq)
    obtain ⟨x, hx', hxc⟩ := h3 (q / size) hi'
    have hqe : q / size * size + q % size = q := by rw [Nat.mul_comm]; exact Nat.div_add_mod q size
    have hg := hget xs (q / size) x (q % size) hx' (Nat.mod_lt _ hs0)
    rw [hqe, hu] at hg
    have := hxc (q % size) u hg.symm
    rw [hqe] at this
    rw [← add_plain, ← hp]
    exact this
end
theorem reads_rowN {w : World} {size n : Nat} {A : Option Addr} {xs : List Value} (h : Reads w w.heap.size size A n xs) : RowN w (fun b => b < w.heap.size) size A n xs := h
theorem inL_of {W : World} {N : Nat → Prop} {l : List ExA} (h : ∀ x ∈ l, x.In W N) : ExA.InL W N l := by
  induction l with
  | nil => trivial
  | cons x l ih => exact ⟨h x (by simp), ih fun y hy => h y (by simp [hy])⟩
theorem fitsL_of_all {l : List ExA} (h : ∀ x ∈ l, x.fits) : ExA.fitsL l := by
  induction l with
  | nil => trivial
  | cons x l ih => exact ⟨h x (by simp), ih fun y hy => h y (by simp [hy])⟩
theorem smallL_of_all {M : Nat} {l : List ExA} (h : ∀ x ∈ l, x.small M) : ExA.smallL M l := by
  induction l with
  | nil => trivial
  | cons x l ih => exact ⟨h x (by simp), ih fun y hy => h y (by simp [hy])⟩
theorem bulk_mem {H : Type} {ds : List (DataW H)} {d : DataW H} (h : d ∈ ds) : Rows.uptoBulk d ≤ Rows.uptoBulkAll ds := by
  induction ds with
  | nil => cases h
  | cons x ds ih =>
    simp only [Rows.uptoBulkAll]
    rcases List.mem_cons.1 h with rfl | h
    · omega
    · have := ih h; omega
theorem bulk_len {H : Type} (ds : List (DataW H)) : ds.length ≤ Rows.uptoBulkAll ds := by
  induction ds with
  | nil => simp
  | cons x ds ih =>
    simp only [Rows.uptoBulkAll, List.length_cons]
    have : 1 ≤ Rows.uptoBulk x := by
      cases x with
      | lit l => cases l <;> simp [Rows.uptoBulk]
      | _ => simp [Rows.uptoBulk]
    omega
theorem list6 (l : List Value) (h : l.length = 6) : ∃ a b c d e f, l = [a, b, c, d, e, f] := by
  match l, h with
  | [a, b, c, d, e, f], _ => exact ⟨a, b, c, d, e, f, rfl⟩
theorem expr_cells {H : Type} {enc : TypeId × Value → H} {w : World} {base : Nat} {spare : Nat → Bool} {held : Bool} : ∀ (n : Nat) (cs : List Value) (y : DataW H × List MemPlace), DataW.trod enc Try.prog w base spare held n 48 cs = some y →
    ∃ x : ExA, cs = x.cells ∧ x.In w (fun b => b < w.heap.size) ∧ x.fits ∧ ∀ M, Rows.uptoBulk y.1 ≤ M → x.small M := by
  intro n
  induction n using Nat.strongRecOn with
  | _ n ih =>
    intro cs y h
    obtain ⟨ys, n', rfl, hy, hlen, hyl, hf⟩ := DataW.trod_struct Try.underlying48 h
    have hl : cs.length = 6 := hlen.trans (by kernel_rfl)
    obtain ⟨a, b, c, e, f, g, rfl⟩ := list6 cs hl
    obtain ⟨z0, hz0⟩ : ∃ z, ys[0]? = some z := ⟨_, List.getElem?_eq_getElem (by rw [hyl]; decide)⟩
    obtain ⟨z1, hz1⟩ : ∃ z, ys[1]? = some z := ⟨_, List.getElem?_eq_getElem (by rw [hyl]; decide)⟩
    obtain ⟨z2, hz2⟩ : ∃ z, ys[2]? = some z := ⟨_, List.getElem?_eq_getElem (by rw [hyl]; decide)⟩
    obtain ⟨z3, hz3⟩ : ∃ z, ys[3]? = some z := ⟨_, List.getElem?_eq_getElem (by rw [hyl]; decide)⟩
    obtain ⟨z4, hz4⟩ : ∃ z, ys[4]? = some z := ⟨_, List.getElem?_eq_getElem (by rw [hyl]; decide)⟩
    obtain ⟨z5, hz5⟩ : ∃ z, ys[5]? = some z := ⟨_, List.getElem?_eq_getElem (by rw [hyl]; decide)⟩
    have g0 := (hf 0 _ rfl).trans hz0
    have g1 := (hf 1 _ rfl).trans hz1
    have g2 := (hf 2 _ rfl).trans hz2
    have g3 := (hf 3 _ rfl).trans hz3
    have g4 := (hf 4 _ rfl).trans hz4
    have g5 := (hf 5 _ rfl).trans hz5
    have c1 : ∀ t ∈ [44, 45, 3, 24, 46], Try.prog.cellsOf t = 1 := by
      intro t ht; simp at ht; rcases ht with rfl | rfl | rfl | rfl | rfl <;> kernel_rfl
    obtain ⟨k0, e0, _, w0⟩ := DataW.trod_int Try.underlying44 g0
    obtain ⟨A, cap, xs, e1, hrd, hle, hcm, hA, hds⟩ := row_cells ExA.cells (fun x dd => x.In w (fun b => b < w.heap.size) ∧ x.fits ∧ ∀ M, Rows.uptoBulk dd ≤ M → x.small M) 6 Try.underlying45 (by kernel_rfl) (by decide) ExA.cells_length g1 (fun m cs' y' hm hy' => ih m (by omega) cs' y' hy')
    obtain ⟨k2, e2, _, w2⟩ := DataW.trod_int Try.underlying3 g2
    obtain ⟨k3, e3, _, w3⟩ := DataW.trod_int Try.underlying24 g3
    obtain ⟨k4, e4, _, w4⟩ := DataW.trod_int Try.underlying46 g4
    obtain ⟨k5, e5, _, w5⟩ := DataW.trod_int Try.underlying24 g5
    simp [c1 44 (by simp), c1 45 (by simp), c1 3 (by simp), c1 24 (by simp), c1 46 (by simp)] at e0 e1 e2 e3 e4 e5
    subst e0 e1 e2 e3 e4 e5
    have hmax : xs.length ≤ 9223372036854775807 := by simp only [maxLen] at hcm; omega
    refine ⟨.mk k0 A cap xs k2 k3 k4 k5, rfl, ⟨reads_rowN hrd, inL_of ?_⟩, ⟨hmax, fitsL_of_all ?_⟩, fun M hM => ⟨?_, smallL_of_all ?_⟩⟩
    · intro x hx
      rcases hds with rfl | ⟨ds, rs, _, _, hd⟩
      · cases hx
      · obtain ⟨dd, _, h⟩ := hd x hx; exact h.1
    · intro x hx
      rcases hds with rfl | ⟨ds, rs, _, _, hd⟩
      · cases hx
      · obtain ⟨dd, _, h⟩ := hd x hx; exact h.2.1
    · rcases hds with rfl | ⟨ds, rs, hz, hdl, hd⟩
      · simp
      · have h1 : Rows.uptoBulk z1.1 ≤ Rows.uptoBulk y.1 := by
          rw [hy]; simp only [Rows.uptoBulk]
          have := bulk_mem (List.mem_map.2 ⟨z1, List.mem_of_getElem? hz1, rfl⟩ : z1.1 ∈ ys.map (·.1))
          omega
        rw [hz] at h1
        simp only [Rows.uptoBulk] at h1
        have := bulk_len ds
        omega
    · intro x hx
      rcases hds with rfl | ⟨ds, rs, hz, hdl, hd⟩
      · cases hx
      · obtain ⟨dd, hdm, h⟩ := hd x hx
        refine h.2.2 M ?_
        have h1 : Rows.uptoBulk z1.1 ≤ Rows.uptoBulk y.1 := by
          rw [hy]; simp only [Rows.uptoBulk]
          have := bulk_mem (List.mem_map.2 ⟨z1, List.mem_of_getElem? hz1, rfl⟩ : z1.1 ∈ ys.map (·.1))
          omega
        rw [hz] at h1
        simp only [Rows.uptoBulk] at h1
        have := bulk_mem hdm
        omega
theorem open_expr {H : Type} {enc : TypeId × Value → H} {w : World} {base b0 : Nat} {r : Reach} {spare : Nat → Bool} {held : Bool} {v : Value} {d : DataW H} {ps : List MemPlace} (hv : Value.okWide Try.prog w r b0 48 v) (h : DataW.Trod enc Try.prog w base spare held 48 v d ps) :
    ∃ x : ExA, v = x.val ∧ x.In w (fun b => b < w.heap.size) ∧ x.fits ∧ ∀ M, Rows.uptoBulk d ≤ M → x.small M := by
  obtain ⟨cs, rfl, hs⟩ := okWide_struct Try.underlying48 hv
  obtain ⟨n, hn⟩ := h
  obtain ⟨x, hx, h1, h2, h3⟩ : ∃ x : ExA, cs.toList = x.cells ∧ x.In w (fun b => b < w.heap.size) ∧ x.fits ∧ ∀ M, Rows.uptoBulk d ≤ M → x.small M := expr_cells n cs.toList _ hn
  refine ⟨x, ?_, h1, h2, h3⟩
  obtain ⟨l⟩ := cs
  simp only at hx
  rw [hx]
  cases x
  rfl
theorem list2 (l : List Value) (h : l.length = 2) : ∃ a b, l = [a, b] := by
  match l, h with
  | [a, b], _ => exact ⟨a, b, rfl⟩
def CallP.Ok (x : CallP) : Prop := 0 ≤ x.nr ∧ x.nr < 18446744073709551616
theorem call_cells {H : Type} {enc : TypeId × Value → H} {w : World} {base : Nat} {spare : Nat → Bool} {held : Bool} (n : Nat) (cs : List Value) (y : DataW H × List MemPlace) (h : DataW.trod enc Try.prog w base spare held n 68 cs = some y) : ∃ x : CallP, cs = x.cells ∧ x.Ok := by
  obtain ⟨ys, n', rfl, hy, hlen, hyl, hf⟩ := DataW.trod_struct Try.underlying68 h
  have hl : cs.length = 2 := hlen.trans (by kernel_rfl)
  obtain ⟨a, b, rfl⟩ := list2 cs hl
  obtain ⟨z0, hz0⟩ : ∃ z, ys[0]? = some z := ⟨_, List.getElem?_eq_getElem (by rw [hyl]; decide)⟩
  obtain ⟨z1, hz1⟩ : ∃ z, ys[1]? = some z := ⟨_, List.getElem?_eq_getElem (by rw [hyl]; decide)⟩
  have g0 := (hf 0 _ rfl).trans hz0
  have g1 := (hf 1 _ rfl).trans hz1
  have c1 : ∀ t ∈ [9, 24], Try.prog.cellsOf t = 1 := by
    intro t ht; simp at ht; rcases ht with rfl | rfl <;> kernel_rfl
  obtain ⟨k0, e0, _, w0⟩ := DataW.trod_string Try.underlying9 g0
  obtain ⟨k1, e1, _, w1⟩ := DataW.trod_int Try.underlying24 g1
  simp [c1 9 (by simp), c1 24 (by simp)] at e0 e1
  subst e0 e1
  have := wf_u64 w1
  exact ⟨⟨k0, k1⟩, rfl, this⟩
theorem verdict_cells {H : Type} {enc : TypeId × Value → H} {w : World} {base : Nat} {spare : Nat → Bool} {held : Bool} (n : Nat) (cs : List Value) (y : DataW H × List MemPlace) (h : DataW.trod enc Try.prog w base spare held n 26 cs = some y) : ∃ x : Int × Int, cs = [.int .i64 x.1, .int .u64 x.2] ∧ 0 ≤ x.2 ∧ x.2 < 18446744073709551616 := by
  obtain ⟨ys, n', rfl, hy, hlen, hyl, hf⟩ := DataW.trod_struct Try.underlying26 h
  have hl : cs.length = 2 := hlen.trans (by kernel_rfl)
  obtain ⟨a, b, rfl⟩ := list2 cs hl
  obtain ⟨z0, hz0⟩ : ∃ z, ys[0]? = some z := ⟨_, List.getElem?_eq_getElem (by rw [hyl]; decide)⟩
  obtain ⟨z1, hz1⟩ : ∃ z, ys[1]? = some z := ⟨_, List.getElem?_eq_getElem (by rw [hyl]; decide)⟩
  have g0 := (hf 0 _ rfl).trans hz0
  have g1 := (hf 1 _ rfl).trans hz1
  have c1 : ∀ t ∈ [23, 24], Try.prog.cellsOf t = 1 := by
    intro t ht; simp at ht; rcases ht with rfl | rfl <;> kernel_rfl
  obtain ⟨k0, e0, _, w0⟩ := DataW.trod_int Try.underlying23 g0
  obtain ⟨k1, e1, _, w1⟩ := DataW.trod_int Try.underlying24 g1
  simp [c1 23 (by simp), c1 24 (by simp)] at e0 e1
  subst e0 e1
  have := wf_u64 w1
  exact ⟨(k0, k1), rfl, this⟩
theorem bulk_part {H : Type} {ys : List (DataW H × List MemPlace)} {i : Nat} {z : DataW H × List MemPlace} (h : ys[i]? = some z) {d : DataW H} {ps : List MemPlace} (hy : (d, ps) = (DataW.agg (ys.map (·.1)), ys.flatMap (·.2))) : Rows.uptoBulk z.1 ≤ Rows.uptoBulk d := by
  injection hy with hd _
  rw [hd]
  simp only [Rows.uptoBulk]
  have := bulk_mem (List.mem_map.2 ⟨z, List.mem_of_getElem? h, rfl⟩ : z.1 ∈ ys.map (·.1))
  omega
theorem list9X (l : List Value) (h : l.length = 9) : ∃ a b c d e f g k m, l = [a, b, c, d, e, f, g, k, m] := by
  match l, h with
  | [a, b, c, d, e, f, g, k, m], _ => exact ⟨a, b, c, d, e, f, g, k, m, rfl⟩
theorem rule_cells {H : Type} {enc : TypeId × Value → H} {w : World} {base : Nat} {spare : Nat → Bool} {held : Bool} (n : Nat) (cs : List Value) (y : DataW H × List MemPlace) (h : DataW.trod enc Try.prog w base spare held n 51 cs = some y) :
    ∃ x : RuA, cs = x.cells ∧ x.In w (fun b => b < w.heap.size) ∧ x.Ok ∧ ∀ M, Rows.uptoBulk y.1 ≤ M → x.when_.small M ∧ x.calls.length ≤ M := by
  obtain ⟨ys, n', rfl, hy, hlen, hyl, hf⟩ := DataW.trod_struct Try.underlying51 h
  have hl : cs.length = 9 := hlen.trans (by kernel_rfl)
  obtain ⟨v0, v1, v2, v3, v4, v5, v6, v7, v8, rfl⟩ := list9X cs hl
  obtain ⟨z0, hz0⟩ : ∃ z, ys[0]? = some z := ⟨_, List.getElem?_eq_getElem (by rw [hyl]; decide)⟩
  obtain ⟨z1, hz1⟩ : ∃ z, ys[1]? = some z := ⟨_, List.getElem?_eq_getElem (by rw [hyl]; decide)⟩
  obtain ⟨z2, hz2⟩ : ∃ z, ys[2]? = some z := ⟨_, List.getElem?_eq_getElem (by rw [hyl]; decide)⟩
  have g0 := (hf 0 _ rfl).trans hz0
  have g1 := (hf 1 _ rfl).trans hz1
  have g2 := (hf 2 _ rfl).trans hz2
  have q0 : Try.prog.cellsOf 49 = 1 := by kernel_rfl
  have q1 : Try.prog.cellsOf 48 = 6 := by kernel_rfl
  have q2 : Try.prog.cellsOf 26 = 2 := by kernel_rfl
  simp [q0, q1, q2] at g0 g1 g2
  obtain ⟨A, cap, xs, e0, hrd, hle, hcm, hA, hds⟩ := row_cells CallP.cells (fun x _ => x.Ok) 2 Try.underlying49 (by kernel_rfl) (by decide) (fun _ => rfl) g0 (fun m cs' y' hm hy' => call_cells m cs' y' hy')
  obtain ⟨x, e1, hin, hfit, hsm⟩ := expr_cells _ _ _ g1
  obtain ⟨⟨dk, dd⟩, e2, hd⟩ := verdict_cells _ _ _ g2
  obtain ⟨op, xA, xc, xl, xf, xm, xr, xv⟩ := x
  simp only [ExA.cells] at e1
  simp at e0 e1 e2
  obtain ⟨rfl, rfl, rfl, rfl, rfl, rfl⟩ := e1
  obtain ⟨rfl, rfl⟩ := e2
  subst e0
  refine ⟨⟨A, cap, xs, .mk op xA xc xl xf xm xr xv, dk, dd⟩, rfl, ⟨reads_rowN hrd, hin⟩, ⟨?_, hd, by simp only [maxLen] at hcm; show xs.length ≤ _; omega, hfit⟩, fun M hM => ⟨hsm M (Nat.le_trans (bulk_part hz1 hy) hM), ?_⟩⟩
  · intro c hc
    rcases hds with rfl | ⟨ds, rs, _, _, hd⟩
    · cases hc
    · obtain ⟨dd, _, h⟩ := hd c hc; exact h
  · rcases hds with rfl | ⟨ds, rs, hz, hdl, _⟩
    · simp
    · have h1 := bulk_part hz0 hy
      rw [hz] at h1
      simp only [Rows.uptoBulk] at h1
      have := bulk_len ds
      show xs.length ≤ M
      omega
theorem policy_cells {H : Type} {enc : TypeId × Value → H} {w : World} {base : Nat} {spare : Nat → Bool} {held : Bool} (n : Nat) (cs : List Value) (y : DataW H × List MemPlace) (h : DataW.trod enc Try.prog w base spare held n 29 cs = some y) :
    ∃ x : PolA, cs = [.string x.arch, .int .i64 x.fk, .int .u64 x.fd, .int .i64 x.dk, .int .u64 x.dd, .slice x.A x.rules.length x.cap] ∧ x.In w (fun b => b < w.heap.size) ∧ x.Ok ∧ ∀ M, Rows.uptoBulk y.1 ≤ M → ∀ r ∈ x.rules, r.when_.small M ∧ r.calls.length ≤ M := by
  obtain ⟨ys, n', rfl, hy, hlen, hyl, hf⟩ := DataW.trod_struct Try.underlying29 h
  have hl : cs.length = 6 := hlen.trans (by kernel_rfl)
  obtain ⟨v0, v1, v2, v3, v4, v5, rfl⟩ := list6 cs hl
  obtain ⟨z0, hz0⟩ : ∃ z, ys[0]? = some z := ⟨_, List.getElem?_eq_getElem (by rw [hyl]; decide)⟩
  obtain ⟨z1, hz1⟩ : ∃ z, ys[1]? = some z := ⟨_, List.getElem?_eq_getElem (by rw [hyl]; decide)⟩
  obtain ⟨z2, hz2⟩ : ∃ z, ys[2]? = some z := ⟨_, List.getElem?_eq_getElem (by rw [hyl]; decide)⟩
  obtain ⟨z3, hz3⟩ : ∃ z, ys[3]? = some z := ⟨_, List.getElem?_eq_getElem (by rw [hyl]; decide)⟩
  have g0 := (hf 0 _ rfl).trans hz0
  have g1 := (hf 1 _ rfl).trans hz1
  have g2 := (hf 2 _ rfl).trans hz2
  have g3 := (hf 3 _ rfl).trans hz3
  have q0 : Try.prog.cellsOf 9 = 1 := by kernel_rfl
  have q1 : Try.prog.cellsOf 26 = 2 := by kernel_rfl
  have q3 : Try.prog.cellsOf 27 = 1 := by kernel_rfl
  simp [q0, q1, q3] at g0 g1 g2 g3
  obtain ⟨ar, e0, _, w0⟩ := DataW.trod_string Try.underlying9 g0
  obtain ⟨⟨fk, fd⟩, e1, hd1⟩ := verdict_cells _ _ _ g1
  obtain ⟨⟨dk, dd⟩, e2, hd2⟩ := verdict_cells _ _ _ g2
  obtain ⟨A, cap, xs, e3, hrd, hle, hcm, hA, hds⟩ := row_cells RuA.cells (fun x dd => x.In w (fun b => b < w.heap.size) ∧ x.Ok ∧ ∀ M, Rows.uptoBulk dd ≤ M → x.when_.small M ∧ x.calls.length ≤ M) 9 Try.underlying27 (by kernel_rfl) (by decide) RuA.cells_length g3 (fun m cs' y' hm hy' => rule_cells m cs' y' hy')
  simp at e0 e1 e2 e3
  obtain ⟨rfl, rfl⟩ := e1
  obtain ⟨rfl, rfl⟩ := e2
  subst e0 e3
  refine ⟨⟨ar, fk, fd, dk, dd, A, cap, xs⟩, rfl, ⟨reads_rowN hrd, ?_⟩, ⟨w0, hd1, hd2, ?_⟩, fun M hM r hr => ?_⟩
  · intro c hc
    rcases hds with rfl | ⟨ds, rs, _, _, hd⟩
    · cases hc
    · obtain ⟨dd, _, h⟩ := hd c hc; exact h.1
  · intro c hc
    rcases hds with rfl | ⟨ds, rs, _, _, hd⟩
    · cases hc
    · obtain ⟨dd, _, h⟩ := hd c hc; exact h.2.1
  · rcases hds with rfl | ⟨ds, rs, hz, hdl, hd⟩
    · cases hr
    · obtain ⟨dd, hdm, h⟩ := hd r hr
      refine h.2.2 M ?_
      have h1 := bulk_part hz3 hy
      rw [hz] at h1
      simp only [Rows.uptoBulk] at h1
      have := bulk_mem hdm
      omega
theorem open_policy {H : Type} {enc : TypeId × Value → H} {w : World} {base b0 : Nat} {r : Reach} {spare : Nat → Bool} {held : Bool} {v : Value} {d : DataW H} {ps : List MemPlace} (hv : Value.okWide Try.prog w r b0 29 v) (h : DataW.Trod enc Try.prog w base spare held 29 v d ps) :
    ∃ x : PolA, v = x.val ∧ x.In w (fun b => b < w.heap.size) ∧ x.Ok ∧ ∀ M, Rows.uptoBulk d ≤ M → ∀ r ∈ x.rules, r.when_.small M ∧ r.calls.length ≤ M := by
  obtain ⟨cs, rfl, hs⟩ := okWide_struct Try.underlying29 hv
  obtain ⟨n, hn⟩ := h
  obtain ⟨x, hx, h1⟩ := policy_cells n cs.toList _ hn
  refine ⟨x, ?_, h1⟩
  obtain ⟨l⟩ := cs
  simp only at hx
  rw [hx]
  rfl
theorem data_cells7 {H : Type} {enc : TypeId × Value → H} {w : World} {base : Nat} {spare : Nat → Bool} {held : Bool} (n : Nat) (cs : List Value) (y : DataW H × List MemPlace) (h : DataW.trod enc Try.prog w base spare held n 34 cs = some y) : ∃ x : D9, cs = x.cells := by
  obtain ⟨ys, n', hn', hy, hlen, hyl, hf⟩ := DataW.trod_struct Try.underlying34 h
  have hl : cs.length = 9 := hlen.trans (by kernel_rfl)
  obtain ⟨a, b, c, v0, v1, v2, v3, v4, v5, rfl⟩ := list9X cs hl
  obtain ⟨z0, hz0⟩ : ∃ z, ys[0]? = some z := ⟨_, List.getElem?_eq_getElem (by rw [hyl]; decide)⟩
  obtain ⟨z1, hz1⟩ : ∃ z, ys[1]? = some z := ⟨_, List.getElem?_eq_getElem (by rw [hyl]; decide)⟩
  obtain ⟨z2, hz2⟩ : ∃ z, ys[2]? = some z := ⟨_, List.getElem?_eq_getElem (by rw [hyl]; decide)⟩
  obtain ⟨z3, hz3⟩ : ∃ z, ys[3]? = some z := ⟨_, List.getElem?_eq_getElem (by rw [hyl]; decide)⟩
  have g0 := (hf 0 _ rfl).trans hz0
  have g1 := (hf 1 _ rfl).trans hz1
  have g2 := (hf 2 _ rfl).trans hz2
  have g3 := (hf 3 _ rfl).trans hz3
  have c32 : Try.prog.cellsOf 31 = 1 := by kernel_rfl
  have c64 : Try.prog.cellsOf 24 = 1 := by kernel_rfl
  have c6 : Try.prog.cellsOf 32 = 6 := by kernel_rfl
  simp [c32, c64, c6] at g0 g1 g2 g3
  obtain ⟨k0, e0, _, w0⟩ := DataW.trod_int Try.underlying31 g0
  obtain ⟨k1, e1, _, w1⟩ := DataW.trod_int Try.underlying31 g1
  obtain ⟨k2, e2, _, w2⟩ := DataW.trod_int Try.underlying24 g2
  simp at e0 e1 e2
  obtain ⟨xs, m, _, _, _, hx6, hfa⟩ := DataW.trod_array Try.underlying32 g3
  obtain ⟨x0, hx0⟩ : ∃ z, xs[0]? = some z := ⟨_, List.getElem?_eq_getElem (by rw [hx6]; decide)⟩
  have m0 := (hfa 0 (by decide)).trans hx0
  simp [c64] at m0
  obtain ⟨q0, s0, _, t0⟩ := DataW.trod_int Try.underlying24 m0
  simp at s0
  obtain ⟨x1, hx1⟩ : ∃ z, xs[1]? = some z := ⟨_, List.getElem?_eq_getElem (by rw [hx6]; decide)⟩
  have m1 := (hfa 1 (by decide)).trans hx1
  simp [c64] at m1
  obtain ⟨q1, s1, _, t1⟩ := DataW.trod_int Try.underlying24 m1
  simp at s1
  obtain ⟨x2, hx2⟩ : ∃ z, xs[2]? = some z := ⟨_, List.getElem?_eq_getElem (by rw [hx6]; decide)⟩
  have m2 := (hfa 2 (by decide)).trans hx2
  simp [c64] at m2
  obtain ⟨q2, s2, _, t2⟩ := DataW.trod_int Try.underlying24 m2
  simp at s2
  obtain ⟨x3, hx3⟩ : ∃ z, xs[3]? = some z := ⟨_, List.getElem?_eq_getElem (by rw [hx6]; decide)⟩
  have m3 := (hfa 3 (by decide)).trans hx3
  simp [c64] at m3
  obtain ⟨q3, s3, _, t3⟩ := DataW.trod_int Try.underlying24 m3
  simp at s3
  obtain ⟨x4, hx4⟩ : ∃ z, xs[4]? = some z := ⟨_, List.getElem?_eq_getElem (by rw [hx6]; decide)⟩
  have m4 := (hfa 4 (by decide)).trans hx4
  simp [c64] at m4
  obtain ⟨q4, s4, _, t4⟩ := DataW.trod_int Try.underlying24 m4
  simp at s4
  obtain ⟨x5, hx5⟩ : ∃ z, xs[5]? = some z := ⟨_, List.getElem?_eq_getElem (by rw [hx6]; decide)⟩
  have m5 := (hfa 5 (by decide)).trans hx5
  simp [c64] at m5
  obtain ⟨q5, s5, _, t5⟩ := DataW.trod_int Try.underlying24 m5
  simp at s5
  subst e0 e1 e2 s0 s1 s2 s3 s4 s5
  exact ⟨⟨k0, k1, k2, q0, q1, q2, q3, q4, q5⟩, rfl⟩
theorem open_data7 {H : Type} {enc : TypeId × Value → H} {w : World} {base b0 : Nat} {r : Reach} {spare : Nat → Bool} {held : Bool} {v : Value} {d : DataW H} {ps : List MemPlace} (hv : Value.okWide Try.prog w r b0 34 v) (h : DataW.Trod enc Try.prog w base spare held 34 v d ps) : ∃ x : D9, v = x.val := by
  obtain ⟨cs, rfl, hs⟩ := okWide_struct Try.underlying34 hv
  obtain ⟨n, hn⟩ := h
  obtain ⟨x, hx⟩ : ∃ x : D9, cs.toList = x.cells := data_cells7 n cs.toList _ hn
  refine ⟨x, ?_⟩
  obtain ⟨l⟩ := cs
  simp only at hx
  rw [hx]
  rfl
end Go.Proofs.Ytebkbcpnjknkjaa
