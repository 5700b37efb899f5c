import Derived.Test.YtkckaimefklenaaBase
import Derived.Test.YtkckaimefklenaaRows
import Derived.WalkKit
import Derived.ProofKit
import Derived.OpenShut
import Derived.ShutString
import Derived.ChangeOld
import Derived.SizedLaws
import Derived.Deep.Slices
import Derived.Deep.Fields
set_option linter.unusedVariables false
set_option linter.unusedSimpArgs false
namespace Go.Proofs.Ytkckaimefklenaa
open Go.RowKit Go.ChangeShapes Go.WideShapes Go.Deep
/-! Arguments that are slices of rows of cells: what they read as; slices that this run has made; equality of structs. -/
theorem below_gr {B : Nat} {w w1 w2 : World} (h : Below B w w1) {row : Option Nat} (hg : w1.grownBy w2 row) (hB : B ≤ w1.heap.size) (hr : ∀ k, row = some k → B ≤ k) : Below B w w2 := h.grown hg hB hr
theorem own_ge {w : World} {base : Nat} {e : TypeId} {size n : Nat} {v : Value} {xs : List Value} (h : w.ownsRow base e size v n xs) (k : Nat) (hk : v.ownBlock = some k) : base ≤ k := by
  rcases h.2 with ⟨rfl, _⟩ | ⟨g, cap, cur, rfl, hb, _⟩
  · simp [Value.ownBlock] at hk
  · have : g = k := by simpa [Value.ownBlock] using hk
    omega
theorem own_cap {w : World} {base : Nat} {e : TypeId} {size n c g : Nat} {xs : List Value} (h : w.ownsRow base e size (.slice (some ⟨g, 0, none⟩) n c) n xs) : n ≤ c := by
  rcases h.2 with ⟨h', _⟩ | ⟨g', cap, cur, h', hb, _, hc, _⟩
  · cases h'
  · injection h' with _ _ h3; omega
section
variable {P : Program} {d : Nat} {xs ys : Array Value} {f : Field} {fs : List Field} {a b : Value} {r : Bool} {w : World}
theorem eqFields_if (hn : f.name ≠ "_") (ha : (part f.type xs f.offset).run P w = .ok a w) (hb : (part f.type ys f.offset).run P w = .ok b w) (he : (Op.equalIn d f.type a b).run P w = .ok r w) :
    (Op.eqFields d xs ys (f :: fs)).run P w = if r = true then (Op.eqFields d xs ys fs).run P w else .ok false w := by
  rw [Op.eqFields]
  simp only [if_pos hn, Sem.run_bind, ha, hb, he, Result.andThen_ok]
  cases r <;> simp
end
theorem equalIn_of {P : Program} {d : Nat} {xs ys : Array Value} {w : World} {t : TypeId} {fs : Array Field} (hu : P.underlying t = some (.struct fs)) (hp : P.stoodInHeld t = false) : (Op.equalIn (d + 1) t (.agg xs) (.agg ys)).run P w = (Op.eqFields d xs ys fs.toList).run P w := by
  have hf : P.fieldsOf t = fs := by simp [Program.fieldsOf, hu]
  rw [run_equalIn_struct (P := P) w d t xs ys (by rw [hf]; exact hu) hp, hf]
theorem cell_plain {w : World} {a : Addr} {v : Value} (h : w.cell? a = some v) : a = ⟨a.block, a.off, none⟩ ∧ a.block < w.heap.size := by
  refine ⟨?_, World.block_lt_of_cell? w a h⟩
  obtain ⟨b, o, s⟩ := a
  unfold World.cell? at h
  dsimp only at h ⊢
  cases s with
  | none => rfl
  | some s =>
    split at h
    · simp at h
    · cases h
theorem open_rows {α : Type} {H : Type} {enc : TypeId × Value → H} {P : Program} {w : World} {base : Nat} {spare : Nat → Bool} {held : Bool} {t e : TypeId} {a : Option Addr} {len cap : Nat} {d : DataW H} {ps : List MemPlace}
    {ts : List TypeId} {ds : List (DataW H)} {j : Nat} (cells : α → List Value) (ok : α → Prop) (size B : Nat)
    (ht : P.underlying t = some (.slice e)) (hC : P.cellsOf e = size) (hs0 : 0 < size) (hlen : ∀ x, (cells x).length = size) (hBy : P.bytesOf e = B)
    (hel : ∀ n cs' y, DataW.trod enc P w base spare held n e cs' = some y → ∃ x : α, cs' = cells x ∧ ok x)
    (hsz : (DataW.weightsEach P ts ds).all (· ≤ reachBytes) = true) (htj : ts[j]? = some t) (hdj : ds[j]? = some d)
    (h : DataW.Trod enc P w base spare held t (.slice a len cap) d ps) :
    ∃ xs : List α, xs.length = len ∧ Reads w w.heap.size size a len (xs.flatMap cells) ∧ (∀ x ∈ xs, ok x) ∧ len ≤ cap ∧ (a = none → cap = 0) ∧ len * B ≤ 140737488351232 := by
  obtain ⟨fuel, hf⟩ := h
  rcases open_slice ht hf with ⟨hcs, _⟩ | ⟨ad, l, c, m, n, D, Pl, hcs, hb, hl, hm, hmm, hx, hi⟩
  · simp only [Value.cells, List.cons.injEq, and_true, Value.slice.injEq] at hcs
    obtain ⟨rfl, rfl, rfl⟩ := hcs
    exact ⟨[], rfl, Reads.none_, by simp, Nat.le_refl _, fun _ => rfl, by omega⟩
  · simp only [Value.cells, List.cons.injEq, and_true, Value.slice.injEq] at hcs
    obtain ⟨rfl, rfl, rfl⟩ := hcs
    have hlm : len ≤ m := by rw [hmm]; split <;> omega
    have hB : len * B ≤ 140737488351232 := by
      obtain ⟨hx1, _⟩ := Prod.mk.inj hx
      subst hx1
      have z := sized_slice hsz htj hdj ht
      rw [hBy] at z
      simp only [List.length_map, List.length_range] at z
      exact Nat.le_trans (Nat.mul_le_mul_right _ (by omega)) z
    have key : ∀ k, k ≤ len → ∃ xs : List α, xs.length = k ∧ (∀ x ∈ xs, ok x) ∧ ∀ i, i < k → ∃ x, xs[i]? = some x ∧ ∀ q u, (cells x)[q]? = some u → w.cell? (ad.add (i * size + q)) = some u := by
      intro k
      induction k with
      | zero => exact fun _ => ⟨[], rfl, by simp, fun i h => by omega⟩
      | succ k ih =>
        intro hk
        obtain ⟨xs, h1, h2, h3⟩ := ih (by omega)
        obtain ⟨cs', hc, ht'⟩ := hi k (by omega)
        rw [hC] at hc
        obtain ⟨x, rfl, hox⟩ := hel _ _ _ ht'
        obtain ⟨_, hcl, hat⟩ := World.cells?_some hc
        refine ⟨xs ++ [x], by simp [h1], ?_, fun i hik => ?_⟩
        · intro y hy
          rcases List.mem_append.1 hy with h | h
          · exact h2 y h
          · simp at h; subst h; exact hox
        · rcases Nat.lt_succ_iff_lt_or_eq.1 hik with h | rfl
          · obtain ⟨y, hy, hyc⟩ := h3 i h
            exact ⟨y, by rw [List.getElem?_append_left (by omega)]; exact hy, hyc⟩
          · refine ⟨x, by rw [List.getElem?_append_right (by omega)]; simp [h1], fun q u hu => ?_⟩
            have hq : q < size := by rw [← hlen x]; exact (List.getElem?_eq_some_iff.1 hu).1
            rw [← hu, ← hat q hq, ← Go.Deep.add_add]
    obtain ⟨xs, h1, h2, h3⟩ := key len (Nat.le_refl _)
    have hfl : ∀ (l : List α), (l.flatMap cells).length = l.length * size := by
      intro l
      induction l with
      | nil => simp
      | cons y l ih => simp only [List.flatMap_cons, List.length_append, ih, hlen, List.length_cons]; rw [Nat.add_one_mul]; omega
    have hget : ∀ (l : List α) i x q, l[i]? = some x → q < size → (l.flatMap cells)[i * size + q]? = (cells x)[q]? := by
      intro l
      induction l with
      | nil => intro i x q h; simp at h
      | cons y l ih =>
        intro i x q h hq
        simp only [List.flatMap_cons]
        cases i with
        | zero => simp at h; subst h; rw [List.getElem?_append_left (by rw [hlen]; omega)]; simp
        | succ i =>
          simp at h
          rw [List.getElem?_append_right (by rw [hlen, Nat.add_one_mul]; omega), hlen, ← ih i x q h hq]
          congr 1; rw [Nat.add_one_mul]; omega
    refine ⟨xs, h1, ⟨by rw [hfl, h1], fun hn => ?_⟩, h2, hl, (fun h => by cases h), hB⟩
    obtain ⟨x0, hx0, hc0⟩ := h3 0 hn
    have hz : 0 < (cells x0).length := by rw [hlen]; exact hs0
    have hc00 := hc0 0 _ (List.getElem?_eq_getElem hz)
    have had : (ad.add (0 * size + 0)) = ad := by simp [Addr.add]
    rw [had] at hc00
    obtain ⟨hp, hlt⟩ := cell_plain hc00
    refine ⟨ad.block, ad.off, by rw [← hp], hlt, fun q u hu => ?_⟩
    have hq := (List.getElem?_eq_some_iff.1 hu).1
    rw [hfl, h1] at hq
    have hi' : q / size < len := Nat.div_lt_of_lt_mul (by rw [Nat.mul_comm]; exact hq)
    obtain ⟨x, hx', hxc⟩ := h3 (q / size) hi'
    have hqe : q / size * size + q % size = q := by rw [Nat.mul_comm]; exact Nat.div_add_mod q size
    have hg := hget xs (q / size) x (q % size) hx' (Nat.mod_lt _ hs0)
    rw [hqe, hu] at hg
    have := hxc (q % size) u hg.symm
    rw [hqe] at this
    rw [← add_plain, ← hp]
    exact this
theorem wf_u16 {n : Int} (h : (Lit.int .u16 n).wf = true) : 0 ≤ n ∧ n < 65536 := by simp [Lit.wf, IntKind.min, IntKind.max, IntKind.bits, IntKind.signed] at h; omega
theorem wf_u8 {n : Int} (h : (Lit.int .u8 n).wf = true) : 0 ≤ n ∧ n < 256 := by simp [Lit.wf, IntKind.min, IntKind.max, IntKind.bits, IntKind.signed] at h; omega
theorem wf_u32 {n : Int} (h : (Lit.int .u32 n).wf = true) : 0 ≤ n ∧ n < 4294967296 := by simp [Lit.wf, IntKind.min, IntKind.max, IntKind.bits, IntKind.signed] at h; omega
theorem wf_i64 {n : Int} (h : (Lit.int .i64 n).wf = true) : -9223372036854775808 ≤ n ∧ n ≤ 9223372036854775807 := by simp [Lit.wf, IntKind.min, IntKind.max, IntKind.bits, IntKind.signed] at h; omega
theorem wf_u64 {n : Int} (h : (Lit.int .u64 n).wf = true) : 0 ≤ n ∧ n < 18446744073709551616 := by simp [Lit.wf, IntKind.min, IntKind.max, IntKind.bits, IntKind.signed] at h; omega
theorem int_cells {H : Type} {enc : TypeId × Value → H} {P : Program} {w : World} {base : Nat} {spare : Nat → Bool} {held : Bool} {e : TypeId} {k : IntKind} {ok : Int → Prop} (he : P.underlying e = some (.int k)) (hok : ∀ {n : Int}, (Lit.int k n).wf = true → ok n)
    (n : Nat) (cs : List Value) (y : DataW H × List MemPlace) (h : DataW.trod enc P w base spare held n e cs = some y) : ∃ x : Int, cs = [Value.int k x] ∧ ok x := by
  obtain ⟨x, e0, _, w0⟩ := DataW.trod_int he h
  exact ⟨x, e0, hok w0⟩
theorem reads_num {w : World} {B n : Nat} {A : Option Addr} {k : IntKind} {l : List Int} (h : Reads w B 1 A n (l.flatMap fun x : Int => [Value.int k x])) : Reads w B 1 A n (numV k l) := by
  have : numV k l = l.flatMap fun x : Int => [Value.int k x] := by rw [numV, List.map_eq_flatMap]
  rwa [this]
theorem ownNone : ownKnob Try.prog.godebug = none := by kernel_rfl
theorem laidOutB_ : laidOutB Try.prog = true := by kernel_rfl
end Go.Proofs.Ytkckaimefklenaa
