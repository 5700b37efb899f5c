import Derived.Test.YtapmpegblfcknaaFlowRR
import Derived.Test.YtapmpegblfcknaaFlowBlkW
import Derived.Deep.RegionLaw
import Derived.Deep.DeepCutAuto
import Derived.Deep.CutBlock
set_option linter.unusedVariables false
set_option linter.unusedSimpArgs false
namespace Go.Proofs.Ytapmpegblfcknaa
open Go.RowKit Go.Shelf
/-! The reference's Blocks: the walk. -/
def inTo (q : List I4) (k : Nat) : List Nat := (List.range k).foldl (fun n i => if rch q i then bumpN n (nextQ q i) else n) (List.replicate q.length 0)
theorem inTo_succ (q : List I4) (k : Nat) : inTo q (k + 1) = if rch q k then bumpN (inTo q k) (nextQ q k) else inTo q k := by unfold inTo; rw [List.range_succ, List.foldl_append]; rfl
theorem inTo_len (q : List I4) : ∀ k, (inTo q k).length = q.length := by
  intro k
  induction k with
  | zero => simp [inTo]
  | succ k ih => rw [inTo_succ]; split <;> simp [bumpN_len, ih]
theorem inTo_get {q : List I4} (hok : ∀ x ∈ q, x.ok) {j : Nat} (h0 : 0 < j) (hj : j < q.length) : ∀ k, k ≤ q.length → (inTo q k).getD j 0 = (intoTo q k).getD j 0 := by
  intro k
  induction k with
  | zero =>
    intro _
    show (List.replicate q.length 0).getD j 0 = ((List.replicate q.length 0).modify 0 (· + 1)).getD j 0
    rw [getD_modify_eq _ _ _ (by simpa using hj), if_neg (by omega)]; rfl
  | succ k ih =>
    intro hk
    have e := intoTo_at hok (i := k) (k := k) (by omega) (Nat.le_refl _) (by omega)
    rw [inTo_succ, intoTo_succ]
    unfold intoStep
    by_cases h : rch q k
    · rw [if_pos h, if_neg (by rw [e]; exact h), bumpN_get _ _ _ (by rw [inTo_len]; exact hj), bumpN_get _ _ _ (by rw [intoTo_len]; exact hj), ih (by omega)]
    · rw [if_neg h, if_pos (by rw [e]; simpa [rch] using h), ih (by omega)]
theorem bumpN_snoc (n ts : List Nat) (t : Nat) : bumpN n (ts ++ [t]) = (bumpN n ts).modify t (· + 1) := by unfold bumpN; rw [List.foldl_append]; rfl
theorem inTo_le (q : List I4) (j : Nat) : ∀ k, (inTo q k).getD j 0 ≤ 2 * k := by
  intro k
  induction k with
  | zero =>
    show (List.replicate q.length 0).getD j 0 ≤ _
    rw [List.getD_eq_getElem?_getD, List.getElem?_replicate]; split <;> simp
  | succ k ih =>
    rw [inTo_succ]; split
    · have h := bumpN_le (nextQ q k) (inTo q k) j
      have := nextQ_len q k
      omega
    · omega
theorem reachV_at (q : List I4) (j : Nat) : (reachV q).getD j false = decide (rch q j) := by
  have h := rcTo_at q q.length j
  show (rcTo q q.length).getD j false = _
  rw [h]
  by_cases h1 : rch q j
  · rw [decide_eq_true h1, decide_eq_true (by unfold rch intoP at h1; omega)]
  · rw [decide_eq_false h1, decide_eq_false (by unfold rch intoP at h1; omega)]
theorem goes_all {q : List I4} (h0 : (checkP q).1 = 0) {k : Nat} (hk : 0 < k) {x : I4} (hx : q[k - 1]? = some x) : goesP q k ↔ rch q (k - 1) ∧ nextQ q (k - 1) = [k] ∧ memC x.c jumpL = false ∧ x.c ≠ 5 ∧ (intoP q).getD k 0 = 1 := by
  have h := goes_iff h0 hx
  rw [show k - 1 + 1 = k by omega] at h
  unfold goesP
  rw [h]
  constructor
  · rintro ⟨_, a, ⟨b, c, d⟩, e⟩; exact ⟨a, b, c, d, e⟩
  · rintro ⟨a, b, c, d, e⟩; exact ⟨hk, a, ⟨b, c, d⟩, e⟩
/-- Does an instruction go on? As the walk knows it. -/
def GoesRel (q : List I4) (k : Nat) (wr : World) (s : Value) (wc : World) : Prop := ∃ b : Bool, s = .bool b ∧ Hid ((b = true ↔ goesP q k) ∧ Below wr.heap.size wr wc)
theorem GoesRel.no {q : List I4} {k : Nat} {wr wc : World} (h : ¬ goesP q k) (hb : Below wr.heap.size wr wc) : GoesRel q k wr (.bool false) wc := ⟨false, rfl, Lib.hid ⟨⟨(fun x => by cases x), fun x => absurd x h⟩, hb⟩⟩
theorem GoesRel.yes {q : List I4} {k : Nat} {wr wc : World} (h : goesP q k) (hb : Below wr.heap.size wr wc) : GoesRel q k wr (.bool true) wc := ⟨true, rfl, Lib.hid ⟨⟨fun _ => h, fun _ => rfl⟩, hb⟩⟩
/-- What lies in memory while blocks are found. -/
structure RbL (q : List I4) (g1 g2 H : Nat) (w : World) (k : Nat) (nu : List Nat) (vl : Value) (done : List (Nat × Nat)) (W : World) : Prop where
  inv : RInv q k done nu
  reach : BoRow w.heap.size w.heap.size q.length (reachV q) W
  into : NRow w.heap.size g1 q.length (inTo q q.length) W
  nrow : NRow w.heap.size g2 q.length nu W
  row : W.ownsRow H 52 3 vl done.length (rowB done)
  sz : H ≤ W.heap.size
  below : Below w.heap.size w W
section
variable {q : List I4} {g1 g2 H : Nat} {w : World} {k : Nat} {nu : List Nat} {vl : Value} {done : List (Nat × Nat)} {W W' : World}
theorem RInv.bound {q : List I4} {k : Nat} {done : List (Nat × Nat)} {nu : List Nat} (h : RInv q k done nu) : done.length ≤ q.length := by
  have hb := blocks_le q (intoP q) q.length 0
  rcases h.split with ⟨f, f1, f2, f3⟩ | ⟨pre, s, f, rfl, h2, h3, h4, h5, h6, h7⟩
  · have := congrArg List.length f2; unfold blocksQ at this; simp at this; omega
  · have := congrArg List.length h7; unfold blocksQ at this; simp at this ⊢; omega
theorem RbL.keep (h : RbL q g1 g2 H w k nu vl done W) (hb : Below W.heap.size W W') : RbL q g1 g2 H w k nu vl done W' :=
  ⟨h.inv, h.reach.keep hb, h.into.keep hb, h.nrow.keep hb, below_own h.row hb, Nat.le_trans h.sz hb.size, below_t h.below hb⟩
theorem RbL.skip (h : RbL q g1 g2 H w k nu vl done W) (h0 : (checkP q).1 = 0) (hk : k < q.length) (hr : ¬ rch q k) : RbL q g1 g2 H w (k + 1) nu vl done W :=
  ⟨h.inv.skip h0 hk hr, h.reach, h.into, h.nrow, h.row, h.sz, h.below⟩
theorem rowB_len (ps : List (Nat × Nat)) : (rowB ps).length = ps.length * 3 := by
  induction ps with
  | nil => rfl
  | cons p ps ih => simp only [rowB, List.flatMap_cons, List.length_append, List.length_cons, List.length_nil] at ih ⊢; omega
theorem rowB_set (pre : List (Nat × Nat)) (s e e' : Nat) : (rowB (pre ++ [(s, e)])).set (pre.length * 3 + 1) (.int .i64 e') = rowB (pre ++ [(s, e')]) := by
  rw [rowB_snoc, rowB_snoc, List.set_append_right _ _ (by rw [rowB_len]; omega), rowB_len, show pre.length * 3 + 1 - pre.length * 3 = 1 by omega]; rfl
/-- The last block goes on. -/
theorem RbL.goes {pre : List (Nat × Nat)} {s gl cl : Nat} (h : RbL q g1 g2 H w k nu (.slice (some ⟨gl, 0, none⟩) (pre.length + 1) cl) (pre ++ [(s, k)]) W) (hi : RInv q (k + 1) (pre ++ [(s, k + 1)]) (nu.set k pre.length)) (hg2 : g2 < H) (hg1 : g1 < g2) (hw : w.heap.size < g1) :
    RbL q g1 g2 H w (k + 1) (nu.set k pre.length) (.slice (some ⟨gl, 0, none⟩) (pre.length + 1) cl) (pre ++ [(s, k + 1)]) ((W.setCell ⟨gl, pre.length * 3 + 1, none⟩ (.int .i64 ((k : Int) + 1))).setCell ⟨g2, k, none⟩ (.int .i64 pre.length)) := by
  have hgl := own_ge h.row gl (by simp [Value.ownBlock])
  have hr0 := h.row
  rw [show (pre ++ [(s, k)]).length = pre.length + 1 by simp] at hr0
  have h1 := (hr0.stored (pre.length * 3 + 1) (.int .i64 ((k : Int) + 1))).1
  have e := rowB_set pre s k (k + 1)
  rw [show (((k + 1 : Nat)) : Int) = (k : Int) + 1 by omega] at e
  rw [e] at h1
  refine ⟨hi, (h.reach.other (a := ⟨gl, _, none⟩) (show gl ≠ w.heap.size by omega) _).other (a := ⟨g2, _, none⟩) (show g2 ≠ w.heap.size by omega) _, (h.into.other (a := ⟨gl, _, none⟩) (show gl ≠ g1 by omega) _).other (a := ⟨g2, _, none⟩) (show g2 ≠ g1 by omega) _, (h.nrow.other (a := ⟨gl, _, none⟩) (show gl ≠ g2 by omega) _).set k _, ?_, by simpa using h.sz, (h.below.setCell (p := ⟨gl, _, none⟩) (show w.heap.size ≤ gl by omega) _).setCell (p := ⟨g2, _, none⟩) (show w.heap.size ≤ g2 by omega) _⟩
  have h2 := ownsRow_setCell_other h1 (a := ⟨g2, k, none⟩) (by simp [Value.ownBlock]; omega) (.int .i64 pre.length)
  simp only [List.length_append, List.length_cons, List.length_nil, Nat.zero_add] at h2 ⊢
  exact h2
/-- A new block. -/
theorem RbL.new {w3 : World} {o : Obj} {v' : Value} (h : RbL q g1 g2 H w k nu vl done W) (hi : RInv q (k + 1) (done ++ [(k, k + 1)]) (nu.set k done.length)) (hg2 : g2 < H) (hg1 : g1 < g2) (hw : w.heap.size < g1)
    (hg : (W.alloc o).grownBy w3 vl.ownBlock) (hown : w3.ownsRow H 52 3 v' (done.length + 1) (rowB done ++ [.int .i64 k, .int .i64 ((k : Int) + 1), .slice none 0 0])) :
    RbL q g1 g2 H w (k + 1) (nu.set k done.length) v' (done ++ [(k, k + 1)]) (w3.setCell ⟨g2, k, none⟩ (.int .i64 done.length)) := by
  have hov := own_ge h.row
  have hne : ∀ b, b < H → some b ≠ vl.ownBlock := fun b hb e => by have := hov b e.symm; omega
  have e : rowB (done ++ [(k, k + 1)]) = rowB done ++ [.int .i64 k, .int .i64 ((k : Int) + 1), .slice none 0 0] := by
    rw [rowB_snoc, show (((k + 1 : Nat)) : Int) = (k : Int) + 1 by omega]
  refine ⟨hi, ((h.reach.alloc o).grow hg (hne _ (by omega))).other (a := ⟨g2, _, none⟩) (show g2 ≠ w.heap.size by omega) _, ((h.into.alloc o).grow hg (hne _ (by omega))).other (a := ⟨g2, _, none⟩) (show g2 ≠ g1 by omega) _, ((h.nrow.alloc o).grow hg (hne _ (by omega))).set k _, ?_, ?_, ?_⟩
  · rw [e, List.length_append]
    exact ownsRow_setCell_other hown (fun e => by have := own_ge hown g2 e; omega) _
  · have := hg.size; have := h.sz; simp at *; omega
  · exact (below_gr (h.below.alloc h.below.size o) hg (by have := h.below.size; simp; omega) (fun b hb => by have := hov b hb; omega)).setCell (p := ⟨g2, _, none⟩) (show w.heap.size ≤ g2 by omega) _
end
/-- What lies in memory while blocks are told where they lead. -/
structure RbN (g2 H H3 : Nat) (q : List I4) (ps : List (Nat × Nat)) (nu : List Nat) (Al : Option Addr) (cl : Nat) (w : World) (vs : List Value) (i i' : Nat) (W : World) : Prop where
  nrow : NRow w.heap.size g2 q.length nu W
  row : W.ownsRow H 52 3 (.slice Al ps.length cl) ps.length (blkV ps vs)
  len : vs.length = ps.length
  nils : ∀ j, i' ≤ j → j < ps.length → vs[j]? = some (.slice none 0 0)
  rows : NextRows H3 (nextsQ q ps nu) vs i W
  below : Below w.heap.size w W
  sz : H3 ≤ W.heap.size
section
variable {g2 H H3 : Nat} {q : List I4} {ps : List (Nat × Nat)} {nu : List Nat} {Al : Option Addr} {cl : Nat} {w : World} {vs : List Value} {i i' : Nat} {W W' : World}
theorem RbN.keep (h : RbN g2 H H3 q ps nu Al cl w vs i i' W) (hb : Below W.heap.size W W') : RbN g2 H H3 q ps nu Al cl w vs i i' W' :=
  ⟨h.nrow.keep hb, below_own h.row hb, h.len, h.nils, fun j v h1 h2 => below_own (h.rows j v h1 h2) hb, below_t h.below hb, Nat.le_trans h.sz hb.size⟩
theorem RbN.next {HH gl : Nat} {v v' : Value} {n : Nat} {xs : List Value} {o : Obj} {w4 : World} (h : RbN g2 H H3 q ps nu (some ⟨gl, 0, none⟩) cl w (vs.set i v) i i' W) (hil : i < ps.length) (hii : i < i') (h4 : g2 < H) (hgl : gl < H3) (hw : w.heap.size ≤ g2) (h3 : H3 ≤ HH) (hH3 : H ≤ H3) (hHH : HH ≤ W.heap.size) (hv : W.ownsRow HH 3 1 v n xs) (hlt : ∀ j u, j < i → vs[j]? = some u → ∀ k, u.ownBlock = some k → k < HH)
    (hg : (W.alloc o).grownBy w4 v.ownBlock) : RbN g2 H H3 q ps nu (some ⟨gl, 0, none⟩) cl w (vs.set i v') i i' (w4.setCell ⟨gl, i * 3 + 2, none⟩ v') := by
  have hov := own_ge hv
  have hlg := own_ge h.row gl (by simp [Value.ownBlock])
  have hlen : vs.length = ps.length := by have := h.len; simpa using this
  refine ⟨⟨h.nrow.1, ?_⟩, ?_, by simpa using hlen, fun j h1 h2 => ?_, fun j u h1 h2 => ?_, ?_, by have := hg.size; have := h.sz; simp at *; omega⟩
  · exact ownsRow_setCell_other ((h.nrow.2.alloc o).kept hg (.inr (fun e => by have := hov g2 e.symm; omega))) (by simp [Value.ownBlock]; omega) _
  · have h1 := (((h.row.alloc o).kept hg (.inr (fun e => by have := hov gl e.symm; omega))).stored (i * 3 + 2) v').1
    rw [blkV_set _ _ _ _ hil h.len, List.set_set] at h1
    exact h1
  · have := h.nils j h1 h2
    rw [List.getElem?_set_ne (by omega)] at this ⊢
    exact this
  · rw [List.getElem?_set_ne (by omega)] at h2
    have h3' := h.rows j u h1 (by rw [List.getElem?_set_ne (by omega)]; exact h2)
    refine ownsRow_setCell_other ((h3'.alloc o).kept hg ?_) (fun e => by have := own_ge h3' gl e; omega) _
    cases hu : u.ownBlock with
    | none => exact .inl rfl
    | some k => exact .inr (fun e => by have h5 := hlt j u h1 h2 k hu; have := hov k e.symm; omega)
  · exact (((h.below.alloc h.below.size o).grown hg (by have := h.below.size; simp; omega) (fun k hk => by have := hov k hk; omega))).setCell (p := ⟨gl, i * 3 + 2, none⟩) (show w.heap.size ≤ gl by omega) v'
end
set_option maxRecDepth 100000 in
set_option maxHeartbeats 6400000 in
theorem rBlocks_c (A : Option Addr) (cap : Nat) (q : List I4) (h0 : (checkP q).1 = 0) (hok : ∀ x ∈ q, x.ok) (w : World) (hr : Reads w w.heap.size 4 A q.length (cellsI q)) :
    Calls Try.prog 33 #[.slice A q.length cap] w (BlksPost w q) := by
  obtain ⟨a1, a2, -, -⟩ := acc_facts h0
  have HRR := Lib.hid (rReach_c A cap q h0 hok w hr)
  have HR := Lib.hid hr
  have HOK := Lib.hid hok
  have H0 := Lib.hid h0
  clear hr hok h0
  obtain ⟨i0, HI⟩ : ∃ i0, Hid (Try.prog.info? 3 = some i0 ∧ i0.zero = some (.int .i64 0) ∧ i0.size = 1 ∧ i0.bytes = 8) := by
    obtain ⟨i0, hi, hz0, hz1, hz2⟩ := info_parts infoInt
    exact ⟨i0, Lib.hid ⟨hi, hz0, hz1, hz2⟩⟩
  obtain ⟨i1, HI1⟩ : ∃ i1, Hid (Try.prog.info? 52 = some i1 ∧ i1.zero = some (.agg #[.int .i64 0, .int .i64 0, .slice none 0 0]) ∧ i1.size = 3 ∧ i1.bytes = 40) := by
    obtain ⟨i1, hi, hz0, hz1, hz2⟩ := info_parts infoB
    exact ⟨i1, Lib.hid ⟨hi, hz0, hz1, hz2⟩⟩
  have hq1 : (0 : Int) < q.length := by omega
  have hq2 : (q.length : Int) ≤ 4096 := by omega
  go_enter Try.func33, Try.ntmps33
  go_wp2_with fail
  refine HRR.out.mono ?_
  rintro e w1 ⟨rfl, hB1, hb1⟩
  have hgl1 := hB1.lt a1
  have HB1 := Lib.hid hB1
  obtain ⟨w2, hrun, hown, hg⟩ := run_make_full (P := Try.prog) w1 w1.heap.size 36 3 i0 _ 1 Try.underlying36 HI.out.1 HI.out.2.1 HI.out.2.2.1 .i64 .i64 q.length (by rw [HI.out.2.2.2]; omega) (by simp only [maxLen]; omega) (Nat.le_refl _)
  have hb2 : Below w1.heap.size w1 w2 := ⟨hg.os, hg.tape, hg.output, hg.size, fun k hk => hg.block k hk (by simp)⟩
  have hrow : NRow w1.heap.size w1.heap.size q.length (List.replicate q.length 0) w2 := NRow.new (w := w1) hown
  have hgl2 := hrow.lt a1
  obtain ⟨g1, hg1⟩ : ∃ g1, g1 = w1.heap.size := ⟨_, rfl⟩
  have HS : Hid (NRow w.heap.size g1 q.length (inTo q 0) w2 ∧ BoRow w.heap.size w.heap.size q.length (reachV q) w2 ∧ Below w.heap.size w w2) := Lib.hid (by rw [hg1]; exact ⟨⟨hrow.1, own_base hrow.2 hb1.size⟩, hB1.keep hb2, below_t hb1 hb2⟩)
  rw [← hg1] at hgl1 hgl2
  clear hown hg hrow hb2 hB1 HB1 hb1
  go_wp2_with fail
  rw [← hg1]
  have HG1 := Lib.hid hg1
  clear hrun hg1
  go_loopw [5] (fun i wr => ∃ n : Nat, n ≤ q.length ∧ i = .int .i64 n ∧ Hid (NRow w.heap.size g1 q.length (inTo q n) wr ∧ BoRow w.heap.size w.heap.size q.length (reachV q) wr ∧ Below w.heap.size w wr)) (fun i _ => q.length - (intOf i).toNat)
  case atStart => exact ⟨0, by omega, rfl, HS⟩
  case round =>
    obtain ⟨n, hn, rfl, HW⟩ := hrel
    clear HS
    rcases Nat.lt_or_ge n q.length with hnl | hnl
    · have hnl' : (n : Int) < q.length := by omega
      go_wp2_with fail
      refine (rNext_c A cap q n hnl HOK.out (by omega) wr (HR.out.up HW.out.2.2)).mono ?_
      rintro e w3 hP
      obtain ⟨An, cn, rfl, HRn, hb3⟩ := hP.row
      have hgl := HW.out.1.lt a1
      obtain ⟨L, hL⟩ : ∃ L, L = nextQ q n := ⟨_, rfl⟩
      have HM : Hid (∀ t ∈ L, t < q.length) := Lib.hid (fun t ht => (nextQ_mem HOK.out (by rw [← hL]; exact ht)).2)
      have hL2 : (L.length : Int) ≤ 2 := by have := nextQ_len q n; rw [← hL] at this; omega
      rw [← hL] at HRn ⊢
      have HL := Lib.hid hL
      obtain ⟨b, hb⟩ : ∃ b, b = decide (rch q n) := ⟨_, rfl⟩
      have HBB := Lib.hid hb
      obtain ⟨X, hX⟩ : ∃ X, X = wr.heap.size := ⟨_, rfl⟩
      rw [← hX] at HRn hgl
      have HS3 : Hid (NRow w.heap.size g1 q.length (if b = true then bumpN (inTo q n) (L.take 0) else inTo q n) w3 ∧ BoRow w.heap.size w.heap.size q.length (reachV q) w3 ∧ Below w.heap.size w w3 ∧ LRow X An cn L w3) := Lib.hid ⟨by cases b <;> exact HW.out.1.keep hb3, HW.out.2.1.keep hb3, below_t HW.out.2.2 hb3, HRn.out⟩
      clear hL hP hb3 hb hX HRn
      go_wp2_with fail
      go_loopw [7] (fun k wr2 => ∃ m : Nat, m ≤ L.length ∧ k = .int .i64 m ∧ (b = false → m = 0) ∧ Hid (NRow w.heap.size g1 q.length (if b = true then bumpN (inTo q n) (L.take m) else inTo q n) wr2 ∧ BoRow w.heap.size w.heap.size q.length (reachV q) wr2 ∧ Below w.heap.size w wr2 ∧ LRow X An cn L wr2)) (fun k _ => L.length - (intOf k).toNat)
      case atStart => exact ⟨0, by omega, rfl, fun _ => rfl, HS3⟩
      case round =>
        obtain ⟨m, hm, rfl, hm0, HW2⟩ := hrel
        clear HS3
        have cb : wr.cell? ⟨w.heap.size, n, none⟩ = some (.bool b) := by rw [HW2.out.2.1.get hnl, reachV_at]; exact congrArg (fun x => some (Value.bool x)) HBB.out.symm
        cases b with
        | false =>
          obtain rfl := hm0 rfl
          clear hm0
          have hend : Hid (NRow w.heap.size g1 q.length (inTo q (n + 1)) wr ∧ BoRow w.heap.size w.heap.size q.length (reachV q) wr ∧ Below w.heap.size w wr) := Lib.hid ⟨by rw [inTo_succ, if_neg (of_decide_eq_false HBB.out.symm)]; exact HW2.out.1, HW2.out.2.1, HW2.out.2.2.1⟩
          cases hLL : decide (0 < L.length) with
          | false =>
            have h1 : (L.length : Int) ≤ 0 := by have := of_decide_eq_false hLL; omega
            clear hLL
            go_wp2
            go_roundw
            case rel => exact ⟨n + 1, by omega, by go_num, hend⟩
            case measure => simp [intOf]; omega
          | true =>
            have h1 : (0 : Int) < L.length := by have := of_decide_eq_true hLL; omega
            clear hLL
            go_wp2
            go_roundw
            case rel => exact ⟨n + 1, by omega, by go_num, hend⟩
            case measure => simp [intOf]; omega
        | true =>
          clear hm0
          rcases Nat.lt_or_ge m L.length with hml | hml
          · obtain ⟨y, hy⟩ : ∃ y, L[m]? = some y := ⟨_, List.getElem?_eq_getElem hml⟩
            obtain ⟨gA, rfl, hgA, cy⟩ := HW2.out.2.2.2.get hy
            have hyq : (y : Int) < q.length := by have := HM.out y (List.mem_of_getElem? hy); omega
            have hyq2 : y < q.length := by omega
            have hml' : (m : Int) < L.length := by omega
            obtain ⟨v, hv⟩ : ∃ v, v = (bumpN (inTo q n) (L.take m)).getD y 0 := ⟨_, rfl⟩
            have hrow := HW2.out.1
            rw [if_pos rfl] at hrow
            have c1 := hrow.get hyq2
            rw [← hv] at c1
            have f1 := hrow.free y
            have hvb : (v : Int) ≤ 10000 := by
              have h1 := bumpN_le (L.take m) (inTo q n) y
              have h2 := inTo_le q y n
              have h3 : (L.take m).length ≤ 2 := by rw [List.length_take]; omega
              omega
            have HY := Lib.hid (take_snocN hy)
            have HN2 : Hid (NRow w.heap.size g1 q.length (bumpN (inTo q n) (L.take (m + 1))) (wr.setCell ⟨g1, y, none⟩ (.int .i64 ((v : Int) + 1))) ∧ BoRow w.heap.size w.heap.size q.length (reachV q) (wr.setCell ⟨g1, y, none⟩ (.int .i64 ((v : Int) + 1))) ∧ Below w.heap.size w (wr.setCell ⟨g1, y, none⟩ (.int .i64 ((v : Int) + 1))) ∧ LRow X (some ⟨gA, 0, none⟩) cn L (wr.setCell ⟨g1, y, none⟩ (.int .i64 ((v : Int) + 1)))) :=
              Lib.hid ⟨by rw [HY.out, bumpN_snoc, hv]; exact hrow.bump hyq2, HW2.out.2.1.other (a := ⟨g1, y, none⟩) (show g1 ≠ w.heap.size by omega) _, HW2.out.2.2.1.setCell (p := ⟨g1, y, none⟩) (show w.heap.size ≤ g1 by omega) _, HW2.out.2.2.2.other (a := ⟨g1, y, none⟩) (show g1 < X by omega) _⟩
            clear hy hrow hv
            go_wp2
            go_roundw
            case rel => exact ⟨m + 1, by omega, by go_num, (fun h => by cases h), HN2⟩
            case measure => simp [intOf]; omega
          · obtain rfl : m = L.length := by omega
            have hend : Hid (NRow w.heap.size g1 q.length (inTo q (n + 1)) wr ∧ BoRow w.heap.size w.heap.size q.length (reachV q) wr ∧ Below w.heap.size w wr) := Lib.hid ⟨by rw [inTo_succ, if_pos (of_decide_eq_true HBB.out.symm), ← HL.out]; have := HW2.out.1; rw [if_pos rfl, List.take_length] at this; exact this, HW2.out.2.1, HW2.out.2.2.1⟩
            go_wp2
            go_roundw
            case rel => exact ⟨n + 1, by omega, by go_num, hend⟩
            case measure => simp [intOf]; omega
    · obtain rfl : n = q.length := by omega
      obtain ⟨W4, hrun, hown, hg⟩ := run_make_full (P := Try.prog) wr wr.heap.size 36 3 i0 _ 1 Try.underlying36 HI.out.1 HI.out.2.1 HI.out.2.2.1 .i64 .i64 q.length (by rw [HI.out.2.2.2]; omega) (by simp only [maxLen]; omega) (Nat.le_refl _)
      have hb4 : Below wr.heap.size wr W4 := ⟨hg.os, hg.tape, hg.output, hg.size, fun k hk => hg.block k hk (by simp)⟩
      have hrow : NRow wr.heap.size wr.heap.size q.length (List.replicate q.length 0) W4 := NRow.new (w := wr) hown
      have hgl4 := hrow.lt a1
      obtain ⟨g2, hg2⟩ : ∃ g2, g2 = wr.heap.size := ⟨_, rfl⟩
      have hg12 : g1 < g2 := by rw [hg2]; exact HW.out.1.lt a1
      obtain ⟨H, hH⟩ : ∃ H, H = W4.heap.size := ⟨_, rfl⟩
      have HS : Hid (RbL q g1 g2 H w 0 (List.replicate q.length 0) (.slice none 0 0) [] W4) := Lib.hid (by
        rw [hg2, hH]
        exact ⟨RInv.zero, HW.out.2.1.keep hb4, HW.out.1.keep hb4, ⟨hrow.1, own_base hrow.2 HW.out.2.2.size⟩, World.ownsRow_nil _ _ _ _, Nat.le_refl _, below_t HW.out.2.2 hb4⟩)
      rw [← hg2] at hgl4
      rw [← hH] at hgl4
      clear hown hg hrow hb4 HW hH
      go_wp2_with fail
      rw [← hg2]
      clear hrun hg2
      go_loopw [9, 10] (fun vl i wr => ∃ (k : Nat) (nu : List Nat) (done : List (Nat × Nat)), k ≤ q.length ∧ i = .int .i64 k ∧ Hid (RbL q g1 g2 H w k nu vl done wr)) (fun _ i _ => q.length - (intOf i).toNat)
      case atStart => exact ⟨0, _, _, by omega, rfl, HS⟩
      case round =>
        obtain ⟨k, nu, done, hk, rfl, HW⟩ := hrel
        clear HS
        obtain ⟨Al, cl, rfl⟩ := own_slice HW.out.row
        have hdl : (done.length : Int) ≤ 4096 := by have := HW.out.inv.bound; omega
        rcases Nat.lt_or_ge k q.length with hkl | hkl
        · have hkl' : (k : Int) < q.length := by omega
          have cr := HW.out.reach.get hkl
          rw [reachV_at] at cr
          by_cases hrk : rch q k
          · rw [decide_eq_true hrk] at cr
            have HRK := Lib.hid hrk
            clear hrk
            go_upto_region 18 with (fail)
            go_cut [74] (fun s wc => s = .bool (decide (0 < k ∧ rch q (k - 1))) ∧ wr = wc)
            case first =>
              rcases Nat.eq_zero_or_pos k with hk0 | hk0
              · subst hk0
                go_wp2
                go_meet
                exact ⟨by simp, rfl⟩
              · obtain ⟨p, hp⟩ : ∃ p, k = p + 1 := ⟨k - 1, by omega⟩
                have hpe : (k : Int) - 1 = p := by omega
                have hpl : p < q.length := by omega
                have hpl' : (p : Int) < q.length := by omega
                have cp := HW.out.reach.get hpl
                rw [reachV_at] at cp
                have hk0' : (0 : Int) < k := by omega
                have hres : decide (0 < k ∧ rch q (k - 1)) = decide (rch q p) := by rw [show k - 1 = p by omega]; simp [hk0]
                have HRES := Lib.hid hres
                clear hres hp
                go_wp2
                go_meet
                exact ⟨by rw [HRES.out], rfl⟩
            case rest =>
              obtain ⟨rfl, rfl⟩ := hcut
              go_upto_if 74 with (fail)
              go_cut [11] (GoesRel q k wr)
              case first =>
                by_cases hb : 0 < k ∧ rch q (k - 1)
                · rw [decide_eq_true hb]
                  obtain ⟨hk0, hrp⟩ := hb
                  obtain ⟨p, hp⟩ : ∃ p, k = p + 1 := ⟨k - 1, by omega⟩
                  have hpe : (k : Int) - 1 = p := by omega
                  have hpl : p < q.length := by omega
                  have hpl' : (p : Int) < q.length := by omega
                  have hkp : k - 1 = p := by omega
                  obtain ⟨x, hx⟩ : ∃ x, q[p]? = some x := ⟨_, List.getElem?_eq_getElem hpl⟩
                  have HGA := Lib.hid (goes_all H0.out hk0 (by rw [hkp]; exact hx))
                  rw [hkp] at HGA hrp
                  have HRP := Lib.hid hrp
                  obtain ⟨bA, oA, rfl, hbA, y0, y1, y2, y3⟩ := (HR.out.up HW.out.below).insn hx
                  clear hp hkp hk0 hrp y1 y2 y3
                  go_wp2_with fail
                  refine (rNext_c (some ⟨bA, oA, none⟩) cap q p hpl HOK.out (by omega) wr (HR.out.up HW.out.below)).mono ?_
                  rintro e w3 hP
                  obtain ⟨An, cn, rfl, HRn, hb3⟩ := hP.row
                  have HB3 := Lib.hid hb3
                  obtain ⟨L, hL⟩ : ∃ L, L = nextQ q p := ⟨_, rfl⟩
                  have hL2 : (L.length : Int) ≤ 2 := by have := nextQ_len q p; rw [← hL] at this; omega
                  rw [← hL] at HRn ⊢
                  rw [← hL] at HGA
                  have y0' := keepC hb3 y0
                  clear hL hP hb3 y0 hx
                  go_wp2_with fail
                  refine (Jump_c x.c _).mono ?_
                  rintro e w4 ⟨rfl, rfl⟩
                  obtain ⟨z, hz⟩ : ∃ z, z = (inTo q q.length).getD k 0 := ⟨_, rfl⟩
                  have hze : z = (intoP q).getD k 0 := by rw [hz, inTo_get HOK.out (by omega) hkl q.length (Nat.le_refl _)]; rfl
                  have cz := (HW.out.into.keep HB3.out).get hkl
                  rw [← hz] at cz
                  have HZ := Lib.hid hze
                  clear hz hze
                  by_cases h1 : L.length = 1
                  · obtain ⟨y, hy⟩ : ∃ y, L[0]? = some y := ⟨_, List.getElem?_eq_getElem (by omega)⟩
                    obtain ⟨gA, rfl, hgA, cy⟩ := HRn.out.get hy
                    have t1 : ((L.length : Int) == 1) = true := by rw [h1]; rfl
                    have hpos : (0 : Int) < L.length := by omega
                    have HLY : Hid (L = [y]) := Lib.hid (by
                      match L, h1, hy with
                      | [a], _, hy => simp at hy; rw [hy])
                    clear hy h1
                    by_cases h2 : y = k
                    · have t2 : ((y : Int) == k) = true := by rw [h2]; exact beq_self_eq_true _
                      have H2 := Lib.hid h2
                      clear h2
                      cases h3 : memC x.c jumpL with
                      | true =>
                        have HNG := Lib.hid (show ¬ goesP q k from fun h => by have := (HGA.out.1 h).2.2.1; rw [h3] at this; cases this)
                        clear h3
                        go_wp2
                        go_meet
                        exact GoesRel.no HNG.out HB3.out
                      | false =>
                        have H3 := Lib.hid h3
                        clear h3
                        by_cases h4 : x.c = 5
                        · have HNG := Lib.hid (show ¬ goesP q k from fun h => (HGA.out.1 h).2.2.2.1 h4)
                          have t4 : (x.c != 5) = false := by rw [h4]; rfl
                          clear h4
                          go_wp2
                          go_meet
                          exact GoesRel.no HNG.out HB3.out
                        · have t4 : (x.c != 5) = true := by simpa using h4
                          have H4 := Lib.hid h4
                          clear h4
                          by_cases h5 : z = 1
                          · have t5 : ((z : Int) == 1) = true := by rw [h5]; rfl
                            have HG := Lib.hid (HGA.out.2 ⟨HRP.out, by rw [HLY.out, H2.out], H3.out, H4.out, by rw [← HZ.out]; exact h5⟩)
                            clear h5
                            go_wp2
                            go_meet
                            exact GoesRel.yes HG.out HB3.out
                          · have t5 : ((z : Int) == 1) = false := by rw [beq_eq_false_iff_ne]; omega
                            have HNG := Lib.hid (show ¬ goesP q k from fun h => h5 (by rw [HZ.out]; exact (HGA.out.1 h).2.2.2.2))
                            clear h5
                            go_wp2
                            go_meet
                            exact GoesRel.no HNG.out HB3.out
                    · have t2 : ((y : Int) == k) = false := by rw [beq_eq_false_iff_ne]; omega
                      have HNG := Lib.hid (show ¬ goesP q k from fun h => by have := (HGA.out.1 h).2.1; rw [HLY.out] at this; injection this with this; exact h2 this)
                      clear h2
                      go_wp2
                      go_meet
                      exact GoesRel.no HNG.out HB3.out
                  · have t1 : ((L.length : Int) == 1) = false := by rw [beq_eq_false_iff_ne]; omega
                    have HNG := Lib.hid (show ¬ goesP q k from fun h => by have := (HGA.out.1 h).2.1; rw [this] at h1; exact h1 rfl)
                    clear h1
                    go_wp2
                    go_meet
                    exact GoesRel.no HNG.out HB3.out
                · rw [decide_eq_false hb]
                  have HNG := Lib.hid (show ¬ goesP q k from fun h => hb ⟨h.1, h.2.1⟩)
                  clear hb
                  go_wp2
                  go_meet
                  exact GoesRel.no HNG.out (Below.refl _ _)
              case rest =>
                obtain ⟨b, rfl, HGO⟩ := hcut
                have HWc := Lib.hid (HW.out.keep HGO.out.2)
                cases b with
                | true =>
                  have hgo : goesP q k := HGO.out.1.1 rfl
                  obtain ⟨pre, s, hd, hi⟩ := HW.out.inv.goes H0.out hkl hgo
                  subst hd
                  have hpl : pre.length ≤ 4096 := by simp at hdl; omega
                  have hrow := HWc.out.row
                  have elen : (pre ++ [(s, k)]).length = pre.length + 1 := by simp
                  rw [elen] at hrow
                  obtain ⟨gl, cl', hv, -, -⟩ := hrow.form (by omega)
                  injection hv with hv1 _ hv2
                  subst hv1 hv2
                  have ct : wc.cell? ⟨gl, pre.length * 3 + 1, none⟩ = some (.int .i64 k) := by
                    rw [hrow.cellAt _ (by omega), rowB_snoc, List.getElem?_append_right (by rw [rowB_len]; omega), rowB_len, show pre.length * 3 + 1 - pre.length * 3 = 1 by omega]; rfl
                  have ft := hrow.frozenAt (pre.length * 3 + 1)
                  have cn1 := HWc.out.nrow.get hkl
                  have fn1 := HWc.out.nrow.free k
                  have hglH := own_ge hrow gl (by simp [Value.ownBlock])
                  have HWd : Hid (RbL q g1 g2 H w k nu (.slice (some ⟨gl, 0, none⟩) (pre.length + 1) cl) (pre ++ [(s, k)]) wc) := Lib.hid (by have := HWc.out; rw [elen] at this; exact this)
                  have HN := Lib.hid (HWd.out.goes hi hgl4 hg12 hgl1)
                  rw [elen]
                  clear hgo hi hrow elen hdl HW HWc
                  have cn2 : (wc.setCell ⟨gl, pre.length * 3 + 1, none⟩ (.int .i64 ((k : Int) + 1))).cell? ⟨g2, k, none⟩ = some (.int .i64 (nu.getD k 0)) := (World.cell?_setCell_far _ _ _ _ (by show gl ≠ g2; omega)).trans cn1
                  go_wp2
                  go_roundw
                  case rel => exact ⟨k + 1, _, _, by omega, by go_num, HN⟩
                  case measure => simp [intOf]; omega
                | false =>
                  have hng : ¬ goesP q k := fun h => by have := HGO.out.1.2 h; cases this
                  have HI3 := Lib.hid (HW.out.inv.new H0.out hkl HRK.out hng)
                  have cn1 := HWc.out.nrow.get hkl
                  have fn1 := HWc.out.nrow.free k
                  clear hng HW
                  have HNEW : Hid (∀ j u, [Value.int .i64 k, .int .i64 ((k : Int) + 1), .slice none 0 0][j]? = some u → (wc.alloc (.cells #[.int .i64 k, .int .i64 ((k : Int) + 1), .slice none 0 0] 52)).cell? ((⟨wc.heap.size, 0, none⟩ : Addr).add j) = some u) := Lib.hid (fun j u hu => by
                    rw [add_plain]
                    obtain ⟨b9, o9, e9, -, hc9⟩ := (reads_new wc #[.int .i64 k, .int .i64 ((k : Int) + 1), .slice none 0 0] 52 3 1 [.int .i64 k, .int .i64 ((k : Int) + 1), .slice none 0 0] rfl rfl).2 (by decide)
                    injection e9 with e9; injection e9 with e1 e2
                    subst e1 e2
                    exact hc9 j u hu)
                  have hHc := HWc.out.sz
                  go_wp2_with (at_builtin; refine wpList_append_own _ rfl _ _ 48 rfl H 52 i1 _ 3 40 Try.underlying48 HI1.out.1 HI1.out.2.1 HI1.out.2.2.1 HI1.out.2.2.2 rfl (by decide) (.slice Al done.length cl) done.length (rowB done) rfl (HWc.out.row.alloc _) ⟨wc.heap.size, 0, none⟩ 1 1 [.int .i64 k, .int .i64 ((k : Int) + 1), .slice none 0 0] rfl rfl HNEW.out (by simp [Value.oneCell']) (by simp only [maxLen]; omega) (by omega) (by simp; omega) ?_; intro v' w5 hown' hgrow _; obtain ⟨g', cap', rfl⟩ := ownsRow_succ hown'; have HN := Lib.hid (HWc.out.new HI3.out hgl4 hg12 hgl1 hgrow hown'); have hge := own_ge HWc.out.row; have hrow5 := (HWc.out.nrow.alloc (.cells #[.int .i64 k, .int .i64 ((k : Int) + 1), .slice none 0 0] 52)).grow hgrow (fun e => by have := hge g2 e.symm; omega); have cn3 := hrow5.get hkl; have fn3 := hrow5.free k; clear hown' hgrow hge hrow5)
                  go_roundw
                  case rel => exact ⟨k + 1, _, _, by omega, by go_num, HN⟩
                  case measure => simp [intOf]; omega
          · rw [decide_eq_false hrk] at cr
            have HN := Lib.hid (HW.out.skip H0.out hkl hrk)
            clear hrk
            go_wp2
            go_roundw
            case rel => exact ⟨k + 1, nu, done, by omega, by go_num, HN⟩
            case measure => simp [intOf]; omega
        · obtain rfl : k = q.length := by omega
          have hdone : done = blocksQ q := HW.out.inv.done H0.out
          obtain ⟨ps, hps⟩ : ∃ ps, ps = blocksQ q := ⟨_, rfl⟩
          rw [← hps] at hdone
          subst hdone
          have HPS := Lib.hid hps
          have hbb : Hid (∀ p ∈ done, p.1 < p.2 ∧ p.2 ≤ q.length) := Lib.hid (by rw [hps]; exact fun p hp => by have := (parts_rise q (intoP q) (end_last H0.out) q.length 0).1 p hp; omega)
          obtain ⟨H3, hH3⟩ : ∃ H3, H3 = wr.heap.size := ⟨_, rfl⟩
          have hHH3 : H ≤ H3 := by rw [hH3]; exact HW.out.sz
          have HNUM := Lib.hid HW.out.inv.num
          have HNL := Lib.hid HW.out.inv.len
          have HS : Hid (RbN g2 H H3 q done nu Al cl w (List.replicate done.length (.slice none 0 0)) 0 0 wr) := Lib.hid
            ⟨HW.out.nrow, by rw [← rowB_eq]; exact HW.out.row, by simp, fun j _ hj => by rw [List.getElem?_replicate, if_pos hj], fun j v h => by omega, HW.out.below, by rw [hH3]; exact Nat.le_refl _⟩
          have HAL : Hid (∀ gl, (Value.slice Al done.length cl).ownBlock = some gl → gl < H3) := Lib.hid (fun gl h => by rw [hH3]; exact own_lt HW.out.row gl h)
          clear hps HW hH3
          go_wp2_with fail
          go_loopw [14] (fun i wr => ∃ (n : Nat) (vs : List Value), n ≤ done.length ∧ i = .int .i64 n ∧ Hid (RbN g2 H H3 q done nu Al cl w vs n n wr)) (fun i _ => done.length - (intOf i).toNat)
          case atStart => exact ⟨0, _, by omega, rfl, HS⟩
          case round =>
            obtain ⟨n, vs, hn, rfl, HN⟩ := hrel
            clear HS
            rcases Nat.lt_or_ge n done.length with hnl | hnl
            · have hnl' : (n : Int) < done.length := by omega
              obtain ⟨gl, cl', hAv, -⟩ := HN.out.row.form (by omega)
              injection hAv with hA1 _ hA2
              subst hA1 hA2
              have hgl : gl < H3 := HAL.out gl rfl
              obtain ⟨p, hp⟩ : ∃ p, done[n]? = some p := ⟨_, List.getElem?_eq_getElem hnl⟩
              obtain ⟨pr1, pr2⟩ := hbb.out p (List.mem_of_getElem? hp)
              obtain ⟨e, he⟩ : ∃ e, p.2 = e + 1 := ⟨p.2 - 1, by omega⟩
              have ct : wr.cell? ⟨gl, n * 3 + 1, none⟩ = some (.int .i64 ((e : Int) + 1)) := by
                rw [HN.out.row.cellAt _ (by omega), (blkV_get done vs n p _ hp (HN.out.nils n (Nat.le_refl _) hnl)).2.1, he]; rfl
              have hel : e < q.length := by omega
              have HP2 := Lib.hid hp
              have HEE := Lib.hid he
              clear hp he
              go_wp2_with fail
              refine (rNext_c A cap q e hel HOK.out (by omega) wr (HR.out.up HN.out.below)).mono ?_
              rintro e0 w5 hP
              obtain ⟨An, cn, rfl, HRn, hb5⟩ := hP.row
              obtain ⟨L, hL⟩ : ∃ L, L = nextQ q e := ⟨_, rfl⟩
              have HM : Hid (∀ t ∈ L, t < q.length) := Lib.hid (fun t ht => (nextQ_mem HOK.out (by rw [← hL]; exact ht)).2)
              have hL2 : (L.length : Int) ≤ 2 := by have := nextQ_len q e; rw [← hL] at this; omega
              rw [← hL] at HRn ⊢
              have HL := Lib.hid hL
              obtain ⟨HH, hHH⟩ : ∃ HH, HH = w5.heap.size := ⟨_, rfl⟩
              have h3H : H3 ≤ wr.heap.size := HN.out.sz
              have hN1 : RbN g2 H H3 q done nu (some ⟨gl, 0, none⟩) cl w (vs.set n (.slice none 0 0)) n (n + 1) w5 := by
                have h := HN.out.keep hb5
                have e1 : vs.set n (.slice none 0 0) = vs := by
                  have h1 := HN.out.nils n (Nat.le_refl _) hnl
                  refine List.ext_getElem? fun j => ?_
                  rw [List.getElem?_set]
                  split
                  · rename_i e2; subst e2; rw [if_pos (by rw [HN.out.len]; exact hnl), h1]
                  · rfl
                rw [e1]
                exact ⟨h.nrow, h.row, h.len, fun j h1 h2 => h.nils j (by omega) h2, h.rows, h.below, h.sz⟩
              have hlt : Hid (∀ j u, j < n → vs[j]? = some u → ∀ k, u.ownBlock = some k → k < HH) := Lib.hid (fun j u h1 h2 k hk => by have := own_lt (HN.out.rows j u h1 h2) k hk; have := hb5.size; omega)
              have h3HH : H3 ≤ HH := by have := hb5.size; omega
              have hlnL : ∀ k, (Value.slice An L.length cn).ownBlock = some k → k < HH := fun k hk => by rw [hHH]; exact own_lt HRn.out k hk
              have HLNL := Lib.hid hlnL
              have HS4 : Hid (RbN g2 H H3 q done nu (some ⟨gl, 0, none⟩) cl w (vs.set n (.slice none 0 0)) n (n + 1) w5 ∧ w5.ownsRow HH 3 1 (.slice none 0 0) 0 (numV .i64 (natsI ((L.take 0).map (fun t => nu.getD t 0)))) ∧ HH ≤ w5.heap.size ∧ LRow wr.heap.size An cn L w5) :=
                Lib.hid ⟨hN1, World.ownsRow_nil _ _ _ _, by omega, HRn.out⟩
              have HVL : Hid (vs.length = done.length) := Lib.hid HN.out.len
              obtain ⟨HB, hHB⟩ : ∃ HB, HB = wr.heap.size := ⟨_, rfl⟩
              have hHB2 : H3 ≤ HB := by rw [hHB]; exact h3H
              rw [← hHB] at HS4
              clear hL hP hHH hN1 hlnL HRn hb5 ct hHB h3H
              go_wp2_with fail
              go_loopw [16] (fun k wr2 => ∃ (m : Nat) (v : Value), m ≤ L.length ∧ k = .int .i64 m ∧ Hid (RbN g2 H H3 q done nu (some ⟨gl, 0, none⟩) cl w (vs.set n v) n (n + 1) wr2 ∧ wr2.ownsRow HH 3 1 v m (numV .i64 (natsI ((L.take m).map (fun t => nu.getD t 0)))) ∧ HH ≤ wr2.heap.size ∧ LRow HB An cn L wr2)) (fun k _ => L.length - (intOf k).toNat)
              case atStart => exact ⟨0, _, by omega, rfl, HS4⟩
              case round =>
                obtain ⟨m, v, hm, rfl, HW2⟩ := hrel
                clear HS4
                rcases Nat.lt_or_ge m L.length with hml | hml
                · obtain ⟨y, hy⟩ : ∃ y, L[m]? = some y := ⟨_, List.getElem?_eq_getElem hml⟩
                  obtain ⟨hN2, hv, hsz, hLR⟩ := HW2.out
                  obtain ⟨gA, rfl, hgA, cy⟩ := hLR.get hy
                  have hgAl : gA < HH := HLNL.out gA (by simp [Value.ownBlock])
                  have hyq : (y : Int) < q.length := by have := HM.out y (List.mem_of_getElem? hy); omega
                  have hyq2 : y < q.length := by omega
                  have hml' : (m : Int) < L.length := by omega
                  have cn2 := hN2.nrow.get hyq2
                  obtain ⟨z, hz⟩ : ∃ z, z = nu.getD y 0 := ⟨_, rfl⟩
                  rw [← hz] at cn2
                  have cnx : wr.cell? ⟨gl, n * 3 + 2, none⟩ = some v := by
                    rw [hN2.row.cellAt _ (by omega)]
                    exact (blkV_get done (vs.set n v) n p v HP2.out (by rw [List.getElem?_set_self (by rw [HVL.out]; exact hnl)])).2.2
                  have fnx : wr.frozen? ⟨gl, n * 3 + 2, none⟩ = false := hN2.row.frozenAt _
                  have HY := Lib.hid (take_snocN hy)
                  have HZ := Lib.hid hz
                  have HN2 := Lib.hid hN2
                  have HV := Lib.hid hv
                  have HLR := Lib.hid hLR
                  have HFAR : Hid (∀ w4 : World, (wr.alloc (.cells #[.int .i64 z] 3)).grownBy w4 v.ownBlock → w4.cell? ⟨gl, n * 3 + 2, none⟩ = some v ∧ w4.frozen? ⟨gl, n * 3 + 2, none⟩ = false) := Lib.hid (fun w4 hg4 => by
                    have hglw : gl < wr.heap.size := by omega
                    have hcg : w4.heap[gl]? = wr.heap[gl]? := (hg4.block gl (by simp; omega) (fun e => by have := own_ge hv gl e.symm; omega)).trans (Below.heap_alloc wr _ gl hglw)
                    exact ⟨(World.cell?_of_block (a := ⟨gl, n * 3 + 2, none⟩) hcg).trans cnx, (World.frozen?_of_block (a := ⟨gl, n * 3 + 2, none⟩) hcg).trans fnx⟩)
                  have cal : (wr.alloc (.cells #[.int .i64 z] 3)).cell? ⟨gl, n * 3 + 2, none⟩ = some v := (World.cell?_alloc_lt wr _ ⟨gl, n * 3 + 2, none⟩ (show gl < wr.heap.size by omega)).trans cnx
                  clear hy hz hN2 hv hLR
                  go_wp2_with fail
                  go_region_law (refine step_app rfl (.tmp 164) (.tmp 172) 36 rfl HH 3 i0 _ 1 8 Try.underlying36 HI.out.1 HI.out.2.1 HI.out.2.2.1 HI.out.2.2.2 rfl (by decide) v m _ rfl (HV.out.alloc _).drew (some ⟨wr.heap.size, 0, none⟩) (wr.heap.size + 1) 1 1 [.int .i64 z] rfl (fun h => by cases h) (reads_new wr _ _ 1 1 [.int .i64 z] rfl rfl).drew (by simp [Value.oneCell']) (by simp only [maxLen]; omega) (by omega) (by simp; omega) ?_; intro v' w4 hown4 hg4 _; obtain ⟨g4, cap4, hv4, -, -⟩ := hown4.form (by omega); subst hv4; have hg4' : (wr.alloc (.cells #[.int .i64 z] 3)).grownBy w4 v.ownBlock := ⟨hg4.os, hg4.tape, hg4.output, hg4.size, hg4.block⟩; obtain ⟨s1, s2⟩ := HFAR.out w4 hg4'; have HG4 := Lib.hid hg4'; clear hg4'; have HO4 := Lib.hid hown4; clear hg4 hown4)
                  all_goals (
                    go_wp2
                    go_roundw
                    case rel =>
                      have hge := own_ge HO4.out g4 (by simp [Value.ownBlock])
                      refine ⟨m + 1, _, by omega, by go_num, Lib.hid ⟨(HN2.out.next hnl (by omega) hgl4 hgl (by omega) (by omega) hHH3 hsz HV.out hlt.out HG4.out), ?_, by have := HG4.out.size; simp at this ⊢; omega, ?_⟩⟩
                      · have := ownsRow_setCell_other HO4.out (a := ⟨gl, n * 3 + 2, none⟩) (by simp [Value.ownBlock]; omega) (.slice (some ⟨g4, 0, none⟩) (m + 1) cap4)
                        rw [HY.out, List.map_append]
                        have e2 : numV .i64 (natsI ((L.take m).map (fun t => nu.getD t 0) ++ [y].map (fun t => nu.getD t 0))) = numV .i64 (natsI ((L.take m).map (fun t => nu.getD t 0))) ++ [.int .i64 z] := by rw [HZ.out]; simp [numV, natsI]
                        rw [e2]
                        exact this
                      · have h9 : LRow HB (some ⟨gA, 0, none⟩) cn L w4 := (HLR.out.keep (below1 _ _)).kept HG4.out (.inr (fun e => by have := own_ge HV.out gA e.symm; omega))
                        exact h9.other (a := ⟨gl, n * 3 + 2, none⟩) (show gl < HB by omega) _
                    case measure => simp [intOf]; omega)
                · obtain rfl : m = L.length := by omega
                  have hend : Hid (RbN g2 H H3 q done nu (some ⟨gl, 0, none⟩) cl w (vs.set n v) (n + 1) (n + 1) wr) := Lib.hid (by
                    obtain ⟨h, hv, hsz, -⟩ := HW2.out
                    refine ⟨h.nrow, h.row, h.len, h.nils, fun j u h1 h2 => ?_, h.below, h.sz⟩
                    rcases Nat.lt_or_ge j n with h3 | h3
                    · exact h.rows j u h3 h2
                    · obtain rfl : j = n := by omega
                      rw [List.getElem?_set_self (by rw [HVL.out]; exact hnl)] at h2
                      injection h2 with h2
                      subst h2
                      have e1 : nextsQ q done nu j = L.map (fun t => nu.getD t 0) := by
                        unfold nextsQ
                        rw [List.getD_eq_getElem?_getD, HP2.out]
                        show (nextQ q (p.2 - 1)).map _ = _
                        rw [HEE.out, Nat.add_sub_cancel, ← HL.out]
                      rw [List.take_length] at hv
                      rw [e1, List.length_map]
                      exact own_base hv h3HH)
                  go_wp2
                  go_roundw
                  case rel => exact ⟨n + 1, _, by omega, by go_num, hend⟩
                  case measure => simp [intOf]; omega
            · obtain rfl : n = done.length := by omega
              have HE := Lib.hid HN.out
              clear HN
              go_wp2
              refine bodyPost_ret (v := .slice Al done.length cl) (by simp [results, Try.results33, go_sem]) rfl ?_
              obtain ⟨h1, h2, h3, h4, h5, h6, h7⟩ := HE.out
              refine ⟨_, vs, nu, rfl, ?_, ?_, h6, ?_, HNL.out, ?_⟩
              · rw [← HPS.out]; exact h3
              · rw [← HPS.out]; exact own_base h2 (by omega)
              · rw [← HPS.out]; exact HNUM.out
              · rw [← HPS.out]; exact fun j u g1 g2 => own_base (h5 j u g1 g2) (by omega)
end Go.Proofs.Ytapmpegblfcknaa
