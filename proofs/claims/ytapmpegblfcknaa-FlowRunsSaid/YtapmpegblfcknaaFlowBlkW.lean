import Derived.Test.YtapmpegblfcknaaFlowBlkD
import Derived.Test.YtapmpegblfcknaaFenceReg
import Derived.WalkMore
set_option linter.unusedVariables false
set_option linter.unusedSimpArgs false
namespace Go.Proofs.Ytapmpegblfcknaa
open Go.RowKit Go.Shelf
attribute [local go_sem] Oper.semAt_some
/-! flow.blocks: the walk. -/
theorem stepR_scope {P : Program} {b : Frame} {a : Act} {k : List Item} {cs : List Frame} {w : World} {c : Code} : step P (lone (b.atR a (.code (.scope c) :: k)) cs w) = .next (lone (b.atR a (.code c :: .inScope c :: k)) cs w) :=
  step_lone_go (by simp [stepG, stepG.exec, Frame.atR])
theorem stepR_inScope {P : Program} {b : Frame} {a : Act} {k : List Item} {cs : List Frame} {w : World} {c : Code} : step P (lone (b.atR a (.inScope c :: k)) cs w) = .next (lone (b.atR a k) cs w) :=
  step_lone_go (by simp [stepG, stepG.exec, Frame.atR])
theorem wpIn_scope_straight {F : Fence} {n : Nat} {P : Program} {Q : Exit → Act → World → Prop} {a : Act} {w : World} {c : Code} (h : c.wpIn F n P (Exit.noGoto Q) a w) : (Code.scope c).wpIn F n P Q a w := by
  intro b k cs hro hb hr
  have h0 : (lone (b.atR a (.code (.scope c) :: k)) cs w).fenced P F := fenced_calm hb hr rfl
  obtain ⟨e, a₁, w₁, hq, harr⟩ := h b (.inScope c :: k) cs hro hb hr
  cases e with
  | normal => exact ⟨.normal, a₁, w₁, hq, .head h0 stepR_scope (StepsIn.trans harr (.one (fenced_calm hb hr rfl) stepR_inScope))⟩
  | exit id =>
    have hx : exitTo id (.inScope c :: k) = exitTo id k := by simp [exitTo]
    exact ⟨_, a₁, w₁, hq, fun k' hk => .head h0 stepR_scope (harr.1 k' (by rw [hx]; exact hk)),
      fun hr' hk => let ⟨k₁, h1, h2⟩ := harr.2 hr' (by rw [hx]; exact hk); ⟨k₁, h1, .head h0 stepR_scope h2⟩⟩
  | goto l => exact hq.elim
  | ret => exact ⟨_, a₁, w₁, hq, .of_steps (.one h0 stepR_scope) harr⟩
  | panic ch => exact ⟨_, a₁, w₁, hq, .of_steps (.one h0 stepR_scope) harr⟩
  | outgrown => exact ⟨_, a₁, w₁, hq, .of_steps (.one h0 stepR_scope) harr⟩
theorem infoB : (Try.prog.info? 52).map (fun i => (i.zero, i.size, i.bytes)) = some (some (.agg #[.int .i64 0, .int .i64 0, .slice none 0 0]), 3, 40) := by kernel_rfl
/-- What lies in memory between blocks. -/
structure BlkL (B1 gn m b4 b5 : Nat) (w1 : World) (nu : List Nat) (vl : Value) (done : List (Nat × Nat)) (wr : World) : Prop where
  nrow : NRow B1 gn m nu wr
  box4 : Boxed wr b4 36 (.slice (some ⟨gn, 0, none⟩) m m)
  box5 : Boxed wr b5 48 vl
  row : wr.ownsRow (b5 + 1) 52 3 vl done.length (rowB done)
  below : Below B1 w1 wr
  num : NumOk done nu
theorem below_boxed {W W' : World} {b t : Nat} {v : Value} (h : Boxed W b t v) (hb : Below W.heap.size W W') : Boxed W' b t v := h.kept (row := none) ⟨hb.os, hb.tape, hb.output, hb.size, fun k hk _ => hb.block k hk⟩ (by simp)
theorem below_own {W W' : World} {base e size n : Nat} {v : Value} {xs : List Value} (h : W.ownsRow base e size v n xs) (hb : Below W.heap.size W W') : W'.ownsRow base e size v n xs :=
  h.kept (row := none) ⟨hb.os, hb.tape, hb.output, hb.size, fun k hk _ => hb.block k hk⟩ (by cases v.ownBlock <;> simp)
theorem BlkL.keep {B1 gn m b4 b5 : Nat} {w1 : World} {nu : List Nat} {vl : Value} {done : List (Nat × Nat)} {W W' : World} (h : BlkL B1 gn m b4 b5 w1 nu vl done W) (hb : Below W.heap.size W W') (hB : Below B1 W W') : BlkL B1 gn m b4 b5 w1 nu vl done W' :=
  ⟨h.nrow.keep hb, below_boxed h.box4 hb, below_boxed h.box5 hb, below_own h.row hb, h.below.trans hB, h.num⟩
theorem BlkL.num_set {B1 gn m b4 b5 : Nat} {w1 : World} {nu : List Nat} {vl : Value} {done : List (Nat × Nat)} {W : World} (h : BlkL B1 gn m b4 b5 w1 nu vl done W) (hgn : B1 ≤ gn) (h4 : gn ≠ b4) (h5 : gn ≠ b5) (h6 : gn < b5) (a y : Nat) (hn : ∀ p ∈ done, p.2 ≤ a) : BlkL B1 gn m b4 b5 w1 (nu.set a y) vl done (W.setCell ⟨gn, a, none⟩ (.int .i64 y)) := by
  refine ⟨h.nrow.set a y, ?_, ?_, ?_, h.below.setCell (p := ⟨gn, a, none⟩) hgn _, ?_⟩
  · exact (Below.heap_setCell _ _ _ _ (show b4 ≠ gn by omega)).trans h.box4
  · exact (Below.heap_setCell _ _ _ _ (show b5 ≠ gn by omega)).trans h.box5
  · exact ownsRow_setCell_other h.row (by intro e; have := own_ge h.row _ e; simp at this; omega) _
  · intro i p j hi h1 h2
    have := hn p (List.mem_of_getElem? hi)
    rw [List.getD_eq_getElem?_getD, List.getElem?_set_ne (by omega), ← List.getD_eq_getElem?_getD]
    exact h.num i p j hi h1 h2
theorem own_slice {W : World} {base e size n : Nat} {v : Value} {xs : List Value} (h : W.ownsRow base e size v n xs) : ∃ A c, v = .slice A n c := by
  rcases h.2 with ⟨rfl, rfl⟩ | ⟨g, cap, cur, rfl, _⟩
  · exact ⟨none, 0, rfl⟩
  · exact ⟨_, _, rfl⟩
theorem numAt {W : World} {B gi m : Nat} {l : List Nat} (h : Reads W B 1 (some ⟨gi, 0, none⟩) m (numV .i64 (natsI l))) (hl : l.length = m) {j : Nat} (hj : j < m) : W.cell? ⟨gi, j, none⟩ = some (.int .i64 (l.getD j 0)) := by
  obtain ⟨b, off, e, _, hc⟩ := h.2 (by omega)
  injection e with e; injection e with e1 e2
  subst e1 e2
  have h2 : l[j]? = some (l.getD j 0) := by rw [List.getD_eq_getElem?_getD, List.getElem?_eq_getElem (by omega)]; rfl
  have := hc j (.int .i64 (l.getD j 0)) (by simp only [numV, natsI, List.getElem?_map, h2, Option.map_some])
  simpa using this
theorem own_lt {W : World} {base e size n : Nat} {v : Value} {xs : List Value} (h : W.ownsRow base e size v n xs) (k : Nat) (hk : v.ownBlock = some k) : k < W.heap.size := by
  rcases h.2 with ⟨rfl, _⟩ | ⟨g, cap, cur, rfl, hb, hg, _⟩
  · simp [Value.ownBlock] at hk
  · have : g = k := by simpa [Value.ownBlock] using hk
    subst this
    exact (Array.getElem?_eq_some_iff.1 hg).1
theorem cells_at {W : World} {b : Nat} {cs : Array Value} {t : TypeId} {v : Value} (h : W.heap[b]? = some (.cells cs t (0, 0))) (o : Nat) (hv : cs[o]? = some v) : W.cell? ⟨b, o, none⟩ = some v := by
  simp [World.cell?, h, hv]
theorem cells_free {W : World} {b : Nat} {cs : Array Value} {t : TypeId} (h : W.heap[b]? = some (.cells cs t (0, 0))) (o : Nat) : W.frozen? ⟨b, o, none⟩ = false := by
  simp [World.frozen?, h]
theorem BlkL.set7 {B1 gn m b4 b5 b7 : Nat} {w1 : World} {nu : List Nat} {vl : Value} {done : List (Nat × Nat)} {W : World} (h : BlkL B1 gn m b4 b5 w1 nu vl done W) (h1 : b7 ≠ gn) (h2 : b7 ≠ b4) (h3 : b7 ≠ b5) (h4 : vl.ownBlock ≠ some b7) (hB : B1 ≤ b7) (o : Nat) (v : Value) : BlkL B1 gn m b4 b5 w1 nu vl done (W.setCell ⟨b7, o, none⟩ v) :=
  ⟨⟨h.nrow.1, ownsRow_setCell_other h.nrow.2 (by simp [Value.ownBlock]; omega) v⟩, (Below.heap_setCell _ _ _ _ (show b4 ≠ b7 by omega)).trans h.box4, (Below.heap_setCell _ _ _ _ (show b5 ≠ b7 by omega)).trans h.box5, ownsRow_setCell_other h.row h4 v, h.below.setCell (p := ⟨b7, o, none⟩) hB v, h.num⟩
theorem BlkL.app {B1 gn m b4 b5 : Nat} {w1 : World} {nu : List Nat} {vl : Value} {done : List (Nat × Nat)} {W w3 : World} {o : Obj} {v' : Value} {k e : Nat} (h : BlkL B1 gn m b4 b5 w1 nu vl done W) (hgn : B1 ≤ gn) (h4 : gn < b4) (h45 : b4 < b5) (h5 : b5 ≤ W.heap.size) (hg : (W.alloc o).grownBy w3 vl.ownBlock) (hown : w3.ownsRow (b5 + 1) 52 3 v' (done.length + 1) (rowB done ++ [.int .i64 k, .int .i64 e, .slice none 0 0])) (hn : ∀ j, k ≤ j → j < e → nu.getD j 0 = done.length) :
    Boxed w3 b5 48 vl ∧ BlkL B1 gn m b4 b5 w1 nu v' (done ++ [(k, e)]) (w3.setCell ⟨b5, 0, none⟩ v') := by
  obtain ⟨h1, h2, h3, -, h6⟩ := h.box5.appended (by decide) (own_base h.row (by omega : b5 ≤ b5 + 1)) h5 (Nat.le_refl _) (own_base hown (by omega)) hg
  have hge := own_ge h.row
  have hge' := own_ge hown
  refine ⟨h1, ⟨h.nrow.1, ?_⟩, ?_, h2, ?_, ?_, ?_⟩
  · exact ownsRow_setCell_other ((h.nrow.2.alloc o).kept hg (.inr (fun e => by have := hge gn e.symm; omega))) (by simp [Value.ownBlock]; omega) _
  · exact (Below.heap_setCell _ _ _ _ (show b4 ≠ b5 by omega)).trans ((h.box4.alloc o).kept hg (fun e => by have := hge b4 e.symm; omega))
  · have := ownsRow_setCell_other hown (a := ⟨b5, 0, none⟩) (fun e => by have := hge' _ e; simp at this; omega) v'
    rw [rowB_snoc, List.length_append]; exact this
  · exact h.below.trans (h6.mono (by omega))
  · intro i p j hi h7 h8
    rcases Nat.lt_or_ge i done.length with hl | hl
    · rw [List.getElem?_append_left hl] at hi
      exact h.num i p j hi h7 h8
    · rw [List.getElem?_append_right hl] at hi
      rcases Nat.eq_or_lt_of_le hl with hl | hl
      · rw [← hl, Nat.sub_self] at hi
        simp at hi
        subst hi
        rw [← hl]; exact hn j h7 h8
      · have : i - done.length ≠ 0 := by omega
        obtain ⟨z, hz⟩ := Nat.exists_eq_succ_of_ne_zero this
        rw [hz] at hi; simp at hi
theorem _root_.Go.Boxed.put {W : World} {b t D : Nat} {v : Value} {o o' : Obj} (h : Boxed W b t v) (hD : W.heap[D]? = some o) (ho : o.isCells = false) : Boxed (W.putObj D o') b t v := by
  have hne : b ≠ D := by
    rintro rfl
    rw [show W.heap[b]? = _ from h] at hD; cases hD; cases ho
  exact (World.putObj_heap_other hne).trans h
/-- What lies in memory while blocks are told where they lead. -/
structure BlkN (g m b4 b5 H3 : Nat) (q : List I4) (ps : List (Nat × Nat)) (nu : List Nat) (Al : Option Addr) (cl : Nat) (w : World) (vs : List Value) (i i' : Nat) (W : World) : Prop where
  nrow : NRow g g m nu W
  box4 : Boxed W b4 36 (.slice (some ⟨g, 0, none⟩) m m)
  box5 : Boxed W b5 48 (.slice Al ps.length cl)
  row : W.ownsRow (b5 + 1) 52 3 (.slice Al ps.length cl) ps.length (blkV ps vs)
  len : vs.length = ps.length
  nils : ∀ j, i' ≤ j → j < ps.length → vs[j]? = some (.slice none 0 0)
  rows : NextRows H3 (nextsQ q ps nu) vs i W
  below : Below w.heap.size w W
  sz : H3 ≤ W.heap.size
theorem row_own {H base e size n : Nat} {v : Value} {xs : List Value} {β : Type} : OwnFrom H (fun (_ : β) W => World.ownsRow W base e size v n xs) := fun s W W' row hs hg hr => hs.kept hg (by
  rcases hs.2 with ⟨rfl, _⟩ | ⟨g, cap, cur, rfl, _, hgb, _⟩
  · exact .inl rfl
  · refine .inr fun e' => ?_
    obtain ⟨_, o, ho, hc⟩ := hr g (by simpa [Value.ownBlock] using e'.symm)
    rw [hgb] at ho; cases ho; cases hc)
section
variable {g m b4 b5 H3 : Nat} {q : List I4} {ps : List (Nat × Nat)} {nu : List Nat} {Al : Option Addr} {cl : Nat} {w : World} {vs : List Value} {i i' : Nat} {W W' : World}
theorem BlkN.own {H : Nat} (hw : w.heap.size ≤ H) {β : Type} (vf : β → List Value) : OwnFrom H (fun (s : β) W => BlkN g m b4 b5 H3 q ps nu Al cl w (vf s) i i' W) := fun s W W' row hs hg hr =>
  ⟨NRow.own (fun _ : β => nu) s W W' row hs.nrow hg hr, Boxed.own (β := β) s W W' row hs.box4 hg hr, Boxed.own (β := β) s W W' row hs.box5 hg hr, row_own (β := β) s W W' row hs.row hg hr, hs.len, hs.nils,
    fun j v h1 h2 => row_own (β := β) s W W' row (hs.rows j v h1 h2) hg hr, ownFrom_below (β := β) (Nat.le_refl _) hw s W W' row hs.below hg hr, Nat.le_trans hs.sz hg.size⟩
theorem BlkN.keep (h : BlkN g m b4 b5 H3 q ps nu Al cl w vs i i' W) (hb : Below W.heap.size W W') : BlkN g m b4 b5 H3 q ps nu Al cl w vs i i' W' :=
  ⟨h.nrow.keep hb, below_boxed h.box4 hb, below_boxed h.box5 hb, below_own h.row hb, h.len, h.nils, fun j v h1 h2 => below_own (h.rows j v h1 h2) hb, h.below.trans (hb.mono h.below.size), Nat.le_trans h.sz hb.size⟩
theorem BlkN.next {HH gl : Nat} {v v' : Value} {n : Nat} {xs : List Value} {o : Obj} {w4 : World} (h : BlkN g m b4 b5 H3 q ps nu (some ⟨gl, 0, none⟩) cl w (vs.set i v) i i' W) (hil : i < ps.length) (hii : i < i') (h4 : g < b4) (h45 : b4 < b5) (hgl : gl < H3) (hw : w.heap.size ≤ g) (h3 : H3 ≤ HH) (hHH : HH ≤ W.heap.size) (hv : W.ownsRow HH 3 1 v n xs) (hlt : ∀ j u, j < i → vs[j]? = some u → ∀ k, u.ownBlock = some k → k < HH)
    (hg : (W.alloc o).grownBy w4 v.ownBlock) : BlkN g m b4 b5 H3 q ps nu (some ⟨gl, 0, none⟩) cl w (vs.set i v') i i' (w4.setCell ⟨gl, i * 3 + 2, none⟩ v') := by
  have hov := own_ge hv
  have hlg := own_ge h.row gl (by simp [Value.ownBlock])
  have hlen : vs.length = ps.length := by have := h.len; simpa using this
  refine ⟨⟨h.nrow.1, ?_⟩, ?_, ?_, ?_, by simpa using hlen, fun j h1 h2 => ?_, fun j u h1 h2 => ?_, ?_, by have := hg.size; have := h.sz; simp at *; omega⟩
  · exact ownsRow_setCell_other ((h.nrow.2.alloc o).kept hg (.inr (fun e => by have := hov g e.symm; omega))) (by simp [Value.ownBlock]; omega) _
  · exact (Below.heap_setCell _ _ _ _ (show b4 ≠ gl by omega)).trans ((h.box4.alloc o).kept hg (fun e => by have := hov b4 e.symm; omega))
  · exact (Below.heap_setCell _ _ _ _ (show b5 ≠ gl by omega)).trans ((h.box5.alloc o).kept hg (fun e => by have := hov b5 e.symm; omega))
  · have h1 := (((h.row.alloc o).kept hg (.inr (fun e => by have := hov gl e.symm; omega))).stored (i * 3 + 2) v').1
    rw [blkV_set _ _ _ _ hil h.len, List.set_set] at h1
    exact h1
  · have := h.nils j h1 h2
    rw [List.getElem?_set_ne (by omega)] at this ⊢
    exact this
  · rw [List.getElem?_set_ne (by omega)] at h2
    have h3' := h.rows j u h1 (by rw [List.getElem?_set_ne (by omega)]; exact h2)
    refine ownsRow_setCell_other ((h3'.alloc o).kept hg ?_) (fun e => by have := own_ge h3' gl e; omega) _
    cases hu : u.ownBlock with
    | none => exact .inl rfl
    | some k => exact .inr (fun e => by have h5 := hlt j u h1 h2 k hu; have := hov k e.symm; omega)
  · exact (((h.below.alloc h.below.size o).grown hg (by have := h.below.size; simp; omega) (fun k hk => by have := hov k hk; omega))).setCell (p := ⟨gl, i * 3 + 2, none⟩) (show w.heap.size ≤ gl by omega) v'
end
theorem KpI.appendedAt {H B : Nat} {X : Nat → Prop} {W w1 : World} {o : Obj} {v u : Value} {n : Nat} {xs : List Value} (hrow : W.ownsRow H 3 1 v n xs) (hg : (W.alloc o).grownBy w1 v.ownBlock) (hB : B < H) (hX : X B) (off : Nat) : KpI H X W (w1.setCell ⟨B, off, none⟩ u) := by
  have hs : W.heap.size ≤ w1.heap.size := by have := hg.size; simp at this; omega
  refine ⟨by simpa using hs, fun k hk hh => ?_⟩
  have hkB : k ≠ B := by rintro rfl; rcases hh with ⟨_, h⟩ | ⟨h, _⟩; exact h hX; omega
  rw [Below.heap_setCell _ _ _ _ (fun e => hkB e)]
  have hne : some k ≠ v.ownBlock := by
    rcases hrow.2 with ⟨rfl, _⟩ | ⟨g, cap, cur, rfl, hge, hgb, _⟩
    · simp [Value.ownBlock]
    · intro e
      obtain rfl : k = g := by simpa [Value.ownBlock] using e
      rcases hh with ⟨h, _⟩ | ⟨_, c, t, fr, h2, h3⟩
      · omega
      · rw [hgb] at h2; injection h2 with h2; injection h2 with _ h2 _; exact h3 h2.symm
  rw [hg.block k (by simp; omega) hne]
  exact Below.heap_alloc W o k hk
theorem keepsO_app {W w1 : World} {H n : Nat} {v u : Value} {xs : List Value} {o : Obj} (hrow : W.ownsRow H 3 1 v n xs) (hg : (W.alloc o).grownBy w1 v.ownBlock) (B off : Nat) : KeepsOthers W (w1.setCell ⟨B, off, none⟩ u) := by
  refine ((KeepsOthers.alloc W o).trans (KeepsOthers.of_grownBy hg fun j o' ej hj => ?_)).trans (KeepsOthers.setCell _ _ _)
  rcases (hrow.alloc o).2 with ⟨rfl, _⟩ | ⟨g, cap, cur, rfl, _, hgb, _⟩
  · simp [Value.ownBlock] at ej
  · obtain rfl : g = j := by simpa [Value.ownBlock] using ej
    rw [hgb] at hj; cases hj; rfl
def BlkI (A : Option Addr) (cap : Nat) (q : List I4) (w : World) (g b4 H3 : Nat) (ps : List (Nat × Nat)) (nu : List Nat) (Al : Option Addr) (cl : Nat) (u1 u3 u6 u7 u8 u11 u12 u13 u14 u15 u16 u17 u18 u19 u20 u21 u22 u23 u24 u25 u26 u27 u28 u29 u30 u31 u32 u33 u34 u35 u36 u37 u38 u39 u40 u41 u42 u43 u44 u45 u46 u47 u48 u49 u50 u51 u52 u53 u54 u55 u56 u57 u58 u59 u60 u61 : Value) (a : Act) (W : World) : Prop := ∃ i : Nat, i ≤ ps.length ∧ ∃ (u9 u10 u64 u65 u66 u67 u68 u69 u70 u71 u72 u73 u74 u75 u76 u77 u78 u79 u80 u81 u82 u83 u84 u85 u86 u87 u88 u89 u90 u91 : Value) (ds : List Deferred),
  a = { tmps := #[.slice A q.length cap, u1, .slice none 0 0, u3, .pointer (some ⟨b4, 0, none⟩), .pointer (some ⟨b4 + 1, 0, none⟩), u6, u7, u8, u9, u10, u11, u12, u13, u14, u15, u16, u17, u18, u19, u20, u21, u22, u23, u24, u25, u26, u27, u28, u29, u30, u31, u32, u33, u34, u35, u36, u37, u38, u39, u40, u41, u42, u43, u44, u45, u46, u47, u48, u49, u50, u51, u52, u53, u54, u55, u56, u57, u58, u59, u60, u61, .int .i64 (ps.length : Nat), .int .i64 i, u64, u65, u66, u67, u68, u69, u70, u71, u72, u73, u74, u75, u76, u77, u78, u79, u80, u81, u82, u83, u84, u85, u86, u87, u88, u89, u90, u91], defers := ds } ∧
  ∃ vs, BlkN g q.length b4 (b4 + 1) H3 q ps nu Al cl w vs i i W ∧ Marks w.heap.size W ds
set_option pp.deepTerms true in
set_option pp.deepTerms.threshold 10000 in
set_option maxRecDepth 100000 in
set_option maxHeartbeats 4000000 in
theorem blocks_in (A : Option Addr) (cap : Nat) (q : List I4) (h0 : (checkP q).1 = 0) (hok : ∀ x ∈ q, x.ok) (w : World) (hr : Reads w w.heap.size 4 A q.length (cellsI q)) :
    CallsIn Fence.wide 3 Try.prog 48 #[.slice A q.length cap] w (BlksPost w q) := by
  obtain ⟨a1, a2, -, -⟩ := acc_facts h0
  obtain ⟨i0, HI⟩ : ∃ i0, Hid (Try.prog.info? 3 = some i0 ∧ i0.zero = some (.int .i64 0) ∧ i0.size = 1 ∧ i0.bytes = 8) := by
    obtain ⟨i0, hi, hz0, hz1, hz2⟩ := info_parts infoInt
    exact ⟨i0, Lib.hid ⟨hi, hz0, hz1, hz2⟩⟩
  obtain ⟨i1, HI1⟩ : ∃ i1, Hid (Try.prog.info? 52 = some i1 ∧ i1.zero = some (.agg #[.int .i64 0, .int .i64 0, .slice none 0 0]) ∧ i1.size = 3 ∧ i1.bytes = 40) := by
    obtain ⟨i1, hi, hz0, hz1, hz2⟩ := info_parts infoB
    exact ⟨i1, Lib.hid ⟨hi, hz0, hz1, hz2⟩⟩
  have HR := Lib.hid hr
  have HOK := Lib.hid hok
  have HE := Lib.hid (end_last h0)
  have HPR := Lib.hid (parts_rise q (intoP q) (end_last h0) q.length 0).1
  have H0 := Lib.hid h0
  have hq1 : (0 : Int) < q.length := by omega
  clear hr hok h0
  refine callsIn_of_wp_marks Try.func48 rfl trivial ?_ rfl
  simp only [Try.ntmps48, List.size_toArray, List.length_cons, List.length_nil, Nat.reduceAdd, Nat.reduceSub, Array.replicate_succ, Array.replicate_zero, List.push_toArray, List.append_toArray, List.nil_append, List.cons_append]
  gi_wp2_with fail
  refine ⟨trivial, (callsIn_wide.2 (into_c A cap q a1 HOK.out a2 w HR.out)).mono ?_⟩
  rintro e w1 ⟨v, rfl, hown, hb1⟩
  rw [intoP_len] at hown
  obtain ⟨gi, ci, hv, -⟩ := hown.form a1
  subst hv
  have HN := Lib.hid (Reads.of_own hown)
  have HB1 := Lib.hid hb1
  clear hown
  obtain ⟨w2, hrun, hown, hg⟩ := run_make_full (P := Try.prog) w1 w1.heap.size 36 3 i0 _ 1 Try.underlying36 HI.out.1 HI.out.2.1 HI.out.2.2.1 .i64 .i64 q.length (by rw [HI.out.2.2.2]; omega) (by simp only [maxLen]; omega) (Nat.le_refl _)
  have hb2 : Below w1.heap.size w1 w2 := ⟨hg.os, hg.tape, hg.output, hg.size, fun k hk => hg.block k hk (by simp)⟩
  have hrow : NRow w1.heap.size w1.heap.size q.length (List.replicate q.length 0) w2 := NRow.new (w := w1) hown
  have hgl := hrow.lt a1
  have HROW := Lib.hid hrow
  have HB2 := Lib.hid hb2
  clear hown hg hrow hb2 hb1
  gi_wp2_with fail
  obtain ⟨g, hg⟩ : ∃ g, g = w1.heap.size := ⟨_, rfl⟩
  obtain ⟨b4, hb4⟩ : ∃ b4, b4 = w2.heap.size := ⟨_, rfl⟩
  have hwg : w.heap.size ≤ g := by rw [hg]; exact HB1.out.size
  have hgb : g < b4 := by rw [hg, hb4]; exact hgl
  obtain ⟨W3, hW3⟩ : ∃ W3, W3 = ((w2.alloc (.cells #[.slice (some ⟨w1.heap.size, 0, none⟩) q.length q.length] 36)).alloc (.cells #[.slice none 0 0] 48)) := ⟨_, rfl⟩
  have hL3 : BlkL g g q.length b4 (b4 + 1) w1 (List.replicate q.length 0) (.slice none 0 0) [] W3 := by
    rw [hW3, hg, hb4]
    refine ⟨(HROW.out.alloc _).alloc _, (Boxed.new w2 _ _).alloc _, ?_, World.ownsRow_nil _ _ _ _, below_al (below_al HB2.out _) _, fun i p j h => by simp at h⟩
    have h := Boxed.new (w2.alloc (.cells #[.slice (some ⟨w1.heap.size, 0, none⟩) q.length q.length] 36)) 48 (.slice none 0 0)
    simpa using h
  rw [← hW3, ← hg, ← hb4]
  have HW1 : Hid (w1.heap.size = g) := Lib.hid hg.symm
  have HN' : Hid (Reads w1 g 1 (some ⟨gi, 0, none⟩) q.length (numV .i64 (natsI (intoP q)))) := Lib.hid (by rw [hg]; exact HN.out)
  have HL3 := Lib.hid hL3
  clear hW3 HROW HB2 hrun hgl hg hb4 hL3 HN
  gi_wp2_with fail
  gi_loopw [6] (fun at_ wr => ∃ (k f : Nat) (nu : List Nat) (vl : Value) (done : List (Nat × Nat)), k ≤ q.length ∧ at_ = .int .i64 k ∧ Hid (q.length ≤ f + k ∧ done ++ partsQ q (intoP q) f k = blocksQ q ∧ (∀ p ∈ done, p.2 ≤ k) ∧ BlkL g g q.length b4 (b4 + 1) w1 nu vl done wr)) (fun at_ _ => q.length - (intOf at_).toNat)
  case atStart => exact ⟨0, q.length, _, _, [], by omega, rfl, Lib.hid ⟨by omega, rfl, fun p h => by simp at h, HL3.out⟩⟩
  case round =>
    obtain ⟨k, f, nu, vl, done, hk, rfl, HW⟩ := hrel
    clear HL3
    rcases Nat.lt_or_ge k q.length with hkl | hkl
    · have hkl' : (k : Int) < q.length := by omega
      obtain ⟨hf, hd, hp, hL⟩ := HW.out
      obtain ⟨f, rfl⟩ : ∃ f', f = f' + 1 := ⟨f - 1, by omega⟩
      obtain ⟨Al, cl, rfl⟩ := own_slice hL.row
      have HNr : Hid (Reads wr g 1 (some ⟨gi, 0, none⟩) q.length (numV .i64 (natsI (intoP q)))) := Lib.hid (HN'.out.below hL.below)
      have ck := numAt HNr.out (intoP_len q) hkl
      obtain ⟨x, hx⟩ : ∃ x, x = (intoP q).getD k 0 := ⟨_, rfl⟩
      rw [← hx] at ck
      have hk2 : k + 1 ≤ q.length := hkl
      have HX := Lib.hid hx
      have HL := Lib.hid hL
      have HD := Lib.hid hd
      have HP := Lib.hid hp
      clear hx hL hd hp
      rcases Nat.eq_zero_or_pos x with hx0 | hx0
      · have hx1 : ((x : Nat) : Int) = 0 := by omega
        rw [hx1] at ck
        clear hx1
        gi_wp2_with fail
        refine wpIn_scope_straight ?_
        gi_wp2_with fail
        simp only [Exit.noGoto_exit, Exit.inBlock, if_true]
        gi_wp2_with fail
        go_roundw
        case rel =>
          refine ⟨k + 1, f, nu, _, done, hk2, by go_num, Lib.hid ⟨by omega, ?_, fun p h => by have := HP.out p h; omega, HL.out⟩⟩
          have := HD.out
          unfold partsQ at this
          rw [if_pos hkl, if_pos (by rw [← HX.out]; exact hx0)] at this
          exact this
        case measure => simp [intOf]; omega
      · have hx1 : (0 : Int) < x := by omega
        gi_wp2_with fail
        refine wpIn_scope_straight ?_
        gi_wp2_with fail
        refine wpIn_label ?_
        gi_wp2_with fail
        rename World => wo
        gi_loopw [6] (fun at_ wr2 => ∃ (a f2 : Nat) (nu2 : List Nat), k ≤ a ∧ a < q.length ∧ at_ = .int .i64 a ∧ Hid (q.length ≤ f2 + a ∧ runEnd q (intoP q) f2 a = runEnd q (intoP q) q.length k ∧ BlkL g g q.length b4 (b4 + 1) w1 nu2 (.slice Al done.length cl) done wr2 ∧ (∀ j, k ≤ j → j < a → nu2.getD j 0 = done.length) ∧ wr2.heap[wo.heap.size]? = some (.cells #[.int .i64 k, .int .i64 0, .slice none 0 0] 52 (0, 0)))) (fun at_ _ => q.length - (intOf at_).toNat)
        case atStart =>
          exact ⟨k, q.length, nu, Nat.le_refl _, hkl, rfl, Lib.hid ⟨by omega, rfl, HL.out.keep (below1 wo _) ((Below.refl _ _).alloc (by have := HL.out.below.size; have := HW1.out; omega) _), fun j h1 h2 => by omega, World.alloc_heap_new wo _⟩⟩
        case round =>
          obtain ⟨a, f2, nu2, hka, hal, rfl, HW2⟩ := hrel
          clear ck
          obtain ⟨hf2, hre, hL2, hnu, hb7⟩ := HW2.out
          have hal' : (a : Int) < q.length := by omega
          obtain ⟨y, hy⟩ : ∃ y, q[a]? = some y := ⟨_, List.getElem?_eq_getElem hal⟩
          have HRr : Reads wr w.heap.size 4 A q.length (cellsI q) := HR.out.below (below_t HB1.out (by rw [HW1.out]; exact hL2.below))
          obtain ⟨bA, oA, rfl, hbA, y0, y1, y2, y3⟩ := HRr.insn hy
          have cm := hL2.nrow.get hal
          have fm := hL2.nrow.free a
          have c4 := hL2.box4.cell
          have c5 := hL2.box5.cell
          have hdl : done.length ≤ q.length := by
            have h := congrArg List.length HD.out
            rw [List.length_append] at h
            have := blocks_le q (intoP q) q.length 0
            unfold blocksQ at h
            omega
          have hdl' : (done.length : Int) ≤ 4096 := by omega
          have hb7l : wo.heap.size < wr.heap.size := (Array.getElem?_eq_some_iff.1 hb7).1
          have hgw := HL.out.nrow.lt a1
          have h5w := HL.out.box5.lt
          have h1w := HW1.out
          have hS1 : BlkL g g q.length b4 (b4 + 1) w1 (nu2.set a done.length) (.slice Al done.length cl) done (wr.setCell ⟨g, a, none⟩ (.int .i64 done.length)) := hL2.num_set (Nat.le_refl _) (by omega) (by omega) (by omega) a done.length (fun p hp => by have := HP.out p hp; omega)
          have hb7S : (wr.setCell ⟨g, a, none⟩ (.int .i64 done.length)).heap[wo.heap.size]? = some (.cells #[.int .i64 k, .int .i64 0, .slice none 0 0] 52 (0, 0)) := (Below.heap_setCell _ _ _ _ (show wo.heap.size ≠ g by omega)).trans hb7
          have hb7L : ((wr.setCell ⟨g, a, none⟩ (.int .i64 done.length)).alloc (.cells #[.int .u16 y.c, .int .u8 y.j, .int .u8 y.f, .int .u32 y.k] 33)).heap[wo.heap.size]? = some (.cells #[.int .i64 k, .int .i64 0, .slice none 0 0] 52 (0, 0)) := (Below.heap_alloc _ _ _ (by simp; omega)).trans hb7S
          have e7 : ((wr.setCell ⟨g, a, none⟩ (.int .i64 done.length)).alloc (.cells #[.int .u16 y.c, .int .u8 y.j, .int .u8 y.f, .int .u32 y.k] 33)).cell? ⟨wo.heap.size, 1, none⟩ = some (.int .i64 0) := cells_at hb7L 1 rfl
          have f7 : ((wr.setCell ⟨g, a, none⟩ (.int .i64 done.length)).alloc (.cells #[.int .u16 y.c, .int .u8 y.j, .int .u8 y.f, .int .u32 y.k] 33)).frozen? ⟨wo.heap.size, 1, none⟩ = false := cells_free hb7L 1
          have hLW : BlkL g g q.length b4 (b4 + 1) w1 (nu2.set a done.length) (.slice Al done.length cl) done ((wr.setCell ⟨g, a, none⟩ (.int .i64 done.length)).alloc (.cells #[.int .u16 y.c, .int .u8 y.j, .int .u8 y.f, .int .u32 y.k] 33)) := hS1.keep (below1 _ _) ((Below.refl _ _).alloc (by simp; omega) _)
          have hS2 := hS1.set7 (b7 := wo.heap.size) (by omega) (by omega) (by omega) (fun e => by have := own_lt HL.out.row _ e; omega) (by omega) 1 (.int .i64 ((a : Int) + 1))
          have hL2W : BlkL g g q.length b4 (b4 + 1) w1 (nu2.set a done.length) (.slice Al done.length cl) done (((wr.setCell ⟨g, a, none⟩ (.int .i64 done.length)).setCell ⟨wo.heap.size, 1, none⟩ (.int .i64 ((a : Int) + 1))).alloc (.cells #[.int .u16 y.c, .int .u8 y.j, .int .u8 y.f, .int .u32 y.k] 33)) := hS2.keep (below1 _ _) ((Below.refl _ _).alloc (by simp; omega) _)
          have g5 : (((wr.setCell ⟨g, a, none⟩ (.int .i64 done.length)).setCell ⟨wo.heap.size, 1, none⟩ (.int .i64 ((a : Int) + 1))).alloc (.cells #[.int .u16 y.c, .int .u8 y.j, .int .u8 y.f, .int .u32 y.k] 33)).cell? ⟨b4 + 1, 0, none⟩ = some (.slice Al done.length cl) := hL2W.box5.cell
          have f5 : (((wr.setCell ⟨g, a, none⟩ (.int .i64 done.length)).setCell ⟨wo.heap.size, 1, none⟩ (.int .i64 ((a : Int) + 1))).alloc (.cells #[.int .u16 y.c, .int .u8 y.j, .int .u8 y.f, .int .u32 y.k] 33)).frozen? ⟨b4 + 1, 0, none⟩ = false := hL2W.box5.frozen
          have hb7M : (((wr.setCell ⟨g, a, none⟩ (.int .i64 done.length)).setCell ⟨wo.heap.size, 1, none⟩ (.int .i64 ((a : Int) + 1))).alloc (.cells #[.int .u16 y.c, .int .u8 y.j, .int .u8 y.f, .int .u32 y.k] 33)).heap[wo.heap.size]? = _ := (Below.heap_alloc _ _ _ (by simp; omega)).trans (heap_setCell_same (wr.setCell ⟨g, a, none⟩ (.int .i64 done.length)) wo.heap.size 1 _ _ (.int .i64 ((a : Int) + 1)) hb7S)
          have g70 : (((wr.setCell ⟨g, a, none⟩ (.int .i64 done.length)).setCell ⟨wo.heap.size, 1, none⟩ (.int .i64 ((a : Int) + 1))).alloc (.cells #[.int .u16 y.c, .int .u8 y.j, .int .u8 y.f, .int .u32 y.k] 33)).cell? ⟨wo.heap.size, 0, none⟩ = some (.int .i64 k) := cells_at hb7M 0 rfl
          have g71 : (((wr.setCell ⟨g, a, none⟩ (.int .i64 done.length)).setCell ⟨wo.heap.size, 1, none⟩ (.int .i64 ((a : Int) + 1))).alloc (.cells #[.int .u16 y.c, .int .u8 y.j, .int .u8 y.f, .int .u32 y.k] 33)).cell? ⟨wo.heap.size, 1, none⟩ = some (.int .i64 ((a : Int) + 1)) := cells_at hb7M 1 rfl
          have g72 : (((wr.setCell ⟨g, a, none⟩ (.int .i64 done.length)).setCell ⟨wo.heap.size, 1, none⟩ (.int .i64 ((a : Int) + 1))).alloc (.cells #[.int .u16 y.c, .int .u8 y.j, .int .u8 y.f, .int .u32 y.k] 33)).cell? ⟨wo.heap.size, 2, none⟩ = some (.slice none 0 0) := cells_at hb7M 2 rfl
          have HL2 := Lib.hid hL2
          have HLW := Lib.hid hLW
          have HL2W := Lib.hid hL2W
          have HY := Lib.hid hy
          have HB7L := Lib.hid hb7L
          have HNU := Lib.hid hnu
          have HRE := Lib.hid hre
          clear hL2 hy hb7 hnu hre HRr hLW hb7L hL2W hb7M hS1 hS2 hb7S
          have HNEW : Hid (∀ j u, [Value.int .i64 k, .int .i64 ((a : Int) + 1), .slice none 0 0][j]? = some u → ((((wr.setCell ⟨g, a, none⟩ (.int .i64 done.length)).setCell ⟨wo.heap.size, 1, none⟩ (.int .i64 ((a : Int) + 1))).alloc (.cells #[.int .u16 y.c, .int .u8 y.j, .int .u8 y.f, .int .u32 y.k] 33)).alloc (.cells #[.int .i64 k, .int .i64 ((a : Int) + 1), .slice none 0 0] 52)).cell? ((⟨wr.heap.size + 1, 0, none⟩ : Addr).add j) = some u) := Lib.hid (fun j u hu => by
            rw [add_plain]
            have h9 := (reads_new (((wr.setCell ⟨g, a, none⟩ (.int .i64 done.length)).setCell ⟨wo.heap.size, 1, none⟩ (.int .i64 ((a : Int) + 1))).alloc (.cells #[.int .u16 y.c, .int .u8 y.j, .int .u8 y.f, .int .u32 y.k] 33)) #[.int .i64 k, .int .i64 ((a : Int) + 1), .slice none 0 0] 52 3 1 [.int .i64 k, .int .i64 ((a : Int) + 1), .slice none 0 0] rfl rfl).2 (by decide)
            have hsz : (((wr.setCell ⟨g, a, none⟩ (.int .i64 done.length)).setCell ⟨wo.heap.size, 1, none⟩ (.int .i64 ((a : Int) + 1))).alloc (.cells #[.int .u16 y.c, .int .u8 y.j, .int .u8 y.f, .int .u32 y.k] 33)).heap.size = wr.heap.size + 1 := by simp
            obtain ⟨b9, o9, e9, -, hc9⟩ := h9
            injection e9 with e9; injection e9 with e1 e2
            subst e1 e2
            have h := hc9 j u hu
            rw [hsz] at h
            exact h)
          have HNA : Hid (∀ j, k ≤ j → j < a + 1 → (nu2.set a done.length).getD j 0 = done.length) := Lib.hid (fun j h1 h2 => by
            rw [List.getD_eq_getElem?_getD, List.getElem?_set]
            split
            · rw [if_pos (by rw [HL2.out.nrow.1]; omega)]; rfl
            · rw [← List.getD_eq_getElem?_getD]; exact HNU.out j h1 (by omega))
          cases h5 : (bits .and .u16 y.c 7 == 5) with
          | true =>
            gi_wp2_with (gi_at_builtin; refine wpListIn_append_own _ rfl _ _ 48 rfl (b4 + 1 + 1) 52 i1 _ 3 40 Try.underlying48 HI1.out.1 HI1.out.2.1 HI1.out.2.2.1 HI1.out.2.2.2 rfl (by decide) (.slice Al done.length cl) done.length (rowB done) rfl (HL2W.out.row.alloc _) ⟨wr.heap.size + 1, 0, none⟩ 1 1 [.int .i64 k, .int .i64 ((a : Int) + 1), .slice none 0 0] rfl rfl HNEW.out (by simp [Value.oneCell']) (by simp only [maxLen]; omega) (by omega) (by simp; omega) ?_; intro v' w3 hown' hgrow _; obtain ⟨g', cap', rfl⟩ := ownsRow_succ hown'; obtain ⟨hv1, hbl⟩ := HL2W.out.app (k := k) (e := a + 1) (Nat.le_refl _) (by omega) (by omega) (by simp; omega) hgrow hown' HNA.out; have hc1 := hv1.cell; have hf1 := hv1.frozen; have HBL := Lib.hid hbl; clear hown' hgrow hbl hv1)
            simp only [Exit.noGoto_normal, Exit.inBlock]
            gi_wp2_with fail
            go_roundw
            case rel =>
              refine ⟨a + 1, f, nu2.set a done.length, _, done ++ [(k, a + 1)], by omega, by go_num, Lib.hid ⟨by omega, ?_, ?_, HBL.out⟩⟩
              · have h1 := HD.out
                unfold partsQ at h1
                rw [if_pos hkl, if_neg (by rw [← HX.out]; omega), ← HRE.out] at h1
                have h2 : runEnd q (intoP q) f2 a = a + 1 := by
                  obtain ⟨f3, rfl⟩ : ∃ f3, f2 = f3 + 1 := ⟨f2 - 1, by omega⟩
                  unfold runEnd
                  rw [if_pos (by simp only [endQ, HY.out, endsJ, h5, Bool.true_or, Bool.or_true])]
                rw [h2] at h1
                rw [← h1]; simp
              · intro p hp
                rcases List.mem_append.1 hp with h | h
                · have := HP.out p h; omega
                · simp at h; subst h; simp
            case measure => simp [intOf]; omega
          | false =>
            cases h6 : (bits .and .u16 y.c 7 == 6) with
            | true =>
              gi_wp2_with (gi_at_builtin; refine wpListIn_append_own _ rfl _ _ 48 rfl (b4 + 1 + 1) 52 i1 _ 3 40 Try.underlying48 HI1.out.1 HI1.out.2.1 HI1.out.2.2.1 HI1.out.2.2.2 rfl (by decide) (.slice Al done.length cl) done.length (rowB done) rfl (HL2W.out.row.alloc _) ⟨wr.heap.size + 1, 0, none⟩ 1 1 [.int .i64 k, .int .i64 ((a : Int) + 1), .slice none 0 0] rfl rfl HNEW.out (by simp [Value.oneCell']) (by simp only [maxLen]; omega) (by omega) (by simp; omega) ?_; intro v' w3 hown' hgrow _; obtain ⟨g', cap', rfl⟩ := ownsRow_succ hown'; obtain ⟨hv1, hbl⟩ := HL2W.out.app (k := k) (e := a + 1) (Nat.le_refl _) (by omega) (by omega) (by simp; omega) hgrow hown' HNA.out; have hc1 := hv1.cell; have hf1 := hv1.frozen; have HBL := Lib.hid hbl; clear hown' hgrow hbl hv1)
              simp only [Exit.noGoto_normal, Exit.inBlock]
              gi_wp2_with fail
              go_roundw
              case rel =>
                refine ⟨a + 1, f, nu2.set a done.length, _, done ++ [(k, a + 1)], by omega, by go_num, Lib.hid ⟨by omega, ?_, ?_, HBL.out⟩⟩
                · have h1 := HD.out
                  unfold partsQ at h1
                  rw [if_pos hkl, if_neg (by rw [← HX.out]; omega), ← HRE.out] at h1
                  have h2 : runEnd q (intoP q) f2 a = a + 1 := by
                    obtain ⟨f3, rfl⟩ : ∃ f3, f2 = f3 + 1 := ⟨f2 - 1, by omega⟩
                    unfold runEnd
                    rw [if_pos (by simp only [endQ, HY.out, endsJ, h5, h6, Bool.true_or, Bool.or_true])]
                  rw [h2] at h1
                  rw [← h1]; simp
                · intro p hp
                  rcases List.mem_append.1 hp with h | h
                  · have := HP.out p h; omega
                  · simp at h; subst h; simp
              case measure => simp [intOf]; omega
            | false =>
              have ham : a + 1 < q.length := by
                rcases Nat.lt_or_ge (a + 1) q.length with h | h
                · exact h
                · exfalso
                  have h1 := HE.out
                  rw [show q.length - 1 = a by omega] at h1
                  simp [endQ, HY.out, endsJ, h5, h6] at h1
              have ham' : (a : Int) + 1 < q.length := by omega
              have cn := numAt (HN'.out.below HLW.out.below) (intoP_len q) ham
              obtain ⟨z, hz⟩ : ∃ z, z = (intoP q).getD (a + 1) 0 := ⟨_, rfl⟩
              rw [← hz] at cn
              have HZ := Lib.hid hz
              clear hz
              by_cases hz1 : z = 1
              · subst hz1
                have cn := (show _ = some (Value.int .i64 1) from cn)
                gi_wp2_with fail
                refine ⟨⟨a + 1, f2 - 1, nu2.set a done.length, by omega, ham, by go_num, Lib.hid ⟨by omega, ?_, HLW.out, HNA.out, HB7L.out⟩⟩, by simp [intOf]; omega⟩
                rw [← HRE.out]
                obtain ⟨f3, rfl⟩ : ∃ f3, f2 = f3 + 1 := ⟨f2 - 1, by omega⟩
                rw [Nat.add_sub_cancel]
                conv => rhs; unfold runEnd
                rw [if_neg]
                rw [← HZ.out]
                simp [endQ, HY.out, endsJ, h5, h6]
              · have hz2 : ((z : Int) != 1) = true := by simp; omega
                gi_wp2_with (gi_at_builtin; refine wpListIn_append_own _ rfl _ _ 48 rfl (b4 + 1 + 1) 52 i1 _ 3 40 Try.underlying48 HI1.out.1 HI1.out.2.1 HI1.out.2.2.1 HI1.out.2.2.2 rfl (by decide) (.slice Al done.length cl) done.length (rowB done) rfl (HL2W.out.row.alloc _) ⟨wr.heap.size + 1, 0, none⟩ 1 1 [.int .i64 k, .int .i64 ((a : Int) + 1), .slice none 0 0] rfl rfl HNEW.out (by simp [Value.oneCell']) (by simp only [maxLen]; omega) (by omega) (by simp; omega) ?_; intro v' w3 hown' hgrow _; obtain ⟨g', cap', rfl⟩ := ownsRow_succ hown'; obtain ⟨hv1, hbl⟩ := HL2W.out.app (k := k) (e := a + 1) (Nat.le_refl _) (by omega) (by omega) (by simp; omega) hgrow hown' HNA.out; have hc1 := hv1.cell; have hf1 := hv1.frozen; have HBL := Lib.hid hbl; clear hown' hgrow hbl hv1)
                simp only [Exit.noGoto_normal, Exit.inBlock]
                gi_wp2_with fail
                go_roundw
                case rel =>
                  refine ⟨a + 1, f, nu2.set a done.length, _, done ++ [(k, a + 1)], by omega, by go_num, Lib.hid ⟨by omega, ?_, ?_, HBL.out⟩⟩
                  · have h1 := HD.out
                    unfold partsQ at h1
                    rw [if_pos hkl, if_neg (by rw [← HX.out]; omega), ← HRE.out] at h1
                    have h2 : runEnd q (intoP q) f2 a = a + 1 := by
                      obtain ⟨f3, rfl⟩ : ∃ f3, f2 = f3 + 1 := ⟨f2 - 1, by omega⟩
                      unfold runEnd
                      rw [if_pos (by rw [← HZ.out, Bool.or_eq_true]; exact .inr (by simpa using hz1))]
                    rw [h2] at h1
                    rw [← h1]; simp
                  · intro p hp
                    rcases List.mem_append.1 hp with h | h
                    · have := HP.out p h; omega
                    · simp at h; subst h; simp
                case measure => simp [intOf]; omega
    · obtain rfl : k = q.length := by omega
      obtain ⟨hf, hd, hp, hL⟩ := HW.out
      have hps : done = blocksQ q := by
        rw [← hd]
        cases f with
        | zero => simp [partsQ]
        | succ f => unfold partsQ; rw [if_neg (by omega), List.append_nil]
      obtain ⟨Al, cl, rfl⟩ := own_slice hL.row
      have c4 := hL.box4.cell
      have c5 := hL.box5.cell
      have hbl : (blocksQ q).length ≤ q.length := blocks_le q (intoP q) q.length 0
      subst hps
      have HLE := Lib.hid hL
      clear hd hp hL HW
      gi_wp2_with fail
      obtain ⟨ps, hps⟩ : ∃ ps, ps = blocksQ q := ⟨_, rfl⟩
      have HPS := Lib.hid hps
      rw [← hps] at HLE hbl c5 ⊢
      have hh5 : b4 + 1 < wr.heap.size := HLE.out.box5.lt
      have hstart : BlkN g q.length b4 (b4 + 1) wr.heap.size q ps nu Al cl w (List.replicate ps.length (.slice none 0 0)) 0 0 wr :=
        ⟨HLE.out.nrow, HLE.out.box4, HLE.out.box5, by rw [← rowB_eq]; exact HLE.out.row, by simp, fun j _ hj => by rw [List.getElem?_replicate, if_pos hj], fun j v h => by omega, below_t HB1.out (by rw [HW1.out]; exact HLE.out.below), Nat.le_refl _⟩
      have HNUM := Lib.hid HLE.out.num
      obtain ⟨H3, hH3⟩ : ∃ H3, H3 = wr.heap.size := ⟨_, rfl⟩
      have hAl : ∀ gl, (Value.slice Al ps.length cl).ownBlock = some gl → gl < H3 := fun gl h => by have := own_lt HLE.out.row gl h; omega
      rw [← hH3] at hstart
      have HST := Lib.hid hstart
      have HAL := Lib.hid hAl
      clear hps hstart hAl c4 c5 hf
      refine wpIn_loop (BlkI A cap q w g b4 H3 ps nu Al cl undef (.slice (some ⟨gi, 0, none⟩) q.length ci) (.int .i64 q.length) u7 u8 (.slice A q.length cap) (.slice (some ⟨gi, 0, none⟩) q.length ci) (.slice A q.length cap) (.int .i64 q.length) (.slice (some ⟨g, 0, none⟩) q.length q.length) (.int .i64 q.length) (.slice A q.length cap) (.int .i64 q.length) (.bool false) u20 u21 u22 u23 u24 u25 u26 u27 u28 u29 u30 u31 u32 u33 u34 u35 u36 u37 u38 u39 u40 u41 u42 u43 u44 u45 u46 u47 u48 u49 u50 u51 u52 u53 u54 u55 u56 u57 u58 u59 u60 (.slice Al ps.length cl)) (fun a _ => ps.length - (intOf (a.tmps.getD 63 undef)).toNat) ?start ?round
      case start => exact ⟨0, by omega, _, _, _, _, _, _, _, _, _, _, _, _, _, _, _, _, _, _, _, _, _, _, _, _, _, _, _, _, _, _, [], rfl, _, HST.out, ⟨fun d hd => by simp at hd, List.Pairwise.nil⟩⟩
      case round =>
        rintro a W ⟨i, hi, u9, u10, u64, u65, u66, u67, u68, u69, u70, u71, u72, u73, u74, u75, u76, u77, u78, u79, u80, u81, u82, u83, u84, u85, u86, u87, u88, u89, u90, u91, ds, rfl, vs, hN, hM⟩
        have HN := Lib.hid hN
        have HM := Lib.hid hM
        clear HST
        have c4 := hN.box4.cell
        have c5 := hN.box5.cell
        clear hN hM
        rcases Nat.lt_or_ge i ps.length with hil | hil
        · have hil' : (i : Int) < ps.length := by omega
          obtain ⟨gl, cl', hAv, -⟩ := HN.out.row.form (by omega)
          injection hAv with hA1 _ hA2
          subst hA1 hA2
          have hgl : gl < H3 := HAL.out gl rfl
          obtain ⟨p, hp⟩ : ∃ p, ps[i]? = some p := ⟨_, List.getElem?_eq_getElem hil⟩
          obtain ⟨pr1, pr2, pr3⟩ := HPR.out p (by have h := List.mem_of_getElem? hp; rw [HPS.out] at h; exact h)
          obtain ⟨e, he⟩ : ∃ e, p.2 = e + 1 := ⟨p.2 - 1, by omega⟩
          obtain ⟨bA, oA, hA, hbA, -⟩ := HR.out.2 a1
          subst hA
          have ct : W.cell? ⟨gl, i * 3 + 1, none⟩ = some (.int .i64 ((e : Int) + 1)) := by
            rw [HN.out.row.cellAt _ (by omega), (blkV_get ps vs i p _ hp (HN.out.nils i (Nat.le_refl _) hil)).2.1, he]; rfl
          have hb5w : b4 + 1 < W.heap.size := HN.out.box5.lt
          have hb4w : b4 < W.heap.size := by omega
          have hglw : gl < W.heap.size := own_lt HN.out.row gl (by simp [Value.ownBlock])
          have HP2 := Lib.hid hp
          clear hp
          gi_wp2_with fail
          refine ⟨trivial, (callsIn_wide.2 (leads_c (some ⟨bA, oA, none⟩) q.length cap e _)).mono ?_⟩
          rintro en w9 ⟨rfl, rfl⟩
          gi_wp2_with fail
          obtain ⟨W1, hW1⟩ : ∃ W1, W1 = ((W.alloc (.cells #[.int .i64 i] 3)).alloc (.cells #[.slice (some ⟨bA, oA, none⟩) q.length cap] 22)).alloc (.cells #[.int .i64 e] 3) := ⟨_, rfl⟩
          have hs1 : W1.heap.size = W.heap.size + 3 := by rw [hW1]; simp
          have hbW1 : Below W.heap.size W W1 := by rw [hW1]; exact below_al (below_al (below1 W _) _) _
          have hb1 : Below w.heap.size w W1 := HN.out.below.trans (hbW1.mono HN.out.below.size)
          have hN1 : BlkN g q.length b4 (b4 + 1) H3 q ps nu (some ⟨gl, 0, none⟩) cl w (vs.set i (.slice none 0 0)) i (i + 1) W1 := by
            have h := HN.out.keep hbW1
            have e1 : vs.set i (.slice none 0 0) = vs := by
              have h1 := HN.out.nils i (Nat.le_refl _) hil
              refine List.ext_getElem? fun j => ?_
              rw [List.getElem?_set]
              split
              · rename_i e2; subst e2; rw [if_pos (by rw [HN.out.len]; exact hil), h1]
              · rfl
            rw [e1]
            exact ⟨h.nrow, h.box4, h.box5, h.row, h.len, fun j h1 h2 => h.nils j (by omega) h2, h.rows, h.below, h.sz⟩
          have hbi : Boxed W1 W.heap.size 3 (.int .i64 i) := by rw [hW1]; exact ((Boxed.new W _ _).alloc _).alloc _
          have hM1 : Marks w.heap.size W1 ds := by rw [hW1]; exact ((HM.out.alloc _).alloc _).alloc _
          have hla : LeadsAt W1 (W.heap.size + 3) (fun b => b = gl) (W.heap.size + 1) (W.heap.size + 1 + 1) (some ⟨bA, oA, none⟩) cap q e := by
            rw [hW1]
            exact ⟨by simp [go_sem], by omega, by omega, by simp [go_sem], by omega, by omega⟩
          have hg5 : b4 + 1 + 1 ≤ gl := own_ge HN.out.row gl (by simp [Value.ownBlock])
          have hgB : w.heap.size ≤ gl := by have := own_ge HN.out.row gl (by simp [Value.ownBlock]); omega
          have hst := leads_stopsP (fun t => t < q.length) 2 (W.heap.size + 3) (fun b => b = gl) (W.heap.size + 1) (W.heap.size + 1 + 1) (some ⟨bA, oA, none⟩) cap q e (fun t ht => (nextQ_mem HOK.out ht).2) (by omega) HOK.out (by omega) W1 hla w.heap.size (by have := HN.out.below.size; omega) (fun b hb => by omega) (HR.out.below hb1) (by omega)
          have hlt : ∀ j u, j < i → vs[j]? = some u → ∀ k, u.ownBlock = some k → k < W.heap.size + 3 := fun j u h1 h2 k hk => by have := own_lt (HN.out.rows j u h1 h2) k hk; omega
          have HLT := Lib.hid hlt
          have h33 : H3 ≤ W.heap.size := by
            exact HN.out.sz
          have hwsz : w.heap.size ≤ W.heap.size := HN.out.below.size
          rw [← hW1]
          clear hW1 hlt
          refine wpIn_rangeFunc_ownG rfl (by decide) (gf := 62) (lb := #[.pointer (some ⟨W.heap.size + 1, 0, none⟩), .pointer (some ⟨W.heap.size + 1 + 1, 0, none⟩)]) rfl trivial (enters_of Try.func62 (by kernel_rfl) rfl) hst KpI.trans
            (KpI.put (by omega)) (Below.refl _ _) (fun _ => rfl)
            (fun pre V => (∃ v, V.ownsRow (W.heap.size + 3) 3 1 v pre.length (numV .i64 (natsI (pre.map (fun t => nu.getD t.1 0)))) ∧ BlkN g q.length b4 (b4 + 1) H3 q ps nu (some ⟨gl, 0, none⟩) cl w (vs.set i v) i (i + 1) V ∧ W.heap.size + 3 ≤ V.heap.size) ∧ Boxed V W.heap.size 3 (.int .i64 i) ∧ Marks w.heap.size V ds)
            (fun _ _ _ => False)
            (OwnFrom.and (fun s V V' row hs hg hr => by obtain ⟨v, h1, h2, h3⟩ := hs; exact ⟨v, row_own (β := Unit) () V V' row h1 hg hr, BlkN.own (H := W1.heap.size) (by omega) (fun _ : Unit => vs.set i v) () V V' row h2 hg hr, Nat.le_trans h3 hg.size⟩) (Boxed.own.and (Marks.own (fun D hd => by have := HM.out.lt hd; omega))))
            (fun _ _ _ _ _ hs _ _ => hs)
            ⟨⟨_, World.ownsRow_nil _ _ _ _, hN1, by omega⟩, hbi, hM1⟩
            (fun t => { tmps := #[Value.slice (some ⟨bA, oA, none⟩) q.length cap, undef, Value.slice none 0 0, .slice (some ⟨gi, 0, none⟩) q.length ci, .pointer (some ⟨b4, 0, none⟩), .pointer (some ⟨b4 + 1, 0, none⟩), .int .i64 q.length, u7, u8, .pointer (some ⟨W.heap.size, 0, none⟩), .int .i64 t.1, .slice (some ⟨bA, oA, none⟩) q.length cap, .slice (some ⟨gi, 0, none⟩) q.length ci, .slice (some ⟨bA, oA, none⟩) q.length cap, .int .i64 q.length, .slice (some ⟨g, 0, none⟩) q.length q.length, .int .i64 q.length, .slice (some ⟨bA, oA, none⟩) q.length cap, .int .i64 q.length, .bool false, u20, u21, u22, u23, u24, u25, u26, u27, u28, u29, u30, u31, u32, u33, u34, u35, u36, u37, u38, u39, u40, u41, u42, u43, u44, u45, u46, u47, u48, u49, u50, u51, u52, u53, u54, u55, u56, u57, u58, u59, u60, .slice (some ⟨gl, 0, none⟩) ps.length cl, .int .i64 ps.length, .int .i64 i, .bool true, .int .i64 i, .slice (some ⟨bA, oA, none⟩) q.length cap, .slice (some ⟨gl, 0, none⟩) ps.length cl, .int .i64 i, .pointer (some ⟨gl, i * 3, none⟩), .pointer (some ⟨gl, i * 3 + 1, none⟩), .int .i64 ((e : Int) + 1), .int .i64 e, .func (Fn.func 62) #[] #[.pointer (some ⟨W.heap.size + 1, 0, none⟩), .pointer (some ⟨W.heap.size + 1 + 1, 0, none⟩)], .int .i64 t.1, u75, u76, u77, u78, u79, u80, u81, u82, u83, u84, u85, u86, u87, u88, u89, u90, u91], defers := [] }) ?assign ?body ?done ?stop
          case assign =>
            intro l t V K hK
            gi_wp2
            exact hK
          case body =>
            rintro l pre x W2 ⟨⟨v, hv, hN2, hW2s⟩, hbi2, hM2⟩ hlt2
            obtain ⟨y, hy⟩ : ∃ y, y = nu.getD x.1 0 := ⟨_, rfl⟩
            have c5' := hN2.box5.cell
            have c9' := hbi2.cell
            have c4' := hN2.box4.cell
            have cn' := hN2.nrow.get x.2
            rw [← hy] at cn'
            have hx' : ((x.1 : Nat) : Int) < q.length := by have := x.2; omega
            have hlen2 : vs.length = ps.length := HN.out.len
            have cnx : W2.cell? ⟨gl, i * 3 + 2, none⟩ = some v := by
              rw [hN2.row.cellAt _ (by omega)]
              exact (blkV_get ps (vs.set i v) i p v HP2.out (by rw [List.getElem?_set_self (by omega)])).2.2
            have fnx : W2.frozen? ⟨gl, i * 3 + 2, none⟩ = false := hN2.row.frozenAt _
            have hplen : pre.length ≤ 2 := by omega
            have HV := Lib.hid hv
            have HN2 := Lib.hid hN2
            have HM2 := Lib.hid hM2
            have HBI2 := Lib.hid hbi2
            have HYY := Lib.hid hy
            have hSd : W2.cell? ⟨b4 + 1, 0, none⟩ = some (.slice (some ⟨gl, 0, none⟩) ps.length cl) ∧ W2.cell? ⟨W.heap.size, 0, none⟩ = some (.int .i64 i) ∧ W2.cell? ⟨b4, 0, none⟩ = some (.slice (some ⟨g, 0, none⟩) q.length q.length) ∧ W2.cell? ⟨g, x.1, none⟩ = some (.int .i64 y) := ⟨c5', c9', c4', cn'⟩
            have HS : Hid (W2.drew.cell? ⟨b4 + 1, 0, none⟩ = some (.slice (some ⟨gl, 0, none⟩) ps.length cl) ∧ W2.drew.cell? ⟨W.heap.size, 0, none⟩ = some (.int .i64 i) ∧ W2.drew.cell? ⟨b4, 0, none⟩ = some (.slice (some ⟨g, 0, none⟩) q.length q.length) ∧ W2.drew.cell? ⟨g, x.1, none⟩ = some (.int .i64 y)) := Lib.hid hSd
            have HSK : Hid (∀ W' : World, (∀ k o, k ≠ gl → k < W.heap.size + 3 → W'.cell? ⟨k, o, none⟩ = W2.cell? ⟨k, o, none⟩) → W'.cell? ⟨b4 + 1, 0, none⟩ = some (.slice (some ⟨gl, 0, none⟩) ps.length cl) ∧ W'.cell? ⟨W.heap.size, 0, none⟩ = some (.int .i64 i) ∧ W'.cell? ⟨b4, 0, none⟩ = some (.slice (some ⟨g, 0, none⟩) q.length q.length) ∧ W'.cell? ⟨g, x.1, none⟩ = some (.int .i64 y)) := Lib.hid (fun W' h => ⟨(h _ _ (by omega) (by omega)).trans c5', (h _ _ (by omega) (by omega)).trans c9', (h _ _ (by omega) (by omega)).trans c4', (h _ _ (by omega) (by omega)).trans cn'⟩)
            have HNEW : Hid (∀ j u, [Value.int .i64 y][j]? = some u → (W2.drew.alloc (.cells #[.int .i64 y] 3)).cell? ((⟨W2.heap.size, 0, none⟩ : Addr).add j) = some u) := Lib.hid (cell_one_new _ _ _)
            have FIN : Hid (∀ (w4 : World) (g' cap' : Nat), (W2.alloc (.cells #[.int .i64 y] 3)).grownBy w4 v.ownBlock → w4.ownsRow (W.heap.size + 3) 3 1 (.slice (some ⟨g', 0, none⟩) (pre.length + 1) cap') (pre.length + 1) (numV .i64 (natsI (pre.map (fun t => nu.getD t.1 0))) ++ [.int .i64 y]) → W.heap.size + 3 ≤ g' → KeepsFrom W1.heap.size W2 (w4.setCell ⟨gl, i * 3 + 2, none⟩ (.slice (some ⟨g', 0, none⟩) (pre.length + 1) cap')) ∧ KpI (W.heap.size + 3) (fun b => b = gl) W2 (w4.setCell ⟨gl, i * 3 + 2, none⟩ (.slice (some ⟨g', 0, none⟩) (pre.length + 1) cap')) ∧ ((∃ v, World.ownsRow (w4.setCell ⟨gl, i * 3 + 2, none⟩ (.slice (some ⟨g', 0, none⟩) (pre.length + 1) cap')) (W.heap.size + 3) 3 1 v (pre ++ [x]).length (numV .i64 (natsI ((pre ++ [x]).map (fun t => nu.getD t.1 0)))) ∧ BlkN g q.length b4 (b4 + 1) H3 q ps nu (some ⟨gl, 0, none⟩) cl w (vs.set i v) i (i + 1) (w4.setCell ⟨gl, i * 3 + 2, none⟩ (.slice (some ⟨g', 0, none⟩) (pre.length + 1) cap')) ∧ W.heap.size + 3 ≤ Array.size (World.heap (w4.setCell ⟨gl, i * 3 + 2, none⟩ (.slice (some ⟨g', 0, none⟩) (pre.length + 1) cap')))) ∧ Boxed (w4.setCell ⟨gl, i * 3 + 2, none⟩ (.slice (some ⟨g', 0, none⟩) (pre.length + 1) cap')) W.heap.size 3 (.int .i64 i) ∧ Marks w.heap.size (w4.setCell ⟨gl, i * 3 + 2, none⟩ (.slice (some ⟨g', 0, none⟩) (pre.length + 1) cap')) ds)) := Lib.hid (fun w4 g' cap' hg4 hown4 hge => by
              refine ⟨(keepsO_app HV.out hg4 gl _).from _, KpI.appendedAt (H := W.heap.size + 3) (X := fun b => b = gl) HV.out hg4 (show gl < W.heap.size + 3 by omega) rfl _, ⟨_, ?_, HN2.out.next hil (by omega) (by omega) (by omega) hgl (by omega) (by omega) hW2s HV.out HLT.out hg4, by have := hg4.size; simp at this ⊢; omega⟩, ?_, ?_⟩
              · have := ownsRow_setCell_other hown4 (a := ⟨gl, i * 3 + 2, none⟩) (by simp [Value.ownBlock]; omega) (.slice (some ⟨g', 0, none⟩) (pre.length + 1) cap')
                rw [HYY.out] at this
                simpa [natsI, numV] using this
              · exact (Below.heap_setCell _ _ _ _ (show W.heap.size ≠ gl by omega)).trans ((HBI2.out.alloc _).kept hg4 (fun e => by have := own_ge HV.out W.heap.size e.symm; omega))
              · refine Marks.set ?_ _ _
                refine (HM2.out.alloc _).keep fun D hd _ hD => (hg4.block D (Array.getElem?_eq_some_iff.1 hD).1 (fun e => ?_)).trans hD
                have h1 := own_ge HV.out D e.symm
                have h2 := HM.out.lt hd
                omega)
            clear hs1 hst hla hb1 hbW1 hN1 hbi hM1 hv hN2 hM2 hbi2 hy c5' c9' c4' cn' hSd
            gi_wp2_with fail
            refine wpIn_region_held (S := fun W' => W'.cell? ⟨b4 + 1, 0, none⟩ = some (.slice (some ⟨gl, 0, none⟩) ps.length cl) ∧ W'.cell? ⟨W.heap.size, 0, none⟩ = some (.int .i64 i) ∧ W'.cell? ⟨b4, 0, none⟩ = some (.slice (some ⟨g, 0, none⟩) q.length q.length) ∧ W'.cell? ⟨g, x.1, none⟩ = some (.int .i64 y)) (by kernel_rfl) (by kernel_rfl) ?_
            refine wpAnyH_take (i := 0) (v := .slice (some ⟨gl, 0, none⟩) ps.length cl) rfl (by kernel_rfl) (by kernel_rfl) (by kernel_rfl) (fun _ _ _ h => h) (.inl ⟨by rfl, fun W' hS' => ?_⟩) HS.out ?_
            · obtain ⟨s1, s2, s3, s4⟩ := hS'
              go_simp
            refine wpAnyH_take (i := 1) (v := .int .i64 i) rfl (by kernel_rfl) (by kernel_rfl) (by kernel_rfl) (fun _ _ _ h => h) (.inl ⟨by rfl, fun W' hS' => ?_⟩) HS.out ?_
            · obtain ⟨s1, s2, s3, s4⟩ := hS'
              go_simp
            refine wpAnyH_take (i := 2) (v := .slice (some ⟨gl, 0, none⟩) ps.length cl) rfl (by kernel_rfl) (by kernel_rfl) (by kernel_rfl) (fun _ _ _ h => h) (.inl ⟨by rfl, fun W' hS' => ?_⟩) HS.out ?_
            · obtain ⟨s1, s2, s3, s4⟩ := hS'
              go_simp
            refine wpAnyH_take (i := 3) (v := .int .i64 i) rfl (by kernel_rfl) (by kernel_rfl) (by kernel_rfl) (fun _ _ _ h => h) (.inl ⟨by rfl, fun W' hS' => ?_⟩) HS.out ?_
            · obtain ⟨s1, s2, s3, s4⟩ := hS'
              go_simp
            refine wpAnyH_take (i := 4) (v := .pointer (some ⟨gl, i * 3, none⟩)) rfl (by kernel_rfl) (by kernel_rfl) (by kernel_rfl) (fun _ _ _ h => h) (.inl ⟨by rfl, fun W' hS' => ?_⟩) HS.out ?_
            · obtain ⟨s1, s2, s3, s4⟩ := hS'
              go_simp
            refine wpAnyH_take (i := 5) (v := .pointer (some ⟨gl, i * 3 + 2, none⟩)) rfl (by kernel_rfl) (by kernel_rfl) (by kernel_rfl) (fun _ _ _ h => h) (.inl ⟨by rfl, fun W' hS' => ?_⟩) HS.out ?_
            · obtain ⟨s1, s2, s3, s4⟩ := hS'
              go_simp
            refine wpAnyH_take (i := 7) (v := .slice (some ⟨g, 0, none⟩) q.length q.length) rfl (by kernel_rfl) (by kernel_rfl) (by kernel_rfl) (fun _ _ _ h => h) (.inl ⟨by rfl, fun W' hS' => ?_⟩) HS.out ?_
            · obtain ⟨s1, s2, s3, s4⟩ := hS'
              go_simp
            refine wpAnyH_take (i := 8) (v := .int .i64 x.1) rfl (by kernel_rfl) (by kernel_rfl) (by kernel_rfl) (fun _ _ _ h => h) (.inl ⟨by rfl, fun W' hS' => ?_⟩) HS.out ?_
            · obtain ⟨s1, s2, s3, s4⟩ := hS'
              go_simp
            refine wpAnyH_take (i := 9) (v := .pointer (some ⟨g, x.1, none⟩)) rfl (by kernel_rfl) (by kernel_rfl) (by kernel_rfl) (fun _ _ _ h => h) (.inl ⟨by rfl, fun W' hS' => ?_⟩) HS.out ?_
            · obtain ⟨s1, s2, s3, s4⟩ := hS'
              go_simp
            refine wpAnyH_take (i := 10) (v := .int .i64 y) rfl (by kernel_rfl) (by kernel_rfl) (by kernel_rfl) (fun _ _ _ h => h) (.inl ⟨by rfl, fun W' hS' => ?_⟩) HS.out ?_
            · obtain ⟨s1, s2, s3, s4⟩ := hS'
              go_simp
            have hcd : W2.drew.cell? ⟨gl, i * 3 + 2, none⟩ = some v := cnx
            have hcal : (W2.drew.alloc (.cells #[.int .i64 y] 3)).cell? ⟨gl, i * 3 + 2, none⟩ = some v := (World.cell?_alloc_lt W2.drew _ ⟨gl, i * 3 + 2, none⟩ (show gl < W2.heap.size by omega)).trans cnx
            have hcal2 : (W2.alloc (.cells #[.int .i64 y] 3)).cell? ⟨gl, i * 3 + 2, none⟩ = some v := hcal
            have hal : (W2.drew.alloc (.cells #[.int .i64 y] 3)).cell? ⟨b4 + 1, 0, none⟩ = some (.slice (some ⟨gl, 0, none⟩) ps.length cl) ∧ (W2.drew.alloc (.cells #[.int .i64 y] 3)).cell? ⟨W.heap.size, 0, none⟩ = some (.int .i64 i) ∧ (W2.drew.alloc (.cells #[.int .i64 y] 3)).cell? ⟨b4, 0, none⟩ = some (.slice (some ⟨g, 0, none⟩) q.length q.length) ∧ (W2.drew.alloc (.cells #[.int .i64 y] 3)).cell? ⟨g, x.1, none⟩ = some (.int .i64 y) := HSK.out _ (fun k o _ hk => World.cell?_alloc_lt W2.drew _ ⟨k, o, none⟩ (show k < W2.heap.size by omega))
            refine wpAnyH_two_v (i := 6) (j := 11) (v := v) (u := .slice (some ⟨W2.heap.size, 0, none⟩) 1 1) (w' := W2.drew) (u' := (W2.drew.alloc (.cells #[.int .i64 y] 3))) (by kernel_rfl) rfl rfl rfl rfl ?_ HS.out ?_ hal ?_ ?_
            · go_simp
            · go_simp
            · refine wpAnyH_one_v (i := 11) (v := .slice (some ⟨W2.heap.size, 0, none⟩) 1 1) (w' := (W2.drew.alloc (.cells #[.int .i64 y] 3))) (by kernel_rfl) rfl rfl ?_ hal ?_
              · go_simp
              refine wpAnyH_app (k := 12) (by kernel_rfl) rfl rfl (.tmp 81) (.tmp 86) 36 rfl (W.heap.size + 3) 3 i0 _ 1 8 Try.underlying36 HI.out.1 HI.out.2.1 HI.out.2.2.1 HI.out.2.2.2 rfl (by decide) v pre.length _ ?_ (HV.out.alloc _) ⟨W2.heap.size, 0, none⟩ 1 1 [.int .i64 y] ?_ rfl HNEW.out (by simp [Value.oneCell']) (by simp only [maxLen]; omega) (by omega) (by simp; omega) ?_
              · go_simp
              · go_simp
              intro v' w4 hown4 hg4 _
              obtain ⟨g', cap', hv', -, -⟩ := hown4.form (by omega)
              subst hv'
              have hcg : ∀ k, k < W.heap.size + 3 → w4.heap[k]? = W2.heap[k]? := fun k hk => (hg4.block k (by simp; omega) (fun e => by have := own_ge HV.out k e.symm; omega)).trans (Below.heap_alloc W2 _ k (by omega))
              have hcl4 : w4.cell? ⟨gl, i * 3 + 2, none⟩ = some v := (World.cell?_of_block (a := ⟨gl, i * 3 + 2, none⟩) (hcg gl (by omega))).trans cnx
              have hfl4 : w4.frozen? ⟨gl, i * 3 + 2, none⟩ = false := (World.frozen?_of_block (a := ⟨gl, i * 3 + 2, none⟩) (hcg gl (by omega))).trans fnx
              refine And.intro (HSK.out w4 (fun k o _ hk => World.cell?_of_block (a := ⟨k, o, none⟩) (hcg k hk))) ?_
              refine wpAnyH_one_v (i := 13) (v := .pointer (some ⟨gl, i * 3, none⟩)) (w' := w4) (by kernel_rfl) rfl rfl ?_ (HSK.out w4 (fun k o _ hk => World.cell?_of_block (a := ⟨k, o, none⟩) (hcg k hk))) ?_
              · go_simp
              refine wpAnyH_one_v (i := 14) (v := .pointer (some ⟨gl, i * 3 + 2, none⟩)) (w' := w4) (by kernel_rfl) rfl rfl ?_ (HSK.out w4 (fun k o _ hk => World.cell?_of_block (a := ⟨k, o, none⟩) (hcg k hk))) ?_
              · go_simp
              refine wpAnyH_one_s (i := 15) (w' := w4.setCell ⟨gl, i * 3 + 2, none⟩ (.slice (some ⟨g', 0, none⟩) (pre.length + 1) cap')) (by kernel_rfl) rfl rfl ?_ (HSK.out _ (fun k o hkg hk => (World.cell?_setCell_far _ _ _ _ (by show gl ≠ k; omega)).trans (World.cell?_of_block (a := ⟨k, o, none⟩) (hcg k hk)))) ?_
              · go_simp
              refine wpAnyH_done (by kernel_rfl) ?_ _
              have hge := own_ge hown4 g' (by simp [Value.ownBlock])
              exact FIN.out _ _ _ ⟨hg4.os, hg4.tape, hg4.output, hg4.size, hg4.block⟩ hown4 hge
            · refine wpAnyH_one_v (i := 6) (v := v) (w' := (W2.drew.alloc (.cells #[.int .i64 y] 3))) (by kernel_rfl) rfl rfl ?_ hal ?_
              · go_simp
              refine wpAnyH_app (k := 12) (by kernel_rfl) rfl rfl (.tmp 81) (.tmp 86) 36 rfl (W.heap.size + 3) 3 i0 _ 1 8 Try.underlying36 HI.out.1 HI.out.2.1 HI.out.2.2.1 HI.out.2.2.2 rfl (by decide) v pre.length _ ?_ (HV.out.alloc _) ⟨W2.heap.size, 0, none⟩ 1 1 [.int .i64 y] ?_ rfl HNEW.out (by simp [Value.oneCell']) (by simp only [maxLen]; omega) (by omega) (by simp; omega) ?_
              · go_simp
              · go_simp
              intro v' w4 hown4 hg4 _
              obtain ⟨g', cap', hv', -, -⟩ := hown4.form (by omega)
              subst hv'
              have hcg : ∀ k, k < W.heap.size + 3 → w4.heap[k]? = W2.heap[k]? := fun k hk => (hg4.block k (by simp; omega) (fun e => by have := own_ge HV.out k e.symm; omega)).trans (Below.heap_alloc W2 _ k (by omega))
              have hcl4 : w4.cell? ⟨gl, i * 3 + 2, none⟩ = some v := (World.cell?_of_block (a := ⟨gl, i * 3 + 2, none⟩) (hcg gl (by omega))).trans cnx
              have hfl4 : w4.frozen? ⟨gl, i * 3 + 2, none⟩ = false := (World.frozen?_of_block (a := ⟨gl, i * 3 + 2, none⟩) (hcg gl (by omega))).trans fnx
              refine And.intro (HSK.out w4 (fun k o _ hk => World.cell?_of_block (a := ⟨k, o, none⟩) (hcg k hk))) ?_
              refine wpAnyH_one_v (i := 13) (v := .pointer (some ⟨gl, i * 3, none⟩)) (w' := w4) (by kernel_rfl) rfl rfl ?_ (HSK.out w4 (fun k o _ hk => World.cell?_of_block (a := ⟨k, o, none⟩) (hcg k hk))) ?_
              · go_simp
              refine wpAnyH_one_v (i := 14) (v := .pointer (some ⟨gl, i * 3 + 2, none⟩)) (w' := w4) (by kernel_rfl) rfl rfl ?_ (HSK.out w4 (fun k o _ hk => World.cell?_of_block (a := ⟨k, o, none⟩) (hcg k hk))) ?_
              · go_simp
              refine wpAnyH_one_s (i := 15) (w' := w4.setCell ⟨gl, i * 3 + 2, none⟩ (.slice (some ⟨g', 0, none⟩) (pre.length + 1) cap')) (by kernel_rfl) rfl rfl ?_ (HSK.out _ (fun k o hkg hk => (World.cell?_setCell_far _ _ _ _ (by show gl ≠ k; omega)).trans (World.cell?_of_block (a := ⟨k, o, none⟩) (hcg k hk)))) ?_
              · go_simp
              refine wpAnyH_done (by kernel_rfl) ?_ _
              have hge := own_ge hown4 g' (by simp [Value.ownBlock])
              exact FIN.out _ _ _ ⟨hg4.os, hg4.tape, hg4.output, hg4.size, hg4.block⟩ hown4 hge
          case done =>
            rintro D ys V hD hys ⟨⟨v, hv, hN2, hW2s⟩, hbi2, hM2⟩ hK
            have HV := Lib.hid hv
            have HN2 := Lib.hid hN2
            have HM2 := Lib.hid hM2
            have HK := Lib.hid hK
            have HYS := Lib.hid hys
            clear hys hK hv hN2 hM2 hbi2 hst hla hb1 hN1 hbi hM1
            gi_wp2_with fail
            refine ⟨⟨i + 1, hil, _, _, _, _, _, _, _, _, _, _, _, _, _, _, _, _, _, _, _, _, _, _, _, _, _, _, _, _, _, _, _, rfl, vs.set i v, ?_, HM2.out.cons (by omega) HK.out (fun d hd e => ?_)⟩, ?_⟩
            · have h := HN2.out
              refine ⟨h.nrow, h.box4, h.box5, h.row, h.len, h.nils, fun j u h1 h2 => ?_, h.below, h.sz⟩
              rcases Nat.lt_or_ge j i with h3 | h3
              · exact h.rows j u h3 h2
              · obtain rfl : j = i := by omega
                rw [List.getElem?_set_self (by rw [HN.out.len]; exact hil)] at h2
                injection h2 with h2
                subst h2
                have e1 : nextsQ q ps nu j = ys.map (fun t => nu.getD t.1 0) := by
                  unfold nextsQ
                  rw [List.getD_eq_getElem?_getD, HP2.out]
                  show (nextQ q (p.2 - 1)).map _ = _
                  rw [he, Nat.add_sub_cancel, ← HYS.out, List.map_map]; rfl
                rw [e1, List.length_map]
                exact own_base HV.out (by omega)
            · subst e
              have := HM.out.lt hd
              omega
            · show ps.length - (intOf (.int .i64 ((i : Int) + 1))).toNat < ps.length - (intOf (.int .i64 (i : Int))).toNat
              simp only [intOf]; omega
          case stop =>
            rintro D c pre V _ _ h _
            exact h.elim
        · obtain rfl : i = ps.length := by omega
          gi_wp2_with fail
          refine leaves_marks (B := w.heap.size) (fun V => ∃ vs, BlkN g q.length b4 (b4 + 1) H3 q ps nu Al cl w vs ps.length ps.length V) ?_ ?_ ds W HM.out ⟨_, HN.out⟩
          · rintro V D ⟨vs, h⟩ hD hv
            exact ⟨vs, h.nrow.put hv rfl, h.box4.put hv rfl, h.box5.put hv rfl, ownsRow_putObj h.row _ hv rfl, h.len, h.nils, fun j u h1 h2 => ownsRow_putObj (h.rows j u h1 h2) _ hv rfl, h.below.trans (belowK_b (w := w) (Nat.le_refl _) V D _ _ hD hv rfl rfl), by simpa using h.sz⟩
          · rintro V ⟨vs, h⟩
            exact ⟨_, results_tmp rfl _ _ _, _, vs, nu, rfl, by rw [← HPS.out]; exact h.len, by rw [← HPS.out]; exact own_base h.row (by omega), h.below, by rw [← HPS.out]; exact HNUM.out, h.nrow.1, by rw [← HPS.out]; exact fun j u h1 h2 => own_base (h.rows j u h1 h2) (by omega)⟩
end Go.Proofs.Ytapmpegblfcknaa
