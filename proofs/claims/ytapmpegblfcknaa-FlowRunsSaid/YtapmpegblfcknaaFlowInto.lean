import Derived.Test.YtapmpegblfcknaaFlowNext1
set_option linter.unusedVariables false
set_option linter.unusedSimpArgs false
namespace Go.Proofs.Ytapmpegblfcknaa
open Go.RowKit Go.Shelf
attribute [local go_sem] Oper.semAt_some
/-! flow.into: the walk. -/
/-- The marks of loops over iterators that are over. -/
def Marks (B : Nat) (w : World) (ds : List Deferred) : Prop := (∀ d ∈ ds, ∃ D, d = { target := .collected D, args := #[] } ∧ B ≤ D ∧ w.heap[D]? = some (.deferred (some []))) ∧ ds.Pairwise (fun d e => d ≠ e)
theorem Marks.keep {B : Nat} {w W : World} {ds : List Deferred} (h : Marks B w ds) (hk : ∀ D, ({ target := .collected D, args := #[] } : Deferred) ∈ ds → B ≤ D → w.heap[D]? = some (.deferred (some [])) → W.heap[D]? = some (.deferred (some []))) : Marks B W ds :=
  ⟨fun d hd => by obtain ⟨D, e, h1, h2⟩ := h.1 d hd; subst e; exact ⟨D, rfl, h1, hk D hd h1 h2⟩, h.2⟩
theorem Marks.lt {B : Nat} {w : World} {ds : List Deferred} (h : Marks B w ds) {D : Nat} (hd : ({ target := .collected D, args := #[] } : Deferred) ∈ ds) : D < w.heap.size := by
  obtain ⟨D', e, _, h2⟩ := h.1 _ hd
  injection e with e _
  injection e with e
  subst e
  exact (Array.getElem?_eq_some_iff.1 h2).1
theorem Marks.set {B : Nat} {w : World} {ds : List Deferred} (h : Marks B w ds) (a : Addr) (v : Value) : Marks B (w.setCell a v) ds := h.keep fun D _ _ hD => (KeepsOthers.setCell w a v).same D _ hD rfl
theorem Marks.alloc {B : Nat} {w : World} {ds : List Deferred} (h : Marks B w ds) (o : Obj) : Marks B (w.alloc o) ds := h.keep fun D hd _ hD => (Below.heap_alloc w o D (h.lt hd)).trans hD
theorem Marks.own {B H : Nat} {ds : List Deferred} (hH : ∀ D, ({ target := .collected D, args := #[] } : Deferred) ∈ ds → D < H) {β : Type} : OwnFrom H (fun (_ : β) W => Marks B W ds) := fun s W W' row hs hg hr =>
  hs.keep fun D hd _ hD => (hg.block D (Array.getElem?_eq_some_iff.1 hD).1 (fun e => by have := (hr D e.symm).1; have := hH D hd; omega)).trans hD
theorem Marks.cons {B D : Nat} {w : World} {ds : List Deferred} (h : Marks B w ds) (hB : B ≤ D) (hD : w.heap[D]? = some (.deferred (some []))) (hn : ∀ d ∈ ds, d ≠ { target := .collected D, args := #[] }) : Marks B w ({ target := .collected D, args := #[] } :: ds) :=
  ⟨fun d hd => by
    rcases List.mem_cons.1 hd with rfl | hd
    · exact ⟨D, rfl, hB, hD⟩
    · exact h.1 d hd, List.pairwise_cons.2 ⟨fun d hd e => hn d hd e.symm, h.2⟩⟩
theorem leaves_marks {F : Fence} {n : Nat} {P : Program} {fn : Func} {tmps : Array Value} {R : Ending → World → Prop} {B : Nat} (Φ : World → Prop) (hΦ : ∀ W D, Φ W → B ≤ D → W.heap[D]? = some (.deferred (some [])) → Φ (W.putObj D (.deferred none)))
    (hend : ∀ W, Φ W → LeavesIn F n P fn tmps R [] .returning W) : ∀ (ds : List Deferred) (w : World), Marks B w ds → Φ w → LeavesInM F n P fn tmps R ds .returning w := by
  intro ds
  induction ds with
  | nil => intro w _ hw; exact hend w hw
  | cons d ds ih =>
    intro w hm hw
    obtain ⟨D, rfl, hB, hD⟩ := hm.1 d (by simp)
    refine ⟨by simp, .inl ⟨D, _, rfl, run_takeDeferred hD, ih _ ?_ (hΦ w D hw hB hD)⟩⟩
    obtain ⟨h1, h2⟩ := List.pairwise_cons.1 hm.2
    refine ⟨fun e he => ?_, h2⟩
    obtain ⟨D', rfl, hB', hD'⟩ := hm.1 e (by simp [he])
    refine ⟨D', rfl, hB', ?_⟩
    rw [World.putObj_heap_other (fun e => h1 _ he (by rw [e]))]
    exact hD'
/-- A row of numbers that the call has made. -/
def NRow (B g m : Nat) (l : List Nat) (W : World) : Prop := l.length = m ∧ W.ownsRow B 3 1 (.slice (some ⟨g, 0, none⟩) m m) m (numV .i64 (natsI l))
section
variable {B g m : Nat} {l : List Nat} {W W' : World}
theorem NRow.get (h : NRow B g m l W) {j : Nat} (hj : j < m) : W.cell? ⟨g, j, none⟩ = some (.int .i64 (l.getD j 0)) := by
  rw [h.2.cellAt j (by omega)]
  have : l[j]? = some (l.getD j 0) := by rw [List.getD_eq_getElem?_getD, List.getElem?_eq_getElem (by rw [h.1]; exact hj)]; rfl
  rw [numV, natsI, List.getElem?_map, List.getElem?_map, this]; rfl
theorem NRow.free (h : NRow B g m l W) (j : Nat) : W.frozen? ⟨g, j, none⟩ = false := h.2.frozenAt j
theorem NRow.set (h : NRow B g m l W) (j v : Nat) : NRow B g m (l.set j v) (W.setCell ⟨g, j, none⟩ (.int .i64 v)) := by
  refine ⟨by simp [h.1], ?_⟩
  have := (h.2.stored j (.int .i64 v)).1
  have e : (numV .i64 (natsI l)).set j (.int .i64 (v : Int)) = numV .i64 (natsI (l.set j v)) := by simp [numV, natsI, List.map_set]
  rwa [e] at this
theorem NRow.bump (h : NRow B g m l W) {j : Nat} (hj : j < m) : NRow B g m (l.modify j (· + 1)) (W.setCell ⟨g, j, none⟩ (.int .i64 ((l.getD j 0 : Nat) + 1))) := by
  have hjl : j < l.length := by rw [h.1]; exact hj
  have e : l.modify j (· + 1) = l.set j (l.getD j 0 + 1) := by
    refine List.ext_getElem? fun i => ?_
    rw [List.getElem?_modify, List.getElem?_set, List.getD_eq_getElem?_getD]
    by_cases hij : j = i
    · subst hij; simp [hjl]
    · simp [hij]
  rw [e]
  exact_mod_cast h.set j (l.getD j 0 + 1)
theorem NRow.grow {row : Option Nat} (h : NRow B g m l W) (hg : W.grownBy W' row) (hne : some g ≠ row) : NRow B g m l W' := ⟨h.1, h.2.kept hg (.inr (by simpa [Value.ownBlock] using hne))⟩
theorem NRow.keep (h : NRow B g m l W) (hb : Below W.heap.size W W') : NRow B g m l W' := h.grow (row := none) ⟨hb.os, hb.tape, hb.output, hb.size, fun k hk _ => hb.block k hk⟩ (by simp)
theorem NRow.alloc (h : NRow B g m l W) (o : Obj) : NRow B g m l (W.alloc o) := h.keep (below1 W o)
theorem NRow.lt (h : NRow B g m l W) (hm : 0 < m) : g < W.heap.size := by obtain ⟨g', cap', hv, _, hlt⟩ := h.2.form hm; injection hv with hv; injection hv with hv; injection hv with hv; rw [hv]; exact hlt
theorem NRow.put (h : NRow B g m l W) {D : Nat} {o o' : Obj} (hl : W.heap[D]? = some o) (ho : o.isCells = false) : NRow B g m l (W.putObj D o') := ⟨h.1, ownsRow_putObj h.2 o' hl ho⟩
theorem NRow.new {w w2 : World} (h : w2.ownsRow B 3 1 (.slice (some ⟨g, 0, none⟩) m m) m (madeCells (Value.int .i64 0).cells (m * 1)).toList) : NRow B g m (List.replicate m 0) w2 := by
  refine ⟨by simp, ?_⟩
  have e : (madeCells (Value.int .i64 0).cells (m * 1)).toList = numV .i64 (natsI (List.replicate m 0)) := by
    simp only [numV, natsI, List.map_replicate, Nat.mul_one]; exact toList_madeCells_one _ _
  rwa [e] at h
end
def bumpN (n : List Nat) (l : List Nat) : List Nat := l.foldl (fun n to => n.modify to (· + 1)) n
def intoStep (q : List I4) (n : List Nat) (at_ : Nat) : List Nat := if n.getD at_ 0 = 0 then n else bumpN n (nextQ q at_)
def intoTo (q : List I4) (k : Nat) : List Nat := (List.range k).foldl (intoStep q) ((List.replicate q.length 0).modify 0 (· + 1))
def intoP (q : List I4) : List Nat := intoTo q q.length
theorem intoTo_succ (q : List I4) (k : Nat) : intoTo q (k + 1) = intoStep q (intoTo q k) k := by unfold intoTo; rw [List.range_succ, List.foldl_append]; rfl
theorem getD_modify (l : List Nat) (i j : Nat) : (l.modify i (· + 1)).getD j 0 ≤ l.getD j 0 + 1 := by
  rw [List.getD_eq_getElem?_getD, List.getD_eq_getElem?_getD, List.getElem?_modify]
  cases h : l[j]? with
  | none => simp
  | some x => simp only [Option.map_eq_map, Option.map_some, Option.getD_some]; split <;> omega
theorem bumpN_le (ts : List Nat) : ∀ (n : List Nat) (j : Nat), (bumpN n ts).getD j 0 ≤ n.getD j 0 + ts.length := by
  induction ts with
  | nil => intro n j; exact Nat.le_refl _
  | cons t ts ih =>
    intro n j
    have h1 := ih (n.modify t (· + 1)) j
    have h2 := getD_modify n t j
    simp only [List.length_cons]
    show (bumpN (n.modify t (· + 1)) ts).getD j 0 ≤ _
    omega
theorem intoTo_le (q : List I4) (j : Nat) : ∀ k, (intoTo q k).getD j 0 ≤ 1 + 2 * k := by
  intro k
  induction k with
  | zero =>
    have h := getD_modify (List.replicate q.length 0) 0 j
    have : (List.replicate q.length 0).getD j 0 = 0 := by rw [List.getD_eq_getElem?_getD, List.getElem?_replicate]; split <;> rfl
    show ((List.replicate q.length 0).modify 0 (· + 1)).getD j 0 ≤ _
    omega
  | succ k ih =>
    rw [intoTo_succ]; unfold intoStep; split
    · omega
    · have h := bumpN_le (nextQ q k) (intoTo q k) j
      have := nextQ_len q k
      omega
theorem KpI.setX {H : Nat} {X : Nat → Prop} {g : Nat} (hX : X g) (hg : g < H) (W : World) (j : Nat) (u : Value) : KpI H X W (W.setCell ⟨g, j, none⟩ u) :=
  ⟨by simp, fun k hk hh => Below.heap_setCell _ _ _ _ (fun e => by
    obtain rfl : k = g := e
    rcases hh with ⟨_, h⟩ | ⟨h, _⟩
    · exact h hX
    · omega)⟩
theorem NRow.own {B g m H : Nat} {β : Type} (f : β → List Nat) : OwnFrom H (fun (s : β) W => NRow B g m (f s) W) := fun s W W' row hs hg hr => by
  obtain ⟨h1, h2, h3⟩ := hs
  refine ⟨h1, h2, ?_⟩
  rcases h3 with ⟨h, _⟩ | ⟨g', cap, cur, h, hge, hb, r⟩
  · cases h
  · refine .inr ⟨g', cap, cur, h, hge, ?_, r⟩
    rw [← hb]
    refine hg.block _ (Array.getElem?_eq_some_iff.1 hb).1 (fun e => ?_)
    obtain ⟨_, o, ho, hc⟩ := hr g' e.symm
    rw [hb] at ho; cases ho; cases hc
theorem Boxed.own {bx t H : Nat} {v : Value} {β : Type} : OwnFrom H (fun (_ : β) W => Boxed W bx t v) := fun s W W' row hs hg hr => hs.kept hg (fun e => by
  obtain ⟨_, o, ho, hc⟩ := hr bx e.symm
  rw [show W.heap[bx]? = _ from hs] at ho; cases ho; cases hc)
def IntoI (A : Option Addr) (cap : Nat) (q : List I4) (w : World) (bx : Nat) (a : Act) (W : World) : Prop := ∃ k : Nat, k ≤ q.length ∧ ∃ (u4 u5 u17 u18 u19 u20 u21 u22 u23 u24 u25 u26 u27 u28 u29 u30 u31 u32 u33 u34 : Value) (ds : List Deferred),
  a = { tmps := #[Value.slice A q.length cap, undef, Value.slice none 0 0, Value.pointer (some { block := bx, off := 0 }), u4, u5, Value.slice A q.length cap,
          Value.int IntKind.i64 q.length, Value.slice (some { block := w.heap.size, off := 0 }) q.length q.length,
          Value.slice (some { block := w.heap.size, off := 0 }) q.length q.length,
          Value.pointer (some { block := w.heap.size, off := 0 }), Value.int IntKind.i64 0, Value.int IntKind.i64 1,
          Value.pointer (some { block := w.heap.size, off := 0 }), Value.slice A q.length cap,
          Value.int IntKind.i64 q.length, Value.int IntKind.i64 k, u17, u18, u19, u20, u21, u22, u23, u24, u25, u26, u27, u28, u29, u30, u31, u32, u33, u34, undef], defers := ds } ∧
  NRow w.heap.size w.heap.size q.length (intoTo q k) W ∧ Boxed W bx 36 (.slice (some ⟨w.heap.size, 0, none⟩) q.length q.length) ∧ Below w.heap.size w W ∧ Marks w.heap.size W ds
set_option maxRecDepth 100000 in
set_option maxHeartbeats 2000000 in
theorem into_in (A : Option Addr) (cap : Nat) (q : List I4) (hpos : 0 < q.length) (hok : ∀ x ∈ q, x.ok) (hlen : q.length ≤ 4096) (w : World) (hr : Reads w w.heap.size 4 A q.length (cellsI q)) :
    CallsIn Fence.wide 3 Try.prog 47 #[.slice A q.length cap] w (NatsPost w (intoP q)) := by
  obtain ⟨i0, HI⟩ : ∃ i0, Hid (Try.prog.info? 3 = some i0 ∧ i0.zero = some (.int .i64 0) ∧ i0.size = 1 ∧ i0.bytes = 8) := by
    obtain ⟨i0, hi, hz0, hz1, hz2⟩ := info_parts infoInt
    exact ⟨i0, Lib.hid ⟨hi, hz0, hz1, hz2⟩⟩
  have HR := Lib.hid hr
  have HOK := Lib.hid hok
  clear hr hok
  have hq1 : (0 : Int) < q.length := by omega
  obtain ⟨w2, hrun, hown, hg⟩ := run_make_full (P := Try.prog) w w.heap.size 36 3 i0 _ 1 Try.underlying36 HI.out.1 HI.out.2.1 HI.out.2.2.1 .i64 .i64 q.length (by rw [HI.out.2.2.2]; omega) (by simp only [maxLen]; omega) (Nat.le_refl _)
  have hb2 : Below w.heap.size w w2 := ⟨hg.os, hg.tape, hg.output, hg.size, fun k hk => hg.block k hk (by simp)⟩
  have hrow : NRow w.heap.size w.heap.size q.length (List.replicate q.length 0) w2 := NRow.new (w := w) hown
  have hgl := hrow.lt hpos
  have c0 := hrow.get hpos
  rw [show (List.replicate q.length 0).getD 0 0 = 0 by cases q.length <;> rfl] at c0
  have f0 := hrow.free 0
  have HROW := Lib.hid hrow
  have HB2 := Lib.hid hb2
  clear hown hg hrow hb2
  refine callsIn_of_wp_marks Try.func47 rfl trivial ?_ rfl
  simp only [Try.ntmps47, List.size_toArray, List.length_cons, List.length_nil, Nat.reduceAdd, Nat.reduceSub, Array.replicate_succ, Array.replicate_zero, List.push_toArray, List.append_toArray, List.nil_append, List.cons_append]
  gi_wp2_with fail
  obtain ⟨W3, hW3⟩ : ∃ W3, W3 = ((w2.setCell ⟨w.heap.size, 0, none⟩ (.int .i64 1)).alloc (.cells #[.slice (some ⟨w.heap.size, 0, none⟩) q.length q.length] 36)) := ⟨_, rfl⟩
  have hr3 : NRow w.heap.size w.heap.size q.length (intoTo q 0) W3 := by rw [hW3]; have h := (HROW.out.bump hpos).alloc (.cells #[.slice (some ⟨w.heap.size, 0, none⟩) q.length q.length] 36); rw [show (List.replicate q.length 0).getD 0 0 = 0 by cases q.length <;> rfl] at h; exact h
  have hx3 : Boxed W3 w2.heap.size 36 (.slice (some ⟨w.heap.size, 0, none⟩) q.length q.length) := by rw [hW3]; have := Boxed.new (w2.setCell ⟨w.heap.size, 0, none⟩ (.int .i64 1)) 36 (.slice (some ⟨w.heap.size, 0, none⟩) q.length q.length); simpa using this
  have hb3 : Below w.heap.size w W3 := by rw [hW3]; exact (HB2.out.setCell (p := ⟨w.heap.size, 0, none⟩) (Nat.le_refl _) _).trans ((Below.refl _ _).alloc (by simp; omega) _)
  have hbx : w.heap.size < w2.heap.size := hgl
  rw [← hW3]
  obtain ⟨bx, rfl⟩ : ∃ bx, bx = w2.heap.size := ⟨_, rfl⟩
  clear hW3 HROW HB2 hrun c0 f0
  refine wpIn_loop (IntoI A cap q w w2.heap.size) (fun a _ => q.length - (intOf (a.tmps.getD 16 undef)).toNat) ?start ?round
  case start => exact ⟨0, by omega, undef, undef, undef, undef, undef, undef, undef, undef, undef, undef, undef, undef, undef, undef, undef, undef, undef, undef, undef, undef, [], rfl, hr3, hx3, hb3, ⟨fun d hd => by simp at hd, List.Pairwise.nil⟩⟩
  case round =>
    rintro a W ⟨k, hk, u4, u5, u17, u18, u19, u20, u21, u22, u23, u24, u25, u26, u27, u28, u29, u30, u31, u32, u33, u34, ds, rfl, hrow, hbox, hB, hM⟩
    have hc := hbox.cell
    have HROW := Lib.hid hrow
    have HB := Lib.hid hB
    have HM := Lib.hid hM
    have HBX := Lib.hid hbox
    clear hr3 hx3 hb3
    rcases Nat.lt_or_ge k q.length with hkl | hkl
    · have hkl' : (k : Int) < q.length := by omega
      have ck := hrow.get hkl
      obtain ⟨x, hx⟩ : ∃ x, x = (intoTo q k).getD k 0 := ⟨_, rfl⟩
      have HX := Lib.hid hx
      rw [← hx] at ck
      clear hx hrow hB hM hbox
      rcases Nat.eq_zero_or_pos x with hx0 | hx0
      · have hx1 : ((x : Nat) : Int) = 0 := by omega
        rw [hx1] at ck
        clear hx1
        gi_wp2_with fail
        refine ⟨⟨k + 1, hkl, _, _, _, _, _, _, _, _, _, _, _, _, _, _, _, _, _, _, _, _, ds, rfl, ?_, HBX.out, HB.out, HM.out⟩, ?_⟩
        · rw [intoTo_succ]; unfold intoStep; rw [if_pos (by rw [← HX.out]; exact hx0)]; exact HROW.out
        · show q.length - (intOf (.int .i64 ((k : Int) + 1))).toNat < q.length - (intOf (.int .i64 (k : Int))).toNat
          simp only [intOf]; omega
      · have hx1 : (0 : Int) < x := by omega
        gi_wp2_with fail
        refine ⟨trivial, (callsIn_wide.2 (leads_c A q.length cap k _)).mono ?_⟩
        rintro e w1 ⟨rfl, rfl⟩
        gi_wp2_with fail
        obtain ⟨W1, hW1⟩ : ∃ W1, W1 = (W.alloc (.cells #[.slice A q.length cap] 22)).alloc (.cells #[.int .i64 k] 3) := ⟨_, rfl⟩
        have hs1 : W1.heap.size = W.heap.size + 2 := by rw [hW1]; simp
        have hb1 : Below w.heap.size w W1 := by rw [hW1]; exact below_al (below_al HB.out _) _
        have hgW : w.heap.size < W.heap.size := HROW.out.lt hpos
        have hbW : w2.heap.size < W.heap.size := HBX.out.lt
        have hrow1 : NRow w.heap.size w.heap.size q.length (intoTo q k) W1 := by rw [hW1]; exact (HROW.out.alloc _).alloc _
        have hbox1 : Boxed W1 w2.heap.size 36 (.slice (some ⟨w.heap.size, 0, none⟩) q.length q.length) := by rw [hW1]; exact (HBX.out.alloc _).alloc _
        have hM1 : Marks w.heap.size W1 ds := by rw [hW1]; exact (HM.out.alloc _).alloc _
        have hla : LeadsAt W1 (W.heap.size + 2) (fun b => b = w.heap.size) (W.heap.size) (W.heap.size + 1) A cap q k := by
          rw [hW1]
          exact ⟨by simp [go_sem], by omega, by omega, by simp [go_sem], by omega, by omega⟩
        have hst := leads_stopsP (fun t => t < q.length) 2 (W.heap.size + 2) (fun b => b = w.heap.size) (W.heap.size) (W.heap.size + 1) A cap q k (fun t ht => (nextQ_mem HOK.out ht).2) hkl HOK.out (by omega) W1 hla w.heap.size (by omega) (fun b hb => by omega) (HR.out.below hb1) (by omega)
        rw [← hW1]
        clear hW1
        refine wpIn_rangeFunc_ownG rfl (by decide) (gf := 62) (lb := #[.pointer (some ⟨W.heap.size, 0, none⟩), .pointer (some ⟨W.heap.size + 1, 0, none⟩)]) rfl trivial (enters_of Try.func62 (by kernel_rfl) rfl) hst KpI.trans
          (KpI.put (by omega)) (Below.refl _ _) (fun _ => rfl)
          (fun pre V => NRow w.heap.size w.heap.size q.length (bumpN (intoTo q k) (pre.map (fun t => t.1))) V ∧ Boxed V w2.heap.size 36 (.slice (some ⟨w.heap.size, 0, none⟩) q.length q.length) ∧ Below w.heap.size w V ∧ Marks w.heap.size V ds)
          (fun _ _ _ => False)
          ((NRow.own _).and (Boxed.own.and ((ownFrom_below (Nat.le_refl _) (by omega)).and (Marks.own (fun D hd => by have := HM.out.lt hd; omega)))))
          (fun _ _ _ _ _ hs _ _ => hs)
          ⟨hrow1, hbox1, hb1, hM1⟩
          (fun t => { tmps := #[Value.slice A q.length cap, undef, Value.slice none 0 0, Value.pointer (some { block := w2.heap.size, off := 0 }), .int .i64 k, .int .i64 t.1, Value.slice A q.length cap,
          Value.int IntKind.i64 q.length, Value.slice (some { block := w.heap.size, off := 0 }) q.length q.length,
          Value.slice (some { block := w.heap.size, off := 0 }) q.length q.length,
          Value.pointer (some { block := w.heap.size, off := 0 }), Value.int IntKind.i64 0, Value.int IntKind.i64 1,
          Value.pointer (some { block := w.heap.size, off := 0 }), Value.slice A q.length cap,
          Value.int IntKind.i64 q.length, Value.int IntKind.i64 k, Value.bool true, Value.int IntKind.i64 k, Value.slice (some { block := w.heap.size, off := 0 }) q.length q.length, Value.int IntKind.i64 k,
          Value.pointer (some { block := w.heap.size, off := k }), Value.int IntKind.i64 x, Value.bool false, Value.slice A q.length cap, Value.int IntKind.i64 k,
          Value.func (Fn.func 62) #[] #[Value.pointer (some { block := W.heap.size, off := 0 }), Value.pointer (some { block := W.heap.size + 1, off := 0 })],
          .int .i64 t.1, u28, u29, u30, u31, u32, u33, u34, undef], defers := [] }) ?assign ?body ?done ?stop
        case assign =>
          intro l t V K hK
          gi_wp2
          exact hK
        case body =>
          rintro l pre t V ⟨hr2, hb2, hB2, hM2⟩ hlt2
          have hc := hb2.cell
          have ht : ((t.1 : Nat) : Int) < q.length := by have := t.2; omega
          have ct := hr2.get t.2
          have cf := hr2.free t.1
          have hy : (bumpN (intoTo q k) (pre.map (fun t => t.1))).getD t.1 0 ≤ 20000 := by
            have h1 := bumpN_le (pre.map (fun t => t.1)) (intoTo q k) t.1
            have h2 := intoTo_le q t.1 k
            rw [List.length_map] at h1
            omega
          obtain ⟨y, hy'⟩ : ∃ y, y = (bumpN (intoTo q k) (pre.map (fun t => t.1))).getD t.1 0 := ⟨_, rfl⟩
          have HY := Lib.hid hy'
          rw [← hy'] at ct hy
          have hy2 : (y : Int) ≤ 20000 := by omega
          have HR2 := Lib.hid hr2
          have HB2 := Lib.hid hb2
          have HBB := Lib.hid hB2
          have HM2 := Lib.hid hM2
          clear hy' hr2 hb2 hB2 hM2 hs1 hst hla hb1 hrow1 hbox1 hM1 ck
          gi_wp2_with fail
          refine ⟨(KeepsOthers.setCell _ _ _).from _, KpI.setX (X := fun b => b = w.heap.size) (H := W.heap.size + 2) (g := w.heap.size) rfl (by omega) V t.1 _, ?_, HB2.out.kept (row := some w.heap.size) ⟨rfl, rfl, rfl, by simp, fun j _ hj => Below.heap_setCell _ _ _ j (fun e => hj (by rw [e]))⟩ (by simp; omega), HBB.out.setCell (p := ⟨w.heap.size, t.1, none⟩) (Nat.le_refl _) _, HM2.out.set _ _⟩
          have h := HR2.out.bump t.2
          rw [← HY.out] at h
          rw [List.map_append, bumpN, List.foldl_append]
          exact h
        case done =>
          rintro D ys V hD hys ⟨hr2, hb2, hB2, hM2⟩ hK
          have HR2 := Lib.hid hr2
          have HB2 := Lib.hid hb2
          have HBB := Lib.hid hB2
          have HM2 := Lib.hid hM2
          have HK := Lib.hid hK
          have HYS := Lib.hid hys
          clear hys hK hr2 hb2 hB2 hM2 hst hla hb1 hrow1 hbox1 hM1 ck
          gi_wp2_with fail
          refine ⟨⟨k + 1, hkl, _, _, _, _, _, _, _, _, _, _, _, _, _, _, _, _, _, _, _, _, _, rfl, ?_, HB2.out, HBB.out, HM2.out.cons (by omega) HK.out (fun d hd e => ?_)⟩, ?_⟩
          · rw [intoTo_succ]; unfold intoStep; rw [if_neg (by rw [← HX.out]; omega), ← HYS.out]; exact HR2.out
          · subst e
            have := HM.out.lt hd
            omega
          · show q.length - (intOf (.int .i64 ((k : Int) + 1))).toNat < q.length - (intOf (.int .i64 (k : Int))).toNat
            simp only [intOf]; omega
        case stop =>
          rintro D c pre V _ _ h _
          exact h.elim
    · obtain rfl : k = q.length := by omega
      gi_wp2_with fail
      refine leaves_marks (B := w.heap.size) (fun V => NRow w.heap.size w.heap.size q.length (intoP q) V ∧ Below w.heap.size w V) ?_ ?_ ds W HM.out ⟨HROW.out, HB.out⟩
      · rintro V D ⟨h1, h2⟩ hD hv
        exact ⟨h1.put hv rfl, h2.trans (belowK_b (w := w) (Nat.le_refl _) V D _ _ hD hv rfl rfl)⟩
      · rintro V ⟨h1, h2⟩
        exact ⟨_, results_tmp rfl _ _ _, _, rfl, by rw [h1.1]; exact h1.2, h2⟩
end Go.Proofs.Ytapmpegblfcknaa
