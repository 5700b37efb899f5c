import Derived.Test.YtapmpegblfcknaaFlowReach
import Derived.Test.YtapmpegblfcknaaFenceTail
import Derived.Test.YtapmpegblfcknaaStep
set_option linter.unusedVariables false
set_option linter.unusedSimpArgs false
namespace Go.Proofs.Ytapmpegblfcknaa
open Go.RowKit Go.Shelf
attribute [local go_sem] Oper.semAt_some
/-! flow.Longest: the walk. -/
def maxTo (at_ : Nat) (far : List Nat) (ts : List Nat) : List Nat := ts.foldl (fun far to => far.set at_ (max (far.getD at_ 0) (far.getD to 0))) far
def longStep (q : List I4) (far : List Nat) (at_ : Nat) : List Nat := (maxTo at_ far (nextQ q at_)).modify at_ (· + 1)
def longTo (q : List I4) (k : Nat) : List Nat := (List.range k).foldl (fun far i => longStep q far (q.length - 1 - i)) (List.replicate q.length 0)
def longP (q : List I4) : Nat := (longTo q q.length).getD 0 0
theorem longTo_succ (q : List I4) (k : Nat) : longTo q (k + 1) = longStep q (longTo q k) (q.length - 1 - k) := by unfold longTo; rw [List.range_succ, List.foldl_append]; rfl
theorem getD_set_le {l : List Nat} {i j v m : Nat} (h : l.getD j 0 ≤ m) (hv : v ≤ m) : (l.set i v).getD j 0 ≤ m := by
  rw [List.getD_eq_getElem?_getD] at h ⊢
  rw [List.getElem?_set]
  split
  · split
    · simpa using hv
    · simp
  · exact h
theorem maxTo_snoc (p : Nat) (l ts : List Nat) (t : Nat) : maxTo p l (ts ++ [t]) = (maxTo p l ts).set p (max ((maxTo p l ts).getD p 0) ((maxTo p l ts).getD t 0)) := by simp [maxTo, List.foldl_append]
theorem maxTo_le (at_ m : Nat) (ts : List Nat) : ∀ far : List Nat, (∀ j, far.getD j 0 ≤ m) → ∀ j, (maxTo at_ far ts).getD j 0 ≤ m := by
  induction ts with
  | nil => intro far h; exact h
  | cons t ts ih =>
    intro far h
    exact ih _ (fun j => getD_set_le (h j) (Nat.max_le.2 ⟨h _, h _⟩))
theorem maxTo_len (at_ : Nat) (ts : List Nat) : ∀ far : List Nat, (maxTo at_ far ts).length = far.length := by
  induction ts with
  | nil => intro far; rfl
  | cons t ts ih => intro far; exact (ih _).trans (by simp)
theorem longTo_le (q : List I4) : ∀ k j, (longTo q k).getD j 0 ≤ k := by
  intro k
  induction k with
  | zero => intro j; show (List.replicate q.length 0).getD j 0 ≤ 0; rw [List.getD_eq_getElem?_getD, List.getElem?_replicate]; split <;> simp
  | succ k ih =>
    intro j
    rw [longTo_succ]
    unfold longStep
    have h1 := maxTo_le (q.length - 1 - k) k (nextQ q (q.length - 1 - k)) _ ih j
    have h2 := getD_modify (maxTo (q.length - 1 - k) (longTo q k) (nextQ q (q.length - 1 - k))) (q.length - 1 - k) j
    omega
def boxI (W : World) : Value → Int
  | .pointer (some p) => intOf ((W.cell? p).getD undef)
  | _ => 0
def LongI (A : Option Addr) (cap : Nat) (q : List I4) (w : World) (g b4 : Nat) (a : Act) (W : World) : Prop := ∃ k : Nat, k ≤ q.length ∧ ∃ (b5 : Nat) (u6 u16 u17 u18 u19 u20 u21 u22 u23 u24 u25 u26 u27 u28 u29 u30 u31 u32 u33 u34 u35 u36 u37 u38 u39 u40 u41 u42 u43 u44 u45 : Value) (ds : List Deferred),
  a = { tmps := #[Value.slice A q.length cap, undef, Value.int IntKind.i64 0, Value.int IntKind.i64 0,
          Value.pointer (some { block := b4, off := 0 }),
          Value.pointer (some { block := b5, off := 0 }), u6, Value.slice A q.length cap,
          Value.bool true, Value.bool false, Value.slice A q.length cap, Value.int IntKind.i64 q.length,
          Value.slice (some { block := g, off := 0 }) q.length q.length, Value.slice A q.length cap,
          Value.int IntKind.i64 q.length, Value.int IntKind.i64 ((q.length : Int) - 1), u16, u17, u18, u19, u20, u21, u22, u23, u24, u25, u26, u27, u28, u29, u30, u31, u32, u33, u34, u35, u36, u37, u38, u39, u40, u41, u42, u43, u44, u45], defers := ds } ∧
  NRow w.heap.size g q.length (longTo q k) W ∧ Boxed W b4 36 (.slice (some ⟨g, 0, none⟩) q.length q.length) ∧ Boxed W b5 3 (.int .i64 ((q.length : Int) - 1 - k)) ∧ b4 < b5 ∧ Below w.heap.size w W ∧ Marks w.heap.size W ds
def LongPost (w : World) (q : List I4) (e : Ending) (w' : World) : Prop := ((checkP q).1 ≠ 0 ∧ e = .returned (.tuple #[.int .i64 0, .int .i64 1]) ∧ Below w.heap.size w w') ∨ ((checkP q).1 = 0 ∧ e = .returned (.tuple #[.int .i64 (longP q), .int .i64 0]) ∧ Below w.heap.size w w')
set_option maxRecDepth 100000 in
set_option maxHeartbeats 2000000 in
theorem Longest_in (A : Option Addr) (cap : Nat) (q : List I4) (hok : ∀ x ∈ q, x.ok) (hn : q.length ≤ 9223372036854775807) (h0 : (checkP q).1 = 0) (w : World) (hr : Reads w w.heap.size 4 A q.length (cellsI q)) :
    CallsIn Fence.wide 3 Try.prog 31 #[.slice A q.length cap] w (LongPost w q) := by
  have HF := Lib.hid (fine_c A cap q hok hn w hr)
  have HR := Lib.hid hr
  have HOK := Lib.hid hok
  clear hr hok
  obtain ⟨a1, a2, -, -⟩ := acc_facts h0
  have hb : ((checkP q).1 == 0) = true := by simpa using h0
  have HB := Lib.hid hb
  have H0 := Lib.hid h0
  have hq1 : (0 : Int) < q.length := by omega
  obtain ⟨i0, HI⟩ : ∃ i0, Hid (Try.prog.info? 3 = some i0 ∧ i0.zero = some (.int .i64 0) ∧ i0.size = 1 ∧ i0.bytes = 8) := by
    obtain ⟨i0, hi, hz0, hz1, hz2⟩ := info_parts infoInt
    exact ⟨i0, Lib.hid ⟨hi, hz0, hz1, hz2⟩⟩
  clear hb h0
  refine callsIn_of_wp_marks Try.func31 rfl trivial ?_ rfl
  simp only [Try.ntmps31, List.size_toArray, List.length_cons, List.length_nil, Nat.reduceAdd, Nat.reduceSub, Array.replicate_succ, Array.replicate_zero, List.push_toArray, List.append_toArray, List.nil_append, List.cons_append]
  gi_wp2_with fail
  refine ⟨trivial, (callsIn_wide.2 HF.out).mono ?_⟩
  rintro e w1 ⟨rfl, hb1⟩
  rw [HB.out]
  obtain ⟨w2, hrun, hown, hg⟩ := run_make_full (P := Try.prog) w1 w1.heap.size 36 3 i0 _ 1 Try.underlying36 HI.out.1 HI.out.2.1 HI.out.2.2.1 .i64 .i64 q.length (by rw [HI.out.2.2.2]; omega) (by simp only [maxLen]; omega) (Nat.le_refl _)
  have hb2 : Below w1.heap.size w1 w2 := ⟨hg.os, hg.tape, hg.output, hg.size, fun k hk => hg.block k hk (by simp)⟩
  have hrow : NRow w1.heap.size w1.heap.size q.length (List.replicate q.length 0) w2 := NRow.new (w := w1) hown
  have hgl := hrow.lt a1
  have HROW := Lib.hid hrow
  have HB2 := Lib.hid (below_t hb1 hb2)
  clear hown hg hrow hb2
  gi_wp2_with fail
  obtain ⟨g, hg⟩ : ∃ g, g = w1.heap.size := ⟨_, rfl⟩
  obtain ⟨b4, hb4⟩ : ∃ b4, b4 = w2.heap.size := ⟨_, rfl⟩
  have hwg : w.heap.size ≤ g := by rw [hg]; exact hb1.size
  have hgb : g < b4 := by rw [hg, hb4]; exact hgl
  obtain ⟨W3, hW3⟩ : ∃ W3, W3 = ((w2.alloc (.cells #[.slice (some ⟨w1.heap.size, 0, none⟩) q.length q.length] 36)).alloc (.cells #[.int .i64 ((q.length : Int) - 1)] 3)) := ⟨_, rfl⟩
  have hr3 : NRow w.heap.size g q.length (longTo q 0) W3 := by rw [hW3, hg]; have h := (HROW.out.alloc (.cells #[.slice (some ⟨w1.heap.size, 0, none⟩) q.length q.length] 36)).alloc (.cells #[.int .i64 ((q.length : Int) - 1)] 3); exact ⟨h.1, own_base h.2 hb1.size⟩
  have hx3 : Boxed W3 b4 36 (.slice (some ⟨g, 0, none⟩) q.length q.length) := by rw [hW3, hg, hb4]; exact (Boxed.new w2 _ _).alloc _
  have hy3 : Boxed W3 (b4 + 1) 3 (.int .i64 ((q.length : Int) - 1 - (0 : Nat))) := by rw [hW3, hb4, show (q.length : Int) - 1 - (0 : Nat) = (q.length : Int) - 1 by omega]; have h := Boxed.new (w2.alloc (.cells #[.slice (some ⟨w1.heap.size, 0, none⟩) q.length q.length] 36)) 3 (.int .i64 ((q.length : Int) - 1)); simpa using h
  have hb3 : Below w.heap.size w W3 := by rw [hW3]; exact below_al (below_al HB2.out _) _
  rw [← hW3, ← hg, ← hb4]
  clear hW3 HROW HB2 hrun hgl hb1 hg hb4 HF
  refine wpIn_loop (LongI A cap q w g b4) (fun a W => (boxI W (a.tmps.getD 5 undef) + 1).toNat) ?start ?round
  case start => exact ⟨0, by omega, b4 + 1, undef, undef, undef, undef, undef, undef, undef, undef, undef, undef, undef, undef, undef, undef, undef, undef, undef, undef, undef, undef, undef, undef, undef, undef, undef, undef, undef, undef, undef, undef, undef, [], rfl, hr3, hx3, hy3, by omega, hb3, ⟨fun d hd => by simp at hd, List.Pairwise.nil⟩⟩
  case round =>
    rintro a W ⟨k, hk, b5, u6, u16, u17, u18, u19, u20, u21, u22, u23, u24, u25, u26, u27, u28, u29, u30, u31, u32, u33, u34, u35, u36, u37, u38, u39, u40, u41, u42, u43, u44, u45, ds, rfl, hrow, hbox, hat, hb45, hB, hM⟩
    clear hr3 hx3 hy3 hb3
    have hc := hbox.cell
    have hc5 := hat.cell
    have hf5 := hat.frozen
    have HROW := Lib.hid hrow
    have HB := Lib.hid hB
    have HM := Lib.hid hM
    have HBX := Lib.hid hbox
    have HAT := Lib.hid hat
    clear hrow hB hM hbox hat
    rcases Nat.lt_or_ge k q.length with hkl | hkl
    · obtain ⟨p, hp⟩ : ∃ p : Nat, p = q.length - 1 - k := ⟨_, rfl⟩
      have hpl : p < q.length := by omega
      have hpl' : (p : Int) < q.length := by omega
      have e5 : (q.length : Int) - 1 - k = p := by omega
      have HE := Lib.hid e5
      have HP := Lib.hid hp
      rw [e5] at hc5
      clear e5 hp
      gi_wp2_with fail
      refine ⟨trivial, (callsIn_wide.2 (leads_c A q.length cap p _)).mono ?_⟩
      rintro e w1 ⟨rfl, rfl⟩
      gi_wp2_with fail
      obtain ⟨W1, hW1⟩ : ∃ W1, W1 = (W.alloc (.cells #[.slice A q.length cap] 22)).alloc (.cells #[.int .i64 p] 3) := ⟨_, rfl⟩
      have hs1 : W1.heap.size = W.heap.size + 2 := by rw [hW1]; simp
      have hb1 : Below w.heap.size w W1 := by rw [hW1]; exact below_al (below_al HB.out _) _
      have hgW : g < W.heap.size := HROW.out.lt a1
      have hbW : b5 < W.heap.size := HAT.out.lt
      have hrow1 : NRow w.heap.size g q.length (longTo q k) W1 := by rw [hW1]; exact (HROW.out.alloc _).alloc _
      have hbox1 : Boxed W1 b4 36 (.slice (some ⟨g, 0, none⟩) q.length q.length) := by rw [hW1]; exact (HBX.out.alloc _).alloc _
      have hat1 : Boxed W1 b5 3 (.int .i64 p) := by rw [hW1, ← HE.out]; exact (HAT.out.alloc _).alloc _
      have hM1 : Marks w.heap.size W1 ds := by rw [hW1]; exact (HM.out.alloc _).alloc _
      have hla : LeadsAt W1 (W.heap.size + 2) (fun b => b = g) (W.heap.size) (W.heap.size + 1) A cap q p := by
        rw [hW1]
        exact ⟨by simp [go_sem], by omega, by omega, by simp [go_sem], by omega, by omega⟩
      have hst := leads_stopsP (fun t => t < q.length) 2 (W.heap.size + 2) (fun b => b = g) (W.heap.size) (W.heap.size + 1) A cap q p (fun t ht => (nextQ_mem HOK.out ht).2) hpl HOK.out (by omega) W1 hla w.heap.size (by omega) (fun b hb => by omega) (HR.out.below hb1) (by omega)
      rw [← hW1]
      clear hW1
      refine wpIn_rangeFunc_ownG rfl (by decide) (gf := 62) (lb := #[.pointer (some ⟨W.heap.size, 0, none⟩), .pointer (some ⟨W.heap.size + 1, 0, none⟩)]) rfl trivial (enters_of Try.func62 (by kernel_rfl) rfl) hst KpI.trans
        (KpI.put (by omega)) (Below.refl _ _) (fun _ => rfl)
        (fun pre V => NRow w.heap.size g q.length (maxTo p (longTo q k) (pre.map (fun t => t.1))) V ∧ Boxed V b4 36 (.slice (some ⟨g, 0, none⟩) q.length q.length) ∧ Boxed V b5 3 (.int .i64 p) ∧ Below w.heap.size w V ∧ Marks w.heap.size V ds)
        (fun _ _ _ => False)
        ((NRow.own _).and (Boxed.own.and (Boxed.own.and ((ownFrom_below (Nat.le_refl _) (by have := HB.out.size; omega)).and (Marks.own (fun D hd => by have := HM.out.lt hd; omega))))))
        (fun _ _ _ _ _ hs _ _ => hs)
        ⟨hrow1, hbox1, hat1, hb1, hM1⟩
        (fun t => { tmps := #[Value.slice A q.length cap, undef, Value.int IntKind.i64 0, Value.int IntKind.i64 0,
              Value.pointer (some { block := b4, off := 0 }), Value.pointer (some { block := b5, off := 0 }), .int .i64 t.1,
              Value.slice A q.length cap, Value.bool true, Value.bool false, Value.slice A q.length cap,
              Value.int IntKind.i64 q.length, Value.slice (some { block := g, off := 0 }) q.length q.length,
              Value.slice A q.length cap, Value.int IntKind.i64 q.length, Value.int IntKind.i64 ((q.length : Int) - 1),
              Value.int IntKind.i64 p, Value.bool true, u18, u19, Value.slice A q.length cap,
              Value.int IntKind.i64 p, Value.func (Fn.func 62) #[] #[Value.pointer (some { block := W.heap.size, off := 0 }), Value.pointer (some { block := W.heap.size + 1, off := 0 })],
              .int .i64 t.1, u24, u25, u26, u27, u28, u29, u30, u31, u32, u33, u34,
              u35, u36, u37, u38, u39, u40, u41, u42, u43, u44, u45], defers := [] }) ?assign ?body ?done ?stop
      case assign =>
        intro l t V K hK
        gi_wp2
        exact hK
      case body =>
        rintro l pre t V ⟨hr2, hb2, ht2, hB2, hM2⟩ hlt2
        have hc := hb2.cell
        have hc5 := ht2.cell
        have ht : ((t.1 : Nat) : Int) < q.length := by have := t.2; omega
        have ct := hr2.get t.2
        have cp := hr2.get hpl
        have cf := hr2.free p
        obtain ⟨F, hF⟩ : ∃ F, F = maxTo p (longTo q k) (pre.map (fun t => t.1)) := ⟨_, rfl⟩
        have hx1 : ∀ j, F.getD j 0 ≤ k := fun j => by rw [hF]; exact maxTo_le p k _ _ (longTo_le q k) j
        rw [← hF] at ct cp
        obtain ⟨y, hy⟩ : ∃ y, y = F.getD t.1 0 := ⟨_, rfl⟩
        obtain ⟨x, hx⟩ : ∃ x, x = F.getD p 0 := ⟨_, rfl⟩
        rw [← hx] at cp
        rw [← hy] at ct
        have HX := Lib.hid hx
        have HY := Lib.hid hy
        have HF := Lib.hid hF
        have HR2 := Lib.hid hr2
        have HB2 := Lib.hid hb2
        have HT2 := Lib.hid ht2
        have HBB := Lib.hid hB2
        have HM2 := Lib.hid hM2
        clear hx hy hF hr2 hb2 ht2 hB2 hM2 hs1 hst hla hb1 hrow1 hbox1 hat1 hM1 hx1
        have hb3 : ∀ {v : Value}, Boxed V b4 36 v → ∀ y : Nat, Boxed (V.setCell ⟨g, p, none⟩ (.int .i64 y)) b4 36 v := fun h y => h.kept (row := some g) ⟨rfl, rfl, rfl, by simp, fun j _ hj => Below.heap_setCell _ _ _ j (fun e => hj (by rw [e]))⟩ (by simp; omega)
        have hb5 : ∀ {v : Value}, Boxed V b5 3 v → ∀ y : Nat, Boxed (V.setCell ⟨g, p, none⟩ (.int .i64 y)) b5 3 v := fun h y => h.kept (row := some g) ⟨rfl, rfl, rfl, by simp, fun j _ hj => Below.heap_setCell _ _ _ j (fun e => hj (by rw [e]))⟩ (by simp; omega)
        refine wpIn_block ?_
        refine wpIn_tail 12 (by kernel_rfl) (by kernel_rfl) (by kernel_rfl) ?_
        simp only [List.take_succ_cons, List.take_zero, List.drop_succ_cons, List.drop_zero]
        repeat still_step
        refine wpStill_nil ?_
        go_wp2
        · have e : (maxTo p (longTo q k) ((pre ++ [t]).map (fun t => t.1))) = F.set p y := by
            rw [List.map_append, List.map_cons, List.map_nil, maxTo_snoc, ← HF.out, ← HX.out, ← HY.out, Nat.max_eq_right (Nat.le_of_lt h)]
          have hr3 := HR2.out.set p y
          rw [← HF.out, ← e] at hr3
          have hk3 : KpI (W.heap.size + 2) (fun b => b = g) V (V.setCell ⟨g, p, none⟩ (.int .i64 y)) := KpI.setX (X := fun b => b = g) (H := W.heap.size + 2) (g := g) rfl (by omega) V p _
          exact ⟨((KeepsOthers.setCell _ _ _).trans (KeepsOthers.drew _)).from _, hk3, hr3, hb3 HB2.out y, hb5 HT2.out y, below_dr (HBB.out.setCell (p := ⟨g, p, none⟩) hwg _), HM2.out.set _ _⟩
        · have e : (maxTo p (longTo q k) ((pre ++ [t]).map (fun t => t.1))) = F.set p x := by
            rw [List.map_append, List.map_cons, List.map_nil, maxTo_snoc, ← HF.out, ← HX.out, ← HY.out, Nat.max_eq_left (by omega)]
          have hr3 := HR2.out.set p x
          rw [← HF.out, ← e] at hr3
          have hk3 : KpI (W.heap.size + 2) (fun b => b = g) V (V.setCell ⟨g, p, none⟩ (.int .i64 x)) := KpI.setX (X := fun b => b = g) (H := W.heap.size + 2) (g := g) rfl (by omega) V p _
          exact ⟨((KeepsOthers.setCell _ _ _).trans (KeepsOthers.drew _)).from _, hk3, hr3, hb3 HB2.out x, hb5 HT2.out x, below_dr (HBB.out.setCell (p := ⟨g, p, none⟩) hwg _), HM2.out.set _ _⟩
      case done =>
        rintro D ys V hD hys ⟨hr2, hb2, ht2, hB2, hM2⟩ hK
        have hc := hb2.cell
        have hc5 := ht2.cell
        have cp := hr2.get hpl
        have cf := hr2.free p
        have hF : maxTo p (longTo q k) (ys.map (fun t => t.1)) = maxTo p (longTo q k) (nextQ q p) := by rw [hys]
        rw [hF] at hr2 cp
        obtain ⟨x, hx⟩ : ∃ x, x = (maxTo p (longTo q k) (nextQ q p)).getD p 0 := ⟨_, rfl⟩
        have hxk : x ≤ k := by rw [hx]; exact maxTo_le p k _ _ (longTo_le q k) p
        rw [← hx] at cp
        have hx4 : (x : Int) ≤ 4096 := by omega
        have HX := Lib.hid hx
        have HR2 := Lib.hid hr2
        have HB2 := Lib.hid hb2
        have HT2 := Lib.hid ht2
        have HBB := Lib.hid hB2
        have HM2 := Lib.hid hM2
        have HK := Lib.hid hK
        have hVs : b5 < V.heap.size := ht2.lt
        have hDW : W.heap.size + 2 ≤ D := by omega
        clear hys hF hx hxk hK hr2 hb2 ht2 hB2 hM2 hs1 hst hla hb1 hrow1 hbox1 hat1 hM1
        gi_wp2_with fail
        have e1 : (q.length : Int) - 1 - ((k + 1 : Nat) : Int) = (p : Int) - 1 := by have := HE.out; push_cast; omega
        have hb4' : Boxed (V.setCell ⟨g, p, none⟩ (.int .i64 ((x : Int) + 1))) b4 36 (.slice (some ⟨g, 0, none⟩) q.length q.length) := HB2.out.kept (row := some g) ⟨rfl, rfl, rfl, by simp, fun j _ hj => Below.heap_setCell _ _ _ j (fun e => hj (by rw [e]))⟩ (by simp; omega)
        have hlast : Boxed ((V.setCell ⟨g, p, none⟩ (.int .i64 ((x : Int) + 1))).alloc (.cells #[.int .i64 ((p : Int) - 1)] 3)) V.heap.size 3 (.int .i64 ((p : Int) - 1)) := by
          have h := Boxed.new (V.setCell ⟨g, p, none⟩ (.int .i64 ((x : Int) + 1))) 3 (.int .i64 ((p : Int) - 1)); simpa using h
        refine ⟨⟨k + 1, hkl, V.heap.size, _, _, _, _, _, _, _, _, _, _, _, _, _, _, _, _, _, _, _, _, _, _, _, _, _, _, _, _, _, _, _, _, rfl, ?_, hb4'.alloc _, by rw [e1]; exact hlast, by omega, (HBB.out.setCell (p := ⟨g, p, none⟩) hwg _).alloc (by have := HBB.out.size; simp; omega) _,
          ((HM2.out.set _ _).alloc _).cons (by have := HB.out.size; omega) ?_ (fun d hd e => ?_)⟩, ?_⟩
        · have h := (HR2.out.bump hpl).alloc (.cells #[.int .i64 ((p : Int) - 1)] 3)
          rw [← HX.out] at h
          rw [longTo_succ, ← HP.out]
          exact h
        · have h1 := (KeepsOthers.setCell V ⟨g, p, none⟩ (.int .i64 ((x : Int) + 1))).same D _ HK.out rfl
          exact (Below.heap_alloc _ _ D (Array.getElem?_eq_some_iff.1 h1).1).trans h1
        · subst e
          have := HM.out.lt hd
          omega
        · have h5 := HAT.out.cell
          rw [HE.out] at h5
          show (boxI _ (.pointer (some ⟨V.heap.size, 0, none⟩)) + 1).toNat < (boxI W (.pointer (some ⟨b5, 0, none⟩)) + 1).toNat
          simp only [boxI, hlast.cell, h5, Option.getD_some, intOf]
          omega
      case stop =>
        rintro D c pre V _ _ h _
        exact h.elim
    · obtain rfl : k = q.length := by omega
      have HE := Lib.hid (show (q.length : Int) - 1 - q.length = -1 by omega)
      rw [HE.out] at hc5
      have c0 : W.cell? ⟨g, 0, none⟩ = some (.int .i64 (longP q)) := HROW.out.get a1
      obtain ⟨L, hL⟩ : ∃ L, L = longP q := ⟨_, rfl⟩
      rw [← hL] at c0
      have HL := Lib.hid hL
      clear hL
      gi_wp2_with fail
      refine leaves_marks (B := w.heap.size) (fun V => Below w.heap.size w V) ?_ ?_ ds W HM.out HB.out
      · rintro V D h2 hD hv
        exact h2.trans (belowK_b (w := w) (Nat.le_refl _) V D _ _ hD hv rfl rfl)
      · rintro V h2
        refine ⟨.tuple #[.int .i64 L, .int .i64 0], by simp [results, Try.results31, go_sem], .inr ⟨H0.out, by rw [HL.out], h2⟩⟩
set_option maxHeartbeats 800000 in
theorem Longest_c (A : Option Addr) (cap : Nat) (q : List I4) (hok : ∀ x ∈ q, x.ok) (hn : q.length ≤ 9223372036854775807) (w : World) (hr : Reads w w.heap.size 4 A q.length (cellsI q)) :
    Calls Try.prog 31 #[.slice A q.length cap] w (LongPost w q) := by
  by_cases h0 : (checkP q).1 = 0
  · exact callsIn_wide.1 (Longest_in A cap q hok hn h0 w hr)
  · have HF := Lib.hid (fine_c A cap q hok hn w hr)
    have hb : ((checkP q).1 == 0) = false := by simpa using h0
    have HB := Lib.hid hb
    have H0 := Lib.hid h0
    clear hb h0 hr hok
    go_enter Try.func31, Try.ntmps31
    go_wp2_with fail
    refine HF.out.mono ?_
    rintro e w1 ⟨rfl, hb1⟩
    rw [HB.out]
    go_wp2
    refine bodyPost_ret (v := .tuple #[.int .i64 0, .int .i64 1]) (by simp [results, Try.results31, go_sem]) rfl ?_
    exact .inl ⟨H0.out, rfl, hb1⟩
end Go.Proofs.Ytapmpegblfcknaa
