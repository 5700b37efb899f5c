import Derived.Test.YtapmpegblfcknaaFlowW1
import Derived.Test.YtapmpegblfcknaaOwn
set_option linter.unusedVariables false
set_option linter.unusedSimpArgs false
namespace Go.Proofs.Ytapmpegblfcknaa
open Go.RowKit Go.Shelf
attribute [local go_sem] Oper.semAt_some
/-! flow.Next: the walk. -/
theorem leads_stops (n H : Nat) (X : Nat → Prop) (Bq Ba : Nat) (A : Option Addr) (cap : Nat) (q : List I4) (at_ : Nat) (hat : at_ < q.length) (hok : ∀ x ∈ q, x.ok) (hlen : q.length ≤ 281474976710656) (w : World) (hL : LeadsAt w H X Bq Ba A cap q at_) (B0 : Nat) (hB0 : B0 ≤ H) (hX : ∀ b, b < B0 → ¬ X b) (hr : Reads w B0 4 A q.length (cellsI q)) (hH : H ≤ w.heap.size) :
    SeqStopsK Fence.wide n Try.prog 62 #[.pointer (some ⟨Bq, 0, none⟩), .pointer (some ⟨Ba, 0, none⟩)] (fun to : Nat => #[Value.int .i64 (to : Int)]) (KpI H X) (fun ys => ys = nextQ q at_) (fun _ => True) 2 w := fun l J Jx W hW hJ hJx hY h0 => by
  obtain ⟨x, hx⟩ : ∃ x, q[at_]? = some x := ⟨_, List.getElem?_eq_getElem hat⟩
  obtain ⟨b, off, e, hb, i0, i1, i2, i3⟩ := hr.insn hx
  exact leads1_in l H X Bq Ba A cap q at_ x hx (hok x (List.mem_of_getElem? hx)) hlen J Jx n w W hJ (fun _ => True) (fun _ _ => trivial) (fun pre to W1 _ => hY pre to W1) (hL.keep hW) ⟨b, off, e, by omega, hX b hb, keepC hW i0, keepC hW i1, keepC hW i2, keepC hW i3⟩ (Nat.le_trans hH hW.size) h0
/-- .. where the body may know something of each place. -/
theorem leads_stopsP (Pt : Nat → Prop) (n H : Nat) (X : Nat → Prop) (Bq Ba : Nat) (A : Option Addr) (cap : Nat) (q : List I4) (at_ : Nat) (hPt : ∀ to ∈ nextQ q at_, Pt to) (hat : at_ < q.length) (hok : ∀ x ∈ q, x.ok) (hlen : q.length ≤ 281474976710656) (w : World) (hL : LeadsAt w H X Bq Ba A cap q at_) (B0 : Nat) (hB0 : B0 ≤ H) (hX : ∀ b, b < B0 → ¬ X b) (hr : Reads w B0 4 A q.length (cellsI q)) (hH : H ≤ w.heap.size) :
    SeqStopsK Fence.wide n Try.prog 62 #[.pointer (some ⟨Bq, 0, none⟩), .pointer (some ⟨Ba, 0, none⟩)] (fun to : { to : Nat // Pt to } => #[Value.int .i64 (to.1 : Int)]) (KpI H X) (fun ys => ys.map (fun t => t.1) = nextQ q at_) (fun _ => True) 2 w := fun l J Jx W hW hJ hJx hY h0 => by
  obtain ⟨x, hx⟩ : ∃ x, q[at_]? = some x := ⟨_, List.getElem?_eq_getElem hat⟩
  obtain ⟨b, off, e, hb, i0, i1, i2, i3⟩ := hr.insn hx
  refine (leads1_in l H X Bq Ba A cap q at_ x hx (hok x (List.mem_of_getElem? hx)) hlen (fun l W => ∃ l' : List { to : Nat // Pt to }, l'.map (fun t => t.1) = l ∧ J l' W) (fun l W => ∃ l' : List { to : Nat // Pt to }, l'.map (fun t => t.1) = l ∧ Jx l' W) n w W
    (fun s A B row hs hg hr => by obtain ⟨l', e, h⟩ := hs; exact ⟨l', e, hJ l' A B row h hg hr⟩) Pt hPt (fun pre to W1 hto hj hp => ?_) (hL.keep hW) ⟨b, off, e, by omega, hX b hb, keepC hW i0, keepC hW i1, keepC hW i2, keepC hW i3⟩ (Nat.le_trans hH hW.size) ⟨[], rfl, h0⟩).mono ?_
  · obtain ⟨l', rfl, h⟩ := hj
    obtain ⟨fn, tmps, assign, body, hy, hR⟩ := hY l' ⟨to, hto⟩ W1 h (by simpa using hp)
    refine ⟨fn, tmps, assign, body, hy, hR.mono ?_⟩
    rintro e W' (⟨h1, h2, h3⟩ | ⟨h1, h2⟩)
    · exact .inl ⟨h1, ⟨_, by simp, h2⟩, h3⟩
    · exact .inr ⟨h1, ⟨_, by simp, h2⟩⟩
  · rintro e W' ⟨hv, ⟨ys, rfl, l', h1, h2⟩ | ⟨pre, _, l', h1, h2⟩⟩
    · exact ⟨hv, .inl ⟨l', h1, h2⟩⟩
    · exact ⟨hv, .inr ⟨l', trivial, h2⟩⟩
theorem KpI.appended {H B : Nat} {X : Nat → Prop} {W w1 : World} {o : Obj} {v u : Value} {n : Nat} {xs : List Value} (hrow : W.ownsRow H 3 1 v n xs) (hg : (W.alloc o).grownBy w1 v.ownBlock) (hB : B < H) (hX : X B) : KpI H X W (w1.setCell ⟨B, 0, none⟩ u) := by
  have hs : W.heap.size ≤ w1.heap.size := by have := hg.size; simp at this; omega
  refine ⟨by simpa using hs, fun k hk hh => ?_⟩
  have hkB : k ≠ B := by rintro rfl; rcases hh with ⟨_, h⟩ | ⟨h, _⟩; exact h hX; omega
  rw [Below.heap_setCell _ _ _ _ (fun e => hkB e)]
  have hne : some k ≠ v.ownBlock := by
    rcases hrow.2 with ⟨rfl, _⟩ | ⟨g, cap, cur, rfl, hge, hgb, _⟩
    · simp [Value.ownBlock]
    · intro e
      obtain rfl : k = g := by simpa [Value.ownBlock] using e
      rcases hh with ⟨h, _⟩ | ⟨_, c, t, fr, h2, h3⟩
      · omega
      · rw [hgb] at h2; injection h2 with h2; injection h2 with _ h2 _; exact h3 h2.symm
  rw [hg.block k (by simp; omega) hne]
  exact Below.heap_alloc W o k hk
theorem own_base {w : World} {base base' : Nat} {e : TypeId} {size n : Nat} {v : Value} {xs : List Value} (h : w.ownsRow base e size v n xs) (hb : base' ≤ base) : w.ownsRow base' e size v n xs := by
  refine ⟨h.1, ?_⟩
  rcases h.2 with h2 | ⟨g, cap, cur, hv, hg, r⟩
  · exact .inl h2
  · exact .inr ⟨g, cap, cur, hv, Nat.le_trans hb hg, r⟩
theorem infoInt : (Try.prog.info? 3).map (fun i => (i.zero, i.size, i.bytes)) = some (some (.int .i64 0), 1, 8) := by kernel_rfl
def NatsPost (w : World) (l : List Nat) (e : Ending) (W' : World) : Prop := ∃ v, e = .returned v ∧ W'.ownsRow w.heap.size 3 1 v l.length (numV .i64 (natsI l)) ∧ Below w.heap.size w W'
set_option maxRecDepth 100000 in
set_option maxHeartbeats 2000000 in
theorem Next_in (A : Option Addr) (cap : Nat) (q : List I4) (at_ : Nat) (hat : at_ < q.length) (hok : ∀ x ∈ q, x.ok) (hlen : q.length ≤ 281474976710656) (w : World) (hr : Reads w w.heap.size 4 A q.length (cellsI q)) :
    CallsIn Fence.wide 3 Try.prog 24 #[.slice A q.length cap, .int .i64 at_] w (NatsPost w (nextQ q at_)) := by
  obtain ⟨i0, HI⟩ : ∃ i0, Hid (Try.prog.info? 3 = some i0 ∧ i0.zero = some (.int .i64 0) ∧ i0.size = 1 ∧ i0.bytes = 8) := by
    obtain ⟨i0, hi, hz0, hz1, hz2⟩ := info_parts infoInt
    exact ⟨i0, Lib.hid ⟨hi, hz0, hz1, hz2⟩⟩
  have hlt : (at_ : Int) < q.length := by omega
  have HR := Lib.hid hr
  have HOK := Lib.hid hok
  clear hr hok
  refine callsIn_of_wp_marks Try.func24 rfl trivial ?_ rfl
  simp only [Try.ntmps24, List.size_toArray, List.length_cons, List.length_nil, Nat.reduceAdd, Nat.reduceSub, Array.replicate_succ, Array.replicate_zero, List.push_toArray, List.append_toArray, List.nil_append, List.cons_append]
  gi_wp2_with fail
  refine ⟨trivial, (callsIn_wide.2 (leads_c A q.length cap at_ _)).mono ?_⟩
  rintro e w1 ⟨rfl, rfl⟩
  gi_wp2_with fail
  obtain ⟨W1, hW1⟩ : ∃ W1, W1 = ((w.alloc (.cells #[.slice none 0 0] 36)).alloc (.cells #[.slice A q.length cap] 22)).alloc (.cells #[.int .i64 at_] 3) := ⟨_, rfl⟩
  have hs1 : W1.heap.size = w.heap.size + 3 := by rw [hW1]; simp
  have hb1 : Below w.heap.size w W1 := by rw [hW1]; exact below_al (below_al (below1 w _) _) _
  have hbx : Boxed W1 w.heap.size 36 (.slice none 0 0) := by rw [hW1]; exact ((Boxed.new w _ _).alloc _).alloc _
  have hla : LeadsAt W1 (w.heap.size + 3) (fun k => k = w.heap.size) (w.heap.size + 1) (w.heap.size + 1 + 1) A cap q at_ := by
    rw [hW1]
    exact ⟨by simp [go_sem], by omega, by omega, by simp [go_sem], by omega, by omega⟩
  have hst := leads_stops 2 (w.heap.size + 3) (fun k => k = w.heap.size) (w.heap.size + 1) (w.heap.size + 1 + 1) A cap q at_ hat HOK.out hlen W1 hla w.heap.size (by omega) (fun b hb => by omega) (HR.out.below hb1) (by omega)
  rw [← hW1]
  clear hW1
  refine wpIn_rangeFunc_ownG rfl (by decide) (gf := 62) (lb := #[.pointer (some ⟨w.heap.size + 1, 0, none⟩), .pointer (some ⟨w.heap.size + 1 + 1, 0, none⟩)]) rfl trivial (enters_of Try.func62 (by kernel_rfl) rfl) hst KpI.trans
    (KpI.put (by omega)) (Below.refl _ _) (fun _ => rfl)
    (fun pre W => (∃ v, Boxed W w.heap.size 36 v ∧ W.ownsRow (w.heap.size + 3) 3 1 v pre.length (numV .i64 (natsI pre)) ∧ True) ∧ Below w.heap.size W1 W)
    (fun _ _ _ => False)
    (OwnFrom.and (Own.from (holdsRow_own (w.heap.size + 3) w.heap.size 36 3 1 (fun pre : List Nat => pre.length) (fun pre : List Nat => numV .i64 (natsI pre)) (fun _ _ => True)) _) (ownFrom_below (by omega) (by omega)))
    (fun _ _ _ _ _ hs _ _ => hs)
    ⟨⟨_, hbx, World.ownsRow_nil _ _ _ _, trivial⟩, Below.refl _ _⟩
    (fun x => { tmps := #[Value.slice A q.length cap, Value.int IntKind.i64 ↑at_, undef, undef, Value.slice none 0 0,
          Value.pointer (some { block := w.heap.size, off := 0 }), .int .i64 x, Value.int IntKind.i64 ↑at_,
          Value.bool (decide ((at_ : Int) < 0)), Value.bool (decide ((at_ : Int) < 0)), Value.int IntKind.i64 ↑at_,
          Value.slice A q.length cap, Value.int IntKind.i64 ↑q.length, Value.bool false, Value.bool (decide ((at_ : Int) < 0)),
          Value.slice A q.length cap, Value.int IntKind.i64 ↑at_,
          Value.func (Fn.func 62) #[]
            #[Value.pointer (some { block := w.heap.size + 1, off := 0 }),
              Value.pointer (some { block := w.heap.size + 1 + 1, off := 0 })],
          .int .i64 x, undef, undef, undef, undef, undef], defers := [] }) ?assign ?body ?done ?stop
  case assign =>
    intro l x W K hK
    gi_wp2
    exact hK
  case body =>
    rintro l pre x W ⟨⟨v, hv, hrow, -⟩, hB⟩ hlt2
    have hc := hv.cell
    have hWs : w.heap.size + 3 ≤ W.heap.size := by have := hB.size; omega
    have HS1 := Lib.hid hs1
    have HRW := Lib.hid hrow
    have HBW := Lib.hid hB
    have HBX := Lib.hid hv
    clear hs1 hst hla hbx hb1
    gi_wp2_with (gi_at_builtin; refine wpListIn_append_own _ rfl _ _ 36 rfl (w.heap.size + 3) 3 i0 (.int .i64 0) 1 8 Try.underlying36 HI.out.1 HI.out.2.1 HI.out.2.2.1 HI.out.2.2.2 rfl (by decide) _ _ _ rfl (hrow.alloc _) ⟨W.heap.size, 0, none⟩ 1 1 [.int .i64 x] rfl rfl (cell_one_new _ _ _) (by simp [Value.oneCell']) (by simp only [maxLen]; omega) (by omega) (by simp; omega) ?_; intro v' w2 hown' hgrow _; obtain ⟨g', cap', rfl⟩ := ownsRow_succ hown'; obtain ⟨hv1, hv2, hr2, hk2, hb2⟩ := hv.appended (by decide) (own_base hrow (by omega : w.heap.size ≤ w.heap.size + 3)) (by omega) (Nat.le_refl _) (own_base hown' (by omega)) hgrow; have hc1 := hv1.cell; have hf1 := hv1.frozen; have HOWN := Lib.hid hown'; have HGR := Lib.hid hgrow; clear hrow hB hown' hr2 hgrow)
    refine ⟨hk2.from _, KpI.appended HRW.out HGR.out (by omega) rfl, ⟨_, hv2, ?_, trivial⟩, HBW.out.trans hb2⟩
    have hge := own_ge HOWN.out g' (by simp [Value.ownBlock])
    have := ownsRow_setCell_other HOWN.out (a := ⟨w.heap.size, 0, none⟩) (by simp [Value.ownBlock]; omega) (.slice (some ⟨g', 0, none⟩) (pre.length + 1) cap')
    simpa [natsI, numV] using this
  case done =>
    rintro D ys W hD rfl ⟨⟨v, hv, hrow, -⟩, hB⟩ hK
    have hc := hv.cell
    gi_wp2
    refine ⟨by simp, .inl ⟨_, _, rfl, run_takeDeferred hK, ?_⟩⟩
    exact ⟨_, results_tmp rfl _ _ _, v, rfl, own_base (ownsRow_putObj hrow _ hK rfl) (by omega), (hb1.trans hB).trans (belowK_b (w := w) (Nat.le_refl _) W D _ _ (by omega) hK rfl rfl)⟩
  case stop =>
    rintro D c pre W _ _ h _
    exact h.elim
end Go.Proofs.Ytapmpegblfcknaa
