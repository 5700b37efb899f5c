import Derived.Test.YtebkbcpnjknkjaaSemWG
import Derived.Test.YtebkbcpnjknkjaaSemWB
set_option linter.unusedVariables false
set_option linter.unusedSimpArgs false
set_option maxRecDepth 100000
namespace Go.Proofs.Ytebkbcpnjknkjaa
open Go.RowKit
/-! sem.Holds: the walk. -/
structure HD (w : World) (eo do_ : Obj) (W : World) : Prop where
  below : Below w.heap.size w W
  ebox : W.heap[w.heap.size]? = some eo
  dbox : W.heap[w.heap.size + 1]? = some do_
theorem HD.call {w W W' : World} {eo do_ : Obj} (h : HD w eo do_ W) (hb : Below W.heap.size W W') : HD w eo do_ W' := ⟨below_t h.below hb, keepH hb h.ebox, keepH hb h.dbox⟩
theorem HD.drewN {w W : World} {eo do_ : Obj} (h : HD w eo do_ W) (n : Nat) : HD w eo do_ (W.drewN n) := ⟨below_drN h.below n, h.ebox, h.dbox⟩
theorem HD.alloc {w W : World} {eo do_ : Obj} (h : HD w eo do_ W) (o : Obj) : HD w eo do_ (W.alloc o) := h.call (below1 W o)
theorem HD.start (w : World) (cs ds : Array Value) (t u : TypeId) : HD w (.cells cs t (0, 0)) (.cells ds u (0, 0)) ((w.alloc (.cells cs t)).alloc (.cells ds u)) :=
  ⟨below_al (below1 w _) _, alloc_box (heap_nwT w _) _, by have := heap_nwT (w.alloc (.cells cs t)) (.cells ds u); rwa [World.size_alloc] at this⟩
theorem dcl {W : World} {g : Nat} {d : D9} {t : TypeId} (h : W.heap[g]? = some (.cells d.cells.toArray t (0, 0))) : W.cell? ⟨g, 0, none⟩ = some (.int .u32 d.nr) ∧ W.cell? ⟨g, 1, none⟩ = some (.int .u32 d.arch) ∧ W.cell? ⟨g, 2, none⟩ = some (.int .u64 d.ip) ∧ W.cell? ⟨g, 3, none⟩ = some (.int .u64 d.a0) ∧ W.cell? ⟨g, 4, none⟩ = some (.int .u64 d.a1) ∧ W.cell? ⟨g, 5, none⟩ = some (.int .u64 d.a2) ∧ W.cell? ⟨g, 6, none⟩ = some (.int .u64 d.a3) ∧ W.cell? ⟨g, 7, none⟩ = some (.int .u64 d.a4) ∧ W.cell? ⟨g, 8, none⟩ = some (.int .u64 d.a5) := by
  simp [World.cell?, h, D9.cells]
def holdsAt (M : Int) (d : D9) (x : ExA) : Bool := withinP M 0 x == 0 && holdsP d x
set_option maxHeartbeats 3200000 in
theorem Holds_c (N : Nat → Prop) (x : ExA) (d : D9) (w : World) (hin : x.In w N) (hfit : x.fits) : Calls Try.prog 20 #[x.val, d.val] w (BoolPost (holdsAt 1099511627776 d x) w) := by
  have HX := Lib.hid (fun W hb => Expr_c N x W (hin.keep (N' := N) (fun b hb' hl => ⟨hb', (show Below w.heap.size w W from hb).block b hl⟩)) hfit)
  have HH := Lib.hid (fun mb W hb (hv : withinP 1099511627776 0 x = 0) hm => holds_c d mb 1099511627776 N 201 x 0 W (by omega) hv (hin.keep (N' := N) (fun b hb' hl => ⟨hb', (show Below w.heap.size w W from hb).block b hl⟩)) hfit hm)
  obtain ⟨ev, hev⟩ : ∃ ev, ev = withinP 1099511627776 0 x := ⟨_, rfl⟩
  obtain ⟨q, hq⟩ : ∃ q, q = holdsP d x := ⟨_, rfl⟩
  have HF : Hid (holdsAt 1099511627776 d x = (ev == 0 && q)) := Lib.hid (by unfold holdsAt; rw [← hev, ← hq])
  rw [← hev] at HX
  rw [← hev, ← hq] at HH
  obtain ⟨op, A, c, l, f, m, r, v⟩ := x
  have HS := Lib.hid (HD.start w #[.int .i64 op, .slice A l.length c, .int .i64 f, .int .u64 m, .int .i64 r, .int .u64 v] d.cells.toArray 48 34)
  unfold ExA.val D9.val
  unfold ExA.val at HX HH
  unfold aVal aCells BoolPost at HH
  unfold D9.cells at HS
  dsimp only at HX HH ⊢
  clear hin hfit hev hq
  by_cases h0 : ev = 0
  · subst h0
    have HH2 := Lib.hid (fun mb W hb hm => HH.out mb W hb rfl hm)
    clear HH
    go_enter Try.func20, Try.ntmps20
    go_upto_region 1 with (fail)
    obtain ⟨wr, hwr⟩ : ∃ wr, wr = (w.alloc (.cells #[.int .i64 op, .slice A l.length c, .int .i64 f, .int .u64 m, .int .i64 r, .int .u64 v] 48)).alloc (.cells #[.int .u32 d.nr, .int .u32 d.arch, .int .u64 d.ip, .int .u64 d.a0, .int .u64 d.a1, .int .u64 d.a2, .int .u64 d.a3, .int .u64 d.a4, .int .u64 d.a5] 34) := ⟨_, rfl⟩
    rw [← hwr] at HS ⊢
    clear hwr
    obtain ⟨b0, b1, b2, b3, b4, b5⟩ := (box6 HS.out.ebox).1
    obtain ⟨d0, d1, d2, d3, d4, d5, d6, d7, d8⟩ := dcl HS.out.dbox
    go_region_law (first
      | (go_simp; go_at_call 15; refine (HX.out _ (HS.out.drewN 1).below).mono ?_; rintro e w1 ⟨rfl, hb1⟩; have HD1 := Lib.hid ((HS.out.drewN 1).call hb1); obtain ⟨p0, p1, p2, p3, p4, p5⟩ := (box6 HD1.out.ebox).1; obtain ⟨r0, r1, r2, r3, r4, r5, r6, r7, r8⟩ := dcl HD1.out.dbox; clear hb1)
      | (go_simp; go_at_call 30; refine (rels_c _).mono ?_; rintro e w2 ⟨rfl, hm2, hb2⟩; have HD2 := Lib.hid (HD1.out.call hb2); have HM2 := Lib.hid hm2; obtain ⟨s0, s1, s2, s3, s4, s5⟩ := (box6 HD2.out.ebox).1; obtain ⟨t0, t1, t2, t3, t4, t5, t6, t7, t8⟩ := dcl HD2.out.dbox; clear hb2 hm2)
      | (go_simp; go_at_call 34; refine (HH2.out _ _ HD2.out.below HM2.out).mono ?_; rintro e w3 ⟨rfl, hb3⟩; have HB3 := Lib.hid (below_t HD2.out.below hb3); clear hb3))
    all_goals (
      go_wp2
      go_ret
      exact ⟨ret_b (by rw [HF.out]; rfl), HB3.out⟩)
  · have h1 : (ev == 0) = false := by simpa using h0
    clear HH h0
    go_enter Try.func20, Try.ntmps20
    go_upto_region 1 with (fail)
    obtain ⟨wr, hwr⟩ : ∃ wr, wr = (w.alloc (.cells #[.int .i64 op, .slice A l.length c, .int .i64 f, .int .u64 m, .int .i64 r, .int .u64 v] 48)).alloc (.cells #[.int .u32 d.nr, .int .u32 d.arch, .int .u64 d.ip, .int .u64 d.a0, .int .u64 d.a1, .int .u64 d.a2, .int .u64 d.a3, .int .u64 d.a4, .int .u64 d.a5] 34) := ⟨_, rfl⟩
    rw [← hwr] at HS ⊢
    clear hwr
    obtain ⟨b0, b1, b2, b3, b4, b5⟩ := (box6 HS.out.ebox).1
    go_region_law (go_simp; go_at_call 15; refine (HX.out _ (HS.out.drewN 1).below).mono ?_; rintro e w1 ⟨rfl, hb1⟩; have HD1 := Lib.hid ((HS.out.drewN 1).call hb1); clear hb1)
    all_goals (
      go_wp2
      go_ret
      exact ⟨ret_b (by rw [HF.out, h1]; rfl), HD1.out.below⟩)
end Go.Proofs.Ytebkbcpnjknkjaa
