import Derived.Test.YtkckaimefklenaaLowL6
import Derived.Test.YtkckaimefklenaaLowW5
import Derived.Deep.RegionLaw
set_option linter.unusedVariables false
set_option linter.unusedSimpArgs false
namespace Go.Proofs.Ytkckaimefklenaa
open Go.RowKit
/-! lower: codes, put: the walks. -/
set_option maxRecDepth 100000 in
theorem codes_c (op : Int) (h0 : 1 ≤ op) (h1 : op ≤ 4) (w : World) :
    Calls Try.prog 18 #[.int .i64 op] w fun e w' => e = .returned (.int .u16 (codeN op)) ∧ w = w' := by
  have x1 : ∀ w : World, (Instr.index 94 (.agg #[.int .u16 0, .int .u16 16, .int .u16 32, .int .u16 48, .int .u16 64]) (.int .i64 1)).run Try.prog w = .ok (.int .u16 16) w := fun _ => by kernel_rfl
  have x2 : ∀ w : World, (Instr.index 94 (.agg #[.int .u16 0, .int .u16 16, .int .u16 32, .int .u16 48, .int .u16 64]) (.int .i64 2)).run Try.prog w = .ok (.int .u16 32) w := fun _ => by kernel_rfl
  have x3 : ∀ w : World, (Instr.index 94 (.agg #[.int .u16 0, .int .u16 16, .int .u16 32, .int .u16 48, .int .u16 64]) (.int .i64 3)).run Try.prog w = .ok (.int .u16 48) w := fun _ => by kernel_rfl
  have x4 : ∀ w : World, (Instr.index 94 (.agg #[.int .u16 0, .int .u16 16, .int .u16 32, .int .u16 48, .int .u16 64]) (.int .i64 4)).run Try.prog w = .ok (.int .u16 64) w := fun _ => by kernel_rfl
  have : op = 1 ∨ op = 2 ∨ op = 3 ∨ op = 4 := by omega
  rcases this with rfl | rfl | rfl | rfl
  all_goals (
    go_enter Try.func18, Try.ntmps18
    go_wp2
    go_ret
    exact ⟨rfl, rfl⟩)
theorem OutAt.rebase {w : World} {H : Nat} {bs : List Nat} {W0 : World} {xs : List I4} {v : Value} {W : World} (h : OutAt w H bs W0 xs v W) {b : Nat} (hb : b < W.heap.size) (hne : some b ≠ v.ownBlock) : OutAt w H (b :: bs) W xs v W :=
  ⟨h.own, h.below, fun _ _ => rfl, h.sz, h.hH, fun c hc => by
    rcases List.mem_cons.1 hc with e | e
    · subst e; exact hb
    · exact h.big c e, fun c hc e => by
    rcases List.mem_cons.1 hc with e2 | e2
    · subst e2; exact hne e
    · exact h.ne c e2 e⟩
theorem OutAt.back {w : World} {H : Nat} {bs : List Nat} {W0 W1 W2 : World} {xs ys : List I4} {v v1 : Value} {b : Nat} (h : OutAt w H (b :: bs) W1 xs v W2) (h1 : OutAt w H bs W0 ys v1 W1) : OutAt w H bs W0 xs v W2 :=
  ⟨h.own, h.below, fun c hc => (h.same c (by simp [hc])).trans (h1.same c hc), h.sz, h.hH, fun c hc => h.big c (by simp [hc]), fun c hc => h.ne c (by simp [hc])⟩
/-- A program's box, and what it holds. -/
structure GenAt (w : World) (G : Nat) (bs : List Nat) (W0 : World) (xs : List I4) (v : Value) (W : World) : Prop where
  out : OutAt w (G + 1) bs W0 xs v W
  gen : W.heap[G]? = some (.cells #[v] 55 (0, 0))
  notin : G ∉ bs
  ge : w.heap.size ≤ G
theorem own_ne {W : World} {H e size n : Nat} {v : Value} {xs : List Value} (h : W.ownsRow H e size v n xs) {b : Nat} (hb : b < H) : some b ≠ v.ownBlock := fun e => by have := own_ge h b e.symm; omega
theorem GenAt.set {w : World} {G : Nat} {bs : List Nat} {W0 : World} {xs : List I4} {v v0 : Value} {W : World} (h : OutAt w (G + 1) bs W0 xs v W) (hg : W.heap[G]? = some (.cells #[v0] 55 (0, 0))) (hn : G ∉ bs) (hge : w.heap.size ≤ G) : GenAt w G bs W0 xs v (W.setCell ⟨G, 0, none⟩ v) :=
  ⟨⟨own_setc h.own G 0 v (Ne.symm (own_ne h.own (by omega))), h.below.setCell (p := ⟨G, 0, none⟩) hge _, fun b hb => (Below.heap_setCell _ _ _ b (fun e => hn (by have e' : b = G := e; rw [← e']; exact hb))).trans (h.same b hb), by simpa using h.sz, h.hH, fun b hb => by simpa using h.big b hb, h.ne⟩, by rw [heapSet hg]; rfl, hn, hge⟩
theorem GenAt.cell {w : World} {G : Nat} {bs : List Nat} {W0 : World} {xs : List I4} {v : Value} {W : World} (h : GenAt w G bs W0 xs v W) : W.cell? ⟨G, 0, none⟩ = some v := by simp [World.cell?, h.gen]
theorem GenAt.keep {w : World} {G : Nat} {bs : List Nat} {W0 : World} {xs : List I4} {v : Value} {W W' : World} (h : GenAt w G bs W0 xs v W) (hb : Below W.heap.size W W') : GenAt w G bs W0 xs v W' :=
  ⟨h.out.keep hb, (hb.block _ (heap_lt h.gen)).trans h.gen, h.notin, h.ge⟩
set_option maxRecDepth 100000 in
set_option maxHeartbeats 1600000 in
theorem put_c {w0 : World} {G : Nat} {bs : List Nat} {W0 : World} {xs : List I4} {v : Value} (x : I4) (w : World) (h : GenAt w0 G bs W0 xs v w) (hn : xs.length ≤ 100000) :
    Calls Try.prog 11 #[.pointer (some ⟨G, 0, none⟩), .agg #[.int .u16 x.c, .int .u8 x.j, .int .u8 x.f, .int .u32 x.k]] w fun e w' => e = .returned (.tuple #[]) ∧ ∃ v', Hid (GenAt w0 G bs W0 (xs ++ [x]) v' w') := by
  obtain ⟨i1, HI1⟩ : ∃ i1, Hid (Try.prog.info? 45 = some i1 ∧ i1.zero = some (.agg #[.int .u16 0, .int .u8 0, .int .u8 0, .int .u32 0]) ∧ i1.size = 4 ∧ i1.bytes = 8) := by
    obtain ⟨i1, hi, hz0, hz1, hz2⟩ := info_parts infoI
    exact ⟨i1, Lib.hid ⟨hi, hz0, hz1, hz2⟩⟩
  have HG := Lib.hid h
  have hgl : G < w.heap.size := heap_lt h.gen
  have c0 := h.cell
  have HP : Hid (OutAt w0 (G + 1) (G :: bs) (w.alloc (.cells #[.int .u16 x.c, .int .u8 x.j, .int .u8 x.f, .int .u32 x.k] 45)) xs v (w.alloc (.cells #[.int .u16 x.c, .int .u8 x.j, .int .u8 x.f, .int .u32 x.k] 45))) := Lib.hid ((h.out.keep (below1 w _)).rebase (by simp; omega) (own_ne h.out.own (by omega)))
  have HQ : Hid (OutAt w0 (G + 1) bs W0 xs v (w.alloc (.cells #[.int .u16 x.c, .int .u8 x.j, .int .u8 x.f, .int .u32 x.k] 45))) := Lib.hid (h.out.keep (below1 w _))
  have HGG : Hid ((w.alloc (.cells #[.int .u16 x.c, .int .u8 x.j, .int .u8 x.f, .int .u32 x.k] 45)).heap[G]? = some (.cells #[v] 55 (0, 0))) := Lib.hid (heap_old h.gen _)
  clear h
  go_enter Try.func11, Try.ntmps11
  go_wp2_with fail
  go_region_law (refine put_drawn HP.out i1 HI1.out rfl (.tmp 8) (.tmp 10) rfl x rfl (w.heap.size + 1) (by simp) rfl (by omega) ?_; intro g6 c6 w6 h6; have H6 := Lib.hid h6; clear h6; have hg6 : w6.heap[G]? = some (.cells #[v] 55 (0, 0)) := (H6.out.same G (by simp)).trans HGG.out; have c6' : w6.cell? ⟨G, 0, none⟩ = some v := (by simp [World.cell?, hg6]); have f6' : w6.frozen? ⟨G, 0, none⟩ = false := (by simp [World.frozen?, hg6]); have HG6 := Lib.hid hg6; clear hg6)
  all_goals (
    go_wp2
    go_end0
    exact ⟨rfl, _, Lib.hid (GenAt.set (by have h := H6.out.back HQ.out; simpa using h) HG6.out HG.out.notin HG.out.ge)⟩)
end Go.Proofs.Ytkckaimefklenaa
