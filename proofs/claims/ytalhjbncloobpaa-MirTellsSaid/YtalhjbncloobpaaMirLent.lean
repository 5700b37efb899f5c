import Derived.Test.YtalhjbncloobpaaMirW2
import Derived.Test.YtalhjbncloobpaaOpenMir
import Derived.Test.YtalhjbncloobpaaStep
set_option linter.unusedVariables false
set_option linter.unusedSimpArgs false
namespace Go.Proofs.Ytalhjbncloobpaa
open Go.RowKit
/-! ravelinlaw12.Lent: the walk. -/
theorem infoR : (Try.prog.info? 34).map (fun i => (i.zero, i.size, i.bytes)) = some (some (.agg #[.int .i64 0, .int .i64 0, .int .i64 0, .int .i64 0, .int .u32 0, .int .i64 0, .int .i64 0]), 7, 56) := by kernel_rfl
def markR : R7 := ⟨77, 0, 0, 0, 0, 0, 0⟩
theorem cellsR_one (q : List R7) : ∀ u ∈ cellsR q, u.oneCell' = true := by
  intro u hu
  simp only [cellsR, List.mem_flatMap, R7.cells, List.mem_cons, List.mem_nil_iff, or_false] at hu
  obtain ⟨x, _, rfl | rfl | rfl | rfl | rfl | rfl | rfl⟩ := hu <;> rfl
theorem R7_one (x : R7) : ∀ u ∈ x.cells, u.oneCell' = true := by
  intro u hu
  exact cellsR_one [x] u (by simpa [cellsR] using hu)
theorem cellsR_snoc (q : List R7) (x : R7) : cellsR q ++ x.cells = cellsR (q ++ [x]) := by simp [cellsR]
theorem cellsR_take (q r : List R7) : (cellsR (q ++ r)).take (q.length * 7) = cellsR q := by
  have : cellsR (q ++ r) = cellsR q ++ cellsR r := by simp [cellsR]
  rw [this, ← cellsR_length q, List.take_left]
/-- A lent copy: a slice with the mark behind. -/
def IsLentR (w : World) (base : Nat) (q : List R7) (g cap : Nat) : Prop :=
  w.ownsRow base 34 7 (.slice (some ⟨g, 0, none⟩) (q.length + 1) cap) (q.length + 1) (cellsR (q ++ [markR])) ∧ q.length + 1 ≤ cap
def LentPostR (w : World) (regs : Int) (q : List R7) (e : Ending) (w' : World) : Prop :=
  ∃ g cap, e = .returned (.agg #[.int .i64 regs, .slice (some ⟨g, 0, none⟩) q.length cap]) ∧ IsLentR w' (w.heap.size + 2) q g cap ∧ Below w.heap.size w w'
theorem IsLentR.keep {w w' : World} {base g cap : Nat} {q : List R7} (h : IsLentR w base q g cap) (hb : Below w.heap.size w w') : IsLentR w' base q g cap := by
  refine ⟨h.1.kept (row := none) ⟨hb.os, hb.tape, hb.output, hb.size, fun k hk _ => hb.block k hk⟩ (.inr (by simp [Value.ownBlock])), h.2⟩
theorem IsLentR.reads {w : World} {base g cap : Nat} {q : List R7} (h : IsLentR w base q g cap) : Reads w w.heap.size 7 (some ⟨g, 0, none⟩) (q.length + 1) (cellsR (q ++ [markR])) := Reads.of_own h.1
theorem IsLentR.readsQ {w : World} {base g cap : Nat} {q : List R7} (h : IsLentR w base q g cap) : Reads w w.heap.size 7 (some ⟨g, 0, none⟩) q.length (cellsR q) := by
  have := h.reads.take (k := q.length) (by omega)
  rwa [cellsR_take] at this
theorem own_al {w : World} {base : Nat} {e : TypeId} {size n : Nat} {v : Value} {xs : List Value} (h : w.ownsRow base e size v n xs) (o : Obj) : (w.alloc o).ownsRow base e size v n xs := h.alloc o
def SL (w : World) (regs : Int) (A : Option Addr) (n cap : Nat) (W : World) : Prop :=
  W.cell? ⟨w.heap.size, 0, none⟩ = some (.int .i64 regs) ∧ W.cell? ⟨w.heap.size, 1, none⟩ = some (.slice A n cap) ∧ (W.cell? ⟨w.heap.size + 1, 0, none⟩).isSome = true ∧ (W.cell? ⟨w.heap.size + 1, 1, none⟩).isSome = true ∧
  W.frozen? ⟨w.heap.size + 1, 0, none⟩ = false ∧ W.frozen? ⟨w.heap.size + 1, 1, none⟩ = false ∧ Below w.heap.size w W ∧ w.heap.size + 2 ≤ W.heap.size
theorem SL.on {w W W1 : World} {regs : Int} {A : Option Addr} {n cap : Nat} (h : SL w regs A n cap W) (hb : Below (w.heap.size + 2) W W1) : SL w regs A n cap W1 := by
  obtain ⟨h1, h2, h3, h4, h5, h6, h7, h8⟩ := h
  exact ⟨(hb.cell (p := ⟨w.heap.size, 0, none⟩) (by simp)).trans h1, (hb.cell (p := ⟨w.heap.size, 1, none⟩) (by simp)).trans h2, (congrArg Option.isSome (hb.cell (p := ⟨w.heap.size + 1, 0, none⟩) (by simp))).trans h3, (congrArg Option.isSome (hb.cell (p := ⟨w.heap.size + 1, 1, none⟩) (by simp))).trans h4,
    (hb.frozen (p := ⟨w.heap.size + 1, 0, none⟩) (by simp)).trans h5, (hb.frozen (p := ⟨w.heap.size + 1, 1, none⟩) (by simp)).trans h6, h7.trans (below_of hb (by omega)), Nat.le_trans h8 hb.size⟩
theorem SL.al {w W : World} {regs : Int} {A : Option Addr} {n cap : Nat} (h : SL w regs A n cap W) (o : Obj) : SL w regs A n cap (W.alloc o) := h.on ((Below.refl _ _).alloc h.2.2.2.2.2.2.2 o)
theorem SL.grown {w W W1 : World} {regs : Int} {A : Option Addr} {n cap : Nat} {v : Value} {e : TypeId} {size m : Nat} {xs : List Value} (h : SL w regs A n cap W) (ho : W.ownsRow (w.heap.size + 2) e size v m xs) (hg : W.grownBy W1 v.ownBlock) : SL w regs A n cap W1 :=
  h.on (below_gr (Below.refl _ _) hg h.2.2.2.2.2.2.2 (fun k hk => own_ge ho k hk))
theorem SL.start (w : World) (regs : Int) (A : Option Addr) (n cap : Nat) (t t' : TypeId) : SL w regs A n cap ((w.alloc (.cells #[.int .i64 regs, .slice A n cap] t)).alloc (.cells #[.int .i64 0, .slice none 0 0] t')) := by
  have e := al_below w [.cells #[.int .i64 regs, .slice A n cap] t, .cells #[.int .i64 0, .slice none 0 0] t']
  have es := al_size w [.cells #[.int .i64 regs, .slice A n cap] t, .cells #[.int .i64 0, .slice none 0 0] t']
  refine ⟨?_, ?_, ?_, ?_, ?_, ?_, e, by simp⟩
  · exact al_cell w [.cells #[.int .i64 regs, .slice A n cap] t, .cells #[.int .i64 0, .slice none 0 0] t'] 0 rfl 0
  · exact al_cell w [.cells #[.int .i64 regs, .slice A n cap] t, .cells #[.int .i64 0, .slice none 0 0] t'] 0 rfl 1
  · exact congrArg Option.isSome (al_cell w [.cells #[.int .i64 regs, .slice A n cap] t, .cells #[.int .i64 0, .slice none 0 0] t'] 1 rfl 0)
  · exact congrArg Option.isSome (al_cell w [.cells #[.int .i64 regs, .slice A n cap] t, .cells #[.int .i64 0, .slice none 0 0] t'] 1 rfl 1)
  · exact al_frozen w [.cells #[.int .i64 regs, .slice A n cap] t, .cells #[.int .i64 0, .slice none 0 0] t'] 1 rfl 0
  · exact al_frozen w [.cells #[.int .i64 regs, .slice A n cap] t, .cells #[.int .i64 0, .slice none 0 0] t'] 1 rfl 1
theorem SL.dr {w W : World} {regs : Int} {A : Option Addr} {n cap : Nat} (h : SL w regs A n cap W) : SL w regs A n cap W.drew := ⟨h.1, h.2.1, h.2.2.1, h.2.2.2.1, h.2.2.2.2.1, h.2.2.2.2.2.1, below_dr h.2.2.2.2.2.2.1, h.2.2.2.2.2.2.2⟩
theorem SL.grown2 {w W W1 : World} {regs : Int} {A : Option Addr} {n cap : Nat} {row : Option Nat} (h : SL w regs A n cap W) (hg : W.grownBy W1 row) (hk : ∀ k, row = some k → w.heap.size + 2 ≤ k) : SL w regs A n cap W1 :=
  h.on (below_gr (Below.refl _ _) hg h.2.2.2.2.2.2.2 hk)
theorem SL.set {w W : World} {regs : Int} {A : Option Addr} {n cap : Nat} (h : SL w regs A n cap W) (o : Nat) (u : Value) : SL w regs A n cap (W.setCell ⟨w.heap.size + 1, o, none⟩ u) := by
  obtain ⟨h1, h2, h3, h4, h5, h6, h7, h8⟩ := h
  refine ⟨?_, ?_, isSome_set h3, isSome_set h4, ?_, ?_, h7.setCell (p := ⟨w.heap.size + 1, o, none⟩) (by simp) _, by simpa [World.setCell] using h8⟩
  · rw [World.cell?_setCell_far _ _ _ _ (by simp)]; exact h1
  · rw [World.cell?_setCell_far _ _ _ _ (by simp)]; exact h2
  · rw [World.frozen?_setCell]; exact h5
  · rw [World.frozen?_setCell]; exact h6
theorem SL.c {w W : World} {regs : Int} {A : Option Addr} {n cap : Nat} (h : SL w regs A n cap W) : W.cell? ⟨w.heap.size, 0, none⟩ = some (.int .i64 regs) ∧ W.cell? ⟨w.heap.size, 1, none⟩ = some (.slice A n cap) ∧ W.cell? ⟨w.heap.size + 1, 0, none⟩ = some (cellD W ⟨w.heap.size + 1, 0, none⟩) ∧ W.cell? ⟨w.heap.size + 1, 1, none⟩ = some (cellD W ⟨w.heap.size + 1, 1, none⟩) ∧
  W.frozen? ⟨w.heap.size + 1, 0, none⟩ = false ∧ W.frozen? ⟨w.heap.size + 1, 1, none⟩ = false ∧ Below w.heap.size w W ∧ w.heap.size + 2 ≤ W.heap.size := ⟨h.1, h.2.1, cellD_of h.2.2.1, cellD_of h.2.2.2.1, h.2.2.2.2⟩
theorem lit0 (W : World) (base : Nat) (h : base ≤ W.heap.size) : (W.alloc (.cells #[] 34)).ownsRow base 34 7 (.slice (some ⟨W.heap.size, 0, none⟩) 0 0) 0 [] := World.ownsRow_lit W #[] 0 h (by decide) rfl
theorem lit1 (W : World) (o : Obj) (base : Nat) (h : base ≤ W.heap.size) : ((W.alloc o).alloc (.cells #[] 34)).ownsRow base 34 7 (.slice (some ⟨W.heap.size + 1, 0, none⟩) 0 0) 0 [] := by
  have e := lit0 (W.alloc o) base (by simp; omega)
  rwa [World.size_alloc] at e
theorem mark_keep {W W1 : World} {row : Option Nat} {B b : Nat} {cs : List Value} (hr : Reads W B 7 (some ⟨b, 0, none⟩) 1 cs) (hg : W.grownBy W1 row) (hb : b < W.heap.size) (hne : row ≠ some b) : Reads W1 W1.heap.size 7 (some ⟨b, 0, none⟩) 1 cs := by
  refine ⟨hr.1, fun h => ?_⟩
  obtain ⟨b', off, e, hlt, hc⟩ := hr.2 h
  injection e with e
  injection e with e1 e2
  subst e1 e2
  refine ⟨b, 0, rfl, Nat.lt_of_lt_of_le hb hg.size, fun j u hu => ?_⟩
  rw [World.cell?_of_block (a := ⟨b, 0 + j, none⟩) (hg.block b hb (fun e => hne e.symm))]
  exact hc j u hu
theorem mk_last {W W1 : World} {e : Obj} {t : TypeId} (hg : ((W.alloc e).alloc (.cells #[.int .i64 77, .int .i64 0, .int .i64 0, .int .i64 0, .int .u32 0, .int .i64 0, .int .i64 0] t)).drew.grownBy W1 (some W.heap.size)) : Reads W1 W1.heap.size 7 (some ⟨W.heap.size + 1, 0, none⟩) 1 markR.cells := by
  have h := mark_keep (reads_new (W.alloc e) _ t 7 1 markR.cells rfl rfl).drew hg (by simp) (by simp)
  rwa [World.size_alloc] at h
theorem mk_first {W W1 : World} {e : Obj} {t : TypeId} (hg : ((W.alloc (.cells #[.int .i64 77, .int .i64 0, .int .i64 0, .int .i64 0, .int .u32 0, .int .i64 0, .int .i64 0] t)).alloc e).drew.grownBy W1 (some (W.heap.size + 1))) : Reads W1 W1.heap.size 7 (some ⟨W.heap.size, 0, none⟩) 1 markR.cells :=
  mark_keep ((reads_new W _ t 7 1 markR.cells rfl rfl).alloc (by simp) e).drew hg (by simp; omega) (by simp)
theorem own_set {w : World} {base : Nat} {e : TypeId} {size n : Nat} {v : Value} {xs : List Value} (h : w.ownsRow base e size v n xs) (b o : Nat) (u : Value) (hb : b < base) : (w.setCell ⟨b, o, none⟩ u).ownsRow base e size v n xs :=
  h.kept (row := some b) ⟨rfl, rfl, rfl, by simp [World.setCell], fun k _ hk => Below.heap_setCell _ _ _ k (fun e => hk (by rw [e]))⟩ (.inr (fun e => by have := own_ge h b e; omega))
set_option maxHeartbeats 1600000 in
set_option maxRecDepth 100000 in
theorem LentR_c (A : Option Addr) (regs : Int) (cap : Nat) (q : List R7) (hA : A = none → cap = 0) (hc : q.length ≤ cap) (hn : q.length * 56 ≤ 140737488351232) (w : World) (hr : Reads w w.heap.size 7 A q.length (cellsR q)) :
    Calls Try.prog 27 #[.agg #[.int .i64 regs, .slice A q.length cap]] w (LentPostR w regs q) := by
  obtain ⟨i0, HI⟩ : ∃ i0, Hid (Try.prog.info? 34 = some i0 ∧ i0.zero = some (.agg #[.int .i64 0, .int .i64 0, .int .i64 0, .int .i64 0, .int .u32 0, .int .i64 0, .int .i64 0]) ∧ i0.size = 7 ∧ i0.bytes = 56) := by
    obtain ⟨i0, hi, hz0, hz1, hz2⟩ := info_parts infoR
    exact ⟨i0, Lib.hid ⟨hi, hz0, hz1, hz2⟩⟩
  have HR := Lib.hid hr
  have HA := Lib.hid hA
  clear hr hA
  go_enter Try.func27, Try.ntmps27
  go_wp2_with fail
  obtain ⟨W0, hW0⟩ : ∃ W0, W0 = (w.alloc (.cells #[.int .i64 regs, .slice A q.length cap] 25)).alloc (.cells #[.int .i64 0, .slice none 0 0] 25) := ⟨_, rfl⟩
  have hS0 : SL w regs A q.length cap W0 := by rw [hW0]; exact SL.start ..
  have hz : W0.heap.size = w.heap.size + 2 := by rw [hW0]; simp
  rw [← hW0]
  clear hW0
  have HZ := Lib.hid hz
  have HS := Lib.hid hS0
  clear hz hS0
  go_region_held3 (fun W => W.cell? ⟨w.heap.size, 0, none⟩ = some (.int .i64 regs) ∧ W.cell? ⟨w.heap.size, 1, none⟩ = some (.slice A q.length cap) ∧ W.cell? ⟨w.heap.size + 1, 0, none⟩ = some (cellD W ⟨w.heap.size + 1, 0, none⟩) ∧ W.cell? ⟨w.heap.size + 1, 1, none⟩ = some (cellD W ⟨w.heap.size + 1, 1, none⟩) ∧
  W.frozen? ⟨w.heap.size + 1, 0, none⟩ = false ∧ W.frozen? ⟨w.heap.size + 1, 1, none⟩ = false ∧ Below w.heap.size w W ∧ w.heap.size + 2 ≤ W.heap.size)
    (first | exact SL.c ((hs2.set _ _).set _ _) | exact SL.c (HS.out.dr) | exact SL.c (hs1) | exact SL.c (hs2) | exact SL.c (hs1.al _) | exact SL.c ((HS.out.al _).dr) | exact SL.c (((HS.out.al _).al _).dr) | assumption | exact SL.c (SL.al (by assumption) _) | exact SL.c (SL.al (SL.al (by assumption) _) _))
    (first
     | ((refine step_app rfl (.tmp 5) (.tmp 7) 23 rfl (w.heap.size + 2) 34 i0 _ 7 56 Try.underlying23 HI.out.1 HI.out.2.1 HI.out.2.2.1 HI.out.2.2.2 rfl (by decide) _ 0 [] rfl (by first | exact lit0 W0 _ (by have := HZ.out; omega) | exact (lit0 W0 _ (by have := HZ.out; omega)).alloc _ | exact lit1 W0 _ _ (by have := HZ.out; omega)) A w.heap.size q.length cap (cellsR q) rfl HA.out (HR.out.below (by first | exact below_dr (below_al HS.out.2.2.2.2.2.2.1 _) | exact below_dr (below_al (below_al HS.out.2.2.2.2.2.2.1 _) _))) (cellsR_one q) (by simp only [maxLen]; omega) (by omega) (by have := HZ.out; simp at this ⊢; omega) ?_; intro v1 w1 hown1 hg1 _; have hs1 : SL w regs A q.length cap w1 := (by first | exact (HS.out.al _).dr.grown2 hg1 (fun k hk => by have hk2 := Option.some.inj hk; have := HZ.out; simp at hk2; omega) | exact ((HS.out.al _).al _).dr.grown2 hg1 (fun k hk => by have hk2 := Option.some.inj hk; have := HZ.out; simp at hk2; omega)); (first | have hm1 := mk_last hg1 | have hm2 := mk_first hg1 | skip); (try simp only [Nat.zero_add, List.nil_append] at hown1); clear hg1))
     | ((refine step_app rfl (.tmp 8) (.tmp 10) 23 rfl (w.heap.size + 2) 34 i0 _ 7 56 Try.underlying23 HI.out.1 HI.out.2.1 HI.out.2.2.1 HI.out.2.2.2 rfl (by decide) v1 q.length (cellsR q) rfl (by first | exact hown1 | exact hown1.alloc _) _ _ 1 1 markR.cells rfl (fun h => by cases h) (by first | exact reads_new w1 _ _ 7 1 markR.cells rfl rfl | exact hm1 | exact hm2) (R7_one markR) (by simp only [maxLen]; omega) (by omega) (by have := hs1.2.2.2.2.2.2.2; simp; omega) ?_; intro v2 w2 hown2 hg2 _; obtain ⟨g, cap2, hv2, hge, hlt⟩ := hown2.form (by omega); subst hv2; rw [cellsR_snoc] at hown2; have hcap := own_cap hown2; have hcapI : (q.length : Int) ≤ cap2 := (by omega); have hzI : (0 : Int) ≤ q.length := (by omega); have hs2 : SL w regs A q.length cap w2 := (by first | exact SL.grown hs1 hown1 hg2 | exact SL.grown (hs1.al _) (hown1.alloc _) hg2); clear hg2 hown1 hs1)))
  all_goals (
    rename_i hHeld
    clear hHeld
    obtain ⟨W3, hW3⟩ : ∃ W3, W3 = (w2.setCell ⟨w.heap.size + 1, 0, none⟩ (.int .i64 regs)).setCell ⟨w.heap.size + 1, 1, none⟩ (.slice (some ⟨g, 0, none⟩) q.length cap2) := ⟨_, rfl⟩
    have o3 : IsLentR W3 (w.heap.size + 2) q g cap2 := by rw [hW3]; exact ⟨own_set (own_set hown2 _ _ _ (by omega)) _ _ _ (by omega), hcap⟩
    have b3 : Below w.heap.size w W3 := by rw [hW3]; exact ((hs2.set 0 _).set 1 _).2.2.2.2.2.2.1
    have r1 : W3.cell? ⟨w.heap.size + 1, 1, none⟩ = some (.slice (some ⟨g, 0, none⟩) q.length cap2) := by
      rw [hW3]; exact World.cell?_setCell_same _ _ _ (cellD_of (hs2.set 0 _).2.2.2.1)
    have r0 : W3.cell? ⟨w.heap.size + 1, 0, none⟩ = some (.int .i64 regs) := by
      rw [hW3, World.cell?_setCell_other _ _ _ _ (by simp)]; exact World.cell?_setCell_same _ _ _ (cellD_of hs2.2.2.1)
    rw [← hW3]
    clear hW3 hown2 hs2
    go_wp2
    refine bodyPost_ret (v := .agg #[.int .i64 regs, .slice (some ⟨g, 0, none⟩) q.length cap2]) (by simp [results, Try.results27, go_sem, r0, r1]) rfl ⟨g, cap2, rfl, o3, b3⟩)
end Go.Proofs.Ytalhjbncloobpaa
