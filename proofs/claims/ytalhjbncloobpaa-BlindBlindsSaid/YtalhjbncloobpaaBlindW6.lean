import Derived.Test.YtalhjbncloobpaaBlindW4
import Derived.Test.YtalhjbncloobpaaMirStore
import Derived.Deep.Cut
import Derived.Deep.CutBlock
set_option linter.unusedVariables false
set_option linter.unusedSimpArgs false
namespace Go.Proofs.Ytalhjbncloobpaa
open Go.RowKit
/-! ravelinref21.Blind: the walk. -/
/-- What a round of the second loop keeps: the program that is grown. -/
structure BR (w W1 : World) (regs : Int) (A : Option Addr) (cap : Nat) (q : List R7) (ws : List Int) (D n : Nat) (vOut : Value) (wr : World) : Prop where
  bs : BS w regs A q.length cap wr
  hD : w.heap.size + 2 ≤ D
  one : Below D W1 wr
  p0 : wr.cell? ⟨D, 0, none⟩ = some (.int .i64 (regs + 1))
  p1 : wr.cell? ⟨D, 1, none⟩ = some vOut
  f1 : wr.frozen? ⟨D, 1, none⟩ = false
  own : wr.ownsRow (D + 1) 34 7 vOut (blindL q regs ws n).length (cellsR (blindL q regs ws n))
  size : D + 1 ≤ wr.heap.size
section
variable {w W1 : World} {regs : Int} {A : Option Addr} {cap : Nat} {q : List R7} {ws : List Int} {D n : Nat} {vOut : Value} {wr : World}
theorem BR.keep (h : BR w W1 regs A cap q ws D n vOut wr) {W : World} (hb : Below wr.heap.size wr W) : BR w W1 regs A cap q ws D n vOut W := by
  have hs := h.size
  exact ⟨h.bs.up hb, h.hD, h.one.trans (below_of hb (by omega)), (hb.cell (p := ⟨D, 0, none⟩) (by simp; omega)).trans h.p0, (hb.cell (p := ⟨D, 1, none⟩) (by simp; omega)).trans h.p1, (hb.frozen (p := ⟨D, 1, none⟩) (by simp; omega)).trans h.f1, own_up h.own hb, Nat.le_trans hs hb.size⟩
theorem BR.push (h : BR w W1 regs A cap q ws D n vOut wr) {x : R7} (hx : q[n]? = some x) {W w3 : World} {v' : Value} {k : Nat} (hb : Below wr.heap.size wr W) (hg : W.grownBy w3 vOut.ownBlock) (hk : k = (blindOne q regs ws n x).length)
    (ho : w3.ownsRow (D + 1) 34 7 v' ((blindL q regs ws n).length + k) (cellsR (blindL q regs ws n) ++ cellsR (blindOne q regs ws n x))) : BR w W1 regs A cap q ws D (n + 1) v' (w3.setCell ⟨D, 1, none⟩ v') := by
  have hs := h.size
  have hgb : Below (D + 1) wr w3 := below_gr (below_of hb hs) hg (Nat.le_trans hs hb.size) (fun j hj => own_ge h.own j hj)
  have hp1 := (hgb.cell (p := ⟨D, 1, none⟩) (by simp)).trans h.p1
  have hbs : Below D wr (w3.setCell ⟨D, 1, none⟩ v') := (below_of hgb (by omega)).setCell (p := ⟨D, 1, none⟩) (by simp) _
  refine ⟨h.bs.on (below_of hbs (by have := h.hD; omega)), h.hD, h.one.trans (below_of hbs (by omega)), ?_, World.cell?_setCell_same _ _ _ hp1, by rw [World.frozen?_setCell]; exact (hgb.frozen (p := ⟨D, 1, none⟩) (by simp)).trans h.f1, ?_, Nat.le_trans hs hbs.size⟩
  · rw [World.cell?_setCell_other _ _ _ _ (by simp)]; exact (hgb.cell (p := ⟨D, 0, none⟩) (by simp)).trans h.p0
  · rw [blindL_succ hx, List.length_append, ← hk, show cellsR (blindL q regs ws n ++ blindOne q regs ws n x) = cellsR (blindL q regs ws n) ++ cellsR (blindOne q regs ws n x) by simp [cellsR]]
    exact own_set ho _ _ _ (by omega)
theorem BR.start (t' : TypeId) (hs : BS w regs A q.length cap W1) : BR w W1 regs A cap q ws W1.heap.size 0 (.slice none 0 0) (W1.alloc (.cells #[.int .i64 (regs + 1), .slice none 0 0] t')) := by
  have e := below1 W1 (.cells #[.int .i64 (regs + 1), .slice none 0 0] t')
  refine ⟨hs.up e, hs.2.2.2.2.2.2.2, e, ?_, ?_, ?_, nil_own _ _, by simp⟩
  · exact al_cell W1 [.cells #[.int .i64 (regs + 1), .slice none 0 0] t'] 0 rfl 0
  · exact al_cell W1 [.cells #[.int .i64 (regs + 1), .slice none 0 0] t'] 0 rfl 1
  · exact al_frozen W1 [.cells #[.int .i64 (regs + 1), .slice none 0 0] t'] 0 rfl 1
end
theorem ir_set {W : World} {c : Nat} {x : R7} (h : IrAt W c 0 x) (m : Nat) (hm : m < 7) (v : Int) : IrAt (W.setCell ⟨c, m, none⟩ (.int (kindOf m) v)) c 0 (x.put m v) := by
  obtain ⟨i0, i1, i2, i3, i4, i5, i6⟩ := h
  have e : ∀ j, j ≠ m → (W.setCell ⟨c, m, none⟩ (.int (kindOf m) v)).cell? ⟨c, j, none⟩ = W.cell? ⟨c, j, none⟩ := fun j hj => World.cell?_setCell_other _ _ _ _ (fun h => hj (by injection h with _ h2; exact h2.symm))
  simp only [Nat.zero_add] at i0 i1 i2 i3 i4 i5 i6
  match m, hm with
  | 0, _ => exact ⟨World.cell?_setCell_same _ _ _ i0, (e _ (by omega)).trans i1, (e _ (by omega)).trans i2, (e _ (by omega)).trans i3, (e _ (by omega)).trans i4, (e _ (by omega)).trans i5, (e _ (by omega)).trans i6⟩
  | 1, _ => exact ⟨(e _ (by omega)).trans i0, World.cell?_setCell_same _ _ _ i1, (e _ (by omega)).trans i2, (e _ (by omega)).trans i3, (e _ (by omega)).trans i4, (e _ (by omega)).trans i5, (e _ (by omega)).trans i6⟩
  | 2, _ => exact ⟨(e _ (by omega)).trans i0, (e _ (by omega)).trans i1, World.cell?_setCell_same _ _ _ i2, (e _ (by omega)).trans i3, (e _ (by omega)).trans i4, (e _ (by omega)).trans i5, (e _ (by omega)).trans i6⟩
  | 3, _ => exact ⟨(e _ (by omega)).trans i0, (e _ (by omega)).trans i1, (e _ (by omega)).trans i2, World.cell?_setCell_same _ _ _ i3, (e _ (by omega)).trans i4, (e _ (by omega)).trans i5, (e _ (by omega)).trans i6⟩
  | 4, _ => exact ⟨(e _ (by omega)).trans i0, (e _ (by omega)).trans i1, (e _ (by omega)).trans i2, (e _ (by omega)).trans i3, World.cell?_setCell_same _ _ _ i4, (e _ (by omega)).trans i5, (e _ (by omega)).trans i6⟩
  | 5, _ => exact ⟨(e _ (by omega)).trans i0, (e _ (by omega)).trans i1, (e _ (by omega)).trans i2, (e _ (by omega)).trans i3, (e _ (by omega)).trans i4, World.cell?_setCell_same _ _ _ i5, (e _ (by omega)).trans i6⟩
  | 6, _ => exact ⟨(e _ (by omega)).trans i0, (e _ (by omega)).trans i1, (e _ (by omega)).trans i2, (e _ (by omega)).trans i3, (e _ (by omega)).trans i4, (e _ (by omega)).trans i5, World.cell?_setCell_same _ _ _ i6⟩
set_option maxRecDepth 100000 in
set_option maxHeartbeats 3200000 in
theorem rBlind_c (A : Option Addr) (regs : Int) (cap : Nat) (q : List R7) (Aw : Option Addr) (capw : Nat) (ws : List Int) (hq : ∀ x ∈ q, x.ok) (hA : A = none → cap = 0) (hc : q.length ≤ cap) (hB : q.length * 56 ≤ 140737488351232) (hcw : ws.length ≤ capw) (hBw : ws.length * 4 ≤ 140737488351232) (w : World)
    (hr : Reads w w.heap.size 7 A q.length (cellsR q)) (hrw : Reads w w.heap.size 1 Aw ws.length (numV .u32 ws)) :
    Calls Try.prog 20 #[.agg #[.int .i64 regs, .slice A q.length cap], .slice Aw ws.length capw] w (BlindPost w regs q ws) := by
  have HR := Lib.hid hr
  have HRW := Lib.hid hrw
  have HQ := Lib.hid hq
  have HA := Lib.hid hA
  clear hr hrw hq hA
  obtain ⟨i0, HI⟩ : ∃ i0, Hid (Try.prog.info? 34 = some i0 ∧ i0.zero = some (.agg #[.int .i64 0, .int .i64 0, .int .i64 0, .int .i64 0, .int .u32 0, .int .i64 0, .int .i64 0]) ∧ i0.size = 7 ∧ i0.bytes = 56) := by
    obtain ⟨i0, hi, hz0, hz1, hz2⟩ := info_parts infoR
    exact ⟨i0, Lib.hid ⟨hi, hz0, hz1, hz2⟩⟩
  obtain ⟨i2, HI2⟩ : ∃ i0, Hid (Try.prog.info? 3 = some i0 ∧ i0.zero = some (.int .i64 0) ∧ i0.size = 1 ∧ i0.bytes = 8) := by
    obtain ⟨i0, hi, hz0, hz1, hz2⟩ := info_parts (show (Try.prog.info? 3).map (fun i => (i.zero, i.size, i.bytes)) = some (some (.int .i64 0), 1, 8) by kernel_rfl)
    exact ⟨i0, Lib.hid ⟨hi, hz0, hz1, hz2⟩⟩
  by_cases hz : (mcheckP regs q).1 = 0
  · obtain ⟨z1, z2, z3, z4, -, -⟩ := mcheckP_zero hz
    obtain ⟨H, hH⟩ : ∃ H, H = hids q := ⟨_, rfl⟩
    have HC := Lib.hid (show countP regs q = ((H : Int), 0) by unfold countP; rw [if_neg (by simpa using hz), hH])
    have hHle : H ≤ q.length := by rw [hH]; exact List.countP_le_length
    have HZ := Lib.hid hz
    have HH := Lib.hid hH
    by_cases h0 : H = 0
    · subst h0
      have HV := Lib.hid (show blindP regs q ws = (regs, q, 0) by unfold blindP; rw [if_neg (by simpa using hz), if_pos hH.symm])
      clear hz hH hHle
      go_enter Try.func20, Try.ntmps20
      go_wp2_with fail
      obtain ⟨W0, hW0⟩ : ∃ W0, W0 = (w.alloc (.cells #[.int .i64 regs, .slice A q.length cap] 25)).alloc (.cells #[.int .i64 0, .slice none 0 0] 25) := ⟨_, rfl⟩
      have hS0 : BS w regs A q.length cap W0 := by rw [hW0]; exact BS.start ..
      rw [← hW0]
      clear hW0
      refine (rCount_c A regs cap q HQ.out (by omega) _ (HR.out.up hS0.2.2.2.2.2.2.1)).mono ?_
      rintro e w1 ⟨rfl, hb1⟩
      rw [HC.out]
      obtain ⟨s1, s2, s3, s4, s5, s6, s7, s8⟩ := hS0.up hb1
      clear hS0 hb1
      dsimp only
      have HS := Lib.hid (SL.of_bs (show BS w regs A q.length cap w1 from ⟨s1, s2, s3, s4, s5, s6, s7, s8⟩))
      go_wp2_with fail
      clear s1 s2 s3 s4 s5 s6
      go_region_held3 (fun W => W.cell? ⟨w.heap.size, 0, none⟩ = some (.int .i64 regs) ∧ W.cell? ⟨w.heap.size, 1, none⟩ = some (.slice A q.length cap) ∧ W.cell? ⟨w.heap.size + 1, 0, none⟩ = some (cellD W ⟨w.heap.size + 1, 0, none⟩) ∧ W.cell? ⟨w.heap.size + 1, 1, none⟩ = some (cellD W ⟨w.heap.size + 1, 1, none⟩) ∧
        W.frozen? ⟨w.heap.size + 1, 0, none⟩ = false ∧ W.frozen? ⟨w.heap.size + 1, 1, none⟩ = false ∧ Below w.heap.size w W ∧ w.heap.size + 2 ≤ W.heap.size)
        (first | exact SL.c ((hs3.set _ _).set _ _) | exact SL.c (HS.out.dr) | exact SL.c (HS.out.al _).dr | exact SL.c (HS.out.dr.al _) | exact SL.c hs3 | assumption)
        (first | (refine step_app rfl (.tmp 33) (.tmp 35) 23 rfl (w.heap.size + 2) 34 i0 _ 7 56 Try.underlying23 HI.out.1 HI.out.2.1 HI.out.2.2.1 HI.out.2.2.2 rfl (by decide) _ 0 [] rfl (lit0 w1 _ s8) A w.heap.size q.length cap (cellsR q) rfl HA.out (HR.out.below (below_dr (below_al s7 _))) (cellsR_one q) (by simp only [maxLen]; omega) (by omega) (by simp; omega) ?_; intro v3 w3 hown3 hg3 _; (try simp only [Nat.zero_add, List.nil_append] at hown3); obtain ⟨g1, cap1, hv, -, -⟩ := hown3.form z3; subst hv; have hs3 : SL w regs A q.length cap w3 := (HS.out.al _).dr.grown2 hg3 (fun k hk => by have hk2 := Option.some.inj hk; simp at hk2; omega); have HO := Lib.hid hown3; clear hown3 hg3))
      all_goals (
        rename_i hHeld
        clear hHeld
        obtain ⟨W3, hW3⟩ : ∃ W3, W3 = (w3.setCell ⟨w.heap.size + 1, 0, none⟩ (.int .i64 regs)).setCell ⟨w.heap.size + 1, 1, none⟩ (.slice (some ⟨g1, 0, none⟩) q.length cap1) := ⟨_, rfl⟩
        have hst := set2 (cellD_of hs3.2.2.1) (cellD_of hs3.2.2.2.1) (.int .i64 regs) (.slice (some ⟨g1, 0, none⟩) q.length cap1)
        have b3 : Below w.heap.size w W3 := by rw [hW3]; exact set2_below hs3.2.2.2.2.2.2.1 (by omega) _ _
        have o3 : W3.ownsRow w.heap.size 34 7 (.slice (some ⟨g1, 0, none⟩) q.length cap1) q.length (cellsR q) := by
          rw [hW3]
          exact own_lower (own_set (own_set HO.out _ _ _ (by omega)) _ _ _ (by omega)) (by omega)
        rw [← hW3] at hst
        rw [← hW3]
        obtain ⟨r0, r1⟩ := hst
        go_wp2
        refine bodyPost_ret (v := .tuple #[.agg #[.int .i64 regs, .slice (some ⟨g1, 0, none⟩) q.length cap1], .int .i64 0]) (by simp [results, Try.results20, go_sem, r0, r1]) rfl (blindPost_of HV.out o3 b3))
    · have t0 : ((H : Int) == 0) = false := by simpa using h0
      by_cases h64 : regs = 64
      · have HV := Lib.hid (show blindP regs q ws = (0, [], 211) by unfold blindP; rw [if_neg (by simpa using hz), if_neg (by rw [← hH]; exact h0), if_pos h64])
        have t1 : decide (64 ≤ regs) = true := by simp; omega
        clear hz hH h0 h64
        go_enter Try.func20, Try.ntmps20
        go_wp2_with fail
        obtain ⟨W0, hW0⟩ : ∃ W0, W0 = (w.alloc (.cells #[.int .i64 regs, .slice A q.length cap] 25)).alloc (.cells #[.int .i64 0, .slice none 0 0] 25) := ⟨_, rfl⟩
        have hS0 : BS w regs A q.length cap W0 := by rw [hW0]; exact BS.start ..
        rw [← hW0]
        clear hW0
        refine (rCount_c A regs cap q HQ.out (by omega) _ (HR.out.up hS0.2.2.2.2.2.2.1)).mono ?_
        rintro e w1 ⟨rfl, hb1⟩
        rw [HC.out]
        obtain ⟨s1, s2, s3, s4, s5, s6, s7, s8⟩ := hS0.up hb1
        clear hS0 hb1
        dsimp only
        go_wp2
        obtain ⟨r0, r1⟩ := set2 s3 s4 (.int .i64 0) (.slice none 0 0)
        refine bodyPost_ret (v := .tuple #[.agg #[.int .i64 0, .slice none 0 0], .int .i64 211]) (by simp [results, Try.results20, go_sem, r0, r1]) rfl (blindPost_of HV.out (nil_own _ _) (set2_below s7 (by omega) _ _))
      · have t1 : decide (64 ≤ regs) = false := by simp; omega
        have hw2 : IntKind.i64.wrap (2 * (H : Int)) = 2 * (H : Int) := by rw [IntKind.wrap_i64]; omega
        have hw3 : IntKind.i64.wrap ((q.length : Int) + 2 * (H : Int)) = (q.length : Int) + 2 * (H : Int) := by rw [IntKind.wrap_i64]; omega
        by_cases hm : 65536 < q.length + 2 * H
        · have HV := Lib.hid (show blindP regs q ws = (0, [], 2) by unfold blindP; rw [if_neg (by simpa using hz), if_neg (by rw [← hH]; exact h0), if_neg h64, if_pos (by rw [← hH]; exact hm)])
          have t2 : decide (65536 < (q.length : Int) + 2 * (H : Int)) = true := by simp; omega
          clear hz hH h0 h64 hm
          go_enter Try.func20, Try.ntmps20
          go_wp2_with fail
          obtain ⟨W0, hW0⟩ : ∃ W0, W0 = (w.alloc (.cells #[.int .i64 regs, .slice A q.length cap] 25)).alloc (.cells #[.int .i64 0, .slice none 0 0] 25) := ⟨_, rfl⟩
          have hS0 : BS w regs A q.length cap W0 := by rw [hW0]; exact BS.start ..
          rw [← hW0]
          clear hW0
          refine (rCount_c A regs cap q HQ.out (by omega) _ (HR.out.up hS0.2.2.2.2.2.2.1)).mono ?_
          rintro e w1 ⟨rfl, hb1⟩
          rw [HC.out]
          obtain ⟨s1, s2, s3, s4, s5, s6, s7, s8⟩ := hS0.up hb1
          clear hS0 hb1
          dsimp only
          go_wp2
          obtain ⟨r0, r1⟩ := set2 s3 s4 (.int .i64 0) (.slice none 0 0)
          refine bodyPost_ret (v := .tuple #[.agg #[.int .i64 0, .slice none 0 0], .int .i64 2]) (by simp [results, Try.results20, go_sem, r0, r1]) rfl (blindPost_of HV.out (nil_own _ _) (set2_below s7 (by omega) _ _))
        · have HV := Lib.hid (show blindP regs q ws = (regs + 1, blindQ q regs ws, 0) by unfold blindP; rw [if_neg (by simpa using hz), if_neg (by rw [← hH]; exact h0), if_neg h64, if_neg (by rw [← hH]; exact hm)])
          have t2 : decide (65536 < (q.length : Int) + 2 * (H : Int)) = false := by simp; omega
          have hr1 : IntKind.i64.wrap (regs + 1) = regs + 1 := by rw [IntKind.wrap_i64]; omega
          clear hz hH h0 h64 hm
          go_enter Try.func20, Try.ntmps20
          go_wp2_with fail
          obtain ⟨W0, hW0⟩ : ∃ W0, W0 = (w.alloc (.cells #[.int .i64 regs, .slice A q.length cap] 25)).alloc (.cells #[.int .i64 0, .slice none 0 0] 25) := ⟨_, rfl⟩
          have hS0 : BS w regs A q.length cap W0 := by rw [hW0]; exact BS.start ..
          rw [← hW0]
          clear hW0
          refine (rCount_c A regs cap q HQ.out (by omega) _ (HR.out.up hS0.2.2.2.2.2.2.1)).mono ?_
          rintro e w1 ⟨rfl, hb1⟩
          rw [HC.out]
          obtain ⟨s1, s2, s3, s4, s5, s6, s7, s8⟩ := hS0.up hb1
          clear hS0 hb1
          dsimp only
          have HS1 : Hid (BS w regs A q.length cap w1) := Lib.hid ⟨s1, s2, s3, s4, s5, s6, s7, s8⟩
          have hql : (q.length : Int) ≤ 65536 := by omega
          go_wp2_with fail
          clear s1 s2 s3 s4 s5 s6 t0 t1 t2 hw2 hw3
          go_loopw [8, 9, 10] (fun v p i wr => ∃ n P : Nat, n ≤ q.length ∧ i = .int .i64 n ∧ Hid (P = placeB q n) ∧ p = .int .i64 P ∧ P ≤ 3 * n ∧ Hid (BS w regs A q.length cap wr) ∧ Hid (wr.ownsRow (w.heap.size + 2) 3 1 v n (numV .i64 (placesL q n)))) (fun _ _ i _ => q.length - (intOf i).toNat)
          case atStart => exact ⟨0, 0, by omega, rfl, Lib.hid (by simp [placeB, hids]), rfl, by omega, HS1, Lib.hid (by simpa [placesL, numV] using World.ownsRow_nil _ _ _ _)⟩
          case round =>
            obtain ⟨n, P, hn6, rfl, HP, rfl, hP3, HSr, HOr⟩ := hrel
            by_cases h6 : n < q.length
            · obtain ⟨x, hx⟩ : ∃ x, q[n]? = some x := ⟨_, List.getElem?_eq_getElem h6⟩
              have hBw := HSr.out.2.2.2.2.2.2.1
              have hsz := HSr.out.2.2.2.2.2.2.2
              have s2 := HSr.out.2.1
              have hlt1 : (n : Int) < q.length := by omega
              have HXO := Lib.hid (HQ.out x (List.mem_of_getElem? hx))
              have HX := Lib.hid hx
              clear hx
              obtain ⟨o, d, a, b2, k, t, f⟩ := x
              have tok : True := trivial
              go_wp2_with (at_builtin; have _t := tok; clear tok; go_must (refine wpList_app rfl (.tmp 59) (.tmp 61) 52 rfl (w.heap.size + 2) 3 i2 _ 1 8 Try.underlying52 HI2.out.1 HI2.out.2.1 HI2.out.2.2.1 HI2.out.2.2.2 rfl (by decide) _ n (numV .i64 (placesL q n)) rfl (HOr.out.alloc _) (some ⟨wr.heap.size, 0, none⟩) (wr.heap.size + 1) 1 1 (numV .i64 [(P : Int)]) rfl (fun h => by cases h) (reads_new wr _ _ 1 1 (numV .i64 [(P : Int)]) rfl rfl) (numV_one .i64 [(P : Int)]) (by simp only [maxLen]; omega) (by omega) (by simp; omega) ?_; intro v' w3 hown' hgrow _; have hb3 : Below (w.heap.size + 2) wr w3 := below_gr ((Below.refl _ _).alloc hsz _) hgrow (by simp; omega) (fun j hj => own_ge HOr.out j hj); have HS3 := Lib.hid (HSr.out.on hb3); have s2 := HS3.out.2.1; obtain ⟨b, off, he, hb, i0', i1, i2', i3, i4, i5, i6⟩ := (HR.out.up HS3.out.2.2.2.2.2.2.1).ir HX.out; subst he; have HO := Lib.hid hown'; clear hown' hgrow; dsimp only at i0' i1 i2' i3 i4 i5 i6))
              refine (rhidden_c ⟨o, d, a, b2, k, t, f⟩ HXO.out w3).mono ?_
              rintro e w4 ⟨rfl, hb4⟩
              have HS4 := Lib.hid (HS3.out.up hb4)
              have HO4 := Lib.hid (show w4.ownsRow (w.heap.size + 2) 3 1 v' (n + 1) (numV .i64 (placesL q (n + 1))) by
                have h := own_up HO.out hb4
                rw [placesL_succ, ← HP.out, show numV .i64 (placesL q n ++ [(P : Int)]) = numV .i64 (placesL q n) ++ numV .i64 [(P : Int)] by simp [numV]]
                exact h)
              obtain ⟨B, hBB⟩ : ∃ B, B = hidB ⟨o, d, a, b2, k, t, f⟩ := ⟨_, rfl⟩
              have HPS := Lib.hid (show placeB q (n + 1) = P + (if B = true then 3 else 1) by rw [placeB_succ HX.out, ← HP.out, hBB])
              rw [← hBB]
              clear hBB i0' i1 i2' i3 i4 i5 i6 hb4
              cases B with
              | true =>
                go_wp2
                go_roundw
                case rel => exact ⟨n + 1, P + 3, by omega, by go_num, Lib.hid (by rw [HPS.out]; rfl), by go_num, by omega, HS4, HO4⟩
                case measure => simp [intOf]; omega
              | false =>
                go_wp2
                go_roundw
                case rel => exact ⟨n + 1, P + 1, by omega, by go_num, Lib.hid (by rw [HPS.out]; rfl), by go_num, by omega, HS4, HO4⟩
                case measure => simp [intOf]; omega
            · obtain rfl : n = q.length := by omega
              obtain ⟨g, cap2, hv, -, hgl⟩ := HOr.out.form z3
              subst hv
              have HAT := Lib.hid (Reads.of_own HOr.out)
              obtain ⟨W1, rfl⟩ : ∃ W1, W1 = wr := ⟨_, rfl⟩
              obtain ⟨s1, s2, s3, s4, s5, s6, s7', s8'⟩ := HSr.out
              go_wp2_with fail
              have HBL0 := Lib.hid (BR.start (ws := ws) 25 HSr.out)
              clear s1 s2 s3 s4 s5 s6 h6 hP3 HOr HS1 hn6 HP
              have HW1 := Lib.hid s7'
              have hD2 : w.heap.size + 2 ≤ W1.heap.size := s8'
              clear s7' s8'
              go_loopw [13, 14] (fun c i wr => ∃ (n : Nat) (vOut : Value), n ≤ q.length ∧ i = .int .i64 n ∧ c = .int .i64 (hids (q.take n)) ∧ Hid (BR w W1 regs A cap q ws W1.heap.size n vOut wr)) (fun _ i _ => q.length - (intOf i).toNat)
              case atStart => exact ⟨0, _, by omega, rfl, by simp [hids], HBL0⟩
              case round =>
                obtain ⟨n, vOut, hn6, rfl, rfl, HBL⟩ := hrel
                clear HBL0
                by_cases h6 : n < q.length
                · obtain ⟨x, hx⟩ : ∃ x, q[n]? = some x := ⟨_, List.getElem?_eq_getElem h6⟩
                  have hBw := HBL.out.bs.2.2.2.2.2.2.1
                  have hsz := HBL.out.size
                  have s2 := HBL.out.bs.2.1
                  obtain ⟨b, off, he, hb, i0', i1, i2', i3, i4, i5, i6⟩ := (HR.out.up hBw).ir hx
                  subst he
                  have hlt1 : (n : Int) < q.length := by omega
                  have HXO := Lib.hid (HQ.out x (List.mem_of_getElem? hx))
                  have HX := Lib.hid hx
                  have hf := fine_at HZ.out hx
                  have HT := Lib.hid (fun h => And.intro (show 0 ≤ x.t by have := (hf.2.2.2.2.2.2.1 h).1; omega) (hf.2.2.2.2.2.2.1 h).2)
                  have HF := Lib.hid (fun h => And.intro (show 0 ≤ x.f by have := (hf.2.2.2.2.2.2.2 h).1; omega) (hf.2.2.2.2.2.2.2 h).2)
                  have hlenL : (blindL q regs ws n).length ≤ 3 * n := by
                    rw [blindL_length q regs ws n (by omega)]
                    have := hids_le q n
                    unfold placeB; omega
                  have hh := hids_le q n
                  obtain ⟨M, hM⟩ : ∃ M, M = hids (q.take n) := ⟨_, rfl⟩
                  rw [← hM] at hh ⊢
                  have HM := Lib.hid hM
                  clear hx hf hM
                  obtain ⟨o, d, a, b2, k, t, f⟩ := x
                  dsimp only at *
                  go_wp2_with fail
                  refine (rhidden_c ⟨o, d, a, b2, k, t, f⟩ HXO.out _).mono ?_
                  rintro e w2 ⟨rfl, hb2⟩
                  have hI2 : IrAt w2 wr.heap.size 0 ⟨o, d, a, b2, k, t, f⟩ := IrAt.keep hb2 ⟨al_cell wr [_] 0 rfl 0, al_cell wr [_] 0 rfl 1, al_cell wr [_] 0 rfl 2, al_cell wr [_] 0 rfl 3, al_cell wr [_] 0 rfl 4, al_cell wr [_] 0 rfl 5, al_cell wr [_] 0 rfl 6⟩
                  have hFz : ∀ j, w2.frozen? ⟨wr.heap.size, j, none⟩ = false := fun j => (hb2.frozen (p := ⟨wr.heap.size, j, none⟩) (by simp)).trans (al_frozen wr [_] 0 rfl j)
                  have hk2 : Below wr.heap.size wr w2 := below_t (below1 wr _) hb2
                  have hs2 : wr.heap.size < w2.heap.size := by have := hb2.size; simp at this; omega
                  have HBL2 := Lib.hid (HBL.out.keep hk2)
                  obtain ⟨B, hBB⟩ : ∃ B, B = hidB ⟨o, d, a, b2, k, t, f⟩ := ⟨_, rfl⟩
                  have HHS := Lib.hid (hids_add HX.out hBB)
                  have HB := Lib.hid hBB
                  rw [← hBB]
                  clear hBB hb2 i0' i1 i2' i3 i4 i5 i6 s2
                  cases B with
                  | false =>
                    have HO1 := Lib.hid (show blindOne q regs ws n ⟨o, d, a, b2, k, t, f⟩ = [movedB q ⟨o, d, a, b2, k, t, f⟩] by unfold blindOne; rw [if_neg (by rw [← HB.out]; decide)])
                    by_cases hT : shT o = true
                    · obtain ⟨p0, p1⟩ := HT.out hT
                      obtain ⟨T, rfl⟩ : ∃ T : Nat, t = T := ⟨t.toNat, by omega⟩
                      obtain ⟨bb, ob, he, -, hcT⟩ := (HAT.out.up (HBL2.out.one)).num (placesL_get q (m := q.length) (i := T) (by omega))
                      injection he with he
                      injection he with he1 he2
                      subst he1 he2
                      rw [Nat.zero_add] at hcT
                      have e1 := hI2.2.2.2.2.2.1
                      have e0 := hI2.1
                      have e6 := hI2.2.2.2.2.2.2
                      simp only [Nat.zero_add] at e0 e1 e6
                      have fz := hFz 5
                      by_cases hF : shF o = true
                      · obtain ⟨f0, f1⟩ := HF.out hF
                        obtain ⟨F, rfl⟩ : ∃ F : Nat, f = F := ⟨f.toNat, by omega⟩
                        have HV1 := Lib.hid (show movedB q ⟨o, d, a, b2, k, T, F⟩ = ⟨o, d, a, b2, k, placeB q T, placeB q F⟩ by simp [movedB, hT, hF])
                        simp only [shF, Bool.and_eq_true, decide_eq_true_eq] at hF
                        have g1 : decide (14 ≤ o) = true := by simp; omega
                        have g2 : decide (o ≤ 18) = true := by simp; omega
                        have g3 : decide (15 ≤ o) = true := by simp; omega
                        clear hT hF f0 p0
                        go_upto_region 35 with (fail)
                        obtain ⟨w5, hw5⟩ : ∃ w5, w5 = w2.setCell ⟨wr.heap.size, 5, none⟩ (.int .i64 (placeB q T)) := ⟨_, rfl⟩
                        have hk5 : Below wr.heap.size wr w5 := by rw [hw5]; exact hk2.setCell (p := ⟨wr.heap.size, 5, none⟩) (Nat.le_refl _) _
                        have hI5 := ir_set hI2 5 (by decide) (placeB q T)
                        change IrAt (w2.setCell ⟨wr.heap.size, 5, none⟩ (.int .i64 (placeB q T))) _ _ _ at hI5
                        rw [← hw5] at hI5
                        rw [← hw5]
                        have hzw5 : wr.heap.size < w5.heap.size := by rw [hw5]; simpa [World.setCell] using hs2
                        have hFzw5 : ∀ j, w5.frozen? ⟨wr.heap.size, j, none⟩ = false := fun j => by rw [hw5, World.frozen?_setCell]; exact hFz j
                        clear hw5
                        dsimp only [R7.put] at hI5
                        have e0w5 := hI5.1
                        have e6w5 := hI5.2.2.2.2.2.2
                        simp only [Nat.zero_add] at e0w5 e6w5
                        have fzw5 := hFzw5 6
                        obtain ⟨bb, ob, he, -, hcF⟩ := (HAT.out.up ((HBL.out.keep hk5).one)).num (placesL_get q (m := q.length) (i := F) (by omega))
                        injection he with he
                        injection he with he1 he2
                        subst he1 he2
                        rw [Nat.zero_add] at hcF
                        go_upto_region 37 with (fail)
                        obtain ⟨w6, hw6⟩ : ∃ w6, w6 = w5.setCell ⟨wr.heap.size, 6, none⟩ (.int .i64 (placeB q F)) := ⟨_, rfl⟩
                        have hk6 : Below wr.heap.size wr w6 := by rw [hw6]; exact hk5.setCell (p := ⟨wr.heap.size, 6, none⟩) (Nat.le_refl _) _
                        have hI6 := ir_set hI5 6 (by decide) (placeB q F)
                        change IrAt (w5.setCell ⟨wr.heap.size, 6, none⟩ (.int .i64 (placeB q F))) _ _ _ at hI6
                        rw [← hw6] at hI6
                        rw [← hw6]
                        have hzw6 : wr.heap.size < w6.heap.size := by rw [hw6]; simpa [World.setCell] using hzw5
                        have hFzw6 : ∀ j, w6.frozen? ⟨wr.heap.size, j, none⟩ = false := fun j => by rw [hw6, World.frozen?_setCell]; exact hFzw5 j
                        clear hw6
                        dsimp only [R7.put] at hI6
                        have e0w6 := hI6.1
                        have e6w6 := hI6.2.2.2.2.2.2
                        simp only [Nat.zero_add] at e0w6 e6w6
                        have fzw6 := hFzw6 6
                        have HB6 := Lib.hid (HBL.out.keep hk6)
                        obtain ⟨k0, k1, k2, k3, k4, k5, k6⟩ := hI6
                        simp only [Nat.zero_add] at k0 k1 k2 k3 k4 k5 k6
                        have s1 := HB6.out.p1
                        have s2 := HB6.out.f1
                        have hp1 : W1.heap.size < w6.heap.size := by omega
                        have tok : True := trivial
                        go_wp2_with (at_builtin; have _t := tok; clear tok; go_must (refine wpList_app rfl (.tmp 155) (.tmp 157) 23 rfl (W1.heap.size + 1) 34 i0 _ 7 56 Try.underlying23 HI.out.1 HI.out.2.1 HI.out.2.2.1 HI.out.2.2.2 rfl (by decide) vOut (blindL q regs ws n).length (cellsR (blindL q regs ws n)) rfl (HB6.out.own.alloc _) (some ⟨w6.heap.size, 0, none⟩) (w6.heap.size + 1) 1 1 (R7.cells ⟨o, d, a, b2, k, placeB q T, placeB q F⟩) rfl (fun h => by cases h) (reads_new w6 _ _ 7 1 (R7.cells ⟨o, d, a, b2, k, placeB q T, placeB q F⟩) rfl rfl) (R7_one _) (by simp only [maxLen]; omega) (by omega) (by simp; omega) ?_; intro v' w7 hown4 hg4 _; obtain ⟨g4, cap4, hv4, -, -⟩ := hown4.form (by omega); subst hv4; have hgb := hg4.block W1.heap.size (by simp; omega) (fun e => by have := (HB6.out.own.lt _ e.symm).1; omega); have s4 : w7.cell? ⟨W1.heap.size, 1, none⟩ = some vOut := (World.cell?_of_block (a := ⟨W1.heap.size, 1, none⟩) hgb).trans ((World.cell?_alloc_lt w6 _ ⟨W1.heap.size, 1, none⟩ hp1).trans s1); have s5 : w7.frozen? ⟨W1.heap.size, 1, none⟩ = false := (World.frozen?_of_block (a := ⟨W1.heap.size, 1, none⟩) hgb).trans (((below1 w6 _).frozen (p := ⟨W1.heap.size, 1, none⟩) hp1).trans s2); have HG4 := Lib.hid hg4; have HO4 := Lib.hid hown4; clear hg4 hown4 hgb))
                        go_roundw
                        case rel =>
                          have e1 : hids (q.take (n + 1)) = M := by rw [HHS.out, HM.out]; rfl
                          refine ⟨n + 1, .slice (some ⟨g4, 0, none⟩) ((blindL q regs ws n).length + 1) cap4, by omega, by go_num, by rw [e1], Lib.hid ?_⟩
                          refine BR.push HB6.out HX.out (below1 w6 _) HG4.out (k := 1) (by rw [HO1.out]; rfl) ?_
                          rw [HO1.out, HV1.out]
                          exact HO4.out
                        case measure => simp [intOf]; omega
                      · have HV1 := Lib.hid (show movedB q ⟨o, d, a, b2, k, T, f⟩ = ⟨o, d, a, b2, k, placeB q T, f⟩ by simp [movedB, hT, hF])
                        have ho14 : o = 14 := by simp only [shT, shF, Bool.or_eq_true, beq_iff_eq, Bool.and_eq_true, decide_eq_true_eq] at hT hF; omega
                        subst ho14
                        clear hT hF p0
                        go_upto_region 35 with (fail)
                        obtain ⟨w5, hw5⟩ : ∃ w5, w5 = w2.setCell ⟨wr.heap.size, 5, none⟩ (.int .i64 (placeB q T)) := ⟨_, rfl⟩
                        have hk5 : Below wr.heap.size wr w5 := by rw [hw5]; exact hk2.setCell (p := ⟨wr.heap.size, 5, none⟩) (Nat.le_refl _) _
                        have hI5 := ir_set hI2 5 (by decide) (placeB q T)
                        change IrAt (w2.setCell ⟨wr.heap.size, 5, none⟩ (.int .i64 (placeB q T))) _ _ _ at hI5
                        rw [← hw5] at hI5
                        rw [← hw5]
                        have hzw5 : wr.heap.size < w5.heap.size := by rw [hw5]; simpa [World.setCell] using hs2
                        have hFzw5 : ∀ j, w5.frozen? ⟨wr.heap.size, j, none⟩ = false := fun j => by rw [hw5, World.frozen?_setCell]; exact hFz j
                        clear hw5
                        dsimp only [R7.put] at hI5
                        have e0w5 := hI5.1
                        have e6w5 := hI5.2.2.2.2.2.2
                        simp only [Nat.zero_add] at e0w5 e6w5
                        have fzw5 := hFzw5 6
                        go_upto_region 37 with (fail)
                        have HB6 := Lib.hid (HBL.out.keep hk5)
                        obtain ⟨k0, k1, k2, k3, k4, k5, k6⟩ := hI5
                        simp only [Nat.zero_add] at k0 k1 k2 k3 k4 k5 k6
                        have s1 := HB6.out.p1
                        have s2 := HB6.out.f1
                        have hp1 : W1.heap.size < w5.heap.size := by omega
                        have tok : True := trivial
                        go_wp2_with (at_builtin; have _t := tok; clear tok; go_must (refine wpList_app rfl (.tmp 155) (.tmp 157) 23 rfl (W1.heap.size + 1) 34 i0 _ 7 56 Try.underlying23 HI.out.1 HI.out.2.1 HI.out.2.2.1 HI.out.2.2.2 rfl (by decide) vOut (blindL q regs ws n).length (cellsR (blindL q regs ws n)) rfl (HB6.out.own.alloc _) (some ⟨w5.heap.size, 0, none⟩) (w5.heap.size + 1) 1 1 (R7.cells ⟨14, d, a, b2, k, placeB q T, f⟩) rfl (fun h => by cases h) (reads_new w5 _ _ 7 1 (R7.cells ⟨14, d, a, b2, k, placeB q T, f⟩) rfl rfl) (R7_one _) (by simp only [maxLen]; omega) (by omega) (by simp; omega) ?_; intro v' w7 hown4 hg4 _; obtain ⟨g4, cap4, hv4, -, -⟩ := hown4.form (by omega); subst hv4; have hgb := hg4.block W1.heap.size (by simp; omega) (fun e => by have := (HB6.out.own.lt _ e.symm).1; omega); have s4 : w7.cell? ⟨W1.heap.size, 1, none⟩ = some vOut := (World.cell?_of_block (a := ⟨W1.heap.size, 1, none⟩) hgb).trans ((World.cell?_alloc_lt w5 _ ⟨W1.heap.size, 1, none⟩ hp1).trans s1); have s5 : w7.frozen? ⟨W1.heap.size, 1, none⟩ = false := (World.frozen?_of_block (a := ⟨W1.heap.size, 1, none⟩) hgb).trans (((below1 w5 _).frozen (p := ⟨W1.heap.size, 1, none⟩) hp1).trans s2); have HG4 := Lib.hid hg4; have HO4 := Lib.hid hown4; clear hg4 hown4 hgb))
                        go_roundw
                        case rel =>
                          have e1 : hids (q.take (n + 1)) = M := by rw [HHS.out, HM.out]; rfl
                          refine ⟨n + 1, .slice (some ⟨g4, 0, none⟩) ((blindL q regs ws n).length + 1) cap4, by omega, by go_num, by rw [e1], Lib.hid ?_⟩
                          refine BR.push HB6.out HX.out (below1 w5 _) HG4.out (k := 1) (by rw [HO1.out]; rfl) ?_
                          rw [HO1.out, HV1.out]
                          exact HO4.out
                        case measure => simp [intOf]; omega
                    · have hF : shF o = false := by simp only [shT, shF, Bool.or_eq_true, beq_iff_eq, Bool.and_eq_true, decide_eq_true_eq, Bool.and_eq_false_iff, decide_eq_false_iff_not] at hT ⊢; omega
                      have HV1 := Lib.hid (show movedB q ⟨o, d, a, b2, k, t, f⟩ = ⟨o, d, a, b2, k, t, f⟩ by simp [movedB, hT, hF])
                      simp only [shT, Bool.or_eq_true, beq_iff_eq, Bool.and_eq_true, decide_eq_true_eq] at hT
                      have e0 := hI2.1
                      simp only [Nat.zero_add] at e0
                      by_cases h14 : 14 ≤ o
                      · have g1 : decide (14 ≤ o) = true := by simpa using h14
                        have g2 : decide (o ≤ 18) = false := by simp; omega
                        have g3 : decide (15 ≤ o) = true := by simp; omega
                        clear hT hF h14
                        go_upto_region 37 with (fail)
                        have HB6 := Lib.hid (HBL.out.keep hk2)
                        obtain ⟨k0, k1, k2, k3, k4, k5, k6⟩ := hI2
                        simp only [Nat.zero_add] at k0 k1 k2 k3 k4 k5 k6
                        have s1 := HB6.out.p1
                        have s2 := HB6.out.f1
                        have hp1 : W1.heap.size < w2.heap.size := by omega
                        have tok : True := trivial
                        go_wp2_with (at_builtin; have _t := tok; clear tok; go_must (refine wpList_app rfl (.tmp 155) (.tmp 157) 23 rfl (W1.heap.size + 1) 34 i0 _ 7 56 Try.underlying23 HI.out.1 HI.out.2.1 HI.out.2.2.1 HI.out.2.2.2 rfl (by decide) vOut (blindL q regs ws n).length (cellsR (blindL q regs ws n)) rfl (HB6.out.own.alloc _) (some ⟨w2.heap.size, 0, none⟩) (w2.heap.size + 1) 1 1 (R7.cells ⟨o, d, a, b2, k, t, f⟩) rfl (fun h => by cases h) (reads_new w2 _ _ 7 1 (R7.cells ⟨o, d, a, b2, k, t, f⟩) rfl rfl) (R7_one _) (by simp only [maxLen]; omega) (by omega) (by simp; omega) ?_; intro v' w7 hown4 hg4 _; obtain ⟨g4, cap4, hv4, -, -⟩ := hown4.form (by omega); subst hv4; have hgb := hg4.block W1.heap.size (by simp; omega) (fun e => by have := (HB6.out.own.lt _ e.symm).1; omega); have s4 : w7.cell? ⟨W1.heap.size, 1, none⟩ = some vOut := (World.cell?_of_block (a := ⟨W1.heap.size, 1, none⟩) hgb).trans ((World.cell?_alloc_lt w2 _ ⟨W1.heap.size, 1, none⟩ hp1).trans s1); have s5 : w7.frozen? ⟨W1.heap.size, 1, none⟩ = false := (World.frozen?_of_block (a := ⟨W1.heap.size, 1, none⟩) hgb).trans (((below1 w2 _).frozen (p := ⟨W1.heap.size, 1, none⟩) hp1).trans s2); have HG4 := Lib.hid hg4; have HO4 := Lib.hid hown4; clear hg4 hown4 hgb))
                        go_roundw
                        case rel =>
                          have e1 : hids (q.take (n + 1)) = M := by rw [HHS.out, HM.out]; rfl
                          refine ⟨n + 1, .slice (some ⟨g4, 0, none⟩) ((blindL q regs ws n).length + 1) cap4, by omega, by go_num, by rw [e1], Lib.hid ?_⟩
                          refine BR.push HB6.out HX.out (below1 w2 _) HG4.out (k := 1) (by rw [HO1.out]; rfl) ?_
                          rw [HO1.out, HV1.out]
                          exact HO4.out
                        case measure => simp [intOf]; omega
                      · have g1 : decide (14 ≤ o) = false := by simpa using h14
                        have g3 : decide (15 ≤ o) = false := by simp; omega
                        clear hT hF h14
                        go_upto_region 37 with (fail)
                        have HB6 := Lib.hid (HBL.out.keep hk2)
                        obtain ⟨k0, k1, k2, k3, k4, k5, k6⟩ := hI2
                        simp only [Nat.zero_add] at k0 k1 k2 k3 k4 k5 k6
                        have s1 := HB6.out.p1
                        have s2 := HB6.out.f1
                        have hp1 : W1.heap.size < w2.heap.size := by omega
                        have tok : True := trivial
                        go_wp2_with (at_builtin; have _t := tok; clear tok; go_must (refine wpList_app rfl (.tmp 155) (.tmp 157) 23 rfl (W1.heap.size + 1) 34 i0 _ 7 56 Try.underlying23 HI.out.1 HI.out.2.1 HI.out.2.2.1 HI.out.2.2.2 rfl (by decide) vOut (blindL q regs ws n).length (cellsR (blindL q regs ws n)) rfl (HB6.out.own.alloc _) (some ⟨w2.heap.size, 0, none⟩) (w2.heap.size + 1) 1 1 (R7.cells ⟨o, d, a, b2, k, t, f⟩) rfl (fun h => by cases h) (reads_new w2 _ _ 7 1 (R7.cells ⟨o, d, a, b2, k, t, f⟩) rfl rfl) (R7_one _) (by simp only [maxLen]; omega) (by omega) (by simp; omega) ?_; intro v' w7 hown4 hg4 _; obtain ⟨g4, cap4, hv4, -, -⟩ := hown4.form (by omega); subst hv4; have hgb := hg4.block W1.heap.size (by simp; omega) (fun e => by have := (HB6.out.own.lt _ e.symm).1; omega); have s4 : w7.cell? ⟨W1.heap.size, 1, none⟩ = some vOut := (World.cell?_of_block (a := ⟨W1.heap.size, 1, none⟩) hgb).trans ((World.cell?_alloc_lt w2 _ ⟨W1.heap.size, 1, none⟩ hp1).trans s1); have s5 : w7.frozen? ⟨W1.heap.size, 1, none⟩ = false := (World.frozen?_of_block (a := ⟨W1.heap.size, 1, none⟩) hgb).trans (((below1 w2 _).frozen (p := ⟨W1.heap.size, 1, none⟩) hp1).trans s2); have HG4 := Lib.hid hg4; have HO4 := Lib.hid hown4; clear hg4 hown4 hgb))
                        go_roundw
                        case rel =>
                          have e1 : hids (q.take (n + 1)) = M := by rw [HHS.out, HM.out]; rfl
                          refine ⟨n + 1, .slice (some ⟨g4, 0, none⟩) ((blindL q regs ws n).length + 1) cap4, by omega, by go_num, by rw [e1], Lib.hid ?_⟩
                          refine BR.push HB6.out HX.out (below1 w2 _) HG4.out (k := 1) (by rw [HO1.out]; rfl) ?_
                          rw [HO1.out, HV1.out]
                          exact HO4.out
                        case measure => simp [intOf]; omega
                  | true =>
                    have HHM : Hid (hids (q.take (n + 1)) = M + 1) := Lib.hid (by rw [HHS.out, HM.out]; rfl)
                    have hwB : wordB q ws n = getN ws M := by unfold wordB; rw [HM.out]
                    obtain ⟨u, hu⟩ : ∃ u, u = wordB q ws n := ⟨_, rfl⟩
                    have HO1 := Lib.hid (show blindOne q regs ws n ⟨o, d, a, b2, k, t, f⟩ = [⟨1, d, 0, 0, bits .xor .u32 k u, 0, 0⟩, ⟨1, regs, 0, 0, u, 0, 0⟩, ⟨10, d, d, regs, 0, 0, 0⟩] by unfold blindOne; rw [if_pos HB.out.symm, ← hu]; rfl)
                    rw [hwB] at hu
                    have HU := Lib.hid hu
                    clear hu hwB
                    obtain ⟨i0', i1, i2', i3, i4, i5, i6⟩ := hI2
                    simp only [Nat.zero_add] at i0' i1 i2' i3 i4 i5 i6
                    have s1 := HBL2.out.p1
                    have s2 := HBL2.out.f1
                    have s3 := HBL2.out.bs.1
                    have hp1 : W1.heap.size < w2.heap.size := by omega
                    clear i0' i2' i3 i5 i6
                    by_cases hMw : M < ws.length
                    · obtain ⟨bw, ow, hew, -, hcw2⟩ := (HRW.out.up (hBw.trans (below_of hk2 (by have := HBL.out.bs.2.2.2.2.2.2.2; omega)))).num (i := M) (x := u) (by rw [HU.out]; unfold getN; rw [List.getD_eq_getElem?_getD, List.getElem?_eq_getElem hMw]; rfl)
                      subst hew
                      have hMi : (M : Int) < ws.length := by omega
                      clear HU
                      have tok : True := trivial
                      go_wp2_with (at_builtin; have _t := tok; clear tok; go_must (refine wpList_app rfl (.tmp 104) (.tmp 123) 23 rfl (W1.heap.size + 1) 34 i0 _ 7 56 Try.underlying23 HI.out.1 HI.out.2.1 HI.out.2.2.1 HI.out.2.2.2 rfl (by decide) vOut (blindL q regs ws n).length (cellsR (blindL q regs ws n)) rfl (HBL2.out.own.alloc _) (some ⟨w2.heap.size, 0, none⟩) (w2.heap.size + 1) 3 3 (cellsR [⟨1, d, 0, 0, bits .xor .u32 k u, 0, 0⟩, ⟨1, regs, 0, 0, u, 0, 0⟩, ⟨10, d, d, regs, 0, 0, 0⟩]) rfl (fun h => by cases h) (reads_new w2 _ _ 7 3 (cellsR [⟨1, d, 0, 0, bits .xor .u32 k u, 0, 0⟩, ⟨1, regs, 0, 0, u, 0, 0⟩, ⟨10, d, d, regs, 0, 0, 0⟩]) rfl rfl) (cellsR_one _) (by simp only [maxLen]; omega) (by omega) (by simp; omega) ?_; intro v' w7 hown4 hg4 _; obtain ⟨g4, cap4, hv4, -, -⟩ := hown4.form (by omega); subst hv4; have hgb := hg4.block W1.heap.size (by simp; omega) (fun e => by have := (HBL2.out.own.lt _ e.symm).1; omega); have s4 : w7.cell? ⟨W1.heap.size, 1, none⟩ = some vOut := (World.cell?_of_block (a := ⟨W1.heap.size, 1, none⟩) hgb).trans ((World.cell?_alloc_lt w2 _ ⟨W1.heap.size, 1, none⟩ hp1).trans s1); have s5 : w7.frozen? ⟨W1.heap.size, 1, none⟩ = false := (World.frozen?_of_block (a := ⟨W1.heap.size, 1, none⟩) hgb).trans (((below1 w2 _).frozen (p := ⟨W1.heap.size, 1, none⟩) hp1).trans s2); have HG4 := Lib.hid hg4; have HO4 := Lib.hid hown4; clear hg4 hown4 hgb))
                      go_roundw
                      case rel =>
                        refine ⟨n + 1, .slice (some ⟨g4, 0, none⟩) ((blindL q regs ws n).length + 3) cap4, by omega, by go_num, by rw [HHM.out]; go_num, Lib.hid ?_⟩
                        refine BR.push HBL2.out HX.out (below1 w2 _) HG4.out (k := 3) (by rw [HO1.out]; rfl) ?_
                        rw [HO1.out]
                        exact HO4.out
                      case measure => simp [intOf]; omega
                    · have hu0 : u = 0 := by rw [HU.out]; unfold getN; rw [List.getD_eq_getElem?_getD, List.getElem?_eq_none (by omega)]; rfl
                      have hMi : ¬ (M : Int) < ws.length := by omega
                      subst hu0
                      have tok : True := trivial
                      go_wp2_with (at_builtin; have _t := tok; clear tok; go_must (refine wpList_app rfl (.tmp 104) (.tmp 123) 23 rfl (W1.heap.size + 1) 34 i0 _ 7 56 Try.underlying23 HI.out.1 HI.out.2.1 HI.out.2.2.1 HI.out.2.2.2 rfl (by decide) vOut (blindL q regs ws n).length (cellsR (blindL q regs ws n)) rfl (HBL2.out.own.alloc _) (some ⟨w2.heap.size, 0, none⟩) (w2.heap.size + 1) 3 3 (cellsR [⟨1, d, 0, 0, bits .xor .u32 k 0, 0, 0⟩, ⟨1, regs, 0, 0, 0, 0, 0⟩, ⟨10, d, d, regs, 0, 0, 0⟩]) rfl (fun h => by cases h) (reads_new w2 _ _ 7 3 (cellsR [⟨1, d, 0, 0, bits .xor .u32 k 0, 0, 0⟩, ⟨1, regs, 0, 0, 0, 0, 0⟩, ⟨10, d, d, regs, 0, 0, 0⟩]) rfl rfl) (cellsR_one _) (by simp only [maxLen]; omega) (by omega) (by simp; omega) ?_; intro v' w7 hown4 hg4 _; obtain ⟨g4, cap4, hv4, -, -⟩ := hown4.form (by omega); subst hv4; have hgb := hg4.block W1.heap.size (by simp; omega) (fun e => by have := (HBL2.out.own.lt _ e.symm).1; omega); have s4 : w7.cell? ⟨W1.heap.size, 1, none⟩ = some vOut := (World.cell?_of_block (a := ⟨W1.heap.size, 1, none⟩) hgb).trans ((World.cell?_alloc_lt w2 _ ⟨W1.heap.size, 1, none⟩ hp1).trans s1); have s5 : w7.frozen? ⟨W1.heap.size, 1, none⟩ = false := (World.frozen?_of_block (a := ⟨W1.heap.size, 1, none⟩) hgb).trans (((below1 w2 _).frozen (p := ⟨W1.heap.size, 1, none⟩) hp1).trans s2); have HG4 := Lib.hid hg4; have HO4 := Lib.hid hown4; clear hg4 hown4 hgb))
                      go_roundw
                      case rel =>
                        refine ⟨n + 1, .slice (some ⟨g4, 0, none⟩) ((blindL q regs ws n).length + 3) cap4, by omega, by go_num, by rw [HHM.out]; go_num, Lib.hid ?_⟩
                        refine BR.push HBL2.out HX.out (below1 w2 _) HG4.out (k := 3) (by rw [HO1.out]; rfl) ?_
                        rw [HO1.out]
                        exact HO4.out
                      case measure => simp [intOf]; omega
                · obtain rfl : n = q.length := by omega
                  obtain ⟨s1, s2, s3, s4, s5, s6, s7', s8'⟩ := HBL.out.bs
                  have p0 := HBL.out.p0
                  have p1 := HBL.out.p1
                  have hlen : 0 < (blindL q regs ws q.length).length := by rw [blindL_length q regs ws _ (Nat.le_refl _)]; unfold placeB; omega
                  obtain ⟨g5, cap5, hv5, -, -⟩ := HBL.out.own.form hlen
                  subst hv5
                  obtain ⟨r0, r1⟩ := set2 s3 s4 (.int .i64 (regs + 1)) (.slice (some ⟨g5, 0, none⟩) (blindL q regs ws q.length).length cap5)
                  have ho := own_lower (own_set (own_set HBL.out.own (w.heap.size + 1) 0 (.int .i64 (regs + 1)) (by omega)) (w.heap.size + 1) 1 (.slice (some ⟨g5, 0, none⟩) (blindL q regs ws q.length).length cap5) (by omega)) (show w.heap.size ≤ W1.heap.size + 1 by omega)
                  have HOO := Lib.hid ho
                  clear ho hlen
                  go_wp2
                  refine bodyPost_ret (v := .tuple #[.agg #[.int .i64 (regs + 1), .slice (some ⟨g5, 0, none⟩) (blindL q regs ws q.length).length cap5], .int .i64 0]) (by simp [results, Try.results20, go_sem, r0, r1]) rfl (blindPost_of HV.out HOO.out (set2_below s7' (by omega) _ _))
  · have HC := Lib.hid (show countP regs q = (0, 1) by unfold countP; rw [if_pos (by simpa using hz)])
    have HV := Lib.hid (show blindP regs q ws = (0, [], 1) by unfold blindP; rw [if_pos (by simpa using hz)])
    clear hz
    go_enter Try.func20, Try.ntmps20
    go_wp2_with fail
    obtain ⟨W0, hW0⟩ : ∃ W0, W0 = (w.alloc (.cells #[.int .i64 regs, .slice A q.length cap] 25)).alloc (.cells #[.int .i64 0, .slice none 0 0] 25) := ⟨_, rfl⟩
    have hS0 : BS w regs A q.length cap W0 := by rw [hW0]; exact BS.start ..
    rw [← hW0]
    clear hW0
    refine (rCount_c A regs cap q HQ.out (by omega) _ (HR.out.up hS0.2.2.2.2.2.2.1)).mono ?_
    rintro e w1 ⟨rfl, hb1⟩
    rw [HC.out]
    obtain ⟨s1, s2, s3, s4, s5, s6, s7, s8⟩ := hS0.up hb1
    clear hS0 hb1
    dsimp only
    go_wp2
    obtain ⟨r0, r1⟩ := set2 s3 s4 (.int .i64 0) (.slice none 0 0)
    refine bodyPost_ret (v := .tuple #[.agg #[.int .i64 0, .slice none 0 0], .int .i64 1]) (by simp [results, Try.results20, go_sem, r0, r1]) rfl (blindPost_of HV.out (nil_own _ _) (set2_below s7 (by omega) _ _))
end Go.Proofs.Ytalhjbncloobpaa
