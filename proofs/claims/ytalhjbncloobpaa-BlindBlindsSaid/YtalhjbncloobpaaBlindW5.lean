import Derived.Test.YtalhjbncloobpaaBlindW4
import Derived.Deep.RegionLaw
set_option linter.unusedVariables false
set_option linter.unusedSimpArgs false
namespace Go.Proofs.Ytalhjbncloobpaa
open Go.RowKit
/-! blind.Blind: the walk. -/
set_option maxRecDepth 100000 in
set_option maxHeartbeats 3200000 in
theorem Blind_c (A : Option Addr) (regs : Int) (cap : Nat) (q : List R7) (Aw : Option Addr) (capw : Nat) (ws : List Int) (hq : ∀ x ∈ q, x.ok) (hA : A = none → cap = 0) (hc : q.length ≤ cap) (hB : q.length * 56 ≤ 140737488351232) (hcw : ws.length ≤ capw) (hBw : ws.length * 4 ≤ 140737488351232) (w : World)
    (hr : Reads w w.heap.size 7 A q.length (cellsR q)) (hrw : Reads w w.heap.size 1 Aw ws.length (numV .u32 ws)) :
    Calls Try.prog 16 #[.agg #[.int .i64 regs, .slice A q.length cap], .slice Aw ws.length capw] w (BlindPost w regs q ws) := by
  have HR := Lib.hid hr
  have HRW := Lib.hid hrw
  have HQ := Lib.hid hq
  have HA := Lib.hid hA
  clear hr hrw hq hA
  obtain ⟨i0, HI⟩ : ∃ i0, Hid (Try.prog.info? 34 = some i0 ∧ i0.zero = some (.agg #[.int .i64 0, .int .i64 0, .int .i64 0, .int .i64 0, .int .u32 0, .int .i64 0, .int .i64 0]) ∧ i0.size = 7 ∧ i0.bytes = 56) := by
    obtain ⟨i0, hi, hz0, hz1, hz2⟩ := info_parts infoR
    exact ⟨i0, Lib.hid ⟨hi, hz0, hz1, hz2⟩⟩
  obtain ⟨i2, HI2⟩ : ∃ i0, Hid (Try.prog.info? 3 = some i0 ∧ i0.zero = some (.int .i64 0) ∧ i0.size = 1 ∧ i0.bytes = 8) := by
    obtain ⟨i0, hi, hz0, hz1, hz2⟩ := info_parts (show (Try.prog.info? 3).map (fun i => (i.zero, i.size, i.bytes)) = some (some (.int .i64 0), 1, 8) by kernel_rfl)
    exact ⟨i0, Lib.hid ⟨hi, hz0, hz1, hz2⟩⟩
  by_cases hz : (mcheckP regs q).1 = 0
  · obtain ⟨z1, z2, z3, z4, -, -⟩ := mcheckP_zero hz
    obtain ⟨H, hH⟩ : ∃ H, H = hids q := ⟨_, rfl⟩
    have HC := Lib.hid (show countP regs q = ((H : Int), 0) by unfold countP; rw [if_neg (by simpa using hz), hH])
    have hHle : H ≤ q.length := by rw [hH]; exact List.countP_le_length
    have HZ := Lib.hid hz
    have HH := Lib.hid hH
    by_cases h0 : H = 0
    · subst h0
      have HV := Lib.hid (show blindP regs q ws = (regs, q, 0) by unfold blindP; rw [if_neg (by simpa using hz), if_pos hH.symm])
      clear hz hH hHle
      go_enter Try.func16, Try.ntmps16
      go_wp2_with fail
      obtain ⟨W0, hW0⟩ : ∃ W0, W0 = (w.alloc (.cells #[.int .i64 regs, .slice A q.length cap] 25)).alloc (.cells #[.int .i64 0, .slice none 0 0] 25) := ⟨_, rfl⟩
      have hS0 : BS w regs A q.length cap W0 := by rw [hW0]; exact BS.start ..
      rw [← hW0]
      clear hW0
      refine (Count_c A regs cap q HQ.out (by omega) _ (HR.out.up hS0.2.2.2.2.2.2.1)).mono ?_
      rintro e w1 ⟨rfl, hb1⟩
      rw [HC.out]
      have HS := Lib.hid (SL.of_bs (hS0.up hb1))
      obtain ⟨s1, s2, s3, s4, s5, s6, s7, s8⟩ := hS0.up hb1
      clear hS0 hb1
      dsimp only
      go_wp2_with fail
      clear s1 s2 s3 s4 s5 s6
      go_region_held3 (fun W => W.cell? ⟨w.heap.size, 0, none⟩ = some (.int .i64 regs) ∧ W.cell? ⟨w.heap.size, 1, none⟩ = some (.slice A q.length cap) ∧ W.cell? ⟨w.heap.size + 1, 0, none⟩ = some (cellD W ⟨w.heap.size + 1, 0, none⟩) ∧ W.cell? ⟨w.heap.size + 1, 1, none⟩ = some (cellD W ⟨w.heap.size + 1, 1, none⟩) ∧
        W.frozen? ⟨w.heap.size + 1, 0, none⟩ = false ∧ W.frozen? ⟨w.heap.size + 1, 1, none⟩ = false ∧ Below w.heap.size w W ∧ w.heap.size + 2 ≤ W.heap.size)
        (first | exact SL.c ((hs3.set _ _).set _ _) | exact SL.c (HS.out.dr) | exact SL.c hs3 | assumption)
        (first | (go_at_call 47; go_must (refine (CloneR_c A cap q HA.out hc hB _ (HR.out.up (below_dr s7))).mono ?_; rintro e w3 ⟨v, rfl, hown3, hb3⟩; have hs3 : SL w regs A q.length cap w3 := SL.on (HS.out.dr) (below_of hb3 s8); have HO := Lib.hid (own_lower hown3 s8); obtain ⟨g1, cap1, hv, -, -⟩ := hown3.form z3; subst hv; clear hown3)))
      all_goals (
        rename_i hHeld
        clear hHeld
        obtain ⟨W3, hW3⟩ : ∃ W3, W3 = (w3.setCell ⟨w.heap.size + 1, 0, none⟩ (.int .i64 regs)).setCell ⟨w.heap.size + 1, 1, none⟩ (.slice (some ⟨g1, 0, none⟩) q.length cap1) := ⟨_, rfl⟩
        have hst := set2 (cellD_of hs3.2.2.1) (cellD_of hs3.2.2.2.1) (.int .i64 regs) (.slice (some ⟨g1, 0, none⟩) q.length cap1)
        have b3 : Below w.heap.size w W3 := by rw [hW3]; exact set2_below hs3.2.2.2.2.2.2.1 (by omega) _ _
        have o3 : W3.ownsRow w.heap.size 34 7 (.slice (some ⟨g1, 0, none⟩) q.length cap1) q.length (cellsR q) := by
          rw [hW3]
          exact own_lower (own_set (own_set HO.out _ _ _ (by omega)) _ _ _ (by omega)) (by omega)
        rw [← hW3] at hst
        rw [← hW3]
        obtain ⟨r0, r1⟩ := hst
        go_wp2
        refine bodyPost_ret (v := .tuple #[.agg #[.int .i64 regs, .slice (some ⟨g1, 0, none⟩) q.length cap1], .int .i64 0]) (by simp [results, Try.results16, go_sem, r0, r1]) rfl (blindPost_of HV.out o3 b3))
    · have t0 : ((H : Int) == 0) = false := by simpa using h0
      by_cases h64 : regs = 64
      · have HV := Lib.hid (show blindP regs q ws = (0, [], 211) by unfold blindP; rw [if_neg (by simpa using hz), if_neg (by rw [← hH]; exact h0), if_pos h64])
        have t1 : (regs == 64) = true := by simpa using h64
        clear hz hH h0 h64
        go_enter Try.func16, Try.ntmps16
        go_wp2_with fail
        obtain ⟨W0, hW0⟩ : ∃ W0, W0 = (w.alloc (.cells #[.int .i64 regs, .slice A q.length cap] 25)).alloc (.cells #[.int .i64 0, .slice none 0 0] 25) := ⟨_, rfl⟩
        have hS0 : BS w regs A q.length cap W0 := by rw [hW0]; exact BS.start ..
        rw [← hW0]
        clear hW0
        refine (Count_c A regs cap q HQ.out (by omega) _ (HR.out.up hS0.2.2.2.2.2.2.1)).mono ?_
        rintro e w1 ⟨rfl, hb1⟩
        rw [HC.out]
        obtain ⟨s1, s2, s3, s4, s5, s6, s7, s8⟩ := hS0.up hb1
        clear hS0 hb1
        dsimp only
        go_wp2
        obtain ⟨r0, r1⟩ := set2 s3 s4 (.int .i64 0) (.slice none 0 0)
        refine bodyPost_ret (v := .tuple #[.agg #[.int .i64 0, .slice none 0 0], .int .i64 211]) (by simp [results, Try.results16, go_sem, r0, r1]) rfl (blindPost_of HV.out (nil_own _ _) (set2_below s7 (by omega) _ _))
      · have t1 : (regs == 64) = false := by simpa using h64
        have hw2 : IntKind.i64.wrap (2 * (H : Int)) = 2 * (H : Int) := by rw [IntKind.wrap_i64]; omega
        have hw3 : IntKind.i64.wrap ((q.length : Int) + 2 * (H : Int)) = (q.length : Int) + 2 * (H : Int) := by rw [IntKind.wrap_i64]; omega
        by_cases hm : 65536 < q.length + 2 * H
        · have HV := Lib.hid (show blindP regs q ws = (0, [], 2) by unfold blindP; rw [if_neg (by simpa using hz), if_neg (by rw [← hH]; exact h0), if_neg h64, if_pos (by rw [← hH]; exact hm)])
          have t2 : decide (65536 < (q.length : Int) + 2 * (H : Int)) = true := by simp; omega
          clear hz hH h0 h64 hm
          go_enter Try.func16, Try.ntmps16
          go_wp2_with fail
          obtain ⟨W0, hW0⟩ : ∃ W0, W0 = (w.alloc (.cells #[.int .i64 regs, .slice A q.length cap] 25)).alloc (.cells #[.int .i64 0, .slice none 0 0] 25) := ⟨_, rfl⟩
          have hS0 : BS w regs A q.length cap W0 := by rw [hW0]; exact BS.start ..
          rw [← hW0]
          clear hW0
          refine (Count_c A regs cap q HQ.out (by omega) _ (HR.out.up hS0.2.2.2.2.2.2.1)).mono ?_
          rintro e w1 ⟨rfl, hb1⟩
          rw [HC.out]
          obtain ⟨s1, s2, s3, s4, s5, s6, s7, s8⟩ := hS0.up hb1
          clear hS0 hb1
          dsimp only
          go_wp2
          obtain ⟨r0, r1⟩ := set2 s3 s4 (.int .i64 0) (.slice none 0 0)
          refine bodyPost_ret (v := .tuple #[.agg #[.int .i64 0, .slice none 0 0], .int .i64 2]) (by simp [results, Try.results16, go_sem, r0, r1]) rfl (blindPost_of HV.out (nil_own _ _) (set2_below s7 (by omega) _ _))
        · have HV := Lib.hid (show blindP regs q ws = (regs + 1, blindQ q regs ws, 0) by unfold blindP; rw [if_neg (by simpa using hz), if_neg (by rw [← hH]; exact h0), if_neg h64, if_neg (by rw [← hH]; exact hm)])
          have t2 : decide (65536 < (q.length : Int) + 2 * (H : Int)) = false := by simp; omega
          have hr1 : IntKind.i64.wrap (regs + 1) = regs + 1 := by rw [IntKind.wrap_i64]; omega
          clear hz hH h0 h64 hm
          go_enter Try.func16, Try.ntmps16
          go_wp2_with fail
          obtain ⟨W0, hW0⟩ : ∃ W0, W0 = (w.alloc (.cells #[.int .i64 regs, .slice A q.length cap] 25)).alloc (.cells #[.int .i64 0, .slice none 0 0] 25) := ⟨_, rfl⟩
          have hS0 : BS w regs A q.length cap W0 := by rw [hW0]; exact BS.start ..
          rw [← hW0]
          clear hW0
          refine (Count_c A regs cap q HQ.out (by omega) _ (HR.out.up hS0.2.2.2.2.2.2.1)).mono ?_
          rintro e w1 ⟨rfl, hb1⟩
          rw [HC.out]
          obtain ⟨s1, s2, s3, s4, s5, s6, s7, s8⟩ := hS0.up hb1
          clear hS0 hb1
          dsimp only
          have HS1 : Hid (BS w regs A q.length cap w1) := Lib.hid ⟨s1, s2, s3, s4, s5, s6, s7, s8⟩
          have hql : (q.length : Int) ≤ 65536 := by omega
          go_wp2_with fail
          clear s1 s2 s3 s4 s5 s6 t0 t1 t2 hw2 hw3
          go_loopw [8, 9, 54] (fun v p i wr => ∃ n P : Nat, n ≤ q.length ∧ i = .int .i64 n ∧ Hid (P = placeB q n) ∧ p = .int .i64 P ∧ P ≤ 3 * n ∧ Hid (BS w regs A q.length cap wr) ∧ Hid (wr.ownsRow (w.heap.size + 2) 3 1 v n (numV .i64 (placesL q n)))) (fun _ _ i _ => q.length - (intOf i).toNat)
          case atStart => exact ⟨0, 0, by omega, rfl, Lib.hid (by simp [placeB, hids]), rfl, by omega, HS1, Lib.hid (by simpa [placesL, numV] using World.ownsRow_nil _ _ _ _)⟩
          case round =>
            obtain ⟨n, P, hn6, rfl, HP, rfl, hP3, HSr, HOr⟩ := hrel
            by_cases h6 : n < q.length
            · obtain ⟨x, hx⟩ : ∃ x, q[n]? = some x := ⟨_, List.getElem?_eq_getElem h6⟩
              have hBw := HSr.out.2.2.2.2.2.2.1
              have hsz := HSr.out.2.2.2.2.2.2.2
              obtain ⟨b, off, he, hb, i0', i1, i2', i3, i4, i5, i6⟩ := (HR.out.up hBw).ir hx
              subst he
              have hlt1 : (n : Int) < q.length := by omega
              have HXO := Lib.hid (HQ.out x (List.mem_of_getElem? hx))
              have HX := Lib.hid hx
              clear hx
              have HOW := Lib.hid (fun X Y => (HOr.out.alloc X).alloc Y)
              have tok : True := trivial
              obtain ⟨o, d, a, b2, k, t, f⟩ := x
              dsimp only at *
              go_wp2_with (at_builtin; have _t := tok; clear tok; go_must (refine wpList_app rfl (.tmp 58) (.tmp 60) 71 rfl (w.heap.size + 2) 3 i2 _ 1 8 Try.underlying71 HI2.out.1 HI2.out.2.1 HI2.out.2.2.1 HI2.out.2.2.2 rfl (by decide) _ n (numV .i64 (placesL q n)) rfl (HOW.out _ _) (some ⟨wr.heap.size + 1, 0, none⟩) (wr.heap.size + 2) 1 1 (numV .i64 [(P : Int)]) rfl (fun h => by cases h) (rn1 wr _ _ _ 1 1 (numV .i64 [(P : Int)]) rfl rfl) (numV_one .i64 [(P : Int)]) (by simp only [maxLen]; omega) (by omega) (by simp; omega) ?_; intro v' w3 hown' hgrow _; have hb3 : Below (w.heap.size + 2) wr w3 := below_gr (((Below.refl _ _).alloc hsz _).alloc (by simp; omega) _) hgrow (by simp; omega) (fun j hj => own_ge HOr.out j hj); have HK3 := Lib.hid (box_keep hgrow (fun e => by have := (HOr.out.lt _ e).2; omega)); have HO := Lib.hid hown'; have j0 := HK3.out 0; have j1 := HK3.out 1; have j2 := HK3.out 2; have j3 := HK3.out 3; have j4 := HK3.out 4; have j5 := HK3.out 5; have j6 := HK3.out 6; clear hown' hgrow))
              have j0 : w3.cell? ⟨wr.heap.size, 0, none⟩ = some (.int .i64 o) := j0
              refine (hidden_c ⟨o, d, a, b2, k, t, f⟩ HXO.out w3).mono ?_
              rintro e w4 ⟨rfl, hb4⟩
              have HS4 := Lib.hid (HSr.out.on (hb3.trans (below_of hb4 (Nat.le_trans hsz hb3.size))))
              have HO4 := Lib.hid (show w4.ownsRow (w.heap.size + 2) 3 1 v' (n + 1) (numV .i64 (placesL q (n + 1))) by
                have h := own_up HO.out hb4
                rw [placesL_succ, ← HP.out, show numV .i64 (placesL q n ++ [(P : Int)]) = numV .i64 (placesL q n) ++ numV .i64 [(P : Int)] by simp [numV]]
                exact h)
              obtain ⟨B, hBB⟩ : ∃ B, B = hidB ⟨o, d, a, b2, k, t, f⟩ := ⟨_, rfl⟩
              have HPS := Lib.hid (show placeB q (n + 1) = P + (if B = true then 3 else 1) by rw [placeB_succ HX.out, ← HP.out, hBB])
              rw [← hBB]
              clear hBB j0 j1 j2 j3 j4 j5 j6 i0' i1 i2' i3 i4 i5 i6 hb4
              cases B with
              | true =>
                go_wp2
                go_roundw
                case rel => exact ⟨n + 1, P + 3, by omega, by go_num, Lib.hid (by rw [HPS.out]; rfl), by go_num, by omega, HS4, HO4⟩
                case measure => simp [intOf]; omega
              | false =>
                go_wp2
                go_roundw
                case rel => exact ⟨n + 1, P + 1, by omega, by go_num, Lib.hid (by rw [HPS.out]; rfl), by go_num, by omega, HS4, HO4⟩
                case measure => simp [intOf]; omega
            · obtain rfl : n = q.length := by omega
              obtain ⟨g, cap2, hv, -, -⟩ := HOr.out.form z3
              subst hv
              have HAT := Lib.hid (Reads.of_own HOr.out)
              obtain ⟨W1, rfl⟩ : ∃ W1, W1 = wr := ⟨_, rfl⟩
              obtain ⟨s1, s2, s3, s4, s5, s6, s7', s8'⟩ := HSr.out
              go_wp2_with fail
              refine (drawer_c Aw ws.length capw W1).mono ?_
              rintro e w4 ⟨rfl, rfl⟩
              have hl0 : w.heap.size < W1.heap.size := by omega
              have hl1 : w.heap.size + 1 < W1.heap.size := by omega
              have s1' := World.cell?_alloc_lt W1 (.cells #[.slice Aw ws.length capw] 31) ⟨w.heap.size, 0, none⟩ hl0
              have s2' := World.cell?_alloc_lt W1 (.cells #[.slice Aw ws.length capw] 31) ⟨w.heap.size, 1, none⟩ hl0
              rw [s1] at s1'
              rw [s2] at s2'
              go_wp2_with fail
              have HBL0 := Lib.hid (BL.start (ws := ws) 31 25 HSr.out hcw (HRW.out.up s7'))
              clear s1 s2 s3 s4 s5 s6 h6 hP3 HOr HS1 hn6 HP
              have HW1 := Lib.hid s7'
              clear s1' s2' s7' s8'
              go_loopw [80] (fun i wr => ∃ (n : Nat) (vOut : Value), n ≤ q.length ∧ i = .int .i64 n ∧ Hid (BL w W1 regs A cap q ws W1.heap.size n (hids (q.take n)) vOut wr)) (fun i _ => q.length - (intOf i).toNat)
              case atStart => exact ⟨0, _, by omega, rfl, HBL0⟩
              case round =>
                obtain ⟨n, vOut, hn6, rfl, HBL⟩ := hrel
                clear HBL0
                by_cases h6 : n < q.length
                · obtain ⟨x, hx⟩ : ∃ x, q[n]? = some x := ⟨_, List.getElem?_eq_getElem h6⟩
                  have hBw := HBL.out.bs.2.2.2.2.2.2.1
                  have hsz := HBL.out.size
                  obtain ⟨b, off, he, hb, i0', i1, i2', i3, i4, i5, i6⟩ := (HR.out.up hBw).ir hx
                  subst he
                  have hlt1 : (n : Int) < q.length := by omega
                  have HXO := Lib.hid (HQ.out x (List.mem_of_getElem? hx))
                  have HX := Lib.hid hx
                  have hf := fine_at HZ.out hx
                  have HT := Lib.hid (fun h => And.intro (show 0 ≤ x.t by have := (hf.2.2.2.2.2.2.1 h).1; omega) (hf.2.2.2.2.2.2.1 h).2)
                  have HF := Lib.hid (fun h => And.intro (show 0 ≤ x.f by have := (hf.2.2.2.2.2.2.2 h).1; omega) (hf.2.2.2.2.2.2.2 h).2)
                  have hlenL : (blindL q regs ws n).length ≤ 3 * n := by
                    rw [blindL_length q regs ws n (by omega)]
                    have := hids_le q n
                    unfold placeB; omega
                  clear hx hf
                  obtain ⟨o, d, a, b2, k, t, f⟩ := x
                  dsimp only at *
                  go_wp2_with fail
                  refine (hidden_c ⟨o, d, a, b2, k, t, f⟩ HXO.out _).mono ?_
                  rintro e w2 ⟨rfl, hb2⟩
                  have hI2 : IrAt w2 wr.heap.size 0 ⟨o, d, a, b2, k, t, f⟩ := IrAt.keep hb2 ⟨al_cell wr [_] 0 rfl 0, al_cell wr [_] 0 rfl 1, al_cell wr [_] 0 rfl 2, al_cell wr [_] 0 rfl 3, al_cell wr [_] 0 rfl 4, al_cell wr [_] 0 rfl 5, al_cell wr [_] 0 rfl 6⟩
                  have hk2 : Below wr.heap.size wr w2 := below_t (below1 wr _) hb2
                  have hs2 : wr.heap.size < w2.heap.size := by have := hb2.size; simp at this; omega
                  have HBL2 := Lib.hid (HBL.out.keep hk2)
                  obtain ⟨B, hBB⟩ : ∃ B, B = hidB ⟨o, d, a, b2, k, t, f⟩ := ⟨_, rfl⟩
                  have HHS := Lib.hid (hids_add HX.out hBB)
                  have HB := Lib.hid hBB
                  rw [← hBB]
                  clear hBB hb2 i0' i1 i2' i3 i4 i5 i6
                  cases B with
                  | false =>
                    have HO1 := Lib.hid (show blindOne q regs ws n ⟨o, d, a, b2, k, t, f⟩ = [movedB q ⟨o, d, a, b2, k, t, f⟩] by unfold blindOne; rw [if_neg (by rw [← HB.out]; decide)])
                    obtain ⟨⟨yo, yd, ya, yb, yk, yt, yf⟩, hy⟩ : ∃ y, y = movedB q ⟨o, d, a, b2, k, t, f⟩ := ⟨_, rfl⟩
                    have HY := Lib.hid hy
                    clear hy
                    have HS2 := Lib.hid (show S27 W1.heap.size wr.heap.size ⟨o, d, a, b2, k, t, f⟩ w2 from ⟨by rw [HBL2.out.p1]; rfl, HBL2.out.f1, hI2⟩)
                    obtain ⟨i0', i1, i2', i3, i4, i5, i6⟩ := hI2
                    simp only [Nat.zero_add] at i0' i1 i2' i3 i4 i5 i6
                    have s1 := HBL2.out.p1
                    have s2 := HBL2.out.f1
                    have hp1 : W1.heap.size + 1 < w2.heap.size := by omega
                    have HBS := Lib.hid HSr
                    go_wp2_with fail
                    go_region_law (first
                       | (go_simp; go_at_call 51; refine (moved_c q ⟨o, d, a, b2, k, t, f⟩ HT.out HF.out (some ⟨g, 0, none⟩) cap2 _ ((HAT.out.up (HBL2.out.one)).drew)).mono ?_; rintro e w3 ⟨rfl, hb3'⟩; rw [← HY.out]; have hb3 : Below w2.heap.size w2 w3 := below_t (below_dr (Below.refl _ _)) hb3'; clear hb3'; dsimp only; have s3 := (HBL2.out.keep hb3).p1; have hz3 : w2.heap.size ≤ w3.heap.size := hb3.size; have hp3 : W1.heap.size + 1 < w3.heap.size := (by omega))
                       | (refine step_app rfl (.tmp 88) (.tmp 92) 23 rfl (W1.heap.size + 2) 34 i0 _ 7 56 Try.underlying23 HI.out.1 HI.out.2.1 HI.out.2.2.1 HI.out.2.2.2 rfl (by decide) vOut (blindL q regs ws n).length (cellsR (blindL q regs ws n)) rfl ((own_up HBL2.out.own hb3).alloc _) (some ⟨w3.heap.size, 0, none⟩) (w3.heap.size + 1) 1 1 (R7.cells ⟨yo, yd, ya, yb, yk, yt, yf⟩) rfl (fun h => by cases h) (reads_new w3 _ _ 7 1 (R7.cells ⟨yo, yd, ya, yb, yk, yt, yf⟩) rfl rfl) (R7_one _) (by simp only [maxLen]; omega) (by omega) (by simp; omega) ?_; intro v' w4 hown4 hg4 _; obtain ⟨g4, cap4, hv4, -, -⟩ := hown4.form (by omega); subst hv4; have hs4 : S27 W1.heap.size wr.heap.size ⟨o, d, a, b2, k, t, f⟩ w4 := S27.grown (HS2.out.up (below_al hb3 _) (by omega)) hg4 (by simp; omega) (by simp; omega) (fun e => by have := (HBL.out.own.lt _ e).1; omega) (fun e => by have := (HBL.out.own.lt _ e).2; omega); have s4 := (S27.c hs4).1; have s5 := (S27.c hs4).2.1; have HG4 := Lib.hid hg4; have HO4 := Lib.hid hown4; clear hg4 hown4 hs4))
                    all_goals (
                      go_wp2
                      go_roundw
                      case rel =>
                        refine ⟨n + 1, .slice (some ⟨g4, 0, none⟩) ((blindL q regs ws n).length + 1) cap4, by omega, by go_num, Lib.hid ?_⟩
                        have e1 : hids (q.take (n + 1)) = hids (q.take n) := HHS.out
                        rw [e1]
                        refine BL.push HBL2.out HX.out (below_al hb3 _) HG4.out (k := 1) (by rw [HO1.out]; rfl) ?_
                        rw [HO1.out, ← HY.out]
                        exact HO4.out
                      case measure => simp [intOf]; omega)
                  | true =>
                    have HWK := Lib.hid (getN_drop ws (hids (q.take n)))
                    obtain ⟨u, hu⟩ : ∃ u, u = wordB q ws n := ⟨_, rfl⟩
                    have HO1 := Lib.hid (show blindOne q regs ws n ⟨o, d, a, b2, k, t, f⟩ = [⟨1, d, 0, 0, bits .xor .u32 k u, 0, 0⟩, ⟨1, regs, 0, 0, u, 0, 0⟩, ⟨10, d, d, regs, 0, 0, 0⟩] by unfold blindOne; rw [if_pos HB.out.symm, ← hu]; rfl)
                    have HU := Lib.hid hu
                    clear hu
                    go_wp2_with fail
                    refine (draw_c W1.heap.size W1.heap.size (ws.drop (hids (q.take n))) w2 (by simp; omega) HBL2.out.left).mono ?_
                    rintro e w3 ⟨rfl, hd3, hl3⟩
                    rw [HWK.out, show getN ws (hids (q.take n)) = u from HU.out.symm]
                    have HBL3 := Lib.hid (HBL2.out.drawn hd3 hl3)
                    have hsz3 := hd3.size
                    have hI3 : IrAt w3 wr.heap.size 0 ⟨o, d, a, b2, k, t, f⟩ := by
                      obtain ⟨k0, k1, k2, k3, k4, k5, k6⟩ := hI2
                      have e : ∀ j, w3.cell? ⟨wr.heap.size, j, none⟩ = w2.cell? ⟨wr.heap.size, j, none⟩ := fun j => hd3.cell _ _ (by omega)
                      exact ⟨(e _).trans k0, (e _).trans k1, (e _).trans k2, (e _).trans k3, (e _).trans k4, (e _).trans k5, (e _).trans k6⟩
                    obtain ⟨i0', i1, i2', i3, i4, i5, i6⟩ := hI3
                    simp only [Nat.zero_add] at i0' i1 i2' i3 i4 i5 i6
                    have s1 := HBL3.out.p1
                    have s2 := HBL3.out.f1
                    have s3 := HBL3.out.bs.1
                    have HSZ3 := Lib.hid hsz3
                    have hp1 : W1.heap.size + 1 < w3.heap.size := by omega
                    clear hI2 hd3 hl3 hsz3 i0' i2' i3 i5 i6
                    have tok : True := trivial
                    go_wp2_with (at_builtin; have _t := tok; clear tok; go_must (refine wpList_app rfl (.tmp 98) (.tmp 117) 23 rfl (W1.heap.size + 2) 34 i0 _ 7 56 Try.underlying23 HI.out.1 HI.out.2.1 HI.out.2.2.1 HI.out.2.2.2 rfl (by decide) vOut (blindL q regs ws n).length (cellsR (blindL q regs ws n)) rfl (HBL3.out.own.alloc _) (some ⟨w3.heap.size, 0, none⟩) (w3.heap.size + 1) 3 3 (cellsR [⟨1, d, 0, 0, bits .xor .u32 k u, 0, 0⟩, ⟨1, regs, 0, 0, u, 0, 0⟩, ⟨10, d, d, regs, 0, 0, 0⟩]) rfl (fun h => by cases h) (reads_new w3 _ _ 7 3 (cellsR [⟨1, d, 0, 0, bits .xor .u32 k u, 0, 0⟩, ⟨1, regs, 0, 0, u, 0, 0⟩, ⟨10, d, d, regs, 0, 0, 0⟩]) rfl rfl) (cellsR_one _) (by simp only [maxLen]; omega) (by omega) (by simp; omega) ?_; intro v' w4 hown4 hg4 _; obtain ⟨g4, cap4, hv4, -, -⟩ := hown4.form (by omega); subst hv4; have hgb := hg4.block (W1.heap.size + 1) (by simp; omega) (fun e => by have := (HBL3.out.own.lt _ e.symm).1; omega); have s4 : w4.cell? ⟨W1.heap.size + 1, 1, none⟩ = some vOut := (World.cell?_of_block (a := ⟨W1.heap.size + 1, 1, none⟩) hgb).trans ((World.cell?_alloc_lt w3 _ ⟨W1.heap.size + 1, 1, none⟩ hp1).trans s1); have s5 : w4.frozen? ⟨W1.heap.size + 1, 1, none⟩ = false := (World.frozen?_of_block (a := ⟨W1.heap.size + 1, 1, none⟩) hgb).trans (((below1 w3 _).frozen (p := ⟨W1.heap.size + 1, 1, none⟩) hp1).trans s2); have HG4 := Lib.hid hg4; have HO4 := Lib.hid hown4; clear hg4 hown4 hgb))
                    go_roundw
                    case rel =>
                      refine ⟨n + 1, .slice (some ⟨g4, 0, none⟩) ((blindL q regs ws n).length + 3) cap4, by omega, by go_num, Lib.hid ?_⟩
                      have e1 : hids (q.take (n + 1)) = hids (q.take n) + 1 := HHS.out
                      rw [e1]
                      refine BL.push HBL3.out HX.out (below1 w3 _) HG4.out (k := 3) (by rw [HO1.out]; rfl) ?_
                      rw [HO1.out]
                      exact HO4.out
                    case measure => simp [intOf]; omega
                · obtain rfl : n = q.length := by omega
                  obtain ⟨s1, s2, s3, s4, s5, s6, s7', s8'⟩ := HBL.out.bs
                  have p0 := HBL.out.p0
                  have p1 := HBL.out.p1
                  have hlen : 0 < (blindL q regs ws q.length).length := by rw [blindL_length q regs ws _ (Nat.le_refl _)]; unfold placeB; omega
                  obtain ⟨g5, cap5, hv5, -, -⟩ := HBL.out.own.form hlen
                  subst hv5
                  obtain ⟨r0, r1⟩ := set2 s3 s4 (.int .i64 (regs + 1)) (.slice (some ⟨g5, 0, none⟩) (blindL q regs ws q.length).length cap5)
                  have ho := own_lower (own_set (own_set HBL.out.own (w.heap.size + 1) 0 (.int .i64 (regs + 1)) (by omega)) (w.heap.size + 1) 1 (.slice (some ⟨g5, 0, none⟩) (blindL q regs ws q.length).length cap5) (by omega)) (show w.heap.size ≤ W1.heap.size + 2 by omega)
                  have HOO := Lib.hid ho
                  clear ho hlen
                  go_wp2
                  refine bodyPost_ret (v := .tuple #[.agg #[.int .i64 (regs + 1), .slice (some ⟨g5, 0, none⟩) (blindL q regs ws q.length).length cap5], .int .i64 0]) (by simp [results, Try.results16, go_sem, r0, r1]) rfl (blindPost_of HV.out HOO.out (set2_below s7' (by omega) _ _))
  · have HC := Lib.hid (show countP regs q = (0, 1) by unfold countP; rw [if_pos (by simpa using hz)])
    have HV := Lib.hid (show blindP regs q ws = (0, [], 1) by unfold blindP; rw [if_pos (by simpa using hz)])
    clear hz
    go_enter Try.func16, Try.ntmps16
    go_wp2_with fail
    obtain ⟨W0, hW0⟩ : ∃ W0, W0 = (w.alloc (.cells #[.int .i64 regs, .slice A q.length cap] 25)).alloc (.cells #[.int .i64 0, .slice none 0 0] 25) := ⟨_, rfl⟩
    have hS0 : BS w regs A q.length cap W0 := by rw [hW0]; exact BS.start ..
    rw [← hW0]
    clear hW0
    refine (Count_c A regs cap q HQ.out (by omega) _ (HR.out.up hS0.2.2.2.2.2.2.1)).mono ?_
    rintro e w1 ⟨rfl, hb1⟩
    rw [HC.out]
    obtain ⟨s1, s2, s3, s4, s5, s6, s7, s8⟩ := hS0.up hb1
    clear hS0 hb1
    dsimp only
    go_wp2
    obtain ⟨r0, r1⟩ := set2 s3 s4 (.int .i64 0) (.slice none 0 0)
    refine bodyPost_ret (v := .tuple #[.agg #[.int .i64 0, .slice none 0 0], .int .i64 1]) (by simp [results, Try.results16, go_sem, r0, r1]) rfl (blindPost_of HV.out (nil_own _ _) (set2_below s7 (by omega) _ _))
end Go.Proofs.Ytalhjbncloobpaa
