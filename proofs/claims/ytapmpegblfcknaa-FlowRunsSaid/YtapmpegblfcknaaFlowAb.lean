import Derived.Test.YtapmpegblfcknaaFlowRR
import Derived.Test.YtapmpegblfcknaaFlowBlk
set_option linter.unusedVariables false
set_option linter.unusedSimpArgs false
namespace Go.Proofs.Ytapmpegblfcknaa
open Go.RowKit Go.Shelf
/-! Blocks as they are read; flow.Above. -/
def BlkReads (W : World) (A : Option Addr) (ps : List (Nat × Nat)) (nx : Nat → List Nat) : Prop := ∀ j p, ps[j]? = some p → ∃ b Aj cj, A = some ⟨b, 0, none⟩ ∧ b < W.heap.size ∧ W.cell? ⟨b, j * 3, none⟩ = some (.int .i64 p.1) ∧ W.cell? ⟨b, j * 3 + 1, none⟩ = some (.int .i64 p.2) ∧ W.cell? ⟨b, j * 3 + 2, none⟩ = some (.slice Aj (nx j).length cj) ∧ Reads W W.heap.size 1 Aj (nx j).length (numV .i64 (natsI (nx j)))
theorem BlkReads.up {W W' : World} {A : Option Addr} {ps : List (Nat × Nat)} {nx : Nat → List Nat} (h : BlkReads W A ps nx) (hb : Below W.heap.size W W') : BlkReads W' A ps nx := fun j p hp => by
  obtain ⟨b, Aj, cj, rfl, h1, h2, h3, h4, h5⟩ := h j p hp
  exact ⟨b, Aj, cj, rfl, Nat.lt_of_lt_of_le h1 hb.size, keepC hb h2, keepC hb h3, keepC hb h4, h5.up hb⟩
theorem BlksPost.reads {w w' : World} {q : List I4} {e : Ending} (h : BlksPost w q e w') (h0 : (checkP q).1 = 0) (hok : ∀ x ∈ q, x.ok) : ∃ A c, e = .returned (.slice A (blocksQ q).length c) ∧ Hid (BlkReads w' A (blocksQ q) (nxQ q)) ∧ Below w.heap.size w w' := by
  obtain ⟨v, vs, nu, rfl, h1, h2, h3, h4, h5, h6⟩ := h
  obtain ⟨A, c, rfl⟩ := own_slice h2
  refine ⟨A, c, rfl, Lib.hid fun j p hp => ?_, h3⟩
  have hl := (List.getElem?_eq_some_iff.1 hp).1
  obtain ⟨u, hu⟩ : ∃ u, vs[j]? = some u := ⟨_, List.getElem?_eq_getElem (by rw [h1]; exact hl)⟩
  obtain ⟨g0, g1, g2⟩ := blkV_get _ _ j p u hp hu
  obtain ⟨b, off, e, hb, hc⟩ := (Reads.of_own h2).2 (by omega)
  obtain ⟨g, cap, hv, -, -⟩ := h2.form (by omega)
  have e2 : A = some ⟨g, 0, none⟩ := by injection hv
  rw [e2] at e
  injection e with e; injection e with e3 e4
  subst e3 e4 e2
  have hr := h6 j u hl hu
  rw [nexts_same h0 hok h4 hl] at hr
  obtain ⟨Aj, cj, rfl⟩ := own_slice hr
  refine ⟨g, Aj, cj, rfl, hb, by simpa using hc _ _ g0, by simpa using hc _ _ g1, by simpa using hc _ _ g2, Reads.of_own hr⟩
theorem nx_len (q : List I4) (j : Nat) : (nxQ q j).length ≤ 2 := by
  unfold nxQ nextsQ; rw [List.length_map]; exact nextQ_len _ _
def AbovePost (w : World) (q : List I4) (e : Ending) (w' : World) : Prop := ((checkP q).1 ≠ 0 ∧ e = .returned (.tuple #[.slice none 0 0, .int .i64 1]) ∧ Below w.heap.size w w') ∨ ((checkP q).1 = 0 ∧ ∃ g, e = .returned (.tuple #[.slice (some ⟨g, 0, none⟩) (blocksQ q).length (blocksQ q).length, .int .i64 0]) ∧ IRow w.heap.size g (blocksQ q).length (aboveP q) w' ∧ Below w.heap.size w w')
theorem setm2 (n k : Nat) (hk : k < n) : (List.replicate k (-2 : Int) ++ List.replicate (n - k) 0).set k (-2) = List.replicate (k + 1) (-2) ++ List.replicate (n - (k + 1)) 0 := by
  obtain ⟨m, hm⟩ : ∃ m, n - k = m + 1 := ⟨n - k - 1, by omega⟩
  rw [hm, show n - (k + 1) = m by omega, List.set_append_right _ _ (by simp)]
  rw [List.length_replicate, Nat.sub_self, List.replicate_succ (n := m), List.set_cons_zero, List.replicate_succ' (n := k), List.append_assoc]; rfl
set_option maxRecDepth 100000 in
set_option maxHeartbeats 3200000 in
theorem Above_c (A : Option Addr) (cap : Nat) (q : List I4) (hok : ∀ x ∈ q, x.ok) (hn : q.length ≤ 9223372036854775807) (w : World) (hr : Reads w w.heap.size 4 A q.length (cellsI q)) :
    Calls Try.prog 30 #[.slice A q.length cap] w (AbovePost w q) := by
  have HF := Lib.hid (fine_c A cap q hok hn w hr)
  have HR := Lib.hid hr
  have HOK := Lib.hid hok
  clear hr hok
  by_cases h0 : (checkP q).1 = 0
  · obtain ⟨a1, a2, -, -⟩ := acc_facts h0
    have hb : ((checkP q).1 == 0) = true := by simpa using h0
    have HB := Lib.hid hb
    have H0 := Lib.hid h0
    have HFW := Lib.hid (nx_fwd h0 HOK.out)
    obtain ⟨m, hm⟩ : ∃ m, m = (blocksQ q).length := ⟨_, rfl⟩
    have hm1 : 0 < m := by rw [hm]; exact blocks_pos h0 HOK.out
    have hm2 : m ≤ 4096 := by rw [hm]; exact Nat.le_trans (blocks_le q (intoP q) q.length 0) a2
    have hm3 : (m : Int) ≤ 4096 := by omega
    have HMM := Lib.hid hm
    have HNX := Lib.hid (nx_len q)
    obtain ⟨i0, HI⟩ : ∃ i0, Hid (Try.prog.info? 3 = some i0 ∧ i0.zero = some (.int .i64 0) ∧ i0.size = 1 ∧ i0.bytes = 8) := by
      obtain ⟨i0, hi, hz0, hz1, hz2⟩ := info_parts infoInt
      exact ⟨i0, Lib.hid ⟨hi, hz0, hz1, hz2⟩⟩
    clear hb h0 hm
    go_enter Try.func30, Try.ntmps30
    go_wp2_with fail
    refine HF.out.mono ?_
    rintro e w1 ⟨rfl, hb1⟩
    rw [HB.out]
    go_wp2_with fail
    refine (blocks_c A cap q H0.out HOK.out w1 (HR.out.up hb1)).mono ?_
    rintro e w2 hP
    obtain ⟨Ab, cb, rfl, HBR, hb2⟩ := hP.reads H0.out HOK.out
    rw [← HMM.out]
    have HB2 := Lib.hid (below_t hb1 hb2)
    obtain ⟨ps, hps⟩ : ∃ ps, ps = blocksQ q := ⟨_, rfl⟩
    obtain ⟨nx, hnx⟩ : ∃ nx, nx = nxQ q := ⟨_, rfl⟩
    have HFW' : Hid (Fwd m nx) := Lib.hid (by rw [HMM.out, hnx]; exact HFW.out)
    have HNX' : Hid (∀ j, (nx j).length ≤ 2) := Lib.hid (by rw [hnx]; exact HNX.out)
    have HPL : Hid (ps.length = m) := Lib.hid (by rw [hps, HMM.out])
    have HAB : Hid (abTo m nx m = aboveP q) := Lib.hid (by rw [HMM.out, hnx]; rfl)
    rw [← hps, ← hnx] at HBR
    clear hP hps hnx HFW HNX hb2 hb1
    obtain ⟨w3, hrun, hown, hg⟩ := run_make_full (P := Try.prog) w2 w2.heap.size 36 3 i0 _ 1 Try.underlying36 HI.out.1 HI.out.2.1 HI.out.2.2.1 .i64 .i64 m (by rw [HI.out.2.2.2]; omega) (by simp only [maxLen]; omega) (Nat.le_refl _)
    have hb3 : Below w2.heap.size w2 w3 := ⟨hg.os, hg.tape, hg.output, hg.size, fun k hk => hg.block k hk (by simp)⟩
    have hrow : IRow w2.heap.size w2.heap.size m (List.replicate m 0) w3 := IRow.new hown
    obtain ⟨g, hgg⟩ : ∃ g, g = w2.heap.size := ⟨_, rfl⟩
    have HS : Hid (IRow g g m (List.replicate 0 (-2) ++ List.replicate (m - 0) 0) w3 ∧ Below g w2 w3) := Lib.hid (by rw [hgg]; exact ⟨hrow, hb3⟩)
    have hgl := hrow.lt hm1
    rw [← hgg] at hgl
    clear hown hg hrow hb3
    go_wp2_with fail
    rw [← hgg]
    have HGG : Hid (w2.heap.size = g) := Lib.hid hgg.symm
    clear hrun hgg
    go_loopw [22] (fun i wr => ∃ k : Nat, k ≤ m ∧ i = .int .i64 k ∧ Hid (IRow g g m (List.replicate k (-2) ++ List.replicate (m - k) 0) wr ∧ Below g w2 wr)) (fun i _ => m - (intOf i).toNat)
    case atStart => exact ⟨0, by omega, rfl, HS⟩
    case round =>
      obtain ⟨k, hk, rfl, HW⟩ := hrel
      clear HS
      rcases Nat.lt_or_ge k m with hkm | hkm
      · have hkm' : (k : Int) < m := by omega
        have c1 := HW.out.1.get hkm
        have f1 := HW.out.1.free k
        have HN : Hid (IRow g g m (List.replicate (k + 1) (-2) ++ List.replicate (m - (k + 1)) 0) (wr.setCell ⟨g, k, none⟩ (.int .i64 (-2))) ∧ Below g w2 (wr.setCell ⟨g, k, none⟩ (.int .i64 (-2)))) :=
          Lib.hid ⟨by rw [← setm2 m k hkm]; exact HW.out.1.set k (-2), HW.out.2.setCell (p := ⟨g, k, none⟩) (Nat.le_refl _) _⟩
        go_wp2
        go_roundw
        case rel => exact ⟨k + 1, by omega, by go_num, HN⟩
        case measure => simp [intOf]; omega
      · obtain rfl : k = m := by omega
        have hrow := HW.out.1
        rw [Nat.sub_self, List.replicate_zero, List.append_nil] at hrow
        have c1 := hrow.get hm1
        have f1 := hrow.free 0
        have HS : Hid (IRow g g k (abTo k nx 0) (wr.setCell ⟨g, 0, none⟩ (.int .i64 (-1))) ∧ Below g w2 (wr.setCell ⟨g, 0, none⟩ (.int .i64 (-1)))) :=
          Lib.hid ⟨hrow.set 0 (-1), HW.out.2.setCell (p := ⟨g, 0, none⟩) (Nat.le_refl _) _⟩
        have hm1' : (0 : Int) < k := by omega
        clear hrow
        go_wp2_with fail
        clear c1 f1
        go_loopw [33] (fun i wr => ∃ j : Nat, j ≤ k ∧ i = .int .i64 j ∧ Hid (IRow g g k (abTo k nx j) wr ∧ Below g w2 wr)) (fun i _ => k - (intOf i).toNat)
        case atStart => exact ⟨0, by omega, rfl, HS⟩
        case round =>
          obtain ⟨i, hi, rfl, HW2⟩ := hrel
          clear HS
          rcases Nat.lt_or_ge i k with hik | hik
          · have hik' : (i : Int) < k := by omega
            obtain ⟨p, hp⟩ : ∃ p, ps[i]? = some p := ⟨_, List.getElem?_eq_getElem (by rw [HPL.out]; exact hik)⟩
            obtain ⟨bb, Aj, cj, rfl, hbb, d0, d1, d2, hrd⟩ := HBR.out i p hp
            have hbb' : bb < g := by have := HGG.out; omega
            have d2' : wr.cell? ⟨bb, i * 3 + 2, none⟩ = some (.slice Aj (nx i).length cj) := (HW2.out.2.cell (p := ⟨bb, i * 3 + 2, none⟩) hbb').trans d2
            have HRD := Lib.hid hrd
            obtain ⟨L, hL⟩ : ∃ L, L = nx i := ⟨_, rfl⟩
            rw [← hL] at HRD d2'
            have HAH : Hid (∀ t ∈ L, i < t ∧ t < k) := Lib.hid (fun t ht => HFW'.out.ahead i t hik (by rw [← hL]; exact ht))
            have hL2 : (L.length : Int) ≤ 2 := by have := HNX'.out i; rw [← hL] at this; omega
            have HLL := Lib.hid hL
            have HS2 : Hid (IRow g g k (abRow i (abTo k nx i) (L.take 0)) wr ∧ Below g w2 wr) := Lib.hid HW2.out
            clear hp d0 d1 d2 hrd hL
            go_wp2_with fail
            clear d2'
            go_loopw [42] (fun x wr => ∃ s : Nat, s ≤ L.length ∧ x = .int .i64 s ∧ Hid (IRow g g k (abRow i (abTo k nx i) (L.take s)) wr ∧ Below g w2 wr)) (fun x _ => L.length - (intOf x).toNat)
            case atStart => exact ⟨0, by omega, rfl, HS2⟩
            case round =>
              obtain ⟨s, hs, rfl, HW3⟩ := hrel
              clear HS2
              rcases Nat.lt_or_ge s L.length with hsl | hsl
              · have hsl' : (s : Int) < L.length := by omega
                obtain ⟨y, hy⟩ : ∃ y, L[s]? = some y := ⟨_, List.getElem?_eq_getElem hsl⟩
                obtain ⟨y1, y2⟩ := HAH.out y (List.mem_of_getElem? hy)
                obtain ⟨b1, o1, rfl, hb1, cy⟩ := HRD.out.num (x := (y : Int)) (i := s) (by simp [natsI, hy])
                have cy' : wr.cell? ⟨b1, o1 + s, none⟩ = some (.int .i64 y) := (HW3.out.2.cell (p := ⟨b1, o1 + s, none⟩) (by have := HGG.out; show b1 < g; omega)).trans cy
                have y2' : (y : Int) < k := by omega
                have HY := Lib.hid (take_snocN hy)
                have hAI := (abTo_inv HFW'.out i hik).row (L.take s) (fun t ht => HAH.out t (List.mem_of_mem_take ht))
                obtain ⟨ab, hab⟩ : ∃ ab, ab = abRow i (abTo k nx i) (L.take s) := ⟨_, rfl⟩
                have hrow := HW3.out.1
                rw [← hab] at hAI hrow
                have HN3 : ∀ z : Int, abStep i ab y = ab.set y z → Hid (IRow g g k (abRow i (abTo k nx i) (L.take (s + 1))) (wr.setCell ⟨g, y, none⟩ (.int .i64 z)) ∧ Below g w2 (wr.setCell ⟨g, y, none⟩ (.int .i64 z))) := fun z hz =>
                  Lib.hid ⟨by rw [HY.out, abRow_snoc, ← hab, hz]; exact hrow.set y z, HW3.out.2.setCell (p := ⟨g, y, none⟩) (Nat.le_refl _) _⟩
                have HN3' := Lib.hid HN3
                have cab := hrow.get y2
                have fab := hrow.free y
                have HROW := Lib.hid hrow
                have HLOW := Lib.hid hAI.low
                have hcase : ab.getD y 0 = -2 ∨ ∃ a : Nat, ab.getD y 0 = (a : Int) ∧ a ≤ i := by
                  by_cases hpr : (fun s_1 => predsTo nx i s_1 ++ List.replicate ((L.take s).count s_1) i) y = []
                  · exact .inl (hAI.none y y1 y2 hpr)
                  · obtain ⟨a, h1, h2, -⟩ := hAI.some y y1 y2 hpr
                    exact .inr ⟨a, h1, h2⟩
                clear HN3 hAI hab hrow hy cy
                rcases hcase with hc | ⟨a, hc, ha⟩
                · rw [hc] at cab
                  have HN4 := HN3'.out i (by unfold abStep; rw [if_pos hc])
                  clear hc
                  go_wp2
                  go_roundw
                  case rel => exact ⟨s + 1, by omega, by go_num, HN4⟩
                  case measure => simp [intOf]; omega
                · rw [hc] at cab
                  obtain ⟨R, hR⟩ : ∃ R, R = ncaP ab (2 * i + 2) a i := ⟨_, rfl⟩
                  have HN4 := Lib.hid (HN3'.out R (by unfold abStep; rw [if_neg (by rw [hc]; omega), hc, hR]))
                  have ht2 : ((a : Int) == -2) = false := by rw [beq_eq_false_iff_ne]; omega
                  have ha' : (a : Int) ≤ i := by omega
                  have HSS : Hid (a + i < 2 * i + 2 ∧ ncaP ab (2 * i + 2) a i = R) := Lib.hid ⟨by omega, hR.symm⟩
                  clear hc hR
                  go_wp2_with fail
                  go_loop [10, 11] (fun xa xb => ∃ (a b f : Nat), a ≤ i ∧ b ≤ i ∧ xa = .int .i64 a ∧ xb = .int .i64 b ∧ Hid (a + b < f ∧ ncaP ab f a b = R)) (fun xa xb => (intOf xa).toNat + (intOf xb).toNat)
                  case atStart => exact ⟨a, i, _, ha, Nat.le_refl _, rfl, rfl, HSS⟩
                  case round =>
                    obtain ⟨a', b', f, ha1, hb1, rfl, rfl, HQ⟩ := hrel
                    clear HSS cab
                    by_cases hab2 : a' = b'
                    · subst hab2
                      have hRa : R = (a' : Int) := by
                        obtain ⟨h1, h2⟩ := HQ.out
                        obtain ⟨f, rfl⟩ : ∃ f', f = f' + 1 := ⟨f - 1, by omega⟩
                        unfold ncaP at h2
                        rw [if_pos rfl] at h2
                        exact h2.symm
                      subst hRa
                      have cab := HROW.out.get y2
                      go_wp2
                      go_roundw
                      case rel => exact ⟨s + 1, by omega, by go_num, HN4.out⟩
                      case measure => simp [intOf]; omega
                    · have hne : ((a' : Int) != b') = true := by simp; omega
                      have HNE := Lib.hid hab2
                      clear hab2
                      rcases Nat.lt_or_ge b' a' with hlt | hge
                      · obtain ⟨z, hz, hza⟩ := HLOW.out.2 a' (by omega) ha1
                        have ca := HROW.out.get (j := a') (by omega)
                        rw [hz] at ca
                        have HZ := Lib.hid hz
                        have hak : (a' : Int) < k := by omega
                        clear hz
                        go_wp2
                        go_round
                        case rel =>
                          obtain ⟨h1, h2⟩ := HQ.out
                          obtain ⟨f, rfl⟩ : ∃ f', f = f' + 1 := ⟨f - 1, by omega⟩
                          unfold ncaP at h2
                          rw [if_neg (by have := HNE.out; omega), if_pos (by omega), Int.toNat_natCast, HZ.out] at h2
                          exact ⟨z, b', f, by omega, hb1, rfl, rfl, Lib.hid ⟨by omega, h2⟩⟩
                        case measure => simp [intOf]; omega
                      · have hlt : a' < b' := by have := HNE.out; omega
                        obtain ⟨z, hz, hza⟩ := HLOW.out.2 b' (by omega) hb1
                        have ca := HROW.out.get (j := b') (by omega)
                        rw [hz] at ca
                        have HZ := Lib.hid hz
                        have hbk : (b' : Int) < k := by omega
                        clear hz
                        go_wp2
                        go_round
                        case rel =>
                          obtain ⟨h1, h2⟩ := HQ.out
                          obtain ⟨f, rfl⟩ : ∃ f', f = f' + 1 := ⟨f - 1, by omega⟩
                          unfold ncaP at h2
                          rw [if_neg (by omega), if_neg (by omega), Int.toNat_natCast, HZ.out] at h2
                          exact ⟨a', z, f, ha1, by omega, rfl, rfl, Lib.hid ⟨by omega, h2⟩⟩
                        case measure => simp [intOf]; omega
              · obtain rfl : s = L.length := by omega
                have hend : Hid (IRow g g k (abTo k nx (i + 1)) wr ∧ Below g w2 wr) := Lib.hid ⟨by
                  have := HW3.out.1
                  rw [List.take_length] at this
                  rw [abTo_succ, ← HLL.out]; exact this, HW3.out.2⟩
                go_wp2
                go_roundw
                case rel => exact ⟨i + 1, by omega, by go_num, hend⟩
                case measure => simp [intOf]; omega
          · obtain rfl : i = k := by omega
            have hrow := HW2.out.1
            rw [HAB.out] at hrow
            have HE := Lib.hid (And.intro hrow HW2.out.2)
            clear hrow
            go_wp2
            refine bodyPost_ret (v := .tuple #[.slice (some ⟨g, 0, none⟩) i i, .int .i64 0]) (by simp [results, Try.results30, go_sem]) rfl ?_
            refine .inr ⟨H0.out, g, by rw [← HMM.out], ?_, ?_⟩
            · rw [← HMM.out]; exact ⟨HE.out.1.1, own_base HE.out.1.2 (by have := HB2.out.size; have := HGG.out; omega)⟩
            · exact below_t HB2.out (by rw [HGG.out]; exact HE.out.2)
  · have hb : ((checkP q).1 == 0) = false := by simpa using h0
    have HB := Lib.hid hb
    have H0 := Lib.hid h0
    clear hb h0
    go_enter Try.func30, Try.ntmps30
    go_wp2_with fail
    refine HF.out.mono ?_
    rintro e w1 ⟨rfl, hb1⟩
    rw [HB.out]
    go_wp2
    refine bodyPost_ret (v := .tuple #[.slice none 0 0, .int .i64 1]) (by simp [results, Try.results30, go_sem]) rfl ?_
    exact .inl ⟨H0.out, rfl, hb1⟩
end Go.Proofs.Ytapmpegblfcknaa
