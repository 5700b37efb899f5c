import Derived.Test.YtfpemoellglknaaLowW3
import Derived.Test.YtfpemoellglknaaLowF
set_option linter.unusedVariables false
set_option linter.unusedSimpArgs false
namespace Go.Proofs.Ytfpemoellglknaa
open Go.RowKit
/-! ravelinref09.Long: the walk. -/
def FarRow (B g m : Nat) (far : List (Bool × Bool)) (W : World) : Prop := far.length = m ∧ W.ownsRow B 71 2 (.slice (some ⟨g, 0, none⟩) m m) m (farV far)
section
variable {B g m : Nat} {far : List (Bool × Bool)} {W W' : World}
theorem FarRow.get (h : FarRow B g m far W) {i : Nat} (hi : i < m) : W.cell? ⟨g, i * 2, none⟩ = some (.bool (farAt far i).1) ∧ W.cell? ⟨g, i * 2 + 1, none⟩ = some (.bool (farAt far i).2) := by
  have := farV_get far i (by rw [h.1]; exact hi)
  rw [h.2.cellAt _ (by omega), h.2.cellAt _ (by omega)]
  exact this
theorem FarRow.free (h : FarRow B g m far W) (j : Nat) : W.frozen? ⟨g, j, none⟩ = false := h.2.frozenAt j
theorem FarRow.set1 (h : FarRow B g m far W) {i : Nat} (hi : i < m) (b : Bool) : FarRow B g m (far.set i (b, (farAt far i).2)) (W.setCell ⟨g, i * 2, none⟩ (.bool b)) := by
  refine ⟨by simp [h.1], ?_⟩
  rw [← (farV_set far i (by rw [h.1]; exact hi)).1 b]
  exact (h.2.stored _ _).1
theorem FarRow.set2 (h : FarRow B g m far W) {i : Nat} (hi : i < m) (b : Bool) : FarRow B g m (far.set i ((farAt far i).1, b)) (W.setCell ⟨g, i * 2 + 1, none⟩ (.bool b)) := by
  refine ⟨by simp [h.1], ?_⟩
  rw [← (farV_set far i (by rw [h.1]; exact hi)).2 b]
  exact (h.2.stored _ _).1
theorem FarRow.keep (h : FarRow B g m far W) (hb : Below W.heap.size W W') : FarRow B g m far W' :=
  ⟨h.1, h.2.kept (row := none) ⟨hb.os, hb.tape, hb.output, hb.size, fun k hk _ => hb.block k hk⟩ (.inr (by simp [Value.ownBlock]))⟩
theorem FarRow.lt (h : FarRow B g m far W) (hm : 0 < m) : g < W.heap.size := by obtain ⟨g', cap', hv, _, hlt⟩ := h.2.form hm; injection hv with hv; injection hv with hv; injection hv with hv; rw [hv]; exact hlt
end
theorem infoFar : (Try.prog.info? 71).map (fun i => (i.zero, i.size, i.bytes)) = some (some (.agg #[.bool false, .bool false]), 2, 2) := by kernel_rfl
/-- The places, as they are read. -/
def PlAt (W : World) (g B : Nat) (q : List N8) (far : List (Bool × Bool)) : Prop := g ≠ B ∧ ∀ i, i ≤ q.length → W.cell? ⟨g, i, none⟩ = some (.int .i64 (placeN q far i))
theorem PlAt.set {W : World} {g B : Nat} {q : List N8} {far : List (Bool × Bool)} (h : PlAt W g B q far) (o : Nat) (v : Value) : PlAt (W.setCell ⟨B, o, none⟩ v) g B q far := ⟨h.1, fun i hi => (World.cell?_setCell_far _ _ _ _ (by show B ≠ g; exact fun e => h.1 e.symm)).trans (h.2 i hi)⟩
theorem PlAt.keep {W W' : World} {g B : Nat} {q : List N8} {far : List (Bool × Bool)} (h : PlAt W g B q far) (hb : Below W.heap.size W W') : PlAt W' g B q far := ⟨h.1, fun i hi => keepC hb (h.2 i hi)⟩
theorem PlacesPost.at_ {w w' : World} {q : List N8} {far : List (Bool × Bool)} {e : Ending} (h : PlacesPost w q far e w') {B : Nat} (hB : B < w.heap.size) : ∃ g c, e = .returned (.slice (some ⟨g, 0, none⟩) (q.length + 1) c) ∧ Hid (PlAt w' g B q far) ∧ Below w.heap.size w w' := by
  obtain ⟨g, c, rfl, hown, hb⟩ := h
  refine ⟨g, c, rfl, Lib.hid ⟨fun e => by have := own_ge hown g (by simp [Value.ownBlock]); omega, fun i hi => ?_⟩, hb⟩
  rw [hown.cellAt i (by omega)]
  simp [numV, natsL, placeL_get q far (show i < q.length + 1 by omega)]
def farOf (B n : Nat) (W : World) : List (Bool × Bool) := (List.range n).map fun i => ((match W.cell? ⟨B, i * 2, none⟩ with | some (.bool b) => b | _ => false), (match W.cell? ⟨B, i * 2 + 1, none⟩ with | some (.bool b) => b | _ => false))
theorem FarRow.of {B g m : Nat} {far : List (Bool × Bool)} {W : World} (h : FarRow B g m far W) : farOf g m W = far := by
  refine far_ext (n := m) (by simp [farOf]) h.1 fun i hi => ?_
  obtain ⟨h1, h2⟩ := h.get hi
  conv => lhs; unfold farAt farOf
  rw [List.getD_eq_getElem?_getD, List.getElem?_map, List.getElem?_range hi, Option.map_some, h1, h2]; rfl
def LongPost9 (w : World) (q : List N8) (e : Ending) (w' : World) : Prop := ∃ k, Fixed q k ∧ e = .returned (.slice (some ⟨w.heap.size, 0, none⟩) q.length q.length) ∧ FarRow w.heap.size w.heap.size q.length (farTo q k) w' ∧ Below w.heap.size w w'
def LgMid (w : World) (B n gp : Nat) (q : List N8) (far : List (Bool × Bool)) (i : Nat) (b : Bool) (W : World) : Prop := FarRow B B n (farMid q far i) W ∧ PlAt W gp B q far ∧ Below B w W ∧ (b = true ↔ farMid q far i ≠ far)
set_option maxRecDepth 100000 in
set_option maxHeartbeats 6400000 in
theorem Long_c (A : Option Addr) (cap : Nat) (q : List N8) (h0 : (checkD q).1 = 0) (w : World) (hr : Reads w w.heap.size 8 A q.length (cellsN q)) :
    Calls Try.prog 20 #[.slice A q.length cap] w (LongPost9 w q) := by
  obtain ⟨a1, a2, a3⟩ := checkD_zero h0
  have HOK := Lib.hid a3
  have HR := Lib.hid hr
  obtain ⟨i0, HI⟩ : ∃ i0, Hid (Try.prog.info? 71 = some i0 ∧ i0.zero = some (.agg #[.bool false, .bool false]) ∧ i0.size = 2 ∧ i0.bytes = 2) := by
    obtain ⟨i0, hi, hz0, hz1, hz2⟩ := info_parts infoFar
    exact ⟨i0, Lib.hid ⟨hi, hz0, hz1, hz2⟩⟩
  have hq1 : (q.length : Int) ≤ 4096 := by omega
  have hq2 : (0 : Int) < q.length := by omega
  obtain ⟨w1, hrun, hown, hg⟩ := run_make_full (P := Try.prog) w w.heap.size 62 71 i0 _ 2 Try.underlying62 HI.out.1 HI.out.2.1 HI.out.2.2.1 .i64 .i64 q.length (by rw [HI.out.2.2.2]; omega) (by simp only [maxLen]; omega) (Nat.le_refl _)
  have hb1 : Below w.heap.size w w1 := ⟨hg.os, hg.tape, hg.output, hg.size, fun k hk => hg.block k hk (by simp)⟩
  rw [farV_rep] at hown
  obtain ⟨B, hB⟩ : ∃ B, B = w.heap.size := ⟨_, rfl⟩
  have HS : Hid (FarRow B B q.length (farTo q 0) w1 ∧ Below B w w1) := Lib.hid (by rw [hB]; exact ⟨⟨by simp [farTo], hown⟩, hb1⟩)
  have HBB := Lib.hid hB
  clear hr hown hg hb1 a3 h0
  go_enter Try.func20, Try.ntmps20
  go_wp2_with fail
  rw [← hB]
  clear hrun hB
  go_loopw [5] (fun _ wr => Hid (∃ k, FarRow B B q.length (farTo q k) wr ∧ Below B w wr)) (fun _ wr => shortN q.length (farOf B q.length wr))
  case atStart => exact Lib.hid ⟨0, HS.out⟩
  case round =>
    have HK := hrel
    clear hrel
    obtain ⟨k, hrow, hbw⟩ := HK.out
    obtain ⟨far, hfar⟩ : ∃ far, far = farTo q k := ⟨_, rfl⟩
    rw [← hfar] at hrow
    have HFK := Lib.hid hfar
    have hbw' : Below w.heap.size w wr := by rw [← HBB.out]; exact hbw
    have HMEAS := Lib.hid hrow.of
    have hBw := hrow.lt a1
    have hlen := hrow.1
    have HROW := Lib.hid hrow
    have HBW := Lib.hid hbw'
    clear HS hfar hrow hbw hbw' HK
    go_wp2_with fail
    refine (places_c A cap q a2 (some ⟨B, 0, none⟩) q.length far hlen wr (HR.out.up HBW.out) (Reads.of_own HROW.out.2)).mono ?_
    rintro e w3 hP
    obtain ⟨gp, cp, rfl, HPL, hb3⟩ := hP.at_ hBw
    have HS2 : Hid (LgMid w B q.length gp q far 0 false w3) := Lib.hid ⟨by rw [farMid_zero hlen]; exact HROW.out.keep hb3, HPL.out, by rw [HBB.out]; exact below_t HBW.out hb3, by rw [farMid_zero hlen]; simp⟩
    have hb3' : Below w.heap.size w w3 := below_t HBW.out hb3
    have HB3 := Lib.hid hb3'
    clear hP hb3 hb3' HPL
    go_wp2_with fail
    go_loopw [5, 6] (fun mo i wr2 => ∃ (n : Nat) (b : Bool), n ≤ q.length ∧ i = .int .i64 n ∧ mo = .bool b ∧ Hid (LgMid w B q.length gp q far n b wr2)) (fun _ i _ => q.length - (intOf i).toNat)
    case atStart => exact ⟨0, false, by omega, rfl, rfl, HS2⟩
    case round =>
      obtain ⟨n, b, hn, rfl, rfl, HW⟩ := hrel
      clear HS2
      rcases Nat.lt_or_ge n q.length with hnl | hnl
      · have hnl' : (n : Int) < q.length := by omega
        obtain ⟨x, hx⟩ : ∃ x, q[n]? = some x := ⟨_, List.getElem?_eq_getElem hnl⟩
        have hbw2 : Below w.heap.size w wr := by rw [← HBB.out]; exact HW.out.2.2.1
        obtain ⟨bb, off, rfl, hb, hna⟩ := HR.out.node hx
        obtain ⟨d0, d1, d2, d3, d4, d5, d6, d7⟩ := hna.keep hbw2
        have hbbB : bb ≠ B := by have := HBB.out; omega
        clear hna
        have HX := Lib.hid hx
        clear hbw2
        cases hlf : x.lf with
        | true =>
          rw [hlf] at d0
          have hone : farOne q far n x = farAt far n := by unfold farOne; rw [if_pos hlf]
          have HN : Hid (LgMid w B q.length gp q far (n + 1) b wr) := Lib.hid (by
            obtain ⟨h1, h2, h3, h4⟩ := HW.out
            exact ⟨by rw [farMid_same hx hone]; exact h1, h2, h3, by rw [farMid_same hx hone]; exact h4⟩)
          clear hone hx hlf
          go_wp2
          go_roundw
          case rel => exact ⟨n + 1, b, by omega, by go_num, rfl, HN⟩
          case measure => simp [intOf]; omega
        | false =>
          have hno := HOK.out n x hx hlf
          rw [hlf] at d0
          obtain ⟨T, hT⟩ : ∃ T : Nat, x.t = T := ⟨x.t.toNat, by have := hno.t; omega⟩
          obtain ⟨F, hF⟩ : ∃ F : Nat, x.f = F := ⟨x.f.toNat, by have := hno.f; omega⟩
          have hT2 := hno.t
          have hF2 := hno.f
          rw [hT] at d6 hT2
          rw [hF] at d7 hF2
          have hn1 : (n : Int) < (q.length : Int) + 1 := by omega
          have hTq : (T : Int) < (q.length : Int) + 1 := by omega
          have hFq : (F : Int) < (q.length : Int) + 1 := by omega
          obtain ⟨u, hu⟩ : ∃ u, u = placeN q far n := ⟨_, rfl⟩
          obtain ⟨pT, hpT⟩ : ∃ u, u = placeN q far T := ⟨_, rfl⟩
          obtain ⟨pF, hpF⟩ : ∃ u, u = placeN q far F := ⟨_, rfl⟩
          obtain ⟨jn, hjn⟩ : ∃ u, u = jumpN x (placeN q far n) := ⟨_, rfl⟩
          have cu := HW.out.2.1.2 n (by omega)
          rw [← hu] at cu
          have hub : (u : Int) ≤ 20480 := by have := placeN_le q far n; omega
          have hTb : (pT : Int) ≤ 25000 := by have := placeN_le q far T; omega
          have hFb : (pF : Int) ≤ 25000 := by have := placeN_le q far F; omega
          have hjb : (jn : Int) ≤ 25000 := by
            have h1 := placeN_le q far n
            have h2 : jumpN x (placeN q far n) ≤ placeN q far n + 2 := by unfold jumpN b2n; split <;> omega
            omega
          obtain ⟨lT, hlT⟩ : ∃ l, decide ((255 : Int) < (pT : Int) - jn - 1) = l := ⟨_, rfl⟩
          obtain ⟨lF, hlF⟩ : ∃ l, decide ((255 : Int) < (pF : Int) - jn - 1) = l := ⟨_, rfl⟩
          obtain ⟨⟨vt, vf⟩, hv⟩ : ∃ v, v = farAt far n := ⟨_, rfl⟩
          have hone : farOne q far n x = (vt || lT, vf || lF) := by
            unfold farOne longN
            rw [if_neg (by rw [hlf]; decide), ← hv, hT, hF, Int.toNat_natCast, Int.toNat_natCast, ← hpT, ← hpF, ← hjn, hlT, hlF]
          have HONE := Lib.hid hone
          have HVV := Lib.hid hv
          have HJN := Lib.hid (show jn = jumpN ⟨false, x.wd, x.off, x.msk, x.op, x.k, T, F⟩ u by rw [hjn, hu]; rfl)
          have HPT := Lib.hid hpT
          have HPF := Lib.hid hpF
          have HNXT : Hid ((vt || lT, vf || lF) = (vt, vf) → ∀ W, LgMid w B q.length gp q far n b W → LgMid w B q.length gp q far (n + 1) b W) := Lib.hid (fun he W ⟨h1, h2, h3, h4⟩ => by
            have e := farMid_same hx (by rw [hone, he, hv])
            exact ⟨by rw [e]; exact h1, h2, h3, by rw [e]; exact h4⟩)
          have HNXD : Hid ((vt || lT, vf || lF) ≠ (vt, vf) → ∀ W, FarRow B B q.length ((farMid q far n).set n (vt || lT, vf || lF)) W → PlAt W gp B q far → Below B w W → LgMid w B q.length gp q far (n + 1) true W) := Lib.hid (fun he W h1 h2 h3 => by
            refine ⟨by rw [farMid_succ hx, hone]; exact h1, h2, h3, ⟨fun _ => farMid_diff hx (by rw [hone, ← hv]; exact he), fun _ => rfl⟩⟩)
          clear hone hv hjn hpT hpF hu hno hlf hT hF hx
          go_wp2_with fail
          refine wp_tail 8 (by kernel_rfl) (by kernel_rfl) ?_
          simp only [List.take_succ_cons, List.take_zero, List.drop_succ_cons, List.drop_zero]
          repeat still_step
          refine wpStill_nil ?_
          go_wp2_with fail
          refine (rjump_c ⟨false, x.wd, x.off, x.msk, x.op, x.k, T, F⟩ u (by omega) _).mono ?_
          rintro e w4 ⟨rfl, hb4'⟩
          have hb4 : Below wr.heap.size wr w4 := below_t (below_dr (Below.refl _ _)) hb4'
          rw [← HJN.out]
          have hM : LgMid w B q.length gp q far n b w4 := by
            obtain ⟨h1, h2, h3, h4⟩ := HW.out
            exact ⟨h1.keep hb4, h2.keep hb4, by rw [HBB.out] at h3 ⊢; exact below_t h3 hb4, h4⟩
          have e0 := keepC hb4 d0
          have e6 := keepC hb4 d6
          have e7 := keepC hb4 d7
          have hBw4 : B < w4.heap.size := hM.1.lt a1
          have hrow := hM.1
          have cT := hM.2.1.2 T (by omega)
          have cF := hM.2.1.2 F (by omega)
          rw [← HPT.out] at cT
          rw [← HPF.out] at cF
          obtain ⟨r1, r2⟩ := hrow.get hnl
          rw [farMid_here hnl, ← HVV.out] at r1 r2
          have f1 := hrow.free (n * 2)
          have f2 := hrow.free (n * 2 + 1)
          have HM := Lib.hid hM
          clear hb4 hb4' d0 d1 d2 d3 d4 d5 d6 d7 hM hrow cu
          dsimp only at r1 r2
          have k7 : ∀ b', (w4.setCell ⟨B, n * 2, none⟩ (.bool b')).cell? ⟨bb, off + n * 8 + 7, none⟩ = some (.int .i64 F) := fun b' => (World.cell?_setCell_far _ _ _ _ (by show B ≠ bb; exact fun e => hbbB e.symm)).trans e7
          have kF : ∀ b', (w4.setCell ⟨B, n * 2, none⟩ (.bool b')).cell? ⟨gp, F, none⟩ = some (.int .i64 pF) := fun b' => (World.cell?_setCell_far _ _ _ _ (by show B ≠ gp; exact fun e => HM.out.2.1.1 e.symm)).trans cF
          have k2 : ∀ b', (w4.setCell ⟨B, n * 2, none⟩ (.bool b')).cell? ⟨B, n * 2 + 1, none⟩ = some (.bool vf) := fun b' => (World.cell?_setCell_other _ _ _ _ (by simp)).trans r2
          have kf2 : ∀ b', (w4.setCell ⟨B, n * 2, none⟩ (.bool b')).frozen? ⟨B, n * 2 + 1, none⟩ = false := fun b' => ((FarRow.set1 HM.out.1 hnl b').free (n * 2 + 1))
          cases vt with
          | true =>
            cases vf with
            | true =>
              go_wp2
              go_roundw
              case rel => exact ⟨n + 1, b, by omega, by go_num, rfl, Lib.hid (HNXT.out (by simp) _ HM.out)⟩
              case measure => simp [intOf]; omega
            | false =>
              cases lF with
              | true =>
                go_wp2
                go_roundw
                case rel => exact ⟨n + 1, true, by omega, by go_num, rfl, Lib.hid (HNXD.out (by simp) _ (by have h := HM.out.1.set2 hnl true; rw [farMid_here hnl, ← HVV.out] at h; simpa using h) (HM.out.2.1.set _ _) (HM.out.2.2.1.setCell (p := ⟨B, _, none⟩) (Nat.le_refl _) _))⟩
                case measure => simp [intOf]; omega
              | false =>
                go_wp2
                go_roundw
                case rel => exact ⟨n + 1, b, by omega, by go_num, rfl, Lib.hid (HNXT.out (by simp) _ HM.out)⟩
                case measure => simp [intOf]; omega
          | false =>
            cases lT with
            | true =>
              cases vf with
              | true =>
                go_wp2
                go_roundw
                case rel => exact ⟨n + 1, true, by omega, by go_num, rfl, Lib.hid (HNXD.out (by simp) _ (by have h := HM.out.1.set1 hnl true; rw [farMid_here hnl, ← HVV.out] at h; simpa using h) (HM.out.2.1.set _ _) (HM.out.2.2.1.setCell (p := ⟨B, _, none⟩) (Nat.le_refl _) _))⟩
                case measure => simp [intOf]; omega
              | false =>
                cases lF with
                | true =>
                  go_wp2
                  go_roundw
                  case rel => exact ⟨n + 1, true, by omega, by go_num, rfl, Lib.hid (HNXD.out (by simp) _ (by have h := (HM.out.1.set1 hnl true).set2 hnl true; rw [farSet_at (by rw [farMid_len]; exact hnl), if_pos rfl, List.set_set] at h; simpa using h) ((HM.out.2.1.set _ _).set _ _) ((HM.out.2.2.1.setCell (p := ⟨B, _, none⟩) (Nat.le_refl _) _).setCell (p := ⟨B, _, none⟩) (Nat.le_refl _) _))⟩
                  case measure => simp [intOf]; omega
                | false =>
                  go_wp2
                  go_roundw
                  case rel => exact ⟨n + 1, true, by omega, by go_num, rfl, Lib.hid (HNXD.out (by simp) _ (by have h := HM.out.1.set1 hnl true; rw [farMid_here hnl, ← HVV.out] at h; simpa using h) (HM.out.2.1.set _ _) (HM.out.2.2.1.setCell (p := ⟨B, _, none⟩) (Nat.le_refl _) _))⟩
                  case measure => simp [intOf]; omega
            | false =>
              cases vf with
              | true =>
                go_wp2
                go_roundw
                case rel => exact ⟨n + 1, b, by omega, by go_num, rfl, Lib.hid (HNXT.out (by simp) _ HM.out)⟩
                case measure => simp [intOf]; omega
              | false =>
                cases lF with
                | true =>
                  go_wp2
                  go_roundw
                  case rel => exact ⟨n + 1, true, by omega, by go_num, rfl, Lib.hid (HNXD.out (by simp) _ (by have h := HM.out.1.set2 hnl true; rw [farMid_here hnl, ← HVV.out] at h; simpa using h) (HM.out.2.1.set _ _) (HM.out.2.2.1.setCell (p := ⟨B, _, none⟩) (Nat.le_refl _) _))⟩
                  case measure => simp [intOf]; omega
                | false =>
                  go_wp2
                  go_roundw
                  case rel => exact ⟨n + 1, b, by omega, by go_num, rfl, Lib.hid (HNXT.out (by simp) _ HM.out)⟩
                  case measure => simp [intOf]; omega
      · obtain rfl : n = q.length := by omega
        obtain ⟨h1, h2, h3, h4⟩ := HW.out
        rw [farMid_end] at h1 h4
        cases b with
        | true =>
          have hne : farNext q far ≠ far := h4.1 rfl
          have HN : Hid (∃ k, FarRow B B q.length (farTo q k) wr ∧ Below B w wr) := Lib.hid ⟨k + 1, by show FarRow B B q.length (farNext q (farTo q k)) wr; rw [← HFK.out]; exact h1, h3⟩
          have HM2 := Lib.hid (show shortN q.length (farOf B q.length wr) < shortN q.length far by rw [h1.of]; exact short_next hlen hne)
          clear h1 h2 h3 h4 hne
          go_wp2
          go_roundw
          case rel => exact HN
          case measure => rw [HMEAS.out]; exact HM2.out
        | false =>
          have heq : farNext q far = far := Classical.byContradiction fun h => by have := h4.2 h; cases this
          have HE : Hid (Fixed q k ∧ FarRow B B q.length (farTo q k) wr ∧ Below B w wr) := Lib.hid ⟨by unfold Fixed; rw [← HFK.out]; exact heq, by rw [← HFK.out]; rw [heq] at h1; exact h1, h3⟩
          clear h1 h2 h3 h4 heq
          go_wp2
          refine bodyPost_ret (v := .slice (some ⟨B, 0, none⟩) q.length q.length) (by simp [results, Try.results20, go_sem]) rfl ?_
          refine ⟨k, HE.out.1, by rw [HBB.out], by rw [← HBB.out]; exact HE.out.2.1, by rw [← HBB.out]; exact HE.out.2.2⟩
end Go.Proofs.Ytfpemoellglknaa
