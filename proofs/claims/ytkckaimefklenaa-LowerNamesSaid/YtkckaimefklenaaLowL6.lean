import Derived.Test.YtkckaimefklenaaLowL5
import Derived.WalkMore
import Derived.ScopeJumps
set_option linter.unusedVariables false
set_option linter.unusedSimpArgs false
namespace Go.Proofs.Ytkckaimefklenaa
open Go.RowKit
/-! lower.lay: the walk. (Printed by gen/lowl6.py.) -/
noncomputable def leastN (S : Nat → Prop) : Nat := open Classical in if h : ∃ m, S m ∧ ∀ j, S j → m ≤ j then Classical.choose h else 0
theorem least_ex {S : Nat → Prop} : ∀ m, S m → ∃ k, S k ∧ ∀ j, S j → k ≤ j := by
  intro m
  induction m using Nat.strongRecOn with
  | _ m ih =>
    intro hm
    by_cases h : ∃ j, S j ∧ j < m
    · obtain ⟨j, h1, h2⟩ := h; exact ih j h2 h1
    · exact ⟨m, hm, fun j hj => Nat.le_of_not_lt fun hlt => h ⟨j, hj, hlt⟩⟩
theorem leastN_spec {S : Nat → Prop} {m : Nat} (h : S m) : S (leastN S) := by
  unfold leastN
  rw [dif_pos (least_ex m h)]
  exact (Classical.choose_spec (least_ex m h)).1
theorem leastN_le {S : Nat → Prop} {m : Nat} (h : S m) : leastN S ≤ m := by
  unfold leastN
  rw [dif_pos (least_ex m h)]
  exact (Classical.choose_spec (least_ex m h)).2 m h
/-- What holds where the label stands, and how many ways are short yet. -/
def AtLabel (w : World) (lo : Nat) (q : List N8) (a : Act) (W : World) (m : Nat) : Prop :=
  ∃ (u0 u1 u2 u4 u5 u6 u7 u8 u9 u10 u11 u12 u13 u14 u15 u16 u17 u18 u19 u20 u21 u22 u23 u24 u25 u26 u27 u28 u29 u30 u31 u32 u33 u34 u35 u36 u37 u38 u39 u40 u41 u42 u43 u44 u45 u46 : Value) (k size L B c : Nat) (first Pn Yn : Nat → Nat), a = { tmps := #[u0, u1, u2, .pointer (some ⟨L, 0, none⟩), u4, u5, u6, u7, u8, u9, u10, u11, u12, u13, u14, u15, u16, u17, u18, u19, u20, u21, u22, u23, u24, u25, u26, u27, u28, u29, u30, u31, u32, u33, u34, u35, u36, u37, u38, u39, u40, u41, u42, u43, u44, u45, u46], defers := [] } ∧ LayAt lo q L B c Pn Yn first size (farAt (farTo q k)) W ∧ Below lo w W ∧ m = shortN q.length (farTo q k)
def LayPost (w : World) (q : List N8) (e : Ending) (w' : World) : Prop := ∃ (L B c k : Nat) (Pn Yn : Nat → Nat), e = .returned (.pointer (some ⟨L, 0, none⟩)) ∧ Fixed q k ∧ LayAt w.heap.size q L B c Pn Yn (placeN q (farTo q k)) (placeN q (farTo q k) q.length) (farAt (farTo q k)) w' ∧ Below w.heap.size w w'
set_option maxRecDepth 100000 in
set_option maxHeartbeats 3200000 in
theorem lay_c (A : Option Addr) (cap : Nat) (q : List N8) (hc : (checkD q).1 = 0) (w : World) (hr : Reads w w.heap.size 8 A q.length (cellsN q)) :
    Calls Try.prog 10 #[.slice A q.length cap] w (LayPost w q) := by
  obtain ⟨a1, a2, -⟩ := checkD_zero hc
  have hn' : (q.length : Int) ≤ 4096 := by omega
  have HR := Lib.hid hr
  have HC := Lib.hid hc
  clear hr hc
  go_enter Try.func10, Try.ntmps10
  go_wp2
  refine wp_scope_jumps 0 (fun a W => ∃ m, AtLabel w w.heap.size q a W m) (fun a W => leastN (AtLabel w w.heap.size q a W)) rfl ?_ ?_
  · have HS0 : Hid (LayK w w.heap.size q 0 w.heap.size (.slice none 0 0) (fun i => i) (fun i => i) (w.alloc (.cells #[.slice none 0 0, .int .i64 0] 52))) := Lib.hid ⟨heap_new w _, World.ownsRow_nil _ _ _ _, fun i x h => by omega, fun i x h => by omega, ⟨fun b => 0, rfl, fun b hb => by simp [Value.ownBlock] at hb, fun i x h => by omega⟩, ⟨Nat.le_refl _, fun i x h => by omega⟩, below1 w _⟩
    obtain ⟨L, hL⟩ : ∃ L, L = w.heap.size := ⟨_, rfl⟩
    have HL := Lib.hid hL
    clear hL
    go_wp2_with fail
    go_loopw [11, 5] (fun i _ wr => ∃ (k : Nat) (v : Value) (Pn Yn : Nat → Nat), k ≤ q.length ∧ i = .int .i64 k ∧ Hid (LayK w w.heap.size q k w.heap.size v Pn Yn wr)) (fun i _ _ => q.length - (intOf i).toNat)
    case atStart => exact ⟨0, _, _, _, by omega, rfl, HS0⟩
    case round =>
      obtain ⟨k, v, Pn, Yn, hk, rfl, HW⟩ := hrel
      clear HS0
      rcases Nat.lt_or_ge k q.length with hkl | hkl
      · have hkl' : (k : Int) < q.length := by omega
        obtain ⟨x, hx⟩ : ∃ x, q[k]? = some x := ⟨_, List.getElem?_eq_getElem hkl⟩
        obtain ⟨bb, off, rfl, hb, hna⟩ := HR.out.node hx
        obtain ⟨d0, d1, d2, d3, d4, d5, d6, d7⟩ := hna.keep HW.out.below
        have HX := Lib.hid hx
        have hLl : w.heap.size < wr.heap.size := HW.out.size_le
        have hwl : w.heap.size ≤ wr.heap.size := by omega
        have l0 : wr.cell? ⟨w.heap.size, 0, none⟩ = some v := by have h := HW.out.lay; simp [World.cell?, h]
        clear hx hna
        cases hlf : x.lf with
        | true =>
          rw [hlf] at d0
          have HLF := Lib.hid hlf
          have HP3 : Hid (((wr.alloc (.cells #[.bool true, .int .u32 x.wd, .int .i64 x.off, .int .u32 x.msk, .int .i64 x.op, .int .u32 x.k, .int .i64 x.t, .int .i64 x.f] 26)).alloc (.cells #[.bool true, .int .u32 x.wd, .int .i64 x.off, .int .u32 x.msk, .int .i64 x.op, .int .u32 x.k, .int .i64 x.t, .int .i64 x.f, .int .i64 0, .slice none 0 0] 64)).heap[wr.heap.size + 1]? = some (.cells (prow x 0 (waysV x wr.heap.size)).toArray 64 (0, 0))) := Lib.hid (by
            have h := heap_new (wr.alloc (.cells #[.bool true, .int .u32 x.wd, .int .i64 x.off, .int .u32 x.msk, .int .i64 x.op, .int .u32 x.k, .int .i64 x.t, .int .i64 x.f] 26)) (.cells #[.bool true, .int .u32 x.wd, .int .i64 x.off, .int .u32 x.msk, .int .i64 x.op, .int .u32 x.k, .int .i64 x.t, .int .i64 x.f, .int .i64 0, .slice none 0 0] 64)
            have e : prow x 0 (waysV x wr.heap.size) = [.bool true, .int .u32 x.wd, .int .i64 x.off, .int .u32 x.msk, .int .i64 x.op, .int .u32 x.k, .int .i64 x.t, .int .i64 x.f, .int .i64 0, .slice none 0 0] := by unfold prow waysV N8.cells; rw [hlf]; rfl
            rw [e]
            simpa using h)
          have HP4 := Lib.hid (HP3.out)
          clear hlf
          go_wp2_with (at_builtin; refine ptr_step HW.out HX.out hwl (below_al (below1 wr _) _) (P := wr.heap.size + 1) (Y := wr.heap.size) HP4.out (fun h => absurd h (by rw [HLF.out]; decide)) (by omega) (Nat.le_refl _) (by omega) (by omega) rfl (.tmp 35) (.tmp 37) rfl rfl (wr.heap.size + 1 + 1) (by simp) rfl ?_; intro g4 c4 w4 hc4 hf4 h4; have H4 := Lib.hid h4; clear h4)
          go_roundw
          case rel => exact ⟨k + 1, _, _, _, by omega, by go_num, H4⟩
          case measure => simp [intOf]; omega
        | false =>
          rw [hlf] at d0
          have HLF := Lib.hid hlf
          have hA : ((wr.alloc (.cells #[.bool false, .int .u32 x.wd, .int .i64 x.off, .int .u32 x.msk, .int .i64 x.op, .int .u32 x.k, .int .i64 x.t, .int .i64 x.f] 26)).alloc (.cells #[.bool false, .int .u32 x.wd, .int .i64 x.off, .int .u32 x.msk, .int .i64 x.op, .int .u32 x.k, .int .i64 x.t, .int .i64 x.f, .int .i64 0, .slice (some ⟨wr.heap.size + 1 + 1, 0, none⟩) 2 2] 64)).heap[wr.heap.size + 1]? = some (.cells #[.bool false, .int .u32 x.wd, .int .i64 x.off, .int .u32 x.msk, .int .i64 x.op, .int .u32 x.k, .int .i64 x.t, .int .i64 x.f, .int .i64 0, .slice (some ⟨wr.heap.size + 1 + 1, 0, none⟩) 2 2] 64) := by
            have h := heap_new (wr.alloc (.cells #[.bool false, .int .u32 x.wd, .int .i64 x.off, .int .u32 x.msk, .int .i64 x.op, .int .u32 x.k, .int .i64 x.t, .int .i64 x.f] 26)) (.cells #[.bool false, .int .u32 x.wd, .int .i64 x.off, .int .u32 x.msk, .int .i64 x.op, .int .u32 x.k, .int .i64 x.t, .int .i64 x.f, .int .i64 0, .slice (some ⟨wr.heap.size + 1 + 1, 0, none⟩) 2 2] 64)
            simpa using h
          have hA2 : (((wr.alloc (.cells #[.bool false, .int .u32 x.wd, .int .i64 x.off, .int .u32 x.msk, .int .i64 x.op, .int .u32 x.k, .int .i64 x.t, .int .i64 x.f] 26)).alloc (.cells #[.bool false, .int .u32 x.wd, .int .i64 x.off, .int .u32 x.msk, .int .i64 x.op, .int .u32 x.k, .int .i64 x.t, .int .i64 x.f, .int .i64 0, .slice (some ⟨wr.heap.size + 1 + 1, 0, none⟩) 2 2] 64)).alloc (.cells #[.int .i64 x.t, .bool false, .int .i64 x.f, .bool false] 66)).heap[wr.heap.size + 1 + 1]? = some (.cells #[.int .i64 x.t, .bool false, .int .i64 x.f, .bool false] 66) := by
            have h := heap_new ((wr.alloc (.cells #[.bool false, .int .u32 x.wd, .int .i64 x.off, .int .u32 x.msk, .int .i64 x.op, .int .u32 x.k, .int .i64 x.t, .int .i64 x.f] 26)).alloc (.cells #[.bool false, .int .u32 x.wd, .int .i64 x.off, .int .u32 x.msk, .int .i64 x.op, .int .u32 x.k, .int .i64 x.t, .int .i64 x.f, .int .i64 0, .slice (some ⟨wr.heap.size + 1 + 1, 0, none⟩) 2 2] 64)) (.cells #[.int .i64 x.t, .bool false, .int .i64 x.f, .bool false] 66)
            simpa using h
          have HP3 : Hid ((((wr.alloc (.cells #[.bool false, .int .u32 x.wd, .int .i64 x.off, .int .u32 x.msk, .int .i64 x.op, .int .u32 x.k, .int .i64 x.t, .int .i64 x.f] 26)).alloc (.cells #[.bool false, .int .u32 x.wd, .int .i64 x.off, .int .u32 x.msk, .int .i64 x.op, .int .u32 x.k, .int .i64 x.t, .int .i64 x.f, .int .i64 0, .slice (some ⟨wr.heap.size + 1 + 1, 0, none⟩) 2 2] 64)).alloc (.cells #[.int .i64 x.t, .bool false, .int .i64 x.f, .bool false] 66)).heap[wr.heap.size + 1]? = some (.cells (prow x 0 (waysV x (wr.heap.size + 1 + 1))).toArray 64 (0, 0))) := Lib.hid (by
            rw [heap_old hA _]
            have e : prow x 0 (waysV x (wr.heap.size + 1 + 1)) = [.bool false, .int .u32 x.wd, .int .i64 x.off, .int .u32 x.msk, .int .i64 x.op, .int .u32 x.k, .int .i64 x.t, .int .i64 x.f, .int .i64 0, .slice (some ⟨wr.heap.size + 1 + 1, 0, none⟩) 2 2] := by unfold prow waysV N8.cells; rw [hlf]; rfl
            rw [e])
          have HY3 : Hid ((((wr.alloc (.cells #[.bool false, .int .u32 x.wd, .int .i64 x.off, .int .u32 x.msk, .int .i64 x.op, .int .u32 x.k, .int .i64 x.t, .int .i64 x.f] 26)).alloc (.cells #[.bool false, .int .u32 x.wd, .int .i64 x.off, .int .u32 x.msk, .int .i64 x.op, .int .u32 x.k, .int .i64 x.t, .int .i64 x.f, .int .i64 0, .slice (some ⟨wr.heap.size + 1 + 1, 0, none⟩) 2 2] 64)).alloc (.cells #[.int .i64 x.t, .bool false, .int .i64 x.f, .bool false] 66)).heap[wr.heap.size + 1 + 1]? = some (.cells (wrow x (false, false)).toArray 66 (0, 0))) := Lib.hid hA2
          have HB3 : Hid (Below wr.heap.size wr (((wr.alloc (.cells #[.bool false, .int .u32 x.wd, .int .i64 x.off, .int .u32 x.msk, .int .i64 x.op, .int .u32 x.k, .int .i64 x.t, .int .i64 x.f] 26)).alloc (.cells #[.bool false, .int .u32 x.wd, .int .i64 x.off, .int .u32 x.msk, .int .i64 x.op, .int .u32 x.k, .int .i64 x.t, .int .i64 x.f, .int .i64 0, .slice (some ⟨wr.heap.size + 1 + 1, 0, none⟩) 2 2] 64)).alloc (.cells #[.int .i64 x.t, .bool false, .int .i64 x.f, .bool false] 66))) := Lib.hid (below_al (below_al (below1 wr _) _) _)
          have l8 : (((wr.alloc (.cells #[.bool false, .int .u32 x.wd, .int .i64 x.off, .int .u32 x.msk, .int .i64 x.op, .int .u32 x.k, .int .i64 x.t, .int .i64 x.f] 26)).alloc (.cells #[.bool false, .int .u32 x.wd, .int .i64 x.off, .int .u32 x.msk, .int .i64 x.op, .int .u32 x.k, .int .i64 x.t, .int .i64 x.f, .int .i64 0, .slice (some ⟨wr.heap.size + 1 + 1, 0, none⟩) 2 2] 64)).alloc (.cells #[.int .i64 x.t, .bool false, .int .i64 x.f, .bool false] 66)).cell? ⟨w.heap.size, 0, none⟩ = some v := keepB HB3.out hLl l0
          clear hlf hA hA2
          go_wp2_with (at_builtin; refine ptr_step HW.out HX.out hwl HB3.out HP3.out (fun _ => HY3.out) (by omega) (by omega) (by omega) (by omega) rfl (.tmp 35) (.tmp 37) rfl rfl (wr.heap.size + 1 + 1 + 1) (by simp) rfl ?_; intro g4 c4 w4 hc4 hf4 h4; have H4 := Lib.hid h4; clear h4)
          go_roundw
          case rel => exact ⟨k + 1, _, _, _, by omega, by go_num, H4⟩
          case measure => simp [intOf]; omega
      · obtain rfl : k = q.length := by omega
        obtain ⟨B, c, hla⟩ := HW.out.done a1
        have HLA := Lib.hid hla
        have HB := Lib.hid HW.out.below
        clear hla HW
        go_wp2
        go_step3
        go_wp2_with fail
        refine (place_c (farTo q 0) a2 _ HLA.out).mono ?_
        rintro e w1 ⟨rfl, h1, b1⟩
        have HB1 := Lib.hid (HB.out.trans b1)
        have H1 := Lib.hid h1
        clear h1 b1
        go_wp2_with fail
        refine (stretch_c (farTo q 0) (farTo_len q 0) HC.out w1 H1.out).mono ?_
        rintro e w2 ⟨rfl, h2, b2⟩
        have HB2 := Lib.hid (HB1.out.trans b2)
        have H2 := Lib.hid h2
        clear h2 b2
        cases hany : anyB q (farTo q 0) q.length with
        | true =>
          have HA := Lib.hid hany
          clear hany
          go_wp2
          go_step3
          exact ⟨rfl, ⟨_, _, _, _, _, _, _, _, _, _, _, _, _, _, _, _, _, _, _, _, _, _, _, _, _, _, _, _, _, _, _, _, _, _, _, _, _, _, _, _, _, _, _, _, _, _, _, 0 + 1, _, _, B, c, _, Pn, Yn, rfl, H2.out, HB2.out, rfl⟩⟩
        | false =>
          have HA := Lib.hid hany
          clear hany
          go_wp2
          simp only [Exit.jump]
          go_ret
          have hfx : farNext q (farTo q 0) = farTo q 0 := by have h := HA.out; unfold anyB at h; rw [farMid_end] at h; simpa using h
          exact ⟨w.heap.size, B, c, 0, Pn, Yn, rfl, hfx, by have h := H2.out; rw [hfx] at h; exact h, HB2.out⟩
  · rintro a W ⟨m0, hm0⟩
    have hleast := leastN_spec hm0
    obtain ⟨m, hm⟩ : ∃ m, m = leastN (AtLabel w w.heap.size q a W) := ⟨_, rfl⟩
    rw [← hm] at hleast
    simp only [← hm]
    have HM := Lib.hid hm
    clear hm hm0
    obtain ⟨u0, u1, u2, u4, u5, u6, u7, u8, u9, u10, u11, u12, u13, u14, u15, u16, u17, u18, u19, u20, u21, u22, u23, u24, u25, u26, u27, u28, u29, u30, u31, u32, u33, u34, u35, u36, u37, u38, u39, u40, u41, u42, u43, u44, u45, u46, k, size, L, B, c, first, Pn, Yn, rfl, hl, hb, hmk⟩ := hleast
    have HL := Lib.hid hl
    have HB := Lib.hid hb
    have HMK := Lib.hid hmk
    clear hl hb hmk
    go_wp2_with fail
    refine (place_c (farTo q k) a2 _ HL.out).mono ?_
    rintro e w1 ⟨rfl, h1, b1⟩
    have HB1 := Lib.hid (HB.out.trans b1)
    have H1 := Lib.hid h1
    clear h1 b1
    go_wp2_with fail
    refine (stretch_c (farTo q k) (farTo_len q k) HC.out w1 H1.out).mono ?_
    rintro e w2 ⟨rfl, h2, b2⟩
    have HB2 := Lib.hid (HB1.out.trans b2)
    have H2 := Lib.hid h2
    clear h2 b2
    cases hany : anyB q (farTo q k) q.length with
    | true =>
      have HA := Lib.hid hany
      clear hany
      go_wp2
      go_step3
      refine ⟨rfl, ⟨_, _, _, _, _, _, _, _, _, _, _, _, _, _, _, _, _, _, _, _, _, _, _, _, _, _, _, _, _, _, _, _, _, _, _, _, _, _, _, _, _, _, _, _, _, _, _, k + 1, _, L, B, c, _, Pn, Yn, rfl, H2.out, HB2.out, rfl⟩, ?_⟩
      refine Nat.lt_of_le_of_lt (leastN_le (m := shortN q.length (farTo q (k + 1))) ⟨_, _, _, _, _, _, _, _, _, _, _, _, _, _, _, _, _, _, _, _, _, _, _, _, _, _, _, _, _, _, _, _, _, _, _, _, _, _, _, _, _, _, _, _, _, _, k + 1, _, L, B, c, _, Pn, Yn, rfl, H2.out, HB2.out, rfl⟩) ?_
      rw [HMK.out]
      exact short_next (farTo_len q k) (by have h := HA.out; unfold anyB at h; rw [farMid_end] at h; simpa using h)
    | false =>
      have HA := Lib.hid hany
      clear hany
      go_wp2
      simp only [Exit.jump]
      go_ret
      have hfx : farNext q (farTo q k) = farTo q k := by have h := HA.out; unfold anyB at h; rw [farMid_end] at h; simpa using h
      exact ⟨L, B, c, k, Pn, Yn, rfl, hfx, by have h := H2.out; rw [hfx] at h; exact h, HB2.out⟩
end Go.Proofs.Ytkckaimefklenaa
