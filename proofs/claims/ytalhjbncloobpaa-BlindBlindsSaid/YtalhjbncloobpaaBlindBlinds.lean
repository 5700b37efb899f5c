import Derived.Test.YtalhjbncloobpaaBlindW5
import Derived.Test.YtalhjbncloobpaaBlindW6
import Derived.Test.YtalhjbncloobpaaBlindHead
import Derived.Test.YtalhjbncloobpaaBlindVar
import Derived.Deep.Cut
import Derived.Deep.CutBlock
set_option linter.unusedVariables false
set_option linter.unusedSimpArgs false
namespace Go.Proofs.Ytalhjbncloobpaa
open Go.RowKit Go.ChangeShapes Go.WideShapes Go.ChangeAt
open Go.ChangeMaps (open_string shut_string)
/-! BlindBlinds. -/
structure OwnBox (w : World) (regs : Int) (A : Option Addr) (cap : Nat) (q : List R7) (g P cap2 : Nat) (wc : World) : Prop where
  put : PutRel w regs g cap2 P q wc
  sf : SF w regs A q.length cap wc
  hg : w.heap.size + 1 ≤ g
  hP : w.heap.size + 1 ≤ P
  gl : g < wc.heap.size
  pl : P < wc.heap.size
/-- Some blocks may have been written. -/
structure KG (X : Nat → Prop) (W wr : World) : Prop where
  cell : ∀ b o, ¬ X b → wr.cell? ⟨b, o, none⟩ = W.cell? ⟨b, o, none⟩
  size : wr.heap.size = W.heap.size
theorem KG.refl (X : Nat → Prop) (W : World) : KG X W W := ⟨fun _ _ _ => rfl, rfl⟩
theorem KG.reads {X : Nat → Prop} {W wr : World} (h : KG X W wr) {B size n : Nat} {A : Option Addr} {xs : List Value} (hr : Reads W B size A n xs) (hX : ∀ b, X b → ∀ a, A = some a → a.block ≠ b) : Reads wr B size A n xs :=
  ⟨hr.1, fun hn => by
    obtain ⟨b, off, e, hb, hc⟩ := hr.2 hn
    exact ⟨b, off, e, hb, fun j u hu => (h.cell _ _ (fun hx => hX b hx _ e rfl)).trans (hc j u hu)⟩⟩
theorem KG.reads_lt {X : Nat → Prop} {W wr : World} (h : KG X W wr) {B size n : Nat} {A : Option Addr} {xs : List Value} (hr : Reads W B size A n xs) (hX : ∀ b, X b → B ≤ b) : Reads wr B size A n xs :=
  ⟨hr.1, fun hn => by
    obtain ⟨b, off, e, hb, hc⟩ := hr.2 hn
    exact ⟨b, off, e, hb, fun j u hu => (h.cell _ _ (fun hx => by have := hX b hx; omega)).trans (hc j u hu)⟩⟩
theorem KG.set {X : Nat → Prop} {W wr : World} (h : KG X W wr) (b o : Nat) (u : Value) (hb : X b) : KG X W (wr.setCell ⟨b, o, none⟩ u) :=
  ⟨fun b' o' hn => (World.cell?_setCell_far _ _ _ _ (by rintro rfl; exact hn hb)).trans (h.cell b' o' hn), by simpa [World.setCell] using h.size⟩
def There (W : World) (g m : Nat) : Prop := ∀ j, j < m → (W.cell? ⟨g, j, none⟩).isSome = true ∧ W.frozen? ⟨g, j, none⟩ = false
theorem There.set {W : World} {g m : Nat} (h : There W g m) (b o : Nat) (u : Value) : There (W.setCell ⟨b, o, none⟩ u) g m := fun j hj => ⟨isSome_set (h j hj).1, by rw [World.frozen?_setCell]; exact (h j hj).2⟩
theorem There.of {A : Option Addr} {g m : Nat} {W : World} (e : A = some ⟨g, 0, none⟩) (h : There W g m) : ∀ a, A = some a → There W a.block m := by
  intro a ha
  rw [e] at ha
  injection ha with ha
  subst ha
  exact h
set_option maxRecDepth 100000 in
set_option maxHeartbeats 20000000 in
theorem BlindBlinds_w (regs : Int) (A : Option Addr) (cap : Nat) (q : List R7) (A1 : Option Addr) (cap1 : Nat) (ws : List Int) (A2 : Option Addr) (cap2 : Nat) (l : List Int) (w : World) (hg : inI64 regs) (hq : ∀ x ∈ q, x.ok) (hc : q.length ≤ cap) (hA : A = none → cap = 0) (hB : q.length * 56 ≤ 140737488351232) (hr : Reads w w.heap.size 7 A q.length (cellsR q))
    (hq1 : ∀ x ∈ ws, 0 ≤ x ∧ x < 4294967296) (hc1 : ws.length ≤ cap1) (hA1 : A1 = none → cap1 = 0) (hB1 : ws.length * 4 ≤ 140737488351232) (hr1 : Reads w w.heap.size 1 A1 ws.length (numV .u32 ws))
    (hq2 : ∀ x ∈ l, 0 ≤ x ∧ x < 4294967296) (hc2 : l.length ≤ cap2) (hA2 : A2 = none → cap2 = 0) (hB2 : l.length * 4 ≤ 140737488351232) (hr2 : Reads w w.heap.size 1 A2 l.length (numV .u32 l)) :
    Calls Try.prog 4 #[.agg #[.int .i64 regs, .slice A q.length cap], .slice A1 ws.length cap1, .slice A2 l.length cap2] w fun e w' => e = .returned (.bool true) ∧ Below w.heap.size w w' := by
  have HR := Lib.hid hr
  have HQ := Lib.hid hq
  have HR1 := Lib.hid hr1
  have HR2 := Lib.hid hr2
  have HQ1 := Lib.hid hq1
  have HQ2 := Lib.hid hq2
  have HA := Lib.hid hA
  have HA1 := Lib.hid hA1
  obtain ⟨⟨R, L, E⟩, hP⟩ : ∃ P, P = blindP regs q ws := ⟨_, rfl⟩
  have HP := Lib.hid hP
  have hL : L.length ≤ 65536 ∨ L = q := by
    have : (blindP regs q ws).2.1.length ≤ 65536 ∨ (blindP regs q ws).2.1 = q := by
      unfold blindP
      split
      · exact .inl (by simp)
      · split
        · exact .inr rfl
        · split
          · exact .inl (by simp)
          · split
            · exact .inl (by simp)
            · refine .inl ?_
              simp only
              rw [blindQ_length, placeB_end]; omega
    rw [← hP] at this
    exact this
  have hL56 : L.length * 56 ≤ 140737488351232 := by
    rcases hL with h | h
    · omega
    · rw [h]; exact hB
  obtain ⟨⟨C, F⟩, hCF⟩ : ∃ P, P = countP regs q := ⟨_, rfl⟩
  have HCF := Lib.hid hCF
  clear hr hq hA hr1 hq1 hA1 hr2 hq2 hA2 hg hP hL hCF
  obtain ⟨i0, HI⟩ : ∃ i0, Hid (Try.prog.info? 34 = some i0 ∧ i0.zero = some (.agg #[.int .i64 0, .int .i64 0, .int .i64 0, .int .i64 0, .int .u32 0, .int .i64 0, .int .i64 0]) ∧ i0.size = 7 ∧ i0.bytes = 56) := by
    obtain ⟨i0, hi, hz0, hz1, hz2⟩ := info_parts infoR
    exact ⟨i0, Lib.hid ⟨hi, hz0, hz1, hz2⟩⟩
  obtain ⟨i2, HI2⟩ : ∃ i0, Hid (Try.prog.info? 30 = some i0 ∧ i0.zero = some (.int .u32 0) ∧ i0.size = 1 ∧ i0.bytes = 4) := by
    obtain ⟨i0, hi, hz0, hz1, hz2⟩ := info_parts infoU32
    exact ⟨i0, Lib.hid ⟨hi, hz0, hz1, hz2⟩⟩
  go_enter Try.func4, Try.ntmps4
  go_wp2_with fail
  refine (lives21_c _).mono ?_
  rintro e W0 ⟨rfl, hb1⟩
  have hS0 : SF w regs A q.length cap W0 := ⟨keepC hb1 (by simp [go_sem]), keepC hb1 (by simp [go_sem]), below_t (below1 w _) hb1, by have := hb1.size; simpa using this⟩
  have HS := Lib.hid hS0
  have HZ := Lib.hid hS0.2.2.2
  have hz1 := hS0.2.2.2
  clear hS0 hb1
  go_wp2_with fail
  go_cut [8] from 28 (fun s8 wc => ∃ g P cap3, s8 = .pointer (some ⟨P, 0, none⟩) ∧ Hid (OwnBox w regs A cap q g P cap3 wc))
  case first =>
    go_region_held3 (fun W => W.cell? ⟨w.heap.size, 0, none⟩ = some (.int .i64 regs) ∧ W.cell? ⟨w.heap.size, 1, none⟩ = some (.slice A q.length cap) ∧ Below w.heap.size w W ∧ w.heap.size + 1 ≤ W.heap.size)
      ((refine SF.c ?_; with_reducible (repeat (first | exact HS.out | exact hs1 | apply SF.al | apply SF.dr | (refine SF.set ?_ _ _ _ (by omega))))))
      (first
       | ((refine step_app rfl (.tmp 31) (.tmp 33) 23 rfl (w.heap.size + 1) 34 i0 _ 7 56 Try.underlying23 HI.out.1 HI.out.2.1 HI.out.2.2.1 HI.out.2.2.2 rfl (by decide) _ 0 [] rfl (by first | exact lit0 W0 _ HZ.out | exact (lit0 W0 _ HZ.out).alloc _ | exact lit1 W0 _ _ HZ.out) A w.heap.size q.length cap (cellsR q) rfl HA.out (HR.out.below (by first | exact below_dr (below_al HS.out.2.2.1 _) | exact below_dr (below_al (below_al HS.out.2.2.1 _) _))) (cellsR_one q) (by simp only [maxLen]; omega) (by omega) (by have := HZ.out; simp at this ⊢; omega) ?_; intro v1 w1 hown1 hg1 hnil; have hs1 : SF w regs A q.length cap w1 := (by first | exact (HS.out.al _).dr.grown2 hg1 (fun k hk => by have hk2 := Option.some.inj hk; have := HZ.out; simp at hk2; omega) | exact ((HS.out.al _).al _).dr.grown2 hg1 (fun k hk => by have hk2 := Option.some.inj hk; have := HZ.out; simp at hk2; omega)); have hz2 : w.heap.size + 1 ≤ w1.heap.size := hs1.2.2.2; (first | (have hp := var_last hg1; obtain ⟨p1, p2, p3, p4⟩ := hp.facts) | (have hp := var_first hg1; obtain ⟨p1, p2, p3, p4⟩ := hp.facts) | skip); (simp only [Nat.zero_add, List.nil_append] at hown1); have hsz1 := hg1.size; obtain ⟨g, cap2', hv1, hge, hlt, hcur⟩ := own_form hown1 (fun e => by have := (hnil.1 e).1; cases this); subst hv1; clear hg1 hnil)))
    all_goals (
      rename_i hHeld
      clear hHeld
      simp at hsz1
      go_wp2
      go_meet
      first
      | (have hgP : g ≠ W0.heap.size + 1 := hp.ne hcur
         have hput := put_old hs1 HQ.out hown1 hp hgP (by omega)
         have hSF := sf_old hs1 (P := W0.heap.size + 1) (by omega) (.int .i64 regs) (.slice (some ⟨g, 0, none⟩) q.length cap2')
         exact ⟨g, _, cap2', rfl, Lib.hid ⟨hput, hSF, by omega, by omega, by simp [World.setCell]; omega, by simp [World.setCell]; omega⟩⟩)
      | (have hgP : g ≠ W0.heap.size := hp.ne hcur
         have hput := put_old hs1 HQ.out hown1 hp hgP (by omega)
         have hSF := sf_old hs1 (P := W0.heap.size) (by omega) (.int .i64 regs) (.slice (some ⟨g, 0, none⟩) q.length cap2')
         exact ⟨g, _, cap2', rfl, Lib.hid ⟨hput, hSF, by omega, by omega, by simp [World.setCell]; omega, by simp [World.setCell]; omega⟩⟩)
      | (have hput := put_new (base := 0) hs1 HQ.out hown1 25
         have hSF := hs1.al (.cells #[.int .i64 regs, .slice (some ⟨g, 0, none⟩) q.length cap2'] 25)
         exact ⟨g, _, cap2', rfl, Lib.hid ⟨hput, hSF, by omega, by omega, by simp; omega, by simp⟩⟩))
  case rest =>
    obtain ⟨g, P, capo, rfl, HO⟩ := hcut
    have hpl := HO.out.pl
    have hcapo := own_cap HO.out.put.2.1
    have hlit : (wc.alloc (.cells #[] 30)).ownsRow wc.heap.size 30 1 (.slice (some ⟨wc.heap.size, 0, none⟩) 0 0) 0 [] := World.ownsRow_lit wc #[] 0 (Nat.le_refl _) (by decide) rfl
    have tok : True := trivial
    go_wp2_with (at_builtin; have _t := tok; clear tok; go_must (refine wpList_app rfl (.tmp 36) (.tmp 37) 31 rfl wc.heap.size 30 i2 _ 1 4 Try.underlying31 HI2.out.1 HI2.out.2.1 HI2.out.2.2.1 HI2.out.2.2.2 rfl (by decide) _ 0 [] rfl hlit A1 w.heap.size ws.length cap1 (numV .u32 ws) rfl HA1.out ((HR1.out.below HO.out.sf.2.2.1).alloc (by have := HO.out.sf.2.2.2; omega) _) (numV_one .u32 ws) (by simp only [maxLen]; omega) (by omega) (by simp) ?_; intro v9 w3 hown9 hg9 _; have hb3 : Below wc.heap.size wc w3 := below_gr (below1 wc _) hg9 (by simp) (fun k hk => Nat.le_of_eq (Option.some.inj hk)); (simp only [Nat.zero_add, List.nil_append] at hown9); obtain ⟨A9, cap9, hv9, hc9, -, hr9, -⟩ := own_slice hown9; subst hv9; have c0 := keepC hb3 HO.out.sf.1; have c1 := keepC hb3 HO.out.sf.2.1; have p0 := keepC hb3 HO.out.put.2.2.2.1; have p1 := keepC hb3 HO.out.put.2.2.2.2; have HR9 := Lib.hid hr9; have BW_0 : Below w.heap.size w w3 := below_t HO.out.sf.2.2.1 hb3; have BC_0 := hb3; clear hown9 hg9 hr9 hlit hb3))
    have hwc3 := BC_0.size
    have hww3 := BW_0.size
    have hwwc := HO.out.sf.2.2.2
    have HRO := Lib.hid HO.out.put.reads
    refine (Blind_c (some ⟨g, 0, none⟩) regs capo q A9 cap9 ws HQ.out (fun h => by cases h) hcapo hB hc9 hB1 w3 (HRO.out.up BC_0) HR9.out).mono ?_
    rintro e w4 ⟨v10, rfl, hown10, hb4⟩
    rw [← HP.out] at hown10 ⊢
    dsimp only at hown10 ⊢
    obtain ⟨A10, cap10, rfl, hc10, -, hr10, hX10⟩ := own_slice hown10
    have HR10 := Lib.hid hr10
    have HO10 := Lib.hid hown10
    have HX10 := Lib.hid hX10
    have c01 := keepC hb4 c0
    have c11 := keepC hb4 c1
    have p01 := keepC hb4 p0
    have p11 := keepC hb4 p1
    clear c0 c1 p0 p1
    have B3_0 := hb4
    have BW_1 := below_t BW_0 hb4
    have BC_1 := below_t BC_0 hb4
    clear BW_0 BC_0
    have hs34 := hb4.size
    clear hb4 hr10 hown10 hX10
    have hbx := below1 w4 (.cells #[.int .i64 R, .slice A10 L.length cap10] 25)
    have c02 := keepC hbx c01
    have c12 := keepC hbx c11
    have p02 := keepC hbx p01
    have p12 := keepC hbx p11
    clear c01 c11 p01 p11
    have d0 : (w4.alloc (.cells #[.int .i64 R, .slice A10 L.length cap10] 25)).cell? ⟨w4.heap.size, 0, none⟩ = some (.int .i64 R) := by simp [go_sem]
    have d1 : (w4.alloc (.cells #[.int .i64 R, .slice A10 L.length cap10] 25)).cell? ⟨w4.heap.size, 1, none⟩ = some (.slice A10 L.length cap10) := by simp [go_sem]
    have BW_2 := below_t BW_1 hbx
    have BC_2 := below_t BC_1 hbx
    have B3_1 := below_t B3_0 hbx
    clear BW_1 BC_1 B3_0
    have B4_0 := hbx
    clear hbx
    go_wp2_with fail
    refine (Blind_c (some ⟨g, 0, none⟩) regs capo q A9 cap9 ws HQ.out (fun h => by cases h) hcapo hB hc9 hB1 _ (HRO.out.up BC_2) (HR9.out.up B3_1)).mono ?_
    rintro e w5 ⟨v12, rfl, hown12, hb5⟩
    rw [← HP.out] at hown12 ⊢
    dsimp only at hown12 ⊢
    obtain ⟨A12, cap12, rfl, hc12, -, hr12, hX12⟩ := own_slice hown12
    have HR12 := Lib.hid hr12
    have HX12 : Hid (∀ a, A12 = some a → w4.heap.size ≤ a.block) := Lib.hid (fun a e => by have := (hX12 a e).2.1; simp at this; omega)
    have c03 := keepC hb5 c02
    have c13 := keepC hb5 c12
    have p03 := keepC hb5 p02
    have p13 := keepC hb5 p12
    have d01 := keepC hb5 d0
    have d11 := keepC hb5 d1
    clear c02 c12 p02 p12 d0 d1
    have BW_3 := below_t BW_2 hb5
    have BC_3 := below_t BC_2 hb5
    have B3_2 := below_t B3_1 hb5
    have B4_1 := below_t B4_0 hb5
    clear BW_2 BC_2 B3_1 B4_0
    clear hb5 hr12 hown12 hX12
    have hs45 := (B4_1).size
    have hbx := below1 w5 (.cells #[.int .i64 R, .slice A12 L.length cap12] 25)
    have c04 := keepC hbx c03
    have c14 := keepC hbx c13
    have p04 := keepC hbx p03
    have p14 := keepC hbx p13
    have d02 := keepC hbx d01
    have d12 := keepC hbx d11
    clear c03 c13 p03 p13 d01 d11
    have e0 : (w5.alloc (.cells #[.int .i64 R, .slice A12 L.length cap12] 25)).cell? ⟨w5.heap.size, 0, none⟩ = some (.int .i64 R) := by simp [go_sem]
    have e1 : (w5.alloc (.cells #[.int .i64 R, .slice A12 L.length cap12] 25)).cell? ⟨w5.heap.size, 1, none⟩ = some (.slice A12 L.length cap12) := by simp [go_sem]
    have BW_4 := below_t BW_3 hbx
    have BC_4 := below_t BC_3 hbx
    have B3_3 := below_t B3_2 hbx
    have B4_2 := below_t B4_1 hbx
    clear BW_3 BC_3 B3_2 B4_1
    have B5_0 := hbx
    clear hbx
    go_wp2_with fail
    refine (rBlind_c A regs cap q A1 cap1 ws HQ.out HA.out hc hB hc1 hB1 _ (HR.out.up BW_4) (HR1.out.up BW_4)).mono ?_
    rintro e w6 ⟨v14, rfl, hown14, hb6⟩
    rw [← HP.out] at hown14 ⊢
    dsimp only at hown14 ⊢
    obtain ⟨A14, cap14, rfl, hc14, -, hr14, hX14⟩ := own_slice hown14
    have HR14 := Lib.hid hr14
    have HX14 : Hid (∀ a, A14 = some a → w5.heap.size ≤ a.block) := Lib.hid (fun a e => by have := (hX14 a e).2.1; simp at this; omega)
    have c05 := keepC hb6 c04
    have c15 := keepC hb6 c14
    have p05 := keepC hb6 p04
    have p15 := keepC hb6 p14
    have d03 := keepC hb6 d02
    have d13 := keepC hb6 d12
    have e01 := keepC hb6 e0
    have e11 := keepC hb6 e1
    clear c04 c14 p04 p14 d02 d12 e0 e1
    have BW_5 := below_t BW_4 hb6
    have BC_5 := below_t BC_4 hb6
    have B3_4 := below_t B3_3 hb6
    have B4_3 := below_t B4_2 hb6
    have B5_1 := below_t B5_0 hb6
    clear BW_4 BC_4 B3_3 B4_2 B5_0
    clear hb6 hr14 hown14 hX14
    have hs56 := (B5_1).size
    have hbx := below1 w6 (.cells #[.int .i64 R, .slice A14 L.length cap14] 25)
    have c06 := keepC hbx c05
    have c16 := keepC hbx c15
    have p06 := keepC hbx p05
    have p16 := keepC hbx p15
    have d04 := keepC hbx d03
    have d14 := keepC hbx d13
    have e02 := keepC hbx e01
    have e12 := keepC hbx e11
    clear c05 c15 p05 p15 d03 d13 e01 e11
    have f0 : (w6.alloc (.cells #[.int .i64 R, .slice A14 L.length cap14] 25)).cell? ⟨w6.heap.size, 0, none⟩ = some (.int .i64 R) := by simp [go_sem]
    have f1 : (w6.alloc (.cells #[.int .i64 R, .slice A14 L.length cap14] 25)).cell? ⟨w6.heap.size, 1, none⟩ = some (.slice A14 L.length cap14) := by simp [go_sem]
    have BW_6 := below_t BW_5 hbx
    have BC_6 := below_t BC_5 hbx
    have B3_5 := below_t B3_4 hbx
    have B4_4 := below_t B4_3 hbx
    have B5_2 := below_t B5_1 hbx
    clear BW_5 BC_5 B3_4 B4_3 B5_1
    have B6_0 := hbx
    clear hbx
    go_wp2_with fail
    refine (Count_c (some ⟨g, 0, none⟩) regs capo q HQ.out (by omega) _ (HRO.out.up BC_6)).mono ?_
    rintro e w7 ⟨rfl, hb7⟩
    rw [← HCF.out]
    dsimp only
    have c07 := keepC hb7 c06
    have c17 := keepC hb7 c16
    have p07 := keepC hb7 p06
    have p17 := keepC hb7 p16
    have d05 := keepC hb7 d04
    have d15 := keepC hb7 d14
    have e03 := keepC hb7 e02
    have e13 := keepC hb7 e12
    have f01 := keepC hb7 f0
    have f11 := keepC hb7 f1
    clear c06 c16 p06 p16 d04 d14 e02 e12 f0 f1
    have BW_7 := below_t BW_6 hb7
    have BC_7 := below_t BC_6 hb7
    have B3_6 := below_t B3_5 hb7
    have B4_5 := below_t B4_4 hb7
    have B5_3 := below_t B5_2 hb7
    have B6_1 := below_t B6_0 hb7
    clear BW_6 BC_6 B3_5 B4_4 B5_2 B6_0
    clear hb7
    go_wp2_with fail
    refine (rCount_c A regs cap q HQ.out (by omega) _ (HR.out.up BW_7)).mono ?_
    rintro e w8 ⟨rfl, hb8⟩
    rw [← HCF.out]
    dsimp only
    have c08 := keepC hb8 c07
    have c18 := keepC hb8 c17
    have p08 := keepC hb8 p07
    have p18 := keepC hb8 p17
    have d06 := keepC hb8 d05
    have d16 := keepC hb8 d15
    have e04 := keepC hb8 e03
    have e14 := keepC hb8 e13
    have f02 := keepC hb8 f01
    have f12 := keepC hb8 f11
    clear c07 c17 p07 p17 d05 d15 e03 e13 f01 f11
    have BW_8 := below_t BW_7 hb8
    have BC_8 := below_t BC_7 hb8
    have B3_7 := below_t B3_6 hb8
    have B4_6 := below_t B4_5 hb8
    have B5_4 := below_t B5_3 hb8
    have B6_2 := below_t B6_1 hb8
    clear BW_7 BC_7 B3_6 B4_5 B5_3 B6_1
    clear hb8
    go_wp2_with fail
    refine (rSame_c A10 A14 R cap10 cap14 L _ hL56 (HR10.out.up B4_6) (HR14.out.up B6_2)).mono ?_
    rintro e w9 ⟨rfl, hb9⟩
    have c09 := keepC hb9 c08
    have c19 := keepC hb9 c18
    have p09 := keepC hb9 p08
    have p19 := keepC hb9 p18
    have d07 := keepC hb9 d06
    have d17 := keepC hb9 d16
    have e05 := keepC hb9 e04
    have e15 := keepC hb9 e14
    have f03 := keepC hb9 f02
    have f13 := keepC hb9 f12
    clear c08 c18 p08 p18 d06 d16 e04 e14 f02 f12
    have BW_9 := below_t BW_8 hb9
    have BC_9 := below_t BC_8 hb9
    have B3_8 := below_t B3_7 hb9
    have B4_7 := below_t B4_6 hb9
    have B5_5 := below_t B5_4 hb9
    have B6_3 := below_t B6_2 hb9
    clear BW_8 BC_8 B3_7 B4_6 B5_4 B6_2
    clear hb9
    have HOW : Hid (w9.ownsRow w3.heap.size 34 7 (.slice A10 L.length cap10) L.length (cellsR L)) := Lib.hid (own_up HO10.out B4_7)
    have Hc0 := Lib.hid c09
    have Hc1 := Lib.hid c19
    have Hp0 := Lib.hid p09
    have Hp1 := Lib.hid p19
    have Hd0 := Lib.hid d07
    have Hd1 := Lib.hid d17
    have He0 := Lib.hid e05
    have He1 := Lib.hid e15
    have Hf0 := Lib.hid f03
    have Hf1 := Lib.hid f13
    clear c09 c19 p09 p19 e05 e15 f03 f13
    have HBW := Lib.hid BW_9
    go_wp2_with fail
    obtain ⟨X, hXd⟩ : ∃ X : Nat → Prop, X = fun b => ∃ a, A10 = some a ∧ a.block = b := ⟨_, rfl⟩
    have HXr : Hid (∀ b, X b → w3.heap.size ≤ b ∧ b < w4.heap.size) := Lib.hid (by rw [hXd]; rintro b ⟨a, ha, rfl⟩; exact (HX10.out a ha).2)
    have HXd := Lib.hid hXd
    clear hXd
    go_loopw [21] (fun i wr => ∃ n : Nat, n ≤ L.length ∧ i = .int .i64 n ∧ Hid (KG X w9 wr) ∧ Hid (Below w.heap.size w wr) ∧ Hid (∀ a, A10 = some a → There wr a.block (L.length * 7))) (fun i _ => L.length - (intOf i).toNat)
    case atStart =>
      refine ⟨0, by omega, rfl, Lib.hid (KG.refl _ _), HBW, Lib.hid (fun a ha j hj => ?_)⟩
      subst ha
      obtain ⟨ho, hge, hlt⟩ := HX10.out a rfl
      obtain ⟨ab, ao, at_⟩ := a
      simp only at ho
      subst ho
      obtain ⟨g10, cap', hv, -, -⟩ := HOW.out.form (by omega)
      injection hv with hv1 hv2 hv3
      injection hv1 with hv1
      injection hv1 with hv1 hv4 hv5
      subst hv1 hv5
      refine ⟨?_, HOW.out.frozenAt j⟩
      rw [HOW.out.cellAt j hj]
      have hjl : j < (cellsR L).length := by rw [cellsR_length]; exact hj
      rw [List.getElem?_eq_getElem hjl]; rfl
    case round =>
      obtain ⟨n, hn6, rfl, HK, HBr, HTh⟩ := hrel
      have dd : wr.cell? ⟨w4.heap.size, 1, none⟩ = some (.slice A10 L.length cap10) := (HK.out.cell _ 1 (fun hx => by have := (HXr.out _ hx).2; omega)).trans Hd1.out
      by_cases h6 : n < L.length
      · obtain ⟨g10, cap', hv, -, -⟩ := HOW.out.form (by omega)
        injection hv with hv1 hv2 hv3
        subst hv1 hv3
        have hth := fun j hj => HTh.out _ rfl j hj
        have HTT : Hid (There wr g10 (L.length * 7)) := Lib.hid (HTh.out _ rfl)
        have r0 := cellD_of (hth (n * 7) (by omega)).1
        have r1 := cellD_of (hth (n * 7 + 1) (by omega)).1
        have r2 := cellD_of (hth (n * 7 + 2) (by omega)).1
        have r3 := cellD_of (hth (n * 7 + 3) (by omega)).1
        have r4 := cellD_of (hth (n * 7 + 4) (by omega)).1
        have r5 := cellD_of (hth (n * 7 + 5) (by omega)).1
        have r6 := cellD_of (hth (n * 7 + 6) (by omega)).1
        have q0 := (hth (n * 7) (by omega)).2
        have q1 := (hth (n * 7 + 1) (by omega)).2
        have q2 := (hth (n * 7 + 2) (by omega)).2
        have q3 := (hth (n * 7 + 3) (by omega)).2
        have q4 := (hth (n * 7 + 4) (by omega)).2
        have q5 := (hth (n * 7 + 5) (by omega)).2
        have q6 := (hth (n * 7 + 6) (by omega)).2
        have hlt1 : (n : Int) < L.length := by omega
        have hXg : X g10 := by rw [HXd.out]; exact ⟨_, rfl, rfl⟩
        have hge : w.heap.size ≤ g10 := by have := (HX10.out _ rfl).2.1; simp at this; omega
        have HXG := Lib.hid hXg
        clear hXg
        go_wp2
        go_roundw
        case rel =>
          refine ⟨n + 1, by omega, by go_num, Lib.hid ?_, Lib.hid ?_, Lib.hid ?_⟩
          · with_reducible (repeat (first | exact HK.out | refine KG.set ?_ _ _ _ HXG.out))
          · with_reducible (repeat (first | exact HBr.out | refine Below.setCell ?_ hge _))
          · refine There.of rfl ?_
            have hTT := HTT.out
            with_reducible (repeat (first | exact hTT | refine There.set ?_ _ _ _))
        case measure => simp [intOf]; omega
      · have hsz9 := HK.out.size
        have HRO9 := Lib.hid (HRO.out.below BC_9)
        have HR12' := Lib.hid ((HK.out.reads (HR12.out.up B5_5) (fun b hb a ha => by have h1 := (HXr.out b hb).2; have h2 := HX12.out a ha; omega)).more (show w9.heap.size ≤ wr.heap.size by omega))
        have HR14' := Lib.hid ((HK.out.reads (HR14.out.up B6_3) (fun b hb a ha => by have h1 := (HXr.out b hb).2; have h2 := HX14.out a ha; omega)).more (show w9.heap.size ≤ wr.heap.size by omega))
        have HROr := Lib.hid ((HK.out.reads_lt HRO9.out (fun b hb => by have h1 := (HXr.out b hb).1; omega)).more (show wc.heap.size ≤ wr.heap.size by have := BC_9.size; omega))
        have HR9r := Lib.hid ((HK.out.reads_lt (HR9.out.below B3_8) (fun b hb => by have h1 := (HXr.out b hb).1; omega)).more (show w3.heap.size ≤ wr.heap.size by have := B3_8.size; omega))
        have hnx : ∀ b, (b < w3.heap.size ∨ w4.heap.size ≤ b) → ¬ X b := fun b h hx => by have h1 := HXr.out b hx; omega
        have x_e0 := (HK.out.cell _ 0 (hnx w5.heap.size (by omega))).trans He0.out
        have x_e1 := (HK.out.cell _ 1 (hnx w5.heap.size (by omega))).trans He1.out
        have x_f0 := (HK.out.cell _ 0 (hnx w6.heap.size (by have := hs56; omega))).trans Hf0.out
        have x_f1 := (HK.out.cell _ 1 (hnx w6.heap.size (by have := hs56; omega))).trans Hf1.out
        have x_p0 := (HK.out.cell _ 0 (hnx P (by omega))).trans Hp0.out
        have x_p1 := (HK.out.cell _ 1 (hnx P (by omega))).trans Hp1.out
        have x_c0 := (HK.out.cell _ 0 (hnx w.heap.size (by omega))).trans Hc0.out
        have x_c1 := (HK.out.cell _ 1 (hnx w.heap.size (by omega))).trans Hc1.out
        clear HTh HK Hd0 Hd1 He0 He1 Hf0 Hf1 Hp0 Hp1 Hc0 Hc1 d07 d17 hnx
        have hBr := HBr.out
        go_wp2_with fail
        refine (rSame_c A12 A14 R cap12 cap14 L wr hL56 HR12'.out HR14'.out).mono ?_
        rintro e w10 ⟨rfl, hb10⟩
        have y_p0 := keepC hb10 x_p0
        have y_p1 := keepC hb10 x_p1
        have y_c0 := keepC hb10 x_c0
        have y_c1 := keepC hb10 x_c1
        have hB10 := below_t hBr hb10
        have HK10 := Lib.hid hb10
        clear x_e0 x_e1 x_f0 x_f1 x_p0 x_p1 x_c0 x_c1 hb10
        go_wp2_with fail
        refine (rSame_c (some ⟨g, 0, none⟩) A regs capo cap q w10 hB (HROr.out.up HK10.out) (HR.out.up hB10)).mono ?_
        rintro e w11 ⟨rfl, hb11⟩
        have x_c0 := keepC hb11 y_c0
        have x_c1 := keepC hb11 y_c1
        have hB11 := below_t hB10 hb11
        have HK11 := Lib.hid (below_t HK10.out hb11)
        have HR911 := Lib.hid (HR9r.out.up HK11.out)
        have HR111 := Lib.hid (HR1.out.up hB11)
        clear y_p0 y_p1 y_c0 y_c1 hb11 hB10
        go_wp2_with fail
        go_loopw [22, 23] (fun st i wr => ∃ n : Nat, n ≤ ws.length ∧ i = .int .i64 n ∧ st = .bool true ∧ Below w11.heap.size w11 wr) (fun _ i _ => ws.length - (intOf i).toNat)
        case atStart => exact ⟨0, by omega, rfl, rfl, Below.refl _ _⟩
        case round =>
          obtain ⟨n2, hn2, rfl, rfl, hBn⟩ := hrel
          by_cases h7 : n2 < ws.length
          · obtain ⟨x, hx⟩ : ∃ x, ws[n2]? = some x := ⟨_, List.getElem?_eq_getElem h7⟩
            obtain ⟨b9, o9, e9, -, hc9'⟩ := (HR911.out.up hBn).num hx
            obtain ⟨b1, o1, e1, -, hc1'⟩ := (HR111.out.up hBn).num hx
            subst e9 e1
            have hlt2 : (n2 : Int) < ws.length := by omega
            clear hx
            go_wp2
            go_quiet (fail)
            go_wp2
            go_roundw
            case rel => exact ⟨n2 + 1, by omega, by go_num, rfl, below_drN hBn _⟩
            case measure => simp [intOf]; omega
          · have z_c0 := keepC hBn x_c0
            have z_c1 := keepC hBn x_c1
            have hB12 := below_t hB11 hBn
            go_wp2_with fail
            refine (Constants_c A regs cap q hB _ (HR.out.up hB12)).mono ?_
            rintro e w13 ⟨vc, rfl, hNc⟩
            obtain ⟨Ac, capc, hvc, -, -, hrc, -⟩ := own_slice hNc.1
            subst hvc
            have HRC := Lib.hid hrc
            have hb13 := hNc.2
            have y_c0 := keepC hb13 z_c0
            have y_c1 := keepC hb13 z_c1
            have hB13 := below_t hB12 hb13
            clear z_c0 z_c1 hb13 hNc hrc hBn
            go_wp2_with fail
            refine (rConstants_c A regs cap q hB _ (HR.out.up hB13)).mono ?_
            rintro e w14 ⟨vd, rfl, hNd⟩
            obtain ⟨Ad, capd, hvd, -, -, hrd, -⟩ := own_slice hNd.1
            subst hvd
            have HRD := Lib.hid hrd
            have HRC2 := Lib.hid (HRC.out.up hNd.2)
            have hB14 := below_t hB13 hNd.2
            obtain ⟨cl, hcl⟩ : ∃ cl, cl = constsP q q.length := ⟨_, rfl⟩
            have hcll : cl.length ≤ q.length := by rw [hcl]; exact constsP_len q _
            have HRC3 : Hid (Reads w14 w14.heap.size 1 Ac cl.length (numV .u32 cl)) := by rw [hcl]; exact HRC2
            have HRD3 : Hid (Reads w14 w14.heap.size 1 Ad cl.length (numV .u32 cl)) := by rw [hcl]; exact HRD
            rw [← hcl]
            clear hNd hrd y_c0 y_c1 hcl HRC2 HRD HRC
            go_wp2_with fail
            go_loopw [26] (fun i wr => ∃ n : Nat, n ≤ cl.length ∧ i = .int .i64 n ∧ Below w14.heap.size w14 wr) (fun i _ => cl.length - (intOf i).toNat)
            case atStart => exact ⟨0, by omega, rfl, Below.refl _ _⟩
            case round =>
              obtain ⟨n3, hn3, rfl, hBm⟩ := hrel
              by_cases h8 : n3 < cl.length
              · obtain ⟨x, hx⟩ : ∃ x, cl[n3]? = some x := ⟨_, List.getElem?_eq_getElem h8⟩
                obtain ⟨b9, o9, e9, -, hc9'⟩ := (HRC3.out.up hBm).num hx
                obtain ⟨b1, o1, e1, -, hc1'⟩ := (HRD3.out.up hBm).num hx
                subst e9 e1
                have hlt3 : (n3 : Int) < cl.length := by omega
                clear hx
                go_wp2
                go_quiet (fail)
                go_wp2
                go_roundw
                case rel => exact ⟨n3 + 1, by omega, by go_num, below_drN hBm _⟩
                case measure => simp [intOf]; omega
              · have hB15 := below_t hB14 hBm
                clear hBm
                go_wp2_with fail
                go_loopw [27] (fun i wr => ∃ n : Nat, n ≤ l.length ∧ i = .int .i64 n ∧ Below w.heap.size w wr) (fun i _ => l.length - (intOf i).toNat)
                case atStart => exact ⟨0, by omega, rfl, hB15⟩
                case round =>
                  obtain ⟨n4, hn4, rfl, hBk⟩ := hrel
                  by_cases h9 : n4 < l.length
                  · obtain ⟨x, hx⟩ : ∃ x, l[n4]? = some x := ⟨_, List.getElem?_eq_getElem h9⟩
                    obtain ⟨b9, o9, e9, -, hc9'⟩ := (HR2.out.up hBk).num hx
                    subst e9
                    have HXK := Lib.hid (show u32ok x from HQ2.out x (List.mem_of_getElem? hx))
                    have hlt4 : (n4 : Int) < l.length := by omega
                    clear hx
                    go_wp2
                    go_quiet (first | (go_at_call 18; exact Calls.quiet_of_same ((Exempt_c x HXK.out _).mono fun e w' ⟨h1, h2⟩ => ⟨h1, h2.symm⟩)) | (go_at_call 25; exact Calls.quiet_of_same ((rExempt_c x HXK.out _).mono fun e w' ⟨h1, h2⟩ => ⟨h1, h2.symm⟩)))
                    go_wp2
                    go_roundw
                    case rel => exact ⟨n4 + 1, by omega, by go_num, below_drN hBk _⟩
                    case measure => simp [intOf]; omega
                  · go_wp2
                    go_ret
                    exact ⟨rfl, hBk⟩
/-! ### the row of BlindBlinds -/
set_option maxRecDepth 100000 in
theorem BlindBlinds_lifted (os : Os) (started : os.Started) (H : Type) (enc : TypeId × Value → H) :
    ReturnsInHanded {} Try.checked os 4 .any (Rows.blindBlindsSpec.pre6 enc Try.prog Try.f4 Rows.blindBlindsRow.domain false) (Rows.blindBlindsSpec.post enc Try.prog Try.f4 false true false false) := by
  refine returnsInHanded_of_change_sized (C := Try.checked) ownNone started (by kernel_rfl) Try.func4
    (ChangeSpec.witness6 (enc := enc) (C := Try.checked) false ⟨#[], #[.agg #[.int .i64 0, .slice none 0 0], .slice none 0 0, .slice none 0 0], []⟩ 8 (by kernel_rfl) (by kernel_rfl) (by kernel_rfl) (by kernel_rfl)) ?_
  intro W base args ds gs before hval0 hW hcnd hsz0 _
  have hsz : (DataW.weightsEach Try.prog (Try.f4.params.toList ++ Rows.blindBlindsSpec.plain.varTypes Try.prog) (ds ++ gs)).all (· ≤ reachBytes) = true := hsz0
  have hval : ∀ (j : Nat) t v, Try.f4.params[j]? = some t → args[j]? = some v → Value.okWide Try.prog W .any base t v := hval0
  have hW' := hW
  obtain ⟨p, q, hA0, hV, rfl, hfz, hnd⟩ := hW
  have hA : DataW.TrodAll enc Try.prog W 0 (fun _ => true) true Try.f4.params.toList args.toList ds p := hA0
  rw [Try.params4] at hA hval hsz
  obtain ⟨v0, vs0, d0, ds0, p0, q0, hargs, rfl, rfl, h0, r0⟩ := trodAll_cons hA
  obtain ⟨v1, vs1, d1, ds1, p1, q1, rfl, rfl, rfl, h1, r1⟩ := trodAll_cons r0
  obtain ⟨v2, vs2, d2, ds2, p2, q2, rfl, rfl, rfl, h2, r2⟩ := trodAll_cons r1
  obtain ⟨rfl, rfl, rfl⟩ := trodAll_nil r2
  obtain rfl : args = #[v0, v1, v2] := by cases args; simp_all
  obtain ⟨rfl, rfl⟩ := trodVars_none hV
  obtain ⟨rg0, a0, cap0, xs0, rfl, hi0, ho0, hc0, ha0, hb0, hr0⟩ := open_mir (j := 0) hsz rfl rfl (hval 0 25 v0 rfl rfl) h0
  have k0 := h0
  have lt0 : ∀ x ∈ p0, x.block < W.heap.size := by obtain ⟨m, hm⟩ := k0; exact DataW.trod_lt m _ _ _ hm
  obtain ⟨a1, len1, cap1, rfl⟩ := okWide_slice Try.underlying31 (hval 1 31 v1 rfl rfl)
  have k1 := h1
  have lt1 : ∀ x ∈ p1, x.block < W.heap.size := by obtain ⟨m, hm⟩ := k1; exact DataW.trod_lt m _ _ _ hm
  obtain ⟨xs1, hl1, hr1, ho1, hc1, ha1, hb1⟩ := open_rows (α := Int) (j := 1) (fun x : Int => [Value.int .u32 x]) (fun x : Int => 0 ≤ x ∧ x < 4294967296) 1 4 Try.underlying31 (by kernel_rfl) (by decide) (fun _ => rfl) (by kernel_rfl) (int_cells Try.underlying30 (fun h => wf_u32 h)) hsz rfl rfl h1
  subst hl1
  obtain ⟨a2, len2, cap2, rfl⟩ := okWide_slice Try.underlying31 (hval 2 31 v2 rfl rfl)
  have k2 := h2
  have lt2 : ∀ x ∈ p2, x.block < W.heap.size := by obtain ⟨m, hm⟩ := k2; exact DataW.trod_lt m _ _ _ hm
  obtain ⟨xs2, hl2, hr2, ho2, hc2, ha2, hb2⟩ := open_rows (α := Int) (j := 2) (fun x : Int => [Value.int .u32 x]) (fun x : Int => 0 ≤ x ∧ x < 4294967296) 1 4 Try.underlying31 (by kernel_rfl) (by decide) (fun _ => rfl) (by kernel_rfl) (int_cells Try.underlying30 (fun h => wf_u32 h)) hsz rfl rfl h2
  subst hl2
  clear hA0 hval0 hsz0 hsz
  refine (BlindBlinds_w rg0 a0 cap0 xs0 a1 cap1 xs1 a2 cap2 xs2 W hi0 ho0 hc0 ha0 hb0 hr0 ho1 hc1 ha1 hb1 (reads_num hr1) ho2 hc2 ha2 hb2 (reads_num hr2)).mono fun e W' ⟨he, bel⟩ => ?_
  subst he
  exact ⟨_, rfl, _, _, _, [], _, [], hW', trodAll_mk1 (shut_bool Try.underlying4 _), (trodAll_cons_mk (Below.trod laidOutB_ (by kernel_rfl) (of_decide_eq_true (by kernel_rfl)) k0 bel lt0) (trodAll_cons_mk (Below.trod laidOutB_ (by kernel_rfl) (of_decide_eq_true (by kernel_rfl)) k1 bel lt1) (trodAll_cons_mk (Below.trod laidOutB_ (by kernel_rfl) (of_decide_eq_true (by kernel_rfl)) k2 bel lt2) trodAll_mk0))), rfl, bel.frame _, fun h => by cases h⟩
theorem BlindBlinds_holds : Rows.BlindBlindsSaid :=
  OpenClaim.holds_of_wide 4 Try.f4 rfl rfl rfl rfl rfl rfl rfl ⟨rfl, rfl, rfl, rfl, rfl⟩ rfl rfl rfl rfl rfl (by kernel_rfl) Try.func4 (by kernel_rfl)
    (of_decide_eq_true (by kernel_rfl)) (by unfold Func.isWrapper; first | (rw [if_pos (by decide +kernel)]; kernel_rfl) | (rw [if_neg (by decide +kernel)]; exact ⟨rfl, rfl⟩))
    (fun os started H enc _ => BlindBlinds_lifted os started H enc)
#print axioms BlindBlinds_holds
end Go.Proofs.Ytalhjbncloobpaa
