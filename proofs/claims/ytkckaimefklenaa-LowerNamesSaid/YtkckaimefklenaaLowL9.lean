import Derived.Test.YtkckaimefklenaaLowL8
set_option linter.unusedVariables false
set_option linter.unusedSimpArgs false
namespace Go.Proofs.Ytkckaimefklenaa
open Go.RowKit
/-! lower.layout's emit, of a test: the walk. -/
theorem take_snoc (l : List I4) (i : Nat) (x : I4) (h : l[i]? = some x) : l.take (i + 1) = l.take i ++ [x] := by rw [List.take_add_one, h]; rfl
theorem far_reads {w5 W W' : World} {fl : List I4} {a b : Int} {A : Option Addr} {n c : Nat} (h : WaySt w5 fl a b (.slice A n c) W) (hn : n = fl.length) (hs : ∀ g, (Value.slice A n c).ownBlock = some g → W'.heap[g]? = W.heap[g]?) (hz : ∀ g, (Value.slice A n c).ownBlock = some g → g < W'.heap.size) : Reads W' W'.heap.size 4 A fl.length (cellsI fl) := by
  subst hn
  have hr := Reads.of_own h.own
  refine ⟨hr.1, fun h0 => ?_⟩
  obtain ⟨b', off, e, hb, hc⟩ := hr.2 h0
  obtain ⟨g, cap, e2, -, -⟩ := h.own.form h0
  injection e2 with e2
  subst e2
  injection e with e
  injection e with e3 e4
  subst e3 e4
  exact ⟨g, 0, rfl, hz g rfl, fun j u hu => (World.cell?_of_block (a := ⟨g, 0 + j, none⟩) (hs g rfl)).trans (hc j u hu)⟩
theorem GenAt.bare {w : World} {G : Nat} {bs : List Nat} {W0 W1 : World} {xs : List I4} {v : Value} {W : World} (h : GenAt w G bs W0 xs v W) : GenAt w G [] W1 xs v W :=
  ⟨⟨h.out.own, h.out.below, fun b hb => absurd hb (by simp), h.out.sz, h.out.hH, fun b hb => absurd hb (by simp), fun b hb => absurd hb (by simp)⟩, h.gen, by simp, h.ge⟩
theorem GenAt.with {w : World} {G : Nat} {W0 : World} {xs : List I4} {v : Value} {w1 W : World} (h : GenAt w G [] W0 xs v w1) (hb : Below w1.heap.size w1 W) (l : Option Nat) (hl : ∀ b, l = some b → b < W.heap.size ∧ w1.heap.size ≤ b) : GenAt w G l.toList W xs v W := by
  have h2 := h.keep hb
  have hm : ∀ b, b ∈ l.toList → l = some b := fun b hb => by cases l <;> simp_all
  exact ⟨⟨h2.out.own, h2.out.below, fun _ _ => rfl, h2.out.sz, h2.out.hH, fun b hb => (hl b (hm b hb)).1, fun b hb e => by
    have h3 := own_le h.out.own b e.symm
    have := (hl b (hm b hb)).2
    omega⟩, h2.gen, fun hb => by
    have := heap_lt h.gen
    have := (hl _ (hm _ hb)).2
    omega, h2.ge⟩
set_option maxRecDepth 100000 in
set_option maxHeartbeats 6400000 in
theorem emitTest_c {lo : Nat} {q : List N8} {far : List (Bool × Bool)} {L B c size : Nat} {Pn Yn : Nat → Nat} {w0 : World} (HL : LayAt lo q L B c Pn Yn (placeN q far) size (farAt far) w0) (hfx : farNext q far = far) (hc : (checkD q).1 = 0) {n : Nat} {x : N8} (hx : q[n]? = some x) (hlf : x.lf = false) {G : Nat} {v : Value} (w : World) (h : GenAt w0 G [] w0 (emitTo q far n) v w) :
    Calls Try.prog 12 #[.pointer (some ⟨L, 0, none⟩), .pointer (some ⟨Pn n, 0, none⟩), .func (.func 11) #[.pointer (some ⟨G, 0, none⟩)] #[]] w (EmPost w0 G (emitTo q far (n + 1))) := by
  obtain ⟨a1, a2, a3⟩ := checkD_zero hc
  have hno := a3 n x hx hlf
  have hn : n < q.length := (List.getElem?_eq_some_iff.1 hx).1
  obtain ⟨i1, HI1⟩ : ∃ i1, Hid (Try.prog.info? 45 = some i1 ∧ i1.zero = some (.agg #[.int .u16 0, .int .u8 0, .int .u8 0, .int .u32 0]) ∧ i1.size = 4 ∧ i1.bytes = 8) := by
    obtain ⟨i1, hi, hz0, hz1, hz2⟩ := info_parts infoI
    exact ⟨i1, Lib.hid ⟨hi, hz0, hz1, hz2⟩⟩
  have HG := Lib.hid h
  have hES : emitTo q far (n + 1) = emitTo q far n ++ emitN q far n x := by rw [emitTo, hx]
  obtain ⟨xs, hxs⟩ : ∃ xs, xs = emitTo q far n := ⟨_, rfl⟩
  have hXL : xs.length = placeN q far n := by rw [hxs]; exact emitTo_len q far n
  rw [← hxs] at HG
  obtain ⟨T, hT⟩ : ∃ T : Nat, x.t = T := ⟨x.t.toNat, by have := hno.t; omega⟩
  obtain ⟨F, hF⟩ : ∃ F : Nat, x.f = F := ⟨x.f.toNat, by have := hno.f; omega⟩
  have hT2 := hno.t
  have hF2 := hno.f
  obtain ⟨o1, o2, -⟩ := hno.off
  obtain ⟨p1, p2⟩ := hno.op
  have wA1 := way_ahead (q := q) (far := far) hx hlf hT2.1
  have wA2 := way_ahead (q := q) (far := far) hx hlf hF2.1
  rw [hT] at hT2 wA1
  rw [hF] at hF2 wA2
  rw [Int.toNat_natCast] at wA1 wA2
  have hTq : (T : Int) < q.length := by omega
  have hFq : (F : Int) < q.length := by omega
  obtain ⟨xT, hxT⟩ : ∃ y, q[T]? = some y := ⟨_, List.getElem?_eq_getElem (by omega)⟩
  obtain ⟨xF, hxF⟩ : ∃ y, q[F]? = some y := ⟨_, List.getElem?_eq_getElem (by omega)⟩
  obtain ⟨pT, hpT⟩ : ∃ u, u = placeN q far T := ⟨_, rfl⟩
  obtain ⟨pF, hpF⟩ : ∃ u, u = placeN q far F := ⟨_, rfl⟩
  obtain ⟨J, hJ⟩ : ∃ u, u = jumpN x (placeN q far n) := ⟨_, rfl⟩
  obtain ⟨⟨va, vb⟩, hfv⟩ : ∃ v, v = farAt far n := ⟨_, rfl⟩
  have hTb : (pT : Int) ≤ 25000 := by have := placeN_le q far T; omega
  have hFb : (pF : Int) ≤ 25000 := by have := placeN_le q far F; omega
  have hJb : (J : Int) ≤ 25000 := by
    have h1 := placeN_le q far n
    have h2 : b2n (x.msk != ones32) ≤ 1 := by unfold b2n; split <;> omega
    rw [hJ]; unfold jumpN; omega
  have hone : farOne q far n x = (va, vb) := by rw [← farNext_get hx, hfx, hfv]
  rw [← hpT, ← hJ, ← hfv] at wA1
  rw [← hpF, ← hJ, ← hfv] at wA2
  dsimp only at wA1 wA2
  have hone' := hone
  unfold farOne longN at hone'
  rw [if_neg (by rw [hlf]; decide), ← hfv, hT, hF, Int.toNat_natCast, Int.toNat_natCast, ← hpT, ← hpF, ← hJ] at hone'
  have HBT : Hid (va = false → 0 ≤ (pT : Int) - J - 1 ∧ (pT : Int) - J - 1 ≤ 255) := Lib.hid (fun h => by
    have h1 := congrArg Prod.fst hone'
    rw [h] at h1
    simp only [Bool.false_or, decide_eq_false_iff_not] at h1
    omega)
  have HBF : Hid (vb = false → 0 ≤ (pF : Int) - J - 1 ∧ (pF : Int) - J - 1 ≤ 255) := Lib.hid (fun h => by
    have h1 := congrArg Prod.snd hone'
    rw [h] at h1
    simp only [Bool.false_or, decide_eq_false_iff_not] at h1
    omega)
  obtain ⟨hh, hhh⟩ : ∃ u, u = b2n va := ⟨_, rfl⟩
  have hh1 : (hh : Int) ≤ 1 := by rw [hhh]; unfold b2n; split <;> omega
  have HWA : Hid ((va = true → IntKind.u32.wrap ((pT : Int) - J - 1 - 1) = (pT : Int) - J - 1 - 1) ∧ (vb = true → IntKind.u32.wrap ((pF : Int) - J - 1 - hh - 1) = (pF : Int) - J - 1 - hh - 1)) := Lib.hid ⟨fun h => by
      have h1 := wA1; rw [h] at h1; simp [b2n] at h1; rw [IntKind.wrap_u32]; omega, fun h => by
      have h1 := wA2; rw [← hhh, h] at h1; simp [b2n] at h1; rw [IntKind.wrap_u32]; omega⟩
  obtain ⟨xs1, hx1⟩ : ∃ xs1, xs1 = xs ++ ([⟨32, 0, 0, x.off⟩] ++ (if (x.msk != ones32) = true then [⟨84, 0, 0, x.msk⟩] else [])) := ⟨_, rfl⟩
  have hxl1 : xs1.length = J := by
    rw [hx1, List.length_append, hXL, hJ]
    unfold jumpN b2n
    cases (x.msk != ones32) <;> simp
  obtain ⟨aT, haT⟩ : ∃ u : Int, u = if va = true then 0 else (pT : Int) - J - 1 := ⟨_, rfl⟩
  obtain ⟨aF, haF⟩ : ∃ u : Int, u = if vb = true then (hh : Int) else (pF : Int) - J - 1 := ⟨_, rfl⟩
  obtain ⟨flT, hflT⟩ : ∃ u : List I4, u = if va = true then [⟨5, 0, 0, (pT : Int) - J - 1 - 1⟩] else [] := ⟨_, rfl⟩
  obtain ⟨flF, hflF⟩ : ∃ u : List I4, u = flT ++ if vb = true then [⟨5, 0, 0, (pF : Int) - J - 1 - hh - 1⟩] else [] := ⟨_, rfl⟩
  obtain ⟨hF2', hhF⟩ : ∃ u, u = hh + b2n vb := ⟨_, rfl⟩
  have hEND : emitTo q far (n + 1) = xs1 ++ [⟨codeN x.op, aT, aF, x.k⟩] ++ flF := by
    have e1 : wayN q far n x x.t = (pT : Int) - J - 1 := by unfold wayN; rw [hT, Int.toNat_natCast, ← hpT, ← hJ]
    have e2 : wayN q far n x x.f = (pF : Int) - J - 1 := by unfold wayN; rw [hF, Int.toNat_natCast, ← hpF, ← hJ]
    rw [hES, ← hxs, hflF, hflT, haT, haF, hx1]
    unfold emitN
    rw [if_neg (by rw [hlf]; decide), ← hfv, e1, e2, hhh]
    simp only [List.append_assoc]
  have hlT : flT.length ≤ 1 := by rw [hflT]; split <;> simp
  have hlF : flF.length ≤ 2 := by rw [hflF, List.length_append]; split <;> simp <;> omega
  have HCELL : Hid (∀ W, Below w0.heap.size w0 W → PartAt W (Pn n) x (placeN q far n) (.slice (some ⟨Yn n, 0, none⟩) 2 2) ∧ (W.cell? ⟨Yn n, 0, none⟩ = some (.int .i64 T) ∧ W.cell? ⟨Yn n, 1, none⟩ = some (.bool va) ∧ W.cell? ⟨Yn n, 2, none⟩ = some (.int .i64 F) ∧ W.cell? ⟨Yn n, 3, none⟩ = some (.bool vb)) ∧ W.cell? ⟨L, 0, none⟩ = some (.slice (some ⟨B, 0, none⟩) q.length c) ∧ W.cell? ⟨B, T, none⟩ = some (.pointer (some ⟨Pn T, 0, none⟩)) ∧ W.cell? ⟨B, F, none⟩ = some (.pointer (some ⟨Pn F, 0, none⟩)) ∧ W.cell? ⟨Pn T, 8, none⟩ = some (.int .i64 pT) ∧ W.cell? ⟨Pn F, 8, none⟩ = some (.int .i64 pF)) := Lib.hid (fun W hb => by
    have hW := HL.keep hb
    have hp := hW.partAt hx
    have hv : waysV x (Yn n) = .slice (some ⟨Yn n, 0, none⟩) 2 2 := by unfold waysV; rw [if_neg (by rw [hlf]; decide)]
    rw [hv] at hp
    have hy := hW.waysAt hx hlf
    rw [← hfv] at hy
    obtain ⟨y0, y1, y2, y3⟩ := hy
    rw [hT] at y0
    rw [hF] at y2
    have pt := (hW.partAt hxT).2.2.2.2.2.2.2.2.1
    have pf := (hW.partAt hxF).2.2.2.2.2.2.2.2.1
    rw [← hpT] at pt
    rw [← hpF] at pf
    exact ⟨hp, ⟨y0, y1, y2, y3⟩, hW.l0, hW.ptr T (by omega), hW.ptr F (by omega), pt, pf⟩)
  have hPb : (placeN q far n : Int) ≤ 100000 := by have := placeN_le q far n; omega
  have HJC : Hid (∀ W, PartAt W (Pn n) x (placeN q far n) (.slice (some ⟨Yn n, 0, none⟩) 2 2) → Calls Try.prog 17 #[.pointer (some ⟨Pn n, 0, none⟩)] W fun e w' => e = .returned (.int .i64 J) ∧ w' = W) := Lib.hid (fun W hp => by rw [hJ]; exact (jump_c (Pn n) x _ _ hPb W hp).mono fun _ _ h => ⟨h.1, h.2.symm⟩)
  have HX1 := Lib.hid hx1
  have HEND := Lib.hid hEND
  have HAT := Lib.hid haT
  have HAF := Lib.hid haF
  have HFT := Lib.hid hflT
  have HFF := Lib.hid hflF
  have HHF := Lib.hid hhF
  have HHH := Lib.hid hhh
  have HLX := Lib.hid hlf
  have hxl0 : xs.length + 2 ≤ 30000 := by have := placeN_le q far n; omega
  have hxl2 : xs1.length + 4 ≤ 30000 := by omega
  have HP1 : Hid (1 ≤ x.op ∧ x.op ≤ 4) := Lib.hid ⟨p1, p2⟩
  obtain ⟨⟨d0, d1, d2, d3, d4, d5, d6, d7, d8, d9⟩, ⟨y0, y1, y2, y3⟩, l0, cT, cF, eT, eF⟩ := HCELL.out w HG.out.out.below
  rw [hlf] at d0
  clear h hc hx hlf a3 hno hES hxs hXL hT hF hT2 hF2 wA1 wA2 hxT hxF hpT hpF hJ hfv hone hone' hhh hx1 hxl1 haT haF hflT hflF hhF hEND hPb hfx HL p1 p2 y0 y1 y2 y3 l0 cT cF eT eF
  go_enter Try.func12, Try.ntmps12
  cases hm : (x.msk != 4294967295)
  all_goals (
    have HM := Lib.hid hm
    go_wp2_with (first | (go_at_call 11; have h1' := H1.out; refine (put_c ⟨84, 0, 0, x.msk⟩ _ h1' (by simp; omega)).mono ?_; rintro e w1 ⟨rfl, v1, H1⟩; obtain ⟨⟨d0, d1, d2, d3, d4, d5, d6, d7, d8, d9⟩, -⟩ := HCELL.out w1 H1.out.out.below; have k9 := keepC (below1 w1 (.cells #[.int .u8 0, .int .u8 0] 67)) d9) | (go_at_call 11; refine (put_c ⟨32, 0, 0, x.off⟩ _ HG.out (by omega)).mono ?_; rintro e w1 ⟨rfl, v1, H1⟩; obtain ⟨⟨d0, d1, d2, d3, d4, d5, d6, d7, d8, d9⟩, -⟩ := HCELL.out w1 H1.out.out.below; rw [HLX.out] at d0; have k9 := keepC (below1 w1 (.cells #[.int .u8 0, .int .u8 0] 67)) d9))
    have HGEN : Hid (GenAt w0 G [] w0 xs1 v1 w1) := Lib.hid (by have h := H1.out; have e := HX1.out; unfold ones32 at e; rw [HM.out] at e; simp at e; rw [e]; simpa using h)
    have HS0 := Lib.hid (WaySt.start w1)
    clear hm H1 HG HX1 d0 d1 d2 d3 d4 d5 d6 d7 d8 d9
    go_loopw [55, 6, 8] (fun i h f wr => ∃ (fl : List I4) (a b : Int) (hb : Nat), h = .int .i64 hb ∧ Hid (WaySt w1 fl a b f wr) ∧ ((i = .int .i64 0 ∧ hb = 0 ∧ fl = [] ∧ a = 0 ∧ b = 0) ∨ (i = .int .i64 1 ∧ hb = hh ∧ fl = flT ∧ a = aT ∧ b = 0) ∨ (i = .int .i64 2 ∧ fl = flF ∧ a = aT ∧ b = aF))) (fun i _ _ _ => 2 - (intOf i).toNat)
    case atStart => exact ⟨[], 0, 0, 0, rfl, HS0, .inl ⟨rfl, rfl, rfl, rfl, rfl⟩⟩
    case round =>
      obtain ⟨fl, a, b, hb, rfl, HW, hcase⟩ := hrel
      clear HS0 k9
      have HBW := Lib.hid (below_t HGEN.out.out.below HW.out.below)
      rcases hcase with ⟨rfl, rfl, rfl, rfl, rfl⟩ | ⟨rfl, e1, e2, e3, e4⟩ | ⟨rfl, e1, e2, e3⟩
      · obtain ⟨-, ⟨y0, y1, y2, y3⟩, -⟩ := HCELL.out wr HBW.out
        have HK := Lib.hid (HCELL.out (wr.alloc (.cells #[.int .i64 T, .bool va] 66)) (below_al HBW.out _))
        have HPA := Lib.hid HK.out.1
        have HW1 := Lib.hid (HW.out.keep (below1 wr (.cells #[.int .i64 T, .bool va] 66)))
        obtain ⟨-, -, l0, cT, -, eT, -⟩ := HK.out
        cases va with
        | true =>
          have w32 := HWA.out.1 rfl
          go_wp2_with fail
          go_quiet (first | (go_at_call 17; refine Calls.quiet_of_same (HJC.out _ (by exact HPA.out))))
          go_wp2_with (at_builtin; refine way_step (HW1.out.drewN nq) i1 HI1.out rfl (.tmp 77) (.tmp 84) rfl ⟨5, 0, 0, (pT : Int) - J - 1 - 1⟩ rfl (wr.heap.size + 1) (by simp) rfl (by simp) ?_; intro v7 w7 h7; have H7 := Lib.hid h7; clear h7; obtain ⟨s0, s1, r0, r1⟩ := H7.out.c)
          go_roundw
          case rel => exact ⟨flT, aT, 0, hh, by rw [HHH.out]; rfl, Lib.hid (by have e1 := HFT.out; have e2 := HAT.out; simp at e1 e2; rw [e1, e2]; exact H7.out.set0 0), .inr (.inl ⟨by go_num, rfl, rfl, rfl, rfl⟩)⟩
          case measure => simp [intOf]
        | false =>
          obtain ⟨s0, s1, r0, r1⟩ := HW1.out.c
          obtain ⟨q0, q1⟩ := HBT.out rfl
          have w8 : IntKind.u8.wrap ((pT : Int) - J - 1) = (pT : Int) - J - 1 := by rw [IntKind.wrap_u8]; omega
          go_wp2_with fail
          go_quiet (first | (go_at_call 17; refine Calls.quiet_of_same (HJC.out _ (by exact HPA.out))))
          go_wp2
          go_roundw
          case rel => exact ⟨flT, aT, 0, hh, by rw [HHH.out]; rfl, Lib.hid (by have e1 := HFT.out; have e2 := HAT.out; simp at e1 e2; rw [e1, e2]; exact (HW1.out.drewN _).set0 _), .inr (.inl ⟨by go_num, rfl, rfl, rfl, rfl⟩)⟩
          case measure => simp [intOf]
      · rw [e2, e3, e4] at HW
        rw [e1]
        clear e1 e2 e3 e4
        obtain ⟨-, ⟨y0, y1, y2, y3⟩, -⟩ := HCELL.out wr HBW.out
        have HK := Lib.hid (HCELL.out (wr.alloc (.cells #[.int .i64 F, .bool vb] 66)) (below_al HBW.out _))
        have HPA := Lib.hid HK.out.1
        have HW1 := Lib.hid (HW.out.keep (below1 wr (.cells #[.int .i64 F, .bool vb] 66)))
        obtain ⟨-, -, l0, -, cT, -, eT⟩ := HK.out
        cases vb with
        | true =>
          have w32 := HWA.out.2 rfl
          go_wp2_with fail
          go_quiet (first | (go_at_call 17; refine Calls.quiet_of_same (HJC.out _ (by exact HPA.out))))
          go_wp2_with (at_builtin; refine way_step (HW1.out.drewN nq) i1 HI1.out rfl (.tmp 77) (.tmp 84) rfl ⟨5, 0, 0, (pF : Int) - J - 1 - hh - 1⟩ rfl (wr.heap.size + 1) (by simp) rfl (by omega) ?_; intro v7 w7 h7; have H7 := Lib.hid h7; clear h7; obtain ⟨s0, s1, r0, r1⟩ := H7.out.c)
          go_roundw
          case rel => exact ⟨flF, aT, aF, hF2', by rw [HHF.out]; simp [b2n], Lib.hid (by have e1 := HFF.out; have e2 := HAF.out; simp at e1 e2; rw [e1, e2]; exact H7.out.set1 hh), .inr (.inr ⟨by go_num, rfl, rfl, rfl⟩)⟩
          case measure => simp [intOf]
        | false =>
          obtain ⟨s0, s1, r0, r1⟩ := HW1.out.c
          obtain ⟨q0, q1⟩ := HBF.out rfl
          have w8 : IntKind.u8.wrap ((pF : Int) - J - 1) = (pF : Int) - J - 1 := by rw [IntKind.wrap_u8]; omega
          go_wp2_with fail
          go_quiet (first | (go_at_call 17; refine Calls.quiet_of_same (HJC.out _ (by exact HPA.out))))
          go_wp2
          go_roundw
          case rel => exact ⟨flF, aT, aF, hF2', by rw [HHF.out]; simp [b2n], Lib.hid (by have e1 := HFF.out; have e2 := HAF.out; simp at e1 e2; rw [e1, e2]; exact (HW1.out.drewN _).set1 _), .inr (.inr ⟨by go_num, rfl, rfl, rfl⟩)⟩
          case measure => simp [intOf]
      · rw [e1, e2, e3] at HW
        clear e1 e2 e3
        obtain ⟨Al, cl, rfl⟩ : ∃ Al cl, u8 = .slice Al flF.length cl := by
          rcases HW.out.own.2 with ⟨h, h2⟩ | ⟨g', cap', cur, h, _⟩
          · exact ⟨none, 0, by rw [h, h2]⟩
          · exact ⟨_, _, h⟩
        obtain ⟨bs, hbs⟩ : ∃ bs, bs = (Value.slice Al flF.length cl).ownBlock.toList := ⟨_, rfl⟩
        have HBS := Lib.hid hbs
        have HGR : Hid (GenAt w0 G bs wr xs1 v1 wr) := Lib.hid (by rw [hbs]; exact HGEN.out.with HW.out.below _ (fun b hb => by
          have h1 := own_ge HW.out.own b hb
          have h2 := own_le HW.out.own b hb
          omega))
        obtain ⟨⟨d0, d1, d2, d3, d4, d5, d6, d7, d8, d9⟩, -⟩ := HCELL.out wr HBW.out
        obtain ⟨s0, s1, -, -⟩ := HW.out.c
        clear hbs
        go_wp2_with fail
        refine wp_tail 17 (by kernel_rfl) (by kernel_rfl) ?_
        simp only [List.take_succ_cons, List.take_zero, List.drop_succ_cons, List.drop_zero]
        repeat still_step
        still_call ((codes_c x.op HP1.out.1 HP1.out.2 _).mono fun _ _ h => ⟨h.1, h.2.symm⟩)
        repeat still_step
        refine wpStill_nil ?_
        go_wp2_with (go_at_call 11; have hgr := HGR.out.keep (below_dr (Below.refl wr.heap.size wr)); refine (put_c ⟨codeN x.op, aT, aF, x.k⟩ _ hgr (by omega)).mono ?_; rintro e w3 ⟨rfl, v3, H3⟩; clear hgr)
        all_goals (
          clear d0 d1 d2 d3 d4 d5 d6 d7 d8 d9 s0 s1
          go_loopw [114] (fun i wr2 => ∃ j : Nat, j ≤ flF.length ∧ i = .int .i64 j ∧ ∃ v2, Hid (GenAt w0 G bs wr (xs1 ++ [⟨codeN x.op, aT, aF, x.k⟩] ++ flF.take j) v2 wr2)) (fun i _ => flF.length - (intOf i).toNat)
          case atStart => exact ⟨0, by omega, rfl, v3, by simpa using H3⟩
          case round =>
            obtain ⟨j, hj, rfl, v2, HV⟩ := hrel
            clear H3
            rcases Nat.lt_or_ge j flF.length with hjl | hjl
            · have hjl' : (j : Int) < flF.length := by omega
              obtain ⟨y, hy⟩ : ∃ y, (flF)[j]? = some y := ⟨_, List.getElem?_eq_getElem hjl⟩
              have HY := Lib.hid hy
              have hrd := far_reads (W' := wr) HW.out rfl (fun g hg => HV.out.out.same g (by rw [HBS.out, hg]; simp)) (fun g hg => HV.out.out.big g (by rw [HBS.out, hg]; simp))
              obtain ⟨bb, off, rfl, -, i0, i1', i2, i3⟩ := hrd.insn hy
              clear hrd hy
              go_wp2_with (go_at_call 11; refine (put_c y _ (HV.out.keep (below1 wr _)) (by simp; omega)).mono ?_; rintro e w4 ⟨rfl, v4, H4⟩)
              go_roundw
              case rel => exact ⟨j + 1, by omega, by go_num, v4, by rw [take_snoc _ _ _ HY.out]; simpa using H4⟩
              case measure => simp [intOf]; omega
            · obtain rfl : j = flF.length := by omega
              go_wp2
              go_end0
              exact ⟨rfl, v2, by rw [HEND.out]; have h := HV.out; rw [List.take_length] at h; exact h.bare⟩))
end Go.Proofs.Ytkckaimefklenaa
