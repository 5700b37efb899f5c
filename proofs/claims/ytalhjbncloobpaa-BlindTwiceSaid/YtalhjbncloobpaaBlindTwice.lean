import Derived.Test.YtalhjbncloobpaaBlindW5
import Derived.Test.YtalhjbncloobpaaBlindHead
import Derived.Test.YtalhjbncloobpaaMirRun
set_option linter.unusedVariables false
set_option linter.unusedSimpArgs false
namespace Go.Proofs.Ytalhjbncloobpaa
open Go.RowKit Go.ChangeShapes Go.WideShapes Go.ChangeAt
open Go.ChangeMaps (open_string shut_string)
/-! BlindTwice. -/
set_option maxRecDepth 100000 in
theorem okWide_two {w : World} {r : Reach} {b0 : Nat} {v : Value} (h : Value.okWide Try.prog w r b0 59 v) : ∃ cs : Array Value, v = .agg cs ∧ cs.size = 2 := by
  simp only [Value.okWide, Try.underlying59] at h
  obtain ⟨cs, h1, h2, _⟩ := h
  exact ⟨cs, h1, by rw [h2]; kernel_rfl⟩
set_option maxRecDepth 100000 in
theorem open_two {H : Type} {enc : TypeId × Value → H} {w : World} {base b0 : Nat} {r : Reach} {spare : Nat → Bool} {held : Bool} {v : Value} {d : DataW H} {ps : List MemPlace} {ts : List TypeId} {ds : List (DataW H)} {j : Nat}
    (hsz : (DataW.weightsEach Try.prog ts ds).all (· ≤ reachBytes) = true) (htj : ts[j]? = some 59) (hdj : ds[j]? = some d) (hv : Value.okWide Try.prog w r b0 59 v) (h : DataW.Trod enc Try.prog w base spare held 59 v d ps) :
    ∃ (A1 : Option Addr) (cap1 : Nat) (q1 : List Int) (A2 : Option Addr) (cap2 : Nat) (q2 : List Int), v = .agg #[.slice A1 q1.length cap1, .slice A2 q2.length cap2] ∧ (∀ x ∈ q1, 0 ≤ x ∧ x < 4294967296) ∧ q1.length ≤ cap1 ∧ (A1 = none → cap1 = 0) ∧ q1.length * 4 ≤ 140737488351232 ∧ Reads w w.heap.size 1 A1 q1.length (numV .u32 q1) ∧
      (∀ x ∈ q2, 0 ≤ x ∧ x < 4294967296) ∧ q2.length ≤ cap2 ∧ (A2 = none → cap2 = 0) ∧ q2.length * 4 ≤ 140737488351232 ∧ Reads w w.heap.size 1 A2 q2.length (numV .u32 q2) := by
  obtain ⟨cs, rfl, hs⟩ := okWide_two hv
  obtain ⟨n, hn⟩ := h
  obtain ⟨ys, n', hn', hy, hlen, hyl, hf⟩ := DataW.trod_array Try.underlying59 hn
  obtain ⟨c0, c1, hcs⟩ := list2 cs.toList (by simpa using hs)
  obtain ⟨l⟩ := cs
  simp only at hcs
  subst hcs
  obtain ⟨z0, hz0⟩ : ∃ z, ys[0]? = some z := ⟨_, List.getElem?_eq_getElem (by rw [hyl]; decide)⟩
  obtain ⟨z1, hz1⟩ : ∃ z, ys[1]? = some z := ⟨_, List.getElem?_eq_getElem (by rw [hyl]; decide)⟩
  have g0 := (hf 0 (by decide)).trans hz0
  have g1 := (hf 1 (by decide)).trans hz1
  have q1 : Try.prog.cellsOf 31 = 1 := by kernel_rfl
  simp only [q1, Value.cells] at g0 g1
  have hc : ∀ (c : Value) z, DataW.trod enc Try.prog w base spare held n' 31 [c] = some z → ∃ A len cap, c = .slice A len cap := by
    intro c z g
    rcases DataW.trod_slice Try.underlying31 g with ⟨h', _⟩ | ⟨a, len, cap, _, _, _, _, h', _⟩
    · exact ⟨_, _, _, by simpa [q1] using h'⟩
    · exact ⟨_, _, _, by simpa [q1] using h'⟩
  obtain ⟨A1, len1, cap1, rfl⟩ := hc c0 z0 (by simpa using g0)
  obtain ⟨A2, len2, cap2, rfl⟩ := hc c1 z1 (by simpa using g1)
  have hd : d = .agg (ys.map (·.1)) := congrArg Prod.fst hy
  subst hd
  have hsz2 : (DataW.weightsEach Try.prog [31, 31] (ys.map (·.1))).all (· ≤ reachBytes) = true := by
    rw [List.all_eq_true]
    intro m hm
    refine List.all_eq_true.1 hsz m (DataW.weights_mem_each htj hdj m ?_)
    simp only [DataW.weights, Try.underlying59]
    match ys, hyl, hm with
    | [y0, y1], _, hm => simpa [DataW.weightsEach, DataW.weightsAll] using hm
  obtain ⟨xs1, h1, h2, h3, h4, h5, h6⟩ := open_rows (α := Int) (j := 0) (fun x : Int => [Value.int .u32 x]) (fun x : Int => 0 ≤ x ∧ x < 4294967296) 1 4 Try.underlying31 (by kernel_rfl) (by decide) (fun _ => rfl) (by kernel_rfl) (int_cells Try.underlying30 (fun h => wf_u32 h)) hsz2 rfl (by rw [List.getElem?_map, hz0]; rfl) (ps := z0.2) ⟨n', by simpa [q1, Value.cells] using g0⟩
  obtain ⟨xs2, k1, k2, k3, k4, k5, k6⟩ := open_rows (α := Int) (j := 1) (fun x : Int => [Value.int .u32 x]) (fun x : Int => 0 ≤ x ∧ x < 4294967296) 1 4 Try.underlying31 (by kernel_rfl) (by decide) (fun _ => rfl) (by kernel_rfl) (int_cells Try.underlying30 (fun h => wf_u32 h)) hsz2 rfl (by rw [List.getElem?_map, hz1]; rfl) (ps := z1.2) ⟨n', by simpa [q1, Value.cells] using g1⟩
  subst h1 k1
  exact ⟨A1, cap1, xs1, A2, cap2, xs2, rfl, h3, h4, h5, h6, reads_num h2, k3, k4, k5, k6, reads_num k2⟩
theorem blindP_form {regs : Int} {q : List R7} {ws : List Int} (h : (blindP regs q ws).2.2 = 0) : (mcheckP regs q).1 = 0 ∧ (blindP regs q ws).1 = regs + (if 0 < hids q then 1 else 0) ∧ (blindP regs q ws).2.1.length = q.length + 2 * hids q := by
  unfold blindP at h ⊢
  by_cases h1 : (mcheckP regs q).1 ≠ 0
  · rw [if_pos h1] at h; simp at h
  rw [if_neg h1] at h ⊢
  refine ⟨by simpa using h1, ?_⟩
  by_cases h2 : hids q = 0
  · rw [if_pos h2]; simp [h2]
  rw [if_neg h2] at h ⊢
  by_cases h3 : regs = 64
  · rw [if_pos h3] at h; simp at h
  rw [if_neg h3] at h ⊢
  by_cases h4 : 65536 < q.length + 2 * hids q
  · rw [if_pos h4] at h; simp at h
  rw [if_neg h4]
  refine ⟨by simp; omega, ?_⟩
  simp only
  rw [blindQ_length, placeB_end]
theorem blindP_err {regs : Int} {q : List R7} {ws : List Int} (h : (blindP regs q ws).2.2 ≠ 0) (hm : (mcheckP regs q).1 = 0) : regs = 64 ∨ 65536 < q.length + 2 * hids q := by
  unfold blindP at h
  rw [if_neg (by simp [hm])] at h
  by_cases h2 : hids q = 0
  · rw [if_pos h2] at h; simp at h
  rw [if_neg h2] at h
  by_cases h3 : regs = 64
  · exact .inl h3
  rw [if_neg h3] at h
  by_cases h4 : 65536 < q.length + 2 * hids q
  · exact .inr h4
  rw [if_neg h4] at h; simp at h
theorem blindP_bad2 {regs : Int} {q : List R7} {ws : List Int} (h : (mcheckP regs q).1 ≠ 0) : blindP regs q ws = (0, [], 1) := by unfold blindP; rw [if_pos h]
theorem blindP_ok2 {regs : Int} {q : List R7} {ws : List Int} (hq : ∀ x ∈ q, x.ok) (hw : ∀ x ∈ ws, u32ok x) : ∀ x ∈ (blindP regs q ws).2.1, x.ok := by
  unfold blindP
  split
  · intro x hx; simp at hx
  · next h1 =>
    split
    · exact hq
    · split
      · intro x hx; simp at hx
      · split
        · intro x hx; simp at hx
        · exact blindL_ok (by simpa using h1) hq hw _ (Nat.le_refl _)
set_option maxRecDepth 100000 in
set_option maxHeartbeats 20000000 in
theorem BlindTwice_w (regs : Int) (A : Option Addr) (cap : Nat) (q : List R7) (A1 : Option Addr) (cap1 : Nat) (ws : List Int) (A2 : Option Addr) (cap2 : Nat) (us : List Int) (A3 : Option Addr) (cap3 : Nat) (dat : List Int) (w : World) (hg : inI64 regs) (hq : ∀ x ∈ q, x.ok) (hc : q.length ≤ cap) (hA : A = none → cap = 0) (hB : q.length * 56 ≤ 140737488351232) (hr : Reads w w.heap.size 7 A q.length (cellsR q))
    (hq1 : ∀ x ∈ ws, 0 ≤ x ∧ x < 4294967296) (hc1 : ws.length ≤ cap1) (hA1 : A1 = none → cap1 = 0) (hB1 : ws.length * 4 ≤ 140737488351232) (hr1 : Reads w w.heap.size 1 A1 ws.length (numV .u32 ws))
    (hq2 : ∀ x ∈ us, 0 ≤ x ∧ x < 4294967296) (hc2 : us.length ≤ cap2) (hA2 : A2 = none → cap2 = 0) (hB2 : us.length * 4 ≤ 140737488351232) (hr2 : Reads w w.heap.size 1 A2 us.length (numV .u32 us))
    (hq3 : ∀ x ∈ dat, 0 ≤ x ∧ x < 256) (hc3 : dat.length ≤ cap3) (hA3 : A3 = none → cap3 = 0) (hB3 : dat.length * 1 ≤ 140737488351232) (hr3 : Reads w w.heap.size 1 A3 dat.length (numV .u8 dat)) :
    Calls Try.prog 12 #[.agg #[.int .i64 regs, .slice A q.length cap], .agg #[.slice A1 ws.length cap1, .slice A2 us.length cap2], .slice A3 dat.length cap3] w fun e w' => e = .returned (.bool true) ∧ Below w.heap.size w w' := by
  have HR := Lib.hid hr
  have HQ := Lib.hid hq
  have HR1 := Lib.hid hr1
  have HR2 := Lib.hid hr2
  have HR3 := Lib.hid hr3
  have HQ3 := Lib.hid hq3
  have HA := Lib.hid hA
  obtain ⟨⟨R, L, E⟩, hP⟩ : ∃ P, P = blindP regs q ws := ⟨_, rfl⟩
  have HP := Lib.hid hP
  have hLok : ∀ x ∈ L, x.ok := by have := blindP_ok2 (regs := regs) hq hq1; rw [← hP] at this; exact this
  have HLOK := Lib.hid hLok
  have HSAY : Hid (E = 0 → (runP regs q dat).1 = (runP R L dat).1 ∧ (runP regs q dat).2.2.1 = (runP R L dat).2.2.1 ∧ mcheckP R L = (0, 0)) := Lib.hid (by
    intro h
    have := blindP_says (regs := regs) (d := dat) hq hq1 (by rw [← hP]; exact h)
    rw [← hP] at this
    exact this)
  have HFORM : Hid (E = 0 → (mcheckP regs q).1 = 0 ∧ R = regs + (if 0 < hids q then 1 else 0) ∧ L.length = q.length + 2 * hids q) := Lib.hid (by
    intro h
    have := blindP_form (regs := regs) (q := q) (ws := ws) (by rw [← hP]; exact h)
    rw [← hP] at this
    exact this)
  obtain ⟨⟨R2, L2, E2⟩, hP2⟩ : ∃ P, P = blindP R L us := ⟨_, rfl⟩
  have HP2 := Lib.hid hP2
  have hLok2 : ∀ x ∈ L2, x.ok := by have := blindP_ok2 (regs := R) hLok hq2; rw [← hP2] at this; exact this
  have HLOK2 := Lib.hid hLok2
  have HSAY2 : Hid (E2 = 0 → (runP R L dat).1 = (runP R2 L2 dat).1 ∧ (runP R L dat).2.2.1 = (runP R2 L2 dat).2.2.1 ∧ mcheckP R2 L2 = (0, 0)) := Lib.hid (by
    intro h
    have := blindP_says (regs := R) (d := dat) hLok hq2 (by rw [← hP2]; exact h)
    rw [← hP2] at this
    exact this)
  have HFORM2 : Hid (E2 = 0 → L2.length = L.length + 2 * hids L) := Lib.hid (by
    intro h
    have := blindP_form (regs := R) (q := L) (ws := us) (by rw [← hP2]; exact h)
    rw [← hP2] at this
    exact this.2.2)
  have HERR2 : Hid (E2 ≠ 0 → (mcheckP R L).1 = 0 → R = 64 ∨ 65536 < L.length + 2 * hids L) := Lib.hid (by
    intro h hm
    exact blindP_err (regs := R) (q := L) (ws := us) (by rw [← hP2]; exact h) hm)
  have HBAD : Hid ((mcheckP regs q).1 ≠ 0 → E = 1) := Lib.hid (by
    intro h
    have := blindP_bad2 (ws := ws) h
    rw [← hP] at this
    injection this with _ this
    injection this)
  clear hr hq hA hr1 hq1 hA1 hr2 hq2 hA2 hr3 hq3 hA3 hg hP hP2 hLok hLok2
  go_enter Try.func12, Try.ntmps12
  go_wp2_with fail
  refine (lives21_c _).mono ?_
  rintro e w1 ⟨rfl, hb1⟩
  have c0 : w1.cell? ⟨w.heap.size, 0, none⟩ = some (.int .i64 regs) := keepC hb1 (by simp [go_sem])
  have c1 : w1.cell? ⟨w.heap.size, 1, none⟩ = some (.slice A q.length cap) := keepC hb1 (by simp [go_sem])
  have c2 : w1.cell? ⟨w.heap.size + 1, 0, none⟩ = some (.slice A1 ws.length cap1) := keepC hb1 (by simp [go_sem])
  have c3 : w1.cell? ⟨w.heap.size + 1, 1, none⟩ = some (.slice A2 us.length cap2) := keepC hb1 (by simp [go_sem])
  have hb1' : Below w.heap.size w w1 := below_t (below_al (below1 w _) _) hb1
  clear hb1
  go_wp2_with fail
  refine (Count_c A regs cap q HQ.out (by omega) w1 (HR.out.up hb1')).mono ?_
  rintro e w2 ⟨rfl, hb2⟩
  have c0' := keepC hb2 c0
  have c1' := keepC hb2 c1
  have c2' := keepC hb2 c2
  have c3' := keepC hb2 c3
  have hb2' := below_t hb1' hb2
  clear hb2 c0 c1 c2 c3 hb1'
  go_wp2_with fail
  refine (Blind_c A regs cap q A1 cap1 ws HQ.out HA.out hc hB hc1 hB1 w2 (HR.out.up hb2') (HR1.out.up hb2')).mono ?_
  rintro e w3 ⟨v, rfl, hown, hb3⟩
  rw [← HP.out] at hown ⊢
  dsimp only at hown ⊢
  obtain ⟨Av, capv, rfl, hcv, hAv, hrv, -⟩ := own_slice hown
  have HRV := Lib.hid hrv
  have HAV := Lib.hid hAv
  have c0 := keepC hb3 c0'
  have c1 := keepC hb3 c1'
  have c3 := keepC hb3 c3'
  have hb3' := below_t hb2' hb3
  clear hb3 hown hrv hAv c0' c1' c2' c3' hb2'
  by_cases hz : (mcheckP regs q).1 = 0
  · have hzc : countP regs q = ((hids q : Int), 0) := by unfold countP; rw [if_neg (by simpa using hz)]
    have hql := (mcheckP_zero hz).2.2.2.1
    have hhl : hids q ≤ q.length := List.countP_le_length
    rw [hzc]
    dsimp only
    by_cases hE : E = 0
    · have t1 : (E != 0) = false := by simpa using hE
      obtain ⟨-, f2, f3⟩ := HFORM.out hE
      obtain ⟨y1, y2, y3⟩ := HSAY.out hE
      have hLz := mcheckP_zero (show (mcheckP R L).1 = 0 by rw [y3])
      have HY1 := Lib.hid y1
      have HY2 := Lib.hid y2
      have HC2 := Lib.hid (show countP R L = ((hids L : Int), 0) by unfold countP; rw [if_neg (by rw [y3]; simp)])
      have HERR := Lib.hid (fun h => HERR2.out h (by rw [y3]))
      have hLl := hLz.2.2.2.1
      have hR1 := hLz.1
      have hR2 := hLz.2.1
      have hhL : hids L ≤ L.length := List.countP_le_length
      obtain ⟨H, hH⟩ : ∃ H, H = hids q := ⟨_, rfl⟩
      obtain ⟨M, hM⟩ : ∃ M, M = hids L := ⟨_, rfl⟩
      have HF3 : Hid (L2.length = L2.length) := Lib.hid rfl
      have HFM : Hid (E2 = 0 → L2.length = L.length + 2 * M) := Lib.hid (by rw [hM]; exact HFORM2.out)
      have HEM : Hid (E2 ≠ 0 → R = 64 ∨ 65536 < L.length + 2 * M) := Lib.hid (by rw [hM]; exact HERR.out)
      rw [← hH] at f2 f3 hhl ⊢
      rw [← hM] at hhL
      have HCM : Hid (countP R L = ((M : Int), 0)) := Lib.hid (by rw [hM]; exact HC2.out)
      have hw1 : IntKind.i64.wrap (2 * (H : Int)) = 2 * (H : Int) := by rw [IntKind.wrap_i64]; omega
      have hw2 : IntKind.i64.wrap ((q.length : Int) + 2 * (H : Int)) = (L.length : Int) := by rw [IntKind.wrap_i64]; omega
      have hw3 : IntKind.i64.wrap (2 * (M : Int)) = 2 * (M : Int) := by rw [IntKind.wrap_i64]; omega
      have HW4 := Lib.hid (show IntKind.i64.wrap ((L.length : Int) + 2 * (M : Int)) = (L.length : Int) + 2 * (M : Int) by rw [IntKind.wrap_i64]; omega)
      have HLl := Lib.hid hLl
      have HR12 := Lib.hid (And.intro hR1 hR2)
      have HqL := Lib.hid (And.intro hql hhl)
      have HhL := Lib.hid hhL
      obtain ⟨W3, hW3⟩ : ∃ W3, W3 = w3.alloc (.cells #[.int .i64 R, .slice Av L.length capv] 25) := ⟨_, rfl⟩
      have hb4 : Below w3.heap.size w3 W3 := by rw [hW3]; exact below1 w3 _
      have d0 : W3.cell? ⟨w3.heap.size, 0, none⟩ = some (.int .i64 R) := by rw [hW3]; simp [go_sem]
      have d1 : W3.cell? ⟨w3.heap.size, 1, none⟩ = some (.slice Av L.length capv) := by rw [hW3]; simp [go_sem]
      have e0 := keepC hb4 c0
      have e1 := keepC hb4 c1
      have e3 := keepC hb4 c3
      have hb4' := below_t hb3' hb4
      have hR : ∃ B : Bool, decide (0 < (H : Int)) = B ∧ R = regs + (if B = true then 1 else 0) := by
        refine ⟨_, rfl, ?_⟩
        rw [f2]
        by_cases h : 0 < H
        · simp [h]
        · simp [h]
      clear hE y1 y2 y3 hLz f2 f3 hH hM hz hzc HERR HC2 hLl hR1 hR2 hql hhl hhL
      go_wp2_with fail
      change Calls _ _ _ (w3.alloc (.cells #[.int .i64 R, .slice Av L.length capv] 25)) _
      rw [← hW3]
      clear hW3 c0 c1 c3
      refine (Count_c Av R capv L HLOK.out (by have := HLl.out; omega) W3 (HRV.out.up hb4)).mono ?_
      rintro e w5 ⟨rfl, hb5⟩
      rw [HCM.out]
      dsimp only
      have d0' := keepC hb5 d0
      have d1' := keepC hb5 d1
      have e0' := keepC hb5 e0
      have e1' := keepC hb5 e1
      have e3' := keepC hb5 e3
      have hk5 := below_t hb4 hb5
      have hb5' := below_t hb4' hb5
      clear d0 d1 e0 e1 e3 hb4 hb4' hb5
      go_wp2_with fail
      refine (Blind_c Av R capv L A2 cap2 us HLOK.out HAV.out hcv (by have := HLl.out; omega) hc2 hB2 w5 (HRV.out.up hk5) (HR2.out.up hb5')).mono ?_
      rintro e w6 ⟨v2, rfl, hown2, hb6⟩
      rw [← HP2.out] at hown2 ⊢
      dsimp only at hown2 ⊢
      obtain ⟨Au, capu, rfl, hcu, hAu, hru, -⟩ := own_slice hown2
      have HRU := Lib.hid hru
      have d0 := keepC hb6 d0'
      have d1 := keepC hb6 d1'
      have e0 := keepC hb6 e0'
      have e1 := keepC hb6 e1'
      have hb6' := below_t hb5' hb6
      clear hown2 hru hAu d0' d1' e0' e1' e3' hk5 hb5' hb6
      obtain ⟨W6, hW6⟩ : ∃ W6, W6 = w6.alloc (.cells #[.int .i64 R2, .slice Au L2.length capu] 25) := ⟨_, rfl⟩
      have hb7 : Below w6.heap.size w6 W6 := by rw [hW6]; exact below1 w6 _
      have u0 : W6.cell? ⟨w6.heap.size, 0, none⟩ = some (.int .i64 R2) := by rw [hW6]; simp [go_sem]
      have u1 : W6.cell? ⟨w6.heap.size, 1, none⟩ = some (.slice Au L2.length capu) := by rw [hW6]; simp [go_sem]
      have d0' := keepC hb7 d0
      have d1' := keepC hb7 d1
      have e0' := keepC hb7 e0
      have e1' := keepC hb7 e1
      have hb7' := below_t hb6' hb7
      rw [hW6] at u0 u1 d0' d1' e0' e1' hb7 hb7'
      clear hW6 W6 d0 d1 e0 e1 hb6'
      obtain ⟨B, gB, hRB⟩ := hR
      cases B with
      | false =>
        have hwA : IntKind.i64.wrap regs = R := by have h : R = regs := by simpa using hRB
                                                   have := HR12.out; rw [IntKind.wrap_i64]; omega
        obtain rfl : H = 0 := by have : ¬ 0 < (H : Int) := by simpa using gB
                                 omega
        have hwq : IntKind.i64.wrap (q.length : Int) = (L.length : Int) := by have h := hw2; rw [show (q.length : Int) + 2 * ((0 : Nat) : Int) = q.length by simp] at h; exact h
        clear hRB gB hw2 hw1
        by_cases hE2 : E2 = 0
        · have t3 : (E2 != 0) = false := by simpa using hE2
          have hfm := HFM.out hE2
          have hw4 : IntKind.i64.wrap ((L.length : Int) + 2 * (M : Int)) = (L2.length : Int) := by rw [HW4.out]; omega
          obtain ⟨x1, x2, x3⟩ := HSAY2.out hE2
          have hL2l := (mcheckP_zero (show (mcheckP R2 L2).1 = 0 by rw [x3])).2.2.2.1
          have z1 := HY1.out.trans x1
          have z2 := HY2.out.trans x2
          have HX1 := Lib.hid z1
          have HX2 := Lib.hid z2
          have HL2l := Lib.hid hL2l
          clear hE2 hfm x1 x2 x3 z1 z2 hL2l
          go_wp2_with fail
          refine (MRun_c A regs cap q A3 cap3 dat HQ.out (by omega) HQ3.out (by omega) _ (HR.out.up hb7') (HR3.out.up hb7')).mono ?_
          rintro e w8 ⟨rfl, hb8⟩
          obtain ⟨⟨rv, rs, rf, ra⟩, hR0⟩ : ∃ X, X = runP regs q dat := ⟨_, rfl⟩
          have h1 := HX1.out
          have h2 := HX2.out
          rw [← hR0] at h1 h2 ⊢
          obtain ⟨⟨rv', rs', rf', ra'⟩, hR1⟩ : ∃ X, X = runP R2 L2 dat := ⟨_, rfl⟩
          rw [← hR1] at h1 h2
          unfold ret4
          dsimp only at h1 h2 ⊢
          subst h1 h2
          have HR1' := Lib.hid hR1
          have u0' := keepC hb8 u0
          have u1' := keepC hb8 u1
          have hk8 := below_t hb7 hb8
          have hb8' := below_t hb7' hb8
          clear hR0 hR1 u0 u1 hb7 hb7' hb8 d0' d1' e0' e1'
          go_wp2_with fail
          refine (MRun_c Au R2 capu L2 A3 cap3 dat HLOK2.out (by have := HL2l.out; omega) HQ3.out (by omega) w8 (HRU.out.up hk8) (HR3.out.up hb8')).mono ?_
          rintro e w9 ⟨rfl, hb9⟩
          rw [← HR1'.out]
          unfold ret4
          dsimp only
          have hb9' := below_t hb8' hb9
          clear u0' u1' hk8 hb8' hb9
          go_wp2
          go_ret
          exact ⟨rfl, hb9'⟩
        · have t3 : (E2 != 0) = true := by simpa using hE2
          have hem := HEM.out hE2
          by_cases h64 : R = 64
          · have t5 : (R == 64) = true := by simpa using h64
            clear hE2 hem h64
            go_wp2
            go_ret
            exact ⟨rfl, hb7'⟩
          · have t5 : (R == 64) = false := by simpa using h64
            have hw4 := HW4.out
            have t6 : decide (65536 < (L.length : Int) + 2 * (M : Int)) = true := by simp; omega
            clear hE2 hem h64
            go_wp2
            go_ret
            exact ⟨rfl, hb7'⟩
      | true =>
        have hwA : IntKind.i64.wrap (regs + 1) = R := by have h : R = regs + 1 := by simpa using hRB
                                                         have := HR12.out; rw [IntKind.wrap_i64]; omega
        have hH0 : 0 < H := by have : 0 < (H : Int) := by simpa using gB
                               omega
        clear hRB gB
        by_cases hE2 : E2 = 0
        · have t3 : (E2 != 0) = false := by simpa using hE2
          have hfm := HFM.out hE2
          have hw4 : IntKind.i64.wrap ((L.length : Int) + 2 * (M : Int)) = (L2.length : Int) := by rw [HW4.out]; omega
          obtain ⟨x1, x2, x3⟩ := HSAY2.out hE2
          have hL2l := (mcheckP_zero (show (mcheckP R2 L2).1 = 0 by rw [x3])).2.2.2.1
          have z1 := HY1.out.trans x1
          have z2 := HY2.out.trans x2
          have HX1 := Lib.hid z1
          have HX2 := Lib.hid z2
          have HL2l := Lib.hid hL2l
          clear hE2 hfm x1 x2 x3 z1 z2 hL2l
          go_wp2_with fail
          refine (MRun_c A regs cap q A3 cap3 dat HQ.out (by omega) HQ3.out (by omega) _ (HR.out.up hb7') (HR3.out.up hb7')).mono ?_
          rintro e w8 ⟨rfl, hb8⟩
          obtain ⟨⟨rv, rs, rf, ra⟩, hR0⟩ : ∃ X, X = runP regs q dat := ⟨_, rfl⟩
          have h1 := HX1.out
          have h2 := HX2.out
          rw [← hR0] at h1 h2 ⊢
          obtain ⟨⟨rv', rs', rf', ra'⟩, hR1⟩ : ∃ X, X = runP R2 L2 dat := ⟨_, rfl⟩
          rw [← hR1] at h1 h2
          unfold ret4
          dsimp only at h1 h2 ⊢
          subst h1 h2
          have HR1' := Lib.hid hR1
          have u0' := keepC hb8 u0
          have u1' := keepC hb8 u1
          have hk8 := below_t hb7 hb8
          have hb8' := below_t hb7' hb8
          clear hR0 hR1 u0 u1 hb7 hb7' hb8 d0' d1' e0' e1'
          go_wp2_with fail
          refine (MRun_c Au R2 capu L2 A3 cap3 dat HLOK2.out (by have := HL2l.out; omega) HQ3.out (by omega) w8 (HRU.out.up hk8) (HR3.out.up hb8')).mono ?_
          rintro e w9 ⟨rfl, hb9⟩
          rw [← HR1'.out]
          unfold ret4
          dsimp only
          have hb9' := below_t hb8' hb9
          clear u0' u1' hk8 hb8' hb9
          go_wp2
          go_ret
          exact ⟨rfl, hb9'⟩
        · have t3 : (E2 != 0) = true := by simpa using hE2
          have hem := HEM.out hE2
          by_cases h64 : R = 64
          · have t5 : (R == 64) = true := by simpa using h64
            clear hE2 hem h64
            go_wp2
            go_ret
            exact ⟨rfl, hb7'⟩
          · have t5 : (R == 64) = false := by simpa using h64
            have hw4 := HW4.out
            have t6 : decide (65536 < (L.length : Int) + 2 * (M : Int)) = true := by simp; omega
            clear hE2 hem h64
            go_wp2
            go_ret
            exact ⟨rfl, hb7'⟩
    · have t1 : (E != 0) = true := by simpa using hE
      clear hE hz hzc
      go_wp2
      go_ret
      exact ⟨rfl, below_al hb3' _⟩
  · have hzc : countP regs q = (0, 1) := by unfold countP; rw [if_pos (by simpa using hz)]
    have hE := HBAD.out hz
    subst hE
    rw [hzc]
    dsimp only
    clear hz hzc
    go_wp2
    go_ret
    exact ⟨rfl, below_al hb3' _⟩
/-! ### the row of BlindTwice -/
set_option maxRecDepth 100000 in
theorem BlindTwice_lifted (os : Os) (started : os.Started) (H : Type) (enc : TypeId × Value → H) :
    ReturnsInHanded {} Try.checked os 12 .any (Rows.blindTwiceSpec.pre6 enc Try.prog Try.f12 Rows.blindTwiceRow.domain false) (Rows.blindTwiceSpec.post enc Try.prog Try.f12 false true false false) := by
  refine returnsInHanded_of_change_sized (C := Try.checked) ownNone started (by kernel_rfl) Try.func12
    (ChangeSpec.witness6 (enc := enc) (C := Try.checked) false ⟨#[], #[.agg #[.int .i64 0, .slice none 0 0], .agg #[.slice none 0 0, .slice none 0 0], .slice none 0 0], []⟩ 8 (by kernel_rfl) (by kernel_rfl) (by kernel_rfl) (by kernel_rfl)) ?_
  intro W base args ds gs before hval0 hW hcnd hsz0 _
  have hsz : (DataW.weightsEach Try.prog (Try.f12.params.toList ++ Rows.blindTwiceSpec.plain.varTypes Try.prog) (ds ++ gs)).all (· ≤ reachBytes) = true := hsz0
  have hval : ∀ (j : Nat) t v, Try.f12.params[j]? = some t → args[j]? = some v → Value.okWide Try.prog W .any base t v := hval0
  have hW' := hW
  obtain ⟨p, q, hA0, hV, rfl, hfz, hnd⟩ := hW
  have hA : DataW.TrodAll enc Try.prog W 0 (fun _ => true) true Try.f12.params.toList args.toList ds p := hA0
  rw [Try.params12] at hA hval hsz
  obtain ⟨v0, vs0, d0, ds0, p0, q0, hargs, rfl, rfl, h0, r0⟩ := trodAll_cons hA
  obtain ⟨v1, vs1, d1, ds1, p1, q1, rfl, rfl, rfl, h1, r1⟩ := trodAll_cons r0
  obtain ⟨v2, vs2, d2, ds2, p2, q2, rfl, rfl, rfl, h2, r2⟩ := trodAll_cons r1
  obtain ⟨rfl, rfl, rfl⟩ := trodAll_nil r2
  obtain rfl : args = #[v0, v1, v2] := by cases args; simp_all
  obtain ⟨rfl, rfl⟩ := trodVars_none hV
  obtain ⟨rg0, a0, cap0, xs0, rfl, hi0, ho0, hc0, ha0, hb0, hr0⟩ := open_mir (j := 0) hsz rfl rfl (hval 0 25 v0 rfl rfl) h0
  have k0 := h0
  have lt0 : ∀ x ∈ p0, x.block < W.heap.size := by obtain ⟨m, hm⟩ := k0; exact DataW.trod_lt m _ _ _ hm
  obtain ⟨a1a, cap1a, xs1a, a1b, cap1b, xs1b, rfl, ho1a, hc1a, ha1a, hb1a, hr1a, ho1b, hc1b, ha1b, hb1b, hr1b⟩ := open_two (j := 1) hsz rfl rfl (hval 1 59 v1 rfl rfl) h1
  have k1 := h1
  have lt1 : ∀ x ∈ p1, x.block < W.heap.size := by obtain ⟨m, hm⟩ := k1; exact DataW.trod_lt m _ _ _ hm
  obtain ⟨a2, len2, cap2, rfl⟩ := okWide_slice Try.underlying45 (hval 2 45 v2 rfl rfl)
  have k2 := h2
  have lt2 : ∀ x ∈ p2, x.block < W.heap.size := by obtain ⟨m, hm⟩ := k2; exact DataW.trod_lt m _ _ _ hm
  obtain ⟨xs2, hl2, hr2, ho2, hc2, ha2, hb2⟩ := open_rows (α := Int) (j := 2) (fun x : Int => [Value.int .u8 x]) (fun x : Int => 0 ≤ x ∧ x < 256) 1 1 Try.underlying45 (by kernel_rfl) (by decide) (fun _ => rfl) (by kernel_rfl) (int_cells Try.underlying5 (fun h => wf_u8 h)) hsz rfl rfl h2
  subst hl2
  clear hA0 hval0 hsz0 hsz
  refine (BlindTwice_w rg0 a0 cap0 xs0 a1a cap1a xs1a a1b cap1b xs1b a2 cap2 xs2 W hi0 ho0 hc0 ha0 hb0 hr0 ho1a hc1a ha1a hb1a hr1a ho1b hc1b ha1b hb1b hr1b ho2 hc2 ha2 hb2 (reads_num hr2)).mono fun e W' ⟨he, bel⟩ => ?_
  subst he
  exact ⟨_, rfl, _, _, _, [], _, [], hW', trodAll_mk1 (shut_bool Try.underlying4 _), (trodAll_cons_mk (Below.trod laidOutB_ (by kernel_rfl) (of_decide_eq_true (by kernel_rfl)) k0 bel lt0) (trodAll_cons_mk (Below.trod laidOutB_ (by kernel_rfl) (of_decide_eq_true (by kernel_rfl)) k1 bel lt1) (trodAll_cons_mk (Below.trod laidOutB_ (by kernel_rfl) (of_decide_eq_true (by kernel_rfl)) k2 bel lt2) trodAll_mk0))), rfl, bel.frame _, fun h => by cases h⟩
theorem BlindTwice_holds : Rows.BlindTwiceSaid :=
  OpenClaim.holds_of_wide 12 Try.f12 rfl rfl rfl rfl rfl rfl rfl ⟨rfl, rfl, rfl, rfl, rfl⟩ rfl rfl rfl rfl rfl (by kernel_rfl) Try.func12 (by kernel_rfl)
    (of_decide_eq_true (by kernel_rfl)) (by unfold Func.isWrapper; first | (rw [if_pos (by decide +kernel)]; kernel_rfl) | (rw [if_neg (by decide +kernel)]; exact ⟨rfl, rfl⟩))
    (fun os started H enc _ => BlindTwice_lifted os started H enc)
#print axioms BlindTwice_holds
end Go.Proofs.Ytalhjbncloobpaa
