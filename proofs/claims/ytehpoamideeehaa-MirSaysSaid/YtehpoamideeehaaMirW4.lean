import Derived.Test.YtehpoamideeehaaMirW3
set_option linter.unusedVariables false
set_option linter.unusedSimpArgs false
namespace Go.Proofs.Ytehpoamideeehaa
open Go.RowKit
/-! mir.Check, ravelinref12.Check: the walks. -/
set_option maxHeartbeats 800000 in
theorem MCheck_c (A : Option Addr) (regs : Int) (cap : Nat) (q : List R7) (hq : ∀ x ∈ q, x.ok) (hn : q.length ≤ 9223372036854775807) (w : World) (hr : Reads w w.heap.size 7 A q.length (cellsR q)) :
    Calls Try.prog 27 #[.agg #[.int .i64 regs, .slice A q.length cap]] w (MCheckPost w regs q) := by
  by_cases hR : regs < 1 ∨ 64 < regs
  · have HX := Lib.hid (show mcheckP regs q = (121, 0) by unfold mcheckP; rw [if_pos hR])
    clear hr
    rcases hR with h | h
    · go_enter Try.func27, Try.ntmps27
      go_wp2
      go_ret2
      exact ⟨ret_pM HX.out, below1 _ _⟩
    · have h1 : ¬ regs < 1 := by omega
      go_enter Try.func27, Try.ntmps27
      go_wp2
      go_ret2
      exact ⟨ret_pM HX.out, below1 _ _⟩
  have r1 : 1 ≤ regs := by omega
  have r2 : regs ≤ 64 := by omega
  have HNR := Lib.hid hR
  clear hR
  by_cases hL : q.length < 1 ∨ 65536 < q.length
  · have HX := Lib.hid (show mcheckP regs q = (122, 0) by unfold mcheckP; rw [if_neg HNR.out, if_pos hL])
    clear hr
    rcases hL with h | h
    · have hd : ((q.length : Int) == 0) = true := by rw [beq_iff_eq]; omega
      have h1 : (q.length : Int) < 1 := by omega
      clear h
      go_enter Try.func27, Try.ntmps27
      go_wp2
      go_ret2
      exact ⟨ret_pM HX.out, below1 _ _⟩
    · have hd : ((q.length : Int) == 0) = false := by rw [beq_eq_false_iff_ne]; omega
      have h1 : (65536 : Int) < q.length := by omega
      have h2 : ¬ (q.length : Int) < 1 := by omega
      clear h
      go_enter Try.func27, Try.ntmps27
      go_wp2
      go_ret2
      exact ⟨ret_pM HX.out, below1 _ _⟩
  · have hpos : 0 < q.length := by omega
    have hd : ((q.length : Int) == 0) = false := by rw [beq_eq_false_iff_ne]; omega
    have h1 : ¬ (q.length : Int) < 1 := by omega
    have hd2 : (q.length : Int) ≤ 65536 := by omega
    have hmx : q.length ≤ 65536 := by omega
    have HR := Lib.hid hr
    have HQ := Lib.hid hq
    have HN := Lib.hid hL
    clear hr hq hL
    go_enter Try.func27, Try.ntmps27
    go_wp2_with fail
    go_loopw [30] (fun i wr => ∃ n : Nat, n ≤ q.length ∧ i = .int .i64 n ∧ Below w.heap.size w wr ∧ wr.cell? ⟨w.heap.size, 0, none⟩ = some (.int .i64 regs) ∧ wr.cell? ⟨w.heap.size, 1, none⟩ = some (.slice A q.length cap) ∧ ∀ j, j < n → wrongQ regs q j = 0) (fun i _ => q.length - (intOf i).toNat)
    case atStart => exact ⟨0, by omega, rfl, below1 _ _, by simp, by simp, fun i h => by omega⟩
    case round =>
      obtain ⟨n, hn6, rfl, hBw, c0, c1, hno⟩ := hrel
      have HO := Lib.hid hno
      clear hno
      by_cases h6 : n < q.length
      · obtain ⟨x, hx⟩ : ∃ x, q[n]? = some x := ⟨_, List.getElem?_eq_getElem h6⟩
        have e0 : wrongP regs q.length n x = wrongQ regs q n := by unfold wrongQ; rw [hx]
        have HE := Lib.hid hx
        have HP := Lib.hid e0
        clear e0 hx
        go_wp2_with fail
        refine (wrong_c A regs cap n q x HE.out (HQ.out x (List.mem_of_getElem? HE.out)) hn wr (HR.out.up hBw)).mono ?_
        rw [HP.out]
        rintro e w2 ⟨rfl, hb2⟩
        have hB2 : Below w.heap.size w w2 := below_t hBw hb2
        have c0' := keepC hb2 c0
        have c1' := keepC hb2 c1
        by_cases hz : wrongQ regs q n = 0
        · have HN' := Lib.hid (show ∀ i, i < n + 1 → wrongQ regs q i = 0 from fun i hi => by
            rcases Nat.lt_succ_iff_lt_or_eq.1 hi with h | rfl
            · exact HO.out i h
            · exact hz)
          have hz' : (wrongQ regs q n != 0) = false := by simpa using hz
          clear hz HO
          go_wp2
          go_roundw
          case rel => exact ⟨n + 1, by omega, by go_num, hB2, c0', c1', HN'.out⟩
          case measure => simp [intOf]; omega
        · have hz' : (wrongQ regs q n != 0) = true := by simpa using hz
          have HF := Lib.hid (show mcheckP regs q = (wrongQ regs q n, (n : Int)) by
            unfold mcheckP
            rw [if_neg HNR.out, if_neg HN.out, find_someM _ _ n h6 hz' (fun j hj => by simp [HO.out j hj])])
          clear hz HO
          go_wp2
          go_ret2
          exact ⟨ret_pM HF.out, hB2⟩
      · obtain ⟨x, hx⟩ : ∃ x, q[q.length - 1]? = some x := ⟨_, List.getElem?_eq_getElem (by omega)⟩
        have hno' : (List.range q.length).find? (fun i => wrongQ regs q i != 0) = none := find_noneM _ _ (fun j hj => by simp [HO.out j (by omega)])
        have hl : lastO q = x.o := by unfold lastO; rw [hx]
        obtain ⟨b, off, rfl, hbl, i0, _⟩ := (HR.out.up hBw).ir hx
        have HS := Lib.hid hno'
        have HLa := Lib.hid hl
        clear hno' hl hx HO
        by_cases hz : x.o = 19
        · have hz' : (x.o != 19) = false := by simpa using hz
          have HF := Lib.hid (show mcheckP regs q = (0, 0) by unfold mcheckP; rw [if_neg HNR.out, if_neg HN.out, HS.out]; simp only [HLa.out, hz, if_true])
          clear hz
          go_wp2
          go_ret2
          exact ⟨ret_pM HF.out, hBw⟩
        · have hz' : (x.o != 19) = true := by simpa using hz
          have HF := Lib.hid (show mcheckP regs q = (127, (q.length : Int) - 1) by unfold mcheckP; rw [if_neg HNR.out, if_neg HN.out, HS.out]; simp only [HLa.out, hz, if_false])
          clear hz
          go_wp2
          go_ret2
          exact ⟨ret_pM HF.out, hBw⟩
set_option maxHeartbeats 800000 in
theorem rMCheck_c (A : Option Addr) (regs : Int) (cap : Nat) (q : List R7) (hq : ∀ x ∈ q, x.ok) (hn : q.length ≤ 9223372036854775807) (w : World) (hr : Reads w w.heap.size 7 A q.length (cellsR q)) :
    Calls Try.prog 21 #[.agg #[.int .i64 regs, .slice A q.length cap]] w (MCheckPost w regs q) := by
  by_cases hR : regs < 1 ∨ 64 < regs
  · have HX := Lib.hid (show mcheckP regs q = (121, 0) by unfold mcheckP; rw [if_pos hR])
    clear hr
    rcases hR with h | h
    · go_enter Try.func21, Try.ntmps21
      go_wp2
      go_ret2
      exact ⟨ret_pM HX.out, below1 _ _⟩
    · have h1 : ¬ regs < 1 := by omega
      go_enter Try.func21, Try.ntmps21
      go_wp2
      go_ret2
      exact ⟨ret_pM HX.out, below1 _ _⟩
  have r1 : 1 ≤ regs := by omega
  have r2 : regs ≤ 64 := by omega
  have HNR := Lib.hid hR
  clear hR
  by_cases hL : q.length < 1 ∨ 65536 < q.length
  · have HX := Lib.hid (show mcheckP regs q = (122, 0) by unfold mcheckP; rw [if_neg HNR.out, if_pos hL])
    clear hr
    rcases hL with h | h
    · have hd : ((q.length : Int) == 0) = true := by rw [beq_iff_eq]; omega
      have h1 : (q.length : Int) < 1 := by omega
      clear h
      go_enter Try.func21, Try.ntmps21
      go_wp2
      go_ret2
      exact ⟨ret_pM HX.out, below1 _ _⟩
    · have hd : ((q.length : Int) == 0) = false := by rw [beq_eq_false_iff_ne]; omega
      have h1 : (65536 : Int) < q.length := by omega
      have h2 : ¬ (q.length : Int) < 1 := by omega
      clear h
      go_enter Try.func21, Try.ntmps21
      go_wp2
      go_ret2
      exact ⟨ret_pM HX.out, below1 _ _⟩
  · have hpos : 0 < q.length := by omega
    have hd : ((q.length : Int) == 0) = false := by rw [beq_eq_false_iff_ne]; omega
    have h1 : ¬ (q.length : Int) < 1 := by omega
    have hd2 : (q.length : Int) ≤ 65536 := by omega
    have hmx : q.length ≤ 65536 := by omega
    have HR := Lib.hid hr
    have HQ := Lib.hid hq
    have HN := Lib.hid hL
    clear hr hq hL
    go_enter Try.func21, Try.ntmps21
    go_wp2_with fail
    go_loopw [4] (fun i wr => ∃ n : Nat, n ≤ q.length ∧ i = .int .i64 n ∧ Below w.heap.size w wr ∧ wr.cell? ⟨w.heap.size, 0, none⟩ = some (.int .i64 regs) ∧ wr.cell? ⟨w.heap.size, 1, none⟩ = some (.slice A q.length cap) ∧ ∀ j, j < n → wrongQ regs q j = 0) (fun i _ => q.length - (intOf i).toNat)
    case atStart => exact ⟨0, by omega, rfl, below1 _ _, by simp, by simp, fun i h => by omega⟩
    case round =>
      obtain ⟨n, hn6, rfl, hBw, c0, c1, hno⟩ := hrel
      have HO := Lib.hid hno
      clear hno
      by_cases h6 : n < q.length
      · obtain ⟨x, hx⟩ : ∃ x, q[n]? = some x := ⟨_, List.getElem?_eq_getElem h6⟩
        have e0 : wrongP regs q.length n x = wrongQ regs q n := by unfold wrongQ; rw [hx]
        have HE := Lib.hid hx
        have HP := Lib.hid e0
        clear e0 hx
        go_wp2_with fail
        refine (rOne12_c A regs cap n q x HE.out (HQ.out x (List.mem_of_getElem? HE.out)) hn wr (HR.out.up hBw)).mono ?_
        rw [HP.out]
        rintro e w2 ⟨rfl, hb2⟩
        have hB2 : Below w.heap.size w w2 := below_t hBw hb2
        have c0' := keepC hb2 c0
        have c1' := keepC hb2 c1
        by_cases hz : wrongQ regs q n = 0
        · have HN' := Lib.hid (show ∀ i, i < n + 1 → wrongQ regs q i = 0 from fun i hi => by
            rcases Nat.lt_succ_iff_lt_or_eq.1 hi with h | rfl
            · exact HO.out i h
            · exact hz)
          have hz' : (wrongQ regs q n != 0) = false := by simpa using hz
          clear hz HO
          go_wp2
          go_roundw
          case rel => exact ⟨n + 1, by omega, by go_num, hB2, c0', c1', HN'.out⟩
          case measure => simp [intOf]; omega
        · have hz' : (wrongQ regs q n != 0) = true := by simpa using hz
          have HF := Lib.hid (show mcheckP regs q = (wrongQ regs q n, (n : Int)) by
            unfold mcheckP
            rw [if_neg HNR.out, if_neg HN.out, find_someM _ _ n h6 hz' (fun j hj => by simp [HO.out j hj])])
          clear hz HO
          go_wp2
          go_ret2
          exact ⟨ret_pM HF.out, hB2⟩
      · obtain ⟨x, hx⟩ : ∃ x, q[q.length - 1]? = some x := ⟨_, List.getElem?_eq_getElem (by omega)⟩
        have hno' : (List.range q.length).find? (fun i => wrongQ regs q i != 0) = none := find_noneM _ _ (fun j hj => by simp [HO.out j (by omega)])
        have hl : lastO q = x.o := by unfold lastO; rw [hx]
        obtain ⟨b, off, rfl, hbl, i0, _⟩ := (HR.out.up hBw).ir hx
        have HS := Lib.hid hno'
        have HLa := Lib.hid hl
        clear hno' hl hx HO
        by_cases hz : x.o = 19
        · have hz' : (x.o != 19) = false := by simpa using hz
          have HF := Lib.hid (show mcheckP regs q = (0, 0) by unfold mcheckP; rw [if_neg HNR.out, if_neg HN.out, HS.out]; simp only [HLa.out, hz, if_true])
          clear hz
          go_wp2
          go_ret2
          exact ⟨ret_pM HF.out, hBw⟩
        · have hz' : (x.o != 19) = true := by simpa using hz
          have HF := Lib.hid (show mcheckP regs q = (127, (q.length : Int) - 1) by unfold mcheckP; rw [if_neg HNR.out, if_neg HN.out, HS.out]; simp only [HLa.out, hz, if_false])
          clear hz
          go_wp2
          go_quiet (fail)
          go_wp2
          go_ret2
          exact ⟨ret_pM HF.out, below_drN hBw _⟩
set_option maxHeartbeats 400000 in
theorem Right_c (A : Option Addr) (regs : Int) (cap : Nat) (q : List R7) (hq : ∀ x ∈ q, x.ok) (hn : q.length ≤ 9223372036854775807) (w : World) (hr : Reads w w.heap.size 7 A q.length (cellsR q)) :
    Calls Try.prog 10 #[.agg #[.int .i64 regs, .slice A q.length cap]] w fun e w' => e = .returned (.bool ((mcheckP regs q).1 == 0)) ∧ Below w.heap.size w w' := by
  have HR := Lib.hid hr
  clear hr
  go_enter Try.func10, Try.ntmps10
  go_wp2_with fail
  refine (rMCheck_c A regs cap q hq hn _ (HR.out.up (below1 w _))).mono ?_
  rintro e w' ⟨rfl, hb⟩
  go_wp2
  go_ret
  exact ⟨rfl, below_t (below1 w _) hb⟩
end Go.Proofs.Ytehpoamideeehaa
