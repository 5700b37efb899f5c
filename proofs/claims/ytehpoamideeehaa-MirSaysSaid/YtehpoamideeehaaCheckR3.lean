import Derived.Test.YtehpoamideeehaaCheckR2
set_option linter.unusedVariables false
set_option linter.unusedSimpArgs false
namespace Go.Proofs.Ytehpoamideeehaa
open Go.RowKit
/-! ravelinref04.Check, Is; check.Check's facts. -/
theorem class6_small : chk (fun n => !(sealsL n) || ((bits .and .u16 n 7 == 6) == (((n : Int) == 6) || ((n : Int) == 22)))) 256 = true := by decide +kernel
theorem class6 {c : Int} (h0 : 0 ≤ c) (hs : sealsL c = true) : (bits .and .u16 c 7 = 6) ↔ (c = 6 ∨ c = 22) := by
  obtain ⟨n, rfl⟩ := Int.eq_ofNat_of_zero_le h0
  by_cases h : n < 256
  · have := chk_all _ _ class6_small n h
    simp only [hs, Bool.not_true, Bool.false_or, beq_iff_eq] at this
    rw [Bool.eq_iff_iff] at this
    simpa using this
  · rw [sealsL_big _ (by omega)] at hs; cases hs
theorem oneP_seals {x : I4} {L : Int} (h : oneP x L = 0) : sealsL x.c = true := by
  cases hs : sealsL x.c with
  | true => rfl
  | false => obtain ⟨c, j, f, k⟩ := x; rw [oneP_bad c j f k L hs] at h; cases h

set_option maxHeartbeats 400000 in
theorem rCheck_c (A : Option Addr) (cap : Nat) (q : List I4) (hq : ∀ x ∈ q, x.ok) (hn : q.length ≤ 9223372036854775807) (w : World) (hr : Reads w w.heap.size 4 A q.length (cellsI q)) :
    Calls Try.prog 20 #[.slice A q.length cap] w (CheckPost w q) := by
  by_cases hL : q.length = 0 ∨ 4096 < q.length
  · have HX := Lib.hid (show checkP q = (41, 0) by unfold checkP; rw [if_pos hL])
    clear hr
    rcases hL with h | h
    · have hd : ((q.length : Int) == 0) = true := by rw [h]; rfl
      clear h
      go_enter Try.func20, Try.ntmps20
      go_wp2
      go_ret2
      exact ⟨ret_p HX.out, Below.refl _ _⟩
    · have hd : ((q.length : Int) == 0) = false := by rw [beq_eq_false_iff_ne]; omega
      have hd2 : (4096 : Int) < q.length := by omega
      clear h
      go_enter Try.func20, Try.ntmps20
      go_wp2
      go_ret2
      exact ⟨ret_p HX.out, Below.refl _ _⟩
  · have hpos : 0 < q.length := by omega
    have h4 : q.length ≤ 4096 := by omega
    have hd : ((q.length : Int) == 0) = false := by rw [beq_eq_false_iff_ne]; omega
    have hd2 : (q.length : Int) ≤ 4096 := by omega
    have HR := Lib.hid hr
    have HQ := Lib.hid hq
    have HN := Lib.hid hL
    clear hr hq hL
    go_enter Try.func20, Try.ntmps20
    go_wp2_with fail
    go_loopw [4] (fun i wr => ∃ n : Nat, n ≤ q.length ∧ i = .int .i64 n ∧ Below w.heap.size w wr ∧ ∀ j, j < n → oneQ q j = 0) (fun i _ => q.length - (intOf i).toNat)
    case atStart => exact ⟨0, by omega, rfl, Below.refl _ _, fun i h => by omega⟩
    case round =>
      obtain ⟨n, hn6, rfl, hBw, hno⟩ := hrel
      have HO := Lib.hid hno
      clear hno
      by_cases h6 : n < q.length
      · obtain ⟨x, hx⟩ : ∃ x, q[n]? = some x := ⟨_, List.getElem?_eq_getElem h6⟩
        have e0 : oneP x (q.length - n - 1 : Nat) = oneQ q n := by unfold oneQ; rw [hx]
        have HE := Lib.hid hx
        have HP := Lib.hid e0
        clear e0 hx
        go_wp2_with fail
        refine (rOne_in A cap n q x HE.out (HQ.out x (List.mem_of_getElem? HE.out)) hn wr (HR.out.up hBw)).mono ?_
        rw [HP.out]
        rintro e w2 ⟨rfl, hb2⟩
        have hB2 : Below w.heap.size w w2 := below_t hBw hb2
        by_cases hz : oneQ q n = 0
        · have HN' := Lib.hid (show ∀ i, i < n + 1 → oneQ q i = 0 from fun i hi => by
            rcases Nat.lt_succ_iff_lt_or_eq.1 hi with h | rfl
            · exact HO.out i h
            · exact hz)
          have hz' : (oneQ q n != 0) = false := by simpa using hz
          clear hz HO
          go_wp2
          go_roundw
          case rel => exact ⟨n + 1, by omega, by go_num, hB2, HN'.out⟩
          case measure => simp [intOf]; omega
        · have hz' : (oneQ q n != 0) = true := by simpa using hz
          have HF := Lib.hid (show checkP q = (oneQ q n, (n : Int)) by
            unfold checkP
            rw [if_neg HN.out, find_some _ _ n h6 hz' (fun j hj => by simp [HO.out j hj])])
          clear hz HO
          go_wp2
          go_ret2
          exact ⟨ret_p HF.out, hB2⟩
      · obtain ⟨x, hx⟩ : ∃ x, q[q.length - 1]? = some x := ⟨_, List.getElem?_eq_getElem (by omega)⟩
        have hno' : (List.range q.length).find? (fun i => oneQ q i != 0) = none := find_none _ _ (fun j hj => by simp [HO.out j (by omega)])
        have hl : lastC q = x.c := by unfold lastC; rw [hx]
        have hxo := HQ.out x (List.mem_of_getElem? hx)
        have h1q : oneQ q (q.length - 1) = 0 := HO.out _ (by omega)
        have hse : sealsL x.c = true := by unfold oneQ at h1q; rw [hx] at h1q; exact oneP_seals h1q
        have hcl := class6 hxo.1 hse
        obtain ⟨b, off, rfl, hbl, i0, _⟩ := (HR.out.up hBw).insn hx
        have HS := Lib.hid hno'
        have HLa := Lib.hid hl
        clear hno' hl hx HO hse h1q
        by_cases hz : x.c = 6
        · have hz' : (x.c != 6) = false := by simpa using hz
          have HF := Lib.hid (show checkP q = (0, 0) by unfold checkP; rw [if_neg HN.out, HS.out]; simp only [HLa.out]; rw [if_pos (hcl.2 (.inl hz))])
          clear hz hcl
          go_wp2
          go_ret2
          exact ⟨ret_p HF.out, hBw⟩
        · have hz' : (x.c != 6) = true := by simpa using hz
          by_cases hy : x.c = 22
          · have hy' : (x.c != 22) = false := by simpa using hy
            have HF := Lib.hid (show checkP q = (0, 0) by unfold checkP; rw [if_neg HN.out, HS.out]; simp only [HLa.out]; rw [if_pos (hcl.2 (.inr hy))])
            clear hz hy hcl
            go_wp2
            go_ret2
            exact ⟨ret_p HF.out, hBw⟩
          · have hy' : (x.c != 22) = true := by simpa using hy
            have HF := Lib.hid (show checkP q = (48, (q.length : Int) - 1) by unfold checkP; rw [if_neg HN.out, HS.out]; simp only [HLa.out]; rw [if_neg (fun h => by rcases hcl.1 h with h | h; exact hz h; exact hy h)])
            clear hz hy hcl
            go_wp2
            go_ret2
            exact ⟨ret_p HF.out, hBw⟩
def isP (q : List I4) : Bool := (checkP q).1 == 0
set_option maxHeartbeats 400000 in
theorem rIs_c (A : Option Addr) (cap : Nat) (q : List I4) (hq : ∀ x ∈ q, x.ok) (hn : q.length ≤ 9223372036854775807) (w : World) (hr : Reads w w.heap.size 4 A q.length (cellsI q)) :
    Calls Try.prog 9 #[.slice A q.length cap] w fun e w' => e = .returned (.bool (isP q)) ∧ Below w.heap.size w w' := by
  have HR := Lib.hid hr
  clear hr
  go_enter Try.func9, Try.ntmps9
  go_wp2_with fail
  refine (rCheck_c A cap q hq hn w HR.out).mono ?_
  rintro e w' ⟨rfl, hb⟩
  go_wp2
  go_ret
  exact ⟨rfl, hb⟩
end Go.Proofs.Ytehpoamideeehaa
