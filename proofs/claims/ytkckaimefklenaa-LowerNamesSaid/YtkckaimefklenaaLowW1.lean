import Derived.Test.YtkckaimefklenaaLowP
set_option linter.unusedVariables false
set_option linter.unusedSimpArgs false
namespace Go.Proofs.Ytkckaimefklenaa
open Go.RowKit
/-! decision.Check, ravelinref08.Check: the walks. -/
theorem NodeAt.keep {w w1 : World} (hb : Below w.heap.size w w1) {b o : Nat} {x : N8} (h : NodeAt w b o x) : NodeAt w1 b o x := by
  obtain ⟨h0, h1, h2, h3, h4, h5, h6, h7⟩ := h
  exact ⟨keepC hb h0, keepC hb h1, keepC hb h2, keepC hb h3, keepC hb h4, keepC hb h5, keepC hb h6, keepC hb h7⟩
theorem aheadD_c (at_ : Nat) (to : Int) (n cap : Nat) (A : Option Addr) (B : Nat) (w : World) (hB : w.cell? ⟨B, 0, none⟩ = some (.slice A n cap)) :
    Calls Try.prog 14 #[.int .i64 at_, .int .i64 to, .pointer (some ⟨B, 0, none⟩)] w fun e w' => e = .returned (.bool (aheadN at_ to n)) ∧ w = w' := by
  by_cases h1 : (at_ : Int) < to
  · have g1 : decide ((at_ : Int) < to) = true := by simpa using h1
    by_cases h2 : to < (n : Int)
    · have g2 : decide (to < (n : Int)) = true := by simpa using h2
      go_enter Try.func14, Try.ntmps14
      go_wp2
      go_ret
      exact ⟨ret_b (by simp [aheadN, h1, h2]), rfl⟩
    · have g2 : decide (to < (n : Int)) = false := by simpa using h2
      go_enter Try.func14, Try.ntmps14
      go_wp2
      go_ret
      exact ⟨ret_b (by simp [aheadN, h1, h2]), rfl⟩
  · have g1 : decide ((at_ : Int) < to) = false := by simpa using h1
    go_enter Try.func14, Try.ntmps14
    go_wp2
    go_ret
    exact ⟨ret_b (by simp [aheadN]; omega), rfl⟩
theorem checkD_at {q : List N8} {i : Nat} {x : N8} (h0 : 0 < q.length) (h1 : q.length ≤ 4096) (hx : q[i]? = some x) (hno : ∀ j, j < i → badQ q j = 0) (hb : badN q.length i x ≠ 0) : checkD q = (badN q.length i x, (i : Int)) := by
  have hi := (List.getElem?_eq_some_iff.1 hx).1
  have hq : badQ q i = badN q.length i x := by unfold badQ; rw [hx]
  have hf : (List.range q.length).find? (fun i => badQ q i != 0) = some i := by
    rw [List.find?_eq_some_iff_getElem]
    refine ⟨by rw [hq]; simpa using hb, i, by simpa using hi, by simp, fun j hj => ?_⟩
    simp [hno j hj]
  unfold checkD
  rw [if_neg (by omega), hf]
  simp only [hq]
theorem checkD_ok {q : List N8} (h0 : 0 < q.length) (h1 : q.length ≤ 4096) (hno : ∀ j, j < q.length → badQ q j = 0) : checkD q = (0, 0) := by
  have hf : (List.range q.length).find? (fun i => badQ q i != 0) = none := by
    rw [List.find?_eq_none]
    intro j hj
    simp [hno j (by simpa using hj)]
  unfold checkD
  rw [if_neg (by omega), hf]
theorem ret_pD {a b : Int} {x : Int × Int} (h : x = (a, b)) : Ending.returned (.tuple #[.int .i64 a, .int .i64 b]) = .returned (.tuple #[.int .i64 x.1, .int .i64 x.2]) := by rw [h]
def DCheckPost (w : World) (q : List N8) (e : Ending) (w' : World) : Prop := e = .returned (.tuple #[.int .i64 (checkD q).1, .int .i64 (checkD q).2]) ∧ Below w.heap.size w w'
set_option maxHeartbeats 1600000 in
theorem DCheck_c (A : Option Addr) (cap : Nat) (q : List N8) (hq : ∀ x ∈ q, x.ok) (hn : q.length ≤ 9223372036854775807) (w : World) (hr : Reads w w.heap.size 8 A q.length (cellsN q)) :
    Calls Try.prog 9 #[.slice A q.length cap] w (DCheckPost w q) := by
  by_cases h1 : q.length = 0
  · have HX := Lib.hid (show checkD q = (83, 0) by unfold checkD; rw [if_pos (.inl h1)])
    have hd : ((q.length : Int) == 0) = true := by rw [beq_iff_eq]; omega
    clear hr h1
    go_enter Try.func9, Try.ntmps9
    go_wp2
    go_ret2
    exact ⟨ret_pD HX.out, below1 _ _⟩
  have hd : ((q.length : Int) == 0) = false := by rw [beq_eq_false_iff_ne]; omega
  by_cases h2 : 4096 < q.length
  · have HX := Lib.hid (show checkD q = (83, 0) by unfold checkD; rw [if_pos (.inr h2)])
    have hd2 : (4096 : Int) < q.length := by omega
    clear hr h1
    go_enter Try.func9, Try.ntmps9
    go_wp2
    go_ret2
    exact ⟨ret_pD HX.out, below1 _ _⟩
  have hpos : 0 < q.length := by omega
  have hle : q.length ≤ 4096 := by omega
  have hd2 : (q.length : Int) ≤ 4096 := by omega
  have HR := Lib.hid hr
  have HQ := Lib.hid hq
  clear hr hq h1 h2
  have hmf : ∀ (fn : Fn) (first cap : Array Value) (w : World), (Instr.makeFunc fn first cap).run Try.prog w = .ok (.func fn first cap) w := fun _ _ _ _ => rfl
  go_enter Try.func9, Try.ntmps9
  go_wp2_with fail
  go_loopw [18] (fun i wr => ∃ n : Nat, n ≤ q.length ∧ i = .int .i64 n ∧ Below w.heap.size w wr ∧ wr.cell? ⟨w.heap.size, 0, none⟩ = some (.slice A q.length cap) ∧ Hid (∀ j, j < n → badQ q j = 0)) (fun i _ => q.length - (intOf i).toNat)
  case atStart => exact ⟨0, by omega, rfl, below1 _ _, by simp [go_sem], Lib.hid fun i h => by omega⟩
  case round =>
    obtain ⟨n, hn6, rfl, hBw, c0, HNO⟩ := hrel
    rcases Nat.lt_or_ge n q.length with hlt | hge
    · have hlt' : (n : Int) < q.length := by omega
      obtain ⟨x, hx⟩ : ∃ x, q[n]? = some x := ⟨_, List.getElem?_eq_getElem hlt⟩
      obtain ⟨b, off, rfl, hb, i0, i1, i2, i3, i4, i5, i6, i7⟩ := (HR.out.up hBw).node hx
      have hxo := HQ.out x (List.mem_of_getElem? hx)
      have HNX : ∀ v, badN q.length n x = v → (v = 0 → ∀ j, j < n + 1 → badQ q j = 0) ∧ (v ≠ 0 → checkD q = (v, (n : Int))) := fun v hv => ⟨fun h j hj => by
        rcases Nat.lt_succ_iff_lt_or_eq.1 hj with g | rfl
        · exact HNO.out j g
        · unfold badQ; rw [hx]; exact hv.trans h, fun h => by subst hv; exact checkD_at hpos hle hx HNO.out h⟩
      have HN := Lib.hid HNX
      obtain ⟨lf, wd, of, mk, op, k, t, f⟩ := x
      have hsz : w.heap.size < wr.heap.size := World.block_lt_of_cell? wr _ c0
      have hB1 : ∀ o, (wr.alloc o).cell? ⟨w.heap.size, 0, none⟩ = some (.slice (some ⟨b, off, none⟩) q.length cap) := fun o => keepC (below1 wr o) c0
      dsimp only at i0 i1 i2 i3 i4 i5 i6 i7
      clear HNX hx hxo
      cases lf with
      | true =>
        have HE := Lib.hid ((HN.out 0 rfl).1 rfl)
        go_wp2
        go_roundw
        case rel => exact ⟨n + 1, by omega, by go_num, below_al hBw _, hB1 _, HE⟩
        case measure => simp [intOf]; omega
      | false =>
        by_cases h1 : of < 0
        · have HE := Lib.hid ((HN.out 84 (by simp [badN, badA, h1])).2 (by decide))
          go_wp2
          go_ret2
          exact ⟨ret_pD HE.out, below_al hBw _⟩
        have h1' : 0 ≤ of := by omega
        by_cases h2 : 64 ≤ of
        · have HE := Lib.hid ((HN.out 84 (by simp [badN, badA, h2])).2 (by decide))
          go_wp2
          go_ret2
          exact ⟨ret_pD HE.out, below_al hBw _⟩
        have h2' : of < 64 := by omega
        cases h3 : (of % 4 != 0) with
        | true =>
          have HE := Lib.hid ((HN.out 84 (by simp [badN, badA]; simp at h3; simp [h3])).2 (by decide))
          go_wp2
          go_ret2
          exact ⟨ret_pD HE.out, below_al hBw _⟩
        | false =>
          by_cases h4 : op < 1
          · have HE := Lib.hid ((HN.out 84 (by simp [badN, badA, h4])).2 (by decide))
            go_wp2
            go_ret2
            exact ⟨ret_pD HE.out, below_al hBw _⟩
          have h4' : 1 ≤ op := by omega
          by_cases h5 : 4 < op
          · have HE := Lib.hid ((HN.out 84 (by simp [badN, badA, h5])).2 (by decide))
            go_wp2
            go_ret2
            exact ⟨ret_pD HE.out, below_al hBw _⟩
          have h5' : op ≤ 4 := by omega
          have HA := Lib.hid (show badA ⟨false, wd, of, mk, op, k, t, f⟩ = false by simp only [badA, Bool.or_eq_false_iff, decide_eq_false_iff_not]; exact ⟨⟨⟨⟨h1, h2⟩, h3⟩, h4⟩, h5⟩)
          have HV := Lib.hid (HN.out _ rfl)
          clear h1 h2 h4 h5
          cases ha : aheadN n t q.length with
          | false =>
            have HE := Lib.hid ((HN.out 85 (by simp [badN, HA.out, ha])).2 (by decide))
            go_wp2_with fail
            refine (aheadD_c n t q.length cap (some ⟨b, off, none⟩) w.heap.size _ (hB1 _)).mono ?_
            rintro e w' ⟨rfl, rfl⟩
            rw [ha]
            go_wp2
            go_ret2
            exact ⟨ret_pD HE.out, below_al hBw _⟩
          | true =>
            cases hf : aheadN n f q.length with
            | false =>
              have HE := Lib.hid ((HN.out 85 (by simp [badN, HA.out, ha, hf])).2 (by decide))
              go_wp2_with fail
              refine (aheadD_c n t q.length cap (some ⟨b, off, none⟩) w.heap.size _ (hB1 _)).mono ?_
              rintro e w' ⟨rfl, rfl⟩
              rw [ha]
              go_wp2_with fail
              refine (aheadD_c n f q.length cap (some ⟨b, off, none⟩) w.heap.size _ (hB1 _)).mono ?_
              rintro e w' ⟨rfl, rfl⟩
              rw [hf]
              go_wp2
              go_ret2
              exact ⟨ret_pD HE.out, below_al hBw _⟩
            | true =>
              have HE := Lib.hid ((HN.out 0 (by simp [badN, HA.out, ha, hf])).1 rfl)
              go_wp2_with fail
              refine (aheadD_c n t q.length cap (some ⟨b, off, none⟩) w.heap.size _ (hB1 _)).mono ?_
              rintro e w' ⟨rfl, rfl⟩
              rw [ha]
              go_wp2_with fail
              refine (aheadD_c n f q.length cap (some ⟨b, off, none⟩) w.heap.size _ (hB1 _)).mono ?_
              rintro e w' ⟨rfl, rfl⟩
              rw [hf]
              go_wp2
              go_roundw
              case rel => exact ⟨n + 1, by omega, by go_num, below_al hBw _, hB1 _, HE⟩
              case measure => simp [intOf]; omega
    · obtain rfl : n = q.length := by omega
      have HE := Lib.hid (checkD_ok hpos hle HNO.out)
      go_wp2
      go_ret2
      exact ⟨ret_pD HE.out, hBw⟩
end Go.Proofs.Ytkckaimefklenaa
