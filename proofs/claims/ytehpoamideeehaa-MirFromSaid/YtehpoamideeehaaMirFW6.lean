import Derived.Test.YtehpoamideeehaaMirFW5
set_option linter.unusedVariables false
set_option linter.unusedSimpArgs false
set_option maxRecDepth 100000
namespace Go.Proofs.Ytehpoamideeehaa
open Go.RowKit
/-! ravelinlaw12.constant: the walk. -/
set_option maxHeartbeats 3200000 in
theorem constant_c (A : Option Addr) (cap : Nat) (q : List I4) (k : Int) (hn : q.length ≤ 9223372036854775807) (w : World) (hr : Reads w w.heap.size 4 A q.length (cellsI q)) :
    Calls Try.prog 11 #[.slice A q.length cap, .int .u32 k] w fun e w' => e = .returned (.bool (constB q k)) ∧ Below w.heap.size w w' := by
  have HR := Lib.hid hr
  clear hr
  cases h0 : (k == 0) with
  | true =>
    have HE : Hid (constB q k = true) := Lib.hid (by simp [constB, h0])
    go_enter Try.func11, Try.ntmps11
    go_wp2
    go_ret
    exact ⟨ret_b HE.out.symm, Below.refl _ _⟩
  | false =>
  cases h64 : (k == 64) with
  | true =>
    have HE : Hid (constB q k = true) := Lib.hid (by simp [constB, h64])
    go_enter Try.func11, Try.ntmps11
    go_wp2
    go_ret
    exact ⟨ret_b HE.out.symm, Below.refl _ _⟩
  | false =>
    have HE : Hid (constB q k = q.any (fun x => mineB x.c && x.k == k)) := Lib.hid (by simp [constB, h0, h64])
    go_enter Try.func11, Try.ntmps11
    go_wp2
    go_loopw [5] (fun i wr => ∃ n : Nat, n ≤ q.length ∧ i = .int .i64 n ∧ wr = w ∧ ∀ j x, j < n → q[j]? = some x → (mineB x.c && x.k == k) = false) (fun i _ => q.length - (intOf i).toNat)
    case atStart => exact ⟨0, by omega, rfl, rfl, fun j x h => by omega⟩
    case round =>
      obtain ⟨n, hnq, rfl, rfl, hno⟩ := hrel
      have HNO := Lib.hid hno
      clear hno
      rcases Nat.lt_or_ge n q.length with hnl | hnl
      · have hnl' : (n : Int) < q.length := by omega
        obtain ⟨x, hx⟩ : ∃ x, q[n]? = some x := ⟨_, List.getElem?_eq_getElem hnl⟩
        have HX := Lib.hid hx
        obtain ⟨b, off, rfl, hb, i0, i1, i2, i3⟩ := HR.out.insn hx
        obtain ⟨c, j, f, kx⟩ := x
        obtain ⟨c7, hc7⟩ : ∃ c7, c7 = bits .and .u16 c 7 := ⟨_, rfl⟩
        obtain ⟨c8, hc8⟩ : ∃ c8, c8 = bits .and .u16 c 8 := ⟨_, rfl⟩
        have HMB : Hid (mineB c = (c == 6 || c == 0 || c == 1 || (c7 == 4 && c8 == 0 && c != 132) || (c7 == 5 && c8 == 0 && c != 5))) := Lib.hid (by unfold mineB; rw [← hc7, ← hc8])
        have e7 := hc7.symm
        have e8 := hc8.symm
        clear hx hc7 hc8
        dsimp only at i0 i3
        go_wp2
        all_goals (first
          | (go_ret
             refine ⟨ret_b ?_, Below.refl _ _⟩
             rw [HE.out]
             refine (List.any_eq_true.2 ⟨_, List.mem_of_getElem? HX.out, ?_⟩).symm
             show (mineB c && kx == k) = true
             rw [HMB.out]
             grind)
          | (refine ⟨⟨n + 1, by omega, by go_num, trivial, fun y x hy hx => ?_⟩, by simp [intOf]; omega⟩
             rcases Nat.lt_succ_iff_lt_or_eq.1 hy with h | rfl
             · exact HNO.out y x h hx
             · rw [HX.out] at hx
               injection hx with hx
               subst hx
               show (mineB c && kx == k) = false
               rw [HMB.out]
               grind))
      · obtain rfl : n = q.length := by omega
        have HF : Hid (q.any (fun x => mineB x.c && x.k == k) = false) := Lib.hid (by
          rw [List.any_eq_false]
          intro x hx
          obtain ⟨j, hj, h⟩ := List.getElem_of_mem hx
          have := HNO.out j x hj (by rw [List.getElem?_eq_getElem hj, h])
          rw [this]; decide)
        go_wp2
        go_ret
        exact ⟨ret_b (by rw [HE.out, HF.out]), Below.refl _ _⟩
end Go.Proofs.Ytehpoamideeehaa
