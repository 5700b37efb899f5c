import Derived.Test.YtehpoamideeehaaCheckR1
set_option linter.unusedVariables false
set_option linter.unusedSimpArgs false
namespace Go.Proofs.Ytehpoamideeehaa
open Go.RowKit
theorem class_small : chk (fun n => !(sealsL n && !memC n jumpL && ((n : Int) != 5)) || !(bits .and .u16 n 7 == 5)) 256 = true := by decide +kernel
theorem class_jump : chk (fun n => !(memC n jumpL) || (bits .and .u16 n 7 == 5 && sealsL n)) 256 = true := by decide +kernel
theorem class_other {c : Int} (h0 : 0 ≤ c) (hs : sealsL c = true) (hj : memC c jumpL = false) (h5 : (c == 5) = false) : (bits .and .u16 c 7 == 5) = false := by
  obtain ⟨n, rfl⟩ := Int.eq_ofNat_of_zero_le h0
  by_cases h : n < 256
  · have := chk_all _ _ class_small n h
    simp only [hs, hj, bne, h5, Bool.not_false, Bool.and_true, Bool.not_true, Bool.false_or] at this
    simpa using this
  · rw [sealsL_big _ (by omega)] at hs; cases hs
theorem jump_small {c : Int} (hj : memC c jumpL = true) : 0 ≤ c ∧ c < 256 := by
  simp only [memC, jumpL, decide_eq_true_eq, List.mem_cons, List.mem_nil_iff, or_false] at hj; omega
theorem class_j {c : Int} (hj : memC c jumpL = true) : (bits .and .u16 c 7 == 5) = true ∧ sealsL c = true := by
  obtain ⟨h0, h1⟩ := jump_small hj
  obtain ⟨n, rfl⟩ := Int.eq_ofNat_of_zero_le h0
  have := chk_all _ _ class_jump n (by omega)
  simpa only [hj, Bool.not_true, Bool.false_or, Bool.and_eq_true] using this
theorem memC_ne {c : Int} {l : List Int} (h : memC c l = true) (x : Int) (hx : memC x l = false) : (c == x) = false := by
  rw [beq_eq_false_iff_ne]; rintro rfl; rw [h] at hx; cases hx
theorem memC_ne2 {c : Int} {l : List Int} (h : ∀ x ∈ l, (c == x) = false) : memC c l = false := by
  simp only [memC, decide_eq_false_iff_not]; intro hm; simpa using h c hm
theorem oneP_jump (c j f k : Int) (L : Nat) (hj : memC c jumpL = true) : oneP ⟨c, j, f, k⟩ L = if (L : Int) ≤ j ∨ (L : Int) ≤ f then 43 else 0 := by
  obtain ⟨e1, e0⟩ := class_j hj
  have n := fun x hx => memC_ne hj x hx
  have n5 := n 5 (by decide)
  have m1 : memC c [32] = false := memC_ne2 (by simp only [List.mem_cons, List.mem_nil_iff, or_false]; rintro x rfl; exact n _ (by decide))
  have m2 : memC c [52] = false := memC_ne2 (by simp only [List.mem_cons, List.mem_nil_iff, or_false]; rintro x rfl; exact n _ (by decide))
  have m3 : memC c [100, 116] = false := memC_ne2 (by simp only [List.mem_cons, List.mem_nil_iff, or_false]; rintro x (rfl | rfl) <;> exact n _ (by decide))
  have m4 : memC c [96, 97, 2, 3] = false := memC_ne2 (by simp only [List.mem_cons, List.mem_nil_iff, or_false]; rintro x (rfl | rfl | rfl | rfl) <;> exact n _ (by decide))
  have n5' : ¬ c = 5 := by simpa using n5
  simp only [oneP, brk, firstOf, br0, br1, br2, br3, br4, br5, e0, e1, m1, m2, m3, m4, n5', Bool.not_true, Bool.false_and, Bool.true_and, Bool.false_eq_true, if_false, if_true]
  by_cases h1 : (L : Int) ≤ j <;> by_cases h2 : (L : Int) ≤ f <;> simp [h1, h2]
theorem oneP_bad (c j f k : Int) (L : Int) (hs : sealsL c = false) : oneP ⟨c, j, f, k⟩ L = 42 := by
  simp [oneP, brk, firstOf, br0, hs]
theorem oneP_other (c j f k : Int) (L : Int) (h0 : 0 ≤ c) (hs : sealsL c = true) (hj : memC c jumpL = false) (hc : ∀ x ∈ [5, 32, 52, 100, 116, 96, 97, 2, 3], (c == x) = false) : oneP ⟨c, j, f, k⟩ L = 0 := by
  have n := fun x hx => hc x hx
  have m1 : memC c [32] = false := memC_ne2 (by simp only [List.mem_cons, List.mem_nil_iff, or_false]; rintro x rfl; exact n _ (by decide))
  have m2 : memC c [52] = false := memC_ne2 (by simp only [List.mem_cons, List.mem_nil_iff, or_false]; rintro x rfl; exact n _ (by decide))
  have m3 : memC c [100, 116] = false := memC_ne2 (by simp only [List.mem_cons, List.mem_nil_iff, or_false]; rintro x (rfl | rfl) <;> exact n _ (by decide))
  have m4 : memC c [96, 97, 2, 3] = false := memC_ne2 (by simp only [List.mem_cons, List.mem_nil_iff, or_false]; rintro x (rfl | rfl | rfl | rfl) <;> exact n _ (by decide))
  have n5 : ¬ c = 5 := by simpa using n 5 (by decide)
  have e1 := class_other h0 hs hj (n 5 (by decide))
  simp only [oneP, brk, firstOf, br0, br1, br2, br3, br4, br5, hs, e1, m1, m2, m3, m4, n5, Bool.not_true, Bool.false_and, Bool.true_and, Bool.false_eq_true, if_false, if_true]

set_option maxHeartbeats 400000 in
theorem rOne_bad (A : Option Addr) (cap n : Nat) (q : List I4) (x : I4) (hx : q[n]? = some x) (hok : x.ok) (hn : q.length ≤ 9223372036854775807) (w : World) (hr : Reads w w.heap.size 4 A q.length (cellsI q)) (hs : sealsL x.c = false) :
    Calls Try.prog 41 #[.slice A q.length cap, .int .i64 n] w fun e w' => e = .returned (.int .i64 (oneP x (q.length - n - 1 : Nat))) ∧ Below w.heap.size w w' := by
  have hlt : n < q.length := (List.getElem?_eq_some_iff.1 hx).1
  have hleft := left_in n q.length hlt hn
  obtain ⟨L, hL⟩ : ∃ L : Nat, L = q.length - n - 1 := ⟨_, rfl⟩
  have HX := Lib.hid (show (L : Int) = (q.length : Int) - n - 1 by omega)
  rw [← hL]
  have hL2 : L < 9223372036854775807 := by omega
  clear hL hleft
  obtain ⟨b, off, rfl, hb, i0, i1, i2, i3⟩ := hr.insn hx
  obtain ⟨c, j, f, k⟩ := x
  obtain ⟨a1, a2, a3, a4, a5, a6, a7, a8⟩ := hok
  dsimp only at *
  clear hr hx
  have hle : (n : Int) < q.length := by omega
  have HV := Lib.hid (oneP_bad c j f k L hs)
  go_enter Try.func41, Try.ntmps41
  go_wp2_with fail
  refine (rSeals_c c _).mono ?_
  rintro e w' ⟨rfl, rfl⟩
  go_wp2_with fail
  refine (Jump_c c _).mono ?_
  rintro e w' ⟨rfl, rfl⟩
  have hXa : (L : Int) ≤ (q.length : Int) - n - 1 := by rw [HX.out]; exact Int.le_refl _
  have hXb : (q.length : Int) - n - 1 ≤ (L : Int) := by rw [HX.out]; exact Int.le_refl _
  go_wp2
  all_goals go_ret
  all_goals exact ⟨ret_i (HV.out.symm), below1 _ _⟩

set_option maxHeartbeats 400000 in
theorem rOne_jump (A : Option Addr) (cap n : Nat) (q : List I4) (x : I4) (hx : q[n]? = some x) (hok : x.ok) (hn : q.length ≤ 9223372036854775807) (w : World) (hr : Reads w w.heap.size 4 A q.length (cellsI q)) (hj : memC x.c jumpL = true) :
    Calls Try.prog 41 #[.slice A q.length cap, .int .i64 n] w fun e w' => e = .returned (.int .i64 (oneP x (q.length - n - 1 : Nat))) ∧ Below w.heap.size w w' := by
  have hlt : n < q.length := (List.getElem?_eq_some_iff.1 hx).1
  have hleft := left_in n q.length hlt hn
  obtain ⟨L, hL⟩ : ∃ L : Nat, L = q.length - n - 1 := ⟨_, rfl⟩
  have HX := Lib.hid (show (L : Int) = (q.length : Int) - n - 1 by omega)
  rw [← hL]
  have hL2 : L < 9223372036854775807 := by omega
  clear hL hleft
  obtain ⟨b, off, rfl, hb, i0, i1, i2, i3⟩ := hr.insn hx
  obtain ⟨c, j, f, k⟩ := x
  obtain ⟨a1, a2, a3, a4, a5, a6, a7, a8⟩ := hok
  dsimp only at *
  clear hr hx
  have hle : (n : Int) < q.length := by omega
  have HV := Lib.hid (oneP_jump c j f k L hj)
  have hs := (class_j hj).2
  have n5 : (c == 5) = false := memC_ne hj 5 (by decide)
  have n32 : (c == 32) = false := memC_ne hj 32 (by decide)
  have n52 : (c == 52) = false := memC_ne hj 52 (by decide)
  have n100 : (c == 100) = false := memC_ne hj 100 (by decide)
  have n116 : (c == 116) = false := memC_ne hj 116 (by decide)
  have n96 : (c == 96) = false := memC_ne hj 96 (by decide)
  have n97 : (c == 97) = false := memC_ne hj 97 (by decide)
  have n2 : (c == 2) = false := memC_ne hj 2 (by decide)
  have n3 : (c == 3) = false := memC_ne hj 3 (by decide)
  go_enter Try.func41, Try.ntmps41
  go_wp2_with fail
  refine (rSeals_c c _).mono ?_
  rintro e w' ⟨rfl, rfl⟩
  go_wp2_with fail
  refine (Jump_c c _).mono ?_
  rintro e w' ⟨rfl, rfl⟩
  have hXa : (L : Int) ≤ (q.length : Int) - n - 1 := by rw [HX.out]; exact Int.le_refl _
  have hXb : (q.length : Int) - n - 1 ≤ (L : Int) := by rw [HX.out]; exact Int.le_refl _
  by_cases t : (L : Int) ≤ j
  · skip
    go_wp2
    all_goals go_ret
    all_goals exact ⟨ret_i (by rw [HV.out]; first | (rw [if_pos (by omega)]; done) | (rw [if_neg (by omega)]; done)), below1 _ _⟩
  · have t' : j < (L : Int) := by omega
    clear t
    by_cases u : (L : Int) ≤ f
    · skip
      go_wp2
      all_goals go_ret
      all_goals exact ⟨ret_i (by rw [HV.out]; first | (rw [if_pos (by omega)]; done) | (rw [if_neg (by omega)]; done)), below1 _ _⟩
    · have u' : f < (L : Int) := by omega
      clear u
      go_wp2
      all_goals go_ret
      all_goals exact ⟨ret_i (by rw [HV.out]; first | (rw [if_pos (by omega)]; done) | (rw [if_neg (by omega)]; done)), below1 _ _⟩

set_option maxHeartbeats 400000 in
theorem rOne_other (A : Option Addr) (cap n : Nat) (q : List I4) (x : I4) (hx : q[n]? = some x) (hok : x.ok) (hn : q.length ≤ 9223372036854775807) (w : World) (hr : Reads w w.heap.size 4 A q.length (cellsI q)) (hs : sealsL x.c = true) (hj : memC x.c jumpL = false) (hc : ∀ y ∈ [5, 32, 52, 100, 116, 96, 97, 2, 3], (x.c == y) = false) :
    Calls Try.prog 41 #[.slice A q.length cap, .int .i64 n] w fun e w' => e = .returned (.int .i64 (oneP x (q.length - n - 1 : Nat))) ∧ Below w.heap.size w w' := by
  have hlt : n < q.length := (List.getElem?_eq_some_iff.1 hx).1
  have hleft := left_in n q.length hlt hn
  obtain ⟨L, hL⟩ : ∃ L : Nat, L = q.length - n - 1 := ⟨_, rfl⟩
  have HX := Lib.hid (show (L : Int) = (q.length : Int) - n - 1 by omega)
  rw [← hL]
  have hL2 : L < 9223372036854775807 := by omega
  clear hL hleft
  obtain ⟨b, off, rfl, hb, i0, i1, i2, i3⟩ := hr.insn hx
  obtain ⟨c, j, f, k⟩ := x
  obtain ⟨a1, a2, a3, a4, a5, a6, a7, a8⟩ := hok
  dsimp only at *
  clear hr hx
  have hle : (n : Int) < q.length := by omega
  have HV := Lib.hid (oneP_other c j f k L a1 hs hj hc)
  obtain ⟨n5, n32, n52, n100, n116, n96, n97, n2, n3⟩ : (c == 5) = false ∧ (c == 32) = false ∧ (c == 52) = false ∧ (c == 100) = false ∧ (c == 116) = false ∧ (c == 96) = false ∧ (c == 97) = false ∧ (c == 2) = false ∧ (c == 3) = false := ⟨hc _ (by decide), hc _ (by decide), hc _ (by decide), hc _ (by decide), hc _ (by decide), hc _ (by decide), hc _ (by decide), hc _ (by decide), hc _ (by decide)⟩
  clear hc
  go_enter Try.func41, Try.ntmps41
  go_wp2_with fail
  refine (rSeals_c c _).mono ?_
  rintro e w' ⟨rfl, rfl⟩
  go_wp2_with fail
  refine (Jump_c c _).mono ?_
  rintro e w' ⟨rfl, rfl⟩
  have hXa : (L : Int) ≤ (q.length : Int) - n - 1 := by rw [HX.out]; exact Int.le_refl _
  have hXb : (q.length : Int) - n - 1 ≤ (L : Int) := by rw [HX.out]; exact Int.le_refl _
  go_wp2
  all_goals go_ret
  all_goals exact ⟨ret_i (HV.out.symm), below1 _ _⟩

theorem rOne_in (A : Option Addr) (cap n : Nat) (q : List I4) (x : I4) (hx : q[n]? = some x) (hok : x.ok) (hn : q.length ≤ 9223372036854775807) (w : World) (hr : Reads w w.heap.size 4 A q.length (cellsI q)) :
    Calls Try.prog 41 #[.slice A q.length cap, .int .i64 n] w fun e w' => e = .returned (.int .i64 (oneP x (q.length - n - 1 : Nat))) ∧ Below w.heap.size w w' := by
  by_cases hs : sealsL x.c = true
  · by_cases hj : memC x.c jumpL = true
    · exact rOne_jump A cap n q x hx hok hn w hr hj
    · have hj' : memC x.c jumpL = false := by simpa using hj
      by_cases h5 : x.c = 5
      · exact rOne_5 A cap n q x hx hok hn w hr h5
      by_cases h32 : x.c = 32
      · exact rOne_32 A cap n q x hx hok hn w hr h32
      by_cases h52 : x.c = 52
      · exact rOne_52 A cap n q x hx hok hn w hr h52
      by_cases h100 : x.c = 100
      · exact rOne_100 A cap n q x hx hok hn w hr h100
      by_cases h116 : x.c = 116
      · exact rOne_116 A cap n q x hx hok hn w hr h116
      by_cases h96 : x.c = 96
      · exact rOne_96 A cap n q x hx hok hn w hr h96
      by_cases h97 : x.c = 97
      · exact rOne_97 A cap n q x hx hok hn w hr h97
      by_cases h2 : x.c = 2
      · exact rOne_2 A cap n q x hx hok hn w hr h2
      by_cases h3 : x.c = 3
      · exact rOne_3 A cap n q x hx hok hn w hr h3
      refine rOne_other A cap n q x hx hok hn w hr hs hj' ?_
      intro y hy
      rw [beq_eq_false_iff_ne]
      simp only [List.mem_cons, List.mem_nil_iff, or_false] at hy
      omega
  · exact rOne_bad A cap n q x hx hok hn w hr (by simpa using hs)
set_option maxHeartbeats 400000 in
theorem rOne_c (A : Option Addr) (cap : Nat) (at_ : Int) (h64 : -9223372036854775808 ≤ at_ ∧ at_ ≤ 9223372036854775807) (q : List I4) (hq : ∀ x ∈ q, x.ok) (hn : q.length ≤ 9223372036854775807) (w : World) (hr : Reads w w.heap.size 4 A q.length (cellsI q)) :
    Calls Try.prog 41 #[.slice A q.length cap, .int .i64 at_] w fun e w' => e = .returned (.int .i64 (oneAt q at_)) ∧ Below w.heap.size w w' := by
  by_cases h0 : at_ < 0
  · have hd : decide (at_ < 0) = true := by simpa using h0
    have HX := Lib.hid (show oneAt q at_ = 41 by unfold oneAt; rw [if_pos h0])
    go_enter Try.func41, Try.ntmps41
    go_wp2
    go_ret
    exact ⟨ret_i HX.out.symm, Below.refl _ _⟩
  · have hd : decide (at_ < 0) = false := by simpa using h0
    obtain ⟨n, rfl⟩ := Int.eq_ofNat_of_zero_le (show 0 ≤ at_ by omega)
    have e0 : oneAt q (n : Int) = oneQ q n := by unfold oneAt; rw [if_neg (by omega)]; rfl
    by_cases h1 : n < q.length
    · obtain ⟨x, hx⟩ : ∃ x, q[n]? = some x := ⟨_, List.getElem?_eq_getElem h1⟩
      have e1 : oneAt q (n : Int) = oneP x (q.length - n - 1 : Nat) := by rw [e0]; unfold oneQ; rw [hx]
      rw [e1]
      exact rOne_in A cap n q x hx (hq x (List.mem_of_getElem? hx)) hn w hr
    · have hx : q[n]? = none := by rw [List.getElem?_eq_none]; omega
      have HX := Lib.hid (show oneAt q (n : Int) = 41 by rw [e0]; unfold oneQ; rw [hx])
      clear hr hq hx e0
      go_enter Try.func41, Try.ntmps41
      go_wp2
      go_ret
      exact ⟨ret_i HX.out.symm, Below.refl _ _⟩
end Go.Proofs.Ytehpoamideeehaa
