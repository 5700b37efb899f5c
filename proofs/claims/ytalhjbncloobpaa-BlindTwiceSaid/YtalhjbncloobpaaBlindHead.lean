import Derived.Test.YtalhjbncloobpaaBlindW4
import Derived.Test.YtalhjbncloobpaaMirKept
import Derived.Test.YtalhjbncloobpaaBlindW2
set_option linter.unusedVariables false
set_option linter.unusedSimpArgs false
namespace Go.Proofs.Ytalhjbncloobpaa
open Go.RowKit
/-! ravelinref21.Same, ravelinlaw21.one, lives: the walks. -/
theorem own_slice {w : World} {base : Nat} {e : TypeId} {size n : Nat} {v : Value} {xs : List Value} (h : w.ownsRow base e size v n xs) : ∃ A cap, v = .slice A n cap ∧ n ≤ cap ∧ (A = none → cap = 0) ∧ Reads w w.heap.size size A n xs ∧ (∀ g, A = some g → g.off = 0 ∧ base ≤ g.block ∧ g.block < w.heap.size) := by
  obtain ⟨h1, h2⟩ := h
  rcases h2 with ⟨rfl, rfl⟩ | ⟨g, cap, cur, rfl, hb, hg, hnc, hcm, hcs, htake⟩
  · have : xs = [] := List.eq_nil_of_length_eq_zero (by simpa using h1)
    subst this
    exact ⟨none, 0, rfl, Nat.le_refl _, fun _ => rfl, Reads.none_, fun g e => by cases e⟩
  · have ho : w.ownsRow base e size (.slice (some ⟨g, 0, none⟩) n cap) n xs := ⟨h1, .inr ⟨g, cap, cur, rfl, hb, hg, hnc, hcm, hcs, htake⟩⟩
    refine ⟨some ⟨g, 0, none⟩, cap, rfl, hnc, (fun e => by cases e), Reads.of_own ho, fun g' e => ?_⟩
    injection e with e
    subst e
    exact ⟨rfl, hb, (Array.getElem?_eq_some_iff.1 hg).1⟩
attribute [local go_sem high] equalIn_ir
set_option maxRecDepth 100000 in
set_option maxHeartbeats 1600000 in
theorem rSame_c (A A' : Option Addr) (regs : Int) (cap cap' : Nat) (q : List R7) (w : World) (hn : q.length * 56 ≤ 140737488351232) (hr : Reads w w.heap.size 7 A q.length (cellsR q)) (hr' : Reads w w.heap.size 7 A' q.length (cellsR q)) :
    Calls Try.prog 19 #[.agg #[.int .i64 regs, .slice A q.length cap], .agg #[.int .i64 regs, .slice A' q.length cap']] w fun e w' => e = .returned (.bool true) ∧ Below w.heap.size w w' := by
  have HR := Lib.hid hr
  have HR' := Lib.hid hr'
  clear hr hr'
  go_enter Try.func19, Try.ntmps19
  go_wp2_with fail
  go_loopw [5] (fun i wr => ∃ n : Nat, n ≤ q.length ∧ i = .int .i64 n ∧ Below w.heap.size w wr ∧ wr.cell? ⟨w.heap.size, 1, none⟩ = some (.slice A q.length cap) ∧ wr.cell? ⟨w.heap.size + 1, 1, none⟩ = some (.slice A' q.length cap')) (fun i _ => q.length - (intOf i).toNat)
  case atStart => exact ⟨0, by omega, rfl, below_al (below1 w _) _, by simp [go_sem], by simp [go_sem]⟩
  case round =>
    obtain ⟨n, hn6, rfl, hBw, c1, c2⟩ := hrel
    by_cases h6 : n < q.length
    · obtain ⟨x, hx⟩ : ∃ x, q[n]? = some x := ⟨_, List.getElem?_eq_getElem h6⟩
      obtain ⟨b, off, rfl, hb, i0, i1, i2, i3, i4, i5, i6⟩ := (HR.out.up hBw).ir hx
      obtain ⟨b', off', rfl, hb', j0, j1, j2, j3, j4, j5, j6⟩ := (HR'.out.up hBw).ir hx
      have hlt1 : (n : Int) < q.length := by omega
      clear hx
      obtain ⟨o, d, a, b2, k, t, f⟩ := x
      dsimp only at *
      go_wp2
      go_quiet (fail)
      go_wp2
      go_roundw
      case rel => exact ⟨n + 1, by omega, by go_num, below_drN hBw _, c1, c2⟩
      case measure => simp [intOf]; omega
    · go_wp2
      go_ret
      exact ⟨rfl, hBw⟩
def oneR (k : Int) : List R7 := [⟨1, 0, 0, 0, k, 0, 0⟩, ⟨19, 0, 0, 0, 0, 0, 0⟩]
theorem oneR_ok (k : Int) (hk : u32ok k) : ∀ x ∈ oneR k, x.ok := by
  intro x hx
  simp only [oneR, List.mem_cons, List.mem_nil_iff, or_false] at hx
  rcases hx with rfl | rfl
  · exact ⟨by simp [inI64], by simp [inI64], by simp [inI64], by simp [inI64], hk, by simp [inI64], by simp [inI64]⟩
  · exact ⟨by simp [inI64], by simp [inI64], by simp [inI64], by simp [inI64], by simp, by simp [inI64], by simp [inI64]⟩
theorem one_c (k : Int) (w : World) : Calls Try.prog 17 #[.int .u32 k] w fun e w' => ∃ A, e = .returned (.agg #[.int .i64 1, .slice A 2 2]) ∧ (A = none → (2 : Nat) = 0) ∧ Reads w' w'.heap.size 7 A 2 (cellsR (oneR k)) ∧ Below w.heap.size w w' := by
  go_enter Try.func17, Try.ntmps17
  go_wp2
  refine bodyPost_ret (v := .agg #[.int .i64 1, .slice (some ⟨w.heap.size + 1, 0, none⟩) 2 2]) (by simp [results, Try.results17, go_sem]) rfl ⟨_, rfl, (fun h => by cases h), ?_, below_al (below1 w _) _⟩
  have h := rn1 w (.cells #[.int .i64 1, .slice (some ⟨w.heap.size + 1, 0, none⟩) 2 2] 25) (cellsR (oneR k)).toArray 34 7 2 (cellsR (oneR k)) (by simp) rfl
  exact h.more (by simp)
theorem liveP : countP 1 (oneR 305419896) = (1, 0) := by decide +kernel
set_option maxHeartbeats 800000 in
theorem lives21_c (w : World) : Calls Try.prog 15 #[] w fun e w' => e = .returned (.bool true) ∧ Below w.heap.size w w' := by
  have HE := Lib.hid liveP
  go_enter Try.func15, Try.ntmps15
  go_wp2_with fail
  refine (one_c 305419896 w).mono ?_
  rintro e w1 ⟨A, rfl, hA, hr, hb1⟩
  go_wp2_with fail
  refine (Count_c A 1 2 (oneR 305419896) (oneR_ok _ ⟨by decide, by decide⟩) (by decide) w1 hr).mono ?_
  rintro e w2 ⟨rfl, hb2⟩
  rw [HE.out]
  dsimp only
  go_wp2_with fail
  refine (Exempt_c 5 ⟨by decide, by decide⟩ _).mono ?_
  rintro e w3 ⟨rfl, rfl⟩
  rw [show exemptB 5 = true by decide]
  go_wp2
  go_ret
  exact ⟨rfl, below_t hb1 hb2⟩
end Go.Proofs.Ytalhjbncloobpaa
