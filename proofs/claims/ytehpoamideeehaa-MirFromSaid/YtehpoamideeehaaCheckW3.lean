import Derived.Test.YtehpoamideeehaaCheckW2
import Derived.StillTailTactics
set_option linter.unusedVariables false
set_option linter.unusedSimpArgs false
namespace Go.Proofs.Ytehpoamideeehaa
open Go.RowKit
/-- The rules by number: which number of an error, and when. -/
def brk (x : I4) (left : Int) : List (Int × Bool) := [(42, br0 x left), (43, br1 x left), (44, br2 x left), (45, br3 x left), (46, br4 x left), (47, br5 x left)]
def firstOf : List (Int × Bool) → Int
  | [] => 0
  | (e, b) :: l => if b then e else firstOf l
def oneP (x : I4) (left : Int) : Int := firstOf (brk x left)

/-- Each rule's function value, and its contract wherever memory has grown. -/
def RuleFn (w : World) (R n : Nat) (e : Int) (br : I4 → Int → Bool) : Prop :=
  w.cell? ⟨R, n * 2, none⟩ = some (.int .i64 e) ∧ ∃ fn cap, w.cell? ⟨R, n * 2 + 1, none⟩ = some (.func (.func fn) #[] cap) ∧ (∀ args w, Sem.run Try.prog (callFunc fn args) w = .ok (.enter fn args) w) ∧
    ∀ (x : I4), x.ok → ∀ left : Int, 0 ≤ left → left < 18446744073709551616 → ∀ w', Below w.heap.size w w' → Calls Try.prog fn (#[.agg #[.int .u16 x.c, .int .u8 x.j, .int .u8 x.f, .int .u32 x.k], .int .u64 left] ++ cap) w' fun e w'' => e = .returned (.bool (br x left)) ∧ Below w'.heap.size w' w''
theorem ruleFns {w : World} {R : Nat} (h : RulesAt w R) : RuleFn w R 0 42 br0 ∧ RuleFn w R 1 43 br1 ∧ RuleFn w R 2 44 br2 ∧ RuleFn w R 3 45 br3 ∧ RuleFn w R 4 46 br4 ∧ RuleFn w R 5 47 br5 := by
  obtain ⟨h0, B2, B3, B4, B5, G2, G3, G4, G5, ⟨c0, c1, c2, c3, c4, c5, c6, c7, c8, c9, c10, c11⟩, k2, k3, k4, k5⟩ := h
  refine ⟨⟨c0, _, _, c1, by intros; go_simp, ?_⟩, ⟨c2, _, _, c3, by intros; go_simp, ?_⟩, ⟨c4, _, _, c5, by intros; go_simp, ?_⟩, ⟨c6, _, _, c7, by intros; go_simp, ?_⟩, ⟨c8, _, _, c9, by intros; go_simp, ?_⟩, ⟨c10, _, _, c11, by intros; go_simp, ?_⟩⟩
  · intro x hx left hl0 hl1 w' hb; exact rules1_c x hx left hl0 hl1 w'
  · intro x hx left hl0 hl1 w' hb; exact rules2_c x hx left hl0 hl1 w'
  · intro x hx left hl0 hl1 w' hb; obtain ⟨a, b, c⟩ := box_keep k2 hb; exact rules3_c x hx left hl0 hl1 B2 G2 w' a b c
  · intro x hx left hl0 hl1 w' hb; obtain ⟨a, b, c⟩ := box_keep k3 hb; exact rules4_c x hx left hl0 hl1 B3 G3 w' a b c
  · intro x hx left hl0 hl1 w' hb; obtain ⟨a, b, c⟩ := box_keep k4 hb; exact rules5_c x hx left hl0 hl1 B4 G4 w' a b c
  · intro x hx left hl0 hl1 w' hb; obtain ⟨a, b, c⟩ := box_keep k5 hb; exact rules6_c x hx left hl0 hl1 B5 G5 w' a b c
def ruleN : Nat → Int × (I4 → Int → Bool)
  | 0 => (42, br0) | 1 => (43, br1) | 2 => (44, br2) | 3 => (45, br3) | 4 => (46, br4) | _ => (47, br5)
theorem ruleFn {w : World} {R : Nat} (h : RulesAt w R) (n : Nat) (hn : n < 6) : RuleFn w R n (ruleN n).1 (ruleN n).2 := by
  obtain ⟨h0, h1, h2, h3, h4, h5⟩ := ruleFns h
  match n, hn with
  | 0, _ => exact h0 | 1, _ => exact h1 | 2, _ => exact h2 | 3, _ => exact h3 | 4, _ => exact h4 | 5, _ => exact h5
theorem oneP_no (x : I4) (left : Int) (h : ∀ i, i < 6 → (ruleN i).2 x left = false) : oneP x left = 0 := by
  have := h 0 (by omega); have := h 1 (by omega); have := h 2 (by omega); have := h 3 (by omega); have := h 4 (by omega); have := h 5 (by omega)
  simp_all [oneP, brk, firstOf, ruleN]
theorem oneP_yes (x : I4) (left : Int) (n : Nat) (hn : n < 6) (h : ∀ i, i < n → (ruleN i).2 x left = false) (hy : (ruleN n).2 x left = true) : oneP x left = (ruleN n).1 := by
  have g := fun i hi => h i hi
  match n, hn with
  | 0, _ => simp_all [oneP, brk, firstOf, ruleN]
  | 1, _ => have := g 0 (by omega); simp_all [oneP, brk, firstOf, ruleN]
  | 2, _ => have := g 0 (by omega); have := g 1 (by omega); simp_all [oneP, brk, firstOf, ruleN]
  | 3, _ => have := g 0 (by omega); have := g 1 (by omega); have := g 2 (by omega); simp_all [oneP, brk, firstOf, ruleN]
  | 4, _ => have := g 0 (by omega); have := g 1 (by omega); have := g 2 (by omega); have := g 3 (by omega); simp_all [oneP, brk, firstOf, ruleN]
  | 5, _ => have := g 0 (by omega); have := g 1 (by omega); have := g 2 (by omega); have := g 3 (by omega); have := g 4 (by omega); simp_all [oneP, brk, firstOf, ruleN]

theorem left_in (at_ n : Nat) (h : at_ < n) (hn : n ≤ 9223372036854775807) : wrap64 (wrap64 ((n : Int) - at_) - 1) = (n - at_ - 1 : Nat) := by unfold wrap64; omega
set_option maxHeartbeats 1000000 in
set_option maxRecDepth 100000 in
theorem one_c (R : Nat) (A : Option Addr) (cap at_ : Nat) (q : List I4) (x : I4) (hx : q[at_]? = some x) (hq : ∀ x ∈ q, x.ok) (hn : q.length ≤ 9223372036854775807) (w : World) (hR : RulesAt w R) (hr : Reads w w.heap.size 4 A q.length (cellsI q)) :
    Calls Try.prog 34 #[.slice (some ⟨R, 0, none⟩) 6 6, .slice A q.length cap, .int .i64 at_] w fun e w' => e = .returned (.int .i64 (oneP x (q.length - at_ - 1 : Nat))) ∧ Below w.heap.size w w' := by
  have hlt : at_ < q.length := (List.getElem?_eq_some_iff.1 hx).1
  have hok := hq x (List.mem_of_getElem? hx)
  have hleft := left_in at_ q.length hlt hn
  obtain ⟨L, hL⟩ : ∃ L : Nat, L = q.length - at_ - 1 := ⟨_, rfl⟩
  have HX := Lib.hid (show (L : Int) = (q.length : Int) - at_ - 1 by omega)
  rw [← hL] at hleft ⊢
  have hL2 : L < 9223372036854775807 := by omega
  clear hL
  obtain ⟨b, off, rfl, hb, i0, i1, i2, i3⟩ := hr.insn hx
  clear hleft hr hq hx
  go_enter Try.func34, Try.ntmps34
  go_wp2
  go_loopw [6, 11] (fun s6 s11 wr => ∃ n : Nat, n ≤ 6 ∧ s11 = .int .i64 n ∧ s6 = .int .i64 0 ∧ Below w.heap.size w wr ∧ ∀ i, i < n → (ruleN i).2 x L = false) (fun _ i _ => 6 - (intOf i).toNat)
  case atStart => exact ⟨0, by omega, rfl, rfl, Below.refl _ _, fun i h => by omega⟩
  case round =>
    obtain ⟨n, hn6, rfl, rfl, hB, hno⟩ := hrel
    by_cases h6 : n < 6
    · obtain ⟨r0, fn, cp, r1, hfn, hcall⟩ := ruleFn (hR.keep hB) n h6
      have hRl : R < wr.heap.size := (hR.keep hB).1
      have hbl : b < wr.heap.size := Nat.lt_of_lt_of_le hb hB.size
      obtain ⟨hc, hf⟩ := bcell hB
      have j0 := (hc b (off + at_ * 4) hb).trans i0
      have j1 := (hc b (off + at_ * 4 + 1) hb).trans i1
      have j2 := (hc b (off + at_ * 4 + 2) hb).trans i2
      have j3 := (hc b (off + at_ * 4 + 3) hb).trans i3
      have HC := Lib.hid hcall
      have HN := Lib.hid hno
      clear hcall hno hc hf i0 i1 i2 i3 hR
      go_wp2
      have hlt0 : (at_ : Int) < q.length := by omega
      refine wp_tail 12 (by kernel_rfl) (by kernel_rfl) ?_
      simp only [List.take_succ_cons, List.take_zero, List.drop_succ_cons, List.drop_zero]
      repeat still_step
      refine wpStill_nil ?_
      have hle : (at_ : Int) < q.length := by omega
      go_wp2_with fail
      rw [show ((q.length : Int) - at_ - 1) = (L : Int) from HX.out.symm]
      refine (HC.out x hok L (by omega) (by omega) _ (below_dr (below1 _ _))).mono ?_
      rintro e w2 ⟨rfl, hb2⟩
      obtain ⟨hc2, hf2⟩ := bcell hb2
      have hB2 : Below w.heap.size w w2 := below_t (below_dr (below_al hB _)) hb2
      by_cases hy : (ruleN n).2 x L = true
      · have HY := Lib.hid (oneP_yes x L n h6 HN.out hy)
        clear HN
        go_wp2
        go_ret
        exact ⟨ret_i HY.out.symm, hB2⟩
      · have hy' : (ruleN n).2 x L = false := by simpa using hy
        have HN' := Lib.hid (show ∀ i, i < n + 1 → (ruleN i).2 x L = false from fun i hi => by
          rcases Nat.lt_succ_iff_lt_or_eq.1 hi with h | rfl
          · exact HN.out i h
          · exact hy')
        clear HN hy
        go_wp2
        go_roundw
        case rel => exact ⟨n + 1, by omega, by go_num, rfl, hB2, HN'.out⟩
        case measure => simp [intOf]; omega
    · have HZ := Lib.hid (oneP_no x L (fun i hi => hno i (by omega)))
      clear hno
      go_wp2
      go_ret
      exact ⟨ret_i HZ.out.symm, hB⟩
end Go.Proofs.Ytehpoamideeehaa
