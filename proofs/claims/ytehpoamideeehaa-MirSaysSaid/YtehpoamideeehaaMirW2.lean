import Derived.Test.YtehpoamideeehaaMirW1
set_option linter.unusedVariables false
set_option linter.unusedSimpArgs false
namespace Go.Proofs.Ytehpoamideeehaa
open Go.RowKit
/-! mir.wrong, mir.Check: the walks. -/
theorem IrAt.keep {w w1 : World} (hb : Below w.heap.size w w1) {b o : Nat} {x : R7} (h : IrAt w b o x) : IrAt w1 b o x := by
  obtain ⟨h0, h1, h2, h3, h4, h5, h6⟩ := h
  exact ⟨keepC hb h0, keepC hb h1, keepC hb h2, keepC hb h3, keepC hb h4, keepC hb h5, keepC hb h6⟩
set_option maxHeartbeats 1600000 in
theorem wrong_c (A : Option Addr) (regs : Int) (cap at_ : Nat) (q : List R7) (x : R7) (hx : q[at_]? = some x) (hok : x.ok) (hn : q.length ≤ 9223372036854775807) (w : World) (hr : Reads w w.heap.size 7 A q.length (cellsR q)) :
    Calls Try.prog 55 #[.agg #[.int .i64 regs, .slice A q.length cap], .int .i64 at_] w fun e w' => e = .returned (.int .i64 (wrongP regs q.length at_ x)) ∧ Below w.heap.size w w' := by
  have hlt : at_ < q.length := (List.getElem?_eq_some_iff.1 hx).1
  have hlt' : (at_ : Int) < q.length := by omega
  obtain ⟨b, off, rfl, hb, i0, i1, i2, i3, i4, i5, i6⟩ := hr.ir hx
  obtain ⟨o, d, a, b', k, t, f⟩ := x
  obtain ⟨k1, k2⟩ : 0 ≤ k ∧ k < 4294967296 := hok.2.2.2.2.1
  dsimp only at i0 i1 i2 i3 i4 i5 i6
  clear hr hx hok
  have hmf : ∀ (fn : Fn) (first cap : Array Value) (w : World), (Instr.makeFunc fn first cap).run Try.prog w = .ok (.func fn first cap) w := fun _ _ _ _ => rfl
  go_enter Try.func55, Try.ntmps55
  go_wp2_with fail
  refine (of_c o _).mono ?_
  rintro e w1 ⟨rfl, hb1⟩
  obtain ⟨hc1, hf1⟩ := bcell hb1
  have hbw : Below w.heap.size w w1 := below_t (below_al (below_al (below1 w _) _) _) hb1
  have hs1 : w.heap.size + 3 ≤ w1.heap.size := by have := hb1.size; simp at this; omega
  have d0 : w1.cell? ⟨w.heap.size + 1 + 1, 0, none⟩ = some (.int .i64 o) := by rw [hc1 _ _ (by simp)]; simp [go_sem]
  have d1 : w1.cell? ⟨w.heap.size + 1 + 1, 1, none⟩ = some (.int .i64 d) := by rw [hc1 _ _ (by simp)]; simp [go_sem]
  have d2 : w1.cell? ⟨w.heap.size + 1 + 1, 2, none⟩ = some (.int .i64 a) := by rw [hc1 _ _ (by simp)]; simp [go_sem]
  have d3 : w1.cell? ⟨w.heap.size + 1 + 1, 3, none⟩ = some (.int .i64 b') := by rw [hc1 _ _ (by simp)]; simp [go_sem]
  have d4 : w1.cell? ⟨w.heap.size + 1 + 1, 4, none⟩ = some (.int .u32 k) := by rw [hc1 _ _ (by simp)]; simp [go_sem]
  have d5 : w1.cell? ⟨w.heap.size + 1 + 1, 5, none⟩ = some (.int .i64 t) := by rw [hc1 _ _ (by simp)]; simp [go_sem]
  have d6 : w1.cell? ⟨w.heap.size + 1 + 1, 6, none⟩ = some (.int .i64 f) := by rw [hc1 _ _ (by simp)]; simp [go_sem]
  have p0 : w1.cell? ⟨w.heap.size, 0, none⟩ = some (.int .i64 regs) := by rw [hc1 _ _ (by simp; omega)]; simp [go_sem]
  have p1 : w1.cell? ⟨w.heap.size, 1, none⟩ = some (.slice (some ⟨b, off, none⟩) q.length cap) := by rw [hc1 _ _ (by simp; omega)]; simp [go_sem]
  have a0 : w1.cell? ⟨w.heap.size + 1, 0, none⟩ = some (.int .i64 at_) := by rw [hc1 _ _ (by simp)]; simp [go_sem]
  have hl0 : w.heap.size < w1.heap.size := by omega
  have hl1 : w.heap.size + 1 < w1.heap.size := by omega
  have hl2 : w.heap.size + 1 + 1 < w1.heap.size := by omega
  have HP := Lib.hid (show ∀ (o : Obj), (w1.alloc o).cell? ⟨w.heap.size, 0, none⟩ = some (.int .i64 regs) ∧ w.heap.size < (w1.alloc o).heap.size ∧ (w1.alloc o).cell? ⟨w.heap.size, 1, none⟩ = some (.slice (some ⟨b, off, none⟩) q.length cap) ∧ (w1.alloc o).cell? ⟨w.heap.size + 1, 0, none⟩ = some (.int .i64 at_) ∧ w.heap.size + 1 < (w1.alloc o).heap.size from fun o =>
    ⟨keepC (below1 w1 o) p0, by simp; omega, keepC (below1 w1 o) p1, keepC (below1 w1 o) a0, by simp; omega⟩)
  clear hc1 hf1 hb1 hs1 i0 i1 i2 i3 i4 i5 i6
  unfold ofV
  cases hk : known o
  · skip
    go_wp2
    go_ret
    exact ⟨ret_i (by simp [wrongP, hk]), below_al hbw _⟩
  · rw [ofD_eq hk, ofA_eq hk, ofB_eq hk]
    go_wp2_with fail
    refine (reg_c _ d regs w.heap.size _ (HP.out _).1 (HP.out _).2.1).mono ?_
    rintro e w' ⟨rfl, rfl⟩
    cases r1 : regB (shD o) d regs
    · skip
      go_wp2
      go_ret
      exact ⟨ret_i (by simp [wrongP, hk, r1]), below_al hbw _⟩
    · skip
      go_wp2_with fail
      refine (reg_c _ a regs w.heap.size _ (HP.out _).1 (HP.out _).2.1).mono ?_
      rintro e w' ⟨rfl, rfl⟩
      cases r2 : regB (shA o) a regs
      · skip
        go_wp2
        go_ret
        exact ⟨ret_i (by simp [wrongP, hk, r1, r2]), below_al hbw _⟩
      · skip
        go_wp2_with fail
        refine (reg_c _ b' regs w.heap.size _ (HP.out _).1 (HP.out _).2.1).mono ?_
        rintro e w' ⟨rfl, rfl⟩
        cases r3 : regB (shB o) b' regs
        · skip
          go_wp2
          go_ret
          exact ⟨ret_i (by simp [wrongP, hk, r1, r2, r3]), below_al hbw _⟩
        · skip
          cases r4 : (o == 3 && (k % 4 != 0 || decide (64 ≤ k)))
          · skip
            have R4 := Lib.hid r4
            by_cases h3 : o = 3
            · have g1 : (o == 3) = true := by simpa using h3
              have r4' : k % 4 = 0 ∧ k < 64 := by rw [g1] at r4; simp at r4; omega
              have g2 : (k % 4 != 0) = false := by simp; omega
              have g3 : decide (64 ≤ k) = false := by simp; omega
              clear r4 h3 r4'
              go_wp2_with fail
              refine (ahead_c _ t at_ q.length cap _ (w.heap.size + 1) w.heap.size _ (HP.out _).2.2.2.1 (HP.out _).2.2.2.2 (HP.out _).2.2.1 (HP.out _).2.1).mono ?_
              rintro e w' ⟨rfl, rfl⟩
              cases r5 : aheadB (shT o) t at_ q.length
              · have HW := Lib.hid (show wrongP regs q.length at_ ⟨o, d, a, b', k, t, f⟩ = 126 by simp only [wrongP, hk, R4.out, r1, r2, r3, r5]; simp)
                go_wp2
                go_ret
                exact ⟨ret_i (by exact HW.out.symm), below_al hbw _⟩
              · skip
                go_wp2_with fail
                refine (ahead_c _ f at_ q.length cap _ (w.heap.size + 1) w.heap.size _ (HP.out _).2.2.2.1 (HP.out _).2.2.2.2 (HP.out _).2.2.1 (HP.out _).2.1).mono ?_
                rintro e w' ⟨rfl, rfl⟩
                cases r6 : aheadB (shF o) f at_ q.length
                · have HW := Lib.hid (show wrongP regs q.length at_ ⟨o, d, a, b', k, t, f⟩ = 126 by simp only [wrongP, hk, R4.out, r1, r2, r3, r5, r6]; simp)
                  go_wp2
                  go_ret
                  exact ⟨ret_i (by exact HW.out.symm), below_al hbw _⟩
                · skip
                  have HW := Lib.hid (show wrongP regs q.length at_ ⟨o, d, a, b', k, t, f⟩ = 0 by simp only [wrongP, hk, R4.out, r1, r2, r3, r5, r6]; simp)
                  go_wp2
                  go_ret
                  exact ⟨ret_i (by exact HW.out.symm), below_al hbw _⟩
            · have g1 : (o == 3) = false := by simpa using h3
              clear r4 h3
              go_wp2_with fail
              refine (ahead_c _ t at_ q.length cap _ (w.heap.size + 1) w.heap.size _ (HP.out _).2.2.2.1 (HP.out _).2.2.2.2 (HP.out _).2.2.1 (HP.out _).2.1).mono ?_
              rintro e w' ⟨rfl, rfl⟩
              cases r5 : aheadB (shT o) t at_ q.length
              · have HW := Lib.hid (show wrongP regs q.length at_ ⟨o, d, a, b', k, t, f⟩ = 126 by simp only [wrongP, hk, R4.out, r1, r2, r3, r5]; simp)
                go_wp2
                go_ret
                exact ⟨ret_i (by exact HW.out.symm), below_al hbw _⟩
              · skip
                go_wp2_with fail
                refine (ahead_c _ f at_ q.length cap _ (w.heap.size + 1) w.heap.size _ (HP.out _).2.2.2.1 (HP.out _).2.2.2.2 (HP.out _).2.2.1 (HP.out _).2.1).mono ?_
                rintro e w' ⟨rfl, rfl⟩
                cases r6 : aheadB (shF o) f at_ q.length
                · have HW := Lib.hid (show wrongP regs q.length at_ ⟨o, d, a, b', k, t, f⟩ = 126 by simp only [wrongP, hk, R4.out, r1, r2, r3, r5, r6]; simp)
                  go_wp2
                  go_ret
                  exact ⟨ret_i (by exact HW.out.symm), below_al hbw _⟩
                · skip
                  have HW := Lib.hid (show wrongP regs q.length at_ ⟨o, d, a, b', k, t, f⟩ = 0 by simp only [wrongP, hk, R4.out, r1, r2, r3, r5, r6]; simp)
                  go_wp2
                  go_ret
                  exact ⟨ret_i (by exact HW.out.symm), below_al hbw _⟩
          · have R4 := Lib.hid r4
            have h3 : o = 3 ∧ (¬ k % 4 = 0 ∨ 64 ≤ k) := by simp at r4; exact r4
            have HW := Lib.hid (show wrongP regs q.length at_ ⟨o, d, a, b', k, t, f⟩ = 125 by simp only [wrongP, hk, R4.out, r1, r2, r3]; simp)
            have g1 : (o == 3) = true := by simpa using h3.1
            clear r4
            by_cases h4 : k % 4 = 0
            · have g2 : (k % 4 != 0) = false := by simpa using h4
              have g3 : decide (64 ≤ k) = true := by simp; omega
              clear h3 h4
              go_wp2
              go_ret
              exact ⟨ret_i (by exact HW.out.symm), below_al hbw _⟩
            · have g2 : (k % 4 != 0) = true := by simpa using h4
              clear h3 h4
              go_wp2
              go_ret
              exact ⟨ret_i (by exact HW.out.symm), below_al hbw _⟩
def MCheckPost (w : World) (regs : Int) (q : List R7) (e : Ending) (w' : World) : Prop := e = .returned (.tuple #[.int .i64 (mcheckP regs q).1, .int .i64 (mcheckP regs q).2]) ∧ Below w.heap.size w w'
theorem ret_pM {X : Int × Int} {a b : Int} {k k' : IntKind} (h : X = (a, b)) : Ending.returned (.tuple #[.int k a, .int k' b]) = .returned (.tuple #[.int k X.1, .int k' X.2]) := by rw [h]
theorem find_someM (f : Nat → Bool) (n i : Nat) (hi : i < n) (hf : f i = true) (h : ∀ j, j < i → f j = false) : (List.range n).find? f = some i := by
  rw [List.find?_range_eq_some]
  exact ⟨hf, by simpa using hi, fun j hj => by simp [h j hj]⟩
theorem find_noneM (f : Nat → Bool) (n : Nat) (h : ∀ j, j < n → f j = false) : (List.range n).find? f = none := by
  rw [List.find?_range_eq_none]; intro i hi; simp [h i hi]
end Go.Proofs.Ytehpoamideeehaa
