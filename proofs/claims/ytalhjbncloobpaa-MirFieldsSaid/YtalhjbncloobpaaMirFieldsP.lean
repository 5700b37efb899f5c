import Derived.Test.YtalhjbncloobpaaMirRunP
set_option linter.unusedVariables false
set_option linter.unusedSimpArgs false
namespace Go.Proofs.Ytalhjbncloobpaa
open Go.RowKit
/-! Fields that the table does not name change nothing: the plain law. -/
def blankR (n : Int) (x : R7) : R7 :=
  ⟨x.o, if shD x.o = true then x.d else n, if shA x.o = true then x.a else n, if shB x.o = true then x.b else n, if x.o ≠ 1 ∧ x.o ≠ 3 then n % 4294967296 else x.k, if shT x.o = true then x.t else n, if shF x.o = true then x.f else n⟩
theorem wrongP_blank (regs len at_ n : Int) (x : R7) : wrongP regs len at_ (blankR n x) = wrongP regs len at_ x := by
  have e1 : ∀ (b : Bool) (r s : Int), regB b (if b = true then r else s) regs = regB b r regs := by intro b r s; cases b <;> simp [regB]
  have e2 : ∀ (b : Bool) (r s : Int), aheadB b (if b = true then r else s) at_ len = aheadB b r at_ len := by intro b r s; cases b <;> simp [aheadB]
  simp only [wrongP, blankR, e1, e2]
  by_cases h : x.o = 3
  · simp [h]
  · have hb : (x.o == 3) = false := by simpa using h
    simp only [hb, Bool.false_and]
theorem map_get (q : List R7) (n : Int) (i : Nat) : (q.map (blankR n))[i]? = (q[i]?).map (blankR n) := List.getElem?_map
theorem mcheckP_blank (regs n : Int) (q : List R7) : mcheckP regs (q.map (blankR n)) = mcheckP regs q := by
  have e1 : ∀ i, wrongQ regs (q.map (blankR n)) i = wrongQ regs q i := by
    intro i
    unfold wrongQ
    rw [map_get]
    cases h : q[i]? with
    | none => rfl
    | some x => simp only [Option.map_some, List.length_map]; exact wrongP_blank ..
  have e2 : lastO (q.map (blankR n)) = lastO q := by
    unfold lastO
    rw [map_get, List.length_map]
    cases h : q[q.length - 1]? with
    | none => rfl
    | some x => rfl
  unfold mcheckP
  simp only [e1, e2, List.length_map]
theorem mnext_blank (n : Int) (x : R7) (h1 : x.o ≤ 19) (h2 : x.o ≠ 19) (i : Nat) (r : List Int) : mnext (blankR n x) i r = mnext x i r := by
  unfold mnext
  have eo : (blankR n x).o = x.o := rfl
  rw [eo]
  by_cases h14 : x.o = 14
  · rw [if_pos h14, if_pos h14]
    have : shT x.o = true := by simp [shT]; omega
    simp [blankR, this]
  · rw [if_neg h14, if_neg h14]
    by_cases h15 : 15 ≤ x.o
    · rw [if_pos h15, if_pos h15]
      have a1 : shA x.o = true := by simp [shA]; omega
      have a2 : shB x.o = true := by simp [shB]; omega
      have a3 : shT x.o = true := by simp [shT]; omega
      have a4 : shF x.o = true := by simp [shF]; omega
      simp [blankR, a1, a2, a3, a4]
    · rw [if_neg h15, if_neg h15]
theorem mset_blank (n : Int) (x : R7) (d r : List Int) : mset (blankR n x) d r = mset x d r := by
  unfold mset
  have eo : (blankR n x).o = x.o := rfl
  rw [eo]
  cases hd : shD x.o with
  | false => simp
  | true =>
    simp only [if_true]
    have ed : (blankR n x).d = x.d := by simp [blankR, hd]
    rw [ed]
    congr 1
    unfold mval
    rw [eo]
    simp only [shD, Bool.or_eq_true, beq_iff_eq, Bool.and_eq_true, decide_eq_true_eq] at hd
    by_cases h1 : x.o = 1
    · rw [if_pos h1, if_pos h1]; simp [blankR, h1]
    · rw [if_neg h1, if_neg h1]
      by_cases h2 : x.o = 2
      · rw [if_pos h2, if_pos h2]; simp [blankR, h2, shA]
      · rw [if_neg h2, if_neg h2]
        by_cases h3 : x.o = 3
        · rw [if_pos h3, if_pos h3]; simp [blankR, h3]
        · rw [if_neg h3, if_neg h3]
          by_cases h13 : x.o = 13
          · rw [if_pos h13, if_pos h13]; simp [blankR, h13, shA]
          · rw [if_neg h13, if_neg h13]
            have a1 : shA x.o = true := by simp [shA]; omega
            have a2 : shB x.o = true := by simp [shB]; omega
            simp [blankR, a1, a2]
theorem mrun_blank {regs : Int} {q : List R7} {d : List Int} (nn : Int) (h : (mcheckP regs q).1 = 0) : ∀ (n at_ : Nat) (r : List Int) (steps : Nat), mrun (q.map (blankR nn)) d n at_ r steps = mrun q d n at_ r steps := by
  intro n
  induction n with
  | zero => intros; rfl
  | succ n ih =>
    intro at_ r steps
    unfold mrun
    rw [map_get]
    cases hx : q[at_]? with
    | none => rfl
    | some x =>
      simp only [Option.map_some]
      have hf := fine_at h hx
      have eo : (blankR nn x).o = x.o := rfl
      rw [eo]
      by_cases h19 : x.o = 19
      · rw [if_pos h19, if_pos h19]
        have a1 : shA x.o = true := by simp [shA]; omega
        simp [blankR, a1]
      · rw [if_neg h19, if_neg h19, mnext_blank nn x hf.2.1 h19, mset_blank, ih]
        by_cases h7 : x.o = 7
        · have a1 : shB x.o = true := by simp [shB]; omega
          simp [blankR, a1]
        · simp [h7]
theorem runP_blank (regs n : Int) (q : List R7) (d : List Int) : runP regs (q.map (blankR n)) d = runP regs q d := by
  unfold runP
  rw [mcheckP_blank]
  by_cases h : (mcheckP regs q).1 = 0
  · rw [mrun_blank n h, List.length_map]
  · rw [if_pos h, if_pos h]
theorem blankR_ok (n : Int) (hn : inI64 n) (x : R7) (h : x.ok) : (blankR n x).ok := by
  obtain ⟨h1, h2, h3, h4, h5, h6, h7⟩ := h
  refine ⟨h1, ?_, ?_, ?_, ?_, ?_, ?_⟩
  · simp only [blankR]; split <;> assumption
  · simp only [blankR]; split <;> assumption
  · simp only [blankR]; split <;> assumption
  · simp only [blankR]
    split
    · exact ⟨Int.emod_nonneg _ (by decide), Int.emod_lt_of_pos _ (by decide)⟩
    · exact h5
  · simp only [blankR]; split <;> assumption
  · simp only [blankR]; split <;> assumption
end Go.Proofs.Ytalhjbncloobpaa
