import Derived.Test.YtehpoamideeehaaMirRunP
set_option linter.unusedVariables false
set_option linter.unusedSimpArgs false
namespace Go.Proofs.Ytehpoamideeehaa
open Go.RowKit
/-! How a right program ends: the plain law. -/
def EndsWell (q : List R7) (R : Res4) : Prop :=
  (R.2.2.1 = 8 ∧ ∃ (i : Nat) (x : R7), R.2.2.2 = i ∧ q[i]? = some x ∧ x.o = 7 ∧ R.2.1 ≤ i ∧ 0 ≤ R.2.1) ∨ (R.2.2.1 = 0 ∧ 1 ≤ R.2.1 ∧ R.2.1 ≤ q.length ∧ R.2.2.2 = 0)
theorem mnext_fine {regs : Int} {q : List R7} (h : (mcheckP regs q).1 = 0) {i : Nat} {x : R7} (hx : q[i]? = some x) (ho : x.o ≠ 19) (r : List Int) : i < mnext x i r ∧ mnext x i r < q.length := by
  have hf := fine_at h hx
  have hi := (List.getElem?_eq_some_iff.1 hx).1
  obtain ⟨f1, f2, _, _, _, _, ft, ff⟩ := hf
  have hl : ¬ i + 1 = q.length := fun e => ho (last_at h hx e)
  unfold mnext
  by_cases h14 : x.o = 14
  · rw [if_pos h14]
    have := ft (by simp [shT]; omega)
    omega
  · rw [if_neg h14]
    by_cases h15 : 15 ≤ x.o
    · rw [if_pos h15]
      have h1 := ft (by simp [shT]; omega)
      have h2 := ff (by simp [shF]; omega)
      split <;> omega
    · rw [if_neg h15]
      omega
theorem mrun_ends {regs : Int} {q : List R7} {d : List Int} (h : (mcheckP regs q).1 = 0) : ∀ (n at_ : Nat) (r : List Int) (steps : Nat), at_ < q.length → steps ≤ at_ → q.length ≤ n + at_ → EndsWell q (mrun q d n at_ r steps) := by
  intro n
  induction n with
  | zero => intro at_ r steps h1 h2 h3; omega
  | succ n ih =>
    intro at_ r steps h1 h2 h3
    obtain ⟨x, hx⟩ : ∃ x, q[at_]? = some x := ⟨_, List.getElem?_eq_getElem h1⟩
    unfold mrun
    rw [hx]
    by_cases h19 : x.o = 19
    · simp only [h19, if_true]
      exact .inr ⟨rfl, by simp; omega, by simp; omega, rfl⟩
    · simp only [if_neg h19]
      by_cases h7 : x.o = 7 ∧ getN r x.b.toNat = 0
      · rw [if_pos h7]
        exact .inl ⟨rfl, at_, x, rfl, hx, h7.1, by simp; omega, by simp⟩
      · rw [if_neg h7]
        have := mnext_fine h hx h19 r
        exact ih _ _ _ this.2 (by omega) (by omega)
theorem runP_ends {regs : Int} {q : List R7} {d : List Int} (h : (mcheckP regs q).1 = 0) (hd : d.length = 64) : EndsWell q (runP regs q d) := by
  unfold runP
  rw [if_neg (by simp [h]), if_neg (by simp [hd])]
  exact mrun_ends h _ _ _ _ (mcheckP_zero h).2.2.1 (by omega) (by omega)
end Go.Proofs.Ytehpoamideeehaa
