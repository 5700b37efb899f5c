import Derived.Test.YtehpoamideeehaaCodeP
import Derived.Test.YtehpoamideeehaaCheckW4
set_option linter.unusedVariables false
set_option linter.unusedSimpArgs false
namespace Go.Proofs.Ytehpoamideeehaa
open Go.RowKit
/-! What an accepted program keeps. -/
theorem acc_facts {q : List I4} (h : (checkP q).1 = 0) : 0 < q.length ∧ q.length ≤ 4096 ∧ (∀ i, i < q.length → oneQ q i = 0) ∧ bits .and .u16 (lastC q) 7 = 6 := by
  unfold checkP at h
  by_cases h1 : q.length = 0 ∨ 4096 < q.length
  · rw [if_pos h1] at h; simp at h
  rw [if_neg h1] at h
  cases hf : (List.range q.length).find? (fun i => oneQ q i != 0) with
  | some i =>
    rw [hf] at h
    have := List.find?_some hf
    simp at this h
    exact absurd h this
  | none =>
    rw [hf] at h
    refine ⟨by omega, by omega, fun i hi => ?_, ?_⟩
    · have := List.find?_eq_none.1 hf i (by simpa using hi)
      simpa using this
    · by_cases h3 : bits .and .u16 (lastC q) 7 = 6
      · exact h3
      · simp only [if_neg h3] at h; simp at h
theorem oneP_zero {x : I4} {L : Int} (h : oneP x L = 0) : br0 x L = false ∧ br1 x L = false ∧ br2 x L = false ∧ br3 x L = false ∧ br4 x L = false ∧ br5 x L = false := by
  unfold oneP brk firstOf firstOf firstOf firstOf firstOf firstOf firstOf at h
  cases h0 : br0 x L <;> cases h1 : br1 x L <;> cases h2 : br2 x L <;> cases h3 : br3 x L <;> cases h4 : br4 x L <;> cases h5 : br5 x L <;> simp [h0, h1, h2, h3, h4, h5] at h ⊢
theorem jump_seven : ∀ c ∈ jumpL, (bits .and .u16 c 7 == 5) = true ∧ c ≠ 5 := by decide +kernel
/-- What an accepted instruction keeps. -/
structure Good (x : I4) (L : Int) : Prop where
  seals : sealsL x.c = true
  ja : x.c = 5 → x.k < L
  jump : x.c ∈ jumpL → x.j < L ∧ x.f < L
  load : x.c = 32 → x.k % 4 = 0 ∧ x.k < 64
  div : x.c = 52 → x.k ≠ 0
  mem : x.c = 96 ∨ x.c = 97 ∨ x.c = 2 ∨ x.c = 3 → x.k < 16
theorem good_of {x : I4} {L : Int} (h : oneP x L = 0) : Good x L := by
  obtain ⟨h0, h1, h2, h3, h4, h5⟩ := oneP_zero h
  refine ⟨by simpa [br0] using h0, fun hc => ?_, fun hc => ?_, fun hc => ?_, fun hc => ?_, fun hc => ?_⟩
  · unfold br1 at h1; rw [if_pos hc] at h1; simpa using h1
  · obtain ⟨e1, e2⟩ := jump_seven _ hc
    unfold br1 at h1; rw [if_neg e2, e1] at h1; simpa using h1
  · unfold br2 at h2; rw [show memC x.c [32] = true by rw [hc]; decide] at h2; simp at h2; omega
  · unfold br3 at h3; rw [show memC x.c [52] = true by rw [hc]; decide] at h3; simpa using h3
  · unfold br5 at h5; rw [show memC x.c [96, 97, 2, 3] = true by simp [memC]; exact hc] at h5; simpa using h5
theorem good_at {q : List I4} (h : (checkP q).1 = 0) {i : Nat} {x : I4} (hx : q[i]? = some x) : Good x ((q.length - i - 1 : Nat) : Int) := by
  have hi := (List.getElem?_eq_some_iff.1 hx).1
  have := (acc_facts h).2.2.1 i hi
  unfold oneQ at this
  rw [hx] at this
  exact good_of this
theorem six_ret : ∀ c ∈ aluL ++ jumpL ++ restL, bits .and .u16 c 7 = 6 → c = 6 ∨ c = 22 := by decide +kernel
theorem acc_last {q : List I4} (h : (checkP q).1 = 0) {i : Nat} {x : I4} (hx : q[i]? = some x) (hl : i + 1 = q.length) : x.c = 6 ∨ x.c = 22 := by
  have h6 := (acc_facts h).2.2.2
  unfold lastC at h6
  rw [show q.length - 1 = i by omega, hx] at h6
  exact six_ret _ (sealsL_cases (good_at h hx).seals) h6
end Go.Proofs.Ytehpoamideeehaa
