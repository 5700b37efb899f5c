import Derived.Test.YtpofdjnkpplimaaCbpfS2
import Derived.Test.YtpofdjnkpplimaaCheckW4
set_option linter.unusedVariables false
set_option linter.unusedSimpArgs false
namespace Go.Proofs.Ytpofdjnkpplimaa
open Go.RowKit
/-! What an accepted program keeps; how it runs. -/
theorem acc_facts {q : List I4} (h : (checkP q).1 = 0) : 0 < q.length ∧ q.length ≤ 4096 ∧ (∀ i, i < q.length → oneQ q i = 0) ∧ bits .and .u16 (lastC q) 7 = 6 := by
  unfold checkP at h
  by_cases h1 : q.length = 0 ∨ 4096 < q.length
  · rw [if_pos h1] at h; simp at h
  rw [if_neg h1] at h
  cases hf : (List.range q.length).find? (fun i => oneQ q i != 0) with
  | some i =>
    rw [hf] at h
    have := List.find?_some hf
    simp at this h
    exact absurd h this
  | none =>
    rw [hf] at h
    refine ⟨by omega, by omega, fun i hi => ?_, ?_⟩
    · have := List.find?_eq_none.1 hf i (by simpa using hi)
      simpa using this
    · by_cases h3 : bits .and .u16 (lastC q) 7 = 6
      · exact h3
      · simp only [if_neg h3] at h; simp at h
theorem oneP_zero {x : I4} {L : Int} (h : oneP x L = 0) : br0 x L = false ∧ br1 x L = false ∧ br2 x L = false ∧ br3 x L = false ∧ br4 x L = false ∧ br5 x L = false := by
  unfold oneP brk firstOf firstOf firstOf firstOf firstOf firstOf firstOf at h
  cases h0 : br0 x L <;> cases h1 : br1 x L <;> cases h2 : br2 x L <;> cases h3 : br3 x L <;> cases h4 : br4 x L <;> cases h5 : br5 x L <;> simp [h0, h1, h2, h3, h4, h5] at h ⊢
theorem jump_seven : ∀ c ∈ jumpL, (bits .and .u16 c 7 == 5) = true ∧ c ≠ 5 := by decide +kernel
/-- What an accepted instruction keeps. -/
structure Good (x : I4) (L : Int) : Prop where
  seals : sealsL x.c = true
  ja : x.c = 5 → x.k < L
  jump : x.c ∈ jumpL → x.j < L ∧ x.f < L
  load : x.c = 32 → x.k % 4 = 0 ∧ x.k < 64
  div : x.c = 52 → x.k ≠ 0
  mem : x.c = 96 ∨ x.c = 97 ∨ x.c = 2 ∨ x.c = 3 → x.k < 16
theorem good_of {x : I4} {L : Int} (h : oneP x L = 0) : Good x L := by
  obtain ⟨h0, h1, h2, h3, h4, h5⟩ := oneP_zero h
  refine ⟨by simpa [br0] using h0, fun hc => ?_, fun hc => ?_, fun hc => ?_, fun hc => ?_, fun hc => ?_⟩
  · unfold br1 at h1; rw [if_pos hc] at h1; simpa using h1
  · obtain ⟨e1, e2⟩ := jump_seven _ hc
    unfold br1 at h1; rw [if_neg e2, e1] at h1; simpa using h1
  · unfold br2 at h2; rw [show memC x.c [32] = true by rw [hc]; decide] at h2; simp at h2; omega
  · unfold br3 at h3; rw [show memC x.c [52] = true by rw [hc]; decide] at h3; simpa using h3
  · unfold br5 at h5; rw [show memC x.c [96, 97, 2, 3] = true by simp [memC]; exact hc] at h5; simpa using h5
theorem good_at {q : List I4} (h : (checkP q).1 = 0) {i : Nat} {x : I4} (hx : q[i]? = some x) : Good x ((q.length - i - 1 : Nat) : Int) := by
  have hi := (List.getElem?_eq_some_iff.1 hx).1
  have := (acc_facts h).2.2.1 i hi
  unfold oneQ at this
  rw [hx] at this
  exact good_of this
theorem six_ret : ∀ c ∈ aluL ++ jumpL ++ restL, bits .and .u16 c 7 = 6 → c = 6 ∨ c = 22 := by decide +kernel
theorem acc_last {q : List I4} (h : (checkP q).1 = 0) {i : Nat} {x : I4} (hx : q[i]? = some x) (hl : i + 1 = q.length) : x.c = 6 ∨ x.c = 22 := by
  have h6 := (acc_facts h).2.2.2
  unfold lastC at h6
  rw [show q.length - 1 = i by omega, hx] at h6
  exact six_ret _ (sealsL_cases (good_at h hx).seals) h6
theorem good_right {x : I4} {L : Int} (h : Good x L) (hx : x.ok) : cwrong x = 0 := by
  unfold cwrong
  rw [if_neg (by simp [h.seals]), if_neg (fun hc => by have := h.load hc.1; omega), if_neg (fun hc => by have := h.mem hc.1; omega), if_neg (fun hc => h.div hc.1 hc.2)]
/-- An accepted program ends well. -/
theorem acc_go {x : I4} {L : Nat} (h : Good x L) (hx : x.ok) (hl : L = 0 → x.c = 6 ∨ x.c = 22) (d : List Int) (s s' : CM) (on : Nat) (hs : cstep d x s = .go on s') : on ≤ L ∧ 0 < L := by
  have hw := good_right h hx
  obtain ⟨a1, a2, a3, a4, a5, a6, a7, a8⟩ := hx
  have hL : 0 < L := by
    rcases Nat.eq_zero_or_pos L with h0 | h0
    · have hc := hl h0
      unfold cstep at hs
      rw [if_neg (by simp [hw])] at hs
      rcases hc with hc | hc
      · rw [hc, if_neg (by decide), if_neg (by decide), if_neg (by decide), if_pos rfl] at hs; cases hs
      · rw [hc, if_neg (by decide), if_neg (by decide), if_neg (by decide), if_neg (by decide), if_pos rfl] at hs; cases hs
    · exact h0
  refine ⟨?_, hL⟩
  unfold cstep at hs
  rw [if_neg (by simp [hw])] at hs
  split at hs
  · split at hs
    · cases hs
    · injection hs with h1 _; omega
  split at hs
  · rename_i hj
    injection hs with h1 _
    have := h.jump (mem_of_memC hj)
    have hw' : wayC x s < L := by unfold wayC; split <;> omega
    omega
  split at hs
  · rename_i h5
    injection hs with h1 _
    have := h.ja h5
    omega
  split at hs
  · cases hs
  split at hs
  · cases hs
  · injection hs with h1 _; omega
theorem crun_acc {q : List I4} (h : (checkP q).1 = 0) (hq : ∀ x ∈ q, x.ok) (d : List Int) : ∀ (n at_ : Nat) (s : CM) (steps : Nat), at_ < q.length → steps ≤ at_ → q.length ≤ n + at_ →
    (crun q d n at_ s steps).2.2.1 = 0 ∧ 1 ≤ (crun q d n at_ s steps).2.1 ∧ (crun q d n at_ s steps).2.1 ≤ q.length := by
  intro n
  induction n with
  | zero => intro at_ s steps h1 h2 h3; omega
  | succ n ih =>
    intro at_ s steps h1 h2 h3
    obtain ⟨x, hx⟩ : ∃ x, q[at_]? = some x := ⟨_, List.getElem?_eq_getElem h1⟩
    have hxo := hq x (List.mem_of_getElem? hx)
    have hg := good_at h hx
    rw [crun, hx]
    simp only
    cases hs : cstep d x s with
    | go on s' =>
      have h4 := cstep_on hs
      obtain ⟨h5, h6⟩ := acc_go (L := q.length - at_ - 1) hg hxo (fun h0 => acc_last h hx (by omega)) d s s' on hs
      exact ih _ _ _ (by omega) (by omega) (by omega)
    | done v => simp only; refine ⟨trivial, by omega, by omega⟩
    | err e => exact absurd (good_right hg hxo) (by rw [← (cstep_err hs).1]; exact (cstep_err hs).2)
theorem runC_acc {q : List I4} (h : (checkP q).1 = 0) (hq : ∀ x ∈ q, x.ok) (d : List Int) (h64 : d.length = 64) : (runC q d).2.2.1 = 0 ∧ 1 ≤ (runC q d).2.1 ∧ (runC q d).2.1 ≤ q.length := by
  unfold runC
  rw [if_neg (by simp [h64])]
  exact crun_acc h hq d _ 0 _ 0 (acc_facts h).1 (Nat.le_refl _) (by omega)
end Go.Proofs.Ytpofdjnkpplimaa
