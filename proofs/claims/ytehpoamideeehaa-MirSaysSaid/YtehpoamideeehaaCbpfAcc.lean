import Derived.Test.YtehpoamideeehaaCbpfP
import Derived.Test.YtehpoamideeehaaAcc
set_option linter.unusedVariables false
set_option linter.unusedSimpArgs false
namespace Go.Proofs.Ytehpoamideeehaa
open Go.RowKit
/-! What an accepted program keeps; how it runs. -/
theorem good_right {x : I4} {L : Int} (h : Good x L) (hx : x.ok) : cwrong x = 0 := by
  unfold cwrong
  rw [if_neg (by simp [h.seals]), if_neg (fun hc => by have := h.load hc.1; omega), if_neg (fun hc => by have := h.mem hc.1; omega), if_neg (fun hc => h.div hc.1 hc.2)]
/-- An accepted program ends well. -/
theorem acc_go {x : I4} {L : Nat} (h : Good x L) (hx : x.ok) (hl : L = 0 → x.c = 6 ∨ x.c = 22) (d : List Int) (s s' : CM) (on : Nat) (hs : cstep d x s = .go on s') : on ≤ L ∧ 0 < L := by
  have hw := good_right h hx
  obtain ⟨a1, a2, a3, a4, a5, a6, a7, a8⟩ := hx
  have hL : 0 < L := by
    rcases Nat.eq_zero_or_pos L with h0 | h0
    · have hc := hl h0
      unfold cstep at hs
      rw [if_neg (by simp [hw])] at hs
      rcases hc with hc | hc
      · rw [hc, if_neg (by decide), if_neg (by decide), if_neg (by decide), if_pos rfl] at hs; cases hs
      · rw [hc, if_neg (by decide), if_neg (by decide), if_neg (by decide), if_neg (by decide), if_pos rfl] at hs; cases hs
    · exact h0
  refine ⟨?_, hL⟩
  unfold cstep at hs
  rw [if_neg (by simp [hw])] at hs
  split at hs
  · split at hs
    · cases hs
    · injection hs with h1 _; omega
  split at hs
  · rename_i hj
    injection hs with h1 _
    have := h.jump (mem_of_memC hj)
    have hw' : wayC x s < L := by unfold wayC; split <;> omega
    omega
  split at hs
  · rename_i h5
    injection hs with h1 _
    have := h.ja h5
    omega
  split at hs
  · cases hs
  split at hs
  · cases hs
  · injection hs with h1 _; omega
theorem crun_acc {q : List I4} (h : (checkP q).1 = 0) (hq : ∀ x ∈ q, x.ok) (d : List Int) : ∀ (n at_ : Nat) (s : CM) (steps : Nat), at_ < q.length → steps ≤ at_ → q.length ≤ n + at_ →
    (crun q d n at_ s steps).2.2.1 = 0 ∧ 1 ≤ (crun q d n at_ s steps).2.1 ∧ (crun q d n at_ s steps).2.1 ≤ q.length := by
  intro n
  induction n with
  | zero => intro at_ s steps h1 h2 h3; omega
  | succ n ih =>
    intro at_ s steps h1 h2 h3
    obtain ⟨x, hx⟩ : ∃ x, q[at_]? = some x := ⟨_, List.getElem?_eq_getElem h1⟩
    have hxo := hq x (List.mem_of_getElem? hx)
    have hg := good_at h hx
    rw [crun, hx]
    simp only
    cases hs : cstep d x s with
    | go on s' =>
      have h4 := cstep_on hs
      obtain ⟨h5, h6⟩ := acc_go (L := q.length - at_ - 1) hg hxo (fun h0 => acc_last h hx (by omega)) d s s' on hs
      exact ih _ _ _ (by omega) (by omega) (by omega)
    | done v => simp only; refine ⟨trivial, by omega, by omega⟩
    | err e => exact absurd (good_right hg hxo) (by rw [← (cstep_err hs).1]; exact (cstep_err hs).2)
theorem runC_acc {q : List I4} (h : (checkP q).1 = 0) (hq : ∀ x ∈ q, x.ok) (d : List Int) (h64 : d.length = 64) : (runC q d).2.2.1 = 0 ∧ 1 ≤ (runC q d).2.1 ∧ (runC q d).2.1 ≤ q.length := by
  unfold runC
  rw [if_neg (by simp [h64])]
  exact crun_acc h hq d _ 0 _ 0 (acc_facts h).1 (Nat.le_refl _) (by omega)
end Go.Proofs.Ytehpoamideeehaa
