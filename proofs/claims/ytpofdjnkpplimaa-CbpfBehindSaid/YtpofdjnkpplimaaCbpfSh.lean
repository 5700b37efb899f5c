import Derived.Test.YtpofdjnkpplimaaCbpfP
set_option linter.unusedVariables false
set_option linter.unusedSimpArgs false
namespace Go.Proofs.Ytpofdjnkpplimaa
open Go.RowKit
/-! A program behind another one: the plain side. -/
def behind (p : Nat) (r : Res4) : Res4 := (r.1, r.2.1 + 1, r.2.2.1, if r.2.2.1 ≠ 0 then r.2.2.2 + p else r.2.2.2)
theorem crun_fuel (q : List I4) (d : List Int) : ∀ (n m at_ : Nat) (s : CM) (st : Nat), q.length - at_ < n → q.length - at_ < m → crun q d n at_ s st = crun q d m at_ s st := by
  intro n
  induction n with
  | zero => intro m at_ s st h; omega
  | succ n ih =>
    intro m at_ s st h1 h2
    cases m with
    | zero => omega
    | succ m =>
      unfold crun
      cases hx : q[at_]? with
      | none => rfl
      | some i =>
        have hl := (List.getElem?_eq_some_iff.1 hx).1
        cases hc : cstep d i s with
        | go on s' =>
          have := cstep_on hc
          simp only [hc]
          exact ih m (at_ + on) s' (st + 1) (by omega) (by omega)
        | done v => simp only [hc]
        | err e => simp only [hc]
theorem crun_behind (p q : List I4) (d : List Int) : ∀ (n at_ : Nat) (s : CM) (st : Nat), q.length - at_ < n → crun (p ++ q) d n (p.length + at_) s (st + 1) = behind p.length (crun q d n at_ s st) := by
  intro n
  induction n with
  | zero => intro at_ s st h; omega
  | succ n ih =>
    intro at_ s st h
    unfold crun
    rw [List.getElem?_append_right (by omega), Nat.add_sub_cancel_left]
    cases hx : q[at_]? with
    | none => simp [behind]; omega
    | some i =>
      have hl := (List.getElem?_eq_some_iff.1 hx).1
      cases hc : cstep d i s with
      | go on s' =>
        have := cstep_on hc
        have h := ih (at_ + on) s' (st + 1) (by omega)
        simp only [hc]
        rw [Nat.add_assoc p.length]
        exact h
      | done v => simp [hc, behind]
      | err e => have := (cstep_err hc).2; simp [hc, behind, this]; omega
def jaOver (n : Nat) : I4 := ⟨5, 0, 0, n⟩
theorem cstep_ja (d : List Int) (n : Nat) (s : CM) : cstep d (jaOver n) s = .go (1 + n) s := by
  unfold cstep
  have h1 : cwrong (jaOver n) = 0 := by
    unfold cwrong jaOver
    rw [if_neg (by show ¬ (sealsL 5 = false); decide), if_neg (by simp), if_neg (by simp), if_neg (by simp)]
  rw [if_neg (by rw [h1]; decide), if_neg (by show ¬ (memC 5 aluL = true); decide), if_neg (by show ¬ (memC 5 jumpL = true); decide), if_pos (show (jaOver n).c = 5 from rfl)]
  simp [jaOver]
theorem runC_behind (sk q : List I4) (d : List Int) : runC (jaOver sk.length :: (sk ++ q)) d = if d.length ≠ 64 then (0, 0, 21, 0) else behind (sk.length + 1) (runC q d) := by
  unfold runC
  split
  · rfl
  · rw [crun]
    simp only [List.getElem?_cons_zero, cstep_ja]
    have h := crun_behind (jaOver sk.length :: sk) q d (jaOver sk.length :: (sk ++ q)).length 0 CM.zero 0 (by simp; omega)
    simp only [List.cons_append, List.length_cons, Nat.add_zero] at h
    rw [show 0 + (1 + sk.length) = sk.length + 1 by omega]
    simp only [List.length_cons] at h ⊢
    rw [h, crun_fuel q d _ (q.length + 1) 0 CM.zero 0 (by simp; omega) (by omega)]
theorem crun_rng (q : List I4) (hq : ∀ x ∈ q, x.ok) (d : List Int) : ∀ (n at_ : Nat) (s : CM) (st : Nat), at_ ≤ q.length + 4294967296 → 0 ≤ (crun q d n at_ s st).2.1 ∧ (crun q d n at_ s st).2.1 ≤ st + n ∧ 0 ≤ (crun q d n at_ s st).2.2.2 ∧ (crun q d n at_ s st).2.2.2 ≤ q.length + 4294967296 := by
  intro n
  induction n with
  | zero => intro at_ s st h; simp [crun]; omega
  | succ n ih =>
    intro at_ s st h
    unfold crun
    cases hx : q[at_]? with
    | none => simp; omega
    | some i =>
      have hl := (List.getElem?_eq_some_iff.1 hx).1
      cases hc : cstep d i s with
      | go on s' =>
        have h1 := cstep_on_le (hq i (List.mem_of_getElem? hx)) hc
        obtain ⟨a, b, c, e⟩ := ih (at_ + on) s' (st + 1) (by omega)
        simp only [hc]
        refine ⟨a, ?_, c, e⟩
        push_cast at b ⊢
        omega
      | done v => simp [hc]; omega
      | err e => simp [hc]; omega
theorem runC_rng (q : List I4) (hq : ∀ x ∈ q, x.ok) (d : List Int) : 0 ≤ (runC q d).2.1 ∧ (runC q d).2.1 ≤ q.length + 1 ∧ 0 ≤ (runC q d).2.2.2 ∧ (runC q d).2.2.2 ≤ q.length + 4294967296 := by
  unfold runC
  split
  · simp; omega
  · have h := crun_rng q hq d (q.length + 1) 0 CM.zero 0 (by omega)
    simpa using h
end Go.Proofs.Ytpofdjnkpplimaa
