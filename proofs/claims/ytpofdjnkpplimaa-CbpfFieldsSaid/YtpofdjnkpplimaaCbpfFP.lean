import Derived.Test.YtpofdjnkpplimaaCbpfS2
set_option linter.unusedVariables false
set_option linter.unusedSimpArgs false
namespace Go.Proofs.Ytpofdjnkpplimaa
open Go.RowKit
/-! Fields that an instruction of classic BPF does not ask for. -/
def noK (c : Int) : Bool := c == 22 || c == 128 || c == 129 || c == 132 || c == 7 || c == 135 || (bits .and .u16 c 8 != 0 && (bits .and .u16 c 7 == 4 || bits .and .u16 c 7 == 5))
def fieldsP (t kk : Int) (x : I4) : I4 := ⟨x.c, if memC x.c jumpL = true then x.j else bits .xor .u8 x.j t, if memC x.c jumpL = true then x.f else (x.f + t) % 256, if noK x.c = true then bits .xor .u32 x.k kk else x.k⟩
theorem bits_u8 (op : BinOp) (a b : Int) : 0 ≤ bits op .u8 a b ∧ bits op .u8 a b < 256 := by
  unfold bits; simp only [IntKind.wrap_u8]; omega
theorem fieldsP_ok {t kk : Int} {x : I4} (h : x.ok) : (fieldsP t kk x).ok := by
  obtain ⟨a1, a2, a3, a4, a5, a6, a7, a8⟩ := h
  unfold fieldsP I4.ok
  refine ⟨a1, a2, ?_, ?_, ?_, ?_, ?_, ?_⟩
  · dsimp only; split; exact a3; exact (bits_u8 _ _ _).1
  · dsimp only; split; exact a4; exact (bits_u8 _ _ _).2
  · dsimp only; split; exact a5; exact Int.emod_nonneg _ (by decide)
  · dsimp only; split; exact a6; exact Int.emod_lt_of_pos _ (by decide)
  · dsimp only; split; exact (bits_u32 _ _ _).1; exact a7
  · dsimp only; split; exact (bits_u32 _ _ _).2; exact a8
theorem cstep_jf (d : List Int) (x : I4) (s : CM) (h : memC x.c jumpL = false) (j f : Int) : cstep d ⟨x.c, j, f, x.k⟩ s = cstep d x s := by
  have e1 : cwrong ⟨x.c, j, f, x.k⟩ = cwrong x := rfl
  have e2 : cmove d ⟨x.c, j, f, x.k⟩ s = cmove d x s := rfl
  have e3 : operC ⟨x.c, j, f, x.k⟩ s = operC x s := rfl
  unfold cstep
  rw [e1, e2, e3]
  simp only [h, Bool.false_eq_true, if_false]
theorem noK_facts : ∀ c ∈ aluL ++ jumpL ++ restL, noK c = true → c ≠ 32 ∧ c ≠ 96 ∧ c ≠ 97 ∧ c ≠ 2 ∧ c ≠ 3 ∧ c ≠ 52 ∧ c ≠ 5 ∧ c ≠ 6 ∧ c ≠ 0 ∧ c ≠ 1 ∧ (c ∈ aluL ++ jumpL → xBit c = true) := by decide +kernel
theorem cstep_k (d : List Int) (x : I4) (s : CM) (h : noK x.c = true) (k : Int) : cstep d ⟨x.c, x.j, x.f, k⟩ s = cstep d x s := by
  cases hs : sealsL x.c with
  | false =>
    have e1 : cwrong ⟨x.c, x.j, x.f, k⟩ = 32 := by unfold cwrong; rw [if_pos hs]
    have e2 : cwrong x = 32 := by unfold cwrong; rw [if_pos hs]
    unfold cstep
    rw [e1, e2]
    simp
  | true =>
    obtain ⟨h1, h2, h3, h4, h5, h6, h7, h8, h9, h10, h11⟩ := noK_facts _ (sealsL_cases hs) h
    have e1 : ∀ k, cwrong ⟨x.c, x.j, x.f, k⟩ = 0 := fun k => by unfold cwrong; rw [if_neg (by simp [hs]), if_neg (by simp [h1]), if_neg (by simp [h2, h3, h4, h5]), if_neg (by simp [h6])]
    have e2 : ∀ k, cmove d ⟨x.c, x.j, x.f, k⟩ s = cmove d x s := fun k => by unfold cmove; simp [h1, h2, h3, h4, h5, h9, h10]
    have e1' : cwrong x = 0 := e1 x.k
    by_cases hA : x.c ∈ aluL
    · have e3 : operC ⟨x.c, x.j, x.f, k⟩ s = operC x s := by unfold operC; rw [if_pos (h11 (by simp [hA])), if_pos (h11 (by simp [hA]))]
      unfold cstep
      rw [e1, e1', e3]
      simp [memC_of hA]
    · by_cases hJ : x.c ∈ jumpL
      · have e3 : operC ⟨x.c, x.j, x.f, k⟩ s = operC x s := by unfold operC; rw [if_pos (h11 (by simp [hJ])), if_pos (h11 (by simp [hJ]))]
        have e4 : wayC ⟨x.c, x.j, x.f, k⟩ s = wayC x s := by unfold wayC; rw [e3]
        have hA' : memC x.c aluL = false := by simpa [memC] using hA
        unfold cstep
        rw [e1, e1', e4]
        simp [hA', memC_of hJ]
      · have hA' : memC x.c aluL = false := by simpa [memC] using hA
        have hJ' : memC x.c jumpL = false := by simpa [memC] using hJ
        unfold cstep
        rw [e1, e1', e2]
        simp [hA', hJ', h7, h8]
theorem cstep_fields (d : List Int) (t kk : Int) (x : I4) (s : CM) : cstep d (fieldsP t kk x) s = cstep d x s := by
  unfold fieldsP
  have h1 : cstep d ⟨x.c, if memC x.c jumpL = true then x.j else bits .xor .u8 x.j t, if memC x.c jumpL = true then x.f else (x.f + t) % 256, if noK x.c = true then bits .xor .u32 x.k kk else x.k⟩ s = cstep d ⟨x.c, x.j, x.f, if noK x.c = true then bits .xor .u32 x.k kk else x.k⟩ s := by
    cases hj : memC x.c jumpL with
    | true => rfl
    | false => exact cstep_jf d ⟨x.c, x.j, x.f, if noK x.c = true then bits .xor .u32 x.k kk else x.k⟩ s hj _ _
  rw [h1]
  cases hk : noK x.c with
  | true => exact cstep_k d x s hk _
  | false => rfl
theorem crun_map (d : List Int) (f : I4 → I4) (hf : ∀ x s, cstep d (f x) s = cstep d x s) (q : List I4) : ∀ (n at_ : Nat) (s : CM) (steps : Nat), crun (q.map f) d n at_ s steps = crun q d n at_ s steps := by
  intro n
  induction n with
  | zero => intros; rfl
  | succ n ih =>
    intro at_ s steps
    rw [crun, crun, List.getElem?_map]
    cases hx : q[at_]? with
    | none => rfl
    | some x =>
      simp only [Option.map_some, hf]
      cases cstep d x s with
      | go on s' => exact ih _ _ _
      | done v => rfl
      | err e => rfl
theorem runC_fields (q : List I4) (d : List Int) (t kk : Int) : runC (q.map (fieldsP t kk)) d = runC q d := by
  unfold runC
  rw [List.length_map, crun_map d _ (fun x s => cstep_fields d t kk x s)]
end Go.Proofs.Ytpofdjnkpplimaa
