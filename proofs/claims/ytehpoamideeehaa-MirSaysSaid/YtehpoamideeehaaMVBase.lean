import Derived.Test.YtehpoamideeehaaCbpfP
import Derived.Test.YtehpoamideeehaaCodeP
import Derived.Test.YtehpoamideeehaaCodes
import Derived.Test.YtehpoamideeehaaWord
set_option linter.unusedVariables false
set_option linter.unusedSimpArgs false
namespace Go.Proofs.Ytehpoamideeehaa
open Go.RowKit
/-! What machines of both packages have in common. -/
/-- What turns. -/
structure MV where
  a : Int
  x : Int
  m : List Int
  place : Int
  steps : Int
  through : Bool
  ans : Int
  err : Int
def MV.of (z : CS) : MV := ⟨z.s.a, z.s.x, z.s.m, z.at_, z.steps, z.done, z.ans, z.err⟩
theorem heap_setCell_same {w : World} {B j : Nat} {c : Array Value} {t : TypeId} {fr : Nat × Nat} (h : w.heap[B]? = some (.cells c t fr)) (v : Value) : (w.setCell ⟨B, j, none⟩ v).heap[B]? = some (.cells (c.setIfInBounds j v) t fr) := by
  have hlt := (Array.getElem?_eq_some_iff.1 h).1
  have h' : w.heap[B] = .cells c t fr := (Array.getElem?_eq_some_iff.1 h).2
  show (w.heap.modify B _)[B]? = _
  rw [Array.getElem?_eq_getElem (by simpa using hlt), Array.getElem_modify_self, h']
  rfl
theorem grow_set {w W : World} {B j : Nat} (h : w.grownBy W (some B)) (v : Value) : w.grownBy (W.setCell ⟨B, j, none⟩ v) (some B) :=
  ⟨h.os, h.tape, h.output, by simpa using h.size, fun k hk hne => by rw [Below.heap_setCell _ _ _ _ (fun e => hne (by simpa using e))]; exact h.block k hk hne⟩
theorem grow_drew {w W : World} {row : Option Nat} (h : w.grownBy W row) : w.grownBy W.drew row := ⟨h.os, h.tape, h.output, h.size, h.block⟩
theorem grow_drewN {w W : World} {row : Option Nat} (h : w.grownBy W row) (n : Nat) : w.grownBy (W.drewN n) row := ⟨h.os, h.tape, h.output, h.size, h.block⟩
theorem grow_al {w W : World} {row : Option Nat} (h : w.grownBy W row) (o : Obj) : w.grownBy (W.alloc o) row := h.trans (World.grownBy_alloc W o row)
theorem below_grow {w W : World} {B : Nat} (h : Below w.heap.size w W) : w.grownBy W (some B) := ⟨h.os, h.tape, h.output, h.size, fun k hk _ => h.block k hk⟩
theorem set_high (l r : List Value) (n j : Nat) (h : l.length = n) (v : Value) : (l ++ r).set (n + j) v = l ++ r.set j v := by
  rw [List.set_append_right _ _ (by omega)]; congr 2; omega
def insnV (i : I4) : Value := .agg #[.int .u16 i.c, .int .u8 i.j, .int .u8 i.f, .int .u32 i.k]
def insnO (i : I4) : Obj := .cells #[.int .u16 i.c, .int .u8 i.j, .int .u8 i.f, .int .u32 i.k] 47
/-- What a method leaves. -/
def mz (d : List Int) (i : I4) (z : CS) : MV :=
  if cwrong i ≠ 0 then MV.of z else match cstep d i z.s with
  | .go on s' => ⟨s'.a, s'.x, s'.m, z.at_ + on - 1, z.steps, z.done, z.ans, z.err⟩
  | .done v => { MV.of z with through := true, ans := v, place := z.at_ - 1 }
  | .err _ => MV.of z
section
variable {d : List Int} {i : I4} {z : CS}
theorem alu_cases : ∀ c ∈ aluL, (hiC c = 0 ∧ mop c = 4) ∨ (hiC c = 16 ∧ mop c = 5) ∨ (hiC c = 32 ∧ mop c = 6) ∨ (hiC c = 48 ∧ mop c = 7 ∧ (c = 52 ∨ c = 60)) ∨ (hiC c = 64 ∧ mop c = 9) ∨ (hiC c = 80 ∧ mop c = 8) ∨ (hiC c = 96 ∧ mop c = 11) ∨ (hiC c = 112 ∧ mop c = 12) ∨ (hiC c = 160 ∧ mop c = 10) := by decide +kernel
theorem alu_not48 : ∀ c ∈ aluL, (hiC c = 48 ↔ c = 52 ∨ c = 60) := by decide +kernel
theorem alu_right : ∀ c ∈ aluL, sealsL c = true ∧ c ≠ 32 ∧ c ≠ 96 ∧ c ≠ 97 ∧ c ≠ 2 ∧ c ≠ 3 := by decide +kernel
theorem jump_cases : ∀ c ∈ jumpL, (hiC c = 16 ∧ mq c = 15) ∨ (hiC c = 32 ∧ mq c = 16) ∨ (hiC c = 48 ∧ mq c = 17) ∨ (hiC c = 64 ∧ mq c = 18) := by decide +kernel
theorem jump_right0 : ∀ c ∈ jumpL, sealsL c = true ∧ c ≠ 32 ∧ c ≠ 96 ∧ c ≠ 97 ∧ c ≠ 2 ∧ c ≠ 3 ∧ c ≠ 52 ∧ memC c aluL = false := by decide +kernel
theorem rest_right : ∀ c ∈ restL, sealsL c = true ∧ memC c aluL = false ∧ memC c jumpL = false ∧ c ≠ 52 := by decide +kernel
theorem mz_alu (h : i.c ∈ aluL) (hw : ¬ (i.c = 52 ∧ i.k = 0)) (hn : ¬ (i.c = 60 ∧ z.s.x = 0)) : cwrong i = 0 ∧ mz d i z = { MV.of z with a := sumP (mop i.c) z.s.a (operC i z.s) } := by
  obtain ⟨h1, h2, h3, h4, h5, h6⟩ := alu_right _ h
  have e : cwrong i = 0 := by unfold cwrong; rw [if_neg (by simp [h1]), if_neg (by simp [h2]), if_neg (by simp [h3, h4, h5, h6]), if_neg hw]
  refine ⟨e, ?_⟩
  unfold mz cstep
  rw [if_neg (by simp [e]), if_neg (by simp [e]), if_pos (memC_of h), if_neg hn]
  simp [MV.of]
theorem mz_jump (h : i.c ∈ jumpL) (hi : i.ok) : cwrong i = 0 ∧ mz d i z = { MV.of z with place := z.at_ + wayC i z.s } := by
  obtain ⟨h1, h2, h3, h4, h5, h6, h7, h8⟩ := jump_right0 _ h
  have e : cwrong i = 0 := by unfold cwrong; rw [if_neg (by simp [h1]), if_neg (by simp [h2]), if_neg (by simp [h3, h4, h5, h6]), if_neg (by simp [h7])]
  refine ⟨e, ?_⟩
  have hw : 0 ≤ wayC i z.s := by unfold wayC; split; exact hi.2.2.1; exact hi.2.2.2.2.1
  unfold mz cstep
  rw [if_neg (by simp [e]), if_neg (by simp [e]), if_neg (by simp [h8]), if_pos (memC_of h)]
  simp only [MV.of, MV.mk.injEq, true_and, and_true]
  omega
theorem mz_wrong (h : cwrong i ≠ 0) : mz d i z = MV.of z := by unfold mz; rw [if_pos h]
theorem mz_rest (h : i.c ∈ restL) (e : cwrong i = 0) (h5 : i.c ≠ 5) (h6 : i.c ≠ 6) (h7 : i.c ≠ 22) : mz d i z = ⟨(cmove d i z.s).a, (cmove d i z.s).x, (cmove d i z.s).m, z.at_, z.steps, z.done, z.ans, z.err⟩ := by
  obtain ⟨h1, h2, h3, h4⟩ := rest_right _ h
  unfold mz cstep
  rw [if_neg (by simp [e]), if_neg (by simp [e]), if_neg (by simp [h2]), if_neg (by simp [h3]), if_neg h5, if_neg h6, if_neg h7]
  simp
/-- .. and what the step then leaves is the next state. -/
theorem next_of {q : List I4} (hd : z.done = false) (h64 : d.length = 64) (hi : q[z.at_]? = some i) (hz : z.ok q) :
    (cwrong i ≠ 0 → MV.of (z.next q d) = { mz d i z with through := true, err := cwrong i }) ∧ (cwrong i = 0 → MV.of (z.next q d) = { mz d i z with place := (mz d i z).place + 1, steps := (mz d i z).steps + 1 }) := by
  have hn : ¬ d.length ≠ 64 := by simp [h64]
  have e : z.next q d = match cstep d i z.s with
      | .go on s' => { z with s := s', at_ := z.at_ + on, steps := z.steps + 1 }
      | .done v => { z with done := true, ans := v, steps := z.steps + 1 }
      | .err e => { z with done := true, err := e } := by
    unfold CS.next; rw [if_neg (by simp [hd]), if_neg hn, hi]
    rfl
  refine ⟨fun h => ?_, fun h => ?_⟩
  · have hs : cstep d i z.s = .err (cwrong i) := by unfold cstep; rw [if_pos h]
    rw [e, hs, mz_wrong h]
    simp [MV.of]
  · rw [e]
    unfold mz
    rw [if_neg (by simp [h])]
    cases hs : cstep d i z.s with
    | go on s' => first | (simp [MV.of]; done) | (simp [MV.of]; omega)
    | done v => simp [MV.of]
    | err x => exact absurd h (by rw [← (cstep_err hs).1]; exact (cstep_err hs).2)
end
def AnsPost (w : World) (x : Res4) (e : Ending) (w' : World) : Prop := e = .returned (ret4 x) ∧ ∃ n, w' = w.drewN n
def stepsOf (B : Nat) (w : World) : Nat := match w.cell? ⟨B, 21, none⟩ with | some (.int _ n) => n.toNat | _ => 0
theorem after_ne {q : List I4} {d : List Int} {n : Nat} {z : CS} {R : Res4} (hd : z.done = false) (h : (CS.after q d n z).done = true ∧ (CS.after q d n z).answer = R) : ∃ m, n = m + 1 ∧ (CS.after q d m (z.next q d)).done = true ∧ (CS.after q d m (z.next q d)).answer = R := by
  cases n with
  | zero => rw [CS.after, hd] at h; cases h.1
  | succ m => exact ⟨m, rfl, h⟩
theorem next_steps {q : List I4} {d : List Int} {z : CS} (h : (z.next q d).done = false) : (z.next q d).steps = z.steps + 1 := by
  unfold CS.next at h ⊢
  split
  · rename_i hd; rw [if_pos hd, hd] at h; cases h
  · rename_i hd
    rw [if_neg hd] at h
    split
    · rename_i h64; rw [if_pos h64] at h; cases h
    · rename_i h64
      rw [if_neg h64] at h
      split
      · rename_i hx; rw [hx] at h; cases h
      · rename_i i hx
        rw [hx] at h
        simp only at h
        split
        · rfl
        · rfl
        · rename_i e hs; rw [hs] at h; cases h
end Go.Proofs.Ytehpoamideeehaa
