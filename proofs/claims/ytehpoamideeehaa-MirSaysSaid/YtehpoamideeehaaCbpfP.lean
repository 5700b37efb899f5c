import Derived.Test.YtehpoamideeehaaRun4
import Derived.Test.YtehpoamideeehaaCheckW1
import Derived.Test.YtehpoamideeehaaWord
set_option linter.unusedVariables false
set_option linter.unusedSimpArgs false
namespace Go.Proofs.Ytehpoamideeehaa
open Go.RowKit
/-! Running a program of classic BPF: the plain side. -/
def hiC (c : Int) : Int := bits .and .u16 c 240
def mop (c : Int) : Int := if hiC c = 0 then 4 else if hiC c = 16 then 5 else if hiC c = 32 then 6 else if hiC c = 48 then 7 else if hiC c = 64 then 9 else if hiC c = 80 then 8 else if hiC c = 96 then 11 else if hiC c = 112 then 12 else 10
def mq (c : Int) : Int := if hiC c = 16 then 15 else if hiC c = 32 then 16 else if hiC c = 48 then 17 else 18
/-- A, X and the scratch words. -/
structure CM where
  a : Int
  x : Int
  m : List Int
deriving DecidableEq
def CM.ok (s : CM) : Prop := u32ok s.a ∧ u32ok s.x ∧ s.m.length = 16 ∧ ∀ v ∈ s.m, u32ok v
def CM.zero : CM := ⟨0, 0, List.replicate 16 0⟩
theorem CM.zero_ok : CM.zero.ok := ⟨⟨by decide, by decide⟩, ⟨by decide, by decide⟩, rfl, fun v hv => by rw [List.eq_of_mem_replicate hv]; exact ⟨by decide, by decide⟩⟩
def xBit (c : Int) : Bool := bits .and .u16 c 8 != 0
def operC (i : I4) (s : CM) : Int := if xBit i.c = true then s.x else i.k
theorem operC_ok {i : I4} {s : CM} (hi : i.ok) (hs : s.ok) : u32ok (operC i s) := by
  unfold operC; split
  · exact hs.2.1
  · exact ⟨hi.2.2.2.2.2.2.1, hi.2.2.2.2.2.2.2⟩
/-- What an instruction does: on by so many, at its end, or an error. -/
inductive CO where
  | go (on : Nat) (s : CM)
  | done (v : Int)
  | err (e : Int)
deriving DecidableEq
def wayC (i : I4) (s : CM) : Int := if saysP (mq i.c) s.a (operC i s) = true then i.j else i.f
def cmove (d : List Int) (i : I4) (s : CM) : CM :=
  if i.c = 32 then { s with a := wordP d i.k.toNat }
  else if i.c = 128 then { s with a := 64 } else if i.c = 129 then { s with x := 64 }
  else if i.c = 0 then { s with a := i.k } else if i.c = 1 then { s with x := i.k }
  else if i.c = 96 then { s with a := getN s.m i.k.toNat } else if i.c = 97 then { s with x := getN s.m i.k.toNat }
  else if i.c = 2 then { s with m := s.m.set i.k.toNat s.a } else if i.c = 3 then { s with m := s.m.set i.k.toNat s.x }
  else if i.c = 132 then { s with a := (0 - s.a) % 4294967296 } else if i.c = 7 then { s with x := s.a } else { s with a := s.x }
/-- What keeps an instruction from being done. -/
def cwrong (i : I4) : Int :=
  if sealsL i.c = false then 32
  else if i.c = 32 ∧ (60 < i.k ∨ i.k % 4 ≠ 0) then 34
  else if (i.c = 96 ∨ i.c = 97 ∨ i.c = 2 ∨ i.c = 3) ∧ 15 < i.k then 35
  else if i.c = 52 ∧ i.k = 0 then 36 else 0
def cstep (d : List Int) (i : I4) (s : CM) : CO :=
  if cwrong i ≠ 0 then .err (cwrong i)
  else if memC i.c aluL = true then (if i.c = 60 ∧ s.x = 0 then .done 0 else .go 1 { s with a := sumP (mop i.c) s.a (operC i s) })
  else if memC i.c jumpL = true then .go (1 + (wayC i s).toNat) s
  else if i.c = 5 then .go (1 + i.k.toNat) s
  else if i.c = 6 then .done i.k
  else if i.c = 22 then .done s.a
  else .go 1 (cmove d i s)
def crun (q : List I4) (d : List Int) : Nat → Nat → CM → Nat → Res4
  | 0, _, _, _ => (0, 0, 0, 0)
  | n + 1, at_, s, steps => match q[at_]? with
    | none => (0, steps, 33, at_)
    | some i => match cstep d i s with
      | .go on s' => crun q d n (at_ + on) s' (steps + 1)
      | .done v => (v, steps + 1, 0, 0)
      | .err e => (0, steps, e, at_)
def runC (q : List I4) (d : List Int) : Res4 := if d.length ≠ 64 then (0, 0, 21, 0) else crun q d (q.length + 1) 0 CM.zero 0

theorem cstep_on {d : List Int} {i : I4} {s s' : CM} {on : Nat} (h : cstep d i s = .go on s') : 1 ≤ on := by
  unfold cstep at h
  repeat' split at h
  all_goals first | (cases h; done) | (injection h with h1 h2; omega)
theorem set_u32 {m : List Int} (h : ∀ v ∈ m, u32ok v) (i : Nat) {x : Int} (hx : u32ok x) : ∀ v ∈ m.set i x, u32ok v := fun v hv => by
  rcases List.mem_or_eq_of_mem_set hv with h' | rfl
  · exact h v h'
  · exact hx
theorem cmove_ok {d : List Int} (hd : ∀ x ∈ d, 0 ≤ x ∧ x < 256) {i : I4} (hi : i.ok) {s : CM} (hs : s.ok) : (cmove d i s).ok := by
  obtain ⟨h1, h2, h3, h4⟩ := hs
  have hk : u32ok i.k := ⟨hi.2.2.2.2.2.2.1, hi.2.2.2.2.2.2.2⟩
  have h64 : u32ok 64 := ⟨by decide, by decide⟩
  unfold cmove
  split
  · exact ⟨wordP_ok hd _, h2, h3, h4⟩
  split
  · exact ⟨h64, h2, h3, h4⟩
  split
  · exact ⟨h1, h64, h3, h4⟩
  split
  · exact ⟨hk, h2, h3, h4⟩
  split
  · exact ⟨h1, hk, h3, h4⟩
  split
  · exact ⟨getN_ok h4 _, h2, h3, h4⟩
  split
  · exact ⟨h1, getN_ok h4 _, h3, h4⟩
  split
  · exact ⟨h1, h2, by simpa using h3, set_u32 h4 _ h1⟩
  split
  · exact ⟨h1, h2, by simpa using h3, set_u32 h4 _ h2⟩
  split
  · exact ⟨⟨Int.emod_nonneg _ (by decide), Int.emod_lt_of_pos _ (by decide)⟩, h2, h3, h4⟩
  split
  · exact ⟨h1, h1, h3, h4⟩
  · exact ⟨h2, h2, h3, h4⟩
theorem cstep_ok {d : List Int} (hd : ∀ x ∈ d, 0 ≤ x ∧ x < 256) {i : I4} (hi : i.ok) {s s' : CM} (hs : s.ok) {on : Nat} (h : cstep d i s = .go on s') : s'.ok := by
  unfold cstep at h
  repeat' split at h
  all_goals first
    | (cases h; done)
    | (injection h with h1 h2; subst h2; first | exact hs | exact cmove_ok hd hi hs | exact ⟨sumP_ok hs.1 (operC_ok hi hs), hs.2.1, hs.2.2.1, hs.2.2.2⟩)
theorem cwrong_range (i : I4) : cwrong i = 0 ∨ cwrong i = 32 ∨ cwrong i = 34 ∨ cwrong i = 35 ∨ cwrong i = 36 := by
  unfold cwrong; repeat' split
  all_goals simp
theorem cstep_err {d : List Int} {i : I4} {s : CM} {e : Int} (h : cstep d i s = .err e) : e = cwrong i ∧ e ≠ 0 := by
  unfold cstep at h
  repeat' split at h
  all_goals first | (cases h; done) | (injection h with h1; subst h1; exact ⟨rfl, by assumption⟩)
theorem cstep_done {d : List Int} {i : I4} (hi : i.ok) {s : CM} (hs : s.ok) {v : Int} (h : cstep d i s = .done v) : u32ok v := by
  unfold cstep at h
  repeat' split at h
  all_goals first | (cases h; done) | (injection h with h1; subst h1; first | exact hs.1 | exact ⟨by decide, by decide⟩ | exact ⟨hi.2.2.2.2.2.2.1, hi.2.2.2.2.2.2.2⟩)

/-- A machine, between two steps. -/
structure CS where
  s : CM
  at_ : Nat
  steps : Nat
  done : Bool
  ans : Int
  err : Int
deriving DecidableEq
def CS.zero : CS := ⟨CM.zero, 0, 0, false, 0, 0⟩
def CS.next (q : List I4) (d : List Int) (z : CS) : CS :=
  if z.done = true then z
  else if d.length ≠ 64 then { z with done := true, err := 21 }
  else match q[z.at_]? with
    | none => { z with done := true, err := 33 }
    | some i => match cstep d i z.s with
      | .go on s' => { z with s := s', at_ := z.at_ + on, steps := z.steps + 1 }
      | .done v => { z with done := true, ans := v, steps := z.steps + 1 }
      | .err e => { z with done := true, err := e }
def CS.answer (z : CS) : Res4 := if z.err ≠ 0 then (0, z.steps, z.err, z.at_) else (z.ans, z.steps, 0, 0)
def CS.ok (q : List I4) (z : CS) : Prop := z.s.ok ∧ u32ok z.ans ∧ z.steps ≤ z.at_ + 1 ∧ (z.done = false → z.steps ≤ z.at_ ∧ z.err = 0 ∧ z.ans = 0) ∧ z.at_ ≤ q.length + 4294967296 ∧ z.steps ≤ q.length ∧ 0 ≤ z.err ∧ z.err ≤ 36
theorem CS.zero_ok (q : List I4) : (CS.zero).ok q := ⟨CM.zero_ok, ⟨by decide, by decide⟩, by decide, fun _ => ⟨by decide, rfl, rfl⟩, by simp [CS.zero], by simp [CS.zero], by decide, by decide⟩
theorem cstep_on_le {d : List Int} {i : I4} (hi : i.ok) {s s' : CM} {on : Nat} (h : cstep d i s = .go on s') : on ≤ 4294967296 := by
  obtain ⟨a1, a2, a3, a4, a5, a6, a7, a8⟩ := hi
  have hw : wayC i s ≤ 255 := by unfold wayC; split <;> omega
  unfold cstep at h
  repeat' split at h
  all_goals first | (cases h; done) | (injection h with h1 h2; omega)
theorem CS.next_ok {q : List I4} {d : List Int} (hd : ∀ x ∈ d, 0 ≤ x ∧ x < 256) (hq : ∀ x ∈ q, x.ok) {z : CS} (h : z.ok q) : (z.next q d).ok q := by
  obtain ⟨h1, h2, h3, h4, h5, h6, h7, h8⟩ := h
  unfold CS.next
  split
  · exact ⟨h1, h2, h3, h4, h5, h6, h7, h8⟩
  · rename_i hnd
    have hdn : z.done = false := by simpa using hnd
    obtain ⟨k1, k2, k3⟩ := h4 hdn
    split
    · exact ⟨h1, h2, h3, (fun h => by cases h), h5, h6, by dsimp only; omega, by dsimp only; omega⟩
    · split
      · exact ⟨h1, h2, h3, (fun h => by cases h), h5, h6, by dsimp only; omega, by dsimp only; omega⟩
      · rename_i i hi
        have hio := hq i (List.mem_of_getElem? hi)
        have hlt := (List.getElem?_eq_some_iff.1 hi).1
        split
        · rename_i on s' hs
          have e1 := cstep_on hs
          have e2 := cstep_on_le hio hs
          refine ⟨cstep_ok hd hio h1 hs, h2, ?_, fun _ => ⟨?_, k2, k3⟩, ?_, ?_, h7, h8⟩ <;> dsimp only <;> omega
        · rename_i v hs
          refine ⟨h1, cstep_done hio h1 hs, ?_, (fun h => by cases h), h5, ?_, h7, h8⟩ <;> dsimp only <;> omega
        · rename_i e hs
          obtain ⟨e1, e2⟩ := cstep_err hs
          have := cwrong_range i
          refine ⟨h1, h2, h3, (fun h => by cases h), h5, h6, ?_, ?_⟩ <;> dsimp only <;> omega
/-- A run is what the steps come to. -/
def CS.after (q : List I4) (d : List Int) : Nat → CS → CS
  | 0, z => z
  | n + 1, z => CS.after q d n (z.next q d)
theorem CS.after_done {q : List I4} {d : List Int} (n : Nat) {z : CS} (h : z.done = true) : CS.after q d n z = z := by
  induction n with
  | zero => rfl
  | succ n ih =>
    have : z.next q d = z := by unfold CS.next; rw [if_pos h]
    simp only [CS.after, this, ih]
theorem crun_after {q : List I4} {d : List Int} (h64 : d.length = 64) : ∀ (n : Nat) (z : CS), z.done = false → z.err = 0 → q.length ≤ n + z.at_ →
    (CS.after q d (n + 1) z).done = true ∧ (CS.after q d (n + 1) z).answer = crun q d (n + 1) z.at_ z.s z.steps := by
  have hn : ¬ d.length ≠ 64 := by simp [h64]
  intro n
  induction n with
  | zero =>
    intro z hz he hlt
    have hx : q[z.at_]? = none := List.getElem?_eq_none (by omega)
    simp [CS.after, CS.next, crun, hz, hx, hn, CS.answer]
  | succ n ih =>
    intro z hz he hlt
    rw [CS.after, crun]
    cases hx : q[z.at_]? with
    | none =>
      have e : z.next q d = { z with done := true, err := 33 } := by unfold CS.next; rw [if_neg (by simp [hz]), if_neg hn, hx]
      rw [e, CS.after_done _ rfl]
      exact ⟨rfl, by simp [CS.answer]⟩
    | some i =>
      cases hs : cstep d i z.s with
      | go on s' =>
        have e : z.next q d = { z with s := s', at_ := z.at_ + on, steps := z.steps + 1 } := by unfold CS.next; rw [if_neg (by simp [hz]), if_neg hn, hx]; simp only [hs]
        have h1 := cstep_on hs
        rw [e]
        simp only [hs]
        exact ih _ hz he (by dsimp only; omega)
      | done v =>
        have e : z.next q d = { z with done := true, ans := v, steps := z.steps + 1 } := by unfold CS.next; rw [if_neg (by simp [hz]), if_neg hn, hx]; simp only [hs]
        rw [e, CS.after_done _ rfl]
        exact ⟨rfl, by simp [CS.answer, he, hs]⟩
      | err x =>
        have e : z.next q d = { z with done := true, err := x } := by unfold CS.next; rw [if_neg (by simp [hz]), if_neg hn, hx]; simp only [hs]
        rw [e, CS.after_done _ rfl]
        exact ⟨rfl, by simp [CS.answer, (cstep_err hs).2, hs]⟩
theorem runC_after (q : List I4) (d : List Int) : (CS.after q d (q.length + 1) CS.zero).done = true ∧ (CS.after q d (q.length + 1) CS.zero).answer = runC q d := by
  unfold runC
  by_cases h : d.length = 64
  · rw [if_neg (by simp [h])]
    exact crun_after h q.length CS.zero rfl rfl (by omega)
  · rw [if_pos h]
    have e : CS.zero.next q d = { CS.zero with done := true, err := 21 } := by unfold CS.next; rw [if_neg (by simp [CS.zero]), if_pos h]
    rw [CS.after, e, CS.after_done _ rfl]
    exact ⟨rfl, by simp [CS.answer, CS.zero]⟩
end Go.Proofs.Ytehpoamideeehaa
