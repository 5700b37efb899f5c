import Derived.Test.YtehpoamideeehaaMirSum
import Derived.Test.YtehpoamideeehaaRun4
set_option linter.unusedVariables false
set_option linter.unusedSimpArgs false
namespace Go.Proofs.Ytehpoamideeehaa
open Go.RowKit
/-! Running a program of registers: the plain side, and the registers in memory. -/
def mval (x : R7) (d : List Int) (va vb : Int) : Int :=
  if x.o = 1 then x.k else if x.o = 2 then va else if x.o = 3 then wordP d x.k.toNat else if x.o = 13 then (0 - va) % 4294967296 else sumP x.o va vb
def mset (x : R7) (d r : List Int) : List Int := if shD x.o = true then r.set x.d.toNat (mval x d (getN r x.a.toNat) (getN r x.b.toNat)) else r
def mnext (x : R7) (at_ : Nat) (r : List Int) : Nat :=
  if x.o = 14 then x.t.toNat else if 15 ≤ x.o then (if saysP x.o (getN r x.a.toNat) (getN r x.b.toNat) = true then x.t.toNat else x.f.toNat) else at_ + 1
def mrun (q : List R7) (d : List Int) : Nat → Nat → List Int → Nat → Res4
  | 0, _, _, _ => (0, 0, 0, 0)
  | n + 1, at_, r, steps => match q[at_]? with
    | none => (0, 0, 0, 0)
    | some x => if x.o = 19 then (getN r x.a.toNat, steps + 1, 0, 0)
      else if x.o = 7 ∧ getN r x.b.toNat = 0 then (0, steps, 8, at_)
      else mrun q d n (mnext x at_ r) (mset x d r) (steps + 1)
def runP (regs : Int) (q : List R7) (d : List Int) : Res4 :=
  if (mcheckP regs q).1 ≠ 0 then (0, 0, (mcheckP regs q).1, (mcheckP regs q).2)
  else if d.length ≠ 64 then (0, 0, 21, 0) else mrun q d q.length 0 (List.replicate regs.toNat 0) 0
theorem mcheckP_zero {regs : Int} {q : List R7} (h : (mcheckP regs q).1 = 0) : 1 ≤ regs ∧ regs ≤ 64 ∧ 0 < q.length ∧ q.length ≤ 65536 ∧ (∀ i, i < q.length → wrongQ regs q i = 0) ∧ lastO q = 19 := by
  unfold mcheckP at h
  by_cases h1 : regs < 1 ∨ 64 < regs
  · rw [if_pos h1] at h; simp at h
  rw [if_neg h1] at h
  by_cases h2 : q.length < 1 ∨ 65536 < q.length
  · rw [if_pos h2] at h; simp at h
  rw [if_neg h2] at h
  cases hf : (List.range q.length).find? (fun i => wrongQ regs q i != 0) with
  | some i =>
    rw [hf] at h
    have := List.find?_some hf
    simp at this h
    exact absurd h this
  | none =>
    rw [hf] at h
    refine ⟨by omega, by omega, by omega, by omega, fun i hi => ?_, ?_⟩
    · have := List.find?_eq_none.1 hf i (by simpa using hi)
      simpa using this
    · by_cases h3 : lastO q = 19
      · exact h3
      · simp only [if_neg h3] at h; simp at h
/-- What an accepted instruction keeps. -/
def Fine (regs len at_ : Int) (x : R7) : Prop :=
  1 ≤ x.o ∧ x.o ≤ 19 ∧ (shD x.o = true → 0 ≤ x.d ∧ x.d < regs) ∧ (shA x.o = true → 0 ≤ x.a ∧ x.a < regs) ∧ (shB x.o = true → 0 ≤ x.b ∧ x.b < regs) ∧ (x.o = 3 → x.k % 4 = 0 ∧ x.k < 64) ∧
  (shT x.o = true → at_ < x.t ∧ x.t < len) ∧ (shF x.o = true → at_ < x.f ∧ x.f < len)
theorem fine_of {regs len at_ : Int} {x : R7} (h : wrongP regs len at_ x = 0) : Fine regs len at_ x := by
  unfold wrongP at h
  split at h
  · cases h
  rename_i h1
  split at h
  · cases h
  rename_i h2
  split at h
  · cases h
  rename_i h3
  split at h
  · cases h
  rename_i h4
  simp only [known, regB, aheadB, Bool.not_eq_false, Bool.and_eq_true, decide_eq_true_eq, Bool.or_eq_true, Bool.not_eq_true', beq_iff_eq, bne_iff_ne, ne_eq, not_and, not_or] at h1 h2 h3 h4
  refine ⟨h1.1, h1.2, fun h => ?_, fun h => ?_, fun h => ?_, fun h => ?_, fun h => ?_, fun h => ?_⟩
  · rw [h] at h2; simpa using h2.1.1
  · rw [h] at h2; simpa using h2.1.2
  · rw [h] at h2; simpa using h2.2
  · have := h3 h; omega
  · rw [h] at h4; simpa using h4.1
  · rw [h] at h4; simpa using h4.2
theorem fine_at {regs : Int} {q : List R7} (h : (mcheckP regs q).1 = 0) {i : Nat} {x : R7} (hx : q[i]? = some x) : Fine regs q.length i x := by
  have hi := (List.getElem?_eq_some_iff.1 hx).1
  have := (mcheckP_zero h).2.2.2.2.1 i hi
  unfold wrongQ at this
  rw [hx] at this
  exact fine_of this
theorem last_at {regs : Int} {q : List R7} (h : (mcheckP regs q).1 = 0) {i : Nat} {x : R7} (hx : q[i]? = some x) (hl : i + 1 = q.length) : x.o = 19 := by
  have := (mcheckP_zero h).2.2.2.2.2
  unfold lastO at this
  rw [show q.length - 1 = i by omega, hx] at this
  exact this
/-- The registers, as they lie in memory. -/
def RegsAt (base g N : Nat) (r : List Int) (w : World) : Prop :=
  r.length = N ∧ (∀ v ∈ r, u32ok v) ∧ w.ownsRow base 35 1 (.slice (some ⟨g, 0, none⟩) N N) N (numV .u32 r)
theorem RegsAt.get {base g N : Nat} {r : List Int} {w : World} (h : RegsAt base g N r w) {i : Nat} (hi : i < N) : w.cell? ⟨g, i, none⟩ = some (.int .u32 (getN r i)) := by
  rw [h.2.2.cellAt i (by omega)]
  have : r[i]? = some (getN r i) := by unfold getN; rw [List.getD_eq_getElem?_getD, List.getElem?_eq_getElem (by rw [h.1]; exact hi)]; rfl
  simp [numV, this]
theorem RegsAt.frozen {base g N : Nat} {r : List Int} {w : World} (h : RegsAt base g N r w) (i : Nat) : w.frozen? ⟨g, i, none⟩ = false := h.2.2.frozenAt i
theorem RegsAt.set {base g N : Nat} {r : List Int} {w : World} (h : RegsAt base g N r w) (i : Nat) {v : Int} (hv : u32ok v) : RegsAt base g N (r.set i v) (w.setCell ⟨g, i, none⟩ (.int .u32 v)) := by
  refine ⟨by simp [h.1], ?_, ?_⟩
  · intro y hy
    rcases List.mem_or_eq_of_mem_set hy with h' | rfl
    · exact h.2.1 y h'
    · exact hv
  · have := (h.2.2.stored i (.int .u32 v)).1
    have e : (numV .u32 r).set i (.int .u32 v) = numV .u32 (r.set i v) := by simp [numV, List.map_set]
    rwa [e] at this
theorem RegsAt.keep {base g N : Nat} {r : List Int} {w w' : World} (h : RegsAt base g N r w) (hb : Below w.heap.size w w') : RegsAt base g N r w' :=
  ⟨h.1, h.2.1, h.2.2.kept (row := none) ⟨hb.os, hb.tape, hb.output, hb.size, fun k hk _ => hb.block k hk⟩ (.inr (by simp [Value.ownBlock]))⟩
end Go.Proofs.Ytehpoamideeehaa
set_option linter.unusedVariables false
set_option linter.unusedSimpArgs false
namespace Go.Proofs.Ytehpoamideeehaa
open Go.RowKit
/-! How a right program ends: the plain law. -/
def EndsWell (q : List R7) (R : Res4) : Prop :=
  (R.2.2.1 = 8 ∧ ∃ (i : Nat) (x : R7), R.2.2.2 = i ∧ q[i]? = some x ∧ x.o = 7 ∧ R.2.1 ≤ i ∧ 0 ≤ R.2.1) ∨ (R.2.2.1 = 0 ∧ 1 ≤ R.2.1 ∧ R.2.1 ≤ q.length ∧ R.2.2.2 = 0)
theorem mnext_fine {regs : Int} {q : List R7} (h : (mcheckP regs q).1 = 0) {i : Nat} {x : R7} (hx : q[i]? = some x) (ho : x.o ≠ 19) (r : List Int) : i < mnext x i r ∧ mnext x i r < q.length := by
  have hf := fine_at h hx
  have hi := (List.getElem?_eq_some_iff.1 hx).1
  obtain ⟨f1, f2, _, _, _, _, ft, ff⟩ := hf
  have hl : ¬ i + 1 = q.length := fun e => ho (last_at h hx e)
  unfold mnext
  by_cases h14 : x.o = 14
  · rw [if_pos h14]
    have := ft (by simp [shT]; omega)
    omega
  · rw [if_neg h14]
    by_cases h15 : 15 ≤ x.o
    · rw [if_pos h15]
      have h1 := ft (by simp [shT]; omega)
      have h2 := ff (by simp [shF]; omega)
      split <;> omega
    · rw [if_neg h15]
      omega
theorem mrun_ends {regs : Int} {q : List R7} {d : List Int} (h : (mcheckP regs q).1 = 0) : ∀ (n at_ : Nat) (r : List Int) (steps : Nat), at_ < q.length → steps ≤ at_ → q.length ≤ n + at_ → EndsWell q (mrun q d n at_ r steps) := by
  intro n
  induction n with
  | zero => intro at_ r steps h1 h2 h3; omega
  | succ n ih =>
    intro at_ r steps h1 h2 h3
    obtain ⟨x, hx⟩ : ∃ x, q[at_]? = some x := ⟨_, List.getElem?_eq_getElem h1⟩
    unfold mrun
    rw [hx]
    by_cases h19 : x.o = 19
    · simp only [h19, if_true]
      exact .inr ⟨rfl, by simp; omega, by simp; omega, rfl⟩
    · simp only [if_neg h19]
      by_cases h7 : x.o = 7 ∧ getN r x.b.toNat = 0
      · rw [if_pos h7]
        exact .inl ⟨rfl, at_, x, rfl, hx, h7.1, by simp; omega, by simp⟩
      · rw [if_neg h7]
        have := mnext_fine h hx h19 r
        exact ih _ _ _ this.2 (by omega) (by omega)
theorem runP_ends {regs : Int} {q : List R7} {d : List Int} (h : (mcheckP regs q).1 = 0) (hd : d.length = 64) : EndsWell q (runP regs q d) := by
  unfold runP
  rw [if_neg (by simp [h]), if_neg (by simp [hd])]
  exact mrun_ends h _ _ _ _ (mcheckP_zero h).2.2.1 (by omega) (by omega)
end Go.Proofs.Ytehpoamideeehaa
