import Derived.Test.YtapmpegblfcknaaCheckPure
set_option linter.unusedVariables false
set_option linter.unusedSimpArgs false
namespace Go.Proofs.Ytapmpegblfcknaa
open Go.RowKit
/-! The plain side of flow.blocks: how a program is parted. -/
def endsJ (x : I4) : Bool := bits .and .u16 x.c 7 == 5 || bits .and .u16 x.c 7 == 6
def endQ (q : List I4) (i : Nat) : Bool := match q[i]? with | some x => endsJ x | none => true
def runEnd (q : List I4) (n : List Nat) : Nat → Nat → Nat
  | 0, at_ => at_
  | f + 1, at_ => if (endQ q at_ || n.getD (at_ + 1) 0 != 1) = true then at_ + 1 else runEnd q n f (at_ + 1)
def partsQ (q : List I4) (n : List Nat) : Nat → Nat → List (Nat × Nat)
  | 0, _ => []
  | f + 1, at_ => if at_ < q.length then (if n.getD at_ 0 = 0 then partsQ q n f (at_ + 1) else (at_, runEnd q n q.length at_) :: partsQ q n f (runEnd q n q.length at_)) else []
theorem runEnd_gt (q : List I4) (n : List Nat) : ∀ (f at_ : Nat), at_ ≤ runEnd q n f at_ ∧ (0 < f → at_ < runEnd q n f at_) := by
  intro f
  induction f with
  | zero => intro at_; exact ⟨Nat.le_refl _, fun h => absurd h (by decide)⟩
  | succ f ih =>
    intro at_
    unfold runEnd
    split
    · omega
    · have := (ih (at_ + 1)).1; omega
theorem runEnd_le (q : List I4) (n : List Nat) (hl : endQ q (q.length - 1) = true) : ∀ (f at_ : Nat), at_ < q.length → q.length ≤ f + at_ → runEnd q n f at_ ≤ q.length := by
  intro f
  induction f with
  | zero => intro at_ h1 h2; omega
  | succ f ih =>
    intro at_ h1 h2
    unfold runEnd
    split
    · omega
    · rename_i h
      rcases Nat.lt_or_ge (at_ + 1) q.length with h3 | h3
      · exact ih _ h3 (by omega)
      · exfalso
        have : at_ = q.length - 1 := by omega
        rw [← this] at hl
        simp [hl] at h
theorem runEnd_one (q : List I4) (n : List Nat) : ∀ (f at_ k : Nat), at_ < k → k < runEnd q n f at_ → n.getD k 0 = 1 := by
  intro f
  induction f with
  | zero => intro at_ k h1 h2; unfold runEnd at h2; omega
  | succ f ih =>
    intro at_ k h1 h2
    unfold runEnd at h2
    split at h2
    · omega
    · rename_i h
      rw [Bool.or_eq_true, not_or] at h
      rcases Nat.lt_or_ge (at_ + 1) k with h3 | h3
      · exact ih _ _ h3 h2
      · obtain rfl : k = at_ + 1 := by omega
        have := h.2
        simpa using this
/-- In how many parts an instruction is. -/
def inParts (ps : List (Nat × Nat)) (k : Nat) : Nat := ps.countP fun p => decide (p.1 ≤ k) && decide (k < p.2)
theorem inParts_cons (p : Nat × Nat) (ps : List (Nat × Nat)) (k : Nat) : inParts (p :: ps) k = inParts ps k + if p.1 ≤ k ∧ k < p.2 then 1 else 0 := by
  unfold inParts
  rw [List.countP_cons]
  simp
theorem parts_rise (q : List I4) (n : List Nat) (hl : endQ q (q.length - 1) = true) : ∀ (f at_ : Nat), (∀ p ∈ partsQ q n f at_, at_ ≤ p.1 ∧ p.1 < p.2 ∧ p.2 ≤ q.length) ∧ (partsQ q n f at_).Pairwise (fun a b => a.2 ≤ b.1) := by
  intro f
  induction f with
  | zero => intro at_; exact ⟨fun p h => by simp [partsQ] at h, by simp [partsQ]⟩
  | succ f ih =>
    intro at_
    unfold partsQ
    split
    · rename_i h1
      split
      · obtain ⟨i1, i2⟩ := ih (at_ + 1)
        exact ⟨fun p h => by have := i1 p h; omega, i2⟩
      · have g1 := (runEnd_gt q n q.length at_).2 (by omega)
        have g2 := runEnd_le q n hl q.length at_ h1 (by omega)
        obtain ⟨i1, i2⟩ := ih (runEnd q n q.length at_)
        refine ⟨fun p h => ?_, List.pairwise_cons.2 ⟨fun p h => (i1 p h).1, i2⟩⟩
        rcases List.mem_cons.1 h with rfl | h
        · exact ⟨Nat.le_refl _, g1, g2⟩
        · have := i1 p h; omega
    · exact ⟨fun p h => by simp at h, by simp⟩
theorem parts_in (q : List I4) (n : List Nat) (hl : endQ q (q.length - 1) = true) : ∀ (f at_ : Nat), q.length ≤ f + at_ → ∀ k, k < q.length → inParts (partsQ q n f at_) k = if at_ ≤ k ∧ n.getD k 0 ≠ 0 then 1 else 0 := by
  intro f
  induction f with
  | zero =>
    intro at_ h k hk
    rw [if_neg (by omega)]
    simp [partsQ, inParts]
  | succ f ih =>
    intro at_ h k hk
    unfold partsQ
    by_cases h1 : at_ < q.length
    · rw [if_pos h1]
      by_cases h2 : n.getD at_ 0 = 0
      · rw [if_pos h2, ih (at_ + 1) (by omega) k hk]
        by_cases h3 : k = at_
        · subst h3; rw [if_neg (by omega), if_neg (fun h => h.2 h2)]
        · by_cases h4 : at_ ≤ k ∧ n.getD k 0 ≠ 0
          · rw [if_pos h4, if_pos ⟨by omega, h4.2⟩]
          · rw [if_neg h4, if_neg (fun h5 => h4 ⟨by omega, h5.2⟩)]
      · rw [if_neg h2, inParts_cons]
        have g1 := (runEnd_gt q n q.length at_).2 (by omega)
        have g2 := runEnd_le q n hl q.length at_ h1 (by omega)
        rw [ih _ (by omega) k hk]
        by_cases h3 : at_ ≤ k ∧ k < runEnd q n q.length at_
        · rw [if_neg (by omega), if_pos h3]
          have : n.getD k 0 ≠ 0 := by
            rcases Nat.eq_or_lt_of_le h3.1 with h4 | h4
            · rw [← h4]; exact h2
            · rw [runEnd_one q n q.length at_ k h4 h3.2]; decide
          rw [if_pos ⟨h3.1, this⟩]
        · rw [if_neg h3]
          by_cases h4 : n.getD k 0 ≠ 0
          · by_cases h5 : runEnd q n q.length at_ ≤ k
            · rw [if_pos ⟨h5, h4⟩, if_pos ⟨by omega, h4⟩]
            · rw [if_neg (fun h => h5 h.1), if_neg (fun h => by omega)]
          · rw [if_neg (fun h => h4 h.2), if_neg (fun h => h4 h.2)]
    · rw [if_neg h1, if_neg (by omega)]
      rfl
end Go.Proofs.Ytapmpegblfcknaa
