import Derived.Test.YtapmpegblfcknaaCheckL1
set_option linter.unusedVariables false
set_option linter.unusedSimpArgs false
namespace Go.Proofs.Ytapmpegblfcknaa
open Go.RowKit
/-! Accepted programs: what is left behind, and what is joined. -/
theorem checkP_zero (q : List I4) : (checkP q).1 = 0 ↔ (0 < q.length ∧ q.length ≤ 4096 ∧ (∀ i, i < q.length → oneQ q i = 0) ∧ bits .and .u16 (lastC q) 7 = 6) := by
  unfold checkP
  by_cases hL : q.length = 0 ∨ 4096 < q.length
  · rw [if_pos hL]; constructor
    · intro h; simp at h
    · intro h; omega
  · rw [if_neg hL]
    cases hf : (List.range q.length).find? (fun i => oneQ q i != 0) with
    | some i =>
      have h1 := List.find?_some hf
      have h2 := List.mem_of_find?_eq_some hf
      simp at h1 h2
      constructor
      · intro h; exact absurd h h1
      · intro h; exact absurd (h.2.2.1 i h2) h1
    | none =>
      have h1 : ∀ i, i < q.length → oneQ q i = 0 := by
        intro i hi
        have := List.find?_eq_none.1 hf i (by simpa using hi)
        simpa using this
      by_cases hb : bits .and .u16 (lastC q) 7 = 6
      · rw [if_pos hb]; exact ⟨fun _ => ⟨by omega, by omega, h1, hb⟩, fun _ => rfl⟩
      · rw [if_neg hb]; exact ⟨fun h => by simp at h, fun h => absurd h.2.2.2 hb⟩
theorem lastC_drop (q : List I4) (k : Nat) (h : k < q.length) : lastC (q.drop k) = lastC q := by
  unfold lastC
  rw [List.getElem?_drop, List.length_drop, show k + (q.length - k - 1) = q.length - 1 by omega]
theorem oneQ_drop (q : List I4) (k i : Nat) : oneQ (q.drop k) i = oneQ q (k + i) := by
  unfold oneQ
  rw [List.getElem?_drop, List.length_drop]
  cases q[k + i]? with
  | none => rfl
  | some x => simp only; congr 2; omega
theorem check_rest (q : List I4) (k : Nat) (h : k < q.length) (hq : (checkP q).1 = 0) : (checkP (q.drop k)).1 = 0 := by
  rw [checkP_zero] at hq ⊢
  obtain ⟨h0, h1, h2, h3⟩ := hq
  refine ⟨by simp; omega, by simp; omega, fun i hi => ?_, by rw [lastC_drop q k h]; exact h3⟩
  rw [oneQ_drop]
  exact h2 _ (by simp at hi; omega)
theorem oneP_mono (x : I4) (l l' : Int) (hl : l ≤ l') (h : oneP x l = 0) : oneP x l' = 0 := by
  have hb1 : br1 x l = false → br1 x l' = false := by
    unfold br1; intro hx
    split at hx <;> simp_all
    · omega
    · intro h; have := hx h; omega
  simp only [oneP, brk, firstOf] at h ⊢
  have e0 : br0 x l' = br0 x l := rfl
  have e2 : br2 x l' = br2 x l := rfl
  have e3 : br3 x l' = br3 x l := rfl
  have e4 : br4 x l' = br4 x l := rfl
  have e5 : br5 x l' = br5 x l := rfl
  rw [e0, e2, e3, e4, e5]
  by_cases h0 : br0 x l = true
  · rw [if_pos h0] at h; simp at h
  · rw [if_neg h0] at h ⊢
    by_cases h1 : br1 x l = true
    · rw [if_pos h1] at h; simp at h
    · rw [if_neg h1] at h
      rw [if_neg (by rw [hb1 (by simpa using h1)]; simp)]
      exact h
theorem check_joined (a b : List I4) (ha : (checkP a).1 = 0) (hb : (checkP b).1 = 0) : ((checkP (a ++ b)).1 = 0 ↔ a.length + b.length ≤ 4096) := by
  rw [checkP_zero] at ha hb ⊢
  obtain ⟨a0, a1, a2, a3⟩ := ha
  obtain ⟨b0, b1, b2, b3⟩ := hb
  constructor
  · intro h; simpa using h.2.1
  · intro h
    refine ⟨by simp; omega, by simpa using h, fun i hi => ?_, ?_⟩
    · by_cases hia : i < a.length
      · have := a2 i hia
        unfold oneQ at this ⊢
        rw [List.getElem?_append_left hia]
        obtain ⟨x, hx⟩ : ∃ x, a[i]? = some x := ⟨_, List.getElem?_eq_getElem hia⟩
        rw [hx] at this ⊢
        exact oneP_mono x _ _ (by simp; omega) this
      · have := b2 (i - a.length) (by simp at hi; omega)
        unfold oneQ at this ⊢
        rw [List.getElem?_append_right (by omega)]
        obtain ⟨x, hx⟩ : ∃ x, b[i - a.length]? = some x := ⟨_, List.getElem?_eq_getElem (by simp at hi; omega)⟩
        rw [hx] at this ⊢
        rw [show (a ++ b).length - i - 1 = b.length - (i - a.length) - 1 by simp; omega]
        exact this
    · have : lastC (a ++ b) = lastC b := by
        unfold lastC
        rw [List.length_append, List.getElem?_append_right (by omega), show a.length + b.length - 1 - a.length = b.length - 1 by omega]
      rw [this]; exact b3
end Go.Proofs.Ytapmpegblfcknaa
