import Derived.Test.YtpofdjnkpplimaaCbpfRRd
set_option linter.unusedVariables false
set_option linter.unusedSimpArgs false
namespace Go.Proofs.Ytpofdjnkpplimaa
open Go.RowKit
/-! What is written and read, plainly: one is the other's inverse. -/
theorem bytesQ_get {q : List I4} {i : Nat} {x : I4} (hx : q[i]? = some x) (j : Nat) (hj : j < 8) : getN (bytesQ q) (8 * i + j) = getN (bytesI x) j := by
  induction q generalizing i with
  | nil => simp at hx
  | cons y q ih =>
    have e : bytesQ (y :: q) = bytesI y ++ bytesQ q := by simp [bytesQ]
    have hl : (bytesI y).length = 8 := rfl
    unfold getN at *
    rw [e]
    cases i with
    | zero =>
      simp at hx; subst hx
      rw [List.getD_eq_getElem?_getD, List.getElem?_append_left (by omega), ← List.getD_eq_getElem?_getD]
      congr 1; omega
    | succ i =>
      rw [List.getD_eq_getElem?_getD, List.getElem?_append_right (by omega), hl, show 8 * (i + 1) + j - 8 = 8 * i + j by omega, ← List.getD_eq_getElem?_getD]
      exact ih (by simpa using hx)
theorem readI_bytes {q : List I4} {i : Nat} {x : I4} (hx : q[i]? = some x) (hok : x.ok) : readI (bytesQ q) i = x := by
  obtain ⟨a1, a2, a3, a4, a5, a6, a7, a8⟩ := hok
  have g := fun j hj => bytesQ_get hx j hj
  unfold readI
  rw [show 8 * i = 8 * i + 0 by omega, show 8 * i + 0 + 1 = 8 * i + 1 by omega, show 8 * i + 0 + 2 = 8 * i + 2 by omega, show 8 * i + 0 + 3 = 8 * i + 3 by omega, show 8 * i + 0 + 4 = 8 * i + 4 by omega, show 8 * i + 4 + 1 = 8 * i + 5 by omega, show 8 * i + 4 + 2 = 8 * i + 6 by omega, show 8 * i + 4 + 3 = 8 * i + 7 by omega]
  rw [g 0 (by omega), g 1 (by omega), g 2 (by omega), g 3 (by omega), g 4 (by omega), g 5 (by omega), g 6 (by omega), g 7 (by omega)]
  obtain ⟨c, jj, f, k⟩ := x
  simp only [bytesI, getN, List.getD_cons_zero, List.getD_cons_succ] at *
  congr 1 <;> omega
theorem readQ_bytes {q : List I4} (hq : ∀ x ∈ q, x.ok) : readQ (bytesQ q) q.length = q := by
  apply List.ext_getElem?
  intro i
  unfold readQ
  rw [List.getElem?_map]
  by_cases hi : i < q.length
  · obtain ⟨x, hx⟩ : ∃ x, q[i]? = some x := ⟨_, List.getElem?_eq_getElem hi⟩
    rw [List.getElem?_range hi, hx, Option.map_some, readI_bytes hx (hq x (List.mem_of_getElem? hx))]
  · rw [List.getElem?_eq_none (by simpa using hi), List.getElem?_eq_none (by omega)]; rfl
theorem bytesI_read {d : List Int} (hd : ∀ x ∈ d, 0 ≤ x ∧ x < 256) (i : Nat) : bytesI (readI d i) = [getN d (8 * i), getN d (8 * i + 1), getN d (8 * i + 2), getN d (8 * i + 3), getN d (8 * i + 4), getN d (8 * i + 5), getN d (8 * i + 6), getN d (8 * i + 7)] := by
  have g := fun j => getN_u8 hd j
  have g0 := g (8 * i); have g1 := g (8 * i + 1); have g4 := g (8 * i + 4); have g5 := g (8 * i + 5); have g6 := g (8 * i + 6); have g7 := g (8 * i + 7)
  unfold bytesI readI
  rw [show 8 * i + 4 + 1 = 8 * i + 5 by omega, show 8 * i + 4 + 2 = 8 * i + 6 by omega, show 8 * i + 4 + 3 = 8 * i + 7 by omega]
  simp only [List.cons.injEq, and_true, true_and]
  refine ⟨by omega, by omega, by omega, by omega, by omega, by omega⟩
theorem getN_some {d : List Int} {i : Nat} (h : i < d.length) : d[i]? = some (getN d i) := getN_get h
theorem drop_eight {d : List Int} {p : Nat} (h : p + 8 ≤ d.length) : d.take (p + 8) = d.take p ++ [getN d p, getN d (p + 1), getN d (p + 2), getN d (p + 3), getN d (p + 4), getN d (p + 5), getN d (p + 6), getN d (p + 7)] := by
  have s : ∀ n, n < d.length → d.take (n + 1) = d.take n ++ [getN d n] := fun n hn => by rw [List.take_add_one, getN_get hn]; rfl
  rw [show p + 8 = p + 7 + 1 by omega, s (p + 7) (by omega), s (p + 6) (by omega), s (p + 5) (by omega), s (p + 4) (by omega), s (p + 3) (by omega), s (p + 2) (by omega), s (p + 1) (by omega), s p (by omega)]
  simp
theorem bytes_readQ {d : List Int} (hd : ∀ x ∈ d, 0 ≤ x ∧ x < 256) : ∀ m, 8 * m ≤ d.length → bytesQ (readQ d m) = d.take (8 * m) := by
  intro m
  induction m with
  | zero => intro _; simp [readQ, bytesQ]
  | succ m ih =>
    intro h
    rw [readQ_succ, show 8 * (m + 1) = 8 * m + 8 by omega, drop_eight (by omega), ← ih (by omega), ← bytesI_read hd]
    simp [bytesQ]
theorem bytes_read_all {d : List Int} (hd : ∀ x ∈ d, 0 ≤ x ∧ x < 256) (h : d.length % 8 = 0) : bytesQ (readQ d (d.length / 8)) = d := by
  rw [bytes_readQ hd _ (by omega), List.take_of_length_le (by omega)]
theorem readI_ok {d : List Int} (hd : ∀ x ∈ d, 0 ≤ x ∧ x < 256) (i : Nat) : (readI d i).ok := by
  have g := fun j => getN_u8 hd j
  have g0 := g (8 * i); have g1 := g (8 * i + 1); have g2 := g (8 * i + 2); have g3 := g (8 * i + 3); have g4 := g (8 * i + 4); have g5 := g (8 * i + 4 + 1); have g6 := g (8 * i + 4 + 2); have g7 := g (8 * i + 4 + 3)
  unfold I4.ok readI
  refine ⟨by simp only; omega, by simp only; omega, by simp only; omega, by simp only; omega, by simp only; omega, by simp only; omega, by simp only; omega, by simp only; omega⟩
theorem readQ_ok {d : List Int} (hd : ∀ x ∈ d, 0 ≤ x ∧ x < 256) (m : Nat) : ∀ x ∈ readQ d m, x.ok := by
  intro x hx
  simp only [readQ, List.mem_map] at hx
  obtain ⟨i, _, rfl⟩ := hx
  exact readI_ok hd i
theorem bytesQ_u8 {q : List I4} (hq : ∀ x ∈ q, x.ok) : ∀ x ∈ bytesQ q, 0 ≤ x ∧ x < 256 := by
  intro y hy
  simp only [bytesQ, List.mem_flatMap] at hy
  obtain ⟨x, hx, hy⟩ := hy
  obtain ⟨a1, a2, a3, a4, a5, a6, a7, a8⟩ := hq x hx
  simp only [bytesI, List.mem_cons, List.mem_nil_iff, or_false] at hy
  rcases hy with rfl | rfl | rfl | rfl | rfl | rfl | rfl | rfl <;> omega
end Go.Proofs.Ytpofdjnkpplimaa
