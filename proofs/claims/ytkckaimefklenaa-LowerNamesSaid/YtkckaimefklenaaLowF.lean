import Derived.Test.YtkckaimefklenaaLowP
set_option linter.unusedVariables false
set_option linter.unusedSimpArgs false
namespace Go.Proofs.Ytkckaimefklenaa
open Go.RowKit
/-! Plain: one round over the ways, node by node. -/
def farMid (q : List N8) (far : List (Bool × Bool)) (k : Nat) : List (Bool × Bool) := (List.range q.length).map fun i => if i < k then farAt (farNext q far) i else farAt far i
theorem farMid_len (q : List N8) (far : List (Bool × Bool)) (k : Nat) : (farMid q far k).length = q.length := by simp [farMid]
theorem farMid_at {q : List N8} {far : List (Bool × Bool)} {k i : Nat} (hi : i < q.length) : farAt (farMid q far k) i = if i < k then farAt (farNext q far) i else farAt far i := by
  conv => lhs; unfold farAt farMid
  rw [List.getD_eq_getElem?_getD, List.getElem?_map, List.getElem?_range hi]; rfl
theorem far_ext {a b : List (Bool × Bool)} {n : Nat} (ha : a.length = n) (hb : b.length = n) (h : ∀ i, i < n → farAt a i = farAt b i) : a = b := by
  refine List.ext_getElem? fun i => ?_
  rcases Nat.lt_or_ge i n with hi | hi
  · have := h i hi
    unfold farAt at this
    rw [List.getD_eq_getElem?_getD, List.getD_eq_getElem?_getD, List.getElem?_eq_getElem (by omega), List.getElem?_eq_getElem (by omega)] at this
    rw [List.getElem?_eq_getElem (by omega), List.getElem?_eq_getElem (by omega)]
    exact congrArg some this
  · rw [List.getElem?_eq_none (by omega), List.getElem?_eq_none (by omega)]
theorem farMid_zero {q : List N8} {far : List (Bool × Bool)} (hf : far.length = q.length) : farMid q far 0 = far := far_ext (farMid_len _ _ _) hf fun i hi => by rw [farMid_at hi, if_neg (by omega)]
theorem farMid_end (q : List N8) (far : List (Bool × Bool)) : farMid q far q.length = farNext q far := far_ext (farMid_len _ _ _) (farNext_len _ _) fun i hi => by rw [farMid_at hi, if_pos hi]
theorem farSet_at {far : List (Bool × Bool)} {k i : Nat} {v : Bool × Bool} (hk : k < far.length) : farAt (far.set k v) i = if i = k then v else farAt far i := by
  unfold farAt
  rw [List.getD_eq_getElem?_getD, List.getElem?_set]
  by_cases h : k = i
  · subst h; simp [hk]
  · rw [if_neg h, if_neg (fun e => h e.symm), List.getD_eq_getElem?_getD]
theorem farMid_succ {q : List N8} {far : List (Bool × Bool)} {k : Nat} {x : N8} (hx : q[k]? = some x) : farMid q far (k + 1) = (farMid q far k).set k (farOne q far k x) := by
  have hk := (List.getElem?_eq_some_iff.1 hx).1
  refine far_ext (farMid_len _ _ _) (by rw [List.length_set]; exact farMid_len _ _ _) fun i hi => ?_
  rw [farMid_at hi, farSet_at (by rw [farMid_len]; exact hk), farMid_at hi]
  by_cases h : i = k
  · subst h
    rw [if_pos (by omega), if_pos rfl, farNext_get hx]
  · rw [if_neg h]
    by_cases h2 : i < k
    · rw [if_pos (by omega), if_pos h2]
    · rw [if_neg (by omega), if_neg h2]
theorem farMid_here {q : List N8} {far : List (Bool × Bool)} {k : Nat} (hk : k < q.length) : farAt (farMid q far k) k = farAt far k := by rw [farMid_at hk, if_neg (by omega)]
theorem farMid_same {q : List N8} {far : List (Bool × Bool)} {k : Nat} {x : N8} (hx : q[k]? = some x) (h : farOne q far k x = farAt far k) : farMid q far (k + 1) = farMid q far k := by
  have hk := (List.getElem?_eq_some_iff.1 hx).1
  rw [farMid_succ hx, h]
  refine far_ext (by rw [List.length_set]; exact farMid_len _ _ _) (farMid_len _ _ _) fun i hi => ?_
  rw [farSet_at (by rw [farMid_len]; exact hk)]
  by_cases e : i = k
  · subst e; rw [if_pos rfl, farMid_here hk]
  · rw [if_neg e]
theorem farMid_diff {q : List N8} {far : List (Bool × Bool)} {k : Nat} {x : N8} (hx : q[k]? = some x) (h : farOne q far k x ≠ farAt far k) : farMid q far (k + 1) ≠ far := fun e => by
  have hk := (List.getElem?_eq_some_iff.1 hx).1
  apply h
  have h1 := farMid_at (far := far) (k := k + 1) hk
  rw [e, if_pos (by omega), farNext_get hx] at h1
  exact h1.symm
/-! How many ways are short. -/
def shW (w : Bool × Bool) : Nat := b2n (!w.1) + b2n (!w.2)
def shortN (n : Nat) (far : List (Bool × Bool)) : Nat := ((List.range n).map fun i => shW (farAt far i)).sum
theorem sumLe {f g : Nat → Nat} : ∀ (l : List Nat), (∀ i ∈ l, f i ≤ g i) → (l.map f).sum ≤ (l.map g).sum ∧ ((∃ i ∈ l, f i < g i) → (l.map f).sum < (l.map g).sum) := by
  intro l
  induction l with
  | nil => intro _; exact ⟨Nat.le_refl _, fun ⟨i, h, _⟩ => by simp at h⟩
  | cons x l ih =>
    intro h
    obtain ⟨h1, h2⟩ := ih (fun i hi => h i (by simp [hi]))
    have hx := h x (by simp)
    simp only [List.map_cons, List.sum_cons]
    refine ⟨by omega, ?_⟩
    rintro ⟨i, hi, hlt⟩
    rcases List.mem_cons.1 hi with e | e
    · rw [e] at hlt; omega
    · have := h2 ⟨i, e, hlt⟩; omega
theorem farOne_sh (q : List N8) (far : List (Bool × Bool)) (i : Nat) (x : N8) : shW (farOne q far i x) ≤ shW (farAt far i) ∧ (farOne q far i x ≠ farAt far i → shW (farOne q far i x) < shW (farAt far i)) := by
  unfold farOne
  split
  · exact ⟨Nat.le_refl _, fun h => absurd rfl h⟩
  · generalize longN q far i x x.t = a
    generalize longN q far i x x.f = b
    rcases farAt far i with ⟨u, v⟩
    revert a b u v
    decide
theorem short_next {q : List N8} {far : List (Bool × Bool)} (hf : far.length = q.length) (h : farNext q far ≠ far) : shortN q.length (farNext q far) < shortN q.length far := by
  unfold shortN
  refine (sumLe (List.range q.length) (fun i hi => ?_)).2 ?_
  · have hi : i < q.length := by simpa using hi
    rw [farNext_get (List.getElem?_eq_getElem hi)]
    exact (farOne_sh q far i _).1
  · refine Classical.byContradiction fun hne => h (far_ext (farNext_len _ _) hf fun i hi => ?_)
    rw [farNext_get (List.getElem?_eq_getElem hi)]
    refine Classical.byContradiction fun hd => hne ⟨i, by simpa using hi, ?_⟩
    rw [farNext_get (List.getElem?_eq_getElem hi)]
    exact (farOne_sh q far i _).2 hd
end Go.Proofs.Ytkckaimefklenaa
