import Derived.Test.YtapmpegblfcknaaFlowBlkD
import Derived.Test.YtapmpegblfcknaaFlowDomP
set_option linter.unusedVariables false
set_option linter.unusedSimpArgs false
namespace Go.Proofs.Ytapmpegblfcknaa
open Go.RowKit
/-! Plain: the blocks of an accepted program as a graph. -/
theorem getD_modify_eq (l : List Nat) (i j : Nat) (hj : j < l.length) : (l.modify i (· + 1)).getD j 0 = l.getD j 0 + if i = j then 1 else 0 := by
  rw [List.getD_eq_getElem?_getD, List.getD_eq_getElem?_getD, List.getElem?_modify, List.getElem?_eq_getElem hj]
  by_cases h : i = j
  · subst h; simp
  · simp [h]
theorem bumpN_get : ∀ (ts : List Nat) (n : List Nat) (j : Nat), j < n.length → (bumpN n ts).getD j 0 = n.getD j 0 + ts.count j := by
  intro ts
  induction ts with
  | nil => intro n j _; simp [bumpN]
  | cons t ts ih =>
    intro n j hj
    show (bumpN (n.modify t (· + 1)) ts).getD j 0 = _
    rw [ih _ j (by simpa using hj), getD_modify_eq _ _ _ hj, List.count_cons]
    by_cases h : t = j
    · subst h; simp; omega
    · simp [h]
/-- How often i leads to j, if it can be come to. -/
def ledBy (q : List I4) (j i : Nat) : Nat := if (intoP q).getD i 0 = 0 then 0 else (nextQ q i).count j
theorem intoTo_keep {q : List I4} (hok : ∀ x ∈ q, x.ok) {i : Nat} (hi : i < q.length) : ∀ k, i ≤ k → (intoTo q k).getD i 0 = (intoTo q i).getD i 0 := by
  intro k
  induction k with
  | zero => intro h; obtain rfl : i = 0 := by omega
            rfl
  | succ k ih =>
    intro h
    rcases Nat.eq_or_lt_of_le h with rfl | h
    · rfl
    · rw [← ih (by omega), intoTo_succ]
      unfold intoStep
      split
      · rfl
      · rw [bumpN_get _ _ _ (by rw [intoTo_len]; exact hi)]
        have : (nextQ q k).count i = 0 := List.count_eq_zero.2 fun hm => by have := (nextQ_mem hok hm).1; omega
        omega
theorem intoTo_at {q : List I4} (hok : ∀ x ∈ q, x.ok) {i k : Nat} (hi : i < q.length) (hk : i ≤ k) (hkl : k ≤ q.length) : (intoTo q k).getD i 0 = (intoP q).getD i 0 := by
  rw [intoTo_keep hok hi k hk, ← intoTo_keep hok hi q.length (by omega)]; rfl
theorem intoTo_sum {q : List I4} (hok : ∀ x ∈ q, x.ok) {j : Nat} (hj : j < q.length) : ∀ k, k ≤ q.length → (intoTo q k).getD j 0 = (if j = 0 then 1 else 0) + ((List.range k).map (ledBy q j)).sum := by
  intro k
  induction k with
  | zero =>
    intro _
    show ((List.replicate q.length 0).modify 0 (· + 1)).getD j 0 = _
    rw [getD_modify_eq _ _ _ (by simpa using hj), List.getD_eq_getElem?_getD, List.getElem?_replicate, if_pos hj]
    by_cases h : j = 0
    · subst h; simp
    · simp [h, Ne.symm h]
  | succ k ih =>
    intro hk
    rw [intoTo_succ, List.range_succ, List.map_append, List.sum_append]
    have hkk := intoTo_at hok (i := k) (k := k) (by omega) (Nat.le_refl _) (by omega)
    unfold intoStep
    by_cases h : (intoTo q k).getD k 0 = 0
    · have e : ledBy q j k = 0 := by unfold ledBy; rw [if_pos (by rw [← hkk]; exact h)]
      rw [if_pos h, ih (by omega)]
      simp [e]
    · have e : ledBy q j k = (nextQ q k).count j := by unfold ledBy; rw [if_neg (by rw [← hkk]; exact h)]
      rw [if_neg h, bumpN_get _ _ _ (by rw [intoTo_len]; exact hj), ih (by omega)]
      simp only [List.map_cons, List.map_nil, List.sum_cons, List.sum_nil, e]
      omega
theorem into_sum {q : List I4} (hok : ∀ x ∈ q, x.ok) {j : Nat} (hj : j < q.length) : (intoP q).getD j 0 = (if j = 0 then 1 else 0) + ((List.range q.length).map (ledBy q j)).sum := intoTo_sum hok hj q.length (Nat.le_refl _)
theorem sum_pos {l : List Nat} {f : Nat → Nat} (h : 0 < (l.map f).sum) : ∃ i ∈ l, 0 < f i := by
  induction l with
  | nil => simp at h
  | cons x l ih =>
    simp only [List.map_cons, List.sum_cons] at h
    rcases Nat.eq_zero_or_pos (f x) with h0 | h0
    · obtain ⟨i, hi, hp⟩ := ih (by omega)
      exact ⟨i, by simp [hi], hp⟩
    · exact ⟨x, by simp, h0⟩
theorem le_sum {f : Nat → Nat} : ∀ (l : List Nat) {i : Nat}, i ∈ l → f i ≤ (l.map f).sum := by
  intro l
  induction l with
  | nil => intro i h; simp at h
  | cons x l ih =>
    intro i h
    simp only [List.map_cons, List.sum_cons]
    rcases List.mem_cons.1 h with rfl | h
    · omega
    · have := ih h; omega
theorem le_sum2 {f : Nat → Nat} : ∀ (l : List Nat) {i j : Nat}, l.Nodup → i ∈ l → j ∈ l → i ≠ j → f i + f j ≤ (l.map f).sum := by
  intro l
  induction l with
  | nil => intro i j _ h; simp at h
  | cons x l ih =>
    intro i j hn h1 h2 hij
    simp only [List.map_cons, List.sum_cons]
    obtain ⟨hx, hn⟩ := List.nodup_cons.1 hn
    rcases List.mem_cons.1 h1 with g1 | g1
    · rcases List.mem_cons.1 h2 with g2 | g2
      · exact absurd (g1.trans g2.symm) hij
      · have := le_sum l (f := f) g2; rw [← g1]; omega
    · rcases List.mem_cons.1 h2 with g2 | g2
      · have := le_sum l (f := f) g1; rw [← g2]; omega
      · have := ih hn g1 g2 hij; omega
/-- An instruction can be come to. -/
def rch (q : List I4) (i : Nat) : Prop := (intoP q).getD i 0 ≠ 0
instance (q : List I4) (i : Nat) : Decidable (rch q i) := by unfold rch; infer_instance
theorem rch_lt {q : List I4} {i : Nat} (h : rch q i) : i < q.length := by
  unfold rch at h
  rcases Nat.lt_or_ge i q.length with h1 | h1
  · exact h1
  · rw [List.getD_eq_getElem?_getD, List.getElem?_eq_none (by rw [intoP_len]; exact h1)] at h
    exact absurd rfl h
section
variable {q : List I4} (hok : ∀ x ∈ q, x.ok)
include hok
theorem rch_zero (hl : 0 < q.length) : rch q 0 := by
  unfold rch; rw [into_sum hok hl, if_pos rfl]; omega
theorem rch_next {i t : Nat} (h : rch q i) (ht : t ∈ nextQ q i) : rch q t := by
  have hm := nextQ_mem hok ht
  unfold rch
  rw [into_sum hok hm.2]
  have h1 := le_sum (f := ledBy q t) (List.range q.length) (i := i) (by simpa using rch_lt h)
  have h2 : 0 < ledBy q t i := by
    unfold ledBy; rw [if_neg h]; exact List.count_pos_iff.2 ht
  omega
theorem rch_prev {t : Nat} (h : rch q t) (h0 : 0 < t) : ∃ i, i < t ∧ rch q i ∧ t ∈ nextQ q i := by
  have hl := rch_lt h
  unfold rch at h
  rw [into_sum hok hl, if_neg (by omega)] at h
  obtain ⟨i, _, hi⟩ := sum_pos (Nat.pos_of_ne_zero (by omega : ((List.range q.length).map (ledBy q t)).sum ≠ 0))
  unfold ledBy at hi
  split at hi
  · omega
  · rename_i h1
    have hm := List.count_pos_iff.1 hi
    exact ⟨i, (nextQ_mem hok hm).1, h1, hm⟩
theorem rch_two {i j t : Nat} (hi : rch q i) (hj : rch q j) (ht : t ∈ nextQ q i) (ht2 : t ∈ nextQ q j) (h1 : (intoP q).getD t 0 = 1) : i = j := by
  refine Classical.byContradiction fun hij => ?_
  have hm := nextQ_mem hok ht
  rw [into_sum hok hm.2, if_neg (by omega)] at h1
  have h2 := le_sum2 (f := ledBy q t) (List.range q.length) List.nodup_range (i := i) (j := j) (by simpa using rch_lt hi) (by simpa using rch_lt hj) hij
  have h3 : 0 < ledBy q t i := by unfold ledBy; rw [if_neg hi]; exact List.count_pos_iff.2 ht
  have h4 : 0 < ledBy q t j := by unfold ledBy; rw [if_neg hj]; exact List.count_pos_iff.2 ht2
  omega
end
/-! Runs. -/
theorem runEnd_noend (q : List I4) (n : List Nat) : ∀ (f at_ k : Nat), at_ ≤ k → k + 1 < runEnd q n f at_ → endQ q k = false := by
  intro f
  induction f with
  | zero => intro at_ k h1 h2; unfold runEnd at h2; omega
  | succ f ih =>
    intro at_ k h1 h2
    unfold runEnd at h2
    split at h2
    · omega
    · rename_i h
      rw [Bool.or_eq_true, not_or] at h
      rcases Nat.eq_or_lt_of_le h1 with h3 | h3
      · subst h3; simpa using h.1
      · exact ih _ _ h3 h2
theorem runEnd_stop (q : List I4) (n : List Nat) (hl : endQ q (q.length - 1) = true) : ∀ (f at_ : Nat), at_ < q.length → q.length ≤ f + at_ → endQ q (runEnd q n f at_ - 1) = true ∨ n.getD (runEnd q n f at_) 0 ≠ 1 := by
  intro f
  induction f with
  | zero => intro at_ h1 h2; omega
  | succ f ih =>
    intro at_ h1 h2
    unfold runEnd
    split
    · rename_i h
      rw [Bool.or_eq_true] at h
      rcases h with h | h
      · exact .inl (by simpa using h)
      · exact .inr (by simpa using h)
    · rename_i h
      rcases Nat.lt_or_ge (at_ + 1) q.length with h3 | h3
      · exact ih _ h3 (by omega)
      · exfalso
        have : at_ = q.length - 1 := by omega
        rw [← this] at hl
        simp [hl] at h
theorem end_codes : ∀ c ∈ aluL ++ jumpL ++ restL, (bits .and .u16 c 7 == 5 || bits .and .u16 c 7 == 6) = (memC c jumpL || c == 5 || c == 6 || c == 22) := by decide +kernel
section
variable {q : List I4} (h0 : (checkP q).1 = 0)
include h0
theorem endQ_eq {i : Nat} {x : I4} (hx : q[i]? = some x) : endQ q i = (memC x.c jumpL || x.c == 5 || x.c == 6 || x.c == 22) := by
  unfold endQ; rw [hx]
  exact end_codes _ (sealsL_cases (good_at h0 hx).seals)
theorem next_plain {i : Nat} (hi : i < q.length) (he : endQ q i = false) : i + 1 < q.length ∧ nextQ q i = [i + 1] := by
  obtain ⟨x, hx⟩ : ∃ x, q[i]? = some x := ⟨_, List.getElem?_eq_getElem hi⟩
  have hl : i + 1 < q.length := by
    rcases Nat.lt_or_ge (i + 1) q.length with h | h
    · exact h
    · have := end_last h0
      rw [show q.length - 1 = i by omega, he] at this; cases this
  refine ⟨hl, ?_⟩
  rw [endQ_eq h0 hx] at he
  simp only [Bool.or_eq_false_iff, beq_eq_false_iff_ne] at he
  obtain ⟨⟨⟨h1, h2⟩, h3⟩, h4⟩ := he
  unfold nextQ
  rw [hx]
  show nextI x i (q.length - i - 1) = _
  unfold nextI
  rw [if_neg (by omega), if_neg h2, if_neg (by rw [h1]; decide)]
  unfold onL
  rw [if_pos (by omega)]; rfl
/-- An instruction goes on to the next one, and nobody else comes there. -/
def goesP (q : List I4) (i : Nat) : Prop := 0 < i ∧ rch q (i - 1) ∧ endQ q (i - 1) = false ∧ (intoP q).getD i 0 = 1
end
theorem parts_rch {q : List I4} (h0 : (checkP q).1 = 0) {k : Nat} (hk : k < q.length) : inParts (blocksQ q) k = if rch q k then 1 else 0 := by
  have h := parts_in q (intoP q) (end_last h0) q.length 0 (by omega) k hk
  unfold blocksQ
  rw [h]
  by_cases h1 : rch q k
  · rw [if_pos ⟨Nat.zero_le _, h1⟩, if_pos h1]
  · rw [if_neg (fun x => h1 x.2), if_neg h1]
theorem mem_rch {q : List I4} (h0 : (checkP q).1 = 0) {p : Nat × Nat} (hp : p ∈ blocksQ q) {k : Nat} (h1 : p.1 ≤ k) (h2 : k < p.2) : rch q k := by
  have hb := (parts_rise q (intoP q) (end_last h0) q.length 0).1 p hp
  have hk : k < q.length := by omega
  have := parts_rch h0 hk
  by_cases hr : rch q k
  · exact hr
  · rw [if_neg hr] at this
    unfold inParts at this
    have h3 := List.countP_eq_zero.1 this p hp
    simp [h1, h2] at h3
theorem part_of {q : List I4} (h0 : (checkP q).1 = 0) {k : Nat} (hr : rch q k) : ∃ (j : Nat) (p : Nat × Nat), (blocksQ q)[j]? = some p ∧ p.1 ≤ k ∧ k < p.2 := by
  have := parts_rch h0 (rch_lt hr)
  rw [if_pos hr] at this
  have h2 : 0 < (blocksQ q).countP (fun p => decide (p.1 ≤ k) && decide (k < p.2)) := by unfold inParts at this; omega
  obtain ⟨p, hp, h1⟩ := List.countP_pos_iff.1 h2
  obtain ⟨j, hj⟩ := List.mem_iff_getElem?.1 hp
  simp at h1
  exact ⟨j, p, hj, h1.1, h1.2⟩
/-- How each block came to be. -/
theorem parts_made (q : List I4) (n : List Nat) : ∀ (f at_ : Nat) (p : Nat × Nat), p ∈ partsQ q n f at_ → p.1 < q.length ∧ p.2 = runEnd q n q.length p.1 := by
  intro f
  induction f with
  | zero => intro at_ p h; simp [partsQ] at h
  | succ f ih =>
    intro at_ p h
    unfold partsQ at h
    split at h
    · rename_i h1
      split at h
      · exact ih _ _ h
      · rcases List.mem_cons.1 h with rfl | h
        · exact ⟨h1, rfl⟩
        · exact ih _ _ h
    · simp at h
section
variable {q : List I4} (h0 : (checkP q).1 = 0)
include h0
theorem blk_bounds {j : Nat} {p : Nat × Nat} (hp : (blocksQ q)[j]? = some p) : p.1 < p.2 ∧ p.2 ≤ q.length := by
  have := (parts_rise q (intoP q) (end_last h0) q.length 0).1 p (List.mem_of_getElem? hp); omega
theorem blk_lt {i j : Nat} {p p' : Nat × Nat} (hp : (blocksQ q)[i]? = some p) (hp' : (blocksQ q)[j]? = some p') (hij : i < j) : p.2 ≤ p'.1 := by
  have hp1 : (partsQ q (intoP q) q.length 0)[i]? = some p := hp
  have hp2 : (partsQ q (intoP q) q.length 0)[j]? = some p' := hp'
  have h := List.pairwise_iff_getElem.1 (parts_rise q (intoP q) (end_last h0) q.length 0).2 i j (List.getElem?_eq_some_iff.1 hp1).1 (List.getElem?_eq_some_iff.1 hp2).1 hij
  have e1 := (List.getElem?_eq_some_iff.1 hp1).2
  have e2 := (List.getElem?_eq_some_iff.1 hp2).2
  rw [e1, e2] at h; exact h
theorem blk_same {i j k : Nat} {p p' : Nat × Nat} (hp : (blocksQ q)[i]? = some p) (hp' : (blocksQ q)[j]? = some p') (h1 : p.1 ≤ k) (h2 : k < p.2) (h3 : p'.1 ≤ k) (h4 : k < p'.2) : i = j := by
  rcases Nat.lt_trichotomy i j with h | h | h
  · have := blk_lt h0 hp hp' h; omega
  · exact h
  · have := blk_lt h0 hp' hp h; omega
theorem blk_mid {j : Nat} {p : Nat × Nat} (hp : (blocksQ q)[j]? = some p) {k : Nat} (h1 : p.1 ≤ k) (h2 : k + 1 < p.2) : endQ q k = false ∧ nextQ q k = [k + 1] ∧ (intoP q).getD (k + 1) 0 = 1 := by
  obtain ⟨m1, m2⟩ := parts_made q (intoP q) q.length 0 p (List.mem_of_getElem? hp)
  rw [m2] at h2
  have he := runEnd_noend q (intoP q) q.length p.1 k h1 h2
  have hb := blk_bounds h0 hp
  refine ⟨he, (next_plain h0 (by omega) he).2, runEnd_one q (intoP q) q.length p.1 (k + 1) (by omega) h2⟩
theorem blk_start (hok : ∀ x ∈ q, x.ok) {j : Nat} {p : Nat × Nat} (hp : (blocksQ q)[j]? = some p) {t : Nat} (ht : t ∈ nextQ q (p.2 - 1)) : ∃ (i : Nat) (p' : Nat × Nat), (blocksQ q)[i]? = some p' ∧ p'.1 = t ∧ j < i := by
  have hb := blk_bounds h0 hp
  have hr : rch q (p.2 - 1) := mem_rch h0 (List.mem_of_getElem? hp) (by omega) (by omega)
  have hrt := rch_next hok hr ht
  have hlt := (nextQ_mem hok ht).1
  obtain ⟨i, p', hp', g1, g2⟩ := part_of h0 hrt
  have hij : j < i := by
    rcases Nat.lt_trichotomy i j with h | h | h
    · have := blk_lt h0 hp' hp h; omega
    · subst h; rw [hp] at hp'; cases hp'; omega
    · exact h
  refine ⟨i, p', hp', ?_, hij⟩
  rcases Nat.eq_or_lt_of_le g1 with h | h
  · exact h
  · exfalso
    have hlo := blk_lt h0 hp hp' hij
    obtain ⟨m1, m2, m3⟩ := blk_mid h0 hp' (k := t - 1) (by omega) (by omega)
    rw [show t - 1 + 1 = t by omega] at m2 m3
    have hr2 : rch q (t - 1) := mem_rch h0 (List.mem_of_getElem? hp') (by omega) (by omega)
    have := rch_two hok hr hr2 ht (by rw [m2]; simp) m3
    omega
theorem blk_led (hok : ∀ x ∈ q, x.ok) {t : Nat} {p : Nat × Nat} (hp : (blocksQ q)[t]? = some p) (h : 0 < t) : ∃ (j : Nat) (p' : Nat × Nat), j < t ∧ (blocksQ q)[j]? = some p' ∧ p.1 ∈ nextQ q (p'.2 - 1) := by
  have hb := blk_bounds h0 hp
  have hr : rch q p.1 := mem_rch h0 (List.mem_of_getElem? hp) (Nat.le_refl _) hb.1
  have hpos : 0 < p.1 := by
    obtain ⟨pz, hpz⟩ : ∃ pz, (blocksQ q)[0]? = some pz := ⟨_, List.getElem?_eq_getElem (by have := (List.getElem?_eq_some_iff.1 hp).1; omega)⟩
    have := blk_lt h0 hpz hp h
    have := blk_bounds h0 hpz
    omega
  obtain ⟨i, i1, i2, i3⟩ := rch_prev hok hr hpos
  obtain ⟨j, p', hp', g1, g2⟩ := part_of h0 i2
  have hb' := blk_bounds h0 hp'
  have hjt : j < t := by
    rcases Nat.lt_trichotomy j t with x | x | x
    · exact x
    · subst x; rw [hp] at hp'; cases hp'; omega
    · have := blk_lt h0 hp hp' x; omega
  refine ⟨j, p', hjt, hp', ?_⟩
  rcases Nat.eq_or_lt_of_le (show i + 1 ≤ p'.2 from g2) with x | x
  · rw [← x]; exact i3
  · exfalso
    obtain ⟨-, m2, -⟩ := blk_mid h0 hp' (k := i) g1 x
    rw [m2] at i3
    simp at i3
    have := blk_lt h0 hp' hp hjt
    omega
end
theorem blocks_pos {q : List I4} (h0 : (checkP q).1 = 0) (hok : ∀ x ∈ q, x.ok) : 0 < (blocksQ q).length := by
  obtain ⟨a1, -, -, -⟩ := acc_facts h0
  obtain ⟨j, p, hp, -⟩ := part_of h0 (rch_zero hok a1)
  have := (List.getElem?_eq_some_iff.1 hp).1
  omega
theorem blk_first {q : List I4} (h0 : (checkP q).1 = 0) (hok : ∀ x ∈ q, x.ok) : ∃ p, (blocksQ q)[0]? = some p ∧ p.1 = 0 := by
  obtain ⟨a1, -, -, -⟩ := acc_facts h0
  obtain ⟨j, p, hp, h1, h2⟩ := part_of h0 (rch_zero hok a1)
  rcases Nat.eq_zero_or_pos j with rfl | h
  · exact ⟨p, hp, by omega⟩
  · obtain ⟨pz, hpz⟩ : ∃ pz, (blocksQ q)[0]? = some pz := ⟨_, List.getElem?_eq_getElem (by have := (List.getElem?_eq_some_iff.1 hp).1; omega)⟩
    have := blk_lt h0 hpz hp h
    have := blk_bounds h0 hpz
    omega
/-! Numbers of blocks. -/
def numQ (q : List I4) : List Nat := (List.range q.length).map fun t => (blocksQ q).findIdx (fun p => decide (p.1 ≤ t) && decide (t < p.2))
theorem numQ_ok {q : List I4} (h0 : (checkP q).1 = 0) : NumOk (blocksQ q) (numQ q) := by
  intro i p j hp h1 h2
  have hb := blk_bounds h0 hp
  have hl := (List.getElem?_eq_some_iff.1 hp)
  unfold numQ
  rw [List.getD_eq_getElem?_getD, List.getElem?_map, List.getElem?_range (by omega)]
  show (blocksQ q).findIdx _ = i
  have hi : i < (blocksQ q).length := hl.1
  refine (List.findIdx_eq hi).2 ⟨by rw [hl.2]; simp [h1, h2], fun j' hj' => ?_⟩
  have hj2 : j' < (blocksQ q).length := by omega
  have := blk_lt h0 (List.getElem?_eq_getElem hj2) hp hj'
  simp; omega
def nxQ (q : List I4) (j : Nat) : List Nat := nextsQ q (blocksQ q) (numQ q) j
theorem nexts_same {q : List I4} (h0 : (checkP q).1 = 0) (hok : ∀ x ∈ q, x.ok) {nu : List Nat} (hn : NumOk (blocksQ q) nu) {j : Nat} (hj : j < (blocksQ q).length) : nextsQ q (blocksQ q) nu j = nxQ q j := by
  unfold nxQ nextsQ
  obtain ⟨p, hp⟩ : ∃ p, (blocksQ q)[j]? = some p := ⟨_, List.getElem?_eq_getElem hj⟩
  refine List.map_congr_left fun t ht => ?_
  rw [List.getD_eq_getElem?_getD, hp] at ht
  obtain ⟨i, p', hp', h1, -⟩ := blk_start h0 hok hp ht
  have hb := blk_bounds h0 hp'
  rw [hn i p' t hp' (by omega) (by omega), numQ_ok h0 i p' t hp' (by omega) (by omega)]
theorem nx_mem {q : List I4} (h0 : (checkP q).1 = 0) (hok : ∀ x ∈ q, x.ok) {j t : Nat} {p : Nat × Nat} (hp : (blocksQ q)[j]? = some p) : t ∈ nxQ q j ↔ ∃ p', (blocksQ q)[t]? = some p' ∧ p'.1 ∈ nextQ q (p.2 - 1) := by
  unfold nxQ nextsQ
  rw [List.getD_eq_getElem?_getD, hp]
  show t ∈ (nextQ q (p.2 - 1)).map _ ↔ _
  rw [List.mem_map]
  constructor
  · rintro ⟨s, hs, rfl⟩
    obtain ⟨i, p', hp', h1, -⟩ := blk_start h0 hok hp hs
    have hb := blk_bounds h0 hp'
    rw [numQ_ok h0 i p' s hp' (by omega) (by omega)]
    exact ⟨p', hp', by rw [h1]; exact hs⟩
  · rintro ⟨p', hp', hs⟩
    have hb := blk_bounds h0 hp'
    exact ⟨p'.1, hs, numQ_ok h0 t p' p'.1 hp' (Nat.le_refl _) hb.1⟩
theorem nx_fwd {q : List I4} (h0 : (checkP q).1 = 0) (hok : ∀ x ∈ q, x.ok) : Fwd (blocksQ q).length (nxQ q) := by
  refine ⟨blocks_pos h0 hok, fun j t hj ht => ?_, fun t h1 h2 => ?_⟩
  · obtain ⟨p, hp⟩ : ∃ p, (blocksQ q)[j]? = some p := ⟨_, List.getElem?_eq_getElem hj⟩
    obtain ⟨p', hp', hs⟩ := (nx_mem h0 hok hp).1 ht
    obtain ⟨i, p2, hp2, h3, h4⟩ := blk_start h0 hok hp hs
    have hb := blk_bounds h0 hp'
    have hb2 := blk_bounds h0 hp2
    have : i = t := blk_same h0 hp2 hp' (k := p'.1) (by omega) (by omega) (Nat.le_refl _) hb.1
    subst this
    exact ⟨h4, (List.getElem?_eq_some_iff.1 hp').1⟩
  · obtain ⟨p, hp⟩ : ∃ p, (blocksQ q)[t]? = some p := ⟨_, List.getElem?_eq_getElem h2⟩
    obtain ⟨j, p', hj, hp', hs⟩ := blk_led h0 hok hp h1
    exact ⟨j, hj, (nx_mem h0 hok hp').2 ⟨p, hp, hs⟩⟩
/-- The last block above each one. -/
def aboveP (q : List I4) : List Int := abTo (blocksQ q).length (nxQ q) (blocksQ q).length
/-! The blocks, as the reference finds them. -/
structure RInv (q : List I4) (k : Nat) (done : List (Nat × Nat)) (nu : List Nat) : Prop where
  split : (∃ f, q.length ≤ f + k ∧ done ++ partsQ q (intoP q) f k = blocksQ q ∧ ¬ goesP q k) ∨ (∃ pre s f, done = pre ++ [(s, k)] ∧ s < k ∧ k < runEnd q (intoP q) q.length s ∧ s < q.length ∧ rch q s ∧ q.length ≤ f + runEnd q (intoP q) q.length s ∧ pre ++ (s, runEnd q (intoP q) q.length s) :: partsQ q (intoP q) f (runEnd q (intoP q) q.length s) = blocksQ q)
  le : ∀ p ∈ done, p.2 ≤ k
  num : NumOk done nu
  len : nu.length = q.length
theorem num_snoc {done : List (Nat × Nat)} {nu : List Nat} {k : Nat} (h : NumOk done nu) (hle : ∀ p ∈ done, p.2 ≤ k) (hk : k < nu.length) : NumOk (done ++ [(k, k + 1)]) (nu.set k done.length) := by
  intro i p j hp h1 h2
  rcases Nat.lt_or_ge i done.length with hl | hl
  · rw [List.getElem?_append_left hl] at hp
    have := hle p (List.mem_of_getElem? hp)
    rw [List.getD_eq_getElem?_getD, List.getElem?_set_ne (by omega), ← List.getD_eq_getElem?_getD]
    exact h i p j hp h1 h2
  · rw [List.getElem?_append_right hl] at hp
    rcases Nat.eq_or_lt_of_le hl with hl | hl
    · rw [← hl, Nat.sub_self] at hp
      simp at hp
      subst hp
      obtain rfl : j = k := by simp at h1 h2; omega
      rw [List.getD_eq_getElem?_getD, List.getElem?_set_self hk, ← hl]; rfl
    · obtain ⟨z, hz⟩ := Nat.exists_eq_succ_of_ne_zero (show i - done.length ≠ 0 by omega)
      rw [hz] at hp; simp at hp
theorem num_last {pre : List (Nat × Nat)} {s k : Nat} {nu : List Nat} (h : NumOk (pre ++ [(s, k)]) nu) (hle : ∀ p ∈ pre, p.2 ≤ k) (hk : k < nu.length) : NumOk (pre ++ [(s, k + 1)]) (nu.set k pre.length) := by
  intro i p j hp h1 h2
  rcases Nat.lt_or_ge i pre.length with hl | hl
  · rw [List.getElem?_append_left hl] at hp
    have := hle p (List.mem_of_getElem? hp)
    rw [List.getD_eq_getElem?_getD, List.getElem?_set_ne (by omega), ← List.getD_eq_getElem?_getD]
    exact h i p j (by rw [List.getElem?_append_left hl]; exact hp) h1 h2
  · rw [List.getElem?_append_right hl] at hp
    rcases Nat.eq_or_lt_of_le hl with hl | hl
    · rw [← hl, Nat.sub_self] at hp
      simp at hp
      subst hp
      rcases Nat.lt_or_ge j k with h3 | h3
      · rw [List.getD_eq_getElem?_getD, List.getElem?_set_ne (by omega), ← List.getD_eq_getElem?_getD]
        exact h i (s, k) j (by rw [← hl, List.getElem?_append_right (Nat.le_refl _), Nat.sub_self]; rfl) h1 h3
      · obtain rfl : j = k := by simp at h2; omega
        rw [List.getD_eq_getElem?_getD, List.getElem?_set_self hk, ← hl]; rfl
    · obtain ⟨z, hz⟩ := Nat.exists_eq_succ_of_ne_zero (show i - pre.length ≠ 0 by omega)
      rw [hz] at hp; simp at hp
theorem RInv.zero {q : List I4} : RInv q 0 [] (List.replicate q.length 0) :=
  ⟨.inl ⟨q.length, by omega, rfl, fun h => by have := h.1; omega⟩, fun p h => by simp at h, fun i p j h => by simp at h, by simp⟩
theorem goes_in {q : List I4} (h0 : (checkP q).1 = 0) {s k : Nat} (hs : s < k) (hk : k < runEnd q (intoP q) q.length s) (hr : rch q s) : goesP q k := by
  refine ⟨by omega, ?_, runEnd_noend q (intoP q) q.length s (k - 1) (by omega) (by omega), runEnd_one q (intoP q) q.length s k hs hk⟩
  rcases Nat.eq_or_lt_of_le (show s ≤ k - 1 by omega) with h | h
  · rw [← h]; exact hr
  · unfold rch; rw [runEnd_one q (intoP q) q.length s (k - 1) h (by omega)]; decide
theorem RInv.skip {q : List I4} (h0 : (checkP q).1 = 0) {k : Nat} {done : List (Nat × Nat)} {nu : List Nat} (h : RInv q k done nu) (hk : k < q.length) (hr : ¬ rch q k) : RInv q (k + 1) done nu := by
  refine ⟨?_, fun p hp => by have := h.le p hp; omega, h.num, h.len⟩
  rcases h.split with ⟨f, f1, f2, f3⟩ | ⟨pre, s, f, h1, h2, h3, h4, h5, h6, h7⟩
  · refine .inl ⟨f - 1, by omega, ?_, fun hg => hr hg.2.1⟩
    obtain ⟨f, rfl⟩ : ∃ f', f = f' + 1 := ⟨f - 1, by omega⟩
    unfold partsQ at f2
    rw [if_pos hk, if_pos (by simpa [rch] using hr)] at f2
    exact f2
  · have := (goes_in h0 h2 h3 h5).2.2.2
    exact absurd (by unfold rch; omega) hr
theorem RInv.goes {q : List I4} (h0 : (checkP q).1 = 0) {k : Nat} {done : List (Nat × Nat)} {nu : List Nat} (h : RInv q k done nu) (hk : k < q.length) (hg : goesP q k) : ∃ pre s, done = pre ++ [(s, k)] ∧ RInv q (k + 1) (pre ++ [(s, k + 1)]) (nu.set k pre.length) := by
  rcases h.split with ⟨f, f1, f2, f3⟩ | ⟨pre, s, f, rfl, h2, h3, h4, h5, h6, h7⟩
  · exact absurd hg f3
  · refine ⟨pre, s, rfl, ?_, fun p hp => ?_, num_last h.num (fun p hp => h.le p (by simp [hp])) (by rw [h.len]; exact hk), by simpa using h.len⟩
    · rcases Nat.eq_or_lt_of_le (show k + 1 ≤ runEnd q (intoP q) q.length s from h3) with he | he
      · refine .inl ⟨f, by omega, by rw [he, List.append_assoc]; exact h7, fun hg' => ?_⟩
        have hst := runEnd_stop q (intoP q) (end_last h0) q.length s h4 (by omega)
        rw [← he] at hst
        rcases hst with x | x
        · rw [hg'.2.2.1] at x; cases x
        · exact x hg'.2.2.2
      · exact .inr ⟨pre, s, f, rfl, by omega, he, h4, h5, h6, h7⟩
    · rcases List.mem_append.1 hp with x | x
      · have := h.le p (by simp [x]); omega
      · simp at x; subst x; simp
theorem RInv.new {q : List I4} (h0 : (checkP q).1 = 0) {k : Nat} {done : List (Nat × Nat)} {nu : List Nat} (h : RInv q k done nu) (hk : k < q.length) (hr : rch q k) (hg : ¬ goesP q k) : RInv q (k + 1) (done ++ [(k, k + 1)]) (nu.set k done.length) := by
  refine ⟨?_, fun p hp => ?_, num_snoc h.num h.le (by rw [h.len]; exact hk), by simpa using h.len⟩
  · rcases h.split with ⟨f, f1, f2, f3⟩ | ⟨pre, s, f, h1, h2, h3, h4, h5, h6, h7⟩
    · obtain ⟨f, rfl⟩ : ∃ f', f = f' + 1 := ⟨f - 1, by omega⟩
      unfold partsQ at f2
      rw [if_pos hk, if_neg hr] at f2
      have hgt := (runEnd_gt q (intoP q) q.length k).2 (by omega)
      rcases Nat.eq_or_lt_of_le (show k + 1 ≤ runEnd q (intoP q) q.length k from hgt) with he | he
      · refine .inl ⟨f, by omega, by rw [← he] at f2; rw [List.append_assoc]; exact f2, fun hg' => ?_⟩
        have hst := runEnd_stop q (intoP q) (end_last h0) q.length k hk (by omega)
        rw [← he] at hst
        rcases hst with x | x
        · rw [hg'.2.2.1] at x; cases x
        · exact x hg'.2.2.2
      · exact .inr ⟨done, k, f, rfl, by omega, he, hk, hr, by omega, f2⟩
    · exact absurd (goes_in h0 h2 h3 h5) hg
  · rcases List.mem_append.1 hp with x | x
    · have := h.le p x; omega
    · simp at x; subst x; simp
theorem RInv.done {q : List I4} (h0 : (checkP q).1 = 0) {done : List (Nat × Nat)} {nu : List Nat} (h : RInv q q.length done nu) : done = blocksQ q := by
  rcases h.split with ⟨f, f1, f2, f3⟩ | ⟨pre, s, f, h1, h2, h3, h4, h5, h6, h7⟩
  · rw [← f2]
    cases f with
    | zero => simp [partsQ]
    | succ f => unfold partsQ; rw [if_neg (by omega), List.append_nil]
  · have := runEnd_le q (intoP q) (end_last h0) q.length s h4 (by omega)
    omega
theorem goes_iff {q : List I4} (h0 : (checkP q).1 = 0) {i : Nat} {x : I4} (hx : q[i]? = some x) : (endQ q i = false) ↔ (nextQ q i = [i + 1] ∧ memC x.c jumpL = false ∧ x.c ≠ 5) := by
  have hi := (List.getElem?_eq_some_iff.1 hx).1
  constructor
  · intro h
    have h2 := (next_plain h0 hi h).2
    rw [endQ_eq h0 hx] at h
    simp only [Bool.or_eq_false_iff, beq_eq_false_iff_ne] at h
    exact ⟨h2, h.1.1.1, h.1.1.2⟩
  · rintro ⟨h1, h2, h3⟩
    rw [endQ_eq h0 hx]
    simp only [Bool.or_eq_false_iff, beq_eq_false_iff_ne]
    refine ⟨⟨⟨h2, h3⟩, ?_⟩, ?_⟩ <;>
    · intro h4
      unfold nextQ at h1
      rw [hx] at h1
      have h1 : nextI x i (q.length - i - 1) = [i + 1] := h1
      unfold nextI at h1
      rw [if_pos (by omega)] at h1
      cases h1
end Go.Proofs.Ytapmpegblfcknaa
