import Derived.Test.YtapmpegblfcknaaFlowGraphP
import Derived.Test.YtapmpegblfcknaaFlowLong
import Derived.Test.YtapmpegblfcknaaCbpfP
set_option linter.unusedVariables false
set_option linter.unusedSimpArgs false
namespace Go.Proofs.Ytapmpegblfcknaa
open Go.RowKit
/-! Plain: the places that a run of an accepted program comes to. -/
theorem good_rightF {x : I4} {L : Int} (h : Good x L) (hx : x.ok) : cwrong x = 0 := by
  unfold cwrong
  rw [if_neg (by simp [h.seals]), if_neg (fun hc => by have := h.load hc.1; omega), if_neg (fun hc => by have := h.mem hc.1; omega), if_neg (fun hc => h.div hc.1 hc.2)]
theorem alu_codes : ∀ c ∈ aluL, memC c jumpL = false ∧ c ≠ 5 ∧ c ≠ 6 ∧ c ≠ 22 := by decide +kernel
/-- A step of an accepted program leads where Next says. -/
theorem go_next {q : List I4} (h0 : (checkP q).1 = 0) (hq : ∀ x ∈ q, x.ok) {at_ : Nat} {x : I4} (hx : q[at_]? = some x) {d : List Int} {s s' : CM} {on : Nat} (hs : cstep d x s = .go on s') : at_ + on ∈ nextQ q at_ := by
  have hl := (List.getElem?_eq_some_iff.1 hx).1
  have hxo := hq x (List.mem_of_getElem? hx)
  have h := good_at h0 hx
  have hw := good_rightF h hxo
  have hlast : q.length - at_ - 1 = 0 → x.c = 6 ∨ x.c = 22 := fun h => acc_last h0 hx (by omega)
  obtain ⟨a1, a2, a3, a4, a5, a6, a7, a8⟩ := hxo
  unfold nextQ
  rw [hx]
  show at_ + on ∈ nextI x at_ (q.length - at_ - 1)
  unfold cstep at hs
  rw [if_neg (by simp [hw])] at hs
  unfold nextI
  have hpl : ∀ (k : Int), 0 ≤ k → k < ((q.length - at_ - 1 : Nat) : Int) → on = 1 + k.toNat → at_ + on ∈ onL at_ (q.length - at_ - 1) k := fun k h1 h2 h3 => by
    unfold onL; rw [if_pos h2]; simp; omega
  split at hs
  · rename_i hal
    obtain ⟨e1, e2, e3, e4⟩ := alu_codes x.c (mem_of_memC hal)
    split at hs
    · cases hs
    · injection hs with h1 _
      rw [if_neg (by omega), if_neg e2, if_neg (by rw [e1]; decide)]
      have : q.length - at_ - 1 ≠ 0 := fun h => by have := hlast h; omega
      exact hpl 0 (by omega) (by omega) (by omega)
  split at hs
  · rename_i hj
    injection hs with h1 _
    have hb := h.jump (mem_of_memC hj)
    have hc5 := (jump_seven x.c (mem_of_memC hj)).2
    have hn6 : ¬ (x.c = 6 ∨ x.c = 22) := by
      rintro (e | e) <;> · rw [e] at hj; revert hj; decide
    rw [if_neg hn6, if_neg hc5, if_pos hj]
    have hway : wayC x s = x.j ∨ wayC x s = x.f := by unfold wayC; split <;> simp
    by_cases hjf : x.j = x.f
    · rw [if_pos hjf]
      exact hpl x.j a3 hb.1 (by rcases hway with e | e <;> rw [e] at h1 <;> omega)
    · rw [if_neg hjf, List.mem_append]
      rcases hway with e | e
      · exact .inl (hpl x.j a3 hb.1 (by rw [e] at h1; omega))
      · exact .inr (hpl x.f a5 hb.2 (by rw [e] at h1; omega))
  rename_i hnj
  split at hs
  · rename_i h5
    injection hs with h1 _
    rw [if_neg (by omega), if_pos h5]
    exact hpl x.k a7 (h.ja h5) (by omega)
  split at hs
  · cases hs
  split at hs
  · cases hs
  · rename_i h5 h6 h22
    injection hs with h1 _
    rw [if_neg (by omega), if_neg h5, if_neg hnj]
    have : q.length - at_ - 1 ≠ 0 := fun h => by have := hlast h; omega
    exact hpl 0 (by omega) (by omega) (by omega)
theorem after_snoc (q : List I4) (d : List Int) : ∀ (n : Nat) (z : CS), CS.after q d (n + 1) z = (CS.after q d n z).next q d := by
  intro n
  induction n with
  | zero => intro z; rfl
  | succ n ih => intro z; show CS.after q d (n + 1) (z.next q d) = _; rw [ih]; rfl
/-- The places so far. -/
structure Trail (q : List I4) (L : List Nat) : Prop where
  first : ∀ y, L[0]? = some y → y = 0
  chain : ∀ i y z, L[i]? = some y → L[i + 1]? = some z → z ∈ nextQ q y
  reach : ∀ y ∈ L, rch q y
theorem Trail.nil (q : List I4) : Trail q [] := ⟨fun y h => by simp at h, fun i y z h => by simp at h, fun y h => by simp at h⟩
theorem Trail.snoc {q : List I4} (hok : ∀ x ∈ q, x.ok) {L : List Nat} (h : Trail q L) {y : Nat} (h0 : 0 < q.length) (hf : L = [] → y = 0) (hc : ∀ x, L.getLast? = some x → y ∈ nextQ q x) : Trail q (L ++ [y]) := by
  refine ⟨fun z hz => ?_, fun i a b ha hb => ?_, fun z hz => ?_⟩
  · cases L with
    | nil => simp at hz; subst hz; exact hf rfl
    | cons x L => exact h.first z (by simpa using hz)
  · rcases Nat.lt_or_ge (i + 1) L.length with hl | hl
    · rw [List.getElem?_append_left (by omega)] at ha
      rw [List.getElem?_append_left hl] at hb
      exact h.chain i a b ha hb
    · rw [List.getElem?_append_right hl] at hb
      have hi : i + 1 - L.length = 0 := by
        rcases Nat.eq_zero_or_pos (i + 1 - L.length) with e | e
        · exact e
        · obtain ⟨k, hk⟩ := Nat.exists_eq_succ_of_ne_zero (show i + 1 - L.length ≠ 0 by omega)
          rw [hk] at hb; simp at hb
      rw [hi] at hb
      simp at hb
      subst hb
      rw [List.getElem?_append_left (by omega)] at ha
      refine hc a ?_
      rw [List.getLast?_eq_getElem?, show L.length - 1 = i by omega]; exact ha
  · rcases List.mem_append.1 hz with hz | hz
    · exact h.reach z hz
    · simp at hz; subst hz
      cases hL : L.getLast? with
      | none => rw [hf (by simpa using hL)]; exact rch_zero hok h0
      | some x => exact rch_next hok (h.reach x (List.mem_of_getLast? hL)) (hc x hL)
/-- How far it is from a place. -/
theorem longTo_keep (q : List I4) {j : Nat} : ∀ k k', q.length ≤ j + k → k ≤ k' → k' ≤ q.length → (longTo q k').getD j 0 = (longTo q k).getD j 0 := by
  intro k k' h1
  induction k' with
  | zero => intro h2 _; obtain rfl : k = 0 := by omega
            rfl
  | succ k' ih =>
    intro h2 h3
    rcases Nat.eq_or_lt_of_le h2 with rfl | h2
    · rfl
    · rw [← ih (by omega) (by omega), longTo_succ]
      unfold longStep
      have hm : ∀ (ts : List Nat) (far : List Nat), (maxTo (q.length - 1 - k') far ts).getD j 0 = far.getD j 0 := by
        intro ts
        induction ts with
        | nil => intro far; rfl
        | cons t ts ih2 =>
          intro far
          show (maxTo _ (far.set _ _) ts).getD j 0 = _
          rw [ih2, List.getD_eq_getElem?_getD, List.getElem?_set_ne (show q.length - 1 - k' ≠ j by omega), ← List.getD_eq_getElem?_getD]
      have hne : q.length - 1 - k' ≠ j := by omega
      have e : ∀ l : List Nat, (l.modify (q.length - 1 - k') (· + 1))[j]? = l[j]? := fun l => by rw [List.getElem?_modify]; simp [hne]
      rw [List.getD_eq_getElem?_getD, e, ← List.getD_eq_getElem?_getD, hm]
theorem maxTo_ge (p : Nat) : ∀ (ts far : List Nat) (t : Nat), p < far.length → t ≠ p → t ∈ ts → far.getD t 0 ≤ (maxTo p far ts).getD p 0 ∧ True := by
  intro ts
  induction ts with
  | nil => intro far t _ _ h; simp at h
  | cons u ts ih =>
    intro far t hp htp ht
    have hstep : ∀ (ts far : List Nat), p < far.length → far.getD p 0 ≤ (maxTo p far ts).getD p 0 := by
      intro ts
      induction ts with
      | nil => intro far _; exact Nat.le_refl _
      | cons v ts ih2 =>
        intro far hp
        refine Nat.le_trans ?_ (ih2 (far.set p (max (far.getD p 0) (far.getD v 0))) (by simpa using hp))
        rw [List.getD_eq_getElem?_getD (l := far.set _ _), List.getElem?_set_self hp]
        exact Nat.le_max_left _ _
    refine ⟨?_, trivial⟩
    show far.getD t 0 ≤ (maxTo p (far.set p (max (far.getD p 0) (far.getD u 0))) ts).getD p 0
    rcases List.mem_cons.1 ht with rfl | ht
    · refine Nat.le_trans ?_ (hstep ts _ (by simpa using hp))
      rw [List.getD_eq_getElem?_getD (l := far.set _ _), List.getElem?_set_self hp]
      exact Nat.le_max_right _ _
    · have := (ih (far.set p (max (far.getD p 0) (far.getD u 0))) t (by simpa using hp) htp ht).1
      rw [List.getD_eq_getElem?_getD (l := far.set _ _), List.getElem?_set_ne (fun e => htp e.symm), ← List.getD_eq_getElem?_getD] at this
      exact this
def farP (q : List I4) (p : Nat) : Nat := (longTo q q.length).getD p 0
theorem farP_at {q : List I4} {p : Nat} (hp : p < q.length) : farP q p = (maxTo p (longTo q (q.length - 1 - p)) (nextQ q p)).getD p 0 + 1 := by
  unfold farP
  rw [longTo_keep q (q.length - p) q.length (by omega) (by omega) (Nat.le_refl _), show q.length - p = q.length - 1 - p + 1 by omega, longTo_succ]
  unfold longStep
  rw [show q.length - 1 - (q.length - 1 - p) = p by omega]
  have hlen : (maxTo p (longTo q (q.length - 1 - p)) (nextQ q p)).length = q.length := by
    rw [maxTo_len]
    have : ∀ k, (longTo q k).length = q.length := by
      intro k
      induction k with
      | zero => simp [longTo]
      | succ k ih => rw [longTo_succ]; unfold longStep; simp [maxTo_len, ih]
    exact this _
  rw [getD_modify_eq _ _ _ (by rw [hlen]; exact hp), if_pos rfl]
theorem farP_step {q : List I4} (hok : ∀ x ∈ q, x.ok) {p t : Nat} (hp : p < q.length) (ht : t ∈ nextQ q p) : farP q t + 1 ≤ farP q p := by
  have hm := nextQ_mem hok ht
  rw [farP_at hp]
  have hlen : p < (longTo q (q.length - 1 - p)).length := by
    have : ∀ k, (longTo q k).length = q.length := by
      intro k
      induction k with
      | zero => simp [longTo]
      | succ k ih => rw [longTo_succ]; unfold longStep; simp [maxTo_len, ih]
    rw [this]; exact hp
  have h := (maxTo_ge p (nextQ q p) (longTo q (q.length - 1 - p)) t hlen (by omega) ht).1
  have e : farP q t = (longTo q (q.length - 1 - p)).getD t 0 := longTo_keep q (q.length - 1 - p) q.length (by omega) (by omega) (Nat.le_refl _)
  omega
theorem Trail.long {q : List I4} (hok : ∀ x ∈ q, x.ok) {L : List Nat} (h : Trail q L) : L.length ≤ longP q := by
  have key : ∀ i y, L[i]? = some y → i + farP q y ≤ longP q := by
    intro i
    induction i with
    | zero => intro y hy; rw [h.first y hy]; exact Nat.le_of_eq (by unfold farP longP; omega)
    | succ i ih =>
      intro y hy
      have hl := (List.getElem?_eq_some_iff.1 hy).1
      obtain ⟨x, hx⟩ : ∃ x, L[i]? = some x := ⟨_, List.getElem?_eq_getElem (by omega)⟩
      have h1 := ih x hx
      have h2 := farP_step hok (rch_lt (h.reach x (List.mem_of_getElem? hx))) (h.chain i x y hx hy)
      omega
  rcases Nat.eq_zero_or_pos L.length with h0 | h0
  · omega
  · obtain ⟨y, hy⟩ : ∃ y, L[L.length - 1]? = some y := ⟨_, List.getElem?_eq_getElem (by omega)⟩
    have h1 := key _ y hy
    have h2 := farP_at (rch_lt (h.reach y (List.mem_of_getElem? hy)))
    omega
/-- A machine on its way through an accepted program, and the places that it came to. -/
structure TrailAt (q : List I4) (d : List Int) (n : Nat) (z : CS) (L : List Nat) : Prop where
  at_ : z = CS.after q d n CS.zero
  trail : Trail q L
  len : L.length = n
  more : z.done = false → (n = 0 ∧ z.at_ = 0) ∨ ∃ x, L.getLast? = some x ∧ z.at_ ∈ nextQ q x
theorem TrailAt.zero (q : List I4) (d : List Int) : TrailAt q d 0 CS.zero [] := ⟨rfl, Trail.nil q, rfl, fun _ => .inl ⟨rfl, rfl⟩⟩
theorem TrailAt.next {q : List I4} (h0 : (checkP q).1 = 0) (hok : ∀ x ∈ q, x.ok) {d : List Int} (h64 : d.length = 64) {n : Nat} {z : CS} {L : List Nat} (h : TrailAt q d n z L) (hd : z.done = false) : TrailAt q d (n + 1) (z.next q d) (L ++ [z.at_]) ∧ z.at_ < q.length := by
  obtain ⟨a1, -, -, -⟩ := acc_facts h0
  have ht : Trail q (L ++ [z.at_]) := by
    refine h.trail.snoc hok a1 (fun e => ?_) (fun x hx => ?_)
    · rcases h.more hd with ⟨_, h2⟩ | ⟨x, h2, _⟩
      · exact h2
      · rw [e] at h2; simp at h2
    · rcases h.more hd with ⟨h1, _⟩ | ⟨y, h2, h3⟩
      · have : L = [] := List.eq_nil_of_length_eq_zero (by rw [h.len]; exact h1)
        rw [this] at hx; simp at hx
      · rw [h2] at hx; injection hx with hx; subst hx; exact h3
  have hlt : z.at_ < q.length := rch_lt (ht.reach z.at_ (by simp))
  refine ⟨⟨by rw [after_snoc, ← h.at_], ht, by simp [h.len], fun hd2 => ?_⟩, hlt⟩
  refine .inr ⟨z.at_, by simp, ?_⟩
  obtain ⟨x, hx⟩ : ∃ x, q[z.at_]? = some x := ⟨_, List.getElem?_eq_getElem hlt⟩
  unfold CS.next at hd2 ⊢
  rw [if_neg (by simp [hd]), if_neg (by simp [h64]), hx] at hd2 ⊢
  cases hs : cstep d x z.s with
  | go on s' => simp only [hs]; exact go_next h0 hok hx hs
  | done v => simp only [hs] at hd2; cases hd2
  | err e => simp only [hs] at hd2; cases hd2
end Go.Proofs.Ytapmpegblfcknaa
