import Derived.Test.YtalhjbncloobpaaMirEndsP
set_option linter.unusedVariables false
set_option linter.unusedSimpArgs false
namespace Go.Proofs.Ytalhjbncloobpaa
open Go.RowKit
/-! Blinding a program of registers: the plain side. -/
def exemptB (k : Int) : Bool := decide (k < 1048576) || decide (4293918720 ≤ k)
def hidB (x : R7) : Bool := x.o == 1 && !exemptB x.k
def hids (q : List R7) : Nat := q.countP hidB
def placeB (q : List R7) (i : Nat) : Nat := i + 2 * hids (q.take i)
def movedB (q : List R7) (x : R7) : R7 := ⟨x.o, x.d, x.a, x.b, x.k, if shT x.o = true then (placeB q x.t.toNat : Int) else x.t, if shF x.o = true then (placeB q x.f.toNat : Int) else x.f⟩
def xorW (a b : Int) : Int := bits .xor .u32 a b
def wordB (q : List R7) (ws : List Int) (i : Nat) : Int := getN ws (hids (q.take i))
def blindOne (q : List R7) (regs : Int) (ws : List Int) (i : Nat) (x : R7) : List R7 :=
  if hidB x = true then [⟨1, x.d, 0, 0, xorW x.k (wordB q ws i), 0, 0⟩, ⟨1, regs, 0, 0, wordB q ws i, 0, 0⟩, ⟨10, x.d, x.d, regs, 0, 0, 0⟩] else [movedB q x]
def blindL (q : List R7) (regs : Int) (ws : List Int) : Nat → List R7
  | 0 => []
  | m + 1 => blindL q regs ws m ++ (match q[m]? with | some x => blindOne q regs ws m x | none => [])
def blindQ (q : List R7) (regs : Int) (ws : List Int) : List R7 := blindL q regs ws q.length
/-- What becomes of a program: its registers, its instructions, the error. -/
def blindP (regs : Int) (q : List R7) (ws : List Int) : Int × List R7 × Int :=
  if (mcheckP regs q).1 ≠ 0 then (0, [], 1) else if hids q = 0 then (regs, q, 0) else if regs = 64 then (0, [], 211) else if 65536 < q.length + 2 * hids q then (0, [], 2) else (regs + 1, blindQ q regs ws, 0)
def countP (regs : Int) (q : List R7) : Int × Int := if (mcheckP regs q).1 ≠ 0 then (0, 1) else (hids q, 0)
theorem hids_succ {q : List R7} {m : Nat} {x : R7} (hx : q[m]? = some x) : hids (q.take (m + 1)) = hids (q.take m) + (if hidB x = true then 1 else 0) := by
  unfold hids
  rw [List.take_add_one, hx, List.countP_append]
  simp [List.countP_cons]
theorem hids_le (q : List R7) (m : Nat) : hids (q.take m) ≤ m := by
  unfold hids
  exact Nat.le_trans List.countP_le_length (by rw [List.length_take]; omega)
theorem hids_mono (q : List R7) {m n : Nat} (h : m ≤ n) : hids (q.take m) ≤ hids (q.take n) := by
  unfold hids
  have : q.take m = (q.take n).take m := by rw [List.take_take, Nat.min_eq_left h]
  rw [this]
  exact (List.take_sublist _ _).countP_le
theorem placeB_mono (q : List R7) {m n : Nat} (h : m < n) : placeB q m < placeB q n := by
  have := hids_mono q (Nat.le_of_lt h)
  unfold placeB; omega
theorem placeB_end (q : List R7) : placeB q q.length = q.length + 2 * hids q := by unfold placeB; rw [List.take_length]
theorem placeB_succ {q : List R7} {m : Nat} {x : R7} (hx : q[m]? = some x) : placeB q (m + 1) = placeB q m + (if hidB x = true then 3 else 1) := by
  unfold placeB; rw [hids_succ hx]; split <;> omega
theorem blindOne_length (q : List R7) (regs : Int) (ws : List Int) (i : Nat) (x : R7) : (blindOne q regs ws i x).length = if hidB x = true then 3 else 1 := by
  unfold blindOne; split <;> rfl
theorem blindL_succ {q : List R7} {regs : Int} {ws : List Int} {m : Nat} {x : R7} (hx : q[m]? = some x) : blindL q regs ws (m + 1) = blindL q regs ws m ++ blindOne q regs ws m x := by
  simp only [blindL, hx]
theorem blindL_length (q : List R7) (regs : Int) (ws : List Int) (m : Nat) (h : m ≤ q.length) : (blindL q regs ws m).length = placeB q m := by
  induction m with
  | zero => simp [blindL, placeB, hids]
  | succ m ih =>
    obtain ⟨x, hx⟩ : ∃ x, q[m]? = some x := ⟨_, List.getElem?_eq_getElem (by omega)⟩
    rw [blindL_succ hx, List.length_append, ih (by omega), blindOne_length, placeB_succ hx]
theorem blindQ_length (q : List R7) (regs : Int) (ws : List Int) : (blindQ q regs ws).length = placeB q q.length := blindL_length q regs ws _ (Nat.le_refl _)
theorem blindL_get (q : List R7) (regs : Int) (ws : List Int) (m j : Nat) (x : R7) (hx : q[m]? = some x) (hj : j < (blindOne q regs ws m x).length) (n : Nat) (hn : m < n) (hq : n ≤ q.length) : (blindL q regs ws n)[placeB q m + j]? = (blindOne q regs ws m x)[j]? := by
  induction n with
  | zero => omega
  | succ n ih =>
    obtain ⟨y, hy⟩ : ∃ y, q[n]? = some y := ⟨_, List.getElem?_eq_getElem (by omega)⟩
    rw [blindL_succ hy]
    rcases Nat.lt_or_ge m n with h | h
    · have hl : placeB q m + j < (blindL q regs ws n).length := by
        rw [blindL_length q regs ws n (by omega)]
        have h1 : placeB q (m + 1) ≤ placeB q n := by
          rcases Nat.lt_or_ge (m + 1) n with h2 | h2
          · exact Nat.le_of_lt (placeB_mono q h2)
          · rw [show m + 1 = n by omega]; exact Nat.le_refl _
        rw [placeB_succ hx] at h1
        rw [blindOne_length] at hj
        omega
      rw [List.getElem?_append_left hl]
      exact ih h (by omega)
    · obtain rfl : m = n := by omega
      rw [hx] at hy; injection hy with hy; subst hy
      rw [List.getElem?_append_right (by rw [blindL_length q regs ws m (by omega)]; omega), blindL_length q regs ws m (by omega)]
      congr 1; omega
theorem blindQ_get (q : List R7) (regs : Int) (ws : List Int) (m j : Nat) (x : R7) (hx : q[m]? = some x) (hj : j < (blindOne q regs ws m x).length) : (blindQ q regs ws)[placeB q m + j]? = (blindOne q regs ws m x)[j]? :=
  blindL_get q regs ws m j x hx hj _ (List.getElem?_eq_some_iff.1 hx).1 (Nat.le_refl _)
theorem blindL_mem (q : List R7) (regs : Int) (ws : List Int) (n : Nat) (hn : n ≤ q.length) (i : Nat) (y : R7) (hy : (blindL q regs ws n)[i]? = some y) : ∃ m x j, q[m]? = some x ∧ i = placeB q m + j ∧ (blindOne q regs ws m x)[j]? = some y := by
  induction n with
  | zero => simp [blindL] at hy
  | succ n ih =>
    obtain ⟨x, hx⟩ : ∃ x, q[n]? = some x := ⟨_, List.getElem?_eq_getElem (by omega)⟩
    rw [blindL_succ hx] at hy
    rcases Nat.lt_or_ge i (blindL q regs ws n).length with h | h
    · rw [List.getElem?_append_left h] at hy
      exact ih (by omega) hy
    · rw [List.getElem?_append_right h] at hy
      rw [blindL_length q regs ws n (by omega)] at h hy
      exact ⟨n, x, i - placeB q n, hx, by omega, hy⟩
theorem wrong_of_fine {regs len at_ : Int} {x : R7} (h : Fine regs len at_ x) : wrongP regs len at_ x = 0 := by
  obtain ⟨h1, h2, hd, ha, hb, hk, ht, hf⟩ := h
  unfold wrongP
  rw [if_neg (by simp [known]; omega)]
  have r : ∀ (n : Bool) (r : Int), (n = true → 0 ≤ r ∧ r < regs) → regB n r regs = true := by
    intro n r h; cases n
    · rfl
    · have := h rfl; simp [regB]; omega
  have a : ∀ (n : Bool) (r : Int), (n = true → at_ < r ∧ r < len) → aheadB n r at_ len = true := by
    intro n r h; cases n
    · rfl
    · have := h rfl; simp [aheadB]; omega
  rw [r _ _ hd, r _ _ ha, r _ _ hb, if_neg (by decide), a _ _ ht, a _ _ hf]
  rw [if_neg, if_neg (by decide)]
  intro h
  simp only [Bool.and_eq_true, beq_iff_eq, Bool.or_eq_true, bne_iff_ne, decide_eq_true_eq] at h
  have := hk h.1
  omega
theorem mcheck_of_fine {regs : Int} {q : List R7} (h1 : 1 ≤ regs) (h2 : regs ≤ 64) (h3 : 0 < q.length) (h4 : q.length ≤ 65536) (h : ∀ (i : Nat) (x : R7), q[i]? = some x → Fine regs q.length i x) (hl : lastO q = 19) : mcheckP regs q = (0, 0) := by
  unfold mcheckP
  rw [if_neg (by omega), if_neg (by omega)]
  have hn : (List.range q.length).find? (fun i => wrongQ regs q i != 0) = none := by
    rw [List.find?_eq_none]
    intro i hi
    have hi' : i < q.length := by simpa using hi
    obtain ⟨x, hx⟩ : ∃ x, q[i]? = some x := ⟨_, List.getElem?_eq_getElem hi'⟩
    simp [wrongQ, hx, wrong_of_fine (h i x hx)]
  rw [hn]
  simp [hl]
theorem hidB_o {x : R7} (h : hidB x = true) : x.o = 1 := by simp [hidB] at h; exact h.1
theorem hidB_no {x : R7} (h : x.o ≠ 1) : hidB x = false := by simp [hidB]; intro h'; exact absurd h' h
theorem Fine.more {regs len at_ : Int} {x : R7} (h : Fine regs len at_ x) : Fine (regs + 1) len at_ x := by
  obtain ⟨h1, h2, hd, ha, hb, hk, ht, hf⟩ := h
  exact ⟨h1, h2, fun h => by have := hd h; omega, fun h => by have := ha h; omega, fun h => by have := hb h; omega, hk, ht, hf⟩
theorem blind_fine {regs : Int} {q : List R7} {ws : List Int} (h : (mcheckP regs q).1 = 0) (i : Nat) (y : R7) (hy : (blindQ q regs ws)[i]? = some y) : Fine (regs + 1) (blindQ q regs ws).length i y := by
  obtain ⟨z1, z2, z3, z4, -, -⟩ := mcheckP_zero h
  obtain ⟨m, x, j, hx, rfl, hj⟩ := blindL_mem q regs ws _ (Nat.le_refl _) i y hy
  have hm := (List.getElem?_eq_some_iff.1 hx).1
  have F := fine_at h hx
  obtain ⟨f1, f2, fd, fa, fb, fk, ft, ff⟩ := F
  rw [blindQ_length]
  unfold blindOne at hj
  by_cases hh : hidB x = true
  · rw [if_pos hh] at hj
    have ho := hidB_o hh
    have hd := fd (by simp [shD, ho])
    match j, hj with
    | 0, hj =>
      simp at hj; subst hj
      exact ⟨by simp, by simp, fun _ => by constructor <;> simp <;> omega, fun h => by simp [shA] at h, fun h => by simp [shB] at h, fun h => by simp at h, fun h => by simp [shT] at h, fun h => by simp [shF] at h⟩
    | 1, hj =>
      simp at hj; subst hj
      exact ⟨by simp, by simp, fun _ => by constructor <;> simp <;> omega, fun h => by simp [shA] at h, fun h => by simp [shB] at h, fun h => by simp at h, fun h => by simp [shT] at h, fun h => by simp [shF] at h⟩
    | 2, hj =>
      simp at hj; subst hj
      exact ⟨by simp, by simp, fun _ => by constructor <;> simp <;> omega, fun _ => by constructor <;> simp <;> omega, fun _ => by constructor <;> simp <;> omega, fun h => by simp at h, fun h => by simp [shT] at h, fun h => by simp [shF] at h⟩
    | n + 3, hj => simp at hj
  · rw [if_neg hh] at hj
    match j, hj with
    | 0, hj =>
      simp at hj; subst hj
      refine ⟨f1, f2, fun h => by have := fd h; simp only [movedB]; omega, fun h => by have := fa h; simp only [movedB]; omega, fun h => by have := fb h; simp only [movedB]; omega, fk, fun h => ?_, fun h => ?_⟩
      · have h' : shT x.o = true := h
        have := ft h'
        simp only [movedB, h', if_true]
        have p1 := placeB_mono q (m := m) (n := x.t.toNat) (by omega)
        have p2 := placeB_mono q (m := x.t.toNat) (n := q.length) (by omega)
        omega
      · have h' : shF x.o = true := h
        have := ff h'
        simp only [movedB, h', if_true]
        have p1 := placeB_mono q (m := m) (n := x.f.toNat) (by omega)
        have p2 := placeB_mono q (m := x.f.toNat) (n := q.length) (by omega)
        omega
    | n + 1, hj => simp at hj
theorem blind_last {regs : Int} {q : List R7} {ws : List Int} (h : (mcheckP regs q).1 = 0) : lastO (blindQ q regs ws) = 19 := by
  obtain ⟨z1, z2, z3, z4, -, -⟩ := mcheckP_zero h
  obtain ⟨x, hx⟩ : ∃ x, q[q.length - 1]? = some x := ⟨_, List.getElem?_eq_getElem (by omega)⟩
  have ho := last_at h hx (by omega)
  have hh : hidB x = false := hidB_no (by omega)
  have e := placeB_succ hx
  rw [show q.length - 1 + 1 = q.length by omega, if_neg (by simp [hh])] at e
  have g := blindQ_get q regs ws _ 0 x hx (by rw [blindOne_length]; split <;> omega)
  unfold lastO
  rw [blindQ_length, e, Nat.add_sub_cancel]
  rw [Nat.add_zero] at g
  rw [g]
  simp [blindOne, hh, movedB, ho]
theorem blind_check {regs : Int} {q : List R7} {ws : List Int} (h : (mcheckP regs q).1 = 0) (hr : regs ≠ 64) (hl : q.length + 2 * hids q ≤ 65536) : mcheckP (regs + 1) (blindQ q regs ws) = (0, 0) := by
  obtain ⟨z1, z2, z3, z4, -, -⟩ := mcheckP_zero h
  refine mcheck_of_fine (by omega) (by omega) (by rw [blindQ_length, placeB_end]; omega) (by rw [blindQ_length, placeB_end]; omega) (fun i y hy => blind_fine h i y hy) (blind_last h)
/-! ### What it answers -/
theorem xor_xor (k w : Int) (hk : u32ok k) (hw : u32ok w) : xorW (xorW k w) w = k := by
  obtain ⟨k0, k1⟩ := hk
  obtain ⟨w0, w1⟩ := hw
  obtain ⟨K, rfl⟩ : ∃ K : Nat, k = K := ⟨k.toNat, by omega⟩
  obtain ⟨V, rfl⟩ : ∃ V : Nat, w = V := ⟨w.toNat, by omega⟩
  have hu : ∀ n : Int, 0 ≤ n → n < 2 ^ IntKind.u32.bits → IntKind.u32.wrap n = n := fun n h h' => by rw [IntKind.wrap_u32]; simp [IntKind.bits] at h'; omega
  have e : ∀ a b : Nat, a < 4294967296 → b < 4294967296 → xorW a b = ((a ^^^ b : Nat) : Int) := by
    intro a b ha hb
    unfold xorW
    simp only [bits, BitVec.ofInt_natCast]
    have hx : a ^^^ b < 2 ^ 32 := Nat.xor_lt_two_pow (by omega) (by omega)
    rw [BitVec.toNat_xor, BitVec.toNat_ofNat, BitVec.toNat_ofNat, Nat.mod_eq_of_lt (by simp [IntKind.bits]; omega), Nat.mod_eq_of_lt (by simp [IntKind.bits]; omega)]
    exact hu _ (by omega) (by simp [IntKind.bits]; omega)
  rw [e K V (by omega) (by omega), e _ V (Nat.xor_lt_two_pow (n := 32) (by omega) (by omega)) (by omega), Nat.xor_assoc, Nat.xor_self, Nat.xor_zero]
/-- The registers of a program, and those of what became of it. -/
def RegRel (R : Nat) (r r' : List Int) : Prop := r.length = R ∧ r'.length = R + 1 ∧ ∀ i, i < R → getN r' i = getN r i
theorem getN_set (r : List Int) (i j : Nat) (v : Int) : getN (r.set i v) j = if i = j ∧ j < r.length then v else getN r j := by
  unfold getN
  rw [List.getD_eq_getElem?_getD, List.getD_eq_getElem?_getD, List.getElem?_set]
  by_cases h : i = j
  · subst h
    by_cases h2 : i < r.length
    · simp [h2]
    · simp [h2]
  · simp [h]
theorem RegRel.set {R : Nat} {r r' : List Int} (h : RegRel R r r') (i : Nat) (v : Int) : RegRel R (r.set i v) (r'.set i v) := by
  refine ⟨by simp [h.1], by simp [h.2.1], fun j hj => ?_⟩
  rw [getN_set, getN_set, h.1, h.2.1, h.2.2 j hj]
  by_cases e : i = j
  · rw [if_pos ⟨e, by omega⟩, if_pos ⟨e, hj⟩]
  · rw [if_neg (fun x => e x.1), if_neg (fun x => e x.1)]
theorem RegRel.set2 {R : Nat} {r r' : List Int} (h : RegRel R r r') (d : Nat) (hd : d < R) (k u w : Int) : RegRel R (r.set d k) (((r'.set d u).set R w).set d k) := by
  refine ⟨by simp [h.1], by simp [h.2.1], fun j hj => ?_⟩
  rw [getN_set, getN_set, getN_set, getN_set]
  simp only [List.length_set, h.1, h.2.1]
  rw [h.2.2 j hj]
  by_cases e : d = j
  · rw [if_pos ⟨e, by omega⟩, if_pos ⟨e, hj⟩]
  · rw [if_neg (fun x => e x.1), if_neg (by omega), if_neg (fun x => e x.1), if_neg (fun x => e x.1)]
theorem mval_rel {R : Nat} {regs len at_ : Int} {x : R7} (F : Fine regs len at_ x) (hR : regs = R) {r r' : List Int} (h : RegRel R r r') (q : List R7) (d : List Int) (hs : shD x.o = true) : mval (movedB q x) d (getN r' x.a.toNat) (getN r' x.b.toNat) = mval x d (getN r x.a.toNat) (getN r x.b.toNat) := by
  obtain ⟨f1, f2, fd, fa, fb, fk, ft, ff⟩ := F
  unfold mval
  simp only [movedB]
  by_cases h1 : x.o = 1
  · simp [h1]
  by_cases h2 : x.o = 2
  · have := fa (by simp [shA, h2])
    simp [h2, h.2.2 x.a.toNat (by omega)]
  by_cases h3 : x.o = 3
  · simp [h3]
  by_cases h13 : x.o = 13
  · have := fa (by simp [shA, h13])
    simp [h13, h.2.2 x.a.toNat (by omega)]
  · have hm : 4 ≤ x.o ∧ x.o ≤ 12 := by
      simp [shD, h1, h2, h3, h13] at hs; exact hs
    have ha := fa (by simp [shA]; omega)
    have hb := fb (by simp [shB]; omega)
    rw [h.2.2 x.a.toNat (by omega), h.2.2 x.b.toNat (by omega)]
    rfl
theorem mrun_blind {regs : Int} {q : List R7} {ws d : List Int} (h : (mcheckP regs q).1 = 0) (hq : ∀ x ∈ q, x.ok) (hw : ∀ x ∈ ws, u32ok x) (R : Nat) (hR : regs = R) :
    ∀ (n at_ : Nat) (r r' : List Int) (s s' n' : Nat), at_ < q.length → q.length ≤ n + at_ → (blindQ q regs ws).length ≤ n' + placeB q at_ → RegRel R r r' →
      (mrun q d n at_ r s).1 = (mrun (blindQ q regs ws) d n' (placeB q at_) r' s').1 ∧ (mrun q d n at_ r s).2.2.1 = (mrun (blindQ q regs ws) d n' (placeB q at_) r' s').2.2.1 := by
  intro n
  induction n with
  | zero => intro at_ r r' s s' n' h1 h2; omega
  | succ n ih =>
    intro at_ r r' s s' n' h1 h2 h3 hr
    obtain ⟨x, hx⟩ : ∃ x, q[at_]? = some x := ⟨_, List.getElem?_eq_getElem h1⟩
    have F := fine_at h hx
    have hxo := hq x (List.mem_of_getElem? hx)
    have hmon := placeB_mono q (m := at_) (n := q.length) h1
    have hps := placeB_succ hx
    have hpl : placeB q (at_ + 1) ≤ placeB q q.length := by
      rcases Nat.lt_or_ge (at_ + 1) q.length with h2 | h2
      · exact Nat.le_of_lt (placeB_mono q h2)
      · rw [show at_ + 1 = q.length by omega]; exact Nat.le_refl _
    rw [blindQ_length] at h3
    have hget := fun j hj => blindQ_get q regs ws at_ j x hx hj
    rw [blindOne_length] at hget
    by_cases hh : hidB x = true
    · have ho := hidB_o hh
      rw [if_pos hh] at hps hget
      have g0 : (blindQ q regs ws)[placeB q at_]? = some ⟨1, x.d, 0, 0, xorW x.k (wordB q ws at_), 0, 0⟩ := by have := hget 0 (by omega); rw [Nat.add_zero] at this; rw [this]; simp [blindOne, hh]
      have g1 : (blindQ q regs ws)[placeB q at_ + 1]? = some ⟨1, regs, 0, 0, wordB q ws at_, 0, 0⟩ := by rw [hget 1 (by omega)]; simp [blindOne, hh]
      have g2 : (blindQ q regs ws)[placeB q at_ + 1 + 1]? = some ⟨10, x.d, x.d, regs, 0, 0, 0⟩ := by rw [show placeB q at_ + 1 + 1 = placeB q at_ + 2 by omega, hget 2 (by omega)]; simp [blindOne, hh]
      obtain ⟨n3, rfl⟩ : ∃ n3, n' = n3 + 3 := ⟨n' - 3, by omega⟩
      have hd := F.2.2.1 (by simp [shD, ho])
      have hnx := mnext_fine h hx (by omega) r
      have e1 : mnext x at_ r = at_ + 1 := by simp [mnext, ho]
      rw [e1] at hnx
      have e2 : mset x d r = r.set x.d.toNat x.k := by simp [mset, shD, ho, mval]
      have hwk : u32ok (wordB q ws at_) := getN_ok hw _
      have hkk : u32ok x.k := hxo.2.2.2.2.1
      have L : mrun q d (n + 1) at_ r s = mrun q d n (at_ + 1) (r.set x.d.toNat x.k) (s + 1) := by
        rw [mrun, hx]
        simp only []
        rw [if_neg (by omega), if_neg (by omega), e1, e2]
      have e3 : regs.toNat = R := by omega
      have hx3 : sumP 10 (xorW x.k (wordB q ws at_)) (wordB q ws at_) = x.k := by
        have := xor_xor x.k _ hkk hwk
        simpa [sumP, xorW] using this
      have hdN : x.d.toNat < R := by omega
      have RR : mrun (blindQ q regs ws) d (n3 + 3) (placeB q at_) r' s' = mrun (blindQ q regs ws) d n3 (placeB q at_ + 3) (((r'.set x.d.toNat (xorW x.k (wordB q ws at_))).set R (wordB q ws at_)).set x.d.toNat x.k) (s' + 3) := by
        rw [show n3 + 3 = n3 + 1 + 1 + 1 by omega, mrun, g0]
        simp only []
        rw [if_neg (by decide), if_neg (by simp)]
        rw [show mnext ⟨1, x.d, 0, 0, xorW x.k (wordB q ws at_), 0, 0⟩ (placeB q at_) r' = placeB q at_ + 1 by simp [mnext]]
        rw [mrun, g1]
        simp only []
        rw [if_neg (by decide), if_neg (by simp)]
        rw [show ∀ r2, mnext ⟨1, regs, 0, 0, wordB q ws at_, 0, 0⟩ (placeB q at_ + 1) r2 = placeB q at_ + 1 + 1 by intro r2; simp [mnext]]
        rw [mrun, g2]
        simp only []
        rw [if_neg (by decide), if_neg (by simp)]
        have m1 : mset ⟨1, x.d, 0, 0, xorW x.k (wordB q ws at_), 0, 0⟩ d r' = r'.set x.d.toNat (xorW x.k (wordB q ws at_)) := by simp [mset, shD, mval]
        have m2 : ∀ r2, mset ⟨1, regs, 0, 0, wordB q ws at_, 0, 0⟩ d r2 = r2.set R (wordB q ws at_) := by intro r2; simp [mset, shD, mval, e3]
        rw [m1, m2]
        have m3 : mset ⟨10, x.d, x.d, regs, 0, 0, 0⟩ d ((r'.set x.d.toNat (xorW x.k (wordB q ws at_))).set R (wordB q ws at_)) = ((r'.set x.d.toNat (xorW x.k (wordB q ws at_))).set R (wordB q ws at_)).set x.d.toNat x.k := by
          have a1 : getN ((r'.set x.d.toNat (xorW x.k (wordB q ws at_))).set R (wordB q ws at_)) x.d.toNat = xorW x.k (wordB q ws at_) := by
            rw [getN_set, if_neg (by omega), getN_set, if_pos ⟨rfl, by have := hr.2.1; omega⟩]
          have a2 : getN ((r'.set x.d.toNat (xorW x.k (wordB q ws at_))).set R (wordB q ws at_)) R = wordB q ws at_ := by
            rw [getN_set, if_pos ⟨rfl, by have := hr.2.1; simp; omega⟩]
          simp only [mset, shD, mval, e3, a1, a2, hx3]
          simp
        rw [m3, show mnext ⟨10, x.d, x.d, regs, 0, 0, 0⟩ (placeB q at_ + 1 + 1) ((r'.set x.d.toNat (xorW x.k (wordB q ws at_))).set R (wordB q ws at_)) = placeB q at_ + 3 by simp [mnext]]
      rw [L, RR, ← hps]
      exact ih _ _ _ _ _ _ hnx.2 (by omega) (by rw [blindQ_length]; omega) (hr.set2 _ hdN _ _ _)
    · rw [if_neg hh] at hps hget
      have g0 : (blindQ q regs ws)[placeB q at_]? = some (movedB q x) := by have := hget 0 (by omega); rw [Nat.add_zero] at this; rw [this]; simp [blindOne, hh]
      obtain ⟨n1, rfl⟩ : ∃ n1, n' = n1 + 1 := ⟨n' - 1, by omega⟩
      rw [mrun, mrun, hx, g0]
      simp only []
      rw [show (movedB q x).o = x.o from rfl, show (movedB q x).a = x.a from rfl, show (movedB q x).b = x.b from rfl]
      by_cases h19 : x.o = 19
      · have ha := F.2.2.2.1 (by simp [shA, h19])
        rw [if_pos h19, if_pos h19]
        exact ⟨(hr.2.2 _ (by omega)).symm, rfl⟩
      rw [if_neg h19, if_neg h19]
      by_cases h7 : x.o = 7 ∧ getN r x.b.toNat = 0
      · have hb := F.2.2.2.2.1 (by simp [shB, h7.1])
        rw [if_pos h7, if_pos ⟨h7.1, by rw [hr.2.2 _ (by omega)]; exact h7.2⟩]
        exact ⟨rfl, rfl⟩
      have h7' : ¬ (x.o = 7 ∧ getN r' x.b.toNat = 0) := by
        intro hc
        have hb := F.2.2.2.2.1 (by simp [shB, hc.1])
        exact h7 ⟨hc.1, by rw [← hr.2.2 _ (by omega)]; exact hc.2⟩
      rw [if_neg h7, if_neg h7']
      have hnx := mnext_fine h hx h19 r
      have en : mnext (movedB q x) (placeB q at_) r' = placeB q (mnext x at_ r) := by
        unfold mnext
        rw [show (movedB q x).o = x.o from rfl, show (movedB q x).a = x.a from rfl, show (movedB q x).b = x.b from rfl]
        by_cases h14 : x.o = 14
        · rw [if_pos h14, if_pos h14]; simp [movedB, shT, h14]
        rw [if_neg h14, if_neg h14]
        by_cases h15 : 15 ≤ x.o
        · have hle : x.o ≤ 18 := by have := F.2.1; omega
          have ha := F.2.2.2.1 (by simp [shA]; omega)
          have hb := F.2.2.2.2.1 (by simp [shB]; omega)
          rw [if_pos h15, if_pos h15, hr.2.2 _ (by omega), hr.2.2 _ (by omega)]
          have hT : shT x.o = true := by simp [shT]; omega
          have hF : shF x.o = true := by simp [shF]; omega
          simp only [movedB, hT, hF, if_true, Int.toNat_natCast]
          split <;> rfl
        · rw [if_neg h15, if_neg h15]; omega
      have es : RegRel R (mset x d r) (mset (movedB q x) d r') := by
        unfold mset
        rw [show (movedB q x).o = x.o from rfl, show (movedB q x).a = x.a from rfl, show (movedB q x).b = x.b from rfl, show (movedB q x).d = x.d from rfl]
        by_cases hs : shD x.o = true
        · rw [if_pos hs, if_pos hs, mval_rel F hR hr q d hs]
          exact hr.set _ _
        · rw [if_neg hs, if_neg hs]; exact hr
      rw [en]
      have hlt : placeB q at_ < placeB q (mnext x at_ r) := placeB_mono q hnx.1
      exact ih _ _ _ _ _ _ hnx.2 (by omega) (by rw [blindQ_length]; omega) es
/-- A program that was blinded answers what the program answers. -/
theorem blind_says {regs : Int} {q : List R7} {ws d : List Int} (h : (mcheckP regs q).1 = 0) (hq : ∀ x ∈ q, x.ok) (hw : ∀ x ∈ ws, u32ok x) (hr : regs ≠ 64) (hl : q.length + 2 * hids q ≤ 65536) :
    (runP regs q d).1 = (runP (regs + 1) (blindQ q regs ws) d).1 ∧ (runP regs q d).2.2.1 = (runP (regs + 1) (blindQ q regs ws) d).2.2.1 := by
  obtain ⟨z1, z2, z3, z4, -, -⟩ := mcheckP_zero h
  have er : ∀ (rg : Int) (p : List R7), (mcheckP rg p).1 = 0 → runP rg p d = if d.length ≠ 64 then (0, 0, 21, 0) else mrun p d p.length 0 (List.replicate rg.toNat 0) 0 := by
    intro rg p hp
    unfold runP
    rw [if_neg (by simp [hp])]
  rw [er _ _ h, er _ _ (by rw [blind_check h hr hl])]
  by_cases h64 : d.length = 64
  · rw [if_neg (by simp [h64]), if_neg (by simp [h64])]
    have e0 : placeB q 0 = 0 := by simp [placeB, hids]
    have := mrun_blind (ws := ws) (d := d) h hq hw regs.toNat (by omega) q.length 0 (List.replicate regs.toNat 0) (List.replicate (regs + 1).toNat 0) 0 0 (blindQ q regs ws).length z3 (by omega) (by omega) ⟨by simp, by simp; omega, fun i hi => by
      unfold getN; rw [List.getD_eq_getElem?_getD, List.getD_eq_getElem?_getD, List.getElem?_replicate, List.getElem?_replicate, if_pos hi, if_pos (by omega)]⟩
    rw [e0] at this
    exact this
  · rw [if_pos h64, if_pos h64]
    exact ⟨rfl, rfl⟩
theorem blindP_says {regs : Int} {q : List R7} {ws d : List Int} (hq : ∀ x ∈ q, x.ok) (hw : ∀ x ∈ ws, u32ok x) (he : (blindP regs q ws).2.2 = 0) :
    (runP regs q d).1 = (runP (blindP regs q ws).1 (blindP regs q ws).2.1 d).1 ∧ (runP regs q d).2.2.1 = (runP (blindP regs q ws).1 (blindP regs q ws).2.1 d).2.2.1 ∧ mcheckP (blindP regs q ws).1 (blindP regs q ws).2.1 = (0, 0) := by
  unfold blindP at he ⊢
  by_cases h1 : (mcheckP regs q).1 ≠ 0
  · rw [if_pos h1] at he; simp at he
  rw [if_neg h1] at he ⊢
  have h1' : (mcheckP regs q).1 = 0 := by simpa using h1
  by_cases h2 : hids q = 0
  · rw [if_pos h2]
    refine ⟨rfl, rfl, ?_⟩
    obtain ⟨z1, z2, z3, z4, z5, z6⟩ := mcheckP_zero h1'
    exact mcheck_of_fine z1 z2 z3 z4 (fun i x hx => fine_at h1' hx) z6
  rw [if_neg h2] at he ⊢
  by_cases h3 : regs = 64
  · rw [if_pos h3] at he; simp at he
  rw [if_neg h3] at he ⊢
  by_cases h4 : 65536 < q.length + 2 * hids q
  · rw [if_pos h4] at he; simp at he
  rw [if_neg h4]
  have := blind_says (ws := ws) (d := d) h1' hq hw h3 (by omega)
  exact ⟨this.1, this.2, blind_check h1' h3 (by omega)⟩
theorem blindOne_ok {regs : Int} {q : List R7} {ws : List Int} (h : (mcheckP regs q).1 = 0) (hq : ∀ x ∈ q, x.ok) (hw : ∀ x ∈ ws, u32ok x) {m : Nat} {x : R7} (hx : q[m]? = some x) : ∀ y ∈ blindOne q regs ws m x, y.ok := by
  intro y hy
  have hxo := hq x (List.mem_of_getElem? hx)
  obtain ⟨z1, z2, z3, z4, -, -⟩ := mcheckP_zero h
  obtain ⟨f1, f2, fd, fa, fb, fk, ft, ff⟩ := fine_at h hx
  obtain ⟨o1, o2, o3, o4, o5, o6, o7⟩ := hxo
  have hwk : u32ok (wordB q ws m) := getN_ok hw _
  have hxw := bits_u32 .xor x.k (wordB q ws m)
  have hr : inI64 regs := by simp only [inI64]; omega
  have hp : ∀ i, i < q.length → inI64 (placeB q i : Int) := by
    intro i hi
    have := placeB_mono q hi
    have := placeB_end q
    have : hids q ≤ q.length := List.countP_le_length
    simp only [inI64]; omega
  unfold blindOne at hy
  split at hy
  · simp only [List.mem_cons, List.mem_nil_iff, or_false] at hy
    rcases hy with rfl | rfl | rfl
    · exact ⟨by simp [inI64], o2, by simp [inI64], by simp [inI64], hxw, by simp [inI64], by simp [inI64]⟩
    · exact ⟨by simp [inI64], hr, by simp [inI64], by simp [inI64], hwk, by simp [inI64], by simp [inI64]⟩
    · exact ⟨by simp [inI64], o2, o2, hr, by simp, by simp [inI64], by simp [inI64]⟩
  · simp only [List.mem_cons, List.mem_nil_iff, or_false] at hy
    subst hy
    refine ⟨o1, o2, o3, o4, o5, ?_, ?_⟩
    · simp only [movedB]
      split
      · next hs => have := ft hs; exact hp _ (by omega)
      · exact o6
    · simp only [movedB]
      split
      · next hs => have := ff hs; exact hp _ (by omega)
      · exact o7
theorem blindL_ok {regs : Int} {q : List R7} {ws : List Int} (h : (mcheckP regs q).1 = 0) (hq : ∀ x ∈ q, x.ok) (hw : ∀ x ∈ ws, u32ok x) (n : Nat) (hn : n ≤ q.length) : ∀ y ∈ blindL q regs ws n, y.ok := by
  intro y hy
  obtain ⟨i, hi⟩ := List.getElem?_of_mem hy
  obtain ⟨m, x, j, hx, rfl, hj⟩ := blindL_mem q regs ws n hn i y hi
  exact blindOne_ok h hq hw hx y (List.mem_of_getElem? hj)
end Go.Proofs.Ytalhjbncloobpaa
