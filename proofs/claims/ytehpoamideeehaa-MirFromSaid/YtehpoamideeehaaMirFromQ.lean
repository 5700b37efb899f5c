import Derived.Test.YtehpoamideeehaaMirFromP
set_option linter.unusedVariables false
set_option linter.unusedSimpArgs false
namespace Go.Proofs.Ytehpoamideeehaa
open Go.RowKit
/-! mir.From's program is right; its constants. -/
theorem wrong_ok {regs len a : Int} {x : R7} (h : Fine regs len a x) : wrongP regs len a x = 0 := by
  obtain ⟨h1, h2, h3, h4, h5, h6, h7, h8⟩ := h
  unfold wrongP
  rw [if_neg (by simp [known, h1, h2])]
  rw [if_neg (by
    simp only [regB, Bool.not_eq_false, Bool.and_eq_true, Bool.or_eq_true, Bool.not_eq_true', decide_eq_true_eq]
    refine ⟨⟨?_, ?_⟩, ?_⟩
    · cases e : shD x.o with
      | false => exact .inl rfl
      | true => exact .inr (h3 e)
    · cases e : shA x.o with
      | false => exact .inl rfl
      | true => exact .inr (h4 e)
    · cases e : shB x.o with
      | false => exact .inl rfl
      | true => exact .inr (h5 e))]
  rw [if_neg (by
    simp only [Bool.and_eq_true, beq_iff_eq, Bool.or_eq_true, bne_iff_ne, ne_eq, decide_eq_true_eq, not_and, not_or]
    intro e
    have := h6 e
    omega)]
  rw [if_neg (by
    simp only [aheadB, Bool.not_eq_false, Bool.and_eq_true, Bool.or_eq_true, Bool.not_eq_true', decide_eq_true_eq]
    refine ⟨?_, ?_⟩
    · cases e : shT x.o with
      | false => exact .inl rfl
      | true => exact .inr (h7 e)
    · cases e : shF x.o with
      | false => exact .inl rfl
      | true => exact .inr (h8 e))]
theorem fineMk {regs len p o d a b k t f : Int} (h1 : 1 ≤ o) (h2 : o ≤ 19) (h3 : shD o = true → 0 ≤ d ∧ d < regs) (h4 : shA o = true → 0 ≤ a ∧ a < regs) (h5 : shB o = true → 0 ≤ b ∧ b < regs) (h6 : o = 3 → k % 4 = 0 ∧ k < 64) (h7 : shT o = true → p < t ∧ t < len) (h8 : shF o = true → p < f ∧ f < len) : Fine regs len p ⟨o, d, a, b, k, t, f⟩ := ⟨h1, h2, h3, h4, h5, h6, h7, h8⟩
theorem fine_const {len a : Int} (d k : Int) (hd : 0 ≤ d ∧ d < 19) : Fine 19 len a ⟨1, d, 0, 0, k, 0, 0⟩ :=
  fineMk (by decide) (by decide) (fun _ => hd) (fun h => absurd h (by decide)) (fun h => absurd h (by decide)) (fun h => absurd h (by decide)) (fun h => absurd h (by decide)) (fun h => absurd h (by decide))
theorem fine_move {len a : Int} (d s : Int) (hd : 0 ≤ d ∧ d < 19) (hs : 0 ≤ s ∧ s < 19) : Fine 19 len a ⟨2, d, s, 0, 0, 0, 0⟩ :=
  fineMk (by decide) (by decide) (fun _ => hd) (fun _ => hs) (fun h => absurd h (by decide)) (fun h => absurd h (by decide)) (fun h => absurd h (by decide)) (fun h => absurd h (by decide))
theorem fine_ret {len a : Int} (s : Int) (hs : 0 ≤ s ∧ s < 19) : Fine 19 len a ⟨19, 0, s, 0, 0, 0, 0⟩ :=
  fineMk (by decide) (by decide) (fun h => absurd h (by decide)) (fun _ => hs) (fun h => absurd h (by decide)) (fun h => absurd h (by decide)) (fun h => absurd h (by decide)) (fun h => absurd h (by decide))
theorem fine_sum {len a : Int} (o b : Int) (ho : 4 ≤ o ∧ o ≤ 12) (hb : 0 ≤ b ∧ b < 19) : Fine 19 len a ⟨o, 0, 0, b, 0, 0, 0⟩ :=
  fineMk (by omega) (by omega) (fun _ => ⟨by decide, by decide⟩) (fun _ => ⟨by decide, by decide⟩) (fun _ => hb) (fun h => absurd h (by omega)) (fun h => absurd h (by simp [shT]; omega)) (fun h => absurd h (by simp [shF]; omega))
theorem settle_same {q : List I4} {y : R7} (h : shT y.o = false) : settleR q y = y := by
  have hf : shF y.o = false := by simp [shT] at h; simp [shF]; omega
  unfold settleR
  rw [if_neg (by rw [h]; decide), if_neg (by rw [hf]; decide)]
theorem rk_range (x : I4) : 0 ≤ rk x ∧ rk x < 19 := by unfold rk; split <;> omega
theorem mem_range {x : I4} (h : 0 ≤ x.k) : 0 ≤ memK x ∧ memK x < 19 := by unfold memK; omega
theorem lay_plain {x : I4} (h : x.c ∈ plainC) (a n : Nat) : x.c = 32 ∧ layR a n x = [⟨3, 0, 0, 0, x.k, 0, 0⟩] ∨ x.c = 128 ∧ layR a n x = [⟨1, 0, 0, 0, 64, 0, 0⟩] ∨ x.c = 129 ∧ layR a n x = [⟨1, 1, 0, 0, 64, 0, 0⟩]
    ∨ x.c = 0 ∧ layR a n x = [⟨1, 0, 0, 0, x.k, 0, 0⟩] ∨ x.c = 1 ∧ layR a n x = [⟨1, 1, 0, 0, x.k, 0, 0⟩] ∨ x.c = 96 ∧ layR a n x = [⟨2, 0, memK x, 0, 0, 0, 0⟩] ∨ x.c = 97 ∧ layR a n x = [⟨2, 1, memK x, 0, 0, 0, 0⟩]
    ∨ x.c = 2 ∧ layR a n x = [⟨2, memK x, 0, 0, 0, 0, 0⟩] ∨ x.c = 3 ∧ layR a n x = [⟨2, memK x, 1, 0, 0, 0, 0⟩] ∨ x.c = 7 ∧ layR a n x = [⟨2, 1, 0, 0, 0, 0, 0⟩] ∨ x.c = 135 ∧ layR a n x = [⟨2, 0, 1, 0, 0, 0, 0⟩]
    ∨ x.c = 132 ∧ layR a n x = [⟨13, 0, 0, 0, 0, 0, 0⟩] ∨ x.c = 6 ∧ layR a n x = [⟨1, 18, 0, 0, x.k, 0, 0⟩, ⟨19, 0, 18, 0, 0, 0, 0⟩] ∨ x.c = 22 ∧ layR a n x = [⟨19, 0, 0, 0, 0, 0, 0⟩]
    ∨ x.c = 5 ∧ layR a n x = [⟨14, 0, 0, 0, 0, (a : Int) + 1 + x.k, 0⟩] ∨ x.c = 60 ∧ layR a n x = [⟨1, 18, 0, 0, 0, 0, 0⟩, ⟨15, 0, 1, 18, 0, -((n : Int) + 2), -((n : Int) + 3)⟩, ⟨19, 0, 18, 0, 0, 0, 0⟩, ⟨7, 0, 0, 1, 0, 0, 0⟩] := by
  simp only [plainC, List.mem_cons, List.not_mem_nil, or_false] at h
  rcases h with h | h | h | h | h | h | h | h | h | h | h | h | h | h | h | h
  all_goals (simp only [layR, h]; simp)
theorem lay_fine {q : List I4} (hacc : (checkP q).1 = 0) (hq : ∀ x ∈ q, x.ok) {i : Nat} {x : I4} (hx : q[i]? = some x) {k : Nat} {y : R7} (hy : (layR i (beginN q i) x)[k]? = some y) :
    Fine 19 (beginN q q.length) ((beginN q i + k : Nat) : Int) (settleR q y) := by
  have hi := (List.getElem?_eq_some_iff.1 hx).1
  have hk := (List.getElem?_eq_some_iff.1 hy).1
  have hg := good_at hacc hx
  obtain ⟨c0, c1, j0, j1, f0, f1, k0, k1⟩ := hq x (List.mem_of_getElem? hx)
  have hb := begin_succ hx
  have hend := begin_mono (q := q) (i := i + 1) (j := q.length) (by omega)
  have target : ∀ t : Int, 0 ≤ t → t < ((q.length - i - 1 : Nat) : Int) → ((beginN q i + k : Nat) : Int) < (beginN q (((i : Int) + 1 + t).toNat) : Int) ∧ (beginN q (((i : Int) + 1 + t).toNat) : Int) < (beginN q q.length : Int) := by
    intro t h1 h2
    have m1 := begin_mono (q := q) (i := i + 1) (j := ((i : Int) + 1 + t).toNat) (by omega)
    have m2 := begin_lt (q := q) (i := ((i : Int) + 1 + t).toNat) (j := q.length) (by omega) (by omega)
    omega
  rcases code_parts hg with ⟨h, h60⟩ | h | h
  · rw [lay_alu _ _ h h60] at hy
    have ho := mop_range h
    have hpre : ∀ z ∈ preK x, z = ⟨1, 18, 0, 0, x.k, 0, 0⟩ := fun z hz => by unfold preK at hz; split at hz <;> simp at hz; exact hz
    have hm := List.mem_of_getElem? hy
    rcases List.mem_append.1 hm with hm | hm
    · rw [hpre y hm, settle_same (by rfl)]
      exact fine_const _ _ (by decide)
    · simp at hm
      subst hm
      rw [settle_same (by simp [shT]; omega)]
      exact fine_sum _ _ ho (rk_range x)
  · rw [lay_jump _ _ h] at hy
    have ho := mq_range h
    obtain ⟨g1, g2⟩ := hg.jump h
    have hm := List.mem_of_getElem? hy
    rcases List.mem_append.1 hm with hm | hm
    · have hpre : y = ⟨1, 18, 0, 0, x.k, 0, 0⟩ := by unfold preK at hm; split at hm <;> simp at hm; exact hm
      rw [hpre, settle_same (by rfl)]
      exact fine_const _ _ (by decide)
    · simp at hm
      subst hm
      have hT : shT (mq x.c) = true := by simp [shT]; omega
      have hF : shF (mq x.c) = true := by simp [shF]; omega
      have r := rk_range x
      have tj := target x.j j0 g1
      have tf := target x.f f0 g2
      unfold settleR
      dsimp only
      rw [if_pos hT, if_pos hF, if_neg (by omega), if_neg (by omega)]
      exact fineMk (by omega) (by omega) (fun h => absurd h (by simp [shD]; omega)) (fun _ => ⟨by decide, by decide⟩) (fun _ => r) (fun h => absurd h (by omega)) (fun _ => tj) (fun _ => tf)
  · have hmr := mem_range (x := x) k0
    rcases lay_plain h i (beginN q i) with ⟨e, hl⟩ | ⟨e, hl⟩ | ⟨e, hl⟩ | ⟨e, hl⟩ | ⟨e, hl⟩ | ⟨e, hl⟩ | ⟨e, hl⟩ | ⟨e, hl⟩ | ⟨e, hl⟩ | ⟨e, hl⟩ | ⟨e, hl⟩ | ⟨e, hl⟩ | ⟨e, hl⟩ | ⟨e, hl⟩ | ⟨e, hl⟩ | ⟨e, hl⟩
    · rw [hl] at hy hk
      have hld := hg.load e
      obtain rfl : k = 0 := by simp at hk; exact hk
      simp at hy; subst hy
      rw [settle_same (by rfl)]
      exact fineMk (by decide) (by decide) (fun _ => ⟨by decide, by decide⟩) (fun h => absurd h (by decide)) (fun h => absurd h (by decide)) (fun _ => hld) (fun h => absurd h (by decide)) (fun h => absurd h (by decide))
    · rw [hl] at hy hk
      obtain rfl : k = 0 := by simp at hk; exact hk
      simp at hy; subst hy
      rw [settle_same (by rfl)]
      exact fine_const _ _ (by decide)
    · rw [hl] at hy hk
      obtain rfl : k = 0 := by simp at hk; exact hk
      simp at hy; subst hy
      rw [settle_same (by rfl)]
      exact fine_const _ _ (by decide)
    · rw [hl] at hy hk
      obtain rfl : k = 0 := by simp at hk; exact hk
      simp at hy; subst hy
      rw [settle_same (by rfl)]
      exact fine_const _ _ (by decide)
    · rw [hl] at hy hk
      obtain rfl : k = 0 := by simp at hk; exact hk
      simp at hy; subst hy
      rw [settle_same (by rfl)]
      exact fine_const _ _ (by decide)
    · rw [hl] at hy hk
      obtain rfl : k = 0 := by simp at hk; exact hk
      simp at hy; subst hy
      rw [settle_same (by rfl)]
      exact fine_move _ _ (by decide) hmr
    · rw [hl] at hy hk
      obtain rfl : k = 0 := by simp at hk; exact hk
      simp at hy; subst hy
      rw [settle_same (by rfl)]
      exact fine_move _ _ (by decide) hmr
    · rw [hl] at hy hk
      obtain rfl : k = 0 := by simp at hk; exact hk
      simp at hy; subst hy
      rw [settle_same (by rfl)]
      exact fine_move _ _ hmr (by decide)
    · rw [hl] at hy hk
      obtain rfl : k = 0 := by simp at hk; exact hk
      simp at hy; subst hy
      rw [settle_same (by rfl)]
      exact fine_move _ _ hmr (by decide)
    · rw [hl] at hy hk
      obtain rfl : k = 0 := by simp at hk; exact hk
      simp at hy; subst hy
      rw [settle_same (by rfl)]
      exact fine_move _ _ (by decide) (by decide)
    · rw [hl] at hy hk
      obtain rfl : k = 0 := by simp at hk; exact hk
      simp at hy; subst hy
      rw [settle_same (by rfl)]
      exact fine_move _ _ (by decide) (by decide)
    · rw [hl] at hy hk
      obtain rfl : k = 0 := by simp at hk; exact hk
      simp at hy; subst hy
      rw [settle_same (by rfl)]
      exact fineMk (by decide) (by decide) (fun _ => ⟨by decide, by decide⟩) (fun _ => ⟨by decide, by decide⟩) (fun h => absurd h (by decide)) (fun h => absurd h (by decide)) (fun h => absurd h (by decide)) (fun h => absurd h (by decide))
    · rw [hl] at hy hk
      have : k = 0 ∨ k = 1 := by simp at hk; omega
      rcases this with rfl | rfl
      · simp at hy; subst hy; rw [settle_same (by rfl)]; exact fine_const _ _ (by decide)
      · simp at hy; subst hy; rw [settle_same (by rfl)]; exact fine_ret _ (by decide)
    · rw [hl] at hy hk
      obtain rfl : k = 0 := by simp at hk; exact hk
      simp at hy; subst hy
      rw [settle_same (by rfl)]
      exact fine_ret _ (by decide)
    · rw [hl] at hy hk
      obtain rfl : k = 0 := by simp at hk; exact hk
      simp at hy; subst hy
      have tk := target x.k k0 (hg.ja e)
      unfold settleR
      dsimp only
      rw [if_pos (by decide), if_neg (by omega), if_neg (by decide)]
      exact fineMk (by decide) (by decide) (fun h => absurd h (by decide)) (fun h => absurd h (by decide)) (fun h => absurd h (by decide)) (fun h => absurd h (by decide)) (fun _ => tk) (fun h => absurd h (by decide))
    · rw [hl] at hy hk hb
      have : k = 0 ∨ k = 1 ∨ k = 2 ∨ k = 3 := by simp at hk; omega
      simp at hb
      rcases this with rfl | rfl | rfl | rfl
      · simp at hy; subst hy; rw [settle_same (by rfl)]; exact fine_const _ _ (by decide)
      · simp at hy; subst hy
        unfold settleR
        dsimp only
        rw [if_pos (by decide), if_pos (by omega), if_pos (by decide), if_pos (by omega)]
        exact fineMk (by decide) (by decide) (fun h => absurd h (by decide)) (fun _ => ⟨by decide, by decide⟩) (fun _ => ⟨by decide, by decide⟩) (fun h => absurd h (by decide)) (fun _ => ⟨by omega, by omega⟩) (fun _ => ⟨by omega, by omega⟩)
      · simp at hy; subst hy; rw [settle_same (by rfl)]; exact fine_ret _ (by decide)
      · simp at hy; subst hy; rw [settle_same (by rfl)]; exact fine_sum _ _ (by decide) (by decide)
theorem settle_o (q : List I4) (y : R7) : (settleR q y).o = y.o := rfl
theorem from_right {q : List I4} (hacc : (checkP q).1 = 0) (hq : ∀ x ∈ q, x.ok) : mcheckP 19 (fromP q) = (0, 0) := by
  obtain ⟨h0, h1, -, -⟩ := acc_facts hacc
  have hlen := from_len q
  have hle := begin_le q q.length
  have hpos := begin_lt (q := q) (i := 0) (j := q.length) h0 h0
  have key : ∀ a, a < (fromP q).length → wrongQ 19 (fromP q) a = 0 := by
    intro a ha
    rw [hlen] at ha
    obtain ⟨i, x, k, e1, e2, rfl, e4⟩ := from_of q.length (Nat.le_refl _) a ha
    obtain ⟨y, hy⟩ : ∃ y, (layR i (beginN q i) x)[k]? = some y := ⟨_, List.getElem?_eq_getElem e4⟩
    unfold wrongQ
    rw [from_at e2 hy]
    simp only
    rw [hlen]
    exact wrong_ok (lay_fine hacc hq e2 hy)
  have hlast : lastO (fromP q) = 19 := by
    obtain ⟨x, hx⟩ : ∃ x, q[q.length - 1]? = some x := ⟨_, List.getElem?_eq_getElem (by omega)⟩
    have hs := begin_succ hx
    rw [show q.length - 1 + 1 = q.length by omega] at hs
    rcases acc_last hacc hx (by omega) with hc | hc
    · have hl : layR (q.length - 1) (beginN q (q.length - 1)) x = [⟨1, 18, 0, 0, x.k, 0, 0⟩, ⟨19, 0, 18, 0, 0, 0, 0⟩] := by simp [layR, hc]
      have := from_at hx (k := 1) (y := ⟨19, 0, 18, 0, 0, 0, 0⟩) (by rw [hl]; rfl)
      unfold lastO
      rw [hlen, hs, hl, show beginN q (q.length - 1) + [(⟨1, 18, 0, 0, x.k, 0, 0⟩ : R7), ⟨19, 0, 18, 0, 0, 0, 0⟩].length - 1 = beginN q (q.length - 1) + 1 by simp, this]
      rfl
    · have hl : layR (q.length - 1) (beginN q (q.length - 1)) x = [⟨19, 0, 0, 0, 0, 0, 0⟩] := by simp [layR, hc]
      have := from_at hx (k := 0) (y := ⟨19, 0, 0, 0, 0, 0, 0⟩) (by rw [hl]; rfl)
      unfold lastO
      rw [hlen, hs, hl, show beginN q (q.length - 1) + [(⟨19, 0, 0, 0, 0, 0, 0⟩ : R7)].length - 1 = beginN q (q.length - 1) + 0 by simp, this]
      rfl
  unfold mcheckP
  rw [if_neg (by omega), if_neg (by omega)]
  have hf : (List.range (fromP q).length).find? (fun i => wrongQ 19 (fromP q) i != 0) = none := by
    rw [List.find?_eq_none]
    intro j hj
    simp [key j (by simpa using hj)]
  rw [hf]
  simp only
  rw [if_pos hlast]
/-- Which numbers a program may hand on. -/
def mineB (c : Int) : Bool := c == 6 || c == 0 || c == 1 || (bits .and .u16 c 7 == 4 && bits .and .u16 c 8 == 0 && c != 132) || (bits .and .u16 c 7 == 5 && bits .and .u16 c 8 == 0 && c != 5)
def constB (q : List I4) (k : Int) : Bool := k == 0 || k == 64 || q.any (fun x => mineB x.c && x.k == k)
theorem from_const {q : List I4} (hacc : (checkP q).1 = 0) {a : Nat} {y : R7} (hy : (fromP q)[a]? = some y) (ho : y.o = 1) : constB q y.k = true := by
  have ha := (List.getElem?_eq_some_iff.1 hy).1
  rw [from_len] at ha
  obtain ⟨i, x, k, e1, e2, rfl, e4⟩ := from_of q.length (Nat.le_refl _) a ha
  obtain ⟨z, hz⟩ : ∃ z, (layR i (beginN q i) x)[k]? = some z := ⟨_, List.getElem?_eq_getElem e4⟩
  rw [from_at e2 hz] at hy
  injection hy with hy
  subst hy
  rw [settle_o] at ho
  show constB q z.k = true
  have hg := good_at hacc e2
  have hmine : mineB x.c = true → x.k = z.k → constB q z.k = true := by
    intro h1 h2
    unfold constB
    have : q.any (fun x => mineB x.c && x.k == z.k) = true := List.any_eq_true.2 ⟨x, List.mem_of_getElem? e2, by simp [h1, h2]⟩
    rw [this]; simp
  have hm := List.mem_of_getElem? hz
  rcases code_parts hg with ⟨h, h60⟩ | h | h
  · rw [lay_alu _ _ h h60] at hm
    have hr := mop_range h
    rcases List.mem_append.1 hm with hm | hm
    · unfold preK at hm
      split at hm
      · simp at hm
      · rename_i hb
        simp at hm
        subst hm
        refine hmine ?_ rfl
        have h8 : (bits .and .u16 x.c 8 == 0) = true := by simpa [xBit] using hb
        have : ∀ c ∈ aluL, (bits .and .u16 c 7 == 4 && c != 132) = true := by decide +kernel
        have := this _ h
        unfold mineB
        simp at this h8 ⊢
        simp [this, h8]
    · simp at hm; subst hm; dsimp only at ho; omega
  · rw [lay_jump _ _ h] at hm
    have hr := mq_range h
    rcases List.mem_append.1 hm with hm | hm
    · unfold preK at hm
      split at hm
      · simp at hm
      · rename_i hb
        simp at hm
        subst hm
        refine hmine ?_ rfl
        have h8 : (bits .and .u16 x.c 8 == 0) = true := by simpa [xBit] using hb
        have : ∀ c ∈ jumpL, (bits .and .u16 c 7 == 5 && c != 5) = true := by decide +kernel
        have := this _ h
        unfold mineB
        simp at this h8 ⊢
        simp [this, h8]
    · simp at hm; subst hm; dsimp only at ho; omega
  · rcases lay_plain h i (beginN q i) with ⟨e, hl⟩ | ⟨e, hl⟩ | ⟨e, hl⟩ | ⟨e, hl⟩ | ⟨e, hl⟩ | ⟨e, hl⟩ | ⟨e, hl⟩ | ⟨e, hl⟩ | ⟨e, hl⟩ | ⟨e, hl⟩ | ⟨e, hl⟩ | ⟨e, hl⟩ | ⟨e, hl⟩ | ⟨e, hl⟩ | ⟨e, hl⟩ | ⟨e, hl⟩
    all_goals (
      rw [hl] at hm
      simp only [List.mem_cons, List.not_mem_nil, or_false] at hm
      first
        | (subst hm; exfalso; simp at ho; done)
        | (subst hm; first | (simp [constB]; done) | exact hmine (by rw [e]; decide +kernel) rfl)
        | (rcases hm with rfl | rfl | rfl | rfl
           · simp [constB]
           · exfalso; simp at ho
           · exfalso; simp at ho
           · exfalso; simp at ho)
        | (rcases hm with rfl | rfl
           · exact hmine (by rw [e]; decide +kernel) rfl
           · exfalso; simp at ho))
end Go.Proofs.Ytehpoamideeehaa
