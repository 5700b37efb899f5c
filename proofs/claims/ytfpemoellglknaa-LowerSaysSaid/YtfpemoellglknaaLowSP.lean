import Derived.Test.YtfpemoellglknaaLowF
import Derived.Test.YtfpemoellglknaaCbpfAcc
set_option linter.unusedVariables false
set_option linter.unusedSimpArgs false
namespace Go.Proofs.Ytfpemoellglknaa
open Go.RowKit
/-! Plain: a decision's run; its program is accepted and answers the same. -/
def testN (op a k : Int) : Bool := if op = 1 then a == k else if op = 2 then decide (k < a) else if op = 3 then decide (k ≤ a) else bits .and .u32 a k != 0
def nextN (x : N8) (w : Int) : Int := if testN x.op (bits .and .u32 w x.msk) x.k = true then x.t else x.f
/-- From a node on: the word, how many nodes. -/
def goD (q : List N8) (b : List Int) : Nat → Nat → Nat → Int × Nat
  | 0, _, n => (0, n)
  | fuel + 1, i, n => match q[i]? with
    | none => (0, n)
    | some x => if x.lf = true then (x.wd, n) else goD q b fuel (nextN x (wordP b x.off.toNat)).toNat (n + 1)
def runD (q : List N8) (b : List Int) : Int × Int × Int := if (checkD q).1 ≠ 0 then (0, 0, (checkD q).1) else ((goD q b q.length 0 1).1, ((goD q b q.length 0 1).2 : Int), 0)
/-! Where instructions are. -/
theorem place_get {q : List N8} {far : List (Bool × Bool)} {i : Nat} {x : N8} (hx : q[i]? = some x) : ∀ n, i < n → ∀ k, k < sizeN x (farAt far i) → (emitTo q far n)[placeN q far i + k]? = (emitN q far i x)[k]? := by
  intro n
  induction n with
  | zero => intro h; omega
  | succ n ih =>
    intro h k hk
    rw [emitTo]
    rcases Nat.lt_or_ge i n with h1 | h1
    · have h2 := placeN_mono (q := q) (far := far) (i := i + 1) (j := n) (by omega)
      rw [placeN_succ hx] at h2
      rw [List.getElem?_append_left (by rw [emitTo_len]; omega)]
      exact ih h1 k hk
    · obtain rfl : i = n := by omega
      rw [List.getElem?_append_right (by rw [emitTo_len]; omega), emitTo_len, hx]
      congr 1; omega
theorem place_of {q : List N8} {far : List (Bool × Bool)} : ∀ n, n ≤ q.length → ∀ a, a < placeN q far n → ∃ i x k, i < n ∧ q[i]? = some x ∧ a = placeN q far i + k ∧ k < sizeN x (farAt far i) := by
  intro n
  induction n with
  | zero => intro _ a h; simp [placeN] at h
  | succ n ih =>
    intro hn a h
    obtain ⟨x, hx⟩ : ∃ x, q[n]? = some x := ⟨_, List.getElem?_eq_getElem (by omega)⟩
    rw [placeN_succ hx] at h
    rcases Nat.lt_or_ge a (placeN q far n) with h1 | h1
    · obtain ⟨i, y, k, h2, h3, h4, h5⟩ := ih (by omega) a h1
      exact ⟨i, y, k, by omega, h3, h4, h5⟩
    · exact ⟨n, x, a - placeN q far n, by omega, hx, by omega, by omega⟩
theorem place_lt {q : List N8} {far : List (Bool × Bool)} {j : Nat} (h : j < q.length) : placeN q far j < placeN q far q.length := by
  have h2 := placeN_mono (q := q) (far := far) (i := j + 1) (j := q.length) (by omega)
  rw [placeN_succ (List.getElem?_eq_getElem h)] at h2
  have := (sizeN_bounds q[j] (farAt far j)).1
  omega
/-- A test's ways. -/
structure Ways (q : List N8) (far : List (Bool × Bool)) (i : Nat) (x : N8) (va vb : Bool) (J T F : Nat) : Prop where
  t : wayN q far i x x.t = (T : Int) - J - 1
  f : wayN q far i x x.f = (F : Int) - J - 1
  eT : T = placeN q far x.t.toNat
  eF : F = placeN q far x.f.toNat
  aT : J + 1 + b2n va + b2n vb ≤ T
  aF : J + 1 + b2n va + b2n vb ≤ F
  sT : va = false → (T : Int) - J - 1 ≤ 255
  sF : vb = false → (F : Int) - J - 1 ≤ 255
  lT : T < placeN q far q.length
  lF : F < placeN q far q.length
  j : J = placeN q far i + 1 + b2n (x.msk != ones32)
theorem ways_of {q : List N8} {far : List (Bool × Bool)} (hfx : farNext q far = far) {i : Nat} {x : N8} (hx : q[i]? = some x) (hl : x.lf = false) (hok : NodeOk q.length i x) {va vb : Bool} (hv : farAt far i = (va, vb)) :
    Ways q far i x va vb (jumpN x (placeN q far i)) (placeN q far x.t.toNat) (placeN q far x.f.toNat) := by
  have hone : farOne q far i x = (va, vb) := by rw [← farNext_get hx, hfx, hv]
  unfold farOne longN at hone
  rw [if_neg (by rw [hl]; decide), hv] at hone
  have w1 := way_ahead (q := q) (far := far) hx hl hok.t.1
  have w2 := way_ahead (q := q) (far := far) hx hl hok.f.1
  rw [hv] at w1 w2
  have t2 := hok.t.2
  have f2 := hok.f.2
  have t1 := hok.t.1
  have f1 := hok.f.1
  refine ⟨rfl, rfl, rfl, rfl, w1, w2, fun h => ?_, fun h => ?_, place_lt (by omega), place_lt (by omega), rfl⟩
  · have h1 := congrArg Prod.fst hone
    rw [h] at h1
    simpa using h1
  · have h1 := congrArg Prod.snd hone
    rw [h] at h1
    simpa using h1
theorem emitN_test {q : List N8} {far : List (Bool × Bool)} {i : Nat} {x : N8} {va vb : Bool} {J T F : Nat} (hl : x.lf = false) (hv : farAt far i = (va, vb)) (h : Ways q far i x va vb J T F) :
    emitN q far i x = [⟨32, 0, 0, x.off⟩] ++ (if (x.msk != ones32) = true then [⟨84, 0, 0, x.msk⟩] else []) ++ [⟨codeN x.op, if va = true then 0 else (T : Int) - J - 1, if vb = true then b2n va else (F : Int) - J - 1, x.k⟩]
      ++ (if va = true then [⟨5, 0, 0, (T : Int) - J - 1 - 1⟩] else []) ++ (if vb = true then [⟨5, 0, 0, (F : Int) - J - 1 - b2n va - 1⟩] else []) := by
  unfold emitN
  rw [if_neg (by rw [hl]; decide), hv, h.t, h.f]
/-! What an instruction does. -/
theorem crun_go {P : List I4} {d : List Int} {n a steps on : Nat} {s s' : CM} {i : I4} (h : P[a]? = some i) (hs : cstep d i s = .go on s') : crun P d (n + 1) a s steps = crun P d n (a + on) s' (steps + 1) := by
  rw [crun, h]; simp only [hs]
theorem crun_done {P : List I4} {d : List Int} {n a steps : Nat} {s : CM} {i : I4} {v : Int} (h : P[a]? = some i) (hs : cstep d i s = .done v) : crun P d (n + 1) a s steps = (v, ((steps + 1 : Nat) : Int), 0, 0) := by
  rw [crun, h]; simp only [hs]; simp
theorem cstep_ld (d : List Int) (s : CM) {off : Int} (h0 : 0 ≤ off) (h1 : off < 64) (h2 : off % 4 = 0) : cstep d ⟨32, 0, 0, off⟩ s = .go 1 { s with a := wordP d off.toNat } := by
  have hw : cwrong ⟨32, 0, 0, off⟩ = 0 := by
    unfold cwrong
    dsimp only
    rw [if_neg (by decide), if_neg (by omega), if_neg (by omega), if_neg (by omega)]
  unfold cstep
  rw [if_neg (by rw [hw]; decide)]
  dsimp only
  rw [if_neg (by decide), if_neg (by decide), if_neg (by decide), if_neg (by decide), if_neg (by decide)]
  rfl
theorem cstep_and (d : List Int) (s : CM) (m : Int) : cstep d ⟨84, 0, 0, m⟩ s = .go 1 { s with a := bits .and .u32 s.a m } := by
  have hw : cwrong ⟨84, 0, 0, m⟩ = 0 := by
    unfold cwrong
    dsimp only
    rw [if_neg (by decide), if_neg (by omega), if_neg (by omega), if_neg (by omega)]
  have ho : operC ⟨84, 0, 0, m⟩ s = m := by unfold operC; rw [if_neg (by show ¬ xBit 84 = true; decide +kernel)]
  have hm : mop 84 = 8 := by decide +kernel
  unfold cstep
  rw [if_neg (by rw [hw]; decide)]
  dsimp only
  rw [if_pos (by decide), if_neg (by omega), ho, hm]
  rfl
theorem cstep_ja (d : List Int) (s : CM) (k : Int) : cstep d ⟨5, 0, 0, k⟩ s = .go (1 + k.toNat) s := by
  have hw : cwrong ⟨5, 0, 0, k⟩ = 0 := by
    unfold cwrong
    dsimp only
    rw [if_neg (by decide), if_neg (by omega), if_neg (by omega), if_neg (by omega)]
  unfold cstep
  rw [if_neg (by rw [hw]; decide)]
  dsimp only
  rw [if_neg (by decide), if_neg (by decide), if_pos rfl]
theorem cstep_ret (d : List Int) (s : CM) (k : Int) : cstep d ⟨6, 0, 0, k⟩ s = .done k := by
  have hw : cwrong ⟨6, 0, 0, k⟩ = 0 := by
    unfold cwrong
    dsimp only
    rw [if_neg (by decide), if_neg (by omega), if_neg (by omega), if_neg (by omega)]
  unfold cstep
  rw [if_neg (by rw [hw]; decide)]
  dsimp only
  rw [if_neg (by decide), if_neg (by decide), if_neg (by decide), if_pos rfl]
theorem code_cases {op : Int} (h : 1 ≤ op ∧ op ≤ 4) : codeN op = 21 ∧ op = 1 ∨ codeN op = 37 ∧ op = 2 ∨ codeN op = 53 ∧ op = 3 ∨ codeN op = 69 ∧ op = 4 := by
  have : op = 1 ∨ op = 2 ∨ op = 3 ∨ op = 4 := by omega
  rcases this with rfl | rfl | rfl | rfl <;> decide
theorem cstep_jmp (d : List Int) (s : CM) {op : Int} (h : 1 ≤ op ∧ op ≤ 4) (j f k : Int) : cstep d ⟨codeN op, j, f, k⟩ s = .go (1 + (if testN op s.a k = true then j else f).toNat) s := by
  have key : ∀ c o : Int, (c = 21 ∧ o = 15) ∨ (c = 37 ∧ o = 16) ∨ (c = 53 ∧ o = 17) ∨ (c = 69 ∧ o = 18) → cstep d ⟨c, j, f, k⟩ s = .go (1 + (if saysP o s.a k = true then j else f).toNat) s := by
    intro c o hc
    have kx : xBit c = false ∧ mq c = o := by rcases hc with ⟨rfl, rfl⟩ | ⟨rfl, rfl⟩ | ⟨rfl, rfl⟩ | ⟨rfl, rfl⟩ <;> decide +kernel
    obtain ⟨k1, k2⟩ := kx
    rcases hc with ⟨rfl, rfl⟩ | ⟨rfl, rfl⟩ | ⟨rfl, rfl⟩ | ⟨rfl, rfl⟩
    all_goals (
      unfold cstep
      rw [if_neg (by unfold cwrong; dsimp only; rw [if_neg (by decide), if_neg (by omega), if_neg (by omega), if_neg (by omega)]; decide)]
      dsimp only
      rw [if_neg (by decide), if_pos (by decide)]
      unfold wayC operC
      dsimp only
      rw [k1, k2]
      simp only [Bool.false_eq_true, if_false]
      done)
  rcases code_cases h with ⟨e, rfl⟩ | ⟨e, rfl⟩ | ⟨e, rfl⟩ | ⟨e, rfl⟩
  · rw [key _ 15 (.inl ⟨e, rfl⟩)]; rfl
  · rw [key _ 16 (.inr (.inl ⟨e, rfl⟩))]; rfl
  · rw [key _ 17 (.inr (.inr (.inl ⟨e, rfl⟩)))]; rfl
  · rw [key _ 18 (.inr (.inr (.inr ⟨e, rfl⟩)))]; rfl
theorem and_ones {a : Int} (h : u32ok a) : bits .and .u32 a ones32 = a := by
  have := bits_mask .u32 32 (by decide) (fun n h h' => by rw [IntKind.wrap_u32]; omega) 32 (by decide) a h.1 h.2
  unfold ones32
  rw [show (4294967295 : Int) = 2 ^ 32 - 1 by decide, this]
  have := h.2
  have := h.1
  omega
end Go.Proofs.Ytfpemoellglknaa
