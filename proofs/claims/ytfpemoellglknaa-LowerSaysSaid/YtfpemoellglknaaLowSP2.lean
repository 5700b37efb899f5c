import Derived.Test.YtfpemoellglknaaLowSP
set_option linter.unusedVariables false
set_option linter.unusedSimpArgs false
namespace Go.Proofs.Ytfpemoellglknaa
open Go.RowKit
/-! Plain: one test of a decision's program. -/
theorem list_app3 {α : Type} (l : List α) (a : Nat) (x : α) (r : List α) (h : l.length = a) : (l ++ [x] ++ r)[a]? = some x := by
  rw [List.append_assoc, List.getElem?_append_right (by omega), h]; simp
/-- Its instructions, place by place. -/
structure Test (P : List I4) (x : N8) (p J : Nat) (va vb : Bool) (T F : Nat) : Prop where
  ld : P[p]? = some ⟨32, 0, 0, x.off⟩
  and : (x.msk != ones32) = true → P[p + 1]? = some ⟨84, 0, 0, x.msk⟩
  jmp : P[J]? = some ⟨codeN x.op, if va = true then 0 else (T : Int) - J - 1, if vb = true then b2n va else (F : Int) - J - 1, x.k⟩
  jaT : va = true → P[J + 1]? = some ⟨5, 0, 0, (T : Int) - J - 1 - 1⟩
  jaF : vb = true → P[J + 1 + b2n va]? = some ⟨5, 0, 0, (F : Int) - J - 1 - b2n va - 1⟩
theorem test_of {q : List N8} {far : List (Bool × Bool)} {i : Nat} {x : N8} {va vb : Bool} {J T F : Nat} (hx : q[i]? = some x) (hl : x.lf = false) (hv : farAt far i = (va, vb)) (h : Ways q far i x va vb J T F) :
    Test (emitTo q far q.length) x (placeN q far i) J va vb T F := by
  have hi := (List.getElem?_eq_some_iff.1 hx).1
  have hs : sizeN x (farAt far i) = 2 + b2n (x.msk != ones32) + b2n va + b2n vb := by unfold sizeN; rw [if_neg (by rw [hl]; decide), hv]
  have g : ∀ k, k < sizeN x (farAt far i) → _ := fun k hk => place_get hx q.length hi k hk
  have e := emitN_test hl hv h
  have hj := h.j
  rw [e] at g
  rw [hs] at g
  clear e
  have j1 : b2n true = 1 := rfl
  have j0 : b2n false = 0 := rfl
  refine ⟨?_, fun hm => ?_, ?_, fun ha => ?_, fun hb => ?_⟩
  · have := g 0 (by omega)
    rw [Nat.add_zero] at this
    rw [this]; simp
  · have := g 1 (by omega)
    rw [this, if_pos hm]; simp
  · have := g (1 + b2n (x.msk != ones32)) (by omega)
    rw [show placeN q far i + (1 + b2n (x.msk != ones32)) = J by omega] at this
    rw [this]
    cases hm : (x.msk != ones32) <;> simp [b2n]
  · subst ha
    have := g (1 + b2n (x.msk != ones32) + 1) (by omega)
    rw [show placeN q far i + (1 + b2n (x.msk != ones32) + 1) = J + 1 by omega] at this
    rw [this]
    cases hm : (x.msk != ones32) <;> simp [b2n]
  · subst hb
    have := g (1 + b2n (x.msk != ones32) + 1 + b2n va) (by omega)
    rw [show placeN q far i + (1 + b2n (x.msk != ones32) + 1 + b2n va) = J + 1 + b2n va by omega] at this
    rw [this]
    cases hm : (x.msk != ones32) <;> cases va <;> simp [b2n]
/-- How it runs. -/
theorem test_run {q : List N8} {far : List (Bool × Bool)} {i : Nat} {x : N8} {va vb : Bool} {J T F : Nat} (hok : NodeOk q.length i x) (hl : x.lf = false) (hv : farAt far i = (va, vb)) (h : Ways q far i x va vb J T F) {P : List I4} (ht : Test P x (placeN q far i) J va vb T F) {d : List Int} (hd : ∀ b ∈ d, 0 ≤ b ∧ b < 256) (s : CM) (steps n : Nat) (hn : sizeN x (farAt far i) ≤ n) :
    ∃ m s', 2 ≤ m ∧ m ≤ 4 ∧ m ≤ sizeN x (farAt far i) ∧ crun P d n (placeN q far i) s steps = crun P d (n - m) (placeN q far (nextN x (wordP d x.off.toNat)).toNat) s' (steps + m) := by
  have hs : sizeN x (farAt far i) = 2 + b2n (x.msk != ones32) + b2n va + b2n vb := by unfold sizeN; rw [if_neg (by rw [hl]; decide), hv]
  rw [hs] at hn ⊢
  obtain ⟨o0, o1, o2⟩ := hok.off
  have hj := h.j
  have hT := h.aT
  have hF := h.aF
  obtain ⟨W, hW⟩ : ∃ W, W = wordP d x.off.toNat := ⟨_, rfl⟩
  have hWok : u32ok W := by rw [hW]; exact wordP_ok hd _
  -- to the jump
  have tojump : ∃ s', s'.a = bits .and .u32 W x.msk ∧ ∀ n, crun P d (n + 1 + b2n (x.msk != ones32)) (placeN q far i) s steps = crun P d n J s' (steps + 1 + b2n (x.msk != ones32)) := by
    cases hm : (x.msk != ones32) with
    | true =>
      refine ⟨{ s with a := bits .and .u32 W x.msk }, rfl, fun n => ?_⟩
      rw [hm] at hj
      show crun P d (n + 1 + 1) _ _ _ = _
      rw [crun_go ht.ld (cstep_ld d s o0 o1 o2), crun_go (ht.and hm) (cstep_and d _ _), ← hW]
      rw [show placeN q far i + 1 + 1 = J by rw [hj]; rfl]
      rfl
    | false =>
      have hone : x.msk = ones32 := by simpa using hm
      refine ⟨{ s with a := W }, by dsimp only; rw [hone, and_ones hWok], fun n => ?_⟩
      rw [hm] at hj
      show crun P d (n + 1) _ _ _ = _
      rw [crun_go ht.ld (cstep_ld d s o0 o1 o2), ← hW]
      rw [show placeN q far i + 1 = J by rw [hj]; rfl]
      rfl
  obtain ⟨s', hsa, hrun⟩ := tojump
  have hstep := cstep_jmp d s' hok.op (if va = true then 0 else (T : Int) - J - 1) (if vb = true then b2n va else (F : Int) - J - 1) x.k
  rw [hsa] at hstep
  obtain ⟨b, hb⟩ : ∃ b, b = b2n (x.msk != ones32) := ⟨_, rfl⟩
  have hb1 : b ≤ 1 := by rw [hb]; unfold b2n; split <;> omega
  rw [← hb] at hrun hn hj ⊢
  have nx : nextN x (wordP d x.off.toNat) = if testN x.op (bits .and .u32 W x.msk) x.k = true then x.t else x.f := by unfold nextN; rw [← hW]
  rw [nx]
  cases htest : testN x.op (bits .and .u32 W x.msk) x.k with
  | true =>
    rw [htest] at hstep
    simp only [if_true] at hstep ⊢
    rw [← h.eT]
    cases hva : va with
    | true =>
      subst hva
      have hT' : J + 1 + 1 + b2n vb ≤ T := hT
      refine ⟨3 + b, s', by omega, by omega, by simp [b2n]; omega, ?_⟩
      have e := hrun (n - (3 + b) + 2)
      have hn' : 2 + b + 1 ≤ n := by have : b2n true = 1 := rfl; omega
      rw [show n - (3 + b) + 2 + 1 + b = n by omega] at e
      rw [e, crun_go ht.jmp hstep]
      simp only [if_true]
      rw [show J + (1 + (0 : Int).toNat) = J + 1 by omega, crun_go (ht.jaT rfl) (cstep_ja d _ _)]
      congr 1 <;> omega
    | false =>
      subst hva
      have hT' : J + 1 ≤ T := by have : b2n false = 0 := rfl; omega
      refine ⟨2 + b, s', by omega, by omega, by simp [b2n], ?_⟩
      have e := hrun (n - (2 + b) + 1)
      have hn' : 2 + b ≤ n := by omega
      rw [show n - (2 + b) + 1 + 1 + b = n by omega] at e
      rw [e, crun_go ht.jmp hstep]
      simp only [Bool.false_eq_true, if_false]
      congr 1 <;> omega
  | false =>
    rw [htest] at hstep
    simp only [Bool.false_eq_true, if_false] at hstep ⊢
    rw [← h.eF]
    cases hvb : vb with
    | true =>
      subst hvb
      have v1 : b2n va ≤ 1 := by unfold b2n; split <;> omega
      have hF' : J + 1 + b2n va + 1 ≤ F := hF
      refine ⟨3 + b, s', by omega, by omega, by simp [b2n]; omega, ?_⟩
      have e := hrun (n - (3 + b) + 2)
      have hn' : 2 + b + 1 ≤ n := by have : b2n true = 1 := rfl; omega
      rw [show n - (3 + b) + 2 + 1 + b = n by omega] at e
      have hja := ht.jaF rfl
      rw [e, crun_go ht.jmp hstep]
      simp only [if_true]
      rw [show J + (1 + ((b2n va : Nat) : Int).toNat) = J + 1 + b2n va by omega, crun_go hja (cstep_ja d _ _)]
      congr 1 <;> omega
    | false =>
      subst hvb
      have hF' : J + 1 ≤ F := by omega
      refine ⟨2 + b, s', by omega, by omega, by simp [b2n], ?_⟩
      have e := hrun (n - (2 + b) + 1)
      have hn' : 2 + b ≤ n := by omega
      rw [show n - (2 + b) + 1 + 1 + b = n by omega] at e
      rw [e, crun_go ht.jmp hstep]
      simp only [Bool.false_eq_true, if_false]
      congr 1 <;> omega
/-- From any node on. -/
theorem run_from {q : List N8} {far : List (Bool × Bool)} (hfx : farNext q far = far) (hc : (checkD q).1 = 0) {d : List Int} (hd : ∀ b ∈ d, 0 ≤ b ∧ b < 256) : ∀ (f i : Nat), q.length ≤ f + i → i < q.length → ∀ (n : Nat) (s : CM) (steps cnt : Nat), placeN q far q.length < n + placeN q far i →
    ∃ m c, crun (emitTo q far q.length) d n (placeN q far i) s steps = ((goD q d f i cnt).1, ((steps + m : Nat) : Int), 0, 0) ∧ (goD q d f i cnt).2 = cnt + c ∧ m ≤ 4 * c + 1 ∧ 2 * c + 1 ≤ m ∧ c + i < q.length := by
  intro f
  induction f with
  | zero => intro i h1 h2; omega
  | succ f ih =>
    intro i h1 h2 n s steps cnt hn
    obtain ⟨x, hx⟩ : ∃ x, q[i]? = some x := ⟨_, List.getElem?_eq_getElem h2⟩
    have hsz := placeN_mono (q := q) (far := far) (i := i + 1) (j := q.length) (by omega)
    rw [placeN_succ hx] at hsz
    have hb := sizeN_bounds x (farAt far i)
    rw [goD, hx]
    simp only
    cases hl : x.lf with
    | true =>
      rw [if_pos rfl]
      have hP := place_get hx q.length h2 0 (by omega) (far := far)
      have hE : emitN q far i x = [⟨6, 0, 0, x.wd⟩] := by unfold emitN; rw [if_pos hl]
      rw [hE, Nat.add_zero] at hP
      obtain ⟨n', rfl⟩ : ∃ n', n = n' + 1 := ⟨n - 1, by omega⟩
      exact ⟨1, 0, crun_done hP (cstep_ret d s _), rfl, by omega, by omega, by omega⟩
    | false =>
      rw [if_neg (by decide)]
      have hok := (checkD_zero hc).2.2 i x hx hl
      obtain ⟨⟨va, vb⟩, hv⟩ : ∃ v, farAt far i = v := ⟨_, rfl⟩
      have hw := ways_of hfx hx hl hok hv
      have ht := test_of hx hl hv hw
      obtain ⟨m, s', m1, m2, m3, hr⟩ := test_run hok hl hv hw ht hd s steps n (by omega)
      have hto : (nextN x (wordP d x.off.toNat)) = x.t ∨ (nextN x (wordP d x.off.toNat)) = x.f := by unfold nextN; split; exact .inl rfl; exact .inr rfl
      obtain ⟨N, hN⟩ : ∃ N, N = nextN x (wordP d x.off.toNat) := ⟨_, rfl⟩
      rw [← hN] at hr hto ⊢
      have hNb : (i : Int) < N ∧ N < q.length := by
        rcases hto with e | e
        · rw [e]; exact hok.t
        · rw [e]; exact hok.f
      have hpl := placeN_mono (q := q) (far := far) (i := i + 1) (j := N.toNat) (by omega)
      rw [placeN_succ hx] at hpl
      obtain ⟨m', c', e1, e2, e3, e4, e5⟩ := ih N.toNat (by omega) (by omega) (n - m) s' (steps + m) (cnt + 1) (by omega)
      refine ⟨m + m', c' + 1, ?_, by rw [e2]; omega, by omega, by omega, by omega⟩
      rw [hr, e1]
      rw [Nat.add_assoc]
/-- The whole run. -/
theorem run_all {q : List N8} {far : List (Bool × Bool)} (hfx : farNext q far = far) (hc : (checkD q).1 = 0) {d : List Int} (hd : ∀ b ∈ d, 0 ≤ b ∧ b < 256) (h64 : d.length = 64) :
    ∃ (v : Int) (m n : Nat), runC (emitTo q far q.length) d = (v, (m : Int), 0, 0) ∧ runD q d = (v, (n : Int), 0) ∧ m ≤ 5 * n ∧ min n 2 ≤ m ∧ 1 ≤ n ∧ n ≤ 4096 ∧ m ≤ 20480 := by
  obtain ⟨a1, a2, -⟩ := checkD_zero hc
  obtain ⟨m, c, e1, e2, e3, e4, e5⟩ := run_from hfx hc hd q.length 0 (by omega) a1 ((emitTo q far q.length).length + 1) CM.zero 0 1 (by rw [emitTo_len]; omega)
  have e1' : runC (emitTo q far q.length) d = ((goD q d q.length 0 1).1, ((m : Nat) : Int), 0, 0) := by
    unfold runC
    rw [if_neg (by simp [h64])]
    have h0 : placeN q far 0 = 0 := rfl
    rw [h0, Nat.zero_add] at e1
    exact e1
  refine ⟨(goD q d q.length 0 1).1, m, 1 + c, e1', ?_, by omega, by omega, by omega, by omega, by omega⟩
  unfold runD; rw [if_neg (by simp [hc]), e2]
/-! It is accepted. -/
theorem oneP_mk {x : I4} {L : Int} (h0 : br0 x L = false) (h1 : br1 x L = false) (h2 : br2 x L = false) (h3 : br3 x L = false) (h4 : br4 x L = false) (h5 : br5 x L = false) : oneP x L = 0 := by
  simp [oneP, brk, firstOf, h0, h1, h2, h3, h4, h5]
theorem one_plain {c : Int} (hc : c = 6 ∨ c = 84) (k L : Int) : oneP ⟨c, 0, 0, k⟩ L = 0 := by
  have hs : sealsL c = true ∧ (bits .and .u16 c 7 == 5) = false ∧ memC c [32] = false ∧ memC c [52] = false ∧ memC c [100, 116] = false ∧ memC c [96, 97, 2, 3] = false ∧ c ≠ 5 := by rcases hc with rfl | rfl <;> decide +kernel
  obtain ⟨s0, s1, s2, s3, s4, s5, s6⟩ := hs
  refine oneP_mk ?_ ?_ ?_ ?_ ?_ ?_
  · simp [br0, s0]
  · unfold br1; dsimp only; rw [if_neg s6, s1]; rfl
  · unfold br2; dsimp only; rw [s2]; rfl
  · unfold br3; dsimp only; rw [s3]; rfl
  · unfold br4; dsimp only; rw [s4]; rfl
  · unfold br5; dsimp only; rw [s5]; rfl
theorem one_ld {k L : Int} (h1 : k < 64) (h2 : k % 4 = 0) : oneP ⟨32, 0, 0, k⟩ L = 0 := by
  refine oneP_mk ?_ ?_ ?_ ?_ ?_ ?_
  · show (!sealsL 32) = false; decide
  · unfold br1; dsimp only; rw [if_neg (by decide), show (bits .and .u16 32 7 == 5) = false by decide +kernel]; rfl
  · unfold br2; dsimp only; rw [show memC 32 [32] = true by decide]; simp; omega
  · unfold br3; dsimp only; rw [show memC 32 [52] = false by decide]; rfl
  · unfold br4; dsimp only; rw [show memC 32 [100, 116] = false by decide]; rfl
  · unfold br5; dsimp only; rw [show memC 32 [96, 97, 2, 3] = false by decide]; rfl
theorem one_ja {k L : Int} (h : k < L) : oneP ⟨5, 0, 0, k⟩ L = 0 := by
  refine oneP_mk ?_ ?_ ?_ ?_ ?_ ?_
  · show (!sealsL 5) = false; decide
  · unfold br1; dsimp only; rw [if_pos rfl]; simpa using h
  · unfold br2; dsimp only; rw [show memC 5 [32] = false by decide]; rfl
  · unfold br3; dsimp only; rw [show memC 5 [52] = false by decide]; rfl
  · unfold br4; dsimp only; rw [show memC 5 [100, 116] = false by decide]; rfl
  · unfold br5; dsimp only; rw [show memC 5 [96, 97, 2, 3] = false by decide]; rfl
theorem one_jmp {op j f k L : Int} (ho : 1 ≤ op ∧ op ≤ 4) (h1 : j < L) (h2 : f < L) : oneP ⟨codeN op, j, f, k⟩ L = 0 := by
  have key : ∀ c : Int, (c = 21 ∨ c = 37 ∨ c = 53 ∨ c = 69) → oneP ⟨c, j, f, k⟩ L = 0 := by
    intro c hc
    have hs : sealsL c = true ∧ memC c [32] = false ∧ memC c [52] = false ∧ memC c [100, 116] = false ∧ memC c [96, 97, 2, 3] = false ∧ c ≠ 5 := by rcases hc with rfl | rfl | rfl | rfl <;> decide +kernel
    obtain ⟨s0, s2, s3, s4, s5, s6⟩ := hs
    refine oneP_mk ?_ ?_ ?_ ?_ ?_ ?_
    · simp [br0, s0]
    · unfold br1; dsimp only; rw [if_neg s6, show decide (L ≤ j) = false by simpa using h1, show decide (L ≤ f) = false by simpa using h2]; simp
    · unfold br2; dsimp only; rw [s2]; rfl
    · unfold br3; dsimp only; rw [s3]; rfl
    · unfold br4; dsimp only; rw [s4]; rfl
    · unfold br5; dsimp only; rw [s5]; rfl
  rcases code_cases ho with ⟨e, -⟩ | ⟨e, -⟩ | ⟨e, -⟩ | ⟨e, -⟩
  · exact key _ (.inl e)
  · exact key _ (.inr (.inl e))
  · exact key _ (.inr (.inr (.inl e)))
  · exact key _ (.inr (.inr (.inr e)))
theorem okK {c k : Int} (hc : 0 ≤ c ∧ c < 65536) (hk : 0 ≤ k ∧ k < 4294967296) : (⟨c, 0, 0, k⟩ : I4).ok := ⟨hc.1, hc.2, Int.le_refl 0, show (0 : Int) < 256 by decide, Int.le_refl 0, show (0 : Int) < 256 by decide, hk.1, hk.2⟩
/-- Each instruction of a node's: of words that fit, and sound where it stands. -/
theorem inst_ok {q : List N8} {far : List (Bool × Bool)} (hfx : farNext q far = far) (hc : (checkD q).1 = 0) (hq : ∀ x ∈ q, x.ok) (hsm : placeN q far q.length ≤ 4096) {i : Nat} {x : N8} (hx : q[i]? = some x) {k : Nat} {y : I4} (hk : k < sizeN x (farAt far i)) (hy : (emitN q far i x)[k]? = some y) :
    y.ok ∧ oneP y ((placeN q far q.length - (placeN q far i + k) - 1 : Nat) : Int) = 0 := by
  obtain ⟨x1, x2, x3, x4, x5, x6, x7⟩ := hq x (List.mem_of_getElem? hx)
  have hi := (List.getElem?_eq_some_iff.1 hx).1
  unfold in32 at x1 x3 x5
  cases hl : x.lf with
  | true =>
    have hE : emitN q far i x = [⟨6, 0, 0, x.wd⟩] := by unfold emitN; rw [if_pos hl]
    have hz : sizeN x (farAt far i) = 1 := by unfold sizeN; rw [if_pos hl]
    obtain rfl : k = 0 := by omega
    rw [hE] at hy
    simp at hy
    subst hy
    exact ⟨okK (by decide) x1, one_plain (.inl rfl) _ _⟩
  | false =>
    have hok := (checkD_zero hc).2.2 i x hx hl
    obtain ⟨⟨va, vb⟩, hv⟩ : ∃ v, farAt far i = v := ⟨_, rfl⟩
    obtain ⟨J, hJ⟩ : ∃ J, J = jumpN x (placeN q far i) := ⟨_, rfl⟩
    obtain ⟨T, hT⟩ : ∃ T, T = placeN q far x.t.toNat := ⟨_, rfl⟩
    obtain ⟨F, hF⟩ : ∃ F, F = placeN q far x.f.toNat := ⟨_, rfl⟩
    have hw := ways_of hfx hx hl hok hv
    rw [← hJ, ← hT, ← hF] at hw
    rw [emitN_test hl hv hw] at hy
    have hs : sizeN x (farAt far i) = 2 + b2n (x.msk != ones32) + b2n va + b2n vb := by unfold sizeN; rw [if_neg (by rw [hl]; decide), hv]
    rw [hs] at hk
    obtain ⟨o0, o1, o2⟩ := hok.off
    have hcc := code_cases hok.op
    have hco : 0 ≤ codeN x.op ∧ codeN x.op < 65536 := by omega
    have hj := hw.j
    have wT := hw.aT
    have wF := hw.aF
    have sT := hw.sT
    have sF := hw.sF
    have lT := hw.lT
    have lF := hw.lF
    have b1 : b2n true = 1 := rfl
    have b0 : b2n false = 0 := rfl
    have ldok : (⟨32, 0, 0, x.off⟩ : I4).ok := okK (by decide) ⟨o0, by omega⟩
    have anok : (⟨84, 0, 0, x.msk⟩ : I4).ok := okK (by decide) x3
    obtain ⟨jj, hjj⟩ : ∃ jj : Int, jj = if va = true then 0 else (T : Int) - J - 1 := ⟨_, rfl⟩
    obtain ⟨ff, hff⟩ : ∃ ff : Int, ff = if vb = true then (b2n va : Int) else (F : Int) - J - 1 := ⟨_, rfl⟩
    have hjb : 0 ≤ jj ∧ jj < 256 ∧ J + 1 + jj < placeN q far q.length := by
      cases va
      · have := sT rfl; simp at hjj; omega
      · simp at hjj; omega
    have hfb : 0 ≤ ff ∧ ff < 256 ∧ J + 1 + ff < placeN q far q.length := by
      cases vb
      · have := sF rfl; simp at hff; omega
      · have : b2n va ≤ 1 := by unfold b2n; split <;> omega
        simp at hff; omega
    have jmok : (⟨codeN x.op, jj, ff, x.k⟩ : I4).ok := ⟨hco.1, hco.2, hjb.1, hjb.2.1, hfb.1, hfb.2.1, x5.1, x5.2⟩
    rw [← hjj, ← hff] at hy
    cases hm : (x.msk != ones32) <;> cases hva : va <;> cases hvb : vb
    all_goals (
      simp only [hm, hva, hvb, if_true, if_false, Bool.false_eq_true, List.append_nil, List.cons_append, List.nil_append] at hy
      rw [hm, hva, hvb] at hk
      rw [hva, hvb] at wT wF
      rw [hm] at hj
      simp only [b1, b0] at hk wT wF hj hy
      match k, hk, hy with
      | 0, _, hy => (simp at hy; subst hy; first | exact ⟨ldok, one_ld o1 o2⟩)
      | 1, _, hy => (simp at hy; subst hy; first | exact ⟨anok, one_plain (.inr rfl) _ _⟩ | exact ⟨jmok, one_jmp hok.op (by omega) (by omega)⟩)
      | 2, hk, hy => (first | (exfalso; omega) | (simp at hy; subst hy; first | exact ⟨jmok, one_jmp hok.op (by omega) (by omega)⟩ | exact ⟨okK (by decide) (by omega), one_ja (by omega)⟩))
      | 3, hk, hy => (first | (exfalso; omega) | (simp at hy; subst hy; exact ⟨okK (by decide) (by omega), one_ja (by omega)⟩))
      | 4, hk, hy => (first | (exfalso; omega) | (simp at hy; subst hy; exact ⟨okK (by decide) (by omega), one_ja (by omega)⟩))
      | k + 5, hk, _ => (exfalso; omega))
theorem emit_accepted {q : List N8} {far : List (Bool × Bool)} (hfx : farNext q far = far) (hc : (checkD q).1 = 0) (hq : ∀ x ∈ q, x.ok) (hsm : placeN q far q.length ≤ 4096) :
    (∀ y ∈ emitTo q far q.length, y.ok) ∧ checkP (emitTo q far q.length) = (0, 0) := by
  obtain ⟨a1, a2, a3⟩ := checkD_zero hc
  have hlen := emitTo_len q far q.length
  have key : ∀ a y, (emitTo q far q.length)[a]? = some y → y.ok ∧ oneP y (((emitTo q far q.length).length - a - 1 : Nat) : Int) = 0 := by
    intro a y hy
    have ha := (List.getElem?_eq_some_iff.1 hy).1
    rw [hlen] at ha ⊢
    obtain ⟨i, x, k, h1, h2, rfl, h4⟩ := place_of q.length (Nat.le_refl _) a ha
    rw [place_get h2 q.length h1 k h4] at hy
    exact inst_ok hfx hc hq hsm h2 h4 hy
  refine ⟨fun y hy => ?_, ?_⟩
  · obtain ⟨a, ha, h⟩ := List.getElem_of_mem hy
    exact (key a y (by rw [List.getElem?_eq_getElem ha, h])).1
  · have hpos : 0 < placeN q far q.length := by have := place_lt (q := q) (far := far) a1; omega
    have hno : ∀ a, a < (emitTo q far q.length).length → oneQ (emitTo q far q.length) a = 0 := by
      intro a ha
      unfold oneQ
      rw [List.getElem?_eq_getElem ha]
      exact (key a _ (List.getElem?_eq_getElem ha)).2
    have hlast : lastC (emitTo q far q.length) = 6 := by
      obtain ⟨x, hx⟩ : ∃ x, q[q.length - 1]? = some x := ⟨_, List.getElem?_eq_getElem (by omega)⟩
      have hl : x.lf = true := by
        cases h : x.lf with
        | true => rfl
        | false => have := (a3 _ x hx h).t; omega
      have hz : sizeN x (farAt far (q.length - 1)) = 1 := by unfold sizeN; rw [if_pos hl]
      have hp := placeN_succ (far := far) hx
      rw [hz, show q.length - 1 + 1 = q.length by omega] at hp
      have hP := place_get hx q.length (by omega) 0 (by omega) (far := far)
      have hE : emitN q far (q.length - 1) x = [⟨6, 0, 0, x.wd⟩] := by unfold emitN; rw [if_pos hl]
      rw [hE, Nat.add_zero] at hP
      unfold lastC
      rw [hlen, hp, Nat.add_sub_cancel, hP]; rfl
    unfold checkP
    rw [if_neg (by omega)]
    have hf : (List.range (emitTo q far q.length).length).find? (fun i => oneQ (emitTo q far q.length) i != 0) = none := by
      rw [List.find?_eq_none]
      intro j hj
      simp [hno j (by simpa using hj)]
    rw [hf]
    simp only
    rw [hlast, if_pos (by decide +kernel)]
end Go.Proofs.Ytfpemoellglknaa
