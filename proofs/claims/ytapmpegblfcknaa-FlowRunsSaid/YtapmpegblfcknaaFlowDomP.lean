/- Plain: the blocks above one, by walking up; the same by leaving each block out. -/
set_option linter.unusedVariables false
set_option linter.unusedSimpArgs false
namespace Go.Proofs.Ytapmpegblfcknaa
theorem getD_set_self' {l : List Int} {i : Nat} {v d : Int} (h : i < l.length) : (l.set i v).getD i d = v := by
  rw [List.getD_eq_getElem?_getD, List.getElem?_set_self h]; rfl
theorem getD_set_ne' {l : List Int} {i j : Nat} {v d : Int} (h : i ≠ j) : (l.set i v).getD j d = l.getD j d := by
  rw [List.getD_eq_getElem?_getD, List.getElem?_set_ne h, List.getD_eq_getElem?_getD]
def ncaP (ab : List Int) : Nat → Int → Int → Int
  | 0, a, _ => a
  | f + 1, a, b => if a = b then a else if b < a then ncaP ab f (ab.getD a.toNat 0) b else ncaP ab f a (ab.getD b.toNat 0)
def abStep (i : Nat) (ab : List Int) (t : Nat) : List Int := if ab.getD t 0 = -2 then ab.set t i else ab.set t (ncaP ab (2 * i + 2) (ab.getD t 0) i)
def abRow (i : Nat) (ab : List Int) (ts : List Nat) : List Int := ts.foldl (abStep i) ab
def abInit (n : Nat) : List Int := (List.replicate n (-2)).set 0 (-1)
def abTo (n : Nat) (nx : Nat → List Nat) (k : Nat) : List Int := (List.range k).foldl (fun ab i => abRow i ab (nx i)) (abInit n)
theorem abTo_succ (n : Nat) (nx : Nat → List Nat) (k : Nat) : abTo n nx (k + 1) = abRow k (abTo n nx k) (nx k) := by unfold abTo; rw [List.range_succ, List.foldl_append]; rfl
theorem abRow_snoc (i : Nat) (ab : List Int) (ts : List Nat) (t : Nat) : abRow i ab (ts ++ [t]) = abStep i (abRow i ab ts) t := by unfold abRow; rw [List.foldl_append]; rfl
/-- One is above another, or it. -/
inductive Anc (ab : List Int) : Nat → Nat → Prop
  | refl (b : Nat) : Anc ab b b
  | step {b a c : Nat} : ab.getD b 0 = (a : Int) → Anc ab a c → Anc ab b c
/-- What is above is lower, as far as i. -/
def Low (ab : List Int) (i : Nat) : Prop := ab.getD 0 0 = -1 ∧ ∀ t, 0 < t → t ≤ i → ∃ a : Nat, ab.getD t 0 = (a : Int) ∧ a < t
theorem Anc.le {ab : List Int} {i : Nat} (hl : Low ab i) {b c : Nat} (h : Anc ab b c) : b ≤ i → c ≤ b := by
  induction h with
  | refl b => intro _; exact Nat.le_refl _
  | @step b a c h1 h2 ih =>
    intro hb
    rcases Nat.eq_zero_or_pos b with rfl | h0
    · have := hl.1; omega
    · obtain ⟨a', h3, h4⟩ := hl.2 b h0 hb
      have : a = a' := by omega
      subst this
      have := ih (by omega)
      omega
theorem Anc.local {ab ab' : List Int} {i : Nat} (hl : Low ab i) (he : ∀ j, j ≤ i → ab'.getD j 0 = ab.getD j 0) {b c : Nat} (h : Anc ab b c) : b ≤ i → Anc ab' b c := by
  induction h with
  | refl b => intro _; exact .refl b
  | @step b a c h1 h2 ih =>
    intro hb
    have ha : a ≤ i := by
      rcases Nat.eq_zero_or_pos b with rfl | h0
      · have := hl.1; omega
      · obtain ⟨a', h3, h4⟩ := hl.2 b h0 hb
        omega
    exact .step (by rw [he b hb]; exact h1) (ih ha)
theorem Low.same {ab ab' : List Int} {i : Nat} (hl : Low ab i) (he : ∀ j, j ≤ i → ab'.getD j 0 = ab.getD j 0) : Low ab' i :=
  ⟨by rw [he 0 (by omega)]; exact hl.1, fun t h1 h2 => by rw [he t h2]; exact hl.2 t h1 h2⟩
theorem anc_same {ab ab' : List Int} {i : Nat} (hl : Low ab i) (he : ∀ j, j ≤ i → ab'.getD j 0 = ab.getD j 0) {b : Nat} (hb : b ≤ i) (c : Nat) : Anc ab' b c ↔ Anc ab b c :=
  ⟨fun h => h.local (hl.same he) (fun j hj => (he j hj).symm) hb, fun h => h.local hl he hb⟩
theorem anc_iff {ab : List Int} {i : Nat} (hl : Low ab i) {b a : Nat} (h : ab.getD b 0 = (a : Int)) (c : Nat) : Anc ab b c ↔ c = b ∨ Anc ab a c := by
  constructor
  · intro h1
    cases h1 with
    | refl => exact .inl rfl
    | step h2 h3 =>
      have : a = _ := Int.ofNat_inj.1 (h.symm.trans h2)
      subst this
      exact .inr h3
  · rintro (rfl | h1)
    · exact .refl _
    · exact .step h h1
theorem anc_zero {ab : List Int} {i : Nat} (hl : Low ab i) (c : Nat) : Anc ab 0 c ↔ c = 0 := by
  constructor
  · intro h
    have := h.le hl (Nat.zero_le _)
    omega
  · rintro rfl; exact .refl _
theorem nca_spec {ab : List Int} {i : Nat} (hl : Low ab i) : ∀ (f a b : Nat), a ≤ i → b ≤ i → a + b < f → ∃ m : Nat, ncaP ab f a b = (m : Int) ∧ m ≤ a ∧ m ≤ b ∧ ∀ c, Anc ab m c ↔ Anc ab a c ∧ Anc ab b c := by
  intro f
  induction f with
  | zero => intro a b _ _ h; omega
  | succ f ih =>
    intro a b ha hb hf
    unfold ncaP
    by_cases h1 : (a : Int) = b
    · rw [if_pos h1]
      have : a = b := by omega
      subst this
      exact ⟨a, rfl, Nat.le_refl _, Nat.le_refl _, fun c => ⟨fun h => ⟨h, h⟩, fun h => h.1⟩⟩
    · rw [if_neg h1]
      by_cases h2 : (b : Int) < a
      · rw [if_pos h2]
        obtain ⟨a', h3, h4⟩ := hl.2 a (by omega) ha
        rw [Int.toNat_natCast, h3]
        obtain ⟨m, e, m1, m2, hm⟩ := ih a' b (by omega) hb (by omega)
        refine ⟨m, e, by omega, m2, fun c => ?_⟩
        rw [hm c, anc_iff hl h3]
        constructor
        · rintro ⟨x, y⟩; exact ⟨.inr x, y⟩
        · rintro ⟨x | x, y⟩
          · subst x
            have := y.le hl hb
            omega
          · exact ⟨x, y⟩
      · rw [if_neg h2]
        obtain ⟨b', h3, h4⟩ := hl.2 b (by omega) hb
        rw [Int.toNat_natCast, h3]
        obtain ⟨m, e, m1, m2, hm⟩ := ih a b' ha (by omega) (by omega)
        refine ⟨m, e, m1, by omega, fun c => ?_⟩
        rw [hm c, anc_iff hl h3]
        constructor
        · rintro ⟨x, y⟩; exact ⟨x, .inr y⟩
        · rintro ⟨x, y | y⟩
          · subst y
            have := x.le hl ha
            omega
          · exact ⟨x, y⟩
/-- A graph of blocks that lead forward, each but the first led to. -/
structure Fwd (n : Nat) (nx : Nat → List Nat) : Prop where
  pos : 0 < n
  ahead : ∀ j t, j < n → t ∈ nx j → j < t ∧ t < n
  led : ∀ t, 0 < t → t < n → ∃ j, j < t ∧ t ∈ nx j
/-- What is known while the i-th block's ways are taken: pr are the ways so far. -/
structure AInv (n i : Nat) (ab : List Int) (pr : Nat → List Nat) : Prop where
  len : ab.length = n
  low : Low ab i
  none : ∀ t, i < t → t < n → pr t = [] → ab.getD t 0 = -2
  some : ∀ t, i < t → t < n → pr t ≠ [] → ∃ a : Nat, ab.getD t 0 = (a : Int) ∧ a ≤ i ∧ (∀ c, Anc ab a c ↔ ∀ p ∈ pr t, Anc ab p c)
  le : ∀ t p, p ∈ pr t → p ≤ i
  done : ∀ t, 0 < t → t ≤ i → ∀ c, Anc ab t c ↔ c = t ∨ ∀ p ∈ pr t, Anc ab p c
theorem AInv.step {n i : Nat} {ab : List Int} {pr : Nat → List Nat} (h : AInv n i ab pr) {t : Nat} (h1 : i < t) (h2 : t < n) : AInv n i (abStep i ab t) (fun s => if s = t then pr s ++ [i] else pr s) := by
  have hkey : ∃ a : Nat, abStep i ab t = ab.set t (a : Int) ∧ a ≤ i ∧ (∀ c, Anc ab a c ↔ ∀ p ∈ pr t ++ [i], Anc ab p c) := by
    unfold abStep
    by_cases hp : pr t = []
    · rw [if_pos (h.none t h1 h2 hp)]
      refine ⟨i, rfl, Nat.le_refl _, fun c => ?_⟩
      rw [hp]; simp
    · obtain ⟨a, ha, hai, hc⟩ := h.some t h1 h2 hp
      rw [if_neg (by rw [ha]; omega), ha]
      obtain ⟨m, e, m1, m2, hm⟩ := nca_spec h.low (2 * i + 2) a i hai (Nat.le_refl _) (by omega)
      refine ⟨m, by rw [e], by omega, fun c => ?_⟩
      rw [hm c, hc c]
      constructor
      · rintro ⟨x, y⟩ p hp
        rcases List.mem_append.1 hp with z | z
        · exact x p z
        · simp at z; subst z; exact y
      · intro x
        exact ⟨fun p hp => x p (by simp [hp]), x i (by simp)⟩
  obtain ⟨a, e, hai, hc⟩ := hkey
  rw [e]
  have he : ∀ j, j ≤ i → (ab.set t (a : Int)).getD j 0 = ab.getD j 0 := fun j hj => getD_set_ne' (by omega)
  have hA : ∀ b, b ≤ i → ∀ c, Anc (ab.set t (a : Int)) b c ↔ Anc ab b c := fun b hb c => anc_same h.low he hb c
  refine ⟨by rw [List.length_set]; exact h.len, h.low.same he, fun s s1 s2 s3 => ?_, fun s s1 s2 s3 => ?_, fun s p hp => ?_, fun s s1 s2 c => ?_⟩
  · by_cases hs : s = t
    · rw [if_pos hs] at s3; simp at s3
    · rw [if_neg hs] at s3
      rw [getD_set_ne' (fun x => hs x.symm)]
      exact h.none s s1 s2 s3
  · by_cases hs : s = t
    · subst hs
      refine ⟨a, getD_set_self' (by rw [h.len]; exact h2), hai, fun c => ?_⟩
      rw [hA a hai, hc c, if_pos rfl]
      constructor
      · intro x p hp
        have : p ≤ i := by
          rcases List.mem_append.1 hp with z | z
          · exact h.le s p z
          · simp at z; omega
        exact (hA p this c).2 (x p hp)
      · intro x p hp
        have : p ≤ i := by
          rcases List.mem_append.1 hp with z | z
          · exact h.le s p z
          · simp at z; omega
        exact (hA p this c).1 (x p hp)
    · simp only [if_neg hs] at s3 ⊢
      obtain ⟨b, hb, hbi, hbc⟩ := h.some s s1 s2 s3
      refine ⟨b, by rw [getD_set_ne' (fun x => hs x.symm)]; exact hb, hbi, fun c => ?_⟩
      rw [hA b hbi, hbc c]
      exact ⟨fun x p hp => (hA p (h.le s p hp) c).2 (x p hp), fun x p hp => (hA p (h.le s p hp) c).1 (x p hp)⟩
  · split at hp
    · rcases List.mem_append.1 hp with z | z
      · exact h.le s p z
      · simp at z; omega
    · exact h.le s p hp
  · rw [hA s s2, if_neg (by omega), h.done s s1 s2 c]
    constructor
    · rintro (x | x)
      · exact .inl x
      · exact .inr fun p hp => (hA p (h.le s p hp) c).2 (x p hp)
    · rintro (x | x)
      · exact .inl x
      · exact .inr fun p hp => (hA p (h.le s p hp) c).1 (x p hp)
theorem AInv.row {n i : Nat} : ∀ (ts : List Nat) {ab : List Int} {pr : Nat → List Nat}, AInv n i ab pr → (∀ t ∈ ts, i < t ∧ t < n) → AInv n i (abRow i ab ts) (fun s => pr s ++ List.replicate (ts.count s) i) := by
  intro ts
  induction ts with
  | nil => intro ab pr h _; simpa [abRow] using h
  | cons t ts ih =>
    intro ab pr h ht
    have h1 := h.step (ht t (by simp)).1 (ht t (by simp)).2
    have h2 := ih h1 (fun s hs => ht s (by simp [hs]))
    have e : (fun s => (if s = t then pr s ++ [i] else pr s) ++ List.replicate (ts.count s) i) = (fun s => pr s ++ List.replicate ((t :: ts).count s) i) := by
      funext s
      by_cases hs : s = t
      · subst hs; simp [List.replicate_succ]
      · have : (t == s) = false := by simpa using fun x : t = s => hs x.symm
        simp [hs, List.count_cons, this]
    rw [← e]; exact h2
/-- The ways to a block from the first k ones. -/
def predsTo (nx : Nat → List Nat) (k s : Nat) : List Nat := (List.range k).flatMap fun i => List.replicate ((nx i).count s) i
theorem predsTo_succ (nx : Nat → List Nat) (k s : Nat) : predsTo nx (k + 1) s = predsTo nx k s ++ List.replicate ((nx k).count s) k := by
  unfold predsTo; rw [List.range_succ, List.flatMap_append]; simp
theorem mem_predsTo {nx : Nat → List Nat} {k s p : Nat} : p ∈ predsTo nx k s ↔ p < k ∧ s ∈ nx p := by
  unfold predsTo
  simp only [List.mem_flatMap, List.mem_range, List.mem_replicate]
  constructor
  · rintro ⟨i, h1, h2, rfl⟩
    exact ⟨h1, List.count_pos_iff.1 (Nat.pos_of_ne_zero h2)⟩
  · rintro ⟨h1, h2⟩
    exact ⟨p, h1, Nat.ne_of_gt (List.count_pos_iff.2 h2), rfl⟩
/-- What is known ahead of the k-th block's ways. -/
theorem abTo_inv {n : Nat} {nx : Nat → List Nat} (hF : Fwd n nx) : ∀ k, k < n → AInv n k (abTo n nx k) (predsTo nx k) := by
  intro k
  induction k with
  | zero =>
    intro h
    have hlow : Low (abInit n) 0 := ⟨getD_set_self' (by simpa using h), fun t h1 h2 => by omega⟩
    refine ⟨by simp [abTo, abInit], hlow, fun t h1 h2 h3 => ?_, fun t h1 h2 h3 => ?_, fun t p hp => ?_, fun t h1 h2 => by omega⟩
    · show (abInit n).getD t 0 = -2
      unfold abInit
      rw [getD_set_ne' (by omega), List.getD_eq_getElem?_getD, List.getElem?_replicate, if_pos h2]; rfl
    · exact absurd (by simp [predsTo]) h3
    · simp [predsTo] at hp
  | succ k ih =>
    intro h
    have h0 := ih (by omega)
    have h1 := h0.row (nx k) (fun t ht => hF.ahead k t (by omega) ht)
    rw [← abTo_succ] at h1
    have e : (fun s => predsTo nx k s ++ List.replicate ((nx k).count s) k) = predsTo nx (k + 1) := by funext s; rw [predsTo_succ]
    rw [e] at h1
    -- the next block is settled
    obtain ⟨j, hj, hjt⟩ := hF.led (k + 1) (by omega) h
    have hne : predsTo nx (k + 1) (k + 1) ≠ [] := fun x => by
      have := (mem_predsTo (k := k + 1) (s := k + 1) (p := j) (nx := nx)).2 ⟨hj, hjt⟩
      rw [x] at this; simp at this
    obtain ⟨a, ha, hak, hac⟩ := h1.some (k + 1) (by omega) h hne
    have hlow : Low (abTo n nx (k + 1)) (k + 1) := ⟨h1.low.1, fun t t1 t2 => by
      rcases Nat.eq_or_lt_of_le t2 with x | x
      · subst x; exact ⟨a, ha, by omega⟩
      · exact h1.low.2 t t1 (by omega)⟩
    refine ⟨h1.len, hlow, fun t t1 t2 t3 => h1.none t (by omega) t2 t3, fun t t1 t2 t3 => ?_, fun t p hp => by have := h1.le t p hp; omega, fun t t1 t2 c => ?_⟩
    · obtain ⟨b, b1, b2, b3⟩ := h1.some t (by omega) t2 t3
      exact ⟨b, b1, by omega, b3⟩
    · rcases Nat.eq_or_lt_of_le t2 with x | x
      · subst x
        rw [anc_iff hlow ha c, hac c]
      · exact h1.done t t1 (by omega) c
theorem abTo_end {n : Nat} {nx : Nat → List Nat} (hF : Fwd n nx) : (abTo n nx n).length = n ∧ Low (abTo n nx n) (n - 1) ∧ ∀ t, 0 < t → t < n → ∀ c, Anc (abTo n nx n) t c ↔ c = t ∨ ∀ p, p < n → t ∈ nx p → Anc (abTo n nx n) p c := by
  obtain ⟨m, rfl⟩ : ∃ m, n = m + 1 := ⟨n - 1, by have := hF.pos; omega⟩
  have h0 := abTo_inv hF m (by omega)
  have h1 := h0.row (nx m) (fun t ht => hF.ahead m t (by omega) ht)
  rw [← abTo_succ] at h1
  refine ⟨h1.len, h1.low, fun t t1 t2 c => ?_⟩
  rw [h1.done t t1 (by omega) c]
  have e : predsTo nx m t ++ List.replicate ((nx m).count t) m = predsTo nx (m + 1) t := by rw [predsTo_succ]
  rw [e]
  constructor
  · rintro (x | x)
    · exact .inl x
    · exact .inr fun p hp ht => x p (mem_predsTo.2 ⟨hp, ht⟩)
  · rintro (x | x)
    · exact .inl x
    · exact .inr fun p hp => x p (mem_predsTo.1 hp).1 (mem_predsTo.1 hp).2
/-! By leaving each one out. -/
def setAll (l : List Bool) (ts : List Nat) : List Bool := ts.foldl (fun l t => l.set t true) l
def canRow (c i : Nat) (l : List Bool) (ts : List Nat) : List Bool := if l.getD i false = true ∧ i ≠ c then setAll l ts else l
def canInit (n c : Nat) : List Bool := (List.replicate n false).set 0 (c != 0)
def canTo (n : Nat) (nx : Nat → List Nat) (c k : Nat) : List Bool := (List.range k).foldl (fun l i => canRow c i l (nx i)) (canInit n c)
theorem canTo_succ (n : Nat) (nx : Nat → List Nat) (c k : Nat) : canTo n nx c (k + 1) = canRow c k (canTo n nx c k) (nx k) := by unfold canTo; rw [List.range_succ, List.foldl_append]; rfl
theorem setAll_len : ∀ (ts : List Nat) (l : List Bool), (setAll l ts).length = l.length := by
  intro ts
  induction ts with
  | nil => intro l; rfl
  | cons t ts ih => intro l; show (setAll (l.set t true) ts).length = _; rw [ih]; simp
theorem setAll_snoc (l : List Bool) (ts : List Nat) (t : Nat) : setAll l (ts ++ [t]) = (setAll l ts).set t true := by unfold setAll; rw [List.foldl_append]; rfl
theorem setAll_get : ∀ (ts : List Nat) (l : List Bool) (b : Nat), b < l.length → ((setAll l ts).getD b false = true ↔ l.getD b false = true ∨ b ∈ ts) := by
  intro ts
  induction ts with
  | nil => intro l b _; simp [setAll]
  | cons t ts ih =>
    intro l b hb
    show ((setAll (l.set t true) ts).getD b false = true ↔ _)
    rw [ih _ b (by simpa using hb)]
    by_cases h : t = b
    · subst h
      have : (l.set t true).getD t false = true := by rw [List.getD_eq_getElem?_getD, List.getElem?_set_self hb]; rfl
      rw [this]; simp
    · have : (l.set t true).getD b false = l.getD b false := by rw [List.getD_eq_getElem?_getD, List.getElem?_set_ne h, List.getD_eq_getElem?_getD]
      rw [this]
      simp [Ne.symm h]
theorem canTo_len (n : Nat) (nx : Nat → List Nat) (c : Nat) : ∀ k, (canTo n nx c k).length = n := by
  intro k
  induction k with
  | zero => simp [canTo, canInit]
  | succ k ih => rw [canTo_succ]; unfold canRow; split <;> simp [setAll_len, ih]
theorem canTo_get {n : Nat} {nx : Nat → List Nat} (hF : Fwd n nx) (c : Nat) : ∀ k, k ≤ n → ∀ b, b < n → ((canTo n nx c k).getD b false = true ↔ (b = 0 ∧ c ≠ 0) ∨ ∃ p, p < k ∧ p ≠ c ∧ (canTo n nx c p).getD p false = true ∧ b ∈ nx p) := by
  intro k
  induction k with
  | zero =>
    intro _ b hb
    show ((canInit n c).getD b false = true ↔ _)
    unfold canInit
    by_cases h : b = 0
    · subst h
      have : ((List.replicate n false).set 0 (c != 0)).getD 0 false = (c != 0) := by rw [List.getD_eq_getElem?_getD, List.getElem?_set_self (by simpa using hb)]; rfl
      rw [this]; simp
    · have : ((List.replicate n false).set 0 (c != 0)).getD b false = false := by rw [List.getD_eq_getElem?_getD, List.getElem?_set_ne (fun x => h x.symm), List.getElem?_replicate, if_pos hb]; rfl
      rw [this]; simp [h]
  | succ k ih =>
    intro hk b hb
    rw [canTo_succ]
    unfold canRow
    by_cases h : (canTo n nx c k).getD k false = true ∧ k ≠ c
    · rw [if_pos h, setAll_get _ _ _ (by rw [canTo_len]; exact hb), ih (by omega) b hb]
      constructor
      · rintro ((x | ⟨p, x⟩) | x)
        · exact .inl x
        · exact .inr ⟨p, by omega, x.2⟩
        · exact .inr ⟨k, by omega, h.2, h.1, x⟩
      · rintro (x | ⟨p, x1, x2, x3, x4⟩)
        · exact .inl (.inl x)
        · rcases Nat.lt_succ_iff_lt_or_eq.1 x1 with y | y
          · exact .inl (.inr ⟨p, y, x2, x3, x4⟩)
          · subst y; exact .inr x4
    · rw [if_neg h, ih (by omega) b hb]
      constructor
      · rintro (x | ⟨p, x⟩)
        · exact .inl x
        · exact .inr ⟨p, by omega, x.2⟩
      · rintro (x | ⟨p, x1, x2, x3, x4⟩)
        · exact .inl x
        · rcases Nat.lt_succ_iff_lt_or_eq.1 x1 with y | y
          · exact .inr ⟨p, y, x2, x3, x4⟩
          · subst y; exact absurd ⟨x3, x2⟩ h
theorem can_same {n : Nat} {nx : Nat → List Nat} (hF : Fwd n nx) (c : Nat) {b k : Nat} (hb : b < n) (hk : b ≤ k) (hkn : k ≤ n) : (canTo n nx c k).getD b false = (canTo n nx c b).getD b false := by
  rw [Bool.eq_iff_iff, canTo_get hF c k hkn b hb, canTo_get hF c b (by omega) b hb]
  constructor
  · rintro (x | ⟨p, x1, x2, x3, x4⟩)
    · exact .inl x
    · exact .inr ⟨p, (hF.ahead p b (by omega) x4).1, x2, x3, x4⟩
  · rintro (x | ⟨p, x1, x2, x3, x4⟩)
    · exact .inl x
    · exact .inr ⟨p, by omega, x2, x3, x4⟩
/-- A block can be come to without another just if that one is not above it. -/
theorem can_anc {n : Nat} {nx : Nat → List Nat} (hF : Fwd n nx) (c : Nat) : ∀ b, b < n → b ≠ c → ((canTo n nx c n).getD b false = true ↔ ¬ Anc (abTo n nx n) b c) := by
  obtain ⟨-, hlow, hdone⟩ := abTo_end hF
  intro b
  induction b using Nat.strongRecOn with
  | _ b ih =>
    intro hb hbc
    rw [canTo_get hF c n (Nat.le_refl _) b hb]
    rcases Nat.eq_zero_or_pos b with rfl | h0
    · rw [anc_zero hlow]
      constructor
      · intro _ x; exact hbc x.symm
      · intro _; exact .inl ⟨rfl, fun x => hbc x.symm⟩
    · rw [hdone b h0 hb c]
      constructor
      · rintro (x | ⟨p, x1, x2, x3, x4⟩)
        · omega
        · rintro (y | y)
          · exact hbc y.symm
          · have hp := (hF.ahead p b x1 x4).1
            have := y p x1 x4
            rw [← can_same hF c x1 (Nat.le_of_lt x1) (Nat.le_refl _)] at x3
            exact (ih p hp x1 x2).1 x3 this
      · intro x
        refine .inr ?_
        by_cases hall : ∀ p, p < n → b ∈ nx p → Anc (abTo n nx n) p c
        · exact absurd (.inr hall) x
        · simp only [Classical.not_forall] at hall
          obtain ⟨p, p1, p2, p3⟩ := hall
          have hp := (hF.ahead p b p1 p2).1
          have hpc : p ≠ c := by rintro rfl; exact p3 (.refl _)
          refine ⟨p, p1, hpc, ?_, p2⟩
          rw [← can_same hF c p1 (Nat.le_of_lt p1) (Nat.le_refl _)]
          exact (ih p hp p1 hpc).2 p3
/-- Each block's last one that it can't be come to without. -/
def rabStep (n : Nat) (nx : Nat → List Nat) (out : List Int) (c : Nat) : List Int := (List.range n).map fun b => if b ≠ c ∧ (canTo n nx c n).getD b false = false then (c : Int) else out.getD b 0
def rabTo (n : Nat) (nx : Nat → List Nat) (k : Nat) : List Int := (List.range k).foldl (rabStep n nx) (List.replicate n (-1))
theorem rabTo_succ (n : Nat) (nx : Nat → List Nat) (k : Nat) : rabTo n nx (k + 1) = rabStep n nx (rabTo n nx k) k := by unfold rabTo; rw [List.range_succ, List.foldl_append]; rfl
theorem rabTo_len (n : Nat) (nx : Nat → List Nat) : ∀ k, (rabTo n nx k).length = n := by
  intro k
  cases k with
  | zero => simp [rabTo]
  | succ k => rw [rabTo_succ]; simp [rabStep]
theorem rabTo_get {n : Nat} {nx : Nat → List Nat} (hF : Fwd n nx) {b : Nat} (hb : b < n) : ∀ k, k ≤ n → ((rabTo n nx k).getD b 0 = -1 ∧ (∀ c, c < k → c ≠ b → ¬ Anc (abTo n nx n) b c)) ∨ ∃ m : Nat, (rabTo n nx k).getD b 0 = (m : Int) ∧ m < k ∧ m ≠ b ∧ Anc (abTo n nx n) b m ∧ ∀ c, m < c → c < k → c ≠ b → ¬ Anc (abTo n nx n) b c := by
  intro k
  induction k with
  | zero =>
    intro _
    refine .inl ⟨?_, fun c h => by omega⟩
    show (List.replicate n (-1 : Int)).getD b 0 = -1
    rw [List.getD_eq_getElem?_getD, List.getElem?_replicate, if_pos hb]; rfl
  | succ k ih =>
    intro hk
    have e : (rabTo n nx (k + 1)).getD b 0 = if b ≠ k ∧ (canTo n nx k n).getD b false = false then (k : Int) else (rabTo n nx k).getD b 0 := by
      rw [rabTo_succ, List.getD_eq_getElem?_getD]
      unfold rabStep
      rw [List.getElem?_map, List.getElem?_range hb]; rfl
    by_cases h : b ≠ k ∧ (canTo n nx k n).getD b false = false
    · rw [e, if_pos h]
      refine .inr ⟨k, rfl, by omega, fun x => h.1 x.symm, ?_, fun c h1 h2 => by omega⟩
      have := (can_anc hF k b hb h.1)
      rw [h.2] at this
      exact Classical.byContradiction fun x => by have := this.2 x; cases this
    · rw [e, if_neg h]
      have hn : k ≠ b → ¬ Anc (abTo n nx n) b k := fun hkb => (can_anc hF k b hb (fun x => hkb x.symm)).1 (by
        cases hc : (canTo n nx k n).getD b false with
        | true => rfl
        | false => exact absurd ⟨fun x => hkb x.symm, hc⟩ h)
      rcases ih (by omega) with ⟨h1, h2⟩ | ⟨m, h1, h2, h3, h4, h5⟩
      · refine .inl ⟨h1, fun c c1 c2 => ?_⟩
        rcases Nat.lt_succ_iff_lt_or_eq.1 c1 with y | y
        · exact h2 c y c2
        · subst y; exact hn c2
      · refine .inr ⟨m, h1, by omega, h3, h4, fun c c0 c1 c2 => ?_⟩
        rcases Nat.lt_succ_iff_lt_or_eq.1 c1 with y | y
        · exact h5 c c0 y c2
        · subst y; exact hn c2
theorem above_same {n : Nat} {nx : Nat → List Nat} (hF : Fwd n nx) : abTo n nx n = rabTo n nx n := by
  obtain ⟨hlen, hlow, hdone⟩ := abTo_end hF
  have key : ∀ b, b < n → (abTo n nx n).getD b 0 = (rabTo n nx n).getD b 0 := by
    intro b hb
    rcases Nat.eq_zero_or_pos b with rfl | h0
    · rcases rabTo_get hF hb n (Nat.le_refl _) with ⟨h1, _⟩ | ⟨m, h1, h2, h3, h4, _⟩
      · rw [h1]; exact hlow.1
      · exact absurd ((anc_zero hlow m).1 h4) h3
    · obtain ⟨a, ha, hab⟩ := hlow.2 b h0 (by omega)
      rcases rabTo_get hF hb n (Nat.le_refl _) with ⟨h1, h2⟩ | ⟨m, h1, h2, h3, h4, h5⟩
      · exact absurd (.step ha (.refl a)) (h2 a (by omega) (by omega))
      · rw [h1, ha]
        have hma : m ≤ a := by
          rcases (anc_iff hlow ha m).1 h4 with x | x
          · exact absurd x h3
          · exact x.le hlow (by omega)
        rcases Nat.eq_or_lt_of_le hma with x | x
        · rw [x]
        · exact absurd (.step ha (.refl a)) (h5 a x (by omega) (by omega))
  refine List.ext_getElem? fun b => ?_
  rcases Nat.lt_or_ge b n with hb | hb
  · have h1 := key b hb
    rw [List.getD_eq_getElem?_getD, List.getD_eq_getElem?_getD, List.getElem?_eq_getElem (by rw [hlen]; exact hb), List.getElem?_eq_getElem (by rw [rabTo_len]; exact hb)] at h1
    rw [List.getElem?_eq_getElem (by rw [hlen]; exact hb), List.getElem?_eq_getElem (by rw [rabTo_len]; exact hb)]
    exact congrArg some h1
  · rw [List.getElem?_eq_none (by rw [hlen]; exact hb), List.getElem?_eq_none (by rw [rabTo_len]; exact hb)]
end Go.Proofs.Ytapmpegblfcknaa
