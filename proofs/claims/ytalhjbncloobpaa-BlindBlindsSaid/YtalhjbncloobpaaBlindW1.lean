import Derived.Test.YtalhjbncloobpaaBlindP
import Derived.Test.YtalhjbncloobpaaStep
set_option linter.unusedVariables false
set_option linter.unusedSimpArgs false
namespace Go.Proofs.Ytalhjbncloobpaa
open Go.RowKit
/-! blind.Exempt, hidden, drawer, moved; the reference's Exempt, hidden: the walks. -/
set_option maxHeartbeats 400000 in
theorem Exempt_c (k : Int) (hk : u32ok k) (w : World) : Calls Try.prog 18 #[.int .u32 k] w fun e w' => e = .returned (.bool (exemptB k)) ∧ w = w' := by
  obtain ⟨k0, k1⟩ := hk
  obtain ⟨s, hs⟩ : ∃ s, IntKind.i32.wrap k = s := ⟨_, rfl⟩
  have hs' : s = if k < 2147483648 then k else k - 4294967296 := by rw [← hs]; simp [IntKind.wrap, IntKind.bits, IntKind.signed]; split <;> omega
  by_cases h1 : -1048576 ≤ s
  · have g1 : decide (-1048576 ≤ s) = true := by simpa using h1
    by_cases h2 : s < 1048576
    · have g2 : decide (s < 1048576) = true := by simpa using h2
      have HV := Lib.hid (show exemptB k = true by simp only [exemptB, Bool.or_eq_true, decide_eq_true_eq]; split at hs' <;> omega)
      clear h1 h2 k0 k1 hs'
      go_enter Try.func18, Try.ntmps18
      go_wp2
      go_ret
      exact ⟨ret_b HV.out.symm, rfl⟩
    · have g2 : decide (s < 1048576) = false := by simpa using h2
      have HV := Lib.hid (show exemptB k = false by simp only [exemptB, Bool.or_eq_false_iff, decide_eq_false_iff_not]; split at hs' <;> omega)
      clear h1 h2 k0 k1 hs'
      go_enter Try.func18, Try.ntmps18
      go_wp2
      go_ret
      exact ⟨ret_b HV.out.symm, rfl⟩
  · have g1 : decide (-1048576 ≤ s) = false := by simpa using h1
    have HV := Lib.hid (show exemptB k = false by simp only [exemptB, Bool.or_eq_false_iff, decide_eq_false_iff_not]; split at hs' <;> omega)
    clear h1 k0 k1 hs'
    go_enter Try.func18, Try.ntmps18
    go_wp2
    go_ret
    exact ⟨ret_b HV.out.symm, rfl⟩
set_option maxHeartbeats 400000 in
theorem rExempt_c (k : Int) (hk : u32ok k) (w : World) : Calls Try.prog 25 #[.int .u32 k] w fun e w' => e = .returned (.bool (exemptB k)) ∧ w = w' := by
  obtain ⟨k0, k1⟩ := hk
  have hw : IntKind.i64.wrap k = k := by rw [IntKind.wrap_i64]; omega
  by_cases h0 : 2147483648 ≤ k
  · have g0 : decide (2147483648 ≤ k) = true := by simpa using h0
    obtain ⟨s, hs⟩ : ∃ s, IntKind.i64.wrap (k - 4294967296) = s := ⟨_, rfl⟩
    have hs' : s = k - 4294967296 := by rw [← hs, IntKind.wrap_i64]; omega
    by_cases h1 : -1048576 ≤ s
    · have g1 : decide (-1048576 ≤ s) = true := by simpa using h1
      have g2 : decide (s < 1048576) = true := by simp; omega
      have HV := Lib.hid (show exemptB k = true by simp only [exemptB, Bool.or_eq_true, decide_eq_true_eq]; omega)
      clear h1 k0 k1 hs' h0
      go_enter Try.func25, Try.ntmps25
      go_wp2
      go_ret
      exact ⟨ret_b HV.out.symm, rfl⟩
    · have g1 : decide (-1048576 ≤ s) = false := by simpa using h1
      have HV := Lib.hid (show exemptB k = false by simp only [exemptB, Bool.or_eq_false_iff, decide_eq_false_iff_not]; omega)
      clear h1 k0 k1 hs' h0
      go_enter Try.func25, Try.ntmps25
      go_wp2
      go_ret
      exact ⟨ret_b HV.out.symm, rfl⟩
  · have g0 : decide (2147483648 ≤ k) = false := by simpa using h0
    have g1 : decide (-1048576 ≤ k) = true := by simp; omega
    by_cases h2 : k < 1048576
    · have g2 : decide (k < 1048576) = true := by simpa using h2
      have HV := Lib.hid (show exemptB k = true by simp only [exemptB, Bool.or_eq_true, decide_eq_true_eq]; omega)
      clear h2 k0 k1 h0
      go_enter Try.func25, Try.ntmps25
      go_wp2
      go_ret
      exact ⟨ret_b HV.out.symm, rfl⟩
    · have g2 : decide (k < 1048576) = false := by simpa using h2
      have HV := Lib.hid (show exemptB k = false by simp only [exemptB, Bool.or_eq_false_iff, decide_eq_false_iff_not]; omega)
      clear h2 k0 k1 h0
      go_enter Try.func25, Try.ntmps25
      go_wp2
      go_ret
      exact ⟨ret_b HV.out.symm, rfl⟩
set_option maxHeartbeats 400000 in
theorem hidden_c (x : R7) (hx : x.ok) (w : World) : Calls Try.prog 48 #[.agg #[.int .i64 x.o, .int .i64 x.d, .int .i64 x.a, .int .i64 x.b, .int .u32 x.k, .int .i64 x.t, .int .i64 x.f]] w fun e w' => e = .returned (.bool (hidB x)) ∧ Below w.heap.size w w' := by
  have HK := Lib.hid (show u32ok x.k from hx.2.2.2.2.1)
  clear hx
  obtain ⟨o, d, a, b, k, t, f⟩ := x
  dsimp only at *
  cases h1 : (o == 1) with
  | false =>
    have HV := Lib.hid (show hidB ⟨o, d, a, b, k, t, f⟩ = false by simp [hidB, h1])
    go_enter Try.func48, Try.ntmps48
    go_wp2
    go_ret
    exact ⟨ret_b HV.out.symm, below1 _ _⟩
  | true =>
    obtain ⟨E, hE⟩ : ∃ E, E = exemptB k := ⟨_, rfl⟩
    have HV := Lib.hid (show hidB ⟨o, d, a, b, k, t, f⟩ = !E by simp only [hidB, h1, hE]; rfl)
    have HE := Lib.hid hE
    clear hE
    go_enter Try.func48, Try.ntmps48
    go_wp2_with fail
    refine (Exempt_c k HK.out _).mono ?_
    rintro e w' ⟨rfl, rfl⟩
    rw [← HE.out]
    go_wp2
    go_ret
    exact ⟨ret_b HV.out.symm, below1 _ _⟩
set_option maxHeartbeats 400000 in
theorem rhidden_c (x : R7) (hx : x.ok) (w : World) : Calls Try.prog 52 #[.agg #[.int .i64 x.o, .int .i64 x.d, .int .i64 x.a, .int .i64 x.b, .int .u32 x.k, .int .i64 x.t, .int .i64 x.f]] w fun e w' => e = .returned (.bool (hidB x)) ∧ Below w.heap.size w w' := by
  have HK := Lib.hid (show u32ok x.k from hx.2.2.2.2.1)
  clear hx
  obtain ⟨o, d, a, b, k, t, f⟩ := x
  dsimp only at *
  cases h1 : (o == 1) with
  | false =>
    have HV := Lib.hid (show hidB ⟨o, d, a, b, k, t, f⟩ = false by simp [hidB, h1])
    have g1 : (o != 1) = true := by simp [bne, h1]
    clear h1
    go_enter Try.func52, Try.ntmps52
    go_wp2
    go_ret
    exact ⟨ret_b HV.out.symm, below1 _ _⟩
  | true =>
    obtain ⟨E, hE⟩ : ∃ E, E = exemptB k := ⟨_, rfl⟩
    have HV := Lib.hid (show hidB ⟨o, d, a, b, k, t, f⟩ = !E by simp only [hidB, h1, hE]; rfl)
    have HE := Lib.hid hE
    have g1 : (o != 1) = false := by simp [bne, h1]
    clear hE h1
    go_enter Try.func52, Try.ntmps52
    go_wp2_with fail
    refine (rExempt_c k HK.out _).mono ?_
    rintro e w' ⟨rfl, rfl⟩
    rw [← HE.out]
    go_wp2
    go_ret
    exact ⟨ret_b HV.out.symm, below1 _ _⟩
theorem drawer_c (A : Option Addr) (n cap : Nat) (w : World) : Calls Try.prog 49 #[.slice A n cap] w fun e w' => e = .returned (.func (.func 72) #[] #[.pointer (some ⟨w.heap.size, 0, none⟩)]) ∧ w' = w.alloc (.cells #[.slice A n cap] 31) := by
  go_enter Try.func49, Try.ntmps49
  go_wp2
  go_ret
  exact ⟨rfl, rfl⟩
/-- A word is drawn: none is left. -/
theorem draw0_c (D : Nat) (A : Option Addr) (cap : Nat) (w : World) (h : w.cell? ⟨D, 0, none⟩ = some (.slice A 0 cap)) : Calls Try.prog 72 #[.pointer (some ⟨D, 0, none⟩)] w fun e w' => e = .returned (.int .u32 0) ∧ w = w' := by
  go_enter Try.func72, Try.ntmps72
  go_wp2
  go_ret
  exact ⟨rfl, rfl⟩
/-- A word is drawn: the first one. -/
theorem draw1_c (D b off : Nat) (n cap : Nat) (k : Int) (w : World) (hn : n + 1 ≤ 9223372036854775807) (hc : n + 1 ≤ cap) (h : w.cell? ⟨D, 0, none⟩ = some (.slice (some ⟨b, off, none⟩) (n + 1) cap)) (hfr : w.frozen? ⟨D, 0, none⟩ = false) (hk : w.cell? ⟨b, off, none⟩ = some (.int .u32 k)) :
    Calls Try.prog 72 #[.pointer (some ⟨D, 0, none⟩)] w fun e w' => e = .returned (.int .u32 k) ∧ ∃ A', w' = w.setCell ⟨D, 0, none⟩ (.slice A' n (cap - 1)) ∧ (0 < n → A' = some ⟨b, off + 1, none⟩) := by
  have g1 : (((n + 1 : Nat) : Int) == 0) = false := by simp; omega
  have g2 : (((n : Int) + 1) == 0) = false := by simp; omega
  have hc' : (1 : Int) ≤ cap := by omega
  have g3 : (0 : Int) < ((n + 1 : Nat) : Int) := by omega
  go_enter Try.func72, Try.ntmps72
  go_wp2
  · go_ret
    exact ⟨rfl, _, rfl, fun hp => by omega⟩
  · go_ret
    exact ⟨rfl, _, rfl, fun _ => rfl⟩
/-- The words that are left. -/
def Left (D B : Nat) (rest : List Int) (w : World) : Prop :=
  ∃ A cap, w.cell? ⟨D, 0, none⟩ = some (.slice A rest.length cap) ∧ rest.length ≤ cap ∧ w.frozen? ⟨D, 0, none⟩ = false ∧ B ≤ D ∧ Reads w B 1 A rest.length (numV .u32 rest)
structure DrawnBy (D : Nat) (w w' : World) : Prop where
  cell : ∀ b o, b ≠ D → w'.cell? ⟨b, o, none⟩ = w.cell? ⟨b, o, none⟩
  frozen : ∀ b o, b ≠ D → w'.frozen? ⟨b, o, none⟩ = w.frozen? ⟨b, o, none⟩
  below : Below D w w'
  size : w'.heap.size = w.heap.size
  own : ∀ base e sz v n xs, D < base → w.ownsRow base e sz v n xs → w'.ownsRow base e sz v n xs
theorem DrawnBy.refl (D : Nat) (w : World) : DrawnBy D w w := ⟨fun _ _ _ => rfl, fun _ _ _ => rfl, Below.refl _ _, rfl, fun _ _ _ _ _ _ _ h => h⟩
theorem DrawnBy.set (D : Nat) (w : World) (v : Value) : DrawnBy D w (w.setCell ⟨D, 0, none⟩ v) := by
  refine ⟨fun b o h => World.cell?_setCell_far _ _ _ _ (fun e => h e.symm), fun b o h => World.frozen?_setCell _ _ _ _, (Below.refl _ _).setCell (p := ⟨D, 0, none⟩) (Nat.le_refl _) _, by simp [World.setCell], fun base e sz u n xs hb h => ?_⟩
  exact h.kept (row := some D) ⟨rfl, rfl, rfl, by simp [World.setCell], fun k _ hk => Below.heap_setCell _ _ _ k (fun e => hk (by rw [e]))⟩ (.inr (fun e => by
    rcases h.2 with ⟨rfl, _⟩ | ⟨g, cap, cur, rfl, hbg, _⟩
    · simp [Value.ownBlock] at e
    · have : g = D := by simpa [Value.ownBlock] using e
      omega))
theorem draw_c (D B : Nat) (rest : List Int) (w : World) (hn : rest.length ≤ 9223372036854775807) (h : Left D B rest w) :
    Calls Try.prog 72 #[.pointer (some ⟨D, 0, none⟩)] w fun e w' => e = .returned (.int .u32 (getN rest 0)) ∧ DrawnBy D w w' ∧ Left D B (rest.drop 1) w' := by
  obtain ⟨A, cap, hc, hcap, hf, hB, hr⟩ := h
  cases rest with
  | nil =>
    refine (draw0_c D A cap w hc).mono ?_
    rintro e w' ⟨rfl, rfl⟩
    exact ⟨rfl, DrawnBy.refl _ _, A, cap, hc, hcap, hf, hB, hr⟩
  | cons k rest =>
    obtain ⟨b, off, rfl, hb, h0⟩ := hr.num (i := 0) (x := k) rfl
    refine (draw1_c D b off rest.length cap k w hn hcap hc hf h0).mono ?_
    rintro e w' ⟨rfl, A', rfl, hA'⟩
    refine ⟨rfl, DrawnBy.set _ _ _, A', cap - 1, World.cell?_setCell_same _ _ _ hc, by simp at hcap ⊢; omega, by rw [World.frozen?_setCell]; exact hf, hB, ?_⟩
    refine ⟨by simp [numV], fun hp => ⟨b, off + 1, hA' hp, hb, fun j u hu => ?_⟩⟩
    rw [World.cell?_setCell_far _ _ _ _ (by intro e; simp only at e; omega)]
    obtain ⟨b', off', e, _, hcc⟩ := hr.2 (by simp)
    injection e with e; injection e with e1 e2
    subst e1 e2
    rw [show off + 1 + j = off + (j + 1) by omega]
    exact hcc (j + 1) u (by simpa [numV] using hu)
theorem of_places_c (A : Option Addr) (B n cap : Nat) (l : List Int) (i : Nat) (v : Int) (hv : l[i]? = some v) (w : World) (hr : Reads w B 1 A n (numV .i64 l)) :
    Calls Try.prog 50 #[.slice A n cap, .int .i64 i] w fun e w' => e = .returned (.int .i64 v) ∧ w = w' := by
  have hl : l.length = n := by have := hr.1; simp [numV] at this; exact this
  obtain ⟨b, off, rfl, hb, hc⟩ := hr.num hv
  have hi := (List.getElem?_eq_some_iff.1 hv).1
  have hi' : (i : Int) < n := by omega
  clear hv hr
  go_enter Try.func50, Try.ntmps50
  go_wp2
  go_ret
  exact ⟨rfl, rfl⟩
def placesL (q : List R7) (m : Nat) : List Int := (List.range m).map fun i => (placeB q i : Int)
theorem placesL_get (q : List R7) {m i : Nat} (h : i < m) : (placesL q m)[i]? = some (placeB q i : Int) := by simp [placesL, h]
theorem placesL_length (q : List R7) (m : Nat) : (placesL q m).length = m := by simp [placesL]
theorem placesL_succ (q : List R7) (m : Nat) : placesL q (m + 1) = placesL q m ++ [(placeB q m : Int)] := by simp [placesL, List.range_succ]
set_option maxHeartbeats 800000 in
theorem moved_c (q : List R7) (x : R7) (ht : shT x.o = true → 0 ≤ x.t ∧ x.t < q.length) (hf : shF x.o = true → 0 ≤ x.f ∧ x.f < q.length) (A : Option Addr) (cap : Nat) (w : World) (hr : Reads w w.heap.size 1 A q.length (numV .i64 (placesL q q.length))) :
    Calls Try.prog 51 #[.agg #[.int .i64 x.o, .int .i64 x.d, .int .i64 x.a, .int .i64 x.b, .int .u32 x.k, .int .i64 x.t, .int .i64 x.f], .func (.func 50) #[.slice A q.length cap] #[]] w fun e w' => e = .returned (.agg #[.int .i64 (movedB q x).o, .int .i64 (movedB q x).d, .int .i64 (movedB q x).a, .int .i64 (movedB q x).b, .int .u32 (movedB q x).k, .int .i64 (movedB q x).t, .int .i64 (movedB q x).f]) ∧ Below w.heap.size w w' := by
  have HR := Lib.hid hr
  clear hr
  obtain ⟨o, d, a, b, k, t, f⟩ := x
  dsimp only at *
  by_cases hT : shT o = true
  · obtain ⟨t0, t1⟩ := ht hT
    obtain ⟨T, rfl⟩ : ∃ T : Nat, t = T := ⟨t.toNat, by omega⟩
    have HT := Lib.hid (placesL_get q (m := q.length) (i := T) (by omega))
    by_cases hF : shF o = true
    · obtain ⟨f0, f1⟩ := hf hF
      obtain ⟨F, rfl⟩ : ∃ F : Nat, f = F := ⟨f.toNat, by omega⟩
      have HF := Lib.hid (placesL_get q (m := q.length) (i := F) (by omega))
      have HV := Lib.hid (show movedB q ⟨o, d, a, b, k, T, F⟩ = ⟨o, d, a, b, k, placeB q T, placeB q F⟩ by simp [movedB, hT, hF])
      simp only [shF, Bool.and_eq_true, decide_eq_true_eq] at hF
      have g1 : decide (14 ≤ o) = true := by simp; omega
      have g2 : decide (o ≤ 18) = true := by simp; omega
      have g3 : decide (15 ≤ o) = true := by simp; omega
      clear ht hf hT hF t0 t1 f0 f1
      rw [HV.out]
      dsimp only
      clear HV
      go_enter Try.func51, Try.ntmps51
      go_wp2_with fail
      refine (of_places_c A w.heap.size q.length cap _ T _ HT.out _ ((HR.out.alloc (Nat.le_refl _) _).alloc (by simp) _)).mono ?_
      rintro e w' ⟨rfl, rfl⟩
      go_wp2_with fail
      refine (of_places_c A w.heap.size q.length cap _ F _ HF.out _ ((HR.out.alloc (Nat.le_refl _) _).alloc (by simp) _)).mono ?_
      rintro e w' ⟨rfl, rfl⟩
      go_wp2
      refine bodyPost_ret (v := .agg #[.int .i64 o, .int .i64 d, .int .i64 a, .int .i64 b, .int .u32 k, .int .i64 (placeB q T), .int .i64 (placeB q F)]) (by simp [results, Try.results51, go_sem]) rfl ⟨rfl, below_al (below1 _ _) _⟩
    · have HV := Lib.hid (show movedB q ⟨o, d, a, b, k, T, f⟩ = ⟨o, d, a, b, k, placeB q T, f⟩ by simp [movedB, hT, hF])
      simp only [shT, shF, Bool.or_eq_true, beq_iff_eq, Bool.and_eq_true, decide_eq_true_eq] at hT hF
      obtain rfl : o = 14 := by omega
      clear ht hf hT hF t0 t1
      rw [HV.out]
      dsimp only
      clear HV
      go_enter Try.func51, Try.ntmps51
      go_wp2_with fail
      refine (of_places_c A w.heap.size q.length cap _ T _ HT.out _ ((HR.out.alloc (Nat.le_refl _) _).alloc (by simp) _)).mono ?_
      rintro e w' ⟨rfl, rfl⟩
      go_wp2
      refine bodyPost_ret (v := .agg #[.int .i64 14, .int .i64 d, .int .i64 a, .int .i64 b, .int .u32 k, .int .i64 (placeB q T), .int .i64 f]) (by simp [results, Try.results51, go_sem]) rfl ⟨rfl, below_al (below1 _ _) _⟩
  · have hF : shF o = false := by simp only [shT, shF, Bool.or_eq_true, beq_iff_eq, Bool.and_eq_true, decide_eq_true_eq, Bool.and_eq_false_iff, decide_eq_false_iff_not] at hT ⊢; omega
    have HV := Lib.hid (show movedB q ⟨o, d, a, b, k, t, f⟩ = ⟨o, d, a, b, k, t, f⟩ by simp [movedB, hT, hF])
    rw [HV.out]
    dsimp only
    clear HV ht hf
    simp only [shT, Bool.or_eq_true, beq_iff_eq, Bool.and_eq_true, decide_eq_true_eq] at hT
    by_cases h14 : 14 ≤ o
    · have g1 : decide (14 ≤ o) = true := by simpa using h14
      have g2 : decide (o ≤ 18) = false := by simp; omega
      have g3 : decide (15 ≤ o) = true := by simp; omega
      clear hT hF h14
      go_enter Try.func51, Try.ntmps51
      go_wp2
      refine bodyPost_ret (v := .agg #[.int .i64 o, .int .i64 d, .int .i64 a, .int .i64 b, .int .u32 k, .int .i64 t, .int .i64 f]) (by simp [results, Try.results51, go_sem]) rfl ⟨rfl, below_al (below1 _ _) _⟩
    · have g1 : decide (14 ≤ o) = false := by simpa using h14
      have g3 : decide (15 ≤ o) = false := by simp; omega
      clear hT hF h14
      go_enter Try.func51, Try.ntmps51
      go_wp2
      refine bodyPost_ret (v := .agg #[.int .i64 o, .int .i64 d, .int .i64 a, .int .i64 b, .int .u32 k, .int .i64 t, .int .i64 f]) (by simp [results, Try.results51, go_sem]) rfl ⟨rfl, below_al (below1 _ _) _⟩
end Go.Proofs.Ytalhjbncloobpaa
