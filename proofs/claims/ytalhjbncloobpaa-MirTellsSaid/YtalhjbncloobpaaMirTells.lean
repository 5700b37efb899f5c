import Derived.Test.YtalhjbncloobpaaMirTellW2
import Derived.Test.YtalhjbncloobpaaMirHead
set_option linter.unusedVariables false
set_option linter.unusedSimpArgs false
namespace Go.Proofs.Ytalhjbncloobpaa
open Go.RowKit Go.ChangeShapes Go.WideShapes Go.ChangeAt
open Go.ChangeMaps (open_string shut_string)
/-! MirTells. -/
theorem NumRow.slice {w W : World} {v : Value} {l : List Int} (h : NumRow w v l W) : ∃ A cap, v = .slice A l.length cap ∧ Reads W W.heap.size 1 A l.length (numV .i64 l) := by
  obtain ⟨h1, h2⟩ := h.1
  rcases h2 with ⟨rfl, h3⟩ | ⟨g, cap, cur, rfl, hb, hg, hnc, hcm, hcs, htake⟩
  · have : l = [] := List.eq_nil_of_length_eq_zero h3
    subst this
    exact ⟨none, 0, rfl, Reads.none_⟩
  · exact ⟨some ⟨g, 0, none⟩, cap, rfl, Reads.of_own h.1⟩
theorem usesL_len (x : R7) : (usesL x).length ≤ 2 := by
  unfold usesL
  split <;> split <;> simp
theorem addP_len (n : Nat) (l : List Int) (t : Int) : (addP n l t).length ≤ l.length + 1 := by unfold addP; split <;> simp
theorem nextP_len (q : List R7) (at_ : Int) : (nextP q at_).length ≤ 2 := by
  unfold nextP
  split
  · simp
  · split
    · simp
    · next x hx =>
      split
      · simp
      · split
        · have h1 := addP_len q.length [] x.t
          have h2 := addP_len q.length (addP q.length [] x.t) x.f
          simp at h1
          omega
        · split
          · have := addP_len q.length [] x.t
            simp at this
            omega
          · have := addP_len q.length [] (at_ + 1)
            simp at this
            omega
set_option maxRecDepth 100000 in
set_option maxHeartbeats 6400000 in
theorem MirTells_w (regs : Int) (A : Option Addr) (cap : Nat) (q : List R7) (A1 : Option Addr) (cap1 : Nat) (l : List Int) (w : World) (hg : inI64 regs) (hq : ∀ x ∈ q, x.ok) (hc : q.length ≤ cap) (hA : A = none → cap = 0) (hB : q.length * 56 ≤ 140737488351232) (hr : Reads w w.heap.size 7 A q.length (cellsR q))
    (hq1 : ∀ x ∈ l, -9223372036854775808 ≤ x ∧ x ≤ 9223372036854775807) (hc1 : l.length ≤ cap1) (hA1 : A1 = none → cap1 = 0) (hB1 : l.length * 8 ≤ 140737488351232) (hr1 : Reads w w.heap.size 1 A1 l.length (numV .i64 l)) :
    Calls Try.prog 10 #[.agg #[.int .i64 regs, .slice A q.length cap], .slice A1 l.length cap1] w fun e w' => e = .returned (.bool true) ∧ Below w.heap.size w w' := by
  have HR := Lib.hid hr
  have HR1 := Lib.hid hr1
  clear hr hq hA hr1 hq1 hA1 hg
  go_enter Try.func10, Try.ntmps10
  go_wp2_with fail
  refine (Head12_c _).mono ?_
  rintro e w1 ⟨rfl, hb1⟩
  have c0 : w1.cell? ⟨w.heap.size, 0, none⟩ = some (.int .i64 regs) := keepC hb1 (by simp [go_sem])
  have c1 : w1.cell? ⟨w.heap.size, 1, none⟩ = some (.slice A q.length cap) := keepC hb1 (by simp [go_sem])
  have hb1' := below_t (below1 w _) hb1
  clear hb1
  go_wp2_with fail
  have C0 := Lib.hid c0
  have C1 := Lib.hid c1
  clear c0 c1
  go_loopw [6] (fun i wr => ∃ n : Nat, n ≤ q.length ∧ i = .int .i64 n ∧ Below w1.heap.size w1 wr) (fun i _ => q.length - (intOf i).toNat)
  case atStart => exact ⟨0, by omega, rfl, Below.refl _ _⟩
  case round =>
    obtain ⟨n, hn, rfl, hBn⟩ := hrel
    have c1 := keepC hBn C1.out
    have hBw := below_t hb1' hBn
    by_cases h6 : n < q.length
    · obtain ⟨x, hx⟩ : ∃ x, q[n]? = some x := ⟨_, List.getElem?_eq_getElem h6⟩
      obtain ⟨b, off, he, hb, i0, i1, i2, i3, i4, i5, i6⟩ := (HR.out.up hBw).ir hx
      subst he
      have hlt1 : (n : Int) < q.length := by omega
      have HX := Lib.hid hx
      clear hx
      have huL := usesL_len x
      obtain ⟨U, hU⟩ : ∃ U, U = usesL x := ⟨_, rfl⟩
      obtain ⟨D, hD⟩ : ∃ D, D = usesD x := ⟨_, rfl⟩
      rw [← hU] at huL
      have HU := Lib.hid hU
      have HD := Lib.hid hD
      clear hU hD
      go_wp2_with fail
      refine (Uses_c x wr).mono ?_
      rintro e w2 ⟨v2, rfl, hN2⟩
      rw [← HU.out] at hN2
      rw [← HD.out]
      obtain ⟨Aa, ca, hva, hra⟩ := hN2.slice
      subst hva
      have hb2 := hN2.2
      have HRA := Lib.hid hra
      have c1' := keepC hb2 c1
      have k2 := below_t hBn hb2
      have hBw2 := below_t hBw hb2
      obtain ⟨b', off', he, hb', i0', i1', i2', i3', i4', i5', i6'⟩ := (HR.out.up hBw2).ir HX.out
      injection he with he
      injection he with he1 he2
      subst he1 he2
      clear hN2 hra hb2 c1 i0 i1 i2 i3 i4 i5 i6 hBn
      go_wp2_with fail
      refine (rUses_c x w2).mono ?_
      rintro e w3 ⟨v3, rfl, hN3⟩
      rw [← HU.out] at hN3
      rw [← HD.out]
      obtain ⟨Ab, cb, hvb, hrb⟩ := hN3.slice
      subst hvb
      have HRB := Lib.hid hrb
      have HRA3 := Lib.hid (HRA.out.up hN3.2)
      have k3 := below_t k2 hN3.2
      clear hN3 hrb c1' i0' i1' i2' i3' i4' i5' i6' k2 hBw2 hBw
      go_wp2_with fail
      refine (Numbers12_c Aa Ab ca cb U (by omega) w3 HRA3.out HRB.out).mono ?_
      rintro e w4 ⟨rfl, hb4⟩
      have k4 := below_t k3 hb4
      clear hb4 k3
      go_wp2
      go_roundw
      case rel => exact ⟨n + 1, by omega, by go_num, k4⟩
      case measure => simp [intOf]; omega
    · go_wp2_with fail
      go_loopw [12] (fun i wr => ∃ n : Nat, n ≤ l.length ∧ i = .int .i64 n ∧ Below w1.heap.size w1 wr) (fun i _ => l.length - (intOf i).toNat)
      case atStart => exact ⟨0, by omega, rfl, hBn⟩
      case round =>
        obtain ⟨m, hm, rfl, hBm⟩ := hrel
        clear c1 hBn hBw
        by_cases h7 : m < l.length
        · obtain ⟨t, ht⟩ : ∃ t, l[m]? = some t := ⟨_, List.getElem?_eq_getElem h7⟩
          have hBw := below_t hb1' hBm
          obtain ⟨b9, o9, e9, hl9, hc9⟩ := (HR1.out.up hBw).num ht
          subst e9
          have hlt2 : (m : Int) < l.length := by omega
          have hnl := nextP_len q t
          obtain ⟨U, hU⟩ : ∃ U, U = nextP q t := ⟨_, rfl⟩
          rw [← hU] at hnl
          have HU := Lib.hid hU
          have HK := Lib.hid (show ∀ W, Below wr.heap.size wr W → W.cell? ⟨w.heap.size, 0, none⟩ = some (.int .i64 regs) ∧ W.cell? ⟨w.heap.size, 1, none⟩ = some (.slice A q.length cap) ∧ W.cell? ⟨b9, o9 + m, none⟩ = some (.int .i64 t) ∧ Below wr.heap.size wr W from
            fun W hb => ⟨keepC hb (keepC hBm C0.out), keepC hb (keepC hBm C1.out), (hb.cell (p := ⟨b9, o9 + m, none⟩) hl9).trans hc9, hb⟩)
          clear ht hU hc9
          go_wp2_with fail
          go_region_held3 (fun W => W.cell? ⟨w.heap.size, 0, none⟩ = some (.int .i64 regs) ∧ W.cell? ⟨w.heap.size, 1, none⟩ = some (.slice A q.length cap) ∧ W.cell? ⟨b9, o9 + m, none⟩ = some (.int .i64 t) ∧ Below wr.heap.size wr W)
            (first | exact HK.out _ (below_dr (Below.refl _ _)) | exact HK.out _ hb5 | exact HK.out _ hb4 | exact HK.out _ hb3 | assumption)
            (first
             | (have _t := tokA; go_at_call 36; go_must (refine (Numbers12_c Aa Ab ca cb U (by omega) _ HRA.out HRB.out).mono ?_; rintro e w5 ⟨rfl, hb5'⟩; have hb5 := below_t hb4 hb5'; clear hb5'))
             | (have _t := tokB; go_at_call 38; go_must (refine (rNext12_c A regs cap q t hB _ (HR.out.up (below_t hBw hb3))).mono ?_; rintro e w4 ⟨v4, rfl, hN4⟩; rw [← HU.out] at hN4; obtain ⟨Ab, cb, hvb, hrb⟩ := hN4.slice; subst hvb; have HRB := Lib.hid hrb; have HRA := Lib.hid (HRA0.out.up hN4.2); have hb4 := below_t hb3 hN4.2; have tokA : True := trivial; clear hN4 hrb))
             | (have _t := tokC; go_at_call 37; go_must (refine (Next12_c A regs cap q t hB _ (HR.out.up (below_t hBw hb3))).mono ?_; rintro e w4 ⟨v4, rfl, hN4⟩; rw [← HU.out] at hN4; obtain ⟨Aa, ca, hva, hra⟩ := hN4.slice; subst hva; have HRA := Lib.hid hra; have HRB := Lib.hid (HRB0.out.up hN4.2); have hb4 := below_t hb3 hN4.2; have tokA : True := trivial; clear hN4 hra))
             | (go_at_call 37; go_must (refine (Next12_c A regs cap q t hB _ (HR.out.up (below_t hBw (below_dr (Below.refl _ _))))).mono ?_; rintro e w3 ⟨v3, rfl, hN3⟩; rw [← HU.out] at hN3; obtain ⟨Aa, ca, hva, hra⟩ := hN3.slice; subst hva; have HRA0 := Lib.hid hra; have hb3 : Below wr.heap.size wr w3 := below_t (below_dr (Below.refl _ _)) hN3.2; have tokB : True := trivial; clear hN3 hra))
             | (go_at_call 38; go_must (refine (rNext12_c A regs cap q t hB _ (HR.out.up (below_t hBw (below_dr (Below.refl _ _))))).mono ?_; rintro e w3 ⟨v3, rfl, hN3⟩; rw [← HU.out] at hN3; obtain ⟨Ab, cb, hvb, hrb⟩ := hN3.slice; subst hvb; have HRB0 := Lib.hid hrb; have hb3 : Below wr.heap.size wr w3 := below_t (below_dr (Below.refl _ _)) hN3.2; have tokC : True := trivial; clear hN3 hrb)))
          all_goals (
            rename_i hHeld
            clear hHeld
            have k5 := below_t hBm hb5
            go_wp2
            go_roundw
            case rel => exact ⟨m + 1, by omega, by go_num, k5⟩
            case measure => simp [intOf]; omega)
        · go_wp2
          go_ret
          exact ⟨rfl, below_t hb1' hBm⟩
/-! ### the row of MirTells -/
set_option maxRecDepth 100000 in
theorem MirTells_lifted (os : Os) (started : os.Started) (H : Type) (enc : TypeId × Value → H) :
    ReturnsInHanded {} Try.checked os 10 .any (Rows.mirTellsSpec.pre6 enc Try.prog Try.f10 Rows.mirTellsRow.domain false) (Rows.mirTellsSpec.post enc Try.prog Try.f10 false true false false) := by
  refine returnsInHanded_of_change_sized (C := Try.checked) ownNone started (by kernel_rfl) Try.func10
    (ChangeSpec.witness6 (enc := enc) (C := Try.checked) false ⟨#[], #[.agg #[.int .i64 0, .slice none 0 0], .slice none 0 0], []⟩ 8 (by kernel_rfl) (by kernel_rfl) (by kernel_rfl) (by kernel_rfl)) ?_
  intro W base args ds gs before hval0 hW hcnd hsz0 _
  have hsz : (DataW.weightsEach Try.prog (Try.f10.params.toList ++ Rows.mirTellsSpec.plain.varTypes Try.prog) (ds ++ gs)).all (· ≤ reachBytes) = true := hsz0
  have hval : ∀ (j : Nat) t v, Try.f10.params[j]? = some t → args[j]? = some v → Value.okWide Try.prog W .any base t v := hval0
  have hW' := hW
  obtain ⟨p, q, hA0, hV, rfl, hfz, hnd⟩ := hW
  have hA : DataW.TrodAll enc Try.prog W 0 (fun _ => true) true Try.f10.params.toList args.toList ds p := hA0
  rw [Try.params10] at hA hval hsz
  obtain ⟨v0, vs0, d0, ds0, p0, q0, hargs, rfl, rfl, h0, r0⟩ := trodAll_cons hA
  obtain ⟨v1, vs1, d1, ds1, p1, q1, rfl, rfl, rfl, h1, r1⟩ := trodAll_cons r0
  obtain ⟨rfl, rfl, rfl⟩ := trodAll_nil r1
  obtain rfl : args = #[v0, v1] := by cases args; simp_all
  obtain ⟨rfl, rfl⟩ := trodVars_none hV
  obtain ⟨rg0, a0, cap0, xs0, rfl, hi0, ho0, hc0, ha0, hb0, hr0⟩ := open_mir (j := 0) hsz rfl rfl (hval 0 25 v0 rfl rfl) h0
  have k0 := h0
  have lt0 : ∀ x ∈ p0, x.block < W.heap.size := by obtain ⟨m, hm⟩ := k0; exact DataW.trod_lt m _ _ _ hm
  obtain ⟨a1, len1, cap1, rfl⟩ := okWide_slice Try.underlying52 (hval 1 52 v1 rfl rfl)
  have k1 := h1
  have lt1 : ∀ x ∈ p1, x.block < W.heap.size := by obtain ⟨m, hm⟩ := k1; exact DataW.trod_lt m _ _ _ hm
  obtain ⟨xs1, hl1, hr1, ho1, hc1, ha1, hb1⟩ := open_rows (α := Int) (j := 1) (fun x : Int => [Value.int .i64 x]) (fun x : Int => -9223372036854775808 ≤ x ∧ x ≤ 9223372036854775807) 1 8 Try.underlying52 (by kernel_rfl) (by decide) (fun _ => rfl) (by kernel_rfl) (int_cells Try.underlying3 (fun h => wf_i64 h)) hsz rfl rfl h1
  subst hl1
  clear hA0 hval0 hsz0 hsz
  refine (MirTells_w rg0 a0 cap0 xs0 a1 cap1 xs1 W hi0 ho0 hc0 ha0 hb0 hr0 ho1 hc1 ha1 hb1 (reads_num hr1)).mono fun e W' ⟨he, bel⟩ => ?_
  subst he
  exact ⟨_, rfl, _, _, _, [], _, [], hW', trodAll_mk1 (shut_bool Try.underlying4 _), (trodAll_cons_mk (Below.trod laidOutB_ (by kernel_rfl) (of_decide_eq_true (by kernel_rfl)) k0 bel lt0) (trodAll_cons_mk (Below.trod laidOutB_ (by kernel_rfl) (of_decide_eq_true (by kernel_rfl)) k1 bel lt1) trodAll_mk0)), rfl, bel.frame _, fun h => by cases h⟩
theorem MirTells_holds : Rows.MirTellsSaid :=
  OpenClaim.holds_of_wide 10 Try.f10 rfl rfl rfl rfl rfl rfl rfl ⟨rfl, rfl, rfl, rfl, rfl⟩ rfl rfl rfl rfl rfl (by kernel_rfl) Try.func10 (by kernel_rfl)
    (of_decide_eq_true (by kernel_rfl)) (by unfold Func.isWrapper; first | (rw [if_pos (by decide +kernel)]; kernel_rfl) | (rw [if_neg (by decide +kernel)]; exact ⟨rfl, rfl⟩))
    (fun os started H enc _ => MirTells_lifted os started H enc)
#print axioms MirTells_holds
end Go.Proofs.Ytalhjbncloobpaa
