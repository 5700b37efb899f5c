import Derived.Test.YtpofdjnkpplimaaCbpfHead
import Derived.Test.YtpofdjnkpplimaaCbpfSh
import Derived.Test.YtpofdjnkpplimaaOpen
set_option linter.unusedVariables false
set_option linter.unusedSimpArgs false
namespace Go.Proofs.Ytpofdjnkpplimaa
open Go.RowKit Go.ChangeShapes Go.WideShapes Go.ChangeAt
open Go.ChangeMaps (open_string shut_string)
/-! CbpfBehind. -/
theorem jaOver_ok {n : Nat} (h : n ≤ 1000) : (jaOver n).ok := by simp [jaOver, I4.ok]; omega
set_option maxRecDepth 100000 in
set_option maxHeartbeats 1600000 in
theorem CbpfBehind_w (A : Option Addr) (cap : Nat) (q : List I4) (As : Option Addr) (caps : Nat) (sk : List I4) (A1 : Option Addr) (cap1 : Nat) (dat : List Int) (w : World) (hq : ∀ x ∈ q, x.ok) (hc : q.length ≤ cap) (hA : A = none → cap = 0) (hB : q.length * 8 ≤ 140737488351232) (hr : Reads w w.heap.size 4 A q.length (cellsI q))
    (hqs : ∀ x ∈ sk, x.ok) (hcs : sk.length ≤ caps) (hAs : As = none → caps = 0) (hBs : sk.length * 8 ≤ 140737488351232) (hrs : Reads w w.heap.size 4 As sk.length (cellsI sk))
    (hq1 : ∀ x ∈ dat, 0 ≤ x ∧ x < 256) (hc1 : dat.length ≤ cap1) (hA1 : A1 = none → cap1 = 0) (hB1 : dat.length * 1 ≤ 140737488351232) (hr1 : Reads w w.heap.size 1 A1 dat.length (numV .u8 dat)) :
    Calls Try.prog 5 #[.slice A q.length cap, .slice As sk.length caps, .slice A1 dat.length cap1] w fun e w' => e = .returned (.bool true) ∧ Below w.heap.size w w' := by
  obtain ⟨i0, HI⟩ : ∃ i0, Hid (Try.prog.info? 34 = some i0 ∧ i0.zero = some (.agg #[.int .u16 0, .int .u8 0, .int .u8 0, .int .u32 0]) ∧ i0.size = 4 ∧ i0.bytes = 8) := by
    obtain ⟨i0, hi, hz0, hz1, hz2⟩ := info_parts infoI
    exact ⟨i0, Lib.hid ⟨hi, hz0, hz1, hz2⟩⟩
  by_cases hk : sk.length ≤ 1000
  · have HC := Lib.hid (fun (W : World) (hb : Below w.heap.size w W) => Run_c A cap q A1 cap1 dat hA hc hB hA1 hc1 hB1 hq hq1 W (hr.up hb) (hr1.up hb))
    have HC2 := Lib.hid (fun (g c2 : Nat) (W : World) (hb : Below w.heap.size w W) (hc2 : 1 + sk.length + q.length ≤ c2) (hr2 : Reads W W.heap.size 4 (some ⟨g, 0, none⟩) (1 + sk.length + q.length) (cellsI (jaOver sk.length :: (sk ++ q)))) =>
      (show Calls Try.prog 13 #[.slice (some ⟨g, 0, none⟩) (1 + sk.length + q.length) c2, .slice A1 dat.length cap1] W (RunPost W (runC (jaOver sk.length :: (sk ++ q)) dat)) from by
        have e : (jaOver sk.length :: (sk ++ q)).length = 1 + sk.length + q.length := by simp; omega
        have h := Run_b (some ⟨g, 0, none⟩) c2 (jaOver sk.length :: (sk ++ q)) A1 cap1 dat (fun h => by cases h) (by rw [e]; exact hc2) (by rw [e]; omega) hA1 hc1 hB1 (fun x hx => by
          rcases List.mem_cons.1 hx with rfl | hx
          · exact jaOver_ok hk
          · rcases List.mem_append.1 hx with hx | hx
            · exact hqs x hx
            · exact hq x hx) hq1 W (by rw [e]; exact hr2) (hr1.up hb)
        rw [e] at h
        exact h))
    obtain ⟨b1, b2, b3, b4⟩ := runC_rng q hq dat
    have hbeh := runC_behind sk q dat
    have HR := Lib.hid hr
    have HRS := Lib.hid hrs
    have HA := Lib.hid hA
    have HAS := Lib.hid hAs
    clear hr hA hrs hAs hr1 hq1 hA1 hq hqs
    obtain ⟨⟨rv, rs, rf, ra⟩, hR0⟩ : ∃ R, R = runC q dat := ⟨_, rfl⟩
    rw [← hR0] at b1 b2 b3 b4 hbeh
    dsimp only at b1 b2 b3 b4
    have HR0 := Lib.hid hR0
    have HBE := Lib.hid hbeh
    have hki : (sk.length : Int) ≤ 1000 := by omega
    have hB' : (q.length : Int) ≤ 17592186043904 := by omega
    have h21 : dat.length ≠ 64 → rf = 21 := fun h => by
      have := hR0; unfold runC at this; rw [if_pos h] at this; exact congrArg (fun r : Res4 => r.2.2.1) this
    have H21 := Lib.hid h21
    clear hR0 hbeh h21
    go_enter Try.func5, Try.ntmps5
    go_wp2_with fail
    refine (Head03_c w).mono ?_
    rintro e w1 ⟨rfl, hb1⟩
    have h0 : (w1.alloc (.cells #[.int .u16 5, .int .u8 0, .int .u8 0, .int .u32 sk.length] 34)).ownsRow w1.heap.size 34 4 (.slice (some ⟨w1.heap.size, 0, none⟩) 1 1) 1 [.int .u16 5, .int .u8 0, .int .u8 0, .int .u32 sk.length] := World.ownsRow_lit w1 #[.int .u16 5, .int .u8 0, .int .u8 0, .int .u32 sk.length] 1 (Nat.le_refl _) (by decide) rfl
    have H0 := Lib.hid h0
    clear h0
    have tok : True := trivial
    go_wp2_with (at_builtin; first | (have _t := tok; clear tok; refine wpList_app rfl (.tmp 27) (.tmp 28) 22 rfl w1.heap.size 34 i0 _ 4 8 Try.underlying22 HI.out.1 HI.out.2.1 HI.out.2.2.1 HI.out.2.2.2 rfl (by decide) _ 1 [.int .u16 5, .int .u8 0, .int .u8 0, .int .u32 sk.length] rfl H0.out As w1.heap.size sk.length caps (cellsI sk) rfl HAS.out ((HRS.out.up hb1).alloc (Nat.le_refl _) _) (cellsI_one sk) (by simp only [maxLen]; omega) (by omega) (by simp) ?_; intro v1 w2 hown1 hg1 hnil; have hb2 : Below w1.heap.size w1 w2 := below_gr (below1 w1 _) hg1 (by simp) (fun k hk => by have := own_ge H0.out k hk; omega); obtain ⟨g1, cap2, hv1⟩ : ∃ g1 cap2, v1 = .slice (some ⟨g1, 0, none⟩) (1 + sk.length) cap2 := (by rcases hown1.2 with ⟨h, _⟩ | ⟨g', cap', cur, h, _⟩; exact absurd (hnil.1 h).1 (by intro e; cases e); exact ⟨g', cap', by simpa using h⟩); subst hv1; have HO1 := Lib.hid hown1; have hs2 : w1.heap.size ≤ w2.heap.size := hb2.size; have HB2 := Lib.hid (below_t hb1 hb2); clear hnil hg1 hown1 hb2) | (refine wpList_app_big rfl (.tmp 30) (.tmp 31) 22 rfl w1.heap.size 34 i0 _ 4 8 Try.underlying22 HI.out.1 HI.out.2.1 HI.out.2.2.1 HI.out.2.2.2 rfl (by decide) g1 (1 + sk.length) cap2 _ rfl HO1.out A w2.heap.size q.length cap (cellsI q) rfl HA.out (HR.out.up HB2.out) (cellsI_one q) (by simp only [maxLen]; omega) (by decide) (by omega) hs2 ?_; intro g2 cap3 w3 hown2 hg2; have HO2 := Lib.hid hown2; have HG2 := Lib.hid hg2; clear hown2 hg2))
    have hb3 : Below w.heap.size w w3 := below_gr HB2.out HG2.out HB2.out.size (fun k hk => by
      have e := Option.some.inj hk
      subst e
      have := own_ge HO1.out g1 (by simp [Value.ownBlock])
      have := hb1.size
      omega)
    have HB3 := Lib.hid hb3
    have hcap3 := own_cap HO2.out
    clear hb3
    refine (HC.out w3 HB3.out).mono ?_
    rintro e w4 ⟨rfl, hb4⟩
    rw [← HR0.out]
    unfold ret4
    dsimp only
    have HB4 := Lib.hid (below_t HB3.out hb4)
    have HRX := Lib.hid (show Reads w4 w4.heap.size 4 (some ⟨g2, 0, none⟩) (1 + sk.length + q.length) (cellsI (jaOver sk.length :: (sk ++ q))) from by
      have h := (Reads.of_own HO2.out).up hb4
      have e : cellsI (jaOver sk.length :: (sk ++ q)) = [.int .u16 5, .int .u8 0, .int .u8 0, .int .u32 sk.length] ++ cellsI sk ++ cellsI q := by simp [cellsI, jaOver, I4.cells]
      rw [e]
      exact h)
    clear hb4
    go_wp2_with fail
    refine (HC2.out g2 cap3 w4 HB4.out hcap3 HRX.out).mono ?_
    rintro e w5 ⟨rfl, hb5⟩
    rw [HBE.out]
    have hb5' := below_t HB4.out hb5
    clear hb5 HRX
    by_cases h64 : dat.length = 64
    · rw [if_neg (by simpa using h64)]
      have h64' : (dat.length : Int) = 64 := by omega
      unfold ret4 behind
      dsimp only
      by_cases hf : rf = 0
      · rw [if_neg (by simpa using hf)]
        have h' : (rf != 0) = false := by simpa using hf
        clear hf h64
        go_wp2
        go_ret
        exact ⟨rfl, hb5'⟩
      · rw [if_pos hf, show ra + ((sk.length + 1 : Nat) : Int) = ra + sk.length + 1 by push_cast; omega]
        have h' : (rf != 0) = true := by simpa using hf
        clear hf h64
        go_wp2
        go_ret
        exact ⟨rfl, hb5'⟩
    · rw [if_pos h64]
      have e21 := H21.out h64
      subst e21
      have h64' : ((dat.length : Int) != 64) = true := by simp; omega
      unfold ret4
      dsimp only
      go_wp2
      go_ret
      exact ⟨rfl, hb5'⟩
  · have hki : (1000 : Int) < sk.length := by omega
    clear hr hA hrs hAs hr1 hq1 hA1 hq hqs
    go_enter Try.func5, Try.ntmps5
    go_wp2_with fail
    refine (Head03_c w).mono ?_
    rintro e w1 ⟨rfl, hb1⟩
    go_wp2
    go_ret
    exact ⟨rfl, hb1⟩
/-! ### the row of CbpfBehind -/
set_option maxRecDepth 100000 in
theorem CbpfBehind_lifted (os : Os) (started : os.Started) (H : Type) (enc : TypeId × Value → H) :
    ReturnsInHanded {} Try.checked os 5 .any (Rows.cbpfBehindSpec.pre6 enc Try.prog Try.f5 Rows.cbpfBehindRow.domain false) (Rows.cbpfBehindSpec.post enc Try.prog Try.f5 false true false false) := by
  refine returnsInHanded_of_change_sized (C := Try.checked) ownNone started (by kernel_rfl) Try.func5
    (ChangeSpec.witness6 (enc := enc) (C := Try.checked) false ⟨#[], #[.slice none 0 0, .slice none 0 0, .slice none 0 0], []⟩ 8 (by kernel_rfl) (by kernel_rfl) (by kernel_rfl) (by kernel_rfl)) ?_
  intro W base args ds gs before hval0 hW hcnd hsz0 _
  have hsz : (DataW.weightsEach Try.prog (Try.f5.params.toList ++ Rows.cbpfBehindSpec.plain.varTypes Try.prog) (ds ++ gs)).all (· ≤ reachBytes) = true := hsz0
  have hval : ∀ (j : Nat) t v, Try.f5.params[j]? = some t → args[j]? = some v → Value.okWide Try.prog W .any base t v := hval0
  have hW' := hW
  obtain ⟨p, q, hA0, hV, rfl, hfz, hnd⟩ := hW
  have hA : DataW.TrodAll enc Try.prog W 0 (fun _ => true) true Try.f5.params.toList args.toList ds p := hA0
  rw [Try.params5] at hA hval hsz
  obtain ⟨v0, vs0, d0, ds0, p0, q0, hargs, rfl, rfl, h0, r0⟩ := trodAll_cons hA
  obtain ⟨v1, vs1, d1, ds1, p1, q1, rfl, rfl, rfl, h1, r1⟩ := trodAll_cons r0
  obtain ⟨v2, vs2, d2, ds2, p2, q2, rfl, rfl, rfl, h2, r2⟩ := trodAll_cons r1
  obtain ⟨rfl, rfl, rfl⟩ := trodAll_nil r2
  obtain rfl : args = #[v0, v1, v2] := by cases args; simp_all
  obtain ⟨rfl, rfl⟩ := trodVars_none hV
  obtain ⟨a0, len0, cap0, rfl⟩ := okWide_slice Try.underlying22 (hval 0 22 v0 rfl rfl)
  have k0 := h0
  have lt0 : ∀ x ∈ p0, x.block < W.heap.size := by obtain ⟨m, hm⟩ := k0; exact DataW.trod_lt m _ _ _ hm
  obtain ⟨xs0, hl0, hr0, ho0, hc0, ha0, hb0⟩ := open_rows (α := I4) (j := 0) I4.cells I4.ok 4 8 Try.underlying22 (by kernel_rfl) (by decide) (fun _ => rfl) (by kernel_rfl) insn_cells hsz rfl rfl h0
  subst hl0
  obtain ⟨a1, len1, cap1, rfl⟩ := okWide_slice Try.underlying22 (hval 1 22 v1 rfl rfl)
  have k1 := h1
  have lt1 : ∀ x ∈ p1, x.block < W.heap.size := by obtain ⟨m, hm⟩ := k1; exact DataW.trod_lt m _ _ _ hm
  obtain ⟨xs1, hl1, hr1, ho1, hc1, ha1, hb1⟩ := open_rows (α := I4) (j := 1) I4.cells I4.ok 4 8 Try.underlying22 (by kernel_rfl) (by decide) (fun _ => rfl) (by kernel_rfl) insn_cells hsz rfl rfl h1
  subst hl1
  obtain ⟨a2, len2, cap2, rfl⟩ := okWide_slice Try.underlying23 (hval 2 23 v2 rfl rfl)
  have k2 := h2
  have lt2 : ∀ x ∈ p2, x.block < W.heap.size := by obtain ⟨m, hm⟩ := k2; exact DataW.trod_lt m _ _ _ hm
  obtain ⟨xs2, hl2, hr2, ho2, hc2, ha2, hb2⟩ := open_rows (α := Int) (j := 2) (fun x : Int => [Value.int .u8 x]) (fun x : Int => 0 ≤ x ∧ x < 256) 1 1 Try.underlying23 (by kernel_rfl) (by decide) (fun _ => rfl) (by kernel_rfl) (int_cells Try.underlying5 (fun h => wf_u8 h)) hsz rfl rfl h2
  subst hl2
  clear hA0 hval0 hsz0 hsz
  refine (CbpfBehind_w a0 cap0 xs0 a1 cap1 xs1 a2 cap2 xs2 W ho0 hc0 ha0 hb0 hr0 ho1 hc1 ha1 hb1 hr1 ho2 hc2 ha2 hb2 (reads_num hr2)).mono fun e W' ⟨he, bel⟩ => ?_
  subst he
  exact ⟨_, rfl, _, _, _, [], _, [], hW', trodAll_mk1 (shut_bool Try.underlying4 _), (trodAll_cons_mk (Below.trod laidOutB_ (by kernel_rfl) (of_decide_eq_true (by kernel_rfl)) k0 bel lt0) (trodAll_cons_mk (Below.trod laidOutB_ (by kernel_rfl) (of_decide_eq_true (by kernel_rfl)) k1 bel lt1) (trodAll_cons_mk (Below.trod laidOutB_ (by kernel_rfl) (of_decide_eq_true (by kernel_rfl)) k2 bel lt2) trodAll_mk0))), rfl, bel.frame _, fun h => by cases h⟩
theorem CbpfBehind_holds : Rows.CbpfBehindSaid :=
  OpenClaim.holds_of_wide 5 Try.f5 rfl rfl rfl rfl rfl rfl rfl ⟨rfl, rfl, rfl, rfl, rfl⟩ rfl rfl rfl rfl rfl (by kernel_rfl) Try.func5 (by kernel_rfl)
    (of_decide_eq_true (by kernel_rfl)) (by unfold Func.isWrapper; first | (rw [if_pos (by decide +kernel)]; kernel_rfl) | (rw [if_neg (by decide +kernel)]; exact ⟨rfl, rfl⟩))
    (fun os started H enc _ => CbpfBehind_lifted os started H enc)
#print axioms CbpfBehind_holds
end Go.Proofs.Ytpofdjnkpplimaa
