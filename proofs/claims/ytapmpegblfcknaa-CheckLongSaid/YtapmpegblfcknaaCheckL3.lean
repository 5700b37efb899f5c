import Derived.Test.YtapmpegblfcknaaCheckP2
set_option linter.unusedVariables false
set_option linter.unusedSimpArgs false
namespace Go.Proofs.Ytapmpegblfcknaa
open Go.RowKit Go.ChangeShapes Go.WideShapes Go.ChangeAt
open Go.ChangeMaps (open_string shut_string)
/-! CheckRest, CheckJoined. -/
theorem own_slice {w : World} {base n : Nat} {e : TypeId} {size : Nat} {v : Value} {xs : List Value} (h : w.ownsRow base e size v n xs) : ∃ A c, v = .slice A n c := by
  rcases h.2 with ⟨rfl, rfl⟩ | ⟨g, cap, cur, rfl, _⟩
  · exact ⟨none, 0, rfl⟩
  · exact ⟨_, cap, rfl⟩
theorem Reads.cutI {w : World} {B n : Nat} {A : Option Addr} {q : List I4} {k cap : Nat} (h : Reads w B 4 A n (cellsI q)) (hk : k ≤ n) (hc : n ≤ cap) : Reads w B 4 (if cap = k then A else A.map (·.add (k * 4))) (n - k) (cellsI (q.drop k)) := by
  have := h.cut hk hc
  have e : cellsI (q.drop k) = (cellsI q).drop (k * 4) := by
    have hl := h.lenI
    have h1 : cellsI (q.take k ++ q.drop k) = cellsI (q.take k) ++ cellsI (q.drop k) := by simp only [cellsI, List.flatMap_append]
    rw [List.take_append_drop] at h1
    have h2 : (cellsI (q.take k)).length = k * 4 := by rw [cellsI_length, List.length_take]; congr 1; omega
    rw [h1, ← h2, List.drop_left]
  rwa [e]
theorem tmod_cast (m n : Nat) : ((m : Int).tmod n) = ((m % n : Nat) : Int) := by rw [Int.tmod_eq_emod_of_nonneg (by omega)]; simp
theorem emod_cast (m n : Nat) : ((m : Int) % n).toNat = m % n := by rw [← Int.natCast_emod, Int.toNat_natCast]
set_option maxHeartbeats 400000 in
theorem CheckRest_w (A : Option Addr) (cap : Nat) (q : List I4) (many : Int) (w : World) (hq : ∀ x ∈ q, x.ok) (hc : q.length ≤ cap) (hA : A = none → cap = 0) (hB : q.length * 8 ≤ 140737488351232) (hr : Reads w w.heap.size 4 A q.length (cellsI q)) (hm : -9223372036854775808 ≤ many ∧ many ≤ 9223372036854775807) :
    Calls Try.prog 5 #[.slice A q.length cap, .int .i64 many] w fun e w' => e = .returned (.bool true) ∧ Below w.heap.size w w' := by
  obtain ⟨hm1, hm2⟩ := hm
  have HR := Lib.hid hr
  have HQ := Lib.hid hq
  clear hr hq hA
  go_enter Try.func5, Try.ntmps5
  go_wp2_with fail
  refine (Head04_c w).mono ?_
  rintro e w1 ⟨rfl, hb1⟩
  go_wp2_with fail
  refine (Check_c A cap q HQ.out (by omega) w1 (HR.out.up hb1)).mono ?_
  rintro e w2 ⟨rfl, hb2⟩
  have hb2' := below_t hb1 hb2
  by_cases hz : (checkP q).1 = 0
  · have hz' : ((checkP q).1 != 0) = false := by simpa using hz
    have hpos := ((checkP_zero q).1 hz).1
    have HZ := Lib.hid hz
    clear hz
    obtain ⟨m, hmany, hm0⟩ : ∃ m : Nat, (many = -(m : Int) - 1 ∨ many = (m : Int)) ∧ (m : Int) ≤ 9223372036854775807 := by
      by_cases h : many < 0
      · exact ⟨(-(many + 1)).toNat, .inl (by omega), by omega⟩
      · exact ⟨many.toNat, .inr (by omega), by omega⟩
    have hk : m % q.length < q.length := Nat.mod_lt _ hpos
    have hk' : ((m : Int) % q.length) < q.length := by have : ((m : Int) % q.length) = ((m % q.length : Nat) : Int) := by simp
                                                       omega
    have hk0 : 0 ≤ ((m : Int) % q.length) := by have : ((m : Int) % q.length) = ((m % q.length : Nat) : Int) := by simp
                                                omega
    have HF := Lib.hid (check_rest q (m % q.length) hk HZ.out)
    have hlen : (q.drop (m % q.length)).length = q.length - m % q.length := by simp
    have hcall := Check_c (if cap = m % q.length then A else A.map (·.add (m % q.length * 4))) (cap - m % q.length) (q.drop (m % q.length)) (fun x hx => HQ.out x (List.mem_of_mem_drop hx)) (by omega) w2 (by rw [hlen]; exact (HR.out.up hb2').cutI (Nat.le_of_lt hk) hc)
    rw [hlen, if_neg (by omega)] at hcall
    have HCall := Lib.hid hcall
    have hcap : ¬ cap = m % q.length := by omega
    have he : ((m : Int) % q.length).toNat = m % q.length := emod_cast m q.length
    have hn1 : ((q.length : Int) == 0) = false := by rw [beq_eq_false_iff_ne]; omega
    clear hlen hcall
    rcases hmany with rfl | rfl
    all_goals
      go_wp2_with fail
      refine HCall.out.mono ?_
      rintro e w3 ⟨rfl, hb3⟩
      rw [HF.out]
      go_wp2
      go_ret
      exact ⟨rfl, below_t hb2' hb3⟩
  · have hz' : ((checkP q).1 != 0) = true := by simpa using hz
    clear hz
    go_wp2
    go_ret
    exact ⟨rfl, hb2'⟩

set_option maxHeartbeats 400000 in
theorem CheckJoined_w (A : Option Addr) (cap : Nat) (q : List I4) (A' : Option Addr) (cap' : Nat) (r : List I4) (w : World) (hq : ∀ x ∈ q, x.ok) (hc : q.length ≤ cap) (hA : A = none → cap = 0) (hB : q.length * 8 ≤ 140737488351232) (hr : Reads w w.heap.size 4 A q.length (cellsI q))
    (hq' : ∀ x ∈ r, x.ok) (hc' : r.length ≤ cap') (hA' : A' = none → cap' = 0) (hB' : r.length * 8 ≤ 140737488351232) (hr' : Reads w w.heap.size 4 A' r.length (cellsI r)) :
    Calls Try.prog 6 #[.slice A q.length cap, .slice A' r.length cap'] w fun e w' => e = .returned (.bool true) ∧ Below w.heap.size w w' := by
  obtain ⟨i0, HI⟩ : ∃ i0, Hid (Try.prog.info? 33 = some i0 ∧ i0.zero = some (.agg #[.int .u16 0, .int .u8 0, .int .u8 0, .int .u32 0]) ∧ i0.size = 4 ∧ i0.bytes = 8) := by
    obtain ⟨i0, hi, hz0, hz1, hz2⟩ := info_parts infoI
    exact ⟨i0, Lib.hid ⟨hi, hz0, hz1, hz2⟩⟩
  have HR := Lib.hid hr
  have HQ := Lib.hid hq
  have HR' := Lib.hid hr'
  have HQ' := Lib.hid hq'
  have HA := Lib.hid hA
  have HA' := Lib.hid hA'
  clear hr hq hA hr' hq' hA'
  have tok1 : True := trivial
  go_enter Try.func6, Try.ntmps6
  go_wp2_with fail
  refine (Head04_c w).mono ?_
  rintro e w1 ⟨rfl, hb1⟩
  go_wp2_with fail
  refine (Check_c A cap q HQ.out (by omega) w1 (HR.out.up hb1)).mono ?_
  rintro e w2 ⟨rfl, hb2⟩
  have hb2' := below_t hb1 hb2
  go_wp2_with fail
  refine (Check_c A' cap' r HQ'.out (by omega) w2 (HR'.out.up hb2')).mono ?_
  rintro e w3 ⟨rfl, hb3⟩
  have hb3' := below_t hb2' hb3
  by_cases hz : (checkP q).1 = 0
  · by_cases hy : (checkP r).1 = 0
    · have hz' : ((checkP q).1 != 0) = false := by simpa using hz
      have hy' : ((checkP r).1 != 0) = false := by simpa using hy
      have HJ := Lib.hid (check_joined q r hz hy)
      have h1 := ((checkP_zero q).1 hz).2.1
      have h2 := ((checkP_zero r).1 hy).2.1
      have h3 : ((q.length : Int) + r.length) ≤ 8192 := by omega
      have hs3 := hb3'.size
      have h0 : (w3.alloc (.cells #[] 33)).ownsRow w3.heap.size 33 4 (.slice (some ⟨w3.heap.size, 0, none⟩) 0 0) 0 [] := World.ownsRow_lit w3 #[] 0 (Nat.le_refl _) (by decide) rfl
      clear hz hy
      go_wp2_with (first
        | (at_builtin; have _t := tok1; clear tok1; refine wpList_app rfl (.tmp 35) (.tmp 36) 22 rfl w3.heap.size 33 i0 _ 4 8 Try.underlying22 HI.out.1 HI.out.2.1 HI.out.2.2.1 HI.out.2.2.2 rfl (by decide) _ 0 [] rfl h0 A w3.heap.size q.length cap (cellsI q) rfl HA.out ((HR.out.up hb3').alloc (Nat.le_refl _) _) (cellsI_one q) (by simp only [maxLen]; omega) (by omega) (by simp) ?_
           intro v1 w4 hown1 hg1 _
           have hb4 : Below w3.heap.size w3 w4 := below_gr (below1 w3 _) hg1 (by simp) (fun k hk => Nat.le_of_eq (Option.some.inj hk))
           have hs4 := hb4.size
           (try simp only [Nat.zero_add, List.nil_append] at hown1)
           clear hg1)
        | (at_builtin; refine wpList_app rfl (.tmp 37) (.tmp 38) 22 rfl w3.heap.size 33 i0 _ 4 8 Try.underlying22 HI.out.1 HI.out.2.1 HI.out.2.2.1 HI.out.2.2.2 rfl (by decide) v1 q.length (cellsI q) rfl hown1 A' w4.heap.size r.length cap' (cellsI r) rfl HA'.out (HR'.out.up (below_t hb3' hb4)) (cellsI_one r) (by simp only [maxLen]; omega) (by omega) (by omega) ?_
           intro v2 w5 hown2 hg2 _
           have hb5 : Below w3.heap.size w3 w5 := below_gr hb4 hg2 (by omega) (fun k hk => own_ge hown1 k hk)
           have e2 : cellsI q ++ cellsI r = cellsI (q ++ r) := by simp only [cellsI, List.flatMap_append]
           rw [e2] at hown2
           obtain ⟨A2, c2, hv2⟩ := own_slice hown2
           subst hv2
           have hr2 := Reads.of_own hown2
           clear hg2 e2)
        | fail)
      have hcall := Check_c A2 c2 (q ++ r) (fun x hx => by rcases List.mem_append.1 hx with h | h; exact HQ.out x h; exact HQ'.out x h) (by rw [List.length_append]; omega) w5 (by rw [List.length_append]; exact hr2)
      rw [List.length_append] at hcall
      refine hcall.mono ?_
      clear hcall hr2
      rintro e w6 ⟨rfl, hb6⟩
      have hfin := below_t hb3' (below_t hb5 hb6)
      by_cases hl : q.length + r.length ≤ 4096
      · have hz1 : ((checkP (q ++ r)).1 == 0) = true := by rw [beq_iff_eq]; exact HJ.out.2 hl
        have hl1 : (q.length : Int) + r.length ≤ 4096 := by omega
        go_wp2
        go_ret
        exact ⟨rfl, hfin⟩
      · have hz1 : ((checkP (q ++ r)).1 == 0) = false := by rw [beq_eq_false_iff_ne]; exact fun h => hl (HJ.out.1 h)
        have hl1 : ¬ (q.length : Int) + r.length ≤ 4096 := by omega
        go_wp2
        go_ret
        exact ⟨ret_b (by simp; omega), hfin⟩
    · have hz' : ((checkP q).1 != 0) = false := by simpa using hz
      have hy' : ((checkP r).1 != 0) = true := by simpa using hy
      clear hz hy
      go_wp2
      go_ret
      exact ⟨rfl, hb3'⟩
  · have hz' : ((checkP q).1 != 0) = true := by simpa using hz
    clear hz
    go_wp2
    go_ret
    exact ⟨rfl, hb3'⟩
/-! ### the row of CheckRest -/
set_option maxRecDepth 100000 in
theorem CheckRest_lifted (os : Os) (started : os.Started) (H : Type) (enc : TypeId × Value → H) :
    ReturnsInHanded {} Try.checked os 5 .any (Rows.checkRestSpec.pre6 enc Try.prog Try.f5 Rows.checkRestRow.domain false) (Rows.checkRestSpec.post enc Try.prog Try.f5 false true false false) := by
  refine returnsInHanded_of_change_sized (C := Try.checked) ownNone started (by kernel_rfl) Try.func5
    (ChangeSpec.witness6 (enc := enc) (C := Try.checked) false ⟨#[], #[.slice none 0 0, .int .i64 0], []⟩ 8 (by kernel_rfl) (by kernel_rfl) (by kernel_rfl) (by kernel_rfl)) ?_
  intro W base args ds gs before hval0 hW hcnd hsz0 _
  have hsz : (DataW.weightsEach Try.prog (Try.f5.params.toList ++ Rows.checkRestSpec.plain.varTypes Try.prog) (ds ++ gs)).all (· ≤ reachBytes) = true := hsz0
  have hval : ∀ (j : Nat) t v, Try.f5.params[j]? = some t → args[j]? = some v → Value.okWide Try.prog W .any base t v := hval0
  have hW' := hW
  obtain ⟨p, q, hA0, hV, rfl, hfz, hnd⟩ := hW
  have hA : DataW.TrodAll enc Try.prog W 0 (fun _ => true) true Try.f5.params.toList args.toList ds p := hA0
  rw [Try.params5] at hA hval hsz
  obtain ⟨v0, vs0, d0, ds0, p0, q0, hargs, rfl, rfl, h0, r0⟩ := trodAll_cons hA
  obtain ⟨v1, vs1, d1, ds1, p1, q1, rfl, rfl, rfl, h1, r1⟩ := trodAll_cons r0
  obtain ⟨rfl, rfl, rfl⟩ := trodAll_nil r1
  obtain rfl : args = #[v0, v1] := by cases args; simp_all
  obtain ⟨rfl, rfl⟩ := trodVars_none hV
  obtain ⟨a0, len0, cap0, rfl⟩ := okWide_slice Try.underlying22 (hval 0 22 v0 rfl rfl)
  have k0 := h0
  have lt0 : ∀ x ∈ p0, x.block < W.heap.size := by obtain ⟨m, hm⟩ := k0; exact DataW.trod_lt m _ _ _ hm
  obtain ⟨xs0, hl0, hr0, ho0, hc0, ha0, hb0⟩ := open_rows (α := I4) (j := 0) I4.cells I4.ok 4 8 Try.underlying22 (by kernel_rfl) (by decide) (fun _ => rfl) (by kernel_rfl) insn_cells hsz rfl rfl h0
  subst hl0
  obtain ⟨x1, rfl, rfl, rfl, w1⟩ := open_int Try.underlying3 (hval 1 3 v1 rfl rfl) h1
  clear hA0 hval0 hsz0 hsz
  refine (CheckRest_w a0 cap0 xs0 x1 W ho0 hc0 ha0 hb0 hr0 (wf_i64 w1)).mono fun e W' ⟨he, bel⟩ => ?_
  subst he
  exact ⟨_, rfl, _, _, _, [], _, [], hW', trodAll_mk1 (shut_bool Try.underlying4 _), (trodAll_cons_mk (Below.trod laidOutB_ (by kernel_rfl) (of_decide_eq_true (by kernel_rfl)) k0 bel lt0) (trodAll_cons_mk (shut_int Try.underlying3 w1) trodAll_mk0)), rfl, bel.frame _, fun h => by cases h⟩
theorem CheckRest_holds : Rows.CheckRestSaid :=
  OpenClaim.holds_of_wide 5 Try.f5 rfl rfl rfl rfl rfl rfl rfl ⟨rfl, rfl, rfl, rfl, rfl⟩ rfl rfl rfl rfl rfl (by kernel_rfl) Try.func5 (by kernel_rfl)
    (of_decide_eq_true (by kernel_rfl)) (by unfold Func.isWrapper; first | (rw [if_pos (by decide +kernel)]; kernel_rfl) | (rw [if_neg (by decide +kernel)]; exact ⟨rfl, rfl⟩))
    (fun os started H enc _ => CheckRest_lifted os started H enc)
#print axioms CheckRest_holds
/-! ### the row of CheckJoined -/
set_option maxRecDepth 100000 in
theorem CheckJoined_lifted (os : Os) (started : os.Started) (H : Type) (enc : TypeId × Value → H) :
    ReturnsInHanded {} Try.checked os 6 .any (Rows.checkJoinedSpec.pre6 enc Try.prog Try.f6 Rows.checkJoinedRow.domain false) (Rows.checkJoinedSpec.post enc Try.prog Try.f6 false true false false) := by
  refine returnsInHanded_of_change_sized (C := Try.checked) ownNone started (by kernel_rfl) Try.func6
    (ChangeSpec.witness6 (enc := enc) (C := Try.checked) false ⟨#[], #[.slice none 0 0, .slice none 0 0], []⟩ 8 (by kernel_rfl) (by kernel_rfl) (by kernel_rfl) (by kernel_rfl)) ?_
  intro W base args ds gs before hval0 hW hcnd hsz0 _
  have hsz : (DataW.weightsEach Try.prog (Try.f6.params.toList ++ Rows.checkJoinedSpec.plain.varTypes Try.prog) (ds ++ gs)).all (· ≤ reachBytes) = true := hsz0
  have hval : ∀ (j : Nat) t v, Try.f6.params[j]? = some t → args[j]? = some v → Value.okWide Try.prog W .any base t v := hval0
  have hW' := hW
  obtain ⟨p, q, hA0, hV, rfl, hfz, hnd⟩ := hW
  have hA : DataW.TrodAll enc Try.prog W 0 (fun _ => true) true Try.f6.params.toList args.toList ds p := hA0
  rw [Try.params6] at hA hval hsz
  obtain ⟨v0, vs0, d0, ds0, p0, q0, hargs, rfl, rfl, h0, r0⟩ := trodAll_cons hA
  obtain ⟨v1, vs1, d1, ds1, p1, q1, rfl, rfl, rfl, h1, r1⟩ := trodAll_cons r0
  obtain ⟨rfl, rfl, rfl⟩ := trodAll_nil r1
  obtain rfl : args = #[v0, v1] := by cases args; simp_all
  obtain ⟨rfl, rfl⟩ := trodVars_none hV
  obtain ⟨a0, len0, cap0, rfl⟩ := okWide_slice Try.underlying22 (hval 0 22 v0 rfl rfl)
  have k0 := h0
  have lt0 : ∀ x ∈ p0, x.block < W.heap.size := by obtain ⟨m, hm⟩ := k0; exact DataW.trod_lt m _ _ _ hm
  obtain ⟨xs0, hl0, hr0, ho0, hc0, ha0, hb0⟩ := open_rows (α := I4) (j := 0) I4.cells I4.ok 4 8 Try.underlying22 (by kernel_rfl) (by decide) (fun _ => rfl) (by kernel_rfl) insn_cells hsz rfl rfl h0
  subst hl0
  obtain ⟨a1, len1, cap1, rfl⟩ := okWide_slice Try.underlying22 (hval 1 22 v1 rfl rfl)
  have k1 := h1
  have lt1 : ∀ x ∈ p1, x.block < W.heap.size := by obtain ⟨m, hm⟩ := k1; exact DataW.trod_lt m _ _ _ hm
  obtain ⟨xs1, hl1, hr1, ho1, hc1, ha1, hb1⟩ := open_rows (α := I4) (j := 1) I4.cells I4.ok 4 8 Try.underlying22 (by kernel_rfl) (by decide) (fun _ => rfl) (by kernel_rfl) insn_cells hsz rfl rfl h1
  subst hl1
  clear hA0 hval0 hsz0 hsz
  refine (CheckJoined_w a0 cap0 xs0 a1 cap1 xs1 W ho0 hc0 ha0 hb0 hr0 ho1 hc1 ha1 hb1 hr1).mono fun e W' ⟨he, bel⟩ => ?_
  subst he
  exact ⟨_, rfl, _, _, _, [], _, [], hW', trodAll_mk1 (shut_bool Try.underlying4 _), (trodAll_cons_mk (Below.trod laidOutB_ (by kernel_rfl) (of_decide_eq_true (by kernel_rfl)) k0 bel lt0) (trodAll_cons_mk (Below.trod laidOutB_ (by kernel_rfl) (of_decide_eq_true (by kernel_rfl)) k1 bel lt1) trodAll_mk0)), rfl, bel.frame _, fun h => by cases h⟩
theorem CheckJoined_holds : Rows.CheckJoinedSaid :=
  OpenClaim.holds_of_wide 6 Try.f6 rfl rfl rfl rfl rfl rfl rfl ⟨rfl, rfl, rfl, rfl, rfl⟩ rfl rfl rfl rfl rfl (by kernel_rfl) Try.func6 (by kernel_rfl)
    (of_decide_eq_true (by kernel_rfl)) (by unfold Func.isWrapper; first | (rw [if_pos (by decide +kernel)]; kernel_rfl) | (rw [if_neg (by decide +kernel)]; exact ⟨rfl, rfl⟩))
    (fun os started H enc _ => CheckJoined_lifted os started H enc)
#print axioms CheckJoined_holds
end Go.Proofs.Ytapmpegblfcknaa
