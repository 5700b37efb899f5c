import Derived.Test.YtapmpegblfcknaaFlowHead
import Derived.Test.YtapmpegblfcknaaOpen
set_option linter.unusedVariables false
set_option linter.unusedSimpArgs false
namespace Go.Proofs.Ytapmpegblfcknaa
open Go.RowKit Go.ChangeShapes Go.WideShapes Go.ChangeAt
open Go.ChangeMaps (open_string shut_string)
/-! FlowRest. -/
theorem Reads.cutQ {w : World} {B n : Nat} {A : Option Addr} {q : List I4} {k cap : Nat} (h : Reads w B 4 A n (cellsI q)) (hk : k ≤ n) (hc : n ≤ cap) : Reads w B 4 (if cap = k then A else A.map (·.add (k * 4))) (n - k) (cellsI (q.drop k)) := by
  have := h.cut hk hc
  have e : cellsI (q.drop k) = (cellsI q).drop (k * 4) := by
    have hl := h.lenI
    have h1 : cellsI (q.take k ++ q.drop k) = cellsI (q.take k) ++ cellsI (q.drop k) := by simp only [cellsI, List.flatMap_append]
    rw [List.take_append_drop] at h1
    have h2 : (cellsI (q.take k)).length = k * 4 := by rw [cellsI_length, List.length_take]; congr 1; omega
    rw [h1, ← h2, List.drop_left]
  rwa [e]
theorem onL_later (a m left : Nat) (s : Int) : onL (a + m) left s = (onL a left s).map (· + m) := by
  unfold onL
  split
  · simp; omega
  · rfl
theorem nextI_later (x : I4) (a m left : Nat) : nextI x (a + m) left = (nextI x a left).map (· + m) := by
  unfold nextI
  repeat' split
  all_goals first
    | rfl
    | exact onL_later _ _ _ _
    | (rw [onL_later, onL_later, List.map_append])
theorem nextQ_drop (q : List I4) (m a : Nat) : nextQ q (a + m) = (nextQ (q.drop m) a).map (· + m) := by
  unfold nextQ
  rw [List.getElem?_drop, Nat.add_comm m a]
  cases hx : q[a + m]? with
  | none => rfl
  | some x =>
    simp only
    rw [nextI_later, List.length_drop, show q.length - (a + m) - 1 = q.length - m - a - 1 by omega]
set_option maxRecDepth 100000 in
set_option maxHeartbeats 1600000 in
theorem FlowRest_w (A : Option Addr) (cap : Nat) (q : List I4) (many at_ : Int) (w : World) (hq : ∀ x ∈ q, x.ok) (hc : q.length ≤ cap) (hA : A = none → cap = 0) (hB : q.length * 8 ≤ 140737488351232) (hr : Reads w w.heap.size 4 A q.length (cellsI q))
    (hm : -9223372036854775808 ≤ many ∧ many ≤ 9223372036854775807) (ha : -9223372036854775808 ≤ at_ ∧ at_ ≤ 9223372036854775807) :
    Calls Try.prog 9 #[.slice A q.length cap, .int .i64 many, .int .i64 at_] w fun e w' => e = .returned (.bool true) ∧ Below w.heap.size w w' := by
  obtain ⟨hm1, hm2⟩ := hm
  obtain ⟨ha1, ha2⟩ := ha
  have HR := Lib.hid hr
  have HQ := Lib.hid hq
  have hql : (q.length : Int) ≤ 17592186043904 := by omega
  clear hr hq hA
  by_cases g1 : many < 0
  · go_enter Try.func9, Try.ntmps9
    go_wp2_with fail
    refine (Head10_c w).mono ?_
    rintro e w1 ⟨rfl, hb1⟩
    go_wp2
    go_ret
    exact ⟨rfl, hb1⟩
  by_cases g2 : (q.length : Int) < many
  · go_enter Try.func9, Try.ntmps9
    go_wp2_with fail
    refine (Head10_c w).mono ?_
    rintro e w1 ⟨rfl, hb1⟩
    go_wp2
    go_ret
    exact ⟨rfl, hb1⟩
  by_cases g3 : at_ < 0
  · go_enter Try.func9, Try.ntmps9
    go_wp2_with fail
    refine (Head10_c w).mono ?_
    rintro e w1 ⟨rfl, hb1⟩
    go_wp2
    go_ret
    exact ⟨rfl, hb1⟩
  by_cases g4 : (q.length : Int) - many ≤ at_
  · go_enter Try.func9, Try.ntmps9
    go_wp2_with fail
    refine (Head10_c w).mono ?_
    rintro e w1 ⟨rfl, hb1⟩
    go_wp2
    go_ret
    exact ⟨rfl, hb1⟩
  obtain ⟨m, rfl⟩ := Int.eq_ofNat_of_zero_le (a := many) (by omega)
  obtain ⟨a, rfl⟩ := Int.eq_ofNat_of_zero_le (a := at_) (by omega)
  have hma : a + m < q.length := by omega
  have hmi : (m : Int) ≤ q.length := by omega
  have hai : (a : Int) < (q.length : Int) - m := by omega
  have hlen : (q.drop m).length = q.length - m := by simp
  obtain ⟨L, hL⟩ : ∃ L, L = nextQ (q.drop m) a := ⟨_, rfl⟩
  have HN1 := Lib.hid (fun (W : World) (hb : Below w.heap.size w W) => (show Calls Try.prog 24 #[.slice A q.length cap, .int .i64 ((a : Int) + m)] W (NatsPost W (L.map (· + m))) from by
    have h := Next_c A cap q (a + m) hma HQ.out (by omega) W (HR.out.up hb)
    rw [nextQ_drop, ← hL] at h
    exact h))
  have HN2 := Lib.hid (fun (W : World) (hb : Below w.heap.size w W) => (show Calls Try.prog 24 #[.slice (A.map (·.add (m * 4))) (q.length - m) (cap - m), .int .i64 a] W (NatsPost W L) from by
    have h := Next_c (if cap = m then A else A.map (·.add (m * 4))) (cap - m) (q.drop m) a (by omega) (fun x hx => HQ.out x (List.mem_of_mem_drop hx)) (by omega) W (by rw [hlen]; exact (HR.out.up hb).cutQ (by omega) hc)
    rw [hlen, if_neg (by omega), ← hL] at h
    exact h))
  have hL2 : L.length ≤ 2 := by rw [hL]; exact nextQ_len _ _
  have HMEM := Lib.hid (show ∀ n ∈ L, n < q.length from fun n hn => by
    rw [hL] at hn
    have := (nextQ_mem (fun x hx => HQ.out x (List.mem_of_mem_drop hx)) hn).2
    omega)
  have hL2' : (L.length : Int) ≤ 2 := by omega
  have hcm : ¬ cap = m := by omega
  have hcm' : (m : Int) < cap := by omega
  clear hlen hL g1 g2 g3 g4
  go_enter Try.func9, Try.ntmps9
  go_wp2_with fail
  refine (Head10_c w).mono ?_
  rintro e w1 ⟨rfl, hb1⟩
  go_wp2_with fail
  refine (HN1.out w1 hb1).mono ?_
  rintro e w2 h2
  obtain ⟨A2, c2, rfl, HR2, hb2⟩ := h2.form
  rw [List.length_map] at HR2 ⊢
  have HB2 := Lib.hid (below_t hb1 hb2)
  clear h2 hb2
  go_wp2_with fail
  refine (HN2.out w2 HB2.out).mono ?_
  rintro e w3 h3
  obtain ⟨A3, c3, rfl, HR3, hb3⟩ := h3.form
  have HB3 := Lib.hid (below_t HB2.out hb3)
  have HR23 := Lib.hid (HR2.out.up hb3)
  clear h3 hb3
  go_wp2_with fail
  go_loopw [10] (fun i wr => ∃ k : Nat, k ≤ L.length ∧ i = .int .i64 k ∧ Below w3.heap.size w3 wr) (fun i _ => L.length - (intOf i).toNat)
  case atStart => exact ⟨0, by omega, rfl, Below.refl _ _⟩
  case round =>
    obtain ⟨k, hk, rfl, hB⟩ := hrel
    rcases Nat.lt_or_ge k L.length with hkl | hkl
    · have hkl' : (k : Int) < L.length := by omega
      obtain ⟨y, hy⟩ : ∃ y, L[k]? = some y := ⟨_, List.getElem?_eq_getElem hkl⟩
      have hyq := HMEM.out y (List.mem_of_getElem? hy)
      have hyq' : (y : Int) < q.length := by omega
      obtain ⟨b1, o1, rfl, _, e1⟩ := (HR23.out.up hB).num (x := (y : Int) + m) (i := k) (by simp [natsI, hy])
      obtain ⟨b2, o2, rfl, _, e2⟩ := (HR3.out.up hB).num (x := (y : Int)) (i := k) (by simp [natsI, hy])
      clear hy hyq
      go_wp2_with fail
      go_quiet (fail)
      go_wp2_with fail
      exact ⟨⟨k + 1, hkl, rfl, below_drN hB nq⟩, by simp only [intOf]; omega⟩
    · obtain rfl : k = L.length := by omega
      have hB' := below_t HB3.out hB
      go_wp2
      go_ret
      exact ⟨rfl, hB'⟩
/-! ### the row of FlowRest -/
set_option maxRecDepth 100000 in
theorem FlowRest_lifted (os : Os) (started : os.Started) (H : Type) (enc : TypeId × Value → H) :
    ReturnsInHanded {} Try.checked os 9 .any (Rows.flowRestSpec.pre6 enc Try.prog Try.f9 Rows.flowRestRow.domain false) (Rows.flowRestSpec.post enc Try.prog Try.f9 false true false false) := by
  refine returnsInHanded_of_change_sized (C := Try.checked) ownNone started (by kernel_rfl) Try.func9
    (ChangeSpec.witness6 (enc := enc) (C := Try.checked) false ⟨#[], #[.slice none 0 0, .int .i64 0, .int .i64 0], []⟩ 8 (by kernel_rfl) (by kernel_rfl) (by kernel_rfl) (by kernel_rfl)) ?_
  intro W base args ds gs before hval0 hW hcnd hsz0 _
  have hsz : (DataW.weightsEach Try.prog (Try.f9.params.toList ++ Rows.flowRestSpec.plain.varTypes Try.prog) (ds ++ gs)).all (· ≤ reachBytes) = true := hsz0
  have hval : ∀ (j : Nat) t v, Try.f9.params[j]? = some t → args[j]? = some v → Value.okWide Try.prog W .any base t v := hval0
  have hW' := hW
  obtain ⟨p, q, hA0, hV, rfl, hfz, hnd⟩ := hW
  have hA : DataW.TrodAll enc Try.prog W 0 (fun _ => true) true Try.f9.params.toList args.toList ds p := hA0
  rw [Try.params9] at hA hval hsz
  obtain ⟨v0, vs0, d0, ds0, p0, q0, hargs, rfl, rfl, h0, r0⟩ := trodAll_cons hA
  obtain ⟨v1, vs1, d1, ds1, p1, q1, rfl, rfl, rfl, h1, r1⟩ := trodAll_cons r0
  obtain ⟨v2, vs2, d2, ds2, p2, q2, rfl, rfl, rfl, h2, r2⟩ := trodAll_cons r1
  obtain ⟨rfl, rfl, rfl⟩ := trodAll_nil r2
  obtain rfl : args = #[v0, v1, v2] := by cases args; simp_all
  obtain ⟨rfl, rfl⟩ := trodVars_none hV
  obtain ⟨a0, len0, cap0, rfl⟩ := okWide_slice Try.underlying22 (hval 0 22 v0 rfl rfl)
  have k0 := h0
  have lt0 : ∀ x ∈ p0, x.block < W.heap.size := by obtain ⟨m, hm⟩ := k0; exact DataW.trod_lt m _ _ _ hm
  obtain ⟨xs0, hl0, hr0, ho0, hc0, ha0, hb0⟩ := open_rows (α := I4) (j := 0) I4.cells I4.ok 4 8 Try.underlying22 (by kernel_rfl) (by decide) (fun _ => rfl) (by kernel_rfl) insn_cells hsz rfl rfl h0
  subst hl0
  obtain ⟨x1, rfl, rfl, rfl, w1⟩ := open_int Try.underlying3 (hval 1 3 v1 rfl rfl) h1
  obtain ⟨x2, rfl, rfl, rfl, w2⟩ := open_int Try.underlying3 (hval 2 3 v2 rfl rfl) h2
  clear hA0 hval0 hsz0 hsz
  refine (FlowRest_w a0 cap0 xs0 x1 x2 W ho0 hc0 ha0 hb0 hr0 (wf_i64 w1) (wf_i64 w2)).mono fun e W' ⟨he, bel⟩ => ?_
  subst he
  exact ⟨_, rfl, _, _, _, [], _, [], hW', trodAll_mk1 (shut_bool Try.underlying4 _), (trodAll_cons_mk (Below.trod laidOutB_ (by kernel_rfl) (of_decide_eq_true (by kernel_rfl)) k0 bel lt0) (trodAll_cons_mk (shut_int Try.underlying3 w1) (trodAll_cons_mk (shut_int Try.underlying3 w2) trodAll_mk0))), rfl, bel.frame _, fun h => by cases h⟩
theorem FlowRest_holds : Rows.FlowRestSaid :=
  OpenClaim.holds_of_wide 9 Try.f9 rfl rfl rfl rfl rfl rfl rfl ⟨rfl, rfl, rfl, rfl, rfl⟩ rfl rfl rfl rfl rfl (by kernel_rfl) Try.func9 (by kernel_rfl)
    (of_decide_eq_true (by kernel_rfl)) (by unfold Func.isWrapper; first | (rw [if_pos (by decide +kernel)]; kernel_rfl) | (rw [if_neg (by decide +kernel)]; exact ⟨rfl, rfl⟩))
    (fun os started H enc _ => FlowRest_lifted os started H enc)
#print axioms FlowRest_holds
end Go.Proofs.Ytapmpegblfcknaa
