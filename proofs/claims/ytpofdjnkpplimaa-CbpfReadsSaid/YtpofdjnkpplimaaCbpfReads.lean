import Derived.Test.YtpofdjnkpplimaaCbpfRead
import Derived.Test.YtpofdjnkpplimaaCbpfRRd
import Derived.Test.YtpofdjnkpplimaaCbpfRP
import Derived.Test.YtpofdjnkpplimaaCbpfHead
import Derived.Test.YtpofdjnkpplimaaOpen
import Derived.Deep.RegionLaw
import Derived.BigQuiet
import Derived.Deep.QuietTactic
set_option linter.unusedVariables false
set_option linter.unusedSimpArgs false
namespace Go.Proofs.Ytpofdjnkpplimaa
open Go.RowKit Go.ChangeShapes Go.WideShapes Go.ChangeAt
open Go.ChangeMaps (open_string shut_string)
/-! CbpfReads. -/
theorem own_sl {w : World} {base : Nat} {e : TypeId} {size n : Nat} {v : Value} {xs : List Value} (h : w.ownsRow base e size v n xs) : ∃ A cap, v = .slice A n cap ∧ n ≤ cap ∧ (A = none → cap = 0) ∧ Reads w w.heap.size size A n xs := by
  obtain ⟨h1, h2⟩ := h
  rcases h2 with ⟨rfl, rfl⟩ | ⟨g, cap, cur, rfl, hb, hg, hnc, hcm, hcs, htake⟩
  · have : xs = [] := List.eq_nil_of_length_eq_zero (by simpa using h1)
    subst this
    exact ⟨none, 0, rfl, Nat.le_refl _, fun _ => rfl, Reads.none_⟩
  · have ho : w.ownsRow base e size (.slice (some ⟨g, 0, none⟩) n cap) n xs := ⟨h1, .inr ⟨g, cap, cur, rfl, hb, hg, hnc, hcm, hcs, htake⟩⟩
    exact ⟨some ⟨g, 0, none⟩, cap, rfl, hnc, (fun e => by cases e), Reads.of_own ho⟩
theorem sameP_self (q : List I4) : sameP q q = true := by simp [sameP]
theorem own_keep {w w' : World} {base : Nat} {e : TypeId} {size n : Nat} {v : Value} {xs : List Value} (h : w.ownsRow base e size v n xs) (hb : Below w.heap.size w w') : w'.ownsRow base e size v n xs :=
  h.kept (row := none) ⟨hb.os, hb.tape, hb.output, hb.size, fun k hk _ => hb.block k hk⟩ (by cases e : v.ownBlock with | none => exact .inl rfl | some b => exact .inr (by simp))
theorem u8_one (l : List Int) : ∀ u ∈ numV .u8 l, u.oneCell' = true := by
  intro u hu; simp only [numV, List.mem_map] at hu; obtain ⟨x, _, rfl⟩ := hu; rfl
set_option maxRecDepth 100000 in
set_option maxHeartbeats 6400000 in
theorem CbpfReads_w (A1 : Option Addr) (cap1 : Nat) (dat : List Int) (w : World) (hq1 : ∀ x ∈ dat, 0 ≤ x ∧ x < 256) (hc1 : dat.length ≤ cap1) (hA1 : A1 = none → cap1 = 0) (hB1 : dat.length * 1 ≤ 140737488351232) (hr1 : Reads w w.heap.size 1 A1 dat.length (numV .u8 dat)) :
    Calls Try.prog 9 #[.slice A1 dat.length cap1] w fun e w' => e = .returned (.bool true) ∧ Below w.heap.size w w' := by
  have HR1 := Lib.hid hr1
  have HQ1 := Lib.hid hq1
  have HA1 := Lib.hid hA1
  have hdl : (dat.length : Int) ≤ 140737488351232 := by omega
  clear hr1 hq1 hA1
  obtain ⟨i0, HI⟩ : ∃ i0, Hid (Try.prog.info? 5 = some i0 ∧ i0.zero = some (.int .u8 0) ∧ i0.size = 1 ∧ i0.bytes = 1) := by
    obtain ⟨i0, hi, hz0, hz1, hz2⟩ := info_parts infoU8
    exact ⟨i0, Lib.hid ⟨hi, hz0, hz1, hz2⟩⟩
  go_enter Try.func9, Try.ntmps9
  go_wp2_with fail
  refine (Head03_c w).mono ?_
  rintro e w1 ⟨rfl, hb1⟩
  have hlit : (w1.alloc (.cells #[] 5)).ownsRow w1.heap.size 5 1 (.slice (some ⟨w1.heap.size, 0, none⟩) 0 0) 0 [] := World.ownsRow_lit w1 #[] 0 (Nat.le_refl _) (by decide) rfl
  have tok1 : True := trivial
  have hw1 : IntKind.i64.wrap ((dat.length : Int) + 1) = (dat.length : Int) + 1 := by rw [IntKind.wrap_i64]; omega
  go_wp2_with (at_builtin; first
    | (have _t := tok1; clear tok1; refine wpList_app rfl (.tmp 11) (.tmp 12) 23 rfl w1.heap.size 5 i0 _ 1 1 Try.underlying23 HI.out.1 HI.out.2.1 HI.out.2.2.1 HI.out.2.2.2 rfl (by decide) _ 0 [] rfl hlit A1 w1.heap.size dat.length cap1 (numV .u8 dat) rfl HA1.out ((HR1.out.up hb1).alloc (Nat.le_refl _) _) (u8_one dat) (by simp only [maxLen]; omega) (by omega) (by simp) ?_; intro v1 w2 hown1 hg1 _; have hb2 : Below w1.heap.size w1 w2 := below_gr (below1 w1 _) hg1 (by simp) (fun k hk => Nat.le_of_eq (Option.some.inj hk)); have hs2 := hb2.size; (try simp only [Nat.zero_add, List.nil_append] at hown1); have tok2 : True := trivial; clear hg1)
    | (have _t := tok2; clear tok2; refine wpList_app rfl (.tmp 13) (.tmp 14) 23 rfl w1.heap.size 5 i0 _ 1 1 Try.underlying23 HI.out.1 HI.out.2.1 HI.out.2.2.1 HI.out.2.2.2 rfl (by decide) _ dat.length (numV .u8 dat) rfl (hown1.alloc _) (some ⟨w2.heap.size, 0, none⟩) (w2.heap.size + 1) 1 1 (numV .u8 [77]) rfl (fun h => by cases h) (reads_new w2 _ _ 1 1 (numV .u8 [77]) rfl rfl) (u8_one [77]) (by simp only [maxLen]; omega) (by omega) (by simp; omega) ?_; intro v2 w3 hown2 hg2 _; have hb3 : Below w1.heap.size w1 w3 := below_gr (below_al hb2 _) hg2 (by simp; omega) (fun k hk => own_ge hown1 k hk); obtain ⟨g, cap2, hv2, hge, hlt⟩ := hown2.form (by omega); subst hv2; have hcap := own_cap hown2; have hcapI : (dat.length : Int) ≤ cap2 := (by omega); have hcapJ : (dat.length : Int) + 1 ≤ cap2 := (by omega); have hzI : (0 : Int) ≤ dat.length := (by omega); have HO2 := Lib.hid hown2; clear hown2 hown1 hg2 hb2))
  have hb3' := below_t hb1 hb3
  have hrd3 := Reads.of_own HO2.out
  have hrd3' := hrd3.take (k := dat.length) (by omega)
  have etk : (numV .u8 dat ++ numV .u8 [77]).take (dat.length * 1) = numV .u8 dat := by rw [Nat.mul_one, List.take_left' (by simp [numV])]
  rw [etk] at hrd3'
  have HRD := Lib.hid hrd3'
  have c77 : w3.cell? ⟨g, dat.length, none⟩ = some (.int .u8 77) := by
    rw [HO2.out.cellAt dat.length (by omega), List.getElem?_append_right (by simp [numV])]; simp [numV]
  have C77 := Lib.hid c77
  clear hrd3 hrd3' etk hb1 hlit c77
  refine (Read_n (some ⟨g, 0, none⟩) cap2 dat dat.length rfl HQ1.out (by omega) (by omega) ⟨_, _, rfl⟩ w3 HRD.out).mono ?_
  rintro e w4 hP4
  rcases hP4 with ⟨h8, rfl, hb4⟩ | ⟨h8, v, rfl, hG4⟩
  · have hb4' := below_t hb3' hb4
    have H8 := Lib.hid h8
    clear h8
    go_wp2_with fail
    refine (rRead_c A1 cap1 dat HQ1.out (by omega) w4 (HR1.out.up hb4')).mono ?_
    rintro e w5 (⟨-, rfl, hb5⟩ | ⟨h8, -⟩)
    · have hb5' := below_t hb4' hb5
      have hk5 := below_t hb4 hb5
      have t1 := conv_reads (cap := cap2) (fun h => by cases h) (HRD.out.below hk5)
      have t2 := conv_reads (cap := cap1) HA1.out (HR1.out.below hb5')
      have c77 := keepC hk5 C77.out
      clear hb4 hb4' hb5
      go_wp2_with fail
      refine (Same_c none none 0 0 [] [] w5 (by decide) Reads.none_ Reads.none_).mono ?_
      rintro e w6 ⟨rfl, hb6⟩
      rw [sameP_self]
      have hb6' := below_t hb5' hb6
      clear t1 t2 c77
      go_wp2
      go_quiet (fail)
      go_wp2
      go_ret
      exact ⟨rfl, below_drN hb6' _⟩
    · exact absurd h8 H8.out
  · have hb4' := below_t hb3' hG4.2
    have hb4 := hG4.2
    obtain ⟨Aq, cq, hvq, hcq, hAq, hrq⟩ := own_sl hG4.1
    subst hvq
    have HRQ := Lib.hid hrq
    have H8 := Lib.hid h8
    have HQOK := Lib.hid (readQ_ok HQ1.out (dat.length / 8))
    have HALL := Lib.hid (bytes_read_all HQ1.out h8)
    have HLEN := Lib.hid (readQ_len dat (dat.length / 8))
    obtain ⟨Q, hQ⟩ : ∃ Q, Q = readQ dat (dat.length / 8) := ⟨_, rfl⟩
    have HQQ := Lib.hid hQ
    have hQl : Q.length * 8 ≤ 140737488351232 := by rw [hQ, HLEN.out]; omega
    rw [← hQ] at hcq hrq ⊢
    have HRQ2 : Hid (Reads w4 w4.heap.size 4 Aq Q.length (cellsI Q)) := Lib.hid hrq
    have HQOK2 : Hid (∀ x ∈ Q, x.ok) := Lib.hid (by rw [hQ]; exact HQOK.out)
    have HALL2 : Hid (bytesQ Q = dat) := Lib.hid (by rw [hQ]; exact HALL.out)
    clear h8 hG4 hrq hQ HRQ HQOK HALL HLEN
    go_wp2_with fail
    refine (rRead_c A1 cap1 dat HQ1.out (by omega) w4 (HR1.out.up hb4')).mono ?_
    rintro e w5 (⟨h8, -⟩ | ⟨-, v5, rfl, hG5⟩)
    · exact absurd H8.out h8
    · have hb5' := below_t hb4' hG5.2
      have hk5 := below_t hb4 hG5.2
      have HRQ5 := Lib.hid (HRQ2.out.up hG5.2)
      rw [← HQQ.out] at hG5
      obtain ⟨Ar, cr, hvr, hcr, hAr, hrr⟩ := own_sl hG5.1
      subst hvr
      have HRR := Lib.hid hrr
      have t1 := conv_reads (cap := cap2) (fun h => by cases h) (HRD.out.below hk5)
      have t2 := conv_reads (cap := cap1) HA1.out (HR1.out.below hb5')
      have c77 := keepC hk5 C77.out
      clear hb4 hb4' hG5 hrr
      go_wp2_with fail
      refine (Same_c Aq Ar cq cr Q Q w5 (by omega) HRQ5.out HRR.out).mono ?_
      rintro e w6 ⟨rfl, hb6⟩
      rw [sameP_self]
      have hb6' := below_t hb5' hb6
      have HRQ6 := Lib.hid (HRQ5.out.up hb6)
      clear t1 t2 c77
      have t3 := conv_reads (cap := cap1) HA1.out (show Reads w6.drew w.heap.size 1 A1 dat.length (numV .u8 dat) from HR1.out.below (below_dr hb6'))
      have HBQ := Lib.hid (bytesQ_len Q)
      go_wp2_with fail
      go_region_law (first | (go_simp; go_at_call 24; refine (Bytes_c Aq cq Q HQOK2.out hQl _ (HRQ6.out.drew)).mono ?_; rintro e w7 ⟨g7, rfl, hg7, hrow7, hb7⟩; have hb7' : Below w.heap.size w w7 := below_t (below_dr hb6') hb7; have t4 := conv_reads (cap := cap1) HA1.out (HR1.out.below hb7'); have t5 : (convert 23 9 (.slice (some ⟨g7, 0, none⟩) (8 * Q.length) (8 * Q.length))).run Try.prog w7 = .ok (.string (strOfNums dat)) w7 := (by have hrd7 := Reads.of_own hrow7.2; rw [← HBQ.out] at hrd7; have h := conv_reads (cap := 8 * Q.length) (fun h => by cases h) hrd7; rw [HALL2.out] at h; rw [← HALL2.out, HBQ.out] at h; rw [HALL2.out] at h; exact h))
      )
      all_goals (
        go_wp2
        go_ret
        exact ⟨rfl, hb7'⟩)
/-! ### the row of CbpfReads -/
set_option maxRecDepth 100000 in
theorem CbpfReads_lifted (os : Os) (started : os.Started) (H : Type) (enc : TypeId × Value → H) :
    ReturnsInHanded {} Try.checked os 9 .any (Rows.cbpfReadsSpec.pre6 enc Try.prog Try.f9 Rows.cbpfReadsRow.domain false) (Rows.cbpfReadsSpec.post enc Try.prog Try.f9 false true false false) := by
  refine returnsInHanded_of_change_sized (C := Try.checked) ownNone started (by kernel_rfl) Try.func9
    (ChangeSpec.witness6 (enc := enc) (C := Try.checked) false ⟨#[], #[.slice none 0 0], []⟩ 8 (by kernel_rfl) (by kernel_rfl) (by kernel_rfl) (by kernel_rfl)) ?_
  intro W base args ds gs before hval0 hW hcnd hsz0 _
  have hsz : (DataW.weightsEach Try.prog (Try.f9.params.toList ++ Rows.cbpfReadsSpec.plain.varTypes Try.prog) (ds ++ gs)).all (· ≤ reachBytes) = true := hsz0
  have hval : ∀ (j : Nat) t v, Try.f9.params[j]? = some t → args[j]? = some v → Value.okWide Try.prog W .any base t v := hval0
  have hW' := hW
  obtain ⟨p, q, hA0, hV, rfl, hfz, hnd⟩ := hW
  have hA : DataW.TrodAll enc Try.prog W 0 (fun _ => true) true Try.f9.params.toList args.toList ds p := hA0
  rw [Try.params9] at hA hval hsz
  obtain ⟨v0, vs0, d0, ds0, p0, q0, hargs, rfl, rfl, h0, r0⟩ := trodAll_cons hA
  obtain ⟨rfl, rfl, rfl⟩ := trodAll_nil r0
  obtain rfl : args = #[v0] := by cases args; simp_all
  obtain ⟨rfl, rfl⟩ := trodVars_none hV
  obtain ⟨a0, len0, cap0, rfl⟩ := okWide_slice Try.underlying23 (hval 0 23 v0 rfl rfl)
  have k0 := h0
  have lt0 : ∀ x ∈ p0, x.block < W.heap.size := by obtain ⟨m, hm⟩ := k0; exact DataW.trod_lt m _ _ _ hm
  obtain ⟨xs0, hl0, hr0, ho0, hc0, ha0, hb0⟩ := open_rows (α := Int) (j := 0) (fun x : Int => [Value.int .u8 x]) (fun x : Int => 0 ≤ x ∧ x < 256) 1 1 Try.underlying23 (by kernel_rfl) (by decide) (fun _ => rfl) (by kernel_rfl) (int_cells Try.underlying5 (fun h => wf_u8 h)) hsz rfl rfl h0
  subst hl0
  clear hA0 hval0 hsz0 hsz
  refine (CbpfReads_w a0 cap0 xs0 W ho0 hc0 ha0 hb0 (reads_num hr0)).mono fun e W' ⟨he, bel⟩ => ?_
  subst he
  exact ⟨_, rfl, _, _, _, [], _, [], hW', trodAll_mk1 (shut_bool Try.underlying4 _), (trodAll_cons_mk (Below.trod laidOutB_ (by kernel_rfl) (of_decide_eq_true (by kernel_rfl)) k0 bel lt0) trodAll_mk0), rfl, bel.frame _, fun h => by cases h⟩
theorem CbpfReads_holds : Rows.CbpfReadsSaid :=
  OpenClaim.holds_of_wide 9 Try.f9 rfl rfl rfl rfl rfl rfl rfl ⟨rfl, rfl, rfl, rfl, rfl⟩ rfl rfl rfl rfl rfl (by kernel_rfl) Try.func9 (by kernel_rfl)
    (of_decide_eq_true (by kernel_rfl)) (by unfold Func.isWrapper; first | (rw [if_pos (by decide +kernel)]; kernel_rfl) | (rw [if_neg (by decide +kernel)]; exact ⟨rfl, rfl⟩))
    (fun os started H enc _ => CbpfReads_lifted os started H enc)
#print axioms CbpfReads_holds
end Go.Proofs.Ytpofdjnkpplimaa
