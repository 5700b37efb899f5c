import Derived.Test.YtpofdjnkpplimaaCbpfRead
import Derived.Test.YtpofdjnkpplimaaCbpfRBy
import Derived.Test.YtpofdjnkpplimaaCbpfRP
import Derived.Test.YtpofdjnkpplimaaCbpfHead
import Derived.Test.YtpofdjnkpplimaaOpen
import Derived.Deep.RegionLaw
import Derived.Deep.Cut
import Derived.Deep.CutBlock
set_option linter.unusedVariables false
set_option linter.unusedSimpArgs false
namespace Go.Proofs.Ytpofdjnkpplimaa
open Go.RowKit Go.ChangeShapes Go.WideShapes Go.ChangeAt
open Go.ChangeMaps (open_string shut_string)
/-! CbpfBytes. -/
theorem own_sl {w : World} {base : Nat} {e : TypeId} {size n : Nat} {v : Value} {xs : List Value} (h : w.ownsRow base e size v n xs) : ∃ A cap, v = .slice A n cap ∧ n ≤ cap ∧ (A = none → cap = 0) ∧ Reads w w.heap.size size A n xs := by
  obtain ⟨h1, h2⟩ := h
  rcases h2 with ⟨rfl, rfl⟩ | ⟨g, cap, cur, rfl, hb, hg, hnc, hcm, hcs, htake⟩
  · have : xs = [] := List.eq_nil_of_length_eq_zero (by simpa using h1)
    subst this
    exact ⟨none, 0, rfl, Nat.le_refl _, fun _ => rfl, Reads.none_⟩
  · have ho : w.ownsRow base e size (.slice (some ⟨g, 0, none⟩) n cap) n xs := ⟨h1, .inr ⟨g, cap, cur, rfl, hb, hg, hnc, hcm, hcs, htake⟩⟩
    exact ⟨some ⟨g, 0, none⟩, cap, rfl, hnc, (fun e => by cases e), Reads.of_own ho⟩
theorem sameP_self (q : List I4) : sameP q q = true := by simp [sameP]
theorem own_keep {w w' : World} {base : Nat} {e : TypeId} {size n : Nat} {v : Value} {xs : List Value} (h : w.ownsRow base e size v n xs) (hb : Below w.heap.size w w') : w'.ownsRow base e size v n xs :=
  h.kept (row := none) ⟨hb.os, hb.tape, hb.output, hb.size, fun k hk _ => hb.block k hk⟩ (by cases e : v.ownBlock with | none => exact .inl rfl | some b => exact .inr (by simp))
theorem own_cellset {w : World} {base : Nat} {e : TypeId} {size n : Nat} {v : Value} {xs : List Value} (h : w.ownsRow base e size v n xs) (g j : Nat) (u : Value) (hg : v.ownBlock ≠ some g) : (w.setCell ⟨g, j, none⟩ u).ownsRow base e size v n xs :=
  h.kept (row := some g) ⟨rfl, rfl, rfl, by simp, fun k _ hk => Below.heap_setCell _ _ _ k (fun e => hk (by rw [e]))⟩ (.inr hg)
set_option maxRecDepth 100000 in
set_option maxHeartbeats 6400000 in
theorem CbpfBytes_w (A : Option Addr) (cap : Nat) (q : List I4) (w : World) (hq : ∀ x ∈ q, x.ok) (hc : q.length ≤ cap) (hA : A = none → cap = 0) (hB : q.length * 8 ≤ 140737488351232) (hr : Reads w w.heap.size 4 A q.length (cellsI q)) :
    Calls Try.prog 8 #[.slice A q.length cap] w fun e w' => e = .returned (.bool true) ∧ Below w.heap.size w w' := by
  have HR := Lib.hid hr
  have HQ := Lib.hid hq
  have HA := Lib.hid hA
  have hql : (q.length : Int) ≤ 17592186043904 := by omega
  have HBL := Lib.hid (bytesQ_len q)
  have HU8 : Hid (∀ x ∈ bytesQ q, 0 ≤ x ∧ x < 256) := Lib.hid (bytesQ_u8 hq)
  have HRB := Lib.hid (readQ_bytes hq)
  clear hr hq hA
  go_enter Try.func8, Try.ntmps8
  go_wp2_with fail
  refine (Head03_c w).mono ?_
  rintro e w1 ⟨rfl, hb1⟩
  go_wp2_with fail
  refine (Lent_c A cap q HA.out hc hB w1 (HR.out.up hb1)).mono ?_
  rintro e w2 ⟨g, cap2, rfl, hL, hb2⟩
  have hb2' := below_t hb1 hb2
  have HL := Lib.hid hL
  have hcap2 : q.length + 1 ≤ cap2 := hL.2
  clear hL hb1
  go_wp2_with fail
  refine (Bytes_c (some ⟨g, 0, none⟩) cap2 q HQ.out hB w2 HL.out.readsQ).mono ?_
  rintro e w3 ⟨g1, rfl, hge1, hrow, hb3⟩
  have hb3' := below_t hb2' hb3
  have HROW := Lib.hid hrow
  have HL3 := Lib.hid (HL.out.keep hb3)
  have hg1l : w2.heap.size ≤ g1 := hge1
  have hsw2 : w.heap.size ≤ w2.heap.size := hb2'.size
  have hgl : g < w2.heap.size := by
    rcases HL.out.1.2 with ⟨h, _⟩ | ⟨g', cap', cur, h, _, hh, _⟩
    · cases h
    · injection h with h; injection h with h; injection h with h; subst h; exact (Array.getElem?_eq_some_iff.1 hh).1
  clear hrow hge1 hb2 hb2' HL
  go_wp2_with fail
  go_cut [6] from 11 (fun s6 wc => s6 = .bool true ∧ Below w3.heap.size w3 wc)
  case first =>
    have hrd : Reads w3 w3.heap.size 1 (some ⟨g1, 0, none⟩) (bytesQ q).length (numV .u8 (bytesQ q)) := by
      rw [HBL.out]; exact Reads.of_own HROW.out.2
    have HRD := Lib.hid hrd
    have cv : ∀ W, Below w3.heap.size w3 W → (convert 23 9 (.slice (some ⟨g1, 0, none⟩) (8 * q.length) (8 * q.length))).run Try.prog W = .ok (.string (strOfNums (bytesQ q))) W := fun W hb => by
      have h := conv_reads (cap := 8 * q.length) (fun h => by cases h) (HRD.out.below hb)
      rwa [HBL.out] at h
    have t1 := cv w3.drew (below_dr (Below.refl _ _))
    have HCV := Lib.hid cv
    clear hrd cv
    go_region_law (first | (go_simp; go_at_call 25; refine (rBytes_c A cap q HQ.out hB _ (HR.out.up (below_dr hb3'))).mono ?_; rintro e w4 ⟨v4, rfl, hG4⟩; obtain ⟨A4, cap4, hv4, hc4, hA4, hr4⟩ := own_sl hG4.1; subst hv4; have hb4 : Below w3.heap.size w3 w4 := below_t (below_dr (Below.refl _ _)) hG4.2; have t2 := HCV.out w4 hb4; have t3 := conv_reads (cap := cap4) hA4 hr4))
    all_goals (
      go_wp2
      go_meet
      exact ⟨rfl, hb4⟩)
  case rest =>
    obtain ⟨rfl, hbc⟩ := hcut
    have hbc' := below_t hb3' hbc
    have HROWc := Lib.hid (own_keep HROW.out.2 hbc)
    have HLc := Lib.hid (HL3.out.keep hbc)
    have HRDc : Hid (Reads wc wc.heap.size 1 (some ⟨g1, 0, none⟩) (bytesQ q).length (numV .u8 (bytesQ q))) := Lib.hid (by rw [HBL.out]; exact Reads.of_own HROWc.out)
    have hszc := hbc.size
    clear HROW HL3
    go_wp2_with fail
    refine (Read_n (some ⟨g1, 0, none⟩) (8 * q.length) (bytesQ q) (8 * q.length) HBL.out HU8.out (by omega) (by omega) ⟨_, _, rfl⟩ wc HRDc.out).mono ?_
    rintro e w5 hP
    have hP2 : ∃ v, e = .returned (.tuple #[v, .int .i64 0]) ∧ GrowQ wc v q w5 := by
      rcases hP with ⟨h1, _⟩ | ⟨h1, v, h2, h3⟩
      · rw [HBL.out] at h1; omega
      · refine ⟨v, h2, ?_⟩
        rw [HBL.out, show 8 * q.length / 8 = q.length by omega, HRB.out] at h3
        exact h3
    clear hP
    obtain ⟨v, rfl, hG⟩ := hP2
    have hb5 := below_t hbc' hG.2
    have HG := Lib.hid hG.1
    have HRW5 := Lib.hid (own_keep HROWc.out hG.2)
    have HL5 := Lib.hid (HLc.out.keep hG.2)
    have hsz5 := hG.2.size
    have hg1c : g1 < wc.heap.size ∨ q.length = 0 := by
      rcases Nat.eq_zero_or_pos q.length with h | h
      · exact .inr h
      · obtain ⟨g', c', e', -, hl⟩ := HROWc.out.form (by omega)
        injection e' with e'
        injection e' with e'
        injection e' with e'
        subst e'
        exact .inl hl
    clear hG HROWc HLc HRDc hbc hbc'
    go_wp2_with fail
    go_loopw [9] (fun i wr => ∃ n : Nat, n ≤ 8 * q.length ∧ i = .int .i64 n ∧ Hid (Below w.heap.size w wr ∧ IsLent wr w1.heap.size q g cap2 ∧ wr.ownsRow wc.heap.size 34 4 v q.length (cellsI q) ∧ ∃ bs : List Int, bs.length = 8 * q.length ∧ (∀ x ∈ bs, 0 ≤ x ∧ x < 256) ∧ wr.ownsRow w2.heap.size 5 1 (.slice (some ⟨g1, 0, none⟩) (8 * q.length) (8 * q.length)) (8 * q.length) (numV .u8 bs))) (fun i _ => 8 * q.length - (intOf i).toNat)
    case atStart => exact ⟨0, by omega, rfl, Lib.hid ⟨hb5, HL5.out, HG.out, bytesQ q, HBL.out, HU8.out, HRW5.out⟩⟩
    case round =>
      obtain ⟨n, hn, rfl, HI3⟩ := hrel
      rcases Nat.lt_or_ge n (8 * q.length) with hlt | hlt
      · obtain ⟨hbw, hl3, hy3, bs, hbl, hbo, ho⟩ := HI3.out
        have hlt' : (n : Int) < 8 * q.length := by omega
        obtain ⟨x, hx⟩ : ∃ x, bs[n]? = some x := ⟨_, List.getElem?_eq_getElem (by omega)⟩
        obtain ⟨x0, x1⟩ := hbo x (List.mem_of_getElem? hx)
        have hcx : wr.cell? ⟨g1, n, none⟩ = some (.int .u8 x) := by rw [ho.cellAt n (by omega)]; simp [numV, hx]
        have hf := ho.frozenAt n
        have HBW := Lib.hid hbw
        have HL4 := Lib.hid hl3
        have HY4 := Lib.hid hy3
        have HBL2 := Lib.hid hbl
        have HBO := Lib.hid hbo
        have HOO := Lib.hid ho
        have HGE := Lib.hid (show w.heap.size ≤ g1 by have := hb3'.size; have := hb3.size; have := HL4.out; omega)
        clear hbw hl3 hy3 ho hbl hbo hx HI3
        go_wp2_with fail
        refine ⟨⟨n + 1, hlt, rfl, Lib.hid ⟨HBW.out.setCell (p := ⟨g1, n, none⟩) HGE.out _, ⟨own_cellset HL4.out.1 g1 n _ (by simp [Value.ownBlock]; omega), HL4.out.2⟩, own_cellset HY4.out g1 n _ ?_, bs.set n ((x + 1) % 256), by simp [HBL2.out], ?_, ?_⟩⟩, by simp only [intOf]; omega⟩
        · intro e
          have := own_ge HY4.out g1 e
          omega
        · intro y hy
          rcases List.mem_or_eq_of_mem_set hy with h | rfl
          · exact HBO.out y h
          · omega
        · have h := (HOO.out.stored n (.int .u8 ((x + 1) % 256))).1
          have e : (numV .u8 bs).set n (.int .u8 ((x + 1) % 256)) = numV .u8 (bs.set n ((x + 1) % 256)) := by simp [numV, List.map_set]
          rwa [e] at h
      · obtain ⟨hbw, hl3, hy3, -⟩ := HI3.out
        have HBW := Lib.hid hbw
        have HL4 := Lib.hid hl3
        obtain ⟨Ay, cy, hvy, hcy, hAy, hry⟩ := own_sl hy3
        subst hvy
        have HRY := Lib.hid hry
        clear hbw hl3 hy3 hry HI3
        go_wp2_with fail
        refine (Kept_c A w1.heap.size g cap2 cap q q wr hB HL4.out (HR.out.up HBW.out)).mono ?_
        rintro e w7 ⟨rfl, hb7⟩
        rw [sameP_self]
        have hb7' := below_t HBW.out hb7
        go_wp2_with fail
        refine (Same_c Ay A cy cap q q w7 (by omega) (HRY.out.up hb7) (HR.out.up hb7')).mono ?_
        rintro e w8 ⟨rfl, hb8⟩
        rw [sameP_self]
        have hb8' := below_t hb7' hb8
        go_wp2
        go_ret
        exact ⟨rfl, hb8'⟩
/-! ### the row of CbpfBytes -/
set_option maxRecDepth 100000 in
theorem CbpfBytes_lifted (os : Os) (started : os.Started) (H : Type) (enc : TypeId × Value → H) :
    ReturnsInHanded {} Try.checked os 8 .any (Rows.cbpfBytesSpec.pre6 enc Try.prog Try.f8 Rows.cbpfBytesRow.domain false) (Rows.cbpfBytesSpec.post enc Try.prog Try.f8 false true false false) := by
  refine returnsInHanded_of_change_sized (C := Try.checked) ownNone started (by kernel_rfl) Try.func8
    (ChangeSpec.witness6 (enc := enc) (C := Try.checked) false ⟨#[], #[.slice none 0 0], []⟩ 8 (by kernel_rfl) (by kernel_rfl) (by kernel_rfl) (by kernel_rfl)) ?_
  intro W base args ds gs before hval0 hW hcnd hsz0 _
  have hsz : (DataW.weightsEach Try.prog (Try.f8.params.toList ++ Rows.cbpfBytesSpec.plain.varTypes Try.prog) (ds ++ gs)).all (· ≤ reachBytes) = true := hsz0
  have hval : ∀ (j : Nat) t v, Try.f8.params[j]? = some t → args[j]? = some v → Value.okWide Try.prog W .any base t v := hval0
  have hW' := hW
  obtain ⟨p, q, hA0, hV, rfl, hfz, hnd⟩ := hW
  have hA : DataW.TrodAll enc Try.prog W 0 (fun _ => true) true Try.f8.params.toList args.toList ds p := hA0
  rw [Try.params8] at hA hval hsz
  obtain ⟨v0, vs0, d0, ds0, p0, q0, hargs, rfl, rfl, h0, r0⟩ := trodAll_cons hA
  obtain ⟨rfl, rfl, rfl⟩ := trodAll_nil r0
  obtain rfl : args = #[v0] := by cases args; simp_all
  obtain ⟨rfl, rfl⟩ := trodVars_none hV
  obtain ⟨a0, len0, cap0, rfl⟩ := okWide_slice Try.underlying22 (hval 0 22 v0 rfl rfl)
  have k0 := h0
  have lt0 : ∀ x ∈ p0, x.block < W.heap.size := by obtain ⟨m, hm⟩ := k0; exact DataW.trod_lt m _ _ _ hm
  obtain ⟨xs0, hl0, hr0, ho0, hc0, ha0, hb0⟩ := open_rows (α := I4) (j := 0) I4.cells I4.ok 4 8 Try.underlying22 (by kernel_rfl) (by decide) (fun _ => rfl) (by kernel_rfl) insn_cells hsz rfl rfl h0
  subst hl0
  clear hA0 hval0 hsz0 hsz
  refine (CbpfBytes_w a0 cap0 xs0 W ho0 hc0 ha0 hb0 hr0).mono fun e W' ⟨he, bel⟩ => ?_
  subst he
  exact ⟨_, rfl, _, _, _, [], _, [], hW', trodAll_mk1 (shut_bool Try.underlying4 _), (trodAll_cons_mk (Below.trod laidOutB_ (by kernel_rfl) (of_decide_eq_true (by kernel_rfl)) k0 bel lt0) trodAll_mk0), rfl, bel.frame _, fun h => by cases h⟩
theorem CbpfBytes_holds : Rows.CbpfBytesSaid :=
  OpenClaim.holds_of_wide 8 Try.f8 rfl rfl rfl rfl rfl rfl rfl ⟨rfl, rfl, rfl, rfl, rfl⟩ rfl rfl rfl rfl rfl (by kernel_rfl) Try.func8 (by kernel_rfl)
    (of_decide_eq_true (by kernel_rfl)) (by unfold Func.isWrapper; first | (rw [if_pos (by decide +kernel)]; kernel_rfl) | (rw [if_neg (by decide +kernel)]; exact ⟨rfl, rfl⟩))
    (fun os started H enc _ => CbpfBytes_lifted os started H enc)
#print axioms CbpfBytes_holds
end Go.Proofs.Ytpofdjnkpplimaa
