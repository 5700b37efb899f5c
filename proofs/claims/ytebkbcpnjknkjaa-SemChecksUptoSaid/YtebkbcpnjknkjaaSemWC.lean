import Derived.Test.YtebkbcpnjknkjaaSemWB
import Derived.Test.YtebkbcpnjknkjaaSemWA
set_option linter.unusedVariables false
set_option linter.unusedSimpArgs false
set_option maxRecDepth 100000
namespace Go.Proofs.Ytebkbcpnjknkjaa
open Go.RowKit
/-! ravelinref07.Check, Is: the walks. -/
def PolA.small (M : Nat) (p : PolA) : Prop := ∀ r ∈ p.rules, r.when_.small M ∧ r.calls.length ≤ M
set_option maxHeartbeats 3200000 in
theorem rCheck_c (M : Nat) (hM : M ≤ 1000000000000) (N : Nat → Prop) (p : PolA) (w : World) (hok : p.Ok) (hsm : p.small M) (hin : p.In w N) : Calls Try.prog 16 #[p.val] w (CheckPost (checkP M p) w) := by
  obtain ⟨ar, fk, fd, dk, dd, A, cap, rs⟩ := p
  obtain ⟨hsz, hfd, hdd, hrs⟩ := hok
  obtain ⟨hrow, hall⟩ := hin
  unfold PolA.small at hsm
  dsimp only at hsz hfd hdd hrs hrow hall hsm
  obtain ⟨res, hres⟩ : ∃ res, res = checkP M ⟨ar, fk, fd, dk, dd, A, cap, rs⟩ := ⟨_, rfl⟩
  rw [← hres]
  unfold checkP at hres
  dsimp only at hres
  have HARCH := Lib.hid (fun w => rArch_c ar w)
  have HA1 := Lib.hid (fun w => rAction_c fk fd hfd w)
  have HA2 := Lib.hid (fun w => rAction_c dk dd hdd w)
  obtain ⟨an, ab, har⟩ : ∃ an ab, archP ar.data.toList = (an, ab) := ⟨_, _, rfl⟩
  obtain ⟨v1, o1, hv1⟩ : ∃ an ab, actionP fk fd = (an, ab) := ⟨_, _, rfl⟩
  obtain ⟨v2, o2, hv2⟩ : ∃ an ab, actionP dk dd = (an, ab) := ⟨_, _, rfl⟩
  rw [har, hv1, hv2] at hres
  unfold NumPost7 at HA1 HA2
  rw [har] at HARCH
  rw [hv1] at HA1
  rw [hv2] at HA2
  dsimp only at HARCH HA1 HA2 hres
  have HRS := Lib.hid hrs
  have HROW := Lib.hid hrow
  have HALL := Lib.hid hall
  have HSM := Lib.hid hsm
  unfold PolA.val
  dsimp only
  clear hsz hfd hdd hrs hrow hall har hv1 hv2 hsm
  have HB0 := Lib.hid (show BoxS w (.cells #[.string ar, .int .i64 fk, .int .u64 fd, .int .i64 dk, .int .u64 dd, .slice A rs.length cap] 29 (0, 0)) (w.alloc (.cells #[.string ar, .int .i64 fk, .int .u64 fd, .int .i64 dk, .int .u64 dd, .slice A rs.length cap] 29)) from ⟨below1 w _, heap_nwT w _⟩)
  have HRES0 := Lib.hid hres
  clear hres
  go_enter Try.func16, Try.ntmps16
  go_wp2_with fail
  refine (HARCH.out _).mono ?_
  rintro e w0 ⟨rfl, rfl⟩
  go_wp2_with fail
  refine (HA1.out _).mono ?_
  rintro e w1 ⟨rfl, hb1⟩
  have HB1 := Lib.hid (HB0.out.call hb1)
  clear hb1
  obtain ⟨b0, b1, b2, b3, b4, b5⟩ := (box6 HB1.out.box).1
  go_wp2_with fail
  refine (HA2.out _).mono ?_
  rintro e w2 ⟨rfl, hb2⟩
  have HB2 := Lib.hid (HB1.out.call hb2)
  clear hb2 b0 b1 b2 b3 b4 b5
  obtain ⟨b0, b1, b2, b3, b4, b5⟩ := (box6 HB2.out.box).1
  cases ab with
  | false =>
    have HF := Lib.hid (by have := HRES0.out; rwa [if_pos (show false = false from rfl)] at this)
    go_wp2
    go_ret2
    exact ⟨ret_ii7 (by rw [HF.out]) (by rw [HF.out]), HB2.out.below⟩
  | true =>
    have HRES1 := Lib.hid (by have := HRES0.out; rwa [if_neg (show ¬ (true = false) by decide)] at this)
    cases o1 with
    | false =>
      have HF := Lib.hid (by have := HRES1.out; rwa [if_pos (Or.inl rfl)] at this)
      go_wp2
      go_ret2
      exact ⟨ret_ii7 (by rw [HF.out]) (by rw [HF.out]), HB2.out.below⟩
    | true =>
      cases o2 with
      | false =>
        have HF := Lib.hid (by have := HRES1.out; rwa [if_pos (Or.inr rfl)] at this)
        go_wp2
        go_ret2
        exact ⟨ret_ii7 (by rw [HF.out]) (by rw [HF.out]), HB2.out.below⟩
      | true =>
        have HRES2 := Lib.hid (by have := HRES1.out; rwa [if_neg (show ¬ (true = false ∨ true = false) by decide)] at this)
        by_cases h512 : 512 < rs.length
        · have HF := Lib.hid (by have := HRES2.out; rwa [if_pos h512] at this)
          have h512' : (512 : Int) < rs.length := by omega
          clear h512
          go_wp2
          go_ret2
          exact ⟨ret_ii7 (by rw [HF.out]) (by rw [HF.out]), HB2.out.below⟩
        · have HR0 : Hid (res = rulesP M ar 0 (rs.drop 0)) := Lib.hid (by have := HRES2.out; rwa [if_neg h512] at this)
          have h512' : ¬ (512 : Int) < rs.length := by omega
          have hr512 : rs.length ≤ 512 := by omega
          clear h512
          go_wp2_with fail
          clear b0 b1 b2 b3 b4 b5
          go_loopw [10] (fun i wr => ∃ n : Nat, i = .int .i64 n ∧ n ≤ rs.length ∧ Hid (BoxS w (.cells #[.string ar, .int .i64 fk, .int .u64 fd, .int .i64 dk, .int .u64 dd, .slice A rs.length cap] 29 (0, 0)) wr) ∧ Hid (res = rulesP M ar n (rs.drop n))) (fun i _ => rs.length - (intOf i).toNat)
          case atStart => exact ⟨0, rfl, by omega, HB2, HR0⟩
          case round =>
            obtain ⟨n, rfl, hn, HB, HE⟩ := hrel
            clear HB1 HR0 HB2 HB0
            obtain ⟨b0, b1, b2, b3, b4, b5⟩ := (box6 HB.out.box).1
            rcases Nat.lt_or_ge n rs.length with hlt | hge
            · have hlt' : (n : Int) < rs.length := by omega
              obtain ⟨⟨xA, xcap, cs, ⟨xo, xeA, xc, xl, xf, xm, xr, xv⟩, xdk, xdd⟩, hy⟩ : ∃ y, rs[n]? = some y := ⟨_, List.getElem?_eq_getElem hlt⟩
              have hE := HE.out
              rw [rulesP_drop hy] at hE
              have hmem := List.mem_of_getElem? hy
              obtain ⟨b, off, rfl, hbb, i0, i1, i2, i3, i4, i5, i6, i7, i8⟩ := (HROW.out.keep (N' := N) (fun b hb hl => ⟨hb, HB.out.below.block b hl⟩) (by decide)).rule hy
              have hinr := (HALL.out _ hmem).keep (N' := N) (fun b hb hl => ⟨hb, HB.out.below.block b hl⟩)
              have hsm := HSM.out _ hmem
              have hcall := fun W h => rrule_c M N ar ⟨xA, xcap, cs, .mk xo xeA xc xl xf xm xr xv, xdk, xdd⟩ W (HRS.out _ hmem) hsm.1 h (Nat.le_trans hsm.2 hM)
              obtain ⟨er, her⟩ : ∃ er, er = ruleP M ar ⟨xA, xcap, cs, .mk xo xeA xc xl xf xm xr xv, xdk, xdd⟩ := ⟨_, rfl⟩
              rw [← her] at hE hcall
              unfold IntPost RuA.val RuA.cells ExA.cells at hcall
              simp only [List.cons_append, List.nil_append] at hcall
              have HCALL := Lib.hid hcall
              have HINR := Lib.hid (fun k => hinr.keep (W' := wr.drewN k) (N' := N) (fun b hb hl => ⟨hb, rfl⟩))
              have hwl := HB.out.lt
              clear hcall hinr hmem hy her hsm
              by_cases h0 : er = 0
              · rw [if_neg (by simpa using h0)] at hE
                have HF := Lib.hid hE
                have h1 : (er != 0) = false := by simpa using h0
                clear hE h0
                go_wp2_with fail
                refine wp_tail 7 (by kernel_rfl) (by kernel_rfl) ?_
                simp only [List.take_succ_cons, List.take_zero, List.drop_succ_cons, List.drop_zero]
                repeat still_step
                refine wpStill_nil ?_
                go_wp2_with fail
                refine (HCALL.out _ (HINR.out _)).mono ?_
                rintro e w2 ⟨rfl, hb2⟩
                have HB2 := Lib.hid ((HB.out.drewN 1).call hb2)
                clear hb2
                go_wp2
                go_roundw
                case rel => exact ⟨n + 1, by go_num, by omega, HB2, HF⟩
                case measure => simp [intOf]; omega
              · rw [if_pos h0] at hE
                have HF := Lib.hid hE
                have h1 : (er != 0) = true := by simpa using h0
                clear hE h0
                go_wp2_with fail
                refine wp_tail 7 (by kernel_rfl) (by kernel_rfl) ?_
                simp only [List.take_succ_cons, List.take_zero, List.drop_succ_cons, List.drop_zero]
                repeat still_step
                refine wpStill_nil ?_
                go_wp2_with fail
                refine (HCALL.out _ (HINR.out _)).mono ?_
                rintro e w2 ⟨rfl, hb2⟩
                have HB2 := Lib.hid ((HB.out.drewN 1).call hb2)
                clear hb2
                go_wp2
                go_ret2
                exact ⟨ret_ii7 (by rw [HF.out]) (by rw [HF.out]), HB2.out.below⟩
            · obtain rfl : n = rs.length := by omega
              have HF : Hid (res = (0, 0)) := Lib.hid (by rw [HE.out, List.drop_length]; rfl)
              go_wp2
              go_ret2
              exact ⟨ret_ii7 (by rw [HF.out]) (by rw [HF.out]), HB.out.below⟩
theorem rIs_c (M : Nat) (hM : M ≤ 1000000000000) (N : Nat → Prop) (p : PolA) (w : World) (hok : p.Ok) (hsm : p.small M) (hin : p.In w N) : Calls Try.prog 47 #[p.val] w fun e w' => e = .returned (.bool ((checkP M p).1 == 0)) ∧ Below w.heap.size w w' := by
  have HC := Lib.hid (fun w h => rCheck_c M hM N p w hok hsm h)
  obtain ⟨c1, c2, hc⟩ : ∃ a b, checkP M p = (a, b) := ⟨_, _, rfl⟩
  rw [hc] at HC ⊢
  unfold CheckPost at HC
  dsimp only at HC ⊢
  obtain ⟨ar, fk, fd, dk, dd, A, cap, rs⟩ := p
  have HIN := Lib.hid (hin.below (below1 w (.cells #[.string ar, .int .i64 fk, .int .u64 fd, .int .i64 dk, .int .u64 dd, .slice A rs.length cap] 29)))
  unfold PolA.val at HC ⊢
  dsimp only at HC ⊢
  clear hok hsm hin hc
  go_enter Try.func47, Try.ntmps47
  go_wp2_with fail
  refine (HC.out _ HIN.out).mono ?_
  rintro e w1 ⟨rfl, hb⟩
  have HB := Lib.hid (below_t (below1 w _) hb)
  clear hb
  go_wp2
  go_ret
  exact ⟨rfl, HB.out⟩
end Go.Proofs.Ytebkbcpnjknkjaa
