import Derived.Test.YtebkbcpnjknkjaaSemWJ
import Derived.Test.YtebkbcpnjknkjaaSemWK
set_option linter.unusedVariables false
set_option linter.unusedSimpArgs false
set_option maxRecDepth 100000
namespace Go.Proofs.Ytebkbcpnjknkjaa
open Go.RowKit
/-! ravelinref07.Eval: the walk. -/
theorem says_step {a : ByteArray} {nr : Int} {cs : List CallP} {k : Nat} {y : CallP} (hy : cs[k]? = some y) (hv : Bool) (u v : Int) :
    (if (namedP a nr (cs.drop k) && hv) = true then u else v) = if ((nrP a y).1 == nr && hv) = true then u else if (namedP a nr (cs.drop (k + 1)) && hv) = true then u else v := by
  rw [namedP_drop hy]
  cases (nrP a y).1 == nr <;> cases hv <;> simp
set_option maxHeartbeats 3200000 in
theorem rEval_c (M : Nat) (hM : M ≤ 1000000000000) (N : Nat → Prop) (p : PolA) (d : D9) (w : World) (hok : p.Ok) (hsm : p.small M) (hin : p.In w N) : Calls Try.prog 19 #[p.val, d.val] w (U32Post (evalP M p d) w) := by
  have HCK := Lib.hid (fun W hb => rIs_c M hM N p W hok hsm (hin.keep (N' := N) (fun b hb' hl => ⟨hb', (show Below w.heap.size w W from hb).block b hl⟩)))
  obtain ⟨ce, hce⟩ : ∃ a, (checkP M p).1 = a := ⟨_, rfl⟩
  have HRL := Lib.hid (fun h0 : ce = 0 => checkP_rules (M := M) (p := p) (by rw [hce]; exact h0))
  obtain ⟨res, hres⟩ : ∃ res, res = evalP M p d := ⟨_, rfl⟩
  rw [← hres]
  unfold evalP at hres
  rw [hce] at hres HCK
  unfold PolA.small at hsm
  obtain ⟨ar, fk, fd, dk, dd, A, cap, rs⟩ := p
  obtain ⟨hsz, hfd, hdd, hrs⟩ := hok
  obtain ⟨hrow, hall⟩ := hin
  dsimp only at hsz hfd hdd hrs hrow hall hres HCK HRL hsm
  have HARCH := Lib.hid (fun w => rArch_c ar w)
  obtain ⟨an, ab, har⟩ : ∃ an ab, archP ar.data.toList = (an, ab) := ⟨_, _, rfl⟩
  rw [har] at HARCH hres
  dsimp only at HARCH hres
  have HA1 := Lib.hid (fun w => rAction_c fk fd hfd w)
  have HA2 := Lib.hid (fun w => rAction_c dk dd hdd w)
  have HSM := Lib.hid hsm
  have HRS := Lib.hid hrs
  have HROW := Lib.hid hrow
  have HALL := Lib.hid hall
  have HRES := Lib.hid hres
  have HS := Lib.hid (HD.start w #[.string ar, .int .i64 fk, .int .u64 fd, .int .i64 dk, .int .u64 dd, .slice A rs.length cap] d.cells.toArray 29 34)
  unfold D9.cells at HS
  unfold PolA.val at HCK ⊢
  unfold D9.val
  dsimp only at HCK ⊢
  unfold NumPost7 at HA1 HA2
  clear hsz hfd hdd hrs hrow hall har hce hres hsm
  go_enter Try.func19, Try.ntmps19
  go_wp2_with fail
  refine (HCK.out _ HS.out.below).mono ?_
  rintro e w1 ⟨rfl, hb1⟩
  have H1 := Lib.hid (HS.out.call hb1)
  clear hb1
  by_cases h0 : ce = 0
  · subst h0
    obtain ⟨b0, b1, b2, b3, b4, b5⟩ := (box6 H1.out.ebox).1
    have HRES2 := Lib.hid (by have := HRES.out; rwa [if_neg (by decide)] at this)
    go_wp2_with fail
    refine (HARCH.out _).mono ?_
    rintro e w2 ⟨rfl, rfl⟩
    go_wp2_with fail
    refine (HA1.out _).mono ?_
    rintro e w3 ⟨rfl, hb2⟩
    have H2 := Lib.hid (H1.out.call hb2)
    clear hb2 b0 b1 b2 b3 b4 b5
    obtain ⟨b0, b1, b2, b3, b4, b5⟩ := (box6 H2.out.ebox).1
    obtain ⟨d0, d1, d2, d3, d4, d5, d6, d7, d8⟩ := dcl H2.out.dbox
    by_cases ha : d.arch = an
    · have HRES3 : Hid (res = saysP ar d (actionP dk dd).1 (rs.drop 0)) := Lib.hid (by have := HRES2.out; rw [if_neg (fun h => h ha)] at this; exact this)
      have ha1 : (d.arch != an) = false := by simp [ha]
      obtain ⟨hr512, hfok, hrule⟩ := HRL.out (by simp)
      have HRULE := Lib.hid hrule
      clear ha hfok hrule HRL HRES HRES2 HCK HARCH
      go_wp2_with fail
      clear b0 b1 b2 b3 b4 b5 d0 d1 d2 d3 d4 d5 d6 d7 d8
      go_loopw [10] (fun i wr => ∃ n : Nat, i = .int .i64 n ∧ n ≤ rs.length ∧ Hid (HD w (.cells #[.string ar, .int .i64 fk, .int .u64 fd, .int .i64 dk, .int .u64 dd, .slice A rs.length cap] 29 (0, 0)) (.cells #[.int .u32 d.nr, .int .u32 d.arch, .int .u64 d.ip, .int .u64 d.a0, .int .u64 d.a1, .int .u64 d.a2, .int .u64 d.a3, .int .u64 d.a4, .int .u64 d.a5] 34 (0, 0)) wr) ∧ Hid (res = saysP ar d (actionP dk dd).1 (rs.drop n))) (fun i _ => rs.length - (intOf i).toNat)
      case atStart => exact ⟨0, rfl, by omega, H2, HRES3⟩
      case round =>
        obtain ⟨n, rfl, hn, HB, HE⟩ := hrel
        clear H2 HRES3
        obtain ⟨b0, b1, b2, b3, b4, b5⟩ := (box6 HB.out.ebox).1
        rcases Nat.lt_or_ge n rs.length with hlt | hge
        · have hlt' : (n : Int) < rs.length := by omega
          obtain ⟨⟨xA, xcap, cs, ⟨xo, xeA, xc, xl, xf, xm, xr, xv⟩, xdk, xdd⟩, hy⟩ : ∃ y, rs[n]? = some y := ⟨_, List.getElem?_eq_getElem hlt⟩
          have hE := HE.out
          rw [saysP_drop hy] at hE
          have hmem := List.mem_of_getElem? hy
          obtain ⟨b, off, rfl, hbb, i0, i1, i2, i3, i4, i5, i6, i7, i8⟩ := (HROW.out.keep (N' := N) (fun b hb hl => ⟨hb, HB.out.below.block b hl⟩) (by decide)).rule hy
          have hinr := (HALL.out _ hmem).keep (N' := N) (fun b hb hl => ⟨hb, HB.out.below.block b hl⟩)
          have hok := HRS.out _ hmem
          have hwi := ruleP_when (HRULE.out _ hmem)
          obtain ⟨hnrs, hxdd, hclen, hfit⟩ := hok
          obtain ⟨hcalls, hwhen⟩ := hinr
          dsimp only at hnrs hxdd hclen hfit hcalls hwhen hwi hE
          have HWR := Lib.hid (HB.out.alloc (.cells #[.slice xA cs.length xcap, .int .i64 xo, .slice xeA xl.length xc, .int .i64 xf, .int .u64 xm, .int .i64 xr, .int .u64 xv, .int .i64 xdk, .int .u64 xdd] 51))
          have HRB := Lib.hid (heap_nwT wr (.cells #[.slice xA cs.length xcap, .int .i64 xo, .slice xeA xl.length xc, .int .i64 xf, .int .u64 xm, .int .i64 xr, .int .u64 xv, .int .i64 xdk, .int .u64 xdd] 51))
          obtain ⟨hv, hhv⟩ : ∃ hv, hv = holdsP d (.mk xo xeA xc xl xf xm xr xv) := ⟨_, rfl⟩
          have HHO := Lib.hid (fun W hb => rholds_c d M N 201 (.mk xo xeA xc xl xf xm xr xv) 0 W (by omega) hwi (hwhen.keep (N' := N) (fun b hb' hl => ⟨hb', (show Below wr.heap.size wr W from hb).block b hl⟩)) hfit)
          rw [← hhv] at HHO hE
          obtain ⟨rest, hrest⟩ : ∃ rest, rest = saysP ar d (actionP dk dd).1 (rs.drop (n + 1)) := ⟨_, rfl⟩
          rw [← hrest] at hE
          have HREST := Lib.hid hrest
          obtain ⟨act, hact⟩ : ∃ act, act = actionP xdk xdd := ⟨_, rfl⟩
          have HAX := Lib.hid (fun w => rAction_c xdk xdd hxdd w)
          rw [← hact] at HAX hE
          obtain ⟨act, actb⟩ := act
          unfold BoolPost ExA.val D9.val at HHO
          unfold NumPost7 at HAX
          dsimp only at HHO HAX hE
          have HE2 : Hid (res = if (namedP ar d.nr (cs.drop 0) && hv) = true then act else rest) := Lib.hid hE
          have HNRS := Lib.hid hnrs
          have HCALLS := Lib.hid (show RowN wr N 2 xA cs.length (cellsC cs) from hcalls)
          have hclen' : cs.length ≤ 9223372036854775807 := hclen
          clear hE hy hmem hcalls hwhen hwi hfit hnrs hxdd hhv hrest hact hclen HE
          go_upto_region 12 with (fail)
          have HBW := Lib.hid (below1 wr (.cells #[.slice xA cs.length xcap, .int .i64 xo, .slice xeA xl.length xc, .int .i64 xf, .int .u64 xm, .int .i64 xr, .int .u64 xv, .int .i64 xdk, .int .u64 xdd] 51))
          obtain ⟨RB, hRB⟩ : ∃ RB, RB = wr.heap.size := ⟨_, rfl⟩
          rw [← hRB] at HRB ⊢
          obtain ⟨wi, hwi⟩ : ∃ wi, wi = wr.alloc (.cells #[.slice xA cs.length xcap, .int .i64 xo, .slice xeA xl.length xc, .int .i64 xf, .int .u64 xm, .int .i64 xr, .int .u64 xv, .int .i64 xdk, .int .u64 xdd] 51) := ⟨_, rfl⟩
          rw [← hwi] at HWR HRB HBW ⊢
          obtain ⟨wo, hwo⟩ : ∃ wo : World, wo = wr := ⟨_, rfl⟩
          rw [← hwo] at HHO HCALLS HBW
          clear hwi hRB hbb b0 b1 b2 b3 b4 b5 i0 i1 i2 i3 i4 i5 i6 i7 i8 HB
          clear hwo
          go_wp2_with fail
          go_loopw [12] (fun i wr => ∃ k : Nat, i = .int .i64 k ∧ k ≤ cs.length ∧ Hid (HD w (.cells #[.string ar, .int .i64 fk, .int .u64 fd, .int .i64 dk, .int .u64 dd, .slice (some ⟨b, off, none⟩) rs.length cap] 29 (0, 0)) (.cells #[.int .u32 d.nr, .int .u32 d.arch, .int .u64 d.ip, .int .u64 d.a0, .int .u64 d.a1, .int .u64 d.a2, .int .u64 d.a3, .int .u64 d.a4, .int .u64 d.a5] 34 (0, 0)) wr ∧ wr.heap[RB]? = some (.cells #[.slice xA cs.length xcap, .int .i64 xo, .slice xeA xl.length xc, .int .i64 xf, .int .u64 xm, .int .i64 xr, .int .u64 xv, .int .i64 xdk, .int .u64 xdd] 51 (0, 0)) ∧ Below wo.heap.size wo wr) ∧ Hid (res = if (namedP ar d.nr (cs.drop k) && hv) = true then act else rest)) (fun i _ => cs.length - (intOf i).toNat)
          case atStart => exact ⟨0, rfl, by omega, Lib.hid ⟨HWR.out, HRB.out, HBW.out⟩, HE2⟩
          case round =>
            obtain ⟨k, rfl, hk, HI, HE⟩ := hrel
            clear HWR HRB HBW HE2
            obtain ⟨b0, b1, b2, b3, b4, b5⟩ := (box6 HI.out.1.ebox).1
            obtain ⟨p0, p1, p2, p3, p4, p5, p6, p7, p8⟩ := box9R HI.out.2.1
            rcases Nat.lt_or_ge k cs.length with hlt2 | hge2
            · have hlt2' : (k : Int) < cs.length := by omega
              obtain ⟨y, hy⟩ : ∃ y, cs[k]? = some y := ⟨_, List.getElem?_eq_getElem hlt2⟩
              have hE := HE.out
              rw [says_step hy] at hE
              have HNR := Lib.hid (fun w => rNr_c ar y (HNRS.out y (List.mem_of_getElem? hy)) w)
              obtain ⟨q, hq⟩ : ∃ q, q = nrP ar y := ⟨_, rfl⟩
              rw [← hq] at HNR hE
              obtain ⟨qn, qb⟩ := q
              obtain ⟨yn, yr⟩ := y
              obtain ⟨cb, co, rfl, hcb, j0, j1⟩ := (HCALLS.out.keep (N' := N) (fun b hb hl => ⟨hb, HI.out.2.2.block b hl⟩) (by decide)).call hy
              unfold NumPost7 CallP.val at HNR
              dsimp only at HNR hE
              have HE2 := Lib.hid hE
              clear hy hq hE HE
              go_wp2_with fail
              go_region_held3 (fun W => W.cell? ⟨w.heap.size, 0, none⟩ = some (.string ar) ∧ W.cell? ⟨RB, 0, none⟩ = some (.slice (some ⟨cb, co, none⟩) cs.length xcap) ∧ W.cell? ⟨cb, co + k * 2, none⟩ = some (.string yn) ∧ W.cell? ⟨cb, co + k * 2 + 1, none⟩ = some (.int .u64 yr) ∧ Below wr.heap.size wr W)
                (first | exact ⟨b0, p0, j0, j1, below_dr (Below.refl _ _)⟩ | assumption | exact ⟨keepC hb b0, keepC hb p0, keepC hb j0, keepC hb j1, hb⟩)
                (first | (go_at_call 48; refine (HNR.out _).mono ?_; rintro e w5 ⟨rfl, hb0⟩; have hb : Below wr.heap.size wr w5 := below_t (below_dr (Below.refl wr.heap.size wr)) hb0; clear hb0))
              have HI2 := Lib.hid (And.intro (HI.out.1.call hb) (And.intro (keepH hb HI.out.2.1) (below_t HI.out.2.2 hb)))
              clear hb b0 b1 b2 b3 b4 b5 p0 p1 p2 p3 p4 p5 p6 p7 p8 j0 j1
              obtain ⟨d0, d1, d2, d3, d4, d5, d6, d7, d8⟩ := dcl (d := d) HI2.out.1.dbox
              obtain ⟨p0, p1, p2, p3, p4, p5, p6, p7, p8⟩ := box9R HI2.out.2.1
              by_cases hqn : qn = d.nr
              · have hqt : (qn == d.nr) = true := by simpa using hqn
                rw [hqt] at HE2
                clear hqn
                go_wp2_with fail
                refine (HHO.out _ HI2.out.2.2).mono ?_
                rintro e w6 ⟨rfl, hb⟩
                have HI3 := Lib.hid (And.intro (HI2.out.1.call hb) (And.intro (keepH hb HI2.out.2.1) (below_t HI2.out.2.2 hb)))
                clear hb d0 d1 d2 d3 d4 d5 d6 d7 d8 p0 p1 p2 p3 p4 p5 p6 p7 p8
                obtain ⟨p0, p1, p2, p3, p4, p5, p6, p7, p8⟩ := box9R HI3.out.2.1
                cases hv with
                | true =>
                  have HF : Hid (res = act) := Lib.hid (by rw [HE2.out]; rfl)
                  go_wp2_with fail
                  refine (HAX.out _).mono ?_
                  rintro e w7 ⟨rfl, hb⟩
                  have HB7 := Lib.hid (below_t HI3.out.1.below hb)
                  clear hb
                  go_wp2
                  go_ret
                  exact ⟨by rw [HF.out]; rfl, HB7.out⟩
                | false =>
                  have HF : Hid (res = if (namedP ar d.nr (cs.drop (k + 1)) && false) = true then act else rest) := Lib.hid (by rw [HE2.out]; rfl)
                  go_wp2
                  go_roundw
                  case rel => exact ⟨k + 1, by go_num, by omega, HI3, HF⟩
                  case measure => simp [intOf]; omega
              · have hqt : (qn == d.nr) = false := by simpa using hqn
                rw [hqt] at HE2
                have HF : Hid (res = if (namedP ar d.nr (cs.drop (k + 1)) && hv) = true then act else rest) := Lib.hid (by rw [HE2.out]; simp)
                clear hqn
                go_wp2
                go_roundw
                case rel => exact ⟨k + 1, by go_num, by omega, HI2, HF⟩
                case measure => simp [intOf]; omega
            · obtain rfl : k = cs.length := by omega
              have HF : Hid (res = saysP ar d (actionP dk dd).1 (rs.drop (n + 1))) := Lib.hid (by rw [HE.out, List.drop_length, HREST.out]; simp [namedP])
              go_wp2
              go_roundw
              case rel => exact ⟨n + 1, by go_num, by omega, Lib.hid HI.out.1, HF⟩
              case measure => simp [intOf]; omega
        · obtain rfl : n = rs.length := by omega
          have HF : Hid (res = (actionP dk dd).1) := Lib.hid (by rw [HE.out, List.drop_length]; rfl)
          go_wp2_with fail
          refine (HA2.out _).mono ?_
          rintro e w5 ⟨rfl, hb5⟩
          have HB5 := Lib.hid (below_t HB.out.below hb5)
          clear hb5
          go_wp2
          go_ret
          exact ⟨by rw [HF.out]; rfl, HB5.out⟩
    · have HF := Lib.hid (by have := HRES2.out; rwa [if_pos ha] at this)
      have ha1 : (d.arch != an) = true := by simpa using ha
      clear ha
      go_wp2
      go_ret
      exact ⟨by rw [HF.out]; rfl, H2.out.below⟩
  · have HF := Lib.hid (by have := HRES.out; rwa [if_pos h0] at this)
    have h1 : (ce == 0) = false := by simpa using h0
    clear h0
    go_wp2
    go_ret
    exact ⟨by rw [HF.out]; rfl, H1.out.below⟩
end Go.Proofs.Ytebkbcpnjknkjaa
