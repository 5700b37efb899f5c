import Derived.Test.YtehpoamideeehaaMirOwn
import Derived.Test.YtehpoamideeehaaMirW4
set_option linter.unusedVariables false
set_option linter.unusedSimpArgs false
namespace Go.Proofs.Ytehpoamideeehaa
open Go.RowKit
/-! ravelinref12.In, each register in its own home: the walk. -/
theorem home_at {W : World} {B gh N i : Nat} (h : Reads W B 1 (some ⟨gh, 0, none⟩) N (numV .i64 (ids N))) (hi : i < N) : W.cell? ⟨gh, i, none⟩ = some (.int .i64 i) := by
  obtain ⟨b, off, e, _, hc⟩ := h.num (ids_get hi)
  injection e with e
  injection e with e1 e2
  subst e1 e2
  rwa [Nat.zero_add] at hc
theorem home_lt {W : World} {B gh N : Nat} (h : Reads W B 1 (some ⟨gh, 0, none⟩) N (numV .i64 (ids N))) (hN : 1 ≤ N) : gh < B := by
  obtain ⟨b, off, e, hb, _⟩ := h.num (ids_get hN)
  injection e with e
  injection e with e1 e2
  subst e1
  exact hb
set_option maxRecDepth 100000 in
set_option maxHeartbeats 0 in
theorem In_c (A : Option Addr) (N : Nat) (cap : Nat) (q : List R7) (gh caph : Nat) (Ad : Option Addr) (capd : Nat) (dat : List Int) (hz0 : (mcheckP N q).1 = 0) (hq : ∀ x ∈ q, x.ok) (hd : dat.length = 64) (hdok : ∀ x ∈ dat, 0 ≤ x ∧ x < 256) (w : World)
    (hr : Reads w w.heap.size 7 A q.length (cellsR q)) (hh : Reads w w.heap.size 1 (some ⟨gh, 0, none⟩) N (numV .i64 (ids N))) (hrd : Reads w w.heap.size 1 Ad 64 (numV .u8 dat)) :
    Calls Try.prog 25 #[.agg #[.int .i64 N, .slice A q.length cap], .slice (some ⟨gh, 0, none⟩) N caph, .int .i64 N, .slice Ad 64 capd] w (RunPost w (mrun q dat q.length 0 (List.replicate N 0) 0)) := by
  have HR := Lib.hid hr
  have HH := Lib.hid hh
  have HQ := Lib.hid hq
  have HDR := Lib.hid hrd
  have HD := Lib.hid hdok
  have hd64 := Lib.hid hd
  obtain ⟨RES, hRES⟩ : ∃ x, x = mrun q dat q.length 0 (List.replicate N 0) 0 := ⟨_, rfl⟩
  rw [← hRES]
  have HRES := Lib.hid hRES.symm
  obtain ⟨g1, g2, g3, g4, _, _⟩ := mcheckP_zero hz0
  have hN1 : 1 ≤ N := by omega
  have hN64 : (N : Int) ≤ 64 := by omega
  obtain ⟨i0, HI⟩ : ∃ i0, Hid (Try.prog.info? 35 = some i0 ∧ i0.zero = some (.int .u32 0) ∧ i0.size = 1 ∧ i0.bytes = 4) := by
    obtain ⟨i0, hi, hz0, hz1, hz2⟩ := info_parts infoU32
    exact ⟨i0, Lib.hid ⟨hi, hz0, hz1, hz2⟩⟩
  have HZ0 := Lib.hid hz0
  clear hr hh hq hrd hdok hRES hz0 hd
  go_enter Try.func25, Try.ntmps25
  go_wp2_with (at_make; refine wpList_make_full _ rfl _ _ 65 rfl w.heap.size 35 i0 _ 1 Try.underlying65 HI.out.1 HI.out.2.1 HI.out.2.2.1 .i64 .i64 _ _ N rfl rfl rfl rfl (by rw [HI.out.2.2.2]; omega) (by simp only [maxLen]; omega) (by simp) ?_)
  intro w2 hown2 hg2
  have hsz : (w.alloc (.cells #[.int .i64 N, .slice A q.length cap] 27)).heap.size = w.heap.size + 1 := by simp
  have hrel0 : RunRel w (w.heap.size + 1) N N A cap q (List.replicate N 0) w2 := by
    have hb1 := below1 w (.cells #[.int .i64 N, .slice A q.length cap] 27)
    refine ⟨⟨by simp, ?_, ?_⟩, (hb1.grown hg2 (by simp) (fun k hk => by cases hk)), ?_, ?_, by omega, ?_⟩
    · intro v hv; obtain rfl := List.eq_of_mem_replicate hv; exact ⟨by decide, by decide⟩
    · have e : (madeCells #[Value.int .u32 0] N).toList = numV .u32 (List.replicate N 0) := by
        simp only [numV, List.map_replicate]; exact toList_madeCells_one _ _
      rw [← e]; simpa using hown2
    · rw [World.cell?_of_block (a := ⟨w.heap.size, 0, none⟩) (hg2.block _ (by simp) (by simp))]; simp [go_sem]
    · rw [World.cell?_of_block (a := ⟨w.heap.size, 1, none⟩) (hg2.block _ (by simp) (by simp))]; simp [go_sem]
    · have := hown2.form (by omega); obtain ⟨g, cap', hv, _, hlt⟩ := this; injection hv with hv; injection hv with hv; injection hv with hv; rw [hv]; exact hlt
  have H0 := Lib.hid hrel0
  clear hown2 hg2 hrel0 hsz
  obtain ⟨g, hg, hwg0⟩ : ∃ g, g = w.heap.size + 1 ∧ w.heap.size < g := ⟨_, rfl, by omega⟩
  rw [← hg] at H0 ⊢
  clear hg
  go_wp2_with fail
  go_loopw [13, 14] (fun i j wr => ∃ (at_ steps : Nat) (r : List Int) (n : Nat), i = .int .i64 at_ ∧ j = .int .i64 steps ∧ at_ < q.length ∧ steps ≤ at_ ∧ q.length ≤ n + at_ ∧ Hid (mrun q dat n at_ r steps = RES) ∧ Hid (RunRel w g N N A cap q r wr)) (fun i _ _ => q.length - (intOf i).toNat)
  case atStart => exact ⟨0, 0, List.replicate N 0, q.length, rfl, rfl, by omega, by omega, by omega, HRES, H0⟩
  case round =>
      obtain ⟨at_, steps, r, n, rfl, rfl, hat, hst, hln, HM, HG⟩ := hrel
      obtain ⟨x, hx⟩ : ∃ x, q[at_]? = some x := ⟨_, List.getElem?_eq_getElem hat⟩
      have hlast := fun h => last_at HZ0.out hx h
      have hfin := fine_at HZ0.out hx
      obtain ⟨k1, k2⟩ : 0 ≤ x.k ∧ x.k < 4294967296 := (HQ.out x (List.mem_of_getElem? hx)).2.2.2.2.1
      obtain ⟨n, rfl⟩ : ∃ m, n = m + 1 := ⟨n - 1, by omega⟩
      have hgr := HG.out.1
      have hgl := HG.out.2.2.2.2.2
      have hwg := HG.out.2.2.2.2.1
      have c0 := HG.out.2.2.1
      have c1 := HG.out.2.2.2.1
      have hbw := HG.out.2.1
      obtain ⟨b, off, hA, hb, i0, i1, i2, i3, i4, i5, i6⟩ := (HR.out.up hbw).ir hx
      have hm := HM.out
      unfold mrun at hm
      rw [hx] at hm
      obtain ⟨f1, f2, fd, fa, fb, f3, ft, ff⟩ := hfin
      have hat' : (at_ : Int) < q.length := by omega
      have hmx' : (q.length : Int) ≤ 65536 := by omega
      have hst' : (steps : Int) ≤ at_ := by omega
      have hhl : gh < wr.heap.size := Nat.lt_of_lt_of_le (home_lt HH.out hN1) hbw.size
      have hgf : ∀ j, wr.frozen? ⟨g, j, none⟩ = false := fun j => hgr.frozen j
      obtain ⟨o, d, a, b', k, t, f⟩ := x
      dsimp only at *
      subst hA
      by_cases h1 : o = 1
      · as_aux_lemma =>
          subst h1
          obtain ⟨qd, pd⟩ := fd (by simp [shD])
          obtain ⟨nd, rfl⟩ := nat_of qd
          have ld : nd < N := by omega
          have ld' : (nd : Int) < N := by omega
          have gd := hgr.get ld
          have ud := getN_ok hgr.2.1 nd
          have vd := home_at (HH.out.below hbw) ld
          have eD : shD 1 = true := by decide
          have eA : shA 1 = false := by decide
          have eB : shB 1 = false := by decide
          have eT : shT 1 = false := by decide
          have eF : shF 1 = false := by decide
          have hne : ¬ at_ + 1 = q.length := fun h => by have := hlast h; omega
          have HM2 := Lib.hid (show mrun q dat n (at_ + 1) (r.set nd k) (steps + 1) = RES by rw [← hm]; simp [mnext, mset, mval, shD])
          clear hm fd fa fb ft ff hlast hx hgr f3 HM
          go_wp2_with fail
          refine (Names_c 1 _).mono ?_
          rintro e w' ⟨rfl, rfl⟩
          unfold namesV
          rw [eD, eA, eB, eT, eF]
          clear eD eA eB eT eF
          go_wp2
          go_roundw
          case rel => exact ⟨at_ + 1, steps + 1, r.set nd k, n, by go_num, by go_num, by omega, by omega, by omega, HM2, Lib.hid (by first | exact (HG.out.set nd ⟨k1, k2⟩).alloc _ | exact (HG.out.alloc _).set nd ⟨k1, k2⟩)⟩
          case measure => simp [intOf]; omega
      by_cases h2 : o = 2
      · as_aux_lemma =>
          subst h2
          obtain ⟨qd, pd⟩ := fd (by simp [shD])
          obtain ⟨nd, rfl⟩ := nat_of qd
          have ld : nd < N := by omega
          have ld' : (nd : Int) < N := by omega
          have gd := hgr.get ld
          have ud := getN_ok hgr.2.1 nd
          have vd := home_at (HH.out.below hbw) ld
          obtain ⟨qa, pa⟩ := fa (by simp [shA])
          obtain ⟨na, rfl⟩ := nat_of qa
          have la : na < N := by omega
          have la' : (na : Int) < N := by omega
          have ga := hgr.get la
          have ua := getN_ok hgr.2.1 na
          have va := home_at (HH.out.below hbw) la
          have eD : shD 2 = true := by decide
          have eA : shA 2 = true := by decide
          have eB : shB 2 = false := by decide
          have eT : shT 2 = false := by decide
          have eF : shF 2 = false := by decide
          have hne : ¬ at_ + 1 = q.length := fun h => by have := hlast h; omega
          have HM2 := Lib.hid (show mrun q dat n (at_ + 1) (r.set nd (getN r na)) (steps + 1) = RES by rw [← hm]; simp [mnext, mset, mval, shD])
          clear hm fd fa fb ft ff hlast hx hgr f3 HM
          go_wp2_with fail
          refine (Names_c 2 _).mono ?_
          rintro e w' ⟨rfl, rfl⟩
          unfold namesV
          rw [eD, eA, eB, eT, eF]
          clear eD eA eB eT eF
          go_wp2
          go_roundw
          case rel => exact ⟨at_ + 1, steps + 1, r.set nd (getN r na), n, by go_num, by go_num, by omega, by omega, by omega, HM2, Lib.hid (by first | exact (HG.out.set nd ua).alloc _ | exact (HG.out.alloc _).set nd ua)⟩
          case measure => simp [intOf]; omega
      by_cases h3 : o = 3
      · as_aux_lemma =>
          subst h3
          obtain ⟨qd, pd⟩ := fd (by simp [shD])
          obtain ⟨nd, rfl⟩ := nat_of qd
          have ld : nd < N := by omega
          have ld' : (nd : Int) < N := by omega
          have gd := hgr.get ld
          have ud := getN_ok hgr.2.1 nd
          have vd := home_at (HH.out.below hbw) ld
          have eD : shD 3 = true := by decide
          have eA : shA 3 = false := by decide
          have eB : shB 3 = false := by decide
          have eT : shT 3 = false := by decide
          have eF : shF 3 = false := by decide
          obtain ⟨k3, k4⟩ := f3 rfl
          obtain ⟨nk, rfl⟩ := nat_of k1
          have hwd := wordP_ok HD.out nk
          have HWR := Lib.hid (show IntKind.i64.wrap (nk : Int) = nk by simp [IntKind.wrap, IntKind.bits, IntKind.signed]; omega)
          have hne : ¬ at_ + 1 = q.length := fun h => by have := hlast h; omega
          have HM2 := Lib.hid (show mrun q dat n (at_ + 1) (r.set nd (wordP dat nk)) (steps + 1) = RES by rw [← hm]; simp [mnext, mset, mval, shD])
          have HC := Lib.hid (fun W hW => rWord_c Ad capd dat hd64.out HD.out nk (by omega) (by omega) W w.heap.size (HDR.out.below hW))
          clear hm fd fa fb ft ff hlast hx hgr f3 HM
          go_wp2_with fail
          refine (Names_c 3 _).mono ?_
          rintro e w' ⟨rfl, rfl⟩
          unfold namesV
          rw [eD, eA, eB, eT, eF]
          clear eD eA eB eT eF
          go_wp2_with fail
          (first | rw [HWR.out] | skip)
          refine (HC.out _ (below_al hbw _)).mono ?_
          rintro e w' ⟨rfl, rfl⟩
          go_wp2
          go_roundw
          case rel => exact ⟨at_ + 1, steps + 1, r.set nd (wordP dat nk), n, by go_num, by go_num, by omega, by omega, by omega, HM2, Lib.hid (by first | exact (HG.out.set nd hwd).alloc _ | exact (HG.out.alloc _).set nd hwd)⟩
          case measure => simp [intOf]; omega
      by_cases h13 : o = 13
      · as_aux_lemma =>
          subst h13
          obtain ⟨qd, pd⟩ := fd (by simp [shD])
          obtain ⟨nd, rfl⟩ := nat_of qd
          have ld : nd < N := by omega
          have ld' : (nd : Int) < N := by omega
          have gd := hgr.get ld
          have ud := getN_ok hgr.2.1 nd
          have vd := home_at (HH.out.below hbw) ld
          obtain ⟨qa, pa⟩ := fa (by simp [shA])
          obtain ⟨na, rfl⟩ := nat_of qa
          have la : na < N := by omega
          have la' : (na : Int) < N := by omega
          have ga := hgr.get la
          have ua := getN_ok hgr.2.1 na
          have va := home_at (HH.out.below hbw) la
          have eD : shD 13 = true := by decide
          have eA : shA 13 = true := by decide
          have eB : shB 13 = false := by decide
          have eT : shT 13 = false := by decide
          have eF : shF 13 = false := by decide
          have hv : u32ok ((-getN r na) % 4294967296) := ⟨Int.emod_nonneg _ (by decide), Int.emod_lt_of_pos _ (by decide)⟩
          have hne : ¬ at_ + 1 = q.length := fun h => by have := hlast h; omega
          have HM2 := Lib.hid (show mrun q dat n (at_ + 1) (r.set nd ((-getN r na) % 4294967296)) (steps + 1) = RES by rw [← hm]; simp [mnext, mset, mval, shD])
          clear hm fd fa fb ft ff hlast hx hgr f3 HM
          go_wp2_with fail
          refine (Names_c 13 _).mono ?_
          rintro e w' ⟨rfl, rfl⟩
          unfold namesV
          rw [eD, eA, eB, eT, eF]
          clear eD eA eB eT eF
          go_wp2
          go_roundw
          case rel => exact ⟨at_ + 1, steps + 1, r.set nd ((-getN r na) % 4294967296), n, by go_num, by go_num, by omega, by omega, by omega, HM2, Lib.hid (by first | exact (HG.out.set nd hv).alloc _ | exact (HG.out.alloc _).set nd hv)⟩
          case measure => simp [intOf]; omega
      by_cases h14 : o = 14
      · as_aux_lemma =>
          subst h14
          obtain ⟨qt, pt⟩ := ft (by simp [shT])
          obtain ⟨nt, rfl⟩ := nat_of (show 0 ≤ t by omega)
          have eD : shD 14 = false := by decide
          have eA : shA 14 = false := by decide
          have eB : shB 14 = false := by decide
          have eT : shT 14 = true := by decide
          have eF : shF 14 = false := by decide
          have hne : ¬ at_ + 1 = q.length := fun h => by have := hlast h; omega
          have HM2 := Lib.hid (show mrun q dat n nt r (steps + 1) = RES by rw [← hm]; simp [mnext, mset, mval, shD])
          clear hm fd fa fb ft ff hlast hx hgr f3 HM
          go_wp2_with fail
          refine (Names_c 14 _).mono ?_
          rintro e w' ⟨rfl, rfl⟩
          unfold namesV
          rw [eD, eA, eB, eT, eF]
          clear eD eA eB eT eF
          go_wp2
          go_roundw
          case rel => exact ⟨nt, steps + 1, r, n, by go_num, by go_num, by omega, by omega, by omega, HM2, Lib.hid (by first | exact (HG.out.alloc _))⟩
          case measure => simp [intOf]; omega
      by_cases h19 : o = 19
      · as_aux_lemma =>
          subst h19
          obtain ⟨qa, pa⟩ := fa (by simp [shA])
          obtain ⟨na, rfl⟩ := nat_of qa
          have la : na < N := by omega
          have la' : (na : Int) < N := by omega
          have ga := hgr.get la
          have ua := getN_ok hgr.2.1 na
          have va := home_at (HH.out.below hbw) la
          have eD : shD 19 = false := by decide
          have eA : shA 19 = true := by decide
          have eB : shB 19 = false := by decide
          have eT : shT 19 = false := by decide
          have eF : shF 19 = false := by decide
          have HF := Lib.hid (show RES = (getN r na, (steps : Int) + 1, 0, 0) by rw [← hm]; simp)
          clear hm fd fa fb ft ff hlast hx hgr f3 HM
          go_wp2_with fail
          refine (Names_c 19 _).mono ?_
          rintro e w' ⟨rfl, rfl⟩
          unfold namesV
          rw [eD, eA, eB, eT, eF]
          clear eD eA eB eT eF
          go_wp2
          refine bodyPost_ret (v := .tuple #[.int .u32 (getN r na), .int .i64 ((steps : Int) + 1), .int .i64 0, .int .i64 0]) (by simp [results, Try.results25, go_sem]) rfl ⟨ret4_eq HF.out, below_al hbw _⟩
      by_cases h15 : 15 ≤ o
      · have h18 : o ≤ 18 := by omega
        as_aux_lemma =>
          have z1 : (o == 1) = false := by rw [beq_eq_false_iff_ne]; omega
          have z2 : (o == 2) = false := by rw [beq_eq_false_iff_ne]; omega
          have z3 : (o == 3) = false := by rw [beq_eq_false_iff_ne]; omega
          have z13 : (o == 13) = false := by rw [beq_eq_false_iff_ne]; omega
          have z14 : (o == 14) = false := by rw [beq_eq_false_iff_ne]; omega
          have z19 : (o == 19) = false := by rw [beq_eq_false_iff_ne]; omega
          have y4 : decide (4 ≤ o) = true := by simp; omega
          have y12 : decide (o ≤ 12) = false := by simp; omega
          have y3 : ¬ o = 3 := by omega
          have y15 : decide (15 ≤ o) = true := by simp; omega
          have z7 : (o == 7) = false := by rw [beq_eq_false_iff_ne]; omega
          obtain ⟨qa, pa⟩ := fa (by simp [shA]; omega)
          obtain ⟨na, rfl⟩ := nat_of qa
          have la : na < N := by omega
          have la' : (na : Int) < N := by omega
          have ga := hgr.get la
          have ua := getN_ok hgr.2.1 na
          have va := home_at (HH.out.below hbw) la
          obtain ⟨qb, pb⟩ := fb (by simp [shB]; omega)
          obtain ⟨nb, rfl⟩ := nat_of qb
          have lb : nb < N := by omega
          have lb' : (nb : Int) < N := by omega
          have gb := hgr.get lb
          have ub := getN_ok hgr.2.1 nb
          have vb := home_at (HH.out.below hbw) lb
          obtain ⟨qt, pt⟩ := ft (by simp [shT]; omega)
          obtain ⟨nt, rfl⟩ := nat_of (show 0 ≤ t by omega)
          obtain ⟨qf, pf⟩ := ff (by simp [shF]; omega)
          obtain ⟨nf, rfl⟩ := nat_of (show 0 ≤ f by omega)
          have eD : shD o = false := by simp [shD]; omega
          have eA : shA o = true := by simp [shA]; omega
          have eB : shB o = true := by simp [shB]; omega
          have eT : shT o = true := by simp [shT]; omega
          have eF : shF o = true := by simp [shF]; omega
          obtain ⟨sv, hsv⟩ : ∃ sv, sv = saysP o (getN r na) (getN r nb) := ⟨_, rfl⟩
          have HSV := Lib.hid hsv
          have hne : ¬ at_ + 1 = q.length := fun h => by have := hlast h; omega
          have HM2' := Lib.hid (show mrun q dat n (if sv = true then nt else nf) r (steps + 1) = RES by
            have hm2 := hm
            rw [if_neg (by omega), if_neg (by omega)] at hm2
            rw [← hm2, hsv]
            have e1 : shD o = false := by simp [shD]; omega
            simp [mnext, mset, e1, show ¬ o = 14 by omega, show 15 ≤ o by omega])
          clear hm fd fa fb ft ff hlast hx hgr f3 HM hsv
          go_wp2_with fail
          refine (Names_c o _).mono ?_
          rintro e w' ⟨rfl, rfl⟩
          unfold namesV
          rw [eD, eA, eB, eT, eF]
          clear eD eA eB eT eF
          go_wp2_with fail
          refine (Says_c o _ _ h15 h18 _).mono ?_
          rintro e w' ⟨rfl, rfl⟩
          rw [← HSV.out]
          cases sv
          · have HM2 : Hid (mrun q dat n nf r (steps + 1) = RES) := Lib.hid (by simpa using HM2'.out)
            go_wp2
            go_roundw
            case rel => exact ⟨nf, steps + 1, r, n, by go_num, by go_num, by omega, by omega, by omega, HM2, Lib.hid (by first | exact (HG.out.alloc _))⟩
            case measure => simp [intOf]; omega
          · have HM2 : Hid (mrun q dat n nt r (steps + 1) = RES) := Lib.hid (by simpa using HM2'.out)
            go_wp2
            go_roundw
            case rel => exact ⟨nt, steps + 1, r, n, by go_num, by go_num, by omega, by omega, by omega, HM2, Lib.hid (by first | exact (HG.out.alloc _))⟩
            case measure => simp [intOf]; omega
      have h4 : 4 ≤ o := by omega
      have h12 : o ≤ 12 := by omega
      as_aux_lemma =>
        have z1 : (o == 1) = false := by rw [beq_eq_false_iff_ne]; omega
        have z2 : (o == 2) = false := by rw [beq_eq_false_iff_ne]; omega
        have z3 : (o == 3) = false := by rw [beq_eq_false_iff_ne]; omega
        have z13 : (o == 13) = false := by rw [beq_eq_false_iff_ne]; omega
        have z14 : (o == 14) = false := by rw [beq_eq_false_iff_ne]; omega
        have z19 : (o == 19) = false := by rw [beq_eq_false_iff_ne]; omega
        have y4 : decide (4 ≤ o) = true := by simp; omega
        have y12 : decide (o ≤ 12) = true := by simp; omega
        have y3 : ¬ o = 3 := by omega
        obtain ⟨qd, pd⟩ := fd (by simp [shD]; omega)
        obtain ⟨nd, rfl⟩ := nat_of qd
        have ld : nd < N := by omega
        have ld' : (nd : Int) < N := by omega
        have gd := hgr.get ld
        have ud := getN_ok hgr.2.1 nd
        have vd := home_at (HH.out.below hbw) ld
        obtain ⟨qa, pa⟩ := fa (by simp [shA]; omega)
        obtain ⟨na, rfl⟩ := nat_of qa
        have la : na < N := by omega
        have la' : (na : Int) < N := by omega
        have ga := hgr.get la
        have ua := getN_ok hgr.2.1 na
        have va := home_at (HH.out.below hbw) la
        obtain ⟨qb, pb⟩ := fb (by simp [shB]; omega)
        obtain ⟨nb, rfl⟩ := nat_of qb
        have lb : nb < N := by omega
        have lb' : (nb : Int) < N := by omega
        have gb := hgr.get lb
        have ub := getN_ok hgr.2.1 nb
        have vb := home_at (HH.out.below hbw) lb
        have eD : shD o = true := by simp [shD]; omega
        have eA : shA o = true := by simp [shA]; omega
        have eB : shB o = true := by simp [shB]; omega
        have eT : shT o = false := by simp [shT]; omega
        have eF : shF o = false := by simp [shF]; omega
        by_cases hz : o = 7 ∧ getN r nb = 0
        · obtain ⟨rfl, hz2⟩ := hz
          have HF := Lib.hid (show RES = (0, (steps : Int), 8, (at_ : Int)) by rw [← hm]; simp [hz2])
          rw [hz2] at gb
          clear hm fd fa fb ft ff hlast hx hgr f3 HM
          go_wp2_with fail
          refine (Names_c 7 _).mono ?_
          rintro e w' ⟨rfl, rfl⟩
          unfold namesV
          rw [eD, eA, eB, eT, eF]
          clear eD eA eB eT eF
          go_wp2
          refine bodyPost_ret (v := .tuple #[.int .u32 0, .int .i64 steps, .int .i64 8, .int .i64 at_]) (by simp [results, Try.results25, go_sem]) rfl ⟨ret4_eq HF.out, below_al hbw _⟩
        · have hv := sumP_ok (o := o) ua ub
          have hne : ¬ at_ + 1 = q.length := fun h => by have := hlast h; omega
          have HM2 := Lib.hid (show mrun q dat n (at_ + 1) (r.set nd (sumP o (getN r na) (getN r nb))) (steps + 1) = RES by
            rw [← hm, if_neg (by omega), if_neg (by simpa using hz)]
            have e1 : shD o = true := by simp [shD]; omega
            simp [mnext, mset, mval, e1, show ¬ o = 14 by omega, show ¬ 15 ≤ o by omega, show ¬ o = 1 by omega, show ¬ o = 2 by omega, show ¬ o = 3 by omega, show ¬ o = 13 by omega])
          have HZ := Lib.hid hz
          have hz7 : (o == 7 && getN r nb == 0) = false := by
            rw [Bool.and_eq_false_iff]
            by_cases h7 : o = 7
            · exact .inr (by simpa using fun e => hz ⟨h7, e⟩)
            · exact .inl (by simpa using h7)
          clear hm fd fa fb ft ff hlast hx hgr f3 HM hz
          by_cases h7 : o = 7
          · have w7 : (o == 7) = true := by simpa using h7
            have w0 : (getN r nb == 0) = false := by simpa [w7] using hz7
            clear hz7 h7
            go_wp2_with fail
            refine (Names_c o _).mono ?_
            rintro e w' ⟨rfl, rfl⟩
            unfold namesV
            rw [eD, eA, eB, eT, eF]
            clear eD eA eB eT eF
            go_wp2_with fail
            refine (Two_c o _ _ h4 h12 ua ub HZ.out _).mono ?_
            rintro e w' ⟨rfl, rfl⟩
            go_wp2
            go_roundw
            case rel => exact ⟨at_ + 1, steps + 1, r.set nd (sumP o (getN r na) (getN r nb)), n, by go_num, by go_num, by omega, by omega, by omega, HM2, Lib.hid (by first | exact (HG.out.set nd hv).alloc _ | exact (HG.out.alloc _).set nd hv)⟩
            case measure => simp [intOf]; omega
          · have w7 : (o == 7) = false := by simpa using h7
            clear hz7 h7
            go_wp2_with fail
            refine (Names_c o _).mono ?_
            rintro e w' ⟨rfl, rfl⟩
            unfold namesV
            rw [eD, eA, eB, eT, eF]
            clear eD eA eB eT eF
            go_wp2_with fail
            refine (Two_c o _ _ h4 h12 ua ub HZ.out _).mono ?_
            rintro e w' ⟨rfl, rfl⟩
            go_wp2
            go_roundw
            case rel => exact ⟨at_ + 1, steps + 1, r.set nd (sumP o (getN r na) (getN r nb)), n, by go_num, by go_num, by omega, by omega, by omega, HM2, Lib.hid (by first | exact (HG.out.set nd hv).alloc _ | exact (HG.out.alloc _).set nd hv)⟩
            case measure => simp [intOf]; omega
end Go.Proofs.Ytehpoamideeehaa
