/- SemNamed: of any policy and any data, an architecture's names have numbers that rise, and a policy that names calls says what the same one says that numbers them. No conditions. -/
import Derived.Test.YtebkbcpnjknkjaaSemNm
import Derived.Test.YtebkbcpnjknkjaaOpenX
set_option linter.unusedVariables false
set_option linter.unusedSimpArgs false
set_option maxRecDepth 100000
namespace Go.Proofs.Ytebkbcpnjknkjaa
open Go.RowKit Go.ChangeShapes Go.WideShapes Go.Deep
theorem take_succ_map {α β : Type} (f : α → β) {l : List α} {n : Nat} {x : α} (h : l[n]? = some x) : (l.take (n + 1)).map f = (l.take n).map f ++ [f x] := by
  have hn := (List.getElem?_eq_some_iff.1 h).1
  rw [List.getElem?_eq_getElem hn] at h
  injection h with h
  rw [List.take_succ_eq_append_getElem hn, List.map_append, h]
  rfl
theorem frz9 {W : World} {g : Nat} {cs : Array Value} {t : TypeId} (h : W.heap[g]? = some (.cells cs t (0, 0))) (j : Nat) : W.frozen? ⟨g, j, none⟩ = false := by simp [World.frozen?, h]
set_option maxHeartbeats 6400000 in
theorem SemNamed_w (p : PolA) (d : D9) (w : World) (hin : p.In w (fun b => b < w.heap.size)) (hok : p.Ok) :
    Calls Try.prog 9 #[p.val, d.val] w fun e w' => e = .returned (.bool true) ∧ Below w.heap.size w w' := by
  obtain ⟨i0, HI0'⟩ : ∃ i0, Hid (Try.prog.info? 51 = some i0 ∧ i0.zero = some (.agg #[.slice none 0 0, .int .i64 0, .slice none 0 0, .int .i64 0, .int .u64 0, .int .i64 0, .int .u64 0, .int .i64 0, .int .u64 0]) ∧ i0.size = 9 ∧ i0.bytes = 104) := by
    obtain ⟨i0, hi, hz0, hz1, hz2⟩ := info_parts infoU
    exact ⟨i0, Lib.hid ⟨hi, hz0, hz1, hz2⟩⟩
  obtain ⟨i1, HI1⟩ : ∃ i0, Hid (Try.prog.info? 68 = some i0 ∧ i0.zero = some (.agg #[.string ⟨#[]⟩, .int .u64 0]) ∧ i0.size = 2 ∧ i0.bytes = 24) := by
    obtain ⟨i0, hi, hz0, hz1, hz2⟩ := info_parts infoC
    exact ⟨i0, Lib.hid ⟨hi, hz0, hz1, hz2⟩⟩
  have HL := Lib.hid (fun w => lives7_c w)
  have HCK := Lib.hid (fun W hb => Check_c _ p W hok (hin.below (show Below w.heap.size w W from hb)))
  have HEV := Lib.hid (fun W hb => Eval_c _ p d W hok (hin.below (show Below w.heap.size w W from hb)))
  obtain ⟨ev, hev⟩ : ∃ ev, ev = evalP 1099511627776 p d := ⟨_, rfl⟩
  obtain ⟨ce, cat, hce⟩ : ∃ a b, checkP 1099511627776 p = (a, b) := ⟨_, _, rfl⟩
  have HCQ := Lib.hid (fun (h0 : ce = 0) N (q : PolA) W (hq : q.strip = (numPol p).strip) (hi : q.In W N) => by
    have hc := Check_c N q W (PolA.Ok.same (Ok_num hok) hq) hi
    rw [check_same _ hq, check_num (by rw [hce]; exact h0)] at hc
    exact hc)
  have HEQ := Lib.hid (fun (h0 : ce = 0) N (q : PolA) W (hq : q.strip = (numPol p).strip) (hi : q.In W N) => by
    have hc := Eval_c N q d W (PolA.Ok.same (Ok_num hok) hq) hi
    rw [eval_same _ hq, eval_num (by rw [hce]; exact h0), ← hev] at hc
    exact hc)
  rw [← hev] at HEV
  rw [hce] at HCK
  have HRL := Lib.hid (fun h0 : ce = 0 => (check_parts (M := 1099511627776) (p := p) (by rw [hce]; exact h0)).2.2)
  unfold CheckPost at HCK HCQ
  unfold U32Post at HEV HEQ
  obtain ⟨N, hN⟩ : ∃ N : Nat → Prop, N = fun b => b < w.heap.size := ⟨_, rfl⟩
  rw [← hN] at hin
  have HN := Lib.hid hN
  obtain ⟨ar, fk, fd, dk, dd, A, cap, rs⟩ := p
  obtain ⟨hsz, hfd, hdd, hrs⟩ := hok
  obtain ⟨hrow, hall⟩ := hin
  dsimp only at hrs hrow hall HCK HRL
  have HNM := Lib.hid (fun w => Names_c07 ar w)
  have HNU := Lib.hid (fun s w => Number_c07 ar s w)
  have HRI := Lib.hid (fun i u v hu hv => names_rise ar (i := i) (u := u) (v := v) hu hv)
  unfold NumPost7 at HNU
  have HRS := Lib.hid hrs
  have HROW := Lib.hid hrow
  have HALL := Lib.hid hall
  have HS := Lib.hid (HD.start w #[.string ar, .int .i64 fk, .int .u64 fd, .int .i64 dk, .int .u64 dd, .slice A rs.length cap] d.cells.toArray 29 34)
  unfold D9.cells at HS
  unfold PolA.val at HCK HEV HCQ HEQ ⊢
  unfold D9.val at HEV HEQ ⊢
  dsimp only at HCK HEV HCQ HEQ ⊢
  obtain ⟨L, hL⟩ : ∃ L, L = namesP ar := ⟨_, rfl⟩
  have hln := namesP_len ar
  rw [← hL] at HNM HRI hln
  clear hsz hfd hdd hrs hrow hall hce hev hN hL
  go_enter Try.func9, Try.ntmps9
  go_wp2_with fail
  refine (HL.out _).mono ?_
  rintro e w1 ⟨rfl, hb⟩
  have H1 := Lib.hid (HS.out.call hb)
  clear hb
  obtain ⟨b0, b1, b2, b3, b4, b5⟩ := (box6 H1.out.ebox).1
  go_wp2_with fail
  refine (HNM.out _).mono ?_
  intro e w2 hp
  obtain ⟨A3, c3, rfl, hr3, hb⟩ := hp.slice
  have H2 := Lib.hid (H1.out.call hb)
  have HR3 := Lib.hid hr3
  clear hp hr3 hb b0 b1 b2 b3 b4 b5
  go_wp2_with fail
  go_loopw [7] (fun i wr => ∃ m : Nat, i = .int .i64 m ∧ 1 ≤ m ∧ m ≤ 25 ∧ Hid (Below w2.heap.size w2 wr)) (fun i _ => L.length - (intOf i).toNat)
  case atStart => exact ⟨1, rfl, by omega, by omega, Lib.hid (Below.refl _ _)⟩
  case round =>
    obtain ⟨m, rfl, hm1, hm25, HB⟩ := hrel
    have HW := Lib.hid (H2.out.call HB.out)
    obtain ⟨b0, b1, b2, b3, b4, b5⟩ := (box6 HW.out.ebox).1
    rcases Nat.lt_or_ge m L.length with hlt | hge
    · have hlt' : (m : Int) < L.length := by omega
      obtain ⟨k, hk⟩ : ∃ k, k + 1 = m := ⟨m - 1, by omega⟩
      have hk1 : (k : Int) < L.length := by omega
      have hk0 : (0 : Int) ≤ (k : Int) := by omega
      obtain ⟨x, hx⟩ : ∃ x, L[k]? = some x := ⟨_, List.getElem?_eq_getElem (by omega)⟩
      obtain ⟨y, hy⟩ : ∃ y, L[m]? = some y := ⟨_, List.getElem?_eq_getElem hlt⟩
      obtain ⟨nx, ny, hnx, hny, hlt3⟩ := HRI.out k x y hx (by rw [hk]; exact hy)
      have hwr : IntKind.i64.wrap ((m : Int) - 1) = (k : Int) := by simp [IntKind.wrap, IntKind.bits, IntKind.signed]; omega
      obtain ⟨B3, O3, rfl, hb3, i3⟩ := (HR3.out.up HB.out).str hx
      obtain ⟨B4, O4, he4, hb4, i4⟩ := (HR3.out.up HB.out).str hy
      injection he4 with he4
      injection he4 with he5 he6 _
      subst he5 he6
      have HNX := Lib.hid (fun w => HNU.out x w)
      have HNY := Lib.hid (fun w => HNU.out y w)
      rw [hnx] at HNX
      rw [hny] at HNY
      dsimp only at HNX HNY
      have hgt : ¬ ny ≤ nx := by omega
      clear hx hy hnx hny hk hlt3
      go_wp2_with fail
      go_region_held3 (fun W => W.cell? ⟨w.heap.size, 0, none⟩ = some (.string ar) ∧ W.cell? ⟨B3, O3 + k, none⟩ = some (.string x) ∧ Below wr.heap.size wr W)
        (first | exact ⟨b0, i3, below_dr (Below.refl _ _)⟩ | assumption | exact ⟨keepC hb b0, keepC hb i3, hb⟩)
        (first | (go_at_call 26; refine (HNX.out _).mono ?_; rintro e w5 ⟨rfl, hb0⟩; have hb : Below wr.heap.size wr w5 := below_t (below_dr (Below.refl wr.heap.size wr)) hb0; clear hb0))
      have H5 := Lib.hid (below_t HB.out hb)
      have j4 := keepC hb i4
      have j0 := keepC hb b0
      clear hb b0 b1 b2 b3 b4 b5 i3 i4 hwr
      go_wp2_with fail
      go_region_held3 (fun W => W.cell? ⟨w.heap.size, 0, none⟩ = some (.string ar) ∧ W.cell? ⟨B3, O3 + m, none⟩ = some (.string y) ∧ Below w5.heap.size w5 W)
        (first | exact ⟨j0, j4, below_dr (Below.refl _ _)⟩ | assumption | exact ⟨keepC hb j0, keepC hb j4, hb⟩)
        (first | (go_at_call 26; refine (HNY.out _).mono ?_; rintro e w6 ⟨rfl, hb0⟩; have hb : Below w5.heap.size w5 w6 := below_t (below_dr (Below.refl w5.heap.size w5)) hb0; clear hb0))
      have H6 := Lib.hid (below_t H5.out hb)
      clear hb j0 j4
      go_wp2
      go_roundw
      case rel => exact ⟨m + 1, by go_num, by omega, by omega, H6⟩
      case measure => simp [intOf]; omega
    · go_wp2_with fail
      refine (HCK.out _ HW.out.below).mono ?_
      rintro e w3 ⟨rfl, hb⟩
      have H3 := Lib.hid (HW.out.call hb)
      clear hb b0 b1 b2 b3 b4 b5
      by_cases h0 : ce = 0
      · subst h0
        obtain ⟨hr512, hrule⟩ := HRL.out (by simp)
        have HRULE := Lib.hid hrule
        have HCQ' := Lib.hid (HCQ.out (by simp))
        have HEQ' := Lib.hid (HEQ.out (by simp))
        obtain ⟨b0, b1, b2, b3, b4, b5⟩ := (box6 H3.out.ebox).1
        clear hrule HRL HCQ HEQ HCK HB
        go_upto_region 15 with (fail)
        have hQ2 : w.heap.size + 2 ≤ w3.heap.size := by have := (Array.getElem?_eq_some_iff.1 H3.out.dbox).1; omega
        have HQ0 := Lib.hid (show NmS w (.cells #[.string ar, .int .i64 fk, .int .u64 fd, .int .i64 dk, .int .u64 dd, .slice A rs.length cap] 29 (0, 0)) (.cells #[.int .u32 d.nr, .int .u32 d.arch, .int .u64 d.ip, .int .u64 d.a0, .int .u64 d.a1, .int .u64 d.a2, .int .u64 d.a3, .int .u64 d.a4, .int .u64 d.a5] 34 (0, 0)) w3.heap.size ar fk fd dk dd [] (.slice none 0 0) (w3.alloc (.cells #[.string ar, .int .i64 fk, .int .u64 fd, .int .i64 dk, .int .u64 dd, .slice none 0 0] 29)) from
          ⟨H3.out.alloc _, heap_nwT _ _, World.ownsRow_nil _ _ _ _, (by intro r hr; cases hr), hQ2⟩)
        obtain ⟨Q, hQ⟩ : ∃ Q, Q = w3.heap.size := ⟨_, rfl⟩
        rw [← hQ] at HQ0 ⊢
        generalize w3.alloc (.cells #[.string ar, .int .i64 fk, .int .u64 fd, .int .i64 dk, .int .u64 dd, .slice none 0 0] 29) = wq at HQ0 ⊢
        clear b0 b1 b2 b3 b4 b5 hQ hQ2 H3 HW H2 H1 HS HNM HRI HR3
        obtain ⟨wo1, hwo1⟩ : ∃ wo1 : World, wo1 = wr := ⟨_, rfl⟩
        clear hwo1
        go_wp2_with fail
        go_loopw [15] (fun i wr => ∃ (n : Nat) (qs : List RuA) (v : Value), i = .int .i64 n ∧ n ≤ rs.length ∧ Hid (qs.length = n) ∧ Hid (NmS w (.cells #[.string ar, .int .i64 fk, .int .u64 fd, .int .i64 dk, .int .u64 dd, .slice A rs.length cap] 29 (0, 0)) (.cells #[.int .u32 d.nr, .int .u32 d.arch, .int .u64 d.ip, .int .u64 d.a0, .int .u64 d.a1, .int .u64 d.a2, .int .u64 d.a3, .int .u64 d.a4, .int .u64 d.a5] 34 (0, 0)) Q ar fk fd dk dd qs v wr) ∧ Hid (qs.map RuA.strip = ((rs.take n).map (numRule ar)).map RuA.strip)) (fun i _ => rs.length - (intOf i).toNat)
        case atStart => exact ⟨0, [], _, rfl, by omega, Lib.hid rfl, HQ0, Lib.hid rfl⟩
        case round =>
          obtain ⟨n, qs, v, rfl, hn, HQL, HQ, HST⟩ := hrel
          clear HQ0
          obtain ⟨b0, b1, b2, b3, b4, b5⟩ := (box6 HQ.out.hd.ebox).1
          rcases Nat.lt_or_ge n rs.length with hlt | hge
          · have hlt' : (n : Int) < rs.length := by omega
            obtain ⟨⟨xA, xcap, cs, ⟨xo, xeA, xc, xl, xf, xm, xr, xv⟩, xdk, xdd⟩, hy⟩ : ∃ y, rs[n]? = some y := ⟨_, List.getElem?_eq_getElem hlt⟩
            have HY := Lib.hid hy
            have hmem := List.mem_of_getElem? hy
            obtain ⟨b, off, rfl, hbb, i0', i1', i2, i3, i4, i5, i6, i7, i8⟩ := (HROW.out.keep (N' := N) (fun b hb hl => ⟨hb, HQ.out.hd.below.block b hl⟩) (by decide)).rule hy
            have hok := HRS.out _ hmem
            have hca := ruleP_calls (HRULE.out _ hmem)
            have hcl := calls_len hok.nrs hca
            have HCA := Lib.hid (callsP_all hca)
            have hinr := HALL.out _ hmem
            obtain ⟨hcalls, hwhen⟩ := hinr
            dsimp only at hcalls hwhen hcl
            have HCALLS := Lib.hid hcalls
            have HWHEN := Lib.hid hwhen
            have HNRS := Lib.hid hok.nrs
            clear hy hmem hok hca hcalls hwhen
            go_upto_region 20 with (fail)
            have HI0 := Lib.hid (show NmI wr (.slice none 0 0) [] [.int .i64 xo, .slice xeA xl.length xc, .int .i64 xf, .int .u64 xm, .int .i64 xr, .int .u64 xv, .int .i64 xdk, .int .u64 xdd] (wr.alloc (.cells #[.slice none 0 0, .int .i64 xo, .slice xeA xl.length xc, .int .i64 xf, .int .u64 xm, .int .i64 xr, .int .u64 xv, .int .i64 xdk, .int .u64 xdd] 51)) from ⟨below1 wr _, heap_nwT wr _, World.ownsRow_nil _ _ _ _⟩)
            clear b0 b1 b2 b3 b4 b5 i0' i1' i2 i3 i4 i5 i6 i7 i8 hbb
            obtain ⟨wo, rfl⟩ : ∃ wo : World, wo = wr := ⟨_, rfl⟩
            generalize wo.alloc (.cells #[.slice none 0 0, .int .i64 xo, .slice xeA xl.length xc, .int .i64 xf, .int .u64 xm, .int .i64 xr, .int .u64 xv, .int .i64 xdk, .int .u64 xdd] 51) = wi at HI0 ⊢
            go_wp2_with fail
            go_loopw [17] (fun i wr => ∃ (k : Nat) (c2 : List CallP) (u : Value), i = .int .i64 k ∧ k ≤ cs.length ∧ Hid (NmI wo u c2 [.int .i64 xo, .slice xeA xl.length xc, .int .i64 xf, .int .u64 xm, .int .i64 xr, .int .u64 xv, .int .i64 xdk, .int .u64 xdd] wr) ∧ Hid (c2 = (cs.take k).map (numCall ar))) (fun i _ => cs.length - (intOf i).toNat)
            case atStart => exact ⟨0, [], _, rfl, by omega, HI0, Lib.hid rfl⟩
            case round =>
              obtain ⟨k, c2, u, rfl, hk, HI, HC2⟩ := hrel
              clear HI0
              have HQ2 := Lib.hid (HQ.out.call HI.out.below)
              obtain ⟨b0, b1, b2, b3, b4, b5⟩ := (box6 HQ2.out.hd.ebox).1
              obtain ⟨b', off', he, hbb, i0', i1', i2, i3, i4, i5, i6, i7, i8⟩ := (HROW.out.keep (N' := N) (fun b hb hl => ⟨hb, HQ2.out.hd.below.block b hl⟩) (by decide)).rule HY.out
              injection he with he
              injection he with he1 he2 _
              subst he1 he2
              clear i1' i2 i3 i4 i5 i6 i7 i8
              have hc2l : c2.length ≤ 4294967296 := by rw [HC2.out]; simp; omega
              rcases Nat.lt_or_ge k cs.length with hlt2 | hge2
              · have hlt2' : (k : Int) < cs.length := by omega
                obtain ⟨⟨yn, yr⟩, hyc⟩ : ∃ y, cs[k]? = some y := ⟨_, List.getElem?_eq_getElem hlt2⟩
                have HYC := Lib.hid hyc
                obtain ⟨cb, co, rfl, hcb, j0, j1⟩ := (HCALLS.out.keep (N' := N) (fun b hb hl => ⟨hb, HQ2.out.hd.below.block b hl⟩) (by decide)).call hyc
                have hnr := HCA.out _ (List.mem_of_getElem? hyc)
                by_cases hn : yn.toList = []
                · have HE : Hid (numCall ar ⟨yn, yr⟩ = ⟨yn, yr⟩) := Lib.hid (by unfold numCall; rw [if_pos (by rw [← ByteArray.toList_eq]; exact hn)])
                  have hn2 : yn.toList.isEmpty = true := by simp [hn]
                  clear hyc hnr hn
                  go_upto_region 29 with (fail)
                  have HW5 := Lib.hid (And.intro (below1 wr (.cells #[.string yn, .int .u64 yr] 68)) (heap_nwT wr (.cells #[.string yn, .int .u64 yr] 68)))
                  obtain ⟨CB, hCB⟩ : ∃ CB, CB = wr.heap.size := ⟨_, rfl⟩
                  rw [← hCB] at HW5 ⊢
                  obtain ⟨w5, hw5⟩ : ∃ w5, w5 = wr.alloc (.cells #[.string yn, .int .u64 yr] 68) := ⟨_, rfl⟩
                  rw [← hw5] at HW5 ⊢
                  clear hw5 b0 b1 b2 b3 b4 b5 i0' j0 j1 hn2
                  have HW5' : Hid (Below wr.heap.size wr w5 ∧ w5.heap[CB]? = some (.cells #[.string yn, .int .u64 yr] 68 (0, 0))) := Lib.hid (by have := HW5.out; rwa [hCB] at this ⊢)
                  clear HW5 hCB
                  have HW5 := Lib.hid HW5'.out
                  clear HW5'
                  have HI5 := Lib.hid (HI.out.call HW5.out.1)
                  obtain ⟨c0, c1, -, -⟩ := box2R HW5.out.2
                  obtain ⟨uA, uc, rfl⟩ := own_slc HI5.out.own
                  obtain ⟨p0, p1, p2, p3, p4, p5, p6, p7, p8⟩ := box9R (show w5.heap[wo.heap.size]? = some (.cells #[.slice uA c2.length uc, .int .i64 xo, .slice xeA xl.length xc, .int .i64 xf, .int .u64 xm, .int .i64 xr, .int .u64 xv, .int .i64 xdk, .int .u64 xdd] 51 (0, 0)) from HI5.out.box)
                  have hX5 : wo.heap.size < w5.heap.size := (Array.getElem?_eq_some_iff.1 HI5.out.box).1
                  go_wp2_with (at_builtin; refine wpList_app rfl (.tmp 125) (.tmp 127) 49 rfl (wo.heap.size + 1) 68 i1 _ 2 24 Try.underlying49 HI1.out.1 HI1.out.2.1 HI1.out.2.2.1 HI1.out.2.2.2 rfl (by decide) (.slice uA c2.length uc) c2.length (cellsC c2) rfl (HI5.out.own.alloc _) (some ⟨w5.heap.size, 0, none⟩) (w5.heap.size + 1) 1 1 (CallP.cells ⟨yn, yr⟩) rfl (fun h => by cases h) (reads_new w5 _ _ 2 1 _ rfl rfl) (CallP.cells_one _) (by simp only [maxLen]; omega) (by omega) (by simp; omega) ?_; intro v2 w6 hown2 hg2 _; have hbx := grown_box hg2 (alloc_box HI5.out.box _) (fun e => by have := own_geT HI5.out.own _ e; omega); obtain ⟨gg, cg, hv, -, -⟩ := hown2.form (by omega); subst hv; have HM := Lib.hid (NmI.more HI5.out hown2 hg2); have s0 := (box9R (show w6.heap[wo.heap.size]? = some (.cells #[.slice uA c2.length uc, .int .i64 xo, .slice xeA xl.length xc, .int .i64 xf, .int .u64 xm, .int .i64 xr, .int .u64 xv, .int .i64 xdk, .int .u64 xdd] 51 (0, 0)) from hbx)).1; have sf := frz9 hbx 0; have hl6 : wo.heap.size < w6.heap.size := (Array.getElem?_eq_some_iff.1 hbx).1; clear hown2 hg2 hbx)
                  go_roundw
                  case rel => exact ⟨k + 1, _, _, by go_num, by omega, HM, Lib.hid (by rw [HC2.out, take_succ_map _ HYC.out, HE.out])⟩
                  case measure => simp [intOf]; omega
                · have hnn : yn.data.toList ≠ [] := by rw [← ByteArray.toList_eq]; exact hn
                  have HE : Hid (numCall ar ⟨yn, yr⟩ = ⟨⟨#[]⟩, (numP ar yn).1⟩) := Lib.hid (by unfold numCall; rw [if_neg hnn])
                  have hn2 : yn.toList.isEmpty = false := by simpa using hn
                  have hok2 : (numP ar yn).2 = true := by unfold nrP at hnr; rw [if_neg hnn] at hnr; simp at hnr; exact hnr.1
                  have hrg := numP_range ar yn
                  have HNX := Lib.hid (fun w => HNU.out yn w)
                  rw [hok2] at HNX
                  obtain ⟨nn, hnn2⟩ : ∃ nn, nn = (numP ar yn).1 := ⟨_, rfl⟩
                  rw [← hnn2] at HNX HE hrg
                  obtain ⟨hr0, hr1⟩ := hrg
                  clear hyc hnr hn hnn hok2 hnn2
                  have hwl : w.heap.size < wr.heap.size := (Array.getElem?_eq_some_iff.1 HQ2.out.hd.ebox).1
                  go_wp2_with fail
                  refine (HNX.out _).mono ?_
                  rintro e w4 ⟨rfl, hb⟩
                  have HW4 := Lib.hid (And.intro (below_t (below1 wr (.cells #[.string yn, .int .u64 yr] 68)) hb) (keepH hb (heap_nwT wr (.cells #[.string yn, .int .u64 yr] 68))))
                  obtain ⟨c0, c1, f0, f1⟩ := box2R HW4.out.2
                  clear hb b0 b1 b2 b3 b4 b5 i0' j0 j1 hn2
                  go_upto_region 29 with (fail)
                  have HW5 : Hid (Below wr.heap.size wr ((w4.setCell ⟨wr.heap.size, 0, none⟩ (.string ⟨#[]⟩)).setCell ⟨wr.heap.size, 1, none⟩ (.int .u64 nn)) ∧ ((w4.setCell ⟨wr.heap.size, 0, none⟩ (.string ⟨#[]⟩)).setCell ⟨wr.heap.size, 1, none⟩ (.int .u64 nn)).heap[wr.heap.size]? = some (.cells #[.string ⟨#[]⟩, .int .u64 nn] 68 (0, 0))) :=
                    Lib.hid ⟨(HW4.out.1.setCell (show wr.heap.size ≤ wr.heap.size from Nat.le_refl _) _).setCell (show wr.heap.size ≤ wr.heap.size from Nat.le_refl _) _, set2X HW4.out.2 _ _⟩
                  generalize (w4.setCell ⟨wr.heap.size, 0, none⟩ (.string ⟨#[]⟩)).setCell ⟨wr.heap.size, 1, none⟩ (.int .u64 nn) = w5 at HW5 ⊢
                  clear c0 c1 f0 f1 hr0 hr1
                  have HI5 := Lib.hid (HI.out.call HW5.out.1)
                  obtain ⟨c0, c1, -, -⟩ := box2R HW5.out.2
                  obtain ⟨uA, uc, rfl⟩ := own_slc HI5.out.own
                  obtain ⟨p0, p1, p2, p3, p4, p5, p6, p7, p8⟩ := box9R (show w5.heap[wo.heap.size]? = some (.cells #[.slice uA c2.length uc, .int .i64 xo, .slice xeA xl.length xc, .int .i64 xf, .int .u64 xm, .int .i64 xr, .int .u64 xv, .int .i64 xdk, .int .u64 xdd] 51 (0, 0)) from HI5.out.box)
                  have hX5 : wo.heap.size < w5.heap.size := (Array.getElem?_eq_some_iff.1 HI5.out.box).1
                  go_wp2_with (at_builtin; refine wpList_app rfl (.tmp 125) (.tmp 127) 49 rfl (wo.heap.size + 1) 68 i1 _ 2 24 Try.underlying49 HI1.out.1 HI1.out.2.1 HI1.out.2.2.1 HI1.out.2.2.2 rfl (by decide) (.slice uA c2.length uc) c2.length (cellsC c2) rfl (HI5.out.own.alloc _) (some ⟨w5.heap.size, 0, none⟩) (w5.heap.size + 1) 1 1 (CallP.cells ⟨⟨#[]⟩, nn⟩) rfl (fun h => by cases h) (reads_new w5 _ _ 2 1 _ rfl rfl) (CallP.cells_one _) (by simp only [maxLen]; omega) (by omega) (by simp; omega) ?_; intro v2 w6 hown2 hg2 _; have hbx := grown_box hg2 (alloc_box HI5.out.box _) (fun e => by have := own_geT HI5.out.own _ e; omega); obtain ⟨gg, cg, hv, -, -⟩ := hown2.form (by omega); subst hv; have HM := Lib.hid (NmI.more HI5.out hown2 hg2); have s0 := (box9R (show w6.heap[wo.heap.size]? = some (.cells #[.slice uA c2.length uc, .int .i64 xo, .slice xeA xl.length xc, .int .i64 xf, .int .u64 xm, .int .i64 xr, .int .u64 xv, .int .i64 xdk, .int .u64 xdd] 51 (0, 0)) from hbx)).1; have sf := frz9 hbx 0; have hl6 : wo.heap.size < w6.heap.size := (Array.getElem?_eq_some_iff.1 hbx).1; clear hown2 hg2 hbx)
                  go_roundw
                  case rel => exact ⟨k + 1, _, _, by go_num, by omega, HM, Lib.hid (by rw [HC2.out, take_succ_map _ HYC.out, HE.out])⟩
                  case measure => simp [intOf]; omega
              · obtain rfl : k = cs.length := by omega
                obtain ⟨uA, uc, rfl⟩ := own_slc HI.out.own
                obtain ⟨vA, vc, rfl⟩ := own_slc HQ2.out.own
                obtain ⟨p0, p1, p2, p3, p4, p5, p6, p7, p8⟩ := box9R (show wr.heap[wo.heap.size]? = some (.cells #[.slice uA c2.length uc, .int .i64 xo, .slice xeA xl.length xc, .int .i64 xf, .int .u64 xm, .int .i64 xr, .int .u64 xv, .int .i64 xdk, .int .u64 xdd] 51 (0, 0)) from HI.out.box)
                obtain ⟨q0, q1, q2, q3, q4, q5⟩ := (box6 HQ2.out.qbox).1
                have HX := Lib.hid (show RuA.In wr (fun g => g < w.heap.size ∨ wo.heap.size ≤ g) ⟨uA, uc, c2, .mk xo xeA xc xl xf xm xr xv, xdk, xdd⟩ from
                  ⟨RowN.of_own HI.out.own (fun g _ hg => Or.inr (by omega)), HWHEN.out.keep (fun b hb hl => ⟨Or.inl hl, HQ2.out.hd.below.block b hl⟩)⟩)
                have hql : qs.length ≤ 512 := by have := HQL.out; omega
                have hQ6 : Q < wr.heap.size := HQ2.out.lt
                go_wp2_with (at_builtin; refine wpList_app_at rfl (.tmp 131) (.tmp 133) 27 rfl (Q + 1) 51 i0 _ 9 104 Try.underlying27 HI0'.out.1 HI0'.out.2.1 HI0'.out.2.2.1 HI0'.out.2.2.2 rfl (by decide) (.slice vA qs.length vc) qs.length (cellsU qs) rfl (own_alloc HQ2.out.own _) ⟨wr.heap.size, 0, none⟩ 1 1 (RuA.cells ⟨uA, uc, c2, .mk xo xeA xc xl xf xm xr xv, xdk, xdd⟩) rfl rfl (new_at wr _ _) (RuA.cells_one _) (by simp only [maxLen]; omega) (by omega) (by simp; omega) ?_; intro v2 w6 hown2 hg2 hat2; have hbx := grown_box hg2 (alloc_box HQ2.out.qbox _) (fun e => by have := own_geT HQ2.out.own _ e; omega); obtain ⟨gg, cg, hv, -, -⟩ := hown2.form (by omega); subst hv; have HM := Lib.hid (NmS.more HQ.out HI.out.below HX.out hown2 hg2 hat2); have s5 := (box6 hbx).1.2.2.2.2.2; have sf := (box6 hbx).2.2.2.2.2.2; have hl6 : Q < w6.heap.size := (Array.getElem?_eq_some_iff.1 hbx).1; clear hown2 hg2 hbx hat2)
                go_roundw
                case rel => exact ⟨n + 1, _, _, by go_num, by omega, Lib.hid (by have := HQL.out; simp; omega), HM, Lib.hid (by
                  rw [List.map_append, HST.out, take_succ_map _ HY.out, List.map_append]
                  simp only [List.map_cons, List.map_nil, numRule, RuA.strip]
                  rw [HC2.out, List.take_length])⟩
                case measure => simp [intOf]; omega
          · obtain rfl : n = rs.length := by omega
            obtain ⟨vA, vc, rfl⟩ := own_slc HQ.out.own
            obtain ⟨q0, q1, q2, q3, q4, q5⟩ := (box6 HQ.out.qbox).1
            have HPL := Lib.hid HQ.out.pol
            have HSQ : Hid (PolA.strip ⟨ar, fk, fd, dk, dd, vA, vc, qs⟩ = (numPol ⟨ar, fk, fd, dk, dd, A, cap, rs⟩).strip) := Lib.hid (by
              have := HST.out
              rw [List.take_length] at this
              simp only [PolA.strip, numPol]
              rw [this])
            have HC1 := Lib.hid (HCQ'.out _ ⟨ar, fk, fd, dk, dd, vA, vc, qs⟩ wr HSQ.out HPL.out)
            dsimp only at HC1
            go_wp2_with fail
            refine HC1.out.mono ?_
            rintro e w5 ⟨rfl, hb⟩
            have H5 := Lib.hid (HQ.out.call hb)
            clear hb q0 q1 q2 q3 q4 q5 b0 b1 b2 b3 b4 b5
            obtain ⟨b0, b1, b2, b3, b4, b5⟩ := (box6 H5.out.hd.ebox).1
            obtain ⟨d0, d1, d2, d3, d4, d5, d6, d7, d8⟩ := dcl (d := d) H5.out.hd.dbox
            obtain ⟨q0, q1, q2, q3, q4, q5⟩ := (box6 H5.out.qbox).1
            have HPL5 := Lib.hid H5.out.pol
            have HE2 := Lib.hid (fun W (hb : Below w5.heap.size w5 W) => HEQ'.out _ ⟨ar, fk, fd, dk, dd, vA, vc, qs⟩ W HSQ.out (HPL5.out.below hb))
            dsimp only at HE2
            have HE1 := Lib.hid (fun W (hb : Below w5.heap.size w5 W) => HEV.out W (below_t H5.out.hd.below hb))
            have HK := Lib.hid (show ∀ W, Below w5.heap.size w5 W → (W.cell? ⟨w.heap.size, 0, none⟩ = some (.string ar) ∧ W.cell? ⟨w.heap.size, 1, none⟩ = some (.int .i64 fk) ∧ W.cell? ⟨w.heap.size, 2, none⟩ = some (.int .u64 fd) ∧ W.cell? ⟨w.heap.size, 3, none⟩ = some (.int .i64 dk) ∧ W.cell? ⟨w.heap.size, 4, none⟩ = some (.int .u64 dd) ∧ W.cell? ⟨w.heap.size, 5, none⟩ = some (.slice A rs.length cap)) ∧ (W.cell? ⟨w.heap.size + 1, 0, none⟩ = some (.int .u32 d.nr) ∧ W.cell? ⟨w.heap.size + 1, 1, none⟩ = some (.int .u32 d.arch) ∧ W.cell? ⟨w.heap.size + 1, 2, none⟩ = some (.int .u64 d.ip) ∧ W.cell? ⟨w.heap.size + 1, 3, none⟩ = some (.int .u64 d.a0) ∧ W.cell? ⟨w.heap.size + 1, 4, none⟩ = some (.int .u64 d.a1) ∧ W.cell? ⟨w.heap.size + 1, 5, none⟩ = some (.int .u64 d.a2) ∧ W.cell? ⟨w.heap.size + 1, 6, none⟩ = some (.int .u64 d.a3) ∧ W.cell? ⟨w.heap.size + 1, 7, none⟩ = some (.int .u64 d.a4) ∧ W.cell? ⟨w.heap.size + 1, 8, none⟩ = some (.int .u64 d.a5)) ∧ (W.cell? ⟨Q, 0, none⟩ = some (.string ar) ∧ W.cell? ⟨Q, 1, none⟩ = some (.int .i64 fk) ∧ W.cell? ⟨Q, 2, none⟩ = some (.int .u64 fd) ∧ W.cell? ⟨Q, 3, none⟩ = some (.int .i64 dk) ∧ W.cell? ⟨Q, 4, none⟩ = some (.int .u64 dd) ∧ W.cell? ⟨Q, 5, none⟩ = some (.slice vA qs.length vc)) ∧ Below w5.heap.size w5 W from fun W hb => ⟨⟨keepC hb b0, keepC hb b1, keepC hb b2, keepC hb b3, keepC hb b4, keepC hb b5⟩, ⟨keepC hb d0, keepC hb d1, keepC hb d2, keepC hb d3, keepC hb d4, keepC hb d5, keepC hb d6, keepC hb d7, keepC hb d8⟩, ⟨keepC hb q0, keepC hb q1, keepC hb q2, keepC hb q3, keepC hb q4, keepC hb q5⟩, hb⟩)
            clear b0 b1 b2 b3 b4 b5 d0 d1 d2 d3 d4 d5 d6 d7 d8 q0 q1 q2 q3 q4 q5
            go_wp2_with fail
            go_region_held3 (fun W => (W.cell? ⟨w.heap.size, 0, none⟩ = some (.string ar) ∧ W.cell? ⟨w.heap.size, 1, none⟩ = some (.int .i64 fk) ∧ W.cell? ⟨w.heap.size, 2, none⟩ = some (.int .u64 fd) ∧ W.cell? ⟨w.heap.size, 3, none⟩ = some (.int .i64 dk) ∧ W.cell? ⟨w.heap.size, 4, none⟩ = some (.int .u64 dd) ∧ W.cell? ⟨w.heap.size, 5, none⟩ = some (.slice A rs.length cap)) ∧ (W.cell? ⟨w.heap.size + 1, 0, none⟩ = some (.int .u32 d.nr) ∧ W.cell? ⟨w.heap.size + 1, 1, none⟩ = some (.int .u32 d.arch) ∧ W.cell? ⟨w.heap.size + 1, 2, none⟩ = some (.int .u64 d.ip) ∧ W.cell? ⟨w.heap.size + 1, 3, none⟩ = some (.int .u64 d.a0) ∧ W.cell? ⟨w.heap.size + 1, 4, none⟩ = some (.int .u64 d.a1) ∧ W.cell? ⟨w.heap.size + 1, 5, none⟩ = some (.int .u64 d.a2) ∧ W.cell? ⟨w.heap.size + 1, 6, none⟩ = some (.int .u64 d.a3) ∧ W.cell? ⟨w.heap.size + 1, 7, none⟩ = some (.int .u64 d.a4) ∧ W.cell? ⟨w.heap.size + 1, 8, none⟩ = some (.int .u64 d.a5)) ∧ (W.cell? ⟨Q, 0, none⟩ = some (.string ar) ∧ W.cell? ⟨Q, 1, none⟩ = some (.int .i64 fk) ∧ W.cell? ⟨Q, 2, none⟩ = some (.int .u64 fd) ∧ W.cell? ⟨Q, 3, none⟩ = some (.int .i64 dk) ∧ W.cell? ⟨Q, 4, none⟩ = some (.int .u64 dd) ∧ W.cell? ⟨Q, 5, none⟩ = some (.slice vA qs.length vc)) ∧ Below w5.heap.size w5 W)
              (first | exact HK.out _ (below_dr (Below.refl _ _)) | exact HK.out _ hbE | exact HK.out _ hbP | exact HK.out _ hbQ | assumption)
              (first
                | (have _t := hbP; go_at_call 12; ((with_reducible refine (HE2.out _ hbP).mono ?_); rintro e w7 ⟨rfl, hb0⟩); have hbE : Below w5.heap.size w5 w7 := below_t hbP hb0; clear hb0)
                | (have _t := hbQ; go_at_call 12; ((with_reducible refine (HE1.out _ hbQ).mono ?_); rintro e w7 ⟨rfl, hb0⟩); have hbE : Below w5.heap.size w5 w7 := below_t hbQ hb0; clear hb0)
                | (go_at_call 12; ((with_reducible refine (HE1.out _ (below_dr (Below.refl _ _))).mono ?_); rintro e w6 ⟨rfl, hb0⟩); have hbP : Below w5.heap.size w5 w6 := below_t (below_dr (Below.refl w5.heap.size w5)) hb0; clear hb0)
                | (go_at_call 12; ((with_reducible refine (HE2.out _ (below_dr (Below.refl _ _))).mono ?_); rintro e w6 ⟨rfl, hb0⟩); have hbQ : Below w5.heap.size w5 w6 := below_t (below_dr (Below.refl w5.heap.size w5)) hb0; clear hb0))
            all_goals (
              have HF := Lib.hid (below_t H5.out.hd.below hbE)
              go_wp2
              go_ret
              exact ⟨rfl, HF.out⟩)
      · have h1 : (ce != 0) = true := by simpa using h0
        clear h0
        go_wp2
        go_ret
        exact ⟨rfl, H3.out.below⟩
/-! ### the row of SemNamed -/
set_option maxRecDepth 100000 in
theorem SemNamed_lifted (os : Os) (started : os.Started) (H : Type) (enc : TypeId × Value → H) :
    ReturnsInHanded {} Try.checked os 9 .any (Rows.semNamedSpec.pre6 enc Try.prog Try.f9 Rows.semNamedRow.domain false) (Rows.semNamedSpec.post enc Try.prog Try.f9 false true false false) := by
  refine returnsInHanded_of_change_sized (C := Try.checked) ownNone started (by kernel_rfl) Try.func9
    (ChangeSpec.witness6 (enc := enc) (C := Try.checked) false ⟨#[], #[.agg #[.string ⟨#[]⟩, .int .i64 0, .int .u64 0, .int .i64 0, .int .u64 0, .slice none 0 0], .agg #[.int .u32 0, .int .u32 0, .int .u64 0, .int .u64 0, .int .u64 0, .int .u64 0, .int .u64 0, .int .u64 0, .int .u64 0]], []⟩ 8 (by kernel_rfl) (by kernel_rfl) (by kernel_rfl) (by kernel_rfl)) ?_
  intro W base args ds gs before hval0 hW hcnd hsz0 _
  have hsz : (DataW.weightsEach Try.prog (Try.f9.params.toList ++ Rows.semNamedSpec.plain.varTypes Try.prog) (ds ++ gs)).all (· ≤ reachBytes) = true := hsz0
  have hval : ∀ (j : Nat) t v, Try.f9.params[j]? = some t → args[j]? = some v → Value.okWide Try.prog W .any base t v := hval0
  have hW' := hW
  obtain ⟨p, q, hA0, hV, rfl, hfz, hnd⟩ := hW
  have hA : DataW.TrodAll enc Try.prog W 0 (fun _ => true) true Try.f9.params.toList args.toList ds p := hA0
  rw [Try.params9] at hA hval hsz
  obtain ⟨v0, vs0, d0, ds0, p0, q0, hargs, rfl, rfl, h0, r0⟩ := trodAll_cons hA
  obtain ⟨v1, vs1, d1, ds1, p1, q1, rfl, rfl, rfl, h1, r1⟩ := trodAll_cons r0
  obtain ⟨rfl, rfl, rfl⟩ := trodAll_nil r1
  obtain rfl : args = #[v0, v1] := by cases args; simp_all
  obtain ⟨rfl, rfl⟩ := trodVars_none hV
  obtain ⟨x0, rfl, hin0, hok0, hsm0⟩ := open_policy (hval 0 29 v0 rfl rfl) h0
  have k0 := h0
  have lt0 : ∀ x ∈ p0, x.block < W.heap.size := by obtain ⟨m, hm⟩ := k0; exact DataW.trod_lt m _ _ _ hm
  obtain ⟨x1, rfl⟩ := open_data7 (hval 1 34 v1 rfl rfl) h1
  have k1 := h1
  have lt1 : ∀ x ∈ p1, x.block < W.heap.size := by obtain ⟨m, hm⟩ := k1; exact DataW.trod_lt m _ _ _ hm
  clear hA0 hval0 hsz0 hsz
  refine (SemNamed_w x0 x1 W hin0 hok0).mono fun e W' ⟨he, bel⟩ => ?_
  subst he
  exact ⟨_, rfl, _, _, _, [], _, [], hW', trodAll_mk1 (shut_bool Try.underlying4 _), (trodAll_cons_mk (Below.trod laidOutB_ (by kernel_rfl) (of_decide_eq_true (by kernel_rfl)) k0 bel lt0) (trodAll_cons_mk (Below.trod laidOutB_ (by kernel_rfl) (of_decide_eq_true (by kernel_rfl)) k1 bel lt1) trodAll_mk0)), rfl, bel.frame _, fun h => by cases h⟩
theorem SemNamed_holds : Rows.SemNamedSaid :=
  OpenClaim.holds_of_wide 9 Try.f9 rfl rfl rfl rfl rfl rfl rfl ⟨rfl, rfl, rfl, rfl, rfl⟩ rfl rfl rfl rfl rfl (by kernel_rfl) Try.func9 (by kernel_rfl)
    (of_decide_eq_true (by kernel_rfl)) (by unfold Func.isWrapper; first | (rw [if_pos (by decide +kernel)]; kernel_rfl) | (rw [if_neg (by decide +kernel)]; exact ⟨rfl, rfl⟩))
    (fun os started H enc _ => SemNamed_lifted os started H enc)
#print axioms SemNamed_holds
end Go.Proofs.Ytebkbcpnjknkjaa
