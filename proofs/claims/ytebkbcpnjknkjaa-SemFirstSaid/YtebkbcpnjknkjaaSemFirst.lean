/- SemFirst: of any policy, any place, any data and any other data: a rule behind one that has all its calls, and always holds, changes nothing; nor do data that nobody looks at. No conditions. -/
import Derived.Test.YtebkbcpnjknkjaaSemFs
import Derived.Test.YtebkbcpnjknkjaaOpenX
set_option linter.unusedVariables false
set_option linter.unusedSimpArgs false
set_option maxRecDepth 100000
namespace Go.Proofs.Ytebkbcpnjknkjaa
open Go.RowKit Go.ChangeShapes Go.WideShapes Go.Deep
def fCells (p : PolA) (t : Int) (d o : D9) : List Value := [.string p.arch, .int .i64 p.fk, .int .u64 p.fd, .int .i64 p.dk, .int .u64 p.dd, .slice p.A p.rules.length p.cap, .int .i64 t,
  .int .u32 d.nr, .int .u32 d.arch, .int .u64 d.ip, .int .u64 d.a0, .int .u64 d.a1, .int .u64 d.a2, .int .u64 d.a3, .int .u64 d.a4, .int .u64 d.a5,
  .int .u32 o.nr, .int .u32 o.arch, .int .u64 o.ip, .int .u64 o.a0, .int .u64 o.a1, .int .u64 o.a2, .int .u64 o.a3, .int .u64 o.a4, .int .u64 o.a5]
theorem first_cells {H : Type} {enc : TypeId × Value → H} {w : World} {base : Nat} {spare : Nat → Bool} {held : Bool} (n : Nat) (cs : List Value) (y : DataW H × List MemPlace) (h : DataW.trod enc Try.prog w base spare held n 54 cs = some y) :
    ∃ (p : PolA) (t : Int) (d o : D9), cs = fCells p t d o ∧ p.In w (fun b => b < w.heap.size) ∧ p.Ok ∧ -9223372036854775808 ≤ t ∧ t ≤ 9223372036854775807 := by
  obtain ⟨ys, n', rfl, hy, hlen, hyl, hf⟩ := DataW.trod_struct Try.underlying54 h
  have hl : cs.length = 25 := hlen.trans (by kernel_rfl)
  obtain ⟨z0, hz0⟩ : ∃ z, ys[0]? = some z := ⟨_, List.getElem?_eq_getElem (by rw [hyl]; decide)⟩
  obtain ⟨z1, hz1⟩ : ∃ z, ys[1]? = some z := ⟨_, List.getElem?_eq_getElem (by rw [hyl]; decide)⟩
  obtain ⟨z2, hz2⟩ : ∃ z, ys[2]? = some z := ⟨_, List.getElem?_eq_getElem (by rw [hyl]; decide)⟩
  obtain ⟨z3, hz3⟩ : ∃ z, ys[3]? = some z := ⟨_, List.getElem?_eq_getElem (by rw [hyl]; decide)⟩
  have g0 : DataW.trod enc Try.prog w base spare held n' 29 ((cs.drop 0).take (Try.prog.cellsOf 29)) = some z0 := (hf 0 _ rfl).trans hz0
  have g1 : DataW.trod enc Try.prog w base spare held n' 3 ((cs.drop 6).take (Try.prog.cellsOf 3)) = some z1 := (hf 1 _ rfl).trans hz1
  have g2 : DataW.trod enc Try.prog w base spare held n' 34 ((cs.drop 7).take (Try.prog.cellsOf 34)) = some z2 := (hf 2 _ rfl).trans hz2
  have g3 : DataW.trod enc Try.prog w base spare held n' 34 ((cs.drop 16).take (Try.prog.cellsOf 34)) = some z3 := (hf 3 _ rfl).trans hz3
  have q0 : Try.prog.cellsOf 29 = 6 := by kernel_rfl
  have q1 : Try.prog.cellsOf 3 = 1 := by kernel_rfl
  have q2 : Try.prog.cellsOf 34 = 9 := by kernel_rfl
  rw [q0] at g0
  rw [q1] at g1
  rw [q2] at g2 g3
  obtain ⟨p, e0, hin, hok, -⟩ := policy_cells _ _ _ g0
  obtain ⟨t, e1, _, w1⟩ := DataW.trod_int Try.underlying3 g1
  obtain ⟨d, e2⟩ := data_cells7 _ _ _ g2
  obtain ⟨o, e3⟩ := data_cells7 _ _ _ g3
  refine ⟨p, t, d, o, ?_, hin, hok, wf_i64 w1⟩
  have a3 : (cs.drop 16).take 9 = cs.drop 16 := List.take_of_length_le (by rw [List.length_drop]; omega)
  have a2 : cs.drop 7 = (cs.drop 7).take 9 ++ cs.drop 16 := by
    have := (List.take_append_drop 9 (cs.drop 7)).symm
    rwa [List.drop_drop] at this
  have a1 : cs.drop 6 = (cs.drop 6).take 1 ++ cs.drop 7 := by
    have := (List.take_append_drop 1 (cs.drop 6)).symm
    rwa [List.drop_drop] at this
  have a0 : cs = cs.take 6 ++ cs.drop 6 := (List.take_append_drop 6 cs).symm
  rw [List.drop_zero] at e0
  rw [a0, a1, a2, ← a3, e0, e1, e2, e3]
  rfl
theorem open_first {H : Type} {enc : TypeId × Value → H} {w : World} {base b0 : Nat} {r : Reach} {spare : Nat → Bool} {held : Bool} {v : Value} {dd : DataW H} {ps : List MemPlace} (hv : Value.okWide Try.prog w r b0 54 v) (h : DataW.Trod enc Try.prog w base spare held 54 v dd ps) :
    ∃ (p : PolA) (t : Int) (d o : D9), v = .agg (fCells p t d o).toArray ∧ p.In w (fun b => b < w.heap.size) ∧ p.Ok ∧ -9223372036854775808 ≤ t ∧ t ≤ 9223372036854775807 := by
  obtain ⟨cs, rfl, hs⟩ := okWide_struct Try.underlying54 hv
  obtain ⟨n, hn⟩ := h
  obtain ⟨p, t, d, o, hx, h1⟩ := first_cells n cs.toList _ hn
  refine ⟨p, t, d, o, ?_, h1⟩
  obtain ⟨l⟩ := cs
  simp only at hx
  rw [hx]
theorem frz9 {W : World} {g : Nat} {cs : Array Value} {t : TypeId} (h : W.heap[g]? = some (.cells cs t (0, 0))) (j : Nat) : W.frozen? ⟨g, j, none⟩ = false := by simp [World.frozen?, h]
theorem cellAt {W : World} {g : Nat} {cs : Array Value} {t : TypeId} {fr : Nat × Nat} (h : W.heap[g]? = some (.cells cs t fr)) (j : Nat) (u : Value) (hu : cs[j]? = some u) : W.cell? ⟨g, j, none⟩ = some u := by simp [World.cell?, h, hu]
set_option maxHeartbeats 6400000 in
theorem SemFirst_w (p : PolA) (t : Int) (d o : D9) (w : World) (hin : p.In w (fun b => b < w.heap.size)) (hok : p.Ok) (ht : -9223372036854775808 ≤ t ∧ t ≤ 9223372036854775807) :
    Calls Try.prog 5 #[.agg (fCells p t d o).toArray] w fun e w' => e = .returned (.bool true) ∧ Below w.heap.size w w' := by
  obtain ⟨i0, HI0⟩ : ∃ i0, Hid (Try.prog.info? 51 = some i0 ∧ i0.zero = some (.agg #[.slice none 0 0, .int .i64 0, .slice none 0 0, .int .i64 0, .int .u64 0, .int .i64 0, .int .u64 0, .int .i64 0, .int .u64 0]) ∧ i0.size = 9 ∧ i0.bytes = 104) := by
    obtain ⟨i0, hi, hz0, hz1, hz2⟩ := info_parts infoU
    exact ⟨i0, Lib.hid ⟨hi, hz0, hz1, hz2⟩⟩
  have HL := Lib.hid (fun w => lives7_c w)
  have HIN := Lib.hid (fun W (hb : Below w.heap.size w W) => hin.keep (N' := fun b => b < W.heap.size) (fun b hb' hl => ⟨by have := hb.size; omega, hb.block b hl⟩))
  have HOK := Lib.hid hok
  have HCK := Lib.hid (fun N W hb => Check_c N p W hok hb)
  obtain ⟨ce, cat, hce⟩ : ∃ a b, checkP 1099511627776 p = (a, b) := ⟨_, _, rfl⟩
  rw [hce] at HCK
  have HCE := Lib.hid hce
  unfold CheckPost at HCK
  obtain ⟨ar, fk, fd, dk, dd, A, cap, rs⟩ := p
  have HF0 := Lib.hid (heap_nwT w (.cells (fCells ⟨ar, fk, fd, dk, dd, A, cap, rs⟩ t d o).toArray 54))
  unfold PolA.val at HCK
  dsimp only at HCK
  unfold fCells at HF0 ⊢
  dsimp only at HF0 ⊢
  clear hin hok hce
  go_enter Try.func5, Try.ntmps5
  go_wp2_with fail
  refine (HL.out _).mono ?_
  rintro e w1 ⟨rfl, hb⟩
  have HW1 := Lib.hid (below_t (below1 w _) hb)
  have HF1 := Lib.hid (keepH hb HF0.out)
  clear hb
  have g := fun j u hu => cellAt HF1.out j u hu
  have g0 := g 0 _ rfl
  have g1 := g 1 _ rfl
  have g2 := g 2 _ rfl
  have g3 := g 3 _ rfl
  have g4 := g 4 _ rfl
  have g5 := g 5 _ rfl
  have g6 := g 6 _ rfl
  have g7 := g 7 _ rfl
  have g8 := g 8 _ rfl
  have g9 := g 9 _ rfl
  have g10 := g 10 _ rfl
  have g11 := g 11 _ rfl
  have g12 := g 12 _ rfl
  have g13 := g 13 _ rfl
  have g14 := g 14 _ rfl
  have g15 := g 15 _ rfl
  have g16 := g 16 _ rfl
  have g17 := g 17 _ rfl
  have g18 := g 18 _ rfl
  have g19 := g 19 _ rfl
  have g20 := g 20 _ rfl
  have g21 := g 21 _ rfl
  have g22 := g 22 _ rfl
  have g23 := g 23 _ rfl
  have g24 := g 24 _ rfl
  clear g
  have hlt1 : w.heap.size < w1.heap.size := (Array.getElem?_eq_some_iff.1 HF1.out).1
  go_upto_region 5 with (fail)
  have hok2 : ∀ r ∈ rs, r.Ok := HOK.out.rules
  obtain ⟨N, hN⟩ : ∃ N : Nat → Prop, N = fun b => b < w1.heap.size := ⟨_, rfl⟩
  have HNN := Lib.hid hN
  have HINB := Lib.hid (show ∀ W, Below w1.heap.size w1 W → PolA.In W N ⟨ar, fk, fd, dk, dd, A, cap, rs⟩ from fun W hb => (HIN.out w1 HW1.out).keep (fun b hb' hl => ⟨by rw [hN]; exact hl, hb.block b hl⟩))
  have HS0 := Lib.hid (show HD w1 (.cells #[.string ar, .int .i64 fk, .int .u64 fd, .int .i64 dk, .int .u64 dd, .slice A rs.length cap] 29 (0, 0)) (.cells d.cells.toArray 34 (0, 0)) (((w1.alloc (.cells #[.string ar, .int .i64 fk, .int .u64 fd, .int .i64 dk, .int .u64 dd, .slice A rs.length cap] 29)).alloc (.cells d.cells.toArray 34)).alloc (.cells o.cells.toArray 34)) ∧
      (((w1.alloc (.cells #[.string ar, .int .i64 fk, .int .u64 fd, .int .i64 dk, .int .u64 dd, .slice A rs.length cap] 29)).alloc (.cells d.cells.toArray 34)).alloc (.cells o.cells.toArray 34)).heap[w1.heap.size + 1 + 1]? = some (.cells o.cells.toArray 34 (0, 0)) ∧
      (((w1.alloc (.cells #[.string ar, .int .i64 fk, .int .u64 fd, .int .i64 dk, .int .u64 dd, .slice A rs.length cap] 29)).alloc (.cells d.cells.toArray 34)).alloc (.cells o.cells.toArray 34)).heap[w.heap.size]? = w1.heap[w.heap.size]? from
    ⟨(HD.start w1 _ _ _ _).alloc _, by have := heap_nwT ((w1.alloc (.cells #[.string ar, .int .i64 fk, .int .u64 fd, .int .i64 dk, .int .u64 dd, .slice A rs.length cap] 29)).alloc (.cells d.cells.toArray 34)) (.cells o.cells.toArray 34); rwa [World.size_alloc, World.size_alloc] at this,
     (Below.heap_alloc _ _ _ (by rw [World.size_alloc, World.size_alloc]; omega)).trans ((Below.heap_alloc _ _ _ (by rw [World.size_alloc]; omega)).trans (Below.heap_alloc w1 _ _ hlt1))⟩)
  unfold D9.cells at HS0
  obtain ⟨OB, hOB⟩ : ∃ OB, OB = w1.heap.size + 1 + 1 := ⟨_, rfl⟩
  rw [← hOB] at HS0 ⊢
  have HOB := Lib.hid hOB
  generalize (((w1.alloc (.cells #[.string ar, .int .i64 fk, .int .u64 fd, .int .i64 dk, .int .u64 dd, .slice A rs.length cap] 29)).alloc (.cells #[.int .u32 d.nr, .int .u32 d.arch, .int .u64 d.ip, .int .u64 d.a0, .int .u64 d.a1, .int .u64 d.a2, .int .u64 d.a3, .int .u64 d.a4, .int .u64 d.a5] 34)).alloc (.cells #[.int .u32 o.nr, .int .u32 o.arch, .int .u64 o.ip, .int .u64 o.a0, .int .u64 o.a1, .int .u64 o.a2, .int .u64 o.a3, .int .u64 o.a4, .int .u64 o.a5] 34)) = w2 at HS0 ⊢
  clear hOB hN g0 g1 g2 g3 g4 g5 g6 g7 g8 g9 g10 g11 g12 g13 g14 g15 g16 g17 g18 g19 g20 g21 g22 g23 g24
  have HRS := Lib.hid hok2
  clear hok2
  obtain ⟨b0, b1, b2, b3, b4, b5⟩ := (box6 HS0.out.1.ebox).1
  go_wp2_with fail
  refine (HCK.out N _ (HINB.out _ HS0.out.1.below)).mono ?_
  rintro e w3 ⟨rfl, hb⟩
  have H3 := Lib.hid (show HD w1 _ _ w3 ∧ w3.heap[OB]? = some _ ∧ w3.heap[w.heap.size]? = some _ from ⟨HS0.out.1.call hb, keepH hb HS0.out.2.1, (keepH hb (HS0.out.2.2.trans HF1.out))⟩)
  clear hb b0 b1 b2 b3 b4 b5
  obtain ⟨b0, b1, b2, b3, b4, b5⟩ := (box6 H3.out.1.ebox).1
  by_cases h0 : ce = 0
  · subst h0
    by_cases hr0 : rs.length = 0
    · have hr1 : ((rs.length : Int) == 0) = true := by rw [hr0]; rfl
      clear hr0
      go_wp2
      go_ret
      exact ⟨rfl, below_t HW1.out H3.out.1.below⟩
    · have hr1 : ((rs.length : Int) == 0) = false := by rw [beq_eq_false_iff_ne]; omega
      have hr2 : 0 < rs.length := by omega
      have hr3 : ¬ (rs.length : Int) = 0 := by omega
      have g6 := cellAt H3.out.2.2 6 _ rfl
      clear hr0
      go_upto_region 9 with (fail)
      have hmb : -(rs.length : Int) < t.tmod rs.length ∧ t.tmod rs.length < rs.length := ⟨Int.lt_tmod_of_pos _ (by omega), Int.tmod_lt_of_pos _ (by omega)⟩
      generalize t.tmod (rs.length : Int) = m at hmb ⊢
      obtain ⟨hm1, hm2⟩ := hmb
      have HRL := Lib.hid (check_parts (M := 1099511627776) (p := ⟨ar, fk, fd, dk, dd, A, cap, rs⟩) (by rw [HCE.out])).2.2.2
      have hrl : rs.length ≤ 512 := (check_parts (M := 1099511627776) (p := ⟨ar, fk, fd, dk, dd, A, cap, rs⟩) (by rw [HCE.out])).2.2.1
      clear g6
      go_cut [47] (fun s wc => s = .bool (decide (m < 0)) ∧ wc = w3)
      case first =>
        by_cases hm : m < 0
        · go_wp2
          go_meet
          exact ⟨by simp [hm], rfl⟩
        · go_wp2
          go_meet
          exact ⟨by simp [hm], rfl⟩
      case rest =>
       obtain ⟨rfl, rfl⟩ := hcut
       go_upto_if 47 with (fail)
       go_cut [9] (fun s wd => ∃ n : Nat, s = .int .i64 n ∧ n < rs.length ∧ wd = wc)
       case first =>
        by_cases hm : m < 0
        · go_wp2
          go_meet
          exact ⟨(-m).toNat, by rw [Int.toNat_of_nonneg (by omega)], by omega, rfl⟩
        · go_wp2
          go_meet
          exact ⟨m.toNat, by rw [Int.toNat_of_nonneg (by omega)], by omega, rfl⟩
       case rest =>
        obtain ⟨n, rfl, hnl, rfl⟩ := hcut
        have hlw : w1.heap.size < wc.heap.size := (Array.getElem?_eq_some_iff.1 H3.out.1.ebox).1
        go_upto_region 15 with (fail)
        have HQ0 := Lib.hid (show FsS w1 (.cells #[.string ar, .int .i64 fk, .int .u64 fd, .int .i64 dk, .int .u64 dd, .slice A rs.length cap] 29 (0, 0)) (.cells #[.int .u32 d.nr, .int .u32 d.arch, .int .u64 d.ip, .int .u64 d.a0, .int .u64 d.a1, .int .u64 d.a2, .int .u64 d.a3, .int .u64 d.a4, .int .u64 d.a5] 34 (0, 0)) (.cells #[.int .u32 o.nr, .int .u32 o.arch, .int .u64 o.ip, .int .u64 o.a0, .int .u64 o.a1, .int .u64 o.a2, .int .u64 o.a3, .int .u64 o.a4, .int .u64 o.a5] 34 (0, 0)) wc.heap.size ar fk fd dk dd [] (.slice none 0 0) (wc.alloc (.cells #[.string ar, .int .i64 fk, .int .u64 fd, .int .i64 dk, .int .u64 dd, .slice none 0 0] 29)) from
          ⟨H3.out.1.alloc _, alloc_box (by have := H3.out.2.1; rw [HOB.out] at this; exact this) _, heap_nwT _ _, World.ownsRow_nil _ _ _ _, (by intro r hr; cases hr), by have := (Array.getElem?_eq_some_iff.1 H3.out.2.1).1; rw [HOB.out] at this; omega⟩)
        obtain ⟨Q, hQ⟩ : ∃ Q, Q = wc.heap.size := ⟨_, rfl⟩
        rw [← hQ] at HQ0 ⊢
        generalize wc.alloc (.cells #[.string ar, .int .i64 fk, .int .u64 fd, .int .i64 dk, .int .u64 dd, .slice none 0 0] 29) = wq at HQ0 ⊢
        clear b0 b1 b2 b3 b4 b5 hQ H3 HS0 hm1 hm2 hlw m hr1 hr2 hr3 ht hlt1
        go_wp2_with fail
        go_loopw [11] (fun i wr => ∃ (i' : Nat) (qs : List RuA) (v : Value), i = .int .i64 i' ∧ i' ≤ rs.length ∧ Hid (qs = firstQ n (rs.take i')) ∧ Hid (FsS w1 (.cells #[.string ar, .int .i64 fk, .int .u64 fd, .int .i64 dk, .int .u64 dd, .slice A rs.length cap] 29 (0, 0)) (.cells #[.int .u32 d.nr, .int .u32 d.arch, .int .u64 d.ip, .int .u64 d.a0, .int .u64 d.a1, .int .u64 d.a2, .int .u64 d.a3, .int .u64 d.a4, .int .u64 d.a5] 34 (0, 0)) (.cells #[.int .u32 o.nr, .int .u32 o.arch, .int .u64 o.ip, .int .u64 o.a0, .int .u64 o.a1, .int .u64 o.a2, .int .u64 o.a3, .int .u64 o.a4, .int .u64 o.a5] 34 (0, 0)) Q ar fk fd dk dd qs v wr)) (fun i _ => rs.length - (intOf i).toNat)
        case atStart => exact ⟨0, [], _, rfl, by omega, Lib.hid (by simp [firstQ]), HQ0⟩
        case round =>
          obtain ⟨i, qs, v, rfl, hi, HQS, HQ⟩ := hrel
          clear HQ0
          have hql : qs.length ≤ 513 := by rw [HQS.out]; have := len_firstQ (n := n) (l := rs.take i); rw [List.length_take] at this; omega
          obtain ⟨b0, b1, b2, b3, b4, b5⟩ := (box6 HQ.out.hd.ebox).1
          have hl4 : w1.heap.size < wr.heap.size := (Array.getElem?_eq_some_iff.1 HQ.out.hd.ebox).1
          rcases Nat.lt_or_ge i rs.length with hlt | hge
          · have hlt' : (i : Int) < rs.length := by omega
            obtain ⟨⟨xA, xcap, cs, ⟨xo, xeA, xc, xl, xf, xm, xr, xv⟩, xdk, xdd⟩, hy⟩ : ∃ y, rs[i]? = some y := ⟨_, List.getElem?_eq_getElem hlt⟩
            have HY := Lib.hid hy
            have hmem := List.mem_of_getElem? hy
            have hpin := HINB.out wr HQ.out.hd.below
            obtain ⟨b, off, rfl, hbb, i0', i1, i2, i3, i4, i5, i6, i7, i8⟩ := hpin.rows.rule hy
            have HXW := Lib.hid (hpin.all _ hmem)
            clear hy hmem hpin
            by_cases hin : i = n
            · have hne : ((i : Int) == n) = true := by simp [hin]
              have HF := Lib.hid (firstQ_take (n := n) HY.out)
              have HF2 : Hid (firstQ n (rs.take (i + 1)) = firstQ n (rs.take i) ++ [⟨xA, xcap, cs, .mk 1 none 0 [] 0 0 0 0, xdk, xdd⟩, ⟨xA, xcap, cs, .mk xo xeA xc xl xf xm xr xv, 6, 7⟩]) := Lib.hid (by rw [HF.out, if_pos hin]; rfl)
              clear hin HF
              go_upto_region 21 with (fail)
              have H5 := Lib.hid (HQ.out.call (below1 wr (.cells #[.slice xA cs.length xcap, .int .i64 1, .slice none 0 0, .int .i64 0, .int .u64 0, .int .i64 0, .int .u64 0, .int .i64 xdk, .int .u64 xdd] 51)))
              have HB5 := Lib.hid (heap_nwT wr (.cells #[.slice xA cs.length xcap, .int .i64 1, .slice none 0 0, .int .i64 0, .int .u64 0, .int .i64 0, .int .u64 0, .int .i64 xdk, .int .u64 xdd] 51))
              have HX5 := Lib.hid (show RuA.In (wr.alloc (.cells #[.slice xA cs.length xcap, .int .i64 1, .slice none 0 0, .int .i64 0, .int .u64 0, .int .i64 0, .int .u64 0, .int .i64 xdk, .int .u64 xdd] 51)) (fun g => g < w1.heap.size) ⟨xA, xcap, cs, .mk 1 none 0 [] 0 0 0 0, xdk, xdd⟩ from
                ⟨(HXW.out.calls.keep (N' := fun g => g < w1.heap.size) (fun b hb hl => ⟨by have := HNN.out; rw [this] at hb; exact hb, Below.heap_alloc wr _ b hl⟩) (by decide)), ⟨rfl, fun h => absurd h (by decide)⟩, trivial⟩)
              have HXD := Lib.hid (show RuA.In (wr.alloc (.cells #[.slice xA cs.length xcap, .int .i64 1, .slice none 0 0, .int .i64 0, .int .u64 0, .int .i64 0, .int .u64 0, .int .i64 xdk, .int .u64 xdd] 51)) (fun g => g < w1.heap.size) ⟨xA, xcap, cs, .mk xo xeA xc xl xf xm xr xv, 6, 7⟩ from
                ⟨(HXW.out.calls.keep (N' := fun g => g < w1.heap.size) (fun b hb hl => ⟨by have := HNN.out; rw [this] at hb; exact hb, Below.heap_alloc wr _ b hl⟩) (by decide)), HXW.out.when_.keep (N' := fun g => g < w1.heap.size) (fun b hb hl => ⟨by have := HNN.out; rw [this] at hb; exact hb, Below.heap_alloc wr _ b hl⟩)⟩)
              have hQX : Q < wr.heap.size := HQ.out.lt
              have hvX : v.ownBlock ≠ some wr.heap.size := fun e => by have := own_ltT HQ.out.own _ e; omega
              obtain ⟨X, hX⟩ : ∃ X, X = wr.heap.size := ⟨_, rfl⟩
              rw [← hX] at HB5 hQX hvX ⊢
              have hXw : w1.heap.size ≤ X := by omega
              generalize wr.alloc (.cells #[.slice xA cs.length xcap, .int .i64 1, .slice none 0 0, .int .i64 0, .int .u64 0, .int .i64 0, .int .u64 0, .int .i64 xdk, .int .u64 xdd] 51) = w5 at H5 HB5 HX5 HXD ⊢
              clear b0 b1 b2 b3 b4 b5 i0' i1 i2 i3 i4 i5 i6 i7 i8 hX HXW hbb hl4
              obtain ⟨vA, vc, rfl⟩ := own_slc H5.out.own
              obtain ⟨p0, p1, p2, p3, p4, p5, p6, p7, p8⟩ := box9R HB5.out
              obtain ⟨q0, q1, q2, q3, q4, q5⟩ := (box6 H5.out.qbox).1
              have hXl : X < w5.heap.size := (Array.getElem?_eq_some_iff.1 HB5.out).1
              have hQl : Q < w5.heap.size := H5.out.lt
              go_upto_region 22 with (at_builtin; refine wpList_app_at rfl (.tmp 77) (.tmp 79) 27 rfl (Q + 1) 51 i0 _ 9 104 Try.underlying27 HI0.out.1 HI0.out.2.1 HI0.out.2.2.1 HI0.out.2.2.2 rfl (by decide) (.slice vA (qs).length vc) (qs).length (cellsU (qs)) rfl (own_alloc H5.out.own _) ⟨w5.heap.size, 0, none⟩ 1 1 (RuA.cells ⟨xA, xcap, cs, .mk 1 none 0 [] 0 0 0 0, xdk, xdd⟩) rfl rfl (new_at w5 _ _) (RuA.cells_one _) (by simp only [maxLen]; omega) (by omega) (by simp; omega) ?_; intro v2 w6 hown2 hg2 hat2; have hbx := grown_box hg2 (alloc_box H5.out.qbox _) (fun e => by have := own_geT H5.out.own _ e; omega); obtain ⟨gg, cg, hv, -, -⟩ := hown2.form (by omega); subst hv; have HM := Lib.hid (FsS.more (x := ⟨xA, xcap, cs, .mk 1 none 0 [] 0 0 0 0, xdk, xdd⟩) H5.out HX5.out hown2 hg2); have HBX2 := FsS.box (x := ⟨xA, xcap, cs, .mk 1 none 0 [] 0 0 0 0, xdk, xdd⟩) (v2 := .slice (some ⟨gg, 0, none⟩) (qs.length + 1) cg) H5.out hQX hvX hg2 HB5.out; have hvX2 : (Value.slice (some ⟨gg, 0, none⟩) (qs.length + 1) cg).ownBlock ≠ some X := (by rcases hat2 with h | h; (rw [h]; exact hvX); (rw [h, World.size_alloc]; intro e; injection e with e; omega)); have HXD2 := Lib.hid (H5.out.keepR (x := ⟨xA, xcap, cs, .mk 1 none 0 [] 0 0 0 0, xdk, xdd⟩) (v2 := .slice (some ⟨gg, 0, none⟩) (qs.length + 1) cg) hg2 HXD.out); have s5 := (box6 hbx).1.2.2.2.2.2; have sf := (box6 hbx).2.2.2.2.2.2; have hl6 : Q < w6.heap.size := (Array.getElem?_eq_some_iff.1 hbx).1; clear hown2 hg2 hbx hat2)
              have HB7 := Lib.hid HBX2
              clear p0 p1 p2 p3 p4 p5 p6 p7 p8 q0 q1 q2 q3 q4 q5 s5 sf hl6 hXl hQl HB5 H5 HQ HX5 HXD
              generalize w6.setCell ⟨Q, 5, none⟩ (.slice (some ⟨gg, 0, none⟩) _ cg) = w7 at HM HB7 HXD2 ⊢
              obtain ⟨b0, b1, b2, b3, b4, b5⟩ := (box6 HM.out.hd.ebox).1
              obtain ⟨b', off', he, hbb, i0', i1, i2, i3, i4, i5, i6, i7, i8⟩ := (HINB.out w7 HM.out.hd.below).rows.rule HY.out
              injection he with he
              injection he with he1 he2 _
              subst he1 he2
              obtain ⟨p0, p1, p2, p3, p4, p5, p6, p7, p8⟩ := box9R HB7.out
              have fb := frz9 HB7.out
              have fb0 := fb 0
              have fb1 := fb 1
              have fb2 := fb 2
              have fb3 := fb 3
              have fb4 := fb 4
              have fb5 := fb 5
              have fb6 := fb 6
              have fb7 := fb 7
              have fb8 := fb 8
              have hXl : X < w7.heap.size := (Array.getElem?_eq_some_iff.1 HB7.out).1
              clear fb
              go_upto_region 25 with (fail)
              have H9 : Hid (FsS w1 (.cells #[.string ar, .int .i64 fk, .int .u64 fd, .int .i64 dk, .int .u64 dd, .slice (some ⟨b, off, none⟩) rs.length cap] 29 (0, 0)) (.cells #[.int .u32 d.nr, .int .u32 d.arch, .int .u64 d.ip, .int .u64 d.a0, .int .u64 d.a1, .int .u64 d.a2, .int .u64 d.a3, .int .u64 d.a4, .int .u64 d.a5] 34 (0, 0)) (.cells #[.int .u32 o.nr, .int .u32 o.arch, .int .u64 o.ip, .int .u64 o.a0, .int .u64 o.a1, .int .u64 o.a2, .int .u64 o.a3, .int .u64 o.a4, .int .u64 o.a5] 34 (0, 0)) Q ar fk fd dk dd (qs ++ [(⟨xA, xcap, cs, .mk 1 none 0 [] 0 0 0 0, xdk, xdd⟩ : RuA)]) (.slice (some ⟨gg, 0, none⟩) (qs.length + 1) cg) (((((((((((w7.setCell ⟨X, 0, none⟩ (.slice xA cs.length xcap)).setCell ⟨X, 1, none⟩ (.int .i64 xo)).setCell ⟨X, 2, none⟩ (.slice xeA xl.length xc)).setCell ⟨X, 3, none⟩ (.int .i64 xf)).setCell ⟨X, 4, none⟩ (.int .u64 xm)).setCell ⟨X, 5, none⟩ (.int .i64 xr)).setCell ⟨X, 6, none⟩ (.int .u64 xv)).setCell ⟨X, 7, none⟩ (.int .i64 xdk)).setCell ⟨X, 8, none⟩ (.int .u64 xdd)).setCell ⟨X, 7, none⟩ (.int .i64 6)).setCell ⟨X, 8, none⟩ (.int .u64 7))) := Lib.hid (HM.out.put11 hQX hvX2 _ _ _ _ _ _ _ _ _ _ _)
              have HB9 : Hid ((((((((((((w7.setCell ⟨X, 0, none⟩ (.slice xA cs.length xcap)).setCell ⟨X, 1, none⟩ (.int .i64 xo)).setCell ⟨X, 2, none⟩ (.slice xeA xl.length xc)).setCell ⟨X, 3, none⟩ (.int .i64 xf)).setCell ⟨X, 4, none⟩ (.int .u64 xm)).setCell ⟨X, 5, none⟩ (.int .i64 xr)).setCell ⟨X, 6, none⟩ (.int .u64 xv)).setCell ⟨X, 7, none⟩ (.int .i64 xdk)).setCell ⟨X, 8, none⟩ (.int .u64 xdd)).setCell ⟨X, 7, none⟩ (.int .i64 6)).setCell ⟨X, 8, none⟩ (.int .u64 7)).heap[X]? = some (.cells #[.slice xA cs.length xcap, .int .i64 xo, .slice xeA xl.length xc, .int .i64 xf, .int .u64 xm, .int .i64 xr, .int .u64 xv, .int .i64 6, .int .u64 7] 51 (0, 0))) := Lib.hid (put11_box (a := .slice xA cs.length xcap) (b := .int .i64 xo) (c := .slice xeA xl.length xc) (d := .int .i64 xf) (e := .int .u64 xm) (f := .int .i64 xr) (p := .int .u64 xv) (q := .int .i64 xdk) (r := .int .u64 xdd) (s := .int .i64 6) (t := .int .u64 7) HB7.out)
              have HX9 : Hid (RuA.In (((((((((((w7.setCell ⟨X, 0, none⟩ (.slice xA cs.length xcap)).setCell ⟨X, 1, none⟩ (.int .i64 xo)).setCell ⟨X, 2, none⟩ (.slice xeA xl.length xc)).setCell ⟨X, 3, none⟩ (.int .i64 xf)).setCell ⟨X, 4, none⟩ (.int .u64 xm)).setCell ⟨X, 5, none⟩ (.int .i64 xr)).setCell ⟨X, 6, none⟩ (.int .u64 xv)).setCell ⟨X, 7, none⟩ (.int .i64 xdk)).setCell ⟨X, 8, none⟩ (.int .u64 xdd)).setCell ⟨X, 7, none⟩ (.int .i64 6)).setCell ⟨X, 8, none⟩ (.int .u64 7)) (fun g => g < w1.heap.size) ⟨xA, xcap, cs, .mk xo xeA xc xl xf xm xr xv, 6, 7⟩) := Lib.hid (HXD2.out.keep fun g h1 hgl => ⟨h1, put11_other (W := w7) (X := X) (by omega) (.slice xA cs.length xcap) (.int .i64 xo) (.slice xeA xl.length xc) (.int .i64 xf) (.int .u64 xm) (.int .i64 xr) (.int .u64 xv) (.int .i64 xdk) (.int .u64 xdd) (.int .i64 6) (.int .u64 7)⟩)
              have hq9 : (qs ++ [(⟨xA, xcap, cs, .mk 1 none 0 [] 0 0 0 0, xdk, xdd⟩ : RuA)]).length ≤ 514 := by rw [List.length_append]; simp; omega
              generalize (((((((((((w7.setCell ⟨X, 0, none⟩ (.slice xA cs.length xcap)).setCell ⟨X, 1, none⟩ (.int .i64 xo)).setCell ⟨X, 2, none⟩ (.slice xeA xl.length xc)).setCell ⟨X, 3, none⟩ (.int .i64 xf)).setCell ⟨X, 4, none⟩ (.int .u64 xm)).setCell ⟨X, 5, none⟩ (.int .i64 xr)).setCell ⟨X, 6, none⟩ (.int .u64 xv)).setCell ⟨X, 7, none⟩ (.int .i64 xdk)).setCell ⟨X, 8, none⟩ (.int .u64 xdd)).setCell ⟨X, 7, none⟩ (.int .i64 6)).setCell ⟨X, 8, none⟩ (.int .u64 7)) = w9 at H9 HB9 HX9 ⊢
              clear b0 b1 b2 b3 b4 b5 i0' i1 i2 i3 i4 i5 i6 i7 i8 p0 p1 p2 p3 p4 p5 p6 p7 p8 fb0 fb1 fb2 fb3 fb4 fb5 fb6 fb7 fb8 hXl HM HB7 HXD2 hbb hvX hvX2
              have HQ9 := Lib.hid (show (qs ++ [(⟨xA, xcap, cs, .mk 1 none 0 [] 0 0 0 0, xdk, xdd⟩ : RuA)]).length = qs.length + 1 from by rw [List.length_append]; rfl)
              obtain ⟨qs9, hqs9⟩ : ∃ qs9, qs9 = qs ++ [(⟨xA, xcap, cs, .mk 1 none 0 [] 0 0 0 0, xdk, xdd⟩ : RuA)] := ⟨_, rfl⟩
              rw [← hqs9] at H9 hq9 HQ9
              have HQS9 := Lib.hid hqs9
              rw [← HQ9.out] at H9
              clear hqs9
              obtain ⟨v9, hv9⟩ : ∃ v9, v9 = Value.slice (some ⟨gg, 0, none⟩) qs9.length cg := ⟨_, rfl⟩
              rw [← hv9] at H9
              clear hv9
              obtain ⟨vA, vc, rfl⟩ := own_slc H9.out.own
              obtain ⟨p0, p1, p2, p3, p4, p5, p6, p7, p8⟩ := box9R HB9.out
              obtain ⟨q0, q1, q2, q3, q4, q5⟩ := (box6 H9.out.qbox).1
              have hXl : X < w9.heap.size := (Array.getElem?_eq_some_iff.1 HB9.out).1
              have hQl : Q < w9.heap.size := H9.out.lt
              go_wp2_with (at_builtin; refine wpList_app_at rfl (.tmp 93) (.tmp 95) 27 rfl (Q + 1) 51 i0 _ 9 104 Try.underlying27 HI0.out.1 HI0.out.2.1 HI0.out.2.2.1 HI0.out.2.2.2 rfl (by decide) (.slice vA (qs9).length vc) (qs9).length (cellsU (qs9)) rfl (own_alloc H9.out.own _) ⟨w9.heap.size, 0, none⟩ 1 1 (RuA.cells ⟨xA, xcap, cs, .mk xo xeA xc xl xf xm xr xv, 6, 7⟩) rfl rfl (new_at w9 _ _) (RuA.cells_one _) (by simp only [maxLen]; omega) (by omega) (by simp; omega) ?_; intro v2 w10 hown2 hg2 hat2; have hbx := grown_box hg2 (alloc_box H9.out.qbox _) (fun e => by have := own_geT H9.out.own _ e; omega); obtain ⟨gg, cg, hv, -, -⟩ := hown2.form (by omega); subst hv; have HM := Lib.hid (FsS.more (x := ⟨xA, xcap, cs, .mk xo xeA xc xl xf xm xr xv, 6, 7⟩) H9.out HX9.out hown2 hg2); have s5 := (box6 hbx).1.2.2.2.2.2; have sf := (box6 hbx).2.2.2.2.2.2; have hl6 : Q < w10.heap.size := (Array.getElem?_eq_some_iff.1 hbx).1; clear hown2 hg2 hbx hat2)
              go_roundw
              case rel => exact ⟨i + 1, _, _, by go_num, by omega, Lib.hid (by rw [HF2.out, HQS9.out, HQS.out]; simp), HM⟩
              case measure => simp [intOf]; omega
            · have hne : ((i : Int) == n) = false := beq_eq_false_iff_ne.2 (fun h => hin (Int.ofNat.inj h))
              have HF := Lib.hid (firstQ_take (n := n) HY.out)
              have HF2 : Hid (firstQ n (rs.take (i + 1)) = firstQ n (rs.take i) ++ [⟨xA, xcap, cs, .mk xo xeA xc xl xf xm xr xv, xdk, xdd⟩]) := Lib.hid (by rw [HF.out, if_neg hin])
              clear hin HF
              go_upto_region 25 with (fail)
              have H5 := Lib.hid (HQ.out.call (below1 wr (.cells #[.slice xA cs.length xcap, .int .i64 xo, .slice xeA xl.length xc, .int .i64 xf, .int .u64 xm, .int .i64 xr, .int .u64 xv, .int .i64 xdk, .int .u64 xdd] 51)))
              have HB5 := Lib.hid (heap_nwT wr (.cells #[.slice xA cs.length xcap, .int .i64 xo, .slice xeA xl.length xc, .int .i64 xf, .int .u64 xm, .int .i64 xr, .int .u64 xv, .int .i64 xdk, .int .u64 xdd] 51))
              have HX5 := Lib.hid (show RuA.In (wr.alloc (.cells #[.slice xA cs.length xcap, .int .i64 xo, .slice xeA xl.length xc, .int .i64 xf, .int .u64 xm, .int .i64 xr, .int .u64 xv, .int .i64 xdk, .int .u64 xdd] 51)) (fun g => g < w1.heap.size) ⟨xA, xcap, cs, .mk xo xeA xc xl xf xm xr xv, xdk, xdd⟩ from HXW.out.keep (fun b hb hl => ⟨by have := HNN.out; rw [this] at hb; exact hb, Below.heap_alloc wr _ b hl⟩))
              obtain ⟨X, hX⟩ : ∃ X, X = wr.heap.size := ⟨_, rfl⟩
              rw [← hX] at HB5 ⊢
              generalize wr.alloc (.cells #[.slice xA cs.length xcap, .int .i64 xo, .slice xeA xl.length xc, .int .i64 xf, .int .u64 xm, .int .i64 xr, .int .u64 xv, .int .i64 xdk, .int .u64 xdd] 51) = w5 at H5 HB5 HX5 ⊢
              clear b0 b1 b2 b3 b4 b5 i0' i1 i2 i3 i4 i5 i6 i7 i8 hX HXW hbb hl4
              obtain ⟨vA, vc, rfl⟩ := own_slc H5.out.own
              obtain ⟨p0, p1, p2, p3, p4, p5, p6, p7, p8⟩ := box9R HB5.out
              obtain ⟨q0, q1, q2, q3, q4, q5⟩ := (box6 H5.out.qbox).1
              have hXl : X < w5.heap.size := (Array.getElem?_eq_some_iff.1 HB5.out).1
              have hQl : Q < w5.heap.size := H5.out.lt
              go_wp2_with (at_builtin; refine wpList_app_at rfl (.tmp 93) (.tmp 95) 27 rfl (Q + 1) 51 i0 _ 9 104 Try.underlying27 HI0.out.1 HI0.out.2.1 HI0.out.2.2.1 HI0.out.2.2.2 rfl (by decide) (.slice vA (qs).length vc) (qs).length (cellsU (qs)) rfl (own_alloc H5.out.own _) ⟨w5.heap.size, 0, none⟩ 1 1 (RuA.cells ⟨xA, xcap, cs, .mk xo xeA xc xl xf xm xr xv, xdk, xdd⟩) rfl rfl (new_at w5 _ _) (RuA.cells_one _) (by simp only [maxLen]; omega) (by omega) (by simp; omega) ?_; intro v2 w6 hown2 hg2 hat2; have hbx := grown_box hg2 (alloc_box H5.out.qbox _) (fun e => by have := own_geT H5.out.own _ e; omega); obtain ⟨gg, cg, hv, -, -⟩ := hown2.form (by omega); subst hv; have HM := Lib.hid (FsS.more (x := ⟨xA, xcap, cs, .mk xo xeA xc xl xf xm xr xv, xdk, xdd⟩) H5.out HX5.out hown2 hg2); have s5 := (box6 hbx).1.2.2.2.2.2; have sf := (box6 hbx).2.2.2.2.2.2; have hl6 : Q < w6.heap.size := (Array.getElem?_eq_some_iff.1 hbx).1; clear hown2 hg2 hbx hat2)
              go_roundw
              case rel => exact ⟨i + 1, _, _, by go_num, by omega, Lib.hid (by rw [HF2.out, HQS.out]), HM⟩
              case measure => simp [intOf]; omega
          · obtain rfl : i = rs.length := by omega
            have HQS1 : Hid (qs = firstQ n rs) := Lib.hid (by rw [HQS.out, List.take_length])
            have hqp : 0 < qs.length := by rw [HQS1.out]; have := firstQ_len hnl; omega
            obtain ⟨gq, cq, hv, -, -⟩ := HQ.out.own.form hqp
            subst hv
            have hqc : qs.length ≤ cq := own_capF HQ.out.own
            obtain ⟨q0, q1, q2, q3, q4, q5⟩ := (box6 HQ.out.qbox).1
            by_cases h512 : 512 < qs.length
            · have h513 : (512 : Int) < qs.length := by omega
              go_wp2
              go_ret
              exact ⟨rfl, below_t HW1.out HQ.out.hd.below⟩
            · have h513 : ¬ (512 : Int) < qs.length := by omega
              go_upto_region 29 with (fail)
              have hnq : n + 2 ≤ qs.length := by rw [HQS1.out, firstQ_len hnl]; omega
              have hq5 := q5
              have HR0 := Lib.hid (RS.start wr ar fk fd dk dd (.slice (some ⟨gq, 0, none⟩) qs.length cq))
              obtain ⟨A2, hA2⟩ : ∃ A2, A2 = (if cq = n + 2 then some ⟨gq, 0, none⟩ else (some ⟨gq, 0, none⟩ : Option Addr).map (·.add ((n + 2) * 9))) := ⟨_, rfl⟩
              have hA2n : A2 = none → cq - (n + 2) = 0 := fun e => by rw [hA2] at e; split at e <;> cases e
              have hsh := fun w => run_hi gq qs.length cq (n + 1) (by omega) w
              have hsl := fun w => run_lo gq qs.length cq (n + 2) hnq w
              rw [← hA2] at hsl
              have e1 : (((n + 1 : Nat)) : Int) = (n : Int) + 1 := by omega
              have e2 : (((n + 2 : Nat)) : Int) = (n : Int) + 2 := by omega
              rw [e1] at hsh
              rw [e2] at hsl
              have HT0 := Lib.hid ((Reads.of_own HQ.out.own).take (k := n + 1) (by omega))
              have hd0 := (Reads.of_own HQ.out.own).cut (k := n + 2) (cap := cq) hnq hqc
              rw [← hA2] at hd0
              have HD0 := Lib.hid hd0
              clear hd0
              obtain ⟨W0, hW0⟩ : ∃ W0, W0 = wr.alloc (.cells #[.string ar, .int .i64 fk, .int .u64 fd, .int .i64 dk, .int .u64 dd, .slice (some ⟨gq, 0, none⟩) qs.length cq] 29) := ⟨_, rfl⟩
              rw [← hW0] at HR0 ⊢
              obtain ⟨RB, hRB⟩ : ∃ RB, RB = wr.heap.size := ⟨_, rfl⟩
              have hl0 : RB < W0.heap.size := by rw [hRB]; exact HR0.out.lt
              have HE0 := Lib.hid (show ((W0.alloc (.cells #[] 51)).drew).ownsRow (RB + 1) 51 9 (.slice (some ⟨W0.heap.size, 0, none⟩) 0 0) 0 [] from lit0U W0 (RB + 1) (by omega))
              have HRB := Lib.hid hRB
              rw [← hRB] at ⊢
              clear hW0 e1 e2 hA2 hRB b0 b1 b2 b3 b4 b5 q0 q1 q2 q3 q4 q5
              have HQ5 := Lib.hid hq5
              clear hq5
              have MKS := Lib.hid (show ∀ u W, RS wr ar fk fd dk dd u W → W.cell? ⟨Q, 5, none⟩ = some (.slice (some ⟨gq, 0, none⟩) qs.length cq) ∧ W.cell? ⟨RB, 5, none⟩ = some (cellD W ⟨RB, 5, none⟩) ∧ W.frozen? ⟨RB, 5, none⟩ = false ∧ Below wr.heap.size wr W from fun u W h => by rw [HRB.out]; exact h.toS HQ5.out)
              have hqv := (HR0.out.toS HQ5.out).1
              have hn12 : IntKind.i64.wrap ((n : Int) + 1) = (n : Int) + 1 ∧ IntKind.i64.wrap ((n : Int) + 2) = (n : Int) + 2 := by simp [IntKind.wrap, IntKind.bits, IntKind.signed]; omega
              obtain ⟨hn1, hn2⟩ := hn12
              go_region_held3 (fun W => W.cell? ⟨Q, 5, none⟩ = some (.slice (some ⟨gq, 0, none⟩) qs.length cq) ∧ W.cell? ⟨RB, 5, none⟩ = some (cellD W ⟨RB, 5, none⟩) ∧ W.frozen? ⟨RB, 5, none⟩ = false ∧ Below wr.heap.size wr W)
                (first
                  | assumption
                  | (with_reducible (first | exact MKS.out _ _ HR0.out.drew | exact MKS.out _ _ (HR0.out.alloc _).drew | exact MKS.out _ _ HR5.out | exact MKS.out _ _ HR6.out | exact MKS.out _ _ HR7.out)))
                (first
                  | (have _t := HR5; refine step_app rfl (.tmp 110) (.tmp 115) 27 rfl (RB + 1) 51 i0 _ 9 104 Try.underlying27 HI0.out.1 HI0.out.2.1 HI0.out.2.2.1 HI0.out.2.2.2 rfl (by decide) _ (n + 1) _ rfl HO5.out A2 wr.heap.size (qs.length - (n + 2)) (cq - (n + 2)) _ rfl hA2n (((HD0.out.more (Nat.le_refl _)).below HR5.out.below)) (fun u hu => cellsU_mem qs u (List.mem_of_mem_drop hu)) (by clear hn1 hn2 hsh hsl; simp only [maxLen]; omega) (by clear hn1 hn2 hsh hsl; omega) (by clear hn1 hn2 hsh hsl; have := HR5.out.lt; rw [← HRB.out] at this; omega) ?_; intro v2 w6 hown2 hg2 _; obtain ⟨gg, cg, hv, -, -⟩ := hown2.form (by clear hn1 hn2 hsh hsl; omega); subst hv; have HR6 := Lib.hid (HR5.out.grown hg2 (fun k hk => by clear hn1 hn2 hsh hsl; have := own_geT HO5.out k hk; rw [HRB.out] at this; omega)); have HO6 := Lib.hid hown2; have HR7 := Lib.hid (HR6.out.set (.slice (some ⟨gg, 0, none⟩) (n + 1 + (qs.length - (n + 2))) cg)); rw [← HRB.out] at HR7; clear hown2 hg2)
                  | (refine step_app rfl (.tmp 104) (.tmp 109) 27 rfl (RB + 1) 51 i0 _ 9 104 Try.underlying27 HI0.out.1 HI0.out.2.1 HI0.out.2.2.1 HI0.out.2.2.2 rfl (by decide) _ 0 [] rfl HE0.out (some ⟨gq, 0, none⟩) wr.heap.size (n + 1) cq _ rfl (fun h => by cases h) (HT0.out.below (below_dr (HR0.out.alloc _).below)) (fun u hu => cellsU_mem qs u (List.mem_of_mem_take hu)) (by clear hn1 hn2 hsh hsl; simp only [maxLen]; omega) (by clear hn1 hn2 hsh hsl; omega) (by clear hn1 hn2 hsh hsl; simp; omega) ?_; intro v1 w5 hown1 hg1 _; (simp only [Nat.zero_add, List.nil_append] at hown1); have HR5 := Lib.hid ((HR0.out.alloc _).drew.grown hg1 (fun k hk => by clear hn1 hn2 hsh hsl; have := own_geT HE0.out k hk; rw [HRB.out] at this; omega)); have HO5 := Lib.hid hown1; clear hown1 hg1))
              clear hn1 hn2 hsh hsl hqv
              have HFQ := Lib.hid (HQ.out.call HR7.out.below)
              have hlr : (firstR n rs).length = n + 1 + (qs.length - (n + 2)) := by rw [firstR_of hnl, ← HQS1.out, List.length_append, List.length_take, List.length_drop]; omega
              have hcr : cellsU (firstR n rs) = (cellsU qs).take ((n + 1) * 9) ++ (cellsU qs).drop ((n + 2) * 9) := by rw [firstR_of hnl, ← HQS1.out, cellsU_append, cellsU_take, cellsU_drop]
              have hro := own_set HO6.out (g := RB) (by omega) 5 (.slice (some ⟨gg, 0, none⟩) (n + 1 + (qs.length - (n + 2))) cg)
              rw [← hcr, ← hlr] at hro
              have hr7 := HR7.out
              have hfq := HFQ.out
              rw [← hlr] at hr7 hfq ⊢
              obtain ⟨w7, hw7⟩ : ∃ w7, w7 = w6.setCell ⟨RB, 5, none⟩ (.slice (some ⟨gg, 0, none⟩) (firstR n rs).length cg) := ⟨_, rfl⟩
              rw [← hw7] at hro hr7 hfq ⊢
              have hRQ : Q < RB := by rw [HRB.out]; exact HQ.out.lt
              have HPR0 := Lib.hid (show PolA.In w7 (fun g => g < w1.heap.size ∨ Q < g) ⟨ar, fk, fd, dk, dd, some ⟨gg, 0, none⟩, cg, firstR n rs⟩ from
                ⟨RowN.of_own hro (fun g _ hg => Or.inr (Nat.lt_of_lt_of_le hRQ (Nat.le_of_succ_le hg))), fun r hr => (hfq.all r (by rw [HQS1.out]; exact sub_firstR r hr)).keep fun g hg _ => ⟨Or.inl hg, rfl⟩⟩)
              have HR8 := Lib.hid hr7
              have HFQ8 := Lib.hid hfq
              have HPQ0 := Lib.hid hfq.pol
              have HOKQ := Lib.hid (show PolA.Ok ⟨ar, fk, fd, dk, dd, some ⟨gq, 0, none⟩, cq, qs⟩ from ⟨HOK.out.arch, HOK.out.fd, HOK.out.dd, by rw [HQS1.out]; exact Ok_firstQ HRS.out⟩)
              have HOKR := Lib.hid (show PolA.Ok ⟨ar, fk, fd, dk, dd, some ⟨gg, 0, none⟩, cg, firstR n rs⟩ from ⟨HOK.out.arch, HOK.out.fd, HOK.out.dd, fun r hr => Ok_firstQ HRS.out r (sub_firstR r hr)⟩)
              obtain ⟨ev, hev⟩ : ∃ ev, ev = evalP 1099511627776 ⟨ar, fk, fd, dk, dd, some ⟨gq, 0, none⟩, cq, qs⟩ d := ⟨_, rfl⟩
              have hev2 : evalP 1099511627776 ⟨ar, fk, fd, dk, dd, some ⟨gg, 0, none⟩, cg, firstR n rs⟩ d = ev := by
                rw [hev, HQS1.out]
                exact (eval_first (M := 1099511627776) (A := some ⟨gq, 0, none⟩) (c := cq) (l := rs) (by have := HCE.out; exact (congrArg Prod.fst this)) (by rw [← HQS1.out]; omega) d).symm
              have HE1 := Lib.hid (fun W (hb : Below w7.heap.size w7 W) => Eval_c _ ⟨ar, fk, fd, dk, dd, some ⟨gq, 0, none⟩, cq, qs⟩ d W HOKQ.out (HPQ0.out.below hb))
              have HE2 := Lib.hid (fun W (hb : Below w7.heap.size w7 W) => Eval_c _ ⟨ar, fk, fd, dk, dd, some ⟨gg, 0, none⟩, cg, firstR n rs⟩ d W HOKR.out (HPR0.out.below hb))
              rw [← hev] at HE1
              rw [hev2] at HE2
              unfold U32Post PolA.val D9.val at HE1 HE2
              dsimp only at HE1 HE2
              obtain ⟨q0, q1, q2, q3, q4, q5⟩ := (box6 HFQ8.out.qbox).1
              obtain ⟨d0, d1, d2, d3, d4, d5, d6, d7, d8⟩ := dcl (d := d) HFQ8.out.hd.dbox
              obtain ⟨r0, r1, r2, r3, r4, r5⟩ := (box6 HR8.out.rbox).1
              rw [← HRB.out] at r0 r1 r2 r3 r4 r5
              have HK := Lib.hid (show ∀ W, Below w7.heap.size w7 W → (W.cell? ⟨Q, 0, none⟩ = some (.string ar) ∧ W.cell? ⟨Q, 1, none⟩ = some (.int .i64 fk) ∧ W.cell? ⟨Q, 2, none⟩ = some (.int .u64 fd) ∧ W.cell? ⟨Q, 3, none⟩ = some (.int .i64 dk) ∧ W.cell? ⟨Q, 4, none⟩ = some (.int .u64 dd) ∧ W.cell? ⟨Q, 5, none⟩ = some (.slice (some ⟨gq, 0, none⟩) qs.length cq)) ∧ (W.cell? ⟨w1.heap.size + 1, 0, none⟩ = some (.int .u32 d.nr) ∧ W.cell? ⟨w1.heap.size + 1, 1, none⟩ = some (.int .u32 d.arch) ∧ W.cell? ⟨w1.heap.size + 1, 2, none⟩ = some (.int .u64 d.ip) ∧ W.cell? ⟨w1.heap.size + 1, 3, none⟩ = some (.int .u64 d.a0) ∧ W.cell? ⟨w1.heap.size + 1, 4, none⟩ = some (.int .u64 d.a1) ∧ W.cell? ⟨w1.heap.size + 1, 5, none⟩ = some (.int .u64 d.a2) ∧ W.cell? ⟨w1.heap.size + 1, 6, none⟩ = some (.int .u64 d.a3) ∧ W.cell? ⟨w1.heap.size + 1, 7, none⟩ = some (.int .u64 d.a4) ∧ W.cell? ⟨w1.heap.size + 1, 8, none⟩ = some (.int .u64 d.a5)) ∧ (W.cell? ⟨RB, 0, none⟩ = some (.string ar) ∧ W.cell? ⟨RB, 1, none⟩ = some (.int .i64 fk) ∧ W.cell? ⟨RB, 2, none⟩ = some (.int .u64 fd) ∧ W.cell? ⟨RB, 3, none⟩ = some (.int .i64 dk) ∧ W.cell? ⟨RB, 4, none⟩ = some (.int .u64 dd) ∧ W.cell? ⟨RB, 5, none⟩ = some (.slice (some ⟨gg, 0, none⟩) (firstR n rs).length cg)) ∧ Below w7.heap.size w7 W from fun W hb => ⟨⟨keepC hb q0, keepC hb q1, keepC hb q2, keepC hb q3, keepC hb q4, keepC hb q5⟩, ⟨keepC hb d0, keepC hb d1, keepC hb d2, keepC hb d3, keepC hb d4, keepC hb d5, keepC hb d6, keepC hb d7, keepC hb d8⟩, ⟨keepC hb r0, keepC hb r1, keepC hb r2, keepC hb r3, keepC hb r4, keepC hb r5⟩, hb⟩)
              clear q0 q1 q2 q3 q4 q5 d0 d1 d2 d3 d4 d5 d6 d7 d8 r0 r1 r2 r3 r4 r5 hev hev2 hro hr7 hfq hlr hcr hw7 hl0 HR0 HR5 HR6 HR7 HO5 HO6 HT0 HD0 HE0 MKS
              go_wp2_with fail
              go_region_held3 (fun W => (W.cell? ⟨Q, 0, none⟩ = some (.string ar) ∧ W.cell? ⟨Q, 1, none⟩ = some (.int .i64 fk) ∧ W.cell? ⟨Q, 2, none⟩ = some (.int .u64 fd) ∧ W.cell? ⟨Q, 3, none⟩ = some (.int .i64 dk) ∧ W.cell? ⟨Q, 4, none⟩ = some (.int .u64 dd) ∧ W.cell? ⟨Q, 5, none⟩ = some (.slice (some ⟨gq, 0, none⟩) qs.length cq)) ∧ (W.cell? ⟨w1.heap.size + 1, 0, none⟩ = some (.int .u32 d.nr) ∧ W.cell? ⟨w1.heap.size + 1, 1, none⟩ = some (.int .u32 d.arch) ∧ W.cell? ⟨w1.heap.size + 1, 2, none⟩ = some (.int .u64 d.ip) ∧ W.cell? ⟨w1.heap.size + 1, 3, none⟩ = some (.int .u64 d.a0) ∧ W.cell? ⟨w1.heap.size + 1, 4, none⟩ = some (.int .u64 d.a1) ∧ W.cell? ⟨w1.heap.size + 1, 5, none⟩ = some (.int .u64 d.a2) ∧ W.cell? ⟨w1.heap.size + 1, 6, none⟩ = some (.int .u64 d.a3) ∧ W.cell? ⟨w1.heap.size + 1, 7, none⟩ = some (.int .u64 d.a4) ∧ W.cell? ⟨w1.heap.size + 1, 8, none⟩ = some (.int .u64 d.a5)) ∧ (W.cell? ⟨RB, 0, none⟩ = some (.string ar) ∧ W.cell? ⟨RB, 1, none⟩ = some (.int .i64 fk) ∧ W.cell? ⟨RB, 2, none⟩ = some (.int .u64 fd) ∧ W.cell? ⟨RB, 3, none⟩ = some (.int .i64 dk) ∧ W.cell? ⟨RB, 4, none⟩ = some (.int .u64 dd) ∧ W.cell? ⟨RB, 5, none⟩ = some (.slice (some ⟨gg, 0, none⟩) (firstR n rs).length cg)) ∧ Below w7.heap.size w7 W)
                (first | assumption | with_reducible (first | exact HK.out _ (below_dr (Below.refl _ _)) | exact HK.out _ hbE | exact HK.out _ hbP | exact HK.out _ hbQ))
                (first
                  | (have _t := hbP; go_at_call 12; ((with_reducible refine (HE2.out _ hbP).mono ?_); rintro e w9 ⟨rfl, hb0⟩); have hbE : Below w7.heap.size w7 w9 := below_t hbP hb0; clear hb0)
                  | (have _t := hbQ; go_at_call 12; ((with_reducible refine (HE1.out _ hbQ).mono ?_); rintro e w9 ⟨rfl, hb0⟩); have hbE : Below w7.heap.size w7 w9 := below_t hbQ hb0; clear hb0)
                  | (go_at_call 12; ((with_reducible refine (HE1.out _ (below_dr (Below.refl _ _))).mono ?_); rintro e w8 ⟨rfl, hb0⟩); have hbP : Below w7.heap.size w7 w8 := below_t (below_dr (Below.refl w7.heap.size w7)) hb0; clear hb0)
                  | (go_at_call 12; ((with_reducible refine (HE2.out _ (below_dr (Below.refl _ _))).mono ?_); rintro e w8 ⟨rfl, hb0⟩); have hbQ : Below w7.heap.size w7 w8 := below_t (below_dr (Below.refl w7.heap.size w7)) hb0; clear hb0))
              have HF9 := Lib.hid (HFQ8.out.call hbE)
              clear hbE HK HE1 HE2 HFQ8 HPQ0 HPR0 HR8 HOKQ HOKR
              obtain ⟨d0, d1, d2, d3, d4, d5, d6, d7, d8⟩ := dcl (d := d) HF9.out.hd.dbox
              go_upto_region 34 with (fail)
              have HM0 := Lib.hid (heap_nwT w9 (.cells d.cells.toArray 34))
              obtain ⟨M, hM⟩ : ∃ M, M = w9.heap.size := ⟨_, rfl⟩
              rw [← hM] at HM0 ⊢
              have HM := Lib.hid hM
              have HB0 := Lib.hid (below1 w9 (.cells d.cells.toArray 34))
              unfold D9.cells at HM0 HB0
              generalize w9.alloc (.cells #[.int .u32 d.nr, .int .u32 d.arch, .int .u64 d.ip, .int .u64 d.a0, .int .u64 d.a1, .int .u64 d.a2, .int .u64 d.a3, .int .u64 d.a4, .int .u64 d.a5] 34) = w10 at HM0 HB0 ⊢
              have hM1 : w1.heap.size + 2 < M := by rw [hM]; exact (Array.getElem?_eq_some_iff.1 HF9.out.obox).1
              clear hM d0 d1 d2 d3 d4 d5 d6 d7 d8
              obtain ⟨wo1, rfl⟩ : ∃ wo1 : World, wo1 = wr := ⟨_, rfl⟩
              go_wp2_with fail
              go_loopw [15] (fun i wr => ∃ f : Nat, i = .int .i64 f ∧ f ≤ 6 ∧ Hid (Below w9.heap.size w9 wr ∧ wr.heap[M]? = some (.cells (D9.cells (mixD (gF rs f) d o)).toArray 34 (0, 0)))) (fun i _ => 6 - (intOf i).toNat)
              case atStart => exact ⟨0, rfl, by omega, Lib.hid ⟨HB0.out, by rw [mix_start]; exact HM0.out⟩⟩
              case round =>
                obtain ⟨f, rfl, hf6, HB⟩ := hrel
                clear HB0 HM0
                have HFW := Lib.hid (HF9.out.call HB.out.1)
                have HO := Lib.hid HFW.out.obox
                rcases Nat.lt_or_ge f 6 with hlt | hge
                · have hlt' : (f : Int) < 6 := by omega
                  obtain ⟨mx, hmx⟩ : ∃ mx, mx = mixD (gF rs f) d o := ⟨_, rfl⟩
                  have HMX := Lib.hid hmx
                  rw [← hmx] at HB
                  clear hmx
                  obtain ⟨wo2, hwo2⟩ : ∃ wo2 : World, wo2 = wr := ⟨_, rfl⟩
                  have HWO := Lib.hid hwo2
                  clear hwo2
                  go_upto_block 4 with (fail)
                  go_cut [16] (fun sb wc => ∃ asked : Bool, sb = .bool asked ∧ Hid (asked = asksR f rs) ∧ Hid (Below wo2.heap.size wo2 wc))
                  case first =>
                    go_wp2_with fail
                    go_loopw [17, 16] (fun i sb wr => ∃ (k : Nat) (asked : Bool), i = .int .i64 k ∧ k ≤ rs.length ∧ sb = .bool asked ∧ Hid (asked = asksR f (rs.take k)) ∧ Hid (Below wo2.heap.size wo2 wr)) (fun i _ _ => rs.length - (intOf i).toNat)
                    case atStart => exact ⟨0, false, rfl, by omega, rfl, Lib.hid rfl, Lib.hid (by rw [HWO.out]; exact Below.refl _ _)⟩
                    case round =>
                      obtain ⟨k, asked, rfl, hk, rfl, HK, HBI⟩ := hrel
                      have HFI := Lib.hid (HFW.out.call (by have := HBI.out; rw [HWO.out] at this; exact this))
                      obtain ⟨b0, b1, b2, b3, b4, b5⟩ := (box6 HFI.out.hd.ebox).1
                      rcases Nat.lt_or_ge k rs.length with hltk | hgek
                      · have hltk' : (k : Int) < rs.length := by omega
                        obtain ⟨⟨xA, xcap, cs, ⟨xo, xeA, xc, xl, xf, xm, xr, xv⟩, xdk, xdd⟩, hy⟩ : ∃ y, rs[k]? = some y := ⟨_, List.getElem?_eq_getElem hltk⟩
                        have hmem := List.mem_of_getElem? hy
                        have hpin := HINB.out wr HFI.out.hd.below
                        obtain ⟨b, off, rfl, hbb, i0', i1, i2, i3, i4, i5, i6, i7, i8⟩ := hpin.rows.rule hy
                        have HSTEP := Lib.hid (asksR_take (f := f) hy)
                        have hwi := (ruleP_within (HRL.out _ hmem)).1
                        have HASK := Lib.hid (asks_c 1099511627776 f N 201 (.mk xo xeA xc xl xf xm xr xv) 0 wr (by omega) hwi (hpin.all _ hmem).when_ (HRS.out _ hmem).fits)
                        obtain ⟨q, hq⟩ : ∃ q, q = asksP f (.mk xo xeA xc xl xf xm xr xv) := ⟨_, rfl⟩
                        have HQ := Lib.hid hq
                        rw [← hq] at HASK
                        unfold ExA.val BoolPost at HASK
                        dsimp only at HASK
                        clear hy hmem hpin hwi hq
                        go_wp2_with fail
                        refine HASK.out.mono ?_
                        rintro e w11 ⟨rfl, hb⟩
                        have HB11 := Lib.hid (below_t HBI.out hb)
                        have HK2 : Hid ((asked || q) = asksR f (rs.take (k + 1))) := Lib.hid (by rw [HSTEP.out, HK.out, HQ.out])
                        clear hb b0 b1 b2 b3 b4 b5 i0' i1 i2 i3 i4 i5 i6 i7 i8
                        cases asked with
                        | true =>
                          go_wp2
                          go_roundw
                          case rel => exact ⟨k + 1, true, by go_num, by omega, rfl, Lib.hid (by have := HK2.out; simpa using this), HB11⟩
                          case measure => simp [intOf]; omega
                        | false =>
                          go_wp2
                          go_roundw
                          case rel => exact ⟨k + 1, q, by go_num, by omega, rfl, Lib.hid (by have := HK2.out; simpa using this), HB11⟩
                          case measure => simp [intOf]; omega
                      · obtain rfl : k = rs.length := by omega
                        go_wp2
                        go_meet
                        exact ⟨asked, rfl, Lib.hid (by rw [HK.out, List.take_length]), HBI⟩
                  case rest =>
                    obtain ⟨asked, rfl, HAS0, HBI⟩ := hcut
                    have HB2 := Lib.hid (show Below w9.heap.size w9 wc ∧ wc.heap[M]? = some (.cells (D9.cells mx).toArray 34 (0, 0)) from by
                      have h1 := HBI.out
                      rw [HWO.out] at h1
                      exact ⟨below_t HB.out.1 h1, keepH h1 HB.out.2⟩)
                    have HO2 := Lib.hid (show wc.heap[w1.heap.size + 2]? = some _ from by have h1 := HBI.out; rw [HWO.out] at h1; exact keepH h1 HO.out)
                    clear HB HO HFW HWO HBI
                    cases asked with
                    | true =>
                      go_wp2
                      go_roundw
                      case rel => exact ⟨f + 1, by go_num, by omega, Lib.hid ⟨HB2.out.1, by rw [mix_asked HAS0.out.symm, ← HMX.out]; exact HB2.out.2⟩⟩
                      case measure => simp [intOf]; omega
                    | false =>
                      have HAS := Lib.hid HAS0.out.symm
                      obtain ⟨-, -, -, o3, o4, o5, o6, o7, o8⟩ := dcl (d := o) (show wc.heap[OB]? = some (.cells o.cells.toArray 34 (0, 0)) from by rw [HOB.out]; exact HO2.out)
                      obtain ⟨-, -, -, m3, m4, m5, m6, m7, m8⟩ := dcl (d := mx) HB2.out.2
                      have mf3 := frz9 HB2.out.2 3
                      have mf4 := frz9 HB2.out.2 4
                      have mf5 := frz9 HB2.out.2 5
                      have mf6 := frz9 HB2.out.2 6
                      have mf7 := frz9 HB2.out.2 7
                      have mf8 := frz9 HB2.out.2 8
                      have hf : f = 0 ∨ f = 1 ∨ f = 2 ∨ f = 3 ∨ f = 4 ∨ f = 5 := by omega
                      have HNEXT := Lib.hid (show ∀ j : Nat, f = j → j < 6 → ∀ u, u = Value.int .u64 (o.args.getD j 0) → Below w9.heap.size w9 (wc.setCell ⟨M, 3 + j, none⟩ u) ∧ (wc.setCell ⟨M, 3 + j, none⟩ u).heap[M]? = some (.cells (D9.cells (mixD (gF rs (j + 1)) d o)).toArray 34 (0, 0)) from fun j hj hj6 u hu =>
                        ⟨HB2.out.1.setCell (show w9.heap.size ≤ M by rw [HM.out]; exact Nat.le_refl _) _, by
                          subst hj hu
                          have h := heap_setT HB2.out.2 (j := 3 + f) (.int .u64 (o.args.getD f 0))
                          rw [HMX.out] at h
                          rw [h, mix_other HAS.out hj6]⟩)
                      clear HB2 HO2 HAS HAS0 hlt'
                      rcases hf with rfl | rfl | rfl | rfl | rfl | rfl
                      all_goals (
                        go_wp2
                        go_roundw
                        case rel => exact ⟨_, rfl, by decide, Lib.hid (HNEXT.out _ rfl (by decide) _ rfl)⟩
                        case measure => simp [intOf])
                · obtain rfl : f = 6 := by omega
                  obtain ⟨mx, hmx⟩ : ∃ mx, mx = mixD (gF rs 6) d o := ⟨_, rfl⟩
                  obtain ⟨ev2, hev⟩ : ∃ ev, ev = evalP 1099511627776 ⟨ar, fk, fd, dk, dd, A, cap, rs⟩ d := ⟨_, rfl⟩
                  have hev2 : evalP 1099511627776 ⟨ar, fk, fd, dk, dd, A, cap, rs⟩ mx = ev2 := by
                    rw [hev, hmx]
                    exact (eval_mix (p := ⟨ar, fk, fd, dk, dd, A, cap, rs⟩) (by have := HCE.out; exact (congrArg Prod.fst this)) d o (gF rs 6) (fun x h0 h5 => by unfold gF; rw [decide_eq_false (by omega)]; rfl)).symm
                  have HE1 := Lib.hid (fun W (hb : Below wr.heap.size wr W) => Eval_c N ⟨ar, fk, fd, dk, dd, A, cap, rs⟩ d W HOK.out (HINB.out W (below_t HFW.out.hd.below hb)))
                  have HE2 := Lib.hid (fun W (hb : Below wr.heap.size wr W) => Eval_c N ⟨ar, fk, fd, dk, dd, A, cap, rs⟩ mx W HOK.out (HINB.out W (below_t HFW.out.hd.below hb)))
                  rw [← hev] at HE1
                  rw [hev2] at HE2
                  unfold U32Post PolA.val D9.val at HE1 HE2
                  dsimp only at HE1 HE2
                  have hmb := HB.out.2
                  rw [← hmx] at hmb
                  obtain ⟨p0, p1, p2, p3, p4, p5⟩ := (box6 HFW.out.hd.ebox).1
                  obtain ⟨d0, d1, d2, d3, d4, d5, d6, d7, d8⟩ := dcl (d := d) HFW.out.hd.dbox
                  obtain ⟨m0, m1, m2, m3, m4, m5, m6, m7, m8⟩ := dcl (d := mx) hmb
                  have HK := Lib.hid (show ∀ W, Below wr.heap.size wr W → (W.cell? ⟨w1.heap.size, 0, none⟩ = some (.string ar) ∧ W.cell? ⟨w1.heap.size, 1, none⟩ = some (.int .i64 fk) ∧ W.cell? ⟨w1.heap.size, 2, none⟩ = some (.int .u64 fd) ∧ W.cell? ⟨w1.heap.size, 3, none⟩ = some (.int .i64 dk) ∧ W.cell? ⟨w1.heap.size, 4, none⟩ = some (.int .u64 dd) ∧ W.cell? ⟨w1.heap.size, 5, none⟩ = some (.slice A rs.length cap)) ∧ (W.cell? ⟨w1.heap.size + 1, 0, none⟩ = some (.int .u32 d.nr) ∧ W.cell? ⟨w1.heap.size + 1, 1, none⟩ = some (.int .u32 d.arch) ∧ W.cell? ⟨w1.heap.size + 1, 2, none⟩ = some (.int .u64 d.ip) ∧ W.cell? ⟨w1.heap.size + 1, 3, none⟩ = some (.int .u64 d.a0) ∧ W.cell? ⟨w1.heap.size + 1, 4, none⟩ = some (.int .u64 d.a1) ∧ W.cell? ⟨w1.heap.size + 1, 5, none⟩ = some (.int .u64 d.a2) ∧ W.cell? ⟨w1.heap.size + 1, 6, none⟩ = some (.int .u64 d.a3) ∧ W.cell? ⟨w1.heap.size + 1, 7, none⟩ = some (.int .u64 d.a4) ∧ W.cell? ⟨w1.heap.size + 1, 8, none⟩ = some (.int .u64 d.a5)) ∧ (W.cell? ⟨M, 0, none⟩ = some (.int .u32 mx.nr) ∧ W.cell? ⟨M, 1, none⟩ = some (.int .u32 mx.arch) ∧ W.cell? ⟨M, 2, none⟩ = some (.int .u64 mx.ip) ∧ W.cell? ⟨M, 3, none⟩ = some (.int .u64 mx.a0) ∧ W.cell? ⟨M, 4, none⟩ = some (.int .u64 mx.a1) ∧ W.cell? ⟨M, 5, none⟩ = some (.int .u64 mx.a2) ∧ W.cell? ⟨M, 6, none⟩ = some (.int .u64 mx.a3) ∧ W.cell? ⟨M, 7, none⟩ = some (.int .u64 mx.a4) ∧ W.cell? ⟨M, 8, none⟩ = some (.int .u64 mx.a5)) ∧ Below wr.heap.size wr W from fun W hb => ⟨⟨keepC hb p0, keepC hb p1, keepC hb p2, keepC hb p3, keepC hb p4, keepC hb p5⟩, ⟨keepC hb d0, keepC hb d1, keepC hb d2, keepC hb d3, keepC hb d4, keepC hb d5, keepC hb d6, keepC hb d7, keepC hb d8⟩, ⟨keepC hb m0, keepC hb m1, keepC hb m2, keepC hb m3, keepC hb m4, keepC hb m5, keepC hb m6, keepC hb m7, keepC hb m8⟩, hb⟩)
                  clear p0 p1 p2 p3 p4 p5 d0 d1 d2 d3 d4 d5 d6 d7 d8 m0 m1 m2 m3 m4 m5 m6 m7 m8 hev hev2 hmx hmb hge
                  go_wp2_with fail
                  go_region_held3 (fun W => (W.cell? ⟨w1.heap.size, 0, none⟩ = some (.string ar) ∧ W.cell? ⟨w1.heap.size, 1, none⟩ = some (.int .i64 fk) ∧ W.cell? ⟨w1.heap.size, 2, none⟩ = some (.int .u64 fd) ∧ W.cell? ⟨w1.heap.size, 3, none⟩ = some (.int .i64 dk) ∧ W.cell? ⟨w1.heap.size, 4, none⟩ = some (.int .u64 dd) ∧ W.cell? ⟨w1.heap.size, 5, none⟩ = some (.slice A rs.length cap)) ∧ (W.cell? ⟨w1.heap.size + 1, 0, none⟩ = some (.int .u32 d.nr) ∧ W.cell? ⟨w1.heap.size + 1, 1, none⟩ = some (.int .u32 d.arch) ∧ W.cell? ⟨w1.heap.size + 1, 2, none⟩ = some (.int .u64 d.ip) ∧ W.cell? ⟨w1.heap.size + 1, 3, none⟩ = some (.int .u64 d.a0) ∧ W.cell? ⟨w1.heap.size + 1, 4, none⟩ = some (.int .u64 d.a1) ∧ W.cell? ⟨w1.heap.size + 1, 5, none⟩ = some (.int .u64 d.a2) ∧ W.cell? ⟨w1.heap.size + 1, 6, none⟩ = some (.int .u64 d.a3) ∧ W.cell? ⟨w1.heap.size + 1, 7, none⟩ = some (.int .u64 d.a4) ∧ W.cell? ⟨w1.heap.size + 1, 8, none⟩ = some (.int .u64 d.a5)) ∧ (W.cell? ⟨M, 0, none⟩ = some (.int .u32 mx.nr) ∧ W.cell? ⟨M, 1, none⟩ = some (.int .u32 mx.arch) ∧ W.cell? ⟨M, 2, none⟩ = some (.int .u64 mx.ip) ∧ W.cell? ⟨M, 3, none⟩ = some (.int .u64 mx.a0) ∧ W.cell? ⟨M, 4, none⟩ = some (.int .u64 mx.a1) ∧ W.cell? ⟨M, 5, none⟩ = some (.int .u64 mx.a2) ∧ W.cell? ⟨M, 6, none⟩ = some (.int .u64 mx.a3) ∧ W.cell? ⟨M, 7, none⟩ = some (.int .u64 mx.a4) ∧ W.cell? ⟨M, 8, none⟩ = some (.int .u64 mx.a5)) ∧ Below wr.heap.size wr W)
                    (first | assumption | with_reducible (first | exact HK.out _ (below_dr (Below.refl _ _)) | exact HK.out _ hbE | exact HK.out _ hbP | exact HK.out _ hbQ))
                    (first
                      | (have _t := hbP; go_at_call 12; ((with_reducible refine (HE2.out _ hbP).mono ?_); rintro e w12 ⟨rfl, hb0⟩); have hbE : Below wr.heap.size wr w12 := below_t hbP hb0; clear hb0)
                      | (have _t := hbQ; go_at_call 12; ((with_reducible refine (HE1.out _ hbQ).mono ?_); rintro e w12 ⟨rfl, hb0⟩); have hbE : Below wr.heap.size wr w12 := below_t hbQ hb0; clear hb0)
                      | (go_at_call 12; ((with_reducible refine (HE1.out _ (below_dr (Below.refl _ _))).mono ?_); rintro e w11 ⟨rfl, hb0⟩); have hbP : Below wr.heap.size wr w11 := below_t (below_dr (Below.refl wr.heap.size wr)) hb0; clear hb0)
                      | (go_at_call 12; ((with_reducible refine (HE2.out _ (below_dr (Below.refl _ _))).mono ?_); rintro e w11 ⟨rfl, hb0⟩); have hbQ : Below wr.heap.size wr w11 := below_t (below_dr (Below.refl wr.heap.size wr)) hb0; clear hb0))
                  all_goals (
                    have HF := Lib.hid (below_t HW1.out (below_t HFW.out.hd.below hbE))
                    go_wp2
                    go_ret
                    exact ⟨rfl, HF.out⟩)
  · have h1 : (ce != 0) = true := by simpa using h0
    clear h0
    go_wp2
    go_ret
    exact ⟨rfl, below_t HW1.out H3.out.1.below⟩
/-! ### the row of SemFirst -/
set_option maxRecDepth 100000 in
theorem SemFirst_lifted (os : Os) (started : os.Started) (H : Type) (enc : TypeId × Value → H) :
    ReturnsInHanded {} Try.checked os 5 .any (Rows.semFirstSpec.pre6 enc Try.prog Try.f5 Rows.semFirstRow.domain false) (Rows.semFirstSpec.post enc Try.prog Try.f5 false true false false) := by
  refine returnsInHanded_of_change_sized (C := Try.checked) ownNone started (by kernel_rfl) Try.func5
    (ChangeSpec.witness6 (enc := enc) (C := Try.checked) false ⟨#[], #[.agg #[.string ⟨#[]⟩, .int .i64 0, .int .u64 0, .int .i64 0, .int .u64 0, .slice none 0 0, .int .i64 0, .int .u32 0, .int .u32 0, .int .u64 0, .int .u64 0, .int .u64 0, .int .u64 0, .int .u64 0, .int .u64 0, .int .u64 0, .int .u32 0, .int .u32 0, .int .u64 0, .int .u64 0, .int .u64 0, .int .u64 0, .int .u64 0, .int .u64 0, .int .u64 0]], []⟩ 8 (by kernel_rfl) (by kernel_rfl) (by kernel_rfl) (by kernel_rfl)) ?_
  intro W base args ds gs before hval0 hW hcnd hsz0 _
  have hsz : (DataW.weightsEach Try.prog (Try.f5.params.toList ++ Rows.semFirstSpec.plain.varTypes Try.prog) (ds ++ gs)).all (· ≤ reachBytes) = true := hsz0
  have hval : ∀ (j : Nat) t v, Try.f5.params[j]? = some t → args[j]? = some v → Value.okWide Try.prog W .any base t v := hval0
  have hW' := hW
  obtain ⟨p, q, hA0, hV, rfl, hfz, hnd⟩ := hW
  have hA : DataW.TrodAll enc Try.prog W 0 (fun _ => true) true Try.f5.params.toList args.toList ds p := hA0
  rw [Try.params5] at hA hval hsz
  obtain ⟨v0, vs0, d0, ds0, p0, q0, hargs, rfl, rfl, h0, r0⟩ := trodAll_cons hA
  obtain ⟨rfl, rfl, rfl⟩ := trodAll_nil r0
  obtain rfl : args = #[v0] := by cases args; simp_all
  obtain ⟨rfl, rfl⟩ := trodVars_none hV
  obtain ⟨x0, t0, d0x, o0x, rfl, hin0, hok0, ht0⟩ := open_first (hval 0 54 v0 rfl rfl) h0
  have k0 := h0
  have lt0 : ∀ x ∈ p0, x.block < W.heap.size := by obtain ⟨m, hm⟩ := k0; exact DataW.trod_lt m _ _ _ hm
  clear hA0 hval0 hsz0 hsz
  refine (SemFirst_w x0 t0 d0x o0x W hin0 hok0 ht0).mono fun e W' ⟨he, bel⟩ => ?_
  subst he
  exact ⟨_, rfl, _, _, _, [], _, [], hW', trodAll_mk1 (shut_bool Try.underlying4 _), (trodAll_cons_mk (Below.trod laidOutB_ (by kernel_rfl) (of_decide_eq_true (by kernel_rfl)) k0 bel lt0) trodAll_mk0), rfl, bel.frame _, fun h => by cases h⟩
theorem SemFirst_holds : Rows.SemFirstSaid :=
  OpenClaim.holds_of_wide 5 Try.f5 rfl rfl rfl rfl rfl rfl rfl ⟨rfl, rfl, rfl, rfl, rfl⟩ rfl rfl rfl rfl rfl (by kernel_rfl) Try.func5 (by kernel_rfl)
    (of_decide_eq_true (by kernel_rfl)) (by unfold Func.isWrapper; first | (rw [if_pos (by decide +kernel)]; kernel_rfl) | (rw [if_neg (by decide +kernel)]; exact ⟨rfl, rfl⟩))
    (fun os started H enc _ => SemFirst_lifted os started H enc)
#print axioms SemFirst_holds
end Go.Proofs.Ytebkbcpnjknkjaa
