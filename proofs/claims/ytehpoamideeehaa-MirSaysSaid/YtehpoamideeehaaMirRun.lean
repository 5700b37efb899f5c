import Derived.Test.YtehpoamideeehaaMirW4
import Derived.Test.YtehpoamideeehaaMirRunP
import Derived.Test.YtehpoamideeehaaStep
set_option linter.unusedVariables false
set_option linter.unusedSimpArgs false
namespace Go.Proofs.Ytehpoamideeehaa
open Go.RowKit
/-! mir.Run: the walk. -/
def RunRel (w : World) (g N : Nat) (regs : Int) (A : Option Addr) (cap : Nat) (q : List R7) (r : List Int) (wr : World) : Prop :=
  RegsAt w.heap.size g N r wr ∧ Below w.heap.size w wr ∧ wr.cell? ⟨w.heap.size, 0, none⟩ = some (.int .i64 regs) ∧ wr.cell? ⟨w.heap.size, 1, none⟩ = some (.slice A q.length cap) ∧ w.heap.size < g ∧ g < wr.heap.size
section
variable {w wr : World} {g N : Nat} {regs : Int} {A : Option Addr} {cap : Nat} {q : List R7} {r : List Int}
theorem RunRel.alloc (h : RunRel w g N regs A cap q r wr) (o : Obj) : RunRel w g N regs A cap q r (wr.alloc o) := by
  obtain ⟨h1, h2, h3, h4, h5, h6⟩ := h
  exact ⟨h1.keep (below1 wr o), below_al h2 o, keepC (below1 wr o) h3, keepC (below1 wr o) h4, h5, by simp; omega⟩
theorem RunRel.set (h : RunRel w g N regs A cap q r wr) (i : Nat) {v : Int} (hv : u32ok v) : RunRel w g N regs A cap q (r.set i v) (wr.setCell ⟨g, i, none⟩ (.int .u32 v)) := by
  obtain ⟨h1, h2, h3, h4, h5, h6⟩ := h
  have hne : ∀ o, (wr.setCell ⟨g, i, none⟩ (.int .u32 v)).cell? ⟨w.heap.size, o, none⟩ = wr.cell? ⟨w.heap.size, o, none⟩ := fun o => World.cell?_setCell_other wr ⟨g, i, none⟩ ⟨w.heap.size, o, none⟩ (.int .u32 v) (fun e => by injection e with e; omega)
  exact ⟨h1.set i hv, h2.setCell (p := ⟨g, i, none⟩) (Nat.le_of_lt h5) _, by rw [hne]; exact h3, by rw [hne]; exact h4, h5, by simpa using h6⟩
theorem RunRel.drew (h : RunRel w g N regs A cap q r wr) : RunRel w g N regs A cap q r wr.drew := by
  obtain ⟨h1, h2, h3, h4, h5, h6⟩ := h
  exact ⟨h1, below_dr h2, h3, h4, h5, h6⟩
theorem RunRel.drewN (h : RunRel w g N regs A cap q r wr) (n : Nat) : RunRel w g N regs A cap q r (wr.drewN n) := by
  obtain ⟨h1, h2, h3, h4, h5, h6⟩ := h
  exact ⟨h1, below_drN h2 n, h3, h4, h5, h6⟩
end
def S3 (w : World) (b g nd : Nat) (nk : Int) (W : World) : Prop := W.cell? ⟨b, 1, none⟩ = some (.int .i64 nd) ∧ W.cell? ⟨b, 4, none⟩ = some (.int .u32 nk) ∧ W.cell? ⟨g, nd, none⟩ = some (cellD W ⟨g, nd, none⟩) ∧ W.frozen? ⟨g, nd, none⟩ = false ∧ Below w.heap.size w W
theorem S3.set {w W : World} {b g nd : Nat} {nk : Int} (h : S3 w b g nd nk W) (hb : g ≠ b) (hg : w.heap.size ≤ g) (v : Value) : S3 w b g nd nk (W.setCell ⟨g, nd, none⟩ v) := by
  obtain ⟨h1, h2, h3, h4, h5⟩ := h
  refine ⟨?_, ?_, cellD_of (isSome_set (by rw [h3]; rfl)), ?_, h5.setCell (p := ⟨g, nd, none⟩) hg _⟩
  · rw [World.cell?_setCell_far _ _ _ _ hb]; exact h1
  · rw [World.cell?_setCell_far _ _ _ _ hb]; exact h2
  · rw [World.frozen?_setCell]; exact h4
theorem S3.mk {w W : World} {b g nd : Nat} {o a b' nk t f : Int} (hs : W.heap.size = b) (hi : (W.cell? ⟨g, nd, none⟩).isSome = true) (hf : W.frozen? ⟨g, nd, none⟩ = false) (hl : g < W.heap.size) (hb : Below w.heap.size w W) :
    S3 w b g nd nk (W.alloc (.cells #[.int .i64 o, .int .i64 nd, .int .i64 a, .int .i64 b', .int .u32 nk, .int .i64 t, .int .i64 f] 37)).drew := by
  subst hs
  have k := below1 W (.cells #[.int .i64 o, .int .i64 nd, .int .i64 a, .int .i64 b', .int .u32 nk, .int .i64 t, .int .i64 f] 37)
  exact ⟨by simp [go_sem], by simp [go_sem], cellD_of ((congrArg Option.isSome (k.cell (p := ⟨g, nd, none⟩) hl)).trans hi), (k.frozen (p := ⟨g, nd, none⟩) hl).trans hf, below_dr (below_al hb _)⟩
set_option maxRecDepth 100000 in
set_option maxHeartbeats 0 in
theorem MRun_c (A : Option Addr) (regs : Int) (cap : Nat) (q : List R7) (Ad : Option Addr) (capd : Nat) (dat : List Int) (hq : ∀ x ∈ q, x.ok) (hn : q.length ≤ 9223372036854775807) (hdok : ∀ x ∈ dat, 0 ≤ x ∧ x < 256) (hdn : dat.length ≤ 9223372036854775807) (w : World)
    (hr : Reads w w.heap.size 7 A q.length (cellsR q)) (hrd : Reads w w.heap.size 1 Ad dat.length (numV .u8 dat)) :
    Calls Try.prog 14 #[.agg #[.int .i64 regs, .slice A q.length cap], .slice Ad dat.length capd] w (RunPost w (runP regs q dat)) := by
  have HR := Lib.hid hr
  have HQ := Lib.hid hq
  have HDR := Lib.hid hrd
  have HD := Lib.hid hdok
  clear hr hq hrd hdok
  obtain ⟨RES, hRES⟩ : ∃ x, x = runP regs q dat := ⟨_, rfl⟩
  rw [← hRES]
  by_cases hz0 : (mcheckP regs q).1 = 0
  · by_cases hd64 : dat.length = 64
    · have hres : mrun q dat q.length 0 (List.replicate regs.toNat 0) 0 = RES := by rw [hRES]; unfold runP; rw [if_neg (by simp [hz0]), if_neg (by simp [hd64])]
      obtain ⟨g1, g2, g3, g4, _, _⟩ := mcheckP_zero hz0
      have HRES := Lib.hid hres
      obtain ⟨N, rfl⟩ := nat_of (show 0 ≤ regs by omega)
      simp only [Int.toNat_natCast] at hres
      have HRES := Lib.hid hres
      have hz0' : ((mcheckP N q).1 != 0) = false := by simp [hz0]
      rw [hd64] at HDR ⊢
      obtain ⟨i0, HI⟩ : ∃ i0, Hid (Try.prog.info? 35 = some i0 ∧ i0.zero = some (.int .u32 0) ∧ i0.size = 1 ∧ i0.bytes = 4) := by
        obtain ⟨i0, hi, hz0, hz1, hz2⟩ := info_parts infoU32
        exact ⟨i0, Lib.hid ⟨hi, hz0, hz1, hz2⟩⟩
      have HZ0 := Lib.hid hz0
      clear hres hRES hz0
      have hN64 : (N : Int) ≤ 64 := by omega
      go_enter Try.func14, Try.ntmps14
      go_wp2_with fail
      refine (MCheck_c A N cap q HQ.out hn _ (HR.out.up (below1 w _))).mono ?_
      rintro e w1 ⟨rfl, hb1⟩
      have c0 : w1.cell? ⟨w.heap.size, 0, none⟩ = some (.int .i64 N) := keepC hb1 (by simp)
      have c1 : w1.cell? ⟨w.heap.size, 1, none⟩ = some (.slice A q.length cap) := keepC hb1 (by simp)
      have hs1 : w.heap.size < w1.heap.size := by have := hb1.size; simp at this; omega
      have hb1' := below_t (below1 w _) hb1
      clear hb1
      go_wp2_with (at_make; refine wpList_make_full _ rfl _ _ 65 rfl w.heap.size 35 i0 _ 1 Try.underlying65 HI.out.1 HI.out.2.1 HI.out.2.2.1 .i64 .i64 _ _ N rfl rfl rfl rfl (by rw [HI.out.2.2.2]; omega) (by simp only [maxLen]; omega) (by omega) ?_)
      intro w2 hown2 hg2
      have hrel0 : RunRel w w1.heap.size N N A cap q (List.replicate N 0) w2 := by
        refine ⟨⟨by simp, ?_, ?_⟩, (hb1'.grown hg2 (by omega) (fun k hk => by cases hk)), ?_, ?_, hs1, ?_⟩
        · intro v hv; obtain rfl := List.eq_of_mem_replicate hv; exact ⟨by decide, by decide⟩
        · have e : (madeCells #[Value.int .u32 0] N).toList = numV .u32 (List.replicate N 0) := by
            simp only [numV, List.map_replicate]; exact toList_madeCells_one _ _
          rw [← e]; exact hown2
        · rw [World.cell?_of_block (a := ⟨w.heap.size, 0, none⟩) (hg2.block _ (by simpa using hs1) (by simp))]; exact c0
        · rw [World.cell?_of_block (a := ⟨w.heap.size, 1, none⟩) (hg2.block _ (by simpa using hs1) (by simp))]; exact c1
        · have := hown2.form (by omega); obtain ⟨g, cap', hv, _, hlt⟩ := this; injection hv with hv; injection hv with hv; injection hv with hv; rw [hv]; exact hlt
      have H0 := Lib.hid hrel0
      obtain ⟨g, hg⟩ : ∃ g, g = w1.heap.size := ⟨_, rfl⟩
      rw [← hg] at H0 ⊢
      clear hown2 hg2 hrel0 hg hs1 hb1' c0 c1
      go_wp2_with fail
      go_loopw [11, 12] (fun i j wr => ∃ (at_ steps : Nat) (r : List Int) (n : Nat), i = .int .i64 at_ ∧ j = .int .i64 steps ∧ at_ < q.length ∧ steps ≤ at_ ∧ q.length ≤ n + at_ ∧ Hid (mrun q dat n at_ r steps = RES) ∧ Hid (RunRel w g N N A cap q r wr)) (fun i _ _ => q.length - (intOf i).toNat)
      case atStart => exact ⟨0, 0, List.replicate N 0, q.length, rfl, rfl, by omega, by omega, by omega, HRES, H0⟩
      case round =>
        obtain ⟨at_, steps, r, n, rfl, rfl, hat, hst, hln, HM, HG⟩ := hrel
        obtain ⟨x, hx⟩ : ∃ x, q[at_]? = some x := ⟨_, List.getElem?_eq_getElem hat⟩
        have hlast := fun h => last_at HZ0.out hx h
        have hfin := fine_at HZ0.out hx
        obtain ⟨k1, k2⟩ : 0 ≤ x.k ∧ x.k < 4294967296 := (HQ.out x (List.mem_of_getElem? hx)).2.2.2.2.1
        obtain ⟨n, rfl⟩ : ∃ m, n = m + 1 := ⟨n - 1, by omega⟩
        have hgr := HG.out.1
        have hgl := HG.out.2.2.2.2.2
        have hwg := HG.out.2.2.2.2.1
        have c0 := HG.out.2.2.1
        have c1 := HG.out.2.2.2.1
        have hbw := HG.out.2.1
        obtain ⟨b, off, hA, hb, i0, i1, i2, i3, i4, i5, i6⟩ := (HR.out.up hbw).ir hx
        have hm := HM.out
        unfold mrun at hm
        rw [hx] at hm
        obtain ⟨f1, f2, fd, fa, fb, f3, ft, ff⟩ := hfin
        have hat' : (at_ : Int) < q.length := by omega
        have hmx' : (q.length : Int) ≤ 65536 := by omega
        have hst' : (steps : Int) ≤ at_ := by omega
        have hgf : ∀ j, wr.frozen? ⟨g, j, none⟩ = false := fun j => hgr.frozen j
        obtain ⟨o, d, a, b', k, t, f⟩ := x
        dsimp only at *
        subst hA
        by_cases h1 : o = 1
        · as_aux_lemma =>
            subst h1
            obtain ⟨qd, pd⟩ := fd (by simp [shD])
            obtain ⟨nd, rfl⟩ := nat_of qd
            have ld : nd < N := by omega
            have ld' : (nd : Int) < N := by omega
            have gd := hgr.get ld
            have ud := getN_ok hgr.2.1 nd
            have hne : ¬ at_ + 1 = q.length := fun h => by have := hlast h; omega
            have HM2 := Lib.hid (show mrun q dat n (at_ + 1) (r.set nd k) (steps + 1) = RES by rw [← hm]; simp [mnext, mset, mval, shD])
            clear hm fd fa fb ft ff hlast hx hgr f3 HM
            go_wp2
            go_roundw
            case rel => exact ⟨at_ + 1, steps + 1, r.set nd k, n, by go_num, by go_num, by omega, by omega, by omega, HM2, Lib.hid (by first | exact (HG.out.set nd ⟨k1, k2⟩).alloc _ | exact ((HG.out.set nd ⟨k1, k2⟩).alloc _).drew | exact ((HG.out.alloc _).drew).set nd ⟨k1, k2⟩ | exact ((HG.out.alloc _).set nd ⟨k1, k2⟩).drew | exact ((HG.out.drew).set nd ⟨k1, k2⟩).alloc _ | exact (((HG.out.set nd ⟨k1, k2⟩).drew).alloc _))⟩
            case measure => simp [intOf]; omega
        by_cases h2 : o = 2
        · as_aux_lemma =>
            subst h2
            obtain ⟨qd, pd⟩ := fd (by simp [shD])
            obtain ⟨nd, rfl⟩ := nat_of qd
            have ld : nd < N := by omega
            have ld' : (nd : Int) < N := by omega
            have gd := hgr.get ld
            have ud := getN_ok hgr.2.1 nd
            obtain ⟨qa, pa⟩ := fa (by simp [shA])
            obtain ⟨na, rfl⟩ := nat_of qa
            have la : na < N := by omega
            have la' : (na : Int) < N := by omega
            have ga := hgr.get la
            have ua := getN_ok hgr.2.1 na
            have hne : ¬ at_ + 1 = q.length := fun h => by have := hlast h; omega
            have HM2 := Lib.hid (show mrun q dat n (at_ + 1) (r.set nd (getN r na)) (steps + 1) = RES by rw [← hm]; simp [mnext, mset, mval, shD])
            clear hm fd fa fb ft ff hlast hx hgr f3 HM
            go_wp2
            refine wp_tail 9 (by kernel_rfl) (by kernel_rfl) ?_
            simp only [List.take_succ_cons, List.take_zero, List.drop_succ_cons, List.drop_zero]
            repeat still_step
            refine wpStill_nil ?_
            go_wp2
            go_roundw
            case rel => exact ⟨at_ + 1, steps + 1, r.set nd (getN r na), n, by go_num, by go_num, by omega, by omega, by omega, HM2, Lib.hid (by first | exact (HG.out.set nd ua).alloc _ | exact ((HG.out.set nd ua).alloc _).drew | exact ((HG.out.alloc _).drew).set nd ua | exact ((HG.out.alloc _).set nd ua).drew | exact ((HG.out.drew).set nd ua).alloc _ | exact (((HG.out.set nd ua).drew).alloc _))⟩
            case measure => simp [intOf]; omega
        by_cases h3 : o = 3
        · as_aux_lemma =>
            subst h3
            obtain ⟨qd, pd⟩ := fd (by simp [shD])
            obtain ⟨nd, rfl⟩ := nat_of qd
            have ld : nd < N := by omega
            have ld' : (nd : Int) < N := by omega
            have gd := hgr.get ld
            have ud := getN_ok hgr.2.1 nd
            obtain ⟨k3, k4⟩ := f3 rfl
            obtain ⟨nk, rfl⟩ := nat_of k1
            have hwd := wordP_ok HD.out nk
            have hne : ¬ at_ + 1 = q.length := fun h => by have := hlast h; omega
            have HM2 := Lib.hid (show mrun q dat n (at_ + 1) (r.set nd (wordP dat nk)) (steps + 1) = RES by rw [← hm]; simp [mnext, mset, mval, shD])
            clear hm fd fa fb ft ff hlast hx hgr f3 HM
            have HWR := Lib.hid (show IntKind.i64.wrap (nk : Int) = nk by simp [IntKind.wrap, IntKind.bits, IntKind.signed]; omega)
            have HC := Lib.hid (fun W hW => (Word_c Ad capd dat hd64 HD.out nk (by omega) (by omega) W w.heap.size (HDR.out.below hW)).mono fun e w' ⟨h1, h2⟩ => (⟨h1, h2.symm⟩ : e = _ ∧ w' = W))
            have hi0 : (wr.cell? ⟨g, nd, none⟩).isSome = true := by rw [gd]; rfl
            have HS0 := Lib.hid (fun (o a b t f : Int) => S3.mk (w := w) (o := o) (a := a) (b' := b) (nk := nk) (t := t) (f := f) (rfl : wr.heap.size = wr.heap.size) hi0 (hgf nd) hgl hbw)
            have HS1 := Lib.hid (fun (v : Value) (o a b t f : Int) => S3.mk (w := w) (W := wr.setCell ⟨g, nd, none⟩ v) (o := o) (a := a) (b' := b) (nk := nk) (t := t) (f := f) (b := wr.heap.size) (by simp [World.setCell]) (isSome_set hi0) (by rw [World.frozen?_setCell]; exact hgf nd) (by simpa [World.setCell] using hgl) (hbw.setCell (p := ⟨g, nd, none⟩) (by show w.heap.size ≤ g; omega) v))
            clear hi0
            go_wp2
            go_region_held3 (fun W => W.cell? ⟨wr.heap.size, 1, none⟩ = some (.int .i64 nd) ∧ W.cell? ⟨wr.heap.size, 4, none⟩ = some (.int .u32 nk) ∧ W.cell? ⟨g, nd, none⟩ = some (cellD W ⟨g, nd, none⟩) ∧ W.frozen? ⟨g, nd, none⟩ = false ∧ Below w.heap.size w W) (first | exact HS0.out _ _ _ _ _ | exact HS1.out _ _ _ _ _ _ | assumption)
              (first | (go_at_call 28; go_must ((first | rw [HWR.out] | skip); refine (HC.out _ (below_dr (below_al hbw _))).mono ?_; rintro e w' ⟨rfl, rfl⟩)))
            go_wp2
            go_roundw
            case rel => exact ⟨at_ + 1, steps + 1, r.set nd (wordP dat nk), n, by go_num, by go_num, by omega, by omega, by omega, HM2, Lib.hid (by first | exact (HG.out.set nd hwd).alloc _ | exact ((HG.out.set nd hwd).alloc _).drew | exact ((HG.out.alloc _).drew).set nd hwd | exact ((HG.out.alloc _).set nd hwd).drew | exact ((HG.out.drew).set nd hwd).alloc _ | exact (((HG.out.set nd hwd).drew).alloc _))⟩
            case measure => simp [intOf]; omega
        by_cases h13 : o = 13
        · as_aux_lemma =>
            subst h13
            obtain ⟨qd, pd⟩ := fd (by simp [shD])
            obtain ⟨nd, rfl⟩ := nat_of qd
            have ld : nd < N := by omega
            have ld' : (nd : Int) < N := by omega
            have gd := hgr.get ld
            have ud := getN_ok hgr.2.1 nd
            obtain ⟨qa, pa⟩ := fa (by simp [shA])
            obtain ⟨na, rfl⟩ := nat_of qa
            have la : na < N := by omega
            have la' : (na : Int) < N := by omega
            have ga := hgr.get la
            have ua := getN_ok hgr.2.1 na
            have hv : u32ok ((-getN r na) % 4294967296) := ⟨Int.emod_nonneg _ (by decide), Int.emod_lt_of_pos _ (by decide)⟩
            have hne : ¬ at_ + 1 = q.length := fun h => by have := hlast h; omega
            have HM2 := Lib.hid (show mrun q dat n (at_ + 1) (r.set nd ((-getN r na) % 4294967296)) (steps + 1) = RES by rw [← hm]; simp [mnext, mset, mval, shD])
            clear hm fd fa fb ft ff hlast hx hgr f3 HM
            go_wp2
            refine wp_tail 10 (by kernel_rfl) (by kernel_rfl) ?_
            simp only [List.take_succ_cons, List.take_zero, List.drop_succ_cons, List.drop_zero]
            repeat still_step
            refine wpStill_nil ?_
            go_wp2
            go_roundw
            case rel => exact ⟨at_ + 1, steps + 1, r.set nd ((-getN r na) % 4294967296), n, by go_num, by go_num, by omega, by omega, by omega, HM2, Lib.hid (by first | exact (HG.out.set nd hv).alloc _ | exact ((HG.out.set nd hv).alloc _).drew | exact ((HG.out.alloc _).drew).set nd hv | exact ((HG.out.alloc _).set nd hv).drew | exact ((HG.out.drew).set nd hv).alloc _ | exact (((HG.out.set nd hv).drew).alloc _))⟩
            case measure => simp [intOf]; omega
        by_cases h14 : o = 14
        · as_aux_lemma =>
            subst h14
            obtain ⟨qt, pt⟩ := ft (by simp [shT])
            obtain ⟨nt, rfl⟩ := nat_of (show 0 ≤ t by omega)
            have hne : ¬ at_ + 1 = q.length := fun h => by have := hlast h; omega
            have HM2 := Lib.hid (show mrun q dat n nt r (steps + 1) = RES by rw [← hm]; simp [mnext, mset, mval, shD])
            clear hm fd fa fb ft ff hlast hx hgr f3 HM
            go_wp2
            go_roundw
            case rel => exact ⟨nt, steps + 1, r, n, by go_num, by go_num, by omega, by omega, by omega, HM2, Lib.hid (by first | exact HG.out.alloc _)⟩
            case measure => simp [intOf]; omega
        by_cases h15 : o = 15
        · as_aux_lemma =>
            subst h15
            obtain ⟨qa, pa⟩ := fa (by simp [shA])
            obtain ⟨na, rfl⟩ := nat_of qa
            have la : na < N := by omega
            have la' : (na : Int) < N := by omega
            have ga := hgr.get la
            have ua := getN_ok hgr.2.1 na
            obtain ⟨qb, pb⟩ := fb (by simp [shB])
            obtain ⟨nb, rfl⟩ := nat_of qb
            have lb : nb < N := by omega
            have lb' : (nb : Int) < N := by omega
            have gb := hgr.get lb
            have ub := getN_ok hgr.2.1 nb
            obtain ⟨qt, pt⟩ := ft (by simp [shT])
            obtain ⟨nt, rfl⟩ := nat_of (show 0 ≤ t by omega)
            obtain ⟨qf, pf⟩ := ff (by simp [shF])
            obtain ⟨nf, rfl⟩ := nat_of (show 0 ≤ f by omega)
            have HS : saysP 15 (getN r na) (getN r nb) = saysP 15 (getN r na) (getN r nb) := rfl
            by_cases hs : getN r na = getN r nb
            · have hq : (getN r na == getN r nb) = true := by simpa using hs
              have hne : ¬ at_ + 1 = q.length := fun h => by have := hlast h; omega
              have HM2 := Lib.hid (show mrun q dat n nt r (steps + 1) = RES by rw [← hm]; simp [mnext, mset, shD, saysP, hs])
              clear hm fd fa fb ft ff hlast hx hgr f3 HM HS hs
              go_wp2
              go_quiet (fail)
              go_wp2
              go_roundw
              case rel => exact ⟨nt, steps + 1, r, n, by go_num, by go_num, by omega, by omega, by omega, HM2, Lib.hid ((HG.out.alloc _).drewN _)⟩
              case measure => simp [intOf]; omega
            · have hq : (getN r na == getN r nb) = false := by simpa using hs
              have hne : ¬ at_ + 1 = q.length := fun h => by have := hlast h; omega
              have HM2 := Lib.hid (show mrun q dat n nf r (steps + 1) = RES by rw [← hm]; simp [mnext, mset, shD, saysP, hs])
              clear hm fd fa fb ft ff hlast hx hgr f3 HM HS hs
              go_wp2
              go_quiet (fail)
              go_wp2
              go_roundw
              case rel => exact ⟨nf, steps + 1, r, n, by go_num, by go_num, by omega, by omega, by omega, HM2, Lib.hid ((HG.out.alloc _).drewN _)⟩
              case measure => simp [intOf]; omega
        by_cases h16 : o = 16
        · as_aux_lemma =>
            subst h16
            obtain ⟨qa, pa⟩ := fa (by simp [shA])
            obtain ⟨na, rfl⟩ := nat_of qa
            have la : na < N := by omega
            have la' : (na : Int) < N := by omega
            have ga := hgr.get la
            have ua := getN_ok hgr.2.1 na
            obtain ⟨qb, pb⟩ := fb (by simp [shB])
            obtain ⟨nb, rfl⟩ := nat_of qb
            have lb : nb < N := by omega
            have lb' : (nb : Int) < N := by omega
            have gb := hgr.get lb
            have ub := getN_ok hgr.2.1 nb
            obtain ⟨qt, pt⟩ := ft (by simp [shT])
            obtain ⟨nt, rfl⟩ := nat_of (show 0 ≤ t by omega)
            obtain ⟨qf, pf⟩ := ff (by simp [shF])
            obtain ⟨nf, rfl⟩ := nat_of (show 0 ≤ f by omega)
            have HS : saysP 16 (getN r na) (getN r nb) = saysP 16 (getN r na) (getN r nb) := rfl
            by_cases hs : getN r nb < getN r na
            · have hq : decide (getN r nb < getN r na) = true := by simpa using hs
              have hne : ¬ at_ + 1 = q.length := fun h => by have := hlast h; omega
              have HM2 := Lib.hid (show mrun q dat n nt r (steps + 1) = RES by rw [← hm]; simp [mnext, mset, shD, saysP, hs])
              clear hm fd fa fb ft ff hlast hx hgr f3 HM HS hs
              go_wp2
              go_quiet (fail)
              go_wp2
              go_roundw
              case rel => exact ⟨nt, steps + 1, r, n, by go_num, by go_num, by omega, by omega, by omega, HM2, Lib.hid ((HG.out.alloc _).drewN _)⟩
              case measure => simp [intOf]; omega
            · have hq : decide (getN r nb < getN r na) = false := by simpa using hs
              have hne : ¬ at_ + 1 = q.length := fun h => by have := hlast h; omega
              have HM2 := Lib.hid (show mrun q dat n nf r (steps + 1) = RES by rw [← hm]; simp [mnext, mset, shD, saysP, hs])
              clear hm fd fa fb ft ff hlast hx hgr f3 HM HS hs
              go_wp2
              go_quiet (fail)
              go_wp2
              go_roundw
              case rel => exact ⟨nf, steps + 1, r, n, by go_num, by go_num, by omega, by omega, by omega, HM2, Lib.hid ((HG.out.alloc _).drewN _)⟩
              case measure => simp [intOf]; omega
        by_cases h17 : o = 17
        · as_aux_lemma =>
            subst h17
            obtain ⟨qa, pa⟩ := fa (by simp [shA])
            obtain ⟨na, rfl⟩ := nat_of qa
            have la : na < N := by omega
            have la' : (na : Int) < N := by omega
            have ga := hgr.get la
            have ua := getN_ok hgr.2.1 na
            obtain ⟨qb, pb⟩ := fb (by simp [shB])
            obtain ⟨nb, rfl⟩ := nat_of qb
            have lb : nb < N := by omega
            have lb' : (nb : Int) < N := by omega
            have gb := hgr.get lb
            have ub := getN_ok hgr.2.1 nb
            obtain ⟨qt, pt⟩ := ft (by simp [shT])
            obtain ⟨nt, rfl⟩ := nat_of (show 0 ≤ t by omega)
            obtain ⟨qf, pf⟩ := ff (by simp [shF])
            obtain ⟨nf, rfl⟩ := nat_of (show 0 ≤ f by omega)
            have HS : saysP 17 (getN r na) (getN r nb) = saysP 17 (getN r na) (getN r nb) := rfl
            by_cases hs : getN r nb ≤ getN r na
            · have hq : decide (getN r nb ≤ getN r na) = true := by simpa using hs
              have hne : ¬ at_ + 1 = q.length := fun h => by have := hlast h; omega
              have HM2 := Lib.hid (show mrun q dat n nt r (steps + 1) = RES by rw [← hm]; simp [mnext, mset, shD, saysP, hs])
              clear hm fd fa fb ft ff hlast hx hgr f3 HM HS hs
              go_wp2
              go_quiet (fail)
              go_wp2
              go_roundw
              case rel => exact ⟨nt, steps + 1, r, n, by go_num, by go_num, by omega, by omega, by omega, HM2, Lib.hid ((HG.out.alloc _).drewN _)⟩
              case measure => simp [intOf]; omega
            · have hq : decide (getN r nb ≤ getN r na) = false := by simpa using hs
              have hne : ¬ at_ + 1 = q.length := fun h => by have := hlast h; omega
              have HM2 := Lib.hid (show mrun q dat n nf r (steps + 1) = RES by rw [← hm]; simp [mnext, mset, shD, saysP, hs])
              clear hm fd fa fb ft ff hlast hx hgr f3 HM HS hs
              go_wp2
              go_quiet (fail)
              go_wp2
              go_roundw
              case rel => exact ⟨nf, steps + 1, r, n, by go_num, by go_num, by omega, by omega, by omega, HM2, Lib.hid ((HG.out.alloc _).drewN _)⟩
              case measure => simp [intOf]; omega
        by_cases h18 : o = 18
        · as_aux_lemma =>
            subst h18
            obtain ⟨qa, pa⟩ := fa (by simp [shA])
            obtain ⟨na, rfl⟩ := nat_of qa
            have la : na < N := by omega
            have la' : (na : Int) < N := by omega
            have ga := hgr.get la
            have ua := getN_ok hgr.2.1 na
            obtain ⟨qb, pb⟩ := fb (by simp [shB])
            obtain ⟨nb, rfl⟩ := nat_of qb
            have lb : nb < N := by omega
            have lb' : (nb : Int) < N := by omega
            have gb := hgr.get lb
            have ub := getN_ok hgr.2.1 nb
            obtain ⟨qt, pt⟩ := ft (by simp [shT])
            obtain ⟨nt, rfl⟩ := nat_of (show 0 ≤ t by omega)
            obtain ⟨qf, pf⟩ := ff (by simp [shF])
            obtain ⟨nf, rfl⟩ := nat_of (show 0 ≤ f by omega)
            have HS : saysP 18 (getN r na) (getN r nb) = saysP 18 (getN r na) (getN r nb) := rfl
            by_cases hs : ¬ bits .and .u32 (getN r na) (getN r nb) = 0
            · have hq : (bits .and .u32 (getN r na) (getN r nb) != 0) = true := by simpa using hs
              have hne : ¬ at_ + 1 = q.length := fun h => by have := hlast h; omega
              have HM2 := Lib.hid (show mrun q dat n nt r (steps + 1) = RES by rw [← hm]; simp [mnext, mset, shD, saysP, hs])
              clear hm fd fa fb ft ff hlast hx hgr f3 HM HS hs
              go_wp2
              go_quiet (fail)
              go_wp2
              go_roundw
              case rel => exact ⟨nt, steps + 1, r, n, by go_num, by go_num, by omega, by omega, by omega, HM2, Lib.hid ((HG.out.alloc _).drewN _)⟩
              case measure => simp [intOf]; omega
            · have hq : (bits .and .u32 (getN r na) (getN r nb) != 0) = false := by simpa using hs
              have hne : ¬ at_ + 1 = q.length := fun h => by have := hlast h; omega
              have HM2 := Lib.hid (show mrun q dat n nf r (steps + 1) = RES by rw [← hm]; simp [mnext, mset, shD, saysP, hs])
              clear hm fd fa fb ft ff hlast hx hgr f3 HM HS hs
              go_wp2
              go_quiet (fail)
              go_wp2
              go_roundw
              case rel => exact ⟨nf, steps + 1, r, n, by go_num, by go_num, by omega, by omega, by omega, HM2, Lib.hid ((HG.out.alloc _).drewN _)⟩
              case measure => simp [intOf]; omega
        by_cases h19 : o = 19
        · as_aux_lemma =>
            subst h19
            obtain ⟨qa, pa⟩ := fa (by simp [shA])
            obtain ⟨na, rfl⟩ := nat_of qa
            have la : na < N := by omega
            have la' : (na : Int) < N := by omega
            have ga := hgr.get la
            have ua := getN_ok hgr.2.1 na
            have HF := Lib.hid (show RES = (getN r na, (steps : Int) + 1, 0, 0) by rw [← hm]; simp)
            clear hm fd fa fb ft ff hlast hx hgr f3 HM
            go_wp2
            refine bodyPost_ret (v := .tuple #[.int .u32 (getN r na), .int .i64 ((steps : Int) + 1), .int .i64 0, .int .i64 0]) (by simp [results, Try.results14, go_sem]) rfl ⟨ret4_eq HF.out, below_al hbw _⟩
        have h4 : 4 ≤ o := by omega
        have h12 : o ≤ 12 := by omega
        as_aux_lemma =>
            have z1 : (o == 1) = false := by rw [beq_eq_false_iff_ne]; omega
            have z2 : (o == 2) = false := by rw [beq_eq_false_iff_ne]; omega
            have z3 : (o == 3) = false := by rw [beq_eq_false_iff_ne]; omega
            have z13 : (o == 13) = false := by rw [beq_eq_false_iff_ne]; omega
            have z14 : (o == 14) = false := by rw [beq_eq_false_iff_ne]; omega
            have z15 : (o == 15) = false := by rw [beq_eq_false_iff_ne]; omega
            have z16 : (o == 16) = false := by rw [beq_eq_false_iff_ne]; omega
            have z17 : (o == 17) = false := by rw [beq_eq_false_iff_ne]; omega
            have z18 : (o == 18) = false := by rw [beq_eq_false_iff_ne]; omega
            have z19 : (o == 19) = false := by rw [beq_eq_false_iff_ne]; omega
            have y1 : decide (15 ≤ o) = false := by simp; omega
            have y3 : ¬ o = 3 := by omega
            obtain ⟨qd, pd⟩ := fd (by simp [shD]; omega)
            obtain ⟨nd, rfl⟩ := nat_of qd
            have ld : nd < N := by omega
            have ld' : (nd : Int) < N := by omega
            have gd := hgr.get ld
            have ud := getN_ok hgr.2.1 nd
            obtain ⟨qa, pa⟩ := fa (by simp [shA]; omega)
            obtain ⟨na, rfl⟩ := nat_of qa
            have la : na < N := by omega
            have la' : (na : Int) < N := by omega
            have ga := hgr.get la
            have ua := getN_ok hgr.2.1 na
            obtain ⟨qb, pb⟩ := fb (by simp [shB]; omega)
            obtain ⟨nb, rfl⟩ := nat_of qb
            have lb : nb < N := by omega
            have lb' : (nb : Int) < N := by omega
            have gb := hgr.get lb
            have ub := getN_ok hgr.2.1 nb
            by_cases hz : o = 7 ∧ getN r nb = 0
            · obtain ⟨rfl, hz2⟩ := hz
              have HF := Lib.hid (show RES = (0, (steps : Int), 8, (at_ : Int)) by rw [← hm]; simp [hz2])
              rw [hz2] at gb
              clear hm fd fa fb ft ff hlast hx hgr f3 HM hz2
              have hw1 : (at_ : Int) + 1 - 1 = at_ := by omega
              go_wp2
              go_quiet ((go_at_call 29; exact Calls.quiet_of_same ((sum_zero _ _).mono fun e w' ⟨h1, h2⟩ => ⟨h1, h2.symm⟩)))
              go_wp2
              refine bodyPost_ret (v := .tuple #[.int .u32 0, .int .i64 steps, .int .i64 8, .int .i64 at_]) (by simp [results, Try.results14, go_sem]) rfl ⟨ret4_eq HF.out, below_drN (below_al hbw _) _⟩
            · have hv := sumP_ok (o := o) ua ub
              have hne : ¬ at_ + 1 = q.length := fun h => by have := hlast h; omega
              have HM2 := Lib.hid (show mrun q dat n (at_ + 1) (r.set nd (sumP o (getN r na) (getN r nb))) (steps + 1) = RES by
                rw [← hm, if_neg (by omega), if_neg (by simpa using hz)]
                have e1 : shD o = true := by simp [shD]; omega
                simp [mnext, mset, mval, e1, show ¬ o = 14 by omega, show ¬ 15 ≤ o by omega, show ¬ o = 1 by omega, show ¬ o = 2 by omega, show ¬ o = 3 by omega, show ¬ o = 13 by omega])
              have HZ := Lib.hid hz
              clear hm fd fa fb ft ff hlast hx hgr f3 HM hz
              go_wp2
              go_quiet ((go_at_call 29; exact Calls.quiet_of_same ((sum_c o _ _ h4 h12 ua ub HZ.out _).mono fun e w' ⟨h1, h2⟩ => ⟨h1, h2.symm⟩)))
              go_wp2
              go_roundw
              case rel => exact ⟨at_ + 1, steps + 1, r.set nd (sumP o (getN r na) (getN r nb)), n, by go_num, by go_num, by omega, by omega, by omega, HM2, Lib.hid (by first | exact ((HG.out.alloc _).drewN _).set nd hv | exact ((HG.out.set nd hv).alloc _).drewN _ | exact ((HG.out.alloc _).set nd hv).drewN _ | exact ((HG.out.set nd hv).drewN _).alloc _)⟩
              case measure => simp [intOf]; omega
    · have hf : runP regs q dat = (0, 0, 21, 0) := by unfold runP; rw [if_neg (by simp [hz0]), if_pos (by simpa using hd64)]
      have HF := Lib.hid (show RES = (0, 0, 21, 0) by rw [hRES, hf])
      have hz0' : ((mcheckP regs q).1 != 0) = false := by simp [hz0]
      have hdd : ((dat.length : Int) != 64) = true := by simp; omega
      clear hRES hz0 hd64 hf
      go_enter Try.func14, Try.ntmps14
      go_wp2_with fail
      refine (MCheck_c A regs cap q HQ.out hn _ (HR.out.up (below1 w _))).mono ?_
      rintro e w1 ⟨rfl, hb1⟩
      go_wp2
      refine bodyPost_ret (v := .tuple #[.int .u32 0, .int .i64 0, .int .i64 21, .int .i64 0]) (by simp [results, Try.results14, go_sem]) rfl ⟨ret4_eq HF.out, below_t (below1 w _) hb1⟩
  · have hf : runP regs q dat = (0, 0, (mcheckP regs q).1, (mcheckP regs q).2) := by unfold runP; rw [if_pos (by simpa using hz0)]
    have HF := Lib.hid (show RES = (0, 0, (mcheckP regs q).1, (mcheckP regs q).2) by rw [hRES, hf])
    have hz0' : ((mcheckP regs q).1 != 0) = true := by simpa using hz0
    clear hRES hz0 hf
    go_enter Try.func14, Try.ntmps14
    go_wp2_with fail
    refine (MCheck_c A regs cap q HQ.out hn _ (HR.out.up (below1 w _))).mono ?_
    rintro e w1 ⟨rfl, hb1⟩
    go_wp2
    refine bodyPost_ret (v := .tuple #[.int .u32 0, .int .i64 0, .int .i64 (mcheckP regs q).1, .int .i64 (mcheckP regs q).2]) (by simp [results, Try.results14, go_sem]) rfl ⟨ret4_eq HF.out, below_t (below1 w _) hb1⟩
end Go.Proofs.Ytehpoamideeehaa
