import Derived.Test.YtebkbcpnjknkjaaSemW9
set_option linter.unusedVariables false
set_option linter.unusedSimpArgs false
set_option maxRecDepth 100000
namespace Go.Proofs.Ytebkbcpnjknkjaa
open Go.RowKit
/-! sem.Check: the walk. -/
structure BoxS (w : World) (ob : Obj) (W : World) : Prop where
  below : Below w.heap.size w W
  box : W.heap[w.heap.size]? = some ob
theorem BoxS.call {w W W' : World} {ob : Obj} (h : BoxS w ob W) (hb : Below W.heap.size W W') : BoxS w ob W' :=
  ⟨below_t h.below hb, (hb.block _ (Array.getElem?_eq_some_iff.1 h.box).1).trans h.box⟩
theorem BoxS.alloc {w W : World} {ob : Obj} (h : BoxS w ob W) (o : Obj) : BoxS w ob (W.alloc o) := h.call (below1 W o)
theorem BoxS.drewN {w W : World} {ob : Obj} (h : BoxS w ob W) (n : Nat) : BoxS w ob (W.drewN n) := ⟨below_drN h.below n, h.box⟩
theorem BoxS.lt {w W : World} {ob : Obj} (h : BoxS w ob W) : w.heap.size < W.heap.size := (Array.getElem?_eq_some_iff.1 h.box).1
def CheckPost (x : Int × Int) (w : World) (e : Ending) (w' : World) : Prop := e = .returned (.tuple #[.int .i64 x.1, .int .i64 x.2]) ∧ Below w.heap.size w w'
theorem ret_ii7 {a b x y : Int} (h1 : a = b) (h2 : x = y) : Ending.returned (.tuple #[.int .i64 a, .int .i64 x]) = .returned (.tuple #[.int .i64 b, .int .i64 y]) := by rw [h1, h2]
set_option maxHeartbeats 3200000 in
theorem Check_c (N : Nat → Prop) (p : PolA) (w : World) (hok : p.Ok) (hin : p.In w N) : Calls Try.prog 14 #[p.val] w (CheckPost (checkP 1099511627776 p) w) := by
  obtain ⟨ar, fk, fd, dk, dd, A, cap, rs⟩ := p
  obtain ⟨hsz, hfd, hdd, hrs⟩ := hok
  obtain ⟨hrow, hall⟩ := hin
  dsimp only at hsz hfd hdd hrs hrow hall
  obtain ⟨res, hres⟩ : ∃ res, res = checkP 1099511627776 ⟨ar, fk, fd, dk, dd, A, cap, rs⟩ := ⟨_, rfl⟩
  rw [← hres]
  unfold checkP at hres
  dsimp only at hres
  have HARCH := Lib.hid (fun w => Arch_c ar hsz w)
  have HA1 := Lib.hid (fun w => Action_c fk fd hfd w)
  have HA2 := Lib.hid (fun w => Action_c dk dd hdd w)
  obtain ⟨an, ab, har⟩ : ∃ an ab, archP ar.data.toList = (an, ab) := ⟨_, _, rfl⟩
  obtain ⟨v1, o1, hv1⟩ : ∃ an ab, actionP fk fd = (an, ab) := ⟨_, _, rfl⟩
  obtain ⟨v2, o2, hv2⟩ : ∃ an ab, actionP dk dd = (an, ab) := ⟨_, _, rfl⟩
  rw [har, hv1, hv2] at hres
  unfold ArchPost at HARCH
  unfold NumPost7 at HA1 HA2
  rw [har] at HARCH
  rw [hv1] at HA1
  rw [hv2] at HA2
  dsimp only at HARCH HA1 HA2 hres
  have HRS := Lib.hid hrs
  have HROW := Lib.hid hrow
  have HALL := Lib.hid hall
  unfold PolA.val
  dsimp only
  clear hsz hfd hdd hrs hrow hall har hv1 hv2
  have HB0 := Lib.hid (show BoxS w (.cells #[.string ar, .int .i64 fk, .int .u64 fd, .int .i64 dk, .int .u64 dd, .slice A rs.length cap] 29 (0, 0)) (w.alloc (.cells #[.string ar, .int .i64 fk, .int .u64 fd, .int .i64 dk, .int .u64 dd, .slice A rs.length cap] 29)) from ⟨below1 w _, heap_nwT w _⟩)
  cases ab with
  | false =>
    rw [if_pos (show false = false from rfl)] at hres
    have HF := Lib.hid hres
    clear hres
    go_enter Try.func14, Try.ntmps14
    go_wp2_with fail
    refine (HARCH.out _).mono ?_
    rintro e w1 ⟨rfl, hb1⟩
    have HB1 := Lib.hid (HB0.out.call hb1)
    clear hb1
    go_wp2
    go_ret2
    exact ⟨ret_ii7 (by rw [HF.out]) (by rw [HF.out]), HB1.out.below⟩
  | true =>
    rw [if_neg (show ¬ (true = false) by decide)] at hres
    have HRES := Lib.hid hres
    clear hres
    go_enter Try.func14, Try.ntmps14
    go_wp2_with fail
    refine (HARCH.out _).mono ?_
    rintro e w1 ⟨rfl, hb1⟩
    have HB1 := Lib.hid (HB0.out.call hb1)
    clear hb1
    obtain ⟨b0, b1, b2, b3, b4, b5⟩ := (box6 HB1.out.box).1
    have HS := Lib.hid (show BoxS w _ (w1.alloc (.cells #[.int .i64 fk, .int .u64 fd, .int .i64 dk, .int .u64 dd] 26)) ∧ (w1.alloc (.cells #[.int .i64 fk, .int .u64 fd, .int .i64 dk, .int .u64 dd] 26)).heap[w1.heap.size]? = some (.cells #[.int .i64 fk, .int .u64 fd, .int .i64 dk, .int .u64 dd] 26 (0, 0)) from ⟨HB1.out.alloc _, heap_nwT _ _⟩)
    obtain ⟨V, hV⟩ : ∃ V, V = w1.heap.size := ⟨_, rfl⟩
    rw [← hV] at HS
    go_wp2_with fail
    rw [← hV]
    clear HB1 b0 b1 b2 b3 b4 b5 hV
    go_loopw [27] (fun i wr => ∃ n : Nat, i = .int .i64 n ∧ n ≤ 2 ∧ Hid (BoxS w (.cells #[.string ar, .int .i64 fk, .int .u64 fd, .int .i64 dk, .int .u64 dd, .slice A rs.length cap] 29 (0, 0)) wr ∧ wr.heap[V]? = some (.cells #[.int .i64 fk, .int .u64 fd, .int .i64 dk, .int .u64 dd] 26 (0, 0))) ∧ Hid ((1 ≤ n → o1 = true) ∧ (2 ≤ n → o2 = true))) (fun i _ => 2 - (intOf i).toNat)
    case atStart => exact ⟨0, rfl, by omega, HS, Lib.hid ⟨fun h => by omega, fun h => by omega⟩⟩
    case round =>
      obtain ⟨n, rfl, hn, HB, HO⟩ := hrel
      clear HS
      obtain ⟨g0, g1, g2, g3, -⟩ := box4R HB.out.2
      have hlt : n = 0 ∨ n = 1 ∨ n = 2 := by omega
      rcases hlt with rfl | rfl | rfl
      · cases o1 with
        | false =>
          have HF := Lib.hid (by have := HRES.out; rwa [if_pos (Or.inl rfl)] at this)
          go_wp2_with fail
          refine (HA1.out _).mono ?_
          rintro e w2 ⟨rfl, hb2⟩
          have HB2 := Lib.hid ((HB.out.1.alloc (.cells #[.int .i64 fk, .int .u64 fd] 26)).call hb2)
          clear hb2
          go_wp2
          go_ret2
          exact ⟨ret_ii7 (by rw [HF.out]) (by rw [HF.out]), HB2.out.below⟩
        | true =>
          go_wp2_with fail
          refine (HA1.out _).mono ?_
          rintro e w2 ⟨rfl, hb2⟩
          have HB2 := Lib.hid (show BoxS w _ w2 ∧ w2.heap[V]? = _ from ⟨(HB.out.1.alloc (.cells #[.int .i64 fk, .int .u64 fd] 26)).call hb2, keepH hb2 (alloc_box HB.out.2 _)⟩)
          clear hb2
          go_wp2
          go_roundw
          case rel => exact ⟨1, rfl, by omega, HB2, Lib.hid ⟨fun _ => by simp, fun h => by omega⟩⟩
          case measure => simp [intOf]
      · cases o2 with
        | false =>
          have HF := Lib.hid (by have := HRES.out; rwa [if_pos (Or.inr rfl)] at this)
          go_wp2_with fail
          refine (HA2.out _).mono ?_
          rintro e w2 ⟨rfl, hb2⟩
          have HB2 := Lib.hid ((HB.out.1.alloc (.cells #[.int .i64 dk, .int .u64 dd] 26)).call hb2)
          clear hb2
          go_wp2
          go_ret2
          exact ⟨ret_ii7 (by rw [HF.out]) (by rw [HF.out]), HB2.out.below⟩
        | true =>
          have ho1 := HO.out.1 (by omega)
          go_wp2_with fail
          refine (HA2.out _).mono ?_
          rintro e w2 ⟨rfl, hb2⟩
          have HB2 := Lib.hid (show BoxS w _ w2 ∧ w2.heap[V]? = _ from ⟨(HB.out.1.alloc (.cells #[.int .i64 dk, .int .u64 dd] 26)).call hb2, keepH hb2 (alloc_box HB.out.2 _)⟩)
          clear hb2
          go_wp2
          go_roundw
          case rel => exact ⟨2, rfl, by omega, HB2, Lib.hid ⟨fun _ => ho1, fun _ => by simp⟩⟩
          case measure => simp [intOf]
      · have HRES2 := Lib.hid (by have := HRES.out; rwa [if_neg (show ¬ (o1 = false ∨ o2 = false) by rw [HO.out.1 (by omega), HO.out.2 (by omega)]; decide)] at this)
        have HB1 := Lib.hid HB.out.1
        clear HO HB g0 g1 g2 g3 HRES
        obtain ⟨b0, b1, b2, b3, b4, b5⟩ := (box6 HB1.out.box).1
        by_cases h512 : 512 < rs.length
        · have HF := Lib.hid (by have := HRES2.out; rwa [if_pos h512] at this)
          have h512' : (512 : Int) < rs.length := by omega
          clear h512
          go_wp2
          go_ret2
          exact ⟨ret_ii7 (by rw [HF.out]) (by rw [HF.out]), HB1.out.below⟩
        · have HR0 : Hid (res = rulesP 1099511627776 ar 0 (rs.drop 0)) := Lib.hid (by have := HRES2.out; rwa [if_neg h512] at this)
          have h512' : ¬ (512 : Int) < rs.length := by omega
          have hr512 : rs.length ≤ 512 := by omega
          clear h512 HRES2
          go_wp2_with fail
          clear b0 b1 b2 b3 b4 b5
          go_loopw [46] (fun i wr => ∃ n : Nat, i = .int .i64 n ∧ n ≤ rs.length ∧ Hid (BoxS w (.cells #[.string ar, .int .i64 fk, .int .u64 fd, .int .i64 dk, .int .u64 dd, .slice A rs.length cap] 29 (0, 0)) wr) ∧ Hid (res = rulesP 1099511627776 ar n (rs.drop n))) (fun i _ => rs.length - (intOf i).toNat)
          case atStart => exact ⟨0, rfl, by omega, HB1, HR0⟩
          case round =>
            obtain ⟨n, rfl, hn, HB, HE⟩ := hrel
            clear HB1 HR0
            rcases Nat.lt_or_ge n rs.length with hlt | hge
            · have hlt' : (n : Int) < rs.length := by omega
              obtain ⟨⟨xA, xcap, cs, ⟨xo, xeA, xc, xl, xf, xm, xr, xv⟩, xdk, xdd⟩, hy⟩ : ∃ y, rs[n]? = some y := ⟨_, List.getElem?_eq_getElem hlt⟩
              have hE := HE.out
              rw [rulesP_drop hy] at hE
              have hmem := List.mem_of_getElem? hy
              obtain ⟨b, off, rfl, hbb, i0, i1, i2, i3, i4, i5, i6, i7, i8⟩ := (HROW.out.keep (N' := N) (fun b hb hl => ⟨hb, HB.out.below.block b hl⟩) (by decide)).rule hy
              have hinr := (HALL.out _ hmem).keep (N' := N) (fun b hb hl => ⟨hb, HB.out.below.block b hl⟩)
              have hcall := fun W h => rule_c N ar ⟨xA, xcap, cs, .mk xo xeA xc xl xf xm xr xv, xdk, xdd⟩ W (HRS.out _ hmem) h
              obtain ⟨er, her⟩ : ∃ er, er = ruleP 1099511627776 ar ⟨xA, xcap, cs, .mk xo xeA xc xl xf xm xr xv, xdk, xdd⟩ := ⟨_, rfl⟩
              rw [← her] at hE hcall
              unfold IntPost RuA.val RuA.cells ExA.cells at hcall
              simp only [List.cons_append, List.nil_append] at hcall
              have HCALL := Lib.hid hcall
              have HINR := Lib.hid (hinr.keep (W' := wr.alloc (.cells #[.slice xA cs.length xcap, .int .i64 xo, .slice xeA xl.length xc, .int .i64 xf, .int .u64 xm, .int .i64 xr, .int .u64 xv, .int .i64 xdk, .int .u64 xdd] 51)) (N' := N) (fun b hb hl => ⟨hb, Below.heap_alloc wr _ b hl⟩))
              have hwl := HB.out.lt
              obtain ⟨b0, b1, b2, b3, b4, b5⟩ := (box6 HB.out.box).1
              clear hcall hinr hmem hy her
              by_cases h0 : er = 0
              · rw [if_neg (by simpa using h0)] at hE
                have HF := Lib.hid hE
                have h1 : (er != 0) = false := by simpa using h0
                clear hE h0
                go_wp2_with fail
                refine (HCALL.out _ HINR.out).mono ?_
                rintro e w2 ⟨rfl, hb2⟩
                have HB2 := Lib.hid ((HB.out.alloc _).call hb2)
                clear hb2
                go_wp2
                go_roundw
                case rel => exact ⟨n + 1, by go_num, by omega, HB2, HF⟩
                case measure => simp [intOf]; omega
              · rw [if_pos h0] at hE
                have HF := Lib.hid hE
                have h1 : (er != 0) = true := by simpa using h0
                clear hE h0
                go_wp2_with fail
                refine (HCALL.out _ HINR.out).mono ?_
                rintro e w2 ⟨rfl, hb2⟩
                have HB2 := Lib.hid ((HB.out.alloc _).call hb2)
                clear hb2
                go_wp2
                go_ret2
                exact ⟨ret_ii7 (by rw [HF.out]) (by rw [HF.out]), HB2.out.below⟩
            · obtain rfl : n = rs.length := by omega
              have HF : Hid (res = (0, 0)) := Lib.hid (by rw [HE.out, List.drop_length]; rfl)
              go_wp2
              go_ret2
              exact ⟨ret_ii7 (by rw [HF.out]) (by rw [HF.out]), HB.out.below⟩
end Go.Proofs.Ytebkbcpnjknkjaa
