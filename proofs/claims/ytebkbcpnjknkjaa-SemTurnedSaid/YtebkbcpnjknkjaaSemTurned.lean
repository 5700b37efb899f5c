/- SemTurned: of any expression and any data, what is said with not holds just if it does not hold without, a relation just if its opposite does not. No conditions. -/
import Derived.Test.YtebkbcpnjknkjaaSemHead
import Derived.Test.YtebkbcpnjknkjaaOpenX
set_option linter.unusedVariables false
set_option linter.unusedSimpArgs false
set_option maxRecDepth 100000
namespace Go.Proofs.Ytebkbcpnjknkjaa
open Go.RowKit Go.ChangeShapes Go.WideShapes Go.Deep
def eObj (op : Int) (A : Option Addr) (n c : Nat) (f m r v : Int) : Obj := .cells #[.int .i64 op, .slice A n c, .int .i64 f, .int .u64 m, .int .i64 r, .int .u64 v] 48 (0, 0)
theorem not_within {M : Int} {x : ExA} {A : Option Addr} {c : Nat} (d : D9) : holdsP d (.mk 3 A c [x] 0 0 0 0) = !(holdsP d x) := by simp [holdsP, anyP]
theorem both_and {x : ExA} {A : Option Addr} {c : Nat} (d : D9) : holdsP d (.mk 4 A c [x, x] 0 0 0 0) = holdsP d x := by simp [holdsP, allP]
theorem both_or {x : ExA} {A : Option Addr} {c : Nat} (d : D9) : holdsP d (.mk 5 A c [x, x] 0 0 0 0) = holdsP d x := by simp [holdsP, anyP]
theorem and_or {M : Int} {x : ExA} {A B : Option Addr} {c b : Nat} (hM : 2 ≤ M) (h : withinP M 0 (.mk 4 A c [x, x] 0 0 0 0) = 0) : withinP M 0 (.mk 5 B b [x, x] 0 0 0 0) = 0 := by
  obtain ⟨h1, h2, h3⟩ := within_parts h
  rw [withinP, if_neg (by decide), if_neg (by simp [oneP, leastP, mostP]; omega)]
  exact h3
def turn (r : Int) : Int := if r = 1 then 2 else if r = 2 then 1 else if r = 3 then 6 else if r = 6 then 3 else if r = 5 then 4 else 5
theorem turn_rel {r : Int} (h0 : 1 ≤ r) (h6 : r ≤ 6) (a b : Int) : relB (turn r) a b = !(relB r a b) := by
  have : r = 1 ∨ r = 2 ∨ r = 3 ∨ r = 4 ∨ r = 5 ∨ r = 6 := by omega
  rcases this with rfl | rfl | rfl | rfl | rfl | rfl <;> simp [turn, relB] <;> (rw [Bool.eq_iff_iff]; simp) <;> omega
theorem turn_ok {r : Int} (h0 : 1 ≤ r) (h6 : r ≤ 6) : 1 ≤ turn r ∧ turn r ≤ 6 := by
  have : r = 1 ∨ r = 2 ∨ r = 3 ∨ r = 4 ∨ r = 5 ∨ r = 6 := by omega
  rcases this with rfl | rfl | rfl | rfl | rfl | rfl <;> decide
theorem turn_within {M : Int} {A : Option Addr} {c : Nat} {l : List ExA} {f m r v : Int} (h : withinP M 0 (.mk 6 A c l f m r v) = 0) : withinP M 0 (.mk 6 A c l f m (turn r) v) = 0 := by
  obtain ⟨h1, h2, h3⟩ := within_parts h
  rw [withinP, if_neg (by decide), if_neg, h3]
  intro hne
  apply hne
  rcases oneP_good h2 with ⟨e, _⟩ | ⟨e, _⟩ | ⟨e, _⟩ | ⟨e, _⟩ | ⟨e, _⟩ | ⟨-, hn, f0, f6, r1, r6, hm, hb⟩
  all_goals first | (exact absurd e (by decide)) | skip
  obtain ⟨t1, t6⟩ := turn_ok r1 r6
  unfold oneP
  rw [if_neg (by rintro (h | h | h | h) <;> simp [leastP, mostP, hn] at h), if_neg (fun h => h rfl), if_neg (by rintro (h | h | h | h) <;> omega), if_neg (by rintro (h | h); exact hm h; exact h hb)]
theorem turn_holds (d : D9) {A : Option Addr} {c : Nat} {l : List ExA} {f m r v : Int} (h0 : 1 ≤ r) (h6 : r ≤ 6) : holdsP d (.mk 6 A c l f m (turn r) v) = !(holdsP d (.mk 6 A c l f m r v)) := by
  simp [holdsP, turn_rel h0 h6]
/-- Holds, of one that may be. -/
theorem Holds_y (N : Nat → Prop) (x : ExA) (d : D9) (w : World) (hin : x.In w N) (hfit : x.fits) (hv : withinP 1099511627776 0 x = 0) : Calls Try.prog 20 #[x.val, d.val] w (BoolPost (holdsP d x) w) := by
  have := Holds_c N x d w hin hfit
  unfold holdsAt at this
  rwa [hv] at this
set_option maxHeartbeats 6400000 in
theorem SemTurned_w (x : ExA) (d : D9) (w : World) (hin : x.In w (fun b => b < w.heap.size)) (hfit : x.fits) : Calls Try.prog 7 #[x.val, d.val] w fun e w' => e = .returned (.bool true) ∧ Below w.heap.size w w' := by
  have HINB := Lib.hid (fun W (hb : Below w.heap.size w W) => hin.keep (N' := fun b => b < w.heap.size) (fun b hb' hl => ⟨hb', hb.block b hl⟩))
  have HL := Lib.hid (fun w => lives7_c w)
  have HE := Lib.hid (fun W hb => Expr_c _ x W (HINB.out W hb) hfit)
  have HH := Lib.hid (fun W hb => Holds_c _ x d W (HINB.out W hb) hfit)
  have HFT := Lib.hid hfit
  obtain ⟨ev, hev⟩ : ∃ ev, ev = withinP 1099511627776 0 x := ⟨_, rfl⟩
  have HEV := Lib.hid hev
  obtain ⟨q, hq⟩ : ∃ q, q = holdsP d x := ⟨_, rfl⟩
  have HQ := Lib.hid hq
  unfold holdsAt BoolPost at HH
  rw [← hev] at HE HH
  rw [← hq] at HH
  obtain ⟨op, A, c, l, f, m, r, v⟩ := x
  have HS := Lib.hid (HD.start w #[.int .i64 op, .slice A l.length c, .int .i64 f, .int .u64 m, .int .i64 r, .int .u64 v] d.cells.toArray 48 34)
  unfold D9.cells at HS
  unfold ExA.val D9.val
  unfold ExA.val at HE HH
  unfold D9.val at HH
  dsimp only at HE HH ⊢
  clear hin hfit hev hq
  go_enter Try.func7, Try.ntmps7
  go_wp2_with fail
  refine (HL.out _).mono ?_
  rintro e w1 ⟨rfl, hb⟩
  have H1 := Lib.hid (HS.out.call hb)
  clear hb
  obtain ⟨b0, b1, b2, b3, b4, b5⟩ := (box6 H1.out.ebox).1
  go_wp2_with fail
  refine (HE.out _ H1.out.below).mono ?_
  rintro e w2 ⟨rfl, hb⟩
  have H2 := Lib.hid (H1.out.call hb)
  clear hb b0 b1 b2 b3 b4 b5
  obtain ⟨b0, b1, b2, b3, b4, b5⟩ := (box6 H2.out.ebox).1
  obtain ⟨d0, d1, d2, d3, d4, d5, d6, d7, d8⟩ := dcl H2.out.dbox
  by_cases h0 : ev = 0
  · subst h0
    have HEV0 := Lib.hid HEV.out.symm
    have HHQ := Lib.hid (fun W hb => Holds_y _ (ExA.mk op A c l f m r v) d W (HINB.out W hb) HFT.out HEV0.out)
    rw [← HQ.out] at HHQ
    unfold BoolPost ExA.val D9.val at HHQ
    dsimp only at HHQ
    go_wp2_with fail
    refine (HHQ.out _ H2.out.below).mono ?_
    rintro e w3 ⟨rfl, hb⟩
    have H3 := Lib.hid (H2.out.call hb)
    clear hb b0 b1 b2 b3 b4 b5 d0 d1 d2 d3 d4 d5 d6 d7 d8
    obtain ⟨b0, b1, b2, b3, b4, b5⟩ := (box6 H3.out.ebox).1
    go_upto_region 6 with (fail)
    obtain ⟨g1, hg1⟩ : ∃ g1, g1 = w3.heap.size := ⟨_, rfl⟩
    have H4 := Lib.hid (show HD w (.cells #[.int .i64 op, .slice A l.length c, .int .i64 f, .int .u64 m, .int .i64 r, .int .u64 v] 48 (0, 0)) (.cells #[.int .u32 d.nr, .int .u32 d.arch, .int .u64 d.ip, .int .u64 d.a0, .int .u64 d.a1, .int .u64 d.a2, .int .u64 d.a3, .int .u64 d.a4, .int .u64 d.a5] 34 (0, 0)) ((w3.alloc (.cells #[.int .i64 op, .slice A l.length c, .int .i64 f, .int .u64 m, .int .i64 r, .int .u64 v] 48)).alloc (.cells #[.int .i64 3, .slice (some ⟨w3.heap.size, 0, none⟩) 1 1, .int .i64 0, .int .u64 0, .int .i64 0, .int .u64 0] 48)) ∧ ((w3.alloc (.cells #[.int .i64 op, .slice A l.length c, .int .i64 f, .int .u64 m, .int .i64 r, .int .u64 v] 48)).alloc (.cells #[.int .i64 3, .slice (some ⟨w3.heap.size, 0, none⟩) 1 1, .int .i64 0, .int .u64 0, .int .i64 0, .int .u64 0] 48)).heap[w3.heap.size + 1]? = some (.cells #[.int .i64 3, .slice (some ⟨w3.heap.size, 0, none⟩) 1 1, .int .i64 0, .int .u64 0, .int .i64 0, .int .u64 0] 48 (0, 0)) ∧ ExA.In ((w3.alloc (.cells #[.int .i64 op, .slice A l.length c, .int .i64 f, .int .u64 m, .int .i64 r, .int .u64 v] 48)).alloc (.cells #[.int .i64 3, .slice (some ⟨w3.heap.size, 0, none⟩) 1 1, .int .i64 0, .int .u64 0, .int .i64 0, .int .u64 0] 48)) (fun _ => True) (.mk 3 (some ⟨w3.heap.size, 0, none⟩) 1 [(ExA.mk op A c l f m r v)] 0 0 0 0) from
      ⟨(H3.out.alloc _).alloc _, by have := heap_nwT (w3.alloc (.cells #[.int .i64 op, .slice A l.length c, .int .i64 f, .int .u64 m, .int .i64 r, .int .u64 v] 48)) (.cells #[.int .i64 3, .slice (some ⟨w3.heap.size, 0, none⟩) 1 1, .int .i64 0, .int .u64 0, .int .i64 0, .int .u64 0] 48); rwa [World.size_alloc] at this,
       ⟨(RowN.new w3 #[.int .i64 op, .slice A l.length c, .int .i64 f, .int .u64 m, .int .i64 r, .int .u64 v] 48 (N := fun _ => True) 6 1 rfl trivial rfl).keep (fun b _ hl => ⟨trivial, Below.heap_alloc _ _ b hl⟩) (by decide), ((HINB.out w3 H3.out.below).mono (fun _ _ => trivial)).alloc _ |>.alloc _, trivial⟩⟩)
    rw [← hg1] at H4 ⊢
    generalize (w3.alloc (.cells #[.int .i64 op, .slice A l.length c, .int .i64 f, .int .u64 m, .int .i64 r, .int .u64 v] 48)).alloc (.cells #[.int .i64 3, .slice (some ⟨g1, 0, none⟩) 1 1, .int .i64 0, .int .u64 0, .int .i64 0, .int .u64 0] 48) = w4 at H4 ⊢
    clear hg1 b0 b1 b2 b3 b4 b5
    go_cut [37] (fun s wc => s = .bool false ∧ Hid (HD w (.cells #[.int .i64 op, .slice A l.length c, .int .i64 f, .int .u64 m, .int .i64 r, .int .u64 v] 48 (0, 0)) (.cells #[.int .u32 d.nr, .int .u32 d.arch, .int .u64 d.ip, .int .u64 d.a0, .int .u64 d.a1, .int .u64 d.a2, .int .u64 d.a3, .int .u64 d.a4, .int .u64 d.a5] 34 (0, 0)) wc))
    case first =>
      have hfn : (ExA.mk 3 (some ⟨g1, 0, none⟩) 1 [(ExA.mk op A c l f m r v)] 0 0 0 0).fits := ⟨by simp, HFT.out, trivial⟩
      have HEN := Lib.hid (Expr_c (fun _ => True) (.mk 3 (some ⟨g1, 0, none⟩) 1 [(ExA.mk op A c l f m r v)] 0 0 0 0) w4 H4.out.2.2 hfn)
      have HHN := Lib.hid (fun W (hb : Below w4.heap.size w4 W) hv => Holds_y (fun _ => True) (.mk 3 (some ⟨g1, 0, none⟩) 1 [(ExA.mk op A c l f m r v)] 0 0 0 0) d W (H4.out.2.2.belowW hb) hfn hv)
      obtain ⟨nv, hnv⟩ : ∃ nv, nv = withinP 1099511627776 0 (.mk 3 (some ⟨g1, 0, none⟩) 1 [(ExA.mk op A c l f m r v)] 0 0 0 0) := ⟨_, rfl⟩
      rw [← hnv] at HEN HHN
      rw [not_within (M := 0) d, ← HQ.out] at HHN
      unfold BoolPost ExA.val D9.val at HHN
      unfold ExA.val at HEN
      dsimp only [List.length_cons, List.length_nil] at HEN HHN
      obtain ⟨n0, n1, n2, n3, n4, n5⟩ := (box6 H4.out.2.1).1
      clear hnv hfn
      by_cases hn0 : nv = 0
      · subst hn0
        go_wp2_with fail
        refine HEN.out.mono ?_
        rintro e w5 ⟨rfl, hb⟩
        have H5 := Lib.hid (show HD w _ (.cells #[.int .u32 d.nr, .int .u32 d.arch, .int .u64 d.ip, .int .u64 d.a0, .int .u64 d.a1, .int .u64 d.a2, .int .u64 d.a3, .int .u64 d.a4, .int .u64 d.a5] 34 (0, 0)) w5 ∧ w5.heap[g1 + 1]? = _ from ⟨H4.out.1.call hb, keepH hb H4.out.2.1⟩)
        have HB5 := Lib.hid hb
        clear hb n0 n1 n2 n3 n4 n5
        obtain ⟨n0, n1, n2, n3, n4, n5⟩ := (box6 H5.out.2).1
        obtain ⟨d0, d1, d2, d3, d4, d5, d6, d7, d8⟩ := dcl H5.out.1.dbox
        go_wp2_with fail
        refine (HHN.out w5 HB5.out (by trivial)).mono ?_
        rintro e w6 ⟨rfl, hb⟩
        have H6 := Lib.hid (H5.out.1.call hb)
        clear hb
        go_wp2
        go_meet
        exact ⟨by cases q <;> rfl, H6⟩
      · have h1 : (nv == 0) = false := by simpa using hn0
        clear hn0
        go_wp2_with fail
        refine HEN.out.mono ?_
        rintro e w5 ⟨rfl, hb⟩
        have H5 := Lib.hid (H4.out.1.call hb)
        clear hb
        go_wp2
        go_meet
        exact ⟨rfl, H5⟩
    case rest =>
      obtain ⟨rfl, H7⟩ := hcut
      clear H4 H3 H2 H1 HS
      obtain ⟨b0, b1, b2, b3, b4, b5⟩ := (box6 H7.out.ebox).1
      go_upto_region 9 with (fail)
      obtain ⟨g2, hg2⟩ : ∃ g2, g2 = wc.heap.size := ⟨_, rfl⟩
      have H8 := Lib.hid (show HD w (.cells #[.int .i64 op, .slice A l.length c, .int .i64 f, .int .u64 m, .int .i64 r, .int .u64 v] 48 (0, 0)) (.cells #[.int .u32 d.nr, .int .u32 d.arch, .int .u64 d.ip, .int .u64 d.a0, .int .u64 d.a1, .int .u64 d.a2, .int .u64 d.a3, .int .u64 d.a4, .int .u64 d.a5] 34 (0, 0)) ((wc.alloc (.cells #[.int .i64 op, .slice A l.length c, .int .i64 f, .int .u64 m, .int .i64 r, .int .u64 v, .int .i64 op, .slice A l.length c, .int .i64 f, .int .u64 m, .int .i64 r, .int .u64 v] 48)).alloc (.cells #[.int .i64 4, .slice (some ⟨wc.heap.size, 0, none⟩) 2 2, .int .i64 0, .int .u64 0, .int .i64 0, .int .u64 0] 48)) ∧ ((wc.alloc (.cells #[.int .i64 op, .slice A l.length c, .int .i64 f, .int .u64 m, .int .i64 r, .int .u64 v, .int .i64 op, .slice A l.length c, .int .i64 f, .int .u64 m, .int .i64 r, .int .u64 v] 48)).alloc (.cells #[.int .i64 4, .slice (some ⟨wc.heap.size, 0, none⟩) 2 2, .int .i64 0, .int .u64 0, .int .i64 0, .int .u64 0] 48)).heap[wc.heap.size + 1]? = some (.cells #[.int .i64 4, .slice (some ⟨wc.heap.size, 0, none⟩) 2 2, .int .i64 0, .int .u64 0, .int .i64 0, .int .u64 0] 48 (0, 0)) ∧ ExA.In ((wc.alloc (.cells #[.int .i64 op, .slice A l.length c, .int .i64 f, .int .u64 m, .int .i64 r, .int .u64 v, .int .i64 op, .slice A l.length c, .int .i64 f, .int .u64 m, .int .i64 r, .int .u64 v] 48)).alloc (.cells #[.int .i64 4, .slice (some ⟨wc.heap.size, 0, none⟩) 2 2, .int .i64 0, .int .u64 0, .int .i64 0, .int .u64 0] 48)) (fun _ => True) (.mk 4 (some ⟨wc.heap.size, 0, none⟩) 2 [(ExA.mk op A c l f m r v), (ExA.mk op A c l f m r v)] 0 0 0 0) from
        ⟨(H7.out.alloc _).alloc _, by have := heap_nwT (wc.alloc (.cells #[.int .i64 op, .slice A l.length c, .int .i64 f, .int .u64 m, .int .i64 r, .int .u64 v, .int .i64 op, .slice A l.length c, .int .i64 f, .int .u64 m, .int .i64 r, .int .u64 v] 48)) (.cells #[.int .i64 4, .slice (some ⟨wc.heap.size, 0, none⟩) 2 2, .int .i64 0, .int .u64 0, .int .i64 0, .int .u64 0] 48); rwa [World.size_alloc] at this,
         ⟨(RowN.new wc #[.int .i64 op, .slice A l.length c, .int .i64 f, .int .u64 m, .int .i64 r, .int .u64 v, .int .i64 op, .slice A l.length c, .int .i64 f, .int .u64 m, .int .i64 r, .int .u64 v] 48 (N := fun _ => True) 6 2 rfl trivial rfl).keep (fun b _ hl => ⟨trivial, Below.heap_alloc _ _ b hl⟩) (by decide), ((HINB.out wc (H7.out.below)).mono (fun _ _ => trivial)).alloc _ |>.alloc _, ((HINB.out wc (H7.out.below)).mono (fun _ _ => trivial)).alloc _ |>.alloc _, trivial⟩⟩)
      rw [← hg2] at H8 ⊢
      generalize ((wc.alloc (.cells #[.int .i64 op, .slice A l.length c, .int .i64 f, .int .u64 m, .int .i64 r, .int .u64 v, .int .i64 op, .slice A l.length c, .int .i64 f, .int .u64 m, .int .i64 r, .int .u64 v] 48)).alloc (.cells #[.int .i64 4, .slice (some ⟨g2, 0, none⟩) 2 2, .int .i64 0, .int .u64 0, .int .i64 0, .int .u64 0] 48)) = w8 at H8 ⊢
      clear hg2 b0 b1 b2 b3 b4 b5
      obtain ⟨b0, b1, b2, b3, b4, b5⟩ := (box6 H8.out.1.ebox).1
      go_upto_region 10 with (fail)
      obtain ⟨g3, hg3⟩ : ∃ g3, g3 = w8.heap.size := ⟨_, rfl⟩
      have H9 := Lib.hid (show HD w (.cells #[.int .i64 op, .slice A l.length c, .int .i64 f, .int .u64 m, .int .i64 r, .int .u64 v] 48 (0, 0)) (.cells #[.int .u32 d.nr, .int .u32 d.arch, .int .u64 d.ip, .int .u64 d.a0, .int .u64 d.a1, .int .u64 d.a2, .int .u64 d.a3, .int .u64 d.a4, .int .u64 d.a5] 34 (0, 0)) ((w8.alloc (.cells #[.int .i64 op, .slice A l.length c, .int .i64 f, .int .u64 m, .int .i64 r, .int .u64 v, .int .i64 op, .slice A l.length c, .int .i64 f, .int .u64 m, .int .i64 r, .int .u64 v] 48)).alloc (.cells #[.int .i64 5, .slice (some ⟨w8.heap.size, 0, none⟩) 2 2, .int .i64 0, .int .u64 0, .int .i64 0, .int .u64 0] 48)) ∧ ((w8.alloc (.cells #[.int .i64 op, .slice A l.length c, .int .i64 f, .int .u64 m, .int .i64 r, .int .u64 v, .int .i64 op, .slice A l.length c, .int .i64 f, .int .u64 m, .int .i64 r, .int .u64 v] 48)).alloc (.cells #[.int .i64 5, .slice (some ⟨w8.heap.size, 0, none⟩) 2 2, .int .i64 0, .int .u64 0, .int .i64 0, .int .u64 0] 48)).heap[w8.heap.size + 1]? = some (.cells #[.int .i64 5, .slice (some ⟨w8.heap.size, 0, none⟩) 2 2, .int .i64 0, .int .u64 0, .int .i64 0, .int .u64 0] 48 (0, 0)) ∧ ExA.In ((w8.alloc (.cells #[.int .i64 op, .slice A l.length c, .int .i64 f, .int .u64 m, .int .i64 r, .int .u64 v, .int .i64 op, .slice A l.length c, .int .i64 f, .int .u64 m, .int .i64 r, .int .u64 v] 48)).alloc (.cells #[.int .i64 5, .slice (some ⟨w8.heap.size, 0, none⟩) 2 2, .int .i64 0, .int .u64 0, .int .i64 0, .int .u64 0] 48)) (fun _ => True) (.mk 5 (some ⟨w8.heap.size, 0, none⟩) 2 [(ExA.mk op A c l f m r v), (ExA.mk op A c l f m r v)] 0 0 0 0) ∧ ((w8.alloc (.cells #[.int .i64 op, .slice A l.length c, .int .i64 f, .int .u64 m, .int .i64 r, .int .u64 v, .int .i64 op, .slice A l.length c, .int .i64 f, .int .u64 m, .int .i64 r, .int .u64 v] 48)).alloc (.cells #[.int .i64 5, .slice (some ⟨w8.heap.size, 0, none⟩) 2 2, .int .i64 0, .int .u64 0, .int .i64 0, .int .u64 0] 48)).heap[g2 + 1]? = some (.cells #[.int .i64 4, .slice (some ⟨g2, 0, none⟩) 2 2, .int .i64 0, .int .u64 0, .int .i64 0, .int .u64 0] 48 (0, 0)) ∧ ExA.In ((w8.alloc (.cells #[.int .i64 op, .slice A l.length c, .int .i64 f, .int .u64 m, .int .i64 r, .int .u64 v, .int .i64 op, .slice A l.length c, .int .i64 f, .int .u64 m, .int .i64 r, .int .u64 v] 48)).alloc (.cells #[.int .i64 5, .slice (some ⟨w8.heap.size, 0, none⟩) 2 2, .int .i64 0, .int .u64 0, .int .i64 0, .int .u64 0] 48)) (fun _ => True) (.mk 4 (some ⟨g2, 0, none⟩) 2 [(ExA.mk op A c l f m r v), (ExA.mk op A c l f m r v)] 0 0 0 0) from
        ⟨(H8.out.1.alloc _).alloc _, by have := heap_nwT (w8.alloc (.cells #[.int .i64 op, .slice A l.length c, .int .i64 f, .int .u64 m, .int .i64 r, .int .u64 v, .int .i64 op, .slice A l.length c, .int .i64 f, .int .u64 m, .int .i64 r, .int .u64 v] 48)) (.cells #[.int .i64 5, .slice (some ⟨w8.heap.size, 0, none⟩) 2 2, .int .i64 0, .int .u64 0, .int .i64 0, .int .u64 0] 48); rwa [World.size_alloc] at this,
         ⟨(RowN.new w8 #[.int .i64 op, .slice A l.length c, .int .i64 f, .int .u64 m, .int .i64 r, .int .u64 v, .int .i64 op, .slice A l.length c, .int .i64 f, .int .u64 m, .int .i64 r, .int .u64 v] 48 (N := fun _ => True) 6 2 rfl trivial rfl).keep (fun b _ hl => ⟨trivial, Below.heap_alloc _ _ b hl⟩) (by decide), ((HINB.out w8 (H8.out.1.below)).mono (fun _ _ => trivial)).alloc _ |>.alloc _, ((HINB.out w8 (H8.out.1.below)).mono (fun _ _ => trivial)).alloc _ |>.alloc _, trivial⟩, keepH ((below1 w8 _).alloc (by simp) _) H8.out.2.1, (H8.out.2.2.alloc _).alloc _⟩)
      rw [← hg3] at H9 ⊢
      generalize ((w8.alloc (.cells #[.int .i64 op, .slice A l.length c, .int .i64 f, .int .u64 m, .int .i64 r, .int .u64 v, .int .i64 op, .slice A l.length c, .int .i64 f, .int .u64 m, .int .i64 r, .int .u64 v] 48)).alloc (.cells #[.int .i64 5, .slice (some ⟨g3, 0, none⟩) 2 2, .int .i64 0, .int .u64 0, .int .i64 0, .int .u64 0] 48)) = w9 at H9 ⊢
      clear hg3 b0 b1 b2 b3 b4 b5
      clear H8 H7
      go_cut [62] (fun s wc => s = .bool false ∧ Hid (HD w (.cells #[.int .i64 op, .slice A l.length c, .int .i64 f, .int .u64 m, .int .i64 r, .int .u64 v] 48 (0, 0)) (.cells #[.int .u32 d.nr, .int .u32 d.arch, .int .u64 d.ip, .int .u64 d.a0, .int .u64 d.a1, .int .u64 d.a2, .int .u64 d.a3, .int .u64 d.a4, .int .u64 d.a5] 34 (0, 0)) wc))
      case first =>
        have hf2 : (ExA.mk 4 (some ⟨g2, 0, none⟩) 2 [(ExA.mk op A c l f m r v), (ExA.mk op A c l f m r v)] 0 0 0 0).fits := ⟨by simp, HFT.out, HFT.out, trivial⟩
        have hf3 : (ExA.mk 5 (some ⟨g3, 0, none⟩) 2 [(ExA.mk op A c l f m r v), (ExA.mk op A c l f m r v)] 0 0 0 0).fits := ⟨by simp, HFT.out, HFT.out, trivial⟩
        have HEN := Lib.hid (Expr_c (fun _ => True) (.mk 4 (some ⟨g2, 0, none⟩) 2 [(ExA.mk op A c l f m r v), (ExA.mk op A c l f m r v)] 0 0 0 0) w9 H9.out.2.2.2.2 hf2)
        have HHN := Lib.hid (fun W (hb : Below w9.heap.size w9 W) hv => Holds_y (fun _ => True) (.mk 4 (some ⟨g2, 0, none⟩) 2 [(ExA.mk op A c l f m r v), (ExA.mk op A c l f m r v)] 0 0 0 0) d W (H9.out.2.2.2.2.belowW hb) hf2 hv)
        have HHO := Lib.hid (fun W (hb : Below w9.heap.size w9 W) (hv : withinP 1099511627776 0 (.mk 4 (some ⟨g2, 0, none⟩) 2 [(ExA.mk op A c l f m r v), (ExA.mk op A c l f m r v)] 0 0 0 0) = 0) => Holds_y (fun _ => True) (.mk 5 (some ⟨g3, 0, none⟩) 2 [(ExA.mk op A c l f m r v), (ExA.mk op A c l f m r v)] 0 0 0 0) d W (H9.out.2.2.1.belowW hb) hf3 (and_or (by decide) hv))
        obtain ⟨nv, hnv⟩ : ∃ nv, nv = withinP 1099511627776 0 (.mk 4 (some ⟨g2, 0, none⟩) 2 [(ExA.mk op A c l f m r v), (ExA.mk op A c l f m r v)] 0 0 0 0) := ⟨_, rfl⟩
        rw [← hnv] at HEN HHN HHO
        rw [both_and d, ← HQ.out] at HHN
        rw [both_or d, ← HQ.out] at HHO
        unfold BoolPost ExA.val D9.val at HHN HHO
        unfold ExA.val at HEN
        dsimp only [List.length_cons, List.length_nil] at HEN HHN HHO
        obtain ⟨n0, n1, n2, n3, n4, n5⟩ := (box6 H9.out.2.2.2.1).1
        clear hnv hf2 hf3
        have hqq : (q != q) = false := by cases q <;> rfl
        by_cases hn0 : nv = 0
        · subst hn0
          go_wp2_with fail
          refine HEN.out.mono ?_
          rintro e w10 ⟨rfl, hb⟩
          have H10 := Lib.hid (show HD w _ (.cells #[.int .u32 d.nr, .int .u32 d.arch, .int .u64 d.ip, .int .u64 d.a0, .int .u64 d.a1, .int .u64 d.a2, .int .u64 d.a3, .int .u64 d.a4, .int .u64 d.a5] 34 (0, 0)) w10 ∧ w10.heap[g2 + 1]? = _ ∧ w10.heap[g3 + 1]? = _ from ⟨H9.out.1.call hb, keepH hb H9.out.2.2.2.1, keepH hb H9.out.2.1⟩)
          have HB10 := Lib.hid hb
          clear hb n0 n1 n2 n3 n4 n5
          obtain ⟨n0, n1, n2, n3, n4, n5⟩ := (box6 H10.out.2.1).1
          obtain ⟨d0, d1, d2, d3, d4, d5, d6, d7, d8⟩ := dcl H10.out.1.dbox
          go_wp2_with fail
          refine (HHN.out w10 HB10.out (by trivial)).mono ?_
          rintro e w11 ⟨rfl, hb⟩
          have H11 := Lib.hid (show HD w _ (.cells #[.int .u32 d.nr, .int .u32 d.arch, .int .u64 d.ip, .int .u64 d.a0, .int .u64 d.a1, .int .u64 d.a2, .int .u64 d.a3, .int .u64 d.a4, .int .u64 d.a5] 34 (0, 0)) w11 ∧ w11.heap[g3 + 1]? = _ from ⟨H10.out.1.call hb, keepH hb H10.out.2.2⟩)
          have HB11 := Lib.hid (below_t HB10.out hb)
          clear hb n0 n1 n2 n3 n4 n5 d0 d1 d2 d3 d4 d5 d6 d7 d8
          obtain ⟨n0, n1, n2, n3, n4, n5⟩ := (box6 H11.out.2).1
          obtain ⟨d0, d1, d2, d3, d4, d5, d6, d7, d8⟩ := dcl H11.out.1.dbox
          go_wp2_with fail
          refine (HHO.out w11 HB11.out (by trivial)).mono ?_
          rintro e w12 ⟨rfl, hb⟩
          have H12 := Lib.hid (H11.out.1.call hb)
          clear hb
          go_wp2
          go_meet
          exact ⟨by first | rfl | (cases q <;> rfl), H12⟩
        · have h1 : (nv == 0) = false := by simpa using hn0
          clear hn0
          go_wp2_with fail
          refine HEN.out.mono ?_
          rintro e w5 ⟨rfl, hb⟩
          have H5 := Lib.hid (H9.out.1.call hb)
          clear hb
          go_wp2
          go_meet
          exact ⟨rfl, H5⟩
      case rest =>
        obtain ⟨rfl, H13⟩ := hcut
        clear H9
        obtain ⟨b0, b1, b2, b3, b4, b5⟩ := (box6 H13.out.ebox).1
        by_cases ho : op = 6
        · subst ho
          have hbnd : l.length = 0 ∧ 0 ≤ f ∧ f ≤ 6 ∧ 1 ≤ r ∧ r ≤ 6 := by
            obtain ⟨-, h2, -⟩ := within_parts HEV0.out
            rcases oneP_good h2 with ⟨e, _⟩ | ⟨e, _⟩ | ⟨e, _⟩ | ⟨e, _⟩ | ⟨e, _⟩ | ⟨-, hn, f0, f6, r1, r6, hm, hb⟩
            all_goals first | (exact absurd e (by decide)) | skip
            exact ⟨hn, f0, f6, r1, r6⟩
          have HBND := Lib.hid hbnd
          have hr : r = 1 ∨ r = 2 ∨ r = 3 ∨ r = 4 ∨ r = 5 ∨ r = 6 := by omega
          clear hbnd
          obtain ⟨a0, a1, a2, a3, a4, a5⟩ := (box6 (H13.out.alloc (.cells #[.int .i64 6, .slice A l.length c, .int .i64 f, .int .u64 m, .int .i64 r, .int .u64 v] 48)).ebox).1
          rcases hr with rfl | rfl | rfl | rfl | rfl | rfl
          · have htu : turn 1 = 2 := by decide
            have hth := turn_holds d (A := A) (c := c) (l := l) (f := f) (m := m) (r := 1) (v := v) (by decide) (by decide)
            have htw := turn_within HEV0.out
            rw [htu] at hth htw
            rw [← HQ.out] at hth
            have HHO := Lib.hid (Holds_y (fun b => b < w.heap.size) (ExA.mk 6 A c l f m 2 v) d (wc.alloc (.cells #[.int .i64 6, .slice A l.length c, .int .i64 f, .int .u64 m, .int .i64 2, .int .u64 v] 48)) ((HINB.out wc H13.out.below).alloc _) HFT.out htw)
            rw [hth] at HHO
            unfold BoolPost ExA.val D9.val at HHO
            dsimp only at HHO
            obtain ⟨d0, d1, d2, d3, d4, d5, d6, d7, d8⟩ := dcl (H13.out.alloc (.cells #[.int .i64 6, .slice A l.length c, .int .i64 f, .int .u64 m, .int .i64 2, .int .u64 v] 48)).dbox
            clear htu hth htw
            go_wp2_with fail
            refine HHO.out.mono ?_
            rintro e w15 ⟨rfl, hb⟩
            have H15 := Lib.hid (below_t (H13.out.alloc (.cells #[.int .i64 6, .slice A l.length c, .int .i64 f, .int .u64 m, .int .i64 2, .int .u64 v] 48)).below hb)
            have hqn : ((!q) != q) = true := by cases q <;> rfl
            clear hb
            go_wp2
            go_ret
            exact ⟨by first | rfl | (cases q <;> rfl), H15.out⟩
          · have htu : turn 2 = 1 := by decide
            have hth := turn_holds d (A := A) (c := c) (l := l) (f := f) (m := m) (r := 2) (v := v) (by decide) (by decide)
            have htw := turn_within HEV0.out
            rw [htu] at hth htw
            rw [← HQ.out] at hth
            have HHO := Lib.hid (Holds_y (fun b => b < w.heap.size) (ExA.mk 6 A c l f m 1 v) d (wc.alloc (.cells #[.int .i64 6, .slice A l.length c, .int .i64 f, .int .u64 m, .int .i64 1, .int .u64 v] 48)) ((HINB.out wc H13.out.below).alloc _) HFT.out htw)
            rw [hth] at HHO
            unfold BoolPost ExA.val D9.val at HHO
            dsimp only at HHO
            obtain ⟨d0, d1, d2, d3, d4, d5, d6, d7, d8⟩ := dcl (H13.out.alloc (.cells #[.int .i64 6, .slice A l.length c, .int .i64 f, .int .u64 m, .int .i64 1, .int .u64 v] 48)).dbox
            clear htu hth htw
            go_wp2_with fail
            refine HHO.out.mono ?_
            rintro e w15 ⟨rfl, hb⟩
            have H15 := Lib.hid (below_t (H13.out.alloc (.cells #[.int .i64 6, .slice A l.length c, .int .i64 f, .int .u64 m, .int .i64 1, .int .u64 v] 48)).below hb)
            have hqn : ((!q) != q) = true := by cases q <;> rfl
            clear hb
            go_wp2
            go_ret
            exact ⟨by first | rfl | (cases q <;> rfl), H15.out⟩
          · have htu : turn 3 = 6 := by decide
            have hth := turn_holds d (A := A) (c := c) (l := l) (f := f) (m := m) (r := 3) (v := v) (by decide) (by decide)
            have htw := turn_within HEV0.out
            rw [htu] at hth htw
            rw [← HQ.out] at hth
            have HHO := Lib.hid (Holds_y (fun b => b < w.heap.size) (ExA.mk 6 A c l f m 6 v) d (wc.alloc (.cells #[.int .i64 6, .slice A l.length c, .int .i64 f, .int .u64 m, .int .i64 6, .int .u64 v] 48)) ((HINB.out wc H13.out.below).alloc _) HFT.out htw)
            rw [hth] at HHO
            unfold BoolPost ExA.val D9.val at HHO
            dsimp only at HHO
            obtain ⟨d0, d1, d2, d3, d4, d5, d6, d7, d8⟩ := dcl (H13.out.alloc (.cells #[.int .i64 6, .slice A l.length c, .int .i64 f, .int .u64 m, .int .i64 6, .int .u64 v] 48)).dbox
            clear htu hth htw
            go_wp2_with fail
            refine HHO.out.mono ?_
            rintro e w15 ⟨rfl, hb⟩
            have H15 := Lib.hid (below_t (H13.out.alloc (.cells #[.int .i64 6, .slice A l.length c, .int .i64 f, .int .u64 m, .int .i64 6, .int .u64 v] 48)).below hb)
            have hqn : ((!q) != q) = true := by cases q <;> rfl
            clear hb
            go_wp2
            go_ret
            exact ⟨by first | rfl | (cases q <;> rfl), H15.out⟩
          · have htu : turn 4 = 5 := by decide
            have hth := turn_holds d (A := A) (c := c) (l := l) (f := f) (m := m) (r := 4) (v := v) (by decide) (by decide)
            have htw := turn_within HEV0.out
            rw [htu] at hth htw
            rw [← HQ.out] at hth
            have HHO := Lib.hid (Holds_y (fun b => b < w.heap.size) (ExA.mk 6 A c l f m 5 v) d (wc.alloc (.cells #[.int .i64 6, .slice A l.length c, .int .i64 f, .int .u64 m, .int .i64 5, .int .u64 v] 48)) ((HINB.out wc H13.out.below).alloc _) HFT.out htw)
            rw [hth] at HHO
            unfold BoolPost ExA.val D9.val at HHO
            dsimp only at HHO
            obtain ⟨d0, d1, d2, d3, d4, d5, d6, d7, d8⟩ := dcl (H13.out.alloc (.cells #[.int .i64 6, .slice A l.length c, .int .i64 f, .int .u64 m, .int .i64 5, .int .u64 v] 48)).dbox
            clear htu hth htw
            go_wp2_with fail
            refine HHO.out.mono ?_
            rintro e w15 ⟨rfl, hb⟩
            have H15 := Lib.hid (below_t (H13.out.alloc (.cells #[.int .i64 6, .slice A l.length c, .int .i64 f, .int .u64 m, .int .i64 5, .int .u64 v] 48)).below hb)
            have hqn : ((!q) != q) = true := by cases q <;> rfl
            clear hb
            go_wp2
            go_ret
            exact ⟨by first | rfl | (cases q <;> rfl), H15.out⟩
          · have htu : turn 5 = 4 := by decide
            have hth := turn_holds d (A := A) (c := c) (l := l) (f := f) (m := m) (r := 5) (v := v) (by decide) (by decide)
            have htw := turn_within HEV0.out
            rw [htu] at hth htw
            rw [← HQ.out] at hth
            have HHO := Lib.hid (Holds_y (fun b => b < w.heap.size) (ExA.mk 6 A c l f m 4 v) d (wc.alloc (.cells #[.int .i64 6, .slice A l.length c, .int .i64 f, .int .u64 m, .int .i64 4, .int .u64 v] 48)) ((HINB.out wc H13.out.below).alloc _) HFT.out htw)
            rw [hth] at HHO
            unfold BoolPost ExA.val D9.val at HHO
            dsimp only at HHO
            obtain ⟨d0, d1, d2, d3, d4, d5, d6, d7, d8⟩ := dcl (H13.out.alloc (.cells #[.int .i64 6, .slice A l.length c, .int .i64 f, .int .u64 m, .int .i64 4, .int .u64 v] 48)).dbox
            clear htu hth htw
            go_wp2_with fail
            refine HHO.out.mono ?_
            rintro e w15 ⟨rfl, hb⟩
            have H15 := Lib.hid (below_t (H13.out.alloc (.cells #[.int .i64 6, .slice A l.length c, .int .i64 f, .int .u64 m, .int .i64 4, .int .u64 v] 48)).below hb)
            have hqn : ((!q) != q) = true := by cases q <;> rfl
            clear hb
            go_wp2
            go_ret
            exact ⟨by first | rfl | (cases q <;> rfl), H15.out⟩
          · have htu : turn 6 = 3 := by decide
            have hth := turn_holds d (A := A) (c := c) (l := l) (f := f) (m := m) (r := 6) (v := v) (by decide) (by decide)
            have htw := turn_within HEV0.out
            rw [htu] at hth htw
            rw [← HQ.out] at hth
            have HHO := Lib.hid (Holds_y (fun b => b < w.heap.size) (ExA.mk 6 A c l f m 3 v) d (wc.alloc (.cells #[.int .i64 6, .slice A l.length c, .int .i64 f, .int .u64 m, .int .i64 3, .int .u64 v] 48)) ((HINB.out wc H13.out.below).alloc _) HFT.out htw)
            rw [hth] at HHO
            unfold BoolPost ExA.val D9.val at HHO
            dsimp only at HHO
            obtain ⟨d0, d1, d2, d3, d4, d5, d6, d7, d8⟩ := dcl (H13.out.alloc (.cells #[.int .i64 6, .slice A l.length c, .int .i64 f, .int .u64 m, .int .i64 3, .int .u64 v] 48)).dbox
            clear htu hth htw
            go_wp2_with fail
            refine HHO.out.mono ?_
            rintro e w15 ⟨rfl, hb⟩
            have H15 := Lib.hid (below_t (H13.out.alloc (.cells #[.int .i64 6, .slice A l.length c, .int .i64 f, .int .u64 m, .int .i64 3, .int .u64 v] 48)).below hb)
            have hqn : ((!q) != q) = true := by cases q <;> rfl
            clear hb
            go_wp2
            go_ret
            exact ⟨by first | rfl | (cases q <;> rfl), H15.out⟩
        · have h6 : (op != 6) = true := by simpa using ho
          have h6' : (op == 6) = false := by simpa using ho
          clear ho
          go_wp2
          go_ret
          exact ⟨rfl, H13.out.below⟩
  · have h1 : (ev != 0) = true := by simpa using h0
    have h2 : (ev == 0) = false := by simpa using h0
    clear h0
    go_wp2_with fail
    refine (HH.out _ H2.out.below).mono ?_
    rintro e w3 ⟨rfl, hb⟩
    have H3 := Lib.hid (H2.out.call hb)
    rw [h2]
    clear hb
    go_wp2
    go_ret
    exact ⟨rfl, H3.out.below⟩
/-! ### the row of SemTurned -/
set_option maxRecDepth 100000 in
theorem SemTurned_lifted (os : Os) (started : os.Started) (H : Type) (enc : TypeId × Value → H) :
    ReturnsInHanded {} Try.checked os 7 .any (Rows.semTurnedSpec.pre6 enc Try.prog Try.f7 Rows.semTurnedRow.domain false) (Rows.semTurnedSpec.post enc Try.prog Try.f7 false true false false) := by
  refine returnsInHanded_of_change_sized (C := Try.checked) ownNone started (by kernel_rfl) Try.func7
    (ChangeSpec.witness6 (enc := enc) (C := Try.checked) false ⟨#[], #[.agg #[.int .i64 0, .slice none 0 0, .int .i64 0, .int .u64 0, .int .i64 0, .int .u64 0], .agg #[.int .u32 0, .int .u32 0, .int .u64 0, .int .u64 0, .int .u64 0, .int .u64 0, .int .u64 0, .int .u64 0, .int .u64 0]], []⟩ 8 (by kernel_rfl) (by kernel_rfl) (by kernel_rfl) (by kernel_rfl)) ?_
  intro W base args ds gs before hval0 hW hcnd hsz0 _
  have hsz : (DataW.weightsEach Try.prog (Try.f7.params.toList ++ Rows.semTurnedSpec.plain.varTypes Try.prog) (ds ++ gs)).all (· ≤ reachBytes) = true := hsz0
  have hval : ∀ (j : Nat) t v, Try.f7.params[j]? = some t → args[j]? = some v → Value.okWide Try.prog W .any base t v := hval0
  have hW' := hW
  obtain ⟨p, q, hA0, hV, rfl, hfz, hnd⟩ := hW
  have hA : DataW.TrodAll enc Try.prog W 0 (fun _ => true) true Try.f7.params.toList args.toList ds p := hA0
  rw [Try.params7] at hA hval hsz
  obtain ⟨v0, vs0, d0, ds0, p0, q0, hargs, rfl, rfl, h0, r0⟩ := trodAll_cons hA
  obtain ⟨v1, vs1, d1, ds1, p1, q1, rfl, rfl, rfl, h1, r1⟩ := trodAll_cons r0
  obtain ⟨rfl, rfl, rfl⟩ := trodAll_nil r1
  obtain rfl : args = #[v0, v1] := by cases args; simp_all
  obtain ⟨rfl, rfl⟩ := trodVars_none hV
  obtain ⟨x0, rfl, hin0, hfit0, -⟩ := open_expr (hval 0 48 v0 rfl rfl) h0
  have k0 := h0
  have lt0 : ∀ x ∈ p0, x.block < W.heap.size := by obtain ⟨m, hm⟩ := k0; exact DataW.trod_lt m _ _ _ hm
  obtain ⟨x1, rfl⟩ := open_data7 (hval 1 34 v1 rfl rfl) h1
  have k1 := h1
  have lt1 : ∀ x ∈ p1, x.block < W.heap.size := by obtain ⟨m, hm⟩ := k1; exact DataW.trod_lt m _ _ _ hm
  clear hA0 hval0 hsz0 hsz
  refine (SemTurned_w x0 x1 W hin0 hfit0).mono fun e W' ⟨he, bel⟩ => ?_
  subst he
  exact ⟨_, rfl, _, _, _, [], _, [], hW', trodAll_mk1 (shut_bool Try.underlying4 _), (trodAll_cons_mk (Below.trod laidOutB_ (by kernel_rfl) (of_decide_eq_true (by kernel_rfl)) k0 bel lt0) (trodAll_cons_mk (Below.trod laidOutB_ (by kernel_rfl) (of_decide_eq_true (by kernel_rfl)) k1 bel lt1) trodAll_mk0)), rfl, bel.frame _, fun h => by cases h⟩
theorem SemTurned_holds : Rows.SemTurnedSaid :=
  OpenClaim.holds_of_wide 7 Try.f7 rfl rfl rfl rfl rfl rfl rfl ⟨rfl, rfl, rfl, rfl, rfl⟩ rfl rfl rfl rfl rfl (by kernel_rfl) Try.func7 (by kernel_rfl)
    (of_decide_eq_true (by kernel_rfl)) (by unfold Func.isWrapper; first | (rw [if_pos (by decide +kernel)]; kernel_rfl) | (rw [if_neg (by decide +kernel)]; exact ⟨rfl, rfl⟩))
    (fun os started H enc _ => SemTurned_lifted os started H enc)
#print axioms SemTurned_holds
end Go.Proofs.Ytebkbcpnjknkjaa
