import Derived.Test.YtebkbcpnjknkjaaRdP
set_option linter.unusedVariables false
set_option linter.unusedSimpArgs false
set_option maxRecDepth 100000
namespace Go.Proofs.Ytebkbcpnjknkjaa
open Go.RowKit
/-! ravelinref06's reader: one. (Printed by wip/gen/rdw6.py.) -/
def OneOK (l : List Tk) (ee pl : Int) (A : Option Addr) (c R f : Nat) : Prop := ∀ (a : Nat) (d : Int) (x : ExA) (a' : Nat) (w : World), pS l f 0 a d [] = some ([x], a') → RdAt l ee pl A c R (St a d) w → Calls Try.prog 83 #[.pointer (some ⟨R, 0, none⟩)] w (XPost l ee pl A c R x a' d w)
def AllOK (l : List Tk) (ee pl : Int) (A : Option Addr) (c R f : Nat) : Prop := ∀ (a : Nat) (d : Int) (es : List ExA) (a' : Nat) (w : World), pS l f 1 a d [] = some (es, a') → RdAt l ee pl A c R (St a d) w → Calls Try.prog 75 #[.pointer (some ⟨R, 0, none⟩)] w (XPost l ee pl A c R (wrapX 4 es) a' d w)
def ExprOK (l : List Tk) (ee pl : Int) (A : Option Addr) (c R f : Nat) : Prop := ∀ (a : Nat) (d : Int) (es : List ExA) (a' : Nat) (w : World), pS l f 2 a d [] = some (es, a') → RdAt l ee pl A c R (St a d) w → Calls Try.prog 69 #[.pointer (some ⟨R, 0, none⟩)] w (XPost l ee pl A c R (wrapX 5 es) a' d w)
set_option maxHeartbeats 1600000 in
theorem one_true {l : List Tk} {ee pl : Int} {A : Option Addr} {c R a : Nat} {d : Int} (w : World) (h : RdAt l ee pl A c R (St a d) w) (ha : a < l.length) (ht : tkB 2 ⟨#[116, 114, 117, 101]⟩ (l.getD a Tk.zero) = true) :
    Calls Try.prog 83 #[.pointer (some ⟨R, 0, none⟩)] w (XPost l ee pl A c R (.mk 1 none 0 [] 0 0 0 0) (a + 1) d w) := by
  have hR := h.lt
  have H0 := Lib.hid ((RdW.start h).alloc (.cells #[.int .i64 0, .slice none 0 0, .int .i64 0, .int .u64 0, .int .i64 0, .int .u64 0] 48))
  have HN := Lib.hid (fun w h => next_s (A := A) (c := c) (R := R) (d := d) (ee := ee) (pl := pl) w h ha)
  obtain ⟨h1, h2⟩ := (tkB_iff _ _ _).1 ht
  obtain ⟨tk, tt, tn, ta, hs⟩ : ∃ sk sx sn sa, l.getD a Tk.zero = ⟨sk, sx, sn, sa⟩ := ⟨_, _, _, _, rfl⟩
  rw [hs] at HN h1 h2
  unfold Tk.val at HN
  dsimp only at HN h1 h2
  have htl : tt.toList = [116, 114, 117, 101] := by rw [ByteArray.toList_eq, h2]
  clear h hs h2 ht
  subst h1
  go_enter Try.func83, Try.ntmps83
  go_wp2_with fail
  refine (HN.out _ H0.out.at_).mono ?_
  rintro e w1 hr
  obtain rfl := hr.1
  have H1 := Lib.hid (show RdW l ee pl A c R (St (a + 1) d) w w1 ∧ w1.heap[w.heap.size]? = _ from ⟨H0.out.call hr, keep_box hr.2.2 (heap_nwT w _) hR⟩)
  have h11 := (Array.getElem?_eq_some_iff.1 H1.out.2).1
  clear hr
  go_wp2_with fail
  refine (field_c tt _).mono ?_
  rintro e w' ⟨rfl, rfl⟩
  obtain ⟨-, -, -, -, -, c5, -⟩ := H1.out.1.at_.cl
  have hR1 := H1.out.1.at_.lt
  go_upto_region 23 with (fail)
  have HC : Hid (RdW l ee pl A c R (St (a + 1) d) w ((w1.alloc (.cells #[.int .i64 2, .string tt, .int .u64 tn, .int .i64 ta] 83)).alloc (.cells #[.int .i64 1, .slice none 0 0, .int .i64 0, .int .u64 0, .int .i64 0, .int .u64 0] 48)) ∧ ((w1.alloc (.cells #[.int .i64 2, .string tt, .int .u64 tn, .int .i64 ta] 83)).alloc (.cells #[.int .i64 1, .slice none 0 0, .int .i64 0, .int .u64 0, .int .i64 0, .int .u64 0] 48)).heap[w.heap.size]? = some (.cells #[.int .i64 0, .slice none 0 0, .int .i64 0, .int .u64 0, .int .i64 0, .int .u64 0] 48) ∧ ((w1.alloc (.cells #[.int .i64 2, .string tt, .int .u64 tn, .int .i64 ta] 83)).alloc (.cells #[.int .i64 1, .slice none 0 0, .int .i64 0, .int .u64 0, .int .i64 0, .int .u64 0] 48)).heap[w1.heap.size + 1]? = some (.cells #[.int .i64 1, .slice none 0 0, .int .i64 0, .int .u64 0, .int .i64 0, .int .u64 0] 48) ∧ ExA.In ((w1.alloc (.cells #[.int .i64 2, .string tt, .int .u64 tn, .int .i64 ta] 83)).alloc (.cells #[.int .i64 1, .slice none 0 0, .int .i64 0, .int .u64 0, .int .i64 0, .int .u64 0] 48)) (fun b => w.heap.size < b) (.mk 1 none 0 [] 0 0 0 0)) := Lib.hid ⟨(H1.out.1.alloc _).alloc _, alloc_box (alloc_box H1.out.2 _) _, by have := heap_nwT (w1.alloc (.cells #[.int .i64 2, .string tt, .int .u64 tn, .int .i64 ta] 83)) (.cells #[.int .i64 1, .slice none 0 0, .int .i64 0, .int .u64 0, .int .i64 0, .int .u64 0] 48); rwa [World.size_alloc] at this, ⟨rfl, fun h => absurd h (by decide)⟩, trivial⟩
  generalize (w1.alloc (.cells #[.int .i64 2, .string tt, .int .u64 tn, .int .i64 ta] 83)).alloc (.cells #[.int .i64 1, .slice none 0 0, .int .i64 0, .int .u64 0, .int .i64 0, .int .u64 0] 48) = wc at HC ⊢
  obtain ⟨e0, e1, e2, e3, e4, e5⟩ := (box6 HC.out.2.2.1).1
  obtain ⟨o0, o1, o2, o3, o4, o5⟩ := (box6 HC.out.2.1).1
  obtain ⟨fo0, fo1, fo2, fo3, fo4, fo5⟩ := (box6 HC.out.2.1).2
  go_wp2
  obtain ⟨r0, r1, r2, r3, r4, r5⟩ := (box6 (set6 HC.out.2.1 (.int .i64 1) (.slice none 0 0) (.int .i64 0) (.int .u64 0) (.int .i64 0) (.int .u64 0))).1
  refine bodyPost_ret (v := ExA.val (.mk 1 none 0 [] 0 0 0 0)) (by simp [results, Try.results83, go_sem, ExA.val, r0, r1, r2, r3, r4, r5]) rfl ?_
  have HF := HC.out.1.set6W (.int .i64 1) (.slice none 0 0) (.int .i64 0) (.int .u64 0) (.int .i64 0) (.int .u64 0) hR (Nat.le_refl _)
  exact ⟨(.mk 1 none 0 [] 0 0 0 0), rfl, rfl, (HC.out.2.2.2.set6W (.int .i64 1) (.slice none 0 0) (.int .i64 0) (.int .u64 0) (.int .i64 0) (.int .u64 0) (by show ¬ _ < _; omega)).mono (fun b hb => by omega), HF.at_, HF.keep⟩
set_option maxHeartbeats 1600000 in
theorem one_false {l : List Tk} {ee pl : Int} {A : Option Addr} {c R a : Nat} {d : Int} (w : World) (h : RdAt l ee pl A c R (St a d) w) (ha : a < l.length) (ht : tkB 2 ⟨#[102, 97, 108, 115, 101]⟩ (l.getD a Tk.zero) = true) :
    Calls Try.prog 83 #[.pointer (some ⟨R, 0, none⟩)] w (XPost l ee pl A c R (.mk 2 none 0 [] 0 0 0 0) (a + 1) d w) := by
  have hR := h.lt
  have H0 := Lib.hid ((RdW.start h).alloc (.cells #[.int .i64 0, .slice none 0 0, .int .i64 0, .int .u64 0, .int .i64 0, .int .u64 0] 48))
  have HN := Lib.hid (fun w h => next_s (A := A) (c := c) (R := R) (d := d) (ee := ee) (pl := pl) w h ha)
  obtain ⟨h1, h2⟩ := (tkB_iff _ _ _).1 ht
  obtain ⟨tk, tt, tn, ta, hs⟩ : ∃ sk sx sn sa, l.getD a Tk.zero = ⟨sk, sx, sn, sa⟩ := ⟨_, _, _, _, rfl⟩
  rw [hs] at HN h1 h2
  unfold Tk.val at HN
  dsimp only at HN h1 h2
  have htl : tt.toList = [102, 97, 108, 115, 101] := by rw [ByteArray.toList_eq, h2]
  clear h hs h2 ht
  subst h1
  go_enter Try.func83, Try.ntmps83
  go_wp2_with fail
  refine (HN.out _ H0.out.at_).mono ?_
  rintro e w1 hr
  obtain rfl := hr.1
  have H1 := Lib.hid (show RdW l ee pl A c R (St (a + 1) d) w w1 ∧ w1.heap[w.heap.size]? = _ from ⟨H0.out.call hr, keep_box hr.2.2 (heap_nwT w _) hR⟩)
  have h11 := (Array.getElem?_eq_some_iff.1 H1.out.2).1
  clear hr
  go_wp2_with fail
  refine (field_c tt _).mono ?_
  rintro e w' ⟨rfl, rfl⟩
  obtain ⟨-, -, -, -, -, c5, -⟩ := H1.out.1.at_.cl
  have hR1 := H1.out.1.at_.lt
  go_upto_region 23 with (fail)
  have HC : Hid (RdW l ee pl A c R (St (a + 1) d) w ((w1.alloc (.cells #[.int .i64 2, .string tt, .int .u64 tn, .int .i64 ta] 83)).alloc (.cells #[.int .i64 2, .slice none 0 0, .int .i64 0, .int .u64 0, .int .i64 0, .int .u64 0] 48)) ∧ ((w1.alloc (.cells #[.int .i64 2, .string tt, .int .u64 tn, .int .i64 ta] 83)).alloc (.cells #[.int .i64 2, .slice none 0 0, .int .i64 0, .int .u64 0, .int .i64 0, .int .u64 0] 48)).heap[w.heap.size]? = some (.cells #[.int .i64 0, .slice none 0 0, .int .i64 0, .int .u64 0, .int .i64 0, .int .u64 0] 48) ∧ ((w1.alloc (.cells #[.int .i64 2, .string tt, .int .u64 tn, .int .i64 ta] 83)).alloc (.cells #[.int .i64 2, .slice none 0 0, .int .i64 0, .int .u64 0, .int .i64 0, .int .u64 0] 48)).heap[w1.heap.size + 1]? = some (.cells #[.int .i64 2, .slice none 0 0, .int .i64 0, .int .u64 0, .int .i64 0, .int .u64 0] 48) ∧ ExA.In ((w1.alloc (.cells #[.int .i64 2, .string tt, .int .u64 tn, .int .i64 ta] 83)).alloc (.cells #[.int .i64 2, .slice none 0 0, .int .i64 0, .int .u64 0, .int .i64 0, .int .u64 0] 48)) (fun b => w.heap.size < b) (.mk 2 none 0 [] 0 0 0 0)) := Lib.hid ⟨(H1.out.1.alloc _).alloc _, alloc_box (alloc_box H1.out.2 _) _, by have := heap_nwT (w1.alloc (.cells #[.int .i64 2, .string tt, .int .u64 tn, .int .i64 ta] 83)) (.cells #[.int .i64 2, .slice none 0 0, .int .i64 0, .int .u64 0, .int .i64 0, .int .u64 0] 48); rwa [World.size_alloc] at this, ⟨rfl, fun h => absurd h (by decide)⟩, trivial⟩
  generalize (w1.alloc (.cells #[.int .i64 2, .string tt, .int .u64 tn, .int .i64 ta] 83)).alloc (.cells #[.int .i64 2, .slice none 0 0, .int .i64 0, .int .u64 0, .int .i64 0, .int .u64 0] 48) = wc at HC ⊢
  obtain ⟨e0, e1, e2, e3, e4, e5⟩ := (box6 HC.out.2.2.1).1
  obtain ⟨o0, o1, o2, o3, o4, o5⟩ := (box6 HC.out.2.1).1
  obtain ⟨fo0, fo1, fo2, fo3, fo4, fo5⟩ := (box6 HC.out.2.1).2
  go_wp2
  obtain ⟨r0, r1, r2, r3, r4, r5⟩ := (box6 (set6 HC.out.2.1 (.int .i64 2) (.slice none 0 0) (.int .i64 0) (.int .u64 0) (.int .i64 0) (.int .u64 0))).1
  refine bodyPost_ret (v := ExA.val (.mk 2 none 0 [] 0 0 0 0)) (by simp [results, Try.results83, go_sem, ExA.val, r0, r1, r2, r3, r4, r5]) rfl ?_
  have HF := HC.out.1.set6W (.int .i64 2) (.slice none 0 0) (.int .i64 0) (.int .u64 0) (.int .i64 0) (.int .u64 0) hR (Nat.le_refl _)
  exact ⟨(.mk 2 none 0 [] 0 0 0 0), rfl, rfl, (HC.out.2.2.2.set6W (.int .i64 2) (.slice none 0 0) (.int .i64 0) (.int .u64 0) (.int .i64 0) (.int .u64 0) (by show ¬ _ < _; omega)).mono (fun b hb => by omega), HF.at_, HF.keep⟩
theorem test_leaf {l : List Tk} {f : Int} {a a' : Nat} {x : ExA} (h : testS l f a = some (x, a')) : x.args = [] := by
  unfold testS testT at h
  repeat' split at h
  all_goals first | (cases h; done) | (simp only [Option.some.injEq, Prod.mk.injEq] at h; rw [← h.1]; rfl)
set_option maxHeartbeats 1600000 in
theorem one_test {l : List Tk} {ee pl : Int} {A : Option Addr} {c R a a' : Nat} {d : Int} {x : ExA} (w : World) (h : RdAt l ee pl A c R (St a d) w) (ha : a < l.length) (ht1 : tkB 2 ⟨#[110, 111, 116]⟩ (l.getD a Tk.zero) = false) (ht2 : tkB 2 ⟨#[116, 114, 117, 101]⟩ (l.getD a Tk.zero) = false) (ht3 : tkB 2 ⟨#[102, 97, 108, 115, 101]⟩ (l.getD a Tk.zero) = false)
    (hk : (l.getD a Tk.zero).kind = 2) (hf : 0 ≤ fieldS (l.getD a Tk.zero).text.data.toList) (hx : testS l (fieldS (l.getD a Tk.zero).text.data.toList) (a + 1) = some (x, a')) :
    Calls Try.prog 83 #[.pointer (some ⟨R, 0, none⟩)] w (XPost l ee pl A c R x a' d w) := by
  have hlf := test_leaf hx
  have HT := Lib.hid (fun w h => test_s (A := A) (c := c) (R := R) (d := d) (ee := ee) (pl := pl) w h hx)
  have hR := h.lt
  have H0 := Lib.hid ((RdW.start h).alloc (.cells #[.int .i64 0, .slice none 0 0, .int .i64 0, .int .u64 0, .int .i64 0, .int .u64 0] 48))
  have HN := Lib.hid (fun w h => next_s (A := A) (c := c) (R := R) (d := d) (ee := ee) (pl := pl) w h ha)
  obtain ⟨tk, tt, tn, ta, hs⟩ : ∃ sk sx sn sa, l.getD a Tk.zero = ⟨sk, sx, sn, sa⟩ := ⟨_, _, _, _, rfl⟩
  rw [hs] at HN HT hk hf ht1 ht2 ht3
  rw [← fieldS_eq] at HT hf
  unfold Tk.val at HN
  unfold tkB at ht1 ht2 ht3
  dsimp only at HN HT hk hf ht1 ht2 ht3
  rw [← ByteArray.toList_eq] at ht1 ht2 ht3
  subst hk
  simp only [beq_self_eq_true, Bool.true_and] at ht1 ht2 ht3
  obtain ⟨op, A0, c0, l0, xf, xm, xr, xv⟩ := x
  obtain rfl : l0 = [] := hlf
  unfold ExA.val at HT
  dsimp only at HT
  obtain ⟨f, hfd⟩ : ∃ f, f = fieldP tt := ⟨_, rfl⟩
  rw [← hfd] at hf HT
  have HFD := Lib.hid hfd
  clear h hs hfd hx
  go_enter Try.func83, Try.ntmps83
  go_wp2_with fail
  refine (HN.out _ H0.out.at_).mono ?_
  rintro e w1 hr
  obtain rfl := hr.1
  have H1 := Lib.hid (show RdW l ee pl A c R (St (a + 1) d) w w1 ∧ w1.heap[w.heap.size]? = _ from ⟨H0.out.call hr, keep_box hr.2.2 (heap_nwT w _) hR⟩)
  have h11 := (Array.getElem?_eq_some_iff.1 H1.out.2).1
  clear hr
  go_wp2_with fail
  refine (field_c tt _).mono ?_
  rintro e w' ⟨rfl, rfl⟩
  rw [← HFD.out]
  obtain ⟨-, -, -, -, -, c5, -⟩ := H1.out.1.at_.cl
  have hR1 := H1.out.1.at_.lt
  go_wp2_with fail
  refine (HT.out _ ((H1.out.1.alloc _).alloc _).at_).mono ?_
  rintro e w2 hr
  obtain rfl := hr.1
  have H2 := Lib.hid (show RdW l ee pl A c R (St a' d) w w2 ∧ w2.heap[w.heap.size]? = _ from ⟨((H1.out.1.alloc _).alloc _).call hr, keep_box hr.2.2 (alloc_box (alloc_box H1.out.2 _) _) hR⟩)
  have HE := Lib.hid (keep_box hr.2.2 (heap_nwT (w1.alloc (.cells #[.int .i64 2, .string tt, .int .u64 tn, .int .i64 ta] 83)) (.cells #[.int .i64 0, .slice none 0 0, .int .i64 0, .int .u64 0, .int .i64 0, .int .u64 0] 48)) (by simp; omega))
  rw [World.size_alloc] at HE
  clear hr
  obtain ⟨e0, e1, e2, e3, e4, e5⟩ := (box6 HE.out).1
  obtain ⟨fe0, fe1, fe2, fe3, fe4, fe5⟩ := (box6 HE.out).2
  go_upto_region 23 with (fail)
  have HC : Hid (RdW l ee pl A c R (St a' d) w (set6W w2 (w1.heap.size + 1) (.int .i64 op) (.slice A0 0 c0) (.int .i64 xf) (.int .u64 xm) (.int .i64 xr) (.int .u64 xv)) ∧ ((set6W w2 (w1.heap.size + 1) (.int .i64 op) (.slice A0 0 c0) (.int .i64 xf) (.int .u64 xm) (.int .i64 xr) (.int .u64 xv))).heap[w.heap.size]? = some (.cells #[.int .i64 0, .slice none 0 0, .int .i64 0, .int .u64 0, .int .i64 0, .int .u64 0] 48) ∧ ((set6W w2 (w1.heap.size + 1) (.int .i64 op) (.slice A0 0 c0) (.int .i64 xf) (.int .u64 xm) (.int .i64 xr) (.int .u64 xv))).heap[w1.heap.size + 1]? = some (.cells #[.int .i64 op, .slice A0 0 c0, .int .i64 xf, .int .u64 xm, .int .i64 xr, .int .u64 xv] 48) ∧ ExA.In (set6W w2 (w1.heap.size + 1) (.int .i64 op) (.slice A0 0 c0) (.int .i64 xf) (.int .u64 xm) (.int .i64 xr) (.int .u64 xv)) (fun b => w.heap.size < b) (.mk op A0 c0 [] xf xm xr xv)) := Lib.hid ⟨H2.out.1.set6W _ _ _ _ _ _ hR (by omega), (set6W_other _ _ _ _ _ _ (by omega)).trans H2.out.2, set6W_box _ _ _ _ _ _ HE.out, ⟨rfl, fun h => absurd h (by decide)⟩, trivial⟩
  unfold set6W at HC
  generalize (((((w2.setCell ⟨w1.heap.size + 1, 0, none⟩ (.int .i64 op)).setCell ⟨w1.heap.size + 1, 1, none⟩ (.slice A0 0 c0)).setCell ⟨w1.heap.size + 1, 2, none⟩ (.int .i64 xf)).setCell ⟨w1.heap.size + 1, 3, none⟩ (.int .u64 xm)).setCell ⟨w1.heap.size + 1, 4, none⟩ (.int .i64 xr)).setCell ⟨w1.heap.size + 1, 5, none⟩ (.int .u64 xv) = wc at HC ⊢
  obtain ⟨e0, e1, e2, e3, e4, e5⟩ := (box6 HC.out.2.2.1).1
  obtain ⟨o0, o1, o2, o3, o4, o5⟩ := (box6 HC.out.2.1).1
  obtain ⟨fo0, fo1, fo2, fo3, fo4, fo5⟩ := (box6 HC.out.2.1).2
  go_wp2
  obtain ⟨r0, r1, r2, r3, r4, r5⟩ := (box6 (set6 HC.out.2.1 (.int .i64 op) (.slice A0 0 c0) (.int .i64 xf) (.int .u64 xm) (.int .i64 xr) (.int .u64 xv))).1
  refine bodyPost_ret (v := ExA.val (.mk op A0 c0 [] xf xm xr xv)) (by simp [results, Try.results83, go_sem, ExA.val, r0, r1, r2, r3, r4, r5]) rfl ?_
  have HF := HC.out.1.set6W (.int .i64 op) (.slice A0 0 c0) (.int .i64 xf) (.int .u64 xm) (.int .i64 xr) (.int .u64 xv) hR (Nat.le_refl _)
  exact ⟨(.mk op A0 c0 [] xf xm xr xv), rfl, rfl, (HC.out.2.2.2.set6W (.int .i64 op) (.slice A0 0 c0) (.int .i64 xf) (.int .u64 xm) (.int .i64 xr) (.int .u64 xv) (by show ¬ _ < _; omega)).mono (fun b hb => by omega), HF.at_, HF.keep⟩
theorem RdW.callX {l : List Tk} {ee pl : Int} {A : Option Addr} {c R : Nat} {s s' : RSt} {w W W' : World} (h : RdW l ee pl A c R s w W) (k1 : RdAt l ee pl A c R s' W') (k2 : KeepR R W W') : RdW l ee pl A c R s' w W' := ⟨k1, keepR_t h.keep k2⟩
theorem stripL_eq {l k : List ExA} (h : ExA.stripL l = ExA.stripL k) (op f m r v : Int) (A A' : Option Addr) (c c' : Nat) : (ExA.mk op A c l f m r v).strip = (ExA.mk op A' c' k f m r v).strip := by simp only [ExA.strip, h]
theorem RowN.new (W : World) (cs : Array Value) (t : TypeId) {N : Nat → Prop} (size n : Nat) {g : Nat} (hg : g = W.heap.size) (hN : N g) (hl : cs.toList.length = n * size) : RowN (W.alloc (.cells cs t)) N size (some ⟨g, 0, none⟩) n cs.toList := by
  subst hg
  refine ⟨hl, fun _ => ⟨_, _, rfl, hN, fun j u hu => ?_⟩⟩
  rw [Nat.zero_add, World.cell?_alloc_new]
  simpa using hu
set_option maxHeartbeats 1600000 in
theorem one_not {l : List Tk} {ee pl : Int} {A : Option Addr} {c R a a' : Nat} {d : Int} {y : ExA} (w : World) (h : RdAt l ee pl A c R (St a d) w) (ha : a < l.length) (ht : tkB 2 ⟨#[110, 111, 116]⟩ (l.getD a Tk.zero) = true) (hd : 0 ≤ d ∧ d < 64)
    (hone : ∀ w, RdAt l ee pl A c R (St (a + 1) (d + 1)) w → Calls Try.prog 83 #[.pointer (some ⟨R, 0, none⟩)] w (XPost l ee pl A c R y a' (d + 1) w)) :
    Calls Try.prog 83 #[.pointer (some ⟨R, 0, none⟩)] w (XPost l ee pl A c R (.mk 3 none 0 [y] 0 0 0 0) a' d w) := by
  have HONE := Lib.hid hone
  clear hone
  have hR := h.lt
  have H0 := Lib.hid ((RdW.start h).alloc (.cells #[.int .i64 0, .slice none 0 0, .int .i64 0, .int .u64 0, .int .i64 0, .int .u64 0] 48))
  have HN := Lib.hid (fun w h => next_s (A := A) (c := c) (R := R) (d := d) (ee := ee) (pl := pl) w h ha)
  obtain ⟨h1, h2⟩ := (tkB_iff _ _ _).1 ht
  obtain ⟨tk, tt, tn, ta, hs⟩ : ∃ sk sx sn sa, l.getD a Tk.zero = ⟨sk, sx, sn, sa⟩ := ⟨_, _, _, _, rfl⟩
  rw [hs] at HN h1 h2
  unfold Tk.val at HN
  dsimp only at HN h1 h2
  have htl : tt.toList = [110, 111, 116] := by rw [ByteArray.toList_eq, h2]
  clear h hs h2 ht
  subst h1
  go_enter Try.func83, Try.ntmps83
  go_wp2_with fail
  refine (HN.out _ H0.out.at_).mono ?_
  rintro e w1 hr
  obtain rfl := hr.1
  have H1 := Lib.hid (show RdW l ee pl A c R (St (a + 1) d) w w1 ∧ w1.heap[w.heap.size]? = _ from ⟨H0.out.call hr, keep_box hr.2.2 (heap_nwT w _) hR⟩)
  have h11 := (Array.getElem?_eq_some_iff.1 H1.out.2).1
  clear hr
  go_wp2_with fail
  refine (field_c tt _).mono ?_
  rintro e w' ⟨rfl, rfl⟩
  obtain ⟨-, -, -, -, -, c5, -⟩ := H1.out.1.at_.cl
  have hR1 := H1.out.1.at_.lt
  go_wp2_with fail
  refine (deeper_s ⟨2, tt, tn, ta⟩ _ ((H1.out.1.alloc _).alloc _).at_ hd).mono ?_
  rintro e w2 hr
  obtain rfl := hr.1
  have H2 := Lib.hid (show RdW l ee pl A c R (St (a + 1) (d + 1)) w w2 ∧ w2.heap[w.heap.size]? = _ from ⟨((H1.out.1.alloc _).alloc _).call hr, keep_box hr.2.2 (alloc_box (alloc_box H1.out.2 _) _) hR⟩)
  have HE := Lib.hid (keep_box hr.2.2 (heap_nwT (w1.alloc (.cells #[.int .i64 2, .string tt, .int .u64 tn, .int .i64 ta] 83)) (.cells #[.int .i64 0, .slice none 0 0, .int .i64 0, .int .u64 0, .int .i64 0, .int .u64 0] 48)) (by simp; omega))
  rw [World.size_alloc] at HE
  have hE2 := (Array.getElem?_eq_some_iff.1 HE.out).1
  clear hr c5
  go_wp2_with fail
  refine (HONE.out _ H2.out.1.at_).mono ?_
  rintro e w3 ⟨x, rfl, hstrip, hin, hra, hkr⟩
  have HSTRIP := Lib.hid hstrip
  have HIN := Lib.hid hin
  have H3 := Lib.hid (show RdW l ee pl A c R (St a' (d + 1)) w w3 ∧ w3.heap[w.heap.size]? = _ ∧ w3.heap[w1.heap.size + 1]? = _ from ⟨H2.out.1.callX hra hkr, keep_box hkr H2.out.2 hR, keep_box hkr HE.out (by omega)⟩)
  have h31 := (Array.getElem?_eq_some_iff.1 H3.out.2.2).1
  obtain ⟨-, -, -, -, c4, -, -⟩ := hra.cl
  have f4 := hra.fr 4
  have hR3 := hra.lt
  have hz3 : w2.heap.size ≤ w3.heap.size := hkr.size
  clear hstrip hin hra hkr
  obtain ⟨op, A0, c0, l0, xf, xm, xr, xv⟩ := x
  unfold ExA.val
  dsimp only
  obtain ⟨e0, e1, e2, e3, e4, e5⟩ := (box6 H3.out.2.2).1
  obtain ⟨fe0, fe1, fe2, fe3, fe4, fe5⟩ := (box6 H3.out.2.2).2
  go_upto_region 10 with (fail)
  have HB : Hid (RdW l ee pl A c R (St a' (d + 1)) w (((((((w3.setCell ⟨w1.heap.size + 1, 0, none⟩ (.int .i64 3)).setCell ⟨w1.heap.size + 1, 1, none⟩ (.slice (some ⟨w3.heap.size, 0, none⟩) 1 1)).setCell ⟨w1.heap.size + 1, 2, none⟩ (.int .i64 0)).setCell ⟨w1.heap.size + 1, 3, none⟩ (.int .u64 0)).setCell ⟨w1.heap.size + 1, 4, none⟩ (.int .i64 0)).setCell ⟨w1.heap.size + 1, 5, none⟩ (.int .u64 0)).alloc (.cells #[.int .i64 op, .slice A0 l0.length c0, .int .i64 xf, .int .u64 xm, .int .i64 xr, .int .u64 xv] 48)) ∧ (((((((w3.setCell ⟨w1.heap.size + 1, 0, none⟩ (.int .i64 3)).setCell ⟨w1.heap.size + 1, 1, none⟩ (.slice (some ⟨w3.heap.size, 0, none⟩) 1 1)).setCell ⟨w1.heap.size + 1, 2, none⟩ (.int .i64 0)).setCell ⟨w1.heap.size + 1, 3, none⟩ (.int .u64 0)).setCell ⟨w1.heap.size + 1, 4, none⟩ (.int .i64 0)).setCell ⟨w1.heap.size + 1, 5, none⟩ (.int .u64 0)).alloc (.cells #[.int .i64 op, .slice A0 l0.length c0, .int .i64 xf, .int .u64 xm, .int .i64 xr, .int .u64 xv] 48)).heap[w.heap.size]? = some (.cells #[.int .i64 0, .slice none 0 0, .int .i64 0, .int .u64 0, .int .i64 0, .int .u64 0] 48) ∧ (((((((w3.setCell ⟨w1.heap.size + 1, 0, none⟩ (.int .i64 3)).setCell ⟨w1.heap.size + 1, 1, none⟩ (.slice (some ⟨w3.heap.size, 0, none⟩) 1 1)).setCell ⟨w1.heap.size + 1, 2, none⟩ (.int .i64 0)).setCell ⟨w1.heap.size + 1, 3, none⟩ (.int .u64 0)).setCell ⟨w1.heap.size + 1, 4, none⟩ (.int .i64 0)).setCell ⟨w1.heap.size + 1, 5, none⟩ (.int .u64 0)).alloc (.cells #[.int .i64 op, .slice A0 l0.length c0, .int .i64 xf, .int .u64 xm, .int .i64 xr, .int .u64 xv] 48)).heap[w1.heap.size + 1]? = some (.cells #[.int .i64 3, .slice (some ⟨w3.heap.size, 0, none⟩) 1 1, .int .i64 0, .int .u64 0, .int .i64 0, .int .u64 0] 48) ∧ ExA.In (((((((w3.setCell ⟨w1.heap.size + 1, 0, none⟩ (.int .i64 3)).setCell ⟨w1.heap.size + 1, 1, none⟩ (.slice (some ⟨w3.heap.size, 0, none⟩) 1 1)).setCell ⟨w1.heap.size + 1, 2, none⟩ (.int .i64 0)).setCell ⟨w1.heap.size + 1, 3, none⟩ (.int .u64 0)).setCell ⟨w1.heap.size + 1, 4, none⟩ (.int .i64 0)).setCell ⟨w1.heap.size + 1, 5, none⟩ (.int .u64 0)).alloc (.cells #[.int .i64 op, .slice A0 l0.length c0, .int .i64 xf, .int .u64 xm, .int .i64 xr, .int .u64 xv] 48)) (fun b => w2.heap.size ≤ b) (.mk 3 (some ⟨w3.heap.size, 0, none⟩) 1 [.mk op A0 c0 l0 xf xm xr xv] 0 0 0 0)) := Lib.hid (by
    have hs6 := set6W_size (W := w3) (g := w1.heap.size + 1) (.int .i64 3) (.slice (some ⟨w3.heap.size, 0, none⟩) 1 1) (.int .i64 0) (.int .u64 0) (.int .i64 0) (.int .u64 0)
    refine ⟨(H3.out.1.set6W (.int .i64 3) (.slice (some ⟨w3.heap.size, 0, none⟩) 1 1) (.int .i64 0) (.int .u64 0) (.int .i64 0) (.int .u64 0) hR (by omega)).alloc _, alloc_box ((set6W_other (.int .i64 3) (.slice (some ⟨w3.heap.size, 0, none⟩) 1 1) (.int .i64 0) (.int .u64 0) (.int .i64 0) (.int .u64 0) (by omega)).trans H3.out.2.1) _, alloc_box (set6W_box (.int .i64 3) (.slice (some ⟨w3.heap.size, 0, none⟩) 1 1) (.int .i64 0) (.int .u64 0) (.int .i64 0) (.int .u64 0) H3.out.2.2) _, ⟨?_, ?_, trivial⟩⟩
    · exact RowN.new (set6W w3 (w1.heap.size + 1) (.int .i64 3) (.slice (some ⟨w3.heap.size, 0, none⟩) 1 1) (.int .i64 0) (.int .u64 0) (.int .i64 0) (.int .u64 0)) #[.int .i64 op, .slice A0 l0.length c0, .int .i64 xf, .int .u64 xm, .int .i64 xr, .int .u64 xv] 48 6 1 hs6.symm hz3 rfl
    · exact (HIN.out.set6W (.int .i64 3) (.slice (some ⟨w3.heap.size, 0, none⟩) 1 1) (.int .i64 0) (.int .u64 0) (.int .i64 0) (.int .u64 0) (by show ¬ _ ≤ _; omega)).alloc _)
  generalize (((((((w3.setCell ⟨w1.heap.size + 1, 0, none⟩ (.int .i64 3)).setCell ⟨w1.heap.size + 1, 1, none⟩ (.slice (some ⟨w3.heap.size, 0, none⟩) 1 1)).setCell ⟨w1.heap.size + 1, 2, none⟩ (.int .i64 0)).setCell ⟨w1.heap.size + 1, 3, none⟩ (.int .u64 0)).setCell ⟨w1.heap.size + 1, 4, none⟩ (.int .i64 0)).setCell ⟨w1.heap.size + 1, 5, none⟩ (.int .u64 0)).alloc (.cells #[.int .i64 op, .slice A0 l0.length c0, .int .i64 xf, .int .u64 xm, .int .i64 xr, .int .u64 xv] 48)) = wb at HB ⊢
  clear e0 e1 e2 e3 e4 e5 fe0 fe1 fe2 fe3 fe4 fe5 c4 f4
  obtain ⟨-, -, -, -, c4, -, -⟩ := HB.out.1.at_.cl
  have f4 := HB.out.1.at_.fr 4
  dsimp only [St] at c4
  obtain ⟨hd0, hd1⟩ := hd
  go_upto_region 23 with (fail)
  have HC : Hid (RdW l ee pl A c R (St a' d) w (wb.setCell ⟨R, 4, none⟩ (.int .i64 d)) ∧ (wb.setCell ⟨R, 4, none⟩ (.int .i64 d)).heap[w.heap.size]? = some (.cells #[.int .i64 0, .slice none 0 0, .int .i64 0, .int .u64 0, .int .i64 0, .int .u64 0] 48) ∧ (wb.setCell ⟨R, 4, none⟩ (.int .i64 d)).heap[w1.heap.size + 1]? = some (.cells #[.int .i64 3, .slice (some ⟨w3.heap.size, 0, none⟩) 1 1, .int .i64 0, .int .u64 0, .int .i64 0, .int .u64 0] 48) ∧ ExA.In (wb.setCell ⟨R, 4, none⟩ (.int .i64 d)) (fun b => w2.heap.size ≤ b) (.mk 3 (some ⟨w3.heap.size, 0, none⟩) 1 [.mk op A0 c0 l0 xf xm xr xv] 0 0 0 0)) :=
    Lib.hid ⟨HB.out.1.deep, (Below.heap_setCell wb ⟨R, 4, none⟩ _ w.heap.size (by show _ ≠ R; omega)).trans HB.out.2.1, (Below.heap_setCell wb ⟨R, 4, none⟩ _ (w1.heap.size + 1) (by show _ ≠ R; omega)).trans HB.out.2.2.1, HB.out.2.2.2.set (by show ¬ _ ≤ _; omega) _ _⟩
  generalize wb.setCell ⟨R, 4, none⟩ (.int .i64 d) = wc at HC ⊢
  obtain ⟨e0, e1, e2, e3, e4, e5⟩ := (box6 HC.out.2.2.1).1
  obtain ⟨o0, o1, o2, o3, o4, o5⟩ := (box6 HC.out.2.1).1
  obtain ⟨fo0, fo1, fo2, fo3, fo4, fo5⟩ := (box6 HC.out.2.1).2
  go_wp2
  obtain ⟨r0, r1, r2, r3, r4, r5⟩ := (box6 (set6 HC.out.2.1 (.int .i64 3) (.slice (some ⟨w3.heap.size, 0, none⟩) 1 1) (.int .i64 0) (.int .u64 0) (.int .i64 0) (.int .u64 0))).1
  refine bodyPost_ret (v := ExA.val (.mk 3 (some ⟨w3.heap.size, 0, none⟩) 1 [.mk op A0 c0 l0 xf xm xr xv] 0 0 0 0)) (by simp [results, Try.results83, go_sem, ExA.val, r0, r1, r2, r3, r4, r5]) rfl ?_
  have HF := HC.out.1.set6W (.int .i64 3) (.slice (some ⟨w3.heap.size, 0, none⟩) 1 1) (.int .i64 0) (.int .u64 0) (.int .i64 0) (.int .u64 0) hR (Nat.le_refl _)
  exact ⟨(.mk 3 (some ⟨w3.heap.size, 0, none⟩) 1 [.mk op A0 c0 l0 xf xm xr xv] 0 0 0 0), rfl, stripL_eq (by simp only [ExA.stripL]; rw [HSTRIP.out]) 3 0 0 0 0 _ _ _ _, (HC.out.2.2.2.set6W (.int .i64 3) (.slice (some ⟨w3.heap.size, 0, none⟩) 1 1) (.int .i64 0) (.int .u64 0) (.int .i64 0) (.int .u64 0) (by show ¬ _ ≤ _; omega)).mono (fun b hb => by omega), HF.at_, HF.keep⟩
set_option maxHeartbeats 1600000 in
theorem one_paren {l : List Tk} {ee pl : Int} {A : Option Addr} {c R a a' : Nat} {d : Int} {y : ExA} (w : World) (h : RdAt l ee pl A c R (St a d) w) (ha : a < l.length) (ht : tkB 4 ⟨#[40]⟩ (l.getD a Tk.zero) = true) (hd : 0 ≤ d ∧ d < 64) (ha' : a' < l.length) (hc : tkB 4 ⟨#[41]⟩ (l.getD a' Tk.zero) = true)
    (hone : ∀ w, RdAt l ee pl A c R (St (a + 1) (d + 1)) w → Calls Try.prog 69 #[.pointer (some ⟨R, 0, none⟩)] w (XPost l ee pl A c R y a' (d + 1) w)) :
    Calls Try.prog 83 #[.pointer (some ⟨R, 0, none⟩)] w (XPost l ee pl A c R y (a' + 1) d w) := by
  have HONE := Lib.hid hone
  clear hone
  have HWT := Lib.hid (fun w h => want_s (A := A) (c := c) (R := R) (d := d + 1) (ee := ee) (pl := pl) 4 ⟨#[41]⟩ w h ha' hc)
  clear hc
  have hR := h.lt
  have H0 := Lib.hid ((RdW.start h).alloc (.cells #[.int .i64 0, .slice none 0 0, .int .i64 0, .int .u64 0, .int .i64 0, .int .u64 0] 48))
  have HN := Lib.hid (fun w h => next_s (A := A) (c := c) (R := R) (d := d) (ee := ee) (pl := pl) w h ha)
  obtain ⟨h1, h2⟩ := (tkB_iff _ _ _).1 ht
  obtain ⟨tk, tt, tn, ta, hs⟩ : ∃ sk sx sn sa, l.getD a Tk.zero = ⟨sk, sx, sn, sa⟩ := ⟨_, _, _, _, rfl⟩
  rw [hs] at HN h1 h2
  unfold Tk.val at HN
  dsimp only at HN h1 h2
  have htl : tt.toList = [40] := by rw [ByteArray.toList_eq, h2]
  clear h hs h2 ht
  subst h1
  go_enter Try.func83, Try.ntmps83
  go_wp2_with fail
  refine (HN.out _ H0.out.at_).mono ?_
  rintro e w1 hr
  obtain rfl := hr.1
  have H1 := Lib.hid (show RdW l ee pl A c R (St (a + 1) d) w w1 ∧ w1.heap[w.heap.size]? = _ from ⟨H0.out.call hr, keep_box hr.2.2 (heap_nwT w _) hR⟩)
  have h11 := (Array.getElem?_eq_some_iff.1 H1.out.2).1
  clear hr
  go_wp2_with fail
  refine (field_c tt _).mono ?_
  rintro e w' ⟨rfl, rfl⟩
  obtain ⟨-, -, -, -, -, c5, -⟩ := H1.out.1.at_.cl
  have hR1 := H1.out.1.at_.lt
  go_wp2_with fail
  refine (deeper_s ⟨4, tt, tn, ta⟩ _ ((H1.out.1.alloc _).alloc _).at_ hd).mono ?_
  rintro e w2 hr
  obtain rfl := hr.1
  have H2 := Lib.hid (show RdW l ee pl A c R (St (a + 1) (d + 1)) w w2 ∧ w2.heap[w.heap.size]? = _ from ⟨((H1.out.1.alloc _).alloc _).call hr, keep_box hr.2.2 (alloc_box (alloc_box H1.out.2 _) _) hR⟩)
  have HE := Lib.hid (keep_box hr.2.2 (heap_nwT (w1.alloc (.cells #[.int .i64 4, .string tt, .int .u64 tn, .int .i64 ta] 83)) (.cells #[.int .i64 0, .slice none 0 0, .int .i64 0, .int .u64 0, .int .i64 0, .int .u64 0] 48)) (by simp; omega))
  rw [World.size_alloc] at HE
  have hE2 := (Array.getElem?_eq_some_iff.1 HE.out).1
  clear hr c5
  go_wp2_with fail
  refine (HONE.out _ H2.out.1.at_).mono ?_
  rintro e w3 ⟨x, rfl, hstrip, hin, hra, hkr⟩
  have HSTRIP := Lib.hid hstrip
  have HIN := Lib.hid hin
  have H3 := Lib.hid (show RdW l ee pl A c R (St a' (d + 1)) w w3 ∧ w3.heap[w.heap.size]? = _ ∧ w3.heap[w1.heap.size + 1]? = _ from ⟨H2.out.1.callX hra hkr, keep_box hkr H2.out.2 hR, keep_box hkr HE.out (by omega)⟩)
  have h31 := (Array.getElem?_eq_some_iff.1 H3.out.2.2).1
  obtain ⟨-, -, -, -, c4, -, -⟩ := hra.cl
  have f4 := hra.fr 4
  have hR3 := hra.lt
  have hz3 : w2.heap.size ≤ w3.heap.size := hkr.size
  clear hstrip hin hra hkr
  obtain ⟨op, A0, c0, l0, xf, xm, xr, xv⟩ := x
  unfold ExA.val
  dsimp only
  obtain ⟨e0, e1, e2, e3, e4, e5⟩ := (box6 H3.out.2.2).1
  obtain ⟨fe0, fe1, fe2, fe3, fe4, fe5⟩ := (box6 H3.out.2.2).2
  go_upto_region 15 with (fail)
  have HP : Hid (RdW l ee pl A c R (St a' (d + 1)) w ((((((w3.setCell ⟨w1.heap.size + 1, 0, none⟩ (.int .i64 op)).setCell ⟨w1.heap.size + 1, 1, none⟩ (.slice A0 l0.length c0)).setCell ⟨w1.heap.size + 1, 2, none⟩ (.int .i64 xf)).setCell ⟨w1.heap.size + 1, 3, none⟩ (.int .u64 xm)).setCell ⟨w1.heap.size + 1, 4, none⟩ (.int .i64 xr)).setCell ⟨w1.heap.size + 1, 5, none⟩ (.int .u64 xv)) ∧ ((((((w3.setCell ⟨w1.heap.size + 1, 0, none⟩ (.int .i64 op)).setCell ⟨w1.heap.size + 1, 1, none⟩ (.slice A0 l0.length c0)).setCell ⟨w1.heap.size + 1, 2, none⟩ (.int .i64 xf)).setCell ⟨w1.heap.size + 1, 3, none⟩ (.int .u64 xm)).setCell ⟨w1.heap.size + 1, 4, none⟩ (.int .i64 xr)).setCell ⟨w1.heap.size + 1, 5, none⟩ (.int .u64 xv)).heap[w.heap.size]? = some (.cells #[.int .i64 0, .slice none 0 0, .int .i64 0, .int .u64 0, .int .i64 0, .int .u64 0] 48) ∧ ((((((w3.setCell ⟨w1.heap.size + 1, 0, none⟩ (.int .i64 op)).setCell ⟨w1.heap.size + 1, 1, none⟩ (.slice A0 l0.length c0)).setCell ⟨w1.heap.size + 1, 2, none⟩ (.int .i64 xf)).setCell ⟨w1.heap.size + 1, 3, none⟩ (.int .u64 xm)).setCell ⟨w1.heap.size + 1, 4, none⟩ (.int .i64 xr)).setCell ⟨w1.heap.size + 1, 5, none⟩ (.int .u64 xv)).heap[w1.heap.size + 1]? = some (.cells #[.int .i64 op, .slice A0 l0.length c0, .int .i64 xf, .int .u64 xm, .int .i64 xr, .int .u64 xv] 48) ∧ ExA.In ((((((w3.setCell ⟨w1.heap.size + 1, 0, none⟩ (.int .i64 op)).setCell ⟨w1.heap.size + 1, 1, none⟩ (.slice A0 l0.length c0)).setCell ⟨w1.heap.size + 1, 2, none⟩ (.int .i64 xf)).setCell ⟨w1.heap.size + 1, 3, none⟩ (.int .u64 xm)).setCell ⟨w1.heap.size + 1, 4, none⟩ (.int .i64 xr)).setCell ⟨w1.heap.size + 1, 5, none⟩ (.int .u64 xv)) (fun b => w2.heap.size ≤ b) (.mk op A0 c0 l0 xf xm xr xv)) := Lib.hid 
    ⟨H3.out.1.set6W (.int .i64 op) (.slice A0 l0.length c0) (.int .i64 xf) (.int .u64 xm) (.int .i64 xr) (.int .u64 xv) hR (by omega), (set6W_other (.int .i64 op) (.slice A0 l0.length c0) (.int .i64 xf) (.int .u64 xm) (.int .i64 xr) (.int .u64 xv) (by omega)).trans H3.out.2.1, set6W_box (.int .i64 op) (.slice A0 l0.length c0) (.int .i64 xf) (.int .u64 xm) (.int .i64 xr) (.int .u64 xv) H3.out.2.2, HIN.out.set6W (.int .i64 op) (.slice A0 l0.length c0) (.int .i64 xf) (.int .u64 xm) (.int .i64 xr) (.int .u64 xv) (by show ¬ _ ≤ _; omega)⟩
  generalize ((((((w3.setCell ⟨w1.heap.size + 1, 0, none⟩ (.int .i64 op)).setCell ⟨w1.heap.size + 1, 1, none⟩ (.slice A0 l0.length c0)).setCell ⟨w1.heap.size + 1, 2, none⟩ (.int .i64 xf)).setCell ⟨w1.heap.size + 1, 3, none⟩ (.int .u64 xm)).setCell ⟨w1.heap.size + 1, 4, none⟩ (.int .i64 xr)).setCell ⟨w1.heap.size + 1, 5, none⟩ (.int .u64 xv)) = wp at HP ⊢
  go_wp2_with fail
  refine (HWT.out _ HP.out.1.at_).mono ?_
  rintro e wb hr
  obtain rfl := hr.1
  have HB := Lib.hid (show RdW l ee pl A c R (St (a' + 1) (d + 1)) w wb ∧ wb.heap[w.heap.size]? = _ ∧ wb.heap[w1.heap.size + 1]? = _ ∧ ExA.In wb (fun b => w2.heap.size ≤ b) (.mk op A0 c0 l0 xf xm xr xv) from ⟨HP.out.1.call hr, keep_box hr.2.2 HP.out.2.1 hR, keep_box hr.2.2 HP.out.2.2.1 (by omega), HP.out.2.2.2.keepR hr.2.2 (by show ¬ _ ≤ _; omega)⟩)
  clear hr
  clear e0 e1 e2 e3 e4 e5 fe0 fe1 fe2 fe3 fe4 fe5 c4 f4
  obtain ⟨-, -, -, -, c4, -, -⟩ := HB.out.1.at_.cl
  have f4 := HB.out.1.at_.fr 4
  dsimp only [St] at c4
  obtain ⟨hd0, hd1⟩ := hd
  go_upto_region 23 with (fail)
  have HC : Hid (RdW l ee pl A c R (St (a' + 1) d) w (wb.setCell ⟨R, 4, none⟩ (.int .i64 d)) ∧ (wb.setCell ⟨R, 4, none⟩ (.int .i64 d)).heap[w.heap.size]? = some (.cells #[.int .i64 0, .slice none 0 0, .int .i64 0, .int .u64 0, .int .i64 0, .int .u64 0] 48) ∧ (wb.setCell ⟨R, 4, none⟩ (.int .i64 d)).heap[w1.heap.size + 1]? = some (.cells #[.int .i64 op, .slice A0 l0.length c0, .int .i64 xf, .int .u64 xm, .int .i64 xr, .int .u64 xv] 48) ∧ ExA.In (wb.setCell ⟨R, 4, none⟩ (.int .i64 d)) (fun b => w2.heap.size ≤ b) (.mk op A0 c0 l0 xf xm xr xv)) :=
    Lib.hid ⟨HB.out.1.deep, (Below.heap_setCell wb ⟨R, 4, none⟩ _ w.heap.size (by show _ ≠ R; omega)).trans HB.out.2.1, (Below.heap_setCell wb ⟨R, 4, none⟩ _ (w1.heap.size + 1) (by show _ ≠ R; omega)).trans HB.out.2.2.1, HB.out.2.2.2.set (by show ¬ _ ≤ _; omega) _ _⟩
  generalize wb.setCell ⟨R, 4, none⟩ (.int .i64 d) = wc at HC ⊢
  obtain ⟨e0, e1, e2, e3, e4, e5⟩ := (box6 HC.out.2.2.1).1
  obtain ⟨o0, o1, o2, o3, o4, o5⟩ := (box6 HC.out.2.1).1
  obtain ⟨fo0, fo1, fo2, fo3, fo4, fo5⟩ := (box6 HC.out.2.1).2
  go_wp2
  obtain ⟨r0, r1, r2, r3, r4, r5⟩ := (box6 (set6 HC.out.2.1 (.int .i64 op) (.slice A0 l0.length c0) (.int .i64 xf) (.int .u64 xm) (.int .i64 xr) (.int .u64 xv))).1
  refine bodyPost_ret (v := ExA.val (.mk op A0 c0 l0 xf xm xr xv)) (by simp [results, Try.results83, go_sem, ExA.val, r0, r1, r2, r3, r4, r5]) rfl ?_
  have HF := HC.out.1.set6W (.int .i64 op) (.slice A0 l0.length c0) (.int .i64 xf) (.int .u64 xm) (.int .i64 xr) (.int .u64 xv) hR (Nat.le_refl _)
  exact ⟨(.mk op A0 c0 l0 xf xm xr xv), rfl, HSTRIP.out, (HC.out.2.2.2.set6W (.int .i64 op) (.slice A0 l0.length c0) (.int .i64 xf) (.int .u64 xm) (.int .i64 xr) (.int .u64 xv) (by show ¬ _ ≤ _; omega)).mono (fun b hb => by omega), HF.at_, HF.keep⟩
end Go.Proofs.Ytebkbcpnjknkjaa
