import Derived.Test.YtebkbcpnjknkjaaRdW4
set_option linter.unusedVariables false
set_option linter.unusedSimpArgs false
set_option maxRecDepth 100000
namespace Go.Proofs.Ytebkbcpnjknkjaa
open Go.RowKit
/-! ravelinref06's reader: verdict, test. -/
theorem wordS_cases {s : List UInt8} {k : Int} {b : Bool} (h : wordS s = some (k, b)) :
    (b = false ∧ ((s = [107, 105, 108, 108, 95, 112, 114, 111, 99, 101, 115, 115] ∧ k = 1) ∨ (s = [107, 105, 108, 108, 95, 116, 104, 114, 101, 97, 100] ∧ k = 2) ∨ (s = [110, 111, 116, 105, 102, 121] ∧ k = 5) ∨ (s = [108, 111, 103] ∧ k = 7) ∨ (s = [97, 108, 108, 111, 119] ∧ k = 8))) ∨
    (b = true ∧ ((s = [116, 114, 97, 112] ∧ k = 3) ∨ (s = [101, 114, 114, 110, 111] ∧ k = 4) ∨ (s = [116, 114, 97, 99, 101] ∧ k = 6))) := by
  unfold wordS at h
  repeat' split at h
  all_goals first | (cases h; done) | (simp only [Option.some.injEq, Prod.mk.injEq] at h; obtain ⟨rfl, rfl⟩ := h; simp [*])
set_option maxHeartbeats 1600000 in
theorem verdict_s {l : List Tk} {ee pl : Int} {A : Option Addr} {c R a a' : Nat} {d : Int} {x : Int × Int} (w : World) (h : RdAt l ee pl A c R (St a d) w) (hx : verdS l a = some (x, a')) : Calls Try.prog 38 #[.pointer (some ⟨R, 0, none⟩)] w (RPost l ee pl A c R (verdV x) (St a' d) w) := by
  unfold verdS at hx
  by_cases h1 : a < l.length ∧ (l.getD a Tk.zero).kind = 2
  · rw [if_pos h1] at hx
    obtain ⟨ha, hk⟩ := h1
    have HA := Lib.hid ((RdW.start h).alloc (.cells #[.int .i64 0, .int .u64 0] 26))
    have hR := h.lt
    have HK := Lib.hid (fun w h => kind_s (A := A) (c := c) (R := R) (d := d) (ee := ee) (pl := pl) 2 w h ha hk)
    obtain ⟨tk, tt, tn, ta, ht⟩ : ∃ tk tt tn ta, l.getD a Tk.zero = ⟨tk, tt, tn, ta⟩ := ⟨_, _, _, _, rfl⟩
    rw [ht] at hx HK hk
    unfold Tk.val at HK
    dsimp only at hx HK hk
    clear ht h
    subst hk
    cases hw : wordS tt.data.toList with
    | none => rw [hw] at hx; cases hx
    | some kb =>
      obtain ⟨k, b⟩ := kb
      rw [hw] at hx
      have hcs := wordS_cases hw
      rw [← ByteArray.toList_eq] at hcs
      clear hw
      rcases hcs with ⟨rfl, hcs⟩ | ⟨rfl, hcs⟩
      · simp only [Option.some.injEq, Prod.mk.injEq] at hx
        obtain ⟨rfl, rfl⟩ := hx
        unfold verdV
        dsimp only
        rcases hcs with ⟨htl, rfl⟩ | ⟨htl, rfl⟩ | ⟨htl, rfl⟩ | ⟨htl, rfl⟩ | ⟨htl, rfl⟩
        all_goals (
          go_enter Try.func38, Try.ntmps38
          go_wp2_with fail
          refine (HK.out _ HA.out.at_).mono ?_
          rintro e w1 hr
          obtain rfl := hr.1
          have HX := Lib.hid ((HA.out.call hr).alloc (.cells #[.int .i64 2, .string tt, .int .u64 tn, .int .i64 ta] 83))
          have HB := Lib.hid (alloc_box (keep_box hr.2.2 (heap_nwT w _) hR) (.cells #[.int .i64 2, .string tt, .int .u64 tn, .int .i64 ta] 83))
          have hz : (w1.alloc (.cells #[.int .i64 2, .string tt, .int .u64 tn, .int .i64 ta] 83)).heap.size = w1.heap.size + 1 := World.size_alloc _ _
          obtain ⟨-, -, -, -, -, c5, -⟩ := HX.out.at_.cl
          have hb := fun k => box2 (alloc_box HB.out (.cells #[.int .i64 k, .int .u64 0] 26))
          clear hr hz
          go_wp2
          have r := fun k => box2 (set2T (alloc_box HB.out (.cells #[.int .i64 k, .int .u64 0] 26)) (.int .i64 k) (.int .u64 0))
          refine bodyPost_ret (v := .agg #[.int .i64 _, .int .u64 0]) (by simp [results, Try.results38, go_sem, r]; rfl) rfl ?_
          exact ⟨rfl, (((HX.out.alloc _).set hR (Nat.le_refl _) _ _).set hR (Nat.le_refl _) _ _).at_, (((HX.out.alloc _).set hR (Nat.le_refl _) _ _).set hR (Nat.le_refl _) _ _).keep⟩)
      · dsimp only at hx
        by_cases h3 : a + 1 < l.length ∧ (l.getD (a + 1) Tk.zero).kind = 3
        · rw [if_pos h3] at hx
          obtain ⟨ha3, hk3⟩ := h3
          have HK3 := Lib.hid (fun w h => kind_s (A := A) (c := c) (R := R) (d := d) (ee := ee) (pl := pl) 3 w h ha3 hk3)
          obtain ⟨sk, sx, sn, sa, hs⟩ : ∃ sk sx sn sa, l.getD (a + 1) Tk.zero = ⟨sk, sx, sn, sa⟩ := ⟨_, _, _, _, rfl⟩
          rw [hs] at hx HK3 hk3
          unfold Tk.val at HK3
          dsimp only at hx HK3 hk3
          simp only [Option.some.injEq, Prod.mk.injEq] at hx
          obtain ⟨rfl, rfl⟩ := hx
          unfold verdV
          dsimp only
          clear hs
          subst hk3
          rcases hcs with ⟨htl, rfl⟩ | ⟨htl, rfl⟩ | ⟨htl, rfl⟩
          all_goals (
            go_enter Try.func38, Try.ntmps38
            go_wp2_with fail
            refine (HK.out _ HA.out.at_).mono ?_
            rintro e w1 hr
            obtain rfl := hr.1
            have HX := Lib.hid ((HA.out.call hr).alloc (.cells #[.int .i64 2, .string tt, .int .u64 tn, .int .i64 ta] 83))
            have HB := Lib.hid (alloc_box (keep_box hr.2.2 (heap_nwT w _) hR) (.cells #[.int .i64 2, .string tt, .int .u64 tn, .int .i64 ta] 83))
            obtain ⟨-, -, -, -, -, c5, -⟩ := HX.out.at_.cl
            have hR1 := hr.2.1.lt
            have hw1 : w.heap.size < w1.heap.size := (Array.getElem?_eq_some_iff.1 (keep_box hr.2.2 (heap_nwT w _) hR)).1
            clear hr
            go_wp2_with fail
            refine (HK3.out _ (HX.out.alloc _).at_).mono ?_
            rintro e w2 hr
            obtain rfl := hr.1
            have HX2 := Lib.hid ((HX.out.alloc _).call hr)
            have HB2 := Lib.hid (keep_box hr.2.2 (alloc_box HB.out _) hR)
            have hsz : w1.heap.size + 1 < w2.heap.size := by
              have := hr.2.2.size
              simp at this; omega
            have HV2 := Lib.hid (keep_box hr.2.2 (heap_nwT _ _) (by simp; omega))
            have hsw := (Array.getElem?_eq_some_iff.1 HB2.out).1
            clear hr c5
            obtain ⟨v0, v1, fv0, fv1⟩ := box2 HV2.out
            simp only [World.size_alloc] at v0 v1 fv0 fv1
            go_upto_region 32 with (fail)
            have HC : Hid (RdW l ee pl A c R (St (a + 2) d) w ((w2.setCell ⟨w1.heap.size + 1, 1, none⟩ (.int .u64 sn)).alloc (.cells #[.int .i64 3, .string sx, .int .u64 sn, .int .i64 sa] 83)) ∧ ((w2.setCell ⟨w1.heap.size + 1, 1, none⟩ (.int .u64 sn)).alloc (.cells #[.int .i64 3, .string sx, .int .u64 sn, .int .i64 sa] 83)).heap[w.heap.size]? = some (.cells #[.int .i64 0, .int .u64 0] 26 (0, 0)) ∧ ((w2.setCell ⟨w1.heap.size + 1, 1, none⟩ (.int .u64 sn)).alloc (.cells #[.int .i64 3, .string sx, .int .u64 sn, .int .i64 sa] 83)).heap[w1.heap.size + 1]? = some (.cells #[_, .int .u64 sn] 26 (0, 0))) := Lib.hid ⟨(HX2.out.set hR (by omega) _ _).alloc _, alloc_box ((Below.heap_setCell w2 ⟨w1.heap.size + 1, 1, none⟩ _ w.heap.size (by show w.heap.size ≠ w1.heap.size + 1; omega)).trans HB2.out) _, alloc_box (heap_setT (by have := HV2.out; simpa using this) _) _⟩
            generalize (w2.setCell ⟨w1.heap.size + 1, 1, none⟩ (.int .u64 sn)).alloc (.cells #[.int .i64 3, .string sx, .int .u64 sn, .int .i64 sa] 83) = wc at HC ⊢
            obtain ⟨v0, v1, fv0, fv1⟩ := box2 HC.out.2.2
            obtain ⟨o0, o1, fo0, fo1⟩ := box2 HC.out.2.1
            go_wp2
            have r := fun k => box2 (set2T HC.out.2.1 (.int .i64 k) (.int .u64 sn))
            refine bodyPost_ret (v := .agg #[.int .i64 _, .int .u64 sn]) (by simp [results, Try.results38, go_sem, r]; rfl) rfl ?_
            exact ⟨rfl, ((HC.out.1.set hR (Nat.le_refl _) _ _).set hR (Nat.le_refl _) _ _).at_, ((HC.out.1.set hR (Nat.le_refl _) _ _).set hR (Nat.le_refl _) _ _).keep⟩)
        · rw [if_neg h3] at hx; cases hx
  · rw [if_neg h1] at hx; cases hx
def relS (s : List UInt8) : Int :=
  if s = [61, 61] then 1 else if s = [33, 61] then 2 else if s = [60] then 3 else if s = [60, 61] then 4 else if s = [62] then 5 else if s = [62, 61] then 6 else 0
theorem relS_eq (s : ByteArray) : relP s = relS s.data.toList := by
  unfold relP relS
  simp only [ByteArray.toList_eq, beq_iff_eq]
def testT (l : List Tk) (f mk : Int) (a : Nat) : Option (ExA × Nat) :=
  if a + 1 < l.length ∧ (l.getD a Tk.zero).kind = 4 ∧ relS (l.getD a Tk.zero).text.data.toList ≠ 0 ∧ (l.getD (a + 1) Tk.zero).kind = 3 then
    some (.mk 6 none 0 [] f mk (relS (l.getD a Tk.zero).text.data.toList) (l.getD (a + 1) Tk.zero).num, a + 2) else none
def testS (l : List Tk) (f : Int) (a : Nat) : Option (ExA × Nat) :=
  if a < l.length then
    if tkB 4 ⟨#[38]⟩ (l.getD a Tk.zero) = true then
      if a + 1 < l.length ∧ (l.getD (a + 1) Tk.zero).kind = 3 then testT l f (l.getD (a + 1) Tk.zero).num (a + 2) else none
    else testT l f 18446744073709551615 a
  else none
set_option maxHeartbeats 1600000 in
theorem test_s {l : List Tk} {ee pl : Int} {A : Option Addr} {c R a a' : Nat} {d f : Int} {x : ExA} (w : World) (h : RdAt l ee pl A c R (St a d) w) (hx : testS l f a = some (x, a')) : Calls Try.prog 86 #[.pointer (some ⟨R, 0, none⟩), .int .i64 f] w (RPost l ee pl A c R x.val (St a' d) w) := by
  unfold testS at hx
  by_cases ha : a < l.length
  · rw [if_pos ha] at hx
    have hR := h.lt
    have H0 := Lib.hid (((RdW.start h).alloc (.cells #[.int .i64 0, .slice none 0 0, .int .i64 0, .int .u64 0, .int .i64 0, .int .u64 0] 48)).alloc (.cells #[.int .i64 6, .slice none 0 0, .int .i64 f, .int .u64 18446744073709551615, .int .i64 0, .int .u64 0] 48))
    have HO0 := Lib.hid (alloc_box (heap_nwT w (.cells #[.int .i64 0, .slice none 0 0, .int .i64 0, .int .u64 0, .int .i64 0, .int .u64 0] 48)) (.cells #[.int .i64 6, .slice none 0 0, .int .i64 f, .int .u64 18446744073709551615, .int .i64 0, .int .u64 0] 48))
    have HE0 := Lib.hid (heap_nwT (w.alloc (.cells #[.int .i64 0, .slice none 0 0, .int .i64 0, .int .u64 0, .int .i64 0, .int .u64 0] 48)) (.cells #[.int .i64 6, .slice none 0 0, .int .i64 f, .int .u64 18446744073709551615, .int .i64 0, .int .u64 0] 48))
    rw [World.size_alloc] at HE0
    clear h
    cases hb : tkB 4 ⟨#[38]⟩ (l.getD a Tk.zero) with
    | false =>
      rw [hb, if_neg (by decide)] at hx
      have HIS := Lib.hid (fun w h => is_s (A := A) (c := c) (R := R) (d := d) (ee := ee) (pl := pl) 4 ⟨#[38]⟩ w h ha hb)
      obtain ⟨a1, rfl⟩ : ∃ a1, a1 = a := ⟨_, rfl⟩
      obtain ⟨mk, HMK⟩ : ∃ mk : Int, Hid (mk = 18446744073709551615) := ⟨_, Lib.hid rfl⟩
      rw [← HMK.out] at hx
      unfold testT at hx
      by_cases h2 : a1 + 1 < l.length ∧ (l.getD a1 Tk.zero).kind = 4 ∧ relS (l.getD a1 Tk.zero).text.data.toList ≠ 0 ∧ (l.getD (a1 + 1) Tk.zero).kind = 3
      · rw [if_pos h2] at hx
        obtain ⟨h21, h22, h23, h24⟩ := h2
        have HK4 := Lib.hid (fun w h => kind_s (A := A) (c := c) (R := R) (d := d) (ee := ee) (pl := pl) 4 w h (show a1 < l.length by omega) h22)
        have HK5 := Lib.hid (fun w h => kind_s (A := A) (c := c) (R := R) (d := d) (ee := ee) (pl := pl) 3 w h h21 h24)
        obtain ⟨tk, tt, tn, ta, ht⟩ : ∃ sk sx sn sa, l.getD a1 Tk.zero = ⟨sk, sx, sn, sa⟩ := ⟨_, _, _, _, rfl⟩
        obtain ⟨vk, vx, vn, va, hv⟩ : ∃ sk sx sn sa, l.getD (a1 + 1) Tk.zero = ⟨sk, sx, sn, sa⟩ := ⟨_, _, _, _, rfl⟩
        rw [ht] at HK4 h22 h23 hx
        rw [hv] at HK5 h24 hx
        unfold Tk.val at HK4 HK5
        dsimp only at HK4 HK5 h22 h23 h24 hx
        obtain ⟨rl, hrl⟩ : ∃ rl, rl = relP tt := ⟨_, rfl⟩
        rw [← relS_eq] at h23 hx
        rw [← hrl] at h23 hx
        have HREL := Lib.hid hrl
        have hrl0 : (rl == 0) = false := by simpa using h23
        simp only [Option.some.injEq, Prod.mk.injEq] at hx
        obtain ⟨rfl, rfl⟩ := hx
        clear hrl ht hv h23 h21 hb
        subst h22
        subst h24
        unfold ExA.val
        dsimp only
        go_enter Try.func86, Try.ntmps86
        go_wp2_with fail
        refine (HIS.out _ H0.out.at_).mono ?_
        rintro e wt hr
        obtain rfl := hr.1
        have HT : Hid (RdW l ee pl A c R (St a1 d) w wt ∧ wt.heap[w.heap.size]? = some (.cells #[.int .i64 0, .slice none 0 0, .int .i64 0, .int .u64 0, .int .i64 0, .int .u64 0] 48 (0, 0)) ∧ wt.heap[w.heap.size + 1]? = some (.cells #[.int .i64 6, .slice none 0 0, .int .i64 f, .int .u64 mk, .int .i64 0, .int .u64 0] 48 (0, 0))) := Lib.hid ⟨H0.out.call hr, keep_box hr.2.2 HO0.out hR, by rw [HMK.out]; exact keep_box hr.2.2 HE0.out (by omega)⟩
        clear hr
        obtain ⟨e0, e1, e2, e3, e4, e5⟩ := (box6 HT.out.2.2).1
        obtain ⟨fe0, fe1, fe2, fe3, fe4, fe5⟩ := (box6 HT.out.2.2).2
        go_wp2_with fail
        refine (HK4.out _ HT.out.1.at_).mono ?_
        rintro e w3 hr
        obtain rfl := hr.1
        have H3 := Lib.hid (show RdW l ee pl A c R (St (a1 + 1) d) w w3 ∧ w3.heap[w.heap.size]? = _ ∧ w3.heap[w.heap.size + 1]? = _ from ⟨HT.out.1.call hr, keep_box hr.2.2 HT.out.2.1 hR, keep_box hr.2.2 HT.out.2.2 (by omega)⟩)
        have h31 := (Array.getElem?_eq_some_iff.1 H3.out.2.2).1
        clear hr e0 e1 e2 e3 e4 e5 fe0 fe1 fe2 fe3 fe4 fe5
        obtain ⟨e0, e1, e2, e3, e4, e5⟩ := (box6 H3.out.2.2).1
        obtain ⟨fe0, fe1, fe2, fe3, fe4, fe5⟩ := (box6 H3.out.2.2).2
        go_wp2_with fail
        refine (rrel_c tt _).mono ?_
        rintro e w' ⟨rfl, rfl⟩
        rw [← HREL.out]
        go_wp2_with fail
        refine (HK5.out _ ((H3.out.1.set hR (by omega) 4 (.int .i64 rl)).alloc _).at_).mono ?_
        rintro e w4 hr
        obtain rfl := hr.1
        have hz3 : ((w3.setCell ⟨w.heap.size + 1, 4, none⟩ (.int .i64 rl)).alloc (.cells #[.int .i64 4, .string tt, .int .u64 tn, .int .i64 ta] 83)).heap.size = w3.heap.size + 1 := by simp
        have H4 := Lib.hid (show RdW l ee pl A c R (St (a1 + 2) d) w w4 ∧ w4.heap[w.heap.size]? = _ ∧ w4.heap[w.heap.size + 1]? = _ from ⟨((H3.out.1.set hR (by omega) 4 (.int .i64 rl)).alloc _).call hr, keep_box hr.2.2 (alloc_box ((Below.heap_setCell w3 ⟨w.heap.size + 1, 4, none⟩ _ w.heap.size (by show w.heap.size ≠ w.heap.size + 1; omega)).trans H3.out.2.1) _) hR, keep_box hr.2.2 (alloc_box (heap_setT H3.out.2.2 _) _) (by omega)⟩)
        have h41 := (Array.getElem?_eq_some_iff.1 H4.out.2.2).1
        clear hr hz3 e0 e1 e2 e3 e4 e5 fe0 fe1 fe2 fe3 fe4 fe5
        have HE4 : Hid (w4.heap[w.heap.size + 1]? = some (.cells #[.int .i64 6, .slice none 0 0, .int .i64 f, .int .u64 mk, .int .i64 rl, .int .u64 0] 48 (0, 0))) := Lib.hid H4.out.2.2
        obtain ⟨e0, e1, e2, e3, e4, e5⟩ := (box6 HE4.out).1
        obtain ⟨fe0, fe1, fe2, fe3, fe4, fe5⟩ := (box6 HE4.out).2
        go_upto_region 12 with (fail)
        have HC : Hid (RdW l ee pl A c R (St (a1 + 2) d) w ((w4.setCell ⟨w.heap.size + 1, 5, none⟩ (.int .u64 vn)).alloc (.cells #[.int .i64 3, .string vx, .int .u64 vn, .int .i64 va] 83)) ∧ ((w4.setCell ⟨w.heap.size + 1, 5, none⟩ (.int .u64 vn)).alloc (.cells #[.int .i64 3, .string vx, .int .u64 vn, .int .i64 va] 83)).heap[w.heap.size]? = some (.cells #[.int .i64 0, .slice none 0 0, .int .i64 0, .int .u64 0, .int .i64 0, .int .u64 0] 48 (0, 0)) ∧ ((w4.setCell ⟨w.heap.size + 1, 5, none⟩ (.int .u64 vn)).alloc (.cells #[.int .i64 3, .string vx, .int .u64 vn, .int .i64 va] 83)).heap[w.heap.size + 1]? = some (.cells #[.int .i64 6, .slice none 0 0, .int .i64 f, .int .u64 mk, .int .i64 rl, .int .u64 vn] 48 (0, 0))) := Lib.hid ⟨(H4.out.1.set hR (by omega) 5 (.int .u64 vn)).alloc _, alloc_box ((Below.heap_setCell w4 ⟨w.heap.size + 1, 5, none⟩ _ w.heap.size (by show w.heap.size ≠ w.heap.size + 1; omega)).trans H4.out.2.1) _, alloc_box (heap_setT HE4.out _) _⟩
        clear e0 e1 e2 e3 e4 e5 fe0 fe1 fe2 fe3 fe4 fe5
        generalize (w4.setCell ⟨w.heap.size + 1, 5, none⟩ (.int .u64 vn)).alloc (.cells #[.int .i64 3, .string vx, .int .u64 vn, .int .i64 va] 83) = wc at HC ⊢
        obtain ⟨e0, e1, e2, e3, e4, e5⟩ := (box6 HC.out.2.2).1
        obtain ⟨o0, o1, o2, o3, o4, o5⟩ := (box6 HC.out.2.1).1
        obtain ⟨fo0, fo1, fo2, fo3, fo4, fo5⟩ := (box6 HC.out.2.1).2
        go_wp2
        obtain ⟨r0, r1, r2, r3, r4, r5⟩ := (box6 (set6 HC.out.2.1 (.int .i64 6) (.slice none 0 0) (.int .i64 f) (.int .u64 mk) (.int .i64 rl) (.int .u64 vn))).1
        refine bodyPost_ret (v := ExA.val (.mk 6 none 0 [] f mk rl vn)) (by simp [results, Try.results86, go_sem, ExA.val, r0, r1, r2, r3, r4, r5]) rfl ?_
        have HF := ((((((HC.out.1.set hR (Nat.le_refl _) 0 (.int .i64 6)).set hR (Nat.le_refl _) 1 (.slice none 0 0)).set hR (Nat.le_refl _) 2 (.int .i64 f)).set hR (Nat.le_refl _) 3 (.int .u64 mk)).set hR (Nat.le_refl _) 4 (.int .i64 rl)).set hR (Nat.le_refl _) 5 (.int .u64 vn))
        exact ⟨rfl, HF.at_, HF.keep⟩
      · rw [if_neg h2] at hx; cases hx
    | true =>
      rw [hb, if_pos rfl] at hx
      have HIS := Lib.hid (fun w h => is_s (A := A) (c := c) (R := R) (d := d) (ee := ee) (pl := pl) 4 ⟨#[38]⟩ w h ha hb)
      by_cases h3 : a + 1 < l.length ∧ (l.getD (a + 1) Tk.zero).kind = 3
      · rw [if_pos h3] at hx
        have HK3 := Lib.hid (fun w h => kind_s (A := A) (c := c) (R := R) (d := d) (ee := ee) (pl := pl) 3 w h h3.1 h3.2)
        have hk3 := h3.2
        obtain ⟨sk, sx, mk, sa, hs⟩ : ∃ sk sx sn sa, l.getD (a + 1) Tk.zero = ⟨sk, sx, sn, sa⟩ := ⟨_, _, _, _, rfl⟩
        rw [hs] at hx HK3 hk3
        unfold Tk.val at HK3
        dsimp only at hx HK3 hk3
        obtain ⟨a1, ha1⟩ : ∃ a1, a1 = a + 2 := ⟨_, rfl⟩
        rw [← ha1] at hx
        have HA1 := Lib.hid ha1
        clear hs ha1
        subst hk3
        unfold testT at hx
        by_cases h2 : a1 + 1 < l.length ∧ (l.getD a1 Tk.zero).kind = 4 ∧ relS (l.getD a1 Tk.zero).text.data.toList ≠ 0 ∧ (l.getD (a1 + 1) Tk.zero).kind = 3
        · rw [if_pos h2] at hx
          obtain ⟨h21, h22, h23, h24⟩ := h2
          have HK4 := Lib.hid (fun w h => kind_s (A := A) (c := c) (R := R) (d := d) (ee := ee) (pl := pl) 4 w h (show a1 < l.length by omega) h22)
          have HK5 := Lib.hid (fun w h => kind_s (A := A) (c := c) (R := R) (d := d) (ee := ee) (pl := pl) 3 w h h21 h24)
          obtain ⟨tk, tt, tn, ta, ht⟩ : ∃ sk sx sn sa, l.getD a1 Tk.zero = ⟨sk, sx, sn, sa⟩ := ⟨_, _, _, _, rfl⟩
          obtain ⟨vk, vx, vn, va, hv⟩ : ∃ sk sx sn sa, l.getD (a1 + 1) Tk.zero = ⟨sk, sx, sn, sa⟩ := ⟨_, _, _, _, rfl⟩
          rw [ht] at HK4 h22 h23 hx
          rw [hv] at HK5 h24 hx
          unfold Tk.val at HK4 HK5
          dsimp only at HK4 HK5 h22 h23 h24 hx
          obtain ⟨rl, hrl⟩ : ∃ rl, rl = relP tt := ⟨_, rfl⟩
          rw [← relS_eq] at h23 hx
          rw [← hrl] at h23 hx
          have HREL := Lib.hid hrl
          have hrl0 : (rl == 0) = false := by simpa using h23
          simp only [Option.some.injEq, Prod.mk.injEq] at hx
          obtain ⟨rfl, rfl⟩ := hx
          clear hrl ht hv h23 h21 hb
          subst h22
          subst h24
          unfold ExA.val
          dsimp only
          go_enter Try.func86, Try.ntmps86
          go_wp2_with fail
          refine (HIS.out _ H0.out.at_).mono ?_
          rintro e w1 hr
          obtain rfl := hr.1
          have H1 := Lib.hid (show RdW l ee pl A c R (St (a + 1) d) w w1 ∧ w1.heap[w.heap.size]? = _ ∧ w1.heap[w.heap.size + 1]? = _ from ⟨H0.out.call hr, keep_box hr.2.2 HO0.out hR, keep_box hr.2.2 HE0.out (by omega)⟩)
          clear hr
          go_wp2_with fail
          refine (HK3.out _ H1.out.1.at_).mono ?_
          rintro e w2 hr
          obtain rfl := hr.1
          have H2 := Lib.hid (show RdW l ee pl A c R (St (a + 2) d) w w2 ∧ w2.heap[w.heap.size]? = _ ∧ w2.heap[w.heap.size + 1]? = _ from ⟨H1.out.1.call hr, keep_box hr.2.2 H1.out.2.1 hR, keep_box hr.2.2 H1.out.2.2 (by omega)⟩)
          have h21 := (Array.getElem?_eq_some_iff.1 H2.out.2.2).1
          clear hr
          obtain ⟨e0, e1, e2, e3, e4, e5⟩ := (box6 H2.out.2.2).1
          obtain ⟨fe0, fe1, fe2, fe3, fe4, fe5⟩ := (box6 H2.out.2.2).2
          go_upto_region 6 with (fail)
          have HT : Hid (RdW l ee pl A c R (St a1 d) w ((w2.setCell ⟨w.heap.size + 1, 3, none⟩ (.int .u64 mk)).alloc (.cells #[.int .i64 3, .string sx, .int .u64 mk, .int .i64 sa] 83)) ∧ ((w2.setCell ⟨w.heap.size + 1, 3, none⟩ (.int .u64 mk)).alloc (.cells #[.int .i64 3, .string sx, .int .u64 mk, .int .i64 sa] 83)).heap[w.heap.size]? = some (.cells #[.int .i64 0, .slice none 0 0, .int .i64 0, .int .u64 0, .int .i64 0, .int .u64 0] 48 (0, 0)) ∧ ((w2.setCell ⟨w.heap.size + 1, 3, none⟩ (.int .u64 mk)).alloc (.cells #[.int .i64 3, .string sx, .int .u64 mk, .int .i64 sa] 83)).heap[w.heap.size + 1]? = some (.cells #[.int .i64 6, .slice none 0 0, .int .i64 f, .int .u64 mk, .int .i64 0, .int .u64 0] 48 (0, 0))) := Lib.hid ⟨by rw [HA1.out]; exact (H2.out.1.set hR (by omega) 3 (.int .u64 mk)).alloc _, alloc_box ((Below.heap_setCell w2 ⟨w.heap.size + 1, 3, none⟩ _ w.heap.size (by show w.heap.size ≠ w.heap.size + 1; omega)).trans H2.out.2.1) _, alloc_box (heap_setT H2.out.2.2 _) _⟩
          clear e0 e1 e2 e3 e4 e5 fe0 fe1 fe2 fe3 fe4 fe5
          generalize (w2.setCell ⟨w.heap.size + 1, 3, none⟩ (.int .u64 mk)).alloc (.cells #[.int .i64 3, .string sx, .int .u64 mk, .int .i64 sa] 83) = wt at HT ⊢
          obtain ⟨e0, e1, e2, e3, e4, e5⟩ := (box6 HT.out.2.2).1
          obtain ⟨fe0, fe1, fe2, fe3, fe4, fe5⟩ := (box6 HT.out.2.2).2
          go_wp2_with fail
          refine (HK4.out _ HT.out.1.at_).mono ?_
          rintro e w3 hr
          obtain rfl := hr.1
          have H3 := Lib.hid (show RdW l ee pl A c R (St (a1 + 1) d) w w3 ∧ w3.heap[w.heap.size]? = _ ∧ w3.heap[w.heap.size + 1]? = _ from ⟨HT.out.1.call hr, keep_box hr.2.2 HT.out.2.1 hR, keep_box hr.2.2 HT.out.2.2 (by omega)⟩)
          have h31 := (Array.getElem?_eq_some_iff.1 H3.out.2.2).1
          clear hr e0 e1 e2 e3 e4 e5 fe0 fe1 fe2 fe3 fe4 fe5
          obtain ⟨e0, e1, e2, e3, e4, e5⟩ := (box6 H3.out.2.2).1
          obtain ⟨fe0, fe1, fe2, fe3, fe4, fe5⟩ := (box6 H3.out.2.2).2
          go_wp2_with fail
          refine (rrel_c tt _).mono ?_
          rintro e w' ⟨rfl, rfl⟩
          rw [← HREL.out]
          go_wp2_with fail
          refine (HK5.out _ ((H3.out.1.set hR (by omega) 4 (.int .i64 rl)).alloc _).at_).mono ?_
          rintro e w4 hr
          obtain rfl := hr.1
          have hz3 : ((w3.setCell ⟨w.heap.size + 1, 4, none⟩ (.int .i64 rl)).alloc (.cells #[.int .i64 4, .string tt, .int .u64 tn, .int .i64 ta] 83)).heap.size = w3.heap.size + 1 := by simp
          have H4 := Lib.hid (show RdW l ee pl A c R (St (a1 + 2) d) w w4 ∧ w4.heap[w.heap.size]? = _ ∧ w4.heap[w.heap.size + 1]? = _ from ⟨((H3.out.1.set hR (by omega) 4 (.int .i64 rl)).alloc _).call hr, keep_box hr.2.2 (alloc_box ((Below.heap_setCell w3 ⟨w.heap.size + 1, 4, none⟩ _ w.heap.size (by show w.heap.size ≠ w.heap.size + 1; omega)).trans H3.out.2.1) _) hR, keep_box hr.2.2 (alloc_box (heap_setT H3.out.2.2 _) _) (by omega)⟩)
          have h41 := (Array.getElem?_eq_some_iff.1 H4.out.2.2).1
          clear hr hz3 e0 e1 e2 e3 e4 e5 fe0 fe1 fe2 fe3 fe4 fe5
          have HE4 : Hid (w4.heap[w.heap.size + 1]? = some (.cells #[.int .i64 6, .slice none 0 0, .int .i64 f, .int .u64 mk, .int .i64 rl, .int .u64 0] 48 (0, 0))) := Lib.hid H4.out.2.2
          obtain ⟨e0, e1, e2, e3, e4, e5⟩ := (box6 HE4.out).1
          obtain ⟨fe0, fe1, fe2, fe3, fe4, fe5⟩ := (box6 HE4.out).2
          go_upto_region 12 with (fail)
          have HC : Hid (RdW l ee pl A c R (St (a1 + 2) d) w ((w4.setCell ⟨w.heap.size + 1, 5, none⟩ (.int .u64 vn)).alloc (.cells #[.int .i64 3, .string vx, .int .u64 vn, .int .i64 va] 83)) ∧ ((w4.setCell ⟨w.heap.size + 1, 5, none⟩ (.int .u64 vn)).alloc (.cells #[.int .i64 3, .string vx, .int .u64 vn, .int .i64 va] 83)).heap[w.heap.size]? = some (.cells #[.int .i64 0, .slice none 0 0, .int .i64 0, .int .u64 0, .int .i64 0, .int .u64 0] 48 (0, 0)) ∧ ((w4.setCell ⟨w.heap.size + 1, 5, none⟩ (.int .u64 vn)).alloc (.cells #[.int .i64 3, .string vx, .int .u64 vn, .int .i64 va] 83)).heap[w.heap.size + 1]? = some (.cells #[.int .i64 6, .slice none 0 0, .int .i64 f, .int .u64 mk, .int .i64 rl, .int .u64 vn] 48 (0, 0))) := Lib.hid ⟨(H4.out.1.set hR (by omega) 5 (.int .u64 vn)).alloc _, alloc_box ((Below.heap_setCell w4 ⟨w.heap.size + 1, 5, none⟩ _ w.heap.size (by show w.heap.size ≠ w.heap.size + 1; omega)).trans H4.out.2.1) _, alloc_box (heap_setT HE4.out _) _⟩
          clear e0 e1 e2 e3 e4 e5 fe0 fe1 fe2 fe3 fe4 fe5
          generalize (w4.setCell ⟨w.heap.size + 1, 5, none⟩ (.int .u64 vn)).alloc (.cells #[.int .i64 3, .string vx, .int .u64 vn, .int .i64 va] 83) = wc at HC ⊢
          obtain ⟨e0, e1, e2, e3, e4, e5⟩ := (box6 HC.out.2.2).1
          obtain ⟨o0, o1, o2, o3, o4, o5⟩ := (box6 HC.out.2.1).1
          obtain ⟨fo0, fo1, fo2, fo3, fo4, fo5⟩ := (box6 HC.out.2.1).2
          go_wp2
          obtain ⟨r0, r1, r2, r3, r4, r5⟩ := (box6 (set6 HC.out.2.1 (.int .i64 6) (.slice none 0 0) (.int .i64 f) (.int .u64 mk) (.int .i64 rl) (.int .u64 vn))).1
          refine bodyPost_ret (v := ExA.val (.mk 6 none 0 [] f mk rl vn)) (by simp [results, Try.results86, go_sem, ExA.val, r0, r1, r2, r3, r4, r5]) rfl ?_
          have HF := ((((((HC.out.1.set hR (Nat.le_refl _) 0 (.int .i64 6)).set hR (Nat.le_refl _) 1 (.slice none 0 0)).set hR (Nat.le_refl _) 2 (.int .i64 f)).set hR (Nat.le_refl _) 3 (.int .u64 mk)).set hR (Nat.le_refl _) 4 (.int .i64 rl)).set hR (Nat.le_refl _) 5 (.int .u64 vn))
          exact ⟨rfl, HF.at_, HF.keep⟩
        · rw [if_neg h2] at hx; cases hx
      · rw [if_neg h3] at hx; cases hx
  · rw [if_neg ha] at hx; cases hx
end Go.Proofs.Ytebkbcpnjknkjaa
