import Derived.Test.YtebkbcpnjknkjaaRdW6
import Derived.Maps.AppendAt
set_option linter.unusedVariables false
set_option linter.unusedSimpArgs false
set_option maxRecDepth 100000
namespace Go.Proofs.Ytebkbcpnjknkjaa
open Go.RowKit
/-! ravelinref06's reader: all, Expr. (Printed by wip/gen/rdw7.py.) -/
theorem one_step {l : List Tk} {ee pl : Int} {A : Option Addr} {c R f : Nat} (h1 : OneOK l ee pl A c R f) (h2 : ExprOK l ee pl A c R f) : OneOK l ee pl A c R (f + 1) := by
  intro a d x a' w h hr
  rw [pS] at h
  split at h
  · rename_i ha
    split at h
    · rename_i ht
      split at h
      · rename_i hd
        split at h
        · rename_i y a1 e
          simp only [Option.some.injEq, Prod.mk.injEq, List.cons.injEq, and_true] at h
          obtain ⟨rfl, rfl⟩ := h
          exact one_not w hr ha ht hd (fun w h => h1 _ _ _ _ w e h)
        · cases h
      · cases h
    · rename_i ht
      split at h
      · rename_i ht2
        split at h
        · rename_i hd
          split at h
          · rename_i es a1 e
            split at h
            · rename_i h3
              simp only [Option.some.injEq, Prod.mk.injEq, List.cons.injEq, and_true] at h
              obtain ⟨rfl, rfl⟩ := h
              exact one_paren w hr ha ht2 hd h3.1 h3.2 (fun w h => h2 _ _ _ _ w e h)
            · cases h
          · cases h
        · cases h
      · rename_i ht2
        split at h
        · rename_i ht3
          simp only [Option.some.injEq, Prod.mk.injEq, List.cons.injEq, and_true] at h
          obtain ⟨rfl, rfl⟩ := h
          exact one_true w hr ha ht3
        · rename_i ht3
          split at h
          · rename_i ht4
            simp only [Option.some.injEq, Prod.mk.injEq, List.cons.injEq, and_true] at h
            obtain ⟨rfl, rfl⟩ := h
            exact one_false w hr ha ht4
          · rename_i ht4
            split at h
            · rename_i hk
              split at h
              · rename_i y a1 e
                simp only [Option.some.injEq, Prod.mk.injEq, List.cons.injEq, and_true] at h
                obtain ⟨rfl, rfl⟩ := h
                exact one_test w hr ha (by simpa using ht) (by simpa using ht3) (by simpa using ht4) hk.1 hk.2 e
              · cases h
            · cases h
  · cases h
theorem infoX : (Try.prog.info? 48).map (fun i => (i.zero, i.size, i.bytes)) = some (some (.agg #[.int .i64 0, .slice none 0 0, .int .i64 0, .int .u64 0, .int .i64 0, .int .u64 0]), 6, 64) := by kernel_rfl
/-- One more of a list: what is read for it. -/
def Item (l : List Tk) (m fu b : Nat) (d : Int) (y : ExA) (b1 : Nat) : Prop := if m = 1 then pS l fu 0 b d [] = some ([y], b1) else ∃ es, pS l fu 1 b d [] = some (es, b1) ∧ y = wrapX 4 es
def Rest (l : List Tk) (m : Nat) (tok : ByteArray) (fu b : Nat) (d : Int) (acc es : List ExA) (a' : Nat) : Prop :=
  b < l.length ∧ if tkB 2 tok (l.getD b Tk.zero) = true then pS l fu m (b + 1) d acc = some (es, a') else acc = es ∧ b = a'
theorem rest1 {l : List Tk} {fu b : Nat} {d : Int} {acc es : List ExA} {a' : Nat} (h : pS l (fu + 1) 1 b d acc = some (es, a')) : ∃ y b1, Item l 1 fu b d y b1 ∧ b < b1 ∧ Rest l 1 ⟨#[97, 110, 100]⟩ fu b1 d (acc ++ [y]) es a' := by
  rw [pS] at h
  split at h
  · rename_i y b1 e
    refine ⟨y, b1, by unfold Item; rw [if_pos rfl]; exact e, (pS_lt _ _ _ _ _ _ _ e).1, ?_⟩
    split at h
    · rename_i hb
      refine ⟨hb, ?_⟩
      split at h
      · rename_i ht; rw [if_pos ht]; exact h
      · rename_i ht; rw [if_neg ht]; simpa using h
    · cases h
  · cases h
theorem rest2 {l : List Tk} {fu b : Nat} {d : Int} {acc es : List ExA} {a' : Nat} (h : pS l (fu + 1) 2 b d acc = some (es, a')) : ∃ y b1, Item l 2 fu b d y b1 ∧ b < b1 ∧ Rest l 2 ⟨#[111, 114]⟩ fu b1 d (acc ++ [y]) es a' := by
  rw [pS] at h
  split at h
  · rename_i es0 b1 e
    refine ⟨wrapX 4 es0, b1, by unfold Item; rw [if_neg (by decide)]; exact ⟨es0, e, rfl⟩, (pS_lt _ _ _ _ _ _ _ e).1, ?_⟩
    split at h
    · rename_i hb
      refine ⟨hb, ?_⟩
      split at h
      · rename_i ht; rw [if_pos ht]; exact h
      · rename_i ht; rw [if_neg ht]; simpa using h
    · cases h
  · cases h
structure LoopAt (l : List Tk) (ee pl : Int) (A : Option Addr) (c R : Nat) (d : Int) (m : Nat) (tok : ByteArray) (es : List ExA) (a' : Nat) (w : World) (F : Nat) (acc acc0 : List ExA) (b fu : Nat) (v : Value) (W : World) : Prop where
  own : W.ownsRow (w.heap.size + 1) 48 6 v acc.length (cellsX acc)
  inl : ExA.InL W (fun g => w.heap.size < g ∧ v.ownBlock ≠ some g) acc
  rd : RdW l ee pl A c R (St b d) w W
  box : W.heap[w.heap.size]? = some (.cells #[.int .i64 0, .slice none 0 0, .int .i64 0, .int .u64 0, .int .i64 0, .int .u64 0] 48 (0, 0))
  strip : ExA.stripL acc = ExA.stripL acc0
  len : acc.length ≤ b
  pos : 0 < acc.length
  le : fu ≤ F
  rest : Rest l m tok fu b d acc0 es a'
theorem own_keepR {W W' : World} {base : Nat} {e : TypeId} {size n R : Nat} {v : Value} {xs : List Value} (h : W.ownsRow base e size v n xs) (hR : R < base) (k : KeepR R W W') : W'.ownsRow base e size v n xs := by
  refine ⟨h.1, ?_⟩
  rcases h.2 with h2 | ⟨g, cap, cur, h1, h2, h3, h4⟩
  · exact .inl h2
  · exact .inr ⟨g, cap, cur, h1, h2, keep_box k h3 (by omega), h4⟩
section
variable {W W' : World} {N N' : Nat → Prop} {l : List ExA}
theorem ExA.InL.mono (h : ExA.InL W N l) (hN : ∀ b, N b → N' b) : ExA.InL W N' l := ExA.InL.keep (fun b hb _ => ⟨hN b hb, rfl⟩) l h
end
theorem acc_one {acc acc0 : List ExA} (h : ExA.stripL acc = ExA.stripL acc0) : acc.length = acc0.length := by have := congrArg List.length h; rwa [ExA.stripL_length, ExA.stripL_length] at this
theorem RdAt.grown {l : List Tk} {ee pl : Int} {A : Option Addr} {c R : Nat} {s : RSt} {W W' : World} {row : Option Nat} (h : RdAt l ee pl A c R s W) (hg : W.grownBy W' row) (hr : ∀ k, row = some k → R < k) : RdAt l ee pl A c R s W' := by
  have hR := h.lt
  have key : ∀ b, b ≤ R → W'.heap[b]? = W.heap[b]? := fun b hb => hg.block b (by omega) (fun e => by have := hr b (by first | exact e | exact e.symm); omega)
  refine ⟨(key R (Nat.le_refl _)).trans h.box, h.row.keep fun b o hb => ?_, h.len⟩
  simp only [World.cell?]
  rw [key b (by omega)]
theorem keepR_grown {R : Nat} {w W W' : World} {row : Option Nat} (h : KeepR R w W) (hg : W.grownBy W' row) (hr : ∀ k, row = some k → w.heap.size ≤ k) : KeepR R w W' :=
  ⟨hg.os.trans h.os, hg.tape.trans h.tape, hg.output.trans h.output, Nat.le_trans h.size hg.size, fun b hb hn => (hg.block b (Nat.lt_of_lt_of_le hb h.size) (fun e => by have := hr b (by first | exact e | exact e.symm); omega)).trans (h.block b hb hn)⟩
theorem RdW.grown {l : List Tk} {ee pl : Int} {A : Option Addr} {c R : Nat} {s : RSt} {w W W' : World} {row : Option Nat} (h : RdW l ee pl A c R s w W) (hg : W.grownBy W' row) (hR : R < w.heap.size) (hr : ∀ k, row = some k → w.heap.size ≤ k) : RdW l ee pl A c R s w W' :=
  ⟨h.at_.grown hg (fun k hk => by have := hr k hk; omega), keepR_grown h.keep hg hr⟩
theorem LoopAt.more {l : List Tk} {ee pl : Int} {A : Option Addr} {c R : Nat} {d : Int} {m : Nat} {tok : ByteArray} {es : List ExA} {a' : Nat} {w : World} {F : Nat} {acc acc0 : List ExA} {b3 fu : Nat} {v v2 : Value} {w1 w2 w4 : World} {x y1 : ExA} (hR : R < w.heap.size)
    (hown : w4.ownsRow (w.heap.size + 1) 48 6 v2 (acc.length + 1) (cellsX acc ++ x.cells)) (hold : w2.ownsRow (w.heap.size + 1) 48 6 v acc.length (cellsX acc)) (hg : (w2.alloc (.cells x.cells.toArray 48)).grownBy w4 v.ownBlock) (hat : v2.ownBlock = v.ownBlock ∨ v2.ownBlock = some (w2.alloc (.cells x.cells.toArray 48)).heap.size)
    (hin : ExA.InL w2 (fun g => w.heap.size < g ∧ v.ownBlock ≠ some g) acc) (hx : x.In w2 (fun g => w1.heap.size ≤ g)) (hw1 : w.heap.size < w1.heap.size) (hlt : ∀ k, v.ownBlock = some k → k < w1.heap.size)
    (hrd : RdW l ee pl A c R (St b3 d) w w2) (hbox : w2.heap[w.heap.size]? = some (.cells #[.int .i64 0, .slice none 0 0, .int .i64 0, .int .u64 0, .int .i64 0, .int .u64 0] 48 (0, 0))) (hst : ExA.stripL acc = ExA.stripL acc0) (hxs : x.strip = y1.strip) (hl : acc.length < b3) (hF : fu ≤ F) (hrest : Rest l m tok fu b3 d (acc0 ++ [y1]) es a') :
    LoopAt l ee pl A c R d m tok es a' w F (acc ++ [x]) (acc0 ++ [y1]) b3 fu v2 w4 := by
  have hge : ∀ k, v.ownBlock = some k → w.heap.size < k := fun k hk => own_geT hold k hk
  have key : ∀ g, g < w2.heap.size → v.ownBlock ≠ some g → v2.ownBlock ≠ some g ∧ w4.heap[g]? = w2.heap[g]? := by
    intro g hgl hn
    refine ⟨?_, ?_⟩
    · rcases hat with h | h
      · rw [h]; exact hn
      · rw [h, World.size_alloc]; intro e; injection e with e; omega
    · exact (hg.block g (by rw [World.size_alloc]; omega) (fun e => hn (by first | exact e | exact e.symm))).trans (Below.heap_alloc w2 _ g hgl)
  refine ⟨?_, ?_, (hrd.alloc _).grown hg hR (fun k hk => Nat.le_of_lt (hge k hk)), grown_box hg (alloc_box hbox _) (fun e => by have := hge _ e; omega), ?_, ?_, ?_, hF, hrest⟩
  · rw [List.length_append, ← cellsX_snoc]; exact hown
  · rw [ExA.InL_append]
    refine ⟨ExA.InL.keep (fun b hb hl => ?_) _ hin, ExA.In.keep (fun b hb hl => ?_) _ hx, trivial⟩
    · obtain ⟨k1, k2⟩ := key b hl hb.2
      exact ⟨⟨hb.1, k1⟩, k2⟩
    · obtain ⟨k1, k2⟩ := key b hl (fun e => by have := hlt b e; omega)
      exact ⟨⟨by omega, k1⟩, k2⟩
  · rw [ExA.stripL_append, ExA.stripL_append, hst]; simp only [ExA.stripL]; rw [hxs]
  · rw [List.length_append]; simp; omega
  · rw [List.length_append]; simp
set_option maxHeartbeats 1600000 in
theorem all_step {l : List Tk} {ee pl : Int} {A : Option Addr} {c R F : Nat} (hcal : ∀ (fu a : Nat) (d : Int) (y : ExA) (a' : Nat) (w : World), fu ≤ F → Item l 1 fu a d y a' → RdAt l ee pl A c R (St a d) w → Calls Try.prog 83 #[.pointer (some ⟨R, 0, none⟩)] w (XPost l ee pl A c R y a' d w))
    (a : Nat) (d : Int) (es : List ExA) (a' : Nat) (w : World) (hp : pS l (F + 1) 1 a d [] = some (es, a')) (h : RdAt l ee pl A c R (St a d) w) : Calls Try.prog 75 #[.pointer (some ⟨R, 0, none⟩)] w (XPost l ee pl A c R (wrapX 4 es) a' d w) := by
  obtain ⟨i0, HI⟩ : ∃ i0, Hid (Try.prog.info? 48 = some i0 ∧ i0.zero = some (.agg #[.int .i64 0, .slice none 0 0, .int .i64 0, .int .u64 0, .int .i64 0, .int .u64 0]) ∧ i0.size = 6 ∧ i0.bytes = 64) := by
    obtain ⟨i0, hi, hz0, hz1, hz2⟩ := info_parts infoX
    exact ⟨i0, Lib.hid ⟨hi, hz0, hz1, hz2⟩⟩
  have hR := h.lt
  have HCAL := Lib.hid hcal
  have H0 := Lib.hid ((RdW.start h).alloc (.cells #[.int .i64 0, .slice none 0 0, .int .i64 0, .int .u64 0, .int .i64 0, .int .u64 0] 48))
  obtain ⟨y, b, hit, hbb, hrest⟩ := rest1 hp
  have HONE := Lib.hid (fun w h => hcal F a d y b w (Nat.le_refl _) hit h)
  have HREST := Lib.hid hrest
  have hlen := h.len
  clear hcal h hit hp hrest
  go_enter Try.func75, Try.ntmps75
  go_wp2_with fail
  refine (HONE.out _ H0.out.at_).mono ?_
  rintro e w3 ⟨x, rfl, hstrip, hin, hra, hkr⟩
  have h31 : w.heap.size < w3.heap.size := (Array.getElem?_eq_some_iff.1 (keep_box hkr (heap_nwT w _) hR)).1
  have HXV := Lib.hid (show ExA.stripL [x] = ExA.stripL [y] by simp only [ExA.stripL]; rw [hstrip])
  obtain ⟨op, A0, c0, l0, xf, xm, xr, xv⟩ := x
  have HS : Hid (LoopAt l ee pl A c R d 1 ⟨#[97, 110, 100]⟩ es a' w F [.mk op A0 c0 l0 xf xm xr xv] [y] b F (.slice (some ⟨w3.heap.size, 0, none⟩) 1 1) (w3.alloc (.cells #[.int .i64 op, .slice A0 l0.length c0, .int .i64 xf, .int .u64 xm, .int .i64 xr, .int .u64 xv] 48))) := Lib.hid (by
    refine ⟨?_, ⟨hin.keep (fun g hg hl => ⟨⟨by simp at hg; omega, by simp [Value.ownBlock]; omega⟩, Below.heap_alloc w3 _ g hl⟩), trivial⟩, ⟨hra.keep (below1 _ _), keepR_t H0.out.keep (keepR_t hkr (keepR_b (below1 _ _)))⟩, alloc_box (keep_box hkr (heap_nwT w _) hR) _, HXV.out, by simp; omega, by simp, Nat.le_refl _, HREST.out⟩
    exact own_lit (W := w3) (cs := #[.int .i64 op, .slice A0 l0.length c0, .int .i64 xf, .int .u64 xm, .int .i64 xr, .int .u64 xv]) (base := w.heap.size + 1) (e := 48) 6 1 rfl (by simp [maxLen]) (by omega))
  clear hstrip hin hra hkr
  unfold ExA.val
  dsimp only
  go_wp2_with fail
  go_loopw [3, 4] (fun v _ wr => ∃ (acc acc0 : List ExA) (b fu : Nat), Hid (LoopAt l ee pl A c R d 1 ⟨#[97, 110, 100]⟩ es a' w F acc acc0 b fu v wr)) (fun v _ _ => es.length - lenV v)
  case atStart => exact ⟨_, _, _, _, HS⟩
  case round =>
    obtain ⟨acc, acc0, b2, fu, HL⟩ := hrel
    clear HS HXV HREST HONE H0
    obtain ⟨hb2, hrs⟩ := HL.out.rest
    obtain ⟨-, -, -, -, -, c5, -⟩ := HL.out.rd.at_.cl
    dsimp only [St] at c5
    cases ht : tkB 2 ⟨#[97, 110, 100]⟩ (l.getD b2 Tk.zero) with
    | false =>
      have HIS := Lib.hid (fun w h => is_s (A := A) (c := c) (R := R) (d := d) (ee := ee) (pl := pl) 2 ⟨#[97, 110, 100]⟩ w h hb2 ht)
      rw [ht, if_neg (by decide)] at hrs
      obtain ⟨rfl, rfl⟩ := hrs
      obtain ⟨g, cap, hv, hbg, hgl⟩ := HL.out.own.form HL.out.pos
      subst hv
      by_cases h1 : acc.length = 1
      · obtain ⟨⟨xo, xA, xc, xl, xf, xm, xr, xv⟩, rfl⟩ := List.length_eq_one_iff.1 h1
        obtain ⟨y0, rfl⟩ := List.length_eq_one_iff.1 ((acc_one HL.out.strip).symm.trans h1)
        clear h1
        simp only [List.length_cons, List.length_nil, Nat.zero_add]
        go_wp2_with fail
        refine (HIS.out _ HL.out.rd.at_).mono ?_
        rintro e w1 hr
        obtain rfl := hr.1
        have hown := own_keepR HL.out.own (by omega) hr.2.2
        have hw := hown.cells (g := g) rfl
        simp only [add_plain, Nat.zero_add] at hw
        have k0 := hw 0 _ rfl
        have k1 := hw 1 _ rfl
        have k2 := hw 2 _ rfl
        have k3 := hw 3 _ rfl
        have k4 := hw 4 _ rfl
        have k5 := hw 5 _ rfl
        have HBX := Lib.hid (keep_box hr.2.2 HL.out.box hR)
        have HRD := Lib.hid (HL.out.rd.call hr)
        have HIN := Lib.hid (HL.out.inl.1.keepR hr.2.2 (by show ¬ (_ ∧ _); omega))
        obtain ⟨o0, o1, o2, o3, o4, o5⟩ := (box6 HBX.out).1
        obtain ⟨fo0, fo1, fo2, fo3, fo4, fo5⟩ := (box6 HBX.out).2
        clear hr hown hw c5
        go_wp2
        obtain ⟨r0, r1, r2, r3, r4, r5⟩ := (box6 (set6 HBX.out (.int .i64 xo) (.slice xA xl.length xc) (.int .i64 xf) (.int .u64 xm) (.int .i64 xr) (.int .u64 xv))).1
        refine bodyPost_ret (v := ExA.val (.mk xo xA xc xl xf xm xr xv)) (by simp [results, Try.results75, go_sem, ExA.val, r0, r1, r2, r3, r4, r5]) rfl ?_
        have HF := HRD.out.set6W (.int .i64 xo) (.slice xA xl.length xc) (.int .i64 xf) (.int .u64 xm) (.int .i64 xr) (.int .u64 xv) hR (Nat.le_refl _)
        refine ⟨_, rfl, ?_, (HIN.out.set6W (.int .i64 xo) (.slice xA xl.length xc) (.int .i64 xf) (.int .u64 xm) (.int .i64 xr) (.int .u64 xv) (by show ¬ (_ ∧ _); omega)).mono (fun b hb => by omega), HF.at_, HF.keep⟩
        have := HL.out.strip
        simpa only [ExA.stripL, wrapX, List.cons.injEq, and_true] using this
      · have hne : ((acc.length : Int) == 1) = false := by rw [beq_eq_false_iff_ne]; omega
        have HW : Hid (wrapX 4 acc0 = .mk 4 none 0 acc0 0 0 0 0) := Lib.hid (by
          have e := acc_one HL.out.strip
          have hp := HL.out.pos
          match acc0, e with
          | [], e => exact absurd (show acc.length = 0 from e) (by omega)
          | [_], e => exact absurd e h1
          | _ :: _ :: _, _ => rfl)
        clear h1
        go_wp2_with fail
        refine (HIS.out _ HL.out.rd.at_).mono ?_
        rintro e w1 hr
        obtain rfl := hr.1
        have HOWN := Lib.hid (own_keepR HL.out.own (by omega) hr.2.2)
        have HBX := Lib.hid (keep_box hr.2.2 HL.out.box hR)
        have HRD := Lib.hid (HL.out.rd.call hr)
        have HIN := Lib.hid (ExA.InL.keep (N' := fun b => w.heap.size < b) (fun b hb hl => ⟨hb.1, hr.2.2.block b hl (fun e => by injection e with e; omega)⟩) _ HL.out.inl)
        obtain ⟨o0, o1, o2, o3, o4, o5⟩ := (box6 HBX.out).1
        obtain ⟨fo0, fo1, fo2, fo3, fo4, fo5⟩ := (box6 HBX.out).2
        clear hr c5
        go_wp2
        obtain ⟨r0, r1, r2, r3, r4, r5⟩ := (box6 (set6 HBX.out (.int .i64 4) (.slice (some ⟨g, 0, none⟩) acc.length cap) (.int .i64 0) (.int .u64 0) (.int .i64 0) (.int .u64 0))).1
        refine bodyPost_ret (v := ExA.val (.mk 4 (some ⟨g, 0, none⟩) cap acc 0 0 0 0)) (by simp [results, Try.results75, go_sem, ExA.val, r0, r1, r2, r3, r4, r5]) rfl ?_
        have HF := HRD.out.set6W (.int .i64 4) (.slice (some ⟨g, 0, none⟩) acc.length cap) (.int .i64 0) (.int .u64 0) (.int .i64 0) (.int .u64 0) hR (Nat.le_refl _)
        have hIn : ExA.In w1 (fun b => w.heap.size < b) (.mk 4 (some ⟨g, 0, none⟩) cap acc 0 0 0 0) := ⟨RowN.of_own HOWN.out (fun g' e h => by omega), HIN.out⟩
        refine ⟨_, rfl, ?_, (hIn.set6W (.int .i64 4) (.slice (some ⟨g, 0, none⟩) acc.length cap) (.int .i64 0) (.int .u64 0) (.int .i64 0) (.int .u64 0) (by show ¬ _ < _; omega)).mono (fun b hb => by omega), HF.at_, HF.keep⟩
        rw [HW.out]
        exact stripL_eq HL.out.strip _ _ _ _ _ _ _ _ _
    | true =>
      have HIS := Lib.hid (fun w h => is_s (A := A) (c := c) (R := R) (d := d) (ee := ee) (pl := pl) 2 ⟨#[97, 110, 100]⟩ w h hb2 ht)
      rw [ht, if_pos rfl] at hrs
      obtain ⟨fu, rfl⟩ : ∃ f', fu = f' + 1 := by cases fu with | zero => cases hrs | succ f => exact ⟨f, rfl⟩
      have hes := (pS_lt _ _ _ _ _ _ _ hrs).2 (by decide)
      obtain ⟨y1, b3, hit, hb3, hrest⟩ := rest1 hrs
      have hle := HL.out.le
      have HONE := Lib.hid (fun w h => HCAL.out fu (b2 + 1) d y1 b3 w (by omega) hit h)
      have HREST := Lib.hid hrest
      have hacc := acc_one HL.out.strip
      have hlb := HL.out.len
      clear hit hrs hrest ht
      go_wp2_with fail
      refine (HIS.out _ HL.out.rd.at_).mono ?_
      rintro e w1 hr
      obtain rfl := hr.1
      have HO1 := Lib.hid (own_keepR HL.out.own (by omega) hr.2.2)
      have HB1 := Lib.hid (keep_box hr.2.2 HL.out.box hR)
      have HR1 := Lib.hid (HL.out.rd.call hr)
      have HI1 := Lib.hid (ExA.InL.keep (N' := fun g => w.heap.size < g ∧ u3.ownBlock ≠ some g) (fun b hb hl => ⟨hb, hr.2.2.block b hl (fun e => by injection e with e; omega)⟩) _ HL.out.inl)
      clear hr c5
      go_wp2_with fail
      refine (HONE.out _ HR1.out.at_).mono ?_
      rintro e w2 ⟨x, rfl, hstrip, hin, hra, hkr⟩
      have HO2 := Lib.hid (own_keepR HO1.out (by omega) hkr)
      have HB2 := Lib.hid (keep_box hkr HB1.out hR)
      have HR2 := Lib.hid (HR1.out.callX hra hkr)
      have HI2 := Lib.hid (ExA.InL.keep (N' := fun g => w.heap.size < g ∧ u3.ownBlock ≠ some g) (fun b hb hl => ⟨hb, hkr.block b hl (fun e => by injection e with e; omega)⟩) _ HI1.out)
      have HX2 := Lib.hid hin
      have HST := Lib.hid hstrip
      have HOL := Lib.hid (own_ltT HO1.out)
      have hz2 : w1.heap.size ≤ w2.heap.size := hkr.size
      have hz1 : w.heap.size < w1.heap.size := (Array.getElem?_eq_some_iff.1 HB1.out).1
      clear hstrip hin hra hkr
      obtain ⟨xo, xA, xc, xl, xf, xm, xr, xv⟩ := x
      unfold ExA.val
      dsimp only
      go_wp2_with (at_builtin; refine wpList_append_own_at (w2.alloc (.cells #[.int .i64 xo, .slice xA xl.length xc, .int .i64 xf, .int .u64 xm, .int .i64 xr, .int .u64 xv] 48)) rfl (.tmp 17) (.tmp 20) 45 rfl (w.heap.size + 1) 48 i0 _ 6 64 Try.underlying45 HI.out.1 HI.out.2.1 HI.out.2.2.1 HI.out.2.2.2 rfl (by decide) u3 acc.length (cellsX acc) rfl (own_alloc HO2.out _) ⟨w2.heap.size, 0, none⟩ 1 1 (ExA.cells (.mk xo xA xc xl xf xm xr xv)) rfl rfl (fun j u hu => by rw [add_plain, Nat.zero_add]; exact (World.cell?_alloc_new _ _ _ _).trans (by simpa [ExA.cells] using hu)) (ExA.cells_one _) (by simp only [maxLen]; omega) (by omega) (by simp; omega) ?_; intro v2 w4 hown hg _ hat; have HG := Lib.hid hg; have HO4 := Lib.hid hown; have HAT := Lib.hid hat; clear hown hg hat)
      go_roundw
      case rel =>
        exact ⟨acc ++ [.mk xo xA xc xl xf xm xr xv], acc0 ++ [y1], b3, fu, Lib.hid (LoopAt.more (x := .mk xo xA xc xl xf xm xr xv) hR HO4.out HO2.out HG.out HAT.out HI2.out HX2.out hz1 HOL.out HR2.out HB2.out HL.out.strip HST.out (by omega) (by omega) HREST.out)⟩
      case measure =>
        rw [own_lenV HO4.out, own_lenV HL.out.own]; omega
set_option maxHeartbeats 1600000 in
theorem Expr_step {l : List Tk} {ee pl : Int} {A : Option Addr} {c R F : Nat} (hcal : ∀ (fu a : Nat) (d : Int) (y : ExA) (a' : Nat) (w : World), fu ≤ F → Item l 2 fu a d y a' → RdAt l ee pl A c R (St a d) w → Calls Try.prog 75 #[.pointer (some ⟨R, 0, none⟩)] w (XPost l ee pl A c R y a' d w))
    (a : Nat) (d : Int) (es : List ExA) (a' : Nat) (w : World) (hp : pS l (F + 1) 2 a d [] = some (es, a')) (h : RdAt l ee pl A c R (St a d) w) : Calls Try.prog 69 #[.pointer (some ⟨R, 0, none⟩)] w (XPost l ee pl A c R (wrapX 5 es) a' d w) := by
  obtain ⟨i0, HI⟩ : ∃ i0, Hid (Try.prog.info? 48 = some i0 ∧ i0.zero = some (.agg #[.int .i64 0, .slice none 0 0, .int .i64 0, .int .u64 0, .int .i64 0, .int .u64 0]) ∧ i0.size = 6 ∧ i0.bytes = 64) := by
    obtain ⟨i0, hi, hz0, hz1, hz2⟩ := info_parts infoX
    exact ⟨i0, Lib.hid ⟨hi, hz0, hz1, hz2⟩⟩
  have hR := h.lt
  have HCAL := Lib.hid hcal
  have H0 := Lib.hid ((RdW.start h).alloc (.cells #[.int .i64 0, .slice none 0 0, .int .i64 0, .int .u64 0, .int .i64 0, .int .u64 0] 48))
  obtain ⟨y, b, hit, hbb, hrest⟩ := rest2 hp
  have HONE := Lib.hid (fun w h => hcal F a d y b w (Nat.le_refl _) hit h)
  have HREST := Lib.hid hrest
  have hlen := h.len
  clear hcal h hit hp hrest
  go_enter Try.func69, Try.ntmps69
  go_wp2_with fail
  refine (HONE.out _ H0.out.at_).mono ?_
  rintro e w3 ⟨x, rfl, hstrip, hin, hra, hkr⟩
  have h31 : w.heap.size < w3.heap.size := (Array.getElem?_eq_some_iff.1 (keep_box hkr (heap_nwT w _) hR)).1
  have HXV := Lib.hid (show ExA.stripL [x] = ExA.stripL [y] by simp only [ExA.stripL]; rw [hstrip])
  obtain ⟨op, A0, c0, l0, xf, xm, xr, xv⟩ := x
  have HS : Hid (LoopAt l ee pl A c R d 2 ⟨#[111, 114]⟩ es a' w F [.mk op A0 c0 l0 xf xm xr xv] [y] b F (.slice (some ⟨w3.heap.size, 0, none⟩) 1 1) (w3.alloc (.cells #[.int .i64 op, .slice A0 l0.length c0, .int .i64 xf, .int .u64 xm, .int .i64 xr, .int .u64 xv] 48))) := Lib.hid (by
    refine ⟨?_, ⟨hin.keep (fun g hg hl => ⟨⟨by simp at hg; omega, by simp [Value.ownBlock]; omega⟩, Below.heap_alloc w3 _ g hl⟩), trivial⟩, ⟨hra.keep (below1 _ _), keepR_t H0.out.keep (keepR_t hkr (keepR_b (below1 _ _)))⟩, alloc_box (keep_box hkr (heap_nwT w _) hR) _, HXV.out, by simp; omega, by simp, Nat.le_refl _, HREST.out⟩
    exact own_lit (W := w3) (cs := #[.int .i64 op, .slice A0 l0.length c0, .int .i64 xf, .int .u64 xm, .int .i64 xr, .int .u64 xv]) (base := w.heap.size + 1) (e := 48) 6 1 rfl (by simp [maxLen]) (by omega))
  clear hstrip hin hra hkr
  unfold ExA.val
  dsimp only
  go_wp2_with fail
  go_loopw [3, 4] (fun v _ wr => ∃ (acc acc0 : List ExA) (b fu : Nat), Hid (LoopAt l ee pl A c R d 2 ⟨#[111, 114]⟩ es a' w F acc acc0 b fu v wr)) (fun v _ _ => es.length - lenV v)
  case atStart => exact ⟨_, _, _, _, HS⟩
  case round =>
    obtain ⟨acc, acc0, b2, fu, HL⟩ := hrel
    clear HS HXV HREST HONE H0
    obtain ⟨hb2, hrs⟩ := HL.out.rest
    obtain ⟨-, -, -, -, -, c5, -⟩ := HL.out.rd.at_.cl
    dsimp only [St] at c5
    cases ht : tkB 2 ⟨#[111, 114]⟩ (l.getD b2 Tk.zero) with
    | false =>
      have HIS := Lib.hid (fun w h => is_s (A := A) (c := c) (R := R) (d := d) (ee := ee) (pl := pl) 2 ⟨#[111, 114]⟩ w h hb2 ht)
      rw [ht, if_neg (by decide)] at hrs
      obtain ⟨rfl, rfl⟩ := hrs
      obtain ⟨g, cap, hv, hbg, hgl⟩ := HL.out.own.form HL.out.pos
      subst hv
      by_cases h1 : acc.length = 1
      · obtain ⟨⟨xo, xA, xc, xl, xf, xm, xr, xv⟩, rfl⟩ := List.length_eq_one_iff.1 h1
        obtain ⟨y0, rfl⟩ := List.length_eq_one_iff.1 ((acc_one HL.out.strip).symm.trans h1)
        clear h1
        simp only [List.length_cons, List.length_nil, Nat.zero_add]
        go_wp2_with fail
        refine (HIS.out _ HL.out.rd.at_).mono ?_
        rintro e w1 hr
        obtain rfl := hr.1
        have hown := own_keepR HL.out.own (by omega) hr.2.2
        have hw := hown.cells (g := g) rfl
        simp only [add_plain, Nat.zero_add] at hw
        have k0 := hw 0 _ rfl
        have k1 := hw 1 _ rfl
        have k2 := hw 2 _ rfl
        have k3 := hw 3 _ rfl
        have k4 := hw 4 _ rfl
        have k5 := hw 5 _ rfl
        have HBX := Lib.hid (keep_box hr.2.2 HL.out.box hR)
        have HRD := Lib.hid (HL.out.rd.call hr)
        have HIN := Lib.hid (HL.out.inl.1.keepR hr.2.2 (by show ¬ (_ ∧ _); omega))
        obtain ⟨o0, o1, o2, o3, o4, o5⟩ := (box6 HBX.out).1
        obtain ⟨fo0, fo1, fo2, fo3, fo4, fo5⟩ := (box6 HBX.out).2
        clear hr hown hw c5
        go_wp2
        obtain ⟨r0, r1, r2, r3, r4, r5⟩ := (box6 (set6 HBX.out (.int .i64 xo) (.slice xA xl.length xc) (.int .i64 xf) (.int .u64 xm) (.int .i64 xr) (.int .u64 xv))).1
        refine bodyPost_ret (v := ExA.val (.mk xo xA xc xl xf xm xr xv)) (by simp [results, Try.results69, go_sem, ExA.val, r0, r1, r2, r3, r4, r5]) rfl ?_
        have HF := HRD.out.set6W (.int .i64 xo) (.slice xA xl.length xc) (.int .i64 xf) (.int .u64 xm) (.int .i64 xr) (.int .u64 xv) hR (Nat.le_refl _)
        refine ⟨_, rfl, ?_, (HIN.out.set6W (.int .i64 xo) (.slice xA xl.length xc) (.int .i64 xf) (.int .u64 xm) (.int .i64 xr) (.int .u64 xv) (by show ¬ (_ ∧ _); omega)).mono (fun b hb => by omega), HF.at_, HF.keep⟩
        have := HL.out.strip
        simpa only [ExA.stripL, wrapX, List.cons.injEq, and_true] using this
      · have hne : ((acc.length : Int) == 1) = false := by rw [beq_eq_false_iff_ne]; omega
        have HW : Hid (wrapX 5 acc0 = .mk 5 none 0 acc0 0 0 0 0) := Lib.hid (by
          have e := acc_one HL.out.strip
          have hp := HL.out.pos
          match acc0, e with
          | [], e => exact absurd (show acc.length = 0 from e) (by omega)
          | [_], e => exact absurd e h1
          | _ :: _ :: _, _ => rfl)
        clear h1
        go_wp2_with fail
        refine (HIS.out _ HL.out.rd.at_).mono ?_
        rintro e w1 hr
        obtain rfl := hr.1
        have HOWN := Lib.hid (own_keepR HL.out.own (by omega) hr.2.2)
        have HBX := Lib.hid (keep_box hr.2.2 HL.out.box hR)
        have HRD := Lib.hid (HL.out.rd.call hr)
        have HIN := Lib.hid (ExA.InL.keep (N' := fun b => w.heap.size < b) (fun b hb hl => ⟨hb.1, hr.2.2.block b hl (fun e => by injection e with e; omega)⟩) _ HL.out.inl)
        obtain ⟨o0, o1, o2, o3, o4, o5⟩ := (box6 HBX.out).1
        obtain ⟨fo0, fo1, fo2, fo3, fo4, fo5⟩ := (box6 HBX.out).2
        clear hr c5
        go_wp2
        obtain ⟨r0, r1, r2, r3, r4, r5⟩ := (box6 (set6 HBX.out (.int .i64 5) (.slice (some ⟨g, 0, none⟩) acc.length cap) (.int .i64 0) (.int .u64 0) (.int .i64 0) (.int .u64 0))).1
        refine bodyPost_ret (v := ExA.val (.mk 5 (some ⟨g, 0, none⟩) cap acc 0 0 0 0)) (by simp [results, Try.results69, go_sem, ExA.val, r0, r1, r2, r3, r4, r5]) rfl ?_
        have HF := HRD.out.set6W (.int .i64 5) (.slice (some ⟨g, 0, none⟩) acc.length cap) (.int .i64 0) (.int .u64 0) (.int .i64 0) (.int .u64 0) hR (Nat.le_refl _)
        have hIn : ExA.In w1 (fun b => w.heap.size < b) (.mk 5 (some ⟨g, 0, none⟩) cap acc 0 0 0 0) := ⟨RowN.of_own HOWN.out (fun g' e h => by omega), HIN.out⟩
        refine ⟨_, rfl, ?_, (hIn.set6W (.int .i64 5) (.slice (some ⟨g, 0, none⟩) acc.length cap) (.int .i64 0) (.int .u64 0) (.int .i64 0) (.int .u64 0) (by show ¬ _ < _; omega)).mono (fun b hb => by omega), HF.at_, HF.keep⟩
        rw [HW.out]
        exact stripL_eq HL.out.strip _ _ _ _ _ _ _ _ _
    | true =>
      have HIS := Lib.hid (fun w h => is_s (A := A) (c := c) (R := R) (d := d) (ee := ee) (pl := pl) 2 ⟨#[111, 114]⟩ w h hb2 ht)
      rw [ht, if_pos rfl] at hrs
      obtain ⟨fu, rfl⟩ : ∃ f', fu = f' + 1 := by cases fu with | zero => cases hrs | succ f => exact ⟨f, rfl⟩
      have hes := (pS_lt _ _ _ _ _ _ _ hrs).2 (by decide)
      obtain ⟨y1, b3, hit, hb3, hrest⟩ := rest2 hrs
      have hle := HL.out.le
      have HONE := Lib.hid (fun w h => HCAL.out fu (b2 + 1) d y1 b3 w (by omega) hit h)
      have HREST := Lib.hid hrest
      have hacc := acc_one HL.out.strip
      have hlb := HL.out.len
      clear hit hrs hrest ht
      go_wp2_with fail
      refine (HIS.out _ HL.out.rd.at_).mono ?_
      rintro e w1 hr
      obtain rfl := hr.1
      have HO1 := Lib.hid (own_keepR HL.out.own (by omega) hr.2.2)
      have HB1 := Lib.hid (keep_box hr.2.2 HL.out.box hR)
      have HR1 := Lib.hid (HL.out.rd.call hr)
      have HI1 := Lib.hid (ExA.InL.keep (N' := fun g => w.heap.size < g ∧ u3.ownBlock ≠ some g) (fun b hb hl => ⟨hb, hr.2.2.block b hl (fun e => by injection e with e; omega)⟩) _ HL.out.inl)
      clear hr c5
      go_wp2_with fail
      refine (HONE.out _ HR1.out.at_).mono ?_
      rintro e w2 ⟨x, rfl, hstrip, hin, hra, hkr⟩
      have HO2 := Lib.hid (own_keepR HO1.out (by omega) hkr)
      have HB2 := Lib.hid (keep_box hkr HB1.out hR)
      have HR2 := Lib.hid (HR1.out.callX hra hkr)
      have HI2 := Lib.hid (ExA.InL.keep (N' := fun g => w.heap.size < g ∧ u3.ownBlock ≠ some g) (fun b hb hl => ⟨hb, hkr.block b hl (fun e => by injection e with e; omega)⟩) _ HI1.out)
      have HX2 := Lib.hid hin
      have HST := Lib.hid hstrip
      have HOL := Lib.hid (own_ltT HO1.out)
      have hz2 : w1.heap.size ≤ w2.heap.size := hkr.size
      have hz1 : w.heap.size < w1.heap.size := (Array.getElem?_eq_some_iff.1 HB1.out).1
      clear hstrip hin hra hkr
      obtain ⟨xo, xA, xc, xl, xf, xm, xr, xv⟩ := x
      unfold ExA.val
      dsimp only
      go_wp2_with (at_builtin; refine wpList_append_own_at (w2.alloc (.cells #[.int .i64 xo, .slice xA xl.length xc, .int .i64 xf, .int .u64 xm, .int .i64 xr, .int .u64 xv] 48)) rfl (.tmp 17) (.tmp 20) 45 rfl (w.heap.size + 1) 48 i0 _ 6 64 Try.underlying45 HI.out.1 HI.out.2.1 HI.out.2.2.1 HI.out.2.2.2 rfl (by decide) u3 acc.length (cellsX acc) rfl (own_alloc HO2.out _) ⟨w2.heap.size, 0, none⟩ 1 1 (ExA.cells (.mk xo xA xc xl xf xm xr xv)) rfl rfl (fun j u hu => by rw [add_plain, Nat.zero_add]; exact (World.cell?_alloc_new _ _ _ _).trans (by simpa [ExA.cells] using hu)) (ExA.cells_one _) (by simp only [maxLen]; omega) (by omega) (by simp; omega) ?_; intro v2 w4 hown hg _ hat; have HG := Lib.hid hg; have HO4 := Lib.hid hown; have HAT := Lib.hid hat; clear hown hg hat)
      go_roundw
      case rel =>
        exact ⟨acc ++ [.mk xo xA xc xl xf xm xr xv], acc0 ++ [y1], b3, fu, Lib.hid (LoopAt.more (x := .mk xo xA xc xl xf xm xr xv) hR HO4.out HO2.out HG.out HAT.out HI2.out HX2.out hz1 HOL.out HR2.out HB2.out HL.out.strip HST.out (by omega) (by omega) HREST.out)⟩
      case measure =>
        rw [own_lenV HO4.out, own_lenV HL.out.own]; omega
theorem pS_ok (l : List Tk) (ee pl : Int) (A : Option Addr) (c R : Nat) : ∀ F f, f ≤ F → OneOK l ee pl A c R f ∧ AllOK l ee pl A c R f ∧ ExprOK l ee pl A c R f := by
  intro F
  induction F with
  | zero =>
    intro f hf
    obtain rfl : f = 0 := by omega
    refine ⟨?_, ?_, ?_⟩ <;> (intro _ _ _ _ _ h; cases h)
  | succ F ih =>
    intro f hf
    rcases Nat.lt_or_ge F f with hlt | hge
    · obtain rfl : f = F + 1 := by omega
      refine ⟨one_step (ih F (Nat.le_refl _)).1 (ih F (Nat.le_refl _)).2.2, fun a d es a' w hp h => all_step (F := F) ?_ a d es a' w hp h, fun a d es a' w hp h => Expr_step (F := F) ?_ a d es a' w hp h⟩
      · intro fu a d y a' w hfu hit hr
        unfold Item at hit
        rw [if_pos rfl] at hit
        exact (ih fu hfu).1 a d y a' w hit hr
      · intro fu a d y a' w hfu hit hr
        unfold Item at hit
        rw [if_neg (by decide)] at hit
        obtain ⟨es, e, rfl⟩ := hit
        exact (ih fu hfu).2.1 a d es a' w e hr
    · exact ih f hge
theorem Expr_s {l : List Tk} {ee pl : Int} {A : Option Addr} {c R f a : Nat} {d : Int} {es : List ExA} {a' : Nat} (w : World) (hp : pS l f 2 a d [] = some (es, a')) (h : RdAt l ee pl A c R (St a d) w) : Calls Try.prog 69 #[.pointer (some ⟨R, 0, none⟩)] w (XPost l ee pl A c R (wrapX 5 es) a' d w) := (pS_ok l ee pl A c R f f (Nat.le_refl _)).2.2 a d es a' w hp h
end Go.Proofs.Ytebkbcpnjknkjaa
