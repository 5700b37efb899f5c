import Derived.Test.YtebkbcpnjknkjaaRdW7
import Derived.Test.YtebkbcpnjknkjaaStep
import Derived.Deep.RegionLaw
import Derived.Deep.DeepCutAuto
import Derived.Deep.CutBlock
set_option linter.unusedVariables false
set_option linter.unusedSimpArgs false
set_option maxRecDepth 100000
namespace Go.Proofs.Ytebkbcpnjknkjaa
open Go.RowKit
/-! ravelinref06's reader: rule. -/
def callsS (l : List Tk) : Nat → Nat → List CallP → Option (List CallP × Nat)
  | 0, _, _ => none
  | f + 1, a, acc =>
    if a + 1 < l.length then
      match callS (l.getD a Tk.zero) with
      | some x => if tkB 4 ⟨#[44]⟩ (l.getD (a + 1) Tk.zero) = true then callsS l f (a + 2) (acc ++ [x]) else some (acc ++ [x], a + 1)
      | none => none
    else none
def whenS (l : List Tk) (f a : Nat) (d : Int) : Option (ExA × Nat) :=
  if a < l.length then
    if tkB 2 ⟨#[119, 104, 101, 110]⟩ (l.getD a Tk.zero) = true then (match pS l f 2 (a + 1) d [] with | some (es, a1) => some (wrapX 5 es, a1) | none => none)
    else some (.mk 1 none 0 [] 0 0 0 0, a)
  else none
def ruleS (l : List Tk) (f a : Nat) (d : Int) : Option (RuA × Nat) :=
  match callsS l f a [] with
  | some (cs, a1) => (match whenS l f a1 d with
    | some (x, a2) => if a2 < l.length ∧ tkB 2 ⟨#[100, 111]⟩ (l.getD a2 Tk.zero) = true then (match verdS l (a2 + 1) with
      | some (v, a3) => if a3 < l.length ∧ tkB 4 ⟨#[59]⟩ (l.getD a3 Tk.zero) = true then some (⟨none, 0, cs, x, v.1, v.2⟩, a3 + 1) else none
      | none => none) else none
    | none => none)
  | none => none
theorem infoC : (Try.prog.info? 68).map (fun i => (i.zero, i.size, i.bytes)) = some (some (.agg #[.string ⟨#[]⟩, .int .u64 0]), 2, 24) := by kernel_rfl
theorem box9 {W : World} {g : Nat} {a b c d e f p q r : Value} {t : TypeId} (h : W.heap[g]? = some (.cells #[a, b, c, d, e, f, p, q, r] t (0, 0))) : (W.cell? ⟨g, 0, none⟩ = some a ∧ W.cell? ⟨g, 1, none⟩ = some b ∧ W.cell? ⟨g, 2, none⟩ = some c ∧ W.cell? ⟨g, 3, none⟩ = some d ∧ W.cell? ⟨g, 4, none⟩ = some e ∧ W.cell? ⟨g, 5, none⟩ = some f ∧ W.cell? ⟨g, 6, none⟩ = some p ∧ W.cell? ⟨g, 7, none⟩ = some q ∧ W.cell? ⟨g, 8, none⟩ = some r) ∧ ∀ j, W.frozen? ⟨g, j, none⟩ = false := by simp [World.cell?, World.frozen?, h]
def set9W (W : World) (g : Nat) (a b c d e f p q r : Value) : World := ((set6W W g a b c d e f).setCell ⟨g, 6, none⟩ p |>.setCell ⟨g, 7, none⟩ q).setCell ⟨g, 8, none⟩ r
section
variable {W : World} {g : Nat} (a b c d e f p q r : Value)
theorem set9W_box {a' b' c' d' e' f' p' q' r' : Value} {t : TypeId} (h : W.heap[g]? = some (.cells #[a', b', c', d', e', f', p', q', r'] t (0, 0))) : (set9W W g a b c d e f p q r).heap[g]? = some (.cells #[a, b, c, d, e, f, p, q, r] t (0, 0)) := by
  unfold set9W set6W
  rw [heap_setT (heap_setT (heap_setT (heap_setT (heap_setT (heap_setT (heap_setT (heap_setT (heap_setT h a) b) c) d) e) f) p) q) r]
  simp
theorem RdW.set9W {l : List Tk} {ee pl : Int} {A : Option Addr} {c0 R : Nat} {s : RSt} {w : World} (h : RdW l ee pl A c0 R s w W) (hR : R < w.heap.size) (hg : w.heap.size ≤ g) : RdW l ee pl A c0 R s w (set9W W g a b c d e f p q r) :=
  (((h.set6W a b c d e f hR hg).set hR hg _ _).set hR hg _ _).set hR hg _ _
theorem ExA.In.set9W {N : Nat → Prop} {x : ExA} (h : x.In W N) (hg : ¬ N g) : x.In (set9W W g a b c d e f p q r) N :=
  (((h.set6W a b c d e f hg).set hg _ _).set hg _ _).set hg _ _
end
def atOf (W : World) (R : Nat) : Nat := match W.cell? ⟨R, 3, none⟩ with | some (.int _ n) => n.toNat | _ => 0
theorem RdW.atOf {l : List Tk} {ee pl : Int} {A : Option Addr} {c R b : Nat} {d : Int} {w W : World} (h : RdW l ee pl A c R (St b d) w W) : atOf W R = b := by
  unfold Go.Proofs.Ytebkbcpnjknkjaa.atOf
  rw [h.at_.cl.2.2.2.1]
  rfl
structure RuleAt (l : List Tk) (ee pl : Int) (A : Option Addr) (c R : Nat) (d : Int) (w : World) (cs : List CallP) (b : Nat) (v : Value) (W : World) : Prop where
  own : W.ownsRow (w.heap.size + 2) 68 2 v cs.length (cellsC cs)
  rd : RdW l ee pl A c R (St b d) w W
  out : W.heap[w.heap.size]? = some (.cells #[.slice none 0 0, .int .i64 0, .slice none 0 0, .int .i64 0, .int .u64 0, .int .i64 0, .int .u64 0, .int .i64 0, .int .u64 0] 51 (0, 0))
  box : W.heap[w.heap.size + 1]? = some (.cells #[v, .int .i64 1, .slice none 0 0, .int .i64 0, .int .u64 0, .int .i64 0, .int .u64 0, .int .i64 0, .int .u64 0] 51 (0, 0))
  len : cs.length ≤ b
theorem RuleAt.call {l : List Tk} {ee pl : Int} {A : Option Addr} {c R : Nat} {d : Int} {w : World} {cs : List CallP} {b b' : Nat} {v u : Value} {W W' : World} {e : Ending} (h : RuleAt l ee pl A c R d w cs b v W) (hR : R < w.heap.size) (k : RPost l ee pl A c R u (St b' d) W e W') (hb : b ≤ b') : RuleAt l ee pl A c R d w cs b' v W' :=
  ⟨own_keepR h.own (by omega) k.2.2, h.rd.call k, keep_box k.2.2 h.out hR, keep_box k.2.2 h.box (by omega), Nat.le_trans h.len hb⟩
/-- A rule's box, all but what it does; then all. -/
structure RuleW (l : List Tk) (ee pl : Int) (A : Option Addr) (c R : Nat) (d : Int) (w : World) (RA : Option Addr) (rcap : Nat) (cs : List CallP) (x xc : ExA) (vk vd : Int) (b : Nat) (W : World) : Prop where
  rd : RdW l ee pl A c R (St b d) w W
  out : W.heap[w.heap.size]? = some (.cells #[.slice none 0 0, .int .i64 0, .slice none 0 0, .int .i64 0, .int .u64 0, .int .i64 0, .int .u64 0, .int .i64 0, .int .u64 0] 51 (0, 0))
  box : W.heap[w.heap.size + 1]? = some (.cells #[.slice RA cs.length rcap, .int .i64 xc.op, .slice xc.A xc.args.length xc.c, .int .i64 xc.f, .int .u64 xc.m, .int .i64 xc.r, .int .u64 xc.v, .int .i64 vk, .int .u64 vd] 51 (0, 0))
  in_ : RuA.In W (fun g => w.heap.size + 1 < g) ⟨RA, rcap, cs, x, vk, vd⟩
section
variable {l : List Tk} {ee pl : Int} {A : Option Addr} {c R : Nat} {d : Int} {w : World} {RA : Option Addr} {rcap : Nat} {cs : List CallP} {x xc : ExA} {vk vd : Int} {b b' : Nat} {W W' : World}
theorem RuleW.call {u : Value} {e : Ending} (h : RuleW l ee pl A c R d w RA rcap cs x xc vk vd b W) (hR : R < w.heap.size) (k : RPost l ee pl A c R u (St b' d) W e W') : RuleW l ee pl A c R d w RA rcap cs x xc vk vd b' W' :=
  ⟨h.rd.call k, keep_box k.2.2 h.out hR, keep_box k.2.2 h.box (by omega), h.in_.keep fun g hg hl => ⟨hg, k.2.2.block g hl (fun e => by injection e with e; omega)⟩⟩
theorem RuleW.verd {xo : Int} {xA : Option Addr} {xcc : Nat} {xl : List ExA} {xf xm xre xv : Int} (h : RuleW l ee pl A c R d w RA rcap cs x (.mk xo xA xcc xl xf xm xre xv) vk vd b W) (hR : R < w.heap.size) (vk' vd' : Int) : RuleW l ee pl A c R d w RA rcap cs x (.mk xo xA xcc xl xf xm xre xv) vk' vd' b ((W.setCell ⟨w.heap.size + 1, 7, none⟩ (.int .i64 vk')).setCell ⟨w.heap.size + 1, 8, none⟩ (.int .u64 vd')) :=
  ⟨(h.rd.set hR (by omega) _ _).set hR (by omega) _ _, (Below.heap_setCell _ ⟨w.heap.size + 1, 8, none⟩ _ w.heap.size (by show w.heap.size ≠ w.heap.size + 1; omega)).trans ((Below.heap_setCell W ⟨w.heap.size + 1, 7, none⟩ _ w.heap.size (by show w.heap.size ≠ w.heap.size + 1; omega)).trans h.out), heap_setT (heap_setT h.box _) _,
    ⟨h.in_.calls.keep (fun g hg _ => ⟨hg, (Below.heap_setCell _ ⟨w.heap.size + 1, 8, none⟩ _ g (by show g ≠ w.heap.size + 1; omega)).trans (Below.heap_setCell W ⟨w.heap.size + 1, 7, none⟩ _ g (by show g ≠ w.heap.size + 1; omega))⟩) (by decide), (h.in_.when_.set (by show ¬ _ < _; omega) _ _).set (by show ¬ _ < _; omega) _ _⟩⟩
theorem RuleW.fin {xo : Int} {xA : Option Addr} {xcc : Nat} {xl : List ExA} {xf xm xre xv : Int} (h : RuleW l ee pl A c R d w RA rcap cs x (.mk xo xA xcc xl xf xm xre xv) vk vd b W) (hR : R < w.heap.size) :
    let W' := set9W W w.heap.size (.slice RA cs.length rcap) (.int .i64 xo) (.slice xA xl.length xcc) (.int .i64 xf) (.int .u64 xm) (.int .i64 xre) (.int .u64 xv) (.int .i64 vk) (.int .u64 vd)
    RuA.In W' (fun g => w.heap.size ≤ g) ⟨RA, rcap, cs, x, vk, vd⟩ ∧ RdAt l ee pl A c R (St b d) W' ∧ KeepR R w W' := by
  have hrd := h.rd.set9W (.slice RA cs.length rcap) (.int .i64 xo) (.slice xA xl.length xcc) (.int .i64 xf) (.int .u64 xm) (.int .i64 xre) (.int .u64 xv) (.int .i64 vk) (.int .u64 vd) hR (Nat.le_refl _)
  refine ⟨h.in_.keep fun g hg _ => ⟨by omega, ?_⟩, hrd.at_, hrd.keep⟩
  unfold set9W
  rw [Below.heap_setCell _ _ _ _ (by show g ≠ w.heap.size; omega), Below.heap_setCell _ _ _ _ (by show g ≠ w.heap.size; omega), Below.heap_setCell _ _ _ _ (by show g ≠ w.heap.size; omega)]
  exact set6W_other _ _ _ _ _ _ (by omega)
theorem RuleAt.toW0 {g cap : Nat} (h : RuleAt l ee pl A c R d w cs b (.slice (some ⟨g, 0, none⟩) cs.length cap) W) (hR : R < w.heap.size) : RuleW l ee pl A c R d w (some ⟨g, 0, none⟩) cap cs (.mk 1 none 0 [] 0 0 0 0) (.mk 1 none 0 [] 0 0 0 0) 0 0 b W :=
  ⟨h.rd, h.out, h.box, ⟨RowN.of_own h.own (fun g' _ hg => by omega), ⟨rfl, fun h => absurd h (by decide)⟩, trivial⟩⟩
theorem RuleAt.toW {g cap : Nat} (h : RuleAt l ee pl A c R d w cs b (.slice (some ⟨g, 0, none⟩) cs.length cap) W) (hR : R < w.heap.size) (hra : RdAt l ee pl A c R (St b' d) W') (hk : KeepR R W W') (hin : x.In W' (fun g => W.heap.size ≤ g)) : RuleW l ee pl A c R d w (some ⟨g, 0, none⟩) cap cs x (.mk 1 none 0 [] 0 0 0 0) 0 0 b' W' :=
  ⟨h.rd.callX hra hk, keep_box hk h.out hR, keep_box hk h.box (by omega), ⟨RowN.of_own (own_keepR h.own (by omega) hk) (fun g' _ hg => by omega), hin.mono (fun g hg => by have := (Array.getElem?_eq_some_iff.1 h.box).1; omega)⟩⟩
def set6At (W : World) (g : Nat) (a b c d e f : Value) : World := (((((W.setCell ⟨g, 1, none⟩ a).setCell ⟨g, 2, none⟩ b).setCell ⟨g, 3, none⟩ c).setCell ⟨g, 4, none⟩ d).setCell ⟨g, 5, none⟩ e).setCell ⟨g, 6, none⟩ f
theorem RuleW.when_ {xo : Int} {xA : Option Addr} {xcc : Nat} {xl : List ExA} {xf xm xre xv : Int} {x0 : ExA} (h : RuleW l ee pl A c R d w RA rcap cs (.mk xo xA xcc xl xf xm xre xv) x0 vk vd b W) (hR : R < w.heap.size) : RuleW l ee pl A c R d w RA rcap cs (.mk xo xA xcc xl xf xm xre xv) (.mk xo xA xcc xl xf xm xre xv) vk vd b (set6At W (w.heap.size + 1) (.int .i64 xo) (.slice xA xl.length xcc) (.int .i64 xf) (.int .u64 xm) (.int .i64 xre) (.int .u64 xv)) := by
  have key : ∀ g, g ≠ w.heap.size + 1 → (set6At W (w.heap.size + 1) (.int .i64 xo) (.slice xA xl.length xcc) (.int .i64 xf) (.int .u64 xm) (.int .i64 xre) (.int .u64 xv)).heap[g]? = W.heap[g]? := by
    intro g hg
    unfold set6At
    iterate 6 rw [Below.heap_setCell _ _ _ _ (by exact hg)]
  refine ⟨(((((h.rd.set hR (by omega) _ _).set hR (by omega) _ _).set hR (by omega) _ _).set hR (by omega) _ _).set hR (by omega) _ _).set hR (by omega) _ _, (key _ (by omega)).trans h.out, ?_, h.in_.keep fun g hg _ => ⟨hg, key g (by omega)⟩⟩
  have hb := h.box
  unfold set6At
  rw [heap_setT (heap_setT (heap_setT (heap_setT (heap_setT (heap_setT hb _) _) _) _) _) _]
  simp [ExA.op, ExA.A, ExA.c, ExA.args, ExA.f, ExA.m, ExA.r, ExA.v]
end
set_option maxHeartbeats 1600000 in
theorem rule_s {l : List Tk} {ee pl : Int} {A : Option Addr} {c R f a : Nat} {d : Int} {x0 : RuA} {a' : Nat} (w : World) (hp : ruleS l f a d = some (x0, a')) (h : RdAt l ee pl A c R (St a d) w) : Calls Try.prog 42 #[.pointer (some ⟨R, 0, none⟩)] w
    (fun e w' => ∃ x : RuA, e = .returned x.val ∧ x.strip = x0.strip ∧ x.In w' (fun b => w.heap.size ≤ b) ∧ RdAt l ee pl A c R (St a' d) w' ∧ KeepR R w w') := by
  obtain ⟨i0, HI⟩ : ∃ i0, Hid (Try.prog.info? 68 = some i0 ∧ i0.zero = some (.agg #[.string ⟨#[]⟩, .int .u64 0]) ∧ i0.size = 2 ∧ i0.bytes = 24) := by
    obtain ⟨i0, hi, hz0, hz1, hz2⟩ := info_parts infoC
    exact ⟨i0, Lib.hid ⟨hi, hz0, hz1, hz2⟩⟩
  have hR := h.lt
  have hll := h.len
  have HS : Hid (RuleAt l ee pl A c R d w [] a (.slice none 0 0) ((w.alloc (.cells #[.slice none 0 0, .int .i64 0, .slice none 0 0, .int .i64 0, .int .u64 0, .int .i64 0, .int .u64 0, .int .i64 0, .int .u64 0] 51)).alloc (.cells #[.slice none 0 0, .int .i64 1, .slice none 0 0, .int .i64 0, .int .u64 0, .int .i64 0, .int .u64 0, .int .i64 0, .int .u64 0] 51))) := Lib.hid
    ⟨World.ownsRow_nil _ _ _ _, ((RdW.start h).alloc _).alloc _, alloc_box (heap_nwT _ _) _, by have := heap_nwT (w.alloc (.cells #[.slice none 0 0, .int .i64 0, .slice none 0 0, .int .i64 0, .int .u64 0, .int .i64 0, .int .u64 0, .int .i64 0, .int .u64 0] 51)) (.cells #[.slice none 0 0, .int .i64 1, .slice none 0 0, .int .i64 0, .int .u64 0, .int .i64 0, .int .u64 0, .int .i64 0, .int .u64 0] 51); rwa [World.size_alloc] at this, by simp⟩
  unfold ruleS at hp
  obtain ⟨cs, a1, hcs⟩ : ∃ cs a1, callsS l f a [] = some (cs, a1) := by
    cases e : callsS l f a [] with
    | none => rw [e] at hp; cases hp
    | some y => exact ⟨_, _, rfl⟩
  rw [hcs] at hp
  dsimp only at hp
  have HP := Lib.hid hp
  have HCS := Lib.hid (show ∃ f, callsS l f a [] = some (cs, a1) from ⟨f, hcs⟩)
  clear h hp hcs
  go_enter Try.func42, Try.ntmps42
  go_wp2_with fail
  go_loopw [4] (fun _ wr => ∃ (v : Value) (acc : List CallP) (b : Nat), Hid (RuleAt l ee pl A c R d w acc b v wr) ∧ Hid (∃ f, callsS l f b acc = some (cs, a1))) (fun _ wr => l.length - atOf wr R)
  case atStart => exact ⟨_, _, _, HS, HCS⟩
  case round =>
    obtain ⟨v, acc, b, HL, HC⟩ := hrel
    clear HS HCS
    obtain ⟨f2, hf⟩ := HC.out
    obtain ⟨f2, rfl⟩ : ∃ f', f2 = f' + 1 := by cases f2 with | zero => cases hf | succ f => exact ⟨f, rfl⟩
    rw [callsS] at hf
    by_cases hb1 : b + 1 < l.length
    · rw [if_pos hb1] at hf
      cases hx : callS (l.getD b Tk.zero) with
      | none => rw [hx] at hf; cases hf
      | some x =>
        rw [hx] at hf
        dsimp only at hf
        have HCALL := Lib.hid (fun w h => call_s (A := A) (c := c) (R := R) (d := d) (ee := ee) (pl := pl) w h (show b < l.length by omega) hx)
        obtain ⟨xn, xr⟩ := x
        unfold CallP.val at HCALL
        dsimp only at HCALL
        obtain ⟨⟨b0, b1, b2, b3, b4, b5, b6, b7, b8⟩, fb⟩ := box9 HL.out.box
        have fb0 := fb 0
        have hlb := HL.out.len
        have hX : w.heap.size + 1 < wr.heap.size := (Array.getElem?_eq_some_iff.1 HL.out.box).1
        have HF := Lib.hid hf
        clear hx hf fb b1 b2 b3 b4 b5 b6 b7 b8
        go_wp2_with fail
        go_cut [14] (fun _ wc => ∃ v2, Hid (RuleAt l ee pl A c R d w (acc ++ [⟨xn, xr⟩]) (b + 1) v2 wc))
        case first =>
         go_region_law (first
           | (go_simp; go_at_call 68; refine (HCALL.out _ (HL.out.rd.at_.drewN 1)).mono ?_; rintro e w1 hr; obtain rfl := hr.1; have HO1 : Hid (w1.ownsRow (w.heap.size + 2) 68 2 v acc.length (cellsC acc)) := Lib.hid (own_keepR (W := wr.drewN 1) HL.out.own (by omega) hr.2.2); have HB1 := Lib.hid (keep_box (W := wr.drewN 1) hr.2.2 HL.out.box (by omega)); have HU1 := Lib.hid (keep_box (W := wr.drewN 1) hr.2.2 HL.out.out hR); have HR1 := Lib.hid ((HL.out.rd.drewN 1).call hr); have s1 := (box9 HB1.out).1.1; have s2 := (box9 HB1.out).2 0; have hX1 : w.heap.size + 1 < w1.heap.size := (Array.getElem?_eq_some_iff.1 HB1.out).1; clear hr)
           | (refine step_app rfl (.tmp 9) (.tmp 12) 49 rfl (w.heap.size + 2) 68 i0 _ 2 24 Try.underlying49 HI.out.1 HI.out.2.1 HI.out.2.2.1 HI.out.2.2.2 rfl (by decide) v acc.length (cellsC acc) rfl (own_alloc HO1.out _) (some ⟨w1.heap.size, 0, none⟩) (w1.heap.size + 1) 1 1 (CallP.cells ⟨xn, xr⟩) rfl (fun h => by cases h) (reads_new w1 _ _ 2 1 (CallP.cells ⟨xn, xr⟩) rfl rfl) (CallP.cells_one _) (by simp only [maxLen]; omega) (by omega) (by simp; omega) ?_; intro v' w4 hown4 hg4 _; obtain ⟨g4, cap4, hv4, -, -⟩ := hown4.form (by omega); subst hv4; have hgt : ∀ k, v.ownBlock = some k → w.heap.size + 2 ≤ k := fun k hk => own_geT HO1.out k hk; have HB4 := Lib.hid (grown_box hg4 (alloc_box HB1.out _) (fun e => by have := hgt _ e; omega)); have HU4 := Lib.hid (grown_box hg4 (alloc_box HU1.out _) (fun e => by have := hgt _ e; omega)); have HR4 := Lib.hid ((HR1.out.alloc _).grown hg4 hR (fun k hk => by have := hgt k hk; omega)); have HO4 := Lib.hid hown4; have s4 := (box9 HB4.out).1.1; have s5 := (box9 HB4.out).2 0; clear hg4 hown4 hgt))
         all_goals (
           go_wp2
           go_meet
           exact ⟨_, Lib.hid ⟨by rw [List.length_append, ← cellsC_snoc]; exact own_set HO4.out (by omega) _ _, HR4.out.set hR (by omega) _ _, (Below.heap_setCell w4 ⟨w.heap.size + 1, 0, none⟩ _ w.heap.size (by show w.heap.size ≠ w.heap.size + 1; omega)).trans HU4.out, heap_setT HB4.out _, by rw [List.length_append]; simp; omega⟩⟩)
        case rest =>
          obtain ⟨v2, HL2⟩ := hcut
          clear b0 fb0 hX
          have hX : w.heap.size + 1 < wc.heap.size := (Array.getElem?_eq_some_iff.1 HL2.out.box).1
          cases hcm : tkB 4 ⟨#[44]⟩ (l.getD (b + 1) Tk.zero) with
          | true =>
            have HIS := Lib.hid (fun w h => is_t (A := A) (c := c) (R := R) (d := d) (ee := ee) (pl := pl) 4 ⟨#[44]⟩ w h hb1 hcm)
            have HF2 := Lib.hid (show callsS l f2 (b + 2) (acc ++ [⟨xn, xr⟩]) = some (cs, a1) by have := HF.out; rwa [hcm, if_pos rfl] at this)
            clear hcm HF
            go_wp2_with fail
            refine (HIS.out _ HL2.out.rd.at_).mono ?_
            rintro e w2 hr
            obtain rfl := hr.1
            have HL3 := Lib.hid (HL2.out.call hR hr (by omega))
            clear hr
            go_wp2
            go_roundw
            case rel => exact ⟨_, _, _, HL3, Lib.hid ⟨_, HF2.out⟩⟩
            case measure =>
              rw [HL3.out.rd.atOf, HL.out.rd.atOf]; omega
          | false =>
            have HIS := Lib.hid (fun w h => is_f (A := A) (c := c) (R := R) (d := d) (ee := ee) (pl := pl) 4 ⟨#[44]⟩ w h hb1 hcm)
            have hcs : acc ++ [⟨xn, xr⟩] = cs ∧ b + 1 = a1 := by have := HF.out; rw [hcm, if_neg (by decide)] at this; simpa using this
            obtain ⟨hcs, rfl⟩ := hcs
            rw [hcs] at HL2
            have hpos : 0 < cs.length := by rw [← hcs]; simp
            clear hcm HF HC HL hcs
            obtain ⟨g2, cap2, hv2, -, -⟩ := HL2.out.own.form hpos
            subst hv2
            have hp := HP.out
            clear HP
            cases hwh : whenS l f (b + 1) d with
            | none => rw [hwh] at hp; cases hp
            | some y =>
              obtain ⟨x, a2⟩ := y
              rw [hwh] at hp
              have HV : Hid (a2 < l.length ∧ tkB 2 ⟨#[100, 111]⟩ (l.getD a2 Tk.zero) = true ∧ ∃ v a3, verdS l (a2 + 1) = some (v, a3) ∧ a3 < l.length ∧ tkB 4 ⟨#[59]⟩ (l.getD a3 Tk.zero) = true ∧ a' = a3 + 1 ∧ x0 = ⟨none, 0, cs, x, v.1, v.2⟩) := Lib.hid (by
                dsimp only at hp
                split at hp
                · rename_i h1
                  refine ⟨h1.1, h1.2, ?_⟩
                  split at hp
                  · rename_i v a3 e
                    split at hp
                    · rename_i h2
                      simp only [Option.some.injEq, Prod.mk.injEq] at hp
                      exact ⟨v, a3, e, h2.1, h2.2, hp.2.symm, hp.1.symm⟩
                    · cases hp
                  · cases hp
                · cases hp)
              clear hp
              unfold whenS at hwh
              rw [if_pos hb1] at hwh
              cases hwt : tkB 2 ⟨#[119, 104, 101, 110]⟩ (l.getD (b + 1) Tk.zero) with
              | true =>
                rw [hwt, if_pos rfl] at hwh
                have HIW := Lib.hid (fun w h => is_t (A := A) (c := c) (R := R) (d := d) (ee := ee) (pl := pl) 2 ⟨#[119, 104, 101, 110]⟩ w h hb1 hwt)
                cases hpe : pS l f 2 (b + 1 + 1) d [] with
                | none => rw [hpe] at hwh; cases hwh
                | some y =>
                  obtain ⟨es, a2'⟩ := y
                  rw [hpe] at hwh
                  simp only [Option.some.injEq, Prod.mk.injEq] at hwh
                  obtain ⟨rfl, rfl⟩ := hwh
                  have HEX := Lib.hid (fun w h => Expr_s (A := A) (c := c) (R := R) (ee := ee) (pl := pl) w hpe h)
                  clear hpe hwt
                  go_wp2_with fail
                  refine (HIS.out _ HL2.out.rd.at_).mono ?_
                  rintro e w2 hr
                  obtain rfl := hr.1
                  have HL3 := Lib.hid (HL2.out.call hR hr (Nat.le_refl _))
                  clear hr
                  go_wp2_with fail
                  refine (HIW.out _ HL3.out.rd.at_).mono ?_
                  rintro e w3 hr
                  obtain rfl := hr.1
                  have HL4 := Lib.hid (HL3.out.call hR hr (show b + 1 ≤ b + 1 + 1 by omega))
                  clear hr
                  go_wp2_with fail
                  refine (HEX.out _ HL4.out.rd.at_).mono ?_
                  rintro e w4 ⟨x, rfl, hst, hin, hra, hkr⟩
                  obtain ⟨xo, xA, xc, xl, xf, xm, xre, xv⟩ := x
                  have HR4 := Lib.hid (HL4.out.toW hR hra hkr hin)
                  have HST := Lib.hid (fun vk vd : Int => show RuA.strip ⟨some ⟨g2, 0, none⟩, cap2, cs, .mk xo xA xc xl xf xm xre xv, vk, vd⟩ = RuA.strip ⟨none, 0, cs, wrapX 5 es, vk, vd⟩ by unfold RuA.strip; dsimp only; rw [hst])
                  clear hst hin hra hkr
                  unfold ExA.val
                  dsimp only
                  obtain ⟨⟨b0, b1, b2, b3, b4, b5, b6, b7, b8⟩, fb⟩ := box9 HR4.out.box
                  dsimp only [ExA.op, ExA.A, ExA.c, ExA.args, ExA.f, ExA.m, ExA.r, ExA.v] at b1 b2 b3 b4 b5 b6
                  have fb1 := fb 1
                  have fb2 := fb 2
                  have fb3 := fb 3
                  have fb4 := fb 4
                  have fb5 := fb 5
                  have fb6 := fb 6
                  clear fb
                  go_upto_region 8 with (fail)
                  have HW := Lib.hid (HR4.out.when_ hR)
                  unfold set6At at HW
                  clear b0 b1 b2 b3 b4 b5 b6 b7 b8 fb1 fb2 fb3 fb4 fb5 fb6
                  generalize (((((w4.setCell ⟨w.heap.size + 1, 1, none⟩ (.int .i64 xo)).setCell ⟨w.heap.size + 1, 2, none⟩ (.slice xA xl.length xc)).setCell ⟨w.heap.size + 1, 3, none⟩ (.int .i64 xf)).setCell ⟨w.heap.size + 1, 4, none⟩ (.int .u64 xm)).setCell ⟨w.heap.size + 1, 5, none⟩ (.int .i64 xre)).setCell ⟨w.heap.size + 1, 6, none⟩ (.int .u64 xv) = ww at HW ⊢
                  obtain ⟨RA, hRA⟩ : ∃ RA : Option Addr, RA = some ⟨g2, 0, none⟩ := ⟨_, rfl⟩
                  obtain ⟨rcap, hrc⟩ : ∃ rcap : Nat, rcap = cap2 := ⟨_, rfl⟩
                  rw [← hRA, ← hrc] at HW HST
                  clear hRA hrc
                  obtain ⟨ha2, hdo, hve⟩ := HV.out
                  obtain ⟨v3, a3, hv3, ha3, hsc, rfl, rfl⟩ := hve
                  obtain ⟨vk, vd⟩ := v3
                  have HDO := Lib.hid (fun w h => want_s (A := A) (c := c) (R := R) (d := d) (ee := ee) (pl := pl) 2 ⟨#[100, 111]⟩ w h ha2 hdo)
                  have HVE := Lib.hid (fun w h => verdict_s (A := A) (c := c) (R := R) (d := d) (ee := ee) (pl := pl) w h hv3)
                  have HSC := Lib.hid (fun w h => want_s (A := A) (c := c) (R := R) (d := d) (ee := ee) (pl := pl) 4 ⟨#[59]⟩ w h ha3 hsc)
                  unfold verdV at HVE
                  dsimp only at HVE
                  clear ha2 hdo hv3 ha3 hsc
                  go_wp2_with fail
                  refine (HDO.out _ HW.out.rd.at_).mono ?_
                  rintro e w5 hr
                  obtain rfl := hr.1
                  have HW5 := Lib.hid (HW.out.call hR hr)
                  clear hr
                  go_wp2_with fail
                  refine (HVE.out _ HW5.out.rd.at_).mono ?_
                  rintro e w6 hr
                  obtain rfl := hr.1
                  have HW6 := Lib.hid (HW5.out.call hR hr)
                  obtain ⟨⟨b0, b1, b2, b3, b4, b5, b6, b7, b8⟩, fb⟩ := box9 HW6.out.box
                  dsimp only [ExA.op, ExA.A, ExA.c, ExA.args, ExA.f, ExA.m, ExA.r, ExA.v] at b1 b2 b3 b4 b5 b6
                  have fb7 := fb 7
                  have fb8 := fb 8
                  clear hr fb
                  go_upto_region 10 with (fail)
                  have HX6 := Lib.hid (HW6.out.verd hR vk vd)
                  clear b0 b1 b2 b3 b4 b5 b6 b7 b8 fb7 fb8
                  generalize (w6.setCell ⟨w.heap.size + 1, 7, none⟩ (.int .i64 vk)).setCell ⟨w.heap.size + 1, 8, none⟩ (.int .u64 vd) = wq at HX6 ⊢
                  go_wp2_with fail
                  refine (HSC.out _ HX6.out.rd.at_).mono ?_
                  rintro e w7 hr
                  obtain rfl := hr.1
                  have HW7 := Lib.hid (HX6.out.call hR hr)
                  clear hr
                  obtain ⟨⟨b0, b1, b2, b3, b4, b5, b6, b7, b8⟩, -⟩ := box9 HW7.out.box
                  dsimp only [ExA.op, ExA.A, ExA.c, ExA.args, ExA.f, ExA.m, ExA.r, ExA.v] at b1 b2 b3 b4 b5 b6
                  obtain ⟨⟨o0, o1, o2, o3, o4, o5, o6, o7, o8⟩, fo⟩ := box9 HW7.out.out
                  have fo0 := fo 0
                  have fo1 := fo 1
                  have fo2 := fo 2
                  have fo3 := fo 3
                  have fo4 := fo 4
                  have fo5 := fo 5
                  have fo6 := fo 6
                  have fo7 := fo 7
                  have fo8 := fo 8
                  clear fo
                  go_wp2
                  obtain ⟨⟨r0, r1, r2, r3, r4, r5, r6, r7, r8⟩, -⟩ := box9 (set9W_box (.slice RA cs.length rcap) (.int .i64 xo) (.slice xA xl.length xc) (.int .i64 xf) (.int .u64 xm) (.int .i64 xre) (.int .u64 xv) (.int .i64 vk) (.int .u64 vd) HW7.out.out)
                  unfold set9W set6W at r0 r1 r2 r3 r4 r5 r6 r7 r8
                  refine bodyPost_ret (v := RuA.val ⟨RA, rcap, cs, .mk xo xA xc xl xf xm xre xv, vk, vd⟩) (by simp [results, Try.results42, go_sem, RuA.val, RuA.cells, ExA.cells, r0, r1, r2, r3, r4, r5, r6, r7, r8]) rfl ?_
                  exact ⟨_, rfl, HST.out vk vd, (HW7.out.fin hR).1, (HW7.out.fin hR).2.1, (HW7.out.fin hR).2.2⟩
              | false =>
                rw [hwt, if_neg (by decide)] at hwh
                have HIW := Lib.hid (fun w h => is_f (A := A) (c := c) (R := R) (d := d) (ee := ee) (pl := pl) 2 ⟨#[119, 104, 101, 110]⟩ w h hb1 hwt)
                simp only [Option.some.injEq, Prod.mk.injEq] at hwh
                obtain ⟨rfl, rfl⟩ := hwh
                clear hwt
                go_wp2_with fail
                refine (HIS.out _ HL2.out.rd.at_).mono ?_
                rintro e w2 hr
                obtain rfl := hr.1
                have HL3 := Lib.hid (HL2.out.call hR hr (Nat.le_refl _))
                clear hr
                go_wp2_with fail
                refine (HIW.out _ HL3.out.rd.at_).mono ?_
                rintro e ww hr
                obtain rfl := hr.1
                have HL4 := Lib.hid (HL3.out.call hR hr (Nat.le_refl _))
                clear hr
                obtain ⟨xo, xA, xc, xl, xf, xm, xre, xv, hxx⟩ : ∃ xo xA xc xl xf xm xre xv, ExA.mk 1 none 0 [] 0 0 0 0 = .mk xo xA xc xl xf xm xre xv := ⟨_, _, _, _, _, _, _, _, rfl⟩
                have HW := Lib.hid (HL4.out.toW0 hR)
                have HST := Lib.hid (fun vk vd : Int => show RuA.strip ⟨some ⟨g2, 0, none⟩, cap2, cs, .mk 1 none 0 [] 0 0 0 0, vk, vd⟩ = RuA.strip ⟨none, 0, cs, .mk 1 none 0 [] 0 0 0 0, vk, vd⟩ from rfl)
                obtain ⟨RA, hRA⟩ : ∃ RA : Option Addr, RA = some ⟨g2, 0, none⟩ := ⟨_, rfl⟩
                obtain ⟨rcap, hrc⟩ : ∃ rcap : Nat, rcap = cap2 := ⟨_, rfl⟩
                rw [← hRA, ← hrc] at HW HST
                rw [hxx] at HW HST HV
                clear hRA hrc hxx
                obtain ⟨ha2, hdo, hve⟩ := HV.out
                obtain ⟨v3, a3, hv3, ha3, hsc, rfl, rfl⟩ := hve
                obtain ⟨vk, vd⟩ := v3
                have HDO := Lib.hid (fun w h => want_s (A := A) (c := c) (R := R) (d := d) (ee := ee) (pl := pl) 2 ⟨#[100, 111]⟩ w h ha2 hdo)
                have HVE := Lib.hid (fun w h => verdict_s (A := A) (c := c) (R := R) (d := d) (ee := ee) (pl := pl) w h hv3)
                have HSC := Lib.hid (fun w h => want_s (A := A) (c := c) (R := R) (d := d) (ee := ee) (pl := pl) 4 ⟨#[59]⟩ w h ha3 hsc)
                unfold verdV at HVE
                dsimp only at HVE
                clear ha2 hdo hv3 ha3 hsc
                go_wp2_with fail
                refine (HDO.out _ HW.out.rd.at_).mono ?_
                rintro e w5 hr
                obtain rfl := hr.1
                have HW5 := Lib.hid (HW.out.call hR hr)
                clear hr
                go_wp2_with fail
                refine (HVE.out _ HW5.out.rd.at_).mono ?_
                rintro e w6 hr
                obtain rfl := hr.1
                have HW6 := Lib.hid (HW5.out.call hR hr)
                obtain ⟨⟨b0, b1, b2, b3, b4, b5, b6, b7, b8⟩, fb⟩ := box9 HW6.out.box
                dsimp only [ExA.op, ExA.A, ExA.c, ExA.args, ExA.f, ExA.m, ExA.r, ExA.v] at b1 b2 b3 b4 b5 b6
                have fb7 := fb 7
                have fb8 := fb 8
                clear hr fb
                go_upto_region 10 with (fail)
                have HX6 := Lib.hid (HW6.out.verd hR vk vd)
                clear b0 b1 b2 b3 b4 b5 b6 b7 b8 fb7 fb8
                generalize (w6.setCell ⟨w.heap.size + 1, 7, none⟩ (.int .i64 vk)).setCell ⟨w.heap.size + 1, 8, none⟩ (.int .u64 vd) = wq at HX6 ⊢
                go_wp2_with fail
                refine (HSC.out _ HX6.out.rd.at_).mono ?_
                rintro e w7 hr
                obtain rfl := hr.1
                have HW7 := Lib.hid (HX6.out.call hR hr)
                clear hr
                obtain ⟨⟨b0, b1, b2, b3, b4, b5, b6, b7, b8⟩, -⟩ := box9 HW7.out.box
                dsimp only [ExA.op, ExA.A, ExA.c, ExA.args, ExA.f, ExA.m, ExA.r, ExA.v] at b1 b2 b3 b4 b5 b6
                obtain ⟨⟨o0, o1, o2, o3, o4, o5, o6, o7, o8⟩, fo⟩ := box9 HW7.out.out
                have fo0 := fo 0
                have fo1 := fo 1
                have fo2 := fo 2
                have fo3 := fo 3
                have fo4 := fo 4
                have fo5 := fo 5
                have fo6 := fo 6
                have fo7 := fo 7
                have fo8 := fo 8
                clear fo
                go_wp2
                obtain ⟨⟨r0, r1, r2, r3, r4, r5, r6, r7, r8⟩, -⟩ := box9 (set9W_box (.slice RA cs.length rcap) (.int .i64 xo) (.slice xA xl.length xc) (.int .i64 xf) (.int .u64 xm) (.int .i64 xre) (.int .u64 xv) (.int .i64 vk) (.int .u64 vd) HW7.out.out)
                unfold set9W set6W at r0 r1 r2 r3 r4 r5 r6 r7 r8
                refine bodyPost_ret (v := RuA.val ⟨RA, rcap, cs, .mk xo xA xc xl xf xm xre xv, vk, vd⟩) (by simp [results, Try.results42, go_sem, RuA.val, RuA.cells, ExA.cells, r0, r1, r2, r3, r4, r5, r6, r7, r8]) rfl ?_
                exact ⟨_, rfl, HST.out vk vd, (HW7.out.fin hR).1, (HW7.out.fin hR).2.1, (HW7.out.fin hR).2.2⟩
    · rw [if_neg hb1] at hf; cases hf
end Go.Proofs.Ytebkbcpnjknkjaa
