import Derived.Test.YtapmpegblfcknaaFlowP
import Derived.RangeFuncNested
import Derived.RangeFuncBound
import Derived.RangeFuncCalls
import Derived.RangeFuncLeaves
import Derived.RangeFuncBox
import Derived.Shelf.Abstract
import Derived.Shelf.RegionOpen
import Derived.OwnWalkIn
import Derived.TacticsInMore
import Derived.LoopNIn
import Derived.LoopIn
import Derived.Maps.AppendAt
set_option linter.unusedVariables false
set_option linter.unusedSimpArgs false
namespace Go.Proofs.Ytapmpegblfcknaa
open Go.RowKit Go.Shelf
attribute [local go_sem] Oper.semAt_some
/-! flow.leads and its closures: the walks. -/
set_option maxHeartbeats 400000 in
theorem jumps_c (x : I4) (hx : x.ok) (w : World) : Calls Try.prog 64 #[.agg #[.int .u16 x.c, .int .u8 x.j, .int .u8 x.f, .int .u32 x.k]] w fun e w' => e = .returned (.bool (memC x.c jumpL)) ∧ Below w.heap.size w w' := by
  have HJ := Lib.hid (jumps_eq x.c hx.1)
  obtain ⟨a1, a2, _⟩ := hx
  cases h1 : (bits .and .u16 x.c 7 == 5) with
  | false =>
    have HV := Lib.hid (show memC x.c jumpL = false by rw [← HJ.out, h1]; rfl)
    go_enter Try.func64, Try.ntmps64
    go_wp2
    go_ret
    exact ⟨ret_b HV.out.symm, below1 _ _⟩
  | true =>
    cases h2 : (x.c != 5) with
    | false =>
      have HV := Lib.hid (show memC x.c jumpL = false by rw [← HJ.out, h1, h2]; rfl)
      go_enter Try.func64, Try.ntmps64
      go_wp2
      go_ret
      exact ⟨ret_b HV.out.symm, below1 _ _⟩
    | true =>
      have HV := Lib.hid (show sealsL x.c = memC x.c jumpL by rw [← HJ.out, h1, h2]; rfl)
      go_enter Try.func64, Try.ntmps64
      go_wp2_with fail
      refine (Seals_c x.c a1 a2 _).mono ?_
      rintro e w' ⟨rfl, rfl⟩
      rw [HV.out]
      go_wp2
      go_ret
      exact ⟨rfl, below1 _ _⟩
theorem leads_c (A : Option Addr) (n cap : Nat) (at_ : Int) (w : World) : Calls Try.prog 44 #[.slice A n cap, .int .i64 at_] w fun e w' => e = .returned (.func (.func 62) #[] #[.pointer (some ⟨w.heap.size, 0, none⟩), .pointer (some ⟨w.heap.size + 1, 0, none⟩)]) ∧ w' = (w.alloc (.cells #[.slice A n cap] 22)).alloc (.cells #[.int .i64 at_] 3) := by
  go_enter Try.func44, Try.ntmps44
  go_wp2
  go_ret
  exact ⟨rfl, rfl⟩
/-- What a round keeps: blocks ahead of H but for those in X, and newer ones that are no numbers. -/
def KpI (H : Nat) (X : Nat → Prop) (W W' : World) : Prop := W.heap.size ≤ W'.heap.size ∧ ∀ k, k < W.heap.size → ((k < H ∧ ¬ X k) ∨ (H ≤ k ∧ ∃ c t fr, W.heap[k]? = some (.cells c t fr) ∧ t ≠ 3)) → W'.heap[k]? = W.heap[k]?
theorem KpI.refl (H : Nat) (X : Nat → Prop) (W : World) : KpI H X W W := ⟨Nat.le_refl _, fun _ _ _ => rfl⟩
theorem KpI.trans {H : Nat} {X : Nat → Prop} {A B C : World} (h : KpI H X A B) (k : KpI H X B C) : KpI H X A C := by
  refine ⟨Nat.le_trans h.1 k.1, fun i hi hc => ?_⟩
  have e := h.2 i hi hc
  refine (k.2 i (Nat.lt_of_lt_of_le hi h.1) ?_).trans e
  rcases hc with hc | ⟨h1, c, t, fr, h2, h3⟩
  · exact .inl hc
  · exact .inr ⟨h1, c, t, fr, e.trans h2, h3⟩
theorem KpI.put {H : Nat} {X : Nat → Prop} {w : World} (hw : H ≤ w.heap.size) (W : World) (l : Nat) (o o' : Obj) (hl : w.heap.size ≤ l) (h : W.heap[l]? = some o) (hc : o.isCells = false) (_ : o.isWalk = false) : KpI H X W (W.putObj l o') := by
  have hg := grownBy_putObj' W l o'
  refine ⟨hg.size, fun k hk hh => hg.block k hk (fun e => ?_)⟩
  injection e with e
  subst e
  rcases hh with ⟨h1, _⟩ | ⟨_, c, t, fr, h2, _⟩
  · omega
  · rw [h] at h2; injection h2 with h2; subst h2; cases hc
theorem KpI.cell {H : Nat} {X : Nat → Prop} {W W' : World} (h : KpI H X W W') {b o : Nat} {v : Value} (hc : W.cell? ⟨b, o, none⟩ = some v) (hb : b < H) (hX : ¬ X b) : W'.cell? ⟨b, o, none⟩ = some v := by
  have hlt := World.block_lt_of_cell? W _ hc
  rw [World.cell?_of_block (a := ⟨b, o, none⟩) (h.2 b hlt (.inl ⟨hb, hX⟩))]; exact hc
theorem KpI.box {H : Nat} {X : Nat → Prop} {W W' : World} (h : KpI H X W W') {b : Nat} {c : Array Value} {t : TypeId} {fr : Nat × Nat} (hc : W.heap[b]? = some (.cells c t fr)) (hb : H ≤ b) (ht : t ≠ 3) : W'.heap[b]? = some (.cells c t fr) :=
  (h.2 b (Array.getElem?_eq_some_iff.1 hc).1 (.inr ⟨hb, c, t, fr, hc, ht⟩)).trans hc
theorem RoundIn.any {F : Fence} (hd : F.depth = none) {m m' : Nat} {P : Program} {l : Nat} {f : FuncId} {tmps : Array Value} {assign body : Code} {w : World} {R : Ending → World → Prop}
    (h : RoundIn F m P l f tmps assign body w R) : RoundIn F m' P l f tmps assign body w R := ⟨h.1, fun c cs _ => h.2 c cs (fun d e => by rw [hd] at e; cases e)⟩
theorem YieldAt.any {F : Fence} (hd : F.depth = none) {m : Nat} (m' : Nat) {P : Program} {l : Nat} {args : Array Value} {W : World} {R : Ending → World → Prop} (h : YieldAt F m P l args W R) : YieldAt F m' P l args W R := by
  obtain ⟨fn, tmps, assign, body, hy, hR⟩ := h
  exact ⟨fn, tmps, assign, body, hy, RoundIn.any hd hR⟩
set_option maxHeartbeats 800000 in
/-- The closure on, where there is no such place. -/
theorem on_no (n : Nat) (len cap at_ : Nat) (A : Option Addr) (Bq Ba By : Nat) (skip : Int) (hs : 0 ≤ skip ∧ skip < 4294967296) (hat : at_ < len) (hlen : len ≤ 281474976710656) (hge : (len : Int) - at_ - 1 ≤ skip) (W : World)
    (cq : W.cell? ⟨Bq, 0, none⟩ = some (.slice A len cap)) (ca : W.cell? ⟨Ba, 0, none⟩ = some (.int .i64 at_)) :
    CallsIn Fence.wide n Try.prog 63 #[.int .u64 skip, .pointer (some ⟨Bq, 0, none⟩), .pointer (some ⟨Ba, 0, none⟩), .pointer (some ⟨By, 0, none⟩)] W fun e W' => e = .returned (.bool true) ∧ W' = W := by
  obtain ⟨s0, s1⟩ := hs
  refine callsIn_wide.2 ?_
  go_enter Try.func63, Try.ntmps63
  go_wp2
  go_ret
  exact ⟨rfl, rfl⟩
set_option maxHeartbeats 800000 in
/-- The closure on, where there is one. -/
theorem on_yes (n m l len cap at_ : Nat) (A : Option Addr) (Bq Ba By : Nat) (skip : Int) (hs : 0 ≤ skip ∧ skip < 4294967296) (hat : at_ < len) (hlen : len ≤ 281474976710656) (hge : skip < (len : Int) - at_ - 1) (W : World)
    (cq : W.cell? ⟨Bq, 0, none⟩ = some (.slice A len cap)) (ca : W.cell? ⟨Ba, 0, none⟩ = some (.int .i64 at_)) (cy : W.cell? ⟨By, 0, none⟩ = some (.func (.yield l) #[] #[])) (R1 R2 : World → Prop)
    (hY : YieldAt Fence.wide m Try.prog l #[.int .i64 (at_ + 1 + skip)] W fun e W' => (e = .returned (.bool true) ∧ R1 W') ∨ (e = .returned (.bool false) ∧ R2 W')) :
    CallsIn Fence.wide n Try.prog 63 #[.int .u64 skip, .pointer (some ⟨Bq, 0, none⟩), .pointer (some ⟨Ba, 0, none⟩), .pointer (some ⟨By, 0, none⟩)] W fun e W' => (e = .returned (.bool true) ∧ R1 W') ∨ (e = .returned (.bool false) ∧ R2 W') := by
  obtain ⟨s0, s1⟩ := hs
  obtain ⟨fn, tmps, assign, body, hy, hR⟩ := YieldAt.any rfl (n - 1) hY
  refine callsIn_of_wp Try.func63 rfl trivial ?_ rfl
  simp only [Try.ntmps63, List.size_toArray, List.length_cons, List.length_nil, Nat.reduceAdd, Nat.reduceSub, Array.replicate_succ, Array.replicate_zero, List.push_toArray, List.append_toArray, List.nil_append, List.cons_append]
  gi_wp2
  refine ⟨(fun h => by cases h), hR.mono ?_⟩
  rintro e W' (⟨rfl, h1⟩ | ⟨rfl, h2⟩)
  · gi_wp2
    go_ret
    exact .inl ⟨rfl, h1⟩
  · gi_wp2
    go_ret
    exact .inr ⟨ret_b (decide_eq_false (by omega)), h2⟩
/-- What the iterator finds in memory. -/
def LeadsAt (W : World) (H : Nat) (X : Nat → Prop) (Bq Ba : Nat) (A : Option Addr) (cap : Nat) (q : List I4) (at_ : Nat) : Prop :=
  W.cell? ⟨Bq, 0, none⟩ = some (.slice A q.length cap) ∧ Bq < H ∧ ¬ X Bq ∧ W.cell? ⟨Ba, 0, none⟩ = some (.int .i64 at_) ∧ Ba < H ∧ ¬ X Ba
theorem LeadsAt.kp {W W' : World} {H : Nat} {X : Nat → Prop} {Bq Ba : Nat} {A : Option Addr} {cap at_ : Nat} {q : List I4} (h : LeadsAt W H X Bq Ba A cap q at_) (hk : KpI H X W W') : LeadsAt W' H X Bq Ba A cap q at_ := by
  obtain ⟨h1, h2, h3, h4, h5, h6⟩ := h
  exact ⟨hk.cell h1 h2 h3, h2, h3, hk.cell h4 h5 h6, h5, h6⟩
theorem LeadsAt.keep {W W' : World} {H : Nat} {X : Nat → Prop} {Bq Ba : Nat} {A : Option Addr} {cap at_ : Nat} {q : List I4} (h : LeadsAt W H X Bq Ba A cap q at_) (hb : Below W.heap.size W W') : LeadsAt W' H X Bq Ba A cap q at_ := by
  obtain ⟨h1, h2, h3, h4, h5, h6⟩ := h
  exact ⟨keepC hb h1, h2, h3, keepC hb h4, h5, h6⟩
def LeadsPost (J Jx : List Nat → World → Prop) (xs : List Nat) (e : Ending) (W' : World) : Prop := (∃ v, e = .returned v) ∧ ((∃ ys, ys = xs ∧ J ys W') ∨ (∃ pre, True ∧ Jx pre W'))
theorem abides_below {β : Type} {B : Nat} {J : β → World → Prop} (h : AbidesFrom B J) {s : β} {W W' : World} (hs : J s W) (hb : Below W.heap.size W W') : J s W' :=
  h s W W' none hs ⟨hb.os, hb.tape, hb.output, hb.size, fun k hk _ => hb.block k hk⟩ (fun r e => by cases e)
def OnPost (H : Nat) (X : Nat → Prop) (J Jx : List Nat → World → Prop) (pre ys : List Nat) (Wc : World) (e : Ending) (W' : World) : Prop := (e = .returned (.bool true) ∧ J (pre ++ ys) W' ∧ KpI H X Wc W') ∨ (e = .returned (.bool false) ∧ ∃ p, Jx p W')
theorem on_c (n m l H : Nat) (X : Nat → Prop) (Bq Ba By : Nat) (A : Option Addr) (cap : Nat) (q : List I4) (at_ : Nat) (skip : Int) (hs : 0 ≤ skip ∧ skip < 4294967296) (hat : at_ < q.length) (hlen : q.length ≤ 281474976710656) (J Jx : List Nat → World → Prop) (Wc : World)
    (Pt : Nat → Prop) (hPt : ∀ to ∈ onL at_ (q.length - at_ - 1) skip, Pt to) (HY : Hid (∀ pre (to : Nat) W1, Pt to → J pre W1 → pre.length < 2 → YieldAt Fence.wide m Try.prog l #[.int .i64 to] W1 fun e W' => (e = .returned (.bool true) ∧ J (pre ++ [to]) W' ∧ KpI H X W1 W') ∨ (e = .returned (.bool false) ∧ Jx (pre ++ [to]) W')))
    (hL : LeadsAt Wc H X Bq Ba A cap q at_) (hy : Wc.heap[By]? = some (.cells #[.func (.yield l) #[] #[]] 88 (0, 0))) (pre : List Nat) (hp : pre.length < 2) (hJ : J pre Wc) :
    CallsIn Fence.wide n Try.prog 63 #[.int .u64 skip, .pointer (some ⟨Bq, 0, none⟩), .pointer (some ⟨Ba, 0, none⟩), .pointer (some ⟨By, 0, none⟩)] Wc (OnPost H X J Jx pre (onL at_ (q.length - at_ - 1) skip) Wc) := by
  obtain ⟨cq, _, _, ca, _, _⟩ := hL
  have cy : Wc.cell? ⟨By, 0, none⟩ = some (.func (.yield l) #[] #[]) := Boxed.cell (t := 88) hy
  by_cases h : skip < (q.length : Int) - at_ - 1
  · have e1 : onL at_ (q.length - at_ - 1) skip = [at_ + 1 + skip.toNat] := by unfold onL; rw [if_pos (by omega)]
    have e2 : (at_ : Int) + 1 + skip = ((at_ + 1 + skip.toNat : Nat) : Int) := by omega
    have hyy := HY.out pre (at_ + 1 + skip.toNat) Wc (hPt _ (by rw [e1]; simp)) hJ hp
    rw [← e2] at hyy
    rw [e1]
    refine (on_yes n m l q.length cap at_ A Bq Ba By skip hs hat hlen h Wc cq ca cy _ _ hyy).mono ?_
    rintro e W' (⟨rfl, h1, h2⟩ | ⟨rfl, h1⟩)
    · exact .inl ⟨rfl, h1, h2⟩
    · exact .inr ⟨rfl, _, h1⟩
  · have e1 : onL at_ (q.length - at_ - 1) skip = [] := by unfold onL; rw [if_neg (by omega)]
    rw [e1]
    refine (on_no n q.length cap at_ A Bq Ba By skip hs hat hlen (by omega) Wc cq ca).mono ?_
    rintro e W' ⟨rfl, rfl⟩
    exact .inl ⟨rfl, by rw [List.append_nil]; exact hJ, KpI.refl _ _ _⟩
set_option maxRecDepth 100000 in
set_option maxHeartbeats 2000000 in
theorem leads1_in (l H : Nat) (X : Nat → Prop) (Bq Ba : Nat) (A : Option Addr) (cap : Nat) (q : List I4) (at_ : Nat) (x : I4) (hx : q[at_]? = some x) (hok : x.ok) (hlen : q.length ≤ 281474976710656) (J Jx : List Nat → World → Prop) (n : Nat) (W0 W : World) (hJ : AbidesFrom W.heap.size J)
    (Pt : Nat → Prop) (hPt : ∀ to ∈ nextQ q at_, Pt to) (hY : ∀ pre (to : Nat) W1, Pt to → J pre W1 → pre.length < 2 → YieldAt Fence.wide (n - 1) Try.prog l #[.int .i64 to] W1 fun e W' => (e = .returned (.bool true) ∧ J (pre ++ [to]) W' ∧ KpI H X W1 W') ∨ (e = .returned (.bool false) ∧ Jx (pre ++ [to]) W'))
    (hL : LeadsAt W H X Bq Ba A cap q at_) (hr : ∃ b off, A = some ⟨b, off, none⟩ ∧ b < H ∧ ¬ X b ∧ W.cell? ⟨b, off + at_ * 4, none⟩ = some (.int .u16 x.c) ∧ W.cell? ⟨b, off + at_ * 4 + 1, none⟩ = some (.int .u8 x.j) ∧ W.cell? ⟨b, off + at_ * 4 + 2, none⟩ = some (.int .u8 x.f) ∧ W.cell? ⟨b, off + at_ * 4 + 3, none⟩ = some (.int .u32 x.k))
    (hH : H ≤ W.heap.size) (h0 : J [] W) :
    CallsIn Fence.wide n Try.prog 62 #[.func (.yield l) #[] #[], .pointer (some ⟨Bq, 0, none⟩), .pointer (some ⟨Ba, 0, none⟩)] W (LeadsPost J Jx (nextQ q at_)) := by
  have hlt := (List.getElem?_eq_some_iff.1 hx).1
  have HN := Lib.hid (show nextQ q at_ = nextI x at_ (q.length - at_ - 1) by unfold nextQ; rw [hx])
  have HOK := Lib.hid hok
  obtain ⟨a1, a2, a3, a4, a5, a6, a7, a8⟩ := hok
  obtain ⟨b, off, rfl, hbH, hbX, i0, i1, i2, i3⟩ := hr
  have hLt : (at_ : Int) < q.length := by omega
  have HL := Lib.hid hL
  obtain ⟨cq, hq1, hq2, ca, ha1, ha2⟩ := hL
  have HJ := Lib.hid hJ
  have HY := Lib.hid hY
  have HPT := Lib.hid hPt
  have HJ0 := Lib.hid h0
  have hlb : b < W.heap.size := by omega
  have hlq : Bq < W.heap.size := by omega
  have hla : Ba < W.heap.size := by omega
  clear hJ hY h0 hx hPt
  refine callsIn_of_wp Try.func62 rfl trivial ?_ rfl
  simp only [Try.ntmps62, List.size_toArray, List.length_cons, List.length_nil, Nat.reduceAdd, Nat.reduceSub, Array.replicate_succ, Array.replicate_zero, List.push_toArray, List.append_toArray, List.nil_append, List.cons_append]
  have hmf : ∀ (fn : Fn) (first cap : Array Value) (w : World), (Instr.makeFunc fn first cap).run Try.prog w = .ok (.func fn first cap) w := fun _ _ _ _ => rfl
  have hbA := below_al (below1 W (.cells #[.func (.yield l) #[] #[]] 88)) (.cells #[.int .u16 x.c, .int .u8 x.j, .int .u8 x.f, .int .u32 x.k] 33)
  have HJA := Lib.hid (abides_below HJ.out HJ0.out hbA)
  have HLA := Lib.hid (HL.out.keep hbA)
  have HBY := Lib.hid (show ((W.alloc (.cells #[.func (.yield l) #[] #[]] 88)).alloc (.cells #[.int .u16 x.c, .int .u8 x.j, .int .u8 x.f, .int .u32 x.k] 33)).heap[W.heap.size]? = some (.cells #[.func (.yield l) #[] #[]] 88 (0, 0)) from (Boxed.new W 88 (.func (.yield l) #[] #[])).alloc _)
  have HBX := Lib.hid (show ((W.alloc (.cells #[.func (.yield l) #[] #[]] 88)).alloc (.cells #[.int .u16 x.c, .int .u8 x.j, .int .u8 x.f, .int .u32 x.k] 33)).heap[W.heap.size + 1]? = some (.cells #[.int .u16 x.c, .int .u8 x.j, .int .u8 x.f, .int .u32 x.k] 33 (0, 0)) from by have := heap_alloc_new (W.alloc (.cells #[.func (.yield l) #[] #[]] 88)) (.cells #[.int .u16 x.c, .int .u8 x.j, .int .u8 x.f, .int .u32 x.k] 33); rwa [World.size_alloc] at this)
  cases h6 : (x.c == 6) with
  | true =>
    have HV := Lib.hid (show nextQ q at_ = [] by rw [HN.out]; unfold nextI; rw [if_pos (.inl (by simpa using h6))])
    gi_wp2
    go_end0
    exact ⟨⟨_, rfl⟩, .inl ⟨[], HV.out.symm, HJA.out⟩⟩
  | false =>
  cases h22 : (x.c == 22) with
  | true =>
    have HV := Lib.hid (show nextQ q at_ = [] by rw [HN.out]; unfold nextI; rw [if_pos (.inr (by simpa using h22))])
    gi_wp2
    go_end0
    exact ⟨⟨_, rfl⟩, .inl ⟨[], HV.out.symm, HJA.out⟩⟩
  | false =>
  have hno : ¬ (x.c = 6 ∨ x.c = 22) := by simp at h6 h22; omega
  cases h5 : (x.c == 5) with
  | true =>
    have HV := Lib.hid (show nextQ q at_ = onL at_ (q.length - at_ - 1) x.k by rw [HN.out]; unfold nextI; rw [if_neg hno, if_pos (by simpa using h5)])
    clear hno
    gi_wp2_with fail
    refine ⟨trivial, (fun h => by cases h), (on_c (n - 1) (n - 1) l H X Bq Ba W.heap.size _ cap q at_ x.k ⟨a7, a8⟩ hlt hlen J Jx _ Pt (by rw [← HV.out]; exact HPT.out) HY HLA.out HBY.out [] (by decide) HJA.out).mono ?_⟩
    rintro e W' (⟨rfl, h1, h2⟩ | ⟨rfl, p, h1⟩)
    · have HJ1 := Lib.hid h1
      clear h1 h2
      gi_wp2
      go_end0
      exact ⟨⟨_, rfl⟩, .inl ⟨_, HV.out.symm, HJ1.out⟩⟩
    · have HJ1 := Lib.hid h1
      clear h1
      gi_wp2
      go_end0
      exact ⟨⟨_, rfl⟩, .inr ⟨_, trivial, HJ1.out⟩⟩
  | false =>
  have hno5 : ¬ x.c = 5 := by simpa using h5
  gi_wp2_with fail
  refine ⟨trivial, (fun h => by cases h), (callsIn_wide.2 (jumps_c x HOK.out _)).mono ?_⟩
  rintro e W3 ⟨rfl, hb3⟩
  have HJ3 := Lib.hid (abides_below (W := _) HJ.out HJA.out hb3)
  have HL3 := Lib.hid (HLA.out.keep hb3)
  have HY3 := Lib.hid ((hb3.block _ (Array.getElem?_eq_some_iff.1 HBY.out).1).trans HBY.out)
  have HX3 := Lib.hid ((hb3.block _ (Array.getElem?_eq_some_iff.1 HBX.out).1).trans HBX.out)
  have x0 : W3.cell? ⟨W.heap.size + 1, 0, none⟩ = some (.int .u16 x.c) := by simp [World.cell?, HX3.out]
  have x1 : W3.cell? ⟨W.heap.size + 1, 1, none⟩ = some (.int .u8 x.j) := by simp [World.cell?, HX3.out]
  have x2 : W3.cell? ⟨W.heap.size + 1, 2, none⟩ = some (.int .u8 x.f) := by simp [World.cell?, HX3.out]
  clear hb3 HBY HBX HLA HJA hbA
  cases hj : memC x.c jumpL with
  | false =>
    have HV := Lib.hid (show nextQ q at_ = onL at_ (q.length - at_ - 1) 0 by rw [HN.out]; unfold nextI; rw [if_neg hno, if_neg hno5, if_neg (by simp [hj])])
    clear hno hno5 hj
    gi_wp2_with fail
    refine ⟨trivial, (fun h => by cases h), (on_c (n - 1) (n - 1) l H X Bq Ba W.heap.size _ cap q at_ 0 ⟨by decide, by decide⟩ hlt hlen J Jx _ Pt (by rw [← HV.out]; exact HPT.out) HY HL3.out HY3.out [] (by decide) HJ3.out).mono ?_⟩
    rintro e W' (⟨rfl, h1, h2⟩ | ⟨rfl, p, h1⟩)
    · have HJ1 := Lib.hid h1
      clear h1 h2
      gi_wp2
      go_end0
      exact ⟨⟨_, rfl⟩, .inl ⟨_, HV.out.symm, HJ1.out⟩⟩
    · have HJ1 := Lib.hid h1
      clear h1
      gi_wp2
      go_end0
      exact ⟨⟨_, rfl⟩, .inr ⟨_, trivial, HJ1.out⟩⟩
  | true =>
    have hn2 : nextQ q at_ = if x.j = x.f then onL at_ (q.length - at_ - 1) x.j else onL at_ (q.length - at_ - 1) x.j ++ onL at_ (q.length - at_ - 1) x.f := by rw [HN.out]; unfold nextI; rw [if_neg hno, if_neg hno5, if_pos hj]
    have HN2 := Lib.hid hn2
    clear hno hno5 hj hn2
    gi_wp2_with fail
    refine ⟨trivial, (fun h => by cases h), (on_c (n - 1) (n - 1) l H X Bq Ba W.heap.size _ cap q at_ x.j ⟨a3, by omega⟩ hlt hlen J Jx _ Pt (fun to h => HPT.out to (by rw [HN2.out]; split; exact h; exact List.mem_append_left _ h)) HY HL3.out HY3.out [] (by decide) HJ3.out).mono ?_⟩
    rintro e W' (⟨rfl, h1, h2⟩ | ⟨rfl, p, h1⟩)
    · have HJ1 := Lib.hid h1
      have HL4 := Lib.hid (HL3.out.kp h2)
      have HY4 := Lib.hid (h2.box HY3.out hH (by decide))
      have hX4 := h2.box HX3.out (by omega) (by decide)
      have y1 : W'.cell? ⟨W.heap.size + 1, 1, none⟩ = some (.int .u8 x.j) := by simp [World.cell?, hX4]
      have y2 : W'.cell? ⟨W.heap.size + 1, 2, none⟩ = some (.int .u8 x.f) := by simp [World.cell?, hX4]
      clear h1 h2 x0 x1 x2 hX4
      cases hjf : (x.j != x.f) with
      | false =>
        have HV := Lib.hid (HN2.out.trans (if_pos (by simpa using hjf)))
        gi_wp2
        go_end0
        exact ⟨⟨_, rfl⟩, .inl ⟨_, HV.out.symm, HJ1.out⟩⟩
      | true =>
        have HV := Lib.hid (HN2.out.trans (if_neg (by simpa using hjf)))
        have hol := onL_len at_ (q.length - at_ - 1) x.j
        gi_wp2_with fail
        refine ⟨trivial, (fun h => by cases h), (on_c (n - 1) (n - 1) l H X Bq Ba W.heap.size _ cap q at_ x.f ⟨a5, by omega⟩ hlt hlen J Jx _ Pt (fun to h => HPT.out to (by rw [HV.out]; exact List.mem_append_right _ h)) HY HL4.out HY4.out (onL at_ (q.length - at_ - 1) x.j) (by omega) HJ1.out).mono ?_⟩
        rintro e W' (⟨rfl, h1, h2⟩ | ⟨rfl, p, h1⟩)
        · have HJ5 := Lib.hid h1
          clear h1 h2
          gi_wp2
          go_end0
          exact ⟨⟨_, rfl⟩, .inl ⟨_, HV.out.symm, HJ5.out⟩⟩
        · have HJ5 := Lib.hid h1
          clear h1
          gi_wp2
          go_end0
          exact ⟨⟨_, rfl⟩, .inr ⟨_, trivial, HJ5.out⟩⟩
    · have HJ1 := Lib.hid h1
      clear h1
      gi_wp2
      go_end0
      exact ⟨⟨_, rfl⟩, .inr ⟨_, trivial, HJ1.out⟩⟩
end Go.Proofs.Ytapmpegblfcknaa
