import Derived.Test.YtebkbcpnjknkjaaLexW4
set_option linter.unusedVariables false
set_option linter.unusedSimpArgs false
set_option maxRecDepth 100000
namespace Go.Proofs.Ytebkbcpnjknkjaa
open Go.RowKit
/-! ravelinref06's reader: its state, plainly and in memory; fails, peek, next, is, want, kind. -/
structure RSt where
  (at_ : Nat)
  (deep err bad : Int)
def failsP (e p : Int) (s : RSt) : RSt := if s.err = 0 then ⟨s.at_, s.deep, e, p⟩ else s
def peekP (l : List Tk) (ee pl : Int) (s : RSt) : Tk × RSt :=
  if s.err ≠ 0 then (Tk.zero, s) else if l.length ≤ s.at_ then (Tk.zero, failsP ee pl s) else (l.getD s.at_ Tk.zero, s)
def bumpP (s : RSt) : Option RSt := if s.at_ < 1000000 then some ⟨s.at_ + 1, s.deep, s.err, s.bad⟩ else none
def rnextP (l : List Tk) (ee pl : Int) (s : RSt) : Option (Tk × RSt) :=
  if (peekP l ee pl s).2.err = 0 then (bumpP (peekP l ee pl s).2).map fun s' => ((peekP l ee pl s).1, s') else some (peekP l ee pl s)
def isP (l : List Tk) (ee pl : Int) (k : Int) (t : ByteArray) (s : RSt) : Option (Bool × RSt) :=
  if (peekP l ee pl s).2.err ≠ 0 ∨ (peekP l ee pl s).1.kind ≠ k ∨ (peekP l ee pl s).1.text ≠ t then some (false, (peekP l ee pl s).2) else (bumpP (peekP l ee pl s).2).map fun s' => (true, s')
def rdCells (l : List Tk) (ee pl : Int) (A : Option Addr) (c : Nat) (s : RSt) : Array Value := #[.slice A l.length c, .int .i64 ee, .int .i64 pl, .int .i64 s.at_, .int .i64 s.deep, .int .i64 s.err, .int .i64 s.bad]
structure RdAt (l : List Tk) (ee pl : Int) (A : Option Addr) (c R : Nat) (s : RSt) (W : World) : Prop where
  box : W.heap[R]? = some (.cells (rdCells l ee pl A c s) 88 (0, 0))
  row : Reads W R 4 A l.length (cellsT l)
  len : l.length ≤ 100000
section
variable {l : List Tk} {ee pl : Int} {A : Option Addr} {c R : Nat} {s : RSt} {W W' : World}
theorem RdAt.lt (h : RdAt l ee pl A c R s W) : R < W.heap.size := (Array.getElem?_eq_some_iff.1 h.box).1
theorem RdAt.cl (h : RdAt l ee pl A c R s W) : W.cell? ⟨R, 0, none⟩ = some (.slice A l.length c) ∧ W.cell? ⟨R, 1, none⟩ = some (.int .i64 ee) ∧ W.cell? ⟨R, 2, none⟩ = some (.int .i64 pl) ∧ W.cell? ⟨R, 3, none⟩ = some (.int .i64 s.at_) ∧ W.cell? ⟨R, 4, none⟩ = some (.int .i64 s.deep) ∧ W.cell? ⟨R, 5, none⟩ = some (.int .i64 s.err) ∧ W.cell? ⟨R, 6, none⟩ = some (.int .i64 s.bad) := by simp [World.cell?, h.box, rdCells]
theorem RdAt.fr (h : RdAt l ee pl A c R s W) (j : Nat) : W.frozen? ⟨R, j, none⟩ = false := by simp [World.frozen?, h.box]
theorem RdAt.keep (h : RdAt l ee pl A c R s W) (hb : Below W.heap.size W W') : RdAt l ee pl A c R s W' :=
  ⟨(hb.block _ h.lt).trans h.box, h.row.below (below_of hb (Nat.le_of_lt h.lt)), h.len⟩
theorem RdAt.drewN (h : RdAt l ee pl A c R s W) (k : Nat) : RdAt l ee pl A c R s (W.drewN k) := ⟨h.box, h.row.drewN k, h.len⟩
/-- One field is written. -/
theorem RdAt.set (h : RdAt l ee pl A c R s W) {j : Nat} {v : Value} {s' : RSt} (hc : (rdCells l ee pl A c s).setIfInBounds j v = rdCells l ee pl A c s') : RdAt l ee pl A c R s' (W.setCell ⟨R, j, none⟩ v) := by
  refine ⟨?_, h.row.keep fun b o hb => ?_, h.len⟩
  · rw [← hc]
    have hlt := h.lt
    have h' : W.heap[R] = .cells (rdCells l ee pl A c s) 88 (0, 0) := (Array.getElem?_eq_some_iff.1 h.box).2
    show (W.heap.modify R _)[R]? = _
    rw [Array.getElem?_eq_getElem (by simpa using hlt), Array.getElem_modify_self, h']
    rfl
  · have := Below.heap_setCell W ⟨R, j, none⟩ v b (by show b ≠ R; omega)
    simp only [World.cell?]
    rw [this]
end
/-- All blocks but the reader's stay. -/
abbrev KeepR (R : Nat) (w w' : World) : Prop := w.grownBy w' (some R)
theorem keepR_refl (R : Nat) (w : World) : KeepR R w w := ⟨rfl, rfl, rfl, Nat.le_refl _, fun _ _ _ => rfl⟩
theorem keepR_set (R j : Nat) (w : World) (v : Value) : KeepR R w (w.setCell ⟨R, j, none⟩ v) := ⟨rfl, rfl, rfl, by simp, fun k _ hk => Below.heap_setCell _ _ _ k (fun e => hk (by rw [e]))⟩
theorem keepR_t {R : Nat} {w w1 w2 : World} (h : KeepR R w w1) (k : KeepR R w1 w2) : KeepR R w w2 :=
  ⟨k.os.trans h.os, k.tape.trans h.tape, k.output.trans h.output, Nat.le_trans h.size k.size, fun b hb hn => (k.block b (Nat.lt_of_lt_of_le hb h.size) hn).trans (h.block b hb hn)⟩
theorem keepR_b {R : Nat} {w w1 : World} (h : Below w.heap.size w w1) : KeepR R w w1 := ⟨h.os, h.tape, h.output, h.size, fun b hb _ => h.block b hb⟩
theorem box4 {W : World} {g : Nat} {a b c d : Value} {t : TypeId} (h : W.heap[g]? = some (.cells #[a, b, c, d] t (0, 0))) : W.cell? ⟨g, 0, none⟩ = some a ∧ W.cell? ⟨g, 1, none⟩ = some b ∧ W.cell? ⟨g, 2, none⟩ = some c ∧ W.cell? ⟨g, 3, none⟩ = some d ∧ W.frozen? ⟨g, 0, none⟩ = false ∧ W.frozen? ⟨g, 1, none⟩ = false ∧ W.frozen? ⟨g, 2, none⟩ = false ∧ W.frozen? ⟨g, 3, none⟩ = false := by simp [World.cell?, World.frozen?, h]
theorem heap_setT {w : World} {B j : Nat} {c : Array Value} {t : TypeId} {fr : Nat × Nat} (h : w.heap[B]? = some (.cells c t fr)) (v : Value) : (w.setCell ⟨B, j, none⟩ v).heap[B]? = some (.cells (c.setIfInBounds j v) t fr) := by
  have hlt := (Array.getElem?_eq_some_iff.1 h).1
  have h' : w.heap[B] = .cells c t fr := (Array.getElem?_eq_some_iff.1 h).2
  show (w.heap.modify B _)[B]? = _
  rw [Array.getElem?_eq_getElem (by simpa using hlt), Array.getElem_modify_self, h']
  rfl
theorem set4 {W : World} {g : Nat} {a b c d : Value} {t : TypeId} (h : W.heap[g]? = some (.cells #[a, b, c, d] t (0, 0))) (a' b' c' d' : Value) :
    ((((W.setCell ⟨g, 0, none⟩ a').setCell ⟨g, 1, none⟩ b').setCell ⟨g, 2, none⟩ c').setCell ⟨g, 3, none⟩ d').heap[g]? = some (.cells #[a', b', c', d'] t (0, 0)) := by
  rw [heap_setT (heap_setT (heap_setT (heap_setT h a') b') c') d']; rfl
theorem RdAt.setO {l : List Tk} {ee pl : Int} {A : Option Addr} {c R : Nat} {s : RSt} {W : World} (h : RdAt l ee pl A c R s W) {g : Nat} (hg : R < g) (j : Nat) (v : Value) : RdAt l ee pl A c R s (W.setCell ⟨g, j, none⟩ v) := by
  have hb := Below.heap_setCell W ⟨g, j, none⟩ v
  refine ⟨(hb R (by show R ≠ g; omega)).trans h.box, h.row.keep fun b o hbR => ?_, h.len⟩
  simp only [World.cell?]
  rw [hb b (by show b ≠ g; omega)]
theorem keepR_setN {R : Nat} {w W : World} (h : KeepR R w W) {g : Nat} (hg : w.heap.size ≤ g) (j : Nat) (v : Value) : KeepR R w (W.setCell ⟨g, j, none⟩ v) :=
  ⟨h.os, h.tape, h.output, by simpa using h.size, fun b hb hn => (Below.heap_setCell W ⟨g, j, none⟩ v b (by show b ≠ g; omega)).trans (h.block b hb hn)⟩
theorem keepR_d {R : Nat} {w W W' : World} {n : Nat} (h : KeepR R w W) (k : KeepR R (W.drewN n) W') : KeepR R w W' := keepR_t h ⟨k.os, k.tape, k.output, k.size, k.block⟩
def RPost (l : List Tk) (ee pl : Int) (A : Option Addr) (c R : Nat) (v : Value) (s' : RSt) (w : World) (e : Ending) (w' : World) : Prop := e = .returned v ∧ RdAt l ee pl A c R s' w' ∧ KeepR R w w'
theorem fails_c {l : List Tk} {ee pl : Int} {A : Option Addr} {c R : Nat} {s : RSt} (e p : Int) (w : World) (h : RdAt l ee pl A c R s w) : Calls Try.prog 41 #[.pointer (some ⟨R, 0, none⟩), .int .i64 e, .int .i64 p] w (RPost l ee pl A c R (.tuple #[]) (failsP e p s) w) := by
  obtain ⟨a, d, er, b⟩ := s
  have HA := Lib.hid h
  obtain ⟨c0, c1, c2, c3, c4, c5, c6⟩ := h.cl
  have f5 := h.fr 5
  have f6 := h.fr 6
  clear h
  go_enter Try.func41, Try.ntmps41
  by_cases h0 : er = 0
  · subst h0
    have HF : Hid (failsP e p ⟨a, d, 0, b⟩ = ⟨a, d, e, p⟩) := Lib.hid rfl
    go_wp2
    go_end0
    rw [HF.out]
    refine ⟨rfl, (HA.out.set (s' := ⟨a, d, e, b⟩) (j := 5) rfl).set (j := 6) rfl, keepR_t (keepR_set R 5 w _) (keepR_set R 6 _ _)⟩
  · have h1 : (er == 0) = false := by simpa using h0
    have HF : Hid (failsP e p ⟨a, d, er, b⟩ = ⟨a, d, er, b⟩) := Lib.hid (if_neg h0)
    clear h0
    go_wp2
    go_end0
    rw [HF.out]
    exact ⟨rfl, HA.out, keepR_refl _ _⟩
theorem cellsT_get (q : List Tk) (i : Nat) (x : Tk) (hx : q[i]? = some x) (m : Nat) (hm : m < 4) : (cellsT q)[i * 4 + m]? = x.cells[m]? := by
  induction q generalizing i with
  | nil => simp at hx
  | cons y q ih =>
    cases i with
    | zero => simp only [List.getElem?_cons_zero, Option.some.injEq] at hx; subst hx; simp only [cellsT, List.flatMap_cons]; rw [List.getElem?_append_left (by simp [Tk.cells]; omega)]; simp
    | succ i =>
      rw [List.getElem?_cons_succ] at hx
      have e : (i + 1) * 4 + m = y.cells.length + (i * 4 + m) := by simp [Tk.cells]; omega
      simp only [cellsT, List.flatMap_cons] at ih ⊢
      rw [e, List.getElem?_append_right (by omega), Nat.add_sub_cancel_left]
      exact ih i hx
theorem RdAt.tok {l : List Tk} {ee pl : Int} {A : Option Addr} {c R : Nat} {s : RSt} {W : World} (h : RdAt l ee pl A c R s W) {i : Nat} {x : Tk} (hx : l[i]? = some x) :
    ∃ b off, A = some ⟨b, off, none⟩ ∧ b < R ∧ W.cell? ⟨b, off + i * 4, none⟩ = some (.int .i64 x.kind) ∧ W.cell? ⟨b, off + i * 4 + 1, none⟩ = some (.string x.text) ∧ W.cell? ⟨b, off + i * 4 + 2, none⟩ = some (.int .u64 x.num) ∧ W.cell? ⟨b, off + i * 4 + 3, none⟩ = some (.int .i64 x.at_) := by
  have hi : i < l.length := (List.getElem?_eq_some_iff.1 hx).1
  obtain ⟨b, off, e, hb, hc⟩ := h.row.2 (by omega)
  have g := fun m hm => cellsT_get l i x hx m hm
  exact ⟨b, off, e, hb, hc (i * 4 + 0) _ (by rw [g 0 (by omega)]; rfl), hc (i * 4 + 1) _ (by rw [g 1 (by omega)]; rfl), hc (i * 4 + 2) _ (by rw [g 2 (by omega)]; rfl), hc (i * 4 + 3) _ (by rw [g 3 (by omega)]; rfl)⟩
def tkObj : Obj := .cells #[.int .i64 0, .string ⟨#[]⟩, .int .u64 0, .int .i64 0] 83 (0, 0)
theorem peek_c {l : List Tk} {ee pl : Int} {A : Option Addr} {c R : Nat} {s : RSt} (w : World) (h : RdAt l ee pl A c R s w) : Calls Try.prog 39 #[.pointer (some ⟨R, 0, none⟩)] w (RPost l ee pl A c R (peekP l ee pl s).1.val (peekP l ee pl s).2 w) := by
  obtain ⟨a, d, er, b⟩ := s
  have hk := h.keep (below1 w (.cells #[.int .i64 0, .string ⟨#[]⟩, .int .u64 0, .int .i64 0] 83))
  obtain ⟨c0, c1, c2, c3, -, c5, -⟩ := hk.cl
  have HA := Lib.hid hk
  have HB := Lib.hid h.row
  have HR := Lib.hid h.lt
  clear h hk
  by_cases h0 : er = 0
  · subst h0
    by_cases h1 : l.length ≤ a
    · have HF : Hid (peekP l ee pl ⟨a, d, 0, b⟩ = (Tk.zero, failsP ee pl ⟨a, d, 0, b⟩)) := Lib.hid (by unfold peekP; rw [if_neg (by simp), if_pos h1])
      have h1' : (l.length : Int) ≤ a := by omega
      clear h1
      go_enter Try.func39, Try.ntmps39
      go_wp2_with fail
      go_quiet (fail)
      go_wp2_with fail
      refine wp_tail 9 (by kernel_rfl) (by kernel_rfl) ?_
      simp only [List.take_succ_cons, List.take_zero, List.drop_succ_cons, List.drop_zero]
      repeat still_step
      refine wpStill_nil ?_
      go_wp2_with fail
      refine (fails_c ee pl _ (HA.out.drewN _)).mono ?_
      rintro e w1 ⟨rfl, hr1, hk1⟩
      have HR1 := Lib.hid hr1
      have HK1 := Lib.hid (keepR_d (keepR_b (below1 w _)) hk1)
      have hbx := ((hk1.block w.heap.size (by show _ < (w.heap.push _).size; simp) (fun e => by injection e with e; have := HR.out; omega)).trans (heap_nwT w _))
      have HBX := Lib.hid hbx
      obtain ⟨k0, k1, k2, k3, g0, g1, g2, g3⟩ := box4 hbx
      clear hr1 hk1 hbx
      go_wp2
      obtain ⟨r0, r1, r2, r3, -⟩ := box4 (set4 HBX.out (.int .i64 0) (.string ⟨#[]⟩) (.int .u64 0) (.int .i64 0))
      refine bodyPost_ret (v := Tk.val Tk.zero) (by simp [results, Try.results39, go_sem, Tk.val, Tk.zero, r0, r1, r2, r3]) rfl ?_
      rw [HF.out]
      refine ⟨rfl, ?_, ?_⟩
      · exact (((HR1.out.setO HR.out _ _).setO HR.out _ _).setO HR.out _ _).setO HR.out _ _
      · exact keepR_setN (keepR_setN (keepR_setN (keepR_setN HK1.out (Nat.le_refl _) _ _) (Nat.le_refl _) _ _) (Nat.le_refl _) _ _) (Nat.le_refl _) _ _
    · have hlt : a < l.length := by omega
      have h1' : ¬ ((l.length : Int) ≤ a) := by omega
      have hg : l[a]? = some (l.getD a Tk.zero) := by rw [List.getElem?_eq_getElem hlt, List.getD_eq_getElem?_getD, List.getElem?_eq_getElem hlt]; rfl
      obtain ⟨t, ht⟩ : ∃ t, t = l.getD a Tk.zero := ⟨_, rfl⟩
      rw [← ht] at hg
      have HF : Hid (peekP l ee pl ⟨a, d, 0, b⟩ = (t, ⟨a, d, 0, b⟩)) := Lib.hid (by unfold peekP; rw [if_neg (by simp), if_neg h1, ht])
      obtain ⟨bb, off, rfl, hbb, q0, q1, q2, q3⟩ := HA.out.tok hg
      obtain ⟨tk, tt, tn, ta⟩ := t
      clear h1 hg ht
      go_enter Try.func39, Try.ntmps39
      go_wp2_with fail
      go_quiet (fail)
      go_wp2_with fail
      refine wp_tail 10 (by kernel_rfl) (by kernel_rfl) ?_
      simp only [List.take_succ_cons, List.take_zero, List.drop_succ_cons, List.drop_zero]
      repeat still_step
      refine wpStill_nil ?_
      go_wp2
      have r := fun n => box4 (set4 (W := (w.alloc (.cells #[.int .i64 0, .string ⟨#[]⟩, .int .u64 0, .int .i64 0] 83)).drewN n) (heap_nwT w _) (.int .i64 tk) (.string tt) (.int .u64 tn) (.int .i64 ta))
      refine bodyPost_ret (v := Tk.val ⟨tk, tt, tn, ta⟩) (by simp [results, Try.results39, go_sem, Tk.val, r]) rfl ?_
      rw [HF.out]
      refine ⟨rfl, ?_, ?_⟩
      · exact ((((HA.out.drewN _).setO HR.out _ _).setO HR.out _ _).setO HR.out _ _).setO HR.out _ _
      · exact keepR_setN (keepR_setN (keepR_setN (keepR_setN (keepR_b (below_drN (below1 w _) _)) (Nat.le_refl _) _ _) (Nat.le_refl _) _ _) (Nat.le_refl _) _ _) (Nat.le_refl _) _ _
  · have h1 : (er != 0) = true := by simpa using h0
    have HF : Hid (peekP l ee pl ⟨a, d, er, b⟩ = (Tk.zero, ⟨a, d, er, b⟩)) := Lib.hid (if_pos h0)
    clear h0
    go_enter Try.func39, Try.ntmps39
    go_wp2
    refine bodyPost_ret (v := Tk.val Tk.zero) (by simp [results, Try.results39, go_sem, Tk.val, Tk.zero]) rfl ?_
    rw [HF.out]
    exact ⟨rfl, HA.out, keepR_b (below1 w _)⟩
end Go.Proofs.Ytebkbcpnjknkjaa
