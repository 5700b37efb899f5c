import Derived.Test.YtehpoamideeehaaMirFromP
import Derived.Test.YtehpoamideeehaaOwn
import Derived.Test.YtehpoamideeehaaStep
import Derived.Maps.AppendAt
import Derived.Deep.RegionLaw
set_option linter.unusedVariables false
set_option linter.unusedSimpArgs false
set_option maxRecDepth 100000
namespace Go.Proofs.Ytehpoamideeehaa
open Go.RowKit
/-! mir: op, question, list.add, builder.operand: the walks. -/
theorem op_c (c : Int) (w : World) : Calls Try.prog 37 #[.int .u16 c] w fun e w' => e = .returned (.int .i64 (mop c)) ∧ w' = w := by
  obtain ⟨h, hh⟩ : ∃ h, h = bits .and .u16 c 240 := ⟨_, rfl⟩
  have HM : Hid (mop c = if h = 0 then 4 else if h = 16 then 5 else if h = 32 then 6 else if h = 48 then 7 else if h = 64 then 9 else if h = 80 then 8 else if h = 96 then 11 else if h = 112 then 12 else 10) := Lib.hid (by unfold mop hiC; rw [← hh])
  have hr := hh.symm
  clear hh
  go_enter Try.func37, Try.ntmps37
  go_wp2
  all_goals go_ret
  all_goals exact ⟨ret_i (by rw [HM.out]; simp only [beq_iff_eq, beq_eq_false_iff_ne] at *; simp [*]), rfl⟩
theorem question_c (c : Int) (w : World) : Calls Try.prog 38 #[.int .u16 c] w fun e w' => e = .returned (.int .i64 (mq c)) ∧ w' = w := by
  obtain ⟨h, hh⟩ : ∃ h, h = bits .and .u16 c 240 := ⟨_, rfl⟩
  have HM : Hid (mq c = if h = 16 then 15 else if h = 32 then 16 else if h = 48 then 17 else 18) := Lib.hid (by unfold mq hiC; rw [← hh])
  have hr := hh.symm
  clear hh
  go_enter Try.func38, Try.ntmps38
  go_wp2
  all_goals go_ret
  all_goals exact ⟨ret_i (by rw [HM.out]; simp only [beq_iff_eq, beq_eq_false_iff_ne] at *; simp [*]), rfl⟩
theorem heap_setM {w : World} {B j : Nat} {c : Array Value} {t : TypeId} {fr : Nat × Nat} (h : w.heap[B]? = some (.cells c t fr)) (v : Value) : (w.setCell ⟨B, j, none⟩ v).heap[B]? = some (.cells (c.setIfInBounds j v) t fr) := by
  have hlt := (Array.getElem?_eq_some_iff.1 h).1
  have h' : w.heap[B] = .cells c t fr := (Array.getElem?_eq_some_iff.1 h).2
  show (w.heap.modify B _)[B]? = _
  rw [Array.getElem?_eq_getElem (by simpa using hlt), Array.getElem_modify_self, h']
  rfl
theorem own_setM {w : World} {base : Nat} {e : TypeId} {size n : Nat} {v : Value} {xs : List Value} (h : w.ownsRow base e size v n xs) (g j : Nat) (u : Value) (hg : v.ownBlock ≠ some g) : (w.setCell ⟨g, j, none⟩ u).ownsRow base e size v n xs :=
  h.kept (row := some g) ⟨rfl, rfl, rfl, by simp, fun k _ hk => Below.heap_setCell _ _ _ k (fun e => hk (by rw [e]))⟩ (.inr hg)
theorem own_keepM {w w' : World} {base : Nat} {e : TypeId} {size n : Nat} {v : Value} {xs : List Value} (h : w.ownsRow base e size v n xs) (hb : Below w.heap.size w w') : w'.ownsRow base e size v n xs :=
  h.kept (row := none) ⟨hb.os, hb.tape, hb.output, hb.size, fun k hk _ => hb.block k hk⟩ (by cases e : v.ownBlock with | none => exact .inl rfl | some b => exact .inr (by simp))
theorem own_ltM {W : World} {base e size n : Nat} {v : Value} {xs : List Value} (h : W.ownsRow base e size v n xs) (k : Nat) (hk : v.ownBlock = some k) : k < W.heap.size := by
  rcases h.2 with ⟨rfl, _⟩ | ⟨g, cap, cur, rfl, hb, hg, _⟩
  · simp [Value.ownBlock] at hk
  · have : g = k := by simpa [Value.ownBlock] using hk
    subst this
    exact (Array.getElem?_eq_some_iff.1 hg).1
theorem heap_nw (W : World) (o : Obj) : (W.alloc o).heap[W.heap.size]? = some o := by
  show (W.heap.push o)[W.heap.size]? = some o
  exact Array.getElem?_push_size
theorem heap_nw1d (W : World) (o o' : Obj) : ((W.alloc o).alloc o').drew.heap[W.heap.size + 1]? = some o' := by
  have h := heap_nw (W.alloc o) o'
  rw [World.size_alloc] at h
  exact h
/-- mir.builder in memory. -/
structure MB (w : World) (B : Nat) (l : List R7) (bg : List Int) (vl vb : Value) (W : World) : Prop where
  box : W.heap[B]? = some (.cells #[vl, vb] 57 (0, 0))
  ol : W.ownsRow (B + 1) 37 7 vl l.length (cellsR l)
  ob : W.ownsRow (B + 1) 3 1 vb bg.length (numV .i64 bg)
  ne : ∀ b, vl.ownBlock = some b → vb.ownBlock ≠ some b
  below : Below w.heap.size w W
  ge : w.heap.size ≤ B
section
variable {w : World} {B : Nat} {l : List R7} {bg : List Int} {vl vb : Value} {W W' : World}
theorem MB.lt (h : MB w B l bg vl vb W) : B < W.heap.size := (Array.getElem?_eq_some_iff.1 h.box).1
theorem MB.keep (h : MB w B l bg vl vb W) (hb : Below W.heap.size W W') : MB w B l bg vl vb W' :=
  ⟨(hb.block _ h.lt).trans h.box, own_keepM h.ol hb, own_keepM h.ob hb, h.ne, below_t h.below hb, h.ge⟩
theorem MB.c (h : MB w B l bg vl vb W) : W.cell? ⟨B, 0, none⟩ = some vl ∧ W.cell? ⟨B, 1, none⟩ = some vb ∧ W.frozen? ⟨B, 0, none⟩ = false ∧ W.frozen? ⟨B, 1, none⟩ = false := by simp [World.cell?, World.frozen?, h.box]
/-- Instructions are put behind. -/
theorem MB.add (h : MB w B l bg vl vb W) {ys : List R7} {vl' : Value} (hown : W'.ownsRow (B + 1) 37 7 vl' (l.length + ys.length) (cellsR l ++ cellsR ys)) (hg : W.grownBy W' vl.ownBlock) (hl : vl'.ownBlock = vl.ownBlock ∨ ∀ b, vl'.ownBlock = some b → W.heap.size ≤ b) : MB w B (l ++ ys) bg vl' vb (W'.setCell ⟨B, 0, none⟩ vl') := by
  have hB := h.lt
  have hne : some B ≠ vl.ownBlock := fun e => by have := own_ge h.ol B e.symm; omega
  have hne' : vl'.ownBlock ≠ some B := fun e => by have := own_ge hown B e; omega
  have hnb : vb.ownBlock ≠ some B := fun e => by have := own_ge h.ob B e; omega
  refine ⟨?_, ?_, ?_, ?_, ?_, h.ge⟩
  · rw [heap_setM ((hg.block B hB hne).trans h.box)]; rfl
  · have e : cellsR (l ++ ys) = cellsR l ++ cellsR ys := by simp [cellsR]
    rw [List.length_append, e]
    exact own_setM hown B 0 vl' hne'
  · refine own_setM (h.ob.kept hg ?_) B 0 vl' hnb
    cases e2 : vb.ownBlock with
    | none => exact .inl rfl
    | some b => exact .inr (fun e => h.ne b e.symm e2)
  · intro b hb
    rcases hl with e | e
    · exact h.ne b (by rw [← e]; exact hb)
    · intro e2
      have := own_ltM h.ob b e2
      have := e b hb
      omega
  · exact (below_gr h.below hg h.below.size (fun k hk => by have := own_ge h.ol k hk; have := h.ge; omega)).setCell (p := ⟨B, 0, none⟩) h.ge _
end
def AddPost (w0 : World) (B : Nat) (l : List R7) (bg : List Int) (vb : Value) (e : Ending) (w' : World) : Prop := e = .returned (.tuple #[]) ∧ ∃ vl', MB w0 B l bg vl' vb w'
def Framed (B : Nat) (vl : Value) (w w' : World) : Prop := ∀ b, b < w.heap.size → b ≠ B → vl.ownBlock ≠ some b → w'.heap[b]? = w.heap[b]?
def AddPostF (w0 : World) (B : Nat) (l : List R7) (bg : List Int) (vl vb : Value) (w : World) (e : Ending) (w' : World) : Prop := e = .returned (.tuple #[]) ∧ ∃ vl', MB w0 B l bg vl' vb w' ∧ Framed B vl w w' ∧ w.heap.size ≤ w'.heap.size
theorem infoIr : (Try.prog.info? 37).map (fun i => (i.zero, i.size, i.bytes)) = some (some (.agg #[.int .i64 0, .int .i64 0, .int .i64 0, .int .i64 0, .int .u32 0, .int .i64 0, .int .i64 0]), 7, 56) := by kernel_rfl
theorem cellsR_one (l : List R7) : ∀ u ∈ cellsR l, u.oneCell' = true := by
  intro u hu
  obtain ⟨x, -, hx⟩ := List.mem_flatMap.1 hu
  simp [R7.cells] at hx
  rcases hx with rfl | rfl | rfl | rfl | rfl | rfl | rfl <;> rfl
set_option maxHeartbeats 800000 in
theorem add_cf {w0 : World} {B : Nat} {l : List R7} {bg : List Int} {vl vb : Value} (ys : List R7) (A k : Nat) (hk : ys.length = k) (w : World) (h : MB w0 B l bg vl vb w) (hn : l.length + k ≤ 100000) (hr : Reads w w.heap.size 7 (some ⟨A, 0, none⟩) k (cellsR ys)) (hA : A < w.heap.size) (hk0 : 0 < k) :
    Calls Try.prog 35 #[.pointer (some ⟨B, 0, none⟩), .slice (some ⟨A, 0, none⟩) k k] w (AddPostF w0 B (l ++ ys) bg vl vb w) := by
  subst hk
  obtain ⟨i0, HI⟩ : ∃ i0, Hid (Try.prog.info? 37 = some i0 ∧ i0.zero = some (.agg #[.int .i64 0, .int .i64 0, .int .i64 0, .int .i64 0, .int .u32 0, .int .i64 0, .int .i64 0]) ∧ i0.size = 7 ∧ i0.bytes = 56) := by
    obtain ⟨i0, hi, hz0, hz1, hz2⟩ := info_parts infoIr
    exact ⟨i0, Lib.hid ⟨hi, hz0, hz1, hz2⟩⟩
  have HM := Lib.hid h
  have HR := Lib.hid hr
  have HB := Lib.hid h.lt
  have HGE := Lib.hid h.ge
  obtain ⟨c0, -, -, -⟩ := h.c
  clear h hr
  go_enter Try.func35, Try.ntmps35
  go_wp2_with (at_builtin; refine wpList_append_own_at _ rfl (.tmp 8) (.tmp 9) 25 rfl (B + 1) 37 i0 _ 7 56 Try.underlying25 HI.out.1 HI.out.2.1 HI.out.2.2.1 HI.out.2.2.2 rfl (by decide) vl l.length (cellsR l) rfl HM.out.ol ⟨A, 0, none⟩ ys.length ys.length (cellsR ys) rfl (cellsR_length ys) (fun j u hu => by
      obtain ⟨b, off, e, -, hc⟩ := HR.out.2 hk0
      injection e with e; injection e with e1 e2
      subst e1 e2
      rw [add_plain]; exact hc j u hu) (cellsR_one ys) (by simp only [maxLen]; omega) (by omega) (by have := HB.out; omega) ?_; intro v2 w2 hown2 hg2 _ hl2; obtain ⟨g2, cap2, hv2, -, -⟩ := hown2.form (by omega); subst hv2; have hbx : w2.heap[B]? = some (.cells #[vl, vb] 57 (0, 0)) := ((hg2.block B HB.out (fun e => by have := own_ge HM.out.ol B e.symm; omega)).trans HM.out.box); have k0 : w2.cell? ⟨B, 0, none⟩ = some vl := (by simp [World.cell?, hbx]); have f0 : w2.frozen? ⟨B, 0, none⟩ = false := (by simp [World.frozen?, hbx]); have HN : Hid (MB w0 B (l ++ ys) bg (.slice (some ⟨g2, 0, none⟩) (l.length + ys.length) cap2) vb (w2.setCell ⟨B, 0, none⟩ (.slice (some ⟨g2, 0, none⟩) (l.length + ys.length) cap2))) := (Lib.hid (HM.out.add hown2 hg2 (by
      rcases hl2 with e | e
      · exact .inl e
      · exact .inr (fun b hb => by rw [e] at hb; injection hb with hb; omega)))); have HFR : Hid (Framed B vl w (w2.setCell ⟨B, 0, none⟩ (.slice (some ⟨g2, 0, none⟩) (l.length + ys.length) cap2))) := (Lib.hid (fun b hb hne ho => (Below.heap_setCell _ _ _ b hne).trans (hg2.block b hb (fun e => ho e.symm)))); have HSZ : Hid (w.heap.size ≤ w2.heap.size) := (Lib.hid hg2.size); clear hown2 hg2 hl2 hbx)
  go_end0
  exact ⟨rfl, _, HN.out, HFR.out, by simpa using HSZ.out⟩
theorem add_c {w0 : World} {B : Nat} {l : List R7} {bg : List Int} {vl vb : Value} (ys : List R7) (A k : Nat) (hk : ys.length = k) (w : World) (h : MB w0 B l bg vl vb w) (hn : l.length + k ≤ 100000) (hr : Reads w w.heap.size 7 (some ⟨A, 0, none⟩) k (cellsR ys)) (hA : A < w.heap.size) (hk0 : 0 < k) :
    Calls Try.prog 35 #[.pointer (some ⟨B, 0, none⟩), .slice (some ⟨A, 0, none⟩) k k] w (AddPost w0 B (l ++ ys) bg vb) :=
  (add_cf ys A k hk w h hn hr hA hk0).mono fun e w' h => ⟨h.1, h.2.choose, h.2.choose_spec.1⟩
theorem add_newF {w0 : World} {B : Nat} {l : List R7} {bg : List Int} {vl vb : Value} {W : World} (ys : List R7) (h : MB w0 B l bg vl vb W) (V : World) (hb : Below W.heap.size W V) (S k : Nat) (hv : V.heap[S]? = some (.cells (cellsR ys).toArray 37 (0, 0))) (hk : ys.length = k) (hk0 : 0 < k) (hn : l.length + k ≤ 100000) :
    Calls Try.prog 35 #[.pointer (some ⟨B, 0, none⟩), .slice (some ⟨S, 0, none⟩) k k] V (AddPostF w0 B (l ++ ys) bg vl vb V) := by
  have hS := (Array.getElem?_eq_some_iff.1 hv).1
  refine add_cf ys S k hk V (h.keep hb) hn ⟨by rw [cellsR_length, hk], fun _ => ⟨S, 0, rfl, hS, fun j u hu => ?_⟩⟩ hS hk0
  rw [Nat.zero_add]
  simp only [World.cell?, hv]
  simpa using hu
theorem add_new {w0 : World} {B : Nat} {l : List R7} {bg : List Int} {vl vb : Value} {W : World} (ys : List R7) (h : MB w0 B l bg vl vb W) (V : World) (hb : Below W.heap.size W V) (S k : Nat) (hv : V.heap[S]? = some (.cells (cellsR ys).toArray 37 (0, 0))) (hk : ys.length = k) (hk0 : 0 < k) (hn : l.length + k ≤ 100000) :
    Calls Try.prog 35 #[.pointer (some ⟨B, 0, none⟩), .slice (some ⟨S, 0, none⟩) k k] V (AddPost w0 B (l ++ ys) bg vb) := by
  have hS := (Array.getElem?_eq_some_iff.1 hv).1
  refine add_c ys S k hk V (h.keep hb) hn ⟨by rw [cellsR_length, hk], fun _ => ⟨S, 0, rfl, hS, fun j u hu => ?_⟩⟩ hS hk0
  rw [Nat.zero_add]
  simp only [World.cell?, hv]
  simpa using hu
def OpdPost (w0 : World) (B : Nat) (l : List R7) (bg : List Int) (vb : Value) (x : I4) (vl : Value) (w : World) (e : Ending) (w' : World) : Prop := e = .returned (.int .i64 (rk x)) ∧ ∃ vl', MB w0 B (l ++ preK x) bg vl' vb w' ∧ Framed B vl w w' ∧ w.heap.size ≤ w'.heap.size
set_option maxHeartbeats 800000 in
theorem operand_c {w0 : World} {B : Nat} {l : List R7} {bg : List Int} {vl vb : Value} (x : I4) (w : World) (h : MB w0 B l bg vl vb w) (hn : l.length + 1 ≤ 100000) :
    Calls Try.prog 36 #[.pointer (some ⟨B, 0, none⟩), .agg #[.int .u16 x.c, .int .u8 x.j, .int .u8 x.f, .int .u32 x.k]] w (OpdPost w0 B l bg vb x vl w) := by
  have HM := Lib.hid h
  clear h
  cases hX : xBit x.c with
  | true =>
    have hx : (bits .and .u16 x.c 8 != 0) = true := hX
    have HE : Hid (rk x = 1 ∧ preK x = []) := Lib.hid (by unfold rk preK; rw [if_pos hX, if_pos hX]; exact ⟨rfl, rfl⟩)
    clear hX
    go_enter Try.func36, Try.ntmps36
    go_wp2
    go_ret
    exact ⟨by rw [HE.out.1]; rfl, _, by rw [HE.out.2, List.append_nil]; exact HM.out.keep (below1 w _), fun b hb _ _ => Below.heap_alloc w _ b hb, by simp⟩
  | false =>
    have hx : (bits .and .u16 x.c 8 != 0) = false := hX
    have HE : Hid (rk x = 18 ∧ preK x = [⟨1, 18, 0, 0, x.k, 0, 0⟩]) := Lib.hid (by unfold rk preK; rw [hX]; exact ⟨rfl, rfl⟩)
    clear hX
    go_enter Try.func36, Try.ntmps36
    go_wp2_with fail
    go_region_law (go_simp; go_at_call 35; refine (add_newF [⟨1, 18, 0, 0, x.k, 0, 0⟩] HM.out _ (below_dr (below_al (below1 w _) _)) _ 1 (heap_nw1d w _ _) rfl (by decide) (by omega)).mono ?_; rintro e w2 ⟨rfl, vl2, h2, hfr, hsz⟩; have H2 := Lib.hid h2; have HFR := Lib.hid hfr; have HSZ := Lib.hid hsz; clear h2 hfr hsz)
    all_goals go_wp2
    go_ret
    exact ⟨by rw [HE.out.1]; rfl, vl2, by rw [HE.out.2]; exact H2.out, fun b hb hne ho => (HFR.out b (by simp; omega) hne ho).trans ((Below.heap_alloc _ _ b (by simp; omega)).trans (Below.heap_alloc w _ b hb)), by have := HSZ.out; simp at this; omega⟩
end Go.Proofs.Ytehpoamideeehaa
