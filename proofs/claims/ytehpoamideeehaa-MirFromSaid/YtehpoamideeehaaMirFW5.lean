import Derived.Test.YtehpoamideeehaaMirFW4
import Derived.Deep.AppendLies
import Derived.Deep.RegionLaw
import Derived.Test.YtehpoamideeehaaCheckW4
set_option linter.unusedVariables false
set_option linter.unusedSimpArgs false
set_option maxRecDepth 100000
namespace Go.Proofs.Ytehpoamideeehaa
open Go.RowKit
/-! mir.From: the walk. -/
def bgL (q : List I4) (i : Nat) : List Int := (List.range i).map fun j => (beginN q j : Int)
theorem bgL_succ (q : List I4) (i : Nat) : bgL q (i + 1) = bgL q i ++ [(beginN q i : Int)] := by simp [bgL, List.range_succ]
theorem bgL_len (q : List I4) (i : Nat) : (bgL q i).length = i := by simp [bgL]
theorem bgL_get (q : List I4) {i j : Nat} (h : j < i) : (bgL q i).getD j 0 = (beginN q j : Int) := by
  rw [List.getD_eq_getElem?_getD]
  simp [bgL, h]
theorem fromTo_mem {q : List I4} : ∀ n, n ≤ q.length → ∀ y ∈ fromTo q n, ∃ i x, q[i]? = some x ∧ i < n ∧ y ∈ layR i (beginN q i) x := by
  intro n
  induction n with
  | zero => intro _ y hy; simp [fromTo] at hy
  | succ n ih =>
    intro hn y hy
    obtain ⟨x, hx⟩ : ∃ x, q[n]? = some x := ⟨_, List.getElem?_eq_getElem (by omega)⟩
    rw [fromTo_succ hx] at hy
    rcases List.mem_append.1 hy with h | h
    · obtain ⟨i, x, h1, h2, h3⟩ := ih (by omega) y h
      exact ⟨i, x, h1, by omega, h3⟩
    · exact ⟨n, x, hx, by omega, h⟩
theorem lay_targets {q : List I4} (hacc : (checkP q).1 = 0) (hq : ∀ x ∈ q, x.ok) {y : R7} (hy : y ∈ fromTo q q.length) : (shT y.o = true → -1000000 ≤ y.t ∧ (0 ≤ y.t → y.t < (q.length : Int))) ∧ (shF y.o = true → -1000000 ≤ y.f ∧ (0 ≤ y.f → y.f < (q.length : Int))) := by
  obtain ⟨i, x, hx, hi, hm⟩ := fromTo_mem q.length (Nat.le_refl _) y hy
  obtain ⟨-, hl, -, -⟩ := acc_facts hacc
  have hbl := begin_le q i
  have hg := good_at hacc hx
  obtain ⟨c0, c1, j0, j1, f0, f1, k0, k1⟩ := hq x (List.mem_of_getElem? hx)
  have no : shT y.o = false → (shT y.o = true → -1000000 ≤ y.t ∧ (0 ≤ y.t → y.t < (q.length : Int))) ∧ (shF y.o = true → -1000000 ≤ y.f ∧ (0 ≤ y.f → y.f < (q.length : Int))) := fun h => by
    have hf : shF y.o = false := by simp [shT] at h; simp [shF]; omega
    rw [h, hf]
    exact ⟨fun h => absurd h (by decide), fun h => absurd h (by decide)⟩
  rcases code_parts hg with ⟨h, h60⟩ | h | h
  · rw [lay_alu _ _ h h60] at hm
    have hr := mop_range h
    rcases List.mem_append.1 hm with hm | hm
    · unfold preK at hm
      split at hm
      · simp at hm
      · simp at hm; subst hm; exact no rfl
    · simp at hm; subst hm; exact no (by simp [shT]; omega)
  · rw [lay_jump _ _ h] at hm
    obtain ⟨g1, g2⟩ := hg.jump h
    rcases List.mem_append.1 hm with hm | hm
    · unfold preK at hm
      split at hm
      · simp at hm
      · simp at hm; subst hm; exact no rfl
    · simp at hm; subst hm
      exact ⟨fun _ => ⟨by dsimp only; omega, fun _ => by dsimp only; omega⟩, fun _ => ⟨by dsimp only; omega, fun _ => by dsimp only; omega⟩⟩
  · rcases lay_plain h i (beginN q i) with ⟨e, hl⟩ | ⟨e, hl⟩ | ⟨e, hl⟩ | ⟨e, hl⟩ | ⟨e, hl⟩ | ⟨e, hl⟩ | ⟨e, hl⟩ | ⟨e, hl⟩ | ⟨e, hl⟩ | ⟨e, hl⟩ | ⟨e, hl⟩ | ⟨e, hl⟩ | ⟨e, hl⟩ | ⟨e, hl⟩ | ⟨e, hl⟩ | ⟨e, hl⟩
    all_goals (
      rw [hl] at hm
      simp only [List.mem_cons, List.not_mem_nil, or_false] at hm
      first
        | (subst hm; exact no rfl)
        | (rcases hm with rfl | rfl
           · exact no rfl
           · exact no rfl)
        | (rcases hm with rfl | rfl | rfl | rfl
           · exact no rfl
           · exact ⟨fun _ => ⟨by dsimp only; omega, fun h => by dsimp only at h; omega⟩, fun _ => ⟨by dsimp only; omega, fun h => by dsimp only at h; omega⟩⟩
           · exact no rfl
           · exact no rfl)
        | (subst hm
           have := hg.ja e
           exact ⟨fun _ => ⟨by dsimp only; omega, fun _ => by dsimp only; omega⟩, fun h => absurd h (by show ¬ shF 14 = true; decide)⟩))
theorem settle_eq {q : List I4} (hacc : (checkP q).1 = 0) (hq : ∀ x ∈ q, x.ok) : (fromTo q q.length).map (fun y => setF (bgL q q.length) (setT (bgL q q.length) y)) = fromP q := by
  unfold fromP
  refine List.map_congr_left fun y hy => ?_
  obtain ⟨h1, h2⟩ := lay_targets hacc hq hy
  unfold setF setT settleR
  dsimp only
  have e1 : (if shT y.o = true then if y.t < 0 then -y.t else (bgL q q.length).getD y.t.toNat 0 else y.t) = if shT y.o = true then if y.t < 0 then -y.t else (beginN q y.t.toNat : Int) else y.t := by
    split
    · rename_i h
      split
      · rfl
      · rw [bgL_get q (by have := (h1 h).2 (by omega); omega)]
    · rfl
  have e2 : (if shF y.o = true then if y.f < 0 then -y.f else (bgL q q.length).getD y.f.toNat 0 else y.f) = if shF y.o = true then if y.f < 0 then -y.f else (beginN q y.f.toNat : Int) else y.f := by
    split
    · rename_i h
      split
      · rfl
      · rw [bgL_get q (by have := (h2 h).2 (by omega); omega)]
    · rfl
  rw [e1, e2]
section
variable {w : World} {B : Nat} {l : List R7} {bg : List Int} {vl vb : Value} {W W' : World}
/-- A beginning is put behind. -/
theorem MB.addB (h : MB w B l bg vl vb W) {o : Obj} {x : Int} {vb' : Value} (hown : W'.ownsRow (B + 1) 3 1 vb' (bg.length + 1) (numV .i64 bg ++ [.int .i64 x])) (hg : (W.alloc o).grownBy W' vb.ownBlock) (hl : vb'.ownBlock = vb.ownBlock ∨ ∀ b, vb'.ownBlock = some b → W.heap.size ≤ b) : MB w B l (bg ++ [x]) vl vb' (W'.setCell ⟨B, 1, none⟩ vb') := by
  have hB := h.lt
  have hne : some B ≠ vb.ownBlock := fun e => by have := own_ge h.ob B e.symm; omega
  have hne' : vb'.ownBlock ≠ some B := fun e => by have := own_ge hown B e; omega
  have hnl : vl.ownBlock ≠ some B := fun e => by have := own_ge h.ol B e; omega
  refine ⟨?_, ?_, ?_, ?_, ?_, h.ge⟩
  · rw [heap_setM ((hg.block B (by simp; omega) hne).trans ((Below.heap_alloc W o B hB).trans h.box))]; rfl
  · refine own_setM ((own_keepM h.ol (below1 W o)).kept hg ?_) B 1 vb' hnl
    cases e2 : vl.ownBlock with
    | none => exact .inl rfl
    | some b => exact .inr (fun e => h.ne b e2 e.symm)
  · have e : numV .i64 (bg ++ [x]) = numV .i64 bg ++ [.int .i64 x] := by simp [numV]
    rw [List.length_append, e]
    exact own_setM hown B 1 vb' hne'
  · intro b hb e2
    rcases hl with e | e
    · exact h.ne b hb (by rw [← e]; exact e2)
    · have := own_ltM h.ol b hb
      have := e b e2
      omega
  · exact (below_gr (h.below.alloc h.below.size o) hg (by have := h.below.size; simp; omega) (fun k hk => by have := own_ge h.ob k hk; have := h.ge; omega)).setCell (p := ⟨B, 1, none⟩) h.ge _
end
/-- The same, as a step of a region that draws. -/
theorem begin_drawn {w : World} {B : Nat} {l : List R7} {bg : List Int} {vl vb : Value} {W : World} {ops : Array Oper} {o : Oper} {a : Act} {K : Act → World → Prop} {Q : Exit → Act → World → Prop} {E : Prop} (hm : MB w B l bg vl vb W) (i1 : TypeInfo) (HI1 : Try.prog.info? 3 = some i1 ∧ i1.zero = some (.int .i64 0) ∧ i1.size = 1 ∧ i1.bytes = 8)
    (hgd : o.guard = none) (s x : Operand) (ho : o.op = .call { callee := .builtin .append, args := #[s, x], argTypes := #[53, 53] }) (N : Int) (hs : a.eval s = vb) (Bk : Nat) (hB : W.heap.size = Bk) (hx : a.eval x = .slice (some ⟨Bk, 0, none⟩) 1 1) (hn : bg.length ≤ 100000)
    (h : ∀ g c W', MB w B l (bg ++ [N]) vl (.slice (some ⟨g, 0, none⟩) (bg.length + 1) c) (W'.setCell ⟨B, 1, none⟩ (.slice (some ⟨g, 0, none⟩) (bg.length + 1) c)) → (∀ b, b < W.heap.size → vb.ownBlock ≠ some b → W'.heap[b]? = W.heap[b]?) → K (a.put o.dst (.slice (some ⟨g, 0, none⟩) (bg.length + 1) c)) W') : if Region.wanted o (yielded ops a.tmps) = true then Oper.wp Try.prog o a ((W.alloc (.cells #[.int .i64 N] 3)).drew) K Q else E := by
  subst hB
  have hlt := hm.lt
  refine step_append_lies _ hgd s x 53 ho (B + 1) 3 i1 _ 1 8 Try.underlying53 HI1.1 HI1.2.1 HI1.2.2.1 HI1.2.2.2 rfl (by decide) vb bg.length (numV .i64 bg) hs (hm.ob.alloc _).drew ⟨W.heap.size, 0, none⟩ 1 1 [.int .i64 N] hx rfl (fun j u hu => ?_) (by simp [Value.oneCell']) (by decide) (by simp only [maxLen]; omega) (by omega) (by simp; omega) (W.heap.size + 1) (by simp) fun g' cap' w' hown hg hl _ => ?_
  · obtain ⟨b, off, e, -, hc⟩ := (reads_new W #[.int .i64 N] 3 1 1 [.int .i64 N] rfl rfl).2 (by decide)
    injection e with e; injection e with e1 e2
    subst e1 e2
    rw [add_plain]; exact hc j u hu
  · have hg2 : (W.alloc (.cells #[.int .i64 N] 3)).grownBy w' vb.ownBlock := ⟨hg.os, hg.tape, hg.output, hg.size, hg.block⟩
    refine h g' cap' w' (hm.addB hown hg2 ?_) (fun b hb hne => (hg2.block b (by simp; omega) (fun e => hne e.symm)).trans (Below.heap_alloc W _ b hb))
    rcases hl with e | e
    · exact .inl (by rw [e]; rfl)
    · exact .inr fun b hb => by have : g' = b := by simpa [Value.ownBlock] using hb
                                omega
theorem set2M {W : World} {B : Nat} {u0 u1 : Value} (h0 : W.cell? ⟨B, 0, none⟩ = some u0) (h1 : W.cell? ⟨B, 1, none⟩ = some u1) (x y : Value) :
    ((W.setCell ⟨B, 0, none⟩ x).setCell ⟨B, 1, none⟩ y).cell? ⟨B, 0, none⟩ = some x ∧ ((W.setCell ⟨B, 0, none⟩ x).setCell ⟨B, 1, none⟩ y).cell? ⟨B, 1, none⟩ = some y := by
  refine ⟨?_, ?_⟩
  · rw [World.cell?_setCell_other _ _ _ _ (by intro e; injection e with _ e; omega), World.cell?_setCell_same _ _ _ h0]
  · rw [World.cell?_setCell_same _ _ _ (show (W.setCell ⟨B, 0, none⟩ x).cell? ⟨B, 1, none⟩ = some u1 by rw [World.cell?_setCell_other _ _ _ _ (by intro e; injection e with _ e; omega)]; exact h1)]
theorem set2M_below {w W : World} {B : Nat} (hb : Below w.heap.size w W) (h : w.heap.size ≤ B) (x y : Value) : Below w.heap.size w ((W.setCell ⟨B, 0, none⟩ x).setCell ⟨B, 1, none⟩ y) :=
  (hb.setCell (p := ⟨B, 0, none⟩) h _).setCell (p := ⟨B, 1, none⟩) h _
def FromPost (w : World) (q : List I4) (e : Ending) (w' : World) : Prop := Below w.heap.size w w' ∧ (((checkP q).1 ≠ 0 ∧ e = .returned (.tuple #[.agg #[.int .i64 0, .slice none 0 0], .int .i64 1])) ∨
  ((checkP q).1 = 0 ∧ ∃ v, e = .returned (.tuple #[.agg #[.int .i64 19, v], .int .i64 0]) ∧ w'.ownsRow w.heap.size 37 7 v (fromP q).length (cellsR (fromP q))))
set_option maxHeartbeats 3200000 in
theorem From_c (A : Option Addr) (cap : Nat) (q : List I4) (hq : ∀ x ∈ q, x.ok) (hn : q.length ≤ 9223372036854775807) (w : World) (hr : Reads w w.heap.size 4 A q.length (cellsI q)) :
    Calls Try.prog 7 #[.slice A q.length cap] w (FromPost w q) := by
  have HR := Lib.hid hr
  have HQ := Lib.hid hq
  have HC := Lib.hid (fun (w1 : World) (h : Below w.heap.size w w1) => Check_c A cap q hq hn w1 (hr.up h))
  clear hr hq
  obtain ⟨pe, hpe⟩ : ∃ pe, pe = (checkP q).1 := ⟨_, rfl⟩
  obtain ⟨pp, hpp⟩ : ∃ pp, pp = (checkP q).2 := ⟨_, rfl⟩
  have HPE := Lib.hid hpe
  have HPP := Lib.hid hpp
  clear hpe hpp
  have hw0 : w.heap.size < (w.alloc (.cells #[.int .i64 0, .slice none 0 0] 27)).heap.size := by simp
  by_cases h0 : pe = 0
  · have hc0 : (checkP q).1 = 0 := by rw [← HPE.out]; exact h0
    obtain ⟨a1, a2, -, -⟩ := acc_facts hc0
    have HC0 := Lib.hid hc0
    have hq1 : (q.length : Int) ≤ 4096 := by omega
    subst h0
    clear hc0
    go_enter Try.func7, Try.ntmps7
    go_wp2_with fail
    refine (HC.out _ (below1 w _)).mono ?_
    rintro e w1 ⟨rfl, hb1⟩
    rw [← HPE.out, ← HPP.out]
    have HRH : Hid (w1.heap[w.heap.size]? = some (.cells #[.int .i64 0, .slice none 0 0] 27 (0, 0))) := Lib.hid ((hb1.block _ (by simp)).trans (heap_nw w _))
    have HB1 := Lib.hid (below_t (below1 w _) hb1)
    have HR1 := Lib.hid (HR.out.up HB1.out)
    obtain ⟨R, hR⟩ : ∃ R, R = w.heap.size := ⟨_, rfl⟩
    have HRL : Hid (w.heap.size ≤ R ∧ R < w1.heap.size) := Lib.hid (by have := hb1.size; simp at this; omega)
    rw [← hR] at HRH ⊢
    have HMB : Hid (MB w1 w1.heap.size (fromTo q 0) (bgL q 0) (.slice none 0 0) (.slice none 0 0) (w1.alloc (.cells #[.slice none 0 0, .slice none 0 0] 57))) := Lib.hid ⟨heap_nw w1 _, World.ownsRow_nil _ _ _ _, World.ownsRow_nil _ _ _ _, (fun b hb => by simp [Value.ownBlock] at hb), below1 w1 _, Nat.le_refl _⟩
    obtain ⟨i1, HI1⟩ : ∃ i1, Hid (Try.prog.info? 3 = some i1 ∧ i1.zero = some (.int .i64 0) ∧ i1.size = 1 ∧ i1.bytes = 8) := by
      obtain ⟨i1, hi, hz0, hz1, hz2⟩ := info_parts infoI64
      exact ⟨i1, Lib.hid ⟨hi, hz0, hz1, hz2⟩⟩
    clear hb1 hw0 HC hR
    go_wp2_with fail
    go_loopw [21] (fun k wr => ∃ (i : Nat) (vl vb : Value), i ≤ q.length ∧ k = .int .i64 i ∧ Hid (MB w1 w1.heap.size (fromTo q i) (bgL q i) vl vb wr)) (fun k _ => q.length - (intOf k).toNat)
    case atStart => exact ⟨0, _, _, by omega, rfl, HMB⟩
    case round =>
      obtain ⟨i, vl, vb, hi, rfl, HW⟩ := hrel
      clear HMB
      obtain ⟨Al, cl, rfl⟩ : ∃ Al cl, vl = .slice Al (fromTo q i).length cl := by
        rcases HW.out.ol.2 with ⟨h, h2⟩ | ⟨g', cap', cur, h, _⟩
        · exact ⟨none, 0, by rw [h, h2]⟩
        · exact ⟨_, _, h⟩
      have hlen := begin_le q i
      rcases Nat.lt_or_ge i q.length with hil | hil
      · have hil' : (i : Int) < q.length := by omega
        obtain ⟨x, hx⟩ : ∃ x, q[i]? = some x := ⟨_, List.getElem?_eq_getElem hil⟩
        have HX := Lib.hid hx
        obtain ⟨b, off, rfl, hb, i0, i1', i2, i3⟩ := (HR1.out.up HW.out.below).insn hx
        have HG := Lib.hid (good_at HC0.out hx)
        have HXO := Lib.hid (HQ.out x (List.mem_of_getElem? hx))
        have HMV := Lib.hid (HW.out.keep (below1 wr (.cells #[.int .u16 x.c, .int .u8 x.j, .int .u8 x.f, .int .u32 x.k] 47)))
        have HBX : Hid ((wr.alloc (.cells #[.int .u16 x.c, .int .u8 x.j, .int .u8 x.f, .int .u32 x.k] 47)).heap[wr.heap.size]? = some (.cells #[.int .u16 x.c, .int .u8 x.j, .int .u8 x.f, .int .u32 x.k] 47 (0, 0))) := Lib.hid (heap_nw wr _)
        have HXB : Hid (wr.heap.size ≠ w1.heap.size ∧ vb.ownBlock ≠ some wr.heap.size) := Lib.hid ⟨by have := HW.out.lt; omega, fun e => by have := own_ltM HW.out.ob _ e; omega⟩
        obtain ⟨V, hV⟩ : ∃ V, V = wr.alloc (.cells #[.int .u16 x.c, .int .u8 x.j, .int .u8 x.f, .int .u32 x.k] 47) := ⟨_, rfl⟩
        have HVV := Lib.hid hV
        have hsV : V.heap.size = wr.heap.size + 1 := by rw [hV]; simp
        have HSV := Lib.hid hsV
        obtain ⟨bg, hbg⟩ : ∃ bg, bg = bgL q i := ⟨_, rfl⟩
        have hbl : bg.length ≤ 4096 := by rw [hbg, bgL_len]; omega
        have HBG := Lib.hid hbg
        rw [← hbg, ← hV] at HMV
        rw [← hV] at HBX
        obtain ⟨N, hN⟩ : ∃ N, N = (fromTo q i).length := ⟨_, rfl⟩
        have HN := Lib.hid hN
        have hNb : N ≤ 16384 := by rw [hN]; show beginN q i ≤ _; omega
        rw [← hN] at HMV
        obtain ⟨c0, c1, -, -⟩ := HMV.out.c
        have d1 := (HMV.out.keep (below1 V (.cells #[.int .i64 N] 3))).c.2.1
        obtain ⟨Xb, hXb⟩ : ∃ Xb, Xb = wr.heap.size := ⟨_, rfl⟩
        have HXX := Lib.hid hXb
        clear hx hsV hbg hlen hN
        go_wp2_with fail
        rw [← HVV.out]
        rw [← HXX.out] at HBX HXB ⊢
        clear hXb hV
        go_region_law (refine begin_drawn HMV.out i1 HI1.out rfl (.tmp 31) (.tmp 38) rfl (N : Int) rfl V.heap.size rfl rfl (by omega) ?_; intro g4 c4 w4 h4 hfr4; have H4 := Lib.hid h4; have hbx : w4.heap[w1.heap.size]? = some (.cells #[.slice Al N cl, vb] 57 (0, 0)) := (hfr4 _ HMV.out.lt (fun e => by have := own_ge HMV.out.ob _ e; omega)).trans HMV.out.box; have k1 : w4.cell? ⟨w1.heap.size, 1, none⟩ = some vb := (by simp [World.cell?, hbx]); have f1 : w4.frozen? ⟨w1.heap.size, 1, none⟩ = false := (by simp [World.frozen?, hbx]); have hX4 : (w4.setCell ⟨w1.heap.size, 1, none⟩ (.slice (some ⟨g4, 0, none⟩) (bg.length + 1) c4)).heap[Xb]? = some (.cells #[.int .u16 x.c, .int .u8 x.j, .int .u8 x.f, .int .u32 x.k] 47 (0, 0)) := (Below.heap_setCell _ _ _ Xb HXB.out.1).trans ((hfr4 Xb (Array.getElem?_eq_some_iff.1 HBX.out).1 HXB.out.2).trans HBX.out); have y0 : (w4.setCell ⟨w1.heap.size, 1, none⟩ (.slice (some ⟨g4, 0, none⟩) (bg.length + 1) c4)).cell? ⟨Xb, 0, none⟩ = some (.int .u16 x.c) := (by simp [World.cell?, hX4]); have y1 : (w4.setCell ⟨w1.heap.size, 1, none⟩ (.slice (some ⟨g4, 0, none⟩) (bg.length + 1) c4)).cell? ⟨Xb, 1, none⟩ = some (.int .u8 x.j) := (by simp [World.cell?, hX4]); have y2 : (w4.setCell ⟨w1.heap.size, 1, none⟩ (.slice (some ⟨g4, 0, none⟩) (bg.length + 1) c4)).cell? ⟨Xb, 2, none⟩ = some (.int .u8 x.f) := (by simp [World.cell?, hX4]); have y3 : (w4.setCell ⟨w1.heap.size, 1, none⟩ (.slice (some ⟨g4, 0, none⟩) (bg.length + 1) c4)).cell? ⟨Xb, 3, none⟩ = some (.int .u32 x.k) := (by simp [World.cell?, hX4]); clear h4 hfr4 hbx hX4)
        all_goals (
          go_wp2_with fail
          refine (lays_c i x HG.out HXO.out (by omega) _ H4.out (by rw [← HN.out]; omega)).mono ?_
          rintro e w5 ⟨rfl, vl5, h5⟩
          have H5 : Hid (MB w1 w1.heap.size (fromTo q (i + 1)) (bgL q (i + 1)) vl5 (.slice (some ⟨g4, 0, none⟩) (bg.length + 1) c4) w5) := Lib.hid (by rw [fromTo_succ HX.out, bgL_succ, ← HBG.out]; rw [show beginN q i = N from HN.out.symm]; rw [← HN.out] at h5; exact h5)
          clear h5
          go_wp2
          go_roundw
          case rel => exact ⟨i + 1, _, _, by omega, by go_num, H5⟩
          case measure => simp [intOf]; omega)
      · obtain rfl : i = q.length := by omega
        have hpos : 0 < (fromTo q q.length).length := begin_lt (q := q) (i := 0) (j := q.length) a1 a1
        have HLE : Hid ((fromTo q q.length).length ≤ 100000) := Lib.hid (by show beginN q q.length ≤ _; omega)
        have HPOS := Lib.hid hpos
        have HT := Lib.hid (fun y hy => lay_targets HC0.out HQ.out (y := y) hy)
        clear hlen hpos
        go_wp2_with fail
        refine (settle_c wr HW.out HLE.out HPOS.out (fun y hy h => ⟨by have := ((HT.out y hy).1 h).1; omega, by rw [bgL_len]; exact ((HT.out y hy).1 h).2⟩) (fun y hy h => ⟨by have := ((HT.out y hy).2 h).1; omega, by rw [bgL_len]; exact ((HT.out y hy).2 h).2⟩)).mono ?_
        rintro e w6 ⟨rfl, vl6, h6⟩
        rw [settle_eq HC0.out HQ.out] at h6
        have hfl : 0 < (fromP q).length := by rw [from_len]; exact HPOS.out
        obtain ⟨g6, c6, hv6, -, -⟩ := h6.ol.form hfl
        subst hv6
        have HRH6 := Lib.hid ((h6.below.block R HRL.out.2).trans HRH.out)
        have H6 := Lib.hid h6
        obtain ⟨c0, -, -, -⟩ := h6.c
        have r0 : w6.cell? ⟨R, 0, none⟩ = some (.int .i64 0) := by simp [World.cell?, HRH6.out]
        have r1 : w6.cell? ⟨R, 1, none⟩ = some (.slice none 0 0) := by simp [World.cell?, HRH6.out]
        have f0 : w6.frozen? ⟨R, 0, none⟩ = false := by simp [World.frozen?, HRH6.out]
        have f1 : w6.frozen? ⟨R, 1, none⟩ = false := by simp [World.frozen?, HRH6.out]
        obtain ⟨s0, s1⟩ := set2M r0 r1 (.int .i64 19) (.slice (some ⟨g6, 0, none⟩) (fromP q).length c6)
        have HPOST : Hid (FromPost w q (.returned (.tuple #[.agg #[.int .i64 19, .slice (some ⟨g6, 0, none⟩) (fromP q).length c6], .int .i64 0])) ((w6.setCell ⟨R, 0, none⟩ (.int .i64 19)).setCell ⟨R, 1, none⟩ (.slice (some ⟨g6, 0, none⟩) (fromP q).length c6))) := Lib.hid (by
          have hge := own_ge h6.ol g6 rfl
          have h1 := HRL.out
          have hsz := HB1.out.size
          refine ⟨set2M_below (below_t HB1.out H6.out.below) HRL.out.1 _ _, .inr ⟨HC0.out, _, rfl, ?_⟩⟩
          have ho := own_setM (own_setM H6.out.ol R 0 (.int .i64 19) (fun e => by have h9 : g6 = R := (by simpa [Value.ownBlock] using e); omega)) R 1 (.slice (some ⟨g6, 0, none⟩) (fromP q).length c6) (fun e => by have h9 : g6 = R := (by simpa [Value.ownBlock] using e); omega)
          refine ⟨ho.1, ?_⟩
          rcases ho.2 with h2 | ⟨g', cap', cur, hv, hg', r⟩
          · exact .inl h2
          · exact .inr ⟨g', cap', cur, hv, by omega, r⟩)
        clear h6 hfl HRH6 H6
        go_wp2
        refine bodyPost_ret (v := .tuple #[.agg #[.int .i64 19, .slice (some ⟨g6, 0, none⟩) (fromP q).length c6], .int .i64 0]) (by simp [results, Try.results7, go_sem, s0, s1]) rfl HPOST.out
  · have hne : (pe != 0) = true := by simpa using h0
    have HNE := Lib.hid (show (checkP q).1 ≠ 0 by rw [← HPE.out]; exact h0)
    clear h0
    go_enter Try.func7, Try.ntmps7
    go_wp2_with fail
    refine (HC.out _ (below1 w _)).mono ?_
    rintro e w1 ⟨rfl, hb1⟩
    rw [← HPE.out, ← HPP.out]
    have r0 := keepC hb1 (show (w.alloc (.cells #[.int .i64 0, .slice none 0 0] 27)).cell? ⟨w.heap.size, 0, none⟩ = some (.int .i64 0) by simp [go_sem])
    have r1 := keepC hb1 (show (w.alloc (.cells #[.int .i64 0, .slice none 0 0] 27)).cell? ⟨w.heap.size, 1, none⟩ = some (.slice none 0 0) by simp [go_sem])
    have hrh : w1.heap[w.heap.size]? = some (.cells #[.int .i64 0, .slice none 0 0] 27 (0, 0)) := (hb1.block _ (by simp)).trans (heap_nw w _)
    have f0 : w1.frozen? ⟨w.heap.size, 0, none⟩ = false := by simp [World.frozen?, hrh]
    have f1 : w1.frozen? ⟨w.heap.size, 1, none⟩ = false := by simp [World.frozen?, hrh]
    obtain ⟨s0, s1⟩ := set2M r0 r1 (.int .i64 0) (.slice none 0 0)
    have HB := Lib.hid (set2M_below (below_t (below1 w _) hb1) (Nat.le_refl _) (.int .i64 0) (.slice none 0 0))
    clear hb1 hrh
    go_wp2
    refine bodyPost_ret (v := .tuple #[.agg #[.int .i64 0, .slice none 0 0], .int .i64 1]) (by simp [results, Try.results7, go_sem, s0, s1]) rfl ⟨HB.out, .inl ⟨HNE.out, rfl⟩⟩
end Go.Proofs.Ytehpoamideeehaa
