import Derived.Test.YtfpemoellglknaaLowW4
import Derived.Maps.AppendAt
import Derived.Deep.AppendLies
import Derived.Deep.DeepCutAuto
import Derived.Deep.CutBlock
set_option linter.unusedVariables false
set_option linter.unusedSimpArgs false
namespace Go.Proofs.Ytfpemoellglknaa
open Go.RowKit
/-! ravelinref09.Size: the walk. -/
def SizePost (w : World) (q : List N8) (e : Ending) (w' : World) : Prop := Below w.heap.size w w' ∧ (((checkD q).1 ≠ 0 ∧ e = .returned (.tuple #[.int .i64 0, .int .i64 (checkD q).1])) ∨ ((checkD q).1 = 0 ∧ ∃ k, Fixed q k ∧ e = .returned (.tuple #[.int .i64 (placeN q (farTo q k) q.length), .int .i64 0])))
theorem PlAt.cellAt {W : World} {g B : Nat} {q : List N8} {far : List (Bool × Bool)} (h : PlAt W g B q far) : W.cell? ⟨g, q.length, none⟩ = some (.int .i64 (placeN q far q.length)) := h.2 _ (Nat.le_refl _)
set_option maxRecDepth 100000 in
set_option maxHeartbeats 1600000 in
theorem rSize_c (A : Option Addr) (cap : Nat) (q : List N8) (hq : ∀ x ∈ q, x.ok) (hn : q.length ≤ 9223372036854775807) (w : World) (hr : Reads w w.heap.size 8 A q.length (cellsN q)) :
    Calls Try.prog 8 #[.slice A q.length cap] w (SizePost w q) := by
  have HR := Lib.hid hr
  have HC := Lib.hid (rDCheck_c A cap q hq hn w hr)
  clear hr hq
  obtain ⟨pe, hpe⟩ : ∃ pe, pe = (checkD q).1 := ⟨_, rfl⟩
  obtain ⟨pp, hpp⟩ : ∃ pp, pp = (checkD q).2 := ⟨_, rfl⟩
  have HPE := Lib.hid hpe
  have HPP := Lib.hid hpp
  clear hpe hpp
  by_cases h0 : pe = 0
  · have hc0 : (checkD q).1 = 0 := by rw [← HPE.out]; exact h0
    obtain ⟨a1, a2, -⟩ := checkD_zero hc0
    have HC0 := Lib.hid hc0
    have hq1 : (q.length : Int) ≤ 4096 := by omega
    subst h0
    clear hc0
    go_enter Try.func8, Try.ntmps8
    go_wp2_with fail
    refine HC.out.mono ?_
    rintro e w1 ⟨rfl, hb1⟩
    rw [← HPE.out, ← HPP.out]
    go_wp2_with fail
    refine (Long_c A cap q HC0.out w1 (HR.out.up hb1)).mono ?_
    rintro e w2 ⟨k, hfix, rfl, hrow, hb2⟩
    have HF := Lib.hid hfix
    have HROW := Lib.hid hrow
    have HB2 := Lib.hid (below_t hb1 hb2)
    obtain ⟨far, hfar⟩ : ∃ far, far = farTo q k := ⟨_, rfl⟩
    have HFAR := Lib.hid hfar
    have hlen : far.length = q.length := by rw [hfar]; exact farTo_len q k
    obtain ⟨g1, hg1⟩ : ∃ g1, g1 = w1.heap.size := ⟨_, rfl⟩
    rw [← hg1] at HROW ⊢
    clear hfix hrow hb2 hb1 hfar hg1
    go_wp2_with fail
    refine (places_c A cap q a2 (some ⟨g1, 0, none⟩) q.length far hlen w2 (HR.out.up HB2.out) (Reads.of_own (by rw [HFAR.out]; exact HROW.out.2))).mono ?_
    rintro e w3 hP
    obtain ⟨g, c, rfl, HPL, hb3⟩ := hP.at_ (B := g1) (HROW.out.lt a1)
    have cc := HPL.out.cellAt
    have HB3 := Lib.hid (below_t HB2.out hb3)
    have hq2 : (q.length : Int) < (q.length : Int) + 1 := by omega
    clear hP hb3
    go_wp2
    go_ret2
    exact ⟨HB3.out, .inr ⟨HC0.out, k, HF.out, by rw [← HFAR.out]; rfl⟩⟩
  · have hne : (pe != 0) = true := by simpa using h0
    have HNE := Lib.hid (show (checkD q).1 ≠ 0 by rw [← HPE.out]; exact h0)
    clear h0
    go_enter Try.func8, Try.ntmps8
    go_wp2_with fail
    refine HC.out.mono ?_
    rintro e w1 ⟨rfl, hb1⟩
    rw [← HPE.out, ← HPP.out]
    go_wp2
    go_ret2
    exact ⟨hb1, .inl ⟨HNE.out, by rw [← HPE.out]; rfl⟩⟩
/-! ravelinref09.Emit: the walk. -/
theorem emit_eq {q : List N8} {far : List (Bool × Bool)} {n : Nat} {x : N8} {va vb : Bool} {T F pT pF : Nat} {xs xs1 : List I4} (hes : emitTo q far (n + 1) = emitTo q far n ++ emitN q far n x) (hxs : xs = emitTo q far n) (hx1 : xs1 = xs ++ ([⟨32, 0, 0, x.off⟩] ++ (if (x.msk != ones32) = true then [⟨84, 0, 0, x.msk⟩] else []))) (hlf : x.lf = false) (hfv : (va, vb) = farAt far n) (hT : x.t = T) (hF : x.f = F) (hpT : pT = placeN q far T) (hpF : pF = placeN q far F) (hJ : xs1.length = jumpN x (placeN q far n)) :
    emitTo q far (n + 1) = xs1 ++ [⟨codeN x.op, if va = true then 0 else (pT : Int) - xs1.length - 1, if vb = true then b2n va else (pF : Int) - xs1.length - 1, x.k⟩] ++ (if va = true then [⟨5, 0, 0, (pT : Int) - (xs1.length + 1) - 1⟩] else []) ++ (if vb = true then [⟨5, 0, 0, (pF : Int) - (xs1.length + 1 + b2n va) - 1⟩] else []) := by
  have e1 : wayN q far n x x.t = (pT : Int) - xs1.length - 1 := by unfold wayN; rw [hT, Int.toNat_natCast, ← hpT, ← hJ]
  have e2 : wayN q far n x x.f = (pF : Int) - xs1.length - 1 := by unfold wayN; rw [hF, Int.toNat_natCast, ← hpF, ← hJ]
  have e3 : (pT : Int) - (xs1.length + 1) - 1 = (pT : Int) - xs1.length - 1 - 1 := by omega
  have e4 : (pF : Int) - (xs1.length + 1 + b2n va) - 1 = (pF : Int) - xs1.length - 1 - b2n va - 1 := by omega
  rw [hes, ← hxs, e3, e4]
  unfold emitN
  rw [if_neg (by rw [hlf]; decide), ← hfv, e1, e2]
  rw [hx1]
  simp only [List.append_assoc]
def SameB (bs : List Nat) (W W' : World) : Prop := ∀ b ∈ bs, W'.heap[b]? = W.heap[b]?
theorem SameB.cell {bs : List Nat} {W W' : World} (h : SameB bs W W') {b o : Nat} (hb : b ∈ bs) : W'.cell? ⟨b, o, none⟩ = W.cell? ⟨b, o, none⟩ := World.cell?_of_block (a := ⟨b, o, none⟩) (h b hb)
/-- The program so far, and what is not touched. -/
structure OutAt (w : World) (H : Nat) (bs : List Nat) (W0 : World) (xs : List I4) (v : Value) (W : World) : Prop where
  own : W.ownsRow H 54 4 v xs.length (cellsI xs)
  below : Below w.heap.size w W
  same : SameB bs W0 W
  sz : H ≤ W.heap.size
  hH : w.heap.size ≤ H
  big : ∀ b ∈ bs, b < W.heap.size
  ne : ∀ b ∈ bs, some b ≠ v.ownBlock
theorem OutAt.app {w : World} {H : Nat} {bs : List Nat} {W0 : World} {xs : List I4} {v v' : Value} {W W' : World} {o : Obj} {x : I4} (h : OutAt w H bs W0 xs v W) (hg : (W.alloc o).grownBy W' v.ownBlock) (hown : W'.ownsRow H 54 4 v' (xs.length + 1) (cellsI xs ++ x.cells)) (hl : v'.ownBlock = v.ownBlock ∨ ∀ b, v'.ownBlock = some b → W.heap.size ≤ b) :
    OutAt w H bs W0 (xs ++ [x]) v' W' := by
  have hs := hg.size
  have h1 := h.sz
  have h2 := h.hH
  simp at hs
  refine ⟨by rw [cellsI_snoc] at hown; rw [List.length_append]; exact hown, below_gr (h.below.alloc h.below.size o) hg (by have := h.below.size; simp; omega) (fun k hk => by have := own_ge h.own k hk; omega), fun b hb => ?_, by omega, h2, fun b hb => by have := h.big b hb; omega, fun b hb e => ?_⟩
  · exact ((hg.block b (by have := h.big b hb; simp; omega) (h.ne b hb)).trans (Below.heap_alloc W o b (h.big b hb))).trans (h.same b hb)
  · rcases hl with e2 | e2
    · exact h.ne b hb (e.trans e2)
    · have := e2 b e.symm
      have := h.big b hb
      omega
theorem OutAt.keep {w : World} {H : Nat} {bs : List Nat} {W0 : World} {xs : List I4} {v : Value} {W W' : World} (h : OutAt w H bs W0 xs v W) (hb : Below W.heap.size W W') : OutAt w H bs W0 xs v W' :=
  ⟨by
    refine h.own.kept (row := none) ⟨hb.os, hb.tape, hb.output, hb.size, fun k hk _ => hb.block k hk⟩ ?_
    cases v.ownBlock with
    | none => exact .inl rfl
    | some k => exact .inr (by simp), below_t h.below hb, fun b hb' => (hb.block b (h.big b hb')).trans (h.same b hb'), Nat.le_trans h.sz hb.size, h.hH, fun b hb' => Nat.lt_of_lt_of_le (h.big b hb') hb.size, h.ne⟩
theorem own_le {W : World} {base e size n : Nat} {v : Value} {xs : List Value} (h : W.ownsRow base e size v n xs) (k : Nat) (hk : v.ownBlock = some k) : k < W.heap.size := by
  rcases h.2 with ⟨rfl, _⟩ | ⟨g, cap, cur, rfl, hb, hg, _⟩
  · simp [Value.ownBlock] at hk
  · have : g = k := by simpa [Value.ownBlock] using hk
    subst this
    exact (Array.getElem?_eq_some_iff.1 hg).1
/-- One more block is not touched. -/
theorem OutAt.more {w : World} {H : Nat} {bs : List Nat} {W0 : World} {xs : List I4} {v : Value} {W : World} (h : OutAt w H bs W0 xs v W) (o : Obj) : OutAt w H (W.heap.size :: bs) (W.alloc o) xs v (W.alloc o) :=
  ⟨(h.keep (below1 W o)).own, (h.keep (below1 W o)).below, fun b _ => rfl, (h.keep (below1 W o)).sz, h.hH, fun b hb => by
    rcases List.mem_cons.1 hb with e | e
    · subst e; simp
    · have := h.big b e; simp; omega, fun b hb e => by
    rcases List.mem_cons.1 hb with e2 | e2
    · subst e2; have := own_le h.own _ e.symm; omega
    · exact h.ne b e2 e⟩
theorem OutAt.less {w : World} {H : Nat} {bs : List Nat} {W0 W1 : World} {xs ys : List I4} {v v1 : Value} {W : World} {P : Nat} {o : Obj} (h : OutAt w H (P :: bs) (W1.alloc o) xs v W) (h1 : OutAt w H bs W0 ys v1 W1) : OutAt w H bs W0 xs v W :=
  ⟨h.own, h.below, fun b hb => ((h.same b (by simp [hb])).trans (Below.heap_alloc W1 o b (h1.big b hb))).trans (h1.same b hb), h.sz, h.hH, fun b hb => h.big b (by simp [hb]), fun b hb => h.ne b (by simp [hb])⟩
/-- An instruction is put behind. -/
theorem put_step {w : World} {H : Nat} {bs : List Nat} {W0 : World} {xs : List I4} {v : Value} {W : World} {ops : Array Oper} {rest : List Oper} {o : Oper} {a : Act} {Q : Exit → Act → World → Prop} (hOA : OutAt w H bs W0 xs v W) (i1 : TypeInfo) (HI1 : Try.prog.info? 54 = some i1 ∧ i1.zero = some (.agg #[.int .u16 0, .int .u8 0, .int .u8 0, .int .u32 0]) ∧ i1.size = 4 ∧ i1.bytes = 8)
    (hgd : o.guard = none) (s x : Operand) (ho : o.op = .call { callee := .builtin .append, args := #[s, x], argTypes := #[29, 29] }) (i : I4) (hs : a.eval s = v) (B : Nat) (hB : W.heap.size = B) (hx : a.eval x = .slice (some ⟨B, 0, none⟩) 1 1) (L : Nat) (hL : xs.length = L) (hn : L ≤ 100000)
    (h : ∀ g c W', OutAt w H bs W0 (xs ++ [i]) (.slice (some ⟨g, 0, none⟩) (L + 1) c) W' → wpList Try.prog ops Q rest (a.put o.dst (.slice (some ⟨g, 0, none⟩) (L + 1) c)) W') : wpList Try.prog ops Q (o :: rest) a (W.alloc (.cells i.cells.toArray 54)) := by
  subst hB hL
  have h1 := hOA.sz
  refine wpList_append_own_at _ hgd s x 29 ho H 54 i1 _ 4 8 Try.underlying29 HI1.1 HI1.2.1 HI1.2.2.1 HI1.2.2.2 rfl (by decide) v xs.length (cellsI xs) hs (hOA.own.alloc _) ⟨W.heap.size, 0, none⟩ 1 1 i.cells hx rfl (fun j u hu => ?_) (I4_one _) (by simp only [maxLen]; omega) (by omega) (by simp; omega) fun v' w' hown hg _ hl => ?_
  · obtain ⟨b, off, e, -, hc⟩ := (reads_new W i.cells.toArray 54 4 1 i.cells rfl rfl).2 (by decide)
    injection e with e; injection e with e1 e2
    subst e1 e2
    rw [add_plain]; exact hc j u hu
  · obtain ⟨g', cap', hv, -, -⟩ := hown.form (by omega)
    subst hv
    refine h g' cap' w' (hOA.app hg hown ?_)
    rcases hl with e | e
    · exact .inl e
    · exact .inr fun b hb => by rw [e] at hb; injection hb with hb; simp at hb; omega
/-- The same, as a step of a region that draws. -/
theorem put_drawn {w : World} {H : Nat} {bs : List Nat} {W0 : World} {xs : List I4} {v : Value} {W : World} {ops : Array Oper} {o : Oper} {a : Act} {K : Act → World → Prop} {Q : Exit → Act → World → Prop} {E : Prop} (hOA : OutAt w H bs W0 xs v W) (i1 : TypeInfo) (HI1 : Try.prog.info? 54 = some i1 ∧ i1.zero = some (.agg #[.int .u16 0, .int .u8 0, .int .u8 0, .int .u32 0]) ∧ i1.size = 4 ∧ i1.bytes = 8)
    (hgd : o.guard = none) (s x : Operand) (ho : o.op = .call { callee := .builtin .append, args := #[s, x], argTypes := #[29, 29] }) (i : I4) (hs : a.eval s = v) (B : Nat) (hB : W.heap.size = B) (hx : a.eval x = .slice (some ⟨B, 0, none⟩) 1 1) (hn : xs.length ≤ 100000)
    (h : ∀ g c W', OutAt w H bs W0 (xs ++ [i]) (.slice (some ⟨g, 0, none⟩) (xs.length + 1) c) W' → K (a.put o.dst (.slice (some ⟨g, 0, none⟩) (xs.length + 1) c)) W') : if Region.wanted o (yielded ops a.tmps) = true then Oper.wp Try.prog o a ((W.alloc (.cells i.cells.toArray 54)).drew) K Q else E := by
  subst hB
  have h1 := hOA.sz
  have hOD : OutAt w H bs W0 xs v W.drew := hOA.keep (below_dr (Below.refl _ _))
  refine step_append_lies _ hgd s x 29 ho H 54 i1 _ 4 8 Try.underlying29 HI1.1 HI1.2.1 HI1.2.2.1 HI1.2.2.2 rfl (by decide) v xs.length (cellsI xs) hs (hOA.own.alloc _).drew ⟨W.heap.size, 0, none⟩ 1 1 i.cells hx rfl (fun j u hu => ?_) (I4_one _) (by decide) (by simp only [maxLen]; omega) (by omega) (by simp; omega) (W.heap.size + 1) (by simp) fun g' cap' w' hown hg hl _ => ?_
  · obtain ⟨b, off, e, -, hc⟩ := (reads_new W i.cells.toArray 54 4 1 i.cells rfl rfl).2 (by decide)
    injection e with e; injection e with e1 e2
    subst e1 e2
    rw [add_plain]; exact hc j u hu
  · refine h g' cap' w' (hOA.app (o := .cells i.cells.toArray 54) ⟨hg.os, hg.tape, hg.output, hg.size, hg.block⟩ hown ?_)
    rcases hl with e | e
    · exact .inl (by rw [e]; rfl)
    · exact .inr fun b hb => by have : g' = b := by simpa [Value.ownBlock] using hb
                                omega
def OutS (w : World) (H : Nat) (bs : List Nat) (W0 : World) (xs : List I4) (s : Value) (W : World) : Prop := ∃ g c, s = .slice (some ⟨g, 0, none⟩) xs.length c ∧ Hid (OutAt w H bs W0 xs s W)
def EmitPost (w : World) (q : List N8) (e : Ending) (w' : World) : Prop := Below w.heap.size w w' ∧ (((checkD q).1 ≠ 0 ∧ e = .returned (.tuple #[.slice none 0 0, .int .i64 (checkD q).1])) ∨ ((checkD q).1 = 0 ∧ ∃ k, Fixed q k ∧ ((4096 < placeN q (farTo q k) q.length ∧ e = .returned (.tuple #[.slice none 0 0, .int .i64 91])) ∨
  (placeN q (farTo q k) q.length ≤ 4096 ∧ ∃ v, e = .returned (.tuple #[v, .int .i64 0]) ∧ w'.ownsRow w.heap.size 54 4 v (emitTo q (farTo q k) q.length).length (cellsI (emitTo q (farTo q k) q.length))))))
set_option maxRecDepth 100000 in
set_option maxHeartbeats 6400000 in
theorem rEmit_c (A : Option Addr) (cap : Nat) (q : List N8) (hq : ∀ x ∈ q, x.ok) (hn : q.length ≤ 9223372036854775807) (w : World) (hr : Reads w w.heap.size 8 A q.length (cellsN q)) :
    Calls Try.prog 10 #[.slice A q.length cap] w (EmitPost w q) := by
  have HR := Lib.hid hr
  have HC := Lib.hid (rSize_c A cap q hq hn w hr)
  have HQ := Lib.hid hq
  clear hr hq
  by_cases h0 : (checkD q).1 = 0
  · obtain ⟨a1, a2, a3⟩ := checkD_zero h0
    have HC0 := Lib.hid h0
    have HOK := Lib.hid a3
    have hq1 : (q.length : Int) ≤ 4096 := by omega
    obtain ⟨i1, HI1⟩ : ∃ i1, Hid (Try.prog.info? 54 = some i1 ∧ i1.zero = some (.agg #[.int .u16 0, .int .u8 0, .int .u8 0, .int .u32 0]) ∧ i1.size = 4 ∧ i1.bytes = 8) := by
      obtain ⟨i1, hi, hz0, hz1, hz2⟩ := info_parts infoI
      exact ⟨i1, Lib.hid ⟨hi, hz0, hz1, hz2⟩⟩
    clear a3
    go_enter Try.func10, Try.ntmps10
    go_wp2_with fail
    refine HC.out.mono ?_
    rintro e w1 ⟨hb1, ⟨h, -⟩ | ⟨-, k, hfix, rfl⟩⟩
    · exact absurd h0 h
    clear h0
    obtain ⟨far, hfar⟩ : ∃ far, far = farTo q k := ⟨_, rfl⟩
    obtain ⟨n0, hn0⟩ : ∃ n0, n0 = placeN q far q.length := ⟨_, rfl⟩
    rw [← hfar, ← hn0]
    have HFIX := Lib.hid hfix
    have HFAR := Lib.hid hfar
    have HN0 := Lib.hid hn0
    have hlen : far.length = q.length := by rw [hfar]; exact farTo_len q k
    have HFX : Hid (farNext q far = far) := Lib.hid (by rw [hfar]; exact hfix)
    have HB1 := Lib.hid hb1
    have hn0b : (n0 : Int) ≤ 20480 := by have := placeN_le q far q.length; omega
    clear hfix hfar hn0 hb1
    by_cases hbig : 4096 < n0
    · have hbig' : (4096 : Int) < n0 := by omega
      have HE := Lib.hid hbig
      clear hbig
      go_wp2
      refine bodyPost_ret (v := .tuple #[.slice none 0 0, .int .i64 91]) (by simp [results, Try.results10, go_sem]) rfl ?_
      exact ⟨HB1.out, .inr ⟨HC0.out, k, HFIX.out, .inl ⟨by rw [← HFAR.out, ← HN0.out]; exact HE.out, rfl⟩⟩⟩
    · have hsm : (n0 : Int) ≤ 4096 := by omega
      have hsm2 : n0 ≤ 4096 := by omega
      clear hbig
      go_wp2_with fail
      refine (Long_c A cap q HC0.out w1 (HR.out.up HB1.out)).mono ?_
      rintro e w2 ⟨k2, hfix2, rfl, hrow, hb2⟩
      rw [← fixed_one HFIX.out hfix2, ← HFAR.out] at hrow
      have HROW := Lib.hid hrow
      have HB2 := Lib.hid (below_t HB1.out hb2)
      obtain ⟨g1, hg1⟩ : ∃ g1, g1 = w1.heap.size := ⟨_, rfl⟩
      rw [← hg1] at HROW ⊢
      have hwg : w.heap.size ≤ g1 := by rw [hg1]; exact HB1.out.size
      clear hfix2 hrow hb2 hg1
      go_wp2_with fail
      refine (places_c A cap q a2 (some ⟨g1, 0, none⟩) q.length far hlen w2 (HR.out.up HB2.out) (Reads.of_own HROW.out.2)).mono ?_
      rintro e w3 hP
      obtain ⟨g, c, rfl, HPL, hb3⟩ := hP.at_ (B := g1) (HROW.out.lt a1)
      have HROW3 := Lib.hid (HROW.out.keep hb3)
      have HB3 := Lib.hid (below_t HB2.out hb3)
      obtain ⟨H, hH⟩ : ∃ H, H = w3.heap.size := ⟨_, rfl⟩
      have hg1H : g1 < H := by rw [hH]; exact HROW3.out.lt a1
      have hgH : g < H := by rw [hH]; exact World.block_lt_of_cell? w3 _ (HPL.out.2 0 (by omega))
      have HS : Hid (OutAt w H [g1, g] w3 (emitTo q far 0) (.slice none 0 0) w3) := Lib.hid ⟨World.ownsRow_nil _ _ _ _, HB3.out, fun b _ => rfl, by rw [hH]; exact Nat.le_refl _, by rw [hH]; exact HB3.out.size, by intro b hb; rw [← hH]; simp at hb; omega, by intro b _; simp [Value.ownBlock]⟩
      clear hP hb3 hH HROW
      go_wp2_with fail
      go_loopw [8, 9] (fun v i wr => ∃ n : Nat, n ≤ q.length ∧ i = .int .i64 n ∧ Hid (OutAt w H [g1, g] w3 (emitTo q far n) v wr)) (fun _ i _ => q.length - (intOf i).toNat)
      case atStart => exact ⟨0, by omega, rfl, HS⟩
      case round =>
        obtain ⟨n, hnq, rfl, HW⟩ := hrel
        clear HS
        obtain ⟨Al, cl, rfl⟩ : ∃ Al cl, u8 = .slice Al (emitTo q far n).length cl := by
          rcases HW.out.own.2 with ⟨h, h2⟩ | ⟨g', cap', cur, h, _⟩
          · exact ⟨none, 0, by rw [h, h2]⟩
          · exact ⟨_, _, h⟩
        rcases Nat.lt_or_ge n q.length with hnl | hnl
        · have hnl' : (n : Int) < q.length := by omega
          obtain ⟨x, hx⟩ : ∃ x, q[n]? = some x := ⟨_, List.getElem?_eq_getElem hnl⟩
          obtain ⟨bb, off, rfl, hb, hna⟩ := HR.out.node hx
          obtain ⟨d0, d1, d2, d3, d4, d5, d6, d7⟩ := hna.keep HW.out.below
          have hEL : (emitTo q far n).length = placeN q far n := emitTo_len q far n
          have hpn : placeN q far n + sizeN x (farAt far n) ≤ n0 := by rw [HN0.out, ← placeN_succ hx]; exact placeN_mono (by omega)
          have hES : emitTo q far (n + 1) = emitTo q far n ++ emitN q far n x := by rw [emitTo, hx]
          have HX := Lib.hid hx
          have HES := Lib.hid hES
          have HEL := Lib.hid hEL
          clear hna hES
          have hlsz : (emitTo q far n).length ≤ 4096 := by omega
          obtain ⟨xs, hxs⟩ : ∃ xs, xs = emitTo q far n := ⟨_, rfl⟩
          have HXS := Lib.hid hxs
          rw [← hxs] at HW hlsz ⊢
          have hszr := HW.out.sz
          clear hxs hEL
          cases hlf : x.lf with
          | true =>
            rw [hlf] at d0
            have HEN : Hid (emitN q far n x = [⟨6, 0, 0, x.wd⟩]) := Lib.hid (by unfold emitN; rw [if_pos hlf])
            clear hlf hx
            have hP := HW.out.more (.cells #[.bool true, .int .u32 x.wd, .int .i64 x.off, .int .u32 x.msk, .int .i64 x.op, .int .u32 x.k, .int .i64 x.t, .int .i64 x.f] 52)
            have HP := Lib.hid hP
            clear hP
            go_wp2_with (at_builtin; refine put_step HP.out i1 HI1.out rfl (.tmp 42) (.tmp 46) rfl ⟨6, 0, 0, x.wd⟩ rfl (wr.heap.size + 1) (by simp) rfl xs.length rfl (by omega) ?_; intro g4 c4 w4 h4; have H4 := Lib.hid h4; clear h4)
            go_roundw
            case rel => exact ⟨n + 1, by omega, by go_num, Lib.hid (by rw [HES.out, HEN.out, ← HXS.out]; exact H4.out.less HW.out)⟩
            case measure => simp [intOf]; omega
          | false =>
            have hno := HOK.out n x hx hlf
            rw [hlf] at d0
            obtain ⟨T, hT⟩ : ∃ T : Nat, x.t = T := ⟨x.t.toNat, by have := hno.t; omega⟩
            obtain ⟨F, hF⟩ : ∃ F : Nat, x.f = F := ⟨x.f.toNat, by have := hno.f; omega⟩
            have hT2 := hno.t
            have hF2 := hno.f
            obtain ⟨o1, o2, -⟩ := hno.off
            have wA1 := way_ahead (q := q) (far := far) hx hlf hT2.1
            have wA2 := way_ahead (q := q) (far := far) hx hlf hF2.1
            rw [hT] at d6 hT2 wA1
            rw [hF] at d7 hF2 wA2
            rw [Int.toNat_natCast] at wA1 wA2
            have hTq : (T : Int) < (q.length : Int) + 1 := by omega
            have hFq : (F : Int) < (q.length : Int) + 1 := by omega
            obtain ⟨pT, hpT⟩ : ∃ u, u = placeN q far T := ⟨_, rfl⟩
            obtain ⟨pF, hpF⟩ : ∃ u, u = placeN q far F := ⟨_, rfl⟩
            obtain ⟨jn, hjn⟩ : ∃ u, u = jumpN x (placeN q far n) := ⟨_, rfl⟩
            obtain ⟨⟨va, vb⟩, hfv⟩ : ∃ v, v = farAt far n := ⟨_, rfl⟩
            have hTb : (pT : Int) ≤ 25000 := by have := placeN_le q far T; omega
            have hFb : (pF : Int) ≤ 25000 := by have := placeN_le q far F; omega
            have hone : farOne q far n x = (va, vb) := by rw [← farNext_get hx, HFX.out, hfv]
            have hsz : sizeN x (farAt far n) = 2 + b2n (x.msk != ones32) + b2n va + b2n vb := by unfold sizeN; rw [if_neg (by rw [hlf]; decide), ← hfv]
            rw [← hpT, ← hjn, ← hfv] at wA1
            rw [← hpF, ← hjn, ← hfv] at wA2
            dsimp only at wA1 wA2
            have hone' := hone
            unfold farOne longN at hone'
            rw [if_neg (by rw [hlf]; decide), ← hfv, hT, hF, Int.toNat_natCast, Int.toNat_natCast, ← hpT, ← hpF, ← hjn] at hone'
            have HBT0 : Hid (va = false → 0 ≤ (pT : Int) - jn - 1 ∧ (pT : Int) - jn - 1 ≤ 255) := Lib.hid (fun h => by
              have h1 := congrArg Prod.fst hone'
              rw [h] at h1
              simp only [Bool.false_or, decide_eq_false_iff_not] at h1
              omega)
            have HBF0 : Hid (vb = false → 0 ≤ (pF : Int) - jn - 1 ∧ (pF : Int) - jn - 1 ≤ 255) := Lib.hid (fun h => by
              have h1 := congrArg Prod.snd hone'
              rw [h] at h1
              simp only [Bool.false_or, decide_eq_false_iff_not] at h1
              omega)
            have hjl : jn ≤ 4096 := by
              have : jn = placeN q far n + 1 + b2n (x.msk != ones32) := hjn
              omega
            have cf := HROW3.out.get hnl
            rw [← hfv] at cf
            have cT := HPL.out.2 T (by omega)
            have cF := HPL.out.2 F (by omega)
            rw [← hpT] at cT
            rw [← hpF] at cF
            have hP := HW.out.more (.cells #[.bool false, .int .u32 x.wd, .int .i64 x.off, .int .u32 x.msk, .int .i64 x.op, .int .u32 x.k, .int .i64 T, .int .i64 F] 52)
            have HP := Lib.hid hP
            obtain ⟨W0, hW0⟩ : ∃ W0, W0 = wr.alloc (.cells #[.bool false, .int .u32 x.wd, .int .i64 x.off, .int .u32 x.msk, .int .i64 x.op, .int .u32 x.k, .int .i64 T, .int .i64 F] 52) := ⟨_, rfl⟩
            obtain ⟨P, hPP⟩ : ∃ P, P = wr.heap.size := ⟨_, rfl⟩
            have HCELL : Hid (∀ W, SameB [P, g1, g] W0 W → W.cell? ⟨P, 1, none⟩ = some (.int .u32 x.wd) ∧ W.cell? ⟨P, 2, none⟩ = some (.int .i64 x.off) ∧ W.cell? ⟨P, 3, none⟩ = some (.int .u32 x.msk) ∧ W.cell? ⟨P, 4, none⟩ = some (.int .i64 x.op) ∧ W.cell? ⟨P, 5, none⟩ = some (.int .u32 x.k) ∧ W.cell? ⟨P, 6, none⟩ = some (.int .i64 T) ∧ W.cell? ⟨P, 7, none⟩ = some (.int .i64 F) ∧ W.cell? ⟨g1, n * 2, none⟩ = some (.bool va) ∧ W.cell? ⟨g1, n * 2 + 1, none⟩ = some (.bool vb) ∧ W.cell? ⟨g, T, none⟩ = some (.int .i64 pT) ∧ W.cell? ⟨g, F, none⟩ = some (.int .i64 pF)) := Lib.hid (fun W hs => by
              have e1 : ∀ o, W.cell? ⟨g1, o, none⟩ = w3.cell? ⟨g1, o, none⟩ := fun o => (hs.cell (by simp)).trans (by rw [hW0]; exact (World.cell?_alloc_lt wr _ ⟨g1, o, none⟩ (HW.out.big g1 (by simp))).trans (HW.out.same.cell (by simp)))
              have e2 : ∀ o, W.cell? ⟨g, o, none⟩ = w3.cell? ⟨g, o, none⟩ := fun o => (hs.cell (by simp)).trans (by rw [hW0]; exact (World.cell?_alloc_lt wr _ ⟨g, o, none⟩ (HW.out.big g (by simp))).trans (HW.out.same.cell (by simp)))
              have e3 : ∀ o, W.cell? ⟨P, o, none⟩ = W0.cell? ⟨P, o, none⟩ := fun o => hs.cell (by simp)
              refine ⟨?_, ?_, ?_, ?_, ?_, ?_, ?_, (e1 _).trans cf.1, (e1 _).trans cf.2, (e2 _).trans cT, (e2 _).trans cF⟩
              all_goals (rw [e3, hW0, hPP, World.cell?_alloc_new]; rfl))
            subst hPP
            have HTF : Hid (x.t = T ∧ x.f = F) := Lib.hid ⟨hT, hF⟩
            have HPT := Lib.hid hpT
            have HPF := Lib.hid hpF
            have HFV := Lib.hid hfv
            have HLF := Lib.hid hlf
            have HJN := Lib.hid hjn
            obtain ⟨xs1, hx1⟩ : ∃ xs1, xs1 = xs ++ ([⟨32, 0, 0, x.off⟩] ++ (if (x.msk != ones32) = true then [⟨84, 0, 0, x.msk⟩] else [])) := ⟨_, rfl⟩
            have hxl : xs1.length = jn := by
              have e1 : jn = placeN q far n + 1 + b2n (x.msk != ones32) := hjn
              have e2 := HEL.out
              rw [← HXS.out] at e2
              rw [hx1, List.length_append, e2, e1]
              unfold b2n
              cases (x.msk != ones32) <;> simp
            have HX1 := Lib.hid hx1
            subst hxl
            have HJ : Hid (xs1.length = jumpN x (placeN q far n)) := Lib.hid hjn
            have HBT := HBT0
            have HBF := HBF0
            have wB1 : (xs1.length : Int) + 1 + b2n va ≤ pT := by omega
            have wB2 : (xs1.length : Int) + 1 + b2n va + b2n vb ≤ pF := by omega
            have hxl1 : xs.length + 2 ≤ 5000 := by omega
            clear hP hno hT hF hT2 hF2 hpT hpF hjn hfv hone hone' hsz hlf cf cT cF HBT0 HBF0 hx1 wA1 wA2 hpn hx
            go_upto_region 16 with (at_builtin; refine put_step HP.out i1 HI1.out rfl (.tmp 48) (.tmp 53) rfl ⟨32, 0, 0, x.off⟩ rfl (wr.heap.size + 1) (by simp) rfl xs.length rfl (by omega) ?_; intro g4 c4 w4 h4; have H4' := Lib.hid h4; clear h4; rw [← hW0] at H4'; obtain ⟨j1, j2, j3, j4, j5, j6, j7, jT, jF, jpT, jpF⟩ := HCELL.out w4 H4'.out.same)
            go_cut [57] (fun s57 wc => s57 = .bool (x.msk != 4294967295) ∧ w4 = wc)
            case first =>
              go_wp2
              go_meet
              exact ⟨rfl, rfl⟩
            case rest =>
              obtain ⟨rfl, rfl⟩ := hcut
              go_upto_if 57 with (fail)
              go_cut [8] (fun s8 wc => OutS w H [wr.heap.size, g1, g] W0 xs1 s8 wc)
              case first =>
                cases hm : (x.msk != 4294967295) with
                | true =>
                  have HE1 : Hid (xs1 = (xs ++ [⟨32, 0, 0, x.off⟩]) ++ [⟨84, 0, 0, x.msk⟩]) := Lib.hid (by rw [HX1.out, if_pos (by unfold ones32; exact hm)]; simp)
                  clear hm
                  go_wp2_with (at_builtin; refine put_step H4'.out i1 HI1.out rfl (.tmp 58) (.tmp 62) rfl ⟨84, 0, 0, x.msk⟩ rfl w4.heap.size rfl rfl (xs.length + 1) (by simp) (by omega) ?_; intro g5 c5 w5 h5; have H5 := Lib.hid h5; clear h5)
                  go_meet
                  exact ⟨g5, c5, by rw [HE1.out]; simp, by rw [HE1.out]; simpa using H5⟩
                | false =>
                  have HE1 : Hid (xs1 = xs ++ [⟨32, 0, 0, x.off⟩]) := Lib.hid (by rw [HX1.out, if_neg (by unfold ones32; rw [hm]; decide)]; simp)
                  clear hm
                  go_wp2
                  go_meet
                  exact ⟨g4, c4, by rw [HE1.out]; simp, by rw [HE1.out]; simpa using H4'⟩
              case rest =>
                obtain ⟨g5, c5, rfl, H5⟩ := hcut
                obtain ⟨k1, k2, k3, k4, k5, k6, k7, kT, kF, kpT, kpF⟩ := HCELL.out wc H5.out.same
                clear j1 j2 j3 j4 j5 j6 j7 jT jF jpT jpF
                cases va with
                | true =>
                  cases vb with
                  | true =>
                      have HEF : Hid (emitTo q far (n + 1) = xs1 ++ [⟨codeN x.op, 0, 1, x.k⟩] ++ [⟨5, 0, 0, (pT : Int) - (xs1.length + 1) - 1⟩] ++ [⟨5, 0, 0, (pF : Int) - (xs1.length + 1 + 1) - 1⟩]) := Lib.hid (by rw [emit_eq HES.out HXS.out HX1.out HLF.out HFV.out HTF.out.1 HTF.out.2 HPT.out HPF.out HJ.out]; simp [b2n])
                      go_wp2_with fail
                      go_region_law (first | (go_simp; go_at_call 23; refine (rcode_c x.op _).mono ?_; rintro e w' ⟨rfl, rfl⟩) | (refine put_drawn H5.out i1 HI1.out rfl (.tmp 93) (.tmp 104) rfl ⟨codeN x.op, 0, 1, x.k⟩ rfl wc.heap.size rfl rfl (by omega) ?_; intro g6 c6 w6 h6; have H6 := Lib.hid h6; clear h6; obtain ⟨k1, k2, k3, k4, k5, k6, k7, kT, kF, kpT, kpF⟩ := HCELL.out w6 H6.out.same))
                      all_goals (
                        have w32T : IntKind.u32.wrap ((pT : Int) - (xs1.length + 1) - 1) = (pT : Int) - (xs1.length + 1) - 1 := by have h := wB1; simp [b2n] at h; rw [IntKind.wrap_u32]; omega
                        have w32F : IntKind.u32.wrap ((pF : Int) - (xs1.length + 1 + 1) - 1) = (pF : Int) - (xs1.length + 1 + 1) - 1 := by have h := wB2; simp [b2n] at h; rw [IntKind.wrap_u32]; omega
                        go_wp2_with (first | (at_builtin; refine put_step H6.out i1 HI1.out rfl (.tmp 111) (.tmp 123) rfl ⟨5, 0, 0, (pT : Int) - (xs1.length + 1) - 1⟩ rfl w6.heap.size rfl rfl (xs1.length + 1) (by simp) (by omega) ?_; intro g7 c7 w7 h7; have H7 := Lib.hid h7; clear h7; obtain ⟨m1, m2, m3, m4, m5, m6, m7, mT, mF, mpT, mpF⟩ := HCELL.out w7 H7.out.same) | (at_builtin; refine put_step H7.out i1 HI1.out rfl (.tmp 130) (.tmp 142) rfl ⟨5, 0, 0, (pF : Int) - (xs1.length + 1 + 1) - 1⟩ rfl w7.heap.size rfl rfl (xs1.length + 1 + 1) (by simp) (by omega) ?_; intro g8 c8 w8 h8; have H8 := Lib.hid h8; clear h8))
                        go_roundw
                        case rel => exact ⟨n + 1, by omega, by go_num, Lib.hid (by have h := H8.out; rw [hW0] at h; have h2 := h.less HW.out; rw [HEF.out]; simpa using h2)⟩
                        case measure => simp [intOf]; omega)
                  | false =>
                      have HEF : Hid (emitTo q far (n + 1) = xs1 ++ [⟨codeN x.op, 0, ((pF : Int) - xs1.length - 1), x.k⟩] ++ [⟨5, 0, 0, (pT : Int) - (xs1.length + 1) - 1⟩]) := Lib.hid (by rw [emit_eq HES.out HXS.out HX1.out HLF.out HFV.out HTF.out.1 HTF.out.2 HPT.out HPF.out HJ.out]; simp [b2n])
                      have bF := HBF.out rfl
                      have w8F : IntKind.u8.wrap ((pF : Int) - xs1.length - 1) = (pF : Int) - xs1.length - 1 := by rw [IntKind.wrap_u8]; omega
                      go_wp2_with fail
                      go_region_law (first | (go_simp; go_at_call 23; refine (rcode_c x.op _).mono ?_; rintro e w' ⟨rfl, rfl⟩) | (refine put_drawn H5.out i1 HI1.out rfl (.tmp 93) (.tmp 104) rfl ⟨codeN x.op, 0, ((pF : Int) - xs1.length - 1), x.k⟩ rfl wc.heap.size rfl rfl (by omega) ?_; intro g6 c6 w6 h6; have H6 := Lib.hid h6; clear h6; obtain ⟨k1, k2, k3, k4, k5, k6, k7, kT, kF, kpT, kpF⟩ := HCELL.out w6 H6.out.same))
                      all_goals (
                        have w32T : IntKind.u32.wrap ((pT : Int) - (xs1.length + 1) - 1) = (pT : Int) - (xs1.length + 1) - 1 := by have h := wB1; simp [b2n] at h; rw [IntKind.wrap_u32]; omega
                        clear w8F
                        go_wp2_with (at_builtin; refine put_step H6.out i1 HI1.out rfl (.tmp 111) (.tmp 123) rfl ⟨5, 0, 0, (pT : Int) - (xs1.length + 1) - 1⟩ rfl w6.heap.size rfl rfl (xs1.length + 1) (by simp) (by omega) ?_; intro g7 c7 w7 h7; have H7 := Lib.hid h7; clear h7; obtain ⟨m1, m2, m3, m4, m5, m6, m7, mT, mF, mpT, mpF⟩ := HCELL.out w7 H7.out.same)
                        go_roundw
                        case rel => exact ⟨n + 1, by omega, by go_num, Lib.hid (by have h := H7.out; rw [hW0] at h; have h2 := h.less HW.out; rw [HEF.out]; simpa using h2)⟩
                        case measure => simp [intOf]; omega)
                | false =>
                  cases vb with
                  | true =>
                      have HEF : Hid (emitTo q far (n + 1) = xs1 ++ [⟨codeN x.op, ((pT : Int) - xs1.length - 1), 0, x.k⟩] ++ [⟨5, 0, 0, (pF : Int) - (xs1.length + 1) - 1⟩]) := Lib.hid (by rw [emit_eq HES.out HXS.out HX1.out HLF.out HFV.out HTF.out.1 HTF.out.2 HPT.out HPF.out HJ.out]; simp [b2n])
                      have bT := HBT.out rfl
                      have w8T : IntKind.u8.wrap ((pT : Int) - xs1.length - 1) = (pT : Int) - xs1.length - 1 := by rw [IntKind.wrap_u8]; omega
                      go_wp2_with fail
                      go_region_law (first | (go_simp; go_at_call 23; refine (rcode_c x.op _).mono ?_; rintro e w' ⟨rfl, rfl⟩) | (refine put_drawn H5.out i1 HI1.out rfl (.tmp 93) (.tmp 104) rfl ⟨codeN x.op, ((pT : Int) - xs1.length - 1), 0, x.k⟩ rfl wc.heap.size rfl rfl (by omega) ?_; intro g6 c6 w6 h6; have H6 := Lib.hid h6; clear h6; obtain ⟨k1, k2, k3, k4, k5, k6, k7, kT, kF, kpT, kpF⟩ := HCELL.out w6 H6.out.same))
                      all_goals (
                        have w32F : IntKind.u32.wrap ((pF : Int) - (xs1.length + 1) - 1) = (pF : Int) - (xs1.length + 1) - 1 := by have h := wB2; simp [b2n] at h; rw [IntKind.wrap_u32]; omega
                        clear w8T
                        go_wp2_with (at_builtin; refine put_step H6.out i1 HI1.out rfl (.tmp 130) (.tmp 142) rfl ⟨5, 0, 0, (pF : Int) - (xs1.length + 1) - 1⟩ rfl w6.heap.size rfl rfl (xs1.length + 1) (by simp) (by omega) ?_; intro g8 c8 w8 h8; have H8 := Lib.hid h8; clear h8)
                        go_roundw
                        case rel => exact ⟨n + 1, by omega, by go_num, Lib.hid (by have h := H8.out; rw [hW0] at h; have h2 := h.less HW.out; rw [HEF.out]; simpa using h2)⟩
                        case measure => simp [intOf]; omega)
                  | false =>
                      have HEF : Hid (emitTo q far (n + 1) = xs1 ++ [⟨codeN x.op, ((pT : Int) - xs1.length - 1), ((pF : Int) - xs1.length - 1), x.k⟩]) := Lib.hid (by rw [emit_eq HES.out HXS.out HX1.out HLF.out HFV.out HTF.out.1 HTF.out.2 HPT.out HPF.out HJ.out]; simp [b2n])
                      have bT := HBT.out rfl
                      have w8T : IntKind.u8.wrap ((pT : Int) - xs1.length - 1) = (pT : Int) - xs1.length - 1 := by rw [IntKind.wrap_u8]; omega
                      have bF := HBF.out rfl
                      have w8F : IntKind.u8.wrap ((pF : Int) - xs1.length - 1) = (pF : Int) - xs1.length - 1 := by rw [IntKind.wrap_u8]; omega
                      go_wp2_with fail
                      go_region_law (first | (go_simp; go_at_call 23; refine (rcode_c x.op _).mono ?_; rintro e w' ⟨rfl, rfl⟩) | (refine put_drawn H5.out i1 HI1.out rfl (.tmp 93) (.tmp 104) rfl ⟨codeN x.op, ((pT : Int) - xs1.length - 1), ((pF : Int) - xs1.length - 1), x.k⟩ rfl wc.heap.size rfl rfl (by omega) ?_; intro g6 c6 w6 h6; have H6 := Lib.hid h6; clear h6; obtain ⟨k1, k2, k3, k4, k5, k6, k7, kT, kF, kpT, kpF⟩ := HCELL.out w6 H6.out.same))
                      all_goals (
                        clear w8T w8F
                        go_wp2_with fail
                        go_roundw
                        case rel => exact ⟨n + 1, by omega, by go_num, Lib.hid (by have h := H6.out; rw [hW0] at h; have h2 := h.less HW.out; rw [HEF.out]; simpa using h2)⟩
                        case measure => simp [intOf]; omega)
        · obtain rfl : n = q.length := by omega
          have HE := Lib.hid HW.out
          clear HW
          go_wp2
          refine bodyPost_ret (v := .tuple #[.slice Al (emitTo q far q.length).length cl, .int .i64 0]) (by simp [results, Try.results10, go_sem]) rfl ?_
          refine ⟨HE.out.below, .inr ⟨HC0.out, k, HFIX.out, .inr ⟨by rw [← HFAR.out, ← HN0.out]; exact hsm2, _, rfl, ?_⟩⟩⟩
          rw [← HFAR.out]
          have h := HE.out.own
          have := HE.out.hH
          refine ⟨h.1, ?_⟩
          rcases h.2 with h2 | ⟨g', cap', cur, hv, hg', r⟩
          · exact .inl h2
          · exact .inr ⟨g', cap', cur, hv, by omega, r⟩
  · have HNE := Lib.hid h0
    obtain ⟨pe, hpe⟩ : ∃ pe, pe = (checkD q).1 := ⟨_, rfl⟩
    have hne : (pe != 0) = true := by rw [hpe]; simpa using h0
    have HPE := Lib.hid hpe
    clear h0 hpe
    go_enter Try.func10, Try.ntmps10
    go_wp2_with fail
    refine HC.out.mono ?_
    rintro e w1 ⟨hb1, ⟨h, rfl⟩ | ⟨h, -⟩⟩
    · rw [← HPE.out]
      go_wp2
      refine bodyPost_ret (v := .tuple #[.slice none 0 0, .int .i64 pe]) (by simp [results, Try.results10, go_sem]) rfl ?_
      exact ⟨hb1, .inl ⟨HNE.out, by rw [← HPE.out]⟩⟩
    · exact absurd h HNE.out
end Go.Proofs.Ytfpemoellglknaa
