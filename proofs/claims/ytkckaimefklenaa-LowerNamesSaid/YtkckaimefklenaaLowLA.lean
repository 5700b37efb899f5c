import Derived.Test.YtkckaimefklenaaLowL9
set_option linter.unusedVariables false
set_option linter.unusedSimpArgs false
namespace Go.Proofs.Ytkckaimefklenaa
open Go.RowKit
/-! lower.Size, lower.Emit: the walks. -/
theorem emit_c {lo : Nat} {q : List N8} {far : List (Bool × Bool)} {L B c size : Nat} {Pn Yn : Nat → Nat} {w0 : World} (HL : LayAt lo q L B c Pn Yn (placeN q far) size (farAt far) w0) (hfx : farNext q far = far) (hc : (checkD q).1 = 0) {n : Nat} {x : N8} (hx : q[n]? = some x) {G : Nat} {v : Value} (w : World) (h : GenAt w0 G [] w0 (emitTo q far n) v w) :
    Calls Try.prog 12 #[.pointer (some ⟨L, 0, none⟩), .pointer (some ⟨Pn n, 0, none⟩), .func (.func 11) #[.pointer (some ⟨G, 0, none⟩)] #[]] w (EmPost w0 G (emitTo q far (n + 1))) := by
  obtain ⟨a1, a2, -⟩ := checkD_zero hc
  cases hl : x.lf with
  | true => exact emitLeaf_c HL hx hl (List.getElem?_eq_some_iff.1 hx).1 a2 w h
  | false => exact emitTest_c HL hfx hc hx hl w h
set_option maxRecDepth 100000 in
set_option maxHeartbeats 1600000 in
theorem Size_c (A : Option Addr) (cap : Nat) (q : List N8) (hq : ∀ x ∈ q, x.ok) (hn : q.length ≤ 9223372036854775807) (w : World) (hr : Reads w w.heap.size 8 A q.length (cellsN q)) :
    Calls Try.prog 6 #[.slice A q.length cap] w (SizePost w q) := by
  have HR := Lib.hid hr
  have HC := Lib.hid (DCheck_c A cap q hq hn w hr)
  clear hr hq
  obtain ⟨pe, hpe⟩ : ∃ pe, pe = (checkD q).1 := ⟨_, rfl⟩
  obtain ⟨pp, hpp⟩ : ∃ pp, pp = (checkD q).2 := ⟨_, rfl⟩
  have HPE := Lib.hid hpe
  have HPP := Lib.hid hpp
  clear hpe hpp
  by_cases h0 : pe = 0
  · have hc0 : (checkD q).1 = 0 := by rw [← HPE.out]; exact h0
    have HC0 := Lib.hid hc0
    subst h0
    clear hc0
    go_enter Try.func6, Try.ntmps6
    go_wp2_with fail
    refine HC.out.mono ?_
    rintro e w1 ⟨rfl, hb1⟩
    rw [← HPE.out, ← HPP.out]
    go_wp2_with fail
    refine (lay_c A cap q HC0.out w1 (HR.out.up hb1)).mono ?_
    rintro e w2 ⟨L, B, c, k, Pn, Yn, rfl, hfix, hl, hb2⟩
    have HF := Lib.hid hfix
    have l1 := hl.l1
    have HB2 := Lib.hid (below_t hb1 hb2)
    clear hfix hl hb2 hb1
    go_wp2
    go_ret2
    exact ⟨HB2.out, .inr ⟨HC0.out, k, HF.out, rfl⟩⟩
  · have hne : (pe != 0) = true := by simpa using h0
    have HNE := Lib.hid (show (checkD q).1 ≠ 0 by rw [← HPE.out]; exact h0)
    clear h0
    go_enter Try.func6, Try.ntmps6
    go_wp2_with fail
    refine HC.out.mono ?_
    rintro e w1 ⟨rfl, hb1⟩
    rw [← HPE.out, ← HPP.out]
    go_wp2
    go_ret2
    exact ⟨hb1, .inl ⟨HNE.out, by rw [← HPE.out]; rfl⟩⟩
set_option maxRecDepth 100000 in
set_option maxHeartbeats 3200000 in
theorem Emit_c (A : Option Addr) (cap : Nat) (q : List N8) (hq : ∀ x ∈ q, x.ok) (hn : q.length ≤ 9223372036854775807) (w : World) (hr : Reads w w.heap.size 8 A q.length (cellsN q)) :
    Calls Try.prog 5 #[.slice A q.length cap] w (EmitPost w q) := by
  have HR := Lib.hid hr
  have HC := Lib.hid (DCheck_c A cap q hq hn w hr)
  clear hr hq
  obtain ⟨pe, hpe⟩ : ∃ pe, pe = (checkD q).1 := ⟨_, rfl⟩
  obtain ⟨pp, hpp⟩ : ∃ pp, pp = (checkD q).2 := ⟨_, rfl⟩
  have HPE := Lib.hid hpe
  have HPP := Lib.hid hpp
  clear hpe hpp
  by_cases h0 : pe = 0
  · have hc0 : (checkD q).1 = 0 := by rw [← HPE.out]; exact h0
    obtain ⟨a1, a2, -⟩ := checkD_zero hc0
    have hq1 : (q.length : Int) ≤ 4096 := by omega
    have HC0 := Lib.hid hc0
    subst h0
    clear hc0
    go_enter Try.func5, Try.ntmps5
    go_wp2_with fail
    refine HC.out.mono ?_
    rintro e w1 ⟨rfl, hb1⟩
    rw [← HPE.out, ← HPP.out]
    go_wp2_with fail
    refine (lay_c A cap q HC0.out w1 (HR.out.up hb1)).mono ?_
    rintro e w2 ⟨L, B, c, k, Pn, Yn, rfl, hfix, hl, hb2⟩
    have HF := Lib.hid hfix
    have HB2 := Lib.hid (below_t hb1 hb2)
    obtain ⟨far, hfar⟩ : ∃ far, far = farTo q k := ⟨_, rfl⟩
    rw [← hfar] at hl
    have HFAR := Lib.hid hfar
    have HFX : Hid (farNext q far = far) := Lib.hid (by rw [hfar]; exact hfix)
    obtain ⟨n0, hn0⟩ : ∃ n0, n0 = placeN q far q.length := ⟨_, rfl⟩
    rw [← hn0] at hl
    have HN0 := Lib.hid hn0
    have l1 := hl.l1
    have HL := Lib.hid hl
    clear hfix hl hb2 hb1 hfar hn0
    by_cases hbig : 4096 < n0
    · have hbig' : (4096 : Int) < n0 := by omega
      have HE := Lib.hid hbig
      clear hbig
      go_wp2
      refine bodyPost_ret (v := .tuple #[.slice none 0 0, .int .i64 91]) (by simp [results, Try.results5, go_sem]) rfl ?_
      exact ⟨HB2.out, .inr ⟨HC0.out, k, HF.out, .inl ⟨by rw [← HFAR.out, ← HN0.out]; exact HE.out, rfl⟩⟩⟩
    · have hsm : (n0 : Int) ≤ 4096 := by omega
      have hsm2 : n0 ≤ 4096 := by omega
      have hl0 : (w2.alloc (.cells #[.slice none 0 0] 55)).cell? ⟨L, 0, none⟩ = some (.slice (some ⟨B, 0, none⟩) q.length c) := keepC (below1 w2 _) HL.out.l0
      have HS : Hid (GenAt w2 w2.heap.size [] w2 (emitTo q far 0) (.slice none 0 0) (w2.alloc (.cells #[.slice none 0 0] 55))) := Lib.hid (GenAt.box w2)
      clear hbig
      go_wp2_with fail
      go_loopw [35] (fun i wr => ∃ n : Nat, n ≤ q.length ∧ i = .int .i64 n ∧ ∃ v, Hid (GenAt w2 w2.heap.size [] w2 (emitTo q far n) v wr)) (fun i _ => q.length - (intOf i).toNat)
      case atStart => exact ⟨0, by omega, rfl, _, HS⟩
      case round =>
        obtain ⟨n, hnq, rfl, v, HW⟩ := hrel
        clear HS hl0
        rcases Nat.lt_or_ge n q.length with hnl | hnl
        · have hnl' : (n : Int) < q.length := by omega
          obtain ⟨x, hx⟩ : ∃ x, q[n]? = some x := ⟨_, List.getElem?_eq_getElem hnl⟩
          have HX := Lib.hid hx
          have cp := (HL.out.keep HW.out.out.below).ptr n hnl
          clear hx
          go_wp2_with (go_at_call 12; refine (emit_c HL.out HFX.out HC0.out HX.out _ HW.out).mono ?_; rintro e w4 ⟨rfl, v4, h4⟩; have H4 := Lib.hid h4; clear h4)
          go_roundw
          case rel => exact ⟨n + 1, by omega, by go_num, v4, H4⟩
          case measure => simp [intOf]; omega
        · obtain rfl : n = q.length := by omega
          have cg := HW.out.cell
          go_wp2
          refine bodyPost_ret (v := .tuple #[v, .int .i64 0]) (by simp [results, Try.results5, go_sem]) rfl ?_
          have hsz := HB2.out.size
          refine ⟨below_t HB2.out HW.out.out.below, .inr ⟨HC0.out, k, HF.out, .inr ⟨by rw [← HFAR.out, ← HN0.out]; exact hsm2, _, rfl, ?_⟩⟩⟩
          rw [← HFAR.out]
          have h := HW.out.out.own
          refine ⟨h.1, ?_⟩
          rcases h.2 with h2 | ⟨g', cap', cur, hv, hg', r⟩
          · exact .inl h2
          · exact .inr ⟨g', cap', cur, hv, by omega, r⟩
  · have HNE := Lib.hid (show (checkD q).1 ≠ 0 by rw [← HPE.out]; exact h0)
    have hne : (pe != 0) = true := by simpa using h0
    clear h0
    go_enter Try.func5, Try.ntmps5
    go_wp2_with fail
    refine HC.out.mono ?_
    rintro e w1 ⟨rfl, hb1⟩
    rw [← HPE.out, ← HPP.out]
    go_wp2
    refine bodyPost_ret (v := .tuple #[.slice none 0 0, .int .i64 pe]) (by simp [results, Try.results5, go_sem]) rfl ?_
    exact ⟨hb1, .inl ⟨HNE.out, by rw [← HPE.out]⟩⟩
end Go.Proofs.Ytkckaimefklenaa
