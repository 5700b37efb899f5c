import Derived.Test.YtehpoamideeehaaMirFW2
set_option linter.unusedVariables false
set_option linter.unusedSimpArgs false
set_option maxRecDepth 100000
namespace Go.Proofs.Ytehpoamideeehaa
open Go.RowKit
/-! mir.builder's lays, of sums and of jumps: the walk. (Printed by gen/mirfw3.py.) -/
theorem heap_nwd (W : World) (o : Obj) : (W.alloc o).drew.heap[W.heap.size]? = some o := heap_nw W o
set_option maxHeartbeats 3200000 in
theorem laysAlu_c {w0 : World} {B : Nat} {l : List R7} {bg : List Int} {vl vb : Value} (i : Nat) (c j f k : Int) (h : c ∈ aluL) (h60 : c ≠ 60) (hi : i ≤ 4096) (hj : 0 ≤ j ∧ j < 256) (hf : 0 ≤ f ∧ f < 256) (hk : 0 ≤ k ∧ k < 4294967296) (w : World) (hm : MB w0 B l bg vl vb w) (hn : l.length + 4 ≤ 100000) :
    Calls Try.prog 17 #[.pointer (some ⟨B, 0, none⟩), .int .i64 i, .agg #[.int .u16 c, .int .u8 j, .int .u8 f, .int .u32 k]] w (LaysPost w0 B l (layR i l.length ⟨c, j, f, k⟩) bg vb) := by
  have HM := Lib.hid hm
  have HE : Hid (layR i l.length ⟨c, j, f, k⟩ = preK ⟨c, j, f, k⟩ ++ [⟨mop c, 0, 0, rk ⟨c, j, f, k⟩, 0, 0, 0⟩]) := Lib.hid (lay_alu (x := ⟨c, j, f, k⟩) i l.length h h60)
  have hfacts : (c == 32) = false ∧ (c == 128) = false ∧ (c == 129) = false ∧ (c == 0) = false ∧ (c == 1) = false ∧ (c == 96) = false ∧ (c == 97) = false ∧ (c == 2) = false ∧ (c == 3) = false ∧ (c == 7) = false ∧ (c == 135) = false ∧ (c == 132) = false ∧ (c == 6) = false ∧ (c == 22) = false ∧ (c == 5) = false ∧ (c == 60) = false ∧ bits .and .u16 c 7 = 4 := by
    have key : ∀ c ∈ aluL, c ≠ 60 → (c == 32) = false ∧ (c == 128) = false ∧ (c == 129) = false ∧ (c == 0) = false ∧ (c == 1) = false ∧ (c == 96) = false ∧ (c == 97) = false ∧ (c == 2) = false ∧ (c == 3) = false ∧ (c == 7) = false ∧ (c == 135) = false ∧ (c == 132) = false ∧ (c == 6) = false ∧ (c == 22) = false ∧ (c == 5) = false ∧ (c == 60) = false ∧ bits .and .u16 c 7 = 4 := by decide +kernel
    exact key c h h60
  obtain ⟨n0, n1, n2, n3, n4, n5, n6, n7, n8, n9, n10, n11, n12, n13, n14, n15, h7⟩ := hfacts
  have HPL : Hid ((preK ⟨c, j, f, k⟩).length ≤ 1) := Lib.hid (by unfold preK; split <;> simp)
  obtain ⟨R, hR⟩ : ∃ R, R = rk ⟨c, j, f, k⟩ := ⟨_, rfl⟩
  rw [← hR] at HE
  have HRR := Lib.hid hR
  obtain ⟨k0, k1⟩ := hk
  obtain ⟨j0, j1⟩ := hj
  obtain ⟨f0, f1⟩ := hf
  have hi' : (i : Int) ≤ 4096 := by omega
  have HK : Hid (∀ w2, Framed B vl (w.alloc (.cells #[.int .u16 c, .int .u8 j, .int .u8 f, .int .u32 k] 47)) w2 → w2.cell? ⟨w.heap.size, 0, none⟩ = some (.int .u16 c) ∧ w2.cell? ⟨w.heap.size, 1, none⟩ = some (.int .u8 j) ∧ w2.cell? ⟨w.heap.size, 2, none⟩ = some (.int .u8 f)) := Lib.hid (fun w2 hfr => by
    have hb := hfr w.heap.size (by simp) (by have := HM.out.lt; omega) (fun e => by have := own_ltM HM.out.ol _ e; omega)
    rw [heap_nw] at hb
    refine ⟨?_, ?_, ?_⟩ <;> simp [World.cell?, hb])
  clear hm h hR h60
  go_enter Try.func17, Try.ntmps17
  go_wp2_with fail
  refine (operand_c ⟨c, j, f, k⟩ _ (HM.out.keep (below1 w _)) (by omega)).mono ?_
  rintro e w2 ⟨rfl, vl2, h2, hfr, -⟩
  rw [← HRR.out]
  obtain ⟨c0, c1, c2⟩ := HK.out w2 hfr
  have H2 := Lib.hid h2
  have HL2 : Hid ((l ++ preK ⟨c, j, f, k⟩).length + 1 ≤ 100000) := Lib.hid (by have := HPL.out; rw [List.length_append]; omega)
  clear h2 hfr
  go_wp2_with fail
  go_region_law (first
    | (go_simp; go_at_call 35; refine (add_new [⟨mop c, 0, 0, R, 0, 0, 0⟩] H2.out _ (below_dr (below1 w2 _)) _ 1 (heap_nwd w2 _) rfl (by decide) HL2.out).mono ?_; rintro e w3 ⟨rfl, vl3, h3⟩; have H3 := Lib.hid h3; clear h3)
    | (go_simp; go_at_call 37; refine (op_c c _).mono ?_; rintro e w' ⟨rfl, rfl⟩))
  all_goals (
    go_wp2
    go_end0
    exact ⟨rfl, vl3, by rw [HE.out, ← List.append_assoc]; exact H3.out⟩)
set_option maxHeartbeats 3200000 in
theorem laysJump_c {w0 : World} {B : Nat} {l : List R7} {bg : List Int} {vl vb : Value} (i : Nat) (c j f k : Int) (h : c ∈ jumpL) (hi : i ≤ 4096) (hj : 0 ≤ j ∧ j < 256) (hf : 0 ≤ f ∧ f < 256) (hk : 0 ≤ k ∧ k < 4294967296) (w : World) (hm : MB w0 B l bg vl vb w) (hn : l.length + 4 ≤ 100000) :
    Calls Try.prog 17 #[.pointer (some ⟨B, 0, none⟩), .int .i64 i, .agg #[.int .u16 c, .int .u8 j, .int .u8 f, .int .u32 k]] w (LaysPost w0 B l (layR i l.length ⟨c, j, f, k⟩) bg vb) := by
  have HM := Lib.hid hm
  have HE : Hid (layR i l.length ⟨c, j, f, k⟩ = preK ⟨c, j, f, k⟩ ++ [⟨mq c, 0, 0, rk ⟨c, j, f, k⟩, 0, (i : Int) + 1 + j, (i : Int) + 1 + f⟩]) := Lib.hid (lay_jump (x := ⟨c, j, f, k⟩) i l.length h)
  have hfacts : (c == 32) = false ∧ (c == 128) = false ∧ (c == 129) = false ∧ (c == 0) = false ∧ (c == 1) = false ∧ (c == 96) = false ∧ (c == 97) = false ∧ (c == 2) = false ∧ (c == 3) = false ∧ (c == 7) = false ∧ (c == 135) = false ∧ (c == 132) = false ∧ (c == 6) = false ∧ (c == 22) = false ∧ (c == 5) = false ∧ (c == 60) = false ∧ bits .and .u16 c 7 = 5 := by
    have key : ∀ c ∈ jumpL, (c == 32) = false ∧ (c == 128) = false ∧ (c == 129) = false ∧ (c == 0) = false ∧ (c == 1) = false ∧ (c == 96) = false ∧ (c == 97) = false ∧ (c == 2) = false ∧ (c == 3) = false ∧ (c == 7) = false ∧ (c == 135) = false ∧ (c == 132) = false ∧ (c == 6) = false ∧ (c == 22) = false ∧ (c == 5) = false ∧ (c == 60) = false ∧ bits .and .u16 c 7 = 5 := by decide +kernel
    exact key c h
  obtain ⟨n0, n1, n2, n3, n4, n5, n6, n7, n8, n9, n10, n11, n12, n13, n14, n15, h7⟩ := hfacts
  have HPL : Hid ((preK ⟨c, j, f, k⟩).length ≤ 1) := Lib.hid (by unfold preK; split <;> simp)
  obtain ⟨R, hR⟩ : ∃ R, R = rk ⟨c, j, f, k⟩ := ⟨_, rfl⟩
  rw [← hR] at HE
  have HRR := Lib.hid hR
  obtain ⟨k0, k1⟩ := hk
  obtain ⟨j0, j1⟩ := hj
  obtain ⟨f0, f1⟩ := hf
  have hi' : (i : Int) ≤ 4096 := by omega
  have e1 : IntKind.i64.wrap ((i : Int) + 1) = i + 1 := by rw [IntWalk.i64_in] <;> omega
  have e2 : IntKind.i64.wrap j = j := by rw [IntWalk.i64_in] <;> omega
  have e3 : IntKind.i64.wrap f = f := by rw [IntWalk.i64_in] <;> omega
  have e4 : IntKind.i64.wrap ((i : Int) + 1 + j) = i + 1 + j := by rw [IntWalk.i64_in] <;> omega
  have e5 : IntKind.i64.wrap ((i : Int) + 1 + f) = i + 1 + f := by rw [IntWalk.i64_in] <;> omega
  have HK : Hid (∀ w2, Framed B vl (w.alloc (.cells #[.int .u16 c, .int .u8 j, .int .u8 f, .int .u32 k] 47)) w2 → w2.cell? ⟨w.heap.size, 0, none⟩ = some (.int .u16 c) ∧ w2.cell? ⟨w.heap.size, 1, none⟩ = some (.int .u8 j) ∧ w2.cell? ⟨w.heap.size, 2, none⟩ = some (.int .u8 f)) := Lib.hid (fun w2 hfr => by
    have hb := hfr w.heap.size (by simp) (by have := HM.out.lt; omega) (fun e => by have := own_ltM HM.out.ol _ e; omega)
    rw [heap_nw] at hb
    refine ⟨?_, ?_, ?_⟩ <;> simp [World.cell?, hb])
  clear hm h hR
  go_enter Try.func17, Try.ntmps17
  go_wp2_with fail
  refine (operand_c ⟨c, j, f, k⟩ _ (HM.out.keep (below1 w _)) (by omega)).mono ?_
  rintro e w2 ⟨rfl, vl2, h2, hfr, -⟩
  rw [← HRR.out]
  obtain ⟨c0, c1, c2⟩ := HK.out w2 hfr
  have H2 := Lib.hid h2
  have HL2 : Hid ((l ++ preK ⟨c, j, f, k⟩).length + 1 ≤ 100000) := Lib.hid (by have := HPL.out; rw [List.length_append]; omega)
  clear h2 hfr
  go_wp2_with fail
  go_region_law (first
    | (go_simp; go_at_call 35; refine (add_new [⟨mq c, 0, 0, R, 0, (i : Int) + 1 + j, (i : Int) + 1 + f⟩] H2.out _ (below_dr (below1 w2 _)) _ 1 (heap_nwd w2 _) rfl (by decide) HL2.out).mono ?_; rintro e w3 ⟨rfl, vl3, h3⟩; have H3 := Lib.hid h3; clear h3)
    | (go_simp; go_at_call 38; refine (question_c c _).mono ?_; rintro e w' ⟨rfl, rfl⟩))
  all_goals (
    go_wp2
    go_end0
    exact ⟨rfl, vl3, by rw [HE.out, ← List.append_assoc]; exact H3.out⟩)
end Go.Proofs.Ytehpoamideeehaa
