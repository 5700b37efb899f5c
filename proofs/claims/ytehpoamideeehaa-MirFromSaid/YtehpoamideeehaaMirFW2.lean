import Derived.Test.YtehpoamideeehaaMirFW1
import Derived.Test.YtehpoamideeehaaMirFromQ
set_option linter.unusedVariables false
set_option linter.unusedSimpArgs false
set_option maxRecDepth 100000
namespace Go.Proofs.Ytehpoamideeehaa
open Go.RowKit
/-! mir.builder's lays: the walk, code by code. (Printed by gen/mirfw2.py.) -/
theorem heap_nw1 (W : World) (o o' : Obj) : ((W.alloc o).alloc o').heap[W.heap.size + 1]? = some o' := heap_nw1d W o o'
def LaysPost (w0 : World) (B : Nat) (l ys : List R7) (bg : List Int) (vb : Value) (e : Ending) (w' : World) : Prop := e = .returned (.tuple #[]) ∧ ∃ vl', MB w0 B (l ++ ys) bg vl' vb w'
set_option maxHeartbeats 1600000 in
theorem lays32 {w0 : World} {B : Nat} {l : List R7} {bg : List Int} {vl vb : Value} (i : Nat) (j f k : Int) (hi : i ≤ 4096) (hj : 0 ≤ j ∧ j < 256) (hf : 0 ≤ f ∧ f < 256) (hk : 0 ≤ k ∧ k < 4294967296) (w : World) (h : MB w0 B l bg vl vb w) (hn : l.length + 4 ≤ 100000) :
    Calls Try.prog 17 #[.pointer (some ⟨B, 0, none⟩), .int .i64 i, .agg #[.int .u16 32, .int .u8 j, .int .u8 f, .int .u32 k]] w (LaysPost w0 B l (layR i l.length ⟨32, j, f, k⟩) bg vb) := by
  have HM := Lib.hid h
  have HE : Hid (layR i l.length ⟨32, j, f, k⟩ = [⟨3, 0, 0, 0, k, 0, 0⟩]) := Lib.hid (by simp [layR])
  obtain ⟨k0, k1⟩ := hk
  obtain ⟨M, hM⟩ : ∃ M, M = 2 + k % 16 := ⟨_, rfl⟩
  have hMr : 2 + k % 16 = M := hM.symm
  have HMM : Hid (memK ⟨32, j, f, k⟩ = M) := Lib.hid (by unfold memK; exact hMr)
  have hi' : (i : Int) ≤ 4096 := by omega
  clear h hM hj hf
  go_enter Try.func17, Try.ntmps17
  go_wp2_with fail
  go_region_law (go_simp; go_at_call 35; refine (add_new [⟨3, 0, 0, 0, k, 0, 0⟩] HM.out _ (below_dr (below_al (below1 w _) _)) _ 1 (heap_nw1d w _ _) rfl (by decide) (by omega)).mono ?_; rintro e w2 ⟨rfl, vl2, h2⟩; have H2 := Lib.hid h2; clear h2)
  all_goals (
    go_wp2
    go_end0
    exact ⟨rfl, vl2, by rw [HE.out]; exact H2.out⟩)
set_option maxHeartbeats 1600000 in
theorem lays128 {w0 : World} {B : Nat} {l : List R7} {bg : List Int} {vl vb : Value} (i : Nat) (j f k : Int) (hi : i ≤ 4096) (hj : 0 ≤ j ∧ j < 256) (hf : 0 ≤ f ∧ f < 256) (hk : 0 ≤ k ∧ k < 4294967296) (w : World) (h : MB w0 B l bg vl vb w) (hn : l.length + 4 ≤ 100000) :
    Calls Try.prog 17 #[.pointer (some ⟨B, 0, none⟩), .int .i64 i, .agg #[.int .u16 128, .int .u8 j, .int .u8 f, .int .u32 k]] w (LaysPost w0 B l (layR i l.length ⟨128, j, f, k⟩) bg vb) := by
  have HM := Lib.hid h
  have HE : Hid (layR i l.length ⟨128, j, f, k⟩ = [⟨1, 0, 0, 0, 64, 0, 0⟩]) := Lib.hid (by simp [layR])
  obtain ⟨k0, k1⟩ := hk
  obtain ⟨M, hM⟩ : ∃ M, M = 2 + k % 16 := ⟨_, rfl⟩
  have hMr : 2 + k % 16 = M := hM.symm
  have HMM : Hid (memK ⟨128, j, f, k⟩ = M) := Lib.hid (by unfold memK; exact hMr)
  have hi' : (i : Int) ≤ 4096 := by omega
  clear h hM hj hf
  go_enter Try.func17, Try.ntmps17
  go_wp2_with (go_at_call 35; refine (add_new [⟨1, 0, 0, 0, 64, 0, 0⟩] HM.out _ (below_al (below1 w _) _) _ 1 (heap_nw1 w _ _) rfl (by decide) (by omega)).mono ?_; rintro e w2 ⟨rfl, vl2, h2⟩; have H2 := Lib.hid h2; clear h2)
  go_end0
  exact ⟨rfl, vl2, by rw [HE.out]; exact H2.out⟩
set_option maxHeartbeats 1600000 in
theorem lays129 {w0 : World} {B : Nat} {l : List R7} {bg : List Int} {vl vb : Value} (i : Nat) (j f k : Int) (hi : i ≤ 4096) (hj : 0 ≤ j ∧ j < 256) (hf : 0 ≤ f ∧ f < 256) (hk : 0 ≤ k ∧ k < 4294967296) (w : World) (h : MB w0 B l bg vl vb w) (hn : l.length + 4 ≤ 100000) :
    Calls Try.prog 17 #[.pointer (some ⟨B, 0, none⟩), .int .i64 i, .agg #[.int .u16 129, .int .u8 j, .int .u8 f, .int .u32 k]] w (LaysPost w0 B l (layR i l.length ⟨129, j, f, k⟩) bg vb) := by
  have HM := Lib.hid h
  have HE : Hid (layR i l.length ⟨129, j, f, k⟩ = [⟨1, 1, 0, 0, 64, 0, 0⟩]) := Lib.hid (by simp [layR])
  obtain ⟨k0, k1⟩ := hk
  obtain ⟨M, hM⟩ : ∃ M, M = 2 + k % 16 := ⟨_, rfl⟩
  have hMr : 2 + k % 16 = M := hM.symm
  have HMM : Hid (memK ⟨129, j, f, k⟩ = M) := Lib.hid (by unfold memK; exact hMr)
  have hi' : (i : Int) ≤ 4096 := by omega
  clear h hM hj hf
  go_enter Try.func17, Try.ntmps17
  go_wp2_with (go_at_call 35; refine (add_new [⟨1, 1, 0, 0, 64, 0, 0⟩] HM.out _ (below_al (below1 w _) _) _ 1 (heap_nw1 w _ _) rfl (by decide) (by omega)).mono ?_; rintro e w2 ⟨rfl, vl2, h2⟩; have H2 := Lib.hid h2; clear h2)
  go_end0
  exact ⟨rfl, vl2, by rw [HE.out]; exact H2.out⟩
set_option maxHeartbeats 1600000 in
theorem lays0 {w0 : World} {B : Nat} {l : List R7} {bg : List Int} {vl vb : Value} (i : Nat) (j f k : Int) (hi : i ≤ 4096) (hj : 0 ≤ j ∧ j < 256) (hf : 0 ≤ f ∧ f < 256) (hk : 0 ≤ k ∧ k < 4294967296) (w : World) (h : MB w0 B l bg vl vb w) (hn : l.length + 4 ≤ 100000) :
    Calls Try.prog 17 #[.pointer (some ⟨B, 0, none⟩), .int .i64 i, .agg #[.int .u16 0, .int .u8 j, .int .u8 f, .int .u32 k]] w (LaysPost w0 B l (layR i l.length ⟨0, j, f, k⟩) bg vb) := by
  have HM := Lib.hid h
  have HE : Hid (layR i l.length ⟨0, j, f, k⟩ = [⟨1, 0, 0, 0, k, 0, 0⟩]) := Lib.hid (by simp [layR])
  obtain ⟨k0, k1⟩ := hk
  obtain ⟨M, hM⟩ : ∃ M, M = 2 + k % 16 := ⟨_, rfl⟩
  have hMr : 2 + k % 16 = M := hM.symm
  have HMM : Hid (memK ⟨0, j, f, k⟩ = M) := Lib.hid (by unfold memK; exact hMr)
  have hi' : (i : Int) ≤ 4096 := by omega
  clear h hM hj hf
  go_enter Try.func17, Try.ntmps17
  go_wp2_with fail
  go_region_law (go_simp; go_at_call 35; refine (add_new [⟨1, 0, 0, 0, k, 0, 0⟩] HM.out _ (below_dr (below_al (below1 w _) _)) _ 1 (heap_nw1d w _ _) rfl (by decide) (by omega)).mono ?_; rintro e w2 ⟨rfl, vl2, h2⟩; have H2 := Lib.hid h2; clear h2)
  all_goals (
    go_wp2
    go_end0
    exact ⟨rfl, vl2, by rw [HE.out]; exact H2.out⟩)
set_option maxHeartbeats 1600000 in
theorem lays1 {w0 : World} {B : Nat} {l : List R7} {bg : List Int} {vl vb : Value} (i : Nat) (j f k : Int) (hi : i ≤ 4096) (hj : 0 ≤ j ∧ j < 256) (hf : 0 ≤ f ∧ f < 256) (hk : 0 ≤ k ∧ k < 4294967296) (w : World) (h : MB w0 B l bg vl vb w) (hn : l.length + 4 ≤ 100000) :
    Calls Try.prog 17 #[.pointer (some ⟨B, 0, none⟩), .int .i64 i, .agg #[.int .u16 1, .int .u8 j, .int .u8 f, .int .u32 k]] w (LaysPost w0 B l (layR i l.length ⟨1, j, f, k⟩) bg vb) := by
  have HM := Lib.hid h
  have HE : Hid (layR i l.length ⟨1, j, f, k⟩ = [⟨1, 1, 0, 0, k, 0, 0⟩]) := Lib.hid (by simp [layR])
  obtain ⟨k0, k1⟩ := hk
  obtain ⟨M, hM⟩ : ∃ M, M = 2 + k % 16 := ⟨_, rfl⟩
  have hMr : 2 + k % 16 = M := hM.symm
  have HMM : Hid (memK ⟨1, j, f, k⟩ = M) := Lib.hid (by unfold memK; exact hMr)
  have hi' : (i : Int) ≤ 4096 := by omega
  clear h hM hj hf
  go_enter Try.func17, Try.ntmps17
  go_wp2_with fail
  go_region_law (go_simp; go_at_call 35; refine (add_new [⟨1, 1, 0, 0, k, 0, 0⟩] HM.out _ (below_dr (below_al (below1 w _) _)) _ 1 (heap_nw1d w _ _) rfl (by decide) (by omega)).mono ?_; rintro e w2 ⟨rfl, vl2, h2⟩; have H2 := Lib.hid h2; clear h2)
  all_goals (
    go_wp2
    go_end0
    exact ⟨rfl, vl2, by rw [HE.out]; exact H2.out⟩)
set_option maxHeartbeats 1600000 in
theorem lays96 {w0 : World} {B : Nat} {l : List R7} {bg : List Int} {vl vb : Value} (i : Nat) (j f k : Int) (hi : i ≤ 4096) (hj : 0 ≤ j ∧ j < 256) (hf : 0 ≤ f ∧ f < 256) (hk : 0 ≤ k ∧ k < 4294967296) (w : World) (h : MB w0 B l bg vl vb w) (hn : l.length + 4 ≤ 100000) :
    Calls Try.prog 17 #[.pointer (some ⟨B, 0, none⟩), .int .i64 i, .agg #[.int .u16 96, .int .u8 j, .int .u8 f, .int .u32 k]] w (LaysPost w0 B l (layR i l.length ⟨96, j, f, k⟩) bg vb) := by
  have HM := Lib.hid h
  have HE : Hid (layR i l.length ⟨96, j, f, k⟩ = [⟨2, 0, memK ⟨96, j, f, k⟩, 0, 0, 0, 0⟩]) := Lib.hid (by simp [layR])
  obtain ⟨k0, k1⟩ := hk
  obtain ⟨M, hM⟩ : ∃ M, M = 2 + k % 16 := ⟨_, rfl⟩
  have hMr : 2 + k % 16 = M := hM.symm
  have HMM : Hid (memK ⟨96, j, f, k⟩ = M) := Lib.hid (by unfold memK; exact hMr)
  have hi' : (i : Int) ≤ 4096 := by omega
  clear h hM hj hf
  go_enter Try.func17, Try.ntmps17
  go_wp2_with (go_at_call 35; refine (add_new [⟨2, 0, M, 0, 0, 0, 0⟩] HM.out _ (below_al (below1 w _) _) _ 1 (heap_nw1 w _ _) rfl (by decide) (by omega)).mono ?_; rintro e w2 ⟨rfl, vl2, h2⟩; have H2 := Lib.hid h2; clear h2)
  go_end0
  exact ⟨rfl, vl2, by rw [HE.out, HMM.out]; exact H2.out⟩
set_option maxHeartbeats 1600000 in
theorem lays97 {w0 : World} {B : Nat} {l : List R7} {bg : List Int} {vl vb : Value} (i : Nat) (j f k : Int) (hi : i ≤ 4096) (hj : 0 ≤ j ∧ j < 256) (hf : 0 ≤ f ∧ f < 256) (hk : 0 ≤ k ∧ k < 4294967296) (w : World) (h : MB w0 B l bg vl vb w) (hn : l.length + 4 ≤ 100000) :
    Calls Try.prog 17 #[.pointer (some ⟨B, 0, none⟩), .int .i64 i, .agg #[.int .u16 97, .int .u8 j, .int .u8 f, .int .u32 k]] w (LaysPost w0 B l (layR i l.length ⟨97, j, f, k⟩) bg vb) := by
  have HM := Lib.hid h
  have HE : Hid (layR i l.length ⟨97, j, f, k⟩ = [⟨2, 1, memK ⟨97, j, f, k⟩, 0, 0, 0, 0⟩]) := Lib.hid (by simp [layR])
  obtain ⟨k0, k1⟩ := hk
  obtain ⟨M, hM⟩ : ∃ M, M = 2 + k % 16 := ⟨_, rfl⟩
  have hMr : 2 + k % 16 = M := hM.symm
  have HMM : Hid (memK ⟨97, j, f, k⟩ = M) := Lib.hid (by unfold memK; exact hMr)
  have hi' : (i : Int) ≤ 4096 := by omega
  clear h hM hj hf
  go_enter Try.func17, Try.ntmps17
  go_wp2_with (go_at_call 35; refine (add_new [⟨2, 1, M, 0, 0, 0, 0⟩] HM.out _ (below_al (below1 w _) _) _ 1 (heap_nw1 w _ _) rfl (by decide) (by omega)).mono ?_; rintro e w2 ⟨rfl, vl2, h2⟩; have H2 := Lib.hid h2; clear h2)
  go_end0
  exact ⟨rfl, vl2, by rw [HE.out, HMM.out]; exact H2.out⟩
set_option maxHeartbeats 1600000 in
theorem lays2 {w0 : World} {B : Nat} {l : List R7} {bg : List Int} {vl vb : Value} (i : Nat) (j f k : Int) (hi : i ≤ 4096) (hj : 0 ≤ j ∧ j < 256) (hf : 0 ≤ f ∧ f < 256) (hk : 0 ≤ k ∧ k < 4294967296) (w : World) (h : MB w0 B l bg vl vb w) (hn : l.length + 4 ≤ 100000) :
    Calls Try.prog 17 #[.pointer (some ⟨B, 0, none⟩), .int .i64 i, .agg #[.int .u16 2, .int .u8 j, .int .u8 f, .int .u32 k]] w (LaysPost w0 B l (layR i l.length ⟨2, j, f, k⟩) bg vb) := by
  have HM := Lib.hid h
  have HE : Hid (layR i l.length ⟨2, j, f, k⟩ = [⟨2, memK ⟨2, j, f, k⟩, 0, 0, 0, 0, 0⟩]) := Lib.hid (by simp [layR])
  obtain ⟨k0, k1⟩ := hk
  obtain ⟨M, hM⟩ : ∃ M, M = 2 + k % 16 := ⟨_, rfl⟩
  have hMr : 2 + k % 16 = M := hM.symm
  have HMM : Hid (memK ⟨2, j, f, k⟩ = M) := Lib.hid (by unfold memK; exact hMr)
  have hi' : (i : Int) ≤ 4096 := by omega
  clear h hM hj hf
  go_enter Try.func17, Try.ntmps17
  go_wp2_with (go_at_call 35; refine (add_new [⟨2, M, 0, 0, 0, 0, 0⟩] HM.out _ (below_al (below1 w _) _) _ 1 (heap_nw1 w _ _) rfl (by decide) (by omega)).mono ?_; rintro e w2 ⟨rfl, vl2, h2⟩; have H2 := Lib.hid h2; clear h2)
  go_end0
  exact ⟨rfl, vl2, by rw [HE.out, HMM.out]; exact H2.out⟩
set_option maxHeartbeats 1600000 in
theorem lays3 {w0 : World} {B : Nat} {l : List R7} {bg : List Int} {vl vb : Value} (i : Nat) (j f k : Int) (hi : i ≤ 4096) (hj : 0 ≤ j ∧ j < 256) (hf : 0 ≤ f ∧ f < 256) (hk : 0 ≤ k ∧ k < 4294967296) (w : World) (h : MB w0 B l bg vl vb w) (hn : l.length + 4 ≤ 100000) :
    Calls Try.prog 17 #[.pointer (some ⟨B, 0, none⟩), .int .i64 i, .agg #[.int .u16 3, .int .u8 j, .int .u8 f, .int .u32 k]] w (LaysPost w0 B l (layR i l.length ⟨3, j, f, k⟩) bg vb) := by
  have HM := Lib.hid h
  have HE : Hid (layR i l.length ⟨3, j, f, k⟩ = [⟨2, memK ⟨3, j, f, k⟩, 1, 0, 0, 0, 0⟩]) := Lib.hid (by simp [layR])
  obtain ⟨k0, k1⟩ := hk
  obtain ⟨M, hM⟩ : ∃ M, M = 2 + k % 16 := ⟨_, rfl⟩
  have hMr : 2 + k % 16 = M := hM.symm
  have HMM : Hid (memK ⟨3, j, f, k⟩ = M) := Lib.hid (by unfold memK; exact hMr)
  have hi' : (i : Int) ≤ 4096 := by omega
  clear h hM hj hf
  go_enter Try.func17, Try.ntmps17
  go_wp2_with (go_at_call 35; refine (add_new [⟨2, M, 1, 0, 0, 0, 0⟩] HM.out _ (below_al (below1 w _) _) _ 1 (heap_nw1 w _ _) rfl (by decide) (by omega)).mono ?_; rintro e w2 ⟨rfl, vl2, h2⟩; have H2 := Lib.hid h2; clear h2)
  go_end0
  exact ⟨rfl, vl2, by rw [HE.out, HMM.out]; exact H2.out⟩
set_option maxHeartbeats 1600000 in
theorem lays7 {w0 : World} {B : Nat} {l : List R7} {bg : List Int} {vl vb : Value} (i : Nat) (j f k : Int) (hi : i ≤ 4096) (hj : 0 ≤ j ∧ j < 256) (hf : 0 ≤ f ∧ f < 256) (hk : 0 ≤ k ∧ k < 4294967296) (w : World) (h : MB w0 B l bg vl vb w) (hn : l.length + 4 ≤ 100000) :
    Calls Try.prog 17 #[.pointer (some ⟨B, 0, none⟩), .int .i64 i, .agg #[.int .u16 7, .int .u8 j, .int .u8 f, .int .u32 k]] w (LaysPost w0 B l (layR i l.length ⟨7, j, f, k⟩) bg vb) := by
  have HM := Lib.hid h
  have HE : Hid (layR i l.length ⟨7, j, f, k⟩ = [⟨2, 1, 0, 0, 0, 0, 0⟩]) := Lib.hid (by simp [layR])
  obtain ⟨k0, k1⟩ := hk
  obtain ⟨M, hM⟩ : ∃ M, M = 2 + k % 16 := ⟨_, rfl⟩
  have hMr : 2 + k % 16 = M := hM.symm
  have HMM : Hid (memK ⟨7, j, f, k⟩ = M) := Lib.hid (by unfold memK; exact hMr)
  have hi' : (i : Int) ≤ 4096 := by omega
  clear h hM hj hf
  go_enter Try.func17, Try.ntmps17
  go_wp2_with (go_at_call 35; refine (add_new [⟨2, 1, 0, 0, 0, 0, 0⟩] HM.out _ (below_al (below1 w _) _) _ 1 (heap_nw1 w _ _) rfl (by decide) (by omega)).mono ?_; rintro e w2 ⟨rfl, vl2, h2⟩; have H2 := Lib.hid h2; clear h2)
  go_end0
  exact ⟨rfl, vl2, by rw [HE.out]; exact H2.out⟩
set_option maxHeartbeats 1600000 in
theorem lays135 {w0 : World} {B : Nat} {l : List R7} {bg : List Int} {vl vb : Value} (i : Nat) (j f k : Int) (hi : i ≤ 4096) (hj : 0 ≤ j ∧ j < 256) (hf : 0 ≤ f ∧ f < 256) (hk : 0 ≤ k ∧ k < 4294967296) (w : World) (h : MB w0 B l bg vl vb w) (hn : l.length + 4 ≤ 100000) :
    Calls Try.prog 17 #[.pointer (some ⟨B, 0, none⟩), .int .i64 i, .agg #[.int .u16 135, .int .u8 j, .int .u8 f, .int .u32 k]] w (LaysPost w0 B l (layR i l.length ⟨135, j, f, k⟩) bg vb) := by
  have HM := Lib.hid h
  have HE : Hid (layR i l.length ⟨135, j, f, k⟩ = [⟨2, 0, 1, 0, 0, 0, 0⟩]) := Lib.hid (by simp [layR])
  obtain ⟨k0, k1⟩ := hk
  obtain ⟨M, hM⟩ : ∃ M, M = 2 + k % 16 := ⟨_, rfl⟩
  have hMr : 2 + k % 16 = M := hM.symm
  have HMM : Hid (memK ⟨135, j, f, k⟩ = M) := Lib.hid (by unfold memK; exact hMr)
  have hi' : (i : Int) ≤ 4096 := by omega
  clear h hM hj hf
  go_enter Try.func17, Try.ntmps17
  go_wp2_with (go_at_call 35; refine (add_new [⟨2, 0, 1, 0, 0, 0, 0⟩] HM.out _ (below_al (below1 w _) _) _ 1 (heap_nw1 w _ _) rfl (by decide) (by omega)).mono ?_; rintro e w2 ⟨rfl, vl2, h2⟩; have H2 := Lib.hid h2; clear h2)
  go_end0
  exact ⟨rfl, vl2, by rw [HE.out]; exact H2.out⟩
set_option maxHeartbeats 1600000 in
theorem lays132 {w0 : World} {B : Nat} {l : List R7} {bg : List Int} {vl vb : Value} (i : Nat) (j f k : Int) (hi : i ≤ 4096) (hj : 0 ≤ j ∧ j < 256) (hf : 0 ≤ f ∧ f < 256) (hk : 0 ≤ k ∧ k < 4294967296) (w : World) (h : MB w0 B l bg vl vb w) (hn : l.length + 4 ≤ 100000) :
    Calls Try.prog 17 #[.pointer (some ⟨B, 0, none⟩), .int .i64 i, .agg #[.int .u16 132, .int .u8 j, .int .u8 f, .int .u32 k]] w (LaysPost w0 B l (layR i l.length ⟨132, j, f, k⟩) bg vb) := by
  have HM := Lib.hid h
  have HE : Hid (layR i l.length ⟨132, j, f, k⟩ = [⟨13, 0, 0, 0, 0, 0, 0⟩]) := Lib.hid (by simp [layR])
  obtain ⟨k0, k1⟩ := hk
  obtain ⟨M, hM⟩ : ∃ M, M = 2 + k % 16 := ⟨_, rfl⟩
  have hMr : 2 + k % 16 = M := hM.symm
  have HMM : Hid (memK ⟨132, j, f, k⟩ = M) := Lib.hid (by unfold memK; exact hMr)
  have hi' : (i : Int) ≤ 4096 := by omega
  clear h hM hj hf
  go_enter Try.func17, Try.ntmps17
  go_wp2_with (go_at_call 35; refine (add_new [⟨13, 0, 0, 0, 0, 0, 0⟩] HM.out _ (below_al (below1 w _) _) _ 1 (heap_nw1 w _ _) rfl (by decide) (by omega)).mono ?_; rintro e w2 ⟨rfl, vl2, h2⟩; have H2 := Lib.hid h2; clear h2)
  go_end0
  exact ⟨rfl, vl2, by rw [HE.out]; exact H2.out⟩
set_option maxHeartbeats 1600000 in
theorem lays6 {w0 : World} {B : Nat} {l : List R7} {bg : List Int} {vl vb : Value} (i : Nat) (j f k : Int) (hi : i ≤ 4096) (hj : 0 ≤ j ∧ j < 256) (hf : 0 ≤ f ∧ f < 256) (hk : 0 ≤ k ∧ k < 4294967296) (w : World) (h : MB w0 B l bg vl vb w) (hn : l.length + 4 ≤ 100000) :
    Calls Try.prog 17 #[.pointer (some ⟨B, 0, none⟩), .int .i64 i, .agg #[.int .u16 6, .int .u8 j, .int .u8 f, .int .u32 k]] w (LaysPost w0 B l (layR i l.length ⟨6, j, f, k⟩) bg vb) := by
  have HM := Lib.hid h
  have HE : Hid (layR i l.length ⟨6, j, f, k⟩ = [⟨1, 18, 0, 0, k, 0, 0⟩, ⟨19, 0, 18, 0, 0, 0, 0⟩]) := Lib.hid (by simp [layR])
  obtain ⟨k0, k1⟩ := hk
  obtain ⟨M, hM⟩ : ∃ M, M = 2 + k % 16 := ⟨_, rfl⟩
  have hMr : 2 + k % 16 = M := hM.symm
  have HMM : Hid (memK ⟨6, j, f, k⟩ = M) := Lib.hid (by unfold memK; exact hMr)
  have hi' : (i : Int) ≤ 4096 := by omega
  clear h hM hj hf
  go_enter Try.func17, Try.ntmps17
  go_wp2_with fail
  go_region_law (go_simp; go_at_call 35; refine (add_new [⟨1, 18, 0, 0, k, 0, 0⟩, ⟨19, 0, 18, 0, 0, 0, 0⟩] HM.out _ (below_dr (below_al (below1 w _) _)) _ 2 (heap_nw1d w _ _) rfl (by decide) (by omega)).mono ?_; rintro e w2 ⟨rfl, vl2, h2⟩; have H2 := Lib.hid h2; clear h2)
  all_goals (
    go_wp2
    go_end0
    exact ⟨rfl, vl2, by rw [HE.out]; exact H2.out⟩)
set_option maxHeartbeats 1600000 in
theorem lays22 {w0 : World} {B : Nat} {l : List R7} {bg : List Int} {vl vb : Value} (i : Nat) (j f k : Int) (hi : i ≤ 4096) (hj : 0 ≤ j ∧ j < 256) (hf : 0 ≤ f ∧ f < 256) (hk : 0 ≤ k ∧ k < 4294967296) (w : World) (h : MB w0 B l bg vl vb w) (hn : l.length + 4 ≤ 100000) :
    Calls Try.prog 17 #[.pointer (some ⟨B, 0, none⟩), .int .i64 i, .agg #[.int .u16 22, .int .u8 j, .int .u8 f, .int .u32 k]] w (LaysPost w0 B l (layR i l.length ⟨22, j, f, k⟩) bg vb) := by
  have HM := Lib.hid h
  have HE : Hid (layR i l.length ⟨22, j, f, k⟩ = [⟨19, 0, 0, 0, 0, 0, 0⟩]) := Lib.hid (by simp [layR])
  obtain ⟨k0, k1⟩ := hk
  obtain ⟨M, hM⟩ : ∃ M, M = 2 + k % 16 := ⟨_, rfl⟩
  have hMr : 2 + k % 16 = M := hM.symm
  have HMM : Hid (memK ⟨22, j, f, k⟩ = M) := Lib.hid (by unfold memK; exact hMr)
  have hi' : (i : Int) ≤ 4096 := by omega
  clear h hM hj hf
  go_enter Try.func17, Try.ntmps17
  go_wp2_with (go_at_call 35; refine (add_new [⟨19, 0, 0, 0, 0, 0, 0⟩] HM.out _ (below_al (below1 w _) _) _ 1 (heap_nw1 w _ _) rfl (by decide) (by omega)).mono ?_; rintro e w2 ⟨rfl, vl2, h2⟩; have H2 := Lib.hid h2; clear h2)
  go_end0
  exact ⟨rfl, vl2, by rw [HE.out]; exact H2.out⟩
set_option maxHeartbeats 1600000 in
theorem lays5 {w0 : World} {B : Nat} {l : List R7} {bg : List Int} {vl vb : Value} (i : Nat) (j f k : Int) (hi : i ≤ 4096) (hj : 0 ≤ j ∧ j < 256) (hf : 0 ≤ f ∧ f < 256) (hk : 0 ≤ k ∧ k < 4294967296) (w : World) (h : MB w0 B l bg vl vb w) (hn : l.length + 4 ≤ 100000) :
    Calls Try.prog 17 #[.pointer (some ⟨B, 0, none⟩), .int .i64 i, .agg #[.int .u16 5, .int .u8 j, .int .u8 f, .int .u32 k]] w (LaysPost w0 B l (layR i l.length ⟨5, j, f, k⟩) bg vb) := by
  have HM := Lib.hid h
  have HE : Hid (layR i l.length ⟨5, j, f, k⟩ = [⟨14, 0, 0, 0, 0, (i : Int) + 1 + k, 0⟩]) := Lib.hid (by simp [layR])
  obtain ⟨k0, k1⟩ := hk
  obtain ⟨M, hM⟩ : ∃ M, M = 2 + k % 16 := ⟨_, rfl⟩
  have hMr : 2 + k % 16 = M := hM.symm
  have HMM : Hid (memK ⟨5, j, f, k⟩ = M) := Lib.hid (by unfold memK; exact hMr)
  have hi' : (i : Int) ≤ 4096 := by omega
  clear h hM hj hf
  have w1 : IntKind.i64.wrap ((i : Int) + 1) = i + 1 := by rw [IntWalk.i64_in] <;> omega
  have w2 : IntKind.i64.wrap k = k := by rw [IntWalk.i64_in] <;> omega
  have w3 : IntKind.i64.wrap ((i : Int) + 1 + k) = i + 1 + k := by rw [IntWalk.i64_in] <;> omega
  go_enter Try.func17, Try.ntmps17
  go_wp2_with fail
  go_region_law (go_simp; go_at_call 35; refine (add_new [⟨14, 0, 0, 0, 0, (i : Int) + 1 + k, 0⟩] HM.out _ (below_dr (below_al (below1 w _) _)) _ 1 (heap_nw1d w _ _) rfl (by decide) (by omega)).mono ?_; rintro e w2 ⟨rfl, vl2, h2⟩; have H2 := Lib.hid h2; clear h2)
  all_goals (
    go_wp2
    go_end0
    exact ⟨rfl, vl2, by rw [HE.out]; exact H2.out⟩)
set_option maxHeartbeats 1600000 in
theorem lays60 {w0 : World} {B : Nat} {l : List R7} {bg : List Int} {vl vb : Value} (i : Nat) (j f k : Int) (hi : i ≤ 4096) (hj : 0 ≤ j ∧ j < 256) (hf : 0 ≤ f ∧ f < 256) (hk : 0 ≤ k ∧ k < 4294967296) (w : World) (h : MB w0 B l bg vl vb w) (hn : l.length + 4 ≤ 100000) :
    Calls Try.prog 17 #[.pointer (some ⟨B, 0, none⟩), .int .i64 i, .agg #[.int .u16 60, .int .u8 j, .int .u8 f, .int .u32 k]] w (LaysPost w0 B l (layR i l.length ⟨60, j, f, k⟩) bg vb) := by
  have HM := Lib.hid h
  have HE : Hid (layR i l.length ⟨60, j, f, k⟩ = [⟨1, 18, 0, 0, 0, 0, 0⟩, ⟨15, 0, 1, 18, 0, -((l.length : Int) + 2), -((l.length : Int) + 3)⟩, ⟨19, 0, 18, 0, 0, 0, 0⟩, ⟨7, 0, 0, 1, 0, 0, 0⟩]) := Lib.hid (by simp [layR])
  obtain ⟨k0, k1⟩ := hk
  obtain ⟨M, hM⟩ : ∃ M, M = 2 + k % 16 := ⟨_, rfl⟩
  have hMr : 2 + k % 16 = M := hM.symm
  have HMM : Hid (memK ⟨60, j, f, k⟩ = M) := Lib.hid (by unfold memK; exact hMr)
  have hi' : (i : Int) ≤ 4096 := by omega
  clear h hM hj hf
  obtain ⟨Al, cl, hvl⟩ : ∃ Al cl, vl = .slice Al l.length cl := by
    rcases HM.out.ol.2 with ⟨h, h2⟩ | ⟨g', cap', cur, h, _⟩
    · exact ⟨none, 0, by rw [h, h2]⟩
    · exact ⟨_, _, h⟩
  subst hvl
  have cB := keepC (below1 w (.cells #[.int .u16 60, .int .u8 j, .int .u8 f, .int .u32 k] 47)) HM.out.c.1
  have hl : (l.length : Int) ≤ 100000 := by omega
  go_enter Try.func17, Try.ntmps17
  go_wp2_with (go_at_call 35; refine (add_new [⟨1, 18, 0, 0, 0, 0, 0⟩, ⟨15, 0, 1, 18, 0, -((l.length : Int) + 2), -((l.length : Int) + 3)⟩, ⟨19, 0, 18, 0, 0, 0, 0⟩, ⟨7, 0, 0, 1, 0, 0, 0⟩] HM.out _ (below_al (below1 w _) _) _ 4 (heap_nw1 w _ _) rfl (by decide) (by omega)).mono ?_; rintro e w2 ⟨rfl, vl2, h2⟩; have H2 := Lib.hid h2; clear h2)
  go_end0
  exact ⟨rfl, vl2, by rw [HE.out]; exact H2.out⟩
end Go.Proofs.Ytehpoamideeehaa
