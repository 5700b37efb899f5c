import Derived.Test.YtehpoamideeehaaMirFW1
import Derived.Test.YtehpoamideeehaaMirFromP
import Derived.Test.YtehpoamideeehaaMirW1
import Derived.Test.YtehpoamideeehaaMirOwn
import Derived.LaidEqlPtr
import Derived.Deep.AppendLies
import Derived.Deep.RegionLaw
import Derived.Test.YtehpoamideeehaaCheckW4
set_option linter.unusedVariables false
set_option linter.unusedSimpArgs false
set_option maxRecDepth 100000
namespace Go.Proofs.Ytehpoamideeehaa
open Go.RowKit
/-! mir.builder's lays: the walk, code by code. (Printed by gen/mirfw2.py.) -/
theorem heap_nw1 (W : World) (o o' : Obj) : ((W.alloc o).alloc o').heap[W.heap.size + 1]? = some o' := heap_nw1d W o o'
def LaysPost (w0 : World) (B : Nat) (l ys : List R7) (bg : List Int) (vb : Value) (e : Ending) (w' : World) : Prop := e = .returned (.tuple #[]) ∧ ∃ vl', MB w0 B (l ++ ys) bg vl' vb w'
set_option maxHeartbeats 1600000 in
theorem lays32 {w0 : World} {B : Nat} {l : List R7} {bg : List Int} {vl vb : Value} (i : Nat) (j f k : Int) (hi : i ≤ 4096) (hj : 0 ≤ j ∧ j < 256) (hf : 0 ≤ f ∧ f < 256) (hk : 0 ≤ k ∧ k < 4294967296) (w : World) (h : MB w0 B l bg vl vb w) (hn : l.length + 4 ≤ 100000) :
    Calls Try.prog 17 #[.pointer (some ⟨B, 0, none⟩), .int .i64 i, .agg #[.int .u16 32, .int .u8 j, .int .u8 f, .int .u32 k]] w (LaysPost w0 B l (layR i l.length ⟨32, j, f, k⟩) bg vb) := by
  have HM := Lib.hid h
  have HE : Hid (layR i l.length ⟨32, j, f, k⟩ = [⟨3, 0, 0, 0, k, 0, 0⟩]) := Lib.hid (by simp [layR])
  obtain ⟨k0, k1⟩ := hk
  obtain ⟨M, hM⟩ : ∃ M, M = 2 + k % 16 := ⟨_, rfl⟩
  have hMr : 2 + k % 16 = M := hM.symm
  have HMM : Hid (memK ⟨32, j, f, k⟩ = M) := Lib.hid (by unfold memK; exact hMr)
  have hi' : (i : Int) ≤ 4096 := by omega
  clear h hM hj hf
  go_enter Try.func17, Try.ntmps17
  go_wp2_with fail
  go_region_law (go_simp; go_at_call 35; refine (add_new [⟨3, 0, 0, 0, k, 0, 0⟩] HM.out _ (below_dr (below_al (below1 w _) _)) _ 1 (heap_nw1d w _ _) rfl (by decide) (by omega)).mono ?_; rintro e w2 ⟨rfl, vl2, h2⟩; have H2 := Lib.hid h2; clear h2)
  all_goals (
    go_wp2
    go_end0
    exact ⟨rfl, vl2, by rw [HE.out]; exact H2.out⟩)
set_option maxHeartbeats 1600000 in
theorem lays128 {w0 : World} {B : Nat} {l : List R7} {bg : List Int} {vl vb : Value} (i : Nat) (j f k : Int) (hi : i ≤ 4096) (hj : 0 ≤ j ∧ j < 256) (hf : 0 ≤ f ∧ f < 256) (hk : 0 ≤ k ∧ k < 4294967296) (w : World) (h : MB w0 B l bg vl vb w) (hn : l.length + 4 ≤ 100000) :
    Calls Try.prog 17 #[.pointer (some ⟨B, 0, none⟩), .int .i64 i, .agg #[.int .u16 128, .int .u8 j, .int .u8 f, .int .u32 k]] w (LaysPost w0 B l (layR i l.length ⟨128, j, f, k⟩) bg vb) := by
  have HM := Lib.hid h
  have HE : Hid (layR i l.length ⟨128, j, f, k⟩ = [⟨1, 0, 0, 0, 64, 0, 0⟩]) := Lib.hid (by simp [layR])
  obtain ⟨k0, k1⟩ := hk
  obtain ⟨M, hM⟩ : ∃ M, M = 2 + k % 16 := ⟨_, rfl⟩
  have hMr : 2 + k % 16 = M := hM.symm
  have HMM : Hid (memK ⟨128, j, f, k⟩ = M) := Lib.hid (by unfold memK; exact hMr)
  have hi' : (i : Int) ≤ 4096 := by omega
  clear h hM hj hf
  go_enter Try.func17, Try.ntmps17
  go_wp2_with (go_at_call 35; refine (add_new [⟨1, 0, 0, 0, 64, 0, 0⟩] HM.out _ (below_al (below1 w _) _) _ 1 (heap_nw1 w _ _) rfl (by decide) (by omega)).mono ?_; rintro e w2 ⟨rfl, vl2, h2⟩; have H2 := Lib.hid h2; clear h2)
  go_end0
  exact ⟨rfl, vl2, by rw [HE.out]; exact H2.out⟩
set_option maxHeartbeats 1600000 in
theorem lays129 {w0 : World} {B : Nat} {l : List R7} {bg : List Int} {vl vb : Value} (i : Nat) (j f k : Int) (hi : i ≤ 4096) (hj : 0 ≤ j ∧ j < 256) (hf : 0 ≤ f ∧ f < 256) (hk : 0 ≤ k ∧ k < 4294967296) (w : World) (h : MB w0 B l bg vl vb w) (hn : l.length + 4 ≤ 100000) :
    Calls Try.prog 17 #[.pointer (some ⟨B, 0, none⟩), .int .i64 i, .agg #[.int .u16 129, .int .u8 j, .int .u8 f, .int .u32 k]] w (LaysPost w0 B l (layR i l.length ⟨129, j, f, k⟩) bg vb) := by
  have HM := Lib.hid h
  have HE : Hid (layR i l.length ⟨129, j, f, k⟩ = [⟨1, 1, 0, 0, 64, 0, 0⟩]) := Lib.hid (by simp [layR])
  obtain ⟨k0, k1⟩ := hk
  obtain ⟨M, hM⟩ : ∃ M, M = 2 + k % 16 := ⟨_, rfl⟩
  have hMr : 2 + k % 16 = M := hM.symm
  have HMM : Hid (memK ⟨129, j, f, k⟩ = M) := Lib.hid (by unfold memK; exact hMr)
  have hi' : (i : Int) ≤ 4096 := by omega
  clear h hM hj hf
  go_enter Try.func17, Try.ntmps17
  go_wp2_with (go_at_call 35; refine (add_new [⟨1, 1, 0, 0, 64, 0, 0⟩] HM.out _ (below_al (below1 w _) _) _ 1 (heap_nw1 w _ _) rfl (by decide) (by omega)).mono ?_; rintro e w2 ⟨rfl, vl2, h2⟩; have H2 := Lib.hid h2; clear h2)
  go_end0
  exact ⟨rfl, vl2, by rw [HE.out]; exact H2.out⟩
set_option maxHeartbeats 1600000 in
theorem lays0 {w0 : World} {B : Nat} {l : List R7} {bg : List Int} {vl vb : Value} (i : Nat) (j f k : Int) (hi : i ≤ 4096) (hj : 0 ≤ j ∧ j < 256) (hf : 0 ≤ f ∧ f < 256) (hk : 0 ≤ k ∧ k < 4294967296) (w : World) (h : MB w0 B l bg vl vb w) (hn : l.length + 4 ≤ 100000) :
    Calls Try.prog 17 #[.pointer (some ⟨B, 0, none⟩), .int .i64 i, .agg #[.int .u16 0, .int .u8 j, .int .u8 f, .int .u32 k]] w (LaysPost w0 B l (layR i l.length ⟨0, j, f, k⟩) bg vb) := by
  have HM := Lib.hid h
  have HE : Hid (layR i l.length ⟨0, j, f, k⟩ = [⟨1, 0, 0, 0, k, 0, 0⟩]) := Lib.hid (by simp [layR])
  obtain ⟨k0, k1⟩ := hk
  obtain ⟨M, hM⟩ : ∃ M, M = 2 + k % 16 := ⟨_, rfl⟩
  have hMr : 2 + k % 16 = M := hM.symm
  have HMM : Hid (memK ⟨0, j, f, k⟩ = M) := Lib.hid (by unfold memK; exact hMr)
  have hi' : (i : Int) ≤ 4096 := by omega
  clear h hM hj hf
  go_enter Try.func17, Try.ntmps17
  go_wp2_with fail
  go_region_law (go_simp; go_at_call 35; refine (add_new [⟨1, 0, 0, 0, k, 0, 0⟩] HM.out _ (below_dr (below_al (below1 w _) _)) _ 1 (heap_nw1d w _ _) rfl (by decide) (by omega)).mono ?_; rintro e w2 ⟨rfl, vl2, h2⟩; have H2 := Lib.hid h2; clear h2)
  all_goals (
    go_wp2
    go_end0
    exact ⟨rfl, vl2, by rw [HE.out]; exact H2.out⟩)
set_option maxHeartbeats 1600000 in
theorem lays1 {w0 : World} {B : Nat} {l : List R7} {bg : List Int} {vl vb : Value} (i : Nat) (j f k : Int) (hi : i ≤ 4096) (hj : 0 ≤ j ∧ j < 256) (hf : 0 ≤ f ∧ f < 256) (hk : 0 ≤ k ∧ k < 4294967296) (w : World) (h : MB w0 B l bg vl vb w) (hn : l.length + 4 ≤ 100000) :
    Calls Try.prog 17 #[.pointer (some ⟨B, 0, none⟩), .int .i64 i, .agg #[.int .u16 1, .int .u8 j, .int .u8 f, .int .u32 k]] w (LaysPost w0 B l (layR i l.length ⟨1, j, f, k⟩) bg vb) := by
  have HM := Lib.hid h
  have HE : Hid (layR i l.length ⟨1, j, f, k⟩ = [⟨1, 1, 0, 0, k, 0, 0⟩]) := Lib.hid (by simp [layR])
  obtain ⟨k0, k1⟩ := hk
  obtain ⟨M, hM⟩ : ∃ M, M = 2 + k % 16 := ⟨_, rfl⟩
  have hMr : 2 + k % 16 = M := hM.symm
  have HMM : Hid (memK ⟨1, j, f, k⟩ = M) := Lib.hid (by unfold memK; exact hMr)
  have hi' : (i : Int) ≤ 4096 := by omega
  clear h hM hj hf
  go_enter Try.func17, Try.ntmps17
  go_wp2_with fail
  go_region_law (go_simp; go_at_call 35; refine (add_new [⟨1, 1, 0, 0, k, 0, 0⟩] HM.out _ (below_dr (below_al (below1 w _) _)) _ 1 (heap_nw1d w _ _) rfl (by decide) (by omega)).mono ?_; rintro e w2 ⟨rfl, vl2, h2⟩; have H2 := Lib.hid h2; clear h2)
  all_goals (
    go_wp2
    go_end0
    exact ⟨rfl, vl2, by rw [HE.out]; exact H2.out⟩)
set_option maxHeartbeats 1600000 in
theorem lays96 {w0 : World} {B : Nat} {l : List R7} {bg : List Int} {vl vb : Value} (i : Nat) (j f k : Int) (hi : i ≤ 4096) (hj : 0 ≤ j ∧ j < 256) (hf : 0 ≤ f ∧ f < 256) (hk : 0 ≤ k ∧ k < 4294967296) (w : World) (h : MB w0 B l bg vl vb w) (hn : l.length + 4 ≤ 100000) :
    Calls Try.prog 17 #[.pointer (some ⟨B, 0, none⟩), .int .i64 i, .agg #[.int .u16 96, .int .u8 j, .int .u8 f, .int .u32 k]] w (LaysPost w0 B l (layR i l.length ⟨96, j, f, k⟩) bg vb) := by
  have HM := Lib.hid h
  have HE : Hid (layR i l.length ⟨96, j, f, k⟩ = [⟨2, 0, memK ⟨96, j, f, k⟩, 0, 0, 0, 0⟩]) := Lib.hid (by simp [layR])
  obtain ⟨k0, k1⟩ := hk
  obtain ⟨M, hM⟩ : ∃ M, M = 2 + k % 16 := ⟨_, rfl⟩
  have hMr : 2 + k % 16 = M := hM.symm
  have HMM : Hid (memK ⟨96, j, f, k⟩ = M) := Lib.hid (by unfold memK; exact hMr)
  have hi' : (i : Int) ≤ 4096 := by omega
  clear h hM hj hf
  go_enter Try.func17, Try.ntmps17
  go_wp2_with (go_at_call 35; refine (add_new [⟨2, 0, M, 0, 0, 0, 0⟩] HM.out _ (below_al (below1 w _) _) _ 1 (heap_nw1 w _ _) rfl (by decide) (by omega)).mono ?_; rintro e w2 ⟨rfl, vl2, h2⟩; have H2 := Lib.hid h2; clear h2)
  go_end0
  exact ⟨rfl, vl2, by rw [HE.out, HMM.out]; exact H2.out⟩
set_option maxHeartbeats 1600000 in
theorem lays97 {w0 : World} {B : Nat} {l : List R7} {bg : List Int} {vl vb : Value} (i : Nat) (j f k : Int) (hi : i ≤ 4096) (hj : 0 ≤ j ∧ j < 256) (hf : 0 ≤ f ∧ f < 256) (hk : 0 ≤ k ∧ k < 4294967296) (w : World) (h : MB w0 B l bg vl vb w) (hn : l.length + 4 ≤ 100000) :
    Calls Try.prog 17 #[.pointer (some ⟨B, 0, none⟩), .int .i64 i, .agg #[.int .u16 97, .int .u8 j, .int .u8 f, .int .u32 k]] w (LaysPost w0 B l (layR i l.length ⟨97, j, f, k⟩) bg vb) := by
  have HM := Lib.hid h
  have HE : Hid (layR i l.length ⟨97, j, f, k⟩ = [⟨2, 1, memK ⟨97, j, f, k⟩, 0, 0, 0, 0⟩]) := Lib.hid (by simp [layR])
  obtain ⟨k0, k1⟩ := hk
  obtain ⟨M, hM⟩ : ∃ M, M = 2 + k % 16 := ⟨_, rfl⟩
  have hMr : 2 + k % 16 = M := hM.symm
  have HMM : Hid (memK ⟨97, j, f, k⟩ = M) := Lib.hid (by unfold memK; exact hMr)
  have hi' : (i : Int) ≤ 4096 := by omega
  clear h hM hj hf
  go_enter Try.func17, Try.ntmps17
  go_wp2_with (go_at_call 35; refine (add_new [⟨2, 1, M, 0, 0, 0, 0⟩] HM.out _ (below_al (below1 w _) _) _ 1 (heap_nw1 w _ _) rfl (by decide) (by omega)).mono ?_; rintro e w2 ⟨rfl, vl2, h2⟩; have H2 := Lib.hid h2; clear h2)
  go_end0
  exact ⟨rfl, vl2, by rw [HE.out, HMM.out]; exact H2.out⟩
set_option maxHeartbeats 1600000 in
theorem lays2 {w0 : World} {B : Nat} {l : List R7} {bg : List Int} {vl vb : Value} (i : Nat) (j f k : Int) (hi : i ≤ 4096) (hj : 0 ≤ j ∧ j < 256) (hf : 0 ≤ f ∧ f < 256) (hk : 0 ≤ k ∧ k < 4294967296) (w : World) (h : MB w0 B l bg vl vb w) (hn : l.length + 4 ≤ 100000) :
    Calls Try.prog 17 #[.pointer (some ⟨B, 0, none⟩), .int .i64 i, .agg #[.int .u16 2, .int .u8 j, .int .u8 f, .int .u32 k]] w (LaysPost w0 B l (layR i l.length ⟨2, j, f, k⟩) bg vb) := by
  have HM := Lib.hid h
  have HE : Hid (layR i l.length ⟨2, j, f, k⟩ = [⟨2, memK ⟨2, j, f, k⟩, 0, 0, 0, 0, 0⟩]) := Lib.hid (by simp [layR])
  obtain ⟨k0, k1⟩ := hk
  obtain ⟨M, hM⟩ : ∃ M, M = 2 + k % 16 := ⟨_, rfl⟩
  have hMr : 2 + k % 16 = M := hM.symm
  have HMM : Hid (memK ⟨2, j, f, k⟩ = M) := Lib.hid (by unfold memK; exact hMr)
  have hi' : (i : Int) ≤ 4096 := by omega
  clear h hM hj hf
  go_enter Try.func17, Try.ntmps17
  go_wp2_with (go_at_call 35; refine (add_new [⟨2, M, 0, 0, 0, 0, 0⟩] HM.out _ (below_al (below1 w _) _) _ 1 (heap_nw1 w _ _) rfl (by decide) (by omega)).mono ?_; rintro e w2 ⟨rfl, vl2, h2⟩; have H2 := Lib.hid h2; clear h2)
  go_end0
  exact ⟨rfl, vl2, by rw [HE.out, HMM.out]; exact H2.out⟩
set_option maxHeartbeats 1600000 in
theorem lays3 {w0 : World} {B : Nat} {l : List R7} {bg : List Int} {vl vb : Value} (i : Nat) (j f k : Int) (hi : i ≤ 4096) (hj : 0 ≤ j ∧ j < 256) (hf : 0 ≤ f ∧ f < 256) (hk : 0 ≤ k ∧ k < 4294967296) (w : World) (h : MB w0 B l bg vl vb w) (hn : l.length + 4 ≤ 100000) :
    Calls Try.prog 17 #[.pointer (some ⟨B, 0, none⟩), .int .i64 i, .agg #[.int .u16 3, .int .u8 j, .int .u8 f, .int .u32 k]] w (LaysPost w0 B l (layR i l.length ⟨3, j, f, k⟩) bg vb) := by
  have HM := Lib.hid h
  have HE : Hid (layR i l.length ⟨3, j, f, k⟩ = [⟨2, memK ⟨3, j, f, k⟩, 1, 0, 0, 0, 0⟩]) := Lib.hid (by simp [layR])
  obtain ⟨k0, k1⟩ := hk
  obtain ⟨M, hM⟩ : ∃ M, M = 2 + k % 16 := ⟨_, rfl⟩
  have hMr : 2 + k % 16 = M := hM.symm
  have HMM : Hid (memK ⟨3, j, f, k⟩ = M) := Lib.hid (by unfold memK; exact hMr)
  have hi' : (i : Int) ≤ 4096 := by omega
  clear h hM hj hf
  go_enter Try.func17, Try.ntmps17
  go_wp2_with (go_at_call 35; refine (add_new [⟨2, M, 1, 0, 0, 0, 0⟩] HM.out _ (below_al (below1 w _) _) _ 1 (heap_nw1 w _ _) rfl (by decide) (by omega)).mono ?_; rintro e w2 ⟨rfl, vl2, h2⟩; have H2 := Lib.hid h2; clear h2)
  go_end0
  exact ⟨rfl, vl2, by rw [HE.out, HMM.out]; exact H2.out⟩
set_option maxHeartbeats 1600000 in
theorem lays7 {w0 : World} {B : Nat} {l : List R7} {bg : List Int} {vl vb : Value} (i : Nat) (j f k : Int) (hi : i ≤ 4096) (hj : 0 ≤ j ∧ j < 256) (hf : 0 ≤ f ∧ f < 256) (hk : 0 ≤ k ∧ k < 4294967296) (w : World) (h : MB w0 B l bg vl vb w) (hn : l.length + 4 ≤ 100000) :
    Calls Try.prog 17 #[.pointer (some ⟨B, 0, none⟩), .int .i64 i, .agg #[.int .u16 7, .int .u8 j, .int .u8 f, .int .u32 k]] w (LaysPost w0 B l (layR i l.length ⟨7, j, f, k⟩) bg vb) := by
  have HM := Lib.hid h
  have HE : Hid (layR i l.length ⟨7, j, f, k⟩ = [⟨2, 1, 0, 0, 0, 0, 0⟩]) := Lib.hid (by simp [layR])
  obtain ⟨k0, k1⟩ := hk
  obtain ⟨M, hM⟩ : ∃ M, M = 2 + k % 16 := ⟨_, rfl⟩
  have hMr : 2 + k % 16 = M := hM.symm
  have HMM : Hid (memK ⟨7, j, f, k⟩ = M) := Lib.hid (by unfold memK; exact hMr)
  have hi' : (i : Int) ≤ 4096 := by omega
  clear h hM hj hf
  go_enter Try.func17, Try.ntmps17
  go_wp2_with (go_at_call 35; refine (add_new [⟨2, 1, 0, 0, 0, 0, 0⟩] HM.out _ (below_al (below1 w _) _) _ 1 (heap_nw1 w _ _) rfl (by decide) (by omega)).mono ?_; rintro e w2 ⟨rfl, vl2, h2⟩; have H2 := Lib.hid h2; clear h2)
  go_end0
  exact ⟨rfl, vl2, by rw [HE.out]; exact H2.out⟩
set_option maxHeartbeats 1600000 in
theorem lays135 {w0 : World} {B : Nat} {l : List R7} {bg : List Int} {vl vb : Value} (i : Nat) (j f k : Int) (hi : i ≤ 4096) (hj : 0 ≤ j ∧ j < 256) (hf : 0 ≤ f ∧ f < 256) (hk : 0 ≤ k ∧ k < 4294967296) (w : World) (h : MB w0 B l bg vl vb w) (hn : l.length + 4 ≤ 100000) :
    Calls Try.prog 17 #[.pointer (some ⟨B, 0, none⟩), .int .i64 i, .agg #[.int .u16 135, .int .u8 j, .int .u8 f, .int .u32 k]] w (LaysPost w0 B l (layR i l.length ⟨135, j, f, k⟩) bg vb) := by
  have HM := Lib.hid h
  have HE : Hid (layR i l.length ⟨135, j, f, k⟩ = [⟨2, 0, 1, 0, 0, 0, 0⟩]) := Lib.hid (by simp [layR])
  obtain ⟨k0, k1⟩ := hk
  obtain ⟨M, hM⟩ : ∃ M, M = 2 + k % 16 := ⟨_, rfl⟩
  have hMr : 2 + k % 16 = M := hM.symm
  have HMM : Hid (memK ⟨135, j, f, k⟩ = M) := Lib.hid (by unfold memK; exact hMr)
  have hi' : (i : Int) ≤ 4096 := by omega
  clear h hM hj hf
  go_enter Try.func17, Try.ntmps17
  go_wp2_with (go_at_call 35; refine (add_new [⟨2, 0, 1, 0, 0, 0, 0⟩] HM.out _ (below_al (below1 w _) _) _ 1 (heap_nw1 w _ _) rfl (by decide) (by omega)).mono ?_; rintro e w2 ⟨rfl, vl2, h2⟩; have H2 := Lib.hid h2; clear h2)
  go_end0
  exact ⟨rfl, vl2, by rw [HE.out]; exact H2.out⟩
set_option maxHeartbeats 1600000 in
theorem lays132 {w0 : World} {B : Nat} {l : List R7} {bg : List Int} {vl vb : Value} (i : Nat) (j f k : Int) (hi : i ≤ 4096) (hj : 0 ≤ j ∧ j < 256) (hf : 0 ≤ f ∧ f < 256) (hk : 0 ≤ k ∧ k < 4294967296) (w : World) (h : MB w0 B l bg vl vb w) (hn : l.length + 4 ≤ 100000) :
    Calls Try.prog 17 #[.pointer (some ⟨B, 0, none⟩), .int .i64 i, .agg #[.int .u16 132, .int .u8 j, .int .u8 f, .int .u32 k]] w (LaysPost w0 B l (layR i l.length ⟨132, j, f, k⟩) bg vb) := by
  have HM := Lib.hid h
  have HE : Hid (layR i l.length ⟨132, j, f, k⟩ = [⟨13, 0, 0, 0, 0, 0, 0⟩]) := Lib.hid (by simp [layR])
  obtain ⟨k0, k1⟩ := hk
  obtain ⟨M, hM⟩ : ∃ M, M = 2 + k % 16 := ⟨_, rfl⟩
  have hMr : 2 + k % 16 = M := hM.symm
  have HMM : Hid (memK ⟨132, j, f, k⟩ = M) := Lib.hid (by unfold memK; exact hMr)
  have hi' : (i : Int) ≤ 4096 := by omega
  clear h hM hj hf
  go_enter Try.func17, Try.ntmps17
  go_wp2_with (go_at_call 35; refine (add_new [⟨13, 0, 0, 0, 0, 0, 0⟩] HM.out _ (below_al (below1 w _) _) _ 1 (heap_nw1 w _ _) rfl (by decide) (by omega)).mono ?_; rintro e w2 ⟨rfl, vl2, h2⟩; have H2 := Lib.hid h2; clear h2)
  go_end0
  exact ⟨rfl, vl2, by rw [HE.out]; exact H2.out⟩
set_option maxHeartbeats 1600000 in
theorem lays6 {w0 : World} {B : Nat} {l : List R7} {bg : List Int} {vl vb : Value} (i : Nat) (j f k : Int) (hi : i ≤ 4096) (hj : 0 ≤ j ∧ j < 256) (hf : 0 ≤ f ∧ f < 256) (hk : 0 ≤ k ∧ k < 4294967296) (w : World) (h : MB w0 B l bg vl vb w) (hn : l.length + 4 ≤ 100000) :
    Calls Try.prog 17 #[.pointer (some ⟨B, 0, none⟩), .int .i64 i, .agg #[.int .u16 6, .int .u8 j, .int .u8 f, .int .u32 k]] w (LaysPost w0 B l (layR i l.length ⟨6, j, f, k⟩) bg vb) := by
  have HM := Lib.hid h
  have HE : Hid (layR i l.length ⟨6, j, f, k⟩ = [⟨1, 18, 0, 0, k, 0, 0⟩, ⟨19, 0, 18, 0, 0, 0, 0⟩]) := Lib.hid (by simp [layR])
  obtain ⟨k0, k1⟩ := hk
  obtain ⟨M, hM⟩ : ∃ M, M = 2 + k % 16 := ⟨_, rfl⟩
  have hMr : 2 + k % 16 = M := hM.symm
  have HMM : Hid (memK ⟨6, j, f, k⟩ = M) := Lib.hid (by unfold memK; exact hMr)
  have hi' : (i : Int) ≤ 4096 := by omega
  clear h hM hj hf
  go_enter Try.func17, Try.ntmps17
  go_wp2_with fail
  go_region_law (go_simp; go_at_call 35; refine (add_new [⟨1, 18, 0, 0, k, 0, 0⟩, ⟨19, 0, 18, 0, 0, 0, 0⟩] HM.out _ (below_dr (below_al (below1 w _) _)) _ 2 (heap_nw1d w _ _) rfl (by decide) (by omega)).mono ?_; rintro e w2 ⟨rfl, vl2, h2⟩; have H2 := Lib.hid h2; clear h2)
  all_goals (
    go_wp2
    go_end0
    exact ⟨rfl, vl2, by rw [HE.out]; exact H2.out⟩)
set_option maxHeartbeats 1600000 in
theorem lays22 {w0 : World} {B : Nat} {l : List R7} {bg : List Int} {vl vb : Value} (i : Nat) (j f k : Int) (hi : i ≤ 4096) (hj : 0 ≤ j ∧ j < 256) (hf : 0 ≤ f ∧ f < 256) (hk : 0 ≤ k ∧ k < 4294967296) (w : World) (h : MB w0 B l bg vl vb w) (hn : l.length + 4 ≤ 100000) :
    Calls Try.prog 17 #[.pointer (some ⟨B, 0, none⟩), .int .i64 i, .agg #[.int .u16 22, .int .u8 j, .int .u8 f, .int .u32 k]] w (LaysPost w0 B l (layR i l.length ⟨22, j, f, k⟩) bg vb) := by
  have HM := Lib.hid h
  have HE : Hid (layR i l.length ⟨22, j, f, k⟩ = [⟨19, 0, 0, 0, 0, 0, 0⟩]) := Lib.hid (by simp [layR])
  obtain ⟨k0, k1⟩ := hk
  obtain ⟨M, hM⟩ : ∃ M, M = 2 + k % 16 := ⟨_, rfl⟩
  have hMr : 2 + k % 16 = M := hM.symm
  have HMM : Hid (memK ⟨22, j, f, k⟩ = M) := Lib.hid (by unfold memK; exact hMr)
  have hi' : (i : Int) ≤ 4096 := by omega
  clear h hM hj hf
  go_enter Try.func17, Try.ntmps17
  go_wp2_with (go_at_call 35; refine (add_new [⟨19, 0, 0, 0, 0, 0, 0⟩] HM.out _ (below_al (below1 w _) _) _ 1 (heap_nw1 w _ _) rfl (by decide) (by omega)).mono ?_; rintro e w2 ⟨rfl, vl2, h2⟩; have H2 := Lib.hid h2; clear h2)
  go_end0
  exact ⟨rfl, vl2, by rw [HE.out]; exact H2.out⟩
set_option maxHeartbeats 1600000 in
theorem lays5 {w0 : World} {B : Nat} {l : List R7} {bg : List Int} {vl vb : Value} (i : Nat) (j f k : Int) (hi : i ≤ 4096) (hj : 0 ≤ j ∧ j < 256) (hf : 0 ≤ f ∧ f < 256) (hk : 0 ≤ k ∧ k < 4294967296) (w : World) (h : MB w0 B l bg vl vb w) (hn : l.length + 4 ≤ 100000) :
    Calls Try.prog 17 #[.pointer (some ⟨B, 0, none⟩), .int .i64 i, .agg #[.int .u16 5, .int .u8 j, .int .u8 f, .int .u32 k]] w (LaysPost w0 B l (layR i l.length ⟨5, j, f, k⟩) bg vb) := by
  have HM := Lib.hid h
  have HE : Hid (layR i l.length ⟨5, j, f, k⟩ = [⟨14, 0, 0, 0, 0, (i : Int) + 1 + k, 0⟩]) := Lib.hid (by simp [layR])
  obtain ⟨k0, k1⟩ := hk
  obtain ⟨M, hM⟩ : ∃ M, M = 2 + k % 16 := ⟨_, rfl⟩
  have hMr : 2 + k % 16 = M := hM.symm
  have HMM : Hid (memK ⟨5, j, f, k⟩ = M) := Lib.hid (by unfold memK; exact hMr)
  have hi' : (i : Int) ≤ 4096 := by omega
  clear h hM hj hf
  have w1 : IntKind.i64.wrap ((i : Int) + 1) = i + 1 := by rw [IntWalk.i64_in] <;> omega
  have w2 : IntKind.i64.wrap k = k := by rw [IntWalk.i64_in] <;> omega
  have w3 : IntKind.i64.wrap ((i : Int) + 1 + k) = i + 1 + k := by rw [IntWalk.i64_in] <;> omega
  go_enter Try.func17, Try.ntmps17
  go_wp2_with fail
  go_region_law (go_simp; go_at_call 35; refine (add_new [⟨14, 0, 0, 0, 0, (i : Int) + 1 + k, 0⟩] HM.out _ (below_dr (below_al (below1 w _) _)) _ 1 (heap_nw1d w _ _) rfl (by decide) (by omega)).mono ?_; rintro e w2 ⟨rfl, vl2, h2⟩; have H2 := Lib.hid h2; clear h2)
  all_goals (
    go_wp2
    go_end0
    exact ⟨rfl, vl2, by rw [HE.out]; exact H2.out⟩)
set_option maxHeartbeats 1600000 in
theorem lays60 {w0 : World} {B : Nat} {l : List R7} {bg : List Int} {vl vb : Value} (i : Nat) (j f k : Int) (hi : i ≤ 4096) (hj : 0 ≤ j ∧ j < 256) (hf : 0 ≤ f ∧ f < 256) (hk : 0 ≤ k ∧ k < 4294967296) (w : World) (h : MB w0 B l bg vl vb w) (hn : l.length + 4 ≤ 100000) :
    Calls Try.prog 17 #[.pointer (some ⟨B, 0, none⟩), .int .i64 i, .agg #[.int .u16 60, .int .u8 j, .int .u8 f, .int .u32 k]] w (LaysPost w0 B l (layR i l.length ⟨60, j, f, k⟩) bg vb) := by
  have HM := Lib.hid h
  have HE : Hid (layR i l.length ⟨60, j, f, k⟩ = [⟨1, 18, 0, 0, 0, 0, 0⟩, ⟨15, 0, 1, 18, 0, -((l.length : Int) + 2), -((l.length : Int) + 3)⟩, ⟨19, 0, 18, 0, 0, 0, 0⟩, ⟨7, 0, 0, 1, 0, 0, 0⟩]) := Lib.hid (by simp [layR])
  obtain ⟨k0, k1⟩ := hk
  obtain ⟨M, hM⟩ : ∃ M, M = 2 + k % 16 := ⟨_, rfl⟩
  have hMr : 2 + k % 16 = M := hM.symm
  have HMM : Hid (memK ⟨60, j, f, k⟩ = M) := Lib.hid (by unfold memK; exact hMr)
  have hi' : (i : Int) ≤ 4096 := by omega
  clear h hM hj hf
  obtain ⟨Al, cl, hvl⟩ : ∃ Al cl, vl = .slice Al l.length cl := by
    rcases HM.out.ol.2 with ⟨h, h2⟩ | ⟨g', cap', cur, h, _⟩
    · exact ⟨none, 0, by rw [h, h2]⟩
    · exact ⟨_, _, h⟩
  subst hvl
  have cB := keepC (below1 w (.cells #[.int .u16 60, .int .u8 j, .int .u8 f, .int .u32 k] 47)) HM.out.c.1
  have hl : (l.length : Int) ≤ 100000 := by omega
  go_enter Try.func17, Try.ntmps17
  go_wp2_with (go_at_call 35; refine (add_new [⟨1, 18, 0, 0, 0, 0, 0⟩, ⟨15, 0, 1, 18, 0, -((l.length : Int) + 2), -((l.length : Int) + 3)⟩, ⟨19, 0, 18, 0, 0, 0, 0⟩, ⟨7, 0, 0, 1, 0, 0, 0⟩] HM.out _ (below_al (below1 w _) _) _ 4 (heap_nw1 w _ _) rfl (by decide) (by omega)).mono ?_; rintro e w2 ⟨rfl, vl2, h2⟩; have H2 := Lib.hid h2; clear h2)
  go_end0
  exact ⟨rfl, vl2, by rw [HE.out]; exact H2.out⟩
end Go.Proofs.Ytehpoamideeehaa
set_option linter.unusedVariables false
set_option linter.unusedSimpArgs false
set_option maxRecDepth 100000
namespace Go.Proofs.Ytehpoamideeehaa
open Go.RowKit
/-! mir.builder's lays, of sums and of jumps: the walk. (Printed by gen/mirfw3.py.) -/
theorem heap_nwd (W : World) (o : Obj) : (W.alloc o).drew.heap[W.heap.size]? = some o := heap_nw W o
set_option maxHeartbeats 3200000 in
theorem laysAlu_c {w0 : World} {B : Nat} {l : List R7} {bg : List Int} {vl vb : Value} (i : Nat) (c j f k : Int) (h : c ∈ aluL) (h60 : c ≠ 60) (hi : i ≤ 4096) (hj : 0 ≤ j ∧ j < 256) (hf : 0 ≤ f ∧ f < 256) (hk : 0 ≤ k ∧ k < 4294967296) (w : World) (hm : MB w0 B l bg vl vb w) (hn : l.length + 4 ≤ 100000) :
    Calls Try.prog 17 #[.pointer (some ⟨B, 0, none⟩), .int .i64 i, .agg #[.int .u16 c, .int .u8 j, .int .u8 f, .int .u32 k]] w (LaysPost w0 B l (layR i l.length ⟨c, j, f, k⟩) bg vb) := by
  have HM := Lib.hid hm
  have HE : Hid (layR i l.length ⟨c, j, f, k⟩ = preK ⟨c, j, f, k⟩ ++ [⟨mop c, 0, 0, rk ⟨c, j, f, k⟩, 0, 0, 0⟩]) := Lib.hid (lay_alu (x := ⟨c, j, f, k⟩) i l.length h h60)
  have hfacts : (c == 32) = false ∧ (c == 128) = false ∧ (c == 129) = false ∧ (c == 0) = false ∧ (c == 1) = false ∧ (c == 96) = false ∧ (c == 97) = false ∧ (c == 2) = false ∧ (c == 3) = false ∧ (c == 7) = false ∧ (c == 135) = false ∧ (c == 132) = false ∧ (c == 6) = false ∧ (c == 22) = false ∧ (c == 5) = false ∧ (c == 60) = false ∧ bits .and .u16 c 7 = 4 := by
    have key : ∀ c ∈ aluL, c ≠ 60 → (c == 32) = false ∧ (c == 128) = false ∧ (c == 129) = false ∧ (c == 0) = false ∧ (c == 1) = false ∧ (c == 96) = false ∧ (c == 97) = false ∧ (c == 2) = false ∧ (c == 3) = false ∧ (c == 7) = false ∧ (c == 135) = false ∧ (c == 132) = false ∧ (c == 6) = false ∧ (c == 22) = false ∧ (c == 5) = false ∧ (c == 60) = false ∧ bits .and .u16 c 7 = 4 := by decide +kernel
    exact key c h h60
  obtain ⟨n0, n1, n2, n3, n4, n5, n6, n7, n8, n9, n10, n11, n12, n13, n14, n15, h7⟩ := hfacts
  have HPL : Hid ((preK ⟨c, j, f, k⟩).length ≤ 1) := Lib.hid (by unfold preK; split <;> simp)
  obtain ⟨R, hR⟩ : ∃ R, R = rk ⟨c, j, f, k⟩ := ⟨_, rfl⟩
  rw [← hR] at HE
  have HRR := Lib.hid hR
  obtain ⟨k0, k1⟩ := hk
  obtain ⟨j0, j1⟩ := hj
  obtain ⟨f0, f1⟩ := hf
  have hi' : (i : Int) ≤ 4096 := by omega
  have HK : Hid (∀ w2, Framed B vl (w.alloc (.cells #[.int .u16 c, .int .u8 j, .int .u8 f, .int .u32 k] 47)) w2 → w2.cell? ⟨w.heap.size, 0, none⟩ = some (.int .u16 c) ∧ w2.cell? ⟨w.heap.size, 1, none⟩ = some (.int .u8 j) ∧ w2.cell? ⟨w.heap.size, 2, none⟩ = some (.int .u8 f)) := Lib.hid (fun w2 hfr => by
    have hb := hfr w.heap.size (by simp) (by have := HM.out.lt; omega) (fun e => by have := own_ltM HM.out.ol _ e; omega)
    rw [heap_nw] at hb
    refine ⟨?_, ?_, ?_⟩ <;> simp [World.cell?, hb])
  clear hm h hR h60
  go_enter Try.func17, Try.ntmps17
  go_wp2_with fail
  refine (operand_c ⟨c, j, f, k⟩ _ (HM.out.keep (below1 w _)) (by omega)).mono ?_
  rintro e w2 ⟨rfl, vl2, h2, hfr, -⟩
  rw [← HRR.out]
  obtain ⟨c0, c1, c2⟩ := HK.out w2 hfr
  have H2 := Lib.hid h2
  have HL2 : Hid ((l ++ preK ⟨c, j, f, k⟩).length + 1 ≤ 100000) := Lib.hid (by have := HPL.out; rw [List.length_append]; omega)
  clear h2 hfr
  go_wp2_with fail
  go_region_law (first
    | (go_simp; go_at_call 35; refine (add_new [⟨mop c, 0, 0, R, 0, 0, 0⟩] H2.out _ (below_dr (below1 w2 _)) _ 1 (heap_nwd w2 _) rfl (by decide) HL2.out).mono ?_; rintro e w3 ⟨rfl, vl3, h3⟩; have H3 := Lib.hid h3; clear h3)
    | (go_simp; go_at_call 37; refine (op_c c _).mono ?_; rintro e w' ⟨rfl, rfl⟩))
  all_goals (
    go_wp2
    go_end0
    exact ⟨rfl, vl3, by rw [HE.out, ← List.append_assoc]; exact H3.out⟩)
set_option maxHeartbeats 3200000 in
theorem laysJump_c {w0 : World} {B : Nat} {l : List R7} {bg : List Int} {vl vb : Value} (i : Nat) (c j f k : Int) (h : c ∈ jumpL) (hi : i ≤ 4096) (hj : 0 ≤ j ∧ j < 256) (hf : 0 ≤ f ∧ f < 256) (hk : 0 ≤ k ∧ k < 4294967296) (w : World) (hm : MB w0 B l bg vl vb w) (hn : l.length + 4 ≤ 100000) :
    Calls Try.prog 17 #[.pointer (some ⟨B, 0, none⟩), .int .i64 i, .agg #[.int .u16 c, .int .u8 j, .int .u8 f, .int .u32 k]] w (LaysPost w0 B l (layR i l.length ⟨c, j, f, k⟩) bg vb) := by
  have HM := Lib.hid hm
  have HE : Hid (layR i l.length ⟨c, j, f, k⟩ = preK ⟨c, j, f, k⟩ ++ [⟨mq c, 0, 0, rk ⟨c, j, f, k⟩, 0, (i : Int) + 1 + j, (i : Int) + 1 + f⟩]) := Lib.hid (lay_jump (x := ⟨c, j, f, k⟩) i l.length h)
  have hfacts : (c == 32) = false ∧ (c == 128) = false ∧ (c == 129) = false ∧ (c == 0) = false ∧ (c == 1) = false ∧ (c == 96) = false ∧ (c == 97) = false ∧ (c == 2) = false ∧ (c == 3) = false ∧ (c == 7) = false ∧ (c == 135) = false ∧ (c == 132) = false ∧ (c == 6) = false ∧ (c == 22) = false ∧ (c == 5) = false ∧ (c == 60) = false ∧ bits .and .u16 c 7 = 5 := by
    have key : ∀ c ∈ jumpL, (c == 32) = false ∧ (c == 128) = false ∧ (c == 129) = false ∧ (c == 0) = false ∧ (c == 1) = false ∧ (c == 96) = false ∧ (c == 97) = false ∧ (c == 2) = false ∧ (c == 3) = false ∧ (c == 7) = false ∧ (c == 135) = false ∧ (c == 132) = false ∧ (c == 6) = false ∧ (c == 22) = false ∧ (c == 5) = false ∧ (c == 60) = false ∧ bits .and .u16 c 7 = 5 := by decide +kernel
    exact key c h
  obtain ⟨n0, n1, n2, n3, n4, n5, n6, n7, n8, n9, n10, n11, n12, n13, n14, n15, h7⟩ := hfacts
  have HPL : Hid ((preK ⟨c, j, f, k⟩).length ≤ 1) := Lib.hid (by unfold preK; split <;> simp)
  obtain ⟨R, hR⟩ : ∃ R, R = rk ⟨c, j, f, k⟩ := ⟨_, rfl⟩
  rw [← hR] at HE
  have HRR := Lib.hid hR
  obtain ⟨k0, k1⟩ := hk
  obtain ⟨j0, j1⟩ := hj
  obtain ⟨f0, f1⟩ := hf
  have hi' : (i : Int) ≤ 4096 := by omega
  have e1 : IntKind.i64.wrap ((i : Int) + 1) = i + 1 := by rw [IntWalk.i64_in] <;> omega
  have e2 : IntKind.i64.wrap j = j := by rw [IntWalk.i64_in] <;> omega
  have e3 : IntKind.i64.wrap f = f := by rw [IntWalk.i64_in] <;> omega
  have e4 : IntKind.i64.wrap ((i : Int) + 1 + j) = i + 1 + j := by rw [IntWalk.i64_in] <;> omega
  have e5 : IntKind.i64.wrap ((i : Int) + 1 + f) = i + 1 + f := by rw [IntWalk.i64_in] <;> omega
  have HK : Hid (∀ w2, Framed B vl (w.alloc (.cells #[.int .u16 c, .int .u8 j, .int .u8 f, .int .u32 k] 47)) w2 → w2.cell? ⟨w.heap.size, 0, none⟩ = some (.int .u16 c) ∧ w2.cell? ⟨w.heap.size, 1, none⟩ = some (.int .u8 j) ∧ w2.cell? ⟨w.heap.size, 2, none⟩ = some (.int .u8 f)) := Lib.hid (fun w2 hfr => by
    have hb := hfr w.heap.size (by simp) (by have := HM.out.lt; omega) (fun e => by have := own_ltM HM.out.ol _ e; omega)
    rw [heap_nw] at hb
    refine ⟨?_, ?_, ?_⟩ <;> simp [World.cell?, hb])
  clear hm h hR
  go_enter Try.func17, Try.ntmps17
  go_wp2_with fail
  refine (operand_c ⟨c, j, f, k⟩ _ (HM.out.keep (below1 w _)) (by omega)).mono ?_
  rintro e w2 ⟨rfl, vl2, h2, hfr, -⟩
  rw [← HRR.out]
  obtain ⟨c0, c1, c2⟩ := HK.out w2 hfr
  have H2 := Lib.hid h2
  have HL2 : Hid ((l ++ preK ⟨c, j, f, k⟩).length + 1 ≤ 100000) := Lib.hid (by have := HPL.out; rw [List.length_append]; omega)
  clear h2 hfr
  go_wp2_with fail
  go_region_law (first
    | (go_simp; go_at_call 35; refine (add_new [⟨mq c, 0, 0, R, 0, (i : Int) + 1 + j, (i : Int) + 1 + f⟩] H2.out _ (below_dr (below1 w2 _)) _ 1 (heap_nwd w2 _) rfl (by decide) HL2.out).mono ?_; rintro e w3 ⟨rfl, vl3, h3⟩; have H3 := Lib.hid h3; clear h3)
    | (go_simp; go_at_call 38; refine (question_c c _).mono ?_; rintro e w' ⟨rfl, rfl⟩))
  all_goals (
    go_wp2
    go_end0
    exact ⟨rfl, vl3, by rw [HE.out, ← List.append_assoc]; exact H3.out⟩)
end Go.Proofs.Ytehpoamideeehaa
set_option linter.unusedVariables false
set_option linter.unusedSimpArgs false
set_option maxRecDepth 100000
namespace Go.Proofs.Ytehpoamideeehaa
open Go.RowKit
/-! mir.builder's lays, place, settle: the walks. -/
theorem lays_c {w0 : World} {B : Nat} {l : List R7} {bg : List Int} {vl vb : Value} (i : Nat) (x : I4) {L : Int} (hg : Good x L) (hx : x.ok) (hi : i ≤ 4096) (w : World) (h : MB w0 B l bg vl vb w) (hn : l.length + 4 ≤ 100000) :
    Calls Try.prog 17 #[.pointer (some ⟨B, 0, none⟩), .int .i64 i, .agg #[.int .u16 x.c, .int .u8 x.j, .int .u8 x.f, .int .u32 x.k]] w (LaysPost w0 B l (layR i l.length x) bg vb) := by
  have hp := code_parts hg
  obtain ⟨c, j, f, k⟩ := x
  obtain ⟨c0, c1, j0, j1, f0, f1, k0, k1⟩ := hx
  dsimp only at hp c0 c1 j0 j1 f0 f1 k0 k1 ⊢
  rcases hp with ⟨h1, h60⟩ | h1 | h1
  · exact laysAlu_c i c j f k h1 h60 hi ⟨j0, j1⟩ ⟨f0, f1⟩ ⟨k0, k1⟩ w h hn
  · exact laysJump_c i c j f k h1 hi ⟨j0, j1⟩ ⟨f0, f1⟩ ⟨k0, k1⟩ w h hn
  · simp only [plainC, List.mem_cons, List.not_mem_nil, or_false] at h1
    rcases h1 with rfl | rfl | rfl | rfl | rfl | rfl | rfl | rfl | rfl | rfl | rfl | rfl | rfl | rfl | rfl | rfl
    · exact lays32 i j f k hi ⟨j0, j1⟩ ⟨f0, f1⟩ ⟨k0, k1⟩ w h hn
    · exact lays128 i j f k hi ⟨j0, j1⟩ ⟨f0, f1⟩ ⟨k0, k1⟩ w h hn
    · exact lays129 i j f k hi ⟨j0, j1⟩ ⟨f0, f1⟩ ⟨k0, k1⟩ w h hn
    · exact lays0 i j f k hi ⟨j0, j1⟩ ⟨f0, f1⟩ ⟨k0, k1⟩ w h hn
    · exact lays1 i j f k hi ⟨j0, j1⟩ ⟨f0, f1⟩ ⟨k0, k1⟩ w h hn
    · exact lays96 i j f k hi ⟨j0, j1⟩ ⟨f0, f1⟩ ⟨k0, k1⟩ w h hn
    · exact lays97 i j f k hi ⟨j0, j1⟩ ⟨f0, f1⟩ ⟨k0, k1⟩ w h hn
    · exact lays2 i j f k hi ⟨j0, j1⟩ ⟨f0, f1⟩ ⟨k0, k1⟩ w h hn
    · exact lays3 i j f k hi ⟨j0, j1⟩ ⟨f0, f1⟩ ⟨k0, k1⟩ w h hn
    · exact lays7 i j f k hi ⟨j0, j1⟩ ⟨f0, f1⟩ ⟨k0, k1⟩ w h hn
    · exact lays135 i j f k hi ⟨j0, j1⟩ ⟨f0, f1⟩ ⟨k0, k1⟩ w h hn
    · exact lays132 i j f k hi ⟨j0, j1⟩ ⟨f0, f1⟩ ⟨k0, k1⟩ w h hn
    · exact lays6 i j f k hi ⟨j0, j1⟩ ⟨f0, f1⟩ ⟨k0, k1⟩ w h hn
    · exact lays22 i j f k hi ⟨j0, j1⟩ ⟨f0, f1⟩ ⟨k0, k1⟩ w h hn
    · exact lays5 i j f k hi ⟨j0, j1⟩ ⟨f0, f1⟩ ⟨k0, k1⟩ w h hn
    · exact lays60 i j f k hi ⟨j0, j1⟩ ⟨f0, f1⟩ ⟨k0, k1⟩ w h hn
theorem placeM_c {w0 : World} {B : Nat} {l : List R7} {bg : List Int} {vl vb : Value} (t : Nat) {x : Int} (hx : bg[t]? = some x) (w : World) (h : MB w0 B l bg vl vb w) :
    Calls Try.prog 40 #[.pointer (some ⟨B, 1, none⟩), .int .i64 t] w fun e w' => e = .returned (.int .i64 x) ∧ w' = w := by
  have ht := (List.getElem?_eq_some_iff.1 hx).1
  obtain ⟨g, cap, rfl, -, -⟩ := h.ob.form (by omega)
  have c1 := h.c.2.1
  obtain ⟨b, off, e, -, c2⟩ := (Reads.of_own h.ob).num hx
  injection e with e; injection e with e1 e2
  subst e1 e2
  rw [Nat.zero_add] at c2
  have ht' : (t : Int) < bg.length := by omega
  clear h hx ht
  go_enter Try.func40, Try.ntmps40
  go_wp2
  go_ret
  exact ⟨rfl, rfl⟩
/-! What settling makes, in parts. -/
def setT (bg : List Int) (y : R7) : R7 := { y with t := if shT y.o = true then (if y.t < 0 then -y.t else bg.getD y.t.toNat 0) else y.t }
def setF (bg : List Int) (y : R7) : R7 := { y with f := if shF y.o = true then (if y.f < 0 then -y.f else bg.getD y.f.toNat 0) else y.f }
theorem cellsR_set {l : List R7} {i m : Nat} {y y' : R7} {u : Value} (hy : l[i]? = some y) (hm : m < 7) (hc : y'.cells = y.cells.set m u) : cellsR (l.set i y') = (cellsR l).set (i * 7 + m) u := by
  induction l generalizing i with
  | nil => simp at hy
  | cons z l ih =>
    have e : cellsR (z :: l) = z.cells ++ cellsR l := by simp [cellsR]
    have hz : z.cells.length = 7 := rfl
    cases i with
    | zero =>
      simp at hy; subst hy
      have e2 : cellsR ((z :: l).set 0 y') = y'.cells ++ cellsR l := by simp [cellsR]
      rw [e2, e, hc, List.set_append_left _ _ (by rw [hz]; omega)]
      congr 2; omega
    | succ i =>
      simp at hy
      have e2 : cellsR ((z :: l).set (i + 1) y') = z.cells ++ cellsR (l.set i y') := by simp [cellsR]
      rw [e2, e, ih hy, List.set_append_right _ _ (by rw [hz]; omega), hz]
      congr 2; omega
section
variable {w0 : World} {B : Nat} {l : List R7} {bg : List Int} {vb : Value} {W : World} {g n cap : Nat}
theorem MB.store (h : MB w0 B l bg (.slice (some ⟨g, 0, none⟩) n cap) vb W) {i m : Nat} {y y' : R7} {u : Value} (hy : l[i]? = some y) (hm : m < 7) (hc : y'.cells = y.cells.set m u) : MB w0 B (l.set i y') bg (.slice (some ⟨g, 0, none⟩) n cap) vb (W.setCell ⟨g, i * 7 + m, none⟩ u) := by
  have hn : n = l.length := by
    obtain ⟨g', c', e, -, -⟩ := h.ol.form (by have := (List.getElem?_eq_some_iff.1 hy).1; omega)
    injection e
  subst hn
  have hgB : B + 1 ≤ g := own_ge h.ol g rfl
  have hst := (h.ol.stored (i * 7 + m) u).1
  refine ⟨?_, ?_, own_setM h.ob g _ u (h.ne g rfl), h.ne, h.below.setCell (p := ⟨g, i * 7 + m, none⟩) (by have := h.ge; show w0.heap.size ≤ g; omega) _, h.ge⟩
  · exact (Below.heap_setCell _ _ _ B (show B ≠ g by omega)).trans h.box
  · rw [List.length_set, cellsR_set hy hm hc]; exact hst
theorem MB.ir (h : MB w0 B l bg (.slice (some ⟨g, 0, none⟩) n cap) vb W) {i : Nat} {y : R7} (hy : l[i]? = some y) : IrAt W g (i * 7) y ∧ ∀ j, W.frozen? ⟨g, j, none⟩ = false := by
  have hn : n = l.length := by
    obtain ⟨g', c', e, -, -⟩ := h.ol.form (by have := (List.getElem?_eq_some_iff.1 hy).1; omega)
    injection e
  subst hn
  obtain ⟨b, off, e, -, hir⟩ := (Reads.of_own h.ol).ir hy
  injection e with e; injection e with e1 e2
  subst e1 e2
  rw [Nat.zero_add] at hir
  exact ⟨hir, fun j => h.ol.frozenAt j⟩
end
theorem ptr_ne {W : World} {base g size n m o1 o2 : Nat} {cap : Nat} {xs : List Value} (h : W.ownsRow base 37 size (.slice (some ⟨g, 0, none⟩) m cap) n xs) (hne : o1 ≠ o2) : (binOp .eql 82 (.pointer (some ⟨g, o1, none⟩)) (.pointer (some ⟨g, o2, none⟩))).run Try.prog W = .ok (.bool false) W := by
  obtain ⟨j, hj, -, hz1, -⟩ := info_parts infoI64
  rcases h.2 with ⟨h1, -⟩ | ⟨g', cap', cur, h1, -, hg, -⟩
  · cases h1
  · injection h1 with h1; injection h1 with h1; injection h1 with h1 _
    subst h1
    exact run_eql_ptr_other W Try.underlying82 hj (by rw [hz1]; decide) (fun e => by injection e with _ e; exact hne e) hg hg
theorem ptr_eq (W : World) (a : Addr) : (binOp .eql 82 (.pointer (some a)) (.pointer (some a))).run Try.prog W = .ok (.bool true) W := by
  obtain ⟨j, hj, -⟩ := info_parts infoI64
  exact run_eql_ptr_same W a Try.underlying82 hj
/-- So far settled. -/
def stL (bg : List Int) (l : List R7) (i : Nat) : List R7 := (l.take i).map (fun y => setF bg (setT bg y)) ++ l.drop i
theorem stL_zero (bg : List Int) (l : List R7) : stL bg l 0 = l := by simp [stL]
theorem stL_len (bg : List Int) (l : List R7) (i : Nat) : (stL bg l i).length = l.length := by simp [stL]; omega
theorem stL_at {bg : List Int} {l : List R7} {i : Nat} {y : R7} (h : l[i]? = some y) : (stL bg l i)[i]? = some y := by
  have hi := (List.getElem?_eq_some_iff.1 h).1
  unfold stL
  rw [List.getElem?_append_right (by simp; omega)]
  simp only [List.length_map, List.length_take, Nat.min_eq_left (Nat.le_of_lt hi), Nat.sub_self, List.getElem?_drop, Nat.add_zero]
  exact h
theorem stL_succ {bg : List Int} {l : List R7} {i : Nat} {y : R7} (h : l[i]? = some y) : stL bg l (i + 1) = (stL bg l i).set i (setF bg (setT bg y)) := by
  have hi := (List.getElem?_eq_some_iff.1 h).1
  unfold stL
  rw [List.set_append_right _ _ (by simp; omega)]
  simp only [List.length_map, List.length_take, Nat.min_eq_left (Nat.le_of_lt hi), Nat.sub_self]
  have h2 : l.drop i = y :: l.drop (i + 1) := by
    rw [List.drop_eq_getElem_cons hi]
    congr 1
    have := List.getElem?_eq_getElem hi
    rw [h] at this
    injection this with this
    exact this.symm
  rw [h2, List.take_add_one, h]
  simp
theorem set_self {α : Type} {l : List α} {i : Nat} {y : α} (h : l[i]? = some y) : l.set i y = l := by
  refine List.ext_getElem? fun j => ?_
  rw [List.getElem?_set]
  by_cases e : i = j
  · subst e; rw [if_pos rfl, if_pos (List.getElem?_eq_some_iff.1 h).1, h]
  · rw [if_neg e]
structure SetSt (w0 : World) (B : Nat) (l : List R7) (bg : List Int) (vl vb : Value) (g i Sh S : Nat) (y : R7) (W : World) : Prop where
  mb : MB w0 B l bg vl vb W
  shp : W.heap[Sh]? = some (.cells #[.bool (ofD y.o), .bool (ofA y.o), .bool (ofB y.o), .bool (shT y.o), .bool (shF y.o)] 79 (0, 0))
  ptr : W.heap[S]? = some (.cells #[.pointer (some ⟨g, i * 7 + 5, none⟩), .pointer (some ⟨g, i * 7 + 6, none⟩)] 82 (0, 0))
  neq : Sh ≠ g ∧ S ≠ g
set_option maxHeartbeats 3200000 in
theorem settle_c {w0 : World} {B : Nat} {l : List R7} {bg : List Int} {vl vb : Value} (w : World) (h : MB w0 B l bg vl vb w) (hn : l.length ≤ 100000) (hn0 : 0 < l.length) (hT : ∀ y ∈ l, shT y.o = true → -9223372036854775807 ≤ y.t ∧ (0 ≤ y.t → y.t < bg.length)) (hF : ∀ y ∈ l, shF y.o = true → -9223372036854775807 ≤ y.f ∧ (0 ≤ y.f → y.f < bg.length)) :
    Calls Try.prog 18 #[.pointer (some ⟨B, 0, none⟩)] w (AddPost w0 B (l.map (fun y => setF bg (setT bg y))) bg vb) := by
  obtain ⟨g, cap, rfl, hgB, hgl⟩ := h.ol.form hn0
  have HM := Lib.hid h
  have HT := Lib.hid hT
  have HF := Lib.hid hF
  have hnl : (l.length : Int) ≤ 100000 := by omega
  obtain ⟨c0, c1, -, -⟩ := h.c
  have HS0 : Hid (MB w0 B (stL bg l 0) bg (.slice (some ⟨g, 0, none⟩) l.length cap) vb w) := Lib.hid (by rw [stL_zero]; exact h)
  have HGL := Lib.hid hgl
  clear h hT hF hgB hgl
  go_enter Try.func18, Try.ntmps18
  go_wp2_with fail
  go_loopw [13] (fun i wr => ∃ n : Nat, n ≤ l.length ∧ i = .int .i64 n ∧ Hid (MB w0 B (stL bg l n) bg (.slice (some ⟨g, 0, none⟩) l.length cap) vb wr) ∧ Hid (g < wr.heap.size)) (fun i _ => l.length - (intOf i).toNat)
  case atStart => exact ⟨0, by omega, rfl, HS0, HGL⟩
  case round =>
    obtain ⟨n, hnn, rfl, HW, HGW⟩ := hrel
    clear HS0 HGL c0 c1 HM
    rcases Nat.lt_or_ge n l.length with hnl2 | hnl2
    · have hnl3 : (n : Int) < l.length := by omega
      obtain ⟨y, hy⟩ : ∃ y, l[n]? = some y := ⟨_, List.getElem?_eq_getElem hnl2⟩
      have HY := Lib.hid hy
      have HYT := Lib.hid (HT.out y (List.mem_of_getElem? hy))
      have HYF := Lib.hid (HF.out y (List.mem_of_getElem? hy))
      obtain ⟨⟨y0, y1, y2, y3, y4, y5, y6⟩, -⟩ := HW.out.ir (stL_at hy)
      obtain ⟨c0, c1, -, -⟩ := HW.out.c
      clear hy
      go_wp2_with fail
      refine (of_c y.o wr).mono ?_
      rintro e w2 ⟨rfl, hb2⟩
      have HW2 := Lib.hid (HW.out.keep hb2)
      have HGW2 : Hid (g < w2.heap.size) := Lib.hid (by have := hb2.size; have := HGW.out; omega)
      unfold ofV
      have HSH : Hid ((w2.alloc (.cells #[.bool (ofD y.o), .bool (ofA y.o), .bool (ofB y.o), .bool (shT y.o), .bool (shF y.o)] 79)).heap[w2.heap.size]? = some (.cells #[.bool (ofD y.o), .bool (ofA y.o), .bool (ofB y.o), .bool (shT y.o), .bool (shF y.o)] 79 (0, 0))) := Lib.hid (heap_nw w2 _)
      obtain ⟨k0, k1, -, -⟩ := (HW2.out.keep (below1 w2 (.cells #[.bool (ofD y.o), .bool (ofA y.o), .bool (ofB y.o), .bool (shT y.o), .bool (shF y.o)] 79))).c
      clear hb2 y0 y1 y2 y3 y4 y5 y6 c0 c1
      go_wp2_with fail
      go_region
      obtain ⟨V, hV⟩ : ∃ V, V = ((w2.alloc (.cells #[.bool (ofD y.o), .bool (ofA y.o), .bool (ofB y.o), .bool (shT y.o), .bool (shF y.o)] 79)).alloc (.cells #[.pointer (some ⟨g, n * 7 + 5, none⟩), .pointer (some ⟨g, n * 7 + 6, none⟩)] 82)).drew := ⟨_, rfl⟩
      have HV0 : Hid (SetSt w0 B (stL bg l n) bg (.slice (some ⟨g, 0, none⟩) l.length cap) vb g n w2.heap.size (w2.heap.size + 1) y V) := Lib.hid (by
        rw [hV]
        refine ⟨HW2.out.keep (below_dr (below_al (below1 w2 _) _)), (Below.heap_alloc _ _ _ (by simp)).trans HSH.out, heap_nw1d w2 _ _, ?_⟩
        have := HGW2.out
        omega)
      have HGV : Hid (g < V.heap.size) := Lib.hid (by rw [hV]; have := HGW2.out; show g < ((w2.alloc _).alloc _).heap.size; simp; omega)
      rw [← hV]
      obtain ⟨Sh, hSh⟩ : ∃ Sh, Sh = w2.heap.size := ⟨_, rfl⟩
      obtain ⟨S, hS⟩ : ∃ S, S = w2.heap.size + 1 := ⟨_, rfl⟩
      rw [← hS, ← hSh] at HV0 ⊢
      clear hV hSh hS k0 k1 HSH HW2 HGW2
      go_wp2_with fail
      go_loopw [47] (fun k wr => ∃ l' : List R7, Hid (SetSt w0 B l' bg (.slice (some ⟨g, 0, none⟩) l.length cap) vb g n Sh S y wr) ∧ ((k = .int .i64 0 ∧ l' = stL bg l n) ∨ (k = .int .i64 1 ∧ l' = (stL bg l n).set n (setT bg y)) ∨ (k = .int .i64 2 ∧ l' = stL bg l (n + 1)))) (fun k _ => 2 - (intOf k).toNat)
      case atStart => exact ⟨_, HV0, .inl ⟨rfl, rfl⟩⟩
      case round =>
      obtain ⟨l', HV, hcase⟩ := hrel
      clear HV0
      rcases hcase with ⟨rfl, e1⟩ | ⟨rfl, e1⟩ | ⟨rfl, e1⟩
      · rw [e1] at HV
        clear e1
        have HAT := Lib.hid (stL_at (bg := bg) HY.out)
        obtain ⟨⟨y0, y1, y2, y3, y4, y5, y6⟩, hfz⟩ := HV.out.mb.ir HAT.out
        have fz := hfz (n * 7 + 5)
        obtain ⟨c0, c1, -, -⟩ := HV.out.mb.c
        have s3 : wr.cell? ⟨Sh, 3, none⟩ = some (.bool (shT y.o)) := by simp [World.cell?, HV.out.shp]
        have s4 : wr.cell? ⟨Sh, 4, none⟩ = some (.bool (shF y.o)) := by simp [World.cell?, HV.out.shp]
        have q0 : wr.cell? ⟨S, 0, none⟩ = some (.pointer (some ⟨g, n * 7 + 5, none⟩)) := by simp [World.cell?, HV.out.ptr]
        clear hfz
        clear y6
        clear y0 y1 y2 y3 y4
        have hpe := ptr_ne HV.out.mb.ol (o1 := n * 7 + 5) (o2 := n * 7 + 6) (by omega)
        cases hsT : shT y.o with
        | false =>
          have HST := Lib.hid hsT
          rw [hsT] at s3
          clear hsT
          go_wp2
          go_roundw
          case rel => exact ⟨_, HV, .inr (.inl ⟨by go_num, by rw [show setT bg y = y by unfold setT; rw [HST.out]; rfl]; exact (set_self (stL_at HY.out)).symm⟩)⟩
          case measure => simp [intOf]
        | true =>
          have HST := Lib.hid hsT
          rw [hsT] at s3
          clear hsT
          cases hsF : shF y.o with
          | false =>
            have HSF := Lib.hid hsF
            rw [hsF] at s4
            clear hsF
            by_cases hlt : y.t < 0
            · have HLT := Lib.hid hlt
              have hrng := (HYT.out HST.out).1
              have wn : IntKind.i64.wrap (-y.t) = -y.t := by rw [IntWalk.i64_in] <;> omega
              go_wp2
              go_roundw
              case rel => exact ⟨_, Lib.hid ⟨HV.out.mb.store (y' := { y with t := -y.t }) HAT.out (m := 5) (by decide) rfl, (Below.heap_setCell _ _ _ Sh HV.out.neq.1).trans HV.out.shp, (Below.heap_setCell _ _ _ S HV.out.neq.2).trans HV.out.ptr, HV.out.neq⟩, .inr (.inl ⟨by go_num, by rw [show setT bg y = { y with t := -y.t } by unfold setT; rw [if_pos HST.out, if_pos HLT.out]]⟩)⟩
              case measure => simp [intOf]
            · obtain ⟨T, hTT⟩ : ∃ T : Nat, y.t = T := ⟨y.t.toNat, by omega⟩
              have HLT := Lib.hid hlt
              have HTT := Lib.hid hTT
              have hb := (HYT.out HST.out).2 (by omega)
              obtain ⟨x, hx⟩ : ∃ x, bg[T]? = some x := ⟨_, List.getElem?_eq_getElem (by omega)⟩
              have HX := Lib.hid hx
              rw [hTT] at y5
              clear hlt hTT hx hb
              go_wp2_with fail
              go_region_law (go_simp; go_at_call 40; refine (placeM_c T HX.out _ (HV.out.mb.keep (below_dr (Below.refl _ _)))).mono ?_; rintro e w' ⟨rfl, rfl⟩)
              all_goals (
                go_wp2
                go_roundw
                case rel => exact ⟨_, Lib.hid ⟨(HV.out.mb.keep (below_dr (Below.refl _ _))).store (y' := { y with t := x }) HAT.out (m := 5) (by decide) rfl, (Below.heap_setCell _ _ _ Sh HV.out.neq.1).trans HV.out.shp, (Below.heap_setCell _ _ _ S HV.out.neq.2).trans HV.out.ptr, HV.out.neq⟩, .inr (.inl ⟨by go_num, by rw [show setT bg y = { y with t := x } by unfold setT; rw [if_pos HST.out, if_neg (by have h := HLT.out; omega), HTT.out, Int.toNat_natCast, List.getD_eq_getElem?_getD, HX.out]; rfl]⟩)⟩
                case measure => simp [intOf])
          | true =>
            have HSF := Lib.hid hsF
            rw [hsF] at s4
            clear hsF
            by_cases hlt : y.t < 0
            · have HLT := Lib.hid hlt
              have hrng := (HYT.out HST.out).1
              have wn : IntKind.i64.wrap (-y.t) = -y.t := by rw [IntWalk.i64_in] <;> omega
              go_wp2
              go_roundw
              case rel => exact ⟨_, Lib.hid ⟨HV.out.mb.store (y' := { y with t := -y.t }) HAT.out (m := 5) (by decide) rfl, (Below.heap_setCell _ _ _ Sh HV.out.neq.1).trans HV.out.shp, (Below.heap_setCell _ _ _ S HV.out.neq.2).trans HV.out.ptr, HV.out.neq⟩, .inr (.inl ⟨by go_num, by rw [show setT bg y = { y with t := -y.t } by unfold setT; rw [if_pos HST.out, if_pos HLT.out]]⟩)⟩
              case measure => simp [intOf]
            · obtain ⟨T, hTT⟩ : ∃ T : Nat, y.t = T := ⟨y.t.toNat, by omega⟩
              have HLT := Lib.hid hlt
              have HTT := Lib.hid hTT
              have hb := (HYT.out HST.out).2 (by omega)
              obtain ⟨x, hx⟩ : ∃ x, bg[T]? = some x := ⟨_, List.getElem?_eq_getElem (by omega)⟩
              have HX := Lib.hid hx
              rw [hTT] at y5
              clear hlt hTT hx hb
              go_wp2_with fail
              go_region_law (go_simp; go_at_call 40; refine (placeM_c T HX.out _ (HV.out.mb.keep (below_dr (Below.refl _ _)))).mono ?_; rintro e w' ⟨rfl, rfl⟩)
              all_goals (
                go_wp2
                go_roundw
                case rel => exact ⟨_, Lib.hid ⟨(HV.out.mb.keep (below_dr (Below.refl _ _))).store (y' := { y with t := x }) HAT.out (m := 5) (by decide) rfl, (Below.heap_setCell _ _ _ Sh HV.out.neq.1).trans HV.out.shp, (Below.heap_setCell _ _ _ S HV.out.neq.2).trans HV.out.ptr, HV.out.neq⟩, .inr (.inl ⟨by go_num, by rw [show setT bg y = { y with t := x } by unfold setT; rw [if_pos HST.out, if_neg (by have h := HLT.out; omega), HTT.out, Int.toNat_natCast, List.getD_eq_getElem?_getD, HX.out]; rfl]⟩)⟩
                case measure => simp [intOf])
      · rw [e1] at HV
        clear e1
        have HAT : Hid (((stL bg l n).set n (setT bg y))[n]? = some (setT bg y)) := Lib.hid (by rw [List.getElem?_set, if_pos rfl, if_pos (by rw [stL_len]; omega)])
        obtain ⟨⟨y0, y1, y2, y3, y4, y5, y6⟩, hfz⟩ := HV.out.mb.ir HAT.out
        have fz := hfz (n * 7 + 6)
        obtain ⟨c0, c1, -, -⟩ := HV.out.mb.c
        have s3 : wr.cell? ⟨Sh, 3, none⟩ = some (.bool (shT y.o)) := by simp [World.cell?, HV.out.shp]
        have s4 : wr.cell? ⟨Sh, 4, none⟩ = some (.bool (shF y.o)) := by simp [World.cell?, HV.out.shp]
        have q0 : wr.cell? ⟨S, 1, none⟩ = some (.pointer (some ⟨g, n * 7 + 6, none⟩)) := by simp [World.cell?, HV.out.ptr]
        clear hfz
        have ho : (setT bg y).o = y.o := rfl
        have hff : (setT bg y).f = y.f := rfl
        rw [hff] at y6
        clear y5 ho hff
        clear y0 y1 y2 y3 y4
        have hpe := ptr_eq wr ⟨g, n * 7 + 6, none⟩
        cases hsT : shT y.o with
        | false =>
          have HST := Lib.hid hsT
          rw [hsT] at s3
          clear hsT
          go_wp2
          go_roundw
          case rel => exact ⟨_, HV, .inr (.inr ⟨by go_num, by rw [stL_succ HY.out]; congr 1; unfold setF; rw [show shF (setT bg y).o = false from by have h := HST.out; show shF y.o = false; simp [shT] at h; simp [shF]; omega]; rfl⟩)⟩
          case measure => simp [intOf]
        | true =>
          have HST := Lib.hid hsT
          rw [hsT] at s3
          clear hsT
          cases hsF : shF y.o with
          | false =>
            have HSF := Lib.hid hsF
            rw [hsF] at s4
            clear hsF
            go_wp2
            go_roundw
            case rel => exact ⟨_, HV, .inr (.inr ⟨by go_num, by rw [stL_succ HY.out]; congr 1; unfold setF; rw [show shF (setT bg y).o = false from HSF.out]; rfl⟩)⟩
            case measure => simp [intOf]
          | true =>
            have HSF := Lib.hid hsF
            rw [hsF] at s4
            clear hsF
            by_cases hlt : y.f < 0
            · have HLT := Lib.hid hlt
              have hrng := (HYF.out HSF.out).1
              have wn : IntKind.i64.wrap (-y.f) = -y.f := by rw [IntWalk.i64_in] <;> omega
              go_wp2
              go_roundw
              case rel => exact ⟨_, Lib.hid ⟨HV.out.mb.store (y' := { setT bg y with f := -y.f }) HAT.out (m := 6) (by decide) rfl, (Below.heap_setCell _ _ _ Sh HV.out.neq.1).trans HV.out.shp, (Below.heap_setCell _ _ _ S HV.out.neq.2).trans HV.out.ptr, HV.out.neq⟩, .inr (.inr ⟨by go_num, by rw [stL_succ HY.out, show setF bg (setT bg y) = { setT bg y with f := -y.f } by unfold setF; rw [if_pos (show shF (setT bg y).o = true from HSF.out), if_pos (show (setT bg y).f < 0 from HLT.out)]; rfl, List.set_set]⟩)⟩
              case measure => simp [intOf]
            · obtain ⟨T, hTT⟩ : ∃ T : Nat, y.f = T := ⟨y.f.toNat, by omega⟩
              have HLT := Lib.hid hlt
              have HTT := Lib.hid hTT
              have hb := (HYF.out HSF.out).2 (by omega)
              obtain ⟨x, hx⟩ : ∃ x, bg[T]? = some x := ⟨_, List.getElem?_eq_getElem (by omega)⟩
              have HX := Lib.hid hx
              rw [hTT] at y6
              clear hlt hTT hx hb
              go_wp2_with fail
              go_region_law (go_simp; go_at_call 40; refine (placeM_c T HX.out _ (HV.out.mb.keep (below_dr (Below.refl _ _)))).mono ?_; rintro e w' ⟨rfl, rfl⟩)
              all_goals (
                go_wp2
                go_roundw
                case rel => exact ⟨_, Lib.hid ⟨(HV.out.mb.keep (below_dr (Below.refl _ _))).store (y' := { setT bg y with f := x }) HAT.out (m := 6) (by decide) rfl, (Below.heap_setCell _ _ _ Sh HV.out.neq.1).trans HV.out.shp, (Below.heap_setCell _ _ _ S HV.out.neq.2).trans HV.out.ptr, HV.out.neq⟩, .inr (.inr ⟨by go_num, by rw [stL_succ HY.out, show setF bg (setT bg y) = { setT bg y with f := x } by unfold setF; rw [if_pos (show shF (setT bg y).o = true from HSF.out), if_neg (show ¬ (setT bg y).f < 0 from (by have h := HLT.out; show ¬ y.f < 0; omega)), show (setT bg y).f = T from HTT.out, Int.toNat_natCast, List.getD_eq_getElem?_getD, HX.out]; rfl, List.set_set]⟩)⟩
                case measure => simp [intOf])
      · rw [e1] at HV
        clear e1
        go_wp2
        go_roundw
        case rel => exact ⟨n + 1, by omega, by go_num, Lib.hid HV.out.mb, Lib.hid (own_ltM HV.out.mb.ol g rfl)⟩
        case measure => simp [intOf]; omega
    · obtain rfl : n = l.length := by omega
      go_wp2
      go_end0
      exact ⟨rfl, _, by have h := HW.out; have e : stL bg l l.length = l.map (fun y => setF bg (setT bg y)) := by simp [stL]
                        rw [e] at h; exact h⟩
end Go.Proofs.Ytehpoamideeehaa
set_option linter.unusedVariables false
set_option linter.unusedSimpArgs false
set_option maxRecDepth 100000
namespace Go.Proofs.Ytehpoamideeehaa
open Go.RowKit
/-! mir.From: the walk. -/
def bgL (q : List I4) (i : Nat) : List Int := (List.range i).map fun j => (beginN q j : Int)
theorem bgL_succ (q : List I4) (i : Nat) : bgL q (i + 1) = bgL q i ++ [(beginN q i : Int)] := by simp [bgL, List.range_succ]
theorem bgL_len (q : List I4) (i : Nat) : (bgL q i).length = i := by simp [bgL]
theorem bgL_get (q : List I4) {i j : Nat} (h : j < i) : (bgL q i).getD j 0 = (beginN q j : Int) := by
  rw [List.getD_eq_getElem?_getD]
  simp [bgL, h]
theorem fromTo_mem {q : List I4} : ∀ n, n ≤ q.length → ∀ y ∈ fromTo q n, ∃ i x, q[i]? = some x ∧ i < n ∧ y ∈ layR i (beginN q i) x := by
  intro n
  induction n with
  | zero => intro _ y hy; simp [fromTo] at hy
  | succ n ih =>
    intro hn y hy
    obtain ⟨x, hx⟩ : ∃ x, q[n]? = some x := ⟨_, List.getElem?_eq_getElem (by omega)⟩
    rw [fromTo_succ hx] at hy
    rcases List.mem_append.1 hy with h | h
    · obtain ⟨i, x, h1, h2, h3⟩ := ih (by omega) y h
      exact ⟨i, x, h1, by omega, h3⟩
    · exact ⟨n, x, hx, by omega, h⟩
theorem lay_targets {q : List I4} (hacc : (checkP q).1 = 0) (hq : ∀ x ∈ q, x.ok) {y : R7} (hy : y ∈ fromTo q q.length) : (shT y.o = true → -1000000 ≤ y.t ∧ (0 ≤ y.t → y.t < (q.length : Int))) ∧ (shF y.o = true → -1000000 ≤ y.f ∧ (0 ≤ y.f → y.f < (q.length : Int))) := by
  obtain ⟨i, x, hx, hi, hm⟩ := fromTo_mem q.length (Nat.le_refl _) y hy
  obtain ⟨-, hl, -, -⟩ := acc_facts hacc
  have hbl := begin_le q i
  have hg := good_at hacc hx
  obtain ⟨c0, c1, j0, j1, f0, f1, k0, k1⟩ := hq x (List.mem_of_getElem? hx)
  have no : shT y.o = false → (shT y.o = true → -1000000 ≤ y.t ∧ (0 ≤ y.t → y.t < (q.length : Int))) ∧ (shF y.o = true → -1000000 ≤ y.f ∧ (0 ≤ y.f → y.f < (q.length : Int))) := fun h => by
    have hf : shF y.o = false := by simp [shT] at h; simp [shF]; omega
    rw [h, hf]
    exact ⟨fun h => absurd h (by decide), fun h => absurd h (by decide)⟩
  rcases code_parts hg with ⟨h, h60⟩ | h | h
  · rw [lay_alu _ _ h h60] at hm
    have hr := mop_range h
    rcases List.mem_append.1 hm with hm | hm
    · unfold preK at hm
      split at hm
      · simp at hm
      · simp at hm; subst hm; exact no rfl
    · simp at hm; subst hm; exact no (by simp [shT]; omega)
  · rw [lay_jump _ _ h] at hm
    obtain ⟨g1, g2⟩ := hg.jump h
    rcases List.mem_append.1 hm with hm | hm
    · unfold preK at hm
      split at hm
      · simp at hm
      · simp at hm; subst hm; exact no rfl
    · simp at hm; subst hm
      exact ⟨fun _ => ⟨by dsimp only; omega, fun _ => by dsimp only; omega⟩, fun _ => ⟨by dsimp only; omega, fun _ => by dsimp only; omega⟩⟩
  · rcases lay_plain h i (beginN q i) with ⟨e, hl⟩ | ⟨e, hl⟩ | ⟨e, hl⟩ | ⟨e, hl⟩ | ⟨e, hl⟩ | ⟨e, hl⟩ | ⟨e, hl⟩ | ⟨e, hl⟩ | ⟨e, hl⟩ | ⟨e, hl⟩ | ⟨e, hl⟩ | ⟨e, hl⟩ | ⟨e, hl⟩ | ⟨e, hl⟩ | ⟨e, hl⟩ | ⟨e, hl⟩
    all_goals (
      rw [hl] at hm
      simp only [List.mem_cons, List.not_mem_nil, or_false] at hm
      first
        | (subst hm; exact no rfl)
        | (rcases hm with rfl | rfl
           · exact no rfl
           · exact no rfl)
        | (rcases hm with rfl | rfl | rfl | rfl
           · exact no rfl
           · exact ⟨fun _ => ⟨by dsimp only; omega, fun h => by dsimp only at h; omega⟩, fun _ => ⟨by dsimp only; omega, fun h => by dsimp only at h; omega⟩⟩
           · exact no rfl
           · exact no rfl)
        | (subst hm
           have := hg.ja e
           exact ⟨fun _ => ⟨by dsimp only; omega, fun _ => by dsimp only; omega⟩, fun h => absurd h (by show ¬ shF 14 = true; decide)⟩))
theorem settle_eq {q : List I4} (hacc : (checkP q).1 = 0) (hq : ∀ x ∈ q, x.ok) : (fromTo q q.length).map (fun y => setF (bgL q q.length) (setT (bgL q q.length) y)) = fromP q := by
  unfold fromP
  refine List.map_congr_left fun y hy => ?_
  obtain ⟨h1, h2⟩ := lay_targets hacc hq hy
  unfold setF setT settleR
  dsimp only
  have e1 : (if shT y.o = true then if y.t < 0 then -y.t else (bgL q q.length).getD y.t.toNat 0 else y.t) = if shT y.o = true then if y.t < 0 then -y.t else (beginN q y.t.toNat : Int) else y.t := by
    split
    · rename_i h
      split
      · rfl
      · rw [bgL_get q (by have := (h1 h).2 (by omega); omega)]
    · rfl
  have e2 : (if shF y.o = true then if y.f < 0 then -y.f else (bgL q q.length).getD y.f.toNat 0 else y.f) = if shF y.o = true then if y.f < 0 then -y.f else (beginN q y.f.toNat : Int) else y.f := by
    split
    · rename_i h
      split
      · rfl
      · rw [bgL_get q (by have := (h2 h).2 (by omega); omega)]
    · rfl
  rw [e1, e2]
section
variable {w : World} {B : Nat} {l : List R7} {bg : List Int} {vl vb : Value} {W W' : World}
/-- A beginning is put behind. -/
theorem MB.addB (h : MB w B l bg vl vb W) {o : Obj} {x : Int} {vb' : Value} (hown : W'.ownsRow (B + 1) 3 1 vb' (bg.length + 1) (numV .i64 bg ++ [.int .i64 x])) (hg : (W.alloc o).grownBy W' vb.ownBlock) (hl : vb'.ownBlock = vb.ownBlock ∨ ∀ b, vb'.ownBlock = some b → W.heap.size ≤ b) : MB w B l (bg ++ [x]) vl vb' (W'.setCell ⟨B, 1, none⟩ vb') := by
  have hB := h.lt
  have hne : some B ≠ vb.ownBlock := fun e => by have := own_ge h.ob B e.symm; omega
  have hne' : vb'.ownBlock ≠ some B := fun e => by have := own_ge hown B e; omega
  have hnl : vl.ownBlock ≠ some B := fun e => by have := own_ge h.ol B e; omega
  refine ⟨?_, ?_, ?_, ?_, ?_, h.ge⟩
  · rw [heap_setM ((hg.block B (by simp; omega) hne).trans ((Below.heap_alloc W o B hB).trans h.box))]; rfl
  · refine own_setM ((own_keepM h.ol (below1 W o)).kept hg ?_) B 1 vb' hnl
    cases e2 : vl.ownBlock with
    | none => exact .inl rfl
    | some b => exact .inr (fun e => h.ne b e2 e.symm)
  · have e : numV .i64 (bg ++ [x]) = numV .i64 bg ++ [.int .i64 x] := by simp [numV]
    rw [List.length_append, e]
    exact own_setM hown B 1 vb' hne'
  · intro b hb e2
    rcases hl with e | e
    · exact h.ne b hb (by rw [← e]; exact e2)
    · have := own_ltM h.ol b hb
      have := e b e2
      omega
  · exact (below_gr (h.below.alloc h.below.size o) hg (by have := h.below.size; simp; omega) (fun k hk => by have := own_ge h.ob k hk; have := h.ge; omega)).setCell (p := ⟨B, 1, none⟩) h.ge _
end
/-- The same, as a step of a region that draws. -/
theorem begin_drawn {w : World} {B : Nat} {l : List R7} {bg : List Int} {vl vb : Value} {W : World} {ops : Array Oper} {o : Oper} {a : Act} {K : Act → World → Prop} {Q : Exit → Act → World → Prop} {E : Prop} (hm : MB w B l bg vl vb W) (i1 : TypeInfo) (HI1 : Try.prog.info? 3 = some i1 ∧ i1.zero = some (.int .i64 0) ∧ i1.size = 1 ∧ i1.bytes = 8)
    (hgd : o.guard = none) (s x : Operand) (ho : o.op = .call { callee := .builtin .append, args := #[s, x], argTypes := #[53, 53] }) (N : Int) (hs : a.eval s = vb) (Bk : Nat) (hB : W.heap.size = Bk) (hx : a.eval x = .slice (some ⟨Bk, 0, none⟩) 1 1) (hn : bg.length ≤ 100000)
    (h : ∀ g c W', MB w B l (bg ++ [N]) vl (.slice (some ⟨g, 0, none⟩) (bg.length + 1) c) (W'.setCell ⟨B, 1, none⟩ (.slice (some ⟨g, 0, none⟩) (bg.length + 1) c)) → (∀ b, b < W.heap.size → vb.ownBlock ≠ some b → W'.heap[b]? = W.heap[b]?) → K (a.put o.dst (.slice (some ⟨g, 0, none⟩) (bg.length + 1) c)) W') : if Region.wanted o (yielded ops a.tmps) = true then Oper.wp Try.prog o a ((W.alloc (.cells #[.int .i64 N] 3)).drew) K Q else E := by
  subst hB
  have hlt := hm.lt
  refine step_append_lies _ hgd s x 53 ho (B + 1) 3 i1 _ 1 8 Try.underlying53 HI1.1 HI1.2.1 HI1.2.2.1 HI1.2.2.2 rfl (by decide) vb bg.length (numV .i64 bg) hs (hm.ob.alloc _).drew ⟨W.heap.size, 0, none⟩ 1 1 [.int .i64 N] hx rfl (fun j u hu => ?_) (by simp [Value.oneCell']) (by decide) (by simp only [maxLen]; omega) (by omega) (by simp; omega) (W.heap.size + 1) (by simp) fun g' cap' w' hown hg hl _ => ?_
  · obtain ⟨b, off, e, -, hc⟩ := (reads_new W #[.int .i64 N] 3 1 1 [.int .i64 N] rfl rfl).2 (by decide)
    injection e with e; injection e with e1 e2
    subst e1 e2
    rw [add_plain]; exact hc j u hu
  · have hg2 : (W.alloc (.cells #[.int .i64 N] 3)).grownBy w' vb.ownBlock := ⟨hg.os, hg.tape, hg.output, hg.size, hg.block⟩
    refine h g' cap' w' (hm.addB hown hg2 ?_) (fun b hb hne => (hg2.block b (by simp; omega) (fun e => hne e.symm)).trans (Below.heap_alloc W _ b hb))
    rcases hl with e | e
    · exact .inl (by rw [e]; rfl)
    · exact .inr fun b hb => by have : g' = b := by simpa [Value.ownBlock] using hb
                                omega
theorem set2M {W : World} {B : Nat} {u0 u1 : Value} (h0 : W.cell? ⟨B, 0, none⟩ = some u0) (h1 : W.cell? ⟨B, 1, none⟩ = some u1) (x y : Value) :
    ((W.setCell ⟨B, 0, none⟩ x).setCell ⟨B, 1, none⟩ y).cell? ⟨B, 0, none⟩ = some x ∧ ((W.setCell ⟨B, 0, none⟩ x).setCell ⟨B, 1, none⟩ y).cell? ⟨B, 1, none⟩ = some y := by
  refine ⟨?_, ?_⟩
  · rw [World.cell?_setCell_other _ _ _ _ (by intro e; injection e with _ e; omega), World.cell?_setCell_same _ _ _ h0]
  · rw [World.cell?_setCell_same _ _ _ (show (W.setCell ⟨B, 0, none⟩ x).cell? ⟨B, 1, none⟩ = some u1 by rw [World.cell?_setCell_other _ _ _ _ (by intro e; injection e with _ e; omega)]; exact h1)]
theorem set2M_below {w W : World} {B : Nat} (hb : Below w.heap.size w W) (h : w.heap.size ≤ B) (x y : Value) : Below w.heap.size w ((W.setCell ⟨B, 0, none⟩ x).setCell ⟨B, 1, none⟩ y) :=
  (hb.setCell (p := ⟨B, 0, none⟩) h _).setCell (p := ⟨B, 1, none⟩) h _
def FromPost (w : World) (q : List I4) (e : Ending) (w' : World) : Prop := Below w.heap.size w w' ∧ (((checkP q).1 ≠ 0 ∧ e = .returned (.tuple #[.agg #[.int .i64 0, .slice none 0 0], .int .i64 1])) ∨
  ((checkP q).1 = 0 ∧ ∃ v, e = .returned (.tuple #[.agg #[.int .i64 19, v], .int .i64 0]) ∧ w'.ownsRow w.heap.size 37 7 v (fromP q).length (cellsR (fromP q))))
set_option maxHeartbeats 3200000 in
theorem From_c (A : Option Addr) (cap : Nat) (q : List I4) (hq : ∀ x ∈ q, x.ok) (hn : q.length ≤ 9223372036854775807) (w : World) (hr : Reads w w.heap.size 4 A q.length (cellsI q)) :
    Calls Try.prog 7 #[.slice A q.length cap] w (FromPost w q) := by
  have HR := Lib.hid hr
  have HQ := Lib.hid hq
  have HC := Lib.hid (fun (w1 : World) (h : Below w.heap.size w w1) => Check_c A cap q hq hn w1 (hr.up h))
  clear hr hq
  obtain ⟨pe, hpe⟩ : ∃ pe, pe = (checkP q).1 := ⟨_, rfl⟩
  obtain ⟨pp, hpp⟩ : ∃ pp, pp = (checkP q).2 := ⟨_, rfl⟩
  have HPE := Lib.hid hpe
  have HPP := Lib.hid hpp
  clear hpe hpp
  have hw0 : w.heap.size < (w.alloc (.cells #[.int .i64 0, .slice none 0 0] 27)).heap.size := by simp
  by_cases h0 : pe = 0
  · have hc0 : (checkP q).1 = 0 := by rw [← HPE.out]; exact h0
    obtain ⟨a1, a2, -, -⟩ := acc_facts hc0
    have HC0 := Lib.hid hc0
    have hq1 : (q.length : Int) ≤ 4096 := by omega
    subst h0
    clear hc0
    go_enter Try.func7, Try.ntmps7
    go_wp2_with fail
    refine (HC.out _ (below1 w _)).mono ?_
    rintro e w1 ⟨rfl, hb1⟩
    rw [← HPE.out, ← HPP.out]
    have HRH : Hid (w1.heap[w.heap.size]? = some (.cells #[.int .i64 0, .slice none 0 0] 27 (0, 0))) := Lib.hid ((hb1.block _ (by simp)).trans (heap_nw w _))
    have HB1 := Lib.hid (below_t (below1 w _) hb1)
    have HR1 := Lib.hid (HR.out.up HB1.out)
    obtain ⟨R, hR⟩ : ∃ R, R = w.heap.size := ⟨_, rfl⟩
    have HRL : Hid (w.heap.size ≤ R ∧ R < w1.heap.size) := Lib.hid (by have := hb1.size; simp at this; omega)
    rw [← hR] at HRH ⊢
    have HMB : Hid (MB w1 w1.heap.size (fromTo q 0) (bgL q 0) (.slice none 0 0) (.slice none 0 0) (w1.alloc (.cells #[.slice none 0 0, .slice none 0 0] 57))) := Lib.hid ⟨heap_nw w1 _, World.ownsRow_nil _ _ _ _, World.ownsRow_nil _ _ _ _, (fun b hb => by simp [Value.ownBlock] at hb), below1 w1 _, Nat.le_refl _⟩
    obtain ⟨i1, HI1⟩ : ∃ i1, Hid (Try.prog.info? 3 = some i1 ∧ i1.zero = some (.int .i64 0) ∧ i1.size = 1 ∧ i1.bytes = 8) := by
      obtain ⟨i1, hi, hz0, hz1, hz2⟩ := info_parts infoI64
      exact ⟨i1, Lib.hid ⟨hi, hz0, hz1, hz2⟩⟩
    clear hb1 hw0 HC hR
    go_wp2_with fail
    go_loopw [21] (fun k wr => ∃ (i : Nat) (vl vb : Value), i ≤ q.length ∧ k = .int .i64 i ∧ Hid (MB w1 w1.heap.size (fromTo q i) (bgL q i) vl vb wr)) (fun k _ => q.length - (intOf k).toNat)
    case atStart => exact ⟨0, _, _, by omega, rfl, HMB⟩
    case round =>
      obtain ⟨i, vl, vb, hi, rfl, HW⟩ := hrel
      clear HMB
      obtain ⟨Al, cl, rfl⟩ : ∃ Al cl, vl = .slice Al (fromTo q i).length cl := by
        rcases HW.out.ol.2 with ⟨h, h2⟩ | ⟨g', cap', cur, h, _⟩
        · exact ⟨none, 0, by rw [h, h2]⟩
        · exact ⟨_, _, h⟩
      have hlen := begin_le q i
      rcases Nat.lt_or_ge i q.length with hil | hil
      · have hil' : (i : Int) < q.length := by omega
        obtain ⟨x, hx⟩ : ∃ x, q[i]? = some x := ⟨_, List.getElem?_eq_getElem hil⟩
        have HX := Lib.hid hx
        obtain ⟨b, off, rfl, hb, i0, i1', i2, i3⟩ := (HR1.out.up HW.out.below).insn hx
        have HG := Lib.hid (good_at HC0.out hx)
        have HXO := Lib.hid (HQ.out x (List.mem_of_getElem? hx))
        have HMV := Lib.hid (HW.out.keep (below1 wr (.cells #[.int .u16 x.c, .int .u8 x.j, .int .u8 x.f, .int .u32 x.k] 47)))
        have HBX : Hid ((wr.alloc (.cells #[.int .u16 x.c, .int .u8 x.j, .int .u8 x.f, .int .u32 x.k] 47)).heap[wr.heap.size]? = some (.cells #[.int .u16 x.c, .int .u8 x.j, .int .u8 x.f, .int .u32 x.k] 47 (0, 0))) := Lib.hid (heap_nw wr _)
        have HXB : Hid (wr.heap.size ≠ w1.heap.size ∧ vb.ownBlock ≠ some wr.heap.size) := Lib.hid ⟨by have := HW.out.lt; omega, fun e => by have := own_ltM HW.out.ob _ e; omega⟩
        obtain ⟨V, hV⟩ : ∃ V, V = wr.alloc (.cells #[.int .u16 x.c, .int .u8 x.j, .int .u8 x.f, .int .u32 x.k] 47) := ⟨_, rfl⟩
        have HVV := Lib.hid hV
        have hsV : V.heap.size = wr.heap.size + 1 := by rw [hV]; simp
        have HSV := Lib.hid hsV
        obtain ⟨bg, hbg⟩ : ∃ bg, bg = bgL q i := ⟨_, rfl⟩
        have hbl : bg.length ≤ 4096 := by rw [hbg, bgL_len]; omega
        have HBG := Lib.hid hbg
        rw [← hbg, ← hV] at HMV
        rw [← hV] at HBX
        obtain ⟨N, hN⟩ : ∃ N, N = (fromTo q i).length := ⟨_, rfl⟩
        have HN := Lib.hid hN
        have hNb : N ≤ 16384 := by rw [hN]; show beginN q i ≤ _; omega
        rw [← hN] at HMV
        obtain ⟨c0, c1, -, -⟩ := HMV.out.c
        have d1 := (HMV.out.keep (below1 V (.cells #[.int .i64 N] 3))).c.2.1
        obtain ⟨Xb, hXb⟩ : ∃ Xb, Xb = wr.heap.size := ⟨_, rfl⟩
        have HXX := Lib.hid hXb
        clear hx hsV hbg hlen hN
        go_wp2_with fail
        rw [← HVV.out]
        rw [← HXX.out] at HBX HXB ⊢
        clear hXb hV
        go_region_law (refine begin_drawn HMV.out i1 HI1.out rfl (.tmp 31) (.tmp 38) rfl (N : Int) rfl V.heap.size rfl rfl (by omega) ?_; intro g4 c4 w4 h4 hfr4; have H4 := Lib.hid h4; have hbx : w4.heap[w1.heap.size]? = some (.cells #[.slice Al N cl, vb] 57 (0, 0)) := (hfr4 _ HMV.out.lt (fun e => by have := own_ge HMV.out.ob _ e; omega)).trans HMV.out.box; have k1 : w4.cell? ⟨w1.heap.size, 1, none⟩ = some vb := (by simp [World.cell?, hbx]); have f1 : w4.frozen? ⟨w1.heap.size, 1, none⟩ = false := (by simp [World.frozen?, hbx]); have hX4 : (w4.setCell ⟨w1.heap.size, 1, none⟩ (.slice (some ⟨g4, 0, none⟩) (bg.length + 1) c4)).heap[Xb]? = some (.cells #[.int .u16 x.c, .int .u8 x.j, .int .u8 x.f, .int .u32 x.k] 47 (0, 0)) := (Below.heap_setCell _ _ _ Xb HXB.out.1).trans ((hfr4 Xb (Array.getElem?_eq_some_iff.1 HBX.out).1 HXB.out.2).trans HBX.out); have y0 : (w4.setCell ⟨w1.heap.size, 1, none⟩ (.slice (some ⟨g4, 0, none⟩) (bg.length + 1) c4)).cell? ⟨Xb, 0, none⟩ = some (.int .u16 x.c) := (by simp [World.cell?, hX4]); have y1 : (w4.setCell ⟨w1.heap.size, 1, none⟩ (.slice (some ⟨g4, 0, none⟩) (bg.length + 1) c4)).cell? ⟨Xb, 1, none⟩ = some (.int .u8 x.j) := (by simp [World.cell?, hX4]); have y2 : (w4.setCell ⟨w1.heap.size, 1, none⟩ (.slice (some ⟨g4, 0, none⟩) (bg.length + 1) c4)).cell? ⟨Xb, 2, none⟩ = some (.int .u8 x.f) := (by simp [World.cell?, hX4]); have y3 : (w4.setCell ⟨w1.heap.size, 1, none⟩ (.slice (some ⟨g4, 0, none⟩) (bg.length + 1) c4)).cell? ⟨Xb, 3, none⟩ = some (.int .u32 x.k) := (by simp [World.cell?, hX4]); clear h4 hfr4 hbx hX4)
        all_goals (
          go_wp2_with fail
          refine (lays_c i x HG.out HXO.out (by omega) _ H4.out (by rw [← HN.out]; omega)).mono ?_
          rintro e w5 ⟨rfl, vl5, h5⟩
          have H5 : Hid (MB w1 w1.heap.size (fromTo q (i + 1)) (bgL q (i + 1)) vl5 (.slice (some ⟨g4, 0, none⟩) (bg.length + 1) c4) w5) := Lib.hid (by rw [fromTo_succ HX.out, bgL_succ, ← HBG.out]; rw [show beginN q i = N from HN.out.symm]; rw [← HN.out] at h5; exact h5)
          clear h5
          go_wp2
          go_roundw
          case rel => exact ⟨i + 1, _, _, by omega, by go_num, H5⟩
          case measure => simp [intOf]; omega)
      · obtain rfl : i = q.length := by omega
        have hpos : 0 < (fromTo q q.length).length := begin_lt (q := q) (i := 0) (j := q.length) a1 a1
        have HLE : Hid ((fromTo q q.length).length ≤ 100000) := Lib.hid (by show beginN q q.length ≤ _; omega)
        have HPOS := Lib.hid hpos
        have HT := Lib.hid (fun y hy => lay_targets HC0.out HQ.out (y := y) hy)
        clear hlen hpos
        go_wp2_with fail
        refine (settle_c wr HW.out HLE.out HPOS.out (fun y hy h => ⟨by have := ((HT.out y hy).1 h).1; omega, by rw [bgL_len]; exact ((HT.out y hy).1 h).2⟩) (fun y hy h => ⟨by have := ((HT.out y hy).2 h).1; omega, by rw [bgL_len]; exact ((HT.out y hy).2 h).2⟩)).mono ?_
        rintro e w6 ⟨rfl, vl6, h6⟩
        rw [settle_eq HC0.out HQ.out] at h6
        have hfl : 0 < (fromP q).length := by rw [from_len]; exact HPOS.out
        obtain ⟨g6, c6, hv6, -, -⟩ := h6.ol.form hfl
        subst hv6
        have HRH6 := Lib.hid ((h6.below.block R HRL.out.2).trans HRH.out)
        have H6 := Lib.hid h6
        obtain ⟨c0, -, -, -⟩ := h6.c
        have r0 : w6.cell? ⟨R, 0, none⟩ = some (.int .i64 0) := by simp [World.cell?, HRH6.out]
        have r1 : w6.cell? ⟨R, 1, none⟩ = some (.slice none 0 0) := by simp [World.cell?, HRH6.out]
        have f0 : w6.frozen? ⟨R, 0, none⟩ = false := by simp [World.frozen?, HRH6.out]
        have f1 : w6.frozen? ⟨R, 1, none⟩ = false := by simp [World.frozen?, HRH6.out]
        obtain ⟨s0, s1⟩ := set2M r0 r1 (.int .i64 19) (.slice (some ⟨g6, 0, none⟩) (fromP q).length c6)
        have HPOST : Hid (FromPost w q (.returned (.tuple #[.agg #[.int .i64 19, .slice (some ⟨g6, 0, none⟩) (fromP q).length c6], .int .i64 0])) ((w6.setCell ⟨R, 0, none⟩ (.int .i64 19)).setCell ⟨R, 1, none⟩ (.slice (some ⟨g6, 0, none⟩) (fromP q).length c6))) := Lib.hid (by
          have hge := own_ge h6.ol g6 rfl
          have h1 := HRL.out
          have hsz := HB1.out.size
          refine ⟨set2M_below (below_t HB1.out H6.out.below) HRL.out.1 _ _, .inr ⟨HC0.out, _, rfl, ?_⟩⟩
          have ho := own_setM (own_setM H6.out.ol R 0 (.int .i64 19) (fun e => by have h9 : g6 = R := (by simpa [Value.ownBlock] using e); omega)) R 1 (.slice (some ⟨g6, 0, none⟩) (fromP q).length c6) (fun e => by have h9 : g6 = R := (by simpa [Value.ownBlock] using e); omega)
          refine ⟨ho.1, ?_⟩
          rcases ho.2 with h2 | ⟨g', cap', cur, hv, hg', r⟩
          · exact .inl h2
          · exact .inr ⟨g', cap', cur, hv, by omega, r⟩)
        clear h6 hfl HRH6 H6
        go_wp2
        refine bodyPost_ret (v := .tuple #[.agg #[.int .i64 19, .slice (some ⟨g6, 0, none⟩) (fromP q).length c6], .int .i64 0]) (by simp [results, Try.results7, go_sem, s0, s1]) rfl HPOST.out
  · have hne : (pe != 0) = true := by simpa using h0
    have HNE := Lib.hid (show (checkP q).1 ≠ 0 by rw [← HPE.out]; exact h0)
    clear h0
    go_enter Try.func7, Try.ntmps7
    go_wp2_with fail
    refine (HC.out _ (below1 w _)).mono ?_
    rintro e w1 ⟨rfl, hb1⟩
    rw [← HPE.out, ← HPP.out]
    have r0 := keepC hb1 (show (w.alloc (.cells #[.int .i64 0, .slice none 0 0] 27)).cell? ⟨w.heap.size, 0, none⟩ = some (.int .i64 0) by simp [go_sem])
    have r1 := keepC hb1 (show (w.alloc (.cells #[.int .i64 0, .slice none 0 0] 27)).cell? ⟨w.heap.size, 1, none⟩ = some (.slice none 0 0) by simp [go_sem])
    have hrh : w1.heap[w.heap.size]? = some (.cells #[.int .i64 0, .slice none 0 0] 27 (0, 0)) := (hb1.block _ (by simp)).trans (heap_nw w _)
    have f0 : w1.frozen? ⟨w.heap.size, 0, none⟩ = false := by simp [World.frozen?, hrh]
    have f1 : w1.frozen? ⟨w.heap.size, 1, none⟩ = false := by simp [World.frozen?, hrh]
    obtain ⟨s0, s1⟩ := set2M r0 r1 (.int .i64 0) (.slice none 0 0)
    have HB := Lib.hid (set2M_below (below_t (below1 w _) hb1) (Nat.le_refl _) (.int .i64 0) (.slice none 0 0))
    clear hb1 hrh
    go_wp2
    refine bodyPost_ret (v := .tuple #[.agg #[.int .i64 0, .slice none 0 0], .int .i64 1]) (by simp [results, Try.results7, go_sem, s0, s1]) rfl ⟨HB.out, .inl ⟨HNE.out, rfl⟩⟩
end Go.Proofs.Ytehpoamideeehaa
set_option linter.unusedVariables false
set_option linter.unusedSimpArgs false
namespace Go.Proofs.Ytehpoamideeehaa
open Go.RowKit
/-! mir.From's instructions are of numbers that fit. -/
def Small (y : R7) : Prop := (0 ≤ y.o ∧ y.o ≤ 19) ∧ (0 ≤ y.d ∧ y.d ≤ 18) ∧ (0 ≤ y.a ∧ y.a ≤ 18) ∧ (0 ≤ y.b ∧ y.b ≤ 18) ∧ (0 ≤ y.k ∧ y.k < 4294967296) ∧ (-10000000000 ≤ y.t ∧ y.t ≤ 10000000000) ∧ (-10000000000 ≤ y.f ∧ y.f ≤ 10000000000)
theorem lay_small {q : List I4} (hacc : (checkP q).1 = 0) (hq : ∀ x ∈ q, x.ok) {y : R7} (hy : y ∈ fromTo q q.length) : Small y := by
  obtain ⟨i, x, hx, hi, hm⟩ := fromTo_mem q.length (Nat.le_refl _) y hy
  obtain ⟨-, hl, -, -⟩ := acc_facts hacc
  have hbl := begin_le q i
  have hg := good_at hacc hx
  obtain ⟨c0, c1, j0, j1, f0, f1, k0, k1⟩ := hq x (List.mem_of_getElem? hx)
  have hr := rk_range x
  have hmm := mem_range (x := x) k0
  have pre : y ∈ preK x → Small y := fun h => by
    unfold preK at h
    split at h
    · simp at h
    · simp at h; subst h; unfold Small; dsimp only; omega
  rcases code_parts hg with ⟨h, h60⟩ | h | h
  · rw [lay_alu _ _ h h60] at hm
    have hr := mop_range h
    rcases List.mem_append.1 hm with hm | hm
    · exact pre hm
    · simp at hm; subst hm; unfold Small; dsimp only; omega
  · rw [lay_jump _ _ h] at hm
    have hr := mq_range h
    rcases List.mem_append.1 hm with hm | hm
    · exact pre hm
    · simp at hm; subst hm; unfold Small; dsimp only; omega
  · rcases lay_plain h i (beginN q i) with ⟨e, hl⟩ | ⟨e, hl⟩ | ⟨e, hl⟩ | ⟨e, hl⟩ | ⟨e, hl⟩ | ⟨e, hl⟩ | ⟨e, hl⟩ | ⟨e, hl⟩ | ⟨e, hl⟩ | ⟨e, hl⟩ | ⟨e, hl⟩ | ⟨e, hl⟩ | ⟨e, hl⟩ | ⟨e, hl⟩ | ⟨e, hl⟩ | ⟨e, hl⟩
    all_goals (
      rw [hl] at hm
      simp only [List.mem_cons, List.not_mem_nil, or_false] at hm
      first
        | (subst hm; unfold Small; dsimp only; omega)
        | (rcases hm with rfl | rfl | rfl | rfl <;> (unfold Small; dsimp only; omega))
        | (rcases hm with rfl | rfl <;> (unfold Small; dsimp only; omega)))
theorem from_ok {q : List I4} (hacc : (checkP q).1 = 0) (hq : ∀ x ∈ q, x.ok) : ∀ y ∈ fromP q, y.ok := by
  intro y hy
  unfold fromP at hy
  obtain ⟨z, hz, rfl⟩ := List.mem_map.1 hy
  obtain ⟨h1, h2, h3, h4, h5, h6, h7⟩ := lay_small hacc hq hz
  obtain ⟨-, hl, -, -⟩ := acc_facts hacc
  have hb : ∀ j, beginN q j ≤ 4 * j := begin_le q
  obtain ⟨t1, t2⟩ := lay_targets hacc hq hz
  have bt : shT z.o = true → 0 ≤ z.t → (beginN q z.t.toNat : Int) ≤ 20000 := fun h h0 => by
    have := (t1 h).2 h0
    have := hb z.t.toNat
    omega
  have bf : shF z.o = true → 0 ≤ z.f → (beginN q z.f.toNat : Int) ≤ 20000 := fun h h0 => by
    have := (t2 h).2 h0
    have := hb z.f.toNat
    omega
  unfold settleR R7.ok inI64
  dsimp only
  refine ⟨by omega, by omega, by omega, by omega, by omega, ?_, ?_⟩
  · split
    · rename_i h
      split
      · omega
      · have := bt h (by omega); omega
    · omega
  · split
    · rename_i h
      split
      · omega
      · have := bf h (by omega); omega
    · omega
end Go.Proofs.Ytehpoamideeehaa
