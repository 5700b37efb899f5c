import Derived.Test.YtehpoamideeehaaCbpfM1
import Derived.Test.YtehpoamideeehaaStep
import Derived.Deep.DeepMust
set_option linter.unusedVariables false
set_option linter.unusedSimpArgs false
set_option maxRecDepth 100000
namespace Go.Proofs.Ytehpoamideeehaa
open Go.RowKit
/-! The methods that do what instructions do. -/
set_option maxHeartbeats 800000 in
theorem calu_0 (i : I4) (hi : i.ok) (B : Nat) (K : MK) (z : MV) (hh : bits .and .u16 i.c 240 = 0) (ha : u32ok z.a) (b : Int) (HB : Hid (operC i ⟨z.a, z.x, z.m⟩ = b)) (b0 : 0 ≤ b) (b1 : b < 4294967296) (w : World) (hm : MachAt w B K z) :
    Calls Try.prog 83 #[.pointer (some ⟨B, 0, none⟩), .agg #[.int .u16 i.c, .int .u8 i.j, .int .u8 i.f, .int .u32 i.k]] w (MPost w B K { z with a := sumP 4 z.a b } 0) := by
  obtain ⟨k0, k1⟩ : 0 ≤ i.k ∧ i.k < 4294967296 := ⟨hi.2.2.2.2.2.2.1, hi.2.2.2.2.2.2.2⟩
  have hl := hm.lt
  have HM := Lib.hid hm
  obtain ⟨a0, a1⟩ := ha
  clear hm
  clear hi
  go_enter Try.func83, Try.ntmps83
  go_wp2_with fail
  refine (coper_c i B K z _ (HM.out.alloc _)).mono ?_
  rintro e w1 ⟨rfl, hbw⟩
  have HM1 := Lib.hid ((HM.out.alloc (insnO i)).keep hbw)
  have hg1 : w.grownBy w1 (some B) := (World.grownBy_alloc w (insnO i) (some B)).trans (below_grow hbw)
  obtain ⟨i0, i1, i2, i3⟩ : w1.cell? ⟨w.heap.size, 0, none⟩ = some (.int .u16 i.c) ∧ w1.cell? ⟨w.heap.size, 1, none⟩ = some (.int .u8 i.j) ∧ w1.cell? ⟨w.heap.size, 2, none⟩ = some (.int .u8 i.f) ∧ w1.cell? ⟨w.heap.size, 3, none⟩ = some (.int .u32 i.k) :=
    ⟨keepC hbw (by simp [go_sem]), keepC hbw (by simp [go_sem]), keepC hbw (by simp [go_sem]), keepC hbw (by simp [go_sem])⟩
  have HG1 := Lib.hid hg1
  have hl1 := HM1.out.lt
  have c2 := HM1.out.c2
  have f2 := HM1.out.free 2
  have c20 := HM1.out.c20
  have f20 := HM1.out.free 20
  have c22 := HM1.out.c22
  have f22 := HM1.out.free 22
  clear hbw hg1
  rw [HB.out]
  have e31 : bits .and .u32 b 31 = b % 32 := and31 b b0 b1
  have l1 : 0 ≤ b % 32 := by omega
  have l2 : b % 32 ≤ 32 := by omega
  go_wp2
  refine bodyPost_ret (v := .int .i64 0) (by simp [results, Try.results83, go_sem]) rfl ?_
  exact ⟨rfl, (HM1.out.setA _).cast (by simp [sumP]), (by repeat (first | exact HG1.out | apply grow_drew | apply grow_al | apply grow_set))⟩
set_option maxHeartbeats 800000 in
theorem calu_16 (i : I4) (hi : i.ok) (B : Nat) (K : MK) (z : MV) (hh : bits .and .u16 i.c 240 = 16) (ha : u32ok z.a) (b : Int) (HB : Hid (operC i ⟨z.a, z.x, z.m⟩ = b)) (b0 : 0 ≤ b) (b1 : b < 4294967296) (w : World) (hm : MachAt w B K z) :
    Calls Try.prog 83 #[.pointer (some ⟨B, 0, none⟩), .agg #[.int .u16 i.c, .int .u8 i.j, .int .u8 i.f, .int .u32 i.k]] w (MPost w B K { z with a := sumP 5 z.a b } 0) := by
  obtain ⟨k0, k1⟩ : 0 ≤ i.k ∧ i.k < 4294967296 := ⟨hi.2.2.2.2.2.2.1, hi.2.2.2.2.2.2.2⟩
  have hl := hm.lt
  have HM := Lib.hid hm
  obtain ⟨a0, a1⟩ := ha
  clear hm
  clear hi
  go_enter Try.func83, Try.ntmps83
  go_wp2_with fail
  refine (coper_c i B K z _ (HM.out.alloc _)).mono ?_
  rintro e w1 ⟨rfl, hbw⟩
  have HM1 := Lib.hid ((HM.out.alloc (insnO i)).keep hbw)
  have hg1 : w.grownBy w1 (some B) := (World.grownBy_alloc w (insnO i) (some B)).trans (below_grow hbw)
  obtain ⟨i0, i1, i2, i3⟩ : w1.cell? ⟨w.heap.size, 0, none⟩ = some (.int .u16 i.c) ∧ w1.cell? ⟨w.heap.size, 1, none⟩ = some (.int .u8 i.j) ∧ w1.cell? ⟨w.heap.size, 2, none⟩ = some (.int .u8 i.f) ∧ w1.cell? ⟨w.heap.size, 3, none⟩ = some (.int .u32 i.k) :=
    ⟨keepC hbw (by simp [go_sem]), keepC hbw (by simp [go_sem]), keepC hbw (by simp [go_sem]), keepC hbw (by simp [go_sem])⟩
  have HG1 := Lib.hid hg1
  have hl1 := HM1.out.lt
  have c2 := HM1.out.c2
  have f2 := HM1.out.free 2
  have c20 := HM1.out.c20
  have f20 := HM1.out.free 20
  have c22 := HM1.out.c22
  have f22 := HM1.out.free 22
  clear hbw hg1
  rw [HB.out]
  have e31 : bits .and .u32 b 31 = b % 32 := and31 b b0 b1
  have l1 : 0 ≤ b % 32 := by omega
  have l2 : b % 32 ≤ 32 := by omega
  go_wp2
  refine bodyPost_ret (v := .int .i64 0) (by simp [results, Try.results83, go_sem]) rfl ?_
  exact ⟨rfl, (HM1.out.setA _).cast (by simp [sumP]), (by repeat (first | exact HG1.out | apply grow_drew | apply grow_al | apply grow_set))⟩
set_option maxHeartbeats 800000 in
theorem calu_32 (i : I4) (hi : i.ok) (B : Nat) (K : MK) (z : MV) (hh : bits .and .u16 i.c 240 = 32) (ha : u32ok z.a) (b : Int) (HB : Hid (operC i ⟨z.a, z.x, z.m⟩ = b)) (b0 : 0 ≤ b) (b1 : b < 4294967296) (w : World) (hm : MachAt w B K z) :
    Calls Try.prog 83 #[.pointer (some ⟨B, 0, none⟩), .agg #[.int .u16 i.c, .int .u8 i.j, .int .u8 i.f, .int .u32 i.k]] w (MPost w B K { z with a := sumP 6 z.a b } 0) := by
  obtain ⟨k0, k1⟩ : 0 ≤ i.k ∧ i.k < 4294967296 := ⟨hi.2.2.2.2.2.2.1, hi.2.2.2.2.2.2.2⟩
  have hl := hm.lt
  have HM := Lib.hid hm
  obtain ⟨a0, a1⟩ := ha
  clear hm
  clear hi
  go_enter Try.func83, Try.ntmps83
  go_wp2_with fail
  refine (coper_c i B K z _ (HM.out.alloc _)).mono ?_
  rintro e w1 ⟨rfl, hbw⟩
  have HM1 := Lib.hid ((HM.out.alloc (insnO i)).keep hbw)
  have hg1 : w.grownBy w1 (some B) := (World.grownBy_alloc w (insnO i) (some B)).trans (below_grow hbw)
  obtain ⟨i0, i1, i2, i3⟩ : w1.cell? ⟨w.heap.size, 0, none⟩ = some (.int .u16 i.c) ∧ w1.cell? ⟨w.heap.size, 1, none⟩ = some (.int .u8 i.j) ∧ w1.cell? ⟨w.heap.size, 2, none⟩ = some (.int .u8 i.f) ∧ w1.cell? ⟨w.heap.size, 3, none⟩ = some (.int .u32 i.k) :=
    ⟨keepC hbw (by simp [go_sem]), keepC hbw (by simp [go_sem]), keepC hbw (by simp [go_sem]), keepC hbw (by simp [go_sem])⟩
  have HG1 := Lib.hid hg1
  have hl1 := HM1.out.lt
  have c2 := HM1.out.c2
  have f2 := HM1.out.free 2
  have c20 := HM1.out.c20
  have f20 := HM1.out.free 20
  have c22 := HM1.out.c22
  have f22 := HM1.out.free 22
  clear hbw hg1
  rw [HB.out]
  have e31 : bits .and .u32 b 31 = b % 32 := and31 b b0 b1
  have l1 : 0 ≤ b % 32 := by omega
  have l2 : b % 32 ≤ 32 := by omega
  go_wp2
  refine bodyPost_ret (v := .int .i64 0) (by simp [results, Try.results83, go_sem]) rfl ?_
  exact ⟨rfl, (HM1.out.setA _).cast (by simp [sumP]), (by repeat (first | exact HG1.out | apply grow_drew | apply grow_al | apply grow_set))⟩
set_option maxHeartbeats 800000 in
theorem calu_64 (i : I4) (hi : i.ok) (B : Nat) (K : MK) (z : MV) (hh : bits .and .u16 i.c 240 = 64) (ha : u32ok z.a) (b : Int) (HB : Hid (operC i ⟨z.a, z.x, z.m⟩ = b)) (b0 : 0 ≤ b) (b1 : b < 4294967296) (w : World) (hm : MachAt w B K z) :
    Calls Try.prog 83 #[.pointer (some ⟨B, 0, none⟩), .agg #[.int .u16 i.c, .int .u8 i.j, .int .u8 i.f, .int .u32 i.k]] w (MPost w B K { z with a := sumP 9 z.a b } 0) := by
  obtain ⟨k0, k1⟩ : 0 ≤ i.k ∧ i.k < 4294967296 := ⟨hi.2.2.2.2.2.2.1, hi.2.2.2.2.2.2.2⟩
  have hl := hm.lt
  have HM := Lib.hid hm
  obtain ⟨a0, a1⟩ := ha
  clear hm
  clear hi
  go_enter Try.func83, Try.ntmps83
  go_wp2_with fail
  refine (coper_c i B K z _ (HM.out.alloc _)).mono ?_
  rintro e w1 ⟨rfl, hbw⟩
  have HM1 := Lib.hid ((HM.out.alloc (insnO i)).keep hbw)
  have hg1 : w.grownBy w1 (some B) := (World.grownBy_alloc w (insnO i) (some B)).trans (below_grow hbw)
  obtain ⟨i0, i1, i2, i3⟩ : w1.cell? ⟨w.heap.size, 0, none⟩ = some (.int .u16 i.c) ∧ w1.cell? ⟨w.heap.size, 1, none⟩ = some (.int .u8 i.j) ∧ w1.cell? ⟨w.heap.size, 2, none⟩ = some (.int .u8 i.f) ∧ w1.cell? ⟨w.heap.size, 3, none⟩ = some (.int .u32 i.k) :=
    ⟨keepC hbw (by simp [go_sem]), keepC hbw (by simp [go_sem]), keepC hbw (by simp [go_sem]), keepC hbw (by simp [go_sem])⟩
  have HG1 := Lib.hid hg1
  have hl1 := HM1.out.lt
  have c2 := HM1.out.c2
  have f2 := HM1.out.free 2
  have c20 := HM1.out.c20
  have f20 := HM1.out.free 20
  have c22 := HM1.out.c22
  have f22 := HM1.out.free 22
  clear hbw hg1
  rw [HB.out]
  have e31 : bits .and .u32 b 31 = b % 32 := and31 b b0 b1
  have l1 : 0 ≤ b % 32 := by omega
  have l2 : b % 32 ≤ 32 := by omega
  go_wp2
  refine bodyPost_ret (v := .int .i64 0) (by simp [results, Try.results83, go_sem]) rfl ?_
  exact ⟨rfl, (HM1.out.setA _).cast (by simp [sumP]), (by repeat (first | exact HG1.out | apply grow_drew | apply grow_al | apply grow_set))⟩
set_option maxHeartbeats 800000 in
theorem calu_80 (i : I4) (hi : i.ok) (B : Nat) (K : MK) (z : MV) (hh : bits .and .u16 i.c 240 = 80) (ha : u32ok z.a) (b : Int) (HB : Hid (operC i ⟨z.a, z.x, z.m⟩ = b)) (b0 : 0 ≤ b) (b1 : b < 4294967296) (w : World) (hm : MachAt w B K z) :
    Calls Try.prog 83 #[.pointer (some ⟨B, 0, none⟩), .agg #[.int .u16 i.c, .int .u8 i.j, .int .u8 i.f, .int .u32 i.k]] w (MPost w B K { z with a := sumP 8 z.a b } 0) := by
  obtain ⟨k0, k1⟩ : 0 ≤ i.k ∧ i.k < 4294967296 := ⟨hi.2.2.2.2.2.2.1, hi.2.2.2.2.2.2.2⟩
  have hl := hm.lt
  have HM := Lib.hid hm
  obtain ⟨a0, a1⟩ := ha
  clear hm
  clear hi
  go_enter Try.func83, Try.ntmps83
  go_wp2_with fail
  refine (coper_c i B K z _ (HM.out.alloc _)).mono ?_
  rintro e w1 ⟨rfl, hbw⟩
  have HM1 := Lib.hid ((HM.out.alloc (insnO i)).keep hbw)
  have hg1 : w.grownBy w1 (some B) := (World.grownBy_alloc w (insnO i) (some B)).trans (below_grow hbw)
  obtain ⟨i0, i1, i2, i3⟩ : w1.cell? ⟨w.heap.size, 0, none⟩ = some (.int .u16 i.c) ∧ w1.cell? ⟨w.heap.size, 1, none⟩ = some (.int .u8 i.j) ∧ w1.cell? ⟨w.heap.size, 2, none⟩ = some (.int .u8 i.f) ∧ w1.cell? ⟨w.heap.size, 3, none⟩ = some (.int .u32 i.k) :=
    ⟨keepC hbw (by simp [go_sem]), keepC hbw (by simp [go_sem]), keepC hbw (by simp [go_sem]), keepC hbw (by simp [go_sem])⟩
  have HG1 := Lib.hid hg1
  have hl1 := HM1.out.lt
  have c2 := HM1.out.c2
  have f2 := HM1.out.free 2
  have c20 := HM1.out.c20
  have f20 := HM1.out.free 20
  have c22 := HM1.out.c22
  have f22 := HM1.out.free 22
  clear hbw hg1
  rw [HB.out]
  have e31 : bits .and .u32 b 31 = b % 32 := and31 b b0 b1
  have l1 : 0 ≤ b % 32 := by omega
  have l2 : b % 32 ≤ 32 := by omega
  go_wp2
  refine bodyPost_ret (v := .int .i64 0) (by simp [results, Try.results83, go_sem]) rfl ?_
  exact ⟨rfl, (HM1.out.setA _).cast (by simp [sumP]), (by repeat (first | exact HG1.out | apply grow_drew | apply grow_al | apply grow_set))⟩
set_option maxHeartbeats 800000 in
theorem calu_96 (i : I4) (hi : i.ok) (B : Nat) (K : MK) (z : MV) (hh : bits .and .u16 i.c 240 = 96) (ha : u32ok z.a) (b : Int) (HB : Hid (operC i ⟨z.a, z.x, z.m⟩ = b)) (b0 : 0 ≤ b) (b1 : b < 4294967296) (w : World) (hm : MachAt w B K z) :
    Calls Try.prog 83 #[.pointer (some ⟨B, 0, none⟩), .agg #[.int .u16 i.c, .int .u8 i.j, .int .u8 i.f, .int .u32 i.k]] w (MPost w B K { z with a := sumP 11 z.a b } 0) := by
  obtain ⟨k0, k1⟩ : 0 ≤ i.k ∧ i.k < 4294967296 := ⟨hi.2.2.2.2.2.2.1, hi.2.2.2.2.2.2.2⟩
  have hl := hm.lt
  have HM := Lib.hid hm
  obtain ⟨a0, a1⟩ := ha
  clear hm
  clear hi
  go_enter Try.func83, Try.ntmps83
  go_wp2_with fail
  refine (coper_c i B K z _ (HM.out.alloc _)).mono ?_
  rintro e w1 ⟨rfl, hbw⟩
  have HM1 := Lib.hid ((HM.out.alloc (insnO i)).keep hbw)
  have hg1 : w.grownBy w1 (some B) := (World.grownBy_alloc w (insnO i) (some B)).trans (below_grow hbw)
  obtain ⟨i0, i1, i2, i3⟩ : w1.cell? ⟨w.heap.size, 0, none⟩ = some (.int .u16 i.c) ∧ w1.cell? ⟨w.heap.size, 1, none⟩ = some (.int .u8 i.j) ∧ w1.cell? ⟨w.heap.size, 2, none⟩ = some (.int .u8 i.f) ∧ w1.cell? ⟨w.heap.size, 3, none⟩ = some (.int .u32 i.k) :=
    ⟨keepC hbw (by simp [go_sem]), keepC hbw (by simp [go_sem]), keepC hbw (by simp [go_sem]), keepC hbw (by simp [go_sem])⟩
  have HG1 := Lib.hid hg1
  have hl1 := HM1.out.lt
  have c2 := HM1.out.c2
  have f2 := HM1.out.free 2
  have c20 := HM1.out.c20
  have f20 := HM1.out.free 20
  have c22 := HM1.out.c22
  have f22 := HM1.out.free 22
  clear hbw hg1
  rw [HB.out]
  have e31 : bits .and .u32 b 31 = b % 32 := and31 b b0 b1
  have l1 : 0 ≤ b % 32 := by omega
  have l2 : b % 32 ≤ 32 := by omega
  go_wp2
  refine bodyPost_ret (v := .int .i64 0) (by simp [results, Try.results83, go_sem]) rfl ?_
  exact ⟨rfl, (HM1.out.setA _).cast (by simp [sumP]), (by repeat (first | exact HG1.out | apply grow_drew | apply grow_al | apply grow_set))⟩
set_option maxHeartbeats 800000 in
theorem calu_112 (i : I4) (hi : i.ok) (B : Nat) (K : MK) (z : MV) (hh : bits .and .u16 i.c 240 = 112) (ha : u32ok z.a) (b : Int) (HB : Hid (operC i ⟨z.a, z.x, z.m⟩ = b)) (b0 : 0 ≤ b) (b1 : b < 4294967296) (w : World) (hm : MachAt w B K z) :
    Calls Try.prog 83 #[.pointer (some ⟨B, 0, none⟩), .agg #[.int .u16 i.c, .int .u8 i.j, .int .u8 i.f, .int .u32 i.k]] w (MPost w B K { z with a := sumP 12 z.a b } 0) := by
  obtain ⟨k0, k1⟩ : 0 ≤ i.k ∧ i.k < 4294967296 := ⟨hi.2.2.2.2.2.2.1, hi.2.2.2.2.2.2.2⟩
  have hl := hm.lt
  have HM := Lib.hid hm
  obtain ⟨a0, a1⟩ := ha
  clear hm
  clear hi
  go_enter Try.func83, Try.ntmps83
  go_wp2_with fail
  refine (coper_c i B K z _ (HM.out.alloc _)).mono ?_
  rintro e w1 ⟨rfl, hbw⟩
  have HM1 := Lib.hid ((HM.out.alloc (insnO i)).keep hbw)
  have hg1 : w.grownBy w1 (some B) := (World.grownBy_alloc w (insnO i) (some B)).trans (below_grow hbw)
  obtain ⟨i0, i1, i2, i3⟩ : w1.cell? ⟨w.heap.size, 0, none⟩ = some (.int .u16 i.c) ∧ w1.cell? ⟨w.heap.size, 1, none⟩ = some (.int .u8 i.j) ∧ w1.cell? ⟨w.heap.size, 2, none⟩ = some (.int .u8 i.f) ∧ w1.cell? ⟨w.heap.size, 3, none⟩ = some (.int .u32 i.k) :=
    ⟨keepC hbw (by simp [go_sem]), keepC hbw (by simp [go_sem]), keepC hbw (by simp [go_sem]), keepC hbw (by simp [go_sem])⟩
  have HG1 := Lib.hid hg1
  have hl1 := HM1.out.lt
  have c2 := HM1.out.c2
  have f2 := HM1.out.free 2
  have c20 := HM1.out.c20
  have f20 := HM1.out.free 20
  have c22 := HM1.out.c22
  have f22 := HM1.out.free 22
  clear hbw hg1
  rw [HB.out]
  have e31 : bits .and .u32 b 31 = b % 32 := and31 b b0 b1
  have l1 : 0 ≤ b % 32 := by omega
  have l2 : b % 32 ≤ 32 := by omega
  go_wp2
  refine bodyPost_ret (v := .int .i64 0) (by simp [results, Try.results83, go_sem]) rfl ?_
  exact ⟨rfl, (HM1.out.setA _).cast (by simp [sumP]), (by repeat (first | exact HG1.out | apply grow_drew | apply grow_al | apply grow_set))⟩
set_option maxHeartbeats 800000 in
theorem calu_160 (i : I4) (hi : i.ok) (B : Nat) (K : MK) (z : MV) (hh : bits .and .u16 i.c 240 = 160) (ha : u32ok z.a) (b : Int) (HB : Hid (operC i ⟨z.a, z.x, z.m⟩ = b)) (b0 : 0 ≤ b) (b1 : b < 4294967296) (w : World) (hm : MachAt w B K z) :
    Calls Try.prog 83 #[.pointer (some ⟨B, 0, none⟩), .agg #[.int .u16 i.c, .int .u8 i.j, .int .u8 i.f, .int .u32 i.k]] w (MPost w B K { z with a := sumP 10 z.a b } 0) := by
  obtain ⟨k0, k1⟩ : 0 ≤ i.k ∧ i.k < 4294967296 := ⟨hi.2.2.2.2.2.2.1, hi.2.2.2.2.2.2.2⟩
  have hl := hm.lt
  have HM := Lib.hid hm
  obtain ⟨a0, a1⟩ := ha
  clear hm
  clear hi
  go_enter Try.func83, Try.ntmps83
  go_wp2_with fail
  refine (coper_c i B K z _ (HM.out.alloc _)).mono ?_
  rintro e w1 ⟨rfl, hbw⟩
  have HM1 := Lib.hid ((HM.out.alloc (insnO i)).keep hbw)
  have hg1 : w.grownBy w1 (some B) := (World.grownBy_alloc w (insnO i) (some B)).trans (below_grow hbw)
  obtain ⟨i0, i1, i2, i3⟩ : w1.cell? ⟨w.heap.size, 0, none⟩ = some (.int .u16 i.c) ∧ w1.cell? ⟨w.heap.size, 1, none⟩ = some (.int .u8 i.j) ∧ w1.cell? ⟨w.heap.size, 2, none⟩ = some (.int .u8 i.f) ∧ w1.cell? ⟨w.heap.size, 3, none⟩ = some (.int .u32 i.k) :=
    ⟨keepC hbw (by simp [go_sem]), keepC hbw (by simp [go_sem]), keepC hbw (by simp [go_sem]), keepC hbw (by simp [go_sem])⟩
  have HG1 := Lib.hid hg1
  have hl1 := HM1.out.lt
  have c2 := HM1.out.c2
  have f2 := HM1.out.free 2
  have c20 := HM1.out.c20
  have f20 := HM1.out.free 20
  have c22 := HM1.out.c22
  have f22 := HM1.out.free 22
  clear hbw hg1
  rw [HB.out]
  have e31 : bits .and .u32 b 31 = b % 32 := and31 b b0 b1
  have l1 : 0 ≤ b % 32 := by omega
  have l2 : b % 32 ≤ 32 := by omega
  go_wp2
  refine bodyPost_ret (v := .int .i64 0) (by simp [results, Try.results83, go_sem]) rfl ?_
  exact ⟨rfl, (HM1.out.setA _).cast (by simp [sumP]), (by repeat (first | exact HG1.out | apply grow_drew | apply grow_al | apply grow_set))⟩
set_option maxHeartbeats 800000 in
theorem calu_48 (i : I4) (hi : i.ok) (B : Nat) (K : MK) (z : MV) (hh : bits .and .u16 i.c 240 = 48) (ha : u32ok z.a) (b : Int) (HB : Hid (operC i ⟨z.a, z.x, z.m⟩ = b)) (b0 : 0 ≤ b) (b1 : b < 4294967296) (hne : (b != 0) = true) (w : World) (hm : MachAt w B K z) :
    Calls Try.prog 83 #[.pointer (some ⟨B, 0, none⟩), .agg #[.int .u16 i.c, .int .u8 i.j, .int .u8 i.f, .int .u32 i.k]] w (MPost w B K { z with a := sumP 7 z.a b } 0) := by
  obtain ⟨k0, k1⟩ : 0 ≤ i.k ∧ i.k < 4294967296 := ⟨hi.2.2.2.2.2.2.1, hi.2.2.2.2.2.2.2⟩
  have hl := hm.lt
  have HM := Lib.hid hm
  obtain ⟨a0, a1⟩ := ha
  clear hm
  clear hi
  go_enter Try.func83, Try.ntmps83
  go_wp2_with fail
  refine (coper_c i B K z _ (HM.out.alloc _)).mono ?_
  rintro e w1 ⟨rfl, hbw⟩
  have HM1 := Lib.hid ((HM.out.alloc (insnO i)).keep hbw)
  have hg1 : w.grownBy w1 (some B) := (World.grownBy_alloc w (insnO i) (some B)).trans (below_grow hbw)
  obtain ⟨i0, i1, i2, i3⟩ : w1.cell? ⟨w.heap.size, 0, none⟩ = some (.int .u16 i.c) ∧ w1.cell? ⟨w.heap.size, 1, none⟩ = some (.int .u8 i.j) ∧ w1.cell? ⟨w.heap.size, 2, none⟩ = some (.int .u8 i.f) ∧ w1.cell? ⟨w.heap.size, 3, none⟩ = some (.int .u32 i.k) :=
    ⟨keepC hbw (by simp [go_sem]), keepC hbw (by simp [go_sem]), keepC hbw (by simp [go_sem]), keepC hbw (by simp [go_sem])⟩
  have HG1 := Lib.hid hg1
  have hl1 := HM1.out.lt
  have c2 := HM1.out.c2
  have f2 := HM1.out.free 2
  have c20 := HM1.out.c20
  have f20 := HM1.out.free 20
  have c22 := HM1.out.c22
  have f22 := HM1.out.free 22
  clear hbw hg1
  rw [HB.out]
  have hz : ¬ b = 0 := by simpa using hne
  go_wp2
  refine bodyPost_ret (v := .int .i64 0) (by simp [results, Try.results83, go_sem]) rfl ?_
  exact ⟨rfl, (HM1.out.setA _).cast (by simp [sumP]), (by repeat (first | exact HG1.out | apply grow_drew | apply grow_al | apply grow_set))⟩
set_option maxHeartbeats 800000 in
theorem calu_48k (i : I4) (hi : i.ok) (B : Nat) (K : MK) (z : MV) (hh : bits .and .u16 i.c 240 = 48) (hxb : (bits .and .u16 i.c 8 == 0) = true) (ha : u32ok z.a) (b : Int) (HB : Hid (operC i ⟨z.a, z.x, z.m⟩ = b)) (b0 : 0 ≤ b) (b1 : b < 4294967296) (hne : (b != 0) = false) (w : World) (hm : MachAt w B K z) :
    Calls Try.prog 83 #[.pointer (some ⟨B, 0, none⟩), .agg #[.int .u16 i.c, .int .u8 i.j, .int .u8 i.f, .int .u32 i.k]] w (MPost w B K z 36) := by
  obtain ⟨k0, k1⟩ : 0 ≤ i.k ∧ i.k < 4294967296 := ⟨hi.2.2.2.2.2.2.1, hi.2.2.2.2.2.2.2⟩
  have hl := hm.lt
  have HM := Lib.hid hm
  obtain ⟨a0, a1⟩ := ha
  clear hm
  clear hi
  go_enter Try.func83, Try.ntmps83
  go_wp2_with fail
  refine (coper_c i B K z _ (HM.out.alloc _)).mono ?_
  rintro e w1 ⟨rfl, hbw⟩
  have HM1 := Lib.hid ((HM.out.alloc (insnO i)).keep hbw)
  have hg1 : w.grownBy w1 (some B) := (World.grownBy_alloc w (insnO i) (some B)).trans (below_grow hbw)
  obtain ⟨i0, i1, i2, i3⟩ : w1.cell? ⟨w.heap.size, 0, none⟩ = some (.int .u16 i.c) ∧ w1.cell? ⟨w.heap.size, 1, none⟩ = some (.int .u8 i.j) ∧ w1.cell? ⟨w.heap.size, 2, none⟩ = some (.int .u8 i.f) ∧ w1.cell? ⟨w.heap.size, 3, none⟩ = some (.int .u32 i.k) :=
    ⟨keepC hbw (by simp [go_sem]), keepC hbw (by simp [go_sem]), keepC hbw (by simp [go_sem]), keepC hbw (by simp [go_sem])⟩
  have HG1 := Lib.hid hg1
  have hl1 := HM1.out.lt
  have c2 := HM1.out.c2
  have f2 := HM1.out.free 2
  have c20 := HM1.out.c20
  have f20 := HM1.out.free 20
  have c22 := HM1.out.c22
  have f22 := HM1.out.free 22
  clear hbw hg1
  rw [HB.out]
  go_wp2
  refine bodyPost_ret (v := .int .i64 36) (by simp [results, Try.results83, go_sem]) rfl ?_
  exact ⟨rfl, HM1.out, (by repeat (first | exact HG1.out | apply grow_drew | apply grow_al | apply grow_set))⟩
set_option maxHeartbeats 800000 in
theorem calu_48x (i : I4) (hi : i.ok) (B : Nat) (K : MK) (z : MV) (hh : bits .and .u16 i.c 240 = 48) (hxb : (bits .and .u16 i.c 8 == 0) = false) (hp : 0 ≤ z.place) (hp2 : z.place ≤ 9223372032559808512) (ha : u32ok z.a) (b : Int) (HB : Hid (operC i ⟨z.a, z.x, z.m⟩ = b)) (b0 : 0 ≤ b) (b1 : b < 4294967296) (hne : (b != 0) = false) (w : World) (hm : MachAt w B K z) :
    Calls Try.prog 83 #[.pointer (some ⟨B, 0, none⟩), .agg #[.int .u16 i.c, .int .u8 i.j, .int .u8 i.f, .int .u32 i.k]] w (MPost w B K { z with through := true, place := z.place - 1 } 0) := by
  obtain ⟨k0, k1⟩ : 0 ≤ i.k ∧ i.k < 4294967296 := ⟨hi.2.2.2.2.2.2.1, hi.2.2.2.2.2.2.2⟩
  have hl := hm.lt
  have HM := Lib.hid hm
  obtain ⟨a0, a1⟩ := ha
  clear hm
  clear hi
  go_enter Try.func83, Try.ntmps83
  go_wp2_with fail
  refine (coper_c i B K z _ (HM.out.alloc _)).mono ?_
  rintro e w1 ⟨rfl, hbw⟩
  have HM1 := Lib.hid ((HM.out.alloc (insnO i)).keep hbw)
  have hg1 : w.grownBy w1 (some B) := (World.grownBy_alloc w (insnO i) (some B)).trans (below_grow hbw)
  obtain ⟨i0, i1, i2, i3⟩ : w1.cell? ⟨w.heap.size, 0, none⟩ = some (.int .u16 i.c) ∧ w1.cell? ⟨w.heap.size, 1, none⟩ = some (.int .u8 i.j) ∧ w1.cell? ⟨w.heap.size, 2, none⟩ = some (.int .u8 i.f) ∧ w1.cell? ⟨w.heap.size, 3, none⟩ = some (.int .u32 i.k) :=
    ⟨keepC hbw (by simp [go_sem]), keepC hbw (by simp [go_sem]), keepC hbw (by simp [go_sem]), keepC hbw (by simp [go_sem])⟩
  have HG1 := Lib.hid hg1
  have hl1 := HM1.out.lt
  have c2 := HM1.out.c2
  have f2 := HM1.out.free 2
  have c20 := HM1.out.c20
  have f20 := HM1.out.free 20
  have c22 := HM1.out.c22
  have f22 := HM1.out.free 22
  clear hbw hg1
  rw [HB.out]
  go_wp2
  refine bodyPost_ret (v := .int .i64 0) (by simp [results, Try.results83, go_sem]) rfl ?_
  exact ⟨rfl, (HM1.out.setThrough true).setPlace _, (by repeat (first | exact HG1.out | apply grow_drew | apply grow_al | apply grow_set))⟩
end Go.Proofs.Ytehpoamideeehaa
