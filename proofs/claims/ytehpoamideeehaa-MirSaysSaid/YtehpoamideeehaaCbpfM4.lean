import Derived.Test.YtehpoamideeehaaCbpfM1
import Derived.Test.YtehpoamideeehaaStep
import Derived.Deep.DeepMust
set_option linter.unusedVariables false
set_option linter.unusedSimpArgs false
set_option maxRecDepth 100000
namespace Go.Proofs.Ytehpoamideeehaa
open Go.RowKit
/-! The methods that do what instructions do. -/
set_option maxHeartbeats 800000 in
theorem cbr_16_j (i : I4) (hi : i.ok) (B : Nat) (K : MK) (z : MV) (hh : bits .and .u16 i.c 240 = 16) (hp : 0 ≤ z.place) (hp2 : z.place ≤ 9223372032559808512) (ha : u32ok z.a) (b : Int) (HB : Hid (operC i ⟨z.a, z.x, z.m⟩ = b)) (b0 : 0 ≤ b) (b1 : b < 4294967296) (hs : (z.a == b) = true) (w : World) (hm : MachAt w B K z) :
    Calls Try.prog 84 #[.pointer (some ⟨B, 0, none⟩), .agg #[.int .u16 i.c, .int .u8 i.j, .int .u8 i.f, .int .u32 i.k]] w (MPost w B K { z with place := z.place + i.j } 0) := by
  obtain ⟨k0, k1⟩ : 0 ≤ i.k ∧ i.k < 4294967296 := ⟨hi.2.2.2.2.2.2.1, hi.2.2.2.2.2.2.2⟩
  have hl := hm.lt
  have HM := Lib.hid hm
  obtain ⟨j0, j1, f0, f1⟩ : 0 ≤ i.j ∧ i.j < 256 ∧ 0 ≤ i.f ∧ i.f < 256 := ⟨hi.2.2.1, hi.2.2.2.1, hi.2.2.2.2.1, hi.2.2.2.2.2.1⟩
  obtain ⟨a0, a1⟩ := ha
  clear hm
  clear hi
  go_enter Try.func84, Try.ntmps84
  go_wp2_with fail
  refine (coper_c i B K z _ (HM.out.alloc _)).mono ?_
  rintro e w1 ⟨rfl, hbw⟩
  have HM1 := Lib.hid ((HM.out.alloc (insnO i)).keep hbw)
  have hg1 : w.grownBy w1 (some B) := (World.grownBy_alloc w (insnO i) (some B)).trans (below_grow hbw)
  obtain ⟨i0, i1, i2, i3⟩ : w1.cell? ⟨w.heap.size, 0, none⟩ = some (.int .u16 i.c) ∧ w1.cell? ⟨w.heap.size, 1, none⟩ = some (.int .u8 i.j) ∧ w1.cell? ⟨w.heap.size, 2, none⟩ = some (.int .u8 i.f) ∧ w1.cell? ⟨w.heap.size, 3, none⟩ = some (.int .u32 i.k) :=
    ⟨keepC hbw (by simp [go_sem]), keepC hbw (by simp [go_sem]), keepC hbw (by simp [go_sem]), keepC hbw (by simp [go_sem])⟩
  have HG1 := Lib.hid hg1
  have hl1 := HM1.out.lt
  have c2 := HM1.out.c2
  have f2 := HM1.out.free 2
  have c20 := HM1.out.c20
  have f20 := HM1.out.free 20
  have c22 := HM1.out.c22
  have f22 := HM1.out.free 22
  clear hbw hg1
  rw [HB.out]
  go_wp2
  go_region
  all_goals go_wp2
  all_goals (refine bodyPost_ret (v := .int .i64 0) (by simp [results, Try.results84, go_sem]) rfl ?_)
  all_goals exact ⟨rfl, (HM1.out.setPlace _).drew, (by repeat (first | exact HG1.out | apply grow_drew | apply grow_al | apply grow_set))⟩
set_option maxHeartbeats 800000 in
theorem cbr_16_f (i : I4) (hi : i.ok) (B : Nat) (K : MK) (z : MV) (hh : bits .and .u16 i.c 240 = 16) (hp : 0 ≤ z.place) (hp2 : z.place ≤ 9223372032559808512) (ha : u32ok z.a) (b : Int) (HB : Hid (operC i ⟨z.a, z.x, z.m⟩ = b)) (b0 : 0 ≤ b) (b1 : b < 4294967296) (hs : (z.a == b) = false) (w : World) (hm : MachAt w B K z) :
    Calls Try.prog 84 #[.pointer (some ⟨B, 0, none⟩), .agg #[.int .u16 i.c, .int .u8 i.j, .int .u8 i.f, .int .u32 i.k]] w (MPost w B K { z with place := z.place + i.f } 0) := by
  obtain ⟨k0, k1⟩ : 0 ≤ i.k ∧ i.k < 4294967296 := ⟨hi.2.2.2.2.2.2.1, hi.2.2.2.2.2.2.2⟩
  have hl := hm.lt
  have HM := Lib.hid hm
  obtain ⟨j0, j1, f0, f1⟩ : 0 ≤ i.j ∧ i.j < 256 ∧ 0 ≤ i.f ∧ i.f < 256 := ⟨hi.2.2.1, hi.2.2.2.1, hi.2.2.2.2.1, hi.2.2.2.2.2.1⟩
  obtain ⟨a0, a1⟩ := ha
  clear hm
  clear hi
  go_enter Try.func84, Try.ntmps84
  go_wp2_with fail
  refine (coper_c i B K z _ (HM.out.alloc _)).mono ?_
  rintro e w1 ⟨rfl, hbw⟩
  have HM1 := Lib.hid ((HM.out.alloc (insnO i)).keep hbw)
  have hg1 : w.grownBy w1 (some B) := (World.grownBy_alloc w (insnO i) (some B)).trans (below_grow hbw)
  obtain ⟨i0, i1, i2, i3⟩ : w1.cell? ⟨w.heap.size, 0, none⟩ = some (.int .u16 i.c) ∧ w1.cell? ⟨w.heap.size, 1, none⟩ = some (.int .u8 i.j) ∧ w1.cell? ⟨w.heap.size, 2, none⟩ = some (.int .u8 i.f) ∧ w1.cell? ⟨w.heap.size, 3, none⟩ = some (.int .u32 i.k) :=
    ⟨keepC hbw (by simp [go_sem]), keepC hbw (by simp [go_sem]), keepC hbw (by simp [go_sem]), keepC hbw (by simp [go_sem])⟩
  have HG1 := Lib.hid hg1
  have hl1 := HM1.out.lt
  have c2 := HM1.out.c2
  have f2 := HM1.out.free 2
  have c20 := HM1.out.c20
  have f20 := HM1.out.free 20
  have c22 := HM1.out.c22
  have f22 := HM1.out.free 22
  clear hbw hg1
  rw [HB.out]
  go_wp2
  go_region
  all_goals go_wp2
  all_goals (refine bodyPost_ret (v := .int .i64 0) (by simp [results, Try.results84, go_sem]) rfl ?_)
  all_goals exact ⟨rfl, (HM1.out.setPlace _).drew, (by repeat (first | exact HG1.out | apply grow_drew | apply grow_al | apply grow_set))⟩
set_option maxHeartbeats 800000 in
theorem cbr_32_j (i : I4) (hi : i.ok) (B : Nat) (K : MK) (z : MV) (hh : bits .and .u16 i.c 240 = 32) (hp : 0 ≤ z.place) (hp2 : z.place ≤ 9223372032559808512) (ha : u32ok z.a) (b : Int) (HB : Hid (operC i ⟨z.a, z.x, z.m⟩ = b)) (b0 : 0 ≤ b) (b1 : b < 4294967296) (hs : decide (b < z.a) = true) (w : World) (hm : MachAt w B K z) :
    Calls Try.prog 84 #[.pointer (some ⟨B, 0, none⟩), .agg #[.int .u16 i.c, .int .u8 i.j, .int .u8 i.f, .int .u32 i.k]] w (MPost w B K { z with place := z.place + i.j } 0) := by
  obtain ⟨k0, k1⟩ : 0 ≤ i.k ∧ i.k < 4294967296 := ⟨hi.2.2.2.2.2.2.1, hi.2.2.2.2.2.2.2⟩
  have hl := hm.lt
  have HM := Lib.hid hm
  obtain ⟨j0, j1, f0, f1⟩ : 0 ≤ i.j ∧ i.j < 256 ∧ 0 ≤ i.f ∧ i.f < 256 := ⟨hi.2.2.1, hi.2.2.2.1, hi.2.2.2.2.1, hi.2.2.2.2.2.1⟩
  obtain ⟨a0, a1⟩ := ha
  clear hm
  clear hi
  go_enter Try.func84, Try.ntmps84
  go_wp2_with fail
  refine (coper_c i B K z _ (HM.out.alloc _)).mono ?_
  rintro e w1 ⟨rfl, hbw⟩
  have HM1 := Lib.hid ((HM.out.alloc (insnO i)).keep hbw)
  have hg1 : w.grownBy w1 (some B) := (World.grownBy_alloc w (insnO i) (some B)).trans (below_grow hbw)
  obtain ⟨i0, i1, i2, i3⟩ : w1.cell? ⟨w.heap.size, 0, none⟩ = some (.int .u16 i.c) ∧ w1.cell? ⟨w.heap.size, 1, none⟩ = some (.int .u8 i.j) ∧ w1.cell? ⟨w.heap.size, 2, none⟩ = some (.int .u8 i.f) ∧ w1.cell? ⟨w.heap.size, 3, none⟩ = some (.int .u32 i.k) :=
    ⟨keepC hbw (by simp [go_sem]), keepC hbw (by simp [go_sem]), keepC hbw (by simp [go_sem]), keepC hbw (by simp [go_sem])⟩
  have HG1 := Lib.hid hg1
  have hl1 := HM1.out.lt
  have c2 := HM1.out.c2
  have f2 := HM1.out.free 2
  have c20 := HM1.out.c20
  have f20 := HM1.out.free 20
  have c22 := HM1.out.c22
  have f22 := HM1.out.free 22
  clear hbw hg1
  rw [HB.out]
  go_wp2
  go_region
  all_goals go_wp2
  all_goals (refine bodyPost_ret (v := .int .i64 0) (by simp [results, Try.results84, go_sem]) rfl ?_)
  all_goals exact ⟨rfl, (HM1.out.setPlace _).drew, (by repeat (first | exact HG1.out | apply grow_drew | apply grow_al | apply grow_set))⟩
set_option maxHeartbeats 800000 in
theorem cbr_32_f (i : I4) (hi : i.ok) (B : Nat) (K : MK) (z : MV) (hh : bits .and .u16 i.c 240 = 32) (hp : 0 ≤ z.place) (hp2 : z.place ≤ 9223372032559808512) (ha : u32ok z.a) (b : Int) (HB : Hid (operC i ⟨z.a, z.x, z.m⟩ = b)) (b0 : 0 ≤ b) (b1 : b < 4294967296) (hs : decide (b < z.a) = false) (w : World) (hm : MachAt w B K z) :
    Calls Try.prog 84 #[.pointer (some ⟨B, 0, none⟩), .agg #[.int .u16 i.c, .int .u8 i.j, .int .u8 i.f, .int .u32 i.k]] w (MPost w B K { z with place := z.place + i.f } 0) := by
  obtain ⟨k0, k1⟩ : 0 ≤ i.k ∧ i.k < 4294967296 := ⟨hi.2.2.2.2.2.2.1, hi.2.2.2.2.2.2.2⟩
  have hl := hm.lt
  have HM := Lib.hid hm
  obtain ⟨j0, j1, f0, f1⟩ : 0 ≤ i.j ∧ i.j < 256 ∧ 0 ≤ i.f ∧ i.f < 256 := ⟨hi.2.2.1, hi.2.2.2.1, hi.2.2.2.2.1, hi.2.2.2.2.2.1⟩
  obtain ⟨a0, a1⟩ := ha
  clear hm
  clear hi
  go_enter Try.func84, Try.ntmps84
  go_wp2_with fail
  refine (coper_c i B K z _ (HM.out.alloc _)).mono ?_
  rintro e w1 ⟨rfl, hbw⟩
  have HM1 := Lib.hid ((HM.out.alloc (insnO i)).keep hbw)
  have hg1 : w.grownBy w1 (some B) := (World.grownBy_alloc w (insnO i) (some B)).trans (below_grow hbw)
  obtain ⟨i0, i1, i2, i3⟩ : w1.cell? ⟨w.heap.size, 0, none⟩ = some (.int .u16 i.c) ∧ w1.cell? ⟨w.heap.size, 1, none⟩ = some (.int .u8 i.j) ∧ w1.cell? ⟨w.heap.size, 2, none⟩ = some (.int .u8 i.f) ∧ w1.cell? ⟨w.heap.size, 3, none⟩ = some (.int .u32 i.k) :=
    ⟨keepC hbw (by simp [go_sem]), keepC hbw (by simp [go_sem]), keepC hbw (by simp [go_sem]), keepC hbw (by simp [go_sem])⟩
  have HG1 := Lib.hid hg1
  have hl1 := HM1.out.lt
  have c2 := HM1.out.c2
  have f2 := HM1.out.free 2
  have c20 := HM1.out.c20
  have f20 := HM1.out.free 20
  have c22 := HM1.out.c22
  have f22 := HM1.out.free 22
  clear hbw hg1
  rw [HB.out]
  go_wp2
  go_region
  all_goals go_wp2
  all_goals (refine bodyPost_ret (v := .int .i64 0) (by simp [results, Try.results84, go_sem]) rfl ?_)
  all_goals exact ⟨rfl, (HM1.out.setPlace _).drew, (by repeat (first | exact HG1.out | apply grow_drew | apply grow_al | apply grow_set))⟩
set_option maxHeartbeats 800000 in
theorem cbr_48_j (i : I4) (hi : i.ok) (B : Nat) (K : MK) (z : MV) (hh : bits .and .u16 i.c 240 = 48) (hp : 0 ≤ z.place) (hp2 : z.place ≤ 9223372032559808512) (ha : u32ok z.a) (b : Int) (HB : Hid (operC i ⟨z.a, z.x, z.m⟩ = b)) (b0 : 0 ≤ b) (b1 : b < 4294967296) (hs : decide (b ≤ z.a) = true) (w : World) (hm : MachAt w B K z) :
    Calls Try.prog 84 #[.pointer (some ⟨B, 0, none⟩), .agg #[.int .u16 i.c, .int .u8 i.j, .int .u8 i.f, .int .u32 i.k]] w (MPost w B K { z with place := z.place + i.j } 0) := by
  obtain ⟨k0, k1⟩ : 0 ≤ i.k ∧ i.k < 4294967296 := ⟨hi.2.2.2.2.2.2.1, hi.2.2.2.2.2.2.2⟩
  have hl := hm.lt
  have HM := Lib.hid hm
  obtain ⟨j0, j1, f0, f1⟩ : 0 ≤ i.j ∧ i.j < 256 ∧ 0 ≤ i.f ∧ i.f < 256 := ⟨hi.2.2.1, hi.2.2.2.1, hi.2.2.2.2.1, hi.2.2.2.2.2.1⟩
  obtain ⟨a0, a1⟩ := ha
  clear hm
  clear hi
  go_enter Try.func84, Try.ntmps84
  go_wp2_with fail
  refine (coper_c i B K z _ (HM.out.alloc _)).mono ?_
  rintro e w1 ⟨rfl, hbw⟩
  have HM1 := Lib.hid ((HM.out.alloc (insnO i)).keep hbw)
  have hg1 : w.grownBy w1 (some B) := (World.grownBy_alloc w (insnO i) (some B)).trans (below_grow hbw)
  obtain ⟨i0, i1, i2, i3⟩ : w1.cell? ⟨w.heap.size, 0, none⟩ = some (.int .u16 i.c) ∧ w1.cell? ⟨w.heap.size, 1, none⟩ = some (.int .u8 i.j) ∧ w1.cell? ⟨w.heap.size, 2, none⟩ = some (.int .u8 i.f) ∧ w1.cell? ⟨w.heap.size, 3, none⟩ = some (.int .u32 i.k) :=
    ⟨keepC hbw (by simp [go_sem]), keepC hbw (by simp [go_sem]), keepC hbw (by simp [go_sem]), keepC hbw (by simp [go_sem])⟩
  have HG1 := Lib.hid hg1
  have hl1 := HM1.out.lt
  have c2 := HM1.out.c2
  have f2 := HM1.out.free 2
  have c20 := HM1.out.c20
  have f20 := HM1.out.free 20
  have c22 := HM1.out.c22
  have f22 := HM1.out.free 22
  clear hbw hg1
  rw [HB.out]
  go_wp2
  go_region
  all_goals go_wp2
  all_goals (refine bodyPost_ret (v := .int .i64 0) (by simp [results, Try.results84, go_sem]) rfl ?_)
  all_goals exact ⟨rfl, (HM1.out.setPlace _).drew, (by repeat (first | exact HG1.out | apply grow_drew | apply grow_al | apply grow_set))⟩
set_option maxHeartbeats 800000 in
theorem cbr_48_f (i : I4) (hi : i.ok) (B : Nat) (K : MK) (z : MV) (hh : bits .and .u16 i.c 240 = 48) (hp : 0 ≤ z.place) (hp2 : z.place ≤ 9223372032559808512) (ha : u32ok z.a) (b : Int) (HB : Hid (operC i ⟨z.a, z.x, z.m⟩ = b)) (b0 : 0 ≤ b) (b1 : b < 4294967296) (hs : decide (b ≤ z.a) = false) (w : World) (hm : MachAt w B K z) :
    Calls Try.prog 84 #[.pointer (some ⟨B, 0, none⟩), .agg #[.int .u16 i.c, .int .u8 i.j, .int .u8 i.f, .int .u32 i.k]] w (MPost w B K { z with place := z.place + i.f } 0) := by
  obtain ⟨k0, k1⟩ : 0 ≤ i.k ∧ i.k < 4294967296 := ⟨hi.2.2.2.2.2.2.1, hi.2.2.2.2.2.2.2⟩
  have hl := hm.lt
  have HM := Lib.hid hm
  obtain ⟨j0, j1, f0, f1⟩ : 0 ≤ i.j ∧ i.j < 256 ∧ 0 ≤ i.f ∧ i.f < 256 := ⟨hi.2.2.1, hi.2.2.2.1, hi.2.2.2.2.1, hi.2.2.2.2.2.1⟩
  obtain ⟨a0, a1⟩ := ha
  clear hm
  clear hi
  go_enter Try.func84, Try.ntmps84
  go_wp2_with fail
  refine (coper_c i B K z _ (HM.out.alloc _)).mono ?_
  rintro e w1 ⟨rfl, hbw⟩
  have HM1 := Lib.hid ((HM.out.alloc (insnO i)).keep hbw)
  have hg1 : w.grownBy w1 (some B) := (World.grownBy_alloc w (insnO i) (some B)).trans (below_grow hbw)
  obtain ⟨i0, i1, i2, i3⟩ : w1.cell? ⟨w.heap.size, 0, none⟩ = some (.int .u16 i.c) ∧ w1.cell? ⟨w.heap.size, 1, none⟩ = some (.int .u8 i.j) ∧ w1.cell? ⟨w.heap.size, 2, none⟩ = some (.int .u8 i.f) ∧ w1.cell? ⟨w.heap.size, 3, none⟩ = some (.int .u32 i.k) :=
    ⟨keepC hbw (by simp [go_sem]), keepC hbw (by simp [go_sem]), keepC hbw (by simp [go_sem]), keepC hbw (by simp [go_sem])⟩
  have HG1 := Lib.hid hg1
  have hl1 := HM1.out.lt
  have c2 := HM1.out.c2
  have f2 := HM1.out.free 2
  have c20 := HM1.out.c20
  have f20 := HM1.out.free 20
  have c22 := HM1.out.c22
  have f22 := HM1.out.free 22
  clear hbw hg1
  rw [HB.out]
  go_wp2
  go_region
  all_goals go_wp2
  all_goals (refine bodyPost_ret (v := .int .i64 0) (by simp [results, Try.results84, go_sem]) rfl ?_)
  all_goals exact ⟨rfl, (HM1.out.setPlace _).drew, (by repeat (first | exact HG1.out | apply grow_drew | apply grow_al | apply grow_set))⟩
set_option maxHeartbeats 800000 in
theorem cbr_64_j (i : I4) (hi : i.ok) (B : Nat) (K : MK) (z : MV) (hh : bits .and .u16 i.c 240 = 64) (hp : 0 ≤ z.place) (hp2 : z.place ≤ 9223372032559808512) (ha : u32ok z.a) (b : Int) (HB : Hid (operC i ⟨z.a, z.x, z.m⟩ = b)) (b0 : 0 ≤ b) (b1 : b < 4294967296) (hs : (bits .and .u32 z.a b != 0) = true) (w : World) (hm : MachAt w B K z) :
    Calls Try.prog 84 #[.pointer (some ⟨B, 0, none⟩), .agg #[.int .u16 i.c, .int .u8 i.j, .int .u8 i.f, .int .u32 i.k]] w (MPost w B K { z with place := z.place + i.j } 0) := by
  obtain ⟨k0, k1⟩ : 0 ≤ i.k ∧ i.k < 4294967296 := ⟨hi.2.2.2.2.2.2.1, hi.2.2.2.2.2.2.2⟩
  have hl := hm.lt
  have HM := Lib.hid hm
  obtain ⟨j0, j1, f0, f1⟩ : 0 ≤ i.j ∧ i.j < 256 ∧ 0 ≤ i.f ∧ i.f < 256 := ⟨hi.2.2.1, hi.2.2.2.1, hi.2.2.2.2.1, hi.2.2.2.2.2.1⟩
  obtain ⟨a0, a1⟩ := ha
  clear hm
  clear hi
  go_enter Try.func84, Try.ntmps84
  go_wp2_with fail
  refine (coper_c i B K z _ (HM.out.alloc _)).mono ?_
  rintro e w1 ⟨rfl, hbw⟩
  have HM1 := Lib.hid ((HM.out.alloc (insnO i)).keep hbw)
  have hg1 : w.grownBy w1 (some B) := (World.grownBy_alloc w (insnO i) (some B)).trans (below_grow hbw)
  obtain ⟨i0, i1, i2, i3⟩ : w1.cell? ⟨w.heap.size, 0, none⟩ = some (.int .u16 i.c) ∧ w1.cell? ⟨w.heap.size, 1, none⟩ = some (.int .u8 i.j) ∧ w1.cell? ⟨w.heap.size, 2, none⟩ = some (.int .u8 i.f) ∧ w1.cell? ⟨w.heap.size, 3, none⟩ = some (.int .u32 i.k) :=
    ⟨keepC hbw (by simp [go_sem]), keepC hbw (by simp [go_sem]), keepC hbw (by simp [go_sem]), keepC hbw (by simp [go_sem])⟩
  have HG1 := Lib.hid hg1
  have hl1 := HM1.out.lt
  have c2 := HM1.out.c2
  have f2 := HM1.out.free 2
  have c20 := HM1.out.c20
  have f20 := HM1.out.free 20
  have c22 := HM1.out.c22
  have f22 := HM1.out.free 22
  clear hbw hg1
  rw [HB.out]
  go_wp2
  go_region
  all_goals go_wp2
  all_goals (refine bodyPost_ret (v := .int .i64 0) (by simp [results, Try.results84, go_sem]) rfl ?_)
  all_goals exact ⟨rfl, (HM1.out.setPlace _).drew, (by repeat (first | exact HG1.out | apply grow_drew | apply grow_al | apply grow_set))⟩
set_option maxHeartbeats 800000 in
theorem cbr_64_f (i : I4) (hi : i.ok) (B : Nat) (K : MK) (z : MV) (hh : bits .and .u16 i.c 240 = 64) (hp : 0 ≤ z.place) (hp2 : z.place ≤ 9223372032559808512) (ha : u32ok z.a) (b : Int) (HB : Hid (operC i ⟨z.a, z.x, z.m⟩ = b)) (b0 : 0 ≤ b) (b1 : b < 4294967296) (hs : (bits .and .u32 z.a b != 0) = false) (w : World) (hm : MachAt w B K z) :
    Calls Try.prog 84 #[.pointer (some ⟨B, 0, none⟩), .agg #[.int .u16 i.c, .int .u8 i.j, .int .u8 i.f, .int .u32 i.k]] w (MPost w B K { z with place := z.place + i.f } 0) := by
  obtain ⟨k0, k1⟩ : 0 ≤ i.k ∧ i.k < 4294967296 := ⟨hi.2.2.2.2.2.2.1, hi.2.2.2.2.2.2.2⟩
  have hl := hm.lt
  have HM := Lib.hid hm
  obtain ⟨j0, j1, f0, f1⟩ : 0 ≤ i.j ∧ i.j < 256 ∧ 0 ≤ i.f ∧ i.f < 256 := ⟨hi.2.2.1, hi.2.2.2.1, hi.2.2.2.2.1, hi.2.2.2.2.2.1⟩
  obtain ⟨a0, a1⟩ := ha
  clear hm
  clear hi
  go_enter Try.func84, Try.ntmps84
  go_wp2_with fail
  refine (coper_c i B K z _ (HM.out.alloc _)).mono ?_
  rintro e w1 ⟨rfl, hbw⟩
  have HM1 := Lib.hid ((HM.out.alloc (insnO i)).keep hbw)
  have hg1 : w.grownBy w1 (some B) := (World.grownBy_alloc w (insnO i) (some B)).trans (below_grow hbw)
  obtain ⟨i0, i1, i2, i3⟩ : w1.cell? ⟨w.heap.size, 0, none⟩ = some (.int .u16 i.c) ∧ w1.cell? ⟨w.heap.size, 1, none⟩ = some (.int .u8 i.j) ∧ w1.cell? ⟨w.heap.size, 2, none⟩ = some (.int .u8 i.f) ∧ w1.cell? ⟨w.heap.size, 3, none⟩ = some (.int .u32 i.k) :=
    ⟨keepC hbw (by simp [go_sem]), keepC hbw (by simp [go_sem]), keepC hbw (by simp [go_sem]), keepC hbw (by simp [go_sem])⟩
  have HG1 := Lib.hid hg1
  have hl1 := HM1.out.lt
  have c2 := HM1.out.c2
  have f2 := HM1.out.free 2
  have c20 := HM1.out.c20
  have f20 := HM1.out.free 20
  have c22 := HM1.out.c22
  have f22 := HM1.out.free 22
  clear hbw hg1
  rw [HB.out]
  go_wp2
  go_region
  all_goals go_wp2
  all_goals (refine bodyPost_ret (v := .int .i64 0) (by simp [results, Try.results84, go_sem]) rfl ?_)
  all_goals exact ⟨rfl, (HM1.out.setPlace _).drew, (by repeat (first | exact HG1.out | apply grow_drew | apply grow_al | apply grow_set))⟩
theorem word_bad (A : Option Addr) (cap : Nat) (i : Nat) (h4 : i % 4 ≠ 0) (hi : i < 64) (w : World) : Calls Try.prog 28 #[.slice A 64 cap, .int .i64 i] w fun e w' => e = .returned (.tuple #[.int .u32 0, .int .i64 22]) ∧ w = w' := by
  have g1 : ((i : Int) % 4 != 0) = true := by simp; omega
  have g2 : (i : Int) < 64 := by omega
  go_enter Try.func28, Try.ntmps28
  go_wp2
  go_ret2
  exact ⟨rfl, rfl⟩
set_option maxHeartbeats 800000 in
theorem cload_big (i : I4) (hi : i.ok) (B : Nat) (K : MK) (z : MV) (hk : 64 ≤ i.k) (w : World) (hm : MachAt w B K z) :
    Calls Try.prog 74 #[.pointer (some ⟨B, 0, none⟩), .agg #[.int .u16 i.c, .int .u8 i.j, .int .u8 i.f, .int .u32 i.k]] w (MPost w B K z 34) := by
  obtain ⟨k0, k1⟩ : 0 ≤ i.k ∧ i.k < 4294967296 := ⟨hi.2.2.2.2.2.2.1, hi.2.2.2.2.2.2.2⟩
  have hl := hm.lt
  have HM := Lib.hid hm
  clear hm
  clear hi
  go_enter Try.func74, Try.ntmps74
  go_wp2
  go_ret
  exact ⟨rfl, HM.out.alloc _, (by repeat (first | exact World.grownBy.refl _ _ | apply grow_drew | apply grow_al | apply grow_set))⟩
set_option maxHeartbeats 800000 in
theorem cload_odd (i : I4) (hi : i.ok) (B : Nat) (K : MK) (z : MV) (hK : K.nd = 64) (hk : i.k < 64) (h4 : i.k % 4 ≠ 0) (w : World) (hm : MachAt w B K z) :
    Calls Try.prog 74 #[.pointer (some ⟨B, 0, none⟩), .agg #[.int .u16 i.c, .int .u8 i.j, .int .u8 i.f, .int .u32 i.k]] w (MPost w B K z 34) := by
  obtain ⟨k0, k1⟩ : 0 ≤ i.k ∧ i.k < 4294967296 := ⟨hi.2.2.2.2.2.2.1, hi.2.2.2.2.2.2.2⟩
  have hl := hm.lt
  have HM := Lib.hid hm
  obtain ⟨n, hn⟩ := nat_of k0
  rw [hn] at hk h4
  have hn64 : n < 64 := by omega
  obtain ⟨c, jt, jf, k⟩ := i
  dsimp only at *
  subst hn
  have HWR := Lib.hid (show IntKind.i64.wrap (n : Int) = n by simp [IntKind.wrap, IntKind.bits, IntKind.signed]; omega)
  have c1 := hm.c1
  have c2 := hm.c2
  have f2 := hm.free 2
  rw [hK] at c1
  have HC := Lib.hid (fun (W : World) (hW : Below w.heap.size w W) => (word_bad K.Ad K.cd n (by omega) hn64 W).mono fun e w' ⟨h1, h2⟩ => (⟨h1, h2.symm⟩ : e = _ ∧ w' = W))
  clear hi
  have c1' : (w.alloc (insnO ⟨c, jt, jf, n⟩)).drew.cell? ⟨B, 1, none⟩ = some (.slice K.Ad 64 K.cd) := keepC (below1 w _) c1
  have c1h := Lib.hid c1'
  have c2h := Lib.hid (show (w.alloc (insnO ⟨c, jt, jf, n⟩)).drew.cell? ⟨w.heap.size, 3, none⟩ = some (.int .u32 n) by simp [go_sem, insnO])
  clear hm k1 h4 hK c1'
  go_enter Try.func74, Try.ntmps74
  go_wp2_with fail
  go_region_held3 (fun W => W.cell? ⟨w.heap.size, 3, none⟩ = some (.int .u32 n) ∧ W.cell? ⟨B, 1, none⟩ = some (.slice K.Ad 64 K.cd) ∧ Below w.heap.size w W) (first | exact ⟨c2h.out, c1h.out, below_dr (below1 w _)⟩ | assumption)
    (first | (go_at_call 28; go_must ((first | rw [HWR.out] | skip); refine (HC.out _ (below_dr (below1 w _))).mono ?_; rintro e w' ⟨rfl, rfl⟩)))
  go_wp2
  go_ret
  exact ⟨rfl, (HM.out.alloc _).drew, (by repeat (first | exact World.grownBy.refl _ _ | apply grow_drew | apply grow_al | apply grow_set))⟩
set_option maxHeartbeats 800000 in
theorem cload_ok (i : I4) (hi : i.ok) (B : Nat) (K : MK) (z : MV) (hK : K.nd = 64) (hk : i.k < 64) (h4 : i.k % 4 = 0) (dat : List Int) (hd : dat.length = 64) (hok : ∀ x ∈ dat, 0 ≤ x ∧ x < 256) (w : World) (hm : MachAt w B K z) (hrd : Reads w w.heap.size 1 K.Ad 64 (numV .u8 dat)) :
    Calls Try.prog 74 #[.pointer (some ⟨B, 0, none⟩), .agg #[.int .u16 i.c, .int .u8 i.j, .int .u8 i.f, .int .u32 i.k]] w (MPost w B K { z with a := wordP dat i.k.toNat } 0) := by
  obtain ⟨k0, k1⟩ : 0 ≤ i.k ∧ i.k < 4294967296 := ⟨hi.2.2.2.2.2.2.1, hi.2.2.2.2.2.2.2⟩
  have hl := hm.lt
  have HM := Lib.hid hm
  obtain ⟨n, hn⟩ := nat_of k0
  rw [hn] at hk h4
  have hn64 : n < 64 := by omega
  obtain ⟨c, jt, jf, k⟩ := i
  dsimp only at *
  subst hn
  simp only [Int.toNat_natCast]
  have HWR := Lib.hid (show IntKind.i64.wrap (n : Int) = n by simp [IntKind.wrap, IntKind.bits, IntKind.signed]; omega)
  have c1 := hm.c1
  have c2 := hm.c2
  have f2 := hm.free 2
  rw [hK] at c1
  have HC := Lib.hid (fun (W : World) (hW : Below w.heap.size w W) => (Word_c K.Ad K.cd dat hd hok n (by omega) hn64 W w.heap.size (hrd.below hW)).mono fun e w' ⟨h1, h2⟩ => (⟨h1, h2.symm⟩ : e = _ ∧ w' = W))
  clear hi hd hok hrd
  have c1' : (w.alloc (insnO ⟨c, jt, jf, n⟩)).drew.cell? ⟨B, 1, none⟩ = some (.slice K.Ad 64 K.cd) := keepC (below1 w _) c1
  have c1h := Lib.hid c1'
  have c2h := Lib.hid (show (w.alloc (insnO ⟨c, jt, jf, n⟩)).drew.cell? ⟨w.heap.size, 3, none⟩ = some (.int .u32 n) by simp [go_sem, insnO])
  clear hm k1 h4 hK c1'
  go_enter Try.func74, Try.ntmps74
  go_wp2_with fail
  go_region_held3 (fun W => W.cell? ⟨w.heap.size, 3, none⟩ = some (.int .u32 n) ∧ W.cell? ⟨B, 1, none⟩ = some (.slice K.Ad 64 K.cd) ∧ Below w.heap.size w W) (first | exact ⟨c2h.out, c1h.out, below_dr (below1 w _)⟩ | assumption)
    (first | (go_at_call 28; go_must ((first | rw [HWR.out] | skip); refine (HC.out _ (below_dr (below1 w _))).mono ?_; rintro e w' ⟨rfl, rfl⟩)))
  go_wp2
  go_ret
  exact ⟨rfl, ((HM.out.setA _).alloc _).drew, (by repeat (first | exact World.grownBy.refl _ _ | apply grow_drew | apply grow_al | apply grow_set))⟩
end Go.Proofs.Ytehpoamideeehaa
