import Derived.Test.YtehpoamideeehaaCbpfM1
import Derived.Test.YtehpoamideeehaaStep
import Derived.Deep.DeepMust
set_option linter.unusedVariables false
set_option linter.unusedSimpArgs false
set_option maxRecDepth 100000
namespace Go.Proofs.Ytehpoamideeehaa
open Go.RowKit
/-! The methods that do what instructions do. -/
set_option maxHeartbeats 800000 in
theorem clength_a (i : I4) (hi : i.ok) (B : Nat) (K : MK) (z : MV) (h1 : (bits .and .u16 i.c 7 == 1) = false) (w : World) (hm : MachAt w B K z) :
    Calls Try.prog 75 #[.pointer (some ⟨B, 0, none⟩), .agg #[.int .u16 i.c, .int .u8 i.j, .int .u8 i.f, .int .u32 i.k]] w (MPost w B K { z with a := 64 } 0) := by
  obtain ⟨k0, k1⟩ : 0 ≤ i.k ∧ i.k < 4294967296 := ⟨hi.2.2.2.2.2.2.1, hi.2.2.2.2.2.2.2⟩
  have hl := hm.lt
  have HM := Lib.hid hm
  clear hm
  clear hi
  go_enter Try.func75, Try.ntmps75
  go_wp2_with fail
  refine (cset_a i 64 h1 B K z _ (HM.out.alloc _)).mono ?_
  rintro e w1 ⟨rfl, hm1, hg1⟩
  have HM1 := Lib.hid hm1
  have hg2 := (World.grownBy_alloc w _ (some B)).trans hg1
  clear hm1 hg1
  go_wp2
  go_ret
  exact ⟨rfl, HM1.out, hg2⟩
set_option maxHeartbeats 800000 in
theorem clength_x (i : I4) (hi : i.ok) (B : Nat) (K : MK) (z : MV) (h1 : (bits .and .u16 i.c 7 == 1) = true) (w : World) (hm : MachAt w B K z) :
    Calls Try.prog 75 #[.pointer (some ⟨B, 0, none⟩), .agg #[.int .u16 i.c, .int .u8 i.j, .int .u8 i.f, .int .u32 i.k]] w (MPost w B K { z with x := 64 } 0) := by
  obtain ⟨k0, k1⟩ : 0 ≤ i.k ∧ i.k < 4294967296 := ⟨hi.2.2.2.2.2.2.1, hi.2.2.2.2.2.2.2⟩
  have hl := hm.lt
  have HM := Lib.hid hm
  clear hm
  clear hi
  go_enter Try.func75, Try.ntmps75
  go_wp2_with fail
  refine (cset_x i 64 h1 B K z _ (HM.out.alloc _)).mono ?_
  rintro e w1 ⟨rfl, hm1, hg1⟩
  have HM1 := Lib.hid hm1
  have hg2 := (World.grownBy_alloc w _ (some B)).trans hg1
  clear hm1 hg1
  go_wp2
  go_ret
  exact ⟨rfl, HM1.out, hg2⟩
set_option maxHeartbeats 800000 in
theorem cnumber_a (i : I4) (hi : i.ok) (B : Nat) (K : MK) (z : MV) (h1 : (bits .and .u16 i.c 7 == 1) = false) (w : World) (hm : MachAt w B K z) :
    Calls Try.prog 76 #[.pointer (some ⟨B, 0, none⟩), .agg #[.int .u16 i.c, .int .u8 i.j, .int .u8 i.f, .int .u32 i.k]] w (MPost w B K { z with a := i.k } 0) := by
  obtain ⟨k0, k1⟩ : 0 ≤ i.k ∧ i.k < 4294967296 := ⟨hi.2.2.2.2.2.2.1, hi.2.2.2.2.2.2.2⟩
  have hl := hm.lt
  have HM := Lib.hid hm
  clear hm
  clear hi
  go_enter Try.func76, Try.ntmps76
  go_wp2_with fail
  refine (cset_a i i.k h1 B K z _ (HM.out.alloc _)).mono ?_
  rintro e w1 ⟨rfl, hm1, hg1⟩
  have HM1 := Lib.hid hm1
  have hg2 := (World.grownBy_alloc w _ (some B)).trans hg1
  clear hm1 hg1
  go_wp2
  go_ret
  exact ⟨rfl, HM1.out, hg2⟩
set_option maxHeartbeats 800000 in
theorem cnumber_x (i : I4) (hi : i.ok) (B : Nat) (K : MK) (z : MV) (h1 : (bits .and .u16 i.c 7 == 1) = true) (w : World) (hm : MachAt w B K z) :
    Calls Try.prog 76 #[.pointer (some ⟨B, 0, none⟩), .agg #[.int .u16 i.c, .int .u8 i.j, .int .u8 i.f, .int .u32 i.k]] w (MPost w B K { z with x := i.k } 0) := by
  obtain ⟨k0, k1⟩ : 0 ≤ i.k ∧ i.k < 4294967296 := ⟨hi.2.2.2.2.2.2.1, hi.2.2.2.2.2.2.2⟩
  have hl := hm.lt
  have HM := Lib.hid hm
  clear hm
  clear hi
  go_enter Try.func76, Try.ntmps76
  go_wp2_with fail
  refine (cset_x i i.k h1 B K z _ (HM.out.alloc _)).mono ?_
  rintro e w1 ⟨rfl, hm1, hg1⟩
  have HM1 := Lib.hid hm1
  have hg2 := (World.grownBy_alloc w _ (some B)).trans hg1
  clear hm1 hg1
  go_wp2
  go_ret
  exact ⟨rfl, HM1.out, hg2⟩
set_option maxHeartbeats 800000 in
theorem cnegate (i : I4) (hi : i.ok) (B : Nat) (K : MK) (z : MV) (w : World) (hm : MachAt w B K z) :
    Calls Try.prog 79 #[.pointer (some ⟨B, 0, none⟩), .agg #[.int .u16 i.c, .int .u8 i.j, .int .u8 i.f, .int .u32 i.k]] w (MPost w B K { z with a := (0 - z.a) % 4294967296 } 0) := by
  obtain ⟨k0, k1⟩ : 0 ≤ i.k ∧ i.k < 4294967296 := ⟨hi.2.2.2.2.2.2.1, hi.2.2.2.2.2.2.2⟩
  have hl := hm.lt
  have HM := Lib.hid hm
  have c2 := hm.c2
  have f2 := hm.free 2
  clear hm
  clear hi
  go_enter Try.func79, Try.ntmps79
  go_wp2
  go_ret
  exact ⟨rfl, ((HM.out.setA _).alloc _).cast (by first | rfl | (congr 1; omega)), (by repeat (first | exact World.grownBy.refl _ _ | apply grow_drew | apply grow_al | apply grow_set))⟩
set_option maxHeartbeats 800000 in
theorem cjump (i : I4) (hi : i.ok) (B : Nat) (K : MK) (z : MV) (hp : 0 ≤ z.place) (hp2 : z.place ≤ 9223372032559808512) (w : World) (hm : MachAt w B K z) :
    Calls Try.prog 80 #[.pointer (some ⟨B, 0, none⟩), .agg #[.int .u16 i.c, .int .u8 i.j, .int .u8 i.f, .int .u32 i.k]] w (MPost w B K { z with place := z.place + i.k } 0) := by
  obtain ⟨k0, k1⟩ : 0 ≤ i.k ∧ i.k < 4294967296 := ⟨hi.2.2.2.2.2.2.1, hi.2.2.2.2.2.2.2⟩
  have hl := hm.lt
  have HM := Lib.hid hm
  have c20 := hm.c20
  have f20 := hm.free 20
  clear hm
  clear hi
  go_enter Try.func80, Try.ntmps80
  go_wp2
  go_region
  all_goals go_wp2
  all_goals go_ret
  all_goals exact ⟨rfl, ((HM.out.setPlace _).alloc _), (by repeat (first | exact World.grownBy.refl _ _ | apply grow_drew | apply grow_al | apply grow_set))⟩
set_option maxHeartbeats 800000 in
theorem cmove_a (i : I4) (hi : i.ok) (B : Nat) (K : MK) (z : MV) (h1 : (bits .and .u16 i.c 248 == 128) = true) (w : World) (hm : MachAt w B K z) :
    Calls Try.prog 82 #[.pointer (some ⟨B, 0, none⟩), .agg #[.int .u16 i.c, .int .u8 i.j, .int .u8 i.f, .int .u32 i.k]] w (MPost w B K { z with a := z.x } 0) := by
  obtain ⟨k0, k1⟩ : 0 ≤ i.k ∧ i.k < 4294967296 := ⟨hi.2.2.2.2.2.2.1, hi.2.2.2.2.2.2.2⟩
  have hl := hm.lt
  have HM := Lib.hid hm
  have c2 := hm.c2
  have f2 := hm.free 2
  have c3 := hm.c3
  clear hm
  clear hi
  go_enter Try.func82, Try.ntmps82
  go_wp2
  go_ret
  exact ⟨rfl, ((HM.out.setA _).alloc _), (by repeat (first | exact World.grownBy.refl _ _ | apply grow_drew | apply grow_al | apply grow_set))⟩
set_option maxHeartbeats 800000 in
theorem cmove_x (i : I4) (hi : i.ok) (B : Nat) (K : MK) (z : MV) (h1 : (bits .and .u16 i.c 248 == 128) = false) (w : World) (hm : MachAt w B K z) :
    Calls Try.prog 82 #[.pointer (some ⟨B, 0, none⟩), .agg #[.int .u16 i.c, .int .u8 i.j, .int .u8 i.f, .int .u32 i.k]] w (MPost w B K { z with x := z.a } 0) := by
  obtain ⟨k0, k1⟩ : 0 ≤ i.k ∧ i.k < 4294967296 := ⟨hi.2.2.2.2.2.2.1, hi.2.2.2.2.2.2.2⟩
  have hl := hm.lt
  have HM := Lib.hid hm
  have c2 := hm.c2
  have c3 := hm.c3
  have f3 := hm.free 3
  clear hm
  clear hi
  go_enter Try.func82, Try.ntmps82
  go_wp2
  go_ret
  exact ⟨rfl, ((HM.out.setX _).alloc _), (by repeat (first | exact World.grownBy.refl _ _ | apply grow_drew | apply grow_al | apply grow_set))⟩
set_option maxHeartbeats 800000 in
theorem crecall_a (i : I4) (hi : i.ok) (B : Nat) (K : MK) (z : MV) (h1 : (bits .and .u16 i.c 7 == 1) = false) (hk : i.k < 16) (w : World) (hm : MachAt w B K z) :
    Calls Try.prog 77 #[.pointer (some ⟨B, 0, none⟩), .agg #[.int .u16 i.c, .int .u8 i.j, .int .u8 i.f, .int .u32 i.k]] w (MPost w B K { z with a := getN z.m i.k.toNat } 0) := by
  obtain ⟨k0, k1⟩ : 0 ≤ i.k ∧ i.k < 4294967296 := ⟨hi.2.2.2.2.2.2.1, hi.2.2.2.2.2.2.2⟩
  have hl := hm.lt
  have HM := Lib.hid hm
  obtain ⟨n, hn⟩ := nat_of k0
  have cm := hm.cm (j := n) (by omega)
  rw [hn]
  simp only [Int.toNat_natCast]
  rw [hn] at hk
  have hn16 : n < 16 := by omega
  obtain ⟨c, jt, jf, k⟩ := i
  dsimp only at *
  subst hn
  have CM := Lib.hid cm
  clear hm cm k1
  clear hi
  go_enter Try.func77, Try.ntmps77
  go_wp2_with fail
  refine wp_tail 9 (by kernel_rfl) (by kernel_rfl) ?_
  simp only [List.take_succ_cons, List.take_zero, List.drop_succ_cons, List.drop_zero]
  have cm := CM.out
  repeat still_step
  refine wpStill_nil ?_
  go_wp2_with fail
  refine (cset_a ⟨c, jt, jf, n⟩ (getN z.m n) h1 B K z _ (HM.out.alloc _).drew).mono ?_
  rintro e w1 ⟨rfl, hm1, hg1⟩
  have HM1 := Lib.hid hm1
  have hg2 := (grow_drew (World.grownBy_alloc w _ (some B))).trans hg1
  clear hm1 hg1
  go_wp2
  go_ret
  exact ⟨rfl, HM1.out, hg2⟩
set_option maxHeartbeats 800000 in
theorem crecall_x (i : I4) (hi : i.ok) (B : Nat) (K : MK) (z : MV) (h1 : (bits .and .u16 i.c 7 == 1) = true) (hk : i.k < 16) (w : World) (hm : MachAt w B K z) :
    Calls Try.prog 77 #[.pointer (some ⟨B, 0, none⟩), .agg #[.int .u16 i.c, .int .u8 i.j, .int .u8 i.f, .int .u32 i.k]] w (MPost w B K { z with x := getN z.m i.k.toNat } 0) := by
  obtain ⟨k0, k1⟩ : 0 ≤ i.k ∧ i.k < 4294967296 := ⟨hi.2.2.2.2.2.2.1, hi.2.2.2.2.2.2.2⟩
  have hl := hm.lt
  have HM := Lib.hid hm
  obtain ⟨n, hn⟩ := nat_of k0
  have cm := hm.cm (j := n) (by omega)
  rw [hn]
  simp only [Int.toNat_natCast]
  rw [hn] at hk
  have hn16 : n < 16 := by omega
  obtain ⟨c, jt, jf, k⟩ := i
  dsimp only at *
  subst hn
  have CM := Lib.hid cm
  clear hm cm k1
  clear hi
  go_enter Try.func77, Try.ntmps77
  go_wp2_with fail
  refine wp_tail 9 (by kernel_rfl) (by kernel_rfl) ?_
  simp only [List.take_succ_cons, List.take_zero, List.drop_succ_cons, List.drop_zero]
  have cm := CM.out
  repeat still_step
  refine wpStill_nil ?_
  go_wp2_with fail
  refine (cset_x ⟨c, jt, jf, n⟩ (getN z.m n) h1 B K z _ (HM.out.alloc _).drew).mono ?_
  rintro e w1 ⟨rfl, hm1, hg1⟩
  have HM1 := Lib.hid hm1
  have hg2 := (grow_drew (World.grownBy_alloc w _ (some B))).trans hg1
  clear hm1 hg1
  go_wp2
  go_ret
  exact ⟨rfl, HM1.out, hg2⟩
set_option maxHeartbeats 800000 in
theorem crecall_no (i : I4) (hi : i.ok) (B : Nat) (K : MK) (z : MV) (hk : 16 ≤ i.k) (w : World) (hm : MachAt w B K z) :
    Calls Try.prog 77 #[.pointer (some ⟨B, 0, none⟩), .agg #[.int .u16 i.c, .int .u8 i.j, .int .u8 i.f, .int .u32 i.k]] w (MPost w B K z 35) := by
  obtain ⟨k0, k1⟩ : 0 ≤ i.k ∧ i.k < 4294967296 := ⟨hi.2.2.2.2.2.2.1, hi.2.2.2.2.2.2.2⟩
  have hl := hm.lt
  have HM := Lib.hid hm
  clear hm
  clear hi
  go_enter Try.func77, Try.ntmps77
  go_wp2
  go_ret
  exact ⟨rfl, HM.out.alloc _, (by repeat (first | exact World.grownBy.refl _ _ | apply grow_drew | apply grow_al | apply grow_set))⟩
set_option maxHeartbeats 800000 in
theorem ckeep_no (i : I4) (hi : i.ok) (B : Nat) (K : MK) (z : MV) (hk : 16 ≤ i.k) (w : World) (hm : MachAt w B K z) :
    Calls Try.prog 78 #[.pointer (some ⟨B, 0, none⟩), .agg #[.int .u16 i.c, .int .u8 i.j, .int .u8 i.f, .int .u32 i.k]] w (MPost w B K z 35) := by
  obtain ⟨k0, k1⟩ : 0 ≤ i.k ∧ i.k < 4294967296 := ⟨hi.2.2.2.2.2.2.1, hi.2.2.2.2.2.2.2⟩
  have hl := hm.lt
  have HM := Lib.hid hm
  clear hm
  clear hi
  go_enter Try.func78, Try.ntmps78
  go_wp2
  go_ret
  exact ⟨rfl, HM.out.alloc _, (by repeat (first | exact World.grownBy.refl _ _ | apply grow_drew | apply grow_al | apply grow_set))⟩
set_option maxHeartbeats 800000 in
theorem ckeep_2 (i : I4) (hi : i.ok) (B : Nat) (K : MK) (z : MV) (h1 : (bits .and .u16 i.c 7 == 3) = false) (hk : i.k < 16) (w : World) (hm : MachAt w B K z) :
    Calls Try.prog 78 #[.pointer (some ⟨B, 0, none⟩), .agg #[.int .u16 i.c, .int .u8 i.j, .int .u8 i.f, .int .u32 i.k]] w (MPost w B K { z with m := z.m.set i.k.toNat z.a } 0) := by
  obtain ⟨k0, k1⟩ : 0 ≤ i.k ∧ i.k < 4294967296 := ⟨hi.2.2.2.2.2.2.1, hi.2.2.2.2.2.2.2⟩
  have hl := hm.lt
  have HM := Lib.hid hm
  obtain ⟨n, hn⟩ := nat_of k0
  have cm := hm.cm (j := n) (by omega)
  rw [hn]
  simp only [Int.toNat_natCast]
  rw [hn] at hk
  have hn16 : n < 16 := by omega
  obtain ⟨c, jt, jf, k⟩ := i
  dsimp only at *
  subst hn
  have CM := Lib.hid cm
  have fm := hm.free (4 + n)
  have c2 := hm.c2
  have c3 := hm.c3
  clear hm cm k1
  clear hi
  go_enter Try.func78, Try.ntmps78
  go_wp2_with fail
  refine wp_tail 10 (by kernel_rfl) (by kernel_rfl) ?_
  simp only [List.take_succ_cons, List.take_zero, List.drop_succ_cons, List.drop_zero]
  repeat still_step
  refine wpStill_nil ?_
  have cm := CM.out
  go_wp2
  go_ret
  exact ⟨rfl, by first | exact ((HM.out.setM hn16 _).alloc _).drew | exact ((HM.out.alloc _).setM hn16 _).drew, (by repeat (first | exact World.grownBy.refl _ _ | apply grow_drew | apply grow_al | apply grow_set))⟩
set_option maxHeartbeats 800000 in
theorem ckeep_3 (i : I4) (hi : i.ok) (B : Nat) (K : MK) (z : MV) (h1 : (bits .and .u16 i.c 7 == 3) = true) (hk : i.k < 16) (w : World) (hm : MachAt w B K z) :
    Calls Try.prog 78 #[.pointer (some ⟨B, 0, none⟩), .agg #[.int .u16 i.c, .int .u8 i.j, .int .u8 i.f, .int .u32 i.k]] w (MPost w B K { z with m := z.m.set i.k.toNat z.x } 0) := by
  obtain ⟨k0, k1⟩ : 0 ≤ i.k ∧ i.k < 4294967296 := ⟨hi.2.2.2.2.2.2.1, hi.2.2.2.2.2.2.2⟩
  have hl := hm.lt
  have HM := Lib.hid hm
  obtain ⟨n, hn⟩ := nat_of k0
  have cm := hm.cm (j := n) (by omega)
  rw [hn]
  simp only [Int.toNat_natCast]
  rw [hn] at hk
  have hn16 : n < 16 := by omega
  obtain ⟨c, jt, jf, k⟩ := i
  dsimp only at *
  subst hn
  have CM := Lib.hid cm
  have fm := hm.free (4 + n)
  have c2 := hm.c2
  have c3 := hm.c3
  clear hm cm k1
  clear hi
  go_enter Try.func78, Try.ntmps78
  go_wp2_with fail
  refine wp_tail 10 (by kernel_rfl) (by kernel_rfl) ?_
  simp only [List.take_succ_cons, List.take_zero, List.drop_succ_cons, List.drop_zero]
  repeat still_step
  refine wpStill_nil ?_
  have cm := CM.out
  go_wp2
  refine wp_tail 10 (by kernel_rfl) (by kernel_rfl) ?_
  simp only [List.take_succ_cons, List.take_zero, List.drop_succ_cons, List.drop_zero]
  repeat still_step
  refine wpStill_nil ?_
  go_wp2
  go_ret
  exact ⟨rfl, by first | exact ((HM.out.setM hn16 _).alloc _).drew | exact ((HM.out.setM hn16 _).alloc _).drew.drew | exact ((((HM.out.setM hn16 _).setM hn16 _).alloc _).drew).cast (by simp) | exact ((((HM.out.setM hn16 _).setM hn16 _).alloc _).drew.drew).cast (by simp), (by repeat (first | exact World.grownBy.refl _ _ | apply grow_drew | apply grow_al | apply grow_set))⟩
set_option maxHeartbeats 800000 in
theorem cend_k (i : I4) (hi : i.ok) (B : Nat) (K : MK) (z : MV) (h1 : (bits .and .u16 i.c 16 != 0) = false) (hp : 0 ≤ z.place) (hp2 : z.place ≤ 9223372032559808512) (w : World) (hm : MachAt w B K z) :
    Calls Try.prog 81 #[.pointer (some ⟨B, 0, none⟩), .agg #[.int .u16 i.c, .int .u8 i.j, .int .u8 i.f, .int .u32 i.k]] w (MPost w B K { z with through := true, ans := i.k, place := z.place - 1 } 0) := by
  obtain ⟨k0, k1⟩ : 0 ≤ i.k ∧ i.k < 4294967296 := ⟨hi.2.2.2.2.2.2.1, hi.2.2.2.2.2.2.2⟩
  have hl := hm.lt
  have HM := Lib.hid hm
  have c20 := hm.c20
  have f20 := hm.free 20
  have c22 := hm.c22
  have f22 := hm.free 22
  have c23 := hm.c23
  have f23 := hm.free 23
  clear hm
  clear hi
  go_enter Try.func81, Try.ntmps81
  go_wp2
  go_region
  all_goals go_wp2
  all_goals go_ret
  all_goals exact ⟨rfl, by first | exact ((((HM.out.setThrough true).setAns _).setPlace _).alloc _).drew | exact ((((HM.out.setAns _).setThrough true).setPlace _).alloc _).drew, (by repeat (first | exact World.grownBy.refl _ _ | apply grow_drew | apply grow_al | apply grow_set))⟩
set_option maxHeartbeats 800000 in
theorem cend_a (i : I4) (hi : i.ok) (B : Nat) (K : MK) (z : MV) (h1 : (bits .and .u16 i.c 16 != 0) = true) (hp : 0 ≤ z.place) (hp2 : z.place ≤ 9223372032559808512) (w : World) (hm : MachAt w B K z) :
    Calls Try.prog 81 #[.pointer (some ⟨B, 0, none⟩), .agg #[.int .u16 i.c, .int .u8 i.j, .int .u8 i.f, .int .u32 i.k]] w (MPost w B K { z with through := true, ans := z.a, place := z.place - 1 } 0) := by
  obtain ⟨k0, k1⟩ : 0 ≤ i.k ∧ i.k < 4294967296 := ⟨hi.2.2.2.2.2.2.1, hi.2.2.2.2.2.2.2⟩
  have hl := hm.lt
  have HM := Lib.hid hm
  have c20 := hm.c20
  have f20 := hm.free 20
  have c22 := hm.c22
  have f22 := hm.free 22
  have c23 := hm.c23
  have f23 := hm.free 23
  have c2 := hm.c2
  clear hm
  clear hi
  go_enter Try.func81, Try.ntmps81
  go_wp2
  go_region
  all_goals go_wp2
  all_goals go_ret
  all_goals exact ⟨rfl, (((((HM.out.setThrough true).setAns _).setAns _).setPlace _).alloc _).drew, (by repeat (first | exact World.grownBy.refl _ _ | apply grow_drew | apply grow_al | apply grow_set))⟩
end Go.Proofs.Ytehpoamideeehaa
