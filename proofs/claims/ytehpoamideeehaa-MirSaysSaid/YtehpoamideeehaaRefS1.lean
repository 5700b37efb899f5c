import Derived.Test.YtehpoamideeehaaRefM2
set_option linter.unusedVariables false
set_option linter.unusedSimpArgs false
namespace Go.Proofs.Ytehpoamideeehaa
open Go.RowKit
/-! A step of ravelinref03's machine: the walks. -/
def RStepPost (w : World) (B : Nat) (K : RK) (z : MV) (e : Ending) (w' : World) : Prop := e = .returned (.bool z.through) ∧ RMAt w' B K z ∧ w.grownBy w' (some B)
theorem rstep_done (B : Nat) (K : RK) (z : MV) (w : World) (hm : RMAt w B K z) (ht : z.through = true) : Calls Try.prog 23 #[.pointer (some ⟨B, 0, none⟩)] w (RStepPost w B K z) := by
  have c22 := hm.c22
  rw [ht] at c22
  have HM := Lib.hid hm
  have HT := Lib.hid ht
  clear hm ht
  go_enter Try.func23, Try.ntmps23
  go_wp2
  refine bodyPost_ret (v := .bool true) (by simp [results, Try.results23, go_sem]) rfl ?_
  exact ⟨ret_b HT.out.symm, HM.out, World.grownBy.refl _ _⟩
theorem rstep_len (B : Nat) (K : RK) (z : MV) (w : World) (hm : RMAt w B K z) (ht : z.through = false) (h64 : K.nd ≠ 64) : Calls Try.prog 23 #[.pointer (some ⟨B, 0, none⟩)] w (RStepPost w B K { z with through := true, err := 21 }) := by
  have c22 := hm.c22
  rw [ht] at c22
  have c1 := hm.c1
  have hne : ((K.nd : Int) != 64) = true := by simp; omega
  have HM := Lib.hid hm
  clear hm ht h64
  go_enter Try.func23, Try.ntmps23
  go_wp2_with fail
  refine (rfails_c 21 B K z w HM.out).mono ?_
  rintro e w1 ⟨rfl, hm1, hg1⟩
  have HM1 := Lib.hid hm1
  have HG1 := Lib.hid hg1
  clear hm1 hg1
  go_wp2
  refine bodyPost_ret (v := .bool true) (by simp [results, Try.results23, go_sem]) rfl ?_
  exact ⟨rfl, HM1.out, HG1.out⟩
theorem rstep_end (B : Nat) (K : RK) (z : MV) (w : World) (hm : RMAt w B K z) (ht : z.through = false) (h64 : K.nd = 64) (hp : (K.nq : Int) ≤ z.place) : Calls Try.prog 23 #[.pointer (some ⟨B, 0, none⟩)] w (RStepPost w B K { z with through := true, err := 33 }) := by
  have c22 := hm.c22
  rw [ht] at c22
  have c1 := hm.c1
  rw [h64] at c1
  have c0 := hm.c0
  have c20 := hm.c20
  have HM := Lib.hid hm
  clear hm ht h64
  go_enter Try.func23, Try.ntmps23
  go_wp2
  go_quiet (fail)
  go_wp2_with fail
  refine (rfails_c 33 B K z _ (HM.out.drewN _)).mono ?_
  rintro e w1 ⟨rfl, hm1, hg1⟩
  have HM1 := Lib.hid hm1
  have HG1 := Lib.hid ((grow_drewN (World.grownBy.refl w (some B)) nq).trans hg1)
  clear hm1 hg1
  go_wp2
  refine bodyPost_ret (v := .bool true) (by simp [results, Try.results23, go_sem]) rfl ?_
  exact ⟨rfl, HM1.out, HG1.out⟩
set_option maxRecDepth 100000 in
set_option maxHeartbeats 2000000 in
theorem rstep_err (B : Nat) (K : RK) (z : MV) (n : Nat) (i : I4) (hi : i.ok) (w : World) (hm : RMAt w B K z) (ht : z.through = false) (h64 : K.nd = 64) (hp : z.place = n) (hn : n < K.nq) (hnq : K.nq ≤ 281474976710656) (hst : 0 ≤ z.steps ∧ z.steps ≤ 9223372036854775806)
    (b off : Nat) (hA : K.Aq = some ⟨b, off, none⟩) (i0 : w.cell? ⟨b, off + n * 4, none⟩ = some (.int .u16 i.c)) (i1 : w.cell? ⟨b, off + n * 4 + 1, none⟩ = some (.int .u8 i.j)) (i2 : w.cell? ⟨b, off + n * 4 + 2, none⟩ = some (.int .u8 i.f)) (i3 : w.cell? ⟨b, off + n * 4 + 3, none⟩ = some (.int .u32 i.k))
    (e' : Int) (HWR : Hid (cwrong i = e')) (hne : (e' != 0) = true) : Calls Try.prog 23 #[.pointer (some ⟨B, 0, none⟩)] w (RStepPost w B K { z with through := true, err := e' }) := by
  obtain ⟨k0, k1⟩ : 0 ≤ i.k ∧ i.k < 4294967296 := ⟨hi.2.2.2.2.2.2.1, hi.2.2.2.2.2.2.2⟩
  obtain ⟨j0, j1, f0, f1⟩ : 0 ≤ i.j ∧ i.j < 256 ∧ 0 ≤ i.f ∧ i.f < 256 := ⟨hi.2.2.1, hi.2.2.2.1, hi.2.2.2.2.1, hi.2.2.2.2.2.1⟩
  obtain ⟨s1, s2⟩ := hst
  have c22 := hm.c22
  rw [ht] at c22
  have c1 := hm.c1
  rw [h64] at c1
  have c0 := hm.c0
  rw [hA] at c0
  have c20 := hm.c20
  rw [hp] at c20
  have hn' : (n : Int) < K.nq := by omega
  have HM := Lib.hid hm
  have HP := Lib.hid hp
  have HTH := Lib.hid ht
  have HI := Lib.hid hi
  clear hm ht h64 hA hp hi
  go_enter Try.func23, Try.ntmps23
  go_wp2
  go_quiet (fail)
  have d0 : (w.drewN nq).cell? ⟨B, 0, none⟩ = some (.slice (some ⟨b, off, none⟩) K.nq K.cq) := c0
  have d20 : (w.drewN nq).cell? ⟨B, 20, none⟩ = some (.int .i64 n) := c20
  have j0' : (w.drewN nq).cell? ⟨b, off + n * 4, none⟩ = some (.int .u16 i.c) := i0
  have j1' : (w.drewN nq).cell? ⟨b, off + n * 4 + 1, none⟩ = some (.int .u8 i.j) := i1
  have j2' : (w.drewN nq).cell? ⟨b, off + n * 4 + 2, none⟩ = some (.int .u8 i.f) := i2
  have j3' : (w.drewN nq).cell? ⟨b, off + n * 4 + 3, none⟩ = some (.int .u32 i.k) := i3
  have HM1 := Lib.hid (HM.out.drewN nq)
  have HG1 := Lib.hid (grow_drewN (World.grownBy.refl w (some B)) nq)
  clear c0 c1 c20 c22 i0 i1 i2 i3
  obtain ⟨W, hW⟩ : ∃ W, W = w.drewN nq := ⟨_, rfl⟩
  rw [← hW] at d0 d20 j0' j1' j2' j3' HM1 HG1 ⊢
  clear hW
  have hlB : B < W.heap.size := World.block_lt_of_cell? W _ d0
  have hlb : b < W.heap.size := World.block_lt_of_cell? W _ j0'
  go_wp2
  go_region
  have e0 : ((W.alloc (insnO i)).drew).cell? ⟨W.heap.size, 0, none⟩ = some (.int .u16 i.c) := by simp [go_sem, insnO]
  have e1 : ((W.alloc (insnO i)).drew).cell? ⟨W.heap.size, 1, none⟩ = some (.int .u8 i.j) := by simp [go_sem, insnO]
  have e2 : ((W.alloc (insnO i)).drew).cell? ⟨W.heap.size, 2, none⟩ = some (.int .u8 i.f) := by simp [go_sem, insnO]
  have e3 : ((W.alloc (insnO i)).drew).cell? ⟨W.heap.size, 3, none⟩ = some (.int .u32 i.k) := by simp [go_sem, insnO]
  have HM2 := Lib.hid (HM1.out.alloc (insnO i)).drew
  have HG2 := Lib.hid (grow_drew (grow_al HG1.out (insnO i)))
  clear d0 d20 j0' j1' j2' j3' HM1 HG1 HM hlB hlb
  rw [show Obj.cells #[.int .u16 i.c, .int .u8 i.j, .int .u8 i.f, .int .u32 i.k] 47 = insnO i from rfl]
  obtain ⟨H2, hH2⟩ : ∃ H2, H2 = W.heap.size := ⟨_, rfl⟩
  obtain ⟨W2, hW2⟩ : ∃ W2, W2 = (W.alloc (insnO i)).drew := ⟨_, rfl⟩
  rw [← hW2] at e0 e1 e2 e3 HM2 HG2 ⊢
  rw [← hH2] at e0 e1 e2 e3 ⊢
  clear hW2 hH2
  go_wp2_with fail
  refine (rwrong_c i HI.out W2).mono ?_
  rintro e W3 ⟨rfl, hb3⟩
  rw [HWR.out]
  have g0 := keepC hb3 e0
  have g1 := keepC hb3 e1
  have g2 := keepC hb3 e2
  have g3 := keepC hb3 e3
  have HM3 := Lib.hid (HM2.out.keep hb3)
  have HG3 := Lib.hid (HG2.out.trans (below_grow (B := B) hb3))
  clear e0 e1 e2 e3 HM2 HG2 hb3
  go_wp2_with fail
  refine (rfails_c e' B K z W3 HM3.out).mono ?_
  rintro e w5 ⟨rfl, hm5, hg5⟩
  have HM5 := Lib.hid hm5
  have HG5 := Lib.hid (HG3.out.trans hg5)
  clear hm5 hg5
  go_wp2
  refine bodyPost_ret (v := .bool true) (by simp [results, Try.results23, go_sem]) rfl ?_
  exact ⟨rfl, HM5.out, HG5.out⟩
set_option maxRecDepth 100000 in
set_option maxHeartbeats 2000000 in
theorem rstep_alu_x (B : Nat) (K : RK) (z : MV) (n : Nat) (i : I4) (hi : i.ok) (w : World) (hm : RMAt w B K z) (ht : z.through = false) (h64 : K.nd = 64) (hp : z.place = n) (hn : n < K.nq) (hnq : K.nq ≤ 281474976710656) (hst : 0 ≤ z.steps ∧ z.steps ≤ 9223372036854775806)
    (b off : Nat) (hA : K.Aq = some ⟨b, off, none⟩) (i0 : w.cell? ⟨b, off + n * 4, none⟩ = some (.int .u16 i.c)) (i1 : w.cell? ⟨b, off + n * 4 + 1, none⟩ = some (.int .u8 i.j)) (i2 : w.cell? ⟨b, off + n * 4 + 2, none⟩ = some (.int .u8 i.f)) (i3 : w.cell? ⟨b, off + n * 4 + 3, none⟩ = some (.int .u32 i.k))
    (HWR : Hid (cwrong i = 0)) (HAL : Hid (memC i.c aluL = true)) (HJU : Hid (memC i.c jumpL = false)) (hxb : (bits .and .u16 i.c 8 != 0) = true) (h60 : (i.c == 60) = false) (ha : 0 ≤ z.a ∧ z.a < 4294967296) (hx : 0 ≤ z.x ∧ z.x < 4294967296) (o : Int) (HT : Hid (∀ W, Calls Try.prog 48 #[.int .u16 i.c, .int .u32 z.a, .int .u32 z.x] W fun e w' => e = .returned (.int .u32 (sumP o z.a z.x)) ∧ w' = W)) : Calls Try.prog 23 #[.pointer (some ⟨B, 0, none⟩)] w (RStepPost w B K { z with a := sumP o z.a z.x, place := z.place + 1, steps := z.steps + 1 }) := by
  obtain ⟨k0, k1⟩ : 0 ≤ i.k ∧ i.k < 4294967296 := ⟨hi.2.2.2.2.2.2.1, hi.2.2.2.2.2.2.2⟩
  obtain ⟨j0, j1, f0, f1⟩ : 0 ≤ i.j ∧ i.j < 256 ∧ 0 ≤ i.f ∧ i.f < 256 := ⟨hi.2.2.1, hi.2.2.2.1, hi.2.2.2.2.1, hi.2.2.2.2.2.1⟩
  obtain ⟨s1, s2⟩ := hst
  have c22 := hm.c22
  rw [ht] at c22
  have c1 := hm.c1
  rw [h64] at c1
  have c0 := hm.c0
  rw [hA] at c0
  have c20 := hm.c20
  rw [hp] at c20
  have hn' : (n : Int) < K.nq := by omega
  have HM := Lib.hid hm
  have HP := Lib.hid hp
  have HTH := Lib.hid ht
  have HI := Lib.hid hi
  clear hm ht h64 hA hp hi
  go_enter Try.func23, Try.ntmps23
  go_wp2
  go_quiet (fail)
  have d0 : (w.drewN nq).cell? ⟨B, 0, none⟩ = some (.slice (some ⟨b, off, none⟩) K.nq K.cq) := c0
  have d20 : (w.drewN nq).cell? ⟨B, 20, none⟩ = some (.int .i64 n) := c20
  have j0' : (w.drewN nq).cell? ⟨b, off + n * 4, none⟩ = some (.int .u16 i.c) := i0
  have j1' : (w.drewN nq).cell? ⟨b, off + n * 4 + 1, none⟩ = some (.int .u8 i.j) := i1
  have j2' : (w.drewN nq).cell? ⟨b, off + n * 4 + 2, none⟩ = some (.int .u8 i.f) := i2
  have j3' : (w.drewN nq).cell? ⟨b, off + n * 4 + 3, none⟩ = some (.int .u32 i.k) := i3
  have HM1 := Lib.hid (HM.out.drewN nq)
  have HG1 := Lib.hid (grow_drewN (World.grownBy.refl w (some B)) nq)
  clear c0 c1 c20 c22 i0 i1 i2 i3
  obtain ⟨W, hW⟩ : ∃ W, W = w.drewN nq := ⟨_, rfl⟩
  rw [← hW] at d0 d20 j0' j1' j2' j3' HM1 HG1 ⊢
  clear hW
  have hlB : B < W.heap.size := World.block_lt_of_cell? W _ d0
  have hlb : b < W.heap.size := World.block_lt_of_cell? W _ j0'
  go_wp2
  go_region
  have e0 : ((W.alloc (insnO i)).drew).cell? ⟨W.heap.size, 0, none⟩ = some (.int .u16 i.c) := by simp [go_sem, insnO]
  have e1 : ((W.alloc (insnO i)).drew).cell? ⟨W.heap.size, 1, none⟩ = some (.int .u8 i.j) := by simp [go_sem, insnO]
  have e2 : ((W.alloc (insnO i)).drew).cell? ⟨W.heap.size, 2, none⟩ = some (.int .u8 i.f) := by simp [go_sem, insnO]
  have e3 : ((W.alloc (insnO i)).drew).cell? ⟨W.heap.size, 3, none⟩ = some (.int .u32 i.k) := by simp [go_sem, insnO]
  have HM2 := Lib.hid (HM1.out.alloc (insnO i)).drew
  have HG2 := Lib.hid (grow_drew (grow_al HG1.out (insnO i)))
  clear d0 d20 j0' j1' j2' j3' HM1 HG1 HM hlB hlb
  rw [show Obj.cells #[.int .u16 i.c, .int .u8 i.j, .int .u8 i.f, .int .u32 i.k] 47 = insnO i from rfl]
  obtain ⟨H2, hH2⟩ : ∃ H2, H2 = W.heap.size := ⟨_, rfl⟩
  obtain ⟨W2, hW2⟩ : ∃ W2, W2 = (W.alloc (insnO i)).drew := ⟨_, rfl⟩
  rw [← hW2] at e0 e1 e2 e3 HM2 HG2 ⊢
  rw [← hH2] at e0 e1 e2 e3 ⊢
  clear hW2 hH2
  go_wp2_with fail
  refine (rwrong_c i HI.out W2).mono ?_
  rintro e W3 ⟨rfl, hb3⟩
  rw [HWR.out]
  have g0 := keepC hb3 e0
  have g1 := keepC hb3 e1
  have g2 := keepC hb3 e2
  have g3 := keepC hb3 e3
  have HM3 := Lib.hid (HM2.out.keep hb3)
  have HG3 := Lib.hid (HG2.out.trans (below_grow (B := B) hb3))
  clear e0 e1 e2 e3 HM2 HG2 hb3
  obtain ⟨a0, a1⟩ := ha
  obtain ⟨x0, x1⟩ := hx
  have r2 := HM3.out.c2
  have rf2 := HM3.out.free 2
  have r3 := HM3.out.c3
  have r20 := HM3.out.c20
  rw [HP.out] at r20
  have rf20 := HM3.out.free 20
  have r21 := HM3.out.c21
  have rf21 := HM3.out.free 21
  go_wp2_with fail
  refine (alu_c i.c W3).mono ?_
  rintro e w' ⟨rfl, rfl⟩
  rw [HAL.out]
  go_wp2_with fail
  refine (Jump_c i.c W3).mono ?_
  rintro e w' ⟨rfl, rfl⟩
  rw [HJU.out]
  go_wp2
  refine wp_tail 11 (by kernel_rfl) (by kernel_rfl) ?_
  simp only [List.take_succ_cons, List.take_zero, List.drop_succ_cons, List.drop_zero]
  repeat still_step
  still_call (HT.out _)
  repeat still_step
  refine wpStill_nil ?_
  go_wp2
  refine bodyPost_ret (v := .bool false) (by simp [results, Try.results23, go_sem]) rfl ?_
  exact ⟨ret_b HTH.out.symm, (((HM3.out.setA _).setPlace _).setSteps _).drew.cast (by simp [HP.out]), (by repeat (first | exact HG3.out | apply grow_drew | apply grow_drewN | apply grow_al | apply grow_set))⟩
set_option maxRecDepth 100000 in
set_option maxHeartbeats 2000000 in
theorem rstep_alu60_x (B : Nat) (K : RK) (z : MV) (n : Nat) (i : I4) (hi : i.ok) (w : World) (hm : RMAt w B K z) (ht : z.through = false) (h64 : K.nd = 64) (hp : z.place = n) (hn : n < K.nq) (hnq : K.nq ≤ 281474976710656) (hst : 0 ≤ z.steps ∧ z.steps ≤ 9223372036854775806)
    (b off : Nat) (hA : K.Aq = some ⟨b, off, none⟩) (i0 : w.cell? ⟨b, off + n * 4, none⟩ = some (.int .u16 i.c)) (i1 : w.cell? ⟨b, off + n * 4 + 1, none⟩ = some (.int .u8 i.j)) (i2 : w.cell? ⟨b, off + n * 4 + 2, none⟩ = some (.int .u8 i.f)) (i3 : w.cell? ⟨b, off + n * 4 + 3, none⟩ = some (.int .u32 i.k))
    (HWR : Hid (cwrong i = 0)) (HAL : Hid (memC i.c aluL = true)) (HJU : Hid (memC i.c jumpL = false)) (hxb : (bits .and .u16 i.c 8 != 0) = true) (h60 : (i.c == 60) = true) (hb0 : (z.x == 0) = false) (ha : 0 ≤ z.a ∧ z.a < 4294967296) (hx : 0 ≤ z.x ∧ z.x < 4294967296) (o : Int) (HT : Hid (∀ W, Calls Try.prog 48 #[.int .u16 i.c, .int .u32 z.a, .int .u32 z.x] W fun e w' => e = .returned (.int .u32 (sumP o z.a z.x)) ∧ w' = W)) : Calls Try.prog 23 #[.pointer (some ⟨B, 0, none⟩)] w (RStepPost w B K { z with a := sumP o z.a z.x, place := z.place + 1, steps := z.steps + 1 }) := by
  obtain ⟨k0, k1⟩ : 0 ≤ i.k ∧ i.k < 4294967296 := ⟨hi.2.2.2.2.2.2.1, hi.2.2.2.2.2.2.2⟩
  obtain ⟨j0, j1, f0, f1⟩ : 0 ≤ i.j ∧ i.j < 256 ∧ 0 ≤ i.f ∧ i.f < 256 := ⟨hi.2.2.1, hi.2.2.2.1, hi.2.2.2.2.1, hi.2.2.2.2.2.1⟩
  obtain ⟨s1, s2⟩ := hst
  have c22 := hm.c22
  rw [ht] at c22
  have c1 := hm.c1
  rw [h64] at c1
  have c0 := hm.c0
  rw [hA] at c0
  have c20 := hm.c20
  rw [hp] at c20
  have hn' : (n : Int) < K.nq := by omega
  have HM := Lib.hid hm
  have HP := Lib.hid hp
  have HTH := Lib.hid ht
  have HI := Lib.hid hi
  clear hm ht h64 hA hp hi
  go_enter Try.func23, Try.ntmps23
  go_wp2
  go_quiet (fail)
  have d0 : (w.drewN nq).cell? ⟨B, 0, none⟩ = some (.slice (some ⟨b, off, none⟩) K.nq K.cq) := c0
  have d20 : (w.drewN nq).cell? ⟨B, 20, none⟩ = some (.int .i64 n) := c20
  have j0' : (w.drewN nq).cell? ⟨b, off + n * 4, none⟩ = some (.int .u16 i.c) := i0
  have j1' : (w.drewN nq).cell? ⟨b, off + n * 4 + 1, none⟩ = some (.int .u8 i.j) := i1
  have j2' : (w.drewN nq).cell? ⟨b, off + n * 4 + 2, none⟩ = some (.int .u8 i.f) := i2
  have j3' : (w.drewN nq).cell? ⟨b, off + n * 4 + 3, none⟩ = some (.int .u32 i.k) := i3
  have HM1 := Lib.hid (HM.out.drewN nq)
  have HG1 := Lib.hid (grow_drewN (World.grownBy.refl w (some B)) nq)
  clear c0 c1 c20 c22 i0 i1 i2 i3
  obtain ⟨W, hW⟩ : ∃ W, W = w.drewN nq := ⟨_, rfl⟩
  rw [← hW] at d0 d20 j0' j1' j2' j3' HM1 HG1 ⊢
  clear hW
  have hlB : B < W.heap.size := World.block_lt_of_cell? W _ d0
  have hlb : b < W.heap.size := World.block_lt_of_cell? W _ j0'
  go_wp2
  go_region
  have e0 : ((W.alloc (insnO i)).drew).cell? ⟨W.heap.size, 0, none⟩ = some (.int .u16 i.c) := by simp [go_sem, insnO]
  have e1 : ((W.alloc (insnO i)).drew).cell? ⟨W.heap.size, 1, none⟩ = some (.int .u8 i.j) := by simp [go_sem, insnO]
  have e2 : ((W.alloc (insnO i)).drew).cell? ⟨W.heap.size, 2, none⟩ = some (.int .u8 i.f) := by simp [go_sem, insnO]
  have e3 : ((W.alloc (insnO i)).drew).cell? ⟨W.heap.size, 3, none⟩ = some (.int .u32 i.k) := by simp [go_sem, insnO]
  have HM2 := Lib.hid (HM1.out.alloc (insnO i)).drew
  have HG2 := Lib.hid (grow_drew (grow_al HG1.out (insnO i)))
  clear d0 d20 j0' j1' j2' j3' HM1 HG1 HM hlB hlb
  rw [show Obj.cells #[.int .u16 i.c, .int .u8 i.j, .int .u8 i.f, .int .u32 i.k] 47 = insnO i from rfl]
  obtain ⟨H2, hH2⟩ : ∃ H2, H2 = W.heap.size := ⟨_, rfl⟩
  obtain ⟨W2, hW2⟩ : ∃ W2, W2 = (W.alloc (insnO i)).drew := ⟨_, rfl⟩
  rw [← hW2] at e0 e1 e2 e3 HM2 HG2 ⊢
  rw [← hH2] at e0 e1 e2 e3 ⊢
  clear hW2 hH2
  go_wp2_with fail
  refine (rwrong_c i HI.out W2).mono ?_
  rintro e W3 ⟨rfl, hb3⟩
  rw [HWR.out]
  have g0 := keepC hb3 e0
  have g1 := keepC hb3 e1
  have g2 := keepC hb3 e2
  have g3 := keepC hb3 e3
  have HM3 := Lib.hid (HM2.out.keep hb3)
  have HG3 := Lib.hid (HG2.out.trans (below_grow (B := B) hb3))
  clear e0 e1 e2 e3 HM2 HG2 hb3
  obtain ⟨a0, a1⟩ := ha
  obtain ⟨x0, x1⟩ := hx
  have r2 := HM3.out.c2
  have rf2 := HM3.out.free 2
  have r3 := HM3.out.c3
  have r20 := HM3.out.c20
  rw [HP.out] at r20
  have rf20 := HM3.out.free 20
  have r21 := HM3.out.c21
  have rf21 := HM3.out.free 21
  go_wp2_with fail
  refine (alu_c i.c W3).mono ?_
  rintro e w' ⟨rfl, rfl⟩
  rw [HAL.out]
  go_wp2_with fail
  refine (Jump_c i.c W3).mono ?_
  rintro e w' ⟨rfl, rfl⟩
  rw [HJU.out]
  go_wp2
  refine wp_tail 11 (by kernel_rfl) (by kernel_rfl) ?_
  simp only [List.take_succ_cons, List.take_zero, List.drop_succ_cons, List.drop_zero]
  repeat still_step
  still_call (HT.out _)
  repeat still_step
  refine wpStill_nil ?_
  go_wp2
  refine bodyPost_ret (v := .bool false) (by simp [results, Try.results23, go_sem]) rfl ?_
  exact ⟨ret_b HTH.out.symm, (((HM3.out.setA _).setPlace _).setSteps _).drew.cast (by simp [HP.out]), (by repeat (first | exact HG3.out | apply grow_drew | apply grow_drewN | apply grow_al | apply grow_set))⟩
set_option maxRecDepth 100000 in
set_option maxHeartbeats 2000000 in
theorem rstep_alu_k (B : Nat) (K : RK) (z : MV) (n : Nat) (i : I4) (hi : i.ok) (w : World) (hm : RMAt w B K z) (ht : z.through = false) (h64 : K.nd = 64) (hp : z.place = n) (hn : n < K.nq) (hnq : K.nq ≤ 281474976710656) (hst : 0 ≤ z.steps ∧ z.steps ≤ 9223372036854775806)
    (b off : Nat) (hA : K.Aq = some ⟨b, off, none⟩) (i0 : w.cell? ⟨b, off + n * 4, none⟩ = some (.int .u16 i.c)) (i1 : w.cell? ⟨b, off + n * 4 + 1, none⟩ = some (.int .u8 i.j)) (i2 : w.cell? ⟨b, off + n * 4 + 2, none⟩ = some (.int .u8 i.f)) (i3 : w.cell? ⟨b, off + n * 4 + 3, none⟩ = some (.int .u32 i.k))
    (HWR : Hid (cwrong i = 0)) (HAL : Hid (memC i.c aluL = true)) (HJU : Hid (memC i.c jumpL = false)) (hxb : (bits .and .u16 i.c 8 != 0) = false) (h60 : (i.c == 60) = false) (ha : 0 ≤ z.a ∧ z.a < 4294967296) (hx : 0 ≤ z.x ∧ z.x < 4294967296) (o : Int) (HT : Hid (∀ W, Calls Try.prog 48 #[.int .u16 i.c, .int .u32 z.a, .int .u32 i.k] W fun e w' => e = .returned (.int .u32 (sumP o z.a i.k)) ∧ w' = W)) : Calls Try.prog 23 #[.pointer (some ⟨B, 0, none⟩)] w (RStepPost w B K { z with a := sumP o z.a i.k, place := z.place + 1, steps := z.steps + 1 }) := by
  obtain ⟨k0, k1⟩ : 0 ≤ i.k ∧ i.k < 4294967296 := ⟨hi.2.2.2.2.2.2.1, hi.2.2.2.2.2.2.2⟩
  obtain ⟨j0, j1, f0, f1⟩ : 0 ≤ i.j ∧ i.j < 256 ∧ 0 ≤ i.f ∧ i.f < 256 := ⟨hi.2.2.1, hi.2.2.2.1, hi.2.2.2.2.1, hi.2.2.2.2.2.1⟩
  obtain ⟨s1, s2⟩ := hst
  have c22 := hm.c22
  rw [ht] at c22
  have c1 := hm.c1
  rw [h64] at c1
  have c0 := hm.c0
  rw [hA] at c0
  have c20 := hm.c20
  rw [hp] at c20
  have hn' : (n : Int) < K.nq := by omega
  have HM := Lib.hid hm
  have HP := Lib.hid hp
  have HTH := Lib.hid ht
  have HI := Lib.hid hi
  clear hm ht h64 hA hp hi
  go_enter Try.func23, Try.ntmps23
  go_wp2
  go_quiet (fail)
  have d0 : (w.drewN nq).cell? ⟨B, 0, none⟩ = some (.slice (some ⟨b, off, none⟩) K.nq K.cq) := c0
  have d20 : (w.drewN nq).cell? ⟨B, 20, none⟩ = some (.int .i64 n) := c20
  have j0' : (w.drewN nq).cell? ⟨b, off + n * 4, none⟩ = some (.int .u16 i.c) := i0
  have j1' : (w.drewN nq).cell? ⟨b, off + n * 4 + 1, none⟩ = some (.int .u8 i.j) := i1
  have j2' : (w.drewN nq).cell? ⟨b, off + n * 4 + 2, none⟩ = some (.int .u8 i.f) := i2
  have j3' : (w.drewN nq).cell? ⟨b, off + n * 4 + 3, none⟩ = some (.int .u32 i.k) := i3
  have HM1 := Lib.hid (HM.out.drewN nq)
  have HG1 := Lib.hid (grow_drewN (World.grownBy.refl w (some B)) nq)
  clear c0 c1 c20 c22 i0 i1 i2 i3
  obtain ⟨W, hW⟩ : ∃ W, W = w.drewN nq := ⟨_, rfl⟩
  rw [← hW] at d0 d20 j0' j1' j2' j3' HM1 HG1 ⊢
  clear hW
  have hlB : B < W.heap.size := World.block_lt_of_cell? W _ d0
  have hlb : b < W.heap.size := World.block_lt_of_cell? W _ j0'
  go_wp2
  go_region
  have e0 : ((W.alloc (insnO i)).drew).cell? ⟨W.heap.size, 0, none⟩ = some (.int .u16 i.c) := by simp [go_sem, insnO]
  have e1 : ((W.alloc (insnO i)).drew).cell? ⟨W.heap.size, 1, none⟩ = some (.int .u8 i.j) := by simp [go_sem, insnO]
  have e2 : ((W.alloc (insnO i)).drew).cell? ⟨W.heap.size, 2, none⟩ = some (.int .u8 i.f) := by simp [go_sem, insnO]
  have e3 : ((W.alloc (insnO i)).drew).cell? ⟨W.heap.size, 3, none⟩ = some (.int .u32 i.k) := by simp [go_sem, insnO]
  have HM2 := Lib.hid (HM1.out.alloc (insnO i)).drew
  have HG2 := Lib.hid (grow_drew (grow_al HG1.out (insnO i)))
  clear d0 d20 j0' j1' j2' j3' HM1 HG1 HM hlB hlb
  rw [show Obj.cells #[.int .u16 i.c, .int .u8 i.j, .int .u8 i.f, .int .u32 i.k] 47 = insnO i from rfl]
  obtain ⟨H2, hH2⟩ : ∃ H2, H2 = W.heap.size := ⟨_, rfl⟩
  obtain ⟨W2, hW2⟩ : ∃ W2, W2 = (W.alloc (insnO i)).drew := ⟨_, rfl⟩
  rw [← hW2] at e0 e1 e2 e3 HM2 HG2 ⊢
  rw [← hH2] at e0 e1 e2 e3 ⊢
  clear hW2 hH2
  go_wp2_with fail
  refine (rwrong_c i HI.out W2).mono ?_
  rintro e W3 ⟨rfl, hb3⟩
  rw [HWR.out]
  have g0 := keepC hb3 e0
  have g1 := keepC hb3 e1
  have g2 := keepC hb3 e2
  have g3 := keepC hb3 e3
  have HM3 := Lib.hid (HM2.out.keep hb3)
  have HG3 := Lib.hid (HG2.out.trans (below_grow (B := B) hb3))
  clear e0 e1 e2 e3 HM2 HG2 hb3
  obtain ⟨a0, a1⟩ := ha
  obtain ⟨x0, x1⟩ := hx
  have r2 := HM3.out.c2
  have rf2 := HM3.out.free 2
  have r3 := HM3.out.c3
  have r20 := HM3.out.c20
  rw [HP.out] at r20
  have rf20 := HM3.out.free 20
  have r21 := HM3.out.c21
  have rf21 := HM3.out.free 21
  go_wp2_with fail
  refine (alu_c i.c W3).mono ?_
  rintro e w' ⟨rfl, rfl⟩
  rw [HAL.out]
  go_wp2_with fail
  refine (Jump_c i.c W3).mono ?_
  rintro e w' ⟨rfl, rfl⟩
  rw [HJU.out]
  go_wp2
  refine wp_tail 11 (by kernel_rfl) (by kernel_rfl) ?_
  simp only [List.take_succ_cons, List.take_zero, List.drop_succ_cons, List.drop_zero]
  repeat still_step
  still_call (HT.out _)
  repeat still_step
  refine wpStill_nil ?_
  go_wp2
  refine bodyPost_ret (v := .bool false) (by simp [results, Try.results23, go_sem]) rfl ?_
  exact ⟨ret_b HTH.out.symm, (((HM3.out.setA _).setPlace _).setSteps _).drew.cast (by simp [HP.out]), (by repeat (first | exact HG3.out | apply grow_drew | apply grow_drewN | apply grow_al | apply grow_set))⟩
set_option maxRecDepth 100000 in
set_option maxHeartbeats 2000000 in
theorem rstep_alu0 (B : Nat) (K : RK) (z : MV) (n : Nat) (i : I4) (hi : i.ok) (w : World) (hm : RMAt w B K z) (ht : z.through = false) (h64 : K.nd = 64) (hp : z.place = n) (hn : n < K.nq) (hnq : K.nq ≤ 281474976710656) (hst : 0 ≤ z.steps ∧ z.steps ≤ 9223372036854775806)
    (b off : Nat) (hA : K.Aq = some ⟨b, off, none⟩) (i0 : w.cell? ⟨b, off + n * 4, none⟩ = some (.int .u16 i.c)) (i1 : w.cell? ⟨b, off + n * 4 + 1, none⟩ = some (.int .u8 i.j)) (i2 : w.cell? ⟨b, off + n * 4 + 2, none⟩ = some (.int .u8 i.f)) (i3 : w.cell? ⟨b, off + n * 4 + 3, none⟩ = some (.int .u32 i.k))
    (HWR : Hid (cwrong i = 0)) (HAL : Hid (memC i.c aluL = true)) (HJU : Hid (memC i.c jumpL = false)) (hxb : (bits .and .u16 i.c 8 != 0) = true) (h60 : (i.c == 60) = true) (hb0 : (z.x == 0) = true) : Calls Try.prog 23 #[.pointer (some ⟨B, 0, none⟩)] w (RStepPost w B K { z with through := true, ans := 0, steps := z.steps + 1 }) := by
  obtain ⟨k0, k1⟩ : 0 ≤ i.k ∧ i.k < 4294967296 := ⟨hi.2.2.2.2.2.2.1, hi.2.2.2.2.2.2.2⟩
  obtain ⟨j0, j1, f0, f1⟩ : 0 ≤ i.j ∧ i.j < 256 ∧ 0 ≤ i.f ∧ i.f < 256 := ⟨hi.2.2.1, hi.2.2.2.1, hi.2.2.2.2.1, hi.2.2.2.2.2.1⟩
  obtain ⟨s1, s2⟩ := hst
  have c22 := hm.c22
  rw [ht] at c22
  have c1 := hm.c1
  rw [h64] at c1
  have c0 := hm.c0
  rw [hA] at c0
  have c20 := hm.c20
  rw [hp] at c20
  have hn' : (n : Int) < K.nq := by omega
  have HM := Lib.hid hm
  have HP := Lib.hid hp
  have HTH := Lib.hid ht
  have HI := Lib.hid hi
  clear hm ht h64 hA hp hi
  go_enter Try.func23, Try.ntmps23
  go_wp2
  go_quiet (fail)
  have d0 : (w.drewN nq).cell? ⟨B, 0, none⟩ = some (.slice (some ⟨b, off, none⟩) K.nq K.cq) := c0
  have d20 : (w.drewN nq).cell? ⟨B, 20, none⟩ = some (.int .i64 n) := c20
  have j0' : (w.drewN nq).cell? ⟨b, off + n * 4, none⟩ = some (.int .u16 i.c) := i0
  have j1' : (w.drewN nq).cell? ⟨b, off + n * 4 + 1, none⟩ = some (.int .u8 i.j) := i1
  have j2' : (w.drewN nq).cell? ⟨b, off + n * 4 + 2, none⟩ = some (.int .u8 i.f) := i2
  have j3' : (w.drewN nq).cell? ⟨b, off + n * 4 + 3, none⟩ = some (.int .u32 i.k) := i3
  have HM1 := Lib.hid (HM.out.drewN nq)
  have HG1 := Lib.hid (grow_drewN (World.grownBy.refl w (some B)) nq)
  clear c0 c1 c20 c22 i0 i1 i2 i3
  obtain ⟨W, hW⟩ : ∃ W, W = w.drewN nq := ⟨_, rfl⟩
  rw [← hW] at d0 d20 j0' j1' j2' j3' HM1 HG1 ⊢
  clear hW
  have hlB : B < W.heap.size := World.block_lt_of_cell? W _ d0
  have hlb : b < W.heap.size := World.block_lt_of_cell? W _ j0'
  go_wp2
  go_region
  have e0 : ((W.alloc (insnO i)).drew).cell? ⟨W.heap.size, 0, none⟩ = some (.int .u16 i.c) := by simp [go_sem, insnO]
  have e1 : ((W.alloc (insnO i)).drew).cell? ⟨W.heap.size, 1, none⟩ = some (.int .u8 i.j) := by simp [go_sem, insnO]
  have e2 : ((W.alloc (insnO i)).drew).cell? ⟨W.heap.size, 2, none⟩ = some (.int .u8 i.f) := by simp [go_sem, insnO]
  have e3 : ((W.alloc (insnO i)).drew).cell? ⟨W.heap.size, 3, none⟩ = some (.int .u32 i.k) := by simp [go_sem, insnO]
  have HM2 := Lib.hid (HM1.out.alloc (insnO i)).drew
  have HG2 := Lib.hid (grow_drew (grow_al HG1.out (insnO i)))
  clear d0 d20 j0' j1' j2' j3' HM1 HG1 HM hlB hlb
  rw [show Obj.cells #[.int .u16 i.c, .int .u8 i.j, .int .u8 i.f, .int .u32 i.k] 47 = insnO i from rfl]
  obtain ⟨H2, hH2⟩ : ∃ H2, H2 = W.heap.size := ⟨_, rfl⟩
  obtain ⟨W2, hW2⟩ : ∃ W2, W2 = (W.alloc (insnO i)).drew := ⟨_, rfl⟩
  rw [← hW2] at e0 e1 e2 e3 HM2 HG2 ⊢
  rw [← hH2] at e0 e1 e2 e3 ⊢
  clear hW2 hH2
  go_wp2_with fail
  refine (rwrong_c i HI.out W2).mono ?_
  rintro e W3 ⟨rfl, hb3⟩
  rw [HWR.out]
  have g0 := keepC hb3 e0
  have g1 := keepC hb3 e1
  have g2 := keepC hb3 e2
  have g3 := keepC hb3 e3
  have HM3 := Lib.hid (HM2.out.keep hb3)
  have HG3 := Lib.hid (HG2.out.trans (below_grow (B := B) hb3))
  clear e0 e1 e2 e3 HM2 HG2 hb3
  have r2 := HM3.out.c2
  have rf2 := HM3.out.free 2
  have r3 := HM3.out.c3
  have r20 := HM3.out.c20
  rw [HP.out] at r20
  have rf20 := HM3.out.free 20
  have r21 := HM3.out.c21
  have rf21 := HM3.out.free 21
  go_wp2_with fail
  refine (alu_c i.c W3).mono ?_
  rintro e w' ⟨rfl, rfl⟩
  rw [HAL.out]
  go_wp2_with fail
  refine (Jump_c i.c W3).mono ?_
  rintro e w' ⟨rfl, rfl⟩
  rw [HJU.out]
  go_wp2_with fail
  refine (rends_c 0 B K z ⟨s1, s2⟩ W3 HM3.out).mono ?_
  rintro e w5 ⟨rfl, hm5, hg5⟩
  have HM5 := Lib.hid hm5
  have HG5 := Lib.hid (HG3.out.trans hg5)
  clear hm5 hg5
  go_wp2
  refine bodyPost_ret (v := .bool true) (by simp [results, Try.results23, go_sem]) rfl ?_
  exact ⟨rfl, HM5.out, HG5.out⟩
set_option maxRecDepth 100000 in
set_option maxHeartbeats 2000000 in
theorem rstep_jump_x_j (B : Nat) (K : RK) (z : MV) (n : Nat) (i : I4) (hi : i.ok) (w : World) (hm : RMAt w B K z) (ht : z.through = false) (h64 : K.nd = 64) (hp : z.place = n) (hn : n < K.nq) (hnq : K.nq ≤ 281474976710656) (hst : 0 ≤ z.steps ∧ z.steps ≤ 9223372036854775806)
    (b off : Nat) (hA : K.Aq = some ⟨b, off, none⟩) (i0 : w.cell? ⟨b, off + n * 4, none⟩ = some (.int .u16 i.c)) (i1 : w.cell? ⟨b, off + n * 4 + 1, none⟩ = some (.int .u8 i.j)) (i2 : w.cell? ⟨b, off + n * 4 + 2, none⟩ = some (.int .u8 i.f)) (i3 : w.cell? ⟨b, off + n * 4 + 3, none⟩ = some (.int .u32 i.k))
    (HWR : Hid (cwrong i = 0)) (HAL : Hid (memC i.c aluL = false)) (HJU : Hid (memC i.c jumpL = true)) (hxb : (bits .and .u16 i.c 8 != 0) = true) (HT : Hid (∀ W, Calls Try.prog 49 #[.int .u16 i.c, .int .u32 z.a, .int .u32 z.x] W fun e w' => e = .returned (.bool true) ∧ w' = W)) : Calls Try.prog 23 #[.pointer (some ⟨B, 0, none⟩)] w (RStepPost w B K { z with place := z.place + (1 + i.j), steps := z.steps + 1 }) := by
  obtain ⟨k0, k1⟩ : 0 ≤ i.k ∧ i.k < 4294967296 := ⟨hi.2.2.2.2.2.2.1, hi.2.2.2.2.2.2.2⟩
  obtain ⟨j0, j1, f0, f1⟩ : 0 ≤ i.j ∧ i.j < 256 ∧ 0 ≤ i.f ∧ i.f < 256 := ⟨hi.2.2.1, hi.2.2.2.1, hi.2.2.2.2.1, hi.2.2.2.2.2.1⟩
  obtain ⟨s1, s2⟩ := hst
  have c22 := hm.c22
  rw [ht] at c22
  have c1 := hm.c1
  rw [h64] at c1
  have c0 := hm.c0
  rw [hA] at c0
  have c20 := hm.c20
  rw [hp] at c20
  have hn' : (n : Int) < K.nq := by omega
  have HM := Lib.hid hm
  have HP := Lib.hid hp
  have HTH := Lib.hid ht
  have HI := Lib.hid hi
  clear hm ht h64 hA hp hi
  go_enter Try.func23, Try.ntmps23
  go_wp2
  go_quiet (fail)
  have d0 : (w.drewN nq).cell? ⟨B, 0, none⟩ = some (.slice (some ⟨b, off, none⟩) K.nq K.cq) := c0
  have d20 : (w.drewN nq).cell? ⟨B, 20, none⟩ = some (.int .i64 n) := c20
  have j0' : (w.drewN nq).cell? ⟨b, off + n * 4, none⟩ = some (.int .u16 i.c) := i0
  have j1' : (w.drewN nq).cell? ⟨b, off + n * 4 + 1, none⟩ = some (.int .u8 i.j) := i1
  have j2' : (w.drewN nq).cell? ⟨b, off + n * 4 + 2, none⟩ = some (.int .u8 i.f) := i2
  have j3' : (w.drewN nq).cell? ⟨b, off + n * 4 + 3, none⟩ = some (.int .u32 i.k) := i3
  have HM1 := Lib.hid (HM.out.drewN nq)
  have HG1 := Lib.hid (grow_drewN (World.grownBy.refl w (some B)) nq)
  clear c0 c1 c20 c22 i0 i1 i2 i3
  obtain ⟨W, hW⟩ : ∃ W, W = w.drewN nq := ⟨_, rfl⟩
  rw [← hW] at d0 d20 j0' j1' j2' j3' HM1 HG1 ⊢
  clear hW
  have hlB : B < W.heap.size := World.block_lt_of_cell? W _ d0
  have hlb : b < W.heap.size := World.block_lt_of_cell? W _ j0'
  go_wp2
  go_region
  have e0 : ((W.alloc (insnO i)).drew).cell? ⟨W.heap.size, 0, none⟩ = some (.int .u16 i.c) := by simp [go_sem, insnO]
  have e1 : ((W.alloc (insnO i)).drew).cell? ⟨W.heap.size, 1, none⟩ = some (.int .u8 i.j) := by simp [go_sem, insnO]
  have e2 : ((W.alloc (insnO i)).drew).cell? ⟨W.heap.size, 2, none⟩ = some (.int .u8 i.f) := by simp [go_sem, insnO]
  have e3 : ((W.alloc (insnO i)).drew).cell? ⟨W.heap.size, 3, none⟩ = some (.int .u32 i.k) := by simp [go_sem, insnO]
  have HM2 := Lib.hid (HM1.out.alloc (insnO i)).drew
  have HG2 := Lib.hid (grow_drew (grow_al HG1.out (insnO i)))
  clear d0 d20 j0' j1' j2' j3' HM1 HG1 HM hlB hlb
  rw [show Obj.cells #[.int .u16 i.c, .int .u8 i.j, .int .u8 i.f, .int .u32 i.k] 47 = insnO i from rfl]
  obtain ⟨H2, hH2⟩ : ∃ H2, H2 = W.heap.size := ⟨_, rfl⟩
  obtain ⟨W2, hW2⟩ : ∃ W2, W2 = (W.alloc (insnO i)).drew := ⟨_, rfl⟩
  rw [← hW2] at e0 e1 e2 e3 HM2 HG2 ⊢
  rw [← hH2] at e0 e1 e2 e3 ⊢
  clear hW2 hH2
  go_wp2_with fail
  refine (rwrong_c i HI.out W2).mono ?_
  rintro e W3 ⟨rfl, hb3⟩
  rw [HWR.out]
  have g0 := keepC hb3 e0
  have g1 := keepC hb3 e1
  have g2 := keepC hb3 e2
  have g3 := keepC hb3 e3
  have HM3 := Lib.hid (HM2.out.keep hb3)
  have HG3 := Lib.hid (HG2.out.trans (below_grow (B := B) hb3))
  clear e0 e1 e2 e3 HM2 HG2 hb3
  have r2 := HM3.out.c2
  have rf2 := HM3.out.free 2
  have r3 := HM3.out.c3
  have r20 := HM3.out.c20
  rw [HP.out] at r20
  have rf20 := HM3.out.free 20
  have r21 := HM3.out.c21
  have rf21 := HM3.out.free 21
  go_wp2_with fail
  refine (alu_c i.c W3).mono ?_
  rintro e w' ⟨rfl, rfl⟩
  rw [HAL.out]
  go_wp2_with fail
  refine (Jump_c i.c W3).mono ?_
  rintro e w' ⟨rfl, rfl⟩
  rw [HJU.out]
  go_wp2
  go_quiet ((go_at_call 49; exact Calls.quiet_of_same (HT.out _)))
  have q20 : (W3.drewN nq).cell? ⟨B, 20, none⟩ = some (.int .i64 n) := r20
  have q21 : (W3.drewN nq).cell? ⟨B, 21, none⟩ = some (.int .i64 z.steps) := r21
  have qf20 : (W3.drewN nq).frozen? ⟨B, 20, none⟩ = false := rf20
  have qf21 : (W3.drewN nq).frozen? ⟨B, 21, none⟩ = false := rf21
  have q0 : (W3.drewN nq).cell? ⟨H2, 1, none⟩ = some (.int .u8 i.j) := g1
  have q1 : (W3.drewN nq).cell? ⟨H2, 2, none⟩ = some (.int .u8 i.f) := g2
  have HM4 := Lib.hid (HM3.out.drewN nq)
  have HG4 := Lib.hid (grow_drewN HG3.out nq)
  clear r2 rf2 r3 r20 rf20 r21 rf21 g0 g1 g2 g3 HM3 HG3
  obtain ⟨W4, hW4⟩ : ∃ W4, W4 = W3.drewN nq := ⟨_, rfl⟩
  rw [← hW4] at q20 q21 qf20 qf21 q0 q1 HM4 HG4 ⊢
  clear hW4
  go_wp2
  refine bodyPost_ret (v := .bool false) (by simp [results, Try.results23, go_sem]) rfl ?_
  exact ⟨ret_b HTH.out.symm, ((HM4.out.setPlace _).setSteps _).cast (by simp [HP.out]), (by repeat (first | exact HG4.out | apply grow_drew | apply grow_drewN | apply grow_al | apply grow_set))⟩
set_option maxRecDepth 100000 in
set_option maxHeartbeats 2000000 in
theorem rstep_jump_x_f (B : Nat) (K : RK) (z : MV) (n : Nat) (i : I4) (hi : i.ok) (w : World) (hm : RMAt w B K z) (ht : z.through = false) (h64 : K.nd = 64) (hp : z.place = n) (hn : n < K.nq) (hnq : K.nq ≤ 281474976710656) (hst : 0 ≤ z.steps ∧ z.steps ≤ 9223372036854775806)
    (b off : Nat) (hA : K.Aq = some ⟨b, off, none⟩) (i0 : w.cell? ⟨b, off + n * 4, none⟩ = some (.int .u16 i.c)) (i1 : w.cell? ⟨b, off + n * 4 + 1, none⟩ = some (.int .u8 i.j)) (i2 : w.cell? ⟨b, off + n * 4 + 2, none⟩ = some (.int .u8 i.f)) (i3 : w.cell? ⟨b, off + n * 4 + 3, none⟩ = some (.int .u32 i.k))
    (HWR : Hid (cwrong i = 0)) (HAL : Hid (memC i.c aluL = false)) (HJU : Hid (memC i.c jumpL = true)) (hxb : (bits .and .u16 i.c 8 != 0) = true) (HT : Hid (∀ W, Calls Try.prog 49 #[.int .u16 i.c, .int .u32 z.a, .int .u32 z.x] W fun e w' => e = .returned (.bool false) ∧ w' = W)) : Calls Try.prog 23 #[.pointer (some ⟨B, 0, none⟩)] w (RStepPost w B K { z with place := z.place + (1 + i.f), steps := z.steps + 1 }) := by
  obtain ⟨k0, k1⟩ : 0 ≤ i.k ∧ i.k < 4294967296 := ⟨hi.2.2.2.2.2.2.1, hi.2.2.2.2.2.2.2⟩
  obtain ⟨j0, j1, f0, f1⟩ : 0 ≤ i.j ∧ i.j < 256 ∧ 0 ≤ i.f ∧ i.f < 256 := ⟨hi.2.2.1, hi.2.2.2.1, hi.2.2.2.2.1, hi.2.2.2.2.2.1⟩
  obtain ⟨s1, s2⟩ := hst
  have c22 := hm.c22
  rw [ht] at c22
  have c1 := hm.c1
  rw [h64] at c1
  have c0 := hm.c0
  rw [hA] at c0
  have c20 := hm.c20
  rw [hp] at c20
  have hn' : (n : Int) < K.nq := by omega
  have HM := Lib.hid hm
  have HP := Lib.hid hp
  have HTH := Lib.hid ht
  have HI := Lib.hid hi
  clear hm ht h64 hA hp hi
  go_enter Try.func23, Try.ntmps23
  go_wp2
  go_quiet (fail)
  have d0 : (w.drewN nq).cell? ⟨B, 0, none⟩ = some (.slice (some ⟨b, off, none⟩) K.nq K.cq) := c0
  have d20 : (w.drewN nq).cell? ⟨B, 20, none⟩ = some (.int .i64 n) := c20
  have j0' : (w.drewN nq).cell? ⟨b, off + n * 4, none⟩ = some (.int .u16 i.c) := i0
  have j1' : (w.drewN nq).cell? ⟨b, off + n * 4 + 1, none⟩ = some (.int .u8 i.j) := i1
  have j2' : (w.drewN nq).cell? ⟨b, off + n * 4 + 2, none⟩ = some (.int .u8 i.f) := i2
  have j3' : (w.drewN nq).cell? ⟨b, off + n * 4 + 3, none⟩ = some (.int .u32 i.k) := i3
  have HM1 := Lib.hid (HM.out.drewN nq)
  have HG1 := Lib.hid (grow_drewN (World.grownBy.refl w (some B)) nq)
  clear c0 c1 c20 c22 i0 i1 i2 i3
  obtain ⟨W, hW⟩ : ∃ W, W = w.drewN nq := ⟨_, rfl⟩
  rw [← hW] at d0 d20 j0' j1' j2' j3' HM1 HG1 ⊢
  clear hW
  have hlB : B < W.heap.size := World.block_lt_of_cell? W _ d0
  have hlb : b < W.heap.size := World.block_lt_of_cell? W _ j0'
  go_wp2
  go_region
  have e0 : ((W.alloc (insnO i)).drew).cell? ⟨W.heap.size, 0, none⟩ = some (.int .u16 i.c) := by simp [go_sem, insnO]
  have e1 : ((W.alloc (insnO i)).drew).cell? ⟨W.heap.size, 1, none⟩ = some (.int .u8 i.j) := by simp [go_sem, insnO]
  have e2 : ((W.alloc (insnO i)).drew).cell? ⟨W.heap.size, 2, none⟩ = some (.int .u8 i.f) := by simp [go_sem, insnO]
  have e3 : ((W.alloc (insnO i)).drew).cell? ⟨W.heap.size, 3, none⟩ = some (.int .u32 i.k) := by simp [go_sem, insnO]
  have HM2 := Lib.hid (HM1.out.alloc (insnO i)).drew
  have HG2 := Lib.hid (grow_drew (grow_al HG1.out (insnO i)))
  clear d0 d20 j0' j1' j2' j3' HM1 HG1 HM hlB hlb
  rw [show Obj.cells #[.int .u16 i.c, .int .u8 i.j, .int .u8 i.f, .int .u32 i.k] 47 = insnO i from rfl]
  obtain ⟨H2, hH2⟩ : ∃ H2, H2 = W.heap.size := ⟨_, rfl⟩
  obtain ⟨W2, hW2⟩ : ∃ W2, W2 = (W.alloc (insnO i)).drew := ⟨_, rfl⟩
  rw [← hW2] at e0 e1 e2 e3 HM2 HG2 ⊢
  rw [← hH2] at e0 e1 e2 e3 ⊢
  clear hW2 hH2
  go_wp2_with fail
  refine (rwrong_c i HI.out W2).mono ?_
  rintro e W3 ⟨rfl, hb3⟩
  rw [HWR.out]
  have g0 := keepC hb3 e0
  have g1 := keepC hb3 e1
  have g2 := keepC hb3 e2
  have g3 := keepC hb3 e3
  have HM3 := Lib.hid (HM2.out.keep hb3)
  have HG3 := Lib.hid (HG2.out.trans (below_grow (B := B) hb3))
  clear e0 e1 e2 e3 HM2 HG2 hb3
  have r2 := HM3.out.c2
  have rf2 := HM3.out.free 2
  have r3 := HM3.out.c3
  have r20 := HM3.out.c20
  rw [HP.out] at r20
  have rf20 := HM3.out.free 20
  have r21 := HM3.out.c21
  have rf21 := HM3.out.free 21
  go_wp2_with fail
  refine (alu_c i.c W3).mono ?_
  rintro e w' ⟨rfl, rfl⟩
  rw [HAL.out]
  go_wp2_with fail
  refine (Jump_c i.c W3).mono ?_
  rintro e w' ⟨rfl, rfl⟩
  rw [HJU.out]
  go_wp2
  go_quiet ((go_at_call 49; exact Calls.quiet_of_same (HT.out _)))
  have q20 : (W3.drewN nq).cell? ⟨B, 20, none⟩ = some (.int .i64 n) := r20
  have q21 : (W3.drewN nq).cell? ⟨B, 21, none⟩ = some (.int .i64 z.steps) := r21
  have qf20 : (W3.drewN nq).frozen? ⟨B, 20, none⟩ = false := rf20
  have qf21 : (W3.drewN nq).frozen? ⟨B, 21, none⟩ = false := rf21
  have q0 : (W3.drewN nq).cell? ⟨H2, 1, none⟩ = some (.int .u8 i.j) := g1
  have q1 : (W3.drewN nq).cell? ⟨H2, 2, none⟩ = some (.int .u8 i.f) := g2
  have HM4 := Lib.hid (HM3.out.drewN nq)
  have HG4 := Lib.hid (grow_drewN HG3.out nq)
  clear r2 rf2 r3 r20 rf20 r21 rf21 g0 g1 g2 g3 HM3 HG3
  obtain ⟨W4, hW4⟩ : ∃ W4, W4 = W3.drewN nq := ⟨_, rfl⟩
  rw [← hW4] at q20 q21 qf20 qf21 q0 q1 HM4 HG4 ⊢
  clear hW4
  go_wp2
  refine bodyPost_ret (v := .bool false) (by simp [results, Try.results23, go_sem]) rfl ?_
  exact ⟨ret_b HTH.out.symm, ((HM4.out.setPlace _).setSteps _).cast (by simp [HP.out]), (by repeat (first | exact HG4.out | apply grow_drew | apply grow_drewN | apply grow_al | apply grow_set))⟩
set_option maxRecDepth 100000 in
set_option maxHeartbeats 2000000 in
theorem rstep_jump_k_j (B : Nat) (K : RK) (z : MV) (n : Nat) (i : I4) (hi : i.ok) (w : World) (hm : RMAt w B K z) (ht : z.through = false) (h64 : K.nd = 64) (hp : z.place = n) (hn : n < K.nq) (hnq : K.nq ≤ 281474976710656) (hst : 0 ≤ z.steps ∧ z.steps ≤ 9223372036854775806)
    (b off : Nat) (hA : K.Aq = some ⟨b, off, none⟩) (i0 : w.cell? ⟨b, off + n * 4, none⟩ = some (.int .u16 i.c)) (i1 : w.cell? ⟨b, off + n * 4 + 1, none⟩ = some (.int .u8 i.j)) (i2 : w.cell? ⟨b, off + n * 4 + 2, none⟩ = some (.int .u8 i.f)) (i3 : w.cell? ⟨b, off + n * 4 + 3, none⟩ = some (.int .u32 i.k))
    (HWR : Hid (cwrong i = 0)) (HAL : Hid (memC i.c aluL = false)) (HJU : Hid (memC i.c jumpL = true)) (hxb : (bits .and .u16 i.c 8 != 0) = false) (HT : Hid (∀ W, Calls Try.prog 49 #[.int .u16 i.c, .int .u32 z.a, .int .u32 i.k] W fun e w' => e = .returned (.bool true) ∧ w' = W)) : Calls Try.prog 23 #[.pointer (some ⟨B, 0, none⟩)] w (RStepPost w B K { z with place := z.place + (1 + i.j), steps := z.steps + 1 }) := by
  obtain ⟨k0, k1⟩ : 0 ≤ i.k ∧ i.k < 4294967296 := ⟨hi.2.2.2.2.2.2.1, hi.2.2.2.2.2.2.2⟩
  obtain ⟨j0, j1, f0, f1⟩ : 0 ≤ i.j ∧ i.j < 256 ∧ 0 ≤ i.f ∧ i.f < 256 := ⟨hi.2.2.1, hi.2.2.2.1, hi.2.2.2.2.1, hi.2.2.2.2.2.1⟩
  obtain ⟨s1, s2⟩ := hst
  have c22 := hm.c22
  rw [ht] at c22
  have c1 := hm.c1
  rw [h64] at c1
  have c0 := hm.c0
  rw [hA] at c0
  have c20 := hm.c20
  rw [hp] at c20
  have hn' : (n : Int) < K.nq := by omega
  have HM := Lib.hid hm
  have HP := Lib.hid hp
  have HTH := Lib.hid ht
  have HI := Lib.hid hi
  clear hm ht h64 hA hp hi
  go_enter Try.func23, Try.ntmps23
  go_wp2
  go_quiet (fail)
  have d0 : (w.drewN nq).cell? ⟨B, 0, none⟩ = some (.slice (some ⟨b, off, none⟩) K.nq K.cq) := c0
  have d20 : (w.drewN nq).cell? ⟨B, 20, none⟩ = some (.int .i64 n) := c20
  have j0' : (w.drewN nq).cell? ⟨b, off + n * 4, none⟩ = some (.int .u16 i.c) := i0
  have j1' : (w.drewN nq).cell? ⟨b, off + n * 4 + 1, none⟩ = some (.int .u8 i.j) := i1
  have j2' : (w.drewN nq).cell? ⟨b, off + n * 4 + 2, none⟩ = some (.int .u8 i.f) := i2
  have j3' : (w.drewN nq).cell? ⟨b, off + n * 4 + 3, none⟩ = some (.int .u32 i.k) := i3
  have HM1 := Lib.hid (HM.out.drewN nq)
  have HG1 := Lib.hid (grow_drewN (World.grownBy.refl w (some B)) nq)
  clear c0 c1 c20 c22 i0 i1 i2 i3
  obtain ⟨W, hW⟩ : ∃ W, W = w.drewN nq := ⟨_, rfl⟩
  rw [← hW] at d0 d20 j0' j1' j2' j3' HM1 HG1 ⊢
  clear hW
  have hlB : B < W.heap.size := World.block_lt_of_cell? W _ d0
  have hlb : b < W.heap.size := World.block_lt_of_cell? W _ j0'
  go_wp2
  go_region
  have e0 : ((W.alloc (insnO i)).drew).cell? ⟨W.heap.size, 0, none⟩ = some (.int .u16 i.c) := by simp [go_sem, insnO]
  have e1 : ((W.alloc (insnO i)).drew).cell? ⟨W.heap.size, 1, none⟩ = some (.int .u8 i.j) := by simp [go_sem, insnO]
  have e2 : ((W.alloc (insnO i)).drew).cell? ⟨W.heap.size, 2, none⟩ = some (.int .u8 i.f) := by simp [go_sem, insnO]
  have e3 : ((W.alloc (insnO i)).drew).cell? ⟨W.heap.size, 3, none⟩ = some (.int .u32 i.k) := by simp [go_sem, insnO]
  have HM2 := Lib.hid (HM1.out.alloc (insnO i)).drew
  have HG2 := Lib.hid (grow_drew (grow_al HG1.out (insnO i)))
  clear d0 d20 j0' j1' j2' j3' HM1 HG1 HM hlB hlb
  rw [show Obj.cells #[.int .u16 i.c, .int .u8 i.j, .int .u8 i.f, .int .u32 i.k] 47 = insnO i from rfl]
  obtain ⟨H2, hH2⟩ : ∃ H2, H2 = W.heap.size := ⟨_, rfl⟩
  obtain ⟨W2, hW2⟩ : ∃ W2, W2 = (W.alloc (insnO i)).drew := ⟨_, rfl⟩
  rw [← hW2] at e0 e1 e2 e3 HM2 HG2 ⊢
  rw [← hH2] at e0 e1 e2 e3 ⊢
  clear hW2 hH2
  go_wp2_with fail
  refine (rwrong_c i HI.out W2).mono ?_
  rintro e W3 ⟨rfl, hb3⟩
  rw [HWR.out]
  have g0 := keepC hb3 e0
  have g1 := keepC hb3 e1
  have g2 := keepC hb3 e2
  have g3 := keepC hb3 e3
  have HM3 := Lib.hid (HM2.out.keep hb3)
  have HG3 := Lib.hid (HG2.out.trans (below_grow (B := B) hb3))
  clear e0 e1 e2 e3 HM2 HG2 hb3
  have r2 := HM3.out.c2
  have rf2 := HM3.out.free 2
  have r3 := HM3.out.c3
  have r20 := HM3.out.c20
  rw [HP.out] at r20
  have rf20 := HM3.out.free 20
  have r21 := HM3.out.c21
  have rf21 := HM3.out.free 21
  go_wp2_with fail
  refine (alu_c i.c W3).mono ?_
  rintro e w' ⟨rfl, rfl⟩
  rw [HAL.out]
  go_wp2_with fail
  refine (Jump_c i.c W3).mono ?_
  rintro e w' ⟨rfl, rfl⟩
  rw [HJU.out]
  go_wp2
  go_quiet ((go_at_call 49; exact Calls.quiet_of_same (HT.out _)))
  have q20 : (W3.drewN nq).cell? ⟨B, 20, none⟩ = some (.int .i64 n) := r20
  have q21 : (W3.drewN nq).cell? ⟨B, 21, none⟩ = some (.int .i64 z.steps) := r21
  have qf20 : (W3.drewN nq).frozen? ⟨B, 20, none⟩ = false := rf20
  have qf21 : (W3.drewN nq).frozen? ⟨B, 21, none⟩ = false := rf21
  have q0 : (W3.drewN nq).cell? ⟨H2, 1, none⟩ = some (.int .u8 i.j) := g1
  have q1 : (W3.drewN nq).cell? ⟨H2, 2, none⟩ = some (.int .u8 i.f) := g2
  have HM4 := Lib.hid (HM3.out.drewN nq)
  have HG4 := Lib.hid (grow_drewN HG3.out nq)
  clear r2 rf2 r3 r20 rf20 r21 rf21 g0 g1 g2 g3 HM3 HG3
  obtain ⟨W4, hW4⟩ : ∃ W4, W4 = W3.drewN nq := ⟨_, rfl⟩
  rw [← hW4] at q20 q21 qf20 qf21 q0 q1 HM4 HG4 ⊢
  clear hW4
  go_wp2
  refine bodyPost_ret (v := .bool false) (by simp [results, Try.results23, go_sem]) rfl ?_
  exact ⟨ret_b HTH.out.symm, ((HM4.out.setPlace _).setSteps _).cast (by simp [HP.out]), (by repeat (first | exact HG4.out | apply grow_drew | apply grow_drewN | apply grow_al | apply grow_set))⟩
set_option maxRecDepth 100000 in
set_option maxHeartbeats 2000000 in
theorem rstep_jump_k_f (B : Nat) (K : RK) (z : MV) (n : Nat) (i : I4) (hi : i.ok) (w : World) (hm : RMAt w B K z) (ht : z.through = false) (h64 : K.nd = 64) (hp : z.place = n) (hn : n < K.nq) (hnq : K.nq ≤ 281474976710656) (hst : 0 ≤ z.steps ∧ z.steps ≤ 9223372036854775806)
    (b off : Nat) (hA : K.Aq = some ⟨b, off, none⟩) (i0 : w.cell? ⟨b, off + n * 4, none⟩ = some (.int .u16 i.c)) (i1 : w.cell? ⟨b, off + n * 4 + 1, none⟩ = some (.int .u8 i.j)) (i2 : w.cell? ⟨b, off + n * 4 + 2, none⟩ = some (.int .u8 i.f)) (i3 : w.cell? ⟨b, off + n * 4 + 3, none⟩ = some (.int .u32 i.k))
    (HWR : Hid (cwrong i = 0)) (HAL : Hid (memC i.c aluL = false)) (HJU : Hid (memC i.c jumpL = true)) (hxb : (bits .and .u16 i.c 8 != 0) = false) (HT : Hid (∀ W, Calls Try.prog 49 #[.int .u16 i.c, .int .u32 z.a, .int .u32 i.k] W fun e w' => e = .returned (.bool false) ∧ w' = W)) : Calls Try.prog 23 #[.pointer (some ⟨B, 0, none⟩)] w (RStepPost w B K { z with place := z.place + (1 + i.f), steps := z.steps + 1 }) := by
  obtain ⟨k0, k1⟩ : 0 ≤ i.k ∧ i.k < 4294967296 := ⟨hi.2.2.2.2.2.2.1, hi.2.2.2.2.2.2.2⟩
  obtain ⟨j0, j1, f0, f1⟩ : 0 ≤ i.j ∧ i.j < 256 ∧ 0 ≤ i.f ∧ i.f < 256 := ⟨hi.2.2.1, hi.2.2.2.1, hi.2.2.2.2.1, hi.2.2.2.2.2.1⟩
  obtain ⟨s1, s2⟩ := hst
  have c22 := hm.c22
  rw [ht] at c22
  have c1 := hm.c1
  rw [h64] at c1
  have c0 := hm.c0
  rw [hA] at c0
  have c20 := hm.c20
  rw [hp] at c20
  have hn' : (n : Int) < K.nq := by omega
  have HM := Lib.hid hm
  have HP := Lib.hid hp
  have HTH := Lib.hid ht
  have HI := Lib.hid hi
  clear hm ht h64 hA hp hi
  go_enter Try.func23, Try.ntmps23
  go_wp2
  go_quiet (fail)
  have d0 : (w.drewN nq).cell? ⟨B, 0, none⟩ = some (.slice (some ⟨b, off, none⟩) K.nq K.cq) := c0
  have d20 : (w.drewN nq).cell? ⟨B, 20, none⟩ = some (.int .i64 n) := c20
  have j0' : (w.drewN nq).cell? ⟨b, off + n * 4, none⟩ = some (.int .u16 i.c) := i0
  have j1' : (w.drewN nq).cell? ⟨b, off + n * 4 + 1, none⟩ = some (.int .u8 i.j) := i1
  have j2' : (w.drewN nq).cell? ⟨b, off + n * 4 + 2, none⟩ = some (.int .u8 i.f) := i2
  have j3' : (w.drewN nq).cell? ⟨b, off + n * 4 + 3, none⟩ = some (.int .u32 i.k) := i3
  have HM1 := Lib.hid (HM.out.drewN nq)
  have HG1 := Lib.hid (grow_drewN (World.grownBy.refl w (some B)) nq)
  clear c0 c1 c20 c22 i0 i1 i2 i3
  obtain ⟨W, hW⟩ : ∃ W, W = w.drewN nq := ⟨_, rfl⟩
  rw [← hW] at d0 d20 j0' j1' j2' j3' HM1 HG1 ⊢
  clear hW
  have hlB : B < W.heap.size := World.block_lt_of_cell? W _ d0
  have hlb : b < W.heap.size := World.block_lt_of_cell? W _ j0'
  go_wp2
  go_region
  have e0 : ((W.alloc (insnO i)).drew).cell? ⟨W.heap.size, 0, none⟩ = some (.int .u16 i.c) := by simp [go_sem, insnO]
  have e1 : ((W.alloc (insnO i)).drew).cell? ⟨W.heap.size, 1, none⟩ = some (.int .u8 i.j) := by simp [go_sem, insnO]
  have e2 : ((W.alloc (insnO i)).drew).cell? ⟨W.heap.size, 2, none⟩ = some (.int .u8 i.f) := by simp [go_sem, insnO]
  have e3 : ((W.alloc (insnO i)).drew).cell? ⟨W.heap.size, 3, none⟩ = some (.int .u32 i.k) := by simp [go_sem, insnO]
  have HM2 := Lib.hid (HM1.out.alloc (insnO i)).drew
  have HG2 := Lib.hid (grow_drew (grow_al HG1.out (insnO i)))
  clear d0 d20 j0' j1' j2' j3' HM1 HG1 HM hlB hlb
  rw [show Obj.cells #[.int .u16 i.c, .int .u8 i.j, .int .u8 i.f, .int .u32 i.k] 47 = insnO i from rfl]
  obtain ⟨H2, hH2⟩ : ∃ H2, H2 = W.heap.size := ⟨_, rfl⟩
  obtain ⟨W2, hW2⟩ : ∃ W2, W2 = (W.alloc (insnO i)).drew := ⟨_, rfl⟩
  rw [← hW2] at e0 e1 e2 e3 HM2 HG2 ⊢
  rw [← hH2] at e0 e1 e2 e3 ⊢
  clear hW2 hH2
  go_wp2_with fail
  refine (rwrong_c i HI.out W2).mono ?_
  rintro e W3 ⟨rfl, hb3⟩
  rw [HWR.out]
  have g0 := keepC hb3 e0
  have g1 := keepC hb3 e1
  have g2 := keepC hb3 e2
  have g3 := keepC hb3 e3
  have HM3 := Lib.hid (HM2.out.keep hb3)
  have HG3 := Lib.hid (HG2.out.trans (below_grow (B := B) hb3))
  clear e0 e1 e2 e3 HM2 HG2 hb3
  have r2 := HM3.out.c2
  have rf2 := HM3.out.free 2
  have r3 := HM3.out.c3
  have r20 := HM3.out.c20
  rw [HP.out] at r20
  have rf20 := HM3.out.free 20
  have r21 := HM3.out.c21
  have rf21 := HM3.out.free 21
  go_wp2_with fail
  refine (alu_c i.c W3).mono ?_
  rintro e w' ⟨rfl, rfl⟩
  rw [HAL.out]
  go_wp2_with fail
  refine (Jump_c i.c W3).mono ?_
  rintro e w' ⟨rfl, rfl⟩
  rw [HJU.out]
  go_wp2
  go_quiet ((go_at_call 49; exact Calls.quiet_of_same (HT.out _)))
  have q20 : (W3.drewN nq).cell? ⟨B, 20, none⟩ = some (.int .i64 n) := r20
  have q21 : (W3.drewN nq).cell? ⟨B, 21, none⟩ = some (.int .i64 z.steps) := r21
  have qf20 : (W3.drewN nq).frozen? ⟨B, 20, none⟩ = false := rf20
  have qf21 : (W3.drewN nq).frozen? ⟨B, 21, none⟩ = false := rf21
  have q0 : (W3.drewN nq).cell? ⟨H2, 1, none⟩ = some (.int .u8 i.j) := g1
  have q1 : (W3.drewN nq).cell? ⟨H2, 2, none⟩ = some (.int .u8 i.f) := g2
  have HM4 := Lib.hid (HM3.out.drewN nq)
  have HG4 := Lib.hid (grow_drewN HG3.out nq)
  clear r2 rf2 r3 r20 rf20 r21 rf21 g0 g1 g2 g3 HM3 HG3
  obtain ⟨W4, hW4⟩ : ∃ W4, W4 = W3.drewN nq := ⟨_, rfl⟩
  rw [← hW4] at q20 q21 qf20 qf21 q0 q1 HM4 HG4 ⊢
  clear hW4
  go_wp2
  refine bodyPost_ret (v := .bool false) (by simp [results, Try.results23, go_sem]) rfl ?_
  exact ⟨ret_b HTH.out.symm, ((HM4.out.setPlace _).setSteps _).cast (by simp [HP.out]), (by repeat (first | exact HG4.out | apply grow_drew | apply grow_drewN | apply grow_al | apply grow_set))⟩
set_option maxRecDepth 100000 in
set_option maxHeartbeats 2000000 in
theorem rstep_ja (B : Nat) (K : RK) (z : MV) (n : Nat) (i : I4) (hi : i.ok) (w : World) (hm : RMAt w B K z) (ht : z.through = false) (h64 : K.nd = 64) (hp : z.place = n) (hn : n < K.nq) (hnq : K.nq ≤ 281474976710656) (hst : 0 ≤ z.steps ∧ z.steps ≤ 9223372036854775806)
    (b off : Nat) (hA : K.Aq = some ⟨b, off, none⟩) (i0 : w.cell? ⟨b, off + n * 4, none⟩ = some (.int .u16 i.c)) (i1 : w.cell? ⟨b, off + n * 4 + 1, none⟩ = some (.int .u8 i.j)) (i2 : w.cell? ⟨b, off + n * 4 + 2, none⟩ = some (.int .u8 i.f)) (i3 : w.cell? ⟨b, off + n * 4 + 3, none⟩ = some (.int .u32 i.k))
    (HC : Hid (i.c = 5)) (n5 : (i.c == 5) = true) (HWR : Hid (cwrong i = 0))  : Calls Try.prog 23 #[.pointer (some ⟨B, 0, none⟩)] w (RStepPost w B K { z with place := z.place + (1 + i.k), steps := z.steps + 1 }) := by
  obtain ⟨k0, k1⟩ : 0 ≤ i.k ∧ i.k < 4294967296 := ⟨hi.2.2.2.2.2.2.1, hi.2.2.2.2.2.2.2⟩
  obtain ⟨j0, j1, f0, f1⟩ : 0 ≤ i.j ∧ i.j < 256 ∧ 0 ≤ i.f ∧ i.f < 256 := ⟨hi.2.2.1, hi.2.2.2.1, hi.2.2.2.2.1, hi.2.2.2.2.2.1⟩
  obtain ⟨s1, s2⟩ := hst
  have c22 := hm.c22
  rw [ht] at c22
  have c1 := hm.c1
  rw [h64] at c1
  have c0 := hm.c0
  rw [hA] at c0
  have c20 := hm.c20
  rw [hp] at c20
  have hn' : (n : Int) < K.nq := by omega
  have HM := Lib.hid hm
  have HP := Lib.hid hp
  have HTH := Lib.hid ht
  have HI := Lib.hid hi
  clear hm ht h64 hA hp hi
  go_enter Try.func23, Try.ntmps23
  go_wp2
  go_quiet (fail)
  have d0 : (w.drewN nq).cell? ⟨B, 0, none⟩ = some (.slice (some ⟨b, off, none⟩) K.nq K.cq) := c0
  have d20 : (w.drewN nq).cell? ⟨B, 20, none⟩ = some (.int .i64 n) := c20
  have j0' : (w.drewN nq).cell? ⟨b, off + n * 4, none⟩ = some (.int .u16 i.c) := i0
  have j1' : (w.drewN nq).cell? ⟨b, off + n * 4 + 1, none⟩ = some (.int .u8 i.j) := i1
  have j2' : (w.drewN nq).cell? ⟨b, off + n * 4 + 2, none⟩ = some (.int .u8 i.f) := i2
  have j3' : (w.drewN nq).cell? ⟨b, off + n * 4 + 3, none⟩ = some (.int .u32 i.k) := i3
  have HM1 := Lib.hid (HM.out.drewN nq)
  have HG1 := Lib.hid (grow_drewN (World.grownBy.refl w (some B)) nq)
  clear c0 c1 c20 c22 i0 i1 i2 i3
  obtain ⟨W, hW⟩ : ∃ W, W = w.drewN nq := ⟨_, rfl⟩
  rw [← hW] at d0 d20 j0' j1' j2' j3' HM1 HG1 ⊢
  clear hW
  have hlB : B < W.heap.size := World.block_lt_of_cell? W _ d0
  have hlb : b < W.heap.size := World.block_lt_of_cell? W _ j0'
  go_wp2
  go_region
  have e0 : ((W.alloc (insnO i)).drew).cell? ⟨W.heap.size, 0, none⟩ = some (.int .u16 i.c) := by simp [go_sem, insnO]
  have e1 : ((W.alloc (insnO i)).drew).cell? ⟨W.heap.size, 1, none⟩ = some (.int .u8 i.j) := by simp [go_sem, insnO]
  have e2 : ((W.alloc (insnO i)).drew).cell? ⟨W.heap.size, 2, none⟩ = some (.int .u8 i.f) := by simp [go_sem, insnO]
  have e3 : ((W.alloc (insnO i)).drew).cell? ⟨W.heap.size, 3, none⟩ = some (.int .u32 i.k) := by simp [go_sem, insnO]
  have HM2 := Lib.hid (HM1.out.alloc (insnO i)).drew
  have HG2 := Lib.hid (grow_drew (grow_al HG1.out (insnO i)))
  clear d0 d20 j0' j1' j2' j3' HM1 HG1 HM hlB hlb
  rw [show Obj.cells #[.int .u16 i.c, .int .u8 i.j, .int .u8 i.f, .int .u32 i.k] 47 = insnO i from rfl]
  obtain ⟨H2, hH2⟩ : ∃ H2, H2 = W.heap.size := ⟨_, rfl⟩
  obtain ⟨W2, hW2⟩ : ∃ W2, W2 = (W.alloc (insnO i)).drew := ⟨_, rfl⟩
  rw [← hW2] at e0 e1 e2 e3 HM2 HG2 ⊢
  rw [← hH2] at e0 e1 e2 e3 ⊢
  clear hW2 hH2
  go_wp2_with fail
  refine (rwrong_c i HI.out W2).mono ?_
  rintro e W3 ⟨rfl, hb3⟩
  rw [HWR.out]
  have g0 := keepC hb3 e0
  have g1 := keepC hb3 e1
  have g2 := keepC hb3 e2
  have g3 := keepC hb3 e3
  have HM3 := Lib.hid (HM2.out.keep hb3)
  have HG3 := Lib.hid (HG2.out.trans (below_grow (B := B) hb3))
  clear e0 e1 e2 e3 HM2 HG2 hb3
  have hxb : (bits .and .u16 i.c 8 != 0) = false := by rw [HC.out]; decide +kernel
  have HAL : Hid (memC i.c aluL = false) := Lib.hid (by rw [HC.out]; decide)
  have HJU : Hid (memC i.c jumpL = false) := Lib.hid (by rw [HC.out]; decide)
  have r2 := HM3.out.c2
  have rf2 := HM3.out.free 2
  have r3 := HM3.out.c3
  have r20 := HM3.out.c20
  rw [HP.out] at r20
  have rf20 := HM3.out.free 20
  have r21 := HM3.out.c21
  have rf21 := HM3.out.free 21
  go_wp2_with fail
  refine (alu_c i.c W3).mono ?_
  rintro e w' ⟨rfl, rfl⟩
  rw [HAL.out]
  go_wp2_with fail
  refine (Jump_c i.c W3).mono ?_
  rintro e w' ⟨rfl, rfl⟩
  rw [HJU.out]
  go_wp2
  refine bodyPost_ret (v := .bool false) (by simp [results, Try.results23, go_sem]) rfl ?_
  exact ⟨ret_b HTH.out.symm, ((HM3.out.setPlace _).setSteps _).cast (by simp [HP.out]), (by repeat (first | exact HG3.out | apply grow_drew | apply grow_drewN | apply grow_al | apply grow_set))⟩
set_option maxRecDepth 100000 in
set_option maxHeartbeats 2000000 in
theorem rstep_ret (B : Nat) (K : RK) (z : MV) (n : Nat) (i : I4) (hi : i.ok) (w : World) (hm : RMAt w B K z) (ht : z.through = false) (h64 : K.nd = 64) (hp : z.place = n) (hn : n < K.nq) (hnq : K.nq ≤ 281474976710656) (hst : 0 ≤ z.steps ∧ z.steps ≤ 9223372036854775806)
    (b off : Nat) (hA : K.Aq = some ⟨b, off, none⟩) (i0 : w.cell? ⟨b, off + n * 4, none⟩ = some (.int .u16 i.c)) (i1 : w.cell? ⟨b, off + n * 4 + 1, none⟩ = some (.int .u8 i.j)) (i2 : w.cell? ⟨b, off + n * 4 + 2, none⟩ = some (.int .u8 i.f)) (i3 : w.cell? ⟨b, off + n * 4 + 3, none⟩ = some (.int .u32 i.k))
    (HC : Hid (i.c = 6)) (n5 : (i.c == 5) = false) (n6 : (i.c == 6) = true) (HWR : Hid (cwrong i = 0))  : Calls Try.prog 23 #[.pointer (some ⟨B, 0, none⟩)] w (RStepPost w B K { z with through := true, ans := i.k, steps := z.steps + 1 }) := by
  obtain ⟨k0, k1⟩ : 0 ≤ i.k ∧ i.k < 4294967296 := ⟨hi.2.2.2.2.2.2.1, hi.2.2.2.2.2.2.2⟩
  obtain ⟨j0, j1, f0, f1⟩ : 0 ≤ i.j ∧ i.j < 256 ∧ 0 ≤ i.f ∧ i.f < 256 := ⟨hi.2.2.1, hi.2.2.2.1, hi.2.2.2.2.1, hi.2.2.2.2.2.1⟩
  obtain ⟨s1, s2⟩ := hst
  have c22 := hm.c22
  rw [ht] at c22
  have c1 := hm.c1
  rw [h64] at c1
  have c0 := hm.c0
  rw [hA] at c0
  have c20 := hm.c20
  rw [hp] at c20
  have hn' : (n : Int) < K.nq := by omega
  have HM := Lib.hid hm
  have HP := Lib.hid hp
  have HTH := Lib.hid ht
  have HI := Lib.hid hi
  clear hm ht h64 hA hp hi
  go_enter Try.func23, Try.ntmps23
  go_wp2
  go_quiet (fail)
  have d0 : (w.drewN nq).cell? ⟨B, 0, none⟩ = some (.slice (some ⟨b, off, none⟩) K.nq K.cq) := c0
  have d20 : (w.drewN nq).cell? ⟨B, 20, none⟩ = some (.int .i64 n) := c20
  have j0' : (w.drewN nq).cell? ⟨b, off + n * 4, none⟩ = some (.int .u16 i.c) := i0
  have j1' : (w.drewN nq).cell? ⟨b, off + n * 4 + 1, none⟩ = some (.int .u8 i.j) := i1
  have j2' : (w.drewN nq).cell? ⟨b, off + n * 4 + 2, none⟩ = some (.int .u8 i.f) := i2
  have j3' : (w.drewN nq).cell? ⟨b, off + n * 4 + 3, none⟩ = some (.int .u32 i.k) := i3
  have HM1 := Lib.hid (HM.out.drewN nq)
  have HG1 := Lib.hid (grow_drewN (World.grownBy.refl w (some B)) nq)
  clear c0 c1 c20 c22 i0 i1 i2 i3
  obtain ⟨W, hW⟩ : ∃ W, W = w.drewN nq := ⟨_, rfl⟩
  rw [← hW] at d0 d20 j0' j1' j2' j3' HM1 HG1 ⊢
  clear hW
  have hlB : B < W.heap.size := World.block_lt_of_cell? W _ d0
  have hlb : b < W.heap.size := World.block_lt_of_cell? W _ j0'
  go_wp2
  go_region
  have e0 : ((W.alloc (insnO i)).drew).cell? ⟨W.heap.size, 0, none⟩ = some (.int .u16 i.c) := by simp [go_sem, insnO]
  have e1 : ((W.alloc (insnO i)).drew).cell? ⟨W.heap.size, 1, none⟩ = some (.int .u8 i.j) := by simp [go_sem, insnO]
  have e2 : ((W.alloc (insnO i)).drew).cell? ⟨W.heap.size, 2, none⟩ = some (.int .u8 i.f) := by simp [go_sem, insnO]
  have e3 : ((W.alloc (insnO i)).drew).cell? ⟨W.heap.size, 3, none⟩ = some (.int .u32 i.k) := by simp [go_sem, insnO]
  have HM2 := Lib.hid (HM1.out.alloc (insnO i)).drew
  have HG2 := Lib.hid (grow_drew (grow_al HG1.out (insnO i)))
  clear d0 d20 j0' j1' j2' j3' HM1 HG1 HM hlB hlb
  rw [show Obj.cells #[.int .u16 i.c, .int .u8 i.j, .int .u8 i.f, .int .u32 i.k] 47 = insnO i from rfl]
  obtain ⟨H2, hH2⟩ : ∃ H2, H2 = W.heap.size := ⟨_, rfl⟩
  obtain ⟨W2, hW2⟩ : ∃ W2, W2 = (W.alloc (insnO i)).drew := ⟨_, rfl⟩
  rw [← hW2] at e0 e1 e2 e3 HM2 HG2 ⊢
  rw [← hH2] at e0 e1 e2 e3 ⊢
  clear hW2 hH2
  go_wp2_with fail
  refine (rwrong_c i HI.out W2).mono ?_
  rintro e W3 ⟨rfl, hb3⟩
  rw [HWR.out]
  have g0 := keepC hb3 e0
  have g1 := keepC hb3 e1
  have g2 := keepC hb3 e2
  have g3 := keepC hb3 e3
  have HM3 := Lib.hid (HM2.out.keep hb3)
  have HG3 := Lib.hid (HG2.out.trans (below_grow (B := B) hb3))
  clear e0 e1 e2 e3 HM2 HG2 hb3
  have hxb : (bits .and .u16 i.c 8 != 0) = false := by rw [HC.out]; decide +kernel
  have HAL : Hid (memC i.c aluL = false) := Lib.hid (by rw [HC.out]; decide)
  have HJU : Hid (memC i.c jumpL = false) := Lib.hid (by rw [HC.out]; decide)
  have r2 := HM3.out.c2
  have rf2 := HM3.out.free 2
  have r3 := HM3.out.c3
  have r20 := HM3.out.c20
  rw [HP.out] at r20
  have rf20 := HM3.out.free 20
  have r21 := HM3.out.c21
  have rf21 := HM3.out.free 21
  go_wp2_with fail
  refine (alu_c i.c W3).mono ?_
  rintro e w' ⟨rfl, rfl⟩
  rw [HAL.out]
  go_wp2_with fail
  refine (Jump_c i.c W3).mono ?_
  rintro e w' ⟨rfl, rfl⟩
  rw [HJU.out]
  go_wp2_with fail
  refine (rends_c i.k B K z ⟨s1, s2⟩ W3 HM3.out).mono ?_
  rintro e w5 ⟨rfl, hm5, hg5⟩
  have HM5 := Lib.hid hm5
  have HG5 := Lib.hid (HG3.out.trans hg5)
  clear hm5 hg5
  go_wp2
  refine bodyPost_ret (v := .bool true) (by simp [results, Try.results23, go_sem]) rfl ?_
  exact ⟨rfl, HM5.out, HG5.out⟩
set_option maxRecDepth 100000 in
set_option maxHeartbeats 2000000 in
theorem rstep_reta (B : Nat) (K : RK) (z : MV) (n : Nat) (i : I4) (hi : i.ok) (w : World) (hm : RMAt w B K z) (ht : z.through = false) (h64 : K.nd = 64) (hp : z.place = n) (hn : n < K.nq) (hnq : K.nq ≤ 281474976710656) (hst : 0 ≤ z.steps ∧ z.steps ≤ 9223372036854775806)
    (b off : Nat) (hA : K.Aq = some ⟨b, off, none⟩) (i0 : w.cell? ⟨b, off + n * 4, none⟩ = some (.int .u16 i.c)) (i1 : w.cell? ⟨b, off + n * 4 + 1, none⟩ = some (.int .u8 i.j)) (i2 : w.cell? ⟨b, off + n * 4 + 2, none⟩ = some (.int .u8 i.f)) (i3 : w.cell? ⟨b, off + n * 4 + 3, none⟩ = some (.int .u32 i.k))
    (HC : Hid (i.c = 22)) (n5 : (i.c == 5) = false) (n6 : (i.c == 6) = false) (n22 : (i.c == 22) = true) (HWR : Hid (cwrong i = 0))  : Calls Try.prog 23 #[.pointer (some ⟨B, 0, none⟩)] w (RStepPost w B K { z with through := true, ans := z.a, steps := z.steps + 1 }) := by
  obtain ⟨k0, k1⟩ : 0 ≤ i.k ∧ i.k < 4294967296 := ⟨hi.2.2.2.2.2.2.1, hi.2.2.2.2.2.2.2⟩
  obtain ⟨j0, j1, f0, f1⟩ : 0 ≤ i.j ∧ i.j < 256 ∧ 0 ≤ i.f ∧ i.f < 256 := ⟨hi.2.2.1, hi.2.2.2.1, hi.2.2.2.2.1, hi.2.2.2.2.2.1⟩
  obtain ⟨s1, s2⟩ := hst
  have c22 := hm.c22
  rw [ht] at c22
  have c1 := hm.c1
  rw [h64] at c1
  have c0 := hm.c0
  rw [hA] at c0
  have c20 := hm.c20
  rw [hp] at c20
  have hn' : (n : Int) < K.nq := by omega
  have HM := Lib.hid hm
  have HP := Lib.hid hp
  have HTH := Lib.hid ht
  have HI := Lib.hid hi
  clear hm ht h64 hA hp hi
  go_enter Try.func23, Try.ntmps23
  go_wp2
  go_quiet (fail)
  have d0 : (w.drewN nq).cell? ⟨B, 0, none⟩ = some (.slice (some ⟨b, off, none⟩) K.nq K.cq) := c0
  have d20 : (w.drewN nq).cell? ⟨B, 20, none⟩ = some (.int .i64 n) := c20
  have j0' : (w.drewN nq).cell? ⟨b, off + n * 4, none⟩ = some (.int .u16 i.c) := i0
  have j1' : (w.drewN nq).cell? ⟨b, off + n * 4 + 1, none⟩ = some (.int .u8 i.j) := i1
  have j2' : (w.drewN nq).cell? ⟨b, off + n * 4 + 2, none⟩ = some (.int .u8 i.f) := i2
  have j3' : (w.drewN nq).cell? ⟨b, off + n * 4 + 3, none⟩ = some (.int .u32 i.k) := i3
  have HM1 := Lib.hid (HM.out.drewN nq)
  have HG1 := Lib.hid (grow_drewN (World.grownBy.refl w (some B)) nq)
  clear c0 c1 c20 c22 i0 i1 i2 i3
  obtain ⟨W, hW⟩ : ∃ W, W = w.drewN nq := ⟨_, rfl⟩
  rw [← hW] at d0 d20 j0' j1' j2' j3' HM1 HG1 ⊢
  clear hW
  have hlB : B < W.heap.size := World.block_lt_of_cell? W _ d0
  have hlb : b < W.heap.size := World.block_lt_of_cell? W _ j0'
  go_wp2
  go_region
  have e0 : ((W.alloc (insnO i)).drew).cell? ⟨W.heap.size, 0, none⟩ = some (.int .u16 i.c) := by simp [go_sem, insnO]
  have e1 : ((W.alloc (insnO i)).drew).cell? ⟨W.heap.size, 1, none⟩ = some (.int .u8 i.j) := by simp [go_sem, insnO]
  have e2 : ((W.alloc (insnO i)).drew).cell? ⟨W.heap.size, 2, none⟩ = some (.int .u8 i.f) := by simp [go_sem, insnO]
  have e3 : ((W.alloc (insnO i)).drew).cell? ⟨W.heap.size, 3, none⟩ = some (.int .u32 i.k) := by simp [go_sem, insnO]
  have HM2 := Lib.hid (HM1.out.alloc (insnO i)).drew
  have HG2 := Lib.hid (grow_drew (grow_al HG1.out (insnO i)))
  clear d0 d20 j0' j1' j2' j3' HM1 HG1 HM hlB hlb
  rw [show Obj.cells #[.int .u16 i.c, .int .u8 i.j, .int .u8 i.f, .int .u32 i.k] 47 = insnO i from rfl]
  obtain ⟨H2, hH2⟩ : ∃ H2, H2 = W.heap.size := ⟨_, rfl⟩
  obtain ⟨W2, hW2⟩ : ∃ W2, W2 = (W.alloc (insnO i)).drew := ⟨_, rfl⟩
  rw [← hW2] at e0 e1 e2 e3 HM2 HG2 ⊢
  rw [← hH2] at e0 e1 e2 e3 ⊢
  clear hW2 hH2
  go_wp2_with fail
  refine (rwrong_c i HI.out W2).mono ?_
  rintro e W3 ⟨rfl, hb3⟩
  rw [HWR.out]
  have g0 := keepC hb3 e0
  have g1 := keepC hb3 e1
  have g2 := keepC hb3 e2
  have g3 := keepC hb3 e3
  have HM3 := Lib.hid (HM2.out.keep hb3)
  have HG3 := Lib.hid (HG2.out.trans (below_grow (B := B) hb3))
  clear e0 e1 e2 e3 HM2 HG2 hb3
  have hxb : (bits .and .u16 i.c 8 != 0) = false := by rw [HC.out]; decide +kernel
  have HAL : Hid (memC i.c aluL = false) := Lib.hid (by rw [HC.out]; decide)
  have HJU : Hid (memC i.c jumpL = false) := Lib.hid (by rw [HC.out]; decide)
  have r2 := HM3.out.c2
  have rf2 := HM3.out.free 2
  have r3 := HM3.out.c3
  have r20 := HM3.out.c20
  rw [HP.out] at r20
  have rf20 := HM3.out.free 20
  have r21 := HM3.out.c21
  have rf21 := HM3.out.free 21
  go_wp2_with fail
  refine (alu_c i.c W3).mono ?_
  rintro e w' ⟨rfl, rfl⟩
  rw [HAL.out]
  go_wp2_with fail
  refine (Jump_c i.c W3).mono ?_
  rintro e w' ⟨rfl, rfl⟩
  rw [HJU.out]
  go_wp2_with fail
  refine (rends_c z.a B K z ⟨s1, s2⟩ W3 HM3.out).mono ?_
  rintro e w5 ⟨rfl, hm5, hg5⟩
  have HM5 := Lib.hid hm5
  have HG5 := Lib.hid (HG3.out.trans hg5)
  clear hm5 hg5
  go_wp2
  refine bodyPost_ret (v := .bool true) (by simp [results, Try.results23, go_sem]) rfl ?_
  exact ⟨rfl, HM5.out, HG5.out⟩
set_option maxRecDepth 100000 in
set_option maxHeartbeats 2000000 in
theorem rstep_moves (B : Nat) (K : RK) (z : MV) (n : Nat) (i : I4) (hi : i.ok) (w : World) (hm : RMAt w B K z) (ht : z.through = false) (h64 : K.nd = 64) (hp : z.place = n) (hn : n < K.nq) (hnq : K.nq ≤ 281474976710656) (hst : 0 ≤ z.steps ∧ z.steps ≤ 9223372036854775806)
    (b off : Nat) (hA : K.Aq = some ⟨b, off, none⟩) (i0 : w.cell? ⟨b, off + n * 4, none⟩ = some (.int .u16 i.c)) (i1 : w.cell? ⟨b, off + n * 4 + 1, none⟩ = some (.int .u8 i.j)) (i2 : w.cell? ⟨b, off + n * 4 + 2, none⟩ = some (.int .u8 i.f)) (i3 : w.cell? ⟨b, off + n * 4 + 3, none⟩ = some (.int .u32 i.k))
    (HWR : Hid (cwrong i = 0)) (HAL : Hid (memC i.c aluL = false)) (HJU : Hid (memC i.c jumpL = false)) (hxb : (bits .and .u16 i.c 8 != 0) = false) (n5 : (i.c == 5) = false) (n6 : (i.c == 6) = false) (n22 : (i.c == 22) = false) (z' : MV) (hz' : z'.place = n ∧ z'.steps = z.steps ∧ z'.through = false) (HT : Hid (∀ W, RMAt W B K z → w.grownBy W (some B) → Calls Try.prog 50 #[.pointer (some ⟨B, 0, none⟩), .agg #[.int .u16 i.c, .int .u8 i.j, .int .u8 i.f, .int .u32 i.k]] W fun e w' => e = .returned (.tuple #[]) ∧ RMAt w' B K z' ∧ W.grownBy w' (some B))) : Calls Try.prog 23 #[.pointer (some ⟨B, 0, none⟩)] w (RStepPost w B K { z' with place := z'.place + 1, steps := z'.steps + 1 }) := by
  obtain ⟨k0, k1⟩ : 0 ≤ i.k ∧ i.k < 4294967296 := ⟨hi.2.2.2.2.2.2.1, hi.2.2.2.2.2.2.2⟩
  obtain ⟨j0, j1, f0, f1⟩ : 0 ≤ i.j ∧ i.j < 256 ∧ 0 ≤ i.f ∧ i.f < 256 := ⟨hi.2.2.1, hi.2.2.2.1, hi.2.2.2.2.1, hi.2.2.2.2.2.1⟩
  obtain ⟨s1, s2⟩ := hst
  have c22 := hm.c22
  rw [ht] at c22
  have c1 := hm.c1
  rw [h64] at c1
  have c0 := hm.c0
  rw [hA] at c0
  have c20 := hm.c20
  rw [hp] at c20
  have hn' : (n : Int) < K.nq := by omega
  have HM := Lib.hid hm
  have HP := Lib.hid hp
  have HTH := Lib.hid ht
  have HI := Lib.hid hi
  clear hm ht h64 hA hp hi
  go_enter Try.func23, Try.ntmps23
  go_wp2
  go_quiet (fail)
  have d0 : (w.drewN nq).cell? ⟨B, 0, none⟩ = some (.slice (some ⟨b, off, none⟩) K.nq K.cq) := c0
  have d20 : (w.drewN nq).cell? ⟨B, 20, none⟩ = some (.int .i64 n) := c20
  have j0' : (w.drewN nq).cell? ⟨b, off + n * 4, none⟩ = some (.int .u16 i.c) := i0
  have j1' : (w.drewN nq).cell? ⟨b, off + n * 4 + 1, none⟩ = some (.int .u8 i.j) := i1
  have j2' : (w.drewN nq).cell? ⟨b, off + n * 4 + 2, none⟩ = some (.int .u8 i.f) := i2
  have j3' : (w.drewN nq).cell? ⟨b, off + n * 4 + 3, none⟩ = some (.int .u32 i.k) := i3
  have HM1 := Lib.hid (HM.out.drewN nq)
  have HG1 := Lib.hid (grow_drewN (World.grownBy.refl w (some B)) nq)
  clear c0 c1 c20 c22 i0 i1 i2 i3
  obtain ⟨W, hW⟩ : ∃ W, W = w.drewN nq := ⟨_, rfl⟩
  rw [← hW] at d0 d20 j0' j1' j2' j3' HM1 HG1 ⊢
  clear hW
  have hlB : B < W.heap.size := World.block_lt_of_cell? W _ d0
  have hlb : b < W.heap.size := World.block_lt_of_cell? W _ j0'
  go_wp2
  go_region
  have e0 : ((W.alloc (insnO i)).drew).cell? ⟨W.heap.size, 0, none⟩ = some (.int .u16 i.c) := by simp [go_sem, insnO]
  have e1 : ((W.alloc (insnO i)).drew).cell? ⟨W.heap.size, 1, none⟩ = some (.int .u8 i.j) := by simp [go_sem, insnO]
  have e2 : ((W.alloc (insnO i)).drew).cell? ⟨W.heap.size, 2, none⟩ = some (.int .u8 i.f) := by simp [go_sem, insnO]
  have e3 : ((W.alloc (insnO i)).drew).cell? ⟨W.heap.size, 3, none⟩ = some (.int .u32 i.k) := by simp [go_sem, insnO]
  have HM2 := Lib.hid (HM1.out.alloc (insnO i)).drew
  have HG2 := Lib.hid (grow_drew (grow_al HG1.out (insnO i)))
  clear d0 d20 j0' j1' j2' j3' HM1 HG1 HM hlB hlb
  rw [show Obj.cells #[.int .u16 i.c, .int .u8 i.j, .int .u8 i.f, .int .u32 i.k] 47 = insnO i from rfl]
  obtain ⟨H2, hH2⟩ : ∃ H2, H2 = W.heap.size := ⟨_, rfl⟩
  obtain ⟨W2, hW2⟩ : ∃ W2, W2 = (W.alloc (insnO i)).drew := ⟨_, rfl⟩
  rw [← hW2] at e0 e1 e2 e3 HM2 HG2 ⊢
  rw [← hH2] at e0 e1 e2 e3 ⊢
  clear hW2 hH2
  go_wp2_with fail
  refine (rwrong_c i HI.out W2).mono ?_
  rintro e W3 ⟨rfl, hb3⟩
  rw [HWR.out]
  have g0 := keepC hb3 e0
  have g1 := keepC hb3 e1
  have g2 := keepC hb3 e2
  have g3 := keepC hb3 e3
  have HM3 := Lib.hid (HM2.out.keep hb3)
  have HG3 := Lib.hid (HG2.out.trans (below_grow (B := B) hb3))
  clear e0 e1 e2 e3 HM2 HG2 hb3
  have HZ := Lib.hid hz'
  clear hz'
  have r2 := HM3.out.c2
  have rf2 := HM3.out.free 2
  have r3 := HM3.out.c3
  have r20 := HM3.out.c20
  rw [HP.out] at r20
  have rf20 := HM3.out.free 20
  have r21 := HM3.out.c21
  have rf21 := HM3.out.free 21
  go_wp2_with fail
  refine (alu_c i.c W3).mono ?_
  rintro e w' ⟨rfl, rfl⟩
  rw [HAL.out]
  go_wp2_with fail
  refine (Jump_c i.c W3).mono ?_
  rintro e w' ⟨rfl, rfl⟩
  rw [HJU.out]
  go_wp2_with fail
  refine (HT.out W3 HM3.out HG3.out).mono ?_
  rintro e W5 ⟨rfl, hm5, hg5⟩
  have HM5 := Lib.hid hm5
  have HG5 := Lib.hid (HG3.out.trans hg5)
  have q20 := HM5.out.c20
  rw [HZ.out.1] at q20
  have qf20 := HM5.out.free 20
  have q21 := HM5.out.c21
  rw [HZ.out.2.1] at q21
  have qf21 := HM5.out.free 21
  clear hm5 hg5 r2 rf2 r3 r20 rf20 r21 rf21 g0 g1 g2 g3 HM3 HG3
  go_wp2
  refine bodyPost_ret (v := .bool false) (by simp [results, Try.results23, go_sem]) rfl ?_
  exact ⟨ret_b HZ.out.2.2.symm, ((HM5.out.setPlace _).setSteps _).cast (by simp [HZ.out.1, HZ.out.2.1]), (by repeat (first | exact HG5.out | apply grow_drew | apply grow_drewN | apply grow_al | apply grow_set))⟩
end Go.Proofs.Ytehpoamideeehaa
