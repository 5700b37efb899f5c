import Derived.Test.YtfpemoellglknaaCbpfM2
import Derived.Test.YtfpemoellglknaaCbpfM3
import Derived.Test.YtfpemoellglknaaCbpfM4
import Derived.Shelf.Abstract
set_option linter.unusedVariables false
set_option linter.unusedSimpArgs false
set_option maxRecDepth 100000
namespace Go.Proofs.Ytfpemoellglknaa
open Go.RowKit Go.Shelf
/-! A step of package cbpf's machine. -/
def StepPost (w : World) (B : Nat) (K : MK) (z : MV) (e : Ending) (w' : World) : Prop := e = .returned (.bool z.through) ∧ MachAt w' B K z ∧ w.grownBy w' (some B)
theorem enters_fn {f : FuncId} {fn : Func} {c : Code} (hf : Try.prog.funcs[f]? = some fn) (hn : (fn.name == "runtime.NumGoroutine") = false) (hb : fn.body = some c) : ∀ args w, (callFunc f args).run Try.prog w = .ok (.enter f args) w := enters_of hf hn hb
theorem step_done (B : Nat) (K : MK) (z : MV) (w : World) (hm : MachAt w B K z) (ht : z.through = true) : Calls Try.prog 29 #[.pointer (some ⟨B, 0, none⟩)] w (StepPost w B K z) := by
  have c22 := hm.c22
  rw [ht] at c22
  have HM := Lib.hid hm
  have HT := Lib.hid ht
  clear hm ht
  go_enter Try.func29, Try.ntmps29
  go_wp2
  go_ret
  exact ⟨ret_b HT.out.symm, HM.out, World.grownBy.refl _ _⟩
theorem step_len (B : Nat) (K : MK) (z : MV) (w : World) (hm : MachAt w B K z) (ht : z.through = false) (h64 : K.nd ≠ 64) : Calls Try.prog 29 #[.pointer (some ⟨B, 0, none⟩)] w (StepPost w B K { z with through := true, err := 21 }) := by
  have c22 := hm.c22
  rw [ht] at c22
  have c1 := hm.c1
  have hne : ((K.nd : Int) != 64) = true := by simp; omega
  have HM := Lib.hid hm
  clear hm ht h64
  go_enter Try.func29, Try.ntmps29
  go_wp2_with fail
  refine (cfails_c 21 B K z w HM.out).mono ?_
  rintro e w1 ⟨rfl, hm1, hg1⟩
  have HM1 := Lib.hid hm1
  have HG1 := Lib.hid hg1
  clear hm1 hg1
  go_wp2
  go_ret
  exact ⟨rfl, HM1.out, HG1.out⟩
theorem step_end (B : Nat) (K : MK) (z : MV) (w : World) (hm : MachAt w B K z) (ht : z.through = false) (h64 : K.nd = 64) (hp : (K.nq : Int) ≤ z.place) : Calls Try.prog 29 #[.pointer (some ⟨B, 0, none⟩)] w (StepPost w B K { z with through := true, err := 33 }) := by
  have c22 := hm.c22
  rw [ht] at c22
  have c1 := hm.c1
  rw [h64] at c1
  have c0 := hm.c0
  have c20 := hm.c20
  have HM := Lib.hid hm
  clear hm ht h64
  go_enter Try.func29, Try.ntmps29
  go_wp2
  go_quiet (fail)
  go_wp2_with fail
  refine (cfails_c 33 B K z _ (HM.out.drewN _)).mono ?_
  rintro e w1 ⟨rfl, hm1, hg1⟩
  have HM1 := Lib.hid hm1
  have HG1 := Lib.hid ((grow_drewN (World.grownBy.refl w (some B)) nq).trans hg1)
  clear hm1 hg1
  go_wp2
  go_ret
  exact ⟨rfl, HM1.out, HG1.out⟩
def GoPost (w : World) (B : Nat) (K : MK) (z' : MV) (e' : Int) (e : Ending) (w' : World) : Prop := (e' ≠ 0 → StepPost w B K { z' with through := true, err := e' } e w') ∧ (e' = 0 → StepPost w B K { z' with place := z'.place + 1, steps := z'.steps + 1 } e w')
set_option maxHeartbeats 1000000 in
theorem step_go (B : Nat) (K : MK) (z z' : MV) (e' : Int) (f : Nat) (n : Nat) (i : I4) (w : World) (hm : MachAt w B K z) (ht : z.through = false) (h64 : K.nd = 64) (hp : z.place = n) (hn : n < K.nq) (hpl : -1 ≤ z'.place ∧ z'.place ≤ 9223372036854775806) (hst : 0 ≤ z'.steps ∧ z'.steps ≤ 9223372036854775806)
    (b off : Nat) (hA : K.Aq = some ⟨b, off, none⟩) (i0 : w.cell? ⟨b, off + n * 4, none⟩ = some (.int .u16 i.c)) (i1 : w.cell? ⟨b, off + n * 4 + 1, none⟩ = some (.int .u8 i.j)) (i2 : w.cell? ⟨b, off + n * 4 + 2, none⟩ = some (.int .u8 i.f)) (i3 : w.cell? ⟨b, off + n * 4 + 3, none⟩ = some (.int .u32 i.k))
    (HE : ∀ args w, (callFunc f args).run Try.prog w = .ok (.enter f args) w)
    (HLK : Hid (∀ W, w.grownBy W (some B) → (Instr.lookup 103 (.map (some K.mb)) (.int .u16 i.c) true).run Try.prog W = .ok (.tuple #[.func (.func f) #[] #[], .bool true]) W))
    (HF : Hid (∀ W, MachAt W B K z → w.grownBy W (some B) → Calls Try.prog f #[.pointer (some ⟨B, 0, none⟩), .agg #[.int .u16 i.c, .int .u8 i.j, .int .u8 i.f, .int .u32 i.k]] W (MPost W B K z' e'))) : Calls Try.prog 29 #[.pointer (some ⟨B, 0, none⟩)] w (GoPost w B K z' e') := by
  have c22 := hm.c22
  rw [ht] at c22
  have c1 := hm.c1
  rw [h64] at c1
  have c0 := hm.c0
  rw [hA] at c0
  have c20 := hm.c20
  rw [hp] at c20
  have c25 := hm.c25
  have hn' : (n : Int) < K.nq := by omega
  have HM := Lib.hid hm
  obtain ⟨p1, p2⟩ := hpl
  obtain ⟨s1, s2⟩ := hst
  clear hm ht h64 hA hp
  go_enter Try.func29, Try.ntmps29
  go_wp2
  go_quiet (fail)
  have d25 : (w.drewN nq).cell? ⟨B, 25, none⟩ = some (.map (some K.mb)) := c25
  have d0 : (w.drewN nq).cell? ⟨B, 0, none⟩ = some (.slice (some ⟨b, off, none⟩) K.nq K.cq) := c0
  have d20 : (w.drewN nq).cell? ⟨B, 20, none⟩ = some (.int .i64 n) := c20
  have j0 : (w.drewN nq).cell? ⟨b, off + n * 4, none⟩ = some (.int .u16 i.c) := i0
  have j1 : (w.drewN nq).cell? ⟨b, off + n * 4 + 1, none⟩ = some (.int .u8 i.j) := i1
  have j2 : (w.drewN nq).cell? ⟨b, off + n * 4 + 2, none⟩ = some (.int .u8 i.f) := i2
  have j3 : (w.drewN nq).cell? ⟨b, off + n * 4 + 3, none⟩ = some (.int .u32 i.k) := i3
  have HM1 := Lib.hid (HM.out.drewN nq)
  have HG1 := Lib.hid (grow_drewN (World.grownBy.refl w (some B)) nq)
  clear c0 c1 c20 c22 c25 i0 i1 i2 i3
  obtain ⟨W, hW⟩ : ∃ W, W = w.drewN nq := ⟨_, rfl⟩
  rw [← hW] at d25 d0 d20 j0 j1 j2 j3 HM1 HG1 ⊢
  clear hW
  have hlB : B < W.heap.size := World.block_lt_of_cell? W _ d0
  have hlb : b < W.heap.size := World.block_lt_of_cell? W _ j0
  go_wp2
  go_region
  go_wp2
  have e25 : ((W.alloc (insnO i)).drew).cell? ⟨B, 25, none⟩ = some (.map (some K.mb)) := keepC (below1 W _) d25
  have e0 : ((W.alloc (insnO i)).drew).cell? ⟨W.heap.size, 0, none⟩ = some (.int .u16 i.c) := by simp [go_sem, insnO]
  have e1 : ((W.alloc (insnO i)).drew).cell? ⟨W.heap.size, 1, none⟩ = some (.int .u8 i.j) := by simp [go_sem, insnO]
  have e2 : ((W.alloc (insnO i)).drew).cell? ⟨W.heap.size, 2, none⟩ = some (.int .u8 i.f) := by simp [go_sem, insnO]
  have e3 : ((W.alloc (insnO i)).drew).cell? ⟨W.heap.size, 3, none⟩ = some (.int .u32 i.k) := by simp [go_sem, insnO]
  have HM2 := Lib.hid (HM1.out.alloc (insnO i)).drew
  have HG2 := Lib.hid (grow_drew (grow_al HG1.out (insnO i)))
  have hlk := fun m => HLK.out (((W.alloc (insnO i)).drew).drewN m) (grow_drewN HG2.out m)
  clear d25 d0 d20 j0 j1 j2 j3 HM1 HG1 HM
  change Code.wp Try.prog _ _ _ ((W.alloc (insnO i)).drew)
  obtain ⟨H2, hH2⟩ : ∃ H2, H2 = W.heap.size := ⟨_, rfl⟩
  obtain ⟨W2, hW2⟩ : ∃ W2, W2 = (W.alloc (insnO i)).drew := ⟨_, rfl⟩
  rw [← hW2] at e25 e0 e1 e2 e3 HM2 HG2 hlk ⊢
  rw [← hH2] at e0 e1 e2 e3 ⊢
  clear hW2 hH2 hlB hlb
  go_wp2
  go_quiet (fail)
  have g0 : (W2.drewN nq).cell? ⟨H2, 0, none⟩ = some (.int .u16 i.c) := e0
  have g1 : (W2.drewN nq).cell? ⟨H2, 1, none⟩ = some (.int .u8 i.j) := e1
  have g2 : (W2.drewN nq).cell? ⟨H2, 2, none⟩ = some (.int .u8 i.f) := e2
  have g3 : (W2.drewN nq).cell? ⟨H2, 3, none⟩ = some (.int .u32 i.k) := e3
  have HM3 := Lib.hid (HM2.out.drewN nq)
  have HG3 := Lib.hid (grow_drewN HG2.out nq)
  clear e0 e1 e2 e3 e25 HM2 HG2 hlk HLK
  obtain ⟨W3, hW3⟩ : ∃ W3, W3 = W2.drewN nq := ⟨_, rfl⟩
  rw [← hW3] at g0 g1 g2 g3 HM3 HG3 ⊢
  clear hW3
  go_wp2_with fail
  refine (HF.out W3 HM3.out HG3.out).mono ?_
  rintro e w4 ⟨rfl, hm4, hg4⟩
  have hgg := HG3.out.trans hg4
  have HM4 := Lib.hid hm4
  have HG4 := Lib.hid hgg
  clear hm4 hg4 hgg HF HE HG3 HM3 g0 g1 g2 g3
  by_cases he : e' = 0
  · subst he
    have c20 := HM4.out.c20
    have f20 := HM4.out.free 20
    have c21 := HM4.out.c21
    have f21 := HM4.out.free 21
    have c22 := HM4.out.c22
    go_wp2
    go_ret
    refine ⟨fun h => absurd rfl h, fun _ => ⟨rfl, (HM4.out.setPlace _).setSteps _, by repeat (first | exact HG4.out | apply grow_drew | apply grow_al | apply grow_set)⟩⟩
  · have he' : (e' != 0) = true := by simpa using he
    have HN := Lib.hid he
    clear he
    go_wp2_with fail
    refine (cfails_c e' B K z' w4 HM4.out).mono ?_
    rintro e w5 ⟨rfl, hm5, hg5⟩
    have HM5 := Lib.hid hm5
    have HG5 := Lib.hid (HG4.out.trans hg5)
    clear hm5 hg5
    go_wp2
    go_ret
    exact ⟨fun _ => ⟨rfl, HM5.out, HG5.out⟩, fun h => absurd h HN.out⟩
set_option maxHeartbeats 1000000 in
theorem step_code (B : Nat) (K : MK) (z : MV) (n : Nat) (i : I4) (w : World) (hm : MachAt w B K z) (ht : z.through = false) (h64 : K.nd = 64) (hp : z.place = n) (hn : n < K.nq)
    (b off : Nat) (hA : K.Aq = some ⟨b, off, none⟩) (i0 : w.cell? ⟨b, off + n * 4, none⟩ = some (.int .u16 i.c)) (i1 : w.cell? ⟨b, off + n * 4 + 1, none⟩ = some (.int .u8 i.j)) (i2 : w.cell? ⟨b, off + n * 4 + 2, none⟩ = some (.int .u8 i.f)) (i3 : w.cell? ⟨b, off + n * 4 + 3, none⟩ = some (.int .u32 i.k))
    (HLK : Hid (∀ W, w.grownBy W (some B) → (Instr.lookup 103 (.map (some K.mb)) (.int .u16 i.c) true).run Try.prog W = .ok (.tuple #[.nilFunc, .bool false]) W)) : Calls Try.prog 29 #[.pointer (some ⟨B, 0, none⟩)] w (StepPost w B K { z with through := true, err := 32 }) := by
  have c22 := hm.c22
  rw [ht] at c22
  have c1 := hm.c1
  rw [h64] at c1
  have c0 := hm.c0
  rw [hA] at c0
  have c20 := hm.c20
  rw [hp] at c20
  have c25 := hm.c25
  have hn' : (n : Int) < K.nq := by omega
  have HM := Lib.hid hm
  clear hm ht h64 hA hp
  go_enter Try.func29, Try.ntmps29
  go_wp2
  go_quiet (fail)
  have d25 : (w.drewN nq).cell? ⟨B, 25, none⟩ = some (.map (some K.mb)) := c25
  have d0 : (w.drewN nq).cell? ⟨B, 0, none⟩ = some (.slice (some ⟨b, off, none⟩) K.nq K.cq) := c0
  have d20 : (w.drewN nq).cell? ⟨B, 20, none⟩ = some (.int .i64 n) := c20
  have j0 : (w.drewN nq).cell? ⟨b, off + n * 4, none⟩ = some (.int .u16 i.c) := i0
  have j1 : (w.drewN nq).cell? ⟨b, off + n * 4 + 1, none⟩ = some (.int .u8 i.j) := i1
  have j2 : (w.drewN nq).cell? ⟨b, off + n * 4 + 2, none⟩ = some (.int .u8 i.f) := i2
  have j3 : (w.drewN nq).cell? ⟨b, off + n * 4 + 3, none⟩ = some (.int .u32 i.k) := i3
  have HM1 := Lib.hid (HM.out.drewN nq)
  have HG1 := Lib.hid (grow_drewN (World.grownBy.refl w (some B)) nq)
  clear c0 c1 c20 c22 c25 i0 i1 i2 i3
  obtain ⟨W, hW⟩ : ∃ W, W = w.drewN nq := ⟨_, rfl⟩
  rw [← hW] at d25 d0 d20 j0 j1 j2 j3 HM1 HG1 ⊢
  clear hW
  have hlB : B < W.heap.size := World.block_lt_of_cell? W _ d0
  have hlb : b < W.heap.size := World.block_lt_of_cell? W _ j0
  go_wp2
  go_region
  go_wp2
  have e25 : ((W.alloc (insnO i)).drew).cell? ⟨B, 25, none⟩ = some (.map (some K.mb)) := keepC (below1 W _) d25
  have e0 : ((W.alloc (insnO i)).drew).cell? ⟨W.heap.size, 0, none⟩ = some (.int .u16 i.c) := by simp [go_sem, insnO]
  have e1 : ((W.alloc (insnO i)).drew).cell? ⟨W.heap.size, 1, none⟩ = some (.int .u8 i.j) := by simp [go_sem, insnO]
  have e2 : ((W.alloc (insnO i)).drew).cell? ⟨W.heap.size, 2, none⟩ = some (.int .u8 i.f) := by simp [go_sem, insnO]
  have e3 : ((W.alloc (insnO i)).drew).cell? ⟨W.heap.size, 3, none⟩ = some (.int .u32 i.k) := by simp [go_sem, insnO]
  have HM2 := Lib.hid (HM1.out.alloc (insnO i)).drew
  have HG2 := Lib.hid (grow_drew (grow_al HG1.out (insnO i)))
  have hlk := fun m => HLK.out (((W.alloc (insnO i)).drew).drewN m) (grow_drewN HG2.out m)
  clear d25 d0 d20 j0 j1 j2 j3 HM1 HG1 HM
  change Code.wp Try.prog _ _ _ ((W.alloc (insnO i)).drew)
  obtain ⟨H2, hH2⟩ : ∃ H2, H2 = W.heap.size := ⟨_, rfl⟩
  obtain ⟨W2, hW2⟩ : ∃ W2, W2 = (W.alloc (insnO i)).drew := ⟨_, rfl⟩
  rw [← hW2] at e25 e0 e1 e2 e3 HM2 HG2 hlk ⊢
  rw [← hH2] at e0 e1 e2 e3 ⊢
  clear hW2 hH2 hlB hlb
  go_wp2
  go_quiet (fail)
  have g0 : (W2.drewN nq).cell? ⟨H2, 0, none⟩ = some (.int .u16 i.c) := e0
  have g1 : (W2.drewN nq).cell? ⟨H2, 1, none⟩ = some (.int .u8 i.j) := e1
  have g2 : (W2.drewN nq).cell? ⟨H2, 2, none⟩ = some (.int .u8 i.f) := e2
  have g3 : (W2.drewN nq).cell? ⟨H2, 3, none⟩ = some (.int .u32 i.k) := e3
  have HM3 := Lib.hid (HM2.out.drewN nq)
  have HG3 := Lib.hid (grow_drewN HG2.out nq)
  clear e0 e1 e2 e3 e25 HM2 HG2 hlk HLK
  obtain ⟨W3, hW3⟩ : ∃ W3, W3 = W2.drewN nq := ⟨_, rfl⟩
  rw [← hW3] at g0 g1 g2 g3 HM3 HG3 ⊢
  clear hW3
  go_wp2_with fail
  refine (cfails_c 32 B K z W3 HM3.out).mono ?_
  rintro e w5 ⟨rfl, hm5, hg5⟩
  have HM5 := Lib.hid hm5
  have HG5 := Lib.hid (HG3.out.trans hg5)
  clear hm5 hg5
  go_wp2
  go_ret
  exact ⟨rfl, HM5.out, HG5.out⟩
end Go.Proofs.Ytfpemoellglknaa
