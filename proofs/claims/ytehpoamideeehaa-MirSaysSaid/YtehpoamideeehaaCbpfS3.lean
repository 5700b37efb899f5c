import Derived.Test.YtehpoamideeehaaCbpfM2
import Derived.Test.YtehpoamideeehaaCbpfM3
import Derived.Test.YtehpoamideeehaaCbpfM4
import Derived.Shelf.Abstract
import Derived.WalkSpells
set_option linter.unusedVariables false
set_option linter.unusedSimpArgs false
set_option maxRecDepth 100000
namespace Go.Proofs.Ytehpoamideeehaa
open Go.RowKit Go.Shelf
/-! A step of package cbpf's machine. -/
def StepPost (w : World) (B : Nat) (K : MK) (z : MV) (e : Ending) (w' : World) : Prop := e = .returned (.bool z.through) ∧ MachAt w' B K z ∧ w.grownBy w' (some B)
theorem enters_fn {f : FuncId} {fn : Func} {c : Code} (hf : Try.prog.funcs[f]? = some fn) (hn : (fn.name == "runtime.NumGoroutine") = false) (hb : fn.body = some c) : ∀ args w, (callFunc f args).run Try.prog w = .ok (.enter f args) w := enters_of hf hn hb
theorem step_done (B : Nat) (K : MK) (z : MV) (w : World) (hm : MachAt w B K z) (ht : z.through = true) : Calls Try.prog 31 #[.pointer (some ⟨B, 0, none⟩)] w (StepPost w B K z) := by
  have c22 := hm.c22
  rw [ht] at c22
  have HM := Lib.hid hm
  have HT := Lib.hid ht
  clear hm ht
  go_enter Try.func31, Try.ntmps31
  go_wp2
  go_ret
  exact ⟨ret_b HT.out.symm, HM.out, World.grownBy.refl _ _⟩
theorem step_len (B : Nat) (K : MK) (z : MV) (w : World) (hm : MachAt w B K z) (ht : z.through = false) (h64 : K.nd ≠ 64) : Calls Try.prog 31 #[.pointer (some ⟨B, 0, none⟩)] w (StepPost w B K { z with through := true, err := 21 }) := by
  have c22 := hm.c22
  rw [ht] at c22
  have c1 := hm.c1
  have hne : ((K.nd : Int) != 64) = true := by simp; omega
  have HM := Lib.hid hm
  clear hm ht h64
  go_enter Try.func31, Try.ntmps31
  go_wp2_with fail
  refine (cfails_c 21 B K z w HM.out).mono ?_
  rintro e w1 ⟨rfl, hm1, hg1⟩
  have HM1 := Lib.hid hm1
  have HG1 := Lib.hid hg1
  clear hm1 hg1
  go_wp2
  go_ret
  exact ⟨rfl, HM1.out, HG1.out⟩
theorem step_end (B : Nat) (K : MK) (z : MV) (w : World) (hm : MachAt w B K z) (ht : z.through = false) (h64 : K.nd = 64) (hp : (K.nq : Int) ≤ z.place) : Calls Try.prog 31 #[.pointer (some ⟨B, 0, none⟩)] w (StepPost w B K { z with through := true, err := 33 }) := by
  have c22 := hm.c22
  rw [ht] at c22
  have c1 := hm.c1
  rw [h64] at c1
  have c0 := hm.c0
  have c20 := hm.c20
  have HM := Lib.hid hm
  clear hm ht h64
  go_enter Try.func31, Try.ntmps31
  go_wp2
  go_quiet (fail)
  go_wp2_with fail
  refine (cfails_c 33 B K z _ (HM.out.drewN _)).mono ?_
  rintro e w1 ⟨rfl, hm1, hg1⟩
  have HM1 := Lib.hid hm1
  have HG1 := Lib.hid ((grow_drewN (World.grownBy.refl w (some B)) nq).trans hg1)
  clear hm1 hg1
  go_wp2
  go_ret
  exact ⟨rfl, HM1.out, HG1.out⟩
def GoPost (w : World) (B : Nat) (K : MK) (z' : MV) (e' : Int) (e : Ending) (w' : World) : Prop := (e' ≠ 0 → StepPost w B K { z' with through := true, err := e' } e w') ∧ (e' = 0 → StepPost w B K { z' with place := z'.place + 1, steps := z'.steps + 1 } e w')
set_option maxHeartbeats 1000000 in
theorem step_go (B : Nat) (K : MK) (z z' : MV) (e' : Int) (f : Nat) (n : Nat) (i : I4) (w : World) (hm : MachAt w B K z) (ht : z.through = false) (h64 : K.nd = 64) (hp : z.place = n) (hn : n < K.nq) (hpl : -1 ≤ z'.place ∧ z'.place ≤ 9223372036854775806) (hst : 0 ≤ z'.steps ∧ z'.steps ≤ 9223372036854775806)
    (b off : Nat) (hA : K.Aq = some ⟨b, off, none⟩) (i0 : w.cell? ⟨b, off + n * 4, none⟩ = some (.int .u16 i.c)) (i1 : w.cell? ⟨b, off + n * 4 + 1, none⟩ = some (.int .u8 i.j)) (i2 : w.cell? ⟨b, off + n * 4 + 2, none⟩ = some (.int .u8 i.f)) (i3 : w.cell? ⟨b, off + n * 4 + 3, none⟩ = some (.int .u32 i.k))
    (HE : ∀ args w, (callFunc f args).run Try.prog w = .ok (.enter f args) w)
    (HLK : Hid (∀ W, w.grownBy W (some B) → (Instr.lookup 105 (.map (some K.mb)) (.int .u16 i.c) true).run Try.prog W = .ok (.tuple #[.func (.func f) #[] #[], .bool true]) W))
    (HF : Hid (∀ W, MachAt W B K z → w.grownBy W (some B) → Calls Try.prog f #[.pointer (some ⟨B, 0, none⟩), .agg #[.int .u16 i.c, .int .u8 i.j, .int .u8 i.f, .int .u32 i.k]] W (MPost W B K z' e'))) : Calls Try.prog 31 #[.pointer (some ⟨B, 0, none⟩)] w (GoPost w B K z' e') := by
  have c22 := hm.c22
  rw [ht] at c22
  have c1 := hm.c1
  rw [h64] at c1
  have c0 := hm.c0
  rw [hA] at c0
  have c20 := hm.c20
  rw [hp] at c20
  have c25 := hm.c25
  have hn' : (n : Int) < K.nq := by omega
  have HM := Lib.hid hm
  obtain ⟨p1, p2⟩ := hpl
  obtain ⟨s1, s2⟩ := hst
  clear hm ht h64 hA hp
  go_enter Try.func31, Try.ntmps31
  go_wp2
  go_quiet (fail)
  have d25 : (w.drewN nq).cell? ⟨B, 25, none⟩ = some (.map (some K.mb)) := c25
  have d0 : (w.drewN nq).cell? ⟨B, 0, none⟩ = some (.slice (some ⟨b, off, none⟩) K.nq K.cq) := c0
  have d20 : (w.drewN nq).cell? ⟨B, 20, none⟩ = some (.int .i64 n) := c20
  have j0 : (w.drewN nq).cell? ⟨b, off + n * 4, none⟩ = some (.int .u16 i.c) := i0
  have j1 : (w.drewN nq).cell? ⟨b, off + n * 4 + 1, none⟩ = some (.int .u8 i.j) := i1
  have j2 : (w.drewN nq).cell? ⟨b, off + n * 4 + 2, none⟩ = some (.int .u8 i.f) := i2
  have j3 : (w.drewN nq).cell? ⟨b, off + n * 4 + 3, none⟩ = some (.int .u32 i.k) := i3
  have HM1 := Lib.hid (HM.out.drewN nq)
  have HG1 := Lib.hid (grow_drewN (World.grownBy.refl w (some B)) nq)
  clear c0 c1 c20 c22 c25 i0 i1 i2 i3
  obtain ⟨W, hW⟩ : ∃ W, W = w.drewN nq := ⟨_, rfl⟩
  rw [← hW] at d25 d0 d20 j0 j1 j2 j3 HM1 HG1 ⊢
  clear hW
  have hlB : B < W.heap.size := World.block_lt_of_cell? W _ d0
  have hlb : b < W.heap.size := World.block_lt_of_cell? W _ j0
  go_wp2
  go_region
  go_wp2
  have e25 : ((W.alloc (insnO i)).drew).cell? ⟨B, 25, none⟩ = some (.map (some K.mb)) := keepC (below1 W _) d25
  have e0 : ((W.alloc (insnO i)).drew).cell? ⟨W.heap.size, 0, none⟩ = some (.int .u16 i.c) := by simp [go_sem, insnO]
  have e1 : ((W.alloc (insnO i)).drew).cell? ⟨W.heap.size, 1, none⟩ = some (.int .u8 i.j) := by simp [go_sem, insnO]
  have e2 : ((W.alloc (insnO i)).drew).cell? ⟨W.heap.size, 2, none⟩ = some (.int .u8 i.f) := by simp [go_sem, insnO]
  have e3 : ((W.alloc (insnO i)).drew).cell? ⟨W.heap.size, 3, none⟩ = some (.int .u32 i.k) := by simp [go_sem, insnO]
  have HM2 := Lib.hid (HM1.out.alloc (insnO i)).drew
  have HG2 := Lib.hid (grow_drew (grow_al HG1.out (insnO i)))
  have hlk := fun m => HLK.out (((W.alloc (insnO i)).drew).drewN m) (grow_drewN HG2.out m)
  clear d25 d0 d20 j0 j1 j2 j3 HM1 HG1 HM
  change Code.wp Try.prog _ _ _ ((W.alloc (insnO i)).drew)
  obtain ⟨H2, hH2⟩ : ∃ H2, H2 = W.heap.size := ⟨_, rfl⟩
  obtain ⟨W2, hW2⟩ : ∃ W2, W2 = (W.alloc (insnO i)).drew := ⟨_, rfl⟩
  rw [← hW2] at e25 e0 e1 e2 e3 HM2 HG2 hlk ⊢
  rw [← hH2] at e0 e1 e2 e3 ⊢
  clear hW2 hH2 hlB hlb
  go_wp2
  go_quiet (fail)
  have g0 : (W2.drewN nq).cell? ⟨H2, 0, none⟩ = some (.int .u16 i.c) := e0
  have g1 : (W2.drewN nq).cell? ⟨H2, 1, none⟩ = some (.int .u8 i.j) := e1
  have g2 : (W2.drewN nq).cell? ⟨H2, 2, none⟩ = some (.int .u8 i.f) := e2
  have g3 : (W2.drewN nq).cell? ⟨H2, 3, none⟩ = some (.int .u32 i.k) := e3
  have HM3 := Lib.hid (HM2.out.drewN nq)
  have HG3 := Lib.hid (grow_drewN HG2.out nq)
  clear e0 e1 e2 e3 e25 HM2 HG2 hlk HLK
  obtain ⟨W3, hW3⟩ : ∃ W3, W3 = W2.drewN nq := ⟨_, rfl⟩
  rw [← hW3] at g0 g1 g2 g3 HM3 HG3 ⊢
  clear hW3
  go_wp2_with fail
  refine (HF.out W3 HM3.out HG3.out).mono ?_
  rintro e w4 ⟨rfl, hm4, hg4⟩
  have hgg := HG3.out.trans hg4
  have HM4 := Lib.hid hm4
  have HG4 := Lib.hid hgg
  clear hm4 hg4 hgg HF HE HG3 HM3 g0 g1 g2 g3
  by_cases he : e' = 0
  · subst he
    have c20 := HM4.out.c20
    have f20 := HM4.out.free 20
    have c21 := HM4.out.c21
    have f21 := HM4.out.free 21
    have c22 := HM4.out.c22
    go_wp2
    go_ret
    refine ⟨fun h => absurd rfl h, fun _ => ⟨rfl, (HM4.out.setPlace _).setSteps _, by repeat (first | exact HG4.out | apply grow_drew | apply grow_al | apply grow_set)⟩⟩
  · have he' : (e' != 0) = true := by simpa using he
    have HN := Lib.hid he
    clear he
    go_wp2_with fail
    refine (cfails_c e' B K z' w4 HM4.out).mono ?_
    rintro e w5 ⟨rfl, hm5, hg5⟩
    have HM5 := Lib.hid hm5
    have HG5 := Lib.hid (HG4.out.trans hg5)
    clear hm5 hg5
    go_wp2
    go_ret
    exact ⟨fun _ => ⟨rfl, HM5.out, HG5.out⟩, fun h => absurd h HN.out⟩
set_option maxHeartbeats 1000000 in
theorem step_code (B : Nat) (K : MK) (z : MV) (n : Nat) (i : I4) (w : World) (hm : MachAt w B K z) (ht : z.through = false) (h64 : K.nd = 64) (hp : z.place = n) (hn : n < K.nq)
    (b off : Nat) (hA : K.Aq = some ⟨b, off, none⟩) (i0 : w.cell? ⟨b, off + n * 4, none⟩ = some (.int .u16 i.c)) (i1 : w.cell? ⟨b, off + n * 4 + 1, none⟩ = some (.int .u8 i.j)) (i2 : w.cell? ⟨b, off + n * 4 + 2, none⟩ = some (.int .u8 i.f)) (i3 : w.cell? ⟨b, off + n * 4 + 3, none⟩ = some (.int .u32 i.k))
    (HLK : Hid (∀ W, w.grownBy W (some B) → (Instr.lookup 105 (.map (some K.mb)) (.int .u16 i.c) true).run Try.prog W = .ok (.tuple #[.nilFunc, .bool false]) W)) : Calls Try.prog 31 #[.pointer (some ⟨B, 0, none⟩)] w (StepPost w B K { z with through := true, err := 32 }) := by
  have c22 := hm.c22
  rw [ht] at c22
  have c1 := hm.c1
  rw [h64] at c1
  have c0 := hm.c0
  rw [hA] at c0
  have c20 := hm.c20
  rw [hp] at c20
  have c25 := hm.c25
  have hn' : (n : Int) < K.nq := by omega
  have HM := Lib.hid hm
  clear hm ht h64 hA hp
  go_enter Try.func31, Try.ntmps31
  go_wp2
  go_quiet (fail)
  have d25 : (w.drewN nq).cell? ⟨B, 25, none⟩ = some (.map (some K.mb)) := c25
  have d0 : (w.drewN nq).cell? ⟨B, 0, none⟩ = some (.slice (some ⟨b, off, none⟩) K.nq K.cq) := c0
  have d20 : (w.drewN nq).cell? ⟨B, 20, none⟩ = some (.int .i64 n) := c20
  have j0 : (w.drewN nq).cell? ⟨b, off + n * 4, none⟩ = some (.int .u16 i.c) := i0
  have j1 : (w.drewN nq).cell? ⟨b, off + n * 4 + 1, none⟩ = some (.int .u8 i.j) := i1
  have j2 : (w.drewN nq).cell? ⟨b, off + n * 4 + 2, none⟩ = some (.int .u8 i.f) := i2
  have j3 : (w.drewN nq).cell? ⟨b, off + n * 4 + 3, none⟩ = some (.int .u32 i.k) := i3
  have HM1 := Lib.hid (HM.out.drewN nq)
  have HG1 := Lib.hid (grow_drewN (World.grownBy.refl w (some B)) nq)
  clear c0 c1 c20 c22 c25 i0 i1 i2 i3
  obtain ⟨W, hW⟩ : ∃ W, W = w.drewN nq := ⟨_, rfl⟩
  rw [← hW] at d25 d0 d20 j0 j1 j2 j3 HM1 HG1 ⊢
  clear hW
  have hlB : B < W.heap.size := World.block_lt_of_cell? W _ d0
  have hlb : b < W.heap.size := World.block_lt_of_cell? W _ j0
  go_wp2
  go_region
  go_wp2
  have e25 : ((W.alloc (insnO i)).drew).cell? ⟨B, 25, none⟩ = some (.map (some K.mb)) := keepC (below1 W _) d25
  have e0 : ((W.alloc (insnO i)).drew).cell? ⟨W.heap.size, 0, none⟩ = some (.int .u16 i.c) := by simp [go_sem, insnO]
  have e1 : ((W.alloc (insnO i)).drew).cell? ⟨W.heap.size, 1, none⟩ = some (.int .u8 i.j) := by simp [go_sem, insnO]
  have e2 : ((W.alloc (insnO i)).drew).cell? ⟨W.heap.size, 2, none⟩ = some (.int .u8 i.f) := by simp [go_sem, insnO]
  have e3 : ((W.alloc (insnO i)).drew).cell? ⟨W.heap.size, 3, none⟩ = some (.int .u32 i.k) := by simp [go_sem, insnO]
  have HM2 := Lib.hid (HM1.out.alloc (insnO i)).drew
  have HG2 := Lib.hid (grow_drew (grow_al HG1.out (insnO i)))
  have hlk := fun m => HLK.out (((W.alloc (insnO i)).drew).drewN m) (grow_drewN HG2.out m)
  clear d25 d0 d20 j0 j1 j2 j3 HM1 HG1 HM
  change Code.wp Try.prog _ _ _ ((W.alloc (insnO i)).drew)
  obtain ⟨H2, hH2⟩ : ∃ H2, H2 = W.heap.size := ⟨_, rfl⟩
  obtain ⟨W2, hW2⟩ : ∃ W2, W2 = (W.alloc (insnO i)).drew := ⟨_, rfl⟩
  rw [← hW2] at e25 e0 e1 e2 e3 HM2 HG2 hlk ⊢
  rw [← hH2] at e0 e1 e2 e3 ⊢
  clear hW2 hH2 hlB hlb
  go_wp2
  go_quiet (fail)
  have g0 : (W2.drewN nq).cell? ⟨H2, 0, none⟩ = some (.int .u16 i.c) := e0
  have g1 : (W2.drewN nq).cell? ⟨H2, 1, none⟩ = some (.int .u8 i.j) := e1
  have g2 : (W2.drewN nq).cell? ⟨H2, 2, none⟩ = some (.int .u8 i.f) := e2
  have g3 : (W2.drewN nq).cell? ⟨H2, 3, none⟩ = some (.int .u32 i.k) := e3
  have HM3 := Lib.hid (HM2.out.drewN nq)
  have HG3 := Lib.hid (grow_drewN HG2.out nq)
  clear e0 e1 e2 e3 e25 HM2 HG2 hlk HLK
  obtain ⟨W3, hW3⟩ : ∃ W3, W3 = W2.drewN nq := ⟨_, rfl⟩
  rw [← hW3] at g0 g1 g2 g3 HM3 HG3 ⊢
  clear hW3
  go_wp2_with fail
  refine (cfails_c 32 B K z W3 HM3.out).mono ?_
  rintro e w5 ⟨rfl, hm5, hg5⟩
  have HM5 := Lib.hid hm5
  have HG5 := Lib.hid (HG3.out.trans hg5)
  clear hm5 hg5
  go_wp2
  go_ret
  exact ⟨rfl, HM5.out, HG5.out⟩
end Go.Proofs.Ytehpoamideeehaa
set_option linter.unusedVariables false
set_option linter.unusedSimpArgs false
set_option maxRecDepth 100000
namespace Go.Proofs.Ytehpoamideeehaa
open Go.RowKit Go.Shelf
/-! A step of package cbpf's machine: whatever its instruction. -/
theorem jump_right : ∀ c ∈ jumpL, sealsL c = true ∧ c ≠ 32 ∧ c ≠ 96 ∧ c ≠ 97 ∧ c ≠ 2 ∧ c ≠ 3 ∧ c ≠ 52 ∧ memC c aluL = false ∧ fnOf c = 84 := by decide +kernel
def MEnv (w : World) (B : Nat) (K : MK) (q : List I4) (d : List Int) : Prop := K.nq = q.length ∧ K.nd = d.length ∧ Reads w B 4 K.Aq q.length (cellsI q) ∧ Reads w B 1 K.Ad d.length (numV .u8 d) ∧ K.mb < B ∧ DoesAt w K.mb
theorem MEnv.grown {w W : World} {B : Nat} {K : MK} {q : List I4} {d : List Int} (h : MEnv w B K q d) (hg : w.grownBy W (some B)) (hB : B ≤ w.heap.size) : MEnv W B K q d := by
  obtain ⟨h1, h2, h3, h4, h5, h6⟩ := h
  have hk : ∀ b o, b < B → W.cell? ⟨b, o, none⟩ = w.cell? ⟨b, o, none⟩ := fun b o hb => World.cell?_of_block (a := ⟨b, o, none⟩) (hg.block b (by omega) (by simp; omega))
  exact ⟨h1, h2, h3.keep hk, h4.keep hk, h5, h6.kept hg (by simp; omega)⟩
/-- What a method does. -/
theorem method_c (q : List I4) (d : List Int) (i : I4) (hi : i.ok) (hsl : sealsL i.c = true) (z : CS) (hz : z.ok q) (hnd : z.done = false) (hq47 : q.length ≤ 281474976710656) (h64 : d.length = 64) (hd : ∀ x ∈ d, 0 ≤ x ∧ x < 256) (B : Nat) (K : MK) (W : World) (hm : MachAt W B K (MV.of z)) (he : MEnv W B K q d) :
    Calls Try.prog (fnOf i.c) #[.pointer (some ⟨B, 0, none⟩), .agg #[.int .u16 i.c, .int .u8 i.j, .int .u8 i.f, .int .u32 i.k]] W (MPost W B K (mz d i z) (cwrong i)) := by
  obtain ⟨⟨zs1, zs2, zs3, zs4⟩, z2, z3, z4, z5, z6, z7, z8⟩ := hz
  obtain ⟨z41, z42, z43⟩ := z4 hnd
  have hp : 0 ≤ (MV.of z).place := by simp [MV.of]
  have hp2 : (MV.of z).place ≤ 9223372032559808512 := by simp [MV.of]; omega
  have hop := operC_ok hi (⟨zs1, zs2, zs3, zs4⟩ : z.s.ok)
  have hc := sealsL_cases hsl
  have hrd : Reads W W.heap.size 1 K.Ad 64 (numV .u8 d) := by rw [← h64]; exact he.2.2.2.1.more (Nat.le_of_lt hm.lt)
  have hK : K.nd = 64 := by rw [he.2.1, h64]
  by_cases hA : i.c ∈ aluL
  · have hf : fnOf i.c = 83 := by unfold fnOf; rw [if_pos (memC_of hA)]
    rw [hf]
    by_cases hx : hiC i.c = 48
    · have h48 : bits .and .u16 i.c 240 = 48 := hx
      have hm7 : mop i.c = 7 := by unfold mop; rw [if_neg (by omega), if_neg (by omega), if_neg (by omega), if_pos hx]
      by_cases hb : operC i z.s = 0
      · rcases (alu_not48 _ hA).1 hx with hc5 | hc6
        · have hxb : xBit i.c = false := by rw [hc5]; decide +kernel
          have hk0 : i.k = 0 := by unfold operC at hb; rw [if_neg (by simp [hxb])] at hb; exact hb
          have hw : cwrong i = 36 := by
            have hr := alu_right _ hA
            unfold cwrong; rw [if_neg (by simp [hr.1]), if_neg (by simp [hr.2]), if_neg (by simp [hr.2]), if_pos ⟨hc5, hk0⟩]
          rw [hw, mz_wrong (by rw [hw]; decide)]
          exact calu_48k i hi B K (MV.of z) h48 (by simpa [xBit] using hxb) zs1 (operC i z.s) (Lib.hid rfl) hop.1 hop.2 (by simp [hb]) W hm
        · have hxb : xBit i.c = true := by rw [hc6]; decide +kernel
          have hx0 : z.s.x = 0 := by unfold operC at hb; rw [if_pos hxb] at hb; exact hb
          have hw : cwrong i = 0 := by
            have hr := alu_right _ hA
            unfold cwrong; rw [if_neg (by simp [hr.1]), if_neg (by simp [hr.2]), if_neg (by simp [hr.2]), if_neg (by rw [hc6]; simp)]
          have hmz : mz d i z = { MV.of z with through := true, place := (MV.of z).place - 1 } := by
            unfold mz cstep
            rw [if_neg (by simp [hw]), if_neg (by simp [hw]), if_pos (memC_of hA), if_pos ⟨hc6, hx0⟩]
            simp [MV.of, z43]
          rw [hw, hmz]
          exact calu_48x i hi B K (MV.of z) h48 (by have := hxb; simp only [xBit, bne_iff_ne, ne_eq] at this; simpa using this) hp hp2 zs1 (operC i z.s) (Lib.hid rfl) hop.1 hop.2 (by simp [hb]) W hm
      · obtain ⟨e1, e2⟩ := mz_alu (d := d) (z := z) hA (fun h => hb (by unfold operC; rw [if_neg (by rw [h.1]; decide +kernel)]; exact h.2)) (fun h => hb (by unfold operC; rw [if_pos (by rw [h.1]; decide +kernel)]; exact h.2))
        rw [e1, e2, hm7]
        exact calu_48 i hi B K (MV.of z) h48 zs1 (operC i z.s) (Lib.hid rfl) hop.1 hop.2 (by simpa using hb) W hm
    · have hne : i.c ≠ 52 ∧ i.c ≠ 60 := ⟨fun h => hx ((alu_not48 _ hA).2 (.inl h)), fun h => hx ((alu_not48 _ hA).2 (.inr h))⟩
      obtain ⟨e1, e2⟩ := mz_alu (d := d) (z := z) hA (fun h => hne.1 h.1) (fun h => hne.2 h.1)
      rw [e1, e2]
      rcases alu_cases _ hA with ⟨h, hm'⟩ | ⟨h, hm'⟩ | ⟨h, hm'⟩ | ⟨h, _⟩ | ⟨h, hm'⟩ | ⟨h, hm'⟩ | ⟨h, hm'⟩ | ⟨h, hm'⟩ | ⟨h, hm'⟩
      · rw [hm']; exact calu_0 i hi B K (MV.of z) h zs1 (operC i z.s) (Lib.hid rfl) hop.1 hop.2 W hm
      · rw [hm']; exact calu_16 i hi B K (MV.of z) h zs1 (operC i z.s) (Lib.hid rfl) hop.1 hop.2 W hm
      · rw [hm']; exact calu_32 i hi B K (MV.of z) h zs1 (operC i z.s) (Lib.hid rfl) hop.1 hop.2 W hm
      · exact absurd h hx
      · rw [hm']; exact calu_64 i hi B K (MV.of z) h zs1 (operC i z.s) (Lib.hid rfl) hop.1 hop.2 W hm
      · rw [hm']; exact calu_80 i hi B K (MV.of z) h zs1 (operC i z.s) (Lib.hid rfl) hop.1 hop.2 W hm
      · rw [hm']; exact calu_96 i hi B K (MV.of z) h zs1 (operC i z.s) (Lib.hid rfl) hop.1 hop.2 W hm
      · rw [hm']; exact calu_112 i hi B K (MV.of z) h zs1 (operC i z.s) (Lib.hid rfl) hop.1 hop.2 W hm
      · rw [hm']; exact calu_160 i hi B K (MV.of z) h zs1 (operC i z.s) (Lib.hid rfl) hop.1 hop.2 W hm
  by_cases hJ : i.c ∈ jumpL
  · obtain ⟨e1, e2⟩ := mz_jump (d := d) (z := z) hJ hi
    rw [e1, e2, (jump_right _ hJ).2.2.2.2.2.2.2.2]
    have hway : wayC i z.s = if saysP (mq i.c) z.s.a (operC i z.s) = true then i.j else i.f := rfl
    rw [hway]
    rcases jump_cases _ hJ with ⟨h, hm'⟩ | ⟨h, hm'⟩ | ⟨h, hm'⟩ | ⟨h, hm'⟩
    · cases hs : (z.s.a == operC i z.s) with
      | true => rw [if_pos (by rw [hm']; simpa [saysP] using hs)]; exact cbr_16_j i hi B K (MV.of z) h hp hp2 zs1 (operC i z.s) (Lib.hid rfl) hop.1 hop.2 hs W hm
      | false => rw [if_neg (by rw [hm']; simpa [saysP] using hs)]; exact cbr_16_f i hi B K (MV.of z) h hp hp2 zs1 (operC i z.s) (Lib.hid rfl) hop.1 hop.2 hs W hm
    · cases hs : decide (operC i z.s < z.s.a) with
      | true => rw [if_pos (by rw [hm']; simpa [saysP] using hs)]; exact cbr_32_j i hi B K (MV.of z) h hp hp2 zs1 (operC i z.s) (Lib.hid rfl) hop.1 hop.2 hs W hm
      | false => rw [if_neg (by rw [hm']; simpa [saysP] using hs)]; exact cbr_32_f i hi B K (MV.of z) h hp hp2 zs1 (operC i z.s) (Lib.hid rfl) hop.1 hop.2 hs W hm
    · cases hs : decide (operC i z.s ≤ z.s.a) with
      | true => rw [if_pos (by rw [hm']; simpa [saysP] using hs)]; exact cbr_48_j i hi B K (MV.of z) h hp hp2 zs1 (operC i z.s) (Lib.hid rfl) hop.1 hop.2 hs W hm
      | false => rw [if_neg (by rw [hm']; simpa [saysP] using hs)]; exact cbr_48_f i hi B K (MV.of z) h hp hp2 zs1 (operC i z.s) (Lib.hid rfl) hop.1 hop.2 hs W hm
    · cases hs : (bits .and .u32 z.s.a (operC i z.s) != 0) with
      | true => rw [if_pos (by rw [hm']; simpa [saysP] using hs)]; exact cbr_64_j i hi B K (MV.of z) h hp hp2 zs1 (operC i z.s) (Lib.hid rfl) hop.1 hop.2 hs W hm
      | false => rw [if_neg (by rw [hm']; simpa [saysP] using hs)]; exact cbr_64_f i hi B K (MV.of z) h hp hp2 zs1 (operC i z.s) (Lib.hid rfl) hop.1 hop.2 hs W hm
  have hR : i.c ∈ restL := by simp only [List.mem_append] at hc; rcases hc with (h | h) | h; exact absurd h hA; exact absurd h hJ; exact h
  obtain ⟨c, jt, jf, k⟩ := i
  dsimp only at *
  obtain ⟨k0, k1⟩ : 0 ≤ k ∧ k < 4294967296 := ⟨hi.2.2.2.2.2.2.1, hi.2.2.2.2.2.2.2⟩
  simp only [restL, List.mem_cons, List.not_mem_nil, or_false] at hR
  rcases hR with rfl | rfl | rfl | rfl | rfl | rfl | rfl | rfl | rfl | rfl | rfl | rfl | rfl | rfl | rfl
  · by_cases hk : k < 64
    · by_cases h4 : k % 4 = 0
      · have hw : cwrong ⟨32, jt, jf, k⟩ = 0 := by unfold cwrong; rw [if_neg (by dsimp only; decide), if_neg (by dsimp only; omega), if_neg (by dsimp only; omega), if_neg (by dsimp only; omega)]
        have hmz := mz_rest (d := d) (z := z) (i := ⟨32, jt, jf, k⟩) (by simp [restL]) hw (by dsimp only; decide) (by dsimp only; decide) (by dsimp only; decide)
        rw [hw, hmz, show fnOf 32 = 74 by decide +kernel]
        exact cload_ok ⟨32, jt, jf, k⟩ hi B K (MV.of z) hK hk h4 d h64 hd W hm hrd
      · have hw : cwrong ⟨32, jt, jf, k⟩ = 34 := by unfold cwrong; rw [if_neg (by dsimp only; decide), if_pos (by dsimp only; omega)]
        rw [hw, mz_wrong (by rw [hw]; decide), show fnOf 32 = 74 by decide +kernel]
        exact cload_odd ⟨32, jt, jf, k⟩ hi B K (MV.of z) hK hk h4 W hm
    · have hw : cwrong ⟨32, jt, jf, k⟩ = 34 := by unfold cwrong; rw [if_neg (by dsimp only; decide), if_pos (by dsimp only; omega)]
      rw [hw, mz_wrong (by rw [hw]; decide), show fnOf 32 = 74 by decide +kernel]
      exact cload_big ⟨32, jt, jf, k⟩ hi B K (MV.of z) (by dsimp only; omega) W hm
  · have hw : cwrong ⟨128, jt, jf, k⟩ = 0 := by unfold cwrong; rw [if_neg (by dsimp only; decide), if_neg (by dsimp only; omega), if_neg (by dsimp only; omega), if_neg (by dsimp only; omega)]
    have hmz := mz_rest (d := d) (z := z) (i := ⟨128, jt, jf, k⟩) (by simp [restL]) hw (by dsimp only; decide) (by dsimp only; decide) (by dsimp only; decide)
    rw [hw, hmz, show fnOf 128 = 75 by decide +kernel]
    exact clength_a ⟨128, jt, jf, k⟩ hi B K (MV.of z) (by dsimp only; decide +kernel) W hm
  · have hw : cwrong ⟨129, jt, jf, k⟩ = 0 := by unfold cwrong; rw [if_neg (by dsimp only; decide), if_neg (by dsimp only; omega), if_neg (by dsimp only; omega), if_neg (by dsimp only; omega)]
    have hmz := mz_rest (d := d) (z := z) (i := ⟨129, jt, jf, k⟩) (by simp [restL]) hw (by dsimp only; decide) (by dsimp only; decide) (by dsimp only; decide)
    rw [hw, hmz, show fnOf 129 = 75 by decide +kernel]
    exact clength_x ⟨129, jt, jf, k⟩ hi B K (MV.of z) (by dsimp only; decide +kernel) W hm
  · have hw : cwrong ⟨0, jt, jf, k⟩ = 0 := by unfold cwrong; rw [if_neg (by dsimp only; decide), if_neg (by dsimp only; omega), if_neg (by dsimp only; omega), if_neg (by dsimp only; omega)]
    have hmz := mz_rest (d := d) (z := z) (i := ⟨0, jt, jf, k⟩) (by simp [restL]) hw (by dsimp only; decide) (by dsimp only; decide) (by dsimp only; decide)
    rw [hw, hmz, show fnOf 0 = 76 by decide +kernel]
    exact cnumber_a ⟨0, jt, jf, k⟩ hi B K (MV.of z) (by dsimp only; decide +kernel) W hm
  · have hw : cwrong ⟨1, jt, jf, k⟩ = 0 := by unfold cwrong; rw [if_neg (by dsimp only; decide), if_neg (by dsimp only; omega), if_neg (by dsimp only; omega), if_neg (by dsimp only; omega)]
    have hmz := mz_rest (d := d) (z := z) (i := ⟨1, jt, jf, k⟩) (by simp [restL]) hw (by dsimp only; decide) (by dsimp only; decide) (by dsimp only; decide)
    rw [hw, hmz, show fnOf 1 = 76 by decide +kernel]
    exact cnumber_x ⟨1, jt, jf, k⟩ hi B K (MV.of z) (by dsimp only; decide +kernel) W hm
  · by_cases hk : k < 16
    · have hw : cwrong ⟨96, jt, jf, k⟩ = 0 := by unfold cwrong; rw [if_neg (by dsimp only; decide), if_neg (by dsimp only; omega), if_neg (by dsimp only; omega), if_neg (by dsimp only; omega)]
      have hmz := mz_rest (d := d) (z := z) (i := ⟨96, jt, jf, k⟩) (by simp [restL]) hw (by dsimp only; decide) (by dsimp only; decide) (by dsimp only; decide)
      rw [hw, hmz, show fnOf 96 = 77 by decide +kernel]
      exact crecall_a ⟨96, jt, jf, k⟩ hi B K (MV.of z) (by dsimp only; decide +kernel) hk W hm
    · have hw : cwrong ⟨96, jt, jf, k⟩ = 35 := by unfold cwrong; rw [if_neg (by dsimp only; decide), if_neg (by dsimp only; omega), if_pos (by dsimp only; omega)]
      rw [hw, mz_wrong (by rw [hw]; decide), show fnOf 96 = 77 by decide +kernel]
      exact crecall_no ⟨96, jt, jf, k⟩ hi B K (MV.of z) (by dsimp only; omega) W hm
  · by_cases hk : k < 16
    · have hw : cwrong ⟨97, jt, jf, k⟩ = 0 := by unfold cwrong; rw [if_neg (by dsimp only; decide), if_neg (by dsimp only; omega), if_neg (by dsimp only; omega), if_neg (by dsimp only; omega)]
      have hmz := mz_rest (d := d) (z := z) (i := ⟨97, jt, jf, k⟩) (by simp [restL]) hw (by dsimp only; decide) (by dsimp only; decide) (by dsimp only; decide)
      rw [hw, hmz, show fnOf 97 = 77 by decide +kernel]
      exact crecall_x ⟨97, jt, jf, k⟩ hi B K (MV.of z) (by dsimp only; decide +kernel) hk W hm
    · have hw : cwrong ⟨97, jt, jf, k⟩ = 35 := by unfold cwrong; rw [if_neg (by dsimp only; decide), if_neg (by dsimp only; omega), if_pos (by dsimp only; omega)]
      rw [hw, mz_wrong (by rw [hw]; decide), show fnOf 97 = 77 by decide +kernel]
      exact crecall_no ⟨97, jt, jf, k⟩ hi B K (MV.of z) (by dsimp only; omega) W hm
  · by_cases hk : k < 16
    · have hw : cwrong ⟨2, jt, jf, k⟩ = 0 := by unfold cwrong; rw [if_neg (by dsimp only; decide), if_neg (by dsimp only; omega), if_neg (by dsimp only; omega), if_neg (by dsimp only; omega)]
      have hmz := mz_rest (d := d) (z := z) (i := ⟨2, jt, jf, k⟩) (by simp [restL]) hw (by dsimp only; decide) (by dsimp only; decide) (by dsimp only; decide)
      rw [hw, hmz, show fnOf 2 = 78 by decide +kernel]
      exact ckeep_2 ⟨2, jt, jf, k⟩ hi B K (MV.of z) (by dsimp only; decide +kernel) hk W hm
    · have hw : cwrong ⟨2, jt, jf, k⟩ = 35 := by unfold cwrong; rw [if_neg (by dsimp only; decide), if_neg (by dsimp only; omega), if_pos (by dsimp only; omega)]
      rw [hw, mz_wrong (by rw [hw]; decide), show fnOf 2 = 78 by decide +kernel]
      exact ckeep_no ⟨2, jt, jf, k⟩ hi B K (MV.of z) (by dsimp only; omega) W hm
  · by_cases hk : k < 16
    · have hw : cwrong ⟨3, jt, jf, k⟩ = 0 := by unfold cwrong; rw [if_neg (by dsimp only; decide), if_neg (by dsimp only; omega), if_neg (by dsimp only; omega), if_neg (by dsimp only; omega)]
      have hmz := mz_rest (d := d) (z := z) (i := ⟨3, jt, jf, k⟩) (by simp [restL]) hw (by dsimp only; decide) (by dsimp only; decide) (by dsimp only; decide)
      rw [hw, hmz, show fnOf 3 = 78 by decide +kernel]
      exact ckeep_3 ⟨3, jt, jf, k⟩ hi B K (MV.of z) (by dsimp only; decide +kernel) hk W hm
    · have hw : cwrong ⟨3, jt, jf, k⟩ = 35 := by unfold cwrong; rw [if_neg (by dsimp only; decide), if_neg (by dsimp only; omega), if_pos (by dsimp only; omega)]
      rw [hw, mz_wrong (by rw [hw]; decide), show fnOf 3 = 78 by decide +kernel]
      exact ckeep_no ⟨3, jt, jf, k⟩ hi B K (MV.of z) (by dsimp only; omega) W hm
  · have hw : cwrong ⟨132, jt, jf, k⟩ = 0 := by unfold cwrong; rw [if_neg (by dsimp only; decide), if_neg (by dsimp only; omega), if_neg (by dsimp only; omega), if_neg (by dsimp only; omega)]
    have hmz := mz_rest (d := d) (z := z) (i := ⟨132, jt, jf, k⟩) (by simp [restL]) hw (by dsimp only; decide) (by dsimp only; decide) (by dsimp only; decide)
    rw [hw, hmz, show fnOf 132 = 79 by decide +kernel]
    exact cnegate ⟨132, jt, jf, k⟩ hi B K (MV.of z) W hm
  · have hw : cwrong ⟨5, jt, jf, k⟩ = 0 := by unfold cwrong; rw [if_neg (by dsimp only; decide), if_neg (by dsimp only; omega), if_neg (by dsimp only; omega), if_neg (by dsimp only; omega)]
    have hmz : mz d ⟨5, jt, jf, k⟩ z = { MV.of z with place := (MV.of z).place + k } := by
      unfold mz cstep
      rw [if_neg (by simp [hw]), if_neg (by simp [hw]), if_neg (by dsimp only; decide), if_neg (by dsimp only; decide)]
      simp [MV.of, k0]
      try omega
    rw [hw, hmz, show fnOf 5 = 80 by decide +kernel]
    exact cjump ⟨5, jt, jf, k⟩ hi B K (MV.of z) hp hp2 W hm
  · have hw : cwrong ⟨6, jt, jf, k⟩ = 0 := by unfold cwrong; rw [if_neg (by dsimp only; decide), if_neg (by dsimp only; omega), if_neg (by dsimp only; omega), if_neg (by dsimp only; omega)]
    have hmz : mz d ⟨6, jt, jf, k⟩ z = { MV.of z with through := true, ans := k, place := (MV.of z).place - 1 } := by
      unfold mz cstep
      rw [if_neg (by simp [hw]), if_neg (by simp [hw]), if_neg (by dsimp only; decide), if_neg (by dsimp only; decide)]
      simp [MV.of, k0]
      try omega
    rw [hw, hmz, show fnOf 6 = 81 by decide +kernel]
    exact cend_k ⟨6, jt, jf, k⟩ hi B K (MV.of z) (by dsimp only; decide +kernel) hp hp2 W hm
  · have hw : cwrong ⟨22, jt, jf, k⟩ = 0 := by unfold cwrong; rw [if_neg (by dsimp only; decide), if_neg (by dsimp only; omega), if_neg (by dsimp only; omega), if_neg (by dsimp only; omega)]
    have hmz : mz d ⟨22, jt, jf, k⟩ z = { MV.of z with through := true, ans := (MV.of z).a, place := (MV.of z).place - 1 } := by
      unfold mz cstep
      rw [if_neg (by simp [hw]), if_neg (by simp [hw]), if_neg (by dsimp only; decide), if_neg (by dsimp only; decide)]
      simp [MV.of, k0]
      try omega
    rw [hw, hmz, show fnOf 22 = 81 by decide +kernel]
    exact cend_a ⟨22, jt, jf, k⟩ hi B K (MV.of z) (by dsimp only; decide +kernel) hp hp2 W hm
  · have hw : cwrong ⟨7, jt, jf, k⟩ = 0 := by unfold cwrong; rw [if_neg (by dsimp only; decide), if_neg (by dsimp only; omega), if_neg (by dsimp only; omega), if_neg (by dsimp only; omega)]
    have hmz := mz_rest (d := d) (z := z) (i := ⟨7, jt, jf, k⟩) (by simp [restL]) hw (by dsimp only; decide) (by dsimp only; decide) (by dsimp only; decide)
    rw [hw, hmz, show fnOf 7 = 82 by decide +kernel]
    exact cmove_x ⟨7, jt, jf, k⟩ hi B K (MV.of z) (by dsimp only; decide +kernel) W hm
  · have hw : cwrong ⟨135, jt, jf, k⟩ = 0 := by unfold cwrong; rw [if_neg (by dsimp only; decide), if_neg (by dsimp only; omega), if_neg (by dsimp only; omega), if_neg (by dsimp only; omega)]
    have hmz := mz_rest (d := d) (z := z) (i := ⟨135, jt, jf, k⟩) (by simp [restL]) hw (by dsimp only; decide) (by dsimp only; decide) (by dsimp only; decide)
    rw [hw, hmz, show fnOf 135 = 82 by decide +kernel]
    exact cmove_a ⟨135, jt, jf, k⟩ hi B K (MV.of z) (by dsimp only; decide +kernel) W hm
end Go.Proofs.Ytehpoamideeehaa
set_option linter.unusedVariables false
set_option linter.unusedSimpArgs false
set_option maxRecDepth 100000
namespace Go.Proofs.Ytehpoamideeehaa
open Go.RowKit Go.Shelf
/-! cbpf.Step, New, Answer, Run: the contracts. -/
theorem enters_code (c : Int) : ∀ args w, (callFunc (fnOf c) args).run Try.prog w = .ok (.enter (fnOf c) args) w := by
  unfold fnOf
  split
  · exact enters_fn Try.func83 (by kernel_rfl) rfl
  split
  · exact enters_fn Try.func84 (by kernel_rfl) rfl
  split
  · exact enters_fn Try.func74 (by kernel_rfl) rfl
  split
  · exact enters_fn Try.func75 (by kernel_rfl) rfl
  split
  · exact enters_fn Try.func76 (by kernel_rfl) rfl
  split
  · exact enters_fn Try.func77 (by kernel_rfl) rfl
  split
  · exact enters_fn Try.func78 (by kernel_rfl) rfl
  split
  · exact enters_fn Try.func79 (by kernel_rfl) rfl
  split
  · exact enters_fn Try.func80 (by kernel_rfl) rfl
  split
  · exact enters_fn Try.func81 (by kernel_rfl) rfl
  · exact enters_fn Try.func82 (by kernel_rfl) rfl
theorem mz_bounds (d : List Int) (i : I4) (hi : i.ok) (q : List I4) (z : CS) (hz : z.ok q) (hq47 : q.length ≤ 281474976710656) : (-1 ≤ (mz d i z).place ∧ (mz d i z).place ≤ 9223372036854775806) ∧ (0 ≤ (mz d i z).steps ∧ (mz d i z).steps ≤ 9223372036854775806) := by
  obtain ⟨z1, z2, z3, z4, z5, z6, z7, z8⟩ := hz
  unfold mz
  split
  · simp [MV.of]; omega
  · split
    · rename_i on s' hs
      have e1 := cstep_on hs
      have e2 := cstep_on_le hi hs
      simp only
      omega
    · simp [MV.of]; omega
    · simp [MV.of]; omega
theorem Step_c (B : Nat) (K : MK) (q : List I4) (d : List Int) (z : CS) (w : World) (hm : MachAt w B K (MV.of z)) (he : MEnv w B K q d) (hz : z.ok q) (hq : ∀ x ∈ q, x.ok) (hd : ∀ x ∈ d, 0 ≤ x ∧ x < 256) (hq47 : q.length ≤ 281474976710656) :
    Calls Try.prog 31 #[.pointer (some ⟨B, 0, none⟩)] w (StepPost w B K (MV.of (z.next q d))) := by
  have hB := Nat.le_of_lt hm.lt
  by_cases hdn : z.done = true
  · have e : z.next q d = z := by unfold CS.next; rw [if_pos hdn]
    rw [e]; exact step_done B K _ w hm hdn
  have hdf : z.done = false := by simpa using hdn
  by_cases h64 : d.length = 64
  · cases hx : q[z.at_]? with
    | none =>
      have e : z.next q d = { z with done := true, err := 33 } := by unfold CS.next; rw [if_neg hdn, if_neg (by simp [h64]), hx]
      rw [e]
      exact step_end B K (MV.of z) w hm hdf (by rw [he.2.1, h64]) (by rw [he.1]; have := List.getElem?_eq_none_iff.1 hx; simp [MV.of]; omega)
    | some i =>
      have hio := hq i (List.mem_of_getElem? hx)
      have hlt := (List.getElem?_eq_some_iff.1 hx).1
      obtain ⟨b, off, hA, hb, i0, i1, i2, i3⟩ := he.2.2.1.insn hx
      have hn := next_of (d := d) hdf h64 hx hz
      cases hsl : sealsL i.c with
      | true =>
        obtain ⟨hb1, hb2⟩ := mz_bounds d i hio q z hz hq47
        refine (step_go B K (MV.of z) (mz d i z) (cwrong i) (fnOf i.c) z.at_ i w hm hdf (by rw [he.2.1, h64]) rfl (by rw [he.1]; exact hlt) hb1 hb2 b off hA i0 i1 i2 i3 (enters_code i.c)
          (Lib.hid fun W hg => does_yes (he.grown hg hB).2.2.2.2.2 hsl hio.1 hio.2.1) (Lib.hid fun W hm' hg => method_c q d i hio hsl z hz hdf hq47 h64 hd B K W hm' (he.grown hg hB))).mono ?_
        rintro e w' ⟨g1, g2⟩
        by_cases hc : cwrong i = 0
        · rw [hn.2 hc]; exact g2 hc
        · rw [hn.1 hc]; exact g1 hc
      | false =>
        have hc : cwrong i = 32 := by unfold cwrong; rw [if_pos hsl]
        rw [hn.1 (by rw [hc]; decide), mz_wrong (by rw [hc]; decide), hc]
        exact step_code B K (MV.of z) z.at_ i w hm hdf (by rw [he.2.1, h64]) rfl (by rw [he.1]; exact hlt) b off hA i0 i1 i2 i3 (Lib.hid fun W hg => does_not (he.grown hg hB).2.2.2.2.2 hsl hio.1 hio.2.1)
  · have e : z.next q d = { z with done := true, err := 21 } := by unfold CS.next; rw [if_neg hdn, if_pos h64]
    rw [e]
    exact step_len B K (MV.of z) w hm hdf (by rw [he.2.1]; exact h64)
theorem Answer_c (B : Nat) (K : MK) (z : CS) (w : World) (hm : MachAt w B K (MV.of z)) : Calls Try.prog 32 #[.pointer (some ⟨B, 0, none⟩)] w (AnsPost w z.answer) := by
  have c24 := hm.c24
  have c21 := hm.c21
  have c20 := hm.c20
  have c23 := hm.c23
  simp only [MV.of] at c24 c21 c20 c23
  clear hm
  by_cases he : z.err = 0
  · have HX := Lib.hid (show z.answer = (z.ans, (z.steps : Int), 0, 0) by unfold CS.answer; rw [if_neg (by simp [he])])
    rw [he] at c24
    clear he
    go_enter Try.func32, Try.ntmps32
    go_wp2
    go_quiet (fail)
    go_wp2
    refine bodyPost_ret (v := .tuple #[.int .u32 z.ans, .int .i64 z.steps, .int .i64 0, .int .i64 0]) (by simp [results, Try.results32, go_sem]) rfl ⟨by rw [HX.out]; rfl, _, rfl⟩
  · have HX := Lib.hid (show z.answer = (0, (z.steps : Int), z.err, (z.at_ : Int)) by unfold CS.answer; rw [if_pos he])
    have he' : (z.err != 0) = true := by simpa using he
    clear he
    go_enter Try.func32, Try.ntmps32
    go_wp2
    go_quiet (fail)
    go_wp2
    refine bodyPost_ret (v := .tuple #[.int .u32 0, .int .i64 z.steps, .int .i64 z.err, .int .i64 z.at_]) (by simp [results, Try.results32, go_sem]) rfl ⟨by rw [HX.out]; rfl, _, rfl⟩
end Go.Proofs.Ytehpoamideeehaa
