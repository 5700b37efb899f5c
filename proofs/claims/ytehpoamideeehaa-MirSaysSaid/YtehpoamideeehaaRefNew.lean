import Derived.Test.YtehpoamideeehaaRefS1
set_option linter.unusedVariables false
set_option linter.unusedSimpArgs false
namespace Go.Proofs.Ytehpoamideeehaa
open Go.RowKit
/-! ravelinref03: Step, New, Answer, Run: the contracts. -/
def REnv (w : World) (B : Nat) (K : RK) (q : List I4) (d : List Int) : Prop := K.nq = q.length ∧ K.nd = d.length ∧ Reads w B 4 K.Aq q.length (cellsI q) ∧ Reads w B 1 K.Ad d.length (numV .u8 d)
theorem REnv.grown {w W : World} {B : Nat} {K : RK} {q : List I4} {d : List Int} (h : REnv w B K q d) (hg : w.grownBy W (some B)) (hB : B ≤ w.heap.size) : REnv W B K q d := by
  obtain ⟨h1, h2, h3, h4⟩ := h
  have hk : ∀ b o, b < B → W.cell? ⟨b, o, none⟩ = w.cell? ⟨b, o, none⟩ := fun b o hb => World.cell?_of_block (a := ⟨b, o, none⟩) (hg.block b (by omega) (by simp; omega))
  exact ⟨h1, h2, h3.keep hk, h4.keep hk⟩
theorem REnv.keep {w W : World} {B : Nat} {K : RK} {q : List I4} {d : List Int} (h : REnv w B K q d) (hk : ∀ b o, b < B → W.cell? ⟨b, o, none⟩ = w.cell? ⟨b, o, none⟩) : REnv W B K q d := ⟨h.1, h.2.1, h.2.2.1.keep hk, h.2.2.2.keep hk⟩
theorem jump_notalu : ∀ c ∈ aluL, memC c jumpL = false := by decide +kernel
theorem rest_x : ∀ c ∈ restL, (bits .and .u16 c 8 != 0) = false := by decide +kernel
theorem cmove_ret (d : List Int) (i : I4) (z : CS) : (⟨(cmove d i z.s).a, (cmove d i z.s).x, (cmove d i z.s).m, z.at_, z.steps, z.done, z.ans, z.err⟩ : MV).place = z.at_ := rfl
/-- moves, whatever it moves. -/
theorem rmoves_c (q : List I4) (d : List Int) (i : I4) (hi : i.ok) (hR : i.c ∈ restL) (h5 : i.c ≠ 5) (h6 : i.c ≠ 6) (h22 : i.c ≠ 22) (hw : cwrong i = 0) (z : CS) (h64 : d.length = 64) (hd : ∀ x ∈ d, 0 ≤ x ∧ x < 256) (B : Nat) (K : RK) (W : World) (hm : RMAt W B K (MV.of z)) (he : REnv W B K q d) :
    Calls Try.prog 50 #[.pointer (some ⟨B, 0, none⟩), .agg #[.int .u16 i.c, .int .u8 i.j, .int .u8 i.f, .int .u32 i.k]] W fun e w' => e = .returned (.tuple #[]) ∧ RMAt w' B K ⟨(cmove d i z.s).a, (cmove d i z.s).x, (cmove d i z.s).m, z.at_, z.steps, z.done, z.ans, z.err⟩ ∧ W.grownBy w' (some B) := by
  have hrd : Reads W W.heap.size 1 K.Ad 64 (numV .u8 d) := by rw [← h64]; exact he.2.2.2.more (Nat.le_of_lt hm.lt)
  have hK : K.nd = 64 := by rw [he.2.1, h64]
  obtain ⟨c, jt, jf, k⟩ := i
  dsimp only at *
  obtain ⟨k0, k1⟩ : 0 ≤ k ∧ k < 4294967296 := ⟨hi.2.2.2.2.2.2.1, hi.2.2.2.2.2.2.2⟩
  simp only [restL, List.mem_cons, List.not_mem_nil, or_false] at hR
  rcases hR with rfl | rfl | rfl | rfl | rfl | rfl | rfl | rfl | rfl | rfl | rfl | rfl | rfl | rfl | rfl
  · have hk : k < 64 ∧ k % 4 = 0 := by
      unfold cwrong at hw
      rw [if_neg (by dsimp only; decide)] at hw
      split at hw
      · cases hw
      · rename_i h; dsimp only at h; omega
    exact rmoves_32 ⟨32, jt, jf, k⟩ hi rfl B K (MV.of z) hK hk.1 hk.2 d h64 hd W hm hrd
  · exact rmoves_128 ⟨128, jt, jf, k⟩ hi rfl B K (MV.of z) W hm
  · exact rmoves_129 ⟨129, jt, jf, k⟩ hi rfl B K (MV.of z) W hm
  · exact rmoves_0 ⟨0, jt, jf, k⟩ hi rfl B K (MV.of z) W hm
  · exact rmoves_1 ⟨1, jt, jf, k⟩ hi rfl B K (MV.of z) W hm
  · have hk : k < 16 := by
      unfold cwrong at hw
      rw [if_neg (by dsimp only; decide), if_neg (by dsimp only; omega)] at hw
      split at hw
      · cases hw
      · rename_i h; dsimp only at h; omega
    exact rmoves_96 ⟨96, jt, jf, k⟩ hi rfl B K (MV.of z) hk W hm
  · have hk : k < 16 := by
      unfold cwrong at hw
      rw [if_neg (by dsimp only; decide), if_neg (by dsimp only; omega)] at hw
      split at hw
      · cases hw
      · rename_i h; dsimp only at h; omega
    exact rmoves_97 ⟨97, jt, jf, k⟩ hi rfl B K (MV.of z) hk W hm
  · have hk : k < 16 := by
      unfold cwrong at hw
      rw [if_neg (by dsimp only; decide), if_neg (by dsimp only; omega)] at hw
      split at hw
      · cases hw
      · rename_i h; dsimp only at h; omega
    exact rmoves_2 ⟨2, jt, jf, k⟩ hi rfl B K (MV.of z) hk W hm
  · have hk : k < 16 := by
      unfold cwrong at hw
      rw [if_neg (by dsimp only; decide), if_neg (by dsimp only; omega)] at hw
      split at hw
      · cases hw
      · rename_i h; dsimp only at h; omega
    exact rmoves_3 ⟨3, jt, jf, k⟩ hi rfl B K (MV.of z) hk W hm
  · exact rmoves_132 ⟨132, jt, jf, k⟩ hi rfl B K (MV.of z) W hm
  · exact absurd rfl h5
  · exact absurd rfl h6
  · exact absurd rfl h22
  · exact rmoves_7 ⟨7, jt, jf, k⟩ hi rfl B K (MV.of z) W hm
  · exact rmoves_135 ⟨135, jt, jf, k⟩ hi rfl B K (MV.of z) W hm
theorem RStepPost.cast {w : World} {B : Nat} {K : RK} {z z' : MV} {e : Ending} {w' : World} (h : RStepPost w B K z e w') (he : z = z') : RStepPost w B K z' e w' := he ▸ h
theorem quiet_swap {f : FuncId} {args : Array Value} {W : World} {v : Value} (h : Calls Try.prog f args W fun e w' => e = .returned v ∧ W = w') : Calls Try.prog f args W fun e w' => e = .returned v ∧ w' = W := h.mono fun _ _ ⟨a, b⟩ => ⟨a, b.symm⟩
theorem two_c (c a b : Int) (hc : c ∈ aluL) (hn : hiC c = 48 → b ≠ 0) (ha : u32ok a) (hb : u32ok b) (W : World) : Calls Try.prog 48 #[.int .u16 c, .int .u32 a, .int .u32 b] W fun e w' => e = .returned (.int .u32 (sumP (mop c) a b)) ∧ w' = W := by
  rcases alu_cases _ hc with ⟨h, hm'⟩ | ⟨h, hm'⟩ | ⟨h, hm'⟩ | ⟨h, hm', _⟩ | ⟨h, hm'⟩ | ⟨h, hm'⟩ | ⟨h, hm'⟩ | ⟨h, hm'⟩ | ⟨h, hm'⟩
  · rw [hm']; exact quiet_swap (rTwo_0 c a b h ha.1 ha.2 hb.1 hb.2 W)
  · rw [hm']; exact quiet_swap (rTwo_16 c a b h ha.1 ha.2 hb.1 hb.2 W)
  · rw [hm']; exact quiet_swap (rTwo_32 c a b h ha.1 ha.2 hb.1 hb.2 W)
  · rw [hm']; exact quiet_swap (rTwo_48 c a b h ha.1 ha.2 hb.1 hb.2 (hn h) W)
  · rw [hm']; exact quiet_swap (rTwo_64 c a b h ha.1 ha.2 hb.1 hb.2 W)
  · rw [hm']; exact quiet_swap (rTwo_80 c a b h ha.1 ha.2 hb.1 hb.2 W)
  · rw [hm']; exact quiet_swap (rTwo_96 c a b h ha.1 ha.2 hb.1 hb.2 W)
  · rw [hm']; exact quiet_swap (rTwo_112 c a b h ha.1 ha.2 hb.1 hb.2 W)
  · rw [hm']; exact quiet_swap (rTwo_160 c a b h ha.1 ha.2 hb.1 hb.2 W)
theorem says_c (c a b : Int) (hc : c ∈ jumpL) (ha : u32ok a) (hb : u32ok b) (W : World) : Calls Try.prog 49 #[.int .u16 c, .int .u32 a, .int .u32 b] W fun e w' => e = .returned (.bool (saysP (mq c) a b)) ∧ w' = W := by
  rcases jump_cases _ hc with ⟨h, hm'⟩ | ⟨h, hm'⟩ | ⟨h, hm'⟩ | ⟨h, hm'⟩
  · rw [hm']; exact quiet_swap (rSays_16 c a b h ha.1 ha.2 hb.1 hb.2 W)
  · rw [hm']; exact quiet_swap (rSays_32 c a b h ha.1 ha.2 hb.1 hb.2 W)
  · rw [hm']; exact quiet_swap (rSays_48 c a b h ha.1 ha.2 hb.1 hb.2 W)
  · rw [hm']; exact quiet_swap (rSays_64 c a b h ha.1 ha.2 hb.1 hb.2 W)
theorem rStep_c (B : Nat) (K : RK) (q : List I4) (d : List Int) (z : CS) (w : World) (hm : RMAt w B K (MV.of z)) (he : REnv w B K q d) (hz : z.ok q) (hq : ∀ x ∈ q, x.ok) (hd : ∀ x ∈ d, 0 ≤ x ∧ x < 256) (hq47 : q.length ≤ 281474976710656) :
    Calls Try.prog 23 #[.pointer (some ⟨B, 0, none⟩)] w (RStepPost w B K (MV.of (z.next q d))) := by
  have hB := Nat.le_of_lt hm.lt
  by_cases hdn : z.done = true
  · have e : z.next q d = z := by unfold CS.next; rw [if_pos hdn]
    rw [e]; exact rstep_done B K _ w hm hdn
  have hdf : z.done = false := by simpa using hdn
  by_cases h64 : d.length = 64
  · cases hx : q[z.at_]? with
    | none =>
      have e : z.next q d = { z with done := true, err := 33 } := by unfold CS.next; rw [if_neg hdn, if_neg (by simp [h64]), hx]
      rw [e]
      exact rstep_end B K (MV.of z) w hm hdf (by rw [he.2.1, h64]) (by rw [he.1]; have := List.getElem?_eq_none_iff.1 hx; simp [MV.of]; omega)
    | some i =>
      have hio := hq i (List.mem_of_getElem? hx)
      have hlt := (List.getElem?_eq_some_iff.1 hx).1
      obtain ⟨b, off, hA, hb, i0, i1, i2, i3⟩ := he.2.2.1.insn hx
      have hn := next_of (d := d) hdf h64 hx hz
      obtain ⟨⟨zs1, zs2, zs3, zs4⟩, z2, z3, z4, z5, z6, z7, z8⟩ := hz
      have hst : 0 ≤ (MV.of z).steps ∧ (MV.of z).steps ≤ 9223372036854775806 := by simp [MV.of]; omega
      have hK : K.nd = 64 := by rw [he.2.1, h64]
      have hKn : z.at_ < K.nq := by rw [he.1]; exact hlt
      have hK47 : K.nq ≤ 281474976710656 := by rw [he.1]; exact hq47
      have hop := operC_ok hio (⟨zs1, zs2, zs3, zs4⟩ : z.s.ok)
      by_cases hc : cwrong i = 0
      · rw [hn.2 hc]
        have hsl : sealsL i.c = true := by
          cases h : sealsL i.c with
          | true => rfl
          | false => unfold cwrong at hc; rw [if_pos h] at hc; cases hc
        have HW := Lib.hid hc
        by_cases hAl : i.c ∈ aluL
        · have HAL := Lib.hid (memC_of hAl)
          have HJU := Lib.hid (jump_notalu _ hAl)
          have hno52 : ¬ (i.c = 52 ∧ i.k = 0) := fun h => by
            have hr := alu_right _ hAl
            unfold cwrong at hc; rw [if_neg (by simp [hr.1]), if_neg (by simp [hr.2]), if_neg (by simp [hr.2]), if_pos h] at hc; cases hc
          by_cases h60 : i.c = 60
          · have hxb : (bits .and .u16 i.c 8 != 0) = true := by rw [h60]; decide +kernel
            by_cases hx0 : z.s.x = 0
            · refine (rstep_alu0 B K (MV.of z) z.at_ i hio w hm hdf hK rfl hKn hK47 hst b off hA i0 i1 i2 i3 HW HAL HJU hxb (by simpa using h60) (by simpa [MV.of] using hx0)).mono fun e w' h => h.cast ?_
              unfold mz cstep
              rw [if_neg (by simp [hc]), if_neg (by simp [hc]), if_pos (memC_of hAl), if_pos ⟨h60, hx0⟩]
              simp [MV.of]
            · have hmz := mz_alu (d := d) (z := z) hAl hno52 (fun h => hx0 h.2)
              rw [hmz.2]
              have hoc : operC i z.s = z.s.x := by unfold operC; rw [if_pos (show xBit i.c = true from hxb)]
              rw [hoc] at hop ⊢
              exact rstep_alu60_x B K (MV.of z) z.at_ i hio w hm hdf hK rfl hKn hK47 hst b off hA i0 i1 i2 i3 HW HAL HJU hxb (by simpa using h60) (by simpa [MV.of] using hx0) zs1 zs2 (mop i.c) (Lib.hid fun W => two_c i.c z.s.a z.s.x hAl (fun _ => hx0) zs1 hop W)
          · have hmz := mz_alu (d := d) (z := z) hAl hno52 (fun h => h60 h.1)
            rw [hmz.2]
            have hb48 : hiC i.c = 48 → operC i z.s ≠ 0 := fun h => by
              rcases (alu_not48 _ hAl).1 h with h5 | h6
              · unfold operC; rw [if_neg (by rw [h5]; decide +kernel)]; exact fun hk => hno52 ⟨h5, hk⟩
              · exact absurd h6 h60
            cases hxb : (bits .and .u16 i.c 8 != 0) with
            | true =>
              have hoc : operC i z.s = z.s.x := by unfold operC; rw [if_pos (show xBit i.c = true from hxb)]
              rw [hoc] at hop hb48 ⊢
              exact rstep_alu_x B K (MV.of z) z.at_ i hio w hm hdf hK rfl hKn hK47 hst b off hA i0 i1 i2 i3 HW HAL HJU hxb (by simpa using h60) zs1 zs2 (mop i.c) (Lib.hid fun W => two_c i.c z.s.a z.s.x hAl hb48 zs1 hop W)
            | false =>
              have hoc : operC i z.s = i.k := by unfold operC; rw [if_neg (by simp [xBit, hxb])]
              rw [hoc] at hop hb48 ⊢
              exact rstep_alu_k B K (MV.of z) z.at_ i hio w hm hdf hK rfl hKn hK47 hst b off hA i0 i1 i2 i3 HW HAL HJU hxb (by simpa using h60) zs1 zs2 (mop i.c) (Lib.hid fun W => two_c i.c z.s.a i.k hAl hb48 zs1 hop W)
        have HAL := Lib.hid (memC_false hAl)
        by_cases hJ : i.c ∈ jumpL
        · have HJU := Lib.hid (memC_of hJ)
          rw [(mz_jump (d := d) (z := z) hJ hio).2]
          have hway : wayC i z.s = if saysP (mq i.c) z.s.a (operC i z.s) = true then i.j else i.f := rfl
          rw [hway]
          cases hxb : (bits .and .u16 i.c 8 != 0) with
          | true =>
            have hoc : operC i z.s = z.s.x := by unfold operC; rw [if_pos (show xBit i.c = true from hxb)]
            rw [hoc] at hop ⊢
            have hsc := fun W => says_c i.c z.s.a z.s.x hJ zs1 hop W
            cases hs : saysP (mq i.c) z.s.a z.s.x with
            | true =>
              rw [hs] at hsc
              exact (rstep_jump_x_j B K (MV.of z) z.at_ i hio w hm hdf hK rfl hKn hK47 hst b off hA i0 i1 i2 i3 HW HAL HJU hxb (Lib.hid hsc)).mono fun e w' h => h.cast (by simp [MV.of]; omega)
            | false =>
              rw [hs] at hsc
              exact (rstep_jump_x_f B K (MV.of z) z.at_ i hio w hm hdf hK rfl hKn hK47 hst b off hA i0 i1 i2 i3 HW HAL HJU hxb (Lib.hid hsc)).mono fun e w' h => h.cast (by simp [MV.of]; omega)
          | false =>
            have hoc : operC i z.s = i.k := by unfold operC; rw [if_neg (by simp [xBit, hxb])]
            rw [hoc] at hop ⊢
            have hsc := fun W => says_c i.c z.s.a i.k hJ zs1 hop W
            cases hs : saysP (mq i.c) z.s.a i.k with
            | true =>
              rw [hs] at hsc
              exact (rstep_jump_k_j B K (MV.of z) z.at_ i hio w hm hdf hK rfl hKn hK47 hst b off hA i0 i1 i2 i3 HW HAL HJU hxb (Lib.hid hsc)).mono fun e w' h => h.cast (by simp [MV.of]; omega)
            | false =>
              rw [hs] at hsc
              exact (rstep_jump_k_f B K (MV.of z) z.at_ i hio w hm hdf hK rfl hKn hK47 hst b off hA i0 i1 i2 i3 HW HAL HJU hxb (Lib.hid hsc)).mono fun e w' h => h.cast (by simp [MV.of]; omega)
        have HJU := Lib.hid (memC_false hJ)
        have hR : i.c ∈ restL := by
          have hcc := sealsL_cases hsl
          simp only [List.mem_append] at hcc; rcases hcc with (h | h) | h; exact absurd h hAl; exact absurd h hJ; exact h
        have k0 : 0 ≤ i.k := hio.2.2.2.2.2.2.1
        by_cases h5 : i.c = 5
        · refine (rstep_ja B K (MV.of z) z.at_ i hio w hm hdf hK rfl hKn hK47 hst b off hA i0 i1 i2 i3 (Lib.hid h5) (by simpa using h5) HW).mono fun e w' h => h.cast ?_
          unfold mz cstep
          rw [if_neg (by simp [hc]), if_neg (by simp [hc]), if_neg (by simp [memC_false hAl]), if_neg (by simp [memC_false hJ]), if_pos h5]
          simp [MV.of]; omega
        by_cases h6 : i.c = 6
        · refine (rstep_ret B K (MV.of z) z.at_ i hio w hm hdf hK rfl hKn hK47 hst b off hA i0 i1 i2 i3 (Lib.hid h6) (by simpa using h5) (by simpa using h6) HW).mono fun e w' h => h.cast ?_
          unfold mz cstep
          rw [if_neg (by simp [hc]), if_neg (by simp [hc]), if_neg (by simp [memC_false hAl]), if_neg (by simp [memC_false hJ]), if_neg h5, if_pos h6]
          simp [MV.of]
        by_cases h22 : i.c = 22
        · refine (rstep_reta B K (MV.of z) z.at_ i hio w hm hdf hK rfl hKn hK47 hst b off hA i0 i1 i2 i3 (Lib.hid h22) (by simpa using h5) (by simpa using h6) (by simpa using h22) HW).mono fun e w' h => h.cast ?_
          unfold mz cstep
          rw [if_neg (by simp [hc]), if_neg (by simp [hc]), if_neg (by simp [memC_false hAl]), if_neg (by simp [memC_false hJ]), if_neg h5, if_neg h6, if_pos h22]
          simp [MV.of]
        rw [mz_rest hR hc h5 h6 h22]
        exact rstep_moves B K (MV.of z) z.at_ i hio w hm hdf hK rfl hKn hK47 hst b off hA i0 i1 i2 i3 HW HAL HJU (rest_x _ hR) (by simpa using h5) (by simpa using h6) (by simpa using h22) _ ⟨rfl, rfl, hdf⟩
          (Lib.hid fun W hm' hg => rmoves_c q d i hio hR h5 h6 h22 hc z h64 hd B K W hm' (he.grown hg hB))
      · rw [hn.1 hc, mz_wrong hc]
        exact rstep_err B K (MV.of z) z.at_ i hio w hm hdf hK rfl hKn hK47 hst b off hA i0 i1 i2 i3 (cwrong i) (Lib.hid rfl) (by simpa using hc)
  · have e : z.next q d = { z with done := true, err := 21 } := by unfold CS.next; rw [if_neg hdn, if_pos h64]
    rw [e]
    exact rstep_len B K (MV.of z) w hm hdf (by rw [he.2.1]; exact h64)
end Go.Proofs.Ytehpoamideeehaa
set_option linter.unusedVariables false
set_option linter.unusedSimpArgs false
namespace Go.Proofs.Ytehpoamideeehaa
open Go.RowKit
/-! ravelinref03.New: the contract; how far a machine is. -/
def RNewPost (w : World) (A : Option Addr) (cap : Nat) (q : List I4) (Ad : Option Addr) (capd : Nat) (d : List Int) (e : Ending) (w' : World) : Prop :=
  e = .returned (.pointer (some ⟨w.heap.size, 0, none⟩)) ∧ RMAt w' w.heap.size ⟨A, q.length, cap, Ad, d.length, capd⟩ (MV.of CS.zero) ∧ REnv w' w.heap.size ⟨A, q.length, cap, Ad, d.length, capd⟩ q d ∧ Below w.heap.size w w'
theorem rNew_c (A : Option Addr) (cap : Nat) (q : List I4) (Ad : Option Addr) (capd : Nat) (d : List Int) (w : World) (hr : Reads w w.heap.size 4 A q.length (cellsI q)) (hrd : Reads w w.heap.size 1 Ad d.length (numV .u8 d)) :
    Calls Try.prog 22 #[.slice A q.length cap, .slice Ad d.length capd] w (RNewPost w A cap q Ad capd d) := by
  have HR := Lib.hid hr
  have HRD := Lib.hid hrd
  clear hr hrd
  go_enter Try.func22, Try.ntmps22
  go_wp2
  go_ret
  refine ⟨rfl, ⟨rfl, ?_⟩, ⟨rfl, rfl, HR.out.alloc (Nat.le_refl _) _, HRD.out.alloc (Nat.le_refl _) _⟩, below1 _ _⟩
  rw [heap_alloc_new]; rfl
theorem rstepsOf_at {w : World} {B : Nat} {K : RK} {z : CS} (h : RMAt w B K (MV.of z)) : stepsOf B w = z.steps := by
  unfold stepsOf; rw [h.c21]; simp [MV.of]
def rleft (n : Nat) (B : Nat) (t : Value) (w : World) : Nat := match t with | .bool true => 0 | _ => n + 2 - stepsOf B w
end Go.Proofs.Ytehpoamideeehaa
