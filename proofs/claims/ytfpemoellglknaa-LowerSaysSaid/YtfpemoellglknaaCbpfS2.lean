import Derived.Test.YtfpemoellglknaaCbpfS1
set_option linter.unusedVariables false
set_option linter.unusedSimpArgs false
set_option maxRecDepth 100000
namespace Go.Proofs.Ytfpemoellglknaa
open Go.RowKit Go.Shelf
/-! A step of package cbpf's machine: whatever its instruction. -/
theorem jump_right : ∀ c ∈ jumpL, sealsL c = true ∧ c ≠ 32 ∧ c ≠ 96 ∧ c ≠ 97 ∧ c ≠ 2 ∧ c ≠ 3 ∧ c ≠ 52 ∧ memC c aluL = false ∧ fnOf c = 65 := by decide +kernel
def MEnv (w : World) (B : Nat) (K : MK) (q : List I4) (d : List Int) : Prop := K.nq = q.length ∧ K.nd = d.length ∧ Reads w B 4 K.Aq q.length (cellsI q) ∧ Reads w B 1 K.Ad d.length (numV .u8 d) ∧ K.mb < B ∧ DoesAt w K.mb
theorem MEnv.grown {w W : World} {B : Nat} {K : MK} {q : List I4} {d : List Int} (h : MEnv w B K q d) (hg : w.grownBy W (some B)) (hB : B ≤ w.heap.size) : MEnv W B K q d := by
  obtain ⟨h1, h2, h3, h4, h5, h6⟩ := h
  have hk : ∀ b o, b < B → W.cell? ⟨b, o, none⟩ = w.cell? ⟨b, o, none⟩ := fun b o hb => World.cell?_of_block (a := ⟨b, o, none⟩) (hg.block b (by omega) (by simp; omega))
  exact ⟨h1, h2, h3.keep hk, h4.keep hk, h5, h6.kept hg (by simp; omega)⟩
/-- What a method does. -/
theorem method_c (q : List I4) (d : List Int) (i : I4) (hi : i.ok) (hsl : sealsL i.c = true) (z : CS) (hz : z.ok q) (hnd : z.done = false) (hq47 : q.length ≤ 281474976710656) (h64 : d.length = 64) (hd : ∀ x ∈ d, 0 ≤ x ∧ x < 256) (B : Nat) (K : MK) (W : World) (hm : MachAt W B K (MV.of z)) (he : MEnv W B K q d) :
    Calls Try.prog (fnOf i.c) #[.pointer (some ⟨B, 0, none⟩), .agg #[.int .u16 i.c, .int .u8 i.j, .int .u8 i.f, .int .u32 i.k]] W (MPost W B K (mz d i z) (cwrong i)) := by
  obtain ⟨⟨zs1, zs2, zs3, zs4⟩, z2, z3, z4, z5, z6, z7, z8⟩ := hz
  obtain ⟨z41, z42, z43⟩ := z4 hnd
  have hp : 0 ≤ (MV.of z).place := by simp [MV.of]
  have hp2 : (MV.of z).place ≤ 9223372032559808512 := by simp [MV.of]; omega
  have hop := operC_ok hi (⟨zs1, zs2, zs3, zs4⟩ : z.s.ok)
  have hc := sealsL_cases hsl
  have hrd : Reads W W.heap.size 1 K.Ad 64 (numV .u8 d) := by rw [← h64]; exact he.2.2.2.1.more (Nat.le_of_lt hm.lt)
  have hK : K.nd = 64 := by rw [he.2.1, h64]
  by_cases hA : i.c ∈ aluL
  · have hf : fnOf i.c = 64 := by unfold fnOf; rw [if_pos (memC_of hA)]
    rw [hf]
    by_cases hx : hiC i.c = 48
    · have h48 : bits .and .u16 i.c 240 = 48 := hx
      have hm7 : mop i.c = 7 := by unfold mop; rw [if_neg (by omega), if_neg (by omega), if_neg (by omega), if_pos hx]
      by_cases hb : operC i z.s = 0
      · rcases (alu_not48 _ hA).1 hx with hc5 | hc6
        · have hxb : xBit i.c = false := by rw [hc5]; decide +kernel
          have hk0 : i.k = 0 := by unfold operC at hb; rw [if_neg (by simp [hxb])] at hb; exact hb
          have hw : cwrong i = 36 := by
            have hr := alu_right _ hA
            unfold cwrong; rw [if_neg (by simp [hr.1]), if_neg (by simp [hr.2]), if_neg (by simp [hr.2]), if_pos ⟨hc5, hk0⟩]
          rw [hw, mz_wrong (by rw [hw]; decide)]
          exact calu_48k i hi B K (MV.of z) h48 (by simpa [xBit] using hxb) zs1 (operC i z.s) (Lib.hid rfl) hop.1 hop.2 (by simp [hb]) W hm
        · have hxb : xBit i.c = true := by rw [hc6]; decide +kernel
          have hx0 : z.s.x = 0 := by unfold operC at hb; rw [if_pos hxb] at hb; exact hb
          have hw : cwrong i = 0 := by
            have hr := alu_right _ hA
            unfold cwrong; rw [if_neg (by simp [hr.1]), if_neg (by simp [hr.2]), if_neg (by simp [hr.2]), if_neg (by rw [hc6]; simp)]
          have hmz : mz d i z = { MV.of z with through := true, place := (MV.of z).place - 1 } := by
            unfold mz cstep
            rw [if_neg (by simp [hw]), if_neg (by simp [hw]), if_pos (memC_of hA), if_pos ⟨hc6, hx0⟩]
            simp [MV.of, z43]
          rw [hw, hmz]
          exact calu_48x i hi B K (MV.of z) h48 (by have := hxb; simp only [xBit, bne_iff_ne, ne_eq] at this; simpa using this) hp hp2 zs1 (operC i z.s) (Lib.hid rfl) hop.1 hop.2 (by simp [hb]) W hm
      · obtain ⟨e1, e2⟩ := mz_alu (d := d) (z := z) hA (fun h => hb (by unfold operC; rw [if_neg (by rw [h.1]; decide +kernel)]; exact h.2)) (fun h => hb (by unfold operC; rw [if_pos (by rw [h.1]; decide +kernel)]; exact h.2))
        rw [e1, e2, hm7]
        exact calu_48 i hi B K (MV.of z) h48 zs1 (operC i z.s) (Lib.hid rfl) hop.1 hop.2 (by simpa using hb) W hm
    · have hne : i.c ≠ 52 ∧ i.c ≠ 60 := ⟨fun h => hx ((alu_not48 _ hA).2 (.inl h)), fun h => hx ((alu_not48 _ hA).2 (.inr h))⟩
      obtain ⟨e1, e2⟩ := mz_alu (d := d) (z := z) hA (fun h => hne.1 h.1) (fun h => hne.2 h.1)
      rw [e1, e2]
      rcases alu_cases _ hA with ⟨h, hm'⟩ | ⟨h, hm'⟩ | ⟨h, hm'⟩ | ⟨h, _⟩ | ⟨h, hm'⟩ | ⟨h, hm'⟩ | ⟨h, hm'⟩ | ⟨h, hm'⟩ | ⟨h, hm'⟩
      · rw [hm']; exact calu_0 i hi B K (MV.of z) h zs1 (operC i z.s) (Lib.hid rfl) hop.1 hop.2 W hm
      · rw [hm']; exact calu_16 i hi B K (MV.of z) h zs1 (operC i z.s) (Lib.hid rfl) hop.1 hop.2 W hm
      · rw [hm']; exact calu_32 i hi B K (MV.of z) h zs1 (operC i z.s) (Lib.hid rfl) hop.1 hop.2 W hm
      · exact absurd h hx
      · rw [hm']; exact calu_64 i hi B K (MV.of z) h zs1 (operC i z.s) (Lib.hid rfl) hop.1 hop.2 W hm
      · rw [hm']; exact calu_80 i hi B K (MV.of z) h zs1 (operC i z.s) (Lib.hid rfl) hop.1 hop.2 W hm
      · rw [hm']; exact calu_96 i hi B K (MV.of z) h zs1 (operC i z.s) (Lib.hid rfl) hop.1 hop.2 W hm
      · rw [hm']; exact calu_112 i hi B K (MV.of z) h zs1 (operC i z.s) (Lib.hid rfl) hop.1 hop.2 W hm
      · rw [hm']; exact calu_160 i hi B K (MV.of z) h zs1 (operC i z.s) (Lib.hid rfl) hop.1 hop.2 W hm
  by_cases hJ : i.c ∈ jumpL
  · obtain ⟨e1, e2⟩ := mz_jump (d := d) (z := z) hJ hi
    rw [e1, e2, (jump_right _ hJ).2.2.2.2.2.2.2.2]
    have hway : wayC i z.s = if saysP (mq i.c) z.s.a (operC i z.s) = true then i.j else i.f := rfl
    rw [hway]
    rcases jump_cases _ hJ with ⟨h, hm'⟩ | ⟨h, hm'⟩ | ⟨h, hm'⟩ | ⟨h, hm'⟩
    · cases hs : (z.s.a == operC i z.s) with
      | true => rw [if_pos (by rw [hm']; simpa [saysP] using hs)]; exact cbr_16_j i hi B K (MV.of z) h hp hp2 zs1 (operC i z.s) (Lib.hid rfl) hop.1 hop.2 hs W hm
      | false => rw [if_neg (by rw [hm']; simpa [saysP] using hs)]; exact cbr_16_f i hi B K (MV.of z) h hp hp2 zs1 (operC i z.s) (Lib.hid rfl) hop.1 hop.2 hs W hm
    · cases hs : decide (operC i z.s < z.s.a) with
      | true => rw [if_pos (by rw [hm']; simpa [saysP] using hs)]; exact cbr_32_j i hi B K (MV.of z) h hp hp2 zs1 (operC i z.s) (Lib.hid rfl) hop.1 hop.2 hs W hm
      | false => rw [if_neg (by rw [hm']; simpa [saysP] using hs)]; exact cbr_32_f i hi B K (MV.of z) h hp hp2 zs1 (operC i z.s) (Lib.hid rfl) hop.1 hop.2 hs W hm
    · cases hs : decide (operC i z.s ≤ z.s.a) with
      | true => rw [if_pos (by rw [hm']; simpa [saysP] using hs)]; exact cbr_48_j i hi B K (MV.of z) h hp hp2 zs1 (operC i z.s) (Lib.hid rfl) hop.1 hop.2 hs W hm
      | false => rw [if_neg (by rw [hm']; simpa [saysP] using hs)]; exact cbr_48_f i hi B K (MV.of z) h hp hp2 zs1 (operC i z.s) (Lib.hid rfl) hop.1 hop.2 hs W hm
    · cases hs : (bits .and .u32 z.s.a (operC i z.s) != 0) with
      | true => rw [if_pos (by rw [hm']; simpa [saysP] using hs)]; exact cbr_64_j i hi B K (MV.of z) h hp hp2 zs1 (operC i z.s) (Lib.hid rfl) hop.1 hop.2 hs W hm
      | false => rw [if_neg (by rw [hm']; simpa [saysP] using hs)]; exact cbr_64_f i hi B K (MV.of z) h hp hp2 zs1 (operC i z.s) (Lib.hid rfl) hop.1 hop.2 hs W hm
  have hR : i.c ∈ restL := by simp only [List.mem_append] at hc; rcases hc with (h | h) | h; exact absurd h hA; exact absurd h hJ; exact h
  obtain ⟨c, jt, jf, k⟩ := i
  dsimp only at *
  obtain ⟨k0, k1⟩ : 0 ≤ k ∧ k < 4294967296 := ⟨hi.2.2.2.2.2.2.1, hi.2.2.2.2.2.2.2⟩
  simp only [restL, List.mem_cons, List.not_mem_nil, or_false] at hR
  rcases hR with rfl | rfl | rfl | rfl | rfl | rfl | rfl | rfl | rfl | rfl | rfl | rfl | rfl | rfl | rfl
  · by_cases hk : k < 64
    · by_cases h4 : k % 4 = 0
      · have hw : cwrong ⟨32, jt, jf, k⟩ = 0 := by unfold cwrong; rw [if_neg (by dsimp only; decide), if_neg (by dsimp only; omega), if_neg (by dsimp only; omega), if_neg (by dsimp only; omega)]
        have hmz := mz_rest (d := d) (z := z) (i := ⟨32, jt, jf, k⟩) (by simp [restL]) hw (by dsimp only; decide) (by dsimp only; decide) (by dsimp only; decide)
        rw [hw, hmz, show fnOf 32 = 55 by decide +kernel]
        exact cload_ok ⟨32, jt, jf, k⟩ hi B K (MV.of z) hK hk h4 d h64 hd W hm hrd
      · have hw : cwrong ⟨32, jt, jf, k⟩ = 34 := by unfold cwrong; rw [if_neg (by dsimp only; decide), if_pos (by dsimp only; omega)]
        rw [hw, mz_wrong (by rw [hw]; decide), show fnOf 32 = 55 by decide +kernel]
        exact cload_odd ⟨32, jt, jf, k⟩ hi B K (MV.of z) hK hk h4 W hm
    · have hw : cwrong ⟨32, jt, jf, k⟩ = 34 := by unfold cwrong; rw [if_neg (by dsimp only; decide), if_pos (by dsimp only; omega)]
      rw [hw, mz_wrong (by rw [hw]; decide), show fnOf 32 = 55 by decide +kernel]
      exact cload_big ⟨32, jt, jf, k⟩ hi B K (MV.of z) (by dsimp only; omega) W hm
  · have hw : cwrong ⟨128, jt, jf, k⟩ = 0 := by unfold cwrong; rw [if_neg (by dsimp only; decide), if_neg (by dsimp only; omega), if_neg (by dsimp only; omega), if_neg (by dsimp only; omega)]
    have hmz := mz_rest (d := d) (z := z) (i := ⟨128, jt, jf, k⟩) (by simp [restL]) hw (by dsimp only; decide) (by dsimp only; decide) (by dsimp only; decide)
    rw [hw, hmz, show fnOf 128 = 56 by decide +kernel]
    exact clength_a ⟨128, jt, jf, k⟩ hi B K (MV.of z) (by dsimp only; decide +kernel) W hm
  · have hw : cwrong ⟨129, jt, jf, k⟩ = 0 := by unfold cwrong; rw [if_neg (by dsimp only; decide), if_neg (by dsimp only; omega), if_neg (by dsimp only; omega), if_neg (by dsimp only; omega)]
    have hmz := mz_rest (d := d) (z := z) (i := ⟨129, jt, jf, k⟩) (by simp [restL]) hw (by dsimp only; decide) (by dsimp only; decide) (by dsimp only; decide)
    rw [hw, hmz, show fnOf 129 = 56 by decide +kernel]
    exact clength_x ⟨129, jt, jf, k⟩ hi B K (MV.of z) (by dsimp only; decide +kernel) W hm
  · have hw : cwrong ⟨0, jt, jf, k⟩ = 0 := by unfold cwrong; rw [if_neg (by dsimp only; decide), if_neg (by dsimp only; omega), if_neg (by dsimp only; omega), if_neg (by dsimp only; omega)]
    have hmz := mz_rest (d := d) (z := z) (i := ⟨0, jt, jf, k⟩) (by simp [restL]) hw (by dsimp only; decide) (by dsimp only; decide) (by dsimp only; decide)
    rw [hw, hmz, show fnOf 0 = 57 by decide +kernel]
    exact cnumber_a ⟨0, jt, jf, k⟩ hi B K (MV.of z) (by dsimp only; decide +kernel) W hm
  · have hw : cwrong ⟨1, jt, jf, k⟩ = 0 := by unfold cwrong; rw [if_neg (by dsimp only; decide), if_neg (by dsimp only; omega), if_neg (by dsimp only; omega), if_neg (by dsimp only; omega)]
    have hmz := mz_rest (d := d) (z := z) (i := ⟨1, jt, jf, k⟩) (by simp [restL]) hw (by dsimp only; decide) (by dsimp only; decide) (by dsimp only; decide)
    rw [hw, hmz, show fnOf 1 = 57 by decide +kernel]
    exact cnumber_x ⟨1, jt, jf, k⟩ hi B K (MV.of z) (by dsimp only; decide +kernel) W hm
  · by_cases hk : k < 16
    · have hw : cwrong ⟨96, jt, jf, k⟩ = 0 := by unfold cwrong; rw [if_neg (by dsimp only; decide), if_neg (by dsimp only; omega), if_neg (by dsimp only; omega), if_neg (by dsimp only; omega)]
      have hmz := mz_rest (d := d) (z := z) (i := ⟨96, jt, jf, k⟩) (by simp [restL]) hw (by dsimp only; decide) (by dsimp only; decide) (by dsimp only; decide)
      rw [hw, hmz, show fnOf 96 = 58 by decide +kernel]
      exact crecall_a ⟨96, jt, jf, k⟩ hi B K (MV.of z) (by dsimp only; decide +kernel) hk W hm
    · have hw : cwrong ⟨96, jt, jf, k⟩ = 35 := by unfold cwrong; rw [if_neg (by dsimp only; decide), if_neg (by dsimp only; omega), if_pos (by dsimp only; omega)]
      rw [hw, mz_wrong (by rw [hw]; decide), show fnOf 96 = 58 by decide +kernel]
      exact crecall_no ⟨96, jt, jf, k⟩ hi B K (MV.of z) (by dsimp only; omega) W hm
  · by_cases hk : k < 16
    · have hw : cwrong ⟨97, jt, jf, k⟩ = 0 := by unfold cwrong; rw [if_neg (by dsimp only; decide), if_neg (by dsimp only; omega), if_neg (by dsimp only; omega), if_neg (by dsimp only; omega)]
      have hmz := mz_rest (d := d) (z := z) (i := ⟨97, jt, jf, k⟩) (by simp [restL]) hw (by dsimp only; decide) (by dsimp only; decide) (by dsimp only; decide)
      rw [hw, hmz, show fnOf 97 = 58 by decide +kernel]
      exact crecall_x ⟨97, jt, jf, k⟩ hi B K (MV.of z) (by dsimp only; decide +kernel) hk W hm
    · have hw : cwrong ⟨97, jt, jf, k⟩ = 35 := by unfold cwrong; rw [if_neg (by dsimp only; decide), if_neg (by dsimp only; omega), if_pos (by dsimp only; omega)]
      rw [hw, mz_wrong (by rw [hw]; decide), show fnOf 97 = 58 by decide +kernel]
      exact crecall_no ⟨97, jt, jf, k⟩ hi B K (MV.of z) (by dsimp only; omega) W hm
  · by_cases hk : k < 16
    · have hw : cwrong ⟨2, jt, jf, k⟩ = 0 := by unfold cwrong; rw [if_neg (by dsimp only; decide), if_neg (by dsimp only; omega), if_neg (by dsimp only; omega), if_neg (by dsimp only; omega)]
      have hmz := mz_rest (d := d) (z := z) (i := ⟨2, jt, jf, k⟩) (by simp [restL]) hw (by dsimp only; decide) (by dsimp only; decide) (by dsimp only; decide)
      rw [hw, hmz, show fnOf 2 = 59 by decide +kernel]
      exact ckeep_2 ⟨2, jt, jf, k⟩ hi B K (MV.of z) (by dsimp only; decide +kernel) hk W hm
    · have hw : cwrong ⟨2, jt, jf, k⟩ = 35 := by unfold cwrong; rw [if_neg (by dsimp only; decide), if_neg (by dsimp only; omega), if_pos (by dsimp only; omega)]
      rw [hw, mz_wrong (by rw [hw]; decide), show fnOf 2 = 59 by decide +kernel]
      exact ckeep_no ⟨2, jt, jf, k⟩ hi B K (MV.of z) (by dsimp only; omega) W hm
  · by_cases hk : k < 16
    · have hw : cwrong ⟨3, jt, jf, k⟩ = 0 := by unfold cwrong; rw [if_neg (by dsimp only; decide), if_neg (by dsimp only; omega), if_neg (by dsimp only; omega), if_neg (by dsimp only; omega)]
      have hmz := mz_rest (d := d) (z := z) (i := ⟨3, jt, jf, k⟩) (by simp [restL]) hw (by dsimp only; decide) (by dsimp only; decide) (by dsimp only; decide)
      rw [hw, hmz, show fnOf 3 = 59 by decide +kernel]
      exact ckeep_3 ⟨3, jt, jf, k⟩ hi B K (MV.of z) (by dsimp only; decide +kernel) hk W hm
    · have hw : cwrong ⟨3, jt, jf, k⟩ = 35 := by unfold cwrong; rw [if_neg (by dsimp only; decide), if_neg (by dsimp only; omega), if_pos (by dsimp only; omega)]
      rw [hw, mz_wrong (by rw [hw]; decide), show fnOf 3 = 59 by decide +kernel]
      exact ckeep_no ⟨3, jt, jf, k⟩ hi B K (MV.of z) (by dsimp only; omega) W hm
  · have hw : cwrong ⟨132, jt, jf, k⟩ = 0 := by unfold cwrong; rw [if_neg (by dsimp only; decide), if_neg (by dsimp only; omega), if_neg (by dsimp only; omega), if_neg (by dsimp only; omega)]
    have hmz := mz_rest (d := d) (z := z) (i := ⟨132, jt, jf, k⟩) (by simp [restL]) hw (by dsimp only; decide) (by dsimp only; decide) (by dsimp only; decide)
    rw [hw, hmz, show fnOf 132 = 60 by decide +kernel]
    exact cnegate ⟨132, jt, jf, k⟩ hi B K (MV.of z) W hm
  · have hw : cwrong ⟨5, jt, jf, k⟩ = 0 := by unfold cwrong; rw [if_neg (by dsimp only; decide), if_neg (by dsimp only; omega), if_neg (by dsimp only; omega), if_neg (by dsimp only; omega)]
    have hmz : mz d ⟨5, jt, jf, k⟩ z = { MV.of z with place := (MV.of z).place + k } := by
      unfold mz cstep
      rw [if_neg (by simp [hw]), if_neg (by simp [hw]), if_neg (by dsimp only; decide), if_neg (by dsimp only; decide)]
      simp [MV.of, k0]
      try omega
    rw [hw, hmz, show fnOf 5 = 61 by decide +kernel]
    exact cjump ⟨5, jt, jf, k⟩ hi B K (MV.of z) hp hp2 W hm
  · have hw : cwrong ⟨6, jt, jf, k⟩ = 0 := by unfold cwrong; rw [if_neg (by dsimp only; decide), if_neg (by dsimp only; omega), if_neg (by dsimp only; omega), if_neg (by dsimp only; omega)]
    have hmz : mz d ⟨6, jt, jf, k⟩ z = { MV.of z with through := true, ans := k, place := (MV.of z).place - 1 } := by
      unfold mz cstep
      rw [if_neg (by simp [hw]), if_neg (by simp [hw]), if_neg (by dsimp only; decide), if_neg (by dsimp only; decide)]
      simp [MV.of, k0]
      try omega
    rw [hw, hmz, show fnOf 6 = 62 by decide +kernel]
    exact cend_k ⟨6, jt, jf, k⟩ hi B K (MV.of z) (by dsimp only; decide +kernel) hp hp2 W hm
  · have hw : cwrong ⟨22, jt, jf, k⟩ = 0 := by unfold cwrong; rw [if_neg (by dsimp only; decide), if_neg (by dsimp only; omega), if_neg (by dsimp only; omega), if_neg (by dsimp only; omega)]
    have hmz : mz d ⟨22, jt, jf, k⟩ z = { MV.of z with through := true, ans := (MV.of z).a, place := (MV.of z).place - 1 } := by
      unfold mz cstep
      rw [if_neg (by simp [hw]), if_neg (by simp [hw]), if_neg (by dsimp only; decide), if_neg (by dsimp only; decide)]
      simp [MV.of, k0]
      try omega
    rw [hw, hmz, show fnOf 22 = 62 by decide +kernel]
    exact cend_a ⟨22, jt, jf, k⟩ hi B K (MV.of z) (by dsimp only; decide +kernel) hp hp2 W hm
  · have hw : cwrong ⟨7, jt, jf, k⟩ = 0 := by unfold cwrong; rw [if_neg (by dsimp only; decide), if_neg (by dsimp only; omega), if_neg (by dsimp only; omega), if_neg (by dsimp only; omega)]
    have hmz := mz_rest (d := d) (z := z) (i := ⟨7, jt, jf, k⟩) (by simp [restL]) hw (by dsimp only; decide) (by dsimp only; decide) (by dsimp only; decide)
    rw [hw, hmz, show fnOf 7 = 63 by decide +kernel]
    exact cmove_x ⟨7, jt, jf, k⟩ hi B K (MV.of z) (by dsimp only; decide +kernel) W hm
  · have hw : cwrong ⟨135, jt, jf, k⟩ = 0 := by unfold cwrong; rw [if_neg (by dsimp only; decide), if_neg (by dsimp only; omega), if_neg (by dsimp only; omega), if_neg (by dsimp only; omega)]
    have hmz := mz_rest (d := d) (z := z) (i := ⟨135, jt, jf, k⟩) (by simp [restL]) hw (by dsimp only; decide) (by dsimp only; decide) (by dsimp only; decide)
    rw [hw, hmz, show fnOf 135 = 63 by decide +kernel]
    exact cmove_a ⟨135, jt, jf, k⟩ hi B K (MV.of z) (by dsimp only; decide +kernel) W hm
end Go.Proofs.Ytfpemoellglknaa
