import Derived.Test.YtfpemoellglknaaCbpfS2
import Derived.WalkSpells
set_option linter.unusedVariables false
set_option linter.unusedSimpArgs false
set_option maxRecDepth 100000
namespace Go.Proofs.Ytfpemoellglknaa
open Go.RowKit Go.Shelf
/-! cbpf.Step, New, Answer, Run: the contracts. -/
theorem enters_code (c : Int) : ∀ args w, (callFunc (fnOf c) args).run Try.prog w = .ok (.enter (fnOf c) args) w := by
  unfold fnOf
  split
  · exact enters_fn Try.func64 (by kernel_rfl) rfl
  split
  · exact enters_fn Try.func65 (by kernel_rfl) rfl
  split
  · exact enters_fn Try.func55 (by kernel_rfl) rfl
  split
  · exact enters_fn Try.func56 (by kernel_rfl) rfl
  split
  · exact enters_fn Try.func57 (by kernel_rfl) rfl
  split
  · exact enters_fn Try.func58 (by kernel_rfl) rfl
  split
  · exact enters_fn Try.func59 (by kernel_rfl) rfl
  split
  · exact enters_fn Try.func60 (by kernel_rfl) rfl
  split
  · exact enters_fn Try.func61 (by kernel_rfl) rfl
  split
  · exact enters_fn Try.func62 (by kernel_rfl) rfl
  · exact enters_fn Try.func63 (by kernel_rfl) rfl
theorem mz_bounds (d : List Int) (i : I4) (hi : i.ok) (q : List I4) (z : CS) (hz : z.ok q) (hq47 : q.length ≤ 281474976710656) : (-1 ≤ (mz d i z).place ∧ (mz d i z).place ≤ 9223372036854775806) ∧ (0 ≤ (mz d i z).steps ∧ (mz d i z).steps ≤ 9223372036854775806) := by
  obtain ⟨z1, z2, z3, z4, z5, z6, z7, z8⟩ := hz
  unfold mz
  split
  · simp [MV.of]; omega
  · split
    · rename_i on s' hs
      have e1 := cstep_on hs
      have e2 := cstep_on_le hi hs
      simp only
      omega
    · simp [MV.of]; omega
    · simp [MV.of]; omega
theorem Step_c (B : Nat) (K : MK) (q : List I4) (d : List Int) (z : CS) (w : World) (hm : MachAt w B K (MV.of z)) (he : MEnv w B K q d) (hz : z.ok q) (hq : ∀ x ∈ q, x.ok) (hd : ∀ x ∈ d, 0 ≤ x ∧ x < 256) (hq47 : q.length ≤ 281474976710656) :
    Calls Try.prog 29 #[.pointer (some ⟨B, 0, none⟩)] w (StepPost w B K (MV.of (z.next q d))) := by
  have hB := Nat.le_of_lt hm.lt
  by_cases hdn : z.done = true
  · have e : z.next q d = z := by unfold CS.next; rw [if_pos hdn]
    rw [e]; exact step_done B K _ w hm hdn
  have hdf : z.done = false := by simpa using hdn
  by_cases h64 : d.length = 64
  · cases hx : q[z.at_]? with
    | none =>
      have e : z.next q d = { z with done := true, err := 33 } := by unfold CS.next; rw [if_neg hdn, if_neg (by simp [h64]), hx]
      rw [e]
      exact step_end B K (MV.of z) w hm hdf (by rw [he.2.1, h64]) (by rw [he.1]; have := List.getElem?_eq_none_iff.1 hx; simp [MV.of]; omega)
    | some i =>
      have hio := hq i (List.mem_of_getElem? hx)
      have hlt := (List.getElem?_eq_some_iff.1 hx).1
      obtain ⟨b, off, hA, hb, i0, i1, i2, i3⟩ := he.2.2.1.insn hx
      have hn := next_of (d := d) hdf h64 hx hz
      cases hsl : sealsL i.c with
      | true =>
        obtain ⟨hb1, hb2⟩ := mz_bounds d i hio q z hz hq47
        refine (step_go B K (MV.of z) (mz d i z) (cwrong i) (fnOf i.c) z.at_ i w hm hdf (by rw [he.2.1, h64]) rfl (by rw [he.1]; exact hlt) hb1 hb2 b off hA i0 i1 i2 i3 (enters_code i.c)
          (Lib.hid fun W hg => does_yes (he.grown hg hB).2.2.2.2.2 hsl hio.1 hio.2.1) (Lib.hid fun W hm' hg => method_c q d i hio hsl z hz hdf hq47 h64 hd B K W hm' (he.grown hg hB))).mono ?_
        rintro e w' ⟨g1, g2⟩
        by_cases hc : cwrong i = 0
        · rw [hn.2 hc]; exact g2 hc
        · rw [hn.1 hc]; exact g1 hc
      | false =>
        have hc : cwrong i = 32 := by unfold cwrong; rw [if_pos hsl]
        rw [hn.1 (by rw [hc]; decide), mz_wrong (by rw [hc]; decide), hc]
        exact step_code B K (MV.of z) z.at_ i w hm hdf (by rw [he.2.1, h64]) rfl (by rw [he.1]; exact hlt) b off hA i0 i1 i2 i3 (Lib.hid fun W hg => does_not (he.grown hg hB).2.2.2.2.2 hsl hio.1 hio.2.1)
  · have e : z.next q d = { z with done := true, err := 21 } := by unfold CS.next; rw [if_neg hdn, if_pos h64]
    rw [e]
    exact step_len B K (MV.of z) w hm hdf (by rw [he.2.1]; exact h64)
theorem Answer_c (B : Nat) (K : MK) (z : CS) (w : World) (hm : MachAt w B K (MV.of z)) : Calls Try.prog 30 #[.pointer (some ⟨B, 0, none⟩)] w (AnsPost w z.answer) := by
  have c24 := hm.c24
  have c21 := hm.c21
  have c20 := hm.c20
  have c23 := hm.c23
  simp only [MV.of] at c24 c21 c20 c23
  clear hm
  by_cases he : z.err = 0
  · have HX := Lib.hid (show z.answer = (z.ans, (z.steps : Int), 0, 0) by unfold CS.answer; rw [if_neg (by simp [he])])
    rw [he] at c24
    clear he
    go_enter Try.func30, Try.ntmps30
    go_wp2
    go_quiet (fail)
    go_wp2
    refine bodyPost_ret (v := .tuple #[.int .u32 z.ans, .int .i64 z.steps, .int .i64 0, .int .i64 0]) (by simp [results, Try.results30, go_sem]) rfl ⟨by rw [HX.out]; rfl, _, rfl⟩
  · have HX := Lib.hid (show z.answer = (0, (z.steps : Int), z.err, (z.at_ : Int)) by unfold CS.answer; rw [if_pos he])
    have he' : (z.err != 0) = true := by simpa using he
    clear he
    go_enter Try.func30, Try.ntmps30
    go_wp2
    go_quiet (fail)
    go_wp2
    refine bodyPost_ret (v := .tuple #[.int .u32 0, .int .i64 z.steps, .int .i64 z.err, .int .i64 z.at_]) (by simp [results, Try.results30, go_sem]) rfl ⟨by rw [HX.out]; rfl, _, rfl⟩
end Go.Proofs.Ytfpemoellglknaa
