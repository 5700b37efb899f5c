import Derived.Test.YtehpoamideeehaaMirIn
set_option linter.unusedVariables false
set_option linter.unusedSimpArgs false
namespace Go.Proofs.Ytehpoamideeehaa
open Go.RowKit
/-! ravelinref12.Run: the walk. -/
set_option maxRecDepth 100000 in
set_option maxHeartbeats 1600000 in
theorem rMRun_c (A : Option Addr) (regs : Int) (cap : Nat) (q : List R7) (Ad : Option Addr) (capd : Nat) (dat : List Int) (hq : ∀ x ∈ q, x.ok) (hn : q.length ≤ 9223372036854775807) (hdok : ∀ x ∈ dat, 0 ≤ x ∧ x < 256) (hdn : dat.length ≤ 9223372036854775807) (w : World)
    (hr : Reads w w.heap.size 7 A q.length (cellsR q)) (hrd : Reads w w.heap.size 1 Ad dat.length (numV .u8 dat)) :
    Calls Try.prog 13 #[.agg #[.int .i64 regs, .slice A q.length cap], .slice Ad dat.length capd] w (RunPost w (runP regs q dat)) := by
  have HR := Lib.hid hr
  have HQ := Lib.hid hq
  have HDR := Lib.hid hrd
  have HD := Lib.hid hdok
  clear hr hq hrd hdok
  obtain ⟨RES, hRES⟩ : ∃ x, x = runP regs q dat := ⟨_, rfl⟩
  rw [← hRES]
  by_cases hz0 : (mcheckP regs q).1 = 0
  · by_cases hd64 : dat.length = 64
    · have hres : mrun q dat q.length 0 (List.replicate regs.toNat 0) 0 = RES := by rw [hRES]; unfold runP; rw [if_neg (by simp [hz0]), if_neg (by simp [hd64])]
      obtain ⟨g1, g2, g3, g4, _, _⟩ := mcheckP_zero hz0
      obtain ⟨N, rfl⟩ := nat_of (show 0 ≤ regs by omega)
      simp only [Int.toNat_natCast] at hres
      have HRES := Lib.hid hres
      have hz0' : ((mcheckP N q).1 != 0) = false := by simp [hz0]
      rw [hd64] at HDR ⊢
      have HZ0 := Lib.hid hz0
      have HD64 := Lib.hid hd64
      clear hres hRES hz0 hd64
      go_enter Try.func13, Try.ntmps13
      go_wp2_with fail
      refine (rMCheck_c A N cap q HQ.out hn _ (HR.out.up (below1 w _))).mono ?_
      rintro e w1 ⟨rfl, hb1⟩
      have c0 : w1.cell? ⟨w.heap.size, 0, none⟩ = some (.int .i64 N) := keepC hb1 (by simp [go_sem])
      have c1 : w1.cell? ⟨w.heap.size, 1, none⟩ = some (.slice A q.length cap) := keepC hb1 (by simp [go_sem])
      have hb1' := below_t (below1 w _) hb1
      clear hb1
      go_wp2_with fail
      go_region_held3 (fun W => W.cell? ⟨w.heap.size, 0, none⟩ = some (.int .i64 N) ∧ W.cell? ⟨w.heap.size, 1, none⟩ = some (.slice A q.length cap) ∧ Below w.heap.size w W)
        (first | exact ⟨c0, c1, below_dr hb1'⟩ | assumption | exact ⟨keepC hb2 c0, keepC hb2 c1, hb2'⟩ | exact ⟨keepC hb3 (keepC hb2 c0), keepC hb3 (keepC hb2 c1), hb3'⟩)
        (first
          | (go_at_call 26; refine (Own_c N (by omega) (by omega) _).mono ?_; rintro e w2 ⟨gh, caph, rfl, hH, hb2⟩; have hb2' := below_t (below_dr hb1') hb2; have HH := Lib.hid hH; clear hH)
          | (go_at_call 25; refine (In_c A N cap q gh caph Ad capd dat HZ0.out HQ.out HD64.out HD.out w2 (HR.out.up hb2') HH.out (HDR.out.up hb2')).mono ?_; rw [HRES.out]; rintro e w3 ⟨rfl, hb3⟩; have hb3' := below_t hb2' hb3; obtain ⟨rv, rs, rf, ra⟩ := RES; simp only [ret4]))
      go_wp2
      refine bodyPost_ret (v := .tuple #[.int .u32 rv, .int .i64 rs, .int .i64 rf, .int .i64 ra]) (by simp [results, Try.results13, go_sem]) rfl ⟨rfl, hb3'⟩
    · have hf : runP regs q dat = (0, 0, 21, 0) := by unfold runP; rw [if_neg (by simp [hz0]), if_pos (by simpa using hd64)]
      have HF := Lib.hid (show RES = (0, 0, 21, 0) by rw [hRES, hf])
      have hz0' : ((mcheckP regs q).1 != 0) = false := by simp [hz0]
      have hdd : ((dat.length : Int) != 64) = true := by simp; omega
      clear hRES hz0 hd64 hf
      go_enter Try.func13, Try.ntmps13
      go_wp2_with fail
      refine (rMCheck_c A regs cap q HQ.out hn _ (HR.out.up (below1 w _))).mono ?_
      rintro e w1 ⟨rfl, hb1⟩
      go_wp2
      refine bodyPost_ret (v := .tuple #[.int .u32 0, .int .i64 0, .int .i64 21, .int .i64 0]) (by simp [results, Try.results13, go_sem]) rfl ⟨ret4_eq HF.out, below_t (below1 w _) hb1⟩
  · have hf : runP regs q dat = (0, 0, (mcheckP regs q).1, (mcheckP regs q).2) := by unfold runP; rw [if_pos (by simpa using hz0)]
    have HF := Lib.hid (show RES = (0, 0, (mcheckP regs q).1, (mcheckP regs q).2) by rw [hRES, hf])
    have hz0' : ((mcheckP regs q).1 != 0) = true := by simpa using hz0
    clear hRES hz0 hf
    go_enter Try.func13, Try.ntmps13
    go_wp2_with fail
    refine (rMCheck_c A regs cap q HQ.out hn _ (HR.out.up (below1 w _))).mono ?_
    rintro e w1 ⟨rfl, hb1⟩
    go_wp2
    refine bodyPost_ret (v := .tuple #[.int .u32 0, .int .i64 0, .int .i64 (mcheckP regs q).1, .int .i64 (mcheckP regs q).2]) (by simp [results, Try.results13, go_sem]) rfl ⟨ret4_eq HF.out, below_t (below1 w _) hb1⟩
end Go.Proofs.Ytehpoamideeehaa
