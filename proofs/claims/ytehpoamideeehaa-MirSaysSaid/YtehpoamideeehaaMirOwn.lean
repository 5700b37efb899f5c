import Derived.Test.YtehpoamideeehaaMirRun
import Derived.Test.YtehpoamideeehaaOpenG
set_option linter.unusedVariables false
set_option linter.unusedSimpArgs false
namespace Go.Proofs.Ytehpoamideeehaa
open Go.RowKit
/-! ravelinref12.Own: the walk. -/
def ids (N : Nat) : List Int := (List.range N).map (fun i : Nat => (i : Int))
theorem ids_get {N i : Nat} (h : i < N) : (ids N)[i]? = some (i : Int) := by simp [ids, h]
theorem ids_snoc (k : Nat) : numV .i64 (ids k) ++ [Value.int .i64 k] = numV .i64 (ids (k + 1)) := by simp [ids, numV, List.range_succ]
theorem infoI64 : (Try.prog.info? 3).map (fun i => (i.zero, i.size, i.bytes)) = some (some (.int .i64 0), 1, 8) := by kernel_rfl
def OwnPost (w : World) (N : Nat) (e : Ending) (w' : World) : Prop := ∃ g cap, e = .returned (.slice (some ⟨g, 0, none⟩) N cap) ∧ Reads w' w'.heap.size 1 (some ⟨g, 0, none⟩) N (numV .i64 (ids N)) ∧ Below w.heap.size w w'
set_option maxHeartbeats 800000 in
theorem Own_c (N : Nat) (h1 : 1 ≤ N) (h64 : N ≤ 64) (w : World) : Calls Try.prog 26 #[.int .i64 N] w (OwnPost w N) := by
  obtain ⟨i0, HI⟩ : ∃ i0, Hid (Try.prog.info? 3 = some i0 ∧ i0.zero = some (.int .i64 0) ∧ i0.size = 1 ∧ i0.bytes = 8) := by
    obtain ⟨i0, hi, hz0, hz1, hz2⟩ := info_parts infoI64
    exact ⟨i0, Lib.hid ⟨hi, hz0, hz1, hz2⟩⟩
  have h64' : (N : Int) ≤ 64 := by omega
  go_enter Try.func26, Try.ntmps26
  go_wp2_with fail
  go_loopw [3, 4] (fun v i wr => ∃ k : Nat, k ≤ N ∧ i = .int .i64 k ∧ Hid (wr.ownsRow w.heap.size 3 1 v k (numV .i64 (ids k))) ∧ Below w.heap.size w wr) (fun _ i _ => N - (intOf i).toNat)
  case atStart => exact ⟨0, by omega, rfl, Lib.hid ⟨by simp [numV, ids], .inl ⟨rfl, rfl⟩⟩, Below.refl _ _⟩
  case round =>
    obtain ⟨k, hk, rfl, HO, hbw⟩ := hrel
    have hs := hbw.size
    by_cases hkn : k < N
    · have hkn' : (k : Int) < N := by omega
      go_wp2_with (at_builtin; refine wpList_app rfl (.tmp 10) (.tmp 12) 53 rfl w.heap.size 3 i0 _ 1 8 Try.underlying53 HI.out.1 HI.out.2.1 HI.out.2.2.1 HI.out.2.2.2 rfl (by decide) _ k (numV .i64 (ids k)) rfl (HO.out.alloc _) _ (wr.heap.size + 1) 1 1 [.int .i64 k] rfl (fun h => by cases h) (reads_new wr _ _ 1 1 [.int .i64 k] rfl rfl) (by intro u hu; simp at hu; subst hu; rfl) (by simp only [maxLen]; omega) (by omega) (by simp; omega) ?_; intro v1 w1 hown1 hg1 _; have hb1 : Below w.heap.size w w1 := below_gr (below_al hbw _) hg1 (by simp; omega) (fun k hk => own_ge HO.out k hk); rw [ids_snoc] at hown1; have HO1 := Lib.hid hown1; clear hg1 hown1)
      go_roundw
      case rel => exact ⟨k + 1, by omega, by go_num, HO1, hb1⟩
      case measure => simp [intOf]; omega
    · obtain rfl : k = N := by omega
      obtain ⟨g, cap, hv, hge, hlt⟩ := HO.out.form (by omega)
      subst hv
      have hr := Reads.of_own HO.out
      have HR := Lib.hid hr
      clear hr HO
      go_wp2
      go_ret
      exact ⟨g, cap, rfl, HR.out, hbw⟩
end Go.Proofs.Ytehpoamideeehaa
