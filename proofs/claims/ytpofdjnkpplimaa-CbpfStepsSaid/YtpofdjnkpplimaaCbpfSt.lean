import Derived.Test.YtpofdjnkpplimaaCbpfS4
import Derived.Test.YtpofdjnkpplimaaStep
import Derived.Deep.RegionHeld3
import Derived.Deep.DeepMust
set_option linter.unusedVariables false
set_option linter.unusedSimpArgs false
namespace Go.Proofs.Ytpofdjnkpplimaa
open Go.RowKit Go.Shelf
/-! Machine.State: the contract. -/
set_option maxHeartbeats 400000 in
theorem CloneU_c (ad : Addr) (n cap : Nat) (cells : List Value) (hn : n * 4 ≤ 140737488351232) (h1 : ∀ u ∈ cells, u.oneCell' = true) (w : World) (hr : Reads w w.heap.size 1 (some ad) n cells) :
    Calls Try.prog 34 #[.slice (some ad) n cap] w fun e w' => ∃ g c, e = .returned (.slice (some ⟨g, 0, none⟩) n c) ∧ w'.ownsRow w.heap.size 26 1 (.slice (some ⟨g, 0, none⟩) n c) n cells ∧ Below w.heap.size w w' := by
  have heq := Lib.run_eql_slice_nil (P := Try.prog) w 42 26 (some ad) n cap 0 0 Try.underlying42
  obtain ⟨i0, HI⟩ : ∃ i0, Hid (Try.prog.info? 26 = some i0 ∧ i0.zero = some (.int .u32 0) ∧ i0.size = 1 ∧ i0.bytes = 4) := by
    obtain ⟨i0, hi, hz0, hz1, hz2⟩ := info_parts infoU32
    exact ⟨i0, Lib.hid ⟨hi, hz0, hz1, hz2⟩⟩
  have HR := Lib.hid hr
  have H1 := Lib.hid h1
  clear hr h1
  have h0 : (w.alloc (.cells #[] 26)).ownsRow w.heap.size 26 1 (.slice (some ⟨w.heap.size, 0, none⟩) 0 0) 0 [] := World.ownsRow_lit w #[] 0 (Nat.le_refl _) (by decide) rfl
  go_enter Try.func34, Try.ntmps34
  go_wp2_with (at_builtin; refine wpList_app rfl (.tmp 5) (.tmp 6) 42 rfl w.heap.size 26 i0 _ 1 4 Try.underlying42 HI.out.1 HI.out.2.1 HI.out.2.2.1 HI.out.2.2.2 rfl (by decide) _ 0 [] rfl h0 (some ad) w.heap.size n cap cells rfl (fun h => by cases h) (HR.out.alloc (Nat.le_refl _) _) H1.out (by simp only [maxLen]; omega) (by omega) (by simp) ?_; intro v1 w1 hown1 hg1 hnil; have hb1 : Below w.heap.size w w1 := below_gr (below1 w _) hg1 (by simp) (fun k hk => Nat.le_of_eq (Option.some.inj hk)); (try simp only [Nat.zero_add, List.nil_append] at hown1); obtain ⟨g1, cap1, hv1⟩ : ∃ g1 cap1, v1 = .slice (some ⟨g1, 0, none⟩) n cap1 := (by rcases hown1.2 with ⟨h, _⟩ | ⟨g', cap', cur, h, _⟩; exact absurd (hnil.1 h).1 (by intro e; cases e); exact ⟨g', cap', by simpa using h⟩); subst hv1; have HO := Lib.hid hown1; clear hnil hg1 hown1)
  go_ret
  exact ⟨_, cap1, rfl, HO.out, hb1⟩
def StatePost (w : World) (z : MV) (e : Ending) (w' : World) : Prop := ∃ g c, e = .returned (.tuple #[.int .u32 z.a, .int .u32 z.x, .slice (some ⟨g, 0, none⟩) 16 c, .int .i64 z.place]) ∧ w'.ownsRow w.heap.size 26 1 (.slice (some ⟨g, 0, none⟩) 16 c) 16 (numV .u32 z.m) ∧ Below w.heap.size w w'
/-- What a region that draws holds, ahead of the clone and behind it. -/
def StHeld (w : World) (B : Nat) (K : MK) (z : MV) (W : World) : Prop := W.cell? ⟨B, 2, none⟩ = some (.int .u32 z.a) ∧ W.cell? ⟨B, 3, none⟩ = some (.int .u32 z.x) ∧ W.cell? ⟨B, 20, none⟩ = some (.int .i64 z.place)
set_option maxRecDepth 100000 in
set_option maxHeartbeats 1600000 in
theorem State_c (B : Nat) (K : MK) (z : MV) (w : World) (hm : MachAt w B K z) : Calls Try.prog 19 #[.pointer (some ⟨B, 0, none⟩)] w (StatePost w z) := by
  have HM := Lib.hid hm
  have HRD : Hid (∀ W, Below w.heap.size w W → Reads W W.heap.size 1 (some ⟨B, 4, none⟩) 16 (numV .u32 z.m)) := Lib.hid (fun W hb => by
    have hm' := hm.keep hb
    refine ⟨by simp [numV, hm.1], fun _ => ⟨B, 4, rfl, hm'.lt, fun j u hu => ?_⟩⟩
    have hj : j < 16 := by have := (List.getElem?_eq_some_iff.1 hu).1; simpa [numV, hm.1] using this
    have h2 := hm'.cm hj
    rw [h2]
    have h3 : (numV .u32 z.m)[j]? = some (.int .u32 (getN z.m j)) := by
      have : z.m[j]? = some (getN z.m j) := by unfold getN; rw [List.getD_eq_getElem?_getD, List.getElem?_eq_getElem (by rw [hm.1]; omega)]; rfl
      simp [numV, this]
    rw [← h3, hu])
  have c2 := hm.c2
  have c3 := hm.c3
  have c20 := hm.c20
  have HK : Hid (∀ W, Below w.heap.size w W → W.cell? ⟨B, 2, none⟩ = some (.int .u32 z.a) ∧ W.cell? ⟨B, 3, none⟩ = some (.int .u32 z.x) ∧ W.cell? ⟨B, 20, none⟩ = some (.int .i64 z.place) ∧ Below w.heap.size w W) := Lib.hid (fun W hb => ⟨keepC hb c2, keepC hb c3, keepC hb c20, hb⟩)
  clear hm c2 c3 c20
  go_enter Try.func19, Try.ntmps19
  go_wp2_with fail
  go_region_held3 (fun W => W.cell? ⟨B, 2, none⟩ = some (.int .u32 z.a) ∧ W.cell? ⟨B, 3, none⟩ = some (.int .u32 z.x) ∧ W.cell? ⟨B, 20, none⟩ = some (.int .i64 z.place) ∧ Below w.heap.size w W) (first | exact HK.out _ (below_dr (Below.refl _ _)) | exact HK.out _ (by assumption) | assumption)
    (first | (go_at_call 34; go_must (refine (CloneU_c ⟨B, 4, none⟩ 16 16 _ (by decide) (numV_one _ _) _ (HRD.out _ (below_dr (Below.refl _ _)))).mono ?_; rintro e w' ⟨g, c, rfl, hown, hb⟩; have hbw : Below w.heap.size w w' := (below_dr (Below.refl _ _)).trans hb; have HO := Lib.hid hown; clear hown hb)))
  go_wp2
  refine bodyPost_ret (v := .tuple #[.int .u32 z.a, .int .u32 z.x, .slice (some ⟨g, 0, none⟩) 16 c, .int .i64 z.place]) (by simp [results, Try.results19, go_sem]) rfl ⟨g, c, rfl, HO.out, hbw⟩
end Go.Proofs.Ytpofdjnkpplimaa
