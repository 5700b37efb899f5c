import Derived.Test.YtpofdjnkpplimaaCbpfRd
import Derived.Test.YtpofdjnkpplimaaCbpfRRd
import Derived.Test.YtpofdjnkpplimaaFenceReg
import Derived.RangeFuncNested
import Derived.RangeFuncBound
import Derived.RangeFuncCalls
import Derived.RangeFuncLeaves
import Derived.RangeFuncBox
import Derived.OwnWalkIn
import Derived.TacticsInMore
import Derived.Maps.AppendAt
set_option linter.unusedVariables false
set_option linter.unusedSimpArgs false
namespace Go.Proofs.Ytpofdjnkpplimaa
open Go.RowKit Go.Shelf
attribute [local go_sem] Oper.semAt_some
/-! cbpf.Read: the walk. -/
theorem Load2_0 (b off : Nat) (b0 b1 : Int) (w : World) (c0 : w.cell? ⟨b, off, none⟩ = some (.int .u8 b0)) (c1 : w.cell? ⟨b, off + 1, none⟩ = some (.int .u8 b1)) (h0 : 0 ≤ b0 ∧ b0 < 256) (h1 : 0 ≤ b1 ∧ b1 < 256) :
    Calls Try.prog 45 #[.slice (some ⟨b, off, none⟩) 8 8, .int .i64 0, .int .i64 2] w fun e w' => e = .returned (.tuple #[.int .u64 (b0 + b1 * 256), .int .i64 0]) ∧ w = w' :=
  Load2_w b off 8 0 b0 b1 8 (by decide) (by decide) w c0 c1 h0 h1
theorem Load4_4 (b off : Nat) (b0 b1 b2 b3 : Int) (w : World) (c0 : w.cell? ⟨b, off + 4, none⟩ = some (.int .u8 b0)) (c1 : w.cell? ⟨b, off + 5, none⟩ = some (.int .u8 b1)) (c2 : w.cell? ⟨b, off + 6, none⟩ = some (.int .u8 b2)) (c3 : w.cell? ⟨b, off + 7, none⟩ = some (.int .u8 b3)) (h0 : 0 ≤ b0 ∧ b0 < 256) (h1 : 0 ≤ b1 ∧ b1 < 256) (h2 : 0 ≤ b2 ∧ b2 < 256) (h3 : 0 ≤ b3 ∧ b3 < 256) :
    Calls Try.prog 45 #[.slice (some ⟨b, off, none⟩) 8 8, .int .i64 4, .int .i64 4] w fun e w' => e = .returned (.tuple #[.int .u64 (b0 + b1 * 256 + b2 * 65536 + b3 * 16777216), .int .i64 0]) ∧ w = w' :=
  Load4_w b off 8 4 b0 b1 b2 b3 8 (by decide) (by decide) w c0 c1 c2 c3 h0 h1 h2 h3
theorem own_lowr {w : World} {base base' : Nat} {e : TypeId} {size n : Nat} {v : Value} {xs : List Value} (h : w.ownsRow base e size v n xs) (hb : base' ≤ base) : w.ownsRow base' e size v n xs := by
  obtain ⟨h1, h2⟩ := h
  refine ⟨h1, ?_⟩
  rcases h2 with h2 | ⟨g, cap, cur, h3, h4, h5⟩
  · exact .inl h2
  · exact .inr ⟨g, cap, cur, h3, by omega, h5⟩
def rowQ (d : List Int) (m : Nat) (pre : List { i : Nat // i < m }) : List I4 := pre.map fun t => readI d t.1
set_option maxRecDepth 100000 in
set_option maxHeartbeats 2000000 in
theorem Read_in (b off cap : Nat) (d : List Int) (m : Nat) (hm : d.length = 8 * m) (hd : ∀ x ∈ d, 0 ≤ x ∧ x < 256) (hcap : d.length ≤ cap) (hB : d.length ≤ 140737488351232) (w : World) (hr : Reads w w.heap.size 1 (some ⟨b, off, none⟩) d.length (numV .u8 d)) :
    CallsIn Fence.wide 3 Try.prog 26 #[.slice (some ⟨b, off, none⟩) (8 * m) cap] w (ReadPost w d) := by
  obtain ⟨i0, HI⟩ : ∃ i0, Hid (Try.prog.info? 34 = some i0 ∧ i0.zero = some (.agg #[.int .u16 0, .int .u8 0, .int .u8 0, .int .u32 0]) ∧ i0.size = 4 ∧ i0.bytes = 8) := by
    obtain ⟨i0, hi, hz0, hz1, hz2⟩ := info_parts infoI
    exact ⟨i0, Lib.hid ⟨hi, hz0, hz1, hz2⟩⟩
  have HR := Lib.hid hr
  have HD := Lib.hid hd
  have HM := Lib.hid hm
  have hmi : (m : Int) * 8 ≤ 140737488351232 := by omega
  have ht : (8 * (m : Int) % 8 != 0) = false := by simp
  have hcap8 : 8 * m ≤ cap := by omega
  clear hr hd
  refine callsIn_of_wp_marks Try.func26 rfl trivial ?_ rfl
  simp only [Try.ntmps26, List.size_toArray, List.length_cons, List.length_nil, Nat.reduceAdd, Nat.reduceSub, Array.replicate_succ, Array.replicate_zero, List.push_toArray, List.append_toArray, List.nil_append, List.cons_append]
  gi_wp2_with fail
  refine ⟨trivial, (callsIn_wide.2 (Chunk_c (some ⟨b, off, none⟩) (8 * m) cap _)).mono ?_⟩
  rintro e w1 ⟨rfl, rfl⟩
  gi_wp2_with fail
  obtain ⟨W1, hW1⟩ : ∃ W1, W1 = ((w.alloc (.cells #[.slice none 0 0] 22)).alloc (.cells #[.slice (some ⟨b, off, none⟩) (8 * m) cap] 23)).alloc (.cells #[.int .i64 8] 3) := ⟨_, rfl⟩
  have hs1 : W1.heap.size = w.heap.size + 3 := by rw [hW1]; simp
  have hb1 : Below w.heap.size w W1 := by rw [hW1]; exact below_al (below_al (below1 w _) _) _
  have hbx : Boxed W1 w.heap.size 22 (.slice none 0 0) := by rw [hW1]; exact ((Boxed.new w _ _).alloc _).alloc _
  have hhs : W1.heap[w.heap.size + 1]? = some (.cells #[.slice (some ⟨b, off, none⟩) (8 * m) cap] 23 (0, 0)) := by
    rw [hW1]; exact al_heap w [_, .cells #[.slice (some ⟨b, off, none⟩) (8 * m) cap] 23, _] 1 _ rfl
  have hhn : W1.heap[w.heap.size + 1 + 1]? = some (.cells #[.int .i64 8] 3 (0, 0)) := by
    rw [hW1]; exact al_heap w [_, _, .cells #[.int .i64 8] 3] 2 _ rfl
  have hst := chunk_stops 2 (w.heap.size + 1) (w.heap.size + 1 + 1) b off m cap hcap8 (by omega) W1 hhs hhn
  rw [← hW1]
  clear hW1
  refine wpIn_rangeFunc_ownG rfl (by decide) (gf := 63) (lb := #[.pointer (some ⟨w.heap.size + 1, 0, none⟩), .pointer (some ⟨w.heap.size + 1 + 1, 0, none⟩)]) rfl trivial (enters_of Try.func63 (by kernel_rfl) rfl) hst KpB.trans
    (KpB.put (by omega) (by omega)) (Below.refl _ _) (fun _ => rfl)
    (fun pre W => (∃ v, Boxed W w.heap.size 22 v ∧ W.ownsRow (w.heap.size + 3) 34 4 v pre.length (cellsI (rowQ d m pre)) ∧ True) ∧ Below w.heap.size W1 W)
    (fun _ _ _ => False)
    (OwnFrom.and (Own.from (holdsRow_own (w.heap.size + 3) w.heap.size 22 34 4 (fun pre : List { i : Nat // i < m } => pre.length) (fun pre : List { i : Nat // i < m } => cellsI (rowQ d m pre)) (fun _ _ => True)) _) (ownFrom_below (by omega) (by omega)))
    (fun _ _ _ _ _ hs _ _ => hs)
    ⟨⟨_, hbx, World.ownsRow_nil _ _ _ _, trivial⟩, Below.refl _ _⟩
    (fun x => { tmps := #[Value.slice (some ⟨b, off, none⟩) (8 * m) cap, undef, Value.slice none 0 0, Value.int IntKind.i64 0, Value.pointer (some ⟨w.heap.size, 0, none⟩), Value.slice (some ⟨b, off + 8 * x.1, none⟩) 8 8, undef, undef, undef, undef, Value.slice (some ⟨b, off, none⟩) (8 * m) cap, Value.int IntKind.i64 (8 * (m : Int)), Value.int IntKind.i64 0, Value.bool false, Value.slice (some ⟨b, off, none⟩) (8 * m) cap, Value.func (Fn.func 63) #[] #[Value.pointer (some ⟨w.heap.size + 1, 0, none⟩), Value.pointer (some ⟨w.heap.size + 1 + 1, 0, none⟩)], Value.slice (some ⟨b, off + 8 * x.1, none⟩) 8 8, undef, undef, undef, undef, undef, undef, undef, undef, undef, undef, undef, undef, undef, undef, undef, undef, undef, undef, undef, undef, undef, undef, undef, undef, undef], defers := [] }) ?assign ?body ?done ?stop
  case assign =>
    intro l x W K hK
    gi_wp2
    exact hK
  case body =>
    rintro l pre x W ⟨⟨v, hv, hrow, -⟩, hB⟩ hlt2
    have hx8 : 8 * x.1 + 8 ≤ d.length := by have := x.2; omega
    have hrx := HR.out.below (hb1.trans hB)
    have hcell : ∀ j, j < 8 → W.cell? ⟨b, off + 8 * x.1 + j, none⟩ = some (.int .u8 (getN d (8 * x.1 + j))) := fun j hj => by
      obtain ⟨b', off', e', -, hc⟩ := hrx.num (getN_get (show 8 * x.1 + j < d.length by omega))
      injection e' with e'; injection e' with e1 e2
      subst e1 e2
      rw [Nat.add_assoc]; exact hc
    have hu := fun j => getN_u8 HD.out j
    have hbl : b < w.heap.size := by
      obtain ⟨b', off', e', hl, -⟩ := HR.out.num (getN_get (show 0 < d.length by omega))
      injection e' with e'; injection e' with e1 e2
      subst e1 e2
      exact hl
    have hc := hv.cell
    have hf := hv.frozen
    have hWs : w.heap.size + 3 ≤ W.heap.size := by have := hB.size; omega
    have HS1 := Lib.hid hs1
    have HRW := Lib.hid hrow
    have HBW := Lib.hid hB
    have HBX := Lib.hid hv
    have HCELL := Lib.hid hcell
    have HU := Lib.hid hu
    clear hs1 hst hbx hb1 hhs hhn hrow hB hrx hcell hu
    have c0 := HCELL.out 0 (by decide)
    have c1 := HCELL.out 1 (by decide)
    have c2 := HCELL.out 2 (by decide)
    have c3 := HCELL.out 3 (by decide)
    have c4 := HCELL.out 4 (by decide)
    have c5 := HCELL.out 5 (by decide)
    have c6 := HCELL.out 6 (by decide)
    have c7 := HCELL.out 7 (by decide)
    rw [Nat.add_zero, Nat.add_zero] at c0
    obtain ⟨C, hC⟩ : ∃ C, C = getN d (8 * x.1) + getN d (8 * x.1 + 1) * 256 := ⟨_, rfl⟩
    obtain ⟨K4, hK4⟩ : ∃ K4, K4 = getN d (8 * x.1 + 4) + getN d (8 * x.1 + 5) * 256 + getN d (8 * x.1 + 6) * 65536 + getN d (8 * x.1 + 7) * 16777216 := ⟨_, rfl⟩
    obtain ⟨J, hJ⟩ : ∃ J, J = getN d (8 * x.1 + 2) := ⟨_, rfl⟩
    obtain ⟨F, hF⟩ : ∃ F, F = getN d (8 * x.1 + 3) := ⟨_, rfl⟩
    have L2 := Load2_0 b (off + 8 * x.1) _ _ W c0 c1 (HU.out _) (HU.out _)
    have L4 := Load4_4 b (off + 8 * x.1) _ _ _ _ W c4 c5 c6 c7 (HU.out _) (HU.out _) (HU.out _) (HU.out _)
    rw [← hC] at L2
    rw [← hK4] at L4
    rw [← hJ] at c2
    rw [← hF] at c3
    have HL2 := Lib.hid L2
    have HL4 := Lib.hid L4
    have HC := Lib.hid hC
    have HK4 := Lib.hid hK4
    have HJ := Lib.hid hJ
    have HF := Lib.hid hF
    have HC2 := Lib.hid c2
    have HC3 := Lib.hid c3
    clear c0 c1 c2 c3 c4 c5 c6 c7 L2 L4 hC hK4 hJ hF
    gi_wp2_with fail
    refine ⟨trivial, ((callsIn_wide.2 HL2.out).inRound l).mono ?_⟩
    rintro e w2 ⟨rfl, rfl⟩
    gi_wp2_with fail
    refine ⟨trivial, ((callsIn_wide.2 HL4.out).inRound l).mono ?_⟩
    rintro e w2 ⟨rfl, rfl⟩
    gi_wp2_with fail
    have HS : Hid (W.drew.cell? ⟨b, off + 8 * x.1 + 2, none⟩ = some (.int .u8 J) ∧ W.drew.cell? ⟨b, off + 8 * x.1 + 3, none⟩ = some (.int .u8 F)) := Lib.hid ⟨HC2.out, HC3.out⟩
    refine wpIn_region_held (S := fun W' => W'.cell? ⟨b, off + 8 * x.1 + 2, none⟩ = some (.int .u8 J) ∧ W'.cell? ⟨b, off + 8 * x.1 + 3, none⟩ = some (.int .u8 F)) (by kernel_rfl) (by kernel_rfl) ?_
    refine wpAnyH_take (i := 1) (v := .int .u64 C) rfl (by kernel_rfl) (by kernel_rfl) (by kernel_rfl) (fun _ _ _ h => h) (.inl ⟨by rfl, fun W' hS' => ?_⟩) HS.out ?_
    · obtain ⟨s2, s3⟩ := hS'
      go_simp
    refine wpAnyH_take (i := 2) (v := .int .u16 (IntKind.u16.wrap C)) rfl (by kernel_rfl) (by kernel_rfl) (by kernel_rfl) (fun _ _ _ h => h) (.inl ⟨by rfl, fun W' hS' => ?_⟩) HS.out ?_
    · obtain ⟨s2, s3⟩ := hS'
      go_simp
    refine wpAnyH_take (i := 3) (v := .slice (some ⟨b, off + 8 * x.1, none⟩) 8 8) rfl (by kernel_rfl) (by kernel_rfl) (by kernel_rfl) (fun _ _ _ h => h) (.inl ⟨by rfl, fun W' hS' => ?_⟩) HS.out ?_
    · obtain ⟨s2, s3⟩ := hS'
      go_simp
    refine wpAnyH_take (i := 4) (v := .pointer (some ⟨b, off + 8 * x.1 + 2, none⟩)) rfl (by kernel_rfl) (by kernel_rfl) (by kernel_rfl) (fun _ _ _ h => h) (.inl ⟨by rfl, fun W' hS' => ?_⟩) HS.out ?_
    · obtain ⟨s2, s3⟩ := hS'
      go_simp
    refine wpAnyH_take (i := 5) (v := .int .u8 J) rfl (by kernel_rfl) (by kernel_rfl) (by kernel_rfl) (fun _ _ _ h => h) (.inl ⟨by rfl, fun W' hS' => ?_⟩) HS.out ?_
    · obtain ⟨s2, s3⟩ := hS'
      go_simp
    refine wpAnyH_take (i := 6) (v := .slice (some ⟨b, off + 8 * x.1, none⟩) 8 8) rfl (by kernel_rfl) (by kernel_rfl) (by kernel_rfl) (fun _ _ _ h => h) (.inl ⟨by rfl, fun W' hS' => ?_⟩) HS.out ?_
    · obtain ⟨s2, s3⟩ := hS'
      go_simp
    refine wpAnyH_take (i := 7) (v := .pointer (some ⟨b, off + 8 * x.1 + 3, none⟩)) rfl (by kernel_rfl) (by kernel_rfl) (by kernel_rfl) (fun _ _ _ h => h) (.inl ⟨by rfl, fun W' hS' => ?_⟩) HS.out ?_
    · obtain ⟨s2, s3⟩ := hS'
      go_simp
    refine wpAnyH_take (i := 8) (v := .int .u8 F) rfl (by kernel_rfl) (by kernel_rfl) (by kernel_rfl) (fun _ _ _ h => h) (.inl ⟨by rfl, fun W' hS' => ?_⟩) HS.out ?_
    · obtain ⟨s2, s3⟩ := hS'
      go_simp
    refine wpAnyH_take (i := 9) (v := .int .u64 K4) rfl (by kernel_rfl) (by kernel_rfl) (by kernel_rfl) (fun _ _ _ h => h) (.inl ⟨by rfl, fun W' hS' => ?_⟩) HS.out ?_
    · obtain ⟨s2, s3⟩ := hS'
      go_simp
    refine wpAnyH_take (i := 10) (v := .int .u32 (IntKind.u32.wrap K4)) rfl (by kernel_rfl) (by kernel_rfl) (by kernel_rfl) (fun _ _ _ h => h) (.inl ⟨by rfl, fun W' hS' => ?_⟩) HS.out ?_
    · obtain ⟨s2, s3⟩ := hS'
      go_simp
    refine wpAnyH_take (i := 11) (v := .agg #[.int .u16 (IntKind.u16.wrap C), .int .u8 J, .int .u8 F, .int .u32 (IntKind.u32.wrap K4)]) rfl (by kernel_rfl) (by kernel_rfl) (by kernel_rfl) (fun _ _ _ h => h) (.inl ⟨by rfl, fun W' hS' => ?_⟩) HS.out ?_
    · obtain ⟨s2, s3⟩ := hS'
      go_simp
    have HSK : Hid (∀ W' : World, (∀ o : Nat, W'.cell? ⟨b, o, none⟩ = W.cell? ⟨b, o, none⟩) → W'.cell? ⟨b, off + 8 * x.1 + 2, none⟩ = some (.int .u8 J) ∧ W'.cell? ⟨b, off + 8 * x.1 + 3, none⟩ = some (.int .u8 F)) := Lib.hid (fun W' h => ⟨(h _).trans HC2.out, (h _).trans HC3.out⟩)
    have hcd : W.drew.cell? ⟨w.heap.size, 0, none⟩ = some v := hc
    have HNEW : Hid (∀ j u, (cellsI [(⟨IntKind.u16.wrap C, J, F, IntKind.u32.wrap K4⟩ : I4)])[j]? = some u → (W.drew.alloc (.cells #[.int .u16 (IntKind.u16.wrap C), .int .u8 J, .int .u8 F, .int .u32 (IntKind.u32.wrap K4)] 34)).cell? ((⟨W.heap.size, 0, none⟩ : Addr).add j) = some u) := Lib.hid (fun j u hu => by
      rw [add_plain]
      obtain ⟨b9, o9, e9, -, hc9⟩ := (reads_new W.drew #[.int .u16 (IntKind.u16.wrap C), .int .u8 J, .int .u8 F, .int .u32 (IntKind.u32.wrap K4)] 34 4 1 (cellsI [⟨IntKind.u16.wrap C, J, F, IntKind.u32.wrap K4⟩]) rfl rfl).2 (by decide)
      injection e9 with e9; injection e9 with e1 e2
      subst e1 e2
      exact hc9 j u hu)
    have hal : ∀ o, (W.drew.alloc (.cells #[.int .u16 (IntKind.u16.wrap C), .int .u8 J, .int .u8 F, .int .u32 (IntKind.u32.wrap K4)] 34)).cell? ⟨b, o, none⟩ = W.cell? ⟨b, o, none⟩ := fun o => World.cell?_alloc_lt W.drew _ ⟨b, o, none⟩ (show b < W.heap.size by omega)
    have hcal : (W.drew.alloc (.cells #[.int .u16 (IntKind.u16.wrap C), .int .u8 J, .int .u8 F, .int .u32 (IntKind.u32.wrap K4)] 34)).cell? ⟨w.heap.size, 0, none⟩ = some v := (World.cell?_alloc_lt W.drew _ ⟨w.heap.size, 0, none⟩ (show w.heap.size < W.heap.size by omega)).trans hc
    have hcal2 : (W.alloc (.cells #[.int .u16 (IntKind.u16.wrap C), .int .u8 J, .int .u8 F, .int .u32 (IntKind.u32.wrap K4)] 34)).cell? ⟨w.heap.size, 0, none⟩ = some v := hcal
    refine wpAnyH_two_v (i := 0) (j := 12) (v := v) (u := .slice (some ⟨W.heap.size, 0, none⟩) 1 1) (w' := W.drew) (u' := W.drew.alloc (.cells #[.int .u16 (IntKind.u16.wrap C), .int .u8 J, .int .u8 F, .int .u32 (IntKind.u32.wrap K4)] 34)) (by kernel_rfl) rfl rfl rfl rfl ?_ HS.out ?_ (HSK.out _ hal) ?_ ?_
    · go_simp
    · go_simp
    · refine wpAnyH_one_v (i := 12) (v := .slice (some ⟨W.heap.size, 0, none⟩) 1 1) (w' := W.drew.alloc (.cells #[.int .u16 (IntKind.u16.wrap C), .int .u8 J, .int .u8 F, .int .u32 (IntKind.u32.wrap K4)] 34)) (by kernel_rfl) rfl rfl ?_ (HSK.out _ hal) ?_
      · go_simp
      refine wpAnyH_app (k := 13) (by kernel_rfl) rfl rfl (.tmp 27) (.tmp 39) 22 rfl (w.heap.size + 3) 34 i0 _ 4 8 Try.underlying22 HI.out.1 HI.out.2.1 HI.out.2.2.1 HI.out.2.2.2 rfl (by decide) v pre.length (cellsI (rowQ d m pre)) ?_ (HRW.out.alloc _) ⟨W.heap.size, 0, none⟩ 1 1 (cellsI [⟨IntKind.u16.wrap C, J, F, IntKind.u32.wrap K4⟩]) ?_ rfl HNEW.out (cellsI_one _) (by simp only [maxLen]; omega) (by omega) (by simp; omega) ?_
      · go_simp
      · go_simp
      intro v' w4 hown4 hg4 _
      obtain ⟨g', cap', hv', -, -⟩ := hown4.form (by omega)
      subst hv'
      have hbg : w4.heap[b]? = W.heap[b]? := (hg4.block b (by simp; omega) (fun e => by have := own_ge HRW.out b e.symm; omega)).trans (Below.heap_alloc W _ b (by omega))
      have hS4 := HSK.out w4 (fun o => World.cell?_of_block (a := ⟨b, o, none⟩) hbg)
      have hxg : w4.heap[w.heap.size]? = W.heap[w.heap.size]? := (hg4.block w.heap.size (by simp; omega) (fun e => by have := own_ge HRW.out _ e.symm; omega)).trans (Below.heap_alloc W _ _ (by omega))
      have hc4 : w4.cell? ⟨w.heap.size, 0, none⟩ = some v := (World.cell?_of_block (a := ⟨w.heap.size, 0, none⟩) hxg).trans hc
      have hf4 : w4.frozen? ⟨w.heap.size, 0, none⟩ = false := (World.frozen?_of_block (a := ⟨w.heap.size, 0, none⟩) hxg).trans hf
      refine And.intro hS4 ?_
      refine wpAnyH_one_s (i := 14) (w' := w4.setCell ⟨w.heap.size, 0, none⟩ (.slice (some ⟨g', 0, none⟩) (pre.length + 1) cap')) (by kernel_rfl) rfl rfl ?_ (HSK.out _ (fun o => (World.cell?_setCell_far _ _ _ _ (by show w.heap.size ≠ b; omega)).trans (World.cell?_of_block (a := ⟨b, o, none⟩) hbg))) ?_
      · go_simp
      refine wpAnyH_done (by kernel_rfl) ?_ _
      have hkp : ∀ k, w.heap.size < k → k < w.heap.size + 3 → (w4.setCell ⟨w.heap.size, 0, none⟩ (.slice (some ⟨g', 0, none⟩) (pre.length + 1) cap')).heap[k]? = W.heap[k]? := fun k h1 h2 => by
        rw [Below.heap_setCell _ _ _ _ (show k ≠ w.heap.size by omega)]
        exact (hg4.block k (by simp; omega) (fun e => by have := own_ge HRW.out k e.symm; omega)).trans (Below.heap_alloc W _ k (by omega))
      obtain ⟨hv1, hv2, hr2, hk2, hb2⟩ := (show Boxed W.drew w.heap.size 22 v from HBX.out).appended (by decide) (own_lowr (show W.drew.ownsRow (w.heap.size + 3) 34 4 v pre.length (cellsI (rowQ d m pre)) from HRW.out) (by omega : w.heap.size ≤ w.heap.size + 3)) (show w.heap.size ≤ W.heap.size by omega) (Nat.le_refl _) (own_lowr hown4 (by omega)) hg4
      have hge := own_ge hown4 g' (by simp [Value.ownBlock])
      have hro := ownsRow_setCell_other hown4 (a := ⟨w.heap.size, 0, none⟩) (by simp [Value.ownBlock]; omega) (.slice (some ⟨g', 0, none⟩) (pre.length + 1) cap')
      have hsz2 : W.heap.size ≤ (w4.setCell ⟨w.heap.size, 0, none⟩ (.slice (some ⟨g', 0, none⟩) (pre.length + 1) cap')).heap.size := hk2.size
      have ex : cellsI (rowQ d m pre) ++ cellsI [⟨IntKind.u16.wrap C, J, F, IntKind.u32.wrap K4⟩] = cellsI (rowQ d m (pre ++ [x])) := by
        have e16 : IntKind.u16.wrap C = C := by
          have h0 := HU.out (8 * x.1); have h1 := HU.out (8 * x.1 + 1); have h := HC.out
          rw [show IntKind.u16.wrap C = C % 65536 by simp [IntKind.wrap, IntKind.bits, IntKind.signed]]; omega
        have e32 : IntKind.u32.wrap K4 = K4 := by
          have h0 := HU.out (8 * x.1 + 4); have h1 := HU.out (8 * x.1 + 5); have h2 := HU.out (8 * x.1 + 6); have h3 := HU.out (8 * x.1 + 7); have h := HK4.out
          rw [show IntKind.u32.wrap K4 = K4 % 4294967296 by simp [IntKind.wrap, IntKind.bits, IntKind.signed]]; omega
        have er : (⟨IntKind.u16.wrap C, J, F, IntKind.u32.wrap K4⟩ : I4) = readI d x.1 := by rw [e16, e32, HC.out, HK4.out, HJ.out, HF.out]; rfl
        rw [er]
        simp [rowQ, cellsI]
      rw [ex] at hro
      have hk3 : KeepsOthers W (w4.setCell ⟨w.heap.size, 0, none⟩ (.slice (some ⟨g', 0, none⟩) (pre.length + 1) cap')) := ⟨hk2.size, hk2.same⟩
      exact (⟨hk3.from _, ⟨hsz2, fun _ => hkp _ (by omega) (by omega), fun _ => hkp _ (by omega) (by omega)⟩, ⟨_, hv2, by rw [List.length_append]; exact hro, trivial⟩, (below_dr HBW.out).trans hb2⟩ : KeepsFrom W1.heap.size W (w4.setCell ⟨w.heap.size, 0, none⟩ (.slice (some ⟨g', 0, none⟩) (pre.length + 1) cap')) ∧ KpB (w.heap.size + 1) (w.heap.size + 1 + 1) W (w4.setCell ⟨w.heap.size, 0, none⟩ (.slice (some ⟨g', 0, none⟩) (pre.length + 1) cap')) ∧ ((∃ v, Boxed (w4.setCell ⟨w.heap.size, 0, none⟩ (.slice (some ⟨g', 0, none⟩) (pre.length + 1) cap')) w.heap.size 22 v ∧ World.ownsRow (w4.setCell ⟨w.heap.size, 0, none⟩ (.slice (some ⟨g', 0, none⟩) (pre.length + 1) cap')) (w.heap.size + 3) 34 4 v (pre ++ [x]).length (cellsI (rowQ d m (pre ++ [x]))) ∧ True) ∧ Below w.heap.size W1 (w4.setCell ⟨w.heap.size, 0, none⟩ (.slice (some ⟨g', 0, none⟩) (pre.length + 1) cap'))))
    · refine wpAnyH_one_v (i := 0) (v := v) (w' := W.drew.alloc (.cells #[.int .u16 (IntKind.u16.wrap C), .int .u8 J, .int .u8 F, .int .u32 (IntKind.u32.wrap K4)] 34)) (by kernel_rfl) rfl rfl ?_ (HSK.out _ hal) ?_
      · go_simp
      refine wpAnyH_app (k := 13) (by kernel_rfl) rfl rfl (.tmp 27) (.tmp 39) 22 rfl (w.heap.size + 3) 34 i0 _ 4 8 Try.underlying22 HI.out.1 HI.out.2.1 HI.out.2.2.1 HI.out.2.2.2 rfl (by decide) v pre.length (cellsI (rowQ d m pre)) ?_ (HRW.out.alloc _) ⟨W.heap.size, 0, none⟩ 1 1 (cellsI [⟨IntKind.u16.wrap C, J, F, IntKind.u32.wrap K4⟩]) ?_ rfl HNEW.out (cellsI_one _) (by simp only [maxLen]; omega) (by omega) (by simp; omega) ?_
      · go_simp
      · go_simp
      intro v' w4 hown4 hg4 _
      obtain ⟨g', cap', hv', -, -⟩ := hown4.form (by omega)
      subst hv'
      have hbg : w4.heap[b]? = W.heap[b]? := (hg4.block b (by simp; omega) (fun e => by have := own_ge HRW.out b e.symm; omega)).trans (Below.heap_alloc W _ b (by omega))
      have hS4 := HSK.out w4 (fun o => World.cell?_of_block (a := ⟨b, o, none⟩) hbg)
      have hxg : w4.heap[w.heap.size]? = W.heap[w.heap.size]? := (hg4.block w.heap.size (by simp; omega) (fun e => by have := own_ge HRW.out _ e.symm; omega)).trans (Below.heap_alloc W _ _ (by omega))
      have hc4 : w4.cell? ⟨w.heap.size, 0, none⟩ = some v := (World.cell?_of_block (a := ⟨w.heap.size, 0, none⟩) hxg).trans hc
      have hf4 : w4.frozen? ⟨w.heap.size, 0, none⟩ = false := (World.frozen?_of_block (a := ⟨w.heap.size, 0, none⟩) hxg).trans hf
      refine And.intro hS4 ?_
      refine wpAnyH_one_s (i := 14) (w' := w4.setCell ⟨w.heap.size, 0, none⟩ (.slice (some ⟨g', 0, none⟩) (pre.length + 1) cap')) (by kernel_rfl) rfl rfl ?_ (HSK.out _ (fun o => (World.cell?_setCell_far _ _ _ _ (by show w.heap.size ≠ b; omega)).trans (World.cell?_of_block (a := ⟨b, o, none⟩) hbg))) ?_
      · go_simp
      refine wpAnyH_done (by kernel_rfl) ?_ _
      have hkp : ∀ k, w.heap.size < k → k < w.heap.size + 3 → (w4.setCell ⟨w.heap.size, 0, none⟩ (.slice (some ⟨g', 0, none⟩) (pre.length + 1) cap')).heap[k]? = W.heap[k]? := fun k h1 h2 => by
        rw [Below.heap_setCell _ _ _ _ (show k ≠ w.heap.size by omega)]
        exact (hg4.block k (by simp; omega) (fun e => by have := own_ge HRW.out k e.symm; omega)).trans (Below.heap_alloc W _ k (by omega))
      obtain ⟨hv1, hv2, hr2, hk2, hb2⟩ := (show Boxed W.drew w.heap.size 22 v from HBX.out).appended (by decide) (own_lowr (show W.drew.ownsRow (w.heap.size + 3) 34 4 v pre.length (cellsI (rowQ d m pre)) from HRW.out) (by omega : w.heap.size ≤ w.heap.size + 3)) (show w.heap.size ≤ W.heap.size by omega) (Nat.le_refl _) (own_lowr hown4 (by omega)) hg4
      have hge := own_ge hown4 g' (by simp [Value.ownBlock])
      have hro := ownsRow_setCell_other hown4 (a := ⟨w.heap.size, 0, none⟩) (by simp [Value.ownBlock]; omega) (.slice (some ⟨g', 0, none⟩) (pre.length + 1) cap')
      have hsz2 : W.heap.size ≤ (w4.setCell ⟨w.heap.size, 0, none⟩ (.slice (some ⟨g', 0, none⟩) (pre.length + 1) cap')).heap.size := hk2.size
      have ex : cellsI (rowQ d m pre) ++ cellsI [⟨IntKind.u16.wrap C, J, F, IntKind.u32.wrap K4⟩] = cellsI (rowQ d m (pre ++ [x])) := by
        have e16 : IntKind.u16.wrap C = C := by
          have h0 := HU.out (8 * x.1); have h1 := HU.out (8 * x.1 + 1); have h := HC.out
          rw [show IntKind.u16.wrap C = C % 65536 by simp [IntKind.wrap, IntKind.bits, IntKind.signed]]; omega
        have e32 : IntKind.u32.wrap K4 = K4 := by
          have h0 := HU.out (8 * x.1 + 4); have h1 := HU.out (8 * x.1 + 5); have h2 := HU.out (8 * x.1 + 6); have h3 := HU.out (8 * x.1 + 7); have h := HK4.out
          rw [show IntKind.u32.wrap K4 = K4 % 4294967296 by simp [IntKind.wrap, IntKind.bits, IntKind.signed]]; omega
        have er : (⟨IntKind.u16.wrap C, J, F, IntKind.u32.wrap K4⟩ : I4) = readI d x.1 := by rw [e16, e32, HC.out, HK4.out, HJ.out, HF.out]; rfl
        rw [er]
        simp [rowQ, cellsI]
      rw [ex] at hro
      have hk3 : KeepsOthers W (w4.setCell ⟨w.heap.size, 0, none⟩ (.slice (some ⟨g', 0, none⟩) (pre.length + 1) cap')) := ⟨hk2.size, hk2.same⟩
      exact (⟨hk3.from _, ⟨hsz2, fun _ => hkp _ (by omega) (by omega), fun _ => hkp _ (by omega) (by omega)⟩, ⟨_, hv2, by rw [List.length_append]; exact hro, trivial⟩, (below_dr HBW.out).trans hb2⟩ : KeepsFrom W1.heap.size W (w4.setCell ⟨w.heap.size, 0, none⟩ (.slice (some ⟨g', 0, none⟩) (pre.length + 1) cap')) ∧ KpB (w.heap.size + 1) (w.heap.size + 1 + 1) W (w4.setCell ⟨w.heap.size, 0, none⟩ (.slice (some ⟨g', 0, none⟩) (pre.length + 1) cap')) ∧ ((∃ v, Boxed (w4.setCell ⟨w.heap.size, 0, none⟩ (.slice (some ⟨g', 0, none⟩) (pre.length + 1) cap')) w.heap.size 22 v ∧ World.ownsRow (w4.setCell ⟨w.heap.size, 0, none⟩ (.slice (some ⟨g', 0, none⟩) (pre.length + 1) cap')) (w.heap.size + 3) 34 4 v (pre ++ [x]).length (cellsI (rowQ d m (pre ++ [x]))) ∧ True) ∧ Below w.heap.size W1 (w4.setCell ⟨w.heap.size, 0, none⟩ (.slice (some ⟨g', 0, none⟩) (pre.length + 1) cap'))))
  case done =>
    rintro D ys W hD hys ⟨⟨v, hv, hrow, -⟩, hB⟩ hK
    have hc := hv.cell
    have hrq : rowQ d m ys = readQ d (d.length / 8) := by
      have h8 : d.length / 8 = m := by omega
      unfold rowQ readQ
      rw [h8, ← hys, List.map_map]; rfl
    have hyl : ys.length = (readQ d (d.length / 8)).length := by rw [← hrq]; simp [rowQ]
    gi_wp2
    refine ⟨by simp, .inl ⟨_, _, rfl, run_takeDeferred hK, ?_⟩⟩
    refine ⟨_, results_tmp2 rfl _ _ _, .inr ⟨by omega, v, rfl, ?_, (hb1.trans hB).trans (belowK_b (w := w) (Nat.le_refl _) W D _ _ (by omega) hK rfl rfl)⟩⟩
    rw [← hyl, ← hrq]
    exact own_lowr (ownsRow_putObj hrow _ hK rfl) (by omega)
  case stop =>
    rintro D c pre W _ _ h _
    exact h.elim
set_option maxHeartbeats 400000 in
theorem Read_n (A : Option Addr) (cap : Nat) (d : List Int) (N : Nat) (hN : d.length = N) (hd : ∀ x ∈ d, 0 ≤ x ∧ x < 256) (hcap : N ≤ cap) (hB : N ≤ 140737488351232) (hA2 : ∃ b off, A = some ⟨b, off, none⟩) (w : World) (hr : Reads w w.heap.size 1 A d.length (numV .u8 d)) :
    Calls Try.prog 26 #[.slice A N cap] w (ReadPost w d) := by
  subst hN
  obtain ⟨b, off, rfl⟩ := hA2
  by_cases h8 : d.length % 8 = 0
  · obtain ⟨m, hm⟩ : ∃ m, d.length = 8 * m := ⟨d.length / 8, by omega⟩
    refine (callsIn_wide (n := 3)).1 ?_
    rw [show (Value.slice (some ⟨b, off, none⟩) d.length cap) = .slice (some ⟨b, off, none⟩) (8 * m) cap by rw [hm]]
    exact Read_in b off cap d m hm hd hcap hB w hr
  · have ht : ((d.length : Int) % 8 != 0) = true := by simp; omega
    have H8 := Lib.hid h8
    clear h8 hr
    refine (callsIn_wide (n := 3)).1 ?_
    refine callsIn_of_wp_marks Try.func26 rfl trivial ?_ rfl
    simp only [Try.ntmps26, List.size_toArray, List.length_cons, List.length_nil, Nat.reduceAdd, Nat.reduceSub, Array.replicate_succ, Array.replicate_zero, List.push_toArray, List.append_toArray, List.nil_append, List.cons_append]
    gi_wp2_with fail
    exact ⟨_, results_tmp2 rfl _ _ _, .inl ⟨H8.out, rfl, Below.refl _ _⟩⟩
end Go.Proofs.Ytpofdjnkpplimaa
