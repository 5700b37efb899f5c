import Derived.Test.YtehpoamideeehaaCbpfS3
import Derived.Test.YtehpoamideeehaaLent
import Derived.Test.YtehpoamideeehaaAppBig
set_option linter.unusedVariables false
set_option linter.unusedSimpArgs false
set_option maxRecDepth 100000
namespace Go.Proofs.Ytehpoamideeehaa
open Go.RowKit Go.Shelf
/-! slices.Clone, cbpf.New, Run: the contracts. -/
def ClonePost (w : World) (e : TypeId) (size n : Nat) (cells : List Value) (r : Ending) (w' : World) : Prop :=
  ∃ A' cap', r = .returned (.slice A' n cap') ∧ n ≤ cap' ∧ Below w.heap.size w w' ∧ Reads w' w'.heap.size size A' n cells ∧ (0 < n → ∃ g, A' = some ⟨g, 0, none⟩ ∧ w.heap.size ≤ g ∧ w'.ownsRow w.heap.size e size (.slice A' n cap') n cells)

set_option maxHeartbeats 400000 in
theorem CloneI_b (A : Option Addr) (n cap : Nat) (cells : List Value) (hA : A = none → cap = 0) (hc : n ≤ cap) (hn : n * 8 ≤ 200000000000000) (h1 : ∀ u ∈ cells, u.oneCell' = true) (w : World) (hr : Reads w w.heap.size 4 A n cells) :
    Calls Try.prog 57 #[.slice A n cap] w (ClonePost w 47 4 n cells) := by
  cases A with
  | none =>
    have hc0 : cap = 0 := hA rfl
    subst hc0
    obtain rfl : n = 0 := by omega
    have hl : cells = [] := List.eq_nil_of_length_eq_zero (by have := hr.1; simpa using this)
    subst hl
    have heq := Lib.run_eql_slice_nil (P := Try.prog) w 22 47 none 0 0 0 0 Try.underlying22
    clear hr hA h1 hc hn
    go_enter Try.func57, Try.ntmps57
    go_wp2
    go_ret
    exact ⟨none, 0, rfl, Nat.le_refl _, Below.refl _ _, Reads.none_, fun h => absurd h (by omega)⟩
  | some ad =>
    have heq := Lib.run_eql_slice_nil (P := Try.prog) w 22 47 (some ad) n cap 0 0 Try.underlying22
    obtain ⟨i0, HI⟩ : ∃ i0, Hid (Try.prog.info? 47 = some i0 ∧ i0.zero = some (.agg #[.int .u16 0, .int .u8 0, .int .u8 0, .int .u32 0]) ∧ i0.size = 4 ∧ i0.bytes = 8) := by
      obtain ⟨i0, hi, hz0, hz1, hz2⟩ := info_parts infoI
      exact ⟨i0, Lib.hid ⟨hi, hz0, hz1, hz2⟩⟩
    have HR := Lib.hid hr
    have H1 := Lib.hid h1
    clear hr hA h1
    have h0 : (w.alloc (.cells #[] 47)).ownsRow w.heap.size 47 4 (.slice (some ⟨w.heap.size, 0, none⟩) 0 0) 0 [] := World.ownsRow_lit w #[] 0 (Nat.le_refl _) (by decide) rfl
    go_enter Try.func57, Try.ntmps57
    go_wp2_with (at_builtin; refine wpList_app_big rfl (.tmp 5) (.tmp 6) 22 rfl w.heap.size 47 i0 _ 4 8 Try.underlying22 HI.out.1 HI.out.2.1 HI.out.2.2.1 HI.out.2.2.2 rfl (by decide) w.heap.size 0 0 [] rfl h0 (some ad) w.heap.size n cap cells rfl (fun h => by cases h) (HR.out.alloc (Nat.le_refl _) _) H1.out (by simp only [maxLen]; omega) (by decide) (by omega) (by simp) ?_; intro g1 cap1 w1 hown1 hg1; have hb1 : Below w.heap.size w w1 := below_gr (below1 w _) hg1 (by simp) (fun k hk => Nat.le_of_eq (Option.some.inj hk)); (try simp only [Nat.zero_add, List.nil_append] at hown1); have HO := Lib.hid hown1; clear hg1 hown1)
    go_ret
    exact ⟨_, cap1, rfl, own_cap HO.out, hb1, Reads.of_own HO.out, fun _ => ⟨g1, rfl, own_ge HO.out g1 (by simp [Value.ownBlock]), HO.out⟩⟩

set_option maxHeartbeats 400000 in
theorem CloneB_c (A : Option Addr) (n cap : Nat) (cells : List Value) (hA : A = none → cap = 0) (hc : n ≤ cap) (hn : n * 1 ≤ 140737488351232) (h1 : ∀ u ∈ cells, u.oneCell' = true) (w : World) (hr : Reads w w.heap.size 1 A n cells) :
    Calls Try.prog 58 #[.slice A n cap] w (ClonePost w 5 1 n cells) := by
  cases A with
  | none =>
    have hc0 : cap = 0 := hA rfl
    subst hc0
    obtain rfl : n = 0 := by omega
    have hl : cells = [] := List.eq_nil_of_length_eq_zero (by have := hr.1; simpa using this)
    subst hl
    have heq := Lib.run_eql_slice_nil (P := Try.prog) w 40 5 none 0 0 0 0 Try.underlying40
    clear hr hA h1 hc hn
    go_enter Try.func58, Try.ntmps58
    go_wp2
    go_ret
    exact ⟨none, 0, rfl, Nat.le_refl _, Below.refl _ _, Reads.none_, fun h => absurd h (by omega)⟩
  | some ad =>
    have heq := Lib.run_eql_slice_nil (P := Try.prog) w 40 5 (some ad) n cap 0 0 Try.underlying40
    obtain ⟨i0, HI⟩ : ∃ i0, Hid (Try.prog.info? 5 = some i0 ∧ i0.zero = some (.int .u8 0) ∧ i0.size = 1 ∧ i0.bytes = 1) := by
      obtain ⟨i0, hi, hz0, hz1, hz2⟩ := info_parts infoU8
      exact ⟨i0, Lib.hid ⟨hi, hz0, hz1, hz2⟩⟩
    have HR := Lib.hid hr
    have H1 := Lib.hid h1
    clear hr hA h1
    have h0 : (w.alloc (.cells #[] 5)).ownsRow w.heap.size 5 1 (.slice (some ⟨w.heap.size, 0, none⟩) 0 0) 0 [] := World.ownsRow_lit w #[] 0 (Nat.le_refl _) (by decide) rfl
    go_enter Try.func58, Try.ntmps58
    go_wp2_with (at_builtin; refine wpList_app rfl (.tmp 5) (.tmp 6) 40 rfl w.heap.size 5 i0 _ 1 1 Try.underlying40 HI.out.1 HI.out.2.1 HI.out.2.2.1 HI.out.2.2.2 rfl (by decide) _ 0 [] rfl h0 (some ad) w.heap.size n cap cells rfl (fun h => by cases h) (HR.out.alloc (Nat.le_refl _) _) H1.out (by simp only [maxLen]; omega) (by omega) (by simp) ?_; intro v1 w1 hown1 hg1 hnil; have hb1 : Below w.heap.size w w1 := below_gr (below1 w _) hg1 (by simp) (fun k hk => Nat.le_of_eq (Option.some.inj hk)); (try simp only [Nat.zero_add, List.nil_append] at hown1); obtain ⟨g1, cap1, hv1⟩ : ∃ g1 cap1, v1 = .slice (some ⟨g1, 0, none⟩) n cap1 := (by rcases hown1.2 with ⟨h, _⟩ | ⟨g', cap', cur, h, _⟩; exact absurd (hnil.1 h).1 (by intro e; cases e); exact ⟨g', cap', by simpa using h⟩); subst hv1; have HO := Lib.hid hown1; clear hnil hg1 hown1)
    go_ret
    exact ⟨_, cap1, rfl, own_cap HO.out, hb1, Reads.of_own HO.out, fun _ => ⟨g1, rfl, own_ge HO.out g1 (by simp [Value.ownBlock]), HO.out⟩⟩
/-- Where what the machine keeps lies. -/
def MFresh (base : Nat) (K : MK) (q : List I4) (d : List Int) : Prop := (0 < q.length → ∃ g, K.Aq = some ⟨g, 0, none⟩ ∧ base ≤ g) ∧ (0 < d.length → ∃ g, K.Ad = some ⟨g, 0, none⟩ ∧ base ≤ g) ∧ base ≤ K.mb
def NewPost (w : World) (q : List I4) (d : List Int) (e : Ending) (w' : World) : Prop := ∃ B K, e = .returned (.pointer (some ⟨B, 0, none⟩)) ∧ MachAt w' B K (MV.of CS.zero) ∧ MEnv w' B K q d ∧ MFresh w.heap.size K q d ∧ w.heap.size ≤ B ∧ Below w.heap.size w w'
theorem numV_one (k : IntKind) (d : List Int) : ∀ u ∈ numV k d, u.oneCell' = true := by intro u hu; simp only [numV, List.mem_map] at hu; obtain ⟨x, _, rfl⟩ := hu; rfl
set_option maxHeartbeats 800000 in
theorem New_b (A : Option Addr) (cap : Nat) (q : List I4) (Ad : Option Addr) (capd : Nat) (d : List Int) (hA : A = none → cap = 0) (hc : q.length ≤ cap) (hq8 : q.length * 8 ≤ 200000000000000) (hAd : Ad = none → capd = 0) (hcd : d.length ≤ capd) (hd1 : d.length * 1 ≤ 140737488351232) (w : World)
    (hr : Reads w w.heap.size 4 A q.length (cellsI q)) (hrd : Reads w w.heap.size 1 Ad d.length (numV .u8 d)) :
    Calls Try.prog 30 #[.slice A q.length cap, .slice Ad d.length capd] w (NewPost w q d) := by
  have HR := Lib.hid hr
  have HRD := Lib.hid hrd
  have HA := Lib.hid hA
  have HAd := Lib.hid hAd
  clear hr hrd hA hAd
  go_enter Try.func30, Try.ntmps30
  go_wp2_with fail
  refine (CloneI_b A q.length cap (cellsI q) HA.out hc hq8 (cellsI_one q) w HR.out).mono ?_
  rintro e w1 ⟨A1, cap1, rfl, hcap1, hb1, hr1, hf1⟩
  have HR1 := Lib.hid hr1
  have HF1 := Lib.hid hf1
  clear hr1 hf1
  go_wp2_with fail
  refine (CloneB_c Ad d.length capd (numV .u8 d) HAd.out hcd hd1 (numV_one _ _) w1 (HRD.out.up hb1)).mono ?_
  rintro e w2 ⟨A2, cap2, rfl, hcap2, hb2, hr2, hf2⟩
  have HR2 := Lib.hid hr2
  have HF2 := Lib.hid hf2
  have hb2' := below_t hb1 hb2
  clear hr2 hf2
  go_wp2_with fail
  refine (operations_c w2).mono ?_
  rintro e w3 ⟨rfl, hown, hb3⟩
  have HO := Lib.hid hown
  have hb3' := below_t hb2' hb3
  have hs3 : w2.heap.size < w3.heap.size := hown.lt
  clear hown
  go_wp2
  go_ret
  refine ⟨w3.heap.size, ⟨A1, q.length, cap1, A2, d.length, cap2, w2.heap.size⟩, rfl, ⟨rfl, ?_⟩, ⟨rfl, rfl, ?_, ?_, hs3, HO.out.alloc _⟩, ⟨fun h => ?_, fun h => ?_, hb2'.size⟩, hb3'.size, below_al hb3' _⟩
  · rw [heap_alloc_new]; rfl
  · exact ((HR1.out.up hb2).up hb3).alloc (Nat.le_refl _) _
  · exact (HR2.out.up hb3).alloc (Nat.le_refl _) _
  · obtain ⟨g, hg, hl, _⟩ := HF1.out h; exact ⟨g, hg, hl⟩
  · obtain ⟨g, hg, hl, _⟩ := HF2.out h; exact ⟨g, hg, Nat.le_trans hb1.size hl⟩
theorem stepsOf_at {w : World} {B : Nat} {K : MK} {z : CS} (h : MachAt w B K (MV.of z)) : stepsOf B w = z.steps := by
  unfold stepsOf; rw [h.c21]; simp [MV.of]
/-- A machine on its way. -/
def OnWay (w : World) (B : Nat) (K : MK) (q : List I4) (d : List Int) (R : Res4) (wr : World) : Prop := ∃ z, MachAt wr B K (MV.of z) ∧ MEnv wr B K q d ∧ z.ok q ∧ Below w.heap.size w wr ∧ z.done = false ∧ ∃ n, (CS.after q d n z).done = true ∧ (CS.after q d n z).answer = R
set_option maxHeartbeats 800000 in
theorem Run_b (A : Option Addr) (cap : Nat) (q : List I4) (Ad : Option Addr) (capd : Nat) (d : List Int) (hA : A = none → cap = 0) (hc : q.length ≤ cap) (hq8 : q.length * 8 ≤ 200000000000000) (hAd : Ad = none → capd = 0) (hcd : d.length ≤ capd) (hd1 : d.length * 1 ≤ 140737488351232)
    (hq : ∀ x ∈ q, x.ok) (hd : ∀ x ∈ d, 0 ≤ x ∧ x < 256) (w : World) (hr : Reads w w.heap.size 4 A q.length (cellsI q)) (hrd : Reads w w.heap.size 1 Ad d.length (numV .u8 d)) :
    Calls Try.prog 15 #[.slice A q.length cap, .slice Ad d.length capd] w (RunPost w (runC q d)) := by
  obtain ⟨RES, hRES⟩ : ∃ x, x = runC q d := ⟨_, rfl⟩
  rw [← hRES]
  have hrun := runC_after q d
  rw [← hRES] at hrun
  have HRUN := Lib.hid hrun
  have HN := Lib.hid (New_b A cap q Ad capd d hA hc hq8 hAd hcd hd1 w hr hrd)
  have HQ := Lib.hid hq
  have HD := Lib.hid hd
  clear hRES hrun hr hrd hA hAd hq hd
  go_enter Try.func15, Try.ntmps15
  go_wp2_with fail
  refine HN.out.mono ?_
  rintro e w1 ⟨B, K, rfl, hm1, he1, hf1, hB1, hb1⟩
  have HW := Lib.hid (show OnWay w B K q d RES w1 from ⟨CS.zero, hm1, he1, CS.zero_ok q, hb1, rfl, _, HRUN.out⟩)
  clear hm1 he1 hf1 hb1 HN HRUN
  go_wp2_with fail
  go_loopw [12] (fun p wr => Hid (OnWay w B K q d RES wr)) (fun p wr => q.length + 1 - stepsOf B wr)
  case atStart => exact HW
  case round =>
    obtain ⟨z, hm, he, hz, hbw, hdn, n, hn⟩ := hrel.out
    obtain ⟨m, rfl, hn'⟩ := after_ne hdn hn
    have hst := stepsOf_at hm
    have HST := Lib.hid hst
    have HS := Lib.hid (Step_c B K q d z wr hm he hz HQ.out HD.out (by omega))
    have HE := Lib.hid he
    have HN' := Lib.hid hn'
    have HZ := Lib.hid (CS.next_ok HD.out HQ.out hz)
    have hz6 := hz.2.2.2.2.2.1
    have hBw := Nat.le_of_lt hm.lt
    clear hm he hz hdn hn hn' hrel HW hst
    go_wp2_with fail
    refine HS.out.mono ?_
    rintro e w2 ⟨rfl, hm2, hg2⟩
    have he2 := HE.out.grown hg2 hBw
    have hb2 : Below w.heap.size w w2 := hbw.grown hg2 (by have := hbw.size; omega) (fun k hk => by cases hk; exact hB1)
    cases hdd : (z.next q d).done with
    | false =>
      have HW2 := Lib.hid (show OnWay w B K q d RES w2 from ⟨_, hm2, he2, HZ.out, hb2, hdd, m, HN'.out⟩)
      have hs2 := stepsOf_at hm2
      rw [next_steps hdd] at hs2
      have HS2 := Lib.hid hs2
      have ht : (MV.of (z.next q d)).through = false := hdd
      clear hm2 he2 hs2 hg2 HS HE
      go_wp2
      go_roundw
      case rel => exact HW2
      case measure => rw [HST.out, HS2.out]; omega
    | true =>
      have hfin : (z.next q d).answer = RES := by have := HN'.out.2; rwa [CS.after_done _ hdd] at this
      have HM2 := Lib.hid hm2
      have HF := Lib.hid hfin
      have ht : (MV.of (z.next q d)).through = true := hdd
      clear hm2 he2 hg2 HS HE hfin
      go_wp2_with fail
      refine (Answer_c B K _ w2 HM2.out).mono ?_
      rw [HF.out]
      rintro e w3 ⟨rfl, nn, rfl⟩
      have hb3 := below_drN hb2 nn
      obtain ⟨r1, r2, r3, r4⟩ := RES
      simp only [ret4]
      go_wp2
      refine bodyPost_ret (v := .tuple #[.int .u32 r1, .int .i64 r2, .int .i64 r3, .int .i64 r4]) (by simp [results, Try.results15, go_sem]) rfl ⟨rfl, hb3⟩
theorem Run_c (A : Option Addr) (cap : Nat) (q : List I4) (Ad : Option Addr) (capd : Nat) (d : List Int) (hA : A = none → cap = 0) (hc : q.length ≤ cap) (hq8 : q.length * 8 ≤ 140737488351232) (hAd : Ad = none → capd = 0) (hcd : d.length ≤ capd) (hd1 : d.length * 1 ≤ 140737488351232)
    (hq : ∀ x ∈ q, x.ok) (hd : ∀ x ∈ d, 0 ≤ x ∧ x < 256) (w : World) (hr : Reads w w.heap.size 4 A q.length (cellsI q)) (hrd : Reads w w.heap.size 1 Ad d.length (numV .u8 d)) :
    Calls Try.prog 15 #[.slice A q.length cap, .slice Ad d.length capd] w (RunPost w (runC q d)) := Run_b A cap q Ad capd d hA hc (by omega) hAd hcd hd1 hq hd w hr hrd
end Go.Proofs.Ytehpoamideeehaa
