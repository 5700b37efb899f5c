import Derived.Test.YtfpemoellglknaaLowW2
import Derived.Test.YtfpemoellglknaaStep
import Derived.Deep.RegionLaw
import Derived.IntWalk
set_option linter.unusedVariables false
set_option linter.unusedSimpArgs false
namespace Go.Proofs.Ytfpemoellglknaa
open Go.RowKit
/-! ravelinref09: size, jump, code, places: the walks. -/
def aggN (x : N8) : Value := .agg #[.bool x.lf, .int .u32 x.wd, .int .i64 x.off, .int .u32 x.msk, .int .i64 x.op, .int .u32 x.k, .int .i64 x.t, .int .i64 x.f]
theorem rsize_c (x : N8) (a b : Bool) (w : World) : Calls Try.prog 35 #[.agg #[.bool x.lf, .int .u32 x.wd, .int .i64 x.off, .int .u32 x.msk, .int .i64 x.op, .int .u32 x.k, .int .i64 x.t, .int .i64 x.f], .agg #[.bool a, .bool b]] w fun e w' => e = .returned (.int .i64 (sizeN x (a, b))) ∧ Below w.heap.size w w' := by
  obtain ⟨lf, wd, of, msk, op, k, t, f⟩ := x
  cases lf with
  | true =>
    go_enter Try.func35, Try.ntmps35
    go_wp2
    go_ret
    exact ⟨rfl, below_al (below1 w _) _⟩
  | false =>
    cases hm : (msk != 4294967295) <;> cases a <;> cases b
    all_goals (
      have HX := Lib.hid hm
      go_enter Try.func35, Try.ntmps35
      go_wp2
      go_ret
      exact ⟨ret_i (by have h := HX.out; simp only [sizeN, ones32, b2n, h]; rfl), below_al (below1 w _) _⟩)
theorem rjump_c (x : N8) (p : Nat) (hp : (p : Int) ≤ 100000) (w : World) : Calls Try.prog 36 #[.agg #[.bool x.lf, .int .u32 x.wd, .int .i64 x.off, .int .u32 x.msk, .int .i64 x.op, .int .u32 x.k, .int .i64 x.t, .int .i64 x.f], .int .i64 p] w fun e w' => e = .returned (.int .i64 (jumpN x p)) ∧ Below w.heap.size w w' := by
  obtain ⟨lf, wd, of, msk, op, k, t, f⟩ := x
  cases hm : (msk != 4294967295)
  all_goals (
    have HX := Lib.hid hm
    go_enter Try.func36, Try.ntmps36
    go_wp2
    go_ret
    exact ⟨ret_i (by have h := HX.out; simp only [jumpN, ones32, b2n, h]; simp; try omega), below1 w _⟩)
theorem rcode_c (op : Int) (w : World) : Calls Try.prog 23 #[.int .i64 op] w fun e w' => e = .returned (.int .u16 (codeN op)) ∧ w = w' := by
  by_cases h1 : op = 1
  · have HX := Lib.hid h1
    have t1 : (op == 1) = true := by simpa using h1
    clear h1
    go_enter Try.func23, Try.ntmps23
    go_wp2
    go_ret
    exact ⟨ret_i (by unfold codeN; rw [if_pos HX.out]), rfl⟩
  have t1 : (op == 1) = false := by simpa using h1
  have H1 := Lib.hid h1
  clear h1
  by_cases h2 : op = 2
  · have HX := Lib.hid h2
    have t2 : (op == 2) = true := by simpa using h2
    clear h2
    go_enter Try.func23, Try.ntmps23
    go_wp2
    go_ret
    exact ⟨ret_i (by unfold codeN; rw [if_neg H1.out, if_pos HX.out]), rfl⟩
  have t2 : (op == 2) = false := by simpa using h2
  have H2 := Lib.hid h2
  clear h2
  by_cases h3 : op = 3
  · have HX := Lib.hid h3
    have t3 : (op == 3) = true := by simpa using h3
    clear h3
    go_enter Try.func23, Try.ntmps23
    go_wp2
    go_ret
    exact ⟨ret_i (by unfold codeN; rw [if_neg H1.out, if_neg H2.out, if_pos HX.out]), rfl⟩
  · have t3 : (op == 3) = false := by simpa using h3
    have H3 := Lib.hid h3
    clear h3
    go_enter Try.func23, Try.ntmps23
    go_wp2
    go_ret
    exact ⟨ret_i (by unfold codeN; rw [if_neg H1.out, if_neg H2.out, if_neg H3.out]), rfl⟩
/-! Rows of ways: which are long. -/
def farV (far : List (Bool × Bool)) : List Value := far.flatMap fun p => [.bool p.1, .bool p.2]
theorem farV_length (far : List (Bool × Bool)) : (farV far).length = far.length * 2 := by
  induction far with
  | nil => rfl
  | cons p far ih => simp only [farV, List.flatMap_cons, List.length_append, List.length_cons, List.length_nil] at ih ⊢; omega
theorem farV_get (far : List (Bool × Bool)) (i : Nat) (h : i < far.length) : (farV far)[i * 2]? = some (.bool (farAt far i).1) ∧ (farV far)[i * 2 + 1]? = some (.bool (farAt far i).2) := by
  induction far generalizing i with
  | nil => simp at h
  | cons p far ih =>
    have e : farV (p :: far) = [.bool p.1, .bool p.2] ++ farV far := by simp [farV]
    rw [e]
    cases i with
    | zero => exact ⟨rfl, rfl⟩
    | succ i =>
      have := ih i (by simpa using h)
      rw [show (i + 1) * 2 = i * 2 + 2 by omega, show i * 2 + 2 + 1 = i * 2 + 1 + 2 by omega]
      exact this
theorem farV_set (far : List (Bool × Bool)) (i : Nat) (h : i < far.length) : (∀ b, (farV far).set (i * 2) (.bool b) = farV (far.set i (b, (farAt far i).2))) ∧ (∀ b, (farV far).set (i * 2 + 1) (.bool b) = farV (far.set i ((farAt far i).1, b))) := by
  induction far generalizing i with
  | nil => simp at h
  | cons p far ih =>
    have e : ∀ (p : Bool × Bool) (far : List (Bool × Bool)), farV (p :: far) = .bool p.1 :: .bool p.2 :: farV far := fun p far => by simp [farV]
    cases i with
    | zero => exact ⟨fun b => by simp [e, farAt], fun b => by simp [e, farAt]⟩
    | succ i =>
      have := ih i (by simpa using h)
      rw [show (i + 1) * 2 = i * 2 + 1 + 1 by omega, show i * 2 + 1 + 1 + 1 = i * 2 + 1 + 1 + 1 by omega]
      refine ⟨fun b => ?_, fun b => ?_⟩
      · simp only [e, List.set_cons_succ]; rw [this.1 b]; rfl
      · simp only [e, List.set_cons_succ]; rw [this.2 b]; rfl
theorem farV_rep (n : Nat) : (madeCells (Value.agg #[.bool false, .bool false]).cells (n * 2)).toList = farV (List.replicate n (false, false)) := by
  refine List.ext_getElem? fun j => ?_
  rcases Nat.lt_or_ge j (n * 2) with hj | hj
  · have h := farV_get (List.replicate n (false, false)) (j / 2) (by simp; omega)
    have e : farAt (List.replicate n (false, false)) (j / 2) = (false, false) := by unfold farAt; rw [List.getD_eq_getElem?_getD, List.getElem?_replicate]; split <;> rfl
    rw [e] at h
    have hz : (Value.agg #[.bool false, .bool false]).cells = #[Value.bool false, .bool false] := rfl
    have hl : (madeCells #[Value.bool false, .bool false] (n * 2)).toList[j]? = some (.bool false) := by
      simp only [madeCells, Array.toList_map, List.getElem?_map, Array.toList_range, List.getElem?_range hj, Option.map_some, Option.some.injEq]
      rcases Nat.mod_two_eq_zero_or_one j with e | e <;> · show (#[Value.bool false, Value.bool false] : Array Value)[j % 2]! = _; rw [e]; rfl
    rw [hz, hl]
    rcases Nat.mod_two_eq_zero_or_one j with e2 | e2
    · rw [show j = j / 2 * 2 by omega]; exact h.1.symm
    · rw [show j = j / 2 * 2 + 1 by omega]; exact h.2.symm
  · rw [List.getElem?_eq_none (by simp [madeCells]; omega), List.getElem?_eq_none (by rw [farV_length]; simp; omega)]
def natsL (l : List Nat) : List Int := l.map fun n : Nat => (n : Int)
theorem infoInt9 : (Try.prog.info? 3).map (fun i => (i.zero, i.size, i.bytes)) = some (some (.int .i64 0), 1, 8) := by kernel_rfl
/-- The places of nodes. -/
def placeL (q : List N8) (far : List (Bool × Bool)) (k : Nat) : List Nat := (List.range k).map (placeN q far)
theorem placeL_snoc (q : List N8) (far : List (Bool × Bool)) (k : Nat) : placeL q far (k + 1) = placeL q far k ++ [placeN q far k] := by unfold placeL; rw [List.range_succ, List.map_append]; rfl
theorem placeL_len (q : List N8) (far : List (Bool × Bool)) (k : Nat) : (placeL q far k).length = k := by simp [placeL]
theorem placeL_get (q : List N8) (far : List (Bool × Bool)) {i k : Nat} (h : i < k) : (placeL q far k)[i]? = some (placeN q far i) := by simp [placeL, h]
def PlacesPost (w : World) (q : List N8) (far : List (Bool × Bool)) (e : Ending) (w' : World) : Prop := ∃ g c, e = .returned (.slice (some ⟨g, 0, none⟩) (q.length + 1) c) ∧ w'.ownsRow w.heap.size 3 1 (.slice (some ⟨g, 0, none⟩) (q.length + 1) c) (q.length + 1) (numV .i64 (natsL (placeL q far (q.length + 1)))) ∧ Below w.heap.size w w'
set_option maxRecDepth 100000 in
set_option maxHeartbeats 3200000 in
theorem places_c (A : Option Addr) (cap : Nat) (q : List N8) (hn : q.length ≤ 4096) (Af : Option Addr) (cf : Nat) (far : List (Bool × Bool)) (hf : far.length = q.length) (w : World) (hr : Reads w w.heap.size 8 A q.length (cellsN q)) (hrf : Reads w w.heap.size 2 Af q.length (farV far)) :
    Calls Try.prog 19 #[.slice A q.length cap, .slice Af q.length cf] w (PlacesPost w q far) := by
  obtain ⟨i0, HI⟩ : ∃ i0, Hid (Try.prog.info? 3 = some i0 ∧ i0.zero = some (.int .i64 0) ∧ i0.size = 1 ∧ i0.bytes = 8) := by
    obtain ⟨i0, hi, hz0, hz1, hz2⟩ := info_parts infoInt9
    exact ⟨i0, Lib.hid ⟨hi, hz0, hz1, hz2⟩⟩
  have HR := Lib.hid hr
  have HRF := Lib.hid hrf
  have HF := Lib.hid hf
  have hn' : (q.length : Int) ≤ 4096 := by omega
  have hown0 : (w.alloc (.cells #[.int .i64 0] 3)).ownsRow w.heap.size 3 1 (.slice (some ⟨w.heap.size, 0, none⟩) 1 1) 1 (numV .i64 (natsL (placeL q far 1))) := by
    refine ⟨rfl, .inr ⟨w.heap.size, 1, #[.int .i64 0], rfl, Nat.le_refl _, heap_alloc_new w _, Nat.le_refl _, by decide, rfl, rfl⟩⟩
  have HS : Hid ((w.alloc (.cells #[.int .i64 0] 3)).ownsRow w.heap.size 3 1 (.slice (some ⟨w.heap.size, 0, none⟩) (0 + 1) 1) (0 + 1) (numV .i64 (natsL (placeL q far (0 + 1)))) ∧ Below w.heap.size w (w.alloc (.cells #[.int .i64 0] 3))) := Lib.hid ⟨hown0, below1 _ _⟩
  clear hr hrf hf hown0
  go_enter Try.func19, Try.ntmps19
  go_wp2_with fail
  go_loopw [5, 6] (fun v i wr => ∃ (k g c : Nat), k ≤ q.length ∧ i = .int .i64 k ∧ v = .slice (some ⟨g, 0, none⟩) (k + 1) c ∧ Hid (wr.ownsRow w.heap.size 3 1 (.slice (some ⟨g, 0, none⟩) (k + 1) c) (k + 1) (numV .i64 (natsL (placeL q far (k + 1)))) ∧ Below w.heap.size w wr)) (fun _ i _ => q.length - (intOf i).toNat)
  case atStart => exact ⟨0, _, _, by omega, rfl, rfl, HS⟩
  case round =>
    obtain ⟨k, g, c, hk, rfl, rfl, HW⟩ := hrel
    clear HS
    rcases Nat.lt_or_ge k q.length with hkq | hkq
    · have hkq' : (k : Int) < q.length := by omega
      obtain ⟨x, hx⟩ : ∃ x, q[k]? = some x := ⟨_, List.getElem?_eq_getElem hkq⟩
      have hsz := HW.out.2.size
      obtain ⟨b, off, rfl, hb, d0, d1, d2, d3, d4, d5, d6, d7⟩ := (HR.out.up HW.out.2).node hx
      obtain ⟨b2, off2, hA2, hb2, hcf⟩ := (HRF.out.up HW.out.2).2 (by omega)
      subst hA2
      have hfk := farV_get far k (by rw [HF.out]; exact hkq)
      have f0 := hcf _ _ hfk.1
      have f1 := hcf _ _ hfk.2
      rw [← Nat.add_assoc] at f1
      obtain ⟨fa, fb⟩ : ∃ fa, fa = (farAt far k).1 := ⟨_, rfl⟩
      obtain ⟨ga, gb⟩ : ∃ ga, ga = (farAt far k).2 := ⟨_, rfl⟩
      rw [← fb] at f0
      rw [← gb] at f1
      obtain ⟨p, hp⟩ : ∃ p, p = placeN q far k := ⟨_, rfl⟩
      have cp : wr.cell? ⟨g, k, none⟩ = some (.int .i64 p) := by
        rw [HW.out.1.cellAt k (by omega), hp]
        simp [numV, natsL, placeL_get q far (show k < k + 1 by omega)]
      obtain ⟨s, hs⟩ : ∃ s, s = sizeN x (fa, ga) := ⟨_, rfl⟩
      have hsb := sizeN_bounds x (fa, ga)
      rw [← hs] at hsb
      have hpb : (p : Int) ≤ 20480 := by have := placeN_le q far k; omega
      have hsb2 : (s : Int) ≤ 5 := by omega
      have hgw : g < wr.heap.size := World.block_lt_of_cell? wr _ cp
      have HNX : Hid (numV .i64 (natsL (placeL q far (k + 1 + 1))) = numV .i64 (natsL (placeL q far (k + 1))) ++ [.int .i64 ((p : Int) + s)]) := Lib.hid (by
        rw [placeL_snoc q far (k + 1), placeN_succ hx, ← hp, show farAt far k = (fa, ga) by rw [fb, gb], ← hs]
        simp [natsL, numV])
      have HSS := Lib.hid hs
      have HC : Hid (∀ W : World, Below wr.heap.size wr W → W.cell? ⟨g, k, none⟩ = some (.int .i64 p)) := Lib.hid (fun W hb => keepC hb cp)
      have hk1 : (k : Int) < (k : Int) + 1 := by omega
      have hwr : IntKind.i64.wrap ((p : Int) + s) = (p : Int) + s := IntWalk.i64_in _ (by omega)
      clear hx hfk hcf fb gb hp hs hsb
      go_wp2_with fail
      go_region_law (first
        | (go_simp; go_at_call 35; refine (rsize_c x fa ga _).mono ?_; rintro e w3 ⟨rfl, hb3'⟩; rw [← HSS.out]; have hb3 : Below wr.heap.size wr w3 := below_t (below_dr (Below.refl _ _)) hb3'; have cp3 := HC.out w3 hb3; have cp4 : ∀ o, (w3.alloc o).cell? ⟨g, k, none⟩ = some (.int .i64 p) := (fun o => keepC (below1 w3 o) cp3); clear hb3')
        | (refine step_app rfl (.tmp 14) (.tmp 29) 60 rfl w.heap.size 3 i0 _ 1 8 Try.underlying60 HI.out.1 HI.out.2.1 HI.out.2.2.1 HI.out.2.2.2 rfl (by decide) _ (k + 1) _ rfl ((HW.out.1.kept (row := none) ⟨hb3.os, hb3.tape, hb3.output, hb3.size, fun k hk _ => hb3.block k hk⟩ (.inr (by simp [Value.ownBlock]))).alloc _) (some ⟨w3.heap.size, 0, none⟩) (w3.heap.size + 1) 1 1 [.int .i64 ((p : Int) + s)] rfl (fun h => by cases h) (reads_new w3 _ _ 1 1 [.int .i64 ((p : Int) + s)] rfl rfl) (by simp [Value.oneCell']) (by simp only [maxLen]; omega) (by omega) (by have := hb3.size; simp; omega) ?_; intro v' w4 hown4 hg4 _; obtain ⟨g4, cap4, hv4, -, -⟩ := hown4.form (by omega); subst hv4; have HG4 := Lib.hid hg4; have HO4 := Lib.hid hown4; clear hg4 hown4))
      all_goals (
        clear hwr
        go_wp2
        go_roundw
        case rel =>
          refine ⟨k + 1, g4, cap4, by omega, by go_num, rfl, Lib.hid ⟨?_, below_gr ((below_tr HW.out.2 hsz hb3).alloc (by have := hb3.size; omega) _) HG4.out (by have := hb3.size; simp; omega) (fun k hk => own_ge HW.out.1 k hk)⟩⟩
          rw [HNX.out]
          exact HO4.out
        case measure => simp [intOf]; omega)
    · obtain rfl : k = q.length := by omega
      have HE := Lib.hid HW.out
      clear HW
      go_wp2
      refine bodyPost_ret (v := .slice (some ⟨g, 0, none⟩) (q.length + 1) c) (by simp [results, Try.results19, go_sem]) rfl ?_
      exact ⟨g, c, rfl, HE.out.1, HE.out.2⟩
end Go.Proofs.Ytfpemoellglknaa
