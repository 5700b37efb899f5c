import Derived.Test.YtapmpegblfcknaaFlowReach
import Derived.Test.YtapmpegblfcknaaCodes
import Derived.Test.YtapmpegblfcknaaStep
import Derived.Deep.Cut
import Derived.Deep.CutBlock
set_option linter.unusedVariables false
set_option linter.unusedSimpArgs false
namespace Go.Proofs.Ytapmpegblfcknaa
open Go.RowKit Go.Shelf
/-! ravelinref10.Next, the law's numbers: the contracts. -/
def allI (x : I4) (at_ len : Nat) : List Nat :=
  if x.c = 6 ∨ x.c = 22 then []
  else if x.c = 5 then (if x.k < len then [at_ + 1 + x.k.toNat] else [])
  else if memC x.c jumpL = true then (if x.j = x.f then [at_ + 1 + x.j.toNat] else [at_ + 1 + x.j.toNat, at_ + 1 + x.f.toNat])
  else [at_ + 1]
theorem onL_filter {at_ len : Nat} (h : at_ < len) {s : Int} (h0 : 0 ≤ s) : onL at_ (len - at_ - 1) s = [at_ + 1 + s.toNat].filter (fun n => decide (n < len)) := by
  unfold onL
  by_cases hs : s < ((len - at_ - 1 : Nat) : Int)
  · rw [if_pos hs, List.filter_cons, if_pos (by simp; omega)]; rfl
  · rw [if_neg hs, List.filter_cons, if_neg (by simp; omega)]; rfl
theorem allI_filter {x : I4} (hx : x.ok) {at_ len : Nat} (h : at_ < len) : (allI x at_ len).filter (fun n => decide (n < len)) = nextI x at_ (len - at_ - 1) := by
  obtain ⟨a1, a2, a3, a4, a5, a6, a7, a8⟩ := hx
  unfold allI nextI
  split
  · rfl
  split
  · rw [onL_filter h a7]
    split
    · rfl
    · rw [List.filter_cons, if_neg (by simp; omega)]
  split
  · split
    · rw [onL_filter h a3]
    · rw [onL_filter h a3, onL_filter h a5, ← List.filter_append]; rfl
  · rw [onL_filter h (by decide)]; simp
theorem allI_len (x : I4) (at_ len : Nat) : (allI x at_ len).length ≤ 2 := by
  unfold allI
  repeat' split
  all_goals simp
/-- The ways of the reference's switch. -/
theorem allI_ways (x : I4) (hx : x.ok) (at_ len : Nat) :
    ((x.c == 6) = true ∧ natsI (allI x at_ len) = []) ∨ ((x.c == 6) = false ∧ (x.c == 22) = true ∧ natsI (allI x at_ len) = [])
    ∨ ((x.c == 6) = false ∧ (x.c == 22) = false ∧ (x.c == 5) = true ∧ x.k < len ∧ natsI (allI x at_ len) = [(at_ : Int) + 1 + x.k]) ∨ ((x.c == 6) = false ∧ (x.c == 22) = false ∧ (x.c == 5) = true ∧ ¬ x.k < len ∧ natsI (allI x at_ len) = [])
    ∨ ((x.c == 6) = false ∧ (x.c == 22) = false ∧ (x.c == 5) = false ∧ memC x.c jumpL = true ∧ (x.j != x.f) = false ∧ natsI (allI x at_ len) = [(at_ : Int) + 1 + x.j]) ∨ ((x.c == 6) = false ∧ (x.c == 22) = false ∧ (x.c == 5) = false ∧ memC x.c jumpL = true ∧ (x.j != x.f) = true ∧ natsI (allI x at_ len) = [(at_ : Int) + 1 + x.j, (at_ : Int) + 1 + x.f])
    ∨ ((x.c == 6) = false ∧ (x.c == 22) = false ∧ (x.c == 5) = false ∧ memC x.c jumpL = false ∧ natsI (allI x at_ len) = [(at_ : Int) + 1]) := by
  obtain ⟨a1, a2, a3, a4, a5, a6, a7, a8⟩ := hx
  unfold allI natsI
  by_cases h1 : x.c = 6
  · simp [h1]
  by_cases h2 : x.c = 22
  · simp [h2]
  by_cases h3 : x.c = 5
  · by_cases h4 : x.k < len <;> simp [h3, h4] <;> omega
  cases h4 : memC x.c jumpL with
  | false => simp [h1, h2, h3]
  | true => by_cases h5 : x.j = x.f <;> simp [h1, h2, h3, h5] <;> omega
/-- What the switch leaves. -/
def AllRel (w : World) (L : List Nat) (s6 : Value) (wc : World) : Prop := ∃ A6 c6, s6 = .slice A6 L.length c6 ∧ Hid (Reads wc wc.heap.size 1 A6 L.length (numV .i64 (natsI L)) ∧ Below w.heap.size w wc)
theorem AllRel.nil {w wc : World} {L : List Nat} (h : natsI L = []) (hb : Below w.heap.size w wc) : AllRel w L (.slice none 0 0) wc := by
  have : L = [] := by simpa [natsI] using h
  subst this
  exact ⟨none, 0, rfl, Lib.hid ⟨Reads.none_, hb⟩⟩
theorem AllRel.row {w wc : World} {L : List Nat} {v : Value} {n : Nat} {l : List Int} (hl : l.length = n) (hn : 0 < n) (h : natsI L = l) (hr : wc.ownsRow w.heap.size 3 1 v n (numV .i64 l)) (hb : Below w.heap.size w wc) : AllRel w L v wc := by
  have e : L.length = n := by rw [← hl, ← h]; simp [natsI]
  subst h
  subst e
  obtain ⟨g, c, hv, -⟩ := hr.form hn
  subst hv
  exact ⟨_, c, rfl, Lib.hid ⟨Reads.of_own hr, hb⟩⟩
set_option maxRecDepth 100000 in
set_option maxHeartbeats 1600000 in
theorem rNext_c (A : Option Addr) (cap : Nat) (q : List I4) (at_ : Nat) (hat : at_ < q.length) (hok : ∀ x ∈ q, x.ok) (hlen : q.length ≤ 281474976710656) (w : World) (hr : Reads w w.heap.size 4 A q.length (cellsI q)) :
    Calls Try.prog 26 #[.slice A q.length cap, .int .i64 at_] w (NatsPost w (nextQ q at_)) := by
  obtain ⟨x, hx⟩ : ∃ x, q[at_]? = some x := ⟨_, List.getElem?_eq_getElem hat⟩
  have hxok := hok x (List.mem_of_getElem? hx)
  obtain ⟨b, off, rfl, hb, c0, c1, c2, c3⟩ := hr.insn hx
  have hN : nextQ q at_ = (allI x at_ q.length).filter (fun n => decide (n < q.length)) := by unfold nextQ; rw [hx, allI_filter hxok hat]
  obtain ⟨L, hL⟩ : ∃ L, L = allI x at_ q.length := ⟨_, rfl⟩
  have hw := allI_ways x hxok at_ q.length
  have hL2 : L.length ≤ 2 := by rw [hL]; exact allI_len _ _ _
  rw [hN, ← hL]
  rw [← hL] at hw
  have hat' : (at_ : Int) < q.length := by omega
  obtain ⟨a1, a2, a3, a4, a5, a6, a7, a8⟩ := hxok
  have HW := Lib.hid hw
  have hlen' : (q.length : Int) ≤ 281474976710656 := by omega
  clear hN hL hx hok hr hw
  obtain ⟨i0, HI⟩ : ∃ i0, Hid (Try.prog.info? 3 = some i0 ∧ i0.zero = some (.int .i64 0) ∧ i0.size = 1 ∧ i0.bytes = 8) := by
    obtain ⟨i0, hi, hz0, hz1, hz2⟩ := info_parts infoInt
    exact ⟨i0, Lib.hid ⟨hi, hz0, hz1, hz2⟩⟩
  go_enter Try.func26, Try.ntmps26
  go_wp2_with fail
  refine (Jump_c x.c _).mono ?_
  rintro e w1 ⟨rfl, rfl⟩
  obtain ⟨W0, hW0⟩ : ∃ W0, W0 = w.alloc (.cells #[.int .u16 x.c, .int .u8 x.j, .int .u8 x.f, .int .u32 x.k] 33) := ⟨_, rfl⟩
  have HB0 := Lib.hid (show Below w.heap.size w W0 from by rw [hW0]; exact below1 _ _)
  have d0 : W0.cell? ⟨w.heap.size, 0, none⟩ = some (.int .u16 x.c) := by rw [hW0]; simp [go_sem]
  have d1 : W0.cell? ⟨w.heap.size, 1, none⟩ = some (.int .u8 x.j) := by rw [hW0]; simp [go_sem]
  have d2 : W0.cell? ⟨w.heap.size, 2, none⟩ = some (.int .u8 x.f) := by rw [hW0]; simp [go_sem]
  have d3 : W0.cell? ⟨w.heap.size, 3, none⟩ = some (.int .u32 x.k) := by rw [hW0]; simp [go_sem]
  have hW0s : w.heap.size < W0.heap.size := by rw [hW0]; simp
  rw [← hW0]
  clear hW0 c0 c1 c2 c3
  go_upto_block 0 with (fail)
  go_cut [6] from 7 (fun s6 wc => AllRel w L s6 wc)
  case first =>
    rcases HW.out with ⟨h1, hL⟩ | ⟨h1, h2, hL⟩ | ⟨h1, h2, h3, h4, hL⟩ | ⟨h1, h2, h3, h4, hL⟩ | ⟨h1, h2, h3, h4, h5, hL⟩ | ⟨h1, h2, h3, h4, h5, hL⟩ | ⟨h1, h2, h3, h4, hL⟩
    · go_wp2
      go_meet
      exact AllRel.nil hL HB0.out
    · go_wp2
      go_meet
      exact AllRel.nil hL HB0.out
    ·
      go_wp2_with (at_builtin; refine wpList_append_own _ rfl _ _ 36 rfl w.heap.size 3 i0 (.int .i64 0) 1 8 Try.underlying36 HI.out.1 HI.out.2.1 HI.out.2.2.1 HI.out.2.2.2 rfl (by decide) _ 0 [] rfl (World.ownsRow_nil _ _ _ _) ⟨W0.heap.size, 0, none⟩ 1 1 [.int .i64 ((at_ : Int) + 1 + x.k)] rfl rfl (cell_one_new _ _ _) (by simp [Value.oneCell']) (by decide) (by decide) (by have := HB0.out.size; simp; omega) ?_; intro v1 w3 hown1 hgrow _; have hb3 : Below w.heap.size w w3 := below_gr (HB0.out.alloc HB0.out.size _) hgrow (by have := HB0.out.size; simp; omega) (fun k hk => by cases hk); have hb03 : Below W0.heap.size W0 w3 := below_gr (below1 W0 _) hgrow (by simp) (fun k hk => by cases hk); have d1' := keepC hb03 d1; have d2' := keepC hb03 d2; have HO1 := Lib.hid hown1; have HB3 := Lib.hid hb3; have hs3 := hb3.size; obtain ⟨g1, cp1, hv1, -⟩ := hown1.form (by decide); subst hv1; clear hown1 hgrow hb3 hb03)
      go_meet
      exact AllRel.row (n := 1) rfl (by decide) hL HO1.out HB3.out
    · go_wp2
      go_meet
      exact AllRel.nil hL HB0.out
    · rw [h4]
      go_wp2_with (at_builtin; refine wpList_append_own _ rfl _ _ 36 rfl w.heap.size 3 i0 (.int .i64 0) 1 8 Try.underlying36 HI.out.1 HI.out.2.1 HI.out.2.2.1 HI.out.2.2.2 rfl (by decide) _ 0 [] rfl (World.ownsRow_nil _ _ _ _) ⟨W0.heap.size, 0, none⟩ 1 1 [.int .i64 ((at_ : Int) + 1 + x.j)] rfl rfl (cell_one_new _ _ _) (by simp [Value.oneCell']) (by decide) (by decide) (by have := HB0.out.size; simp; omega) ?_; intro v1 w3 hown1 hgrow _; have hb3 : Below w.heap.size w w3 := below_gr (HB0.out.alloc HB0.out.size _) hgrow (by have := HB0.out.size; simp; omega) (fun k hk => by cases hk); have hb03 : Below W0.heap.size W0 w3 := below_gr (below1 W0 _) hgrow (by simp) (fun k hk => by cases hk); have d1' := keepC hb03 d1; have d2' := keepC hb03 d2; have HO1 := Lib.hid hown1; have HB3 := Lib.hid hb3; have hs3 := hb3.size; obtain ⟨g1, cp1, hv1, -⟩ := hown1.form (by decide); subst hv1; clear hown1 hgrow hb3 hb03)
      go_meet
      exact AllRel.row (n := 1) rfl (by decide) hL HO1.out HB3.out
    · rw [h4]
      have tok : True := trivial
      go_wp2_with (at_builtin; first | (have _t := tok; clear tok; refine wpList_append_own _ rfl _ _ 36 rfl w.heap.size 3 i0 (.int .i64 0) 1 8 Try.underlying36 HI.out.1 HI.out.2.1 HI.out.2.2.1 HI.out.2.2.2 rfl (by decide) _ 0 [] rfl (World.ownsRow_nil _ _ _ _) ⟨W0.heap.size, 0, none⟩ 1 1 [.int .i64 ((at_ : Int) + 1 + x.j)] rfl rfl (cell_one_new _ _ _) (by simp [Value.oneCell']) (by decide) (by decide) (by have := HB0.out.size; simp; omega) ?_; intro v1 w3 hown1 hgrow _; have hb3 : Below w.heap.size w w3 := below_gr (HB0.out.alloc HB0.out.size _) hgrow (by have := HB0.out.size; simp; omega) (fun k hk => by cases hk); have hb03 : Below W0.heap.size W0 w3 := below_gr (below1 W0 _) hgrow (by simp) (fun k hk => by cases hk); have d1' := keepC hb03 d1; have d2' := keepC hb03 d2; have HO1 := Lib.hid hown1; have HB3 := Lib.hid hb3; have hs3 := hb3.size; obtain ⟨g1, cp1, hv1, -⟩ := hown1.form (by decide); subst hv1; clear hown1 hgrow hb3 hb03) | (refine wpList_append_own _ rfl _ _ 36 rfl w.heap.size 3 i0 (.int .i64 0) 1 8 Try.underlying36 HI.out.1 HI.out.2.1 HI.out.2.2.1 HI.out.2.2.2 rfl (by decide) _ 1 _ rfl (HO1.out.alloc _) ⟨w3.heap.size, 0, none⟩ 1 1 [.int .i64 ((at_ : Int) + 1 + x.f)] rfl rfl (cell_one_new _ _ _) (by simp [Value.oneCell']) (by decide) (by decide) (by have := HB3.out.size; simp; omega) ?_; intro v2 w4 hown2 hgrow _; have hb4 : Below w.heap.size w w4 := below_gr (HB3.out.alloc HB3.out.size _) hgrow (by have := HB3.out.size; simp; omega) (fun k hk => own_ge HO1.out k hk); have HO2 := Lib.hid hown2; have HB4 := Lib.hid hb4; obtain ⟨g2, cp2, hv2, -⟩ := hown2.form (by decide); subst hv2; clear hown2 hgrow hb4))
      go_meet
      exact AllRel.row (n := 2) rfl (by decide) hL HO2.out HB4.out
    · rw [h4]
      go_wp2_with (at_builtin; refine wpList_append_own _ rfl _ _ 36 rfl w.heap.size 3 i0 (.int .i64 0) 1 8 Try.underlying36 HI.out.1 HI.out.2.1 HI.out.2.2.1 HI.out.2.2.2 rfl (by decide) _ 0 [] rfl (World.ownsRow_nil _ _ _ _) ⟨W0.heap.size, 0, none⟩ 1 1 [.int .i64 ((at_ : Int) + 1)] rfl rfl (cell_one_new _ _ _) (by simp [Value.oneCell']) (by decide) (by decide) (by have := HB0.out.size; simp; omega) ?_; intro v1 w3 hown1 hgrow _; have hb3 : Below w.heap.size w w3 := below_gr (HB0.out.alloc HB0.out.size _) hgrow (by have := HB0.out.size; simp; omega) (fun k hk => by cases hk); have hb03 : Below W0.heap.size W0 w3 := below_gr (below1 W0 _) hgrow (by simp) (fun k hk => by cases hk); have d1' := keepC hb03 d1; have d2' := keepC hb03 d2; have HO1 := Lib.hid hown1; have HB3 := Lib.hid hb3; have hs3 := hb3.size; obtain ⟨g1, cp1, hv1, -⟩ := hown1.form (by decide); subst hv1; clear hown1 hgrow hb3 hb03)
      go_meet
      exact AllRel.row (n := 1) rfl (by decide) hL HO1.out HB3.out
  case rest =>
    obtain ⟨A6, c6, rfl, HALL⟩ := hcut
    have HBc := Lib.hid HALL.out.2
    have HRc := Lib.hid HALL.out.1
    clear HALL HB0 HW d0 d1 d2 d3
    have HG := Lib.hid (show Grows wc 3 (.slice none 0 0) ((L.take 0).filter (fun n => decide (n < q.length))).length (numV .i64 (natsI ((L.take 0).filter (fun n => decide (n < q.length))))) wc from Grows.nil wc 3)
    go_wp2_with fail
    go_loopw [8, 9] (fun o i wr => ∃ k : Nat, k ≤ L.length ∧ i = .int .i64 k ∧ Hid (Grows wc 3 o ((L.take k).filter (fun n => decide (n < q.length))).length (numV .i64 (natsI ((L.take k).filter (fun n => decide (n < q.length))))) wr)) (fun _ i _ => L.length - (intOf i).toNat)
    case atStart => exact ⟨0, by omega, rfl, HG⟩
    case round =>
      obtain ⟨k, hk, rfl, HW⟩ := hrel
      clear HG
      rcases Nat.lt_or_ge k L.length with hkl | hkl
      · have hkl' : (k : Int) < L.length := by omega
        have hL2' : (L.length : Int) ≤ 2 := by omega
        obtain ⟨y, hy⟩ : ∃ y, L[k]? = some y := ⟨_, List.getElem?_eq_getElem hkl⟩
        obtain ⟨b6, o6, rfl, _, hc⟩ := (HRc.out.up HW.out.2).num (x := (y : Int)) (i := k) (by simp [natsI, hy])
        have HY := Lib.hid hy
        have et : L.take (k + 1) = L.take k ++ [y] := by rw [List.take_add_one, hy]; rfl
        have HET := Lib.hid et
        clear hy et
        have hlen2 : ((L.take k).filter (fun n => decide (n < q.length))).length ≤ 2 := Nat.le_trans (List.length_filter_le _ _) (by simp; omega)
        have hsz := HW.out.2.size
        by_cases hyq : y < q.length
        · have hyq' : (y : Int) < q.length := by omega
          have HYQ := Lib.hid hyq
          clear hyq
          go_wp2_with (at_builtin; refine wpList_append_own _ rfl _ _ 36 rfl wc.heap.size 3 i0 (.int .i64 0) 1 8 Try.underlying36 HI.out.1 HI.out.2.1 HI.out.2.2.1 HI.out.2.2.2 rfl (by decide) _ _ _ rfl (HW.out.1.alloc _) ⟨wr.heap.size, 0, none⟩ 1 1 [.int .i64 y] rfl rfl (cell_one_new _ _ _) (by simp [Value.oneCell']) (by simp only [maxLen]; omega) (by omega) (by simp; omega) ?_; intro v' w3 hown' hgrow _; have HO := Lib.hid hown'; have HGR := Lib.hid hgrow; clear hown' hgrow)
          refine ⟨⟨k + 1, hkl, rfl, Lib.hid ?_⟩, ?_⟩
          · have e : (L.take (k + 1)).filter (fun n => decide (n < q.length)) = (L.take k).filter (fun n => decide (n < q.length)) ++ [y] := by rw [HET.out, List.filter_append, List.filter_cons, if_pos (by simpa using HYQ.out)]; rfl
            rw [e, List.length_append]
            have h := HW.out.step HO.out HGR.out
            simpa [natsI, numV] using h
          · simp only [intOf]; omega
        · have hyq' : (q.length : Int) ≤ y := by omega
          have HYQ := Lib.hid hyq
          clear hyq
          go_wp2_with fail
          refine ⟨⟨k + 1, hkl, rfl, Lib.hid ?_⟩, ?_⟩
          · have e : (L.take (k + 1)).filter (fun n => decide (n < q.length)) = (L.take k).filter (fun n => decide (n < q.length)) := by rw [HET.out, List.filter_append, List.filter_cons, if_neg (by simpa using HYQ.out)]; simp
            rw [e]
            exact HW.out
          · simp only [intOf]; omega
      · obtain rfl : k = L.length := by omega
        have hrow := HW.out.1
        have hB := HW.out.2
        rw [List.take_of_length_le (Nat.le_refl _)] at hrow
        have HROW := Lib.hid hrow
        clear hrow HW
        go_wp2
        refine bodyPost_ret (v := u8) (by simp [results, Try.results26, go_sem]) rfl ?_
        exact ⟨_, rfl, own_base HROW.out HBc.out.size, below_t HBc.out hB⟩
/-! Places that are none; the numbers that are the same. -/
theorem nats_none {w W : World} (hb : Below w.heap.size w W) : NatsPost w [] (.returned (.slice none 0 0)) W := ⟨_, rfl, World.ownsRow_nil _ _ _ _, hb⟩
set_option maxHeartbeats 400000 in
theorem Next_out (A : Option Addr) (cap : Nat) (n : Nat) (i : Int) (hi : i < 0 ∨ (n : Int) ≤ i) (w : World) : Calls Try.prog 24 #[.slice A n cap, .int .i64 i] w (NatsPost w []) := by
  refine (callsIn_wide (n := 3)).1 ?_
  rcases hi with hi | hi
  · refine callsIn_of_wp_marks Try.func24 rfl trivial ?_ rfl
    simp only [Try.ntmps24, List.size_toArray, List.length_cons, List.length_nil, Nat.reduceAdd, Nat.reduceSub, Array.replicate_succ, Array.replicate_zero, List.push_toArray, List.append_toArray, List.nil_append, List.cons_append]
    gi_wp2_with fail
    exact ⟨_, results_tmp rfl _ _ _, nats_none (Below.refl _ _)⟩
  · refine callsIn_of_wp_marks Try.func24 rfl trivial ?_ rfl
    simp only [Try.ntmps24, List.size_toArray, List.length_cons, List.length_nil, Nat.reduceAdd, Nat.reduceSub, Array.replicate_succ, Array.replicate_zero, List.push_toArray, List.append_toArray, List.nil_append, List.cons_append]
    gi_wp2_with fail
    exact ⟨_, results_tmp rfl _ _ _, nats_none (Below.refl _ _)⟩
set_option maxHeartbeats 400000 in
theorem rNext_out (A : Option Addr) (cap : Nat) (n : Nat) (i : Int) (hi : i < 0 ∨ (n : Int) ≤ i) (w : World) : Calls Try.prog 26 #[.slice A n cap, .int .i64 i] w (NatsPost w []) := by
  rcases hi with hi | hi
  · go_enter Try.func26, Try.ntmps26
    go_wp2
    refine bodyPost_ret (v := .slice none 0 0) (by simp [results, Try.results26, go_sem]) rfl ?_
    exact nats_none (Below.refl _ _)
  · go_enter Try.func26, Try.ntmps26
    go_wp2
    refine bodyPost_ret (v := .slice none 0 0) (by simp [results, Try.results26, go_sem]) rfl ?_
    exact nats_none (Below.refl _ _)
set_option maxHeartbeats 800000 in
theorem numbers_c (A B : Option Addr) (ca cb : Nat) (l : List Nat) (hl : l.length ≤ 281474976710656) (w : World) (ha : Reads w w.heap.size 1 A l.length (numV .i64 (natsI l))) (hb : Reads w w.heap.size 1 B l.length (numV .i64 (natsI l))) :
    Calls Try.prog 25 #[.slice A l.length ca, .slice B l.length cb] w fun e w' => e = .returned (.bool true) ∧ Below w.heap.size w w' := by
  have HA := Lib.hid ha
  have HB := Lib.hid hb
  have hl' : (l.length : Int) ≤ 281474976710656 := by omega
  clear ha hb
  go_enter Try.func25, Try.ntmps25
  go_wp2_with fail
  go_loopw [5] (fun i wr => ∃ k : Nat, k ≤ l.length ∧ i = .int .i64 k ∧ Below w.heap.size w wr) (fun i _ => l.length - (intOf i).toNat)
  case atStart => exact ⟨0, by omega, rfl, Below.refl _ _⟩
  case round =>
    obtain ⟨k, hk, rfl, hB⟩ := hrel
    rcases Nat.lt_or_ge k l.length with hkl | hkl
    · have hkl' : (k : Int) < l.length := by omega
      obtain ⟨y, hy⟩ : ∃ y, l[k]? = some y := ⟨_, List.getElem?_eq_getElem hkl⟩
      obtain ⟨b1, o1, rfl, _, c1⟩ := (HA.out.up hB).num (x := (y : Int)) (i := k) (by simp [natsI, hy])
      obtain ⟨b2, o2, rfl, _, c2⟩ := (HB.out.up hB).num (x := (y : Int)) (i := k) (by simp [natsI, hy])
      clear hy
      go_wp2_with fail
      go_quiet (fail)
      go_wp2_with fail
      exact ⟨⟨k + 1, hkl, rfl, below_drN hB nq⟩, by simp only [intOf]; omega⟩
    · obtain rfl : k = l.length := by omega
      go_wp2
      go_ret
      exact ⟨rfl, hB⟩
theorem nextAt_in {q : List I4} {i : Nat} : nextAt q i = nextQ q i := by unfold nextAt; rw [if_neg (by omega), Int.toNat_natCast]
theorem nextAt_out {q : List I4} {i : Int} (h : i < 0 ∨ (q.length : Int) ≤ i) : nextAt q i = [] := by
  unfold nextAt
  split
  · rfl
  · unfold nextQ; rw [List.getElem?_eq_none (by omega)]
theorem NextA_c (A : Option Addr) (cap : Nat) (q : List I4) (i : Int) (hok : ∀ x ∈ q, x.ok) (hlen : q.length ≤ 281474976710656) (w : World) (hr : Reads w w.heap.size 4 A q.length (cellsI q)) :
    Calls Try.prog 24 #[.slice A q.length cap, .int .i64 i] w (NatsPost w (nextAt q i)) := by
  by_cases h : i < 0 ∨ (q.length : Int) ≤ i
  · rw [nextAt_out h]; exact Next_out A cap q.length i h w
  · obtain ⟨n, rfl⟩ := Int.eq_ofNat_of_zero_le (a := i) (by omega)
    rw [nextAt_in]; exact Next_c A cap q n (by omega) hok hlen w hr
theorem rNextA_c (A : Option Addr) (cap : Nat) (q : List I4) (i : Int) (hok : ∀ x ∈ q, x.ok) (hlen : q.length ≤ 281474976710656) (w : World) (hr : Reads w w.heap.size 4 A q.length (cellsI q)) :
    Calls Try.prog 26 #[.slice A q.length cap, .int .i64 i] w (NatsPost w (nextAt q i)) := by
  by_cases h : i < 0 ∨ (q.length : Int) ≤ i
  · rw [nextAt_out h]; exact rNext_out A cap q.length i h w
  · obtain ⟨n, rfl⟩ := Int.eq_ofNat_of_zero_le (a := i) (by omega)
    rw [nextAt_in]; exact rNext_c A cap q n (by omega) hok hlen w hr
end Go.Proofs.Ytapmpegblfcknaa
