import Derived.Test.YtapmpegblfcknaaCheckL3
import Derived.Deep.DeepMust
set_option linter.unusedVariables false
set_option linter.unusedSimpArgs false
namespace Go.Proofs.Ytapmpegblfcknaa
open Go.RowKit Go.ChangeShapes Go.WideShapes Go.ChangeAt
open Go.ChangeMaps (open_string shut_string)
/-! CheckLong. -/
theorem cellsI_set (L : List I4) (n : Nat) (x : I4) (h : n < L.length) : ((((cellsI L).set (n * 4) (.int .u16 x.c)).set (n * 4 + 1) (.int .u8 x.j)).set (n * 4 + 2) (.int .u8 x.f)).set (n * 4 + 3) (.int .u32 x.k) = cellsI (L.set n x) := by
  induction L generalizing n with
  | nil => simp at h
  | cons y L ih =>
    have e : ∀ (y : I4) (L : List I4), cellsI (y :: L) = .int .u16 y.c :: .int .u8 y.j :: .int .u8 y.f :: .int .u32 y.k :: cellsI L := fun y L => by simp [cellsI, I4.cells]
    cases n with
    | zero => simp [e]
    | succ n =>
      simp only [List.set_cons_succ, e]
      rw [← ih n (by simpa using h)]
      rw [show (n + 1) * 4 = n * 4 + 4 by omega, show n * 4 + 4 + 1 = n * 4 + 1 + 4 by omega, show n * 4 + 4 + 2 = n * 4 + 2 + 4 by omega, show n * 4 + 4 + 3 = n * 4 + 3 + 4 by omega]
      simp only [List.set_cons_succ]
theorem cellsI_rep (n : Nat) (x : I4) : (madeCells x.cells.toArray (n * 4)).toList = cellsI (List.replicate n x) := by
  induction n with
  | zero => simp [madeCells, cellsI]
  | succ n ih =>
    apply List.ext_getElem?
    intro j
    by_cases hj : j < (n + 1) * 4
    · have hm : j % 4 < 4 := Nat.mod_lt _ (by omega)
      have hd : j / 4 < n + 1 := Nat.div_lt_of_lt_mul (by omega)
      have := cellsI_get (List.replicate (n + 1) x) (j / 4) x (by simp [hd]) (j % 4) hm
      rw [show j / 4 * 4 + j % 4 = j by omega] at this
      rw [this]
      have hz : ∃ u, x.cells[j % 4]? = some u := ⟨_, List.getElem?_eq_getElem (by simpa [I4.cells] using hm)⟩
      obtain ⟨u, hu⟩ := hz
      rw [hu]
      simp only [I4.cells] at hu
      simp [madeCells, hj, I4.cells, hu]
    · rw [List.getElem?_eq_none (by simp [madeCells]; omega), List.getElem?_eq_none (by rw [cellsI_length]; simp; omega)]
def zeroI : I4 := ⟨0, 0, 0, 0⟩
def retI : I4 := ⟨6, 0, 0, 0⟩
def LongRel (w : World) (x : I4) (N g : Nat) (wr : World) : Prop :=
  ∃ L : List I4, L.length = N ∧ (∀ y ∈ L, y.ok) ∧ wr.ownsRow w.heap.size 33 4 (.slice (some ⟨g, 0, none⟩) N N) N (cellsI L) ∧ Below w.heap.size w wr ∧ wr.heap[w.heap.size]? = some (.cells #[.int .u16 x.c, .int .u8 x.j, .int .u8 x.f, .int .u32 x.k] 33 (0, 0))
theorem owns_store {w : World} {base N g n : Nat} {L : List I4} (x : I4) (hL : L.length = N) (hn : n < N) (h : w.ownsRow base 33 4 (.slice (some ⟨g, 0, none⟩) N N) N (cellsI L)) :
    ((((w.setCell ⟨g, n * 4, none⟩ (.int .u16 x.c)).setCell ⟨g, n * 4 + 1, none⟩ (.int .u8 x.j)).setCell ⟨g, n * 4 + 2, none⟩ (.int .u8 x.f)).setCell ⟨g, n * 4 + 3, none⟩ (.int .u32 x.k)).ownsRow base 33 4 (.slice (some ⟨g, 0, none⟩) N N) N (cellsI (L.set n x)) := by
  rw [← cellsI_set L n x (by omega)]
  exact (((h.stored _ _).1.stored _ _).1.stored _ _).1.stored _ _ |>.1
theorem LongRel.store {w wr : World} {x : I4} {N g n : Nat} (y : I4) (hy : y.ok) (hn : n < N) (hg : w.heap.size < g) (h : LongRel w x N g wr) :
    LongRel w x N g ((((wr.setCell ⟨g, n * 4, none⟩ (.int .u16 y.c)).setCell ⟨g, n * 4 + 1, none⟩ (.int .u8 y.j)).setCell ⟨g, n * 4 + 2, none⟩ (.int .u8 y.f)).setCell ⟨g, n * 4 + 3, none⟩ (.int .u32 y.k)) := by
  obtain ⟨L, h1, h2, h3, h4, h5⟩ := h
  refine ⟨L.set n y, by simp [h1], ?_, owns_store y h1 hn h3, ?_, ?_⟩
  · intro z hz
    rcases List.mem_or_eq_of_mem_set hz with h | rfl
    · exact h2 z h
    · exact hy
  · exact (((h4.setCell (p := ⟨g, _, none⟩) (Nat.le_of_lt hg) _).setCell (p := ⟨g, _, none⟩) (Nat.le_of_lt hg) _).setCell (p := ⟨g, _, none⟩) (Nat.le_of_lt hg) _).setCell (p := ⟨g, _, none⟩) (Nat.le_of_lt hg) _
  · have hne : ∀ (W : World) (o : Nat) (u : Value), (W.setCell ⟨g, o, none⟩ u).heap[w.heap.size]? = W.heap[w.heap.size]? := fun W o u => Below.heap_setCell W ⟨g, o, none⟩ u _ (show w.heap.size ≠ g by omega)
    rw [hne, hne, hne, hne]; exact h5
theorem LongRel.facts {w wr : World} {x : I4} {N g n : Nat} (hn : n < N) (h : LongRel w x N g wr) : ∃ y : I4, wr.cell? ⟨g, n * 4, none⟩ = some (.int .u16 y.c) ∧ wr.cell? ⟨g, n * 4 + 1, none⟩ = some (.int .u8 y.j) ∧ wr.cell? ⟨g, n * 4 + 2, none⟩ = some (.int .u8 y.f) ∧ wr.cell? ⟨g, n * 4 + 3, none⟩ = some (.int .u32 y.k) ∧ ∀ j, wr.frozen? ⟨g, j, none⟩ = false := by
  obtain ⟨L, h1, h2, h3, h4, h5⟩ := h
  obtain ⟨y, hy⟩ : ∃ y, L[n]? = some y := ⟨_, List.getElem?_eq_getElem (by omega)⟩
  have hg := fun m hm => cellsI_get L n y hy m hm
  refine ⟨y, ?_, ?_, ?_, ?_, fun j => h3.frozenAt j⟩
  · rw [h3.cellAt _ (by omega)]; exact hg 0 (by omega)
  · rw [h3.cellAt _ (by omega)]; exact hg 1 (by omega)
  · rw [h3.cellAt _ (by omega)]; exact hg 2 (by omega)
  · rw [h3.cellAt _ (by omega)]; exact hg 3 (by omega)
theorem Check_n (A : Option Addr) (N : Nat) (q : List I4) (hN : q.length = N) (hq : ∀ x ∈ q, x.ok) (hn : N ≤ 9223372036854775807) (w : World) (hr : Reads w w.heap.size 4 A N (cellsI q)) : Calls Try.prog 16 #[.slice A N N] w (CheckPost w q) := by
  subst hN; exact Check_c A q.length q hq hn w hr
theorem rCheck_n (A : Option Addr) (N : Nat) (q : List I4) (hN : q.length = N) (hq : ∀ x ∈ q, x.ok) (hn : N ≤ 9223372036854775807) (w : World) (hr : Reads w w.heap.size 4 A N (cellsI q)) : Calls Try.prog 17 #[.slice A N N] w (CheckPost w q) := by
  subst hN; exact rCheck_c A q.length q hq hn w hr
set_option maxHeartbeats 800000 in
theorem CheckLong_w (n : Int) (x : I4) (w : World) (hn : 0 ≤ n ∧ n < 65536) (hx : x.ok) :
    Calls Try.prog 4 #[.int .u16 n, .agg #[.int .u16 x.c, .int .u8 x.j, .int .u8 x.f, .int .u32 x.k]] w fun e w' => e = .returned (.bool true) ∧ Below w.heap.size w w' := by
  obtain ⟨i0, HI⟩ : ∃ i0, Hid (Try.prog.info? 33 = some i0 ∧ i0.zero = some (.agg #[.int .u16 0, .int .u8 0, .int .u8 0, .int .u32 0]) ∧ i0.size = 4 ∧ i0.bytes = 8) := by
    obtain ⟨i0, hi, hz0, hz1, hz2⟩ := info_parts infoI
    exact ⟨i0, Lib.hid ⟨hi, hz0, hz1, hz2⟩⟩
  obtain ⟨hn1, hn2⟩ := hn
  obtain ⟨m, rfl⟩ := Int.eq_ofNat_of_zero_le hn1
  have HX := Lib.hid hx
  clear hx
  obtain ⟨N, HN⟩ : ∃ N : Nat, Hid (((m : Int) % 5000) = (N : Int)) := ⟨m % 5000, Lib.hid (by omega)⟩
  have hN : N < 5000 := by have := HN.out; omega
  go_enter Try.func4, Try.ntmps4
  go_wp2_with fail
  refine (Head04_c _).mono ?_
  rintro e w1 ⟨rfl, hb1⟩
  have hbox : w1.heap[w.heap.size]? = some (.cells #[.int .u16 x.c, .int .u8 x.j, .int .u8 x.f, .int .u32 x.k] 33 (0, 0)) := by
    rw [hb1.block _ (by simp)]; exact heap_alloc_new w _
  have hb1' := below_t (below1 w _) hb1
  have hs1 : w.heap.size < w1.heap.size := by have := hb1.size; simp at this; omega
  have HB := Lib.hid hbox
  clear hbox
  go_wp2_with (at_make; go_must (refine wpList_make_full _ rfl _ _ 22 rfl w.heap.size 33 i0 _ 4 Try.underlying22 HI.out.1 HI.out.2.1 HI.out.2.2.1 .i64 .i64 _ _ N rfl rfl HN.out HN.out (by rw [HI.out.2.2.2]; omega) (by simp only [maxLen]; omega) (by omega) ?_))
  intro w2 hown2 hg2
  have hb2 : Below w.heap.size w w2 := below_gr hb1' hg2 (by omega) (fun k hk => by cases hk)
  have hrel0 : LongRel w x N w1.heap.size w2 := by
    refine ⟨List.replicate N zeroI, by simp, ?_, ?_, hb2, ?_⟩
    · intro y hy; obtain rfl := List.eq_of_mem_replicate hy; simp [zeroI, I4.ok]
    · rw [← cellsI_rep]; exact hown2
    · rw [hg2.block _ (by omega) (by simp)]; exact HB.out
  have H0 := Lib.hid hrel0
  obtain ⟨g, hg, hgs⟩ : ∃ g, g = w1.heap.size ∧ w.heap.size < g := ⟨_, rfl, hs1⟩
  rw [← hg] at H0 ⊢
  clear hown2 hg2 hrel0 hg HB hs1
  have hN5 : (N : Int) < 5000 := by omega
  go_wp2_with fail
  go_loopw [7] (fun i wr => ∃ k : Nat, k ≤ N ∧ i = .int .i64 k ∧ Hid (LongRel w x N g wr)) (fun i _ => N - (intOf i).toNat)
  case atStart => exact ⟨0, by omega, rfl, H0⟩
  case round =>
    obtain ⟨k, hk, rfl, hr⟩ := hrel
    by_cases hlt : k < N
    · obtain ⟨y, c0, c1, c2, c3, hf⟩ := LongRel.facts hlt hr.out
      have hbx : wr.heap[w.heap.size]? = some (.cells #[.int .u16 x.c, .int .u8 x.j, .int .u8 x.f, .int .u32 x.k] 33 (0, 0)) := by
        obtain ⟨_, _, _, _, _, h⟩ := hr.out; exact h
      have b0 := cell_of_row wr w.heap.size 0 _ _ _ hbx
      have b1 := cell_of_row wr w.heap.size 1 _ _ _ hbx
      have b2 := cell_of_row wr w.heap.size 2 _ _ _ hbx
      have b3 := cell_of_row wr w.heap.size 3 _ _ _ hbx
      simp only [List.getElem?_toArray, List.getElem?_cons_zero, List.getElem?_cons_succ] at b0 b1 b2 b3
      have hlt' : (k : Int) < N := by omega
      have HS := Lib.hid (hr.out.store x HX.out hlt hgs)
      clear hbx
      go_wp2
      go_roundw
      case rel => exact ⟨k + 1, by omega, by go_num, HS⟩
      case measure => simp [intOf]; omega
    · clear H0
      by_cases hp : 0 < N
      · obtain ⟨y, c0, c1, c2, c3, hf⟩ := LongRel.facts (n := N - 1) (by omega) hr.out
        have hs := hr.out.store retI (by simp [retI, I4.ok]) (n := N - 1) (by omega) hgs
        have hp' : (0 : Int) < N := by omega
        have HS := Lib.hid hs
        clear hs
        go_wp2_with fail
        obtain ⟨L, hl, hok, hown, hbw, _⟩ := HS.out
        refine (Check_n (some ⟨g, 0, none⟩) N L hl hok (by omega) _ (Reads.of_own hown)).mono ?_
        rintro e w4 ⟨rfl, hb4⟩
        have hb4' := below_t hbw hb4
        go_wp2_with fail
        refine (rCheck_n (some ⟨g, 0, none⟩) N L hl hok (by omega) _ ((Reads.of_own hown).up hb4)).mono ?_
        rintro e w5 ⟨rfl, hb5⟩
        go_wp2
        go_ret
        exact ⟨rfl, below_t hb4' hb5⟩
      · have hp' : (N : Int) ≤ 0 := by omega
        go_wp2_with fail
        obtain ⟨L, hl, hok, hown, hbw, _⟩ := hr.out
        refine (Check_n (some ⟨g, 0, none⟩) N L hl hok (by omega) _ (Reads.of_own hown)).mono ?_
        rintro e w4 ⟨rfl, hb4⟩
        have hb4' := below_t hbw hb4
        go_wp2_with fail
        refine (rCheck_n (some ⟨g, 0, none⟩) N L hl hok (by omega) _ ((Reads.of_own hown).up hb4)).mono ?_
        rintro e w5 ⟨rfl, hb5⟩
        go_wp2
        go_ret
        exact ⟨rfl, below_t hb4' hb5⟩
/-! ### the row of CheckLong -/
set_option maxRecDepth 100000 in
theorem CheckLong_lifted (os : Os) (started : os.Started) (H : Type) (enc : TypeId × Value → H) :
    ReturnsInHanded {} Try.checked os 4 .any (Rows.checkLongSpec.pre6 enc Try.prog Try.f4 Rows.checkLongRow.domain false) (Rows.checkLongSpec.post enc Try.prog Try.f4 false true false false) := by
  refine returnsInHanded_of_change_sized (C := Try.checked) ownNone started (by kernel_rfl) Try.func4
    (ChangeSpec.witness6 (enc := enc) (C := Try.checked) false ⟨#[], #[.int .u16 0, .agg #[.int .u16 0, .int .u8 0, .int .u8 0, .int .u32 0]], []⟩ 8 (by kernel_rfl) (by kernel_rfl) (by kernel_rfl) (by kernel_rfl)) ?_
  intro W base args ds gs before hval0 hW hcnd hsz0 _
  have hsz : (DataW.weightsEach Try.prog (Try.f4.params.toList ++ Rows.checkLongSpec.plain.varTypes Try.prog) (ds ++ gs)).all (· ≤ reachBytes) = true := hsz0
  have hval : ∀ (j : Nat) t v, Try.f4.params[j]? = some t → args[j]? = some v → Value.okWide Try.prog W .any base t v := hval0
  have hW' := hW
  obtain ⟨p, q, hA0, hV, rfl, hfz, hnd⟩ := hW
  have hA : DataW.TrodAll enc Try.prog W 0 (fun _ => true) true Try.f4.params.toList args.toList ds p := hA0
  rw [Try.params4] at hA hval hsz
  obtain ⟨v0, vs0, d0, ds0, p0, q0, hargs, rfl, rfl, h0, r0⟩ := trodAll_cons hA
  obtain ⟨v1, vs1, d1, ds1, p1, q1, rfl, rfl, rfl, h1, r1⟩ := trodAll_cons r0
  obtain ⟨rfl, rfl, rfl⟩ := trodAll_nil r1
  obtain rfl : args = #[v0, v1] := by cases args; simp_all
  obtain ⟨rfl, rfl⟩ := trodVars_none hV
  obtain ⟨x0, rfl, rfl, rfl, w0⟩ := open_int Try.underlying30 (hval 0 30 v0 rfl rfl) h0
  obtain ⟨x1, rfl, hx1⟩ := open_insn (hval 1 33 v1 rfl rfl) h1
  have k1 := h1
  have lt1 : ∀ x ∈ p1, x.block < W.heap.size := by obtain ⟨m, hm⟩ := k1; exact DataW.trod_lt m _ _ _ hm
  clear hA0 hval0 hsz0 hsz
  refine (CheckLong_w x0 x1 W (wf_u16 w0) hx1).mono fun e W' ⟨he, bel⟩ => ?_
  subst he
  exact ⟨_, rfl, _, _, _, [], _, [], hW', trodAll_mk1 (shut_bool Try.underlying4 _), (trodAll_cons_mk (shut_int Try.underlying30 w0) (trodAll_cons_mk (Below.trod laidOutB_ (by kernel_rfl) (of_decide_eq_true (by kernel_rfl)) k1 bel lt1) trodAll_mk0)), rfl, bel.frame _, fun h => by cases h⟩
theorem CheckLong_holds : Rows.CheckLongSaid :=
  OpenClaim.holds_of_wide 4 Try.f4 rfl rfl rfl rfl rfl rfl rfl ⟨rfl, rfl, rfl, rfl, rfl⟩ rfl rfl rfl rfl rfl (by kernel_rfl) Try.func4 (by kernel_rfl)
    (of_decide_eq_true (by kernel_rfl)) (by unfold Func.isWrapper; first | (rw [if_pos (by decide +kernel)]; kernel_rfl) | (rw [if_neg (by decide +kernel)]; exact ⟨rfl, rfl⟩))
    (fun os started H enc _ => CheckLong_lifted os started H enc)
#print axioms CheckLong_holds
end Go.Proofs.Ytapmpegblfcknaa
