import Derived.Test.YtalhjbncloobpaaMirHead
import Derived.Test.YtalhjbncloobpaaMirStore
set_option linter.unusedVariables false
set_option linter.unusedSimpArgs false
namespace Go.Proofs.Ytalhjbncloobpaa
open Go.RowKit Go.ChangeShapes Go.WideShapes Go.ChangeAt
open Go.ChangeMaps (open_string shut_string)
/-! MirLong. -/
def zeroR : R7 := ⟨0, 0, 0, 0, 0, 0, 0⟩
theorem cellsR_rep (n : Nat) (x : R7) : (madeCells x.cells.toArray (n * 7)).toList = cellsR (List.replicate n x) := by
  apply List.ext_getElem?
  intro j
  by_cases hj : j < n * 7
  · have hm : j % 7 < 7 := Nat.mod_lt _ (by omega)
    have hd : j / 7 < n := Nat.div_lt_of_lt_mul (by omega)
    have := cellsR_get (List.replicate n x) (j / 7) x (by simp [hd]) (j % 7) hm
    rw [show j / 7 * 7 + j % 7 = j by omega] at this
    rw [this]
    have hz : ∃ u, x.cells[j % 7]? = some u := ⟨_, List.getElem?_eq_getElem (by simpa [R7.cells] using hm)⟩
    obtain ⟨u, hu⟩ := hz
    rw [hu]
    simp only [R7.cells] at hu
    simp [madeCells, hj, R7.cells, hu]
  · rw [List.getElem?_eq_none (by simp [madeCells]; omega), List.getElem?_eq_none (by rw [cellsR_length]; simp; omega)]
theorem MCheck_n (A : Option Addr) (regs : Int) (N : Nat) (q : List R7) (hN : q.length = N) (hq : ∀ x ∈ q, x.ok) (hn : N ≤ 9223372036854775807) (w : World) (hr : Reads w w.heap.size 7 A N (cellsR q)) : Calls Try.prog 28 #[.agg #[.int .i64 regs, .slice A N N]] w (MCheckPost w regs q) := by
  subst hN; exact MCheck_c A regs q.length q hq hn w hr
theorem rMCheck_n (A : Option Addr) (regs : Int) (N : Nat) (q : List R7) (hN : q.length = N) (hq : ∀ x ∈ q, x.ok) (hn : N ≤ 9223372036854775807) (w : World) (hr : Reads w w.heap.size 7 A N (cellsR q)) : Calls Try.prog 29 #[.agg #[.int .i64 regs, .slice A N N]] w (MCheckPost w regs q) := by
  subst hN; exact rMCheck_c A regs q.length q hq hn w hr
set_option maxRecDepth 100000 in
set_option maxHeartbeats 1600000 in
theorem MirLong_w (n : Int) (w : World) (hn : 0 ≤ n ∧ n < 4294967296) :
    Calls Try.prog 6 #[.int .u32 n] w fun e w' => e = .returned (.bool true) ∧ Below w.heap.size w w' := by
  obtain ⟨i0, HI⟩ : ∃ i0, Hid (Try.prog.info? 34 = some i0 ∧ i0.zero = some (.agg #[.int .i64 0, .int .i64 0, .int .i64 0, .int .i64 0, .int .u32 0, .int .i64 0, .int .i64 0]) ∧ i0.size = 7 ∧ i0.bytes = 56) := by
    obtain ⟨i0, hi, hz0, hz1, hz2⟩ := info_parts infoR
    exact ⟨i0, Lib.hid ⟨hi, hz0, hz1, hz2⟩⟩
  obtain ⟨hn1, hn2⟩ := hn
  obtain ⟨m, rfl⟩ := Int.eq_ofNat_of_zero_le hn1
  obtain ⟨N, HN⟩ : ∃ N : Nat, Hid (((m : Int) % 70000) = (N : Int)) := ⟨m % 70000, Lib.hid (by omega)⟩
  have hN : N < 70000 := by have := HN.out; omega
  go_enter Try.func6, Try.ntmps6
  go_wp2_with fail
  refine (Head12_c _).mono ?_
  rintro e w1 ⟨rfl, hb1⟩
  have hs1 := hb1.size
  go_wp2_with (at_make; go_must (refine wpList_make_full _ rfl _ _ 23 rfl w.heap.size 34 i0 _ 7 Try.underlying23 HI.out.1 HI.out.2.1 HI.out.2.2.1 .i64 .i64 _ _ N rfl rfl HN.out HN.out (by rw [HI.out.2.2.2]; omega) (by simp only [maxLen]; omega) (by omega) ?_))
  intro w2 hown2 hg2
  have hb2 : Below w.heap.size w w2 := below_gr hb1 hg2 (by omega) (fun k hk => by cases hk)
  have hs2 : w1.heap.size < w2.heap.size := by
    obtain ⟨h, _⟩ | ⟨g', cap', cur, h, _, hgg, _⟩ := hown2.2
    · cases h
    · injection h with h; injection h with h; injection h with h
      have := (Array.getElem?_eq_some_iff.1 hgg).1
      omega
  have hown3 : w2.ownsRow w.heap.size 34 7 (.slice (some ⟨w1.heap.size, 0, none⟩) N N) N (cellsR (List.replicate N zeroR)) := by
    rw [← cellsR_rep]; exact hown2
  have HO := Lib.hid hown3
  obtain ⟨g, hg, hgs⟩ : ∃ g, g = w1.heap.size ∧ w.heap.size ≤ g := ⟨_, rfl, hs1⟩
  rw [← hg] at HO hs2 ⊢
  clear hown2 hg2 hown3 hg hs1 hb1
  have hN5 : (N : Int) < 70000 := by omega
  go_wp2_with fail
  have hrel0 : PutRel w 1 g N w2.heap.size (List.replicate N zeroR) (w2.alloc (.cells #[.int .i64 1, .slice (some ⟨g, 0, none⟩) N N] 25)) := by
    refine ⟨?_, ?_, below_al hb2 _, by simp [go_sem], by simp [go_sem]⟩
    · intro y hy; obtain rfl := List.eq_of_mem_replicate hy; simp [zeroR, R7.ok, inI64]
    · simpa using HO.out.alloc _
  have H0 := Lib.hid hrel0
  obtain ⟨P, hP⟩ : ∃ P, P = w2.heap.size := ⟨_, rfl⟩
  rw [← hP] at H0 hs2 ⊢
  have hgP : g ≠ P := by omega
  obtain ⟨W2, hW2⟩ : ∃ W2, W2 = w2.alloc (.cells #[.int .i64 1, .slice (some ⟨g, 0, none⟩) N N] 25) := ⟨_, rfl⟩
  rw [← hW2] at H0 ⊢
  clear hrel0 HO hb2 hP hW2 hs2
  go_loopw [5] (fun i wr => ∃ (k : Nat) (L : List R7), k ≤ N ∧ L.length = N ∧ i = .int .i64 k ∧ Hid (PutRel w 1 g N P L wr)) (fun i _ => N - (intOf i).toNat)
  case atStart => exact ⟨0, _, by omega, by simp, rfl, H0⟩
  case round =>
    obtain ⟨k, L, hk, hL, rfl, hr⟩ := hrel
    have c0 := hr.out.2.2.2.1
    have c1 := hr.out.2.2.2.2
    rw [hL] at c1
    by_cases hkn : k < N
    · obtain ⟨x, hx⟩ : ∃ x, L[k]? = some x := ⟨_, List.getElem?_eq_getElem (by omega)⟩
      have g0 := hr.out.get hx 0 (by omega)
      change _ = some (Value.int .i64 x.o) at g0
      rw [Nat.add_zero] at g0
      have hf := hr.out.frozen (k * 7)
      have hxo := hr.out.1 x (List.mem_of_getElem? hx)
      have hput := hr.out.put hx 0 (by omega) 19 (by
        obtain ⟨_, h2⟩ := hxo
        exact ⟨by simp [R7.put, inI64], h2⟩) hgs hgP
      rw [Nat.add_zero] at hput
      have HP := Lib.hid hput
      have hkn' : (k : Int) < N := by omega
      clear hput hxo H0 hx
      go_wp2
      go_roundw
      case rel => exact ⟨k + 1, _, by omega, by simp [hL], by go_num, HP⟩
      case measure => simp [intOf]; omega
    · clear H0
      have HLL := Lib.hid hL
      clear hL
      go_wp2_with fail
      refine (MCheck_n (some ⟨g, 0, none⟩) 1 N L HLL.out hr.out.1 (by omega) _ (by have := hr.out.reads; rwa [HLL.out] at this)).mono ?_
      rintro e w4 ⟨rfl, hb4⟩
      have c0' := keepC hb4 c0
      have c1' := keepC hb4 c1
      have hb4' := below_t hr.out.2.2.1 hb4
      go_wp2_with fail
      refine (rMCheck_n (some ⟨g, 0, none⟩) 1 N L HLL.out hr.out.1 (by omega) _ (by have := (hr.out.keep hb4).reads; rwa [HLL.out] at this)).mono ?_
      rintro e w5 ⟨rfl, hb5⟩
      go_wp2
      go_ret
      exact ⟨rfl, below_t hb4' hb5⟩
/-! ### the row of MirLong -/
set_option maxRecDepth 100000 in
theorem MirLong_lifted (os : Os) (started : os.Started) (H : Type) (enc : TypeId × Value → H) :
    ReturnsInHanded {} Try.checked os 6 .any (Rows.mirLongSpec.pre6 enc Try.prog Try.f6 Rows.mirLongRow.domain false) (Rows.mirLongSpec.post enc Try.prog Try.f6 false true false false) := by
  refine returnsInHanded_of_change_sized (C := Try.checked) ownNone started (by kernel_rfl) Try.func6
    (ChangeSpec.witness6 (enc := enc) (C := Try.checked) false ⟨#[], #[.int .u32 0], []⟩ 8 (by kernel_rfl) (by kernel_rfl) (by kernel_rfl) (by kernel_rfl)) ?_
  intro W base args ds gs before hval0 hW hcnd hsz0 _
  have hsz : (DataW.weightsEach Try.prog (Try.f6.params.toList ++ Rows.mirLongSpec.plain.varTypes Try.prog) (ds ++ gs)).all (· ≤ reachBytes) = true := hsz0
  have hval : ∀ (j : Nat) t v, Try.f6.params[j]? = some t → args[j]? = some v → Value.okWide Try.prog W .any base t v := hval0
  have hW' := hW
  obtain ⟨p, q, hA0, hV, rfl, hfz, hnd⟩ := hW
  have hA : DataW.TrodAll enc Try.prog W 0 (fun _ => true) true Try.f6.params.toList args.toList ds p := hA0
  rw [Try.params6] at hA hval hsz
  obtain ⟨v0, vs0, d0, ds0, p0, q0, hargs, rfl, rfl, h0, r0⟩ := trodAll_cons hA
  obtain ⟨rfl, rfl, rfl⟩ := trodAll_nil r0
  obtain rfl : args = #[v0] := by cases args; simp_all
  obtain ⟨rfl, rfl⟩ := trodVars_none hV
  obtain ⟨x0, rfl, rfl, rfl, w0⟩ := open_int Try.underlying30 (hval 0 30 v0 rfl rfl) h0
  clear hA0 hval0 hsz0 hsz
  refine (MirLong_w x0 W (wf_u32 w0)).mono fun e W' ⟨he, bel⟩ => ?_
  subst he
  exact ⟨_, rfl, _, _, _, [], _, [], hW', trodAll_mk1 (shut_bool Try.underlying4 _), (trodAll_cons_mk (shut_int Try.underlying30 w0) trodAll_mk0), rfl, bel.frame _, fun h => by cases h⟩
theorem MirLong_holds : Rows.MirLongSaid :=
  OpenClaim.holds_of_wide 6 Try.f6 rfl rfl rfl rfl rfl rfl rfl ⟨rfl, rfl, rfl, rfl, rfl⟩ rfl rfl rfl rfl rfl (by kernel_rfl) Try.func6 (by kernel_rfl)
    (of_decide_eq_true (by kernel_rfl)) (by unfold Func.isWrapper; first | (rw [if_pos (by decide +kernel)]; kernel_rfl) | (rw [if_neg (by decide +kernel)]; exact ⟨rfl, rfl⟩))
    (fun os started H enc _ => MirLong_lifted os started H enc)
#print axioms MirLong_holds
end Go.Proofs.Ytalhjbncloobpaa
