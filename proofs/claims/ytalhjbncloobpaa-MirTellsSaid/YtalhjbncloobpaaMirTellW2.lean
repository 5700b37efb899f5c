import Derived.Test.YtalhjbncloobpaaMirTellW1
import Derived.Test.YtalhjbncloobpaaMirW4
import Derived.BigQuiet
import Derived.Deep.QuietTactic
set_option linter.unusedVariables false
set_option linter.unusedSimpArgs false
namespace Go.Proofs.Ytalhjbncloobpaa
open Go.RowKit
/-! mir.Next; the reference's Uses, Next; the law's Numbers: the walks. -/
theorem nums_nil {w W : World} (hb : Below w.heap.size w W) : NumRow w (.slice none 0 0) [] W := ⟨World.ownsRow_nil _ _ _ _, hb⟩
theorem nextP_out {q : List R7} {at_ : Int} (h : at_ < 0 ∨ (q.length : Int) ≤ at_) : nextP q at_ = [] := by unfold nextP; rw [if_pos h]
theorem nextP_at {q : List R7} {n : Nat} {x : R7} (hx : q[n]? = some x) : nextP q n = if (!known x.o || x.o == 19) = true then [] else if shF x.o = true then addP q.length (addP q.length [] x.t) x.f else if shT x.o = true then addP q.length [] x.t else addP q.length [] ((n : Int) + 1) := by
  have hn := (List.getElem?_eq_some_iff.1 hx).1
  unfold nextP
  rw [if_neg (by omega), show (n : Int).toNat = n by omega, hx]
theorem LB.start (w : World) (t : TypeId) : LB (w.heap.size + 1) w.heap.size [] (.slice none 0 0) (w.alloc (.cells #[.slice none 0 0] t)) (w.alloc (.cells #[.slice none 0 0] t)) := by
  refine ⟨al_cell w [.cells #[.slice none 0 0] t] 0 rfl 0, al_frozen w [.cells #[.slice none 0 0] t] 0 rfl 0, World.ownsRow_nil _ _ _ _, fun _ => rfl, by omega, by simp, fun _ _ _ _ => rfl, Below.refl _ _⟩
theorem LB.row {base B2 : Nat} {l : List Int} {v : Value} {w w0 W : World} (h : LB base B2 l v w0 W) (hb : Below w.heap.size w w0) (hB : w.heap.size ≤ B2) : NumRow w v l W := ⟨numT_lower h.own (by have := h.hB; omega), hb.trans (below_of h.below hB)⟩
set_option maxRecDepth 100000 in
set_option maxHeartbeats 3200000 in
theorem Next12_c (A : Option Addr) (regs : Int) (cap : Nat) (q : List R7) (at_ : Int) (hn : q.length * 56 ≤ 140737488351232) (w : World) (hr : Reads w w.heap.size 7 A q.length (cellsR q)) :
    Calls Try.prog 37 #[.agg #[.int .i64 regs, .slice A q.length cap], .int .i64 at_] w fun e w' => ∃ v, e = .returned v ∧ NumRow w v (nextP q at_) w' := by
  by_cases h0 : at_ < 0
  · have HV := Lib.hid (nextP_out (q := q) (.inl h0))
    have g0 : decide (at_ < 0) = true := by simpa using h0
    clear h0 hr hn
    go_enter Try.func37, Try.ntmps37
    go_wp2
    go_ret
    exact ⟨_, rfl, by rw [HV.out]; exact nums_nil (below1 _ _)⟩
  have g0 : decide (at_ < 0) = false := by simpa using h0
  by_cases h1 : (q.length : Int) ≤ at_
  · have HV := Lib.hid (nextP_out (q := q) (.inr h1))
    have g1 : decide ((q.length : Int) ≤ at_) = true := by simpa using h1
    clear h0 h1 hr hn
    go_enter Try.func37, Try.ntmps37
    go_wp2
    go_ret
    exact ⟨_, rfl, by rw [HV.out]; exact nums_nil (below1 _ _)⟩
  obtain ⟨n, rfl⟩ : ∃ n : Nat, at_ = n := ⟨at_.toNat, by omega⟩
  have hlt : n < q.length := by omega
  obtain ⟨x, hx⟩ : ∃ x, q[n]? = some x := ⟨_, List.getElem?_eq_getElem hlt⟩
  have hV := nextP_at hx
  obtain ⟨b, off, he, hb, i0, i1, i2, i3, i4, i5, i6⟩ := hr.ir hx
  subst he
  have hlt1 : (n : Int) < q.length := by omega
  have g1 : decide ((q.length : Int) ≤ (n : Int)) = false := by simp; omega
  have hw1 : IntKind.i64.wrap ((n : Int) + 1) = (n : Int) + 1 := by rw [IntKind.wrap_i64]; omega
  clear h0 h1 hr hx
  obtain ⟨o, d, a, b2, k, t, f⟩ := x
  dsimp only at *
  obtain ⟨N, hN⟩ : ∃ N, N = q.length := ⟨_, rfl⟩
  obtain ⟨R, hR⟩ : ∃ R, R = nextP q n := ⟨_, rfl⟩
  rw [← hR] at hV ⊢
  rw [← hN] at hV hlt1 g1 ⊢
  clear hR hN hlt hn
  obtain ⟨K, hK⟩ : ∃ K, K = known o := ⟨_, rfl⟩
  obtain ⟨xF, hxF⟩ : ∃ X, X = shF o := ⟨_, rfl⟩
  obtain ⟨xT, hxT⟩ : ∃ X, X = shT o := ⟨_, rfl⟩
  obtain ⟨E19, hE⟩ : ∃ X, (o == 19) = X := ⟨_, rfl⟩
  rw [← hK, ← hxF, ← hxT, hE] at hV
  have HO4 := Lib.hid (show ofV (ofD o) (ofA o) (ofB o) (shT o) (shF o) (known o) = ofV (ofD o) (ofA o) (ofB o) xT xF K by rw [hxF, hxT, hK])
  have HV := Lib.hid hV
  clear hK hxF hxT hV
  cases K with
  | false =>
    go_enter Try.func37, Try.ntmps37
    go_wp2_with fail
    refine (of_c o _).mono ?_
    rintro e w1 ⟨rfl, hb1⟩
    rw [HO4.out]
    unfold ofV
    have c0 : w1.cell? ⟨w.heap.size, 1, none⟩ = some (.slice (some ⟨b, off, none⟩) N cap) := keepC hb1 (by simp [go_sem])
    have d0 : w1.cell? ⟨w.heap.size + 1, 0, none⟩ = some (.int .i64 o) := keepC hb1 (by simp [go_sem])
    have d5 : w1.cell? ⟨w.heap.size + 1, 5, none⟩ = some (.int .i64 t) := keepC hb1 (by simp [go_sem])
    have d6 : w1.cell? ⟨w.heap.size + 1, 6, none⟩ = some (.int .i64 f) := keepC hb1 (by simp [go_sem])
    have hb1' : Below w.heap.size w w1 := below_t (below_al (below1 w _) _) hb1
    have hz1 : w.heap.size + 2 ≤ w1.heap.size := by have := hb1.size; simp at this; omega
    clear hb1 i0 i1 i2 i3 i4 i5 i6
    obtain ⟨W, hW⟩ : ∃ W, W = (w1.alloc (.cells #[.bool (ofD o), .bool (ofA o), .bool (ofB o), .bool xT, .bool xF] 85)).alloc (.cells #[.slice none 0 0] 52) := ⟨_, rfl⟩
    have hLB : LB (w1.heap.size + 2) (w1.heap.size + 1) [] (.slice none 0 0) W W := by
      rw [hW]
      have h := LB.start (w1.alloc (.cells #[.bool (ofD o), .bool (ofA o), .bool (ofB o), .bool xT, .bool xF] 85)) 52
      rwa [World.size_alloc] at h
    have hbW : Below w1.heap.size w1 W := by rw [hW]; exact al_below w1 [_, _]
    have hbw := below_t hb1' hbW
    have c0' := keepC hbW c0
    have d0' := keepC hbW d0
    have s3 : W.cell? ⟨w1.heap.size, 3, none⟩ = some (.bool xT) := by rw [hW]; simp [go_sem]
    have s4 : W.cell? ⟨w1.heap.size, 4, none⟩ = some (.bool xF) := by rw [hW]; simp [go_sem]
    have d5' := keepC hbW d5
    have d6' := keepC hbW d6
    have HLB := Lib.hid hLB
    have l8 := hLB.cell
    clear hLB hbW
    go_upto_region 8 with (fail)
    rw [← hW]
    clear hW c0 d0 d5 d6
    go_wp2
    go_ret
    exact ⟨_, rfl, by rw [HV.out]; exact nums_nil hbw⟩
  | true =>
    cases E19 with
    | true =>
      go_enter Try.func37, Try.ntmps37
      go_wp2_with fail
      refine (of_c o _).mono ?_
      rintro e w1 ⟨rfl, hb1⟩
      rw [HO4.out]
      unfold ofV
      have c0 : w1.cell? ⟨w.heap.size, 1, none⟩ = some (.slice (some ⟨b, off, none⟩) N cap) := keepC hb1 (by simp [go_sem])
      have d0 : w1.cell? ⟨w.heap.size + 1, 0, none⟩ = some (.int .i64 o) := keepC hb1 (by simp [go_sem])
      have d5 : w1.cell? ⟨w.heap.size + 1, 5, none⟩ = some (.int .i64 t) := keepC hb1 (by simp [go_sem])
      have d6 : w1.cell? ⟨w.heap.size + 1, 6, none⟩ = some (.int .i64 f) := keepC hb1 (by simp [go_sem])
      have hb1' : Below w.heap.size w w1 := below_t (below_al (below1 w _) _) hb1
      have hz1 : w.heap.size + 2 ≤ w1.heap.size := by have := hb1.size; simp at this; omega
      clear hb1 i0 i1 i2 i3 i4 i5 i6
      obtain ⟨W, hW⟩ : ∃ W, W = (w1.alloc (.cells #[.bool (ofD o), .bool (ofA o), .bool (ofB o), .bool xT, .bool xF] 85)).alloc (.cells #[.slice none 0 0] 52) := ⟨_, rfl⟩
      have hLB : LB (w1.heap.size + 2) (w1.heap.size + 1) [] (.slice none 0 0) W W := by
        rw [hW]
        have h := LB.start (w1.alloc (.cells #[.bool (ofD o), .bool (ofA o), .bool (ofB o), .bool xT, .bool xF] 85)) 52
        rwa [World.size_alloc] at h
      have hbW : Below w1.heap.size w1 W := by rw [hW]; exact al_below w1 [_, _]
      have hbw := below_t hb1' hbW
      have c0' := keepC hbW c0
      have d0' := keepC hbW d0
      have s3 : W.cell? ⟨w1.heap.size, 3, none⟩ = some (.bool xT) := by rw [hW]; simp [go_sem]
      have s4 : W.cell? ⟨w1.heap.size, 4, none⟩ = some (.bool xF) := by rw [hW]; simp [go_sem]
      have d5' := keepC hbW d5
      have d6' := keepC hbW d6
      have HLB := Lib.hid hLB
      have l8 := hLB.cell
      clear hLB hbW
      go_upto_region 8 with (fail)
      rw [← hW]
      clear hW c0 d0 d5 d6
      go_wp2
      go_ret
      exact ⟨_, rfl, by rw [HV.out]; exact nums_nil hbw⟩
    | false =>
      cases xF with
      | true =>
        go_enter Try.func37, Try.ntmps37
        go_wp2_with fail
        refine (of_c o _).mono ?_
        rintro e w1 ⟨rfl, hb1⟩
        rw [HO4.out]
        unfold ofV
        have c0 : w1.cell? ⟨w.heap.size, 1, none⟩ = some (.slice (some ⟨b, off, none⟩) N cap) := keepC hb1 (by simp [go_sem])
        have d0 : w1.cell? ⟨w.heap.size + 1, 0, none⟩ = some (.int .i64 o) := keepC hb1 (by simp [go_sem])
        have d5 : w1.cell? ⟨w.heap.size + 1, 5, none⟩ = some (.int .i64 t) := keepC hb1 (by simp [go_sem])
        have d6 : w1.cell? ⟨w.heap.size + 1, 6, none⟩ = some (.int .i64 f) := keepC hb1 (by simp [go_sem])
        have hb1' : Below w.heap.size w w1 := below_t (below_al (below1 w _) _) hb1
        have hz1 : w.heap.size + 2 ≤ w1.heap.size := by have := hb1.size; simp at this; omega
        clear hb1 i0 i1 i2 i3 i4 i5 i6
        obtain ⟨W, hW⟩ : ∃ W, W = (w1.alloc (.cells #[.bool (ofD o), .bool (ofA o), .bool (ofB o), .bool xT, .bool true] 85)).alloc (.cells #[.slice none 0 0] 52) := ⟨_, rfl⟩
        have hLB : LB (w1.heap.size + 2) (w1.heap.size + 1) [] (.slice none 0 0) W W := by
          rw [hW]
          have h := LB.start (w1.alloc (.cells #[.bool (ofD o), .bool (ofA o), .bool (ofB o), .bool xT, .bool true] 85)) 52
          rwa [World.size_alloc] at h
        have hbW : Below w1.heap.size w1 W := by rw [hW]; exact al_below w1 [_, _]
        have hbw := below_t hb1' hbW
        have c0' := keepC hbW c0
        have d0' := keepC hbW d0
        have s3 : W.cell? ⟨w1.heap.size, 3, none⟩ = some (.bool xT) := by rw [hW]; simp [go_sem]
        have s4 : W.cell? ⟨w1.heap.size, 4, none⟩ = some (.bool true) := by rw [hW]; simp [go_sem]
        have d5' := keepC hbW d5
        have d6' := keepC hbW d6
        have HLB := Lib.hid hLB
        have l8 := hLB.cell
        clear hLB hbW
        go_upto_region 8 with (fail)
        rw [← hW]
        clear hW c0 d0 d5 d6
        go_wp2_with fail
        refine (add12_c (some ⟨b, off, none⟩) N cap w.heap.size (w1.heap.size + 1) (w1.heap.size + 2) [] _ t W W (by decide) (by omega) (by omega) c0' HLB.out).mono ?_
        rintro e w2 ⟨rfl, v2, h2⟩
        have d6'' := (h2.old (w.heap.size + 1) 6 (by omega) (by omega)).trans d6'
        have H2 := Lib.hid h2
        clear h2
        go_wp2_with fail
        refine (add12_c (some ⟨b, off, none⟩) N cap w.heap.size (w1.heap.size + 1) (w1.heap.size + 2) _ _ f W w2 (by unfold addP; split <;> simp) (by omega) (by omega) c0' H2.out).mono ?_
        rintro e w3 ⟨rfl, v3, h3⟩
        have c3 := h3.cell
        have H3 := Lib.hid h3
        clear h3
        go_wp2
        go_ret
        exact ⟨_, rfl, by rw [HV.out]; exact LB.row H3.out hbw (by omega)⟩
      | false =>
        cases xT with
        | true =>
          go_enter Try.func37, Try.ntmps37
          go_wp2_with fail
          refine (of_c o _).mono ?_
          rintro e w1 ⟨rfl, hb1⟩
          rw [HO4.out]
          unfold ofV
          have c0 : w1.cell? ⟨w.heap.size, 1, none⟩ = some (.slice (some ⟨b, off, none⟩) N cap) := keepC hb1 (by simp [go_sem])
          have d0 : w1.cell? ⟨w.heap.size + 1, 0, none⟩ = some (.int .i64 o) := keepC hb1 (by simp [go_sem])
          have d5 : w1.cell? ⟨w.heap.size + 1, 5, none⟩ = some (.int .i64 t) := keepC hb1 (by simp [go_sem])
          have d6 : w1.cell? ⟨w.heap.size + 1, 6, none⟩ = some (.int .i64 f) := keepC hb1 (by simp [go_sem])
          have hb1' : Below w.heap.size w w1 := below_t (below_al (below1 w _) _) hb1
          have hz1 : w.heap.size + 2 ≤ w1.heap.size := by have := hb1.size; simp at this; omega
          clear hb1 i0 i1 i2 i3 i4 i5 i6
          obtain ⟨W, hW⟩ : ∃ W, W = (w1.alloc (.cells #[.bool (ofD o), .bool (ofA o), .bool (ofB o), .bool true, .bool false] 85)).alloc (.cells #[.slice none 0 0] 52) := ⟨_, rfl⟩
          have hLB : LB (w1.heap.size + 2) (w1.heap.size + 1) [] (.slice none 0 0) W W := by
            rw [hW]
            have h := LB.start (w1.alloc (.cells #[.bool (ofD o), .bool (ofA o), .bool (ofB o), .bool true, .bool false] 85)) 52
            rwa [World.size_alloc] at h
          have hbW : Below w1.heap.size w1 W := by rw [hW]; exact al_below w1 [_, _]
          have hbw := below_t hb1' hbW
          have c0' := keepC hbW c0
          have d0' := keepC hbW d0
          have s3 : W.cell? ⟨w1.heap.size, 3, none⟩ = some (.bool true) := by rw [hW]; simp [go_sem]
          have s4 : W.cell? ⟨w1.heap.size, 4, none⟩ = some (.bool false) := by rw [hW]; simp [go_sem]
          have d5' := keepC hbW d5
          have d6' := keepC hbW d6
          have HLB := Lib.hid hLB
          have l8 := hLB.cell
          clear hLB hbW
          go_upto_region 8 with (fail)
          rw [← hW]
          clear hW c0 d0 d5 d6
          go_wp2_with fail
          refine (add12_c (some ⟨b, off, none⟩) N cap w.heap.size (w1.heap.size + 1) (w1.heap.size + 2) [] _ t W W (by decide) (by omega) (by omega) c0' HLB.out).mono ?_
          rintro e w2 ⟨rfl, v2, h2⟩
          have c2 := h2.cell
          have H2 := Lib.hid h2
          clear h2
          go_wp2
          go_ret
          exact ⟨_, rfl, by rw [HV.out]; exact LB.row H2.out hbw (by omega)⟩
        | false =>
          go_enter Try.func37, Try.ntmps37
          go_wp2_with fail
          refine (of_c o _).mono ?_
          rintro e w1 ⟨rfl, hb1⟩
          rw [HO4.out]
          unfold ofV
          have c0 : w1.cell? ⟨w.heap.size, 1, none⟩ = some (.slice (some ⟨b, off, none⟩) N cap) := keepC hb1 (by simp [go_sem])
          have d0 : w1.cell? ⟨w.heap.size + 1, 0, none⟩ = some (.int .i64 o) := keepC hb1 (by simp [go_sem])
          have d5 : w1.cell? ⟨w.heap.size + 1, 5, none⟩ = some (.int .i64 t) := keepC hb1 (by simp [go_sem])
          have d6 : w1.cell? ⟨w.heap.size + 1, 6, none⟩ = some (.int .i64 f) := keepC hb1 (by simp [go_sem])
          have hb1' : Below w.heap.size w w1 := below_t (below_al (below1 w _) _) hb1
          have hz1 : w.heap.size + 2 ≤ w1.heap.size := by have := hb1.size; simp at this; omega
          clear hb1 i0 i1 i2 i3 i4 i5 i6
          obtain ⟨W, hW⟩ : ∃ W, W = (w1.alloc (.cells #[.bool (ofD o), .bool (ofA o), .bool (ofB o), .bool false, .bool false] 85)).alloc (.cells #[.slice none 0 0] 52) := ⟨_, rfl⟩
          have hLB : LB (w1.heap.size + 2) (w1.heap.size + 1) [] (.slice none 0 0) W W := by
            rw [hW]
            have h := LB.start (w1.alloc (.cells #[.bool (ofD o), .bool (ofA o), .bool (ofB o), .bool false, .bool false] 85)) 52
            rwa [World.size_alloc] at h
          have hbW : Below w1.heap.size w1 W := by rw [hW]; exact al_below w1 [_, _]
          have hbw := below_t hb1' hbW
          have c0' := keepC hbW c0
          have d0' := keepC hbW d0
          have s3 : W.cell? ⟨w1.heap.size, 3, none⟩ = some (.bool false) := by rw [hW]; simp [go_sem]
          have s4 : W.cell? ⟨w1.heap.size, 4, none⟩ = some (.bool false) := by rw [hW]; simp [go_sem]
          have d5' := keepC hbW d5
          have d6' := keepC hbW d6
          have HLB := Lib.hid hLB
          have l8 := hLB.cell
          clear hLB hbW
          go_upto_region 8 with (fail)
          rw [← hW]
          clear hW c0 d0 d5 d6
          go_wp2_with fail
          refine (add12_c (some ⟨b, off, none⟩) N cap w.heap.size (w1.heap.size + 1) (w1.heap.size + 2) [] _ ((n : Int) + 1) W W (by decide) (by omega) (by omega) c0' HLB.out).mono ?_
          rintro e w2 ⟨rfl, v2, h2⟩
          have c2 := h2.cell
          have H2 := Lib.hid h2
          clear h2
          go_wp2
          go_ret
          exact ⟨_, rfl, by rw [HV.out]; exact LB.row H2.out hbw (by omega)⟩
set_option maxHeartbeats 3200000 in
theorem rUses_c (x : R7) (w : World) : Calls Try.prog 35 #[.agg #[.int .i64 x.o, .int .i64 x.d, .int .i64 x.a, .int .i64 x.b, .int .u32 x.k, .int .i64 x.t, .int .i64 x.f]] w fun e w' => ∃ v, e = .returned (.tuple #[v, .int .i64 (usesD x)]) ∧ NumRow w v (usesL x) w' := by
  obtain ⟨o, d, a, b, k, t, f⟩ := x
  dsimp only at *
  obtain ⟨i0, HI⟩ : ∃ i0, Hid (Try.prog.info? 3 = some i0 ∧ i0.zero = some (.int .i64 0) ∧ i0.size = 1 ∧ i0.bytes = 8) := by
    obtain ⟨i0, hi, hz0, hz1, hz2⟩ := info_parts infoInt
    exact ⟨i0, Lib.hid ⟨hi, hz0, hz1, hz2⟩⟩
  by_cases hlo : o < 1
  · have hK : known o = false := by simp [known]; omega
    have HL := Lib.hid (show usesL ⟨o, d, a, b, k, t, f⟩ = [] by simp [usesL, hK])
    have HD := Lib.hid (show usesD ⟨o, d, a, b, k, t, f⟩ = -1 by simp [usesD, hK])
    have g0 : decide (o < 1) = true := by simpa using hlo
    clear hK hlo
    go_enter Try.func35, Try.ntmps35
    go_wp2
    refine bodyPost_ret (v := .tuple #[.slice none 0 0, .int .i64 (-1)]) (by simp [results, Try.results35, go_sem]) rfl ⟨_, by rw [HD.out], ?_⟩
    rw [HL.out]
    exact nums_nil (below1 _ _)
  by_cases hhi : 19 < o
  · have hK : known o = false := by simp [known]; omega
    have HL := Lib.hid (show usesL ⟨o, d, a, b, k, t, f⟩ = [] by simp [usesL, hK])
    have HD := Lib.hid (show usesD ⟨o, d, a, b, k, t, f⟩ = -1 by simp [usesD, hK])
    have g0 : decide (o < 1) = false := by simpa using hlo
    have g1 : decide (19 < o) = true := by simpa using hhi
    clear hK hlo hhi
    go_enter Try.func35, Try.ntmps35
    go_wp2
    refine bodyPost_ret (v := .tuple #[.slice none 0 0, .int .i64 (-1)]) (by simp [results, Try.results35, go_sem]) rfl ⟨_, by rw [HD.out], ?_⟩
    rw [HL.out]
    exact nums_nil (below1 _ _)
  have hK : known o = true := by simp [known]; omega
  have g0 : decide (o < 1) = false := by simpa using hlo
  have g1 : decide (19 < o) = false := by simpa using hhi
  obtain ⟨xA, hxA⟩ : ∃ X, X = shA o := ⟨_, rfl⟩
  obtain ⟨xB, hxB⟩ : ∃ X, X = shB o := ⟨_, rfl⟩
  obtain ⟨xD, hxD⟩ : ∃ X, X = shD o := ⟨_, rfl⟩
  have HL := Lib.hid (show usesL ⟨o, d, a, b, k, t, f⟩ = (if xA then [a] else []) ++ (if xB then [b] else []) by simp only [usesL, hK, hxA, hxB, Bool.true_and])
  have HD := Lib.hid (show usesD ⟨o, d, a, b, k, t, f⟩ = if xD then d else -1 by simp only [usesD, hK, hxD, Bool.true_and])
  have HN := Lib.hid (show namesV (shD o) (shA o) (shB o) (shT o) (shF o) = namesV xD xA xB (shT o) (shF o) by rw [hxA, hxB, hxD])
  clear hK hxA hxB hxD hlo hhi
  go_enter Try.func35, Try.ntmps35
  go_wp2_with fail
  refine (Names_c o _).mono ?_
  rintro e w1 ⟨rfl, rfl⟩
  rw [HN.out]
  unfold namesV
  obtain ⟨W, hW⟩ : ∃ W, W = w.alloc (.cells #[.int .i64 o, .int .i64 d, .int .i64 a, .int .i64 b, .int .u32 k, .int .i64 t, .int .i64 f] 34) := ⟨_, rfl⟩
  have hb : Below w.heap.size w W := by rw [hW]; exact below1 w _
  have k1 : W.cell? ⟨w.heap.size, 1, none⟩ = some (.int .i64 d) := by rw [hW]; simp [go_sem]
  have k2 : W.cell? ⟨w.heap.size, 2, none⟩ = some (.int .i64 a) := by rw [hW]; simp [go_sem]
  have k3 : W.cell? ⟨w.heap.size, 3, none⟩ = some (.int .i64 b) := by rw [hW]; simp [go_sem]
  rw [← hW]
  clear hW
  cases xA with
  | true =>
    cases xB with
    | true =>
      cases xD with
      | true =>
        have tok1 : True := trivial
        have tok2 : True := trivial
        go_wp2_with (at_builtin; first | (have _t := tok1; clear tok1; (refine wpList_app rfl (.tmp 28) (.tmp 31) 52 rfl W.heap.size 3 i0 _ 1 8 Try.underlying52 HI.out.1 HI.out.2.1 HI.out.2.2.1 HI.out.2.2.2 rfl (by decide) (.slice none 0 0) 0 [] rfl (World.ownsRow_nil _ _ _ _) (some ⟨W.heap.size, 0, none⟩) (W.heap.size + 1) 1 1 (numV .i64 [a]) rfl (fun h => by cases h) (reads_new W _ _ 1 1 (numV .i64 [a]) rfl rfl) (numT_one .i64 [a]) (by decide) (by decide) (by simp) ?_; intro v1 w2 hown hgrow _; have hk2 : Below W.heap.size W w2 := below_gr (below1 W _) hgrow (by simp) (fun j hj => by cases hj); have HO1 : Hid (w2.ownsRow W.heap.size 3 1 v1 1 (numV .i64 [a])) := Lib.hid hown; have q1 := k1; have k1 := keepC hk2 k1; have k3 := keepC hk2 k3; clear hown hgrow)) | (have _t := tok2; clear tok2; (refine wpList_app rfl (.tmp 34) (.tmp 37) 52 rfl W.heap.size 3 i0 _ 1 8 Try.underlying52 HI.out.1 HI.out.2.1 HI.out.2.2.1 HI.out.2.2.2 rfl (by decide) _ 1 (numV .i64 [a]) rfl (HO1.out.alloc _) (some ⟨w2.heap.size, 0, none⟩) (w2.heap.size + 1) 1 1 (numV .i64 [b]) rfl (fun h => by cases h) (reads_new w2 _ _ 1 1 (numV .i64 [b]) rfl rfl) (numT_one .i64 [b]) (by decide) (by decide) (by have := hk2.size; simp; omega) ?_; intro v2 w3 hown hgrow _; have hk3 : Below W.heap.size W w3 := below_gr (below_tr (below_of hk2 (Nat.le_refl _)) hk2.size (below1 w2 _)) hgrow (by have := hk2.size; simp; omega) (fun j hj => own_ge HO1.out j hj); have HO2 : Hid (w3.ownsRow W.heap.size 3 1 v2 2 (numV .i64 [a, b])) := Lib.hid hown; have k1 := keepC hk3 q1; clear hown hgrow)))
        go_quiet (fail)
        go_wp2
        refine bodyPost_ret (v := .tuple #[v2, .int .i64 d]) (by simp [results, Try.results35, go_sem]) rfl ⟨_, by rw [HD.out]; rfl, ?_⟩
        rw [HL.out]
        exact ⟨numT_lower HO2.out hb.size, below_drN (below_t hb hk3) _⟩
      | false =>
        have tok1 : True := trivial
        have tok2 : True := trivial
        go_wp2_with (at_builtin; first | (have _t := tok1; clear tok1; (refine wpList_app rfl (.tmp 28) (.tmp 31) 52 rfl W.heap.size 3 i0 _ 1 8 Try.underlying52 HI.out.1 HI.out.2.1 HI.out.2.2.1 HI.out.2.2.2 rfl (by decide) (.slice none 0 0) 0 [] rfl (World.ownsRow_nil _ _ _ _) (some ⟨W.heap.size, 0, none⟩) (W.heap.size + 1) 1 1 (numV .i64 [a]) rfl (fun h => by cases h) (reads_new W _ _ 1 1 (numV .i64 [a]) rfl rfl) (numT_one .i64 [a]) (by decide) (by decide) (by simp) ?_; intro v1 w2 hown hgrow _; have hk2 : Below W.heap.size W w2 := below_gr (below1 W _) hgrow (by simp) (fun j hj => by cases hj); have HO1 : Hid (w2.ownsRow W.heap.size 3 1 v1 1 (numV .i64 [a])) := Lib.hid hown; have q1 := k1; have k1 := keepC hk2 k1; have k3 := keepC hk2 k3; clear hown hgrow)) | (have _t := tok2; clear tok2; (refine wpList_app rfl (.tmp 34) (.tmp 37) 52 rfl W.heap.size 3 i0 _ 1 8 Try.underlying52 HI.out.1 HI.out.2.1 HI.out.2.2.1 HI.out.2.2.2 rfl (by decide) _ 1 (numV .i64 [a]) rfl (HO1.out.alloc _) (some ⟨w2.heap.size, 0, none⟩) (w2.heap.size + 1) 1 1 (numV .i64 [b]) rfl (fun h => by cases h) (reads_new w2 _ _ 1 1 (numV .i64 [b]) rfl rfl) (numT_one .i64 [b]) (by decide) (by decide) (by have := hk2.size; simp; omega) ?_; intro v2 w3 hown hgrow _; have hk3 : Below W.heap.size W w3 := below_gr (below_tr (below_of hk2 (Nat.le_refl _)) hk2.size (below1 w2 _)) hgrow (by have := hk2.size; simp; omega) (fun j hj => own_ge HO1.out j hj); have HO2 : Hid (w3.ownsRow W.heap.size 3 1 v2 2 (numV .i64 [a, b])) := Lib.hid hown; have k1 := keepC hk3 q1; clear hown hgrow)))
        refine bodyPost_ret (v := .tuple #[v2, .int .i64 (-1)]) (by simp [results, Try.results35, go_sem]) rfl ⟨_, by rw [HD.out]; rfl, ?_⟩
        rw [HL.out]
        exact ⟨numT_lower HO2.out hb.size, below_t hb hk3⟩
    | false =>
      cases xD with
      | true =>
        have tok1 : True := trivial
        have tok2 : True := trivial
        go_wp2_with (at_builtin; first | (have _t := tok1; clear tok1; (refine wpList_app rfl (.tmp 28) (.tmp 31) 52 rfl W.heap.size 3 i0 _ 1 8 Try.underlying52 HI.out.1 HI.out.2.1 HI.out.2.2.1 HI.out.2.2.2 rfl (by decide) (.slice none 0 0) 0 [] rfl (World.ownsRow_nil _ _ _ _) (some ⟨W.heap.size, 0, none⟩) (W.heap.size + 1) 1 1 (numV .i64 [a]) rfl (fun h => by cases h) (reads_new W _ _ 1 1 (numV .i64 [a]) rfl rfl) (numT_one .i64 [a]) (by decide) (by decide) (by simp) ?_; intro v1 w2 hown hgrow _; have hk2 : Below W.heap.size W w2 := below_gr (below1 W _) hgrow (by simp) (fun j hj => by cases hj); have HO1 : Hid (w2.ownsRow W.heap.size 3 1 v1 1 (numV .i64 [a])) := Lib.hid hown; have q1 := k1; have k1 := keepC hk2 k1; have k3 := keepC hk2 k3; clear hown hgrow)))
        go_quiet (fail)
        go_wp2
        refine bodyPost_ret (v := .tuple #[v1, .int .i64 d]) (by simp [results, Try.results35, go_sem]) rfl ⟨_, by rw [HD.out]; rfl, ?_⟩
        rw [HL.out]
        exact ⟨numT_lower HO1.out hb.size, below_drN (below_t hb hk2) _⟩
      | false =>
        have tok1 : True := trivial
        have tok2 : True := trivial
        go_wp2_with (at_builtin; first | (have _t := tok1; clear tok1; (refine wpList_app rfl (.tmp 28) (.tmp 31) 52 rfl W.heap.size 3 i0 _ 1 8 Try.underlying52 HI.out.1 HI.out.2.1 HI.out.2.2.1 HI.out.2.2.2 rfl (by decide) (.slice none 0 0) 0 [] rfl (World.ownsRow_nil _ _ _ _) (some ⟨W.heap.size, 0, none⟩) (W.heap.size + 1) 1 1 (numV .i64 [a]) rfl (fun h => by cases h) (reads_new W _ _ 1 1 (numV .i64 [a]) rfl rfl) (numT_one .i64 [a]) (by decide) (by decide) (by simp) ?_; intro v1 w2 hown hgrow _; have hk2 : Below W.heap.size W w2 := below_gr (below1 W _) hgrow (by simp) (fun j hj => by cases hj); have HO1 : Hid (w2.ownsRow W.heap.size 3 1 v1 1 (numV .i64 [a])) := Lib.hid hown; have q1 := k1; have k1 := keepC hk2 k1; have k3 := keepC hk2 k3; clear hown hgrow)))
        refine bodyPost_ret (v := .tuple #[v1, .int .i64 (-1)]) (by simp [results, Try.results35, go_sem]) rfl ⟨_, by rw [HD.out]; rfl, ?_⟩
        rw [HL.out]
        exact ⟨numT_lower HO1.out hb.size, below_t hb hk2⟩
  | false =>
    cases xB with
    | true =>
      cases xD with
      | true =>
        have tok1 : True := trivial
        have tok2 : True := trivial
        go_wp2_with (at_builtin; first | (have _t := tok1; clear tok1; (refine wpList_app rfl (.tmp 34) (.tmp 37) 52 rfl W.heap.size 3 i0 _ 1 8 Try.underlying52 HI.out.1 HI.out.2.1 HI.out.2.2.1 HI.out.2.2.2 rfl (by decide) (.slice none 0 0) 0 [] rfl (World.ownsRow_nil _ _ _ _) (some ⟨W.heap.size, 0, none⟩) (W.heap.size + 1) 1 1 (numV .i64 [b]) rfl (fun h => by cases h) (reads_new W _ _ 1 1 (numV .i64 [b]) rfl rfl) (numT_one .i64 [b]) (by decide) (by decide) (by simp) ?_; intro v1 w2 hown hgrow _; have hk2 : Below W.heap.size W w2 := below_gr (below1 W _) hgrow (by simp) (fun j hj => by cases hj); have HO1 : Hid (w2.ownsRow W.heap.size 3 1 v1 1 (numV .i64 [b])) := Lib.hid hown; have q1 := k1; have k1 := keepC hk2 k1; have k3 := keepC hk2 k3; clear hown hgrow)))
        go_quiet (fail)
        go_wp2
        refine bodyPost_ret (v := .tuple #[v1, .int .i64 d]) (by simp [results, Try.results35, go_sem]) rfl ⟨_, by rw [HD.out]; rfl, ?_⟩
        rw [HL.out]
        exact ⟨numT_lower HO1.out hb.size, below_drN (below_t hb hk2) _⟩
      | false =>
        have tok1 : True := trivial
        have tok2 : True := trivial
        go_wp2_with (at_builtin; first | (have _t := tok1; clear tok1; (refine wpList_app rfl (.tmp 34) (.tmp 37) 52 rfl W.heap.size 3 i0 _ 1 8 Try.underlying52 HI.out.1 HI.out.2.1 HI.out.2.2.1 HI.out.2.2.2 rfl (by decide) (.slice none 0 0) 0 [] rfl (World.ownsRow_nil _ _ _ _) (some ⟨W.heap.size, 0, none⟩) (W.heap.size + 1) 1 1 (numV .i64 [b]) rfl (fun h => by cases h) (reads_new W _ _ 1 1 (numV .i64 [b]) rfl rfl) (numT_one .i64 [b]) (by decide) (by decide) (by simp) ?_; intro v1 w2 hown hgrow _; have hk2 : Below W.heap.size W w2 := below_gr (below1 W _) hgrow (by simp) (fun j hj => by cases hj); have HO1 : Hid (w2.ownsRow W.heap.size 3 1 v1 1 (numV .i64 [b])) := Lib.hid hown; have q1 := k1; have k1 := keepC hk2 k1; have k3 := keepC hk2 k3; clear hown hgrow)))
        refine bodyPost_ret (v := .tuple #[v1, .int .i64 (-1)]) (by simp [results, Try.results35, go_sem]) rfl ⟨_, by rw [HD.out]; rfl, ?_⟩
        rw [HL.out]
        exact ⟨numT_lower HO1.out hb.size, below_t hb hk2⟩
    | false =>
      cases xD with
      | true =>
        have tok1 : True := trivial
        have tok2 : True := trivial
        go_wp2
        go_quiet (fail)
        go_wp2
        refine bodyPost_ret (v := .tuple #[.slice none 0 0, .int .i64 d]) (by simp [results, Try.results35, go_sem]) rfl ⟨_, by rw [HD.out]; rfl, ?_⟩
        rw [HL.out]
        exact ⟨(by simpa [numV] using World.ownsRow_nil _ _ _ _), below_drN (hb) _⟩
      | false =>
        have tok1 : True := trivial
        have tok2 : True := trivial
        go_wp2
        refine bodyPost_ret (v := .tuple #[.slice none 0 0, .int .i64 (-1)]) (by simp [results, Try.results35, go_sem]) rfl ⟨_, by rw [HD.out]; rfl, ?_⟩
        rw [HL.out]
        exact ⟨(by simpa [numV] using World.ownsRow_nil _ _ _ _), hb⟩

/-! ### ravelinref12.Next -/
def allP (x : R7) (at_ : Int) : List Int := if x.o < 1 ∨ 19 ≤ x.o then [] else if x.o = 14 then [x.t] else if 15 ≤ x.o then (if x.t = x.f then [x.t] else [x.t, x.f]) else [at_ + 1]
theorem addP_nil (n : Nat) (t : Int) : addP n [] t = [t].filter (inR n) := by cases h : inR n t <;> simp [addP, h]
theorem addP_two (n : Nat) (t f : Int) : addP n (addP n [] t) f = (if t = f then [t] else [t, f]).filter (inR n) := by
  rw [addP_nil]
  by_cases h : t = f
  · subst h
    rw [if_pos rfl]
    cases h1 : inR n t <;> simp [addP, h1]
  · rw [if_neg h]
    cases h1 : inR n t <;> cases h2 : inR n f <;> simp [addP, h1, h2, h]
theorem nextP_all {q : List R7} {n : Nat} {x : R7} (hx : q[n]? = some x) : nextP q n = (allP x n).filter (inR q.length) := by
  rw [nextP_at hx]
  unfold allP
  by_cases h1 : x.o < 1 ∨ 19 ≤ x.o
  · rw [if_pos h1, if_pos (by simp [known]; omega)]; rfl
  rw [if_neg h1, if_neg (by simp [known]; omega)]
  by_cases h2 : x.o = 14
  · rw [if_pos h2, if_neg (by simp [shF]; omega), if_pos (by simp [shT]; omega), addP_nil]
  rw [if_neg h2]
  by_cases h3 : 15 ≤ x.o
  · rw [if_pos h3, if_pos (by simp [shF]; omega), addP_two]
  · rw [if_neg h3, if_neg (by simp [shF]; omega), if_neg (by simp [shT]; omega), addP_nil]
theorem allP_len (x : R7) (at_ : Int) : (allP x at_).length ≤ 2 := by
  unfold allP
  repeat' split
  all_goals simp
theorem allP_ways (x : R7) (at_ : Int) :
    (decide (x.o < 1) = true ∧ allP x at_ = []) ∨ (decide (x.o < 1) = false ∧ decide (19 ≤ x.o) = true ∧ allP x at_ = [])
    ∨ (decide (x.o < 1) = false ∧ decide (19 ≤ x.o) = false ∧ (x.o == 14) = true ∧ allP x at_ = [x.t])
    ∨ (decide (x.o < 1) = false ∧ decide (19 ≤ x.o) = false ∧ (x.o == 14) = false ∧ decide (15 ≤ x.o) = true ∧ (x.t != x.f) = false ∧ allP x at_ = [x.t])
    ∨ (decide (x.o < 1) = false ∧ decide (19 ≤ x.o) = false ∧ (x.o == 14) = false ∧ decide (15 ≤ x.o) = true ∧ (x.t != x.f) = true ∧ allP x at_ = [x.t, x.f])
    ∨ (decide (x.o < 1) = false ∧ decide (19 ≤ x.o) = false ∧ (x.o == 14) = false ∧ decide (15 ≤ x.o) = false ∧ allP x at_ = [at_ + 1]) := by
  unfold allP
  by_cases h1 : x.o < 1
  · simp [h1]
  by_cases h2 : 19 ≤ x.o
  · simp [h1, h2]
  by_cases h3 : x.o = 14
  · simp [h3]
  by_cases h4 : 15 ≤ x.o
  · by_cases h5 : x.t = x.f <;> simp [h1, h2, h3, h4, h5]
  · simp [h1, h2, h3, h4]
def AllR12 (w : World) (L : List Int) (s6 : Value) (wc : World) : Prop := ∃ A6 c6, s6 = .slice A6 L.length c6 ∧ Hid (Reads wc wc.heap.size 1 A6 L.length (numV .i64 L) ∧ Below w.heap.size w wc)
theorem AllR12.nil {w wc : World} {L : List Int} (h : L = []) (hb : Below w.heap.size w wc) : AllR12 w L (.slice none 0 0) wc := by
  subst h
  exact ⟨none, 0, rfl, Lib.hid ⟨Reads.none_, hb⟩⟩
theorem AllR12.row {w wc : World} {L : List Int} {v : Value} {n : Nat} {l : List Int} (hl : l.length = n) (hn : 0 < n) (h : L = l) {base : Nat} (hr : wc.ownsRow base 3 1 v n (numV .i64 l)) (hb : Below w.heap.size w wc) : AllR12 w L v wc := by
  subst h
  subst hl
  obtain ⟨g, c, hv, -⟩ := hr.form hn
  subst hv
  exact ⟨_, c, rfl, Lib.hid ⟨Reads.of_own hr, hb⟩⟩
set_option maxRecDepth 100000 in
set_option maxHeartbeats 3200000 in
theorem rNext12_c (A : Option Addr) (regs : Int) (cap : Nat) (q : List R7) (at_ : Int) (hn : q.length * 56 ≤ 140737488351232) (w : World) (hr : Reads w w.heap.size 7 A q.length (cellsR q)) :
    Calls Try.prog 38 #[.agg #[.int .i64 regs, .slice A q.length cap], .int .i64 at_] w fun e w' => ∃ v, e = .returned v ∧ NumRow w v (nextP q at_) w' := by
  by_cases h0 : at_ < 0
  · have HV := Lib.hid (nextP_out (q := q) (.inl h0))
    have g0 : decide (at_ < 0) = true := by simpa using h0
    clear h0 hr hn
    go_enter Try.func38, Try.ntmps38
    go_wp2
    refine bodyPost_ret (v := .slice none 0 0) (by simp [results, Try.results38, go_sem]) rfl ?_
    exact ⟨_, rfl, by rw [HV.out]; exact nums_nil (below1 _ _)⟩
  have g0 : decide (at_ < 0) = false := by simpa using h0
  by_cases h1 : (q.length : Int) ≤ at_
  · have HV := Lib.hid (nextP_out (q := q) (.inr h1))
    have g1 : decide ((q.length : Int) ≤ at_) = true := by simpa using h1
    clear h0 h1 hr hn
    go_enter Try.func38, Try.ntmps38
    go_wp2
    refine bodyPost_ret (v := .slice none 0 0) (by simp [results, Try.results38, go_sem]) rfl ?_
    exact ⟨_, rfl, by rw [HV.out]; exact nums_nil (below1 _ _)⟩
  obtain ⟨n, rfl⟩ : ∃ n : Nat, at_ = n := ⟨at_.toNat, by omega⟩
  have hlt : n < q.length := by omega
  obtain ⟨x, hx⟩ : ∃ x, q[n]? = some x := ⟨_, List.getElem?_eq_getElem hlt⟩
  have hV := nextP_all hx
  obtain ⟨b, off, he, hb, i0', i1, i2, i3, i4, i5, i6⟩ := hr.ir hx
  subst he
  have hlt1 : (n : Int) < q.length := by omega
  have g1 : decide ((q.length : Int) ≤ (n : Int)) = false := by simp; omega
  have hw1 : IntKind.i64.wrap ((n : Int) + 1) = (n : Int) + 1 := by rw [IntKind.wrap_i64]; omega
  have hways := allP_ways x n
  obtain ⟨L, hL⟩ : ∃ L, L = allP x n := ⟨_, rfl⟩
  have hL2 : L.length ≤ 2 := by rw [hL]; exact allP_len _ _
  rw [← hL] at hV hways
  clear h0 h1 hr hx hL
  obtain ⟨o, d, a, b2, k, t, f⟩ := x
  dsimp only at *
  have HW := Lib.hid hways
  obtain ⟨N, hN⟩ : ∃ N, N = q.length := ⟨_, rfl⟩
  obtain ⟨R, hR⟩ : ∃ R, R = nextP q n := ⟨_, rfl⟩
  rw [← hR] at hV ⊢
  rw [← hN] at hV hlt1 g1 ⊢
  have HV := Lib.hid hV
  clear hR hN hlt hn hV hways
  obtain ⟨i0, HI⟩ : ∃ i0, Hid (Try.prog.info? 3 = some i0 ∧ i0.zero = some (.int .i64 0) ∧ i0.size = 1 ∧ i0.bytes = 8) := by
    obtain ⟨i0, hi, hz0, hz1, hz2⟩ := info_parts infoInt
    exact ⟨i0, Lib.hid ⟨hi, hz0, hz1, hz2⟩⟩
  go_enter Try.func38, Try.ntmps38
  go_upto_region 4 with (fail)
  obtain ⟨W0, hW0⟩ : ∃ W0, W0 = (w.alloc (.cells #[.int .i64 regs, .slice (some ⟨b, off, none⟩) N cap] 25)).alloc (.cells #[.int .i64 o, .int .i64 d, .int .i64 a, .int .i64 b2, .int .u32 k, .int .i64 t, .int .i64 f] 34) := ⟨_, rfl⟩
  have hb0 : Below w.heap.size w W0 := by rw [hW0]; exact al_below w [_, _]
  have p1 : W0.cell? ⟨w.heap.size, 1, none⟩ = some (.slice (some ⟨b, off, none⟩) N cap) := by rw [hW0]; simp [go_sem]
  have d0 : W0.cell? ⟨w.heap.size + 1, 0, none⟩ = some (.int .i64 o) := by rw [hW0]; simp [go_sem]
  have d5 : W0.cell? ⟨w.heap.size + 1, 5, none⟩ = some (.int .i64 t) := by rw [hW0]; simp [go_sem]
  have d6 : W0.cell? ⟨w.heap.size + 1, 6, none⟩ = some (.int .i64 f) := by rw [hW0]; simp [go_sem]
  have hW0s : w.heap.size + 2 ≤ W0.heap.size := by rw [hW0]; simp
  rw [← hW0]
  clear hW0 i0' i1 i2 i3 i4 i5 i6
  go_upto_block 0 with (fail)
  go_cut [6] from 9 (fun s6 wc => AllR12 w L s6 wc ∧ Hid (wc.cell? ⟨w.heap.size, 1, none⟩ = some (.slice (some ⟨b, off, none⟩) N cap)) ∧ w.heap.size + 1 ≤ wc.heap.size)
  case first =>
    rcases HW.out with ⟨h1, hL⟩ | ⟨h1, h2, hL⟩ | ⟨h1, h2, h3, hL⟩ | ⟨h1, h2, h3, h4, h5, hL⟩ | ⟨h1, h2, h3, h4, h5, hL⟩ | ⟨h1, h2, h3, h4, hL⟩
    · go_wp2
      go_meet
      exact ⟨AllR12.nil hL hb0, Lib.hid p1, by omega⟩
    · go_wp2
      go_meet
      exact ⟨AllR12.nil hL hb0, Lib.hid p1, by omega⟩
    · go_wp2_with (at_builtin; refine wpList_app rfl (.tmp 41) (.tmp 44) 52 rfl W0.heap.size 3 i0 _ 1 8 Try.underlying52 HI.out.1 HI.out.2.1 HI.out.2.2.1 HI.out.2.2.2 rfl (by decide) (.slice none 0 0) 0 [] rfl (World.ownsRow_nil _ _ _ _) (some ⟨W0.heap.size, 0, none⟩) (W0.heap.size + 1) 1 1 (numV .i64 [t]) rfl (fun h => by cases h) (reads_new W0 _ _ 1 1 (numV .i64 [t]) rfl rfl) (numT_one .i64 [t]) (by decide) (by decide) (by simp) ?_; intro v1 w3 hown1 hgrow _; have hb3 : Below W0.heap.size W0 w3 := below_gr (below1 W0 _) hgrow (by simp) (fun k hk => by cases hk); have d0 := keepC hb3 d0; have d5 := keepC hb3 d5; have d6 := keepC hb3 d6; have p1' := keepC hb3 p1; have hs3 := hb3.size; have HO1 : Hid (w3.ownsRow W0.heap.size 3 1 v1 1 (numV .i64 [t])) := Lib.hid hown1; clear hown1 hgrow)
      go_meet
      exact ⟨AllR12.row (n := 1) rfl (by decide) hL HO1.out (below_t hb0 hb3), Lib.hid p1', by omega⟩
    · go_wp2_with (at_builtin; refine wpList_app rfl (.tmp 50) (.tmp 53) 52 rfl W0.heap.size 3 i0 _ 1 8 Try.underlying52 HI.out.1 HI.out.2.1 HI.out.2.2.1 HI.out.2.2.2 rfl (by decide) (.slice none 0 0) 0 [] rfl (World.ownsRow_nil _ _ _ _) (some ⟨W0.heap.size, 0, none⟩) (W0.heap.size + 1) 1 1 (numV .i64 [t]) rfl (fun h => by cases h) (reads_new W0 _ _ 1 1 (numV .i64 [t]) rfl rfl) (numT_one .i64 [t]) (by decide) (by decide) (by simp) ?_; intro v1 w3 hown1 hgrow _; have hb3 : Below W0.heap.size W0 w3 := below_gr (below1 W0 _) hgrow (by simp) (fun k hk => by cases hk); have d0 := keepC hb3 d0; have d5 := keepC hb3 d5; have d6 := keepC hb3 d6; have p1' := keepC hb3 p1; have hs3 := hb3.size; have HO1 : Hid (w3.ownsRow W0.heap.size 3 1 v1 1 (numV .i64 [t])) := Lib.hid hown1; clear hown1 hgrow)
      go_meet
      exact ⟨AllR12.row (n := 1) rfl (by decide) hL HO1.out (below_t hb0 hb3), Lib.hid p1', by omega⟩
    · have tok : True := trivial
      go_wp2_with (at_builtin; first | (have _t := tok; clear tok; refine wpList_app rfl (.tmp 50) (.tmp 53) 52 rfl W0.heap.size 3 i0 _ 1 8 Try.underlying52 HI.out.1 HI.out.2.1 HI.out.2.2.1 HI.out.2.2.2 rfl (by decide) (.slice none 0 0) 0 [] rfl (World.ownsRow_nil _ _ _ _) (some ⟨W0.heap.size, 0, none⟩) (W0.heap.size + 1) 1 1 (numV .i64 [t]) rfl (fun h => by cases h) (reads_new W0 _ _ 1 1 (numV .i64 [t]) rfl rfl) (numT_one .i64 [t]) (by decide) (by decide) (by simp) ?_; intro v1 w3 hown1 hgrow _; have hb3 : Below W0.heap.size W0 w3 := below_gr (below1 W0 _) hgrow (by simp) (fun k hk => by cases hk); have d0 := keepC hb3 d0; have d5 := keepC hb3 d5; have d6 := keepC hb3 d6; have p1' := keepC hb3 p1; have hs3 := hb3.size; have HO1 : Hid (w3.ownsRow W0.heap.size 3 1 v1 1 (numV .i64 [t])) := Lib.hid hown1; clear hown1 hgrow) | (refine wpList_app rfl (.tmp 60) (.tmp 63) 52 rfl W0.heap.size 3 i0 _ 1 8 Try.underlying52 HI.out.1 HI.out.2.1 HI.out.2.2.1 HI.out.2.2.2 rfl (by decide) v1 1 (numV .i64 [t]) rfl (HO1.out.alloc _) (some ⟨w3.heap.size, 0, none⟩) (w3.heap.size + 1) 1 1 (numV .i64 [f]) rfl (fun h => by cases h) (reads_new w3 _ _ 1 1 (numV .i64 [f]) rfl rfl) (numT_one .i64 [f]) (by decide) (by decide) (by simp; omega) ?_; intro v2 w4 hown2 hgrow _; have hb4 : Below W0.heap.size W0 w4 := below_gr (below_al hb3 _) hgrow (by simp; omega) (fun k hk => own_ge HO1.out k hk); have p1'' := keepC hb4 p1; have hs4 := hb4.size; have HO2 : Hid (w4.ownsRow W0.heap.size 3 1 v2 2 (numV .i64 [t, f])) := Lib.hid hown2; clear hown2 hgrow))
      go_meet
      exact ⟨AllR12.row (n := 2) rfl (by decide) hL HO2.out (below_t hb0 hb4), Lib.hid p1'', by omega⟩
    · go_wp2_with (at_builtin; refine wpList_app rfl (.tmp 23) (.tmp 26) 52 rfl W0.heap.size 3 i0 _ 1 8 Try.underlying52 HI.out.1 HI.out.2.1 HI.out.2.2.1 HI.out.2.2.2 rfl (by decide) (.slice none 0 0) 0 [] rfl (World.ownsRow_nil _ _ _ _) (some ⟨W0.heap.size, 0, none⟩) (W0.heap.size + 1) 1 1 (numV .i64 [((n : Int) + 1)]) rfl (fun h => by cases h) (reads_new W0 _ _ 1 1 (numV .i64 [((n : Int) + 1)]) rfl rfl) (numT_one .i64 [((n : Int) + 1)]) (by decide) (by decide) (by simp) ?_; intro v1 w3 hown1 hgrow _; have hb3 : Below W0.heap.size W0 w3 := below_gr (below1 W0 _) hgrow (by simp) (fun k hk => by cases hk); have d0 := keepC hb3 d0; have d5 := keepC hb3 d5; have d6 := keepC hb3 d6; have p1' := keepC hb3 p1; have hs3 := hb3.size; have HO1 : Hid (w3.ownsRow W0.heap.size 3 1 v1 1 (numV .i64 [((n : Int) + 1)])) := Lib.hid hown1; clear hown1 hgrow)
      go_meet
      exact ⟨AllR12.row (n := 1) rfl (by decide) hL HO1.out (below_t hb0 hb3), Lib.hid p1', by omega⟩
  case rest =>
    obtain ⟨⟨A6, c6, rfl, HALL⟩, HP1, hwc⟩ := hcut
    have HBc := Lib.hid HALL.out.2
    have HRc := Lib.hid HALL.out.1
    clear HALL HW d0 d5 d6 p1 hb0
    go_wp2_with fail
    go_loopw [7, 8] (fun o i wr => ∃ k : Nat, k ≤ L.length ∧ i = .int .i64 k ∧ Hid (NumRow wc o ((L.take k).filter (inR N)) wr)) (fun _ i _ => L.length - (intOf i).toNat)
    case atStart => exact ⟨0, by omega, rfl, Lib.hid (by simpa using nums_nil (Below.refl _ _))⟩
    case round =>
      obtain ⟨k, hk, rfl, HW⟩ := hrel
      rcases Nat.lt_or_ge k L.length with hkl | hkl
      · have hkl' : (k : Int) < L.length := by omega
        have hL2' : (L.length : Int) ≤ 2 := by omega
        obtain ⟨y, hy⟩ : ∃ y, L[k]? = some y := ⟨_, List.getElem?_eq_getElem hkl⟩
        obtain ⟨b6, o6, e6, _, hc⟩ := (HRc.out.up HW.out.2).num hy
        subst e6
        have et : L.take (k + 1) = L.take k ++ [y] := by rw [List.take_add_one, hy]; rfl
        have HET := Lib.hid et
        have p1 := keepC HW.out.2 HP1.out
        clear hy et
        have hlen2 : ((L.take k).filter (inR N)).length ≤ 2 := Nat.le_trans (List.length_filter_le _ _) (by simp; omega)
        have hsz := HW.out.2.size
        by_cases hy0 : 0 ≤ y
        · have gy0 : decide (0 ≤ y) = true := by simpa using hy0
          by_cases hyN : y < N
          · have gy1 : decide (y < (N : Int)) = true := by simpa using hyN
            have HE : Hid ((L.take (k + 1)).filter (inR N) = (L.take k).filter (inR N) ++ [y]) := Lib.hid (by rw [HET.out, List.filter_append, List.filter_cons, if_pos (by simp [inR, hy0, hyN])]; rfl)
            clear hy0 hyN
            go_upto_region 18 with (fail)
            go_quiet (fail)
            go_wp2_with (at_builtin; refine wpList_app rfl (.tmp 86) (.tmp 91) 52 rfl wc.heap.size 3 i0 _ 1 8 Try.underlying52 HI.out.1 HI.out.2.1 HI.out.2.2.1 HI.out.2.2.2 rfl (by decide) _ ((L.take k).filter (inR N)).length (numV .i64 ((L.take k).filter (inR N))) rfl (HW.out.1.alloc _) _ _ 1 1 (numV .i64 [y]) rfl (fun h => by cases h) (reads_new _ _ _ 1 1 (numV .i64 [y]) rfl rfl) (numT_one .i64 [y]) (by simp only [maxLen]; omega) (by omega) (by simp; omega) ?_; intro v' w3 hown' hgrow _; have hb3 : Below wc.heap.size wc w3 := below_gr (below_al (below_drN HW.out.2 _) _) hgrow (by simp; omega) (fun j hj => own_ge HW.out.1 j hj); have HO := Lib.hid hown'; clear hown' hgrow)
            go_roundw
            case rel =>
              refine ⟨k + 1, hkl, by go_num, Lib.hid ⟨?_, hb3⟩⟩
              have h := HO.out
              rw [HE.out, List.length_append, show numV .i64 ((L.take k).filter (inR N) ++ [y]) = numV .i64 ((L.take k).filter (inR N)) ++ numV .i64 [y] by simp [numV]]
              exact h
            case measure => simp [intOf]; omega
          · have gy1 : decide (y < (N : Int)) = false := by simpa using hyN
            have HE : Hid ((L.take (k + 1)).filter (inR N) = (L.take k).filter (inR N)) := Lib.hid (by rw [HET.out, List.filter_append, List.filter_cons, if_neg (by simp [inR, hyN])]; simp)
            clear hy0 hyN
            go_wp2
            go_quiet (fail)
            go_wp2
            go_roundw
            case rel => exact ⟨k + 1, hkl, by go_num, Lib.hid (by rw [HE.out]; exact ⟨HW.out.1, below_drN HW.out.2 _⟩)⟩
            case measure => simp [intOf]; omega
        · have gy0 : decide (0 ≤ y) = false := by simpa using hy0
          have HE : Hid ((L.take (k + 1)).filter (inR N) = (L.take k).filter (inR N)) := Lib.hid (by rw [HET.out, List.filter_append, List.filter_cons, if_neg (by simp [inR, hy0])]; simp)
          clear hy0
          go_wp2
          go_quiet (fail)
          go_wp2
          go_roundw
          case rel => exact ⟨k + 1, hkl, by go_num, Lib.hid (by rw [HE.out]; exact ⟨HW.out.1, below_drN HW.out.2 _⟩)⟩
          case measure => simp [intOf]; omega
      · obtain rfl : k = L.length := by omega
        have hrow := HW.out
        rw [List.take_of_length_le (Nat.le_refl _)] at hrow
        have HROW := Lib.hid hrow
        clear hrow HW
        go_wp2
        refine bodyPost_ret (v := u7) (by simp [results, Try.results38, go_sem]) rfl ?_
        refine ⟨_, rfl, ?_⟩
        rw [HV.out]
        exact ⟨numT_lower HROW.out.1 HBc.out.size, below_t HBc.out HROW.out.2⟩
set_option maxHeartbeats 800000 in
theorem Numbers12_c (A B : Option Addr) (ca cb : Nat) (l : List Int) (hl : l.length ≤ 281474976710656) (w : World) (ha : Reads w w.heap.size 1 A l.length (numV .i64 l)) (hb : Reads w w.heap.size 1 B l.length (numV .i64 l)) :
    Calls Try.prog 36 #[.slice A l.length ca, .slice B l.length cb] w fun e w' => e = .returned (.bool true) ∧ Below w.heap.size w w' := by
  have HA := Lib.hid ha
  have HB := Lib.hid hb
  clear ha hb
  go_enter Try.func36, Try.ntmps36
  go_wp2_with fail
  go_loopw [5] (fun i wr => ∃ n : Nat, n ≤ l.length ∧ i = .int .i64 n ∧ Below w.heap.size w wr) (fun i _ => l.length - (intOf i).toNat)
  case atStart => exact ⟨0, by omega, rfl, Below.refl _ _⟩
  case round =>
    obtain ⟨n, hn, rfl, hBm⟩ := hrel
    by_cases h8 : n < l.length
    · obtain ⟨x, hx⟩ : ∃ x, l[n]? = some x := ⟨_, List.getElem?_eq_getElem h8⟩
      obtain ⟨b9, o9, e9, -, hc9'⟩ := (HA.out.up hBm).num hx
      obtain ⟨b1, o1, e1, -, hc1'⟩ := (HB.out.up hBm).num hx
      subst e9 e1
      have hlt3 : (n : Int) < l.length := by omega
      clear hx
      go_wp2
      go_quiet (fail)
      go_wp2
      go_roundw
      case rel => exact ⟨n + 1, by omega, by go_num, below_drN hBm _⟩
      case measure => simp [intOf]; omega
    · go_wp2
      go_ret
      exact ⟨rfl, hBm⟩
end Go.Proofs.Ytalhjbncloobpaa
