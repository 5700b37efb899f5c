import Derived.Test.YtalhjbncloobpaaMirW2
import Derived.Test.YtalhjbncloobpaaOpenG
import Derived.Test.YtalhjbncloobpaaStep
import Derived.Deep.Cut
import Derived.Deep.CutBlock
set_option linter.unusedVariables false
set_option linter.unusedSimpArgs false
namespace Go.Proofs.Ytalhjbncloobpaa
open Go.RowKit
/-! mir.Uses, mir.Next: the walks; what they tell, plainly. -/
theorem infoInt : (Try.prog.info? 3).map (fun i => (i.zero, i.size, i.bytes)) = some (some (.int .i64 0), 1, 8) := by kernel_rfl
def usesL (x : R7) : List Int := (if known x.o && shA x.o then [x.a] else []) ++ (if known x.o && shB x.o then [x.b] else [])
def usesD (x : R7) : Int := if known x.o && shD x.o then x.d else -1
def NumRow (w : World) (v : Value) (l : List Int) (W : World) : Prop := W.ownsRow w.heap.size 3 1 v l.length (numV .i64 l) ∧ Below w.heap.size w W
theorem numT_own_up {w w' : World} {base : Nat} {e : TypeId} {size n : Nat} {v : Value} {xs : List Value} (h : w.ownsRow base e size v n xs) (hb : Below w.heap.size w w') : w'.ownsRow base e size v n xs :=
  h.kept (row := none) ⟨hb.os, hb.tape, hb.output, hb.size, fun k hk _ => hb.block k hk⟩ (by cases e : v.ownBlock with | none => exact .inl rfl | some b => exact .inr (by simp))
theorem numT_lower {w : World} {base base' : Nat} {e : TypeId} {size n : Nat} {v : Value} {xs : List Value} (h : w.ownsRow base e size v n xs) (hb : base' ≤ base) : w.ownsRow base' e size v n xs := by
  obtain ⟨h1, h2⟩ := h
  refine ⟨h1, ?_⟩
  rcases h2 with h2 | ⟨g, cap, cur, h3, h4, h5⟩
  · exact .inl h2
  · exact .inr ⟨g, cap, cur, h3, by omega, h5⟩
theorem numT_one (k : IntKind) (l : List Int) : ∀ u ∈ numV k l, u.oneCell' = true := by
  intro u hu; simp only [numV, List.mem_map] at hu; obtain ⟨x, _, rfl⟩ := hu; rfl
set_option maxHeartbeats 1600000 in
theorem Uses_c (x : R7) (w : World) : Calls Try.prog 34 #[.agg #[.int .i64 x.o, .int .i64 x.d, .int .i64 x.a, .int .i64 x.b, .int .u32 x.k, .int .i64 x.t, .int .i64 x.f]] w fun e w' => ∃ v, e = .returned (.tuple #[v, .int .i64 (usesD x)]) ∧ NumRow w v (usesL x) w' := by
  obtain ⟨o, d, a, b, k, t, f⟩ := x
  dsimp only at *
  obtain ⟨i0, HI⟩ : ∃ i0, Hid (Try.prog.info? 3 = some i0 ∧ i0.zero = some (.int .i64 0) ∧ i0.size = 1 ∧ i0.bytes = 8) := by
    obtain ⟨i0, hi, hz0, hz1, hz2⟩ := info_parts infoInt
    exact ⟨i0, Lib.hid ⟨hi, hz0, hz1, hz2⟩⟩
  obtain ⟨K, hK⟩ : ∃ K, K = known o := ⟨_, rfl⟩
  obtain ⟨xA, hxA⟩ : ∃ X, X = ofA o := ⟨_, rfl⟩
  obtain ⟨xB, hxB⟩ : ∃ X, X = ofB o := ⟨_, rfl⟩
  obtain ⟨xD, hxD⟩ : ∃ X, X = ofD o := ⟨_, rfl⟩
  have HL := Lib.hid (show usesL ⟨o, d, a, b, k, t, f⟩ = (if K && xA then [a] else []) ++ (if K && xB then [b] else []) by
    unfold usesL
    simp only [← hK]
    cases K with
    | false => simp
    | true => rw [hxA, hxB, ofA_eq hK.symm, ofB_eq hK.symm])
  have HD := Lib.hid (show usesD ⟨o, d, a, b, k, t, f⟩ = if K && xD then d else -1 by
    unfold usesD
    simp only [← hK]
    cases K with
    | false => simp
    | true => rw [hxD, ofD_eq hK.symm])
  have HO4 := Lib.hid (show ofV (ofD o) (ofA o) (ofB o) (shT o) (shF o) (known o) = ofV xD xA xB (shT o) (shF o) K by rw [hxA, hxB, hxD, hK])
  clear hK hxA hxB hxD
  go_enter Try.func34, Try.ntmps34
  go_wp2_with fail
  refine (of_c o _).mono ?_
  rintro e w1 ⟨rfl, hb1⟩
  rw [HO4.out]
  unfold ofV
  have c1 : w1.cell? ⟨w.heap.size, 1, none⟩ = some (.int .i64 d) := keepC hb1 (by simp [go_sem])
  have c2 : w1.cell? ⟨w.heap.size, 2, none⟩ = some (.int .i64 a) := keepC hb1 (by simp [go_sem])
  have c3 : w1.cell? ⟨w.heap.size, 3, none⟩ = some (.int .i64 b) := keepC hb1 (by simp [go_sem])
  obtain ⟨W, hW⟩ : ∃ W, W = w1.alloc (.cells #[.bool xD, .bool xA, .bool xB, .bool (shT o), .bool (shF o)] 85) := ⟨_, rfl⟩
  have hbW : Below w1.heap.size w1 W := by rw [hW]; exact below1 w1 _
  have s0 : W.cell? ⟨w1.heap.size, 0, none⟩ = some (.bool xD) := by rw [hW]; simp [go_sem]
  have s1 : W.cell? ⟨w1.heap.size, 1, none⟩ = some (.bool xA) := by rw [hW]; simp [go_sem]
  have s2 : W.cell? ⟨w1.heap.size, 2, none⟩ = some (.bool xB) := by rw [hW]; simp [go_sem]
  have k1 := keepC hbW c1
  have k2 := keepC hbW c2
  have k3 := keepC hbW c3
  have hb := below_t (below_t (below1 w _) hb1) hbW
  clear hb1 c1 c2 c3 hbW
  go_upto_region 4 with (fail)
  rw [← hW]
  clear hW
  cases K with
  | false =>
    have tok1 : True := trivial
    have tok2 : True := trivial
    go_wp2
    refine bodyPost_ret (v := .tuple #[.slice none 0 0, .int .i64 (-1)]) (by simp [results, Try.results34, go_sem]) rfl ⟨_, by rw [HD.out]; rfl, ?_⟩
    rw [HL.out]
    exact ⟨by simpa [numV] using World.ownsRow_nil _ _ _ _, hb⟩
  | true =>
    cases xA with
    | true =>
      cases xB with
      | true =>
        cases xD with
        | true =>
          have tok1 : True := trivial
          have tok2 : True := trivial
          go_wp2_with (at_builtin; first | (have _t := tok1; clear tok1; (refine wpList_app rfl (.tmp 19) (.tmp 22) 52 rfl W.heap.size 3 i0 _ 1 8 Try.underlying52 HI.out.1 HI.out.2.1 HI.out.2.2.1 HI.out.2.2.2 rfl (by decide) (.slice none 0 0) 0 [] rfl (World.ownsRow_nil _ _ _ _) (some ⟨W.heap.size, 0, none⟩) (W.heap.size + 1) 1 1 (numV .i64 [a]) rfl (fun h => by cases h) (reads_new W _ _ 1 1 (numV .i64 [a]) rfl rfl) (numT_one .i64 [a]) (by decide) (by decide) (by simp) ?_; intro v1 w2 hown hgrow _; have hk2 : Below W.heap.size W w2 := below_gr (below1 W _) hgrow (by simp) (fun j hj => by cases hj); have HO1 : Hid (w2.ownsRow W.heap.size 3 1 v1 1 (numV .i64 [a])) := Lib.hid hown; have q1 := k1; have q0 := s0; have k1 := keepC hk2 k1; have k3 := keepC hk2 k3; have s0 := keepC hk2 s0; have s2 := keepC hk2 s2; clear hown hgrow)) | (have _t := tok2; clear tok2; (refine wpList_app rfl (.tmp 29) (.tmp 32) 52 rfl W.heap.size 3 i0 _ 1 8 Try.underlying52 HI.out.1 HI.out.2.1 HI.out.2.2.1 HI.out.2.2.2 rfl (by decide) _ 1 (numV .i64 [a]) rfl (HO1.out.alloc _) (some ⟨w2.heap.size, 0, none⟩) (w2.heap.size + 1) 1 1 (numV .i64 [b]) rfl (fun h => by cases h) (reads_new w2 _ _ 1 1 (numV .i64 [b]) rfl rfl) (numT_one .i64 [b]) (by decide) (by decide) (by have := hk2.size; simp; omega) ?_; intro v2 w3 hown hgrow _; have hk3 : Below W.heap.size W w3 := below_gr (below_tr (below_of hk2 (Nat.le_refl _)) hk2.size (below1 w2 _)) hgrow (by have := hk2.size; simp; omega) (fun j hj => own_ge HO1.out j hj); have HO2 : Hid (w3.ownsRow W.heap.size 3 1 v2 2 (numV .i64 [a, b])) := Lib.hid hown; have k1 := keepC hk3 q1; have s0 := keepC hk3 q0; clear hown hgrow)))
          refine bodyPost_ret (v := .tuple #[v2, .int .i64 d]) (by simp [results, Try.results34, go_sem]) rfl ⟨_, by rw [HD.out]; rfl, ?_⟩
          rw [HL.out]
          exact ⟨numT_lower HO2.out hb.size, below_t hb hk3⟩
        | false =>
          have tok1 : True := trivial
          have tok2 : True := trivial
          go_wp2_with (at_builtin; first | (have _t := tok1; clear tok1; (refine wpList_app rfl (.tmp 19) (.tmp 22) 52 rfl W.heap.size 3 i0 _ 1 8 Try.underlying52 HI.out.1 HI.out.2.1 HI.out.2.2.1 HI.out.2.2.2 rfl (by decide) (.slice none 0 0) 0 [] rfl (World.ownsRow_nil _ _ _ _) (some ⟨W.heap.size, 0, none⟩) (W.heap.size + 1) 1 1 (numV .i64 [a]) rfl (fun h => by cases h) (reads_new W _ _ 1 1 (numV .i64 [a]) rfl rfl) (numT_one .i64 [a]) (by decide) (by decide) (by simp) ?_; intro v1 w2 hown hgrow _; have hk2 : Below W.heap.size W w2 := below_gr (below1 W _) hgrow (by simp) (fun j hj => by cases hj); have HO1 : Hid (w2.ownsRow W.heap.size 3 1 v1 1 (numV .i64 [a])) := Lib.hid hown; have q1 := k1; have q0 := s0; have k1 := keepC hk2 k1; have k3 := keepC hk2 k3; have s0 := keepC hk2 s0; have s2 := keepC hk2 s2; clear hown hgrow)) | (have _t := tok2; clear tok2; (refine wpList_app rfl (.tmp 29) (.tmp 32) 52 rfl W.heap.size 3 i0 _ 1 8 Try.underlying52 HI.out.1 HI.out.2.1 HI.out.2.2.1 HI.out.2.2.2 rfl (by decide) _ 1 (numV .i64 [a]) rfl (HO1.out.alloc _) (some ⟨w2.heap.size, 0, none⟩) (w2.heap.size + 1) 1 1 (numV .i64 [b]) rfl (fun h => by cases h) (reads_new w2 _ _ 1 1 (numV .i64 [b]) rfl rfl) (numT_one .i64 [b]) (by decide) (by decide) (by have := hk2.size; simp; omega) ?_; intro v2 w3 hown hgrow _; have hk3 : Below W.heap.size W w3 := below_gr (below_tr (below_of hk2 (Nat.le_refl _)) hk2.size (below1 w2 _)) hgrow (by have := hk2.size; simp; omega) (fun j hj => own_ge HO1.out j hj); have HO2 : Hid (w3.ownsRow W.heap.size 3 1 v2 2 (numV .i64 [a, b])) := Lib.hid hown; have k1 := keepC hk3 q1; have s0 := keepC hk3 q0; clear hown hgrow)))
          refine bodyPost_ret (v := .tuple #[v2, .int .i64 (-1)]) (by simp [results, Try.results34, go_sem]) rfl ⟨_, by rw [HD.out]; rfl, ?_⟩
          rw [HL.out]
          exact ⟨numT_lower HO2.out hb.size, below_t hb hk3⟩
      | false =>
        cases xD with
        | true =>
          have tok1 : True := trivial
          have tok2 : True := trivial
          go_wp2_with (at_builtin; first | (have _t := tok1; clear tok1; (refine wpList_app rfl (.tmp 19) (.tmp 22) 52 rfl W.heap.size 3 i0 _ 1 8 Try.underlying52 HI.out.1 HI.out.2.1 HI.out.2.2.1 HI.out.2.2.2 rfl (by decide) (.slice none 0 0) 0 [] rfl (World.ownsRow_nil _ _ _ _) (some ⟨W.heap.size, 0, none⟩) (W.heap.size + 1) 1 1 (numV .i64 [a]) rfl (fun h => by cases h) (reads_new W _ _ 1 1 (numV .i64 [a]) rfl rfl) (numT_one .i64 [a]) (by decide) (by decide) (by simp) ?_; intro v1 w2 hown hgrow _; have hk2 : Below W.heap.size W w2 := below_gr (below1 W _) hgrow (by simp) (fun j hj => by cases hj); have HO1 : Hid (w2.ownsRow W.heap.size 3 1 v1 1 (numV .i64 [a])) := Lib.hid hown; have q1 := k1; have q0 := s0; have k1 := keepC hk2 k1; have k3 := keepC hk2 k3; have s0 := keepC hk2 s0; have s2 := keepC hk2 s2; clear hown hgrow)))
          refine bodyPost_ret (v := .tuple #[v1, .int .i64 d]) (by simp [results, Try.results34, go_sem]) rfl ⟨_, by rw [HD.out]; rfl, ?_⟩
          rw [HL.out]
          exact ⟨numT_lower HO1.out hb.size, below_t hb hk2⟩
        | false =>
          have tok1 : True := trivial
          have tok2 : True := trivial
          go_wp2_with (at_builtin; first | (have _t := tok1; clear tok1; (refine wpList_app rfl (.tmp 19) (.tmp 22) 52 rfl W.heap.size 3 i0 _ 1 8 Try.underlying52 HI.out.1 HI.out.2.1 HI.out.2.2.1 HI.out.2.2.2 rfl (by decide) (.slice none 0 0) 0 [] rfl (World.ownsRow_nil _ _ _ _) (some ⟨W.heap.size, 0, none⟩) (W.heap.size + 1) 1 1 (numV .i64 [a]) rfl (fun h => by cases h) (reads_new W _ _ 1 1 (numV .i64 [a]) rfl rfl) (numT_one .i64 [a]) (by decide) (by decide) (by simp) ?_; intro v1 w2 hown hgrow _; have hk2 : Below W.heap.size W w2 := below_gr (below1 W _) hgrow (by simp) (fun j hj => by cases hj); have HO1 : Hid (w2.ownsRow W.heap.size 3 1 v1 1 (numV .i64 [a])) := Lib.hid hown; have q1 := k1; have q0 := s0; have k1 := keepC hk2 k1; have k3 := keepC hk2 k3; have s0 := keepC hk2 s0; have s2 := keepC hk2 s2; clear hown hgrow)))
          refine bodyPost_ret (v := .tuple #[v1, .int .i64 (-1)]) (by simp [results, Try.results34, go_sem]) rfl ⟨_, by rw [HD.out]; rfl, ?_⟩
          rw [HL.out]
          exact ⟨numT_lower HO1.out hb.size, below_t hb hk2⟩
    | false =>
      cases xB with
      | true =>
        cases xD with
        | true =>
          have tok1 : True := trivial
          have tok2 : True := trivial
          go_wp2_with (at_builtin; first | (have _t := tok1; clear tok1; (refine wpList_app rfl (.tmp 29) (.tmp 32) 52 rfl W.heap.size 3 i0 _ 1 8 Try.underlying52 HI.out.1 HI.out.2.1 HI.out.2.2.1 HI.out.2.2.2 rfl (by decide) (.slice none 0 0) 0 [] rfl (World.ownsRow_nil _ _ _ _) (some ⟨W.heap.size, 0, none⟩) (W.heap.size + 1) 1 1 (numV .i64 [b]) rfl (fun h => by cases h) (reads_new W _ _ 1 1 (numV .i64 [b]) rfl rfl) (numT_one .i64 [b]) (by decide) (by decide) (by simp) ?_; intro v1 w2 hown hgrow _; have hk2 : Below W.heap.size W w2 := below_gr (below1 W _) hgrow (by simp) (fun j hj => by cases hj); have HO1 : Hid (w2.ownsRow W.heap.size 3 1 v1 1 (numV .i64 [b])) := Lib.hid hown; have q1 := k1; have q0 := s0; have k1 := keepC hk2 k1; have k3 := keepC hk2 k3; have s0 := keepC hk2 s0; have s2 := keepC hk2 s2; clear hown hgrow)))
          refine bodyPost_ret (v := .tuple #[v1, .int .i64 d]) (by simp [results, Try.results34, go_sem]) rfl ⟨_, by rw [HD.out]; rfl, ?_⟩
          rw [HL.out]
          exact ⟨numT_lower HO1.out hb.size, below_t hb hk2⟩
        | false =>
          have tok1 : True := trivial
          have tok2 : True := trivial
          go_wp2_with (at_builtin; first | (have _t := tok1; clear tok1; (refine wpList_app rfl (.tmp 29) (.tmp 32) 52 rfl W.heap.size 3 i0 _ 1 8 Try.underlying52 HI.out.1 HI.out.2.1 HI.out.2.2.1 HI.out.2.2.2 rfl (by decide) (.slice none 0 0) 0 [] rfl (World.ownsRow_nil _ _ _ _) (some ⟨W.heap.size, 0, none⟩) (W.heap.size + 1) 1 1 (numV .i64 [b]) rfl (fun h => by cases h) (reads_new W _ _ 1 1 (numV .i64 [b]) rfl rfl) (numT_one .i64 [b]) (by decide) (by decide) (by simp) ?_; intro v1 w2 hown hgrow _; have hk2 : Below W.heap.size W w2 := below_gr (below1 W _) hgrow (by simp) (fun j hj => by cases hj); have HO1 : Hid (w2.ownsRow W.heap.size 3 1 v1 1 (numV .i64 [b])) := Lib.hid hown; have q1 := k1; have q0 := s0; have k1 := keepC hk2 k1; have k3 := keepC hk2 k3; have s0 := keepC hk2 s0; have s2 := keepC hk2 s2; clear hown hgrow)))
          refine bodyPost_ret (v := .tuple #[v1, .int .i64 (-1)]) (by simp [results, Try.results34, go_sem]) rfl ⟨_, by rw [HD.out]; rfl, ?_⟩
          rw [HL.out]
          exact ⟨numT_lower HO1.out hb.size, below_t hb hk2⟩
      | false =>
        cases xD with
        | true =>
          have tok1 : True := trivial
          have tok2 : True := trivial
          go_wp2
          refine bodyPost_ret (v := .tuple #[.slice none 0 0, .int .i64 d]) (by simp [results, Try.results34, go_sem]) rfl ⟨_, by rw [HD.out]; rfl, ?_⟩
          rw [HL.out]
          exact ⟨by simpa [numV] using World.ownsRow_nil _ _ _ _, hb⟩
        | false =>
          have tok1 : True := trivial
          have tok2 : True := trivial
          go_wp2
          refine bodyPost_ret (v := .tuple #[.slice none 0 0, .int .i64 (-1)]) (by simp [results, Try.results34, go_sem]) rfl ⟨_, by rw [HD.out]; rfl, ?_⟩
          rw [HL.out]
          exact ⟨by simpa [numV] using World.ownsRow_nil _ _ _ _, hb⟩

/-! ### mir.Next -/
def inR (n : Nat) (t : Int) : Bool := decide (0 ≤ t) && decide (t < n)
def addP (n : Nat) (l : List Int) (t : Int) : List Int := if inR n t && (l.isEmpty || l.head? != some t) then l ++ [t] else l
def nextP (q : List R7) (at_ : Int) : List Int :=
  if at_ < 0 ∨ (q.length : Int) ≤ at_ then [] else match q[at_.toNat]? with
  | none => []
  | some x => if (!known x.o || x.o == 19) = true then [] else if shF x.o = true then addP q.length (addP q.length [] x.t) x.f else if shT x.o = true then addP q.length [] x.t else addP q.length [] (at_ + 1)
/-- The list that is grown, in its box. -/
structure LB (base B2 : Nat) (l : List Int) (v : Value) (w0 w : World) : Prop where
  cell : w.cell? ⟨B2, 0, none⟩ = some v
  frz : w.frozen? ⟨B2, 0, none⟩ = false
  own : w.ownsRow base 3 1 v l.length (numV .i64 l)
  nil : l = [] → v = .slice none 0 0
  hB : B2 < base
  size : base ≤ w.heap.size
  old : ∀ b o, b ≠ B2 → b < base → w.cell? ⟨b, o, none⟩ = w0.cell? ⟨b, o, none⟩
  below : Below B2 w0 w
theorem LB.push {base B2 : Nat} {l : List Int} {v : Value} {w0 w W w3 : World} {v' : Value} {t : Int} (h : LB base B2 l v w0 w) (hb : Below w.heap.size w W) (hg : W.grownBy w3 v.ownBlock) (ho : w3.ownsRow base 3 1 v' (l.length + 1) (numV .i64 l ++ numV .i64 [t])) : LB base B2 (l ++ [t]) v' w0 (w3.setCell ⟨B2, 0, none⟩ v') := by
  have hs := h.size
  have hB := h.hB
  have hgb : Below base w w3 := below_gr (below_of hb hs) hg (Nat.le_trans hs hb.size) (fun j hj => own_ge h.own j hj)
  have hc := (hgb.cell (p := ⟨B2, 0, none⟩) hB).trans h.cell
  refine ⟨World.cell?_setCell_same _ _ _ hc, by rw [World.frozen?_setCell]; exact (hgb.frozen (p := ⟨B2, 0, none⟩) hB).trans h.frz, ?_, fun e => by simp at e, hB, ?_, fun b o hb1 hb2 => ?_, ?_⟩
  · rw [List.length_append, show numV .i64 (l ++ [t]) = numV .i64 l ++ numV .i64 [t] by simp [numV]]
    refine ho.kept (row := some B2) ⟨rfl, rfl, rfl, by simp [World.setCell], fun k _ hk => Below.heap_setCell _ _ _ k (fun e => hk (by rw [e]))⟩ ?_
    by_cases hv : v'.ownBlock = none
    · exact .inl hv
    · refine .inr (fun e => ?_)
      have := own_ge ho B2 e
      omega
  · have := hgb.size; simp [World.setCell]; omega
  · rw [World.cell?_setCell_far _ _ _ _ (fun e => hb1 e.symm)]
    exact (hgb.cell (p := ⟨b, o, none⟩) hb2).trans (h.old b o hb1 hb2)
  · exact (h.below.trans (below_of hgb (by omega))).setCell (p := ⟨B2, 0, none⟩) (Nat.le_refl _) _
set_option maxHeartbeats 1600000 in
theorem add12_c (A : Option Addr) (n cap B1 B2 base : Nat) (l : List Int) (v : Value) (t : Int) (w0 w : World) (hl : l.length ≤ 1) (hB1 : B1 ≠ B2) (hB1b : B1 < base) (hp : w0.cell? ⟨B1, 1, none⟩ = some (.slice A n cap)) (h : LB base B2 l v w0 w) :
    Calls Try.prog 60 #[.int .i64 t, .pointer (some ⟨B1, 0, none⟩), .pointer (some ⟨B2, 0, none⟩)] w fun e w' => e = .returned (.tuple #[]) ∧ ∃ v', LB base B2 (addP n l t) v' w0 w' := by
  obtain ⟨i0, HI⟩ : ∃ i0, Hid (Try.prog.info? 3 = some i0 ∧ i0.zero = some (.int .i64 0) ∧ i0.size = 1 ∧ i0.bytes = 8) := by
    obtain ⟨i0, hi, hz0, hz1, hz2⟩ := info_parts infoInt
    exact ⟨i0, Lib.hid ⟨hi, hz0, hz1, hz2⟩⟩
  have H := Lib.hid h
  have c1 := (h.old B1 1 hB1 hB1b).trans hp
  have c2 := h.cell
  have f2 := h.frz
  have hlt : B2 < w.heap.size := Nat.lt_of_lt_of_le h.hB h.size
  clear hp
  by_cases h0 : 0 ≤ t
  · have g0 : decide (0 ≤ t) = true := by simpa using h0
    by_cases h1 : t < n
    · have g1 : decide (t < (n : Int)) = true := by simpa using h1
      match l, hl with
      | [], _ =>
        have hv := h.nil rfl
        subst hv
        have HV := Lib.hid (show addP n [] t = [] ++ [t] by simp [addP, inR, h0, h1])
        clear h h0 h1 hl
        go_enter Try.func60, Try.ntmps60
        go_wp2_with (at_builtin; refine wpList_app rfl (.tmp 25) (.tmp 27) 52 rfl base 3 i0 _ 1 8 Try.underlying52 HI.out.1 HI.out.2.1 HI.out.2.2.1 HI.out.2.2.2 rfl (by decide) (.slice none 0 0) 0 [] rfl (World.ownsRow_nil _ _ _ _) (some ⟨w.heap.size, 0, none⟩) (w.heap.size + 1) 1 1 (numV .i64 [t]) rfl (fun h => by cases h) (reads_new w _ _ 1 1 (numV .i64 [t]) rfl rfl) (numT_one .i64 [t]) (by decide) (by decide) (by have := H.out.size; simp; omega) ?_; intro v' w3 hown hgrow _; obtain ⟨g4, cap4, hv4, -, -⟩ := hown.form (by decide); subst hv4; have hgb := hgrow.block B2 (by simp; omega) (fun e => by cases e); have s4 := (World.cell?_of_block (a := ⟨B2, 0, none⟩) hgb).trans ((World.cell?_alloc_lt w _ ⟨B2, 0, none⟩ hlt).trans c2); have s5 := (World.frozen?_of_block (a := ⟨B2, 0, none⟩) hgb).trans (((below1 w _).frozen (p := ⟨B2, 0, none⟩) hlt).trans f2); have HO := Lib.hid hown; have HG := Lib.hid hgrow; clear hown hgrow hgb)
        go_end0
        rw [HV.out]
        exact ⟨rfl, _, LB.push H.out (below1 w _) HG.out HO.out⟩
      | [y], _ =>
        obtain ⟨g, capl, hv, hge, hgl⟩ := h.own.form (by simp)
        subst hv
        have cy : w.cell? ⟨g, 0, none⟩ = some (.int .i64 y) := by
          have := h.own.cellAt 0 (by simp)
          simpa [numV] using this
        by_cases hy : y = t
        · subst hy
          have HV := Lib.hid (show addP n [y] y = [y] by simp [addP])
          have g2 : (y != y) = false := by simp
          clear h h0 h1 hl
          go_enter Try.func60, Try.ntmps60
          go_wp2
          go_end0
          rw [HV.out]
          exact ⟨rfl, _, H.out⟩
        · have HV := Lib.hid (show addP n [y] t = [y] ++ [t] by simp [addP, inR, h0, h1, hy])
          have g2 : (y != t) = true := by simpa using hy
          clear h h0 h1 hl hy
          go_enter Try.func60, Try.ntmps60
          go_wp2_with (at_builtin; refine wpList_app rfl (.tmp 25) (.tmp 27) 52 rfl base 3 i0 _ 1 8 Try.underlying52 HI.out.1 HI.out.2.1 HI.out.2.2.1 HI.out.2.2.2 rfl (by decide) (.slice (some ⟨g, 0, none⟩) 1 capl) 1 (numV .i64 [y]) rfl (H.out.own.alloc _) (some ⟨w.heap.size, 0, none⟩) (w.heap.size + 1) 1 1 (numV .i64 [t]) rfl (fun h => by cases h) (reads_new w _ _ 1 1 (numV .i64 [t]) rfl rfl) (numT_one .i64 [t]) (by decide) (by decide) (by have := H.out.size; simp; omega) ?_; intro v' w3 hown hgrow _; obtain ⟨g4, cap4, hv4, -, -⟩ := hown.form (by decide); subst hv4; have hgb := hgrow.block B2 (by simp; omega) (fun e => by have := own_ge H.out.own B2 e.symm; have := H.out.hB; omega); have s4 := (World.cell?_of_block (a := ⟨B2, 0, none⟩) hgb).trans ((World.cell?_alloc_lt w _ ⟨B2, 0, none⟩ hlt).trans c2); have s5 := (World.frozen?_of_block (a := ⟨B2, 0, none⟩) hgb).trans (((below1 w _).frozen (p := ⟨B2, 0, none⟩) hlt).trans f2); have HO := Lib.hid hown; have HG := Lib.hid hgrow; clear hown hgrow hgb)
          go_end0
          rw [HV.out]
          exact ⟨rfl, _, LB.push H.out (below1 w _) HG.out HO.out⟩
    · have g1 : decide (t < (n : Int)) = false := by simpa using h1
      have HV := Lib.hid (show addP n l t = l by simp [addP, inR, h1])
      clear h h0 h1 hl
      go_enter Try.func60, Try.ntmps60
      go_wp2
      go_end0
      rw [HV.out]
      exact ⟨rfl, _, H.out⟩
  · have g0 : decide (0 ≤ t) = false := by simpa using h0
    have HV := Lib.hid (show addP n l t = l by simp [addP, inR, h0])
    clear h h0 hl
    go_enter Try.func60, Try.ntmps60
    go_wp2
    go_end0
    rw [HV.out]
    exact ⟨rfl, _, H.out⟩
end Go.Proofs.Ytalhjbncloobpaa
