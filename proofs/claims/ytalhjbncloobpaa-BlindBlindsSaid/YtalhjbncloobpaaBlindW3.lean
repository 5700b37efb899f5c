import Derived.Test.YtalhjbncloobpaaBlindW2
import Derived.Test.YtalhjbncloobpaaOpenG
set_option linter.unusedVariables false
set_option linter.unusedSimpArgs false
namespace Go.Proofs.Ytalhjbncloobpaa
open Go.RowKit
/-! blind.Constants and the reference's: the walks. -/
theorem own_lower {w : World} {base base' : Nat} {e : TypeId} {size n : Nat} {v : Value} {xs : List Value} (h : w.ownsRow base e size v n xs) (hb : base' ≤ base) : w.ownsRow base' e size v n xs := by
  obtain ⟨h1, h2⟩ := h
  refine ⟨h1, ?_⟩
  rcases h2 with h2 | ⟨g, cap, cur, h3, h4, h5⟩
  · exact .inl h2
  · exact .inr ⟨g, cap, cur, h3, by omega, h5⟩
def constsP (q : List R7) (n : Nat) : List Int := ((q.take n).filter (fun x => x.o == 1)).map R7.k
theorem constsP_len (q : List R7) (n : Nat) : (constsP q n).length ≤ n := by
  unfold constsP
  rw [List.length_map]
  exact Nat.le_trans (List.length_filter_le _ _) (by rw [List.length_take]; omega)
theorem constsP_yes {q : List R7} {n : Nat} {x : R7} (hx : q[n]? = some x) (h : (x.o == 1) = true) : constsP q (n + 1) = constsP q n ++ [x.k] := by
  unfold constsP; rw [List.take_add_one, hx]; simp [List.filter_append, h]
theorem constsP_no {q : List R7} {n : Nat} {x : R7} (hx : q[n]? = some x) (h : (x.o == 1) = false) : constsP q (n + 1) = constsP q n := by
  unfold constsP; rw [List.take_add_one, hx]; simp [List.filter_append, h]
def NRowU (w : World) (v : Value) (l : List Int) (W : World) : Prop := W.ownsRow w.heap.size 30 1 v l.length (numV .u32 l) ∧ Below w.heap.size w W
theorem rn1 (w : World) (o : Obj) (cs : Array Value) (t : TypeId) (size n : Nat) (xs : List Value) (hx : xs = cs.toList) (hl : xs.length = n * size) : Reads ((w.alloc o).alloc (.cells cs t)) (w.heap.size + 2) size (some ⟨w.heap.size + 1, 0, none⟩) n xs := by
  have h := reads_new (w.alloc o) cs t size n xs hx hl
  rwa [World.size_alloc] at h
theorem numV_one (k : IntKind) (l : List Int) : ∀ u ∈ numV k l, u.oneCell' = true := by
  intro u hu; simp only [numV, List.mem_map] at hu; obtain ⟨x, _, rfl⟩ := hu; rfl
theorem numV_snoc (k : IntKind) (l : List Int) (x : Int) : numV k l ++ [.int k x] = numV k (l ++ [x]) := by simp [numV]
set_option maxHeartbeats 800000 in
theorem Constants_c (A : Option Addr) (regs : Int) (cap : Nat) (q : List R7) (hq : q.length * 56 ≤ 140737488351232) (w : World) (hr : Reads w w.heap.size 7 A q.length (cellsR q)) :
    Calls Try.prog 23 #[.agg #[.int .i64 regs, .slice A q.length cap]] w fun e w' => ∃ v, e = .returned v ∧ NRowU w v (constsP q q.length) w' := by
  have HR := Lib.hid hr
  clear hr
  obtain ⟨i0, HI⟩ : ∃ i0, Hid (Try.prog.info? 30 = some i0 ∧ i0.zero = some (.int .u32 0) ∧ i0.size = 1 ∧ i0.bytes = 4) := by
    obtain ⟨i0, hi, hz0, hz1, hz2⟩ := info_parts infoU32
    exact ⟨i0, Lib.hid ⟨hi, hz0, hz1, hz2⟩⟩
  go_enter Try.func23, Try.ntmps23
  go_wp2_with fail
  go_loopw [3, 9] (fun v i wr => ∃ n : Nat, n ≤ q.length ∧ i = .int .i64 n ∧ NRowU w v (constsP q n) wr) (fun _ i _ => q.length - (intOf i).toNat)
  case atStart => exact ⟨0, by omega, rfl, by simpa [constsP, numV] using World.ownsRow_nil _ _ _ _, below1 _ _⟩
  case round =>
    obtain ⟨n, hn6, rfl, hW⟩ := hrel
    have hBw := hW.2
    have HW := Lib.hid hW
    clear hW
    by_cases h6 : n < q.length
    · obtain ⟨x, hx⟩ : ∃ x, q[n]? = some x := ⟨_, List.getElem?_eq_getElem h6⟩
      obtain ⟨b, off, he, hb, i0', i1, i2, i3, i4, i5, i6⟩ := (HR.out.up hBw).ir hx
      subst he
      have hlt1 : (n : Int) < q.length := by omega
      have HY := Lib.hid (fun h => constsP_yes hx h)
      have HN := Lib.hid (fun h => constsP_no hx h)
      have hlen := constsP_len q n
      have hsz := hBw.size
      clear hx
      obtain ⟨o, d, a, b2, k, t, f⟩ := x
      dsimp only at *
      cases ho : (o == 1) with
      | true =>
        have HK := Lib.hid (HY.out ho)
        have HOW := Lib.hid (fun X Y => (HW.out.1.alloc X).alloc Y)
        have tok : True := trivial
        go_wp2_with (at_builtin; have _t := tok; clear tok; go_must (refine wpList_app rfl (.tmp 16) (.tmp 19) 31 rfl w.heap.size 30 i0 _ 1 4 Try.underlying31 HI.out.1 HI.out.2.1 HI.out.2.2.1 HI.out.2.2.2 rfl (by decide) _ (constsP q n).length (numV .u32 (constsP q n)) rfl (HOW.out _ _) (some ⟨wr.heap.size + 1, 0, none⟩) (wr.heap.size + 2) 1 1 (numV .u32 [k]) rfl (fun h => by cases h) (rn1 wr _ _ _ 1 1 (numV .u32 [k]) rfl rfl) (numV_one .u32 [k]) (by simp only [maxLen]; omega) (by omega) (by simp; omega) ?_; intro v' w3 hown' hgrow _; have hb3 : Below w.heap.size w w3 := below_gr (below_al (below_al hBw _) _) hgrow (by simp; omega) (fun j hj => own_ge HW.out.1 j hj); have HO := Lib.hid hown'; clear hown' hgrow))
        go_roundw
        case rel =>
          refine ⟨n + 1, by omega, by go_num, ?_, hb3⟩
          have h := HO.out
          rw [HK.out, List.length_append]
          have e2 : numV .u32 (constsP q n) ++ numV .u32 [k] = numV .u32 (constsP q n ++ [k]) := by simp [numV]
          rw [e2] at h
          exact h
        case measure => simp [intOf]; omega
      | false =>
        have HK := Lib.hid (HN.out ho)
        go_wp2
        go_roundw
        case rel => exact ⟨n + 1, by omega, by go_num, by rw [HK.out]; exact HW.out.1.alloc _, below_al hBw _⟩
        case measure => simp [intOf]; omega
    · obtain rfl : n = q.length := by omega
      go_wp2
      go_ret
      exact ⟨_, rfl, HW.out⟩
set_option maxHeartbeats 800000 in
theorem rConstants_c (A : Option Addr) (regs : Int) (cap : Nat) (q : List R7) (hq : q.length * 56 ≤ 140737488351232) (w : World) (hr : Reads w w.heap.size 7 A q.length (cellsR q)) :
    Calls Try.prog 24 #[.agg #[.int .i64 regs, .slice A q.length cap]] w fun e w' => ∃ v, e = .returned v ∧ NRowU w v (constsP q q.length) w' := by
  have HR := Lib.hid hr
  clear hr
  obtain ⟨i0, HI⟩ : ∃ i0, Hid (Try.prog.info? 30 = some i0 ∧ i0.zero = some (.int .u32 0) ∧ i0.size = 1 ∧ i0.bytes = 4) := by
    obtain ⟨i0, hi, hz0, hz1, hz2⟩ := info_parts infoU32
    exact ⟨i0, Lib.hid ⟨hi, hz0, hz1, hz2⟩⟩
  go_enter Try.func24, Try.ntmps24
  go_wp2_with fail
  go_loopw [3, 4] (fun v i wr => ∃ n : Nat, n ≤ q.length ∧ i = .int .i64 n ∧ wr.cell? ⟨w.heap.size, 1, none⟩ = some (.slice A q.length cap) ∧ wr.ownsRow (w.heap.size + 1) 30 1 v (constsP q n).length (numV .u32 (constsP q n)) ∧ w.heap.size + 1 ≤ wr.heap.size ∧ Below w.heap.size w wr) (fun _ i _ => q.length - (intOf i).toNat)
  case atStart => exact ⟨0, by omega, rfl, by simp [go_sem], by simpa [constsP, numV] using World.ownsRow_nil _ _ _ _, by simp, below1 _ _⟩
  case round =>
    obtain ⟨n, hn6, rfl, cr, hW, hsz, hBw⟩ := hrel
    have HW := Lib.hid hW
    clear hW
    by_cases h6 : n < q.length
    · obtain ⟨x, hx⟩ : ∃ x, q[n]? = some x := ⟨_, List.getElem?_eq_getElem h6⟩
      obtain ⟨b, off, he, hb, i0', i1, i2, i3, i4, i5, i6⟩ := (HR.out.up hBw).ir hx
      subst he
      have hlt1 : (n : Int) < q.length := by omega
      have HY := Lib.hid (fun h => constsP_yes hx h)
      have HN := Lib.hid (fun h => constsP_no hx h)
      have hlen := constsP_len q n
      clear hx
      obtain ⟨o, d, a, b2, k, t, f⟩ := x
      dsimp only at *
      cases ho : (o == 1) with
      | true =>
        have HK := Lib.hid (HY.out ho)
        have HOW := Lib.hid (fun X => (HW.out.alloc X))
        have tok : True := trivial
        go_wp2_with (at_builtin; have _t := tok; clear tok; go_must (refine wpList_app rfl (.tmp 19) (.tmp 26) 31 rfl (w.heap.size + 1) 30 i0 _ 1 4 Try.underlying31 HI.out.1 HI.out.2.1 HI.out.2.2.1 HI.out.2.2.2 rfl (by decide) _ (constsP q n).length (numV .u32 (constsP q n)) rfl (HOW.out _) (some ⟨wr.heap.size, 0, none⟩) (wr.heap.size + 1) 1 1 (numV .u32 [k]) rfl (fun h => by cases h) (reads_new wr _ _ 1 1 (numV .u32 [k]) rfl rfl) (numV_one .u32 [k]) (by simp only [maxLen]; omega) (by omega) (by simp; omega) ?_; intro v' w3 hown' hgrow _; have hb4 : Below (w.heap.size + 1) wr w3 := below_gr ((Below.refl _ _).alloc hsz _) hgrow (by simp; omega) (fun j hj => own_ge HW.out j hj); have hb3 : Below w.heap.size w w3 := hBw.trans (below_of hb4 (by omega)); have cr3 := (hb4.cell (p := ⟨w.heap.size, 1, none⟩) (by simp)).trans cr; have hs3 : w.heap.size + 1 ≤ w3.heap.size := Nat.le_trans hsz hb4.size; have HO := Lib.hid hown'; clear hown' hgrow))
        go_roundw
        case rel =>
          refine ⟨n + 1, by omega, by go_num, cr3, ?_, hs3, hb3⟩
          have h := HO.out
          rw [HK.out, List.length_append]
          have e2 : numV .u32 (constsP q n) ++ numV .u32 [k] = numV .u32 (constsP q n ++ [k]) := by simp [numV]
          rw [e2] at h
          exact h
        case measure => simp [intOf]; omega
      | false =>
        have HK := Lib.hid (HN.out ho)
        go_wp2
        go_roundw
        case rel => exact ⟨n + 1, by omega, by go_num, cr, by rw [HK.out]; exact HW.out, hsz, hBw⟩
        case measure => simp [intOf]; omega
    · obtain rfl : n = q.length := by omega
      go_wp2
      go_ret
      exact ⟨_, rfl, own_lower HW.out (by omega), hBw⟩
end Go.Proofs.Ytalhjbncloobpaa
