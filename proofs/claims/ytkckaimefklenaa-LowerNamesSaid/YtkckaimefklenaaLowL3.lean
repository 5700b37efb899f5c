import Derived.Test.YtkckaimefklenaaLowL2
set_option linter.unusedVariables false
set_option linter.unusedSimpArgs false
namespace Go.Proofs.Ytkckaimefklenaa
open Go.RowKit
/-! lower.layout's place: the walk. -/
theorem farAt_def (far : List (Bool × Bool)) (i : Nat) : (farAt far i) = ((farAt far i).1, (farAt far i).2) := rfl
/-- A part's size, whatever it is. -/
theorem size_c {lo : Nat} {q : List N8} {L B c : Nat} {Pn Yn first : Nat → Nat} {size : Nat} {far : Nat → Bool × Bool} (w : World) (h : LayAt lo q L B c Pn Yn first size far w) {i : Nat} {x : N8} (hx : q[i]? = some x) (hp : (first i : Int) ≤ 100000) :
    Calls Try.prog 30 #[.pointer (some ⟨Pn i, 0, none⟩)] w fun e w' => e = .returned (.int .i64 (sizeN x (far i))) ∧ Below w.heap.size w w' := by
  have hpa := h.partAt hx
  cases hl : x.lf with
  | true =>
    refine (partLeaf_c (Pn i) x hl _ _ w hpa).mono ?_
    rintro e w' ⟨rfl, rfl⟩
    exact ⟨by unfold sizeN; rw [if_pos hl]; rfl, Below.refl _ _⟩
  | false =>
    have hv : waysV x (Yn i) = .slice (some ⟨Yn i, 0, none⟩) 2 2 := by unfold waysV; rw [if_neg (by rw [hl]; decide)]
    rw [hv] at hpa
    exact partSize_c (Pn i) (Yn i) 2 x hl (first i) (far i).1 (far i).2 hp w (heap_lt (h.ways i x hx hl)) hpa (h.waysAt hx hl)
set_option maxHeartbeats 1600000 in
theorem place_c {lo : Nat} {q : List N8} {L B c : Nat} {Pn Yn first : Nat → Nat} {size : Nat} (far : List (Bool × Bool)) (hn : q.length ≤ 4096) (w : World) (h : LayAt lo q L B c Pn Yn first size (farAt far) w) :
    Calls Try.prog 15 #[.pointer (some ⟨L, 0, none⟩)] w fun e w' => e = .returned (.tuple #[]) ∧ LayAt lo q L B c Pn Yn (placeN q far) (placeN q far q.length) (farAt far) w' ∧ Below lo w w' := by
  have HL := Lib.hid h
  have l0 := h.l0
  have l1 := h.l1
  have f1 := h.freeL 1
  have hn' : (q.length : Int) ≤ 4096 := by omega
  have H0 : Hid (LayAt lo q L B c Pn Yn (fun j => if j < 0 then placeN q far j else first j) (placeN q far 0) (farAt far) (w.setCell ⟨L, 1, none⟩ (.int .i64 0))) := Lib.hid ((h.setSize 0).cast (fun i x _ => by rw [if_neg (by omega)]) rfl (fun _ _ _ _ => rfl))
  have HB0 : Hid (Below lo w (w.setCell ⟨L, 1, none⟩ (.int .i64 0))) := Lib.hid ((Below.refl _ _).setCell (p := ⟨L, 1, none⟩) h.lo.1 _)
  have l0' := H0.out.l0
  clear h
  go_enter Try.func15, Try.ntmps15
  go_wp2_with fail
  go_loopw [12, 3] (fun i p wr => ∃ k : Nat, k ≤ q.length ∧ i = .int .i64 k ∧ Hid (LayAt lo q L B c Pn Yn (fun j => if j < k then placeN q far j else first j) (placeN q far k) (farAt far) wr) ∧ Hid (Below lo w wr)) (fun i _ _ => q.length - (intOf i).toNat)
  case atStart => exact ⟨0, by omega, rfl, H0, HB0⟩
  case round =>
    obtain ⟨k, hk, rfl, HW, HB⟩ := hrel
    clear HL H0 HB0 l0 l1 f1 l0'
    rcases Nat.lt_or_ge k q.length with hkl | hkl
    · have hkl' : (k : Int) < q.length := by omega
      obtain ⟨x, hx⟩ : ∃ x, q[k]? = some x := ⟨_, List.getElem?_eq_getElem hkl⟩
      have HX := Lib.hid hx
      have cp := HW.out.ptr k hkl
      have l1 := HW.out.l1
      have p8 := (HW.out.partAt hx).2.2.2.2.2.2.2.2.1
      have f8 := HW.out.freeP hx 8
      have hpl : placeN q far k ≤ 20480 := by have := placeN_le q far k; omega
      obtain ⟨p, hp⟩ : ∃ p, p = placeN q far k := ⟨_, rfl⟩
      obtain ⟨s, hs⟩ : ∃ s, s = sizeN x (farAt far k) := ⟨_, rfl⟩
      rw [← hp] at l1 hpl
      have HP := Lib.hid hp
      have HS := Lib.hid hs
      have hs6 : s ≤ 5 := by rw [hs]; unfold sizeN b2n; repeat (first | split | omega)
      have HW1 : Hid (LayAt lo q L B c Pn Yn (fun i => if i = k then p else if i < k then placeN q far i else first i) p (farAt far) (wr.setCell ⟨Pn k, 8, none⟩ (.int .i64 p))) := Lib.hid (by have h := HW.out.setFirst hx p; rw [← hp] at h; exact h)
      have HB1 : Hid (Below lo w (wr.setCell ⟨Pn k, 8, none⟩ (.int .i64 p))) := Lib.hid (HB.out.setCell (p := ⟨Pn k, 8, none⟩) (HW.out.lo.2.2 k x hx).1 _)
      have m1 := HW1.out.l1
      have g1 := HW1.out.freeL 1
      have hi : (p : Int) ≤ 20480 := by omega
      have hi2 : (s : Int) ≤ 5 := by omega
      have e1 : IntKind.i64.wrap ((p : Int) + s) = p + s := by rw [IntWalk.i64_in] <;> omega
      have HE := Lib.hid e1
      clear hx hp hs hpl hs6 e1
      go_upto_region 5 with fail
      have e1 := HE.out
      go_region_law (first | (go_simp; go_at_call 30; refine (size_c _ HW1.out.drew HX.out (by simp; omega)).mono ?_; rintro e w5 ⟨rfl, hb5⟩; rw [← HS.out]; have HW5 := Lib.hid (HW1.out.drew.keep hb5); have HB5 := Lib.hid (below_tr HB1.out (Nat.le_trans HW1.out.lo.1 (Nat.le_of_lt (heap_lt HW1.out.lay))) (undrew hb5)); clear hb5; have m5 := HW5.out.l1; have g5 := HW5.out.freeL 1))
      all_goals (
        clear e1
        go_wp2
        go_roundw
        case rel => exact ⟨k + 1, by omega, by go_num, Lib.hid ((HW5.out.setSize' (p + s) _ (by simp)).cast (fun i x hx => by
          by_cases e : i = k
          · subst e; rw [if_pos rfl, if_pos (by omega)]; exact HP.out
          · rw [if_neg e]
            by_cases e2 : i < k
            · rw [if_pos e2, if_pos (by omega)]
            · rw [if_neg e2, if_neg (by omega)]) (by rw [placeN_succ HX.out, ← HP.out, ← HS.out]) (fun _ _ _ _ => rfl)), Lib.hid (HB5.out.setCell (p := ⟨L, 1, none⟩) HW1.out.lo.1 _)⟩
        case measure => simp [intOf]; omega)
    · obtain rfl : k = q.length := by omega
      go_wp2
      go_end0
      exact ⟨rfl, HW.out.cast (fun i x hx => by rw [if_pos (List.getElem?_eq_some_iff.1 hx).1]) rfl (fun _ _ _ _ => rfl), HB.out⟩
end Go.Proofs.Ytkckaimefklenaa
