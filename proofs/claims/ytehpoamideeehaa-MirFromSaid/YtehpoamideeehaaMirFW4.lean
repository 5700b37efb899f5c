import Derived.Test.YtehpoamideeehaaMirFW3
import Derived.Test.YtehpoamideeehaaMirW1
import Derived.Test.YtehpoamideeehaaMirOwn
import Derived.LaidEqlPtr
set_option linter.unusedVariables false
set_option linter.unusedSimpArgs false
set_option maxRecDepth 100000
namespace Go.Proofs.Ytehpoamideeehaa
open Go.RowKit
/-! mir.builder's lays, place, settle: the walks. -/
theorem lays_c {w0 : World} {B : Nat} {l : List R7} {bg : List Int} {vl vb : Value} (i : Nat) (x : I4) {L : Int} (hg : Good x L) (hx : x.ok) (hi : i ≤ 4096) (w : World) (h : MB w0 B l bg vl vb w) (hn : l.length + 4 ≤ 100000) :
    Calls Try.prog 17 #[.pointer (some ⟨B, 0, none⟩), .int .i64 i, .agg #[.int .u16 x.c, .int .u8 x.j, .int .u8 x.f, .int .u32 x.k]] w (LaysPost w0 B l (layR i l.length x) bg vb) := by
  have hp := code_parts hg
  obtain ⟨c, j, f, k⟩ := x
  obtain ⟨c0, c1, j0, j1, f0, f1, k0, k1⟩ := hx
  dsimp only at hp c0 c1 j0 j1 f0 f1 k0 k1 ⊢
  rcases hp with ⟨h1, h60⟩ | h1 | h1
  · exact laysAlu_c i c j f k h1 h60 hi ⟨j0, j1⟩ ⟨f0, f1⟩ ⟨k0, k1⟩ w h hn
  · exact laysJump_c i c j f k h1 hi ⟨j0, j1⟩ ⟨f0, f1⟩ ⟨k0, k1⟩ w h hn
  · simp only [plainC, List.mem_cons, List.not_mem_nil, or_false] at h1
    rcases h1 with rfl | rfl | rfl | rfl | rfl | rfl | rfl | rfl | rfl | rfl | rfl | rfl | rfl | rfl | rfl | rfl
    · exact lays32 i j f k hi ⟨j0, j1⟩ ⟨f0, f1⟩ ⟨k0, k1⟩ w h hn
    · exact lays128 i j f k hi ⟨j0, j1⟩ ⟨f0, f1⟩ ⟨k0, k1⟩ w h hn
    · exact lays129 i j f k hi ⟨j0, j1⟩ ⟨f0, f1⟩ ⟨k0, k1⟩ w h hn
    · exact lays0 i j f k hi ⟨j0, j1⟩ ⟨f0, f1⟩ ⟨k0, k1⟩ w h hn
    · exact lays1 i j f k hi ⟨j0, j1⟩ ⟨f0, f1⟩ ⟨k0, k1⟩ w h hn
    · exact lays96 i j f k hi ⟨j0, j1⟩ ⟨f0, f1⟩ ⟨k0, k1⟩ w h hn
    · exact lays97 i j f k hi ⟨j0, j1⟩ ⟨f0, f1⟩ ⟨k0, k1⟩ w h hn
    · exact lays2 i j f k hi ⟨j0, j1⟩ ⟨f0, f1⟩ ⟨k0, k1⟩ w h hn
    · exact lays3 i j f k hi ⟨j0, j1⟩ ⟨f0, f1⟩ ⟨k0, k1⟩ w h hn
    · exact lays7 i j f k hi ⟨j0, j1⟩ ⟨f0, f1⟩ ⟨k0, k1⟩ w h hn
    · exact lays135 i j f k hi ⟨j0, j1⟩ ⟨f0, f1⟩ ⟨k0, k1⟩ w h hn
    · exact lays132 i j f k hi ⟨j0, j1⟩ ⟨f0, f1⟩ ⟨k0, k1⟩ w h hn
    · exact lays6 i j f k hi ⟨j0, j1⟩ ⟨f0, f1⟩ ⟨k0, k1⟩ w h hn
    · exact lays22 i j f k hi ⟨j0, j1⟩ ⟨f0, f1⟩ ⟨k0, k1⟩ w h hn
    · exact lays5 i j f k hi ⟨j0, j1⟩ ⟨f0, f1⟩ ⟨k0, k1⟩ w h hn
    · exact lays60 i j f k hi ⟨j0, j1⟩ ⟨f0, f1⟩ ⟨k0, k1⟩ w h hn
theorem placeM_c {w0 : World} {B : Nat} {l : List R7} {bg : List Int} {vl vb : Value} (t : Nat) {x : Int} (hx : bg[t]? = some x) (w : World) (h : MB w0 B l bg vl vb w) :
    Calls Try.prog 40 #[.pointer (some ⟨B, 1, none⟩), .int .i64 t] w fun e w' => e = .returned (.int .i64 x) ∧ w' = w := by
  have ht := (List.getElem?_eq_some_iff.1 hx).1
  obtain ⟨g, cap, rfl, -, -⟩ := h.ob.form (by omega)
  have c1 := h.c.2.1
  obtain ⟨b, off, e, -, c2⟩ := (Reads.of_own h.ob).num hx
  injection e with e; injection e with e1 e2
  subst e1 e2
  rw [Nat.zero_add] at c2
  have ht' : (t : Int) < bg.length := by omega
  clear h hx ht
  go_enter Try.func40, Try.ntmps40
  go_wp2
  go_ret
  exact ⟨rfl, rfl⟩
/-! What settling makes, in parts. -/
def setT (bg : List Int) (y : R7) : R7 := { y with t := if shT y.o = true then (if y.t < 0 then -y.t else bg.getD y.t.toNat 0) else y.t }
def setF (bg : List Int) (y : R7) : R7 := { y with f := if shF y.o = true then (if y.f < 0 then -y.f else bg.getD y.f.toNat 0) else y.f }
theorem cellsR_set {l : List R7} {i m : Nat} {y y' : R7} {u : Value} (hy : l[i]? = some y) (hm : m < 7) (hc : y'.cells = y.cells.set m u) : cellsR (l.set i y') = (cellsR l).set (i * 7 + m) u := by
  induction l generalizing i with
  | nil => simp at hy
  | cons z l ih =>
    have e : cellsR (z :: l) = z.cells ++ cellsR l := by simp [cellsR]
    have hz : z.cells.length = 7 := rfl
    cases i with
    | zero =>
      simp at hy; subst hy
      have e2 : cellsR ((z :: l).set 0 y') = y'.cells ++ cellsR l := by simp [cellsR]
      rw [e2, e, hc, List.set_append_left _ _ (by rw [hz]; omega)]
      congr 2; omega
    | succ i =>
      simp at hy
      have e2 : cellsR ((z :: l).set (i + 1) y') = z.cells ++ cellsR (l.set i y') := by simp [cellsR]
      rw [e2, e, ih hy, List.set_append_right _ _ (by rw [hz]; omega), hz]
      congr 2; omega
section
variable {w0 : World} {B : Nat} {l : List R7} {bg : List Int} {vb : Value} {W : World} {g n cap : Nat}
theorem MB.store (h : MB w0 B l bg (.slice (some ⟨g, 0, none⟩) n cap) vb W) {i m : Nat} {y y' : R7} {u : Value} (hy : l[i]? = some y) (hm : m < 7) (hc : y'.cells = y.cells.set m u) : MB w0 B (l.set i y') bg (.slice (some ⟨g, 0, none⟩) n cap) vb (W.setCell ⟨g, i * 7 + m, none⟩ u) := by
  have hn : n = l.length := by
    obtain ⟨g', c', e, -, -⟩ := h.ol.form (by have := (List.getElem?_eq_some_iff.1 hy).1; omega)
    injection e
  subst hn
  have hgB : B + 1 ≤ g := own_ge h.ol g rfl
  have hst := (h.ol.stored (i * 7 + m) u).1
  refine ⟨?_, ?_, own_setM h.ob g _ u (h.ne g rfl), h.ne, h.below.setCell (p := ⟨g, i * 7 + m, none⟩) (by have := h.ge; show w0.heap.size ≤ g; omega) _, h.ge⟩
  · exact (Below.heap_setCell _ _ _ B (show B ≠ g by omega)).trans h.box
  · rw [List.length_set, cellsR_set hy hm hc]; exact hst
theorem MB.ir (h : MB w0 B l bg (.slice (some ⟨g, 0, none⟩) n cap) vb W) {i : Nat} {y : R7} (hy : l[i]? = some y) : IrAt W g (i * 7) y ∧ ∀ j, W.frozen? ⟨g, j, none⟩ = false := by
  have hn : n = l.length := by
    obtain ⟨g', c', e, -, -⟩ := h.ol.form (by have := (List.getElem?_eq_some_iff.1 hy).1; omega)
    injection e
  subst hn
  obtain ⟨b, off, e, -, hir⟩ := (Reads.of_own h.ol).ir hy
  injection e with e; injection e with e1 e2
  subst e1 e2
  rw [Nat.zero_add] at hir
  exact ⟨hir, fun j => h.ol.frozenAt j⟩
end
theorem ptr_ne {W : World} {base g size n m o1 o2 : Nat} {cap : Nat} {xs : List Value} (h : W.ownsRow base 37 size (.slice (some ⟨g, 0, none⟩) m cap) n xs) (hne : o1 ≠ o2) : (binOp .eql 82 (.pointer (some ⟨g, o1, none⟩)) (.pointer (some ⟨g, o2, none⟩))).run Try.prog W = .ok (.bool false) W := by
  obtain ⟨j, hj, -, hz1, -⟩ := info_parts infoI64
  rcases h.2 with ⟨h1, -⟩ | ⟨g', cap', cur, h1, -, hg, -⟩
  · cases h1
  · injection h1 with h1; injection h1 with h1; injection h1 with h1 _
    subst h1
    exact run_eql_ptr_other W Try.underlying82 hj (by rw [hz1]; decide) (fun e => by injection e with _ e; exact hne e) hg hg
theorem ptr_eq (W : World) (a : Addr) : (binOp .eql 82 (.pointer (some a)) (.pointer (some a))).run Try.prog W = .ok (.bool true) W := by
  obtain ⟨j, hj, -⟩ := info_parts infoI64
  exact run_eql_ptr_same W a Try.underlying82 hj
/-- So far settled. -/
def stL (bg : List Int) (l : List R7) (i : Nat) : List R7 := (l.take i).map (fun y => setF bg (setT bg y)) ++ l.drop i
theorem stL_zero (bg : List Int) (l : List R7) : stL bg l 0 = l := by simp [stL]
theorem stL_len (bg : List Int) (l : List R7) (i : Nat) : (stL bg l i).length = l.length := by simp [stL]; omega
theorem stL_at {bg : List Int} {l : List R7} {i : Nat} {y : R7} (h : l[i]? = some y) : (stL bg l i)[i]? = some y := by
  have hi := (List.getElem?_eq_some_iff.1 h).1
  unfold stL
  rw [List.getElem?_append_right (by simp; omega)]
  simp only [List.length_map, List.length_take, Nat.min_eq_left (Nat.le_of_lt hi), Nat.sub_self, List.getElem?_drop, Nat.add_zero]
  exact h
theorem stL_succ {bg : List Int} {l : List R7} {i : Nat} {y : R7} (h : l[i]? = some y) : stL bg l (i + 1) = (stL bg l i).set i (setF bg (setT bg y)) := by
  have hi := (List.getElem?_eq_some_iff.1 h).1
  unfold stL
  rw [List.set_append_right _ _ (by simp; omega)]
  simp only [List.length_map, List.length_take, Nat.min_eq_left (Nat.le_of_lt hi), Nat.sub_self]
  have h2 : l.drop i = y :: l.drop (i + 1) := by
    rw [List.drop_eq_getElem_cons hi]
    congr 1
    have := List.getElem?_eq_getElem hi
    rw [h] at this
    injection this with this
    exact this.symm
  rw [h2, List.take_add_one, h]
  simp
theorem set_self {α : Type} {l : List α} {i : Nat} {y : α} (h : l[i]? = some y) : l.set i y = l := by
  refine List.ext_getElem? fun j => ?_
  rw [List.getElem?_set]
  by_cases e : i = j
  · subst e; rw [if_pos rfl, if_pos (List.getElem?_eq_some_iff.1 h).1, h]
  · rw [if_neg e]
structure SetSt (w0 : World) (B : Nat) (l : List R7) (bg : List Int) (vl vb : Value) (g i Sh S : Nat) (y : R7) (W : World) : Prop where
  mb : MB w0 B l bg vl vb W
  shp : W.heap[Sh]? = some (.cells #[.bool (ofD y.o), .bool (ofA y.o), .bool (ofB y.o), .bool (shT y.o), .bool (shF y.o)] 79 (0, 0))
  ptr : W.heap[S]? = some (.cells #[.pointer (some ⟨g, i * 7 + 5, none⟩), .pointer (some ⟨g, i * 7 + 6, none⟩)] 82 (0, 0))
  neq : Sh ≠ g ∧ S ≠ g
set_option maxHeartbeats 3200000 in
theorem settle_c {w0 : World} {B : Nat} {l : List R7} {bg : List Int} {vl vb : Value} (w : World) (h : MB w0 B l bg vl vb w) (hn : l.length ≤ 100000) (hn0 : 0 < l.length) (hT : ∀ y ∈ l, shT y.o = true → -9223372036854775807 ≤ y.t ∧ (0 ≤ y.t → y.t < bg.length)) (hF : ∀ y ∈ l, shF y.o = true → -9223372036854775807 ≤ y.f ∧ (0 ≤ y.f → y.f < bg.length)) :
    Calls Try.prog 18 #[.pointer (some ⟨B, 0, none⟩)] w (AddPost w0 B (l.map (fun y => setF bg (setT bg y))) bg vb) := by
  obtain ⟨g, cap, rfl, hgB, hgl⟩ := h.ol.form hn0
  have HM := Lib.hid h
  have HT := Lib.hid hT
  have HF := Lib.hid hF
  have hnl : (l.length : Int) ≤ 100000 := by omega
  obtain ⟨c0, c1, -, -⟩ := h.c
  have HS0 : Hid (MB w0 B (stL bg l 0) bg (.slice (some ⟨g, 0, none⟩) l.length cap) vb w) := Lib.hid (by rw [stL_zero]; exact h)
  have HGL := Lib.hid hgl
  clear h hT hF hgB hgl
  go_enter Try.func18, Try.ntmps18
  go_wp2_with fail
  go_loopw [13] (fun i wr => ∃ n : Nat, n ≤ l.length ∧ i = .int .i64 n ∧ Hid (MB w0 B (stL bg l n) bg (.slice (some ⟨g, 0, none⟩) l.length cap) vb wr) ∧ Hid (g < wr.heap.size)) (fun i _ => l.length - (intOf i).toNat)
  case atStart => exact ⟨0, by omega, rfl, HS0, HGL⟩
  case round =>
    obtain ⟨n, hnn, rfl, HW, HGW⟩ := hrel
    clear HS0 HGL c0 c1 HM
    rcases Nat.lt_or_ge n l.length with hnl2 | hnl2
    · have hnl3 : (n : Int) < l.length := by omega
      obtain ⟨y, hy⟩ : ∃ y, l[n]? = some y := ⟨_, List.getElem?_eq_getElem hnl2⟩
      have HY := Lib.hid hy
      have HYT := Lib.hid (HT.out y (List.mem_of_getElem? hy))
      have HYF := Lib.hid (HF.out y (List.mem_of_getElem? hy))
      obtain ⟨⟨y0, y1, y2, y3, y4, y5, y6⟩, -⟩ := HW.out.ir (stL_at hy)
      obtain ⟨c0, c1, -, -⟩ := HW.out.c
      clear hy
      go_wp2_with fail
      refine (of_c y.o wr).mono ?_
      rintro e w2 ⟨rfl, hb2⟩
      have HW2 := Lib.hid (HW.out.keep hb2)
      have HGW2 : Hid (g < w2.heap.size) := Lib.hid (by have := hb2.size; have := HGW.out; omega)
      unfold ofV
      have HSH : Hid ((w2.alloc (.cells #[.bool (ofD y.o), .bool (ofA y.o), .bool (ofB y.o), .bool (shT y.o), .bool (shF y.o)] 79)).heap[w2.heap.size]? = some (.cells #[.bool (ofD y.o), .bool (ofA y.o), .bool (ofB y.o), .bool (shT y.o), .bool (shF y.o)] 79 (0, 0))) := Lib.hid (heap_nw w2 _)
      obtain ⟨k0, k1, -, -⟩ := (HW2.out.keep (below1 w2 (.cells #[.bool (ofD y.o), .bool (ofA y.o), .bool (ofB y.o), .bool (shT y.o), .bool (shF y.o)] 79))).c
      clear hb2 y0 y1 y2 y3 y4 y5 y6 c0 c1
      go_wp2_with fail
      go_region
      obtain ⟨V, hV⟩ : ∃ V, V = ((w2.alloc (.cells #[.bool (ofD y.o), .bool (ofA y.o), .bool (ofB y.o), .bool (shT y.o), .bool (shF y.o)] 79)).alloc (.cells #[.pointer (some ⟨g, n * 7 + 5, none⟩), .pointer (some ⟨g, n * 7 + 6, none⟩)] 82)).drew := ⟨_, rfl⟩
      have HV0 : Hid (SetSt w0 B (stL bg l n) bg (.slice (some ⟨g, 0, none⟩) l.length cap) vb g n w2.heap.size (w2.heap.size + 1) y V) := Lib.hid (by
        rw [hV]
        refine ⟨HW2.out.keep (below_dr (below_al (below1 w2 _) _)), (Below.heap_alloc _ _ _ (by simp)).trans HSH.out, heap_nw1d w2 _ _, ?_⟩
        have := HGW2.out
        omega)
      have HGV : Hid (g < V.heap.size) := Lib.hid (by rw [hV]; have := HGW2.out; show g < ((w2.alloc _).alloc _).heap.size; simp; omega)
      rw [← hV]
      obtain ⟨Sh, hSh⟩ : ∃ Sh, Sh = w2.heap.size := ⟨_, rfl⟩
      obtain ⟨S, hS⟩ : ∃ S, S = w2.heap.size + 1 := ⟨_, rfl⟩
      rw [← hS, ← hSh] at HV0 ⊢
      clear hV hSh hS k0 k1 HSH HW2 HGW2
      go_wp2_with fail
      go_loopw [47] (fun k wr => ∃ l' : List R7, Hid (SetSt w0 B l' bg (.slice (some ⟨g, 0, none⟩) l.length cap) vb g n Sh S y wr) ∧ ((k = .int .i64 0 ∧ l' = stL bg l n) ∨ (k = .int .i64 1 ∧ l' = (stL bg l n).set n (setT bg y)) ∨ (k = .int .i64 2 ∧ l' = stL bg l (n + 1)))) (fun k _ => 2 - (intOf k).toNat)
      case atStart => exact ⟨_, HV0, .inl ⟨rfl, rfl⟩⟩
      case round =>
      obtain ⟨l', HV, hcase⟩ := hrel
      clear HV0
      rcases hcase with ⟨rfl, e1⟩ | ⟨rfl, e1⟩ | ⟨rfl, e1⟩
      · rw [e1] at HV
        clear e1
        have HAT := Lib.hid (stL_at (bg := bg) HY.out)
        obtain ⟨⟨y0, y1, y2, y3, y4, y5, y6⟩, hfz⟩ := HV.out.mb.ir HAT.out
        have fz := hfz (n * 7 + 5)
        obtain ⟨c0, c1, -, -⟩ := HV.out.mb.c
        have s3 : wr.cell? ⟨Sh, 3, none⟩ = some (.bool (shT y.o)) := by simp [World.cell?, HV.out.shp]
        have s4 : wr.cell? ⟨Sh, 4, none⟩ = some (.bool (shF y.o)) := by simp [World.cell?, HV.out.shp]
        have q0 : wr.cell? ⟨S, 0, none⟩ = some (.pointer (some ⟨g, n * 7 + 5, none⟩)) := by simp [World.cell?, HV.out.ptr]
        clear hfz
        clear y6
        clear y0 y1 y2 y3 y4
        have hpe := ptr_ne HV.out.mb.ol (o1 := n * 7 + 5) (o2 := n * 7 + 6) (by omega)
        cases hsT : shT y.o with
        | false =>
          have HST := Lib.hid hsT
          rw [hsT] at s3
          clear hsT
          go_wp2
          go_roundw
          case rel => exact ⟨_, HV, .inr (.inl ⟨by go_num, by rw [show setT bg y = y by unfold setT; rw [HST.out]; rfl]; exact (set_self (stL_at HY.out)).symm⟩)⟩
          case measure => simp [intOf]
        | true =>
          have HST := Lib.hid hsT
          rw [hsT] at s3
          clear hsT
          cases hsF : shF y.o with
          | false =>
            have HSF := Lib.hid hsF
            rw [hsF] at s4
            clear hsF
            by_cases hlt : y.t < 0
            · have HLT := Lib.hid hlt
              have hrng := (HYT.out HST.out).1
              have wn : IntKind.i64.wrap (-y.t) = -y.t := by rw [IntWalk.i64_in] <;> omega
              go_wp2
              go_roundw
              case rel => exact ⟨_, Lib.hid ⟨HV.out.mb.store (y' := { y with t := -y.t }) HAT.out (m := 5) (by decide) rfl, (Below.heap_setCell _ _ _ Sh HV.out.neq.1).trans HV.out.shp, (Below.heap_setCell _ _ _ S HV.out.neq.2).trans HV.out.ptr, HV.out.neq⟩, .inr (.inl ⟨by go_num, by rw [show setT bg y = { y with t := -y.t } by unfold setT; rw [if_pos HST.out, if_pos HLT.out]]⟩)⟩
              case measure => simp [intOf]
            · obtain ⟨T, hTT⟩ : ∃ T : Nat, y.t = T := ⟨y.t.toNat, by omega⟩
              have HLT := Lib.hid hlt
              have HTT := Lib.hid hTT
              have hb := (HYT.out HST.out).2 (by omega)
              obtain ⟨x, hx⟩ : ∃ x, bg[T]? = some x := ⟨_, List.getElem?_eq_getElem (by omega)⟩
              have HX := Lib.hid hx
              rw [hTT] at y5
              clear hlt hTT hx hb
              go_wp2_with fail
              go_region_law (go_simp; go_at_call 40; refine (placeM_c T HX.out _ (HV.out.mb.keep (below_dr (Below.refl _ _)))).mono ?_; rintro e w' ⟨rfl, rfl⟩)
              all_goals (
                go_wp2
                go_roundw
                case rel => exact ⟨_, Lib.hid ⟨(HV.out.mb.keep (below_dr (Below.refl _ _))).store (y' := { y with t := x }) HAT.out (m := 5) (by decide) rfl, (Below.heap_setCell _ _ _ Sh HV.out.neq.1).trans HV.out.shp, (Below.heap_setCell _ _ _ S HV.out.neq.2).trans HV.out.ptr, HV.out.neq⟩, .inr (.inl ⟨by go_num, by rw [show setT bg y = { y with t := x } by unfold setT; rw [if_pos HST.out, if_neg (by have h := HLT.out; omega), HTT.out, Int.toNat_natCast, List.getD_eq_getElem?_getD, HX.out]; rfl]⟩)⟩
                case measure => simp [intOf])
          | true =>
            have HSF := Lib.hid hsF
            rw [hsF] at s4
            clear hsF
            by_cases hlt : y.t < 0
            · have HLT := Lib.hid hlt
              have hrng := (HYT.out HST.out).1
              have wn : IntKind.i64.wrap (-y.t) = -y.t := by rw [IntWalk.i64_in] <;> omega
              go_wp2
              go_roundw
              case rel => exact ⟨_, Lib.hid ⟨HV.out.mb.store (y' := { y with t := -y.t }) HAT.out (m := 5) (by decide) rfl, (Below.heap_setCell _ _ _ Sh HV.out.neq.1).trans HV.out.shp, (Below.heap_setCell _ _ _ S HV.out.neq.2).trans HV.out.ptr, HV.out.neq⟩, .inr (.inl ⟨by go_num, by rw [show setT bg y = { y with t := -y.t } by unfold setT; rw [if_pos HST.out, if_pos HLT.out]]⟩)⟩
              case measure => simp [intOf]
            · obtain ⟨T, hTT⟩ : ∃ T : Nat, y.t = T := ⟨y.t.toNat, by omega⟩
              have HLT := Lib.hid hlt
              have HTT := Lib.hid hTT
              have hb := (HYT.out HST.out).2 (by omega)
              obtain ⟨x, hx⟩ : ∃ x, bg[T]? = some x := ⟨_, List.getElem?_eq_getElem (by omega)⟩
              have HX := Lib.hid hx
              rw [hTT] at y5
              clear hlt hTT hx hb
              go_wp2_with fail
              go_region_law (go_simp; go_at_call 40; refine (placeM_c T HX.out _ (HV.out.mb.keep (below_dr (Below.refl _ _)))).mono ?_; rintro e w' ⟨rfl, rfl⟩)
              all_goals (
                go_wp2
                go_roundw
                case rel => exact ⟨_, Lib.hid ⟨(HV.out.mb.keep (below_dr (Below.refl _ _))).store (y' := { y with t := x }) HAT.out (m := 5) (by decide) rfl, (Below.heap_setCell _ _ _ Sh HV.out.neq.1).trans HV.out.shp, (Below.heap_setCell _ _ _ S HV.out.neq.2).trans HV.out.ptr, HV.out.neq⟩, .inr (.inl ⟨by go_num, by rw [show setT bg y = { y with t := x } by unfold setT; rw [if_pos HST.out, if_neg (by have h := HLT.out; omega), HTT.out, Int.toNat_natCast, List.getD_eq_getElem?_getD, HX.out]; rfl]⟩)⟩
                case measure => simp [intOf])
      · rw [e1] at HV
        clear e1
        have HAT : Hid (((stL bg l n).set n (setT bg y))[n]? = some (setT bg y)) := Lib.hid (by rw [List.getElem?_set, if_pos rfl, if_pos (by rw [stL_len]; omega)])
        obtain ⟨⟨y0, y1, y2, y3, y4, y5, y6⟩, hfz⟩ := HV.out.mb.ir HAT.out
        have fz := hfz (n * 7 + 6)
        obtain ⟨c0, c1, -, -⟩ := HV.out.mb.c
        have s3 : wr.cell? ⟨Sh, 3, none⟩ = some (.bool (shT y.o)) := by simp [World.cell?, HV.out.shp]
        have s4 : wr.cell? ⟨Sh, 4, none⟩ = some (.bool (shF y.o)) := by simp [World.cell?, HV.out.shp]
        have q0 : wr.cell? ⟨S, 1, none⟩ = some (.pointer (some ⟨g, n * 7 + 6, none⟩)) := by simp [World.cell?, HV.out.ptr]
        clear hfz
        have ho : (setT bg y).o = y.o := rfl
        have hff : (setT bg y).f = y.f := rfl
        rw [hff] at y6
        clear y5 ho hff
        clear y0 y1 y2 y3 y4
        have hpe := ptr_eq wr ⟨g, n * 7 + 6, none⟩
        cases hsT : shT y.o with
        | false =>
          have HST := Lib.hid hsT
          rw [hsT] at s3
          clear hsT
          go_wp2
          go_roundw
          case rel => exact ⟨_, HV, .inr (.inr ⟨by go_num, by rw [stL_succ HY.out]; congr 1; unfold setF; rw [show shF (setT bg y).o = false from by have h := HST.out; show shF y.o = false; simp [shT] at h; simp [shF]; omega]; rfl⟩)⟩
          case measure => simp [intOf]
        | true =>
          have HST := Lib.hid hsT
          rw [hsT] at s3
          clear hsT
          cases hsF : shF y.o with
          | false =>
            have HSF := Lib.hid hsF
            rw [hsF] at s4
            clear hsF
            go_wp2
            go_roundw
            case rel => exact ⟨_, HV, .inr (.inr ⟨by go_num, by rw [stL_succ HY.out]; congr 1; unfold setF; rw [show shF (setT bg y).o = false from HSF.out]; rfl⟩)⟩
            case measure => simp [intOf]
          | true =>
            have HSF := Lib.hid hsF
            rw [hsF] at s4
            clear hsF
            by_cases hlt : y.f < 0
            · have HLT := Lib.hid hlt
              have hrng := (HYF.out HSF.out).1
              have wn : IntKind.i64.wrap (-y.f) = -y.f := by rw [IntWalk.i64_in] <;> omega
              go_wp2
              go_roundw
              case rel => exact ⟨_, Lib.hid ⟨HV.out.mb.store (y' := { setT bg y with f := -y.f }) HAT.out (m := 6) (by decide) rfl, (Below.heap_setCell _ _ _ Sh HV.out.neq.1).trans HV.out.shp, (Below.heap_setCell _ _ _ S HV.out.neq.2).trans HV.out.ptr, HV.out.neq⟩, .inr (.inr ⟨by go_num, by rw [stL_succ HY.out, show setF bg (setT bg y) = { setT bg y with f := -y.f } by unfold setF; rw [if_pos (show shF (setT bg y).o = true from HSF.out), if_pos (show (setT bg y).f < 0 from HLT.out)]; rfl, List.set_set]⟩)⟩
              case measure => simp [intOf]
            · obtain ⟨T, hTT⟩ : ∃ T : Nat, y.f = T := ⟨y.f.toNat, by omega⟩
              have HLT := Lib.hid hlt
              have HTT := Lib.hid hTT
              have hb := (HYF.out HSF.out).2 (by omega)
              obtain ⟨x, hx⟩ : ∃ x, bg[T]? = some x := ⟨_, List.getElem?_eq_getElem (by omega)⟩
              have HX := Lib.hid hx
              rw [hTT] at y6
              clear hlt hTT hx hb
              go_wp2_with fail
              go_region_law (go_simp; go_at_call 40; refine (placeM_c T HX.out _ (HV.out.mb.keep (below_dr (Below.refl _ _)))).mono ?_; rintro e w' ⟨rfl, rfl⟩)
              all_goals (
                go_wp2
                go_roundw
                case rel => exact ⟨_, Lib.hid ⟨(HV.out.mb.keep (below_dr (Below.refl _ _))).store (y' := { setT bg y with f := x }) HAT.out (m := 6) (by decide) rfl, (Below.heap_setCell _ _ _ Sh HV.out.neq.1).trans HV.out.shp, (Below.heap_setCell _ _ _ S HV.out.neq.2).trans HV.out.ptr, HV.out.neq⟩, .inr (.inr ⟨by go_num, by rw [stL_succ HY.out, show setF bg (setT bg y) = { setT bg y with f := x } by unfold setF; rw [if_pos (show shF (setT bg y).o = true from HSF.out), if_neg (show ¬ (setT bg y).f < 0 from (by have h := HLT.out; show ¬ y.f < 0; omega)), show (setT bg y).f = T from HTT.out, Int.toNat_natCast, List.getD_eq_getElem?_getD, HX.out]; rfl, List.set_set]⟩)⟩
                case measure => simp [intOf])
      · rw [e1] at HV
        clear e1
        go_wp2
        go_roundw
        case rel => exact ⟨n + 1, by omega, by go_num, Lib.hid HV.out.mb, Lib.hid (own_ltM HV.out.mb.ol g rfl)⟩
        case measure => simp [intOf]; omega
    · obtain rfl : n = l.length := by omega
      go_wp2
      go_end0
      exact ⟨rfl, _, by have h := HW.out; have e : stL bg l l.length = l.map (fun y => setF bg (setT bg y)) := by simp [stL]
                        rw [e] at h; exact h⟩
end Go.Proofs.Ytehpoamideeehaa
