import Derived.Test.YtapmpegblfcknaaFlowGraphP
import Derived.Test.YtapmpegblfcknaaFlowHead
import Derived.Test.YtapmpegblfcknaaFlowBlkW
set_option linter.unusedVariables false
set_option linter.unusedSimpArgs false
namespace Go.Proofs.Ytapmpegblfcknaa
open Go.RowKit Go.Shelf
/-! Rows of bools and of numbers that a call has made; the reference's Reach. -/
def BoRow (B g m : Nat) (l : List Bool) (W : World) : Prop := l.length = m ∧ W.ownsRow B 4 1 (.slice (some ⟨g, 0, none⟩) m m) m (boolsV l)
section
variable {B g m : Nat} {l : List Bool} {W W' : World}
theorem BoRow.get (h : BoRow B g m l W) {j : Nat} (hj : j < m) : W.cell? ⟨g, j, none⟩ = some (.bool (l.getD j false)) := by
  rw [h.2.cellAt j (by omega)]
  have : l[j]? = some (l.getD j false) := by rw [List.getD_eq_getElem?_getD, List.getElem?_eq_getElem (by rw [h.1]; exact hj)]; rfl
  rw [boolsV, List.getElem?_map, this]; rfl
theorem BoRow.free (h : BoRow B g m l W) (j : Nat) : W.frozen? ⟨g, j, none⟩ = false := h.2.frozenAt j
theorem BoRow.set (h : BoRow B g m l W) (j : Nat) (v : Bool) : BoRow B g m (l.set j v) (W.setCell ⟨g, j, none⟩ (.bool v)) := by
  refine ⟨by simp [h.1], ?_⟩
  have := (h.2.stored j (.bool v)).1
  have e : (boolsV l).set j (.bool v) = boolsV (l.set j v) := by simp [boolsV, List.map_set]
  rwa [e] at this
theorem BoRow.grow {row : Option Nat} (h : BoRow B g m l W) (hg : W.grownBy W' row) (hne : some g ≠ row) : BoRow B g m l W' := ⟨h.1, h.2.kept hg (.inr (by simpa [Value.ownBlock] using hne))⟩
theorem BoRow.keep (h : BoRow B g m l W) (hb : Below W.heap.size W W') : BoRow B g m l W' := h.grow (row := none) ⟨hb.os, hb.tape, hb.output, hb.size, fun k hk _ => hb.block k hk⟩ (by simp)
theorem BoRow.alloc (h : BoRow B g m l W) (o : Obj) : BoRow B g m l (W.alloc o) := h.keep (below1 W o)
theorem BoRow.lt (h : BoRow B g m l W) (hm : 0 < m) : g < W.heap.size := by obtain ⟨g', cap', hv, _, hlt⟩ := h.2.form hm; injection hv with hv; injection hv with hv; injection hv with hv; rw [hv]; exact hlt
theorem BoRow.new {w2 : World} (h : w2.ownsRow B 4 1 (.slice (some ⟨g, 0, none⟩) m m) m (madeCells (Value.bool false).cells (m * 1)).toList) : BoRow B g m (List.replicate m false) w2 := by
  refine ⟨by simp, ?_⟩
  have e : (madeCells (Value.bool false).cells (m * 1)).toList = boolsV (List.replicate m false) := by
    simp only [boolsV, List.map_replicate, Nat.mul_one]; exact toList_madeCells_one _ _
  rwa [e] at h
end
theorem BoRow.other {B g m : Nat} {l : List Bool} {W : World} (h : BoRow B g m l W) {a : Addr} (ha : a.block ≠ g) (v : Value) : BoRow B g m l (W.setCell a v) := ⟨h.1, ownsRow_setCell_other h.2 (by simp [Value.ownBlock]; omega) v⟩
theorem NRow.other {B g m : Nat} {l : List Nat} {W : World} (h : NRow B g m l W) {a : Addr} (ha : a.block ≠ g) (v : Value) : NRow B g m l (W.setCell a v) := ⟨h.1, ownsRow_setCell_other h.2 (by simp [Value.ownBlock]; omega) v⟩
/-- A row of whole numbers. -/
def IRow (B g m : Nat) (l : List Int) (W : World) : Prop := l.length = m ∧ W.ownsRow B 3 1 (.slice (some ⟨g, 0, none⟩) m m) m (numV .i64 l)
section
variable {B g m : Nat} {l : List Int} {W W' : World}
theorem IRow.get (h : IRow B g m l W) {j : Nat} (hj : j < m) : W.cell? ⟨g, j, none⟩ = some (.int .i64 (l.getD j 0)) := by
  rw [h.2.cellAt j (by omega)]
  have : l[j]? = some (l.getD j 0) := by rw [List.getD_eq_getElem?_getD, List.getElem?_eq_getElem (by rw [h.1]; exact hj)]; rfl
  rw [numV, List.getElem?_map, this]; rfl
theorem IRow.free (h : IRow B g m l W) (j : Nat) : W.frozen? ⟨g, j, none⟩ = false := h.2.frozenAt j
theorem IRow.set (h : IRow B g m l W) (j : Nat) (v : Int) : IRow B g m (l.set j v) (W.setCell ⟨g, j, none⟩ (.int .i64 v)) := by
  refine ⟨by simp [h.1], ?_⟩
  have := (h.2.stored j (.int .i64 v)).1
  have e : (numV .i64 l).set j (.int .i64 v) = numV .i64 (l.set j v) := by simp [numV, List.map_set]
  rwa [e] at this
theorem IRow.grow {row : Option Nat} (h : IRow B g m l W) (hg : W.grownBy W' row) (hne : some g ≠ row) : IRow B g m l W' := ⟨h.1, h.2.kept hg (.inr (by simpa [Value.ownBlock] using hne))⟩
theorem IRow.keep (h : IRow B g m l W) (hb : Below W.heap.size W W') : IRow B g m l W' := h.grow (row := none) ⟨hb.os, hb.tape, hb.output, hb.size, fun k hk _ => hb.block k hk⟩ (by simp)
theorem IRow.alloc (h : IRow B g m l W) (o : Obj) : IRow B g m l (W.alloc o) := h.keep (below1 W o)
theorem IRow.lt (h : IRow B g m l W) (hm : 0 < m) : g < W.heap.size := by obtain ⟨g', cap', hv, _, hlt⟩ := h.2.form hm; injection hv with hv; injection hv with hv; injection hv with hv; rw [hv]; exact hlt
theorem IRow.new {w2 : World} (h : w2.ownsRow B 3 1 (.slice (some ⟨g, 0, none⟩) m m) m (madeCells (Value.int .i64 0).cells (m * 1)).toList) : IRow B g m (List.replicate m 0) w2 := by
  refine ⟨by simp, ?_⟩
  have e : (madeCells (Value.int .i64 0).cells (m * 1)).toList = numV .i64 (List.replicate m 0) := by
    simp only [numV, List.map_replicate, Nat.mul_one]; exact toList_madeCells_one _ _
  rwa [e] at h
end
theorem IRow.other {B g m : Nat} {l : List Int} {W : World} (h : IRow B g m l W) {a : Addr} (ha : a.block ≠ g) (v : Value) : IRow B g m l (W.setCell a v) := ⟨h.1, ownsRow_setCell_other h.2 (by simp [Value.ownBlock]; omega) v⟩
/-! Plain: what can be come to, place by place. -/
def posV (l : List Nat) : List Bool := l.map fun n => decide (0 < n)
theorem posV_bump : ∀ (ts : List Nat) (n : List Nat), posV (bumpN n ts) = setAll (posV n) ts := by
  intro ts
  induction ts with
  | nil => intro n; rfl
  | cons t ts ih =>
    intro n
    show posV (bumpN (n.modify t (· + 1)) ts) = setAll ((posV n).set t true) ts
    rw [ih]
    congr 1
    refine List.ext_getElem? fun i => ?_
    unfold posV
    rw [List.getElem?_map, List.getElem?_modify, List.getElem?_set, List.getElem?_map, List.length_map]
    by_cases h : t = i
    · subst h
      cases hx : n[t]? with
      | none => rw [if_pos rfl, if_neg (by have := List.getElem?_eq_none_iff.1 hx; omega)]; rfl
      | some x => rw [if_pos rfl, if_pos (List.getElem?_eq_some_iff.1 hx).1]; simp
    · rw [if_neg h]
      cases hx : n[i]? <;> simp [h]
def rcTo (q : List I4) (k : Nat) : List Bool := posV (intoTo q k)
theorem rcTo_len (q : List I4) (k : Nat) : (rcTo q k).length = q.length := by simp [rcTo, posV, intoTo_len]
theorem rcTo_zero (q : List I4) (h : 0 < q.length) : rcTo q 0 = (List.replicate q.length false).set 0 true := by
  show posV ((List.replicate q.length 0).modify 0 (· + 1)) = _
  have := posV_bump [0] (List.replicate q.length 0)
  simp only [bumpN, List.foldl_cons, List.foldl_nil, setAll] at this
  rw [this]; simp [posV]
theorem rcTo_at (q : List I4) (k j : Nat) : (rcTo q k).getD j false = decide (0 < (intoTo q k).getD j 0) := by
  unfold rcTo posV
  rw [List.getD_eq_getElem?_getD, List.getElem?_map, List.getD_eq_getElem?_getD]
  cases (intoTo q k)[j]? <;> simp
theorem rcTo_yes {q : List I4} {k : Nat} (h : (rcTo q k).getD k false = true) : rcTo q (k + 1) = setAll (rcTo q k) (nextQ q k) := by
  rw [rcTo_at] at h
  unfold rcTo
  rw [intoTo_succ]; unfold intoStep
  rw [if_neg (by simp at h; simp; omega), posV_bump]
theorem rcTo_no {q : List I4} {k : Nat} (h : (rcTo q k).getD k false = false) : rcTo q (k + 1) = rcTo q k := by
  rw [rcTo_at] at h
  unfold rcTo
  rw [intoTo_succ]; unfold intoStep
  rw [if_pos (by simp at h; simp; omega)]
theorem setAll_at {l : List Bool} {ts : List Nat} {k : Nat} (h : l.getD k false = true) : (setAll l ts).getD k false = true := by
  have hk : k < l.length := by
    rcases Nat.lt_or_ge k l.length with h1 | h1
    · exact h1
    · rw [List.getD_eq_getElem?_getD, List.getElem?_eq_none h1] at h; cases h
  exact (setAll_get ts l k hk).2 (.inl h)
theorem take_snocN {l : List Nat} {k y : Nat} (h : l[k]? = some y) : l.take (k + 1) = l.take k ++ [y] := by rw [List.take_add_one, h]; rfl
/-- A row of places that a call has answered. -/
def LRow (B : Nat) (A : Option Addr) (c : Nat) (L : List Nat) (W : World) : Prop := W.ownsRow B 3 1 (.slice A L.length c) L.length (numV .i64 (natsI L))
theorem LRow.get {B c : Nat} {A : Option Addr} {L : List Nat} {W : World} (h : LRow B A c L W) {j y : Nat} (hj : L[j]? = some y) : ∃ g, A = some ⟨g, 0, none⟩ ∧ B ≤ g ∧ W.cell? ⟨g, j, none⟩ = some (.int .i64 y) := by
  have hl := (List.getElem?_eq_some_iff.1 hj).1
  obtain ⟨g, cap, hv, h1, h2⟩ := h.form (by omega)
  have hA : A = some ⟨g, 0, none⟩ := by injection hv
  subst hA
  refine ⟨g, rfl, own_ge h g (by simp [Value.ownBlock]), ?_⟩
  have := h.cells (g := g) rfl j (.int .i64 y) (by simp [numV, natsI, hj])
  simpa [add_plain] using this
theorem LRow.other {B c : Nat} {A : Option Addr} {L : List Nat} {W : World} (h : LRow B A c L W) {a : Addr} (ha : a.block < B) (v : Value) : LRow B A c L (W.setCell a v) := ownsRow_setCell_other h (fun e => by have := own_ge h _ e; omega) v
theorem LRow.keep {B c : Nat} {A : Option Addr} {L : List Nat} {W W' : World} (h : LRow B A c L W) (hb : Below W.heap.size W W') : LRow B A c L W' :=
  h.kept (row := none) ⟨hb.os, hb.tape, hb.output, hb.size, fun k hk _ => hb.block k hk⟩ (by cases (Value.slice A L.length c).ownBlock <;> simp)
theorem LRow.drN {B c : Nat} {A : Option Addr} {L : List Nat} {W : World} (h : LRow B A c L W) (n : Nat) : LRow B A c L (W.drewN n) := h.keep (below_drN (Below.refl _ _) n)
theorem NatsPost.row {w W : World} {l : List Nat} {e : Ending} (h : NatsPost w l e W) : ∃ A c, e = .returned (.slice A l.length c) ∧ Hid (LRow w.heap.size A c l W) ∧ Below w.heap.size w W := by
  obtain ⟨v, rfl, hown, hb⟩ := h
  obtain ⟨A, c, rfl⟩ := own_slice hown
  exact ⟨A, c, rfl, Lib.hid hown, hb⟩
set_option maxRecDepth 100000 in
set_option maxHeartbeats 1600000 in
theorem rReach_c (A : Option Addr) (cap : Nat) (q : List I4) (h0 : (checkP q).1 = 0) (hok : ∀ x ∈ q, x.ok) (w : World) (hr : Reads w w.heap.size 4 A q.length (cellsI q)) :
    Calls Try.prog 32 #[.slice A q.length cap] w fun e w' => e = .returned (.slice (some ⟨w.heap.size, 0, none⟩) q.length q.length) ∧ BoRow w.heap.size w.heap.size q.length (reachV q) w' ∧ Below w.heap.size w w' := by
  obtain ⟨a1, a2, -, -⟩ := acc_facts h0
  have HR := Lib.hid hr
  have HOK := Lib.hid hok
  clear hr hok h0
  obtain ⟨i0, HI⟩ : ∃ i0, Hid (Try.prog.info? 4 = some i0 ∧ i0.zero = some (.bool false) ∧ i0.size = 1 ∧ i0.bytes = 1) := by
    obtain ⟨i0, hi, hz0, hz1, hz2⟩ := info_parts infoBool
    exact ⟨i0, Lib.hid ⟨hi, hz0, hz1, hz2⟩⟩
  obtain ⟨w1, hrun, hown, hg⟩ := run_make_full (P := Try.prog) w w.heap.size 45 4 i0 _ 1 Try.underlying45 HI.out.1 HI.out.2.1 HI.out.2.2.1 .i64 .i64 q.length (by rw [HI.out.2.2.2]; omega) (by simp only [maxLen]; omega) (Nat.le_refl _)
  have hb1 : Below w.heap.size w w1 := ⟨hg.os, hg.tape, hg.output, hg.size, fun k hk => hg.block k hk (by simp)⟩
  have hrow : BoRow w.heap.size w.heap.size q.length (List.replicate q.length false) w1 := BoRow.new hown
  have hq1 : (0 : Int) < q.length := by omega
  have c0 := hrow.get a1
  have f0 := hrow.free 0
  have HS : Hid (BoRow w.heap.size w.heap.size q.length (rcTo q 0) (w1.setCell ⟨w.heap.size, 0, none⟩ (.bool true)) ∧ Below w.heap.size w (w1.setCell ⟨w.heap.size, 0, none⟩ (.bool true))) :=
    Lib.hid ⟨by rw [rcTo_zero q a1]; exact hrow.set 0 true, hb1.setCell (p := ⟨w.heap.size, 0, none⟩) (Nat.le_refl _) _⟩
  clear hown hg hrow hb1
  go_enter Try.func32, Try.ntmps32
  go_wp2_with fail
  clear hrun c0 f0
  go_loopw [4] (fun i wr => ∃ n : Nat, n ≤ q.length ∧ i = .int .i64 n ∧ Hid (BoRow w.heap.size w.heap.size q.length (rcTo q n) wr ∧ Below w.heap.size w wr)) (fun i _ => q.length - (intOf i).toNat)
  case atStart => exact ⟨0, by omega, rfl, HS⟩
  case round =>
    obtain ⟨n, hn, rfl, HW⟩ := hrel
    clear HS
    rcases Nat.lt_or_ge n q.length with hnl | hnl
    · have hnl' : (n : Int) < q.length := by omega
      have hq2 : (q.length : Int) ≤ 4096 := by omega
      go_wp2_with fail
      refine (rNext_c A cap q n hnl HOK.out (by omega) wr (HR.out.up HW.out.2)).mono ?_
      rintro e w3 hP
      obtain ⟨An, cn, rfl, HRn, hb3⟩ := hP.row
      have hgl := HW.out.1.lt a1
      have HB3 := Lib.hid hb3
      obtain ⟨L, hL⟩ : ∃ L, L = nextQ q n := ⟨_, rfl⟩
      have HM : Hid (∀ t ∈ L, t < q.length) := Lib.hid (fun t ht => (nextQ_mem HOK.out (by rw [← hL]; exact ht)).2)
      have hL2 : (L.length : Int) ≤ 2 := by have := nextQ_len q n; rw [← hL] at this; omega
      rw [← hL] at HRn ⊢
      have HL := Lib.hid hL
      obtain ⟨b, hb⟩ : ∃ b, b = (rcTo q n).getD n false := ⟨_, rfl⟩
      have HBB := Lib.hid hb
      obtain ⟨X, hX⟩ : ∃ X, X = wr.heap.size := ⟨_, rfl⟩
      rw [← hX] at HRn hgl
      have HS3 : Hid (BoRow w.heap.size w.heap.size q.length (if b = true then setAll (rcTo q n) (L.take 0) else rcTo q n) w3 ∧ Below w.heap.size w w3 ∧ LRow X An cn L w3) := Lib.hid ⟨by cases b <;> exact HW.out.1.keep hb3, below_t HW.out.2 hb3, HRn.out⟩
      clear hL hP hb3 hb hX HRn
      go_wp2_with fail
      go_loopw [6] (fun k wr2 => ∃ m : Nat, m ≤ L.length ∧ k = .int .i64 m ∧ (b = false → m = 0) ∧ Hid (BoRow w.heap.size w.heap.size q.length (if b = true then setAll (rcTo q n) (L.take m) else rcTo q n) wr2 ∧ Below w.heap.size w wr2 ∧ LRow X An cn L wr2)) (fun k _ => L.length - (intOf k).toNat)
      case atStart => exact ⟨0, by omega, rfl, fun _ => rfl, HS3⟩
      case round =>
        obtain ⟨m, hm, rfl, hm0, HW2⟩ := hrel
        clear HS3
        cases b with
        | false =>
          obtain rfl := hm0 rfl
          clear hm0
          have cb : wr.cell? ⟨w.heap.size, n, none⟩ = some (.bool false) := by rw [HW2.out.1.get hnl]; exact congrArg (fun x => some (Value.bool x)) HBB.out.symm
          have hend : Hid (BoRow w.heap.size w.heap.size q.length (rcTo q (n + 1)) wr ∧ Below w.heap.size w wr) := Lib.hid ⟨by rw [rcTo_no HBB.out.symm]; exact HW2.out.1, HW2.out.2.1⟩
          cases hLL : decide (0 < L.length) with
          | false =>
            have h1 : (L.length : Int) ≤ 0 := by have := of_decide_eq_false hLL; omega
            clear hLL
            go_wp2
            go_roundw
            case rel => exact ⟨n + 1, by omega, by go_num, hend⟩
            case measure => simp [intOf]; omega
          | true =>
            have h1 : (0 : Int) < L.length := by have := of_decide_eq_true hLL; omega
            clear hLL
            go_wp2
            go_roundw
            case rel => exact ⟨n + 1, by omega, by go_num, hend⟩
            case measure => simp [intOf]; omega
        | true =>
          have cb : wr.cell? ⟨w.heap.size, n, none⟩ = some (.bool true) := by rw [HW2.out.1.get hnl]; exact congrArg (fun x => some (Value.bool x)) (setAll_at HBB.out.symm)
          clear hm0
          rcases Nat.lt_or_ge m L.length with hml | hml
          · obtain ⟨y, hy⟩ : ∃ y, L[m]? = some y := ⟨_, List.getElem?_eq_getElem hml⟩
            obtain ⟨gA, rfl, hgA, cy⟩ := HW2.out.2.2.get hy
            have hyq : (y : Int) < q.length := by have := HM.out y (List.mem_of_getElem? hy); omega
            have hyq2 : y < q.length := by omega
            have hml' : (m : Int) < L.length := by omega
            have c1 := HW2.out.1.get hyq2
            have f1 := HW2.out.1.free y
            have HY := Lib.hid (take_snocN hy)
            have HN2 : Hid (BoRow w.heap.size w.heap.size q.length (setAll (rcTo q n) (L.take (m + 1))) (wr.setCell ⟨w.heap.size, y, none⟩ (.bool true)) ∧ Below w.heap.size w (wr.setCell ⟨w.heap.size, y, none⟩ (.bool true)) ∧ LRow X (some ⟨gA, 0, none⟩) cn L (wr.setCell ⟨w.heap.size, y, none⟩ (.bool true))) :=
              Lib.hid ⟨by rw [HY.out, setAll_snoc]; exact HW2.out.1.set y true, HW2.out.2.1.setCell (p := ⟨w.heap.size, y, none⟩) (Nat.le_refl _) _, HW2.out.2.2.other (a := ⟨w.heap.size, y, none⟩) (show w.heap.size < X by omega) _⟩
            clear hy
            go_wp2
            go_roundw
            case rel => exact ⟨m + 1, by omega, by go_num, (fun h => by cases h), HN2⟩
            case measure => simp [intOf]; omega
          · obtain rfl : m = L.length := by omega
            have hend : Hid (BoRow w.heap.size w.heap.size q.length (rcTo q (n + 1)) wr ∧ Below w.heap.size w wr) := Lib.hid ⟨by rw [rcTo_yes HBB.out.symm, ← HL.out]; have := HW2.out.1; rw [if_pos rfl, List.take_length] at this; exact this, HW2.out.2.1⟩
            go_wp2
            go_roundw
            case rel => exact ⟨n + 1, by omega, by go_num, hend⟩
            case measure => simp [intOf]; omega
    · obtain rfl : n = q.length := by omega
      have hend := HW.out
      go_wp2
      go_ret
      exact ⟨rfl, hend.1, hend.2⟩
end Go.Proofs.Ytapmpegblfcknaa
