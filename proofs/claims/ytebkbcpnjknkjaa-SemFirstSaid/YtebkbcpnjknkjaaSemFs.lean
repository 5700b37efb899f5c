import Derived.Test.YtebkbcpnjknkjaaSemNm
import Derived.Test.YtebkbcpnjknkjaaSemFsP
import Derived.Test.YtebkbcpnjknkjaaStep
set_option linter.unusedVariables false
set_option linter.unusedSimpArgs false
set_option maxRecDepth 100000
namespace Go.Proofs.Ytebkbcpnjknkjaa
open Go.RowKit
/-! SemFirst: asks; a policy that is being made. -/
set_option maxHeartbeats 1600000 in
theorem asks_c (M : Int) (f : Int) (N : Nat → Prop) : ∀ (k : Nat) (x : ExA) (deep : Nat) (w : World), 201 ≤ k + deep → withinP M deep x = 0 → x.In w N → x.fits → Calls Try.prog 18 #[x.val, .int .i64 f] w (BoolPost (asksP f x) w) := by
  intro k
  induction k with
  | zero =>
    intro x deep w hk hw hin hfit
    cases x
    have := (within_parts hw).1
    omega
  | succ k ih =>
    intro x deep w hk hw hin hfit
    obtain ⟨op, A, c, l, g, m, r, v⟩ := x
    obtain ⟨h1, h2, h3⟩ := within_parts hw
    obtain ⟨hrow, hall⟩ := hin
    obtain ⟨hlen, hfl⟩ := hfit
    have IH := Lib.hid (fun i y W (hy : l[i]? = some y) (hb : Below w.heap.size w W) => ih y (deep + 1) W (by omega) (withinL_get h3 hy) ((ExA.InL_get hall hy).keep (N' := N) (fun b hb' hl => ⟨hb', hb.block b hl⟩)) (ExA.fitsL_get hfl hy))
    have HROW := Lib.hid hrow
    have HS := Lib.hid (show BoxS w (.cells #[.int .i64 op, .slice A l.length c, .int .i64 g, .int .u64 m, .int .i64 r, .int .u64 v] 48 (0, 0)) _ from ⟨below1 w _, heap_nwT w _⟩)
    obtain ⟨res, hres⟩ : ∃ res, res = asksP f (.mk op A c l g m r v) := ⟨_, rfl⟩
    rw [← hres]
    have HRES := Lib.hid hres
    unfold ExA.val
    dsimp only
    clear hw h2 h3 hrow hall hfl ih hres
    by_cases h6 : op = 6
    · subst h6
      have HF : Hid (res = (g == f)) := Lib.hid (by rw [HRES.out, asksP, if_pos rfl])
      go_enter Try.func18, Try.ntmps18
      go_wp2
      go_ret
      exact ⟨ret_b HF.out.symm, below1 w _⟩
    · have hop : (op == 6) = false := by simpa using h6
      have HF : Hid (res = asksL f (l.drop 0)) := Lib.hid (by rw [HRES.out, asksP, if_neg h6]; rfl)
      clear h6
      go_enter Try.func18, Try.ntmps18
      go_wp2_with fail
      go_loopw [5] (fun i wr => ∃ n : Nat, i = .int .i64 n ∧ n ≤ l.length ∧ Hid (BoxS w (.cells #[.int .i64 op, .slice A l.length c, .int .i64 g, .int .u64 m, .int .i64 r, .int .u64 v] 48 (0, 0)) wr) ∧ Hid (res = asksL f (l.drop n))) (fun i _ => l.length - (intOf i).toNat)
      case atStart => exact ⟨0, rfl, by omega, HS, HF⟩
      case round =>
        obtain ⟨n, rfl, hn, HB, HE⟩ := hrel
        clear HS HF
        obtain ⟨b0, b1, b2, b3, b4, b5⟩ := (box6 HB.out.box).1
        rcases Nat.lt_or_ge n l.length with hlt | hge
        · have hlt' : (n : Int) < l.length := by omega
          obtain ⟨y, hy⟩ : ∃ y, l[n]? = some y := ⟨_, List.getElem?_eq_getElem hlt⟩
          have hE := HE.out
          rw [asksL_drop hy] at hE
          have hcl := IH.out n y wr hy HB.out.below
          obtain ⟨q, hq⟩ : ∃ q, q = asksP f y := ⟨_, rfl⟩
          rw [← hq] at hE hcl
          obtain ⟨yo, yA, yc, yl, yf, ym, yr, yv⟩ := y
          obtain ⟨bb, off, rfl, hbb, i0, i1, i2, i3, i4, i5⟩ := (HROW.out.keep (N' := N) (fun b hb hl => ⟨hb, HB.out.below.block b hl⟩) (by decide)).ex hy
          unfold ExA.val BoolPost at hcl
          dsimp only at hcl
          have HCL := Lib.hid hcl
          have HE2 := Lib.hid hE
          clear hcl hy hq hE
          go_wp2_with fail
          refine HCL.out.mono ?_
          rintro e w1 ⟨rfl, hb⟩
          have HB1 := Lib.hid (HB.out.call hb)
          clear hb b0 b1 b2 b3 b4 b5
          cases q with
          | true =>
            have HF : Hid (res = true) := Lib.hid (by rw [HE2.out]; rfl)
            go_wp2
            go_ret
            exact ⟨ret_b HF.out.symm, HB1.out.below⟩
          | false =>
            have HF : Hid (res = asksL f (l.drop (n + 1))) := Lib.hid (by rw [HE2.out]; rfl)
            go_wp2
            go_roundw
            case rel => exact ⟨n + 1, by go_num, by omega, HB1, HF⟩
            case measure => simp [intOf]; omega
        · obtain rfl : n = l.length := by omega
          have HF : Hid (res = false) := Lib.hid (by rw [HE.out, List.drop_length]; rfl)
          go_wp2
          go_ret
          exact ⟨ret_b HF.out.symm, HB.out.below⟩
structure FsS (w : World) (po do_ oo : Obj) (Q : Nat) (ar : ByteArray) (fk fd dk dd : Int) (qs : List RuA) (v : Value) (W : World) : Prop where
  hd : HD w po do_ W
  obox : W.heap[w.heap.size + 2]? = some oo
  qbox : W.heap[Q]? = some (.cells #[.string ar, .int .i64 fk, .int .u64 fd, .int .i64 dk, .int .u64 dd, v] 29 (0, 0))
  own : W.ownsRow (Q + 1) 51 9 v qs.length (cellsU qs)
  all : ∀ r ∈ qs, r.In W (fun g => g < w.heap.size)
  hQ : w.heap.size + 3 ≤ Q
section
variable {w W W' W1 w4 : World} {po do_ oo : Obj} {Q : Nat} {ar : ByteArray} {fk fd dk dd : Int} {qs : List RuA} {v v2 : Value}
theorem FsS.call (h : FsS w po do_ oo Q ar fk fd dk dd qs v W) (hb : Below W.heap.size W W') : FsS w po do_ oo Q ar fk fd dk dd qs v W' :=
  ⟨h.hd.call hb, keepH hb h.obox, keepH hb h.qbox, own_upT h.own hb, fun r hr => (h.all r hr).keep fun g hg hl => ⟨hg, hb.block g hl⟩, h.hQ⟩
theorem FsS.lt (h : FsS w po do_ oo Q ar fk fd dk dd qs v W) : Q < W.heap.size := (Array.getElem?_eq_some_iff.1 h.qbox).1
/-- A write to a block of its own. -/
theorem FsS.set (h : FsS w po do_ oo Q ar fk fd dk dd qs v W) {X : Nat} (hX : Q < X) (hv : v.ownBlock ≠ some X) (j : Nat) (u : Value) : FsS w po do_ oo Q ar fk fd dk dd qs v (W.setCell ⟨X, j, none⟩ u) := by
  have hQ := h.hQ
  have k : ∀ g, g ≠ X → (W.setCell ⟨X, j, none⟩ u).heap[g]? = W.heap[g]? := fun g hg => Below.heap_setCell W ⟨X, j, none⟩ u g hg
  refine ⟨⟨h.hd.below.setCell (show w.heap.size ≤ X by omega) _, (k _ (by omega)).trans h.hd.ebox, (k _ (by omega)).trans h.hd.dbox⟩, (k _ (by omega)).trans h.obox, (k _ (by omega)).trans h.qbox, ?_, fun r hr => (h.all r hr).keep fun g hg _ => ⟨hg, k g (by omega)⟩, hQ⟩
  refine ⟨h.own.1, ?_⟩
  rcases h.own.2 with hn | ⟨g, cp, cur, h1, h2, h3, h4⟩
  · exact Or.inl hn
  · refine Or.inr ⟨g, cp, cur, h1, h2, ?_, h4⟩
    rw [k g (fun e => hv (by rw [h1, e]; rfl))]
    exact h3
theorem FsS.more {x : RuA} (h : FsS w po do_ oo Q ar fk fd dk dd qs v W) (hx : x.In W (fun g => g < w.heap.size))
    (hown : w4.ownsRow (Q + 1) 51 9 v2 (qs.length + 1) (cellsU qs ++ x.cells)) (hg : (W.alloc (.cells x.cells.toArray 51)).grownBy w4 v.ownBlock) :
    FsS w po do_ oo Q ar fk fd dk dd (qs ++ [x]) v2 (w4.setCell ⟨Q, 5, none⟩ v2) := by
  have hge : ∀ k, v.ownBlock = some k → Q < k := fun k hk => own_geT h.own k hk
  have hQ := h.hQ
  have hQl := h.lt
  have key : ∀ g, g < W.heap.size → v.ownBlock ≠ some g → g ≠ Q → (w4.setCell ⟨Q, 5, none⟩ v2).heap[g]? = W.heap[g]? := by
    intro g hgl hn hg0
    exact (Below.heap_setCell w4 ⟨Q, 5, none⟩ v2 g (by show g ≠ Q; omega)).trans ((hg.block g (by rw [World.size_alloc]; omega) (fun e => hn (by first | exact e | exact e.symm))).trans (Below.heap_alloc W _ g hgl))
  refine ⟨⟨?_, ?_, ?_⟩, ?_, ?_, ?_, ?_, hQ⟩
  · refine Below.setCell ?_ (show w.heap.size ≤ Q by omega) _
    exact (below_al h.hd.below _).grown hg (by rw [World.size_alloc]; omega) (fun k hk => by have := hge k hk; omega)
  · exact (key _ (by omega) (fun e => by have := hge _ e; omega) (by omega)).trans h.hd.ebox
  · exact (key _ (by omega) (fun e => by have := hge _ e; omega) (by omega)).trans h.hd.dbox
  · exact (key _ (by omega) (fun e => by have := hge _ e; omega) (by omega)).trans h.obox
  · have := heap_setT (grown_box hg (alloc_box h.qbox _) (fun e => by have := hge _ e; omega)) v2 (j := 5)
    exact this
  · rw [List.length_append, ← cellsU_snoc]; exact own_set hown (by omega) _ _
  · intro r hr
    have k : ∀ g, g < w.heap.size → g < W.heap.size → g < w.heap.size ∧ (w4.setCell ⟨Q, 5, none⟩ v2).heap[g]? = W.heap[g]? := fun g h1 h2 => ⟨h1, key g h2 (fun e => by have := hge _ e; omega) (by omega)⟩
    rcases List.mem_append.1 hr with hr | hr
    · exact (h.all r hr).keep k
    · obtain rfl : r = x := by simpa using hr
      exact hx.keep k
theorem FsS.pol {A : Option Addr} {c : Nat} (h : FsS w po do_ oo Q ar fk fd dk dd qs (.slice A qs.length c) W) : PolA.In W (fun g => g < w.heap.size ∨ Q < g) ⟨ar, fk, fd, dk, dd, A, c, qs⟩ :=
  ⟨RowN.of_own h.own (fun g _ hg => Or.inr (by omega)), fun r hr => (h.all r hr).keep fun g hg _ => ⟨Or.inl hg, rfl⟩⟩
/-- A rule in what came in stays. -/
theorem FsS.keepR {x y : RuA} (h : FsS w po do_ oo Q ar fk fd dk dd qs v W) (hg : (W.alloc (.cells x.cells.toArray 51)).grownBy w4 v.ownBlock) (hy : y.In W (fun g => g < w.heap.size)) :
    y.In (w4.setCell ⟨Q, 5, none⟩ v2) (fun g => g < w.heap.size) := by
  have hge : ∀ k, v.ownBlock = some k → Q < k := fun k hk => own_geT h.own k hk
  have hQ := h.hQ
  exact hy.keep fun g h1 hgl => ⟨h1, (Below.heap_setCell w4 ⟨Q, 5, none⟩ v2 g (by show g ≠ Q; omega)).trans ((hg.block g (by rw [World.size_alloc]; omega) (fun e => by have := hge _ e.symm; omega)).trans (Below.heap_alloc W _ g hgl))⟩
/-- A box that is not the policy's, nor its row, stays. -/
theorem FsS.box {o : Obj} {X : Nat} (h : FsS w po do_ oo Q ar fk fd dk dd qs v W) {x : RuA} (hX : Q < X) (hv : v.ownBlock ≠ some X) (hg : (W.alloc (.cells x.cells.toArray 51)).grownBy w4 v.ownBlock) (hb : W.heap[X]? = some o) :
    (w4.setCell ⟨Q, 5, none⟩ v2).heap[X]? = some o :=
  (Below.heap_setCell w4 ⟨Q, 5, none⟩ v2 X (by show X ≠ Q; omega)).trans (grown_box hg (alloc_box hb _) (fun e => hv (by first | exact e | exact e.symm)))
end
theorem own_capF {w : World} {base : Nat} {e : TypeId} {size n c g : Nat} {xs : List Value} (h : w.ownsRow base e size (.slice (some ⟨g, 0, none⟩) n c) n xs) : n ≤ c := by
  rcases h.2 with ⟨h', _⟩ | ⟨g', cap, cur, h', hb, _, hc, _⟩
  · cases h'
  · injection h' with _ _ h3; omega
/-- Nine cells written, and two of them once more. -/
def put11 (W : World) (X : Nat) (a b c d e f p q r s t : Value) : World := ((set9W W X a b c d e f p q r).setCell ⟨X, 7, none⟩ s).setCell ⟨X, 8, none⟩ t
theorem put11_box {W : World} {X : Nat} {a b c d e f p q r s t a' b' c' d' e' f' p' q' r' : Value} {ty : TypeId} (h : W.heap[X]? = some (.cells #[a', b', c', d', e', f', p', q', r'] ty (0, 0))) : (put11 W X a b c d e f p q r s t).heap[X]? = some (.cells #[a, b, c, d, e, f, p, s, t] ty (0, 0)) := by
  unfold put11
  rw [heap_setT (heap_setT (set9W_box a b c d e f p q r h) s) t]
  simp
theorem put11_other {W : World} {X g : Nat} (hg : g ≠ X) (a b c d e f p q r s t : Value) : (put11 W X a b c d e f p q r s t).heap[g]? = W.heap[g]? := by
  have k : ∀ (V : World) (j : Nat) (u : Value), (V.setCell ⟨X, j, none⟩ u).heap[g]? = V.heap[g]? := fun V j u => Below.heap_setCell V ⟨X, j, none⟩ u g hg
  unfold put11 set9W set6W
  rw [k, k, k, k, k, k, k, k, k, k, k]
theorem FsS.put11 {w W : World} {po do_ oo : Obj} {Q : Nat} {ar : ByteArray} {fk fd dk dd : Int} {qs : List RuA} {v : Value} (h : FsS w po do_ oo Q ar fk fd dk dd qs v W) {X : Nat} (hX : Q < X) (hv : v.ownBlock ≠ some X) (a b c d e f p q r s t : Value) : FsS w po do_ oo Q ar fk fd dk dd qs v (put11 W X a b c d e f p q r s t) := by
  unfold Go.Proofs.Ytebkbcpnjknkjaa.put11 set9W set6W
  exact ((((((((((h.set hX hv _ _).set hX hv _ _).set hX hv _ _).set hX hv _ _).set hX hv _ _).set hX hv _ _).set hX hv _ _).set hX hv _ _).set hX hv _ _).set hX hv _ _).set hX hv _ _
/-- A policy that is copied, and gets its rules. -/
structure RS (wr : World) (ar : ByteArray) (fk fd dk dd : Int) (u : Value) (W : World) : Prop where
  below : Below wr.heap.size wr W
  rbox : W.heap[wr.heap.size]? = some (.cells #[.string ar, .int .i64 fk, .int .u64 fd, .int .i64 dk, .int .u64 dd, u] 29 (0, 0))
section
variable {wr W W' : World} {ar : ByteArray} {fk fd dk dd : Int} {u : Value}
theorem RS.start (wr : World) (ar : ByteArray) (fk fd dk dd : Int) (u : Value) : RS wr ar fk fd dk dd u (wr.alloc (.cells #[.string ar, .int .i64 fk, .int .u64 fd, .int .i64 dk, .int .u64 dd, u] 29)) := ⟨below1 wr _, heap_nwT wr _⟩
theorem RS.call (h : RS wr ar fk fd dk dd u W) (hb : Below W.heap.size W W') : RS wr ar fk fd dk dd u W' := ⟨below_t h.below hb, keepH hb h.rbox⟩
theorem RS.alloc (h : RS wr ar fk fd dk dd u W) (o : Obj) : RS wr ar fk fd dk dd u (W.alloc o) := h.call (below1 W o)
theorem RS.drew (h : RS wr ar fk fd dk dd u W) : RS wr ar fk fd dk dd u W.drew := ⟨below_dr h.below, h.rbox⟩
theorem RS.lt (h : RS wr ar fk fd dk dd u W) : wr.heap.size < W.heap.size := (Array.getElem?_eq_some_iff.1 h.rbox).1
theorem RS.grown (h : RS wr ar fk fd dk dd u W) {row : Option Nat} (hg : W.grownBy W' row) (hr : ∀ k, row = some k → wr.heap.size < k) : RS wr ar fk fd dk dd u W' :=
  ⟨h.below.grown hg (by have := h.lt; omega) (fun k hk => by have := hr k hk; omega), grown_box hg h.rbox (fun e => by have := hr _ e; omega)⟩
theorem RS.set (h : RS wr ar fk fd dk dd u W) (v : Value) : RS wr ar fk fd dk dd v (W.setCell ⟨wr.heap.size, 5, none⟩ v) :=
  ⟨h.below.setCell (show wr.heap.size ≤ wr.heap.size from Nat.le_refl _) _, by have := heap_setT h.rbox v (j := 5); exact this⟩
theorem RS.toS (h : RS wr ar fk fd dk dd u W) {Q : Nat} {v : Value} (hq : wr.cell? ⟨Q, 5, none⟩ = some v) :
    W.cell? ⟨Q, 5, none⟩ = some v ∧ W.cell? ⟨wr.heap.size, 5, none⟩ = some (cellD W ⟨wr.heap.size, 5, none⟩) ∧ W.frozen? ⟨wr.heap.size, 5, none⟩ = false ∧ Below wr.heap.size wr W :=
  ⟨keepC h.below hq, cellD_of (by simp [World.cell?, h.rbox]), by simp [World.frozen?, h.rbox], h.below⟩
end
theorem run_hi (g n c k : Nat) (hk : k ≤ c) (w : World) : (Instr.slice 27 (.slice (some ⟨g, 0, none⟩) n c) none (some (.int .i64 (k : Int))) none).run Try.prog w = .ok (.slice (some ⟨g, 0, none⟩) k c) w := by
  have hs : (sizeOf (Try.prog.elem 27)).run Try.prog w = .ok 9 w := by kernel_rfl
  rw [run_slice_h (P := Try.prog) w 27 (some ⟨g, 0, none⟩) n c (by kernel_rfl) .i64 (k : Int) (by omega) (by omega), hs]
  simp [Result.andThen, sliced, Addr.add]
theorem run_lo (g n c k : Nat) (hk : k ≤ n) (w : World) : (Instr.slice 27 (.slice (some ⟨g, 0, none⟩) n c) (some (.int .i64 (k : Int))) none none).run Try.prog w = .ok (.slice (if c = k then some ⟨g, 0, none⟩ else (some ⟨g, 0, none⟩ : Option Addr).map (·.add (k * 9))) (n - k) (c - k)) w := by
  have hs : (sizeOf (Try.prog.elem 27)).run Try.prog w = .ok 9 w := by kernel_rfl
  rw [run_slice_l (P := Try.prog) w 27 (some ⟨g, 0, none⟩) n c (by kernel_rfl) .i64 (k : Int) (by omega) (by omega), hs]
  simp [Result.andThen, sliced]
theorem lit0U (W : World) (base : Nat) (h : base ≤ W.heap.size) : (W.alloc (.cells #[] 51)).ownsRow base 51 9 (.slice (some ⟨W.heap.size, 0, none⟩) 0 0) 0 [] := World.ownsRow_lit W #[] 0 h (by decide) rfl
theorem cellsU_mem (l : List RuA) : ∀ u ∈ cellsU l, u.oneCell' = true := by
  intro u hu
  simp only [cellsU, List.mem_flatMap] at hu
  obtain ⟨x, _, h⟩ := hu
  exact x.cells_one u h
theorem cellsU_append (l k : List RuA) : cellsU (l ++ k) = cellsU l ++ cellsU k := by simp [cellsU]
theorem cellsU_take (l : List RuA) (k : Nat) : (cellsU l).take (k * 9) = cellsU (l.take k) := by
  induction l generalizing k with
  | nil => simp [cellsU]
  | cons x l ih =>
    cases k with
    | zero => simp [cellsU]
    | succ k =>
      have hl := x.cells_length
      have e : (k + 1) * 9 = x.cells.length + k * 9 := by rw [hl]; omega
      rw [List.take_succ_cons]
      show (x.cells ++ cellsU l).take _ = x.cells ++ cellsU (l.take k)
      rw [e, List.take_length_add_append, ih]
theorem cellsU_drop (l : List RuA) (k : Nat) : (cellsU l).drop (k * 9) = cellsU (l.drop k) := by
  induction l generalizing k with
  | nil => simp [cellsU]
  | cons x l ih =>
    cases k with
    | zero => simp
    | succ k =>
      have hl := x.cells_length
      have e : (k + 1) * 9 = x.cells.length + k * 9 := by rw [hl]; omega
      rw [List.drop_succ_cons]
      show (x.cells ++ cellsU l).drop _ = cellsU (l.drop k)
      rw [e, List.drop_length_add_append, ih]
theorem Ok_firstQ {n : Nat} {l : List RuA} (h : ∀ r ∈ l, r.Ok) : ∀ r ∈ firstQ n l, r.Ok := by
  intro r hr
  unfold firstQ at hr
  cases e : l[n]? with
  | none => rw [e] at hr; exact h r hr
  | some x =>
    rw [e] at hr
    have hx := h x (List.mem_of_getElem? e)
    simp only [List.mem_append, List.mem_cons] at hr
    rcases hr with hr | rfl | rfl | hr
    · exact h r (List.mem_of_mem_take hr)
    · exact ⟨hx.nrs, hx.dd, hx.len, ⟨by simp, trivial⟩⟩
    · exact ⟨hx.nrs, ⟨by simp [traceR], by simp [traceR]⟩, hx.len, hx.fits⟩
    · exact h r (List.mem_of_mem_drop hr)
def gF (rs : List RuA) (f : Nat) (x : Int) : Bool := decide ((f : Int) ≤ x) || asksR x rs
theorem mix_start (rs : List RuA) (d o : D9) : mixD (gF rs 0) d o = d := by simp [mixD, gF]
theorem mix_asked {rs : List RuA} {f : Nat} (h : asksR f rs = true) (d o : D9) : mixD (gF rs (f + 1)) d o = mixD (gF rs f) d o := by
  have e : gF rs (f + 1) = gF rs f := by
    funext x
    unfold gF
    by_cases hx : x = f
    · subst hx; rw [h]; simp
    · congr 1
      rw [decide_eq_decide]
      omega
  rw [e]
theorem mix_other {rs : List RuA} {f : Nat} (h : asksR f rs = false) (hf : f < 6) (d o : D9) : (mixD (gF rs (f + 1)) d o).cells.toArray = (mixD (gF rs f) d o).cells.toArray.setIfInBounds (3 + f) (.int .u64 (o.args.getD f 0)) := by
  have : f = 0 ∨ f = 1 ∨ f = 2 ∨ f = 3 ∨ f = 4 ∨ f = 5 := by omega
  rcases this with rfl | rfl | rfl | rfl | rfl | rfl <;> simp [mixD, gF, D9.cells, D9.args] <;> (simp at h; simp [h])
theorem asksR_take {f : Int} {l : List RuA} {n : Nat} {x : RuA} (h : l[n]? = some x) : asksR f (l.take (n + 1)) = (asksR f (l.take n) || asksP f x.when_) := by
  have hn := (List.getElem?_eq_some_iff.1 h).1
  rw [List.getElem?_eq_getElem hn] at h
  injection h with h
  unfold asksR
  rw [List.take_succ_eq_append_getElem hn, List.any_append, h]
  simp
end Go.Proofs.Ytebkbcpnjknkjaa
