import Derived.Test.YtalhjbncloobpaaMirHead
import Derived.Test.YtalhjbncloobpaaMirStore
import Derived.Test.YtalhjbncloobpaaMirFieldsP
set_option linter.unusedVariables false
set_option linter.unusedSimpArgs false
namespace Go.Proofs.Ytalhjbncloobpaa
open Go.RowKit Go.ChangeShapes Go.WideShapes Go.ChangeAt
open Go.ChangeMaps (open_string shut_string)
/-! MirFields. -/
def SF (w : World) (regs : Int) (A : Option Addr) (n cap : Nat) (W : World) : Prop :=
  W.cell? ⟨w.heap.size, 0, none⟩ = some (.int .i64 regs) ∧ W.cell? ⟨w.heap.size, 1, none⟩ = some (.slice A n cap) ∧ Below w.heap.size w W ∧ w.heap.size + 1 ≤ W.heap.size
section
variable {w W W1 : World} {regs : Int} {A : Option Addr} {n cap : Nat}
theorem SF.on (h : SF w regs A n cap W) (hb : Below (w.heap.size + 1) W W1) : SF w regs A n cap W1 := by
  obtain ⟨h1, h2, h7, h8⟩ := h
  exact ⟨(hb.cell (p := ⟨w.heap.size, 0, none⟩) (by simp)).trans h1, (hb.cell (p := ⟨w.heap.size, 1, none⟩) (by simp)).trans h2, h7.trans (below_of hb (by omega)), Nat.le_trans h8 hb.size⟩
theorem SF.al (h : SF w regs A n cap W) (o : Obj) : SF w regs A n cap (W.alloc o) := h.on ((Below.refl _ _).alloc h.2.2.2 o)
theorem SF.dr (h : SF w regs A n cap W) : SF w regs A n cap W.drew := ⟨h.1, h.2.1, below_dr h.2.2.1, h.2.2.2⟩
theorem SF.grown2 {row : Option Nat} (h : SF w regs A n cap W) (hg : W.grownBy W1 row) (hk : ∀ k, row = some k → w.heap.size + 1 ≤ k) : SF w regs A n cap W1 :=
  h.on (below_gr (Below.refl _ _) hg h.2.2.2 hk)
theorem SF.set (h : SF w regs A n cap W) (b o : Nat) (u : Value) (hb : w.heap.size + 1 ≤ b) : SF w regs A n cap (W.setCell ⟨b, o, none⟩ u) :=
  h.on ((Below.refl _ _).setCell (p := ⟨b, o, none⟩) hb u)
theorem SF.c (h : SF w regs A n cap W) : W.cell? ⟨w.heap.size, 0, none⟩ = some (.int .i64 regs) ∧ W.cell? ⟨w.heap.size, 1, none⟩ = some (.slice A n cap) ∧ Below w.heap.size w W ∧ w.heap.size + 1 ≤ W.heap.size := h
end
theorem own_base {w : World} {b b' : Nat} {e : TypeId} {size n : Nat} {v : Value} {xs : List Value} (h : w.ownsRow b e size v n xs) (hb : b' ≤ b) : w.ownsRow b' e size v n xs := by
  refine ⟨h.1, ?_⟩
  rcases h.2 with h' | ⟨g, cap, cur, h1, h2, h3⟩
  · exact .inl h'
  · exact .inr ⟨g, cap, cur, h1, by omega, h3⟩
theorem own_form {w : World} {base n : Nat} {e : TypeId} {size : Nat} {v : Value} {xs : List Value} (h : w.ownsRow base e size v n xs) (hv : v ≠ .slice none 0 0) : ∃ g cap, v = .slice (some ⟨g, 0, none⟩) n cap ∧ base ≤ g ∧ g < w.heap.size ∧ ∃ cur, w.heap[g]? = some (.cells cur e (0, 0)) := by
  rcases h.2 with ⟨h', _⟩ | ⟨g, cap, cur, h1, h2, h3, _⟩
  · exact absurd h' hv
  · exact ⟨g, cap, h1, h2, (Array.getElem?_eq_some_iff.1 h3).1, cur, h3⟩
def VarAt (W : World) (P : Nat) : Prop := W.heap[P]? = some (.cells #[.int .i64 0, .slice none 0 0] 25 (0, 0))
theorem VarAt.facts {W : World} {P : Nat} (h : VarAt W P) : W.cell? ⟨P, 0, none⟩ = some (.int .i64 0) ∧ W.cell? ⟨P, 1, none⟩ = some (.slice none 0 0) ∧ W.frozen? ⟨P, 0, none⟩ = false ∧ W.frozen? ⟨P, 1, none⟩ = false := by
  unfold VarAt at h
  refine ⟨?_, ?_, ?_, ?_⟩ <;> simp [World.cell?, World.frozen?, h]
theorem VarAt.grown {W W1 : World} {P : Nat} {row : Option Nat} (h : VarAt W P) (hg : W.grownBy W1 row) (hP : P < W.heap.size) (hne : row ≠ some P) : VarAt W1 P :=
  (hg.block P hP (fun e => hne e.symm)).trans h
theorem VarAt.new (W : World) : VarAt (W.alloc (.cells #[.int .i64 0, .slice none 0 0] 25)) W.heap.size := heap_alloc_new W _
theorem VarAt.al {W : World} {P : Nat} (h : VarAt W P) (hP : P < W.heap.size) (o : Obj) : VarAt (W.alloc o) P := ((below1 W o).block P hP).trans h
theorem var_last {W W1 : World} {e : Obj} (hg : ((W.alloc e).alloc (.cells #[.int .i64 0, .slice none 0 0] 25)).drew.grownBy W1 (some W.heap.size)) : VarAt W1 (W.heap.size + 1) := by
  have h := VarAt.grown (W := ((W.alloc e).alloc (.cells #[.int .i64 0, .slice none 0 0] 25)).drew) (P := (W.alloc e).heap.size) (VarAt.new (W.alloc e)) hg (by show _ < ((W.alloc e).alloc _).heap.size; simp) (by simp)
  rwa [World.size_alloc] at h
theorem var_first {W W1 : World} {e : Obj} (hg : ((W.alloc (.cells #[.int .i64 0, .slice none 0 0] 25)).alloc e).drew.grownBy W1 (some (W.heap.size + 1))) : VarAt W1 W.heap.size :=
  VarAt.grown (W := ((W.alloc (.cells #[.int .i64 0, .slice none 0 0] 25)).alloc e).drew) ((VarAt.new W).al (by simp) e) hg (by show _ < ((W.alloc _).alloc e).heap.size; simp; omega) (by simp)
theorem VarAt.ne {w : World} {P g : Nat} (h : VarAt w P) (hg : ∃ cur, w.heap[g]? = some (.cells cur 34 (0, 0))) : g ≠ P := by
  rintro rfl
  obtain ⟨cur, hc⟩ := hg
  unfold VarAt at h
  rw [hc] at h
  injection h with h
  injection h with _ h _
  exact absurd h (by decide)
theorem own_set2 {w : World} {base g n cap : Nat} {e : TypeId} {size : Nat} {xs : List Value} (h : w.ownsRow base e size (.slice (some ⟨g, 0, none⟩) n cap) n xs) (b o : Nat) (u : Value) (hb : g ≠ b) : (w.setCell ⟨b, o, none⟩ u).ownsRow base e size (.slice (some ⟨g, 0, none⟩) n cap) n xs :=
  h.kept (row := some b) ⟨rfl, rfl, rfl, by simp [World.setCell], fun k _ hk => Below.heap_setCell _ _ _ k (fun e => hk (by rw [e]))⟩ (.inr (fun e => hb (by simpa [Value.ownBlock] using e)))
theorem put_new {w w1 : World} {regs : Int} {A : Option Addr} {n cap g cap2 base : Nat} {q : List R7} (hs : SF w regs A n cap w1) (hq : ∀ y ∈ q, y.ok) (ho : w1.ownsRow (w.heap.size + 1) 34 7 (.slice (some ⟨g, 0, none⟩) q.length cap2) q.length (cellsR q)) (t : TypeId) :
    PutRel w regs g cap2 w1.heap.size q (w1.alloc (.cells #[.int .i64 regs, .slice (some ⟨g, 0, none⟩) q.length cap2] t)) :=
  ⟨hq, own_base (ho.alloc _) (by omega), below_al hs.2.2.1 _, by simp [go_sem], by simp [go_sem]⟩
theorem put_old {w w1 : World} {regs : Int} {A : Option Addr} {n cap g cap2 P : Nat} {q : List R7} (hs : SF w regs A n cap w1) (hq : ∀ y ∈ q, y.ok) (ho : w1.ownsRow (w.heap.size + 1) 34 7 (.slice (some ⟨g, 0, none⟩) q.length cap2) q.length (cellsR q)) (hP : VarAt w1 P) (hne : g ≠ P) (hwP : w.heap.size ≤ P) :
    PutRel w regs g cap2 P q ((w1.setCell ⟨P, 0, none⟩ (.int .i64 regs)).setCell ⟨P, 1, none⟩ (.slice (some ⟨g, 0, none⟩) q.length cap2)) := by
  obtain ⟨p1, p2, _, _⟩ := hP.facts
  refine ⟨hq, own_base (own_set2 (own_set2 ho _ _ _ hne) _ _ _ hne) (by omega), (hs.2.2.1.setCell (p := ⟨P, 0, none⟩) hwP _).setCell (p := ⟨P, 1, none⟩) hwP _, ?_, ?_⟩
  · rw [World.cell?_setCell_other _ _ _ _ (by simp)]; exact World.cell?_setCell_same _ _ _ p1
  · exact World.cell?_setCell_same _ _ _ ((World.cell?_setCell_other _ _ _ _ (by simp)).trans p2)
theorem MRun_n (A : Option Addr) (regs : Int) (cap : Nat) (q : List R7) (N : Nat) (hN : q.length = N) (Ad : Option Addr) (capd : Nat) (dat : List Int) (hq : ∀ x ∈ q, x.ok) (hn : N ≤ 9223372036854775807) (hdok : ∀ x ∈ dat, 0 ≤ x ∧ x < 256) (hdn : dat.length ≤ 9223372036854775807) (w : World)
    (hr : Reads w w.heap.size 7 A N (cellsR q)) (hrd : Reads w w.heap.size 1 Ad dat.length (numV .u8 dat)) :
    Calls Try.prog 31 #[.agg #[.int .i64 regs, .slice A N cap], .slice Ad dat.length capd] w (RunPost w (runP regs q dat)) := by
  subst hN; exact MRun_c A regs cap q Ad capd dat hq hn hdok hdn w hr hrd
theorem sf_old {w w1 : World} {regs : Int} {A : Option Addr} {n cap P : Nat} (hs : SF w regs A n cap w1) (hwP : w.heap.size + 1 ≤ P) (u v : Value) : SF w regs A n cap ((w1.setCell ⟨P, 0, none⟩ u).setCell ⟨P, 1, none⟩ v) := (hs.set P 0 u hwP).set P 1 v hwP
def putsR (x : R7) (l : List (Nat × Int)) : R7 := l.foldl (fun x p => x.put p.1 p.2) x
def setAll (W : World) (g k : Nat) (l : List (Nat × Int)) : World := l.foldl (fun W p => W.setCell ⟨g, k * 7 + p.1, none⟩ (.int (kindOf p.1) p.2)) W
theorem PutRel.puts {w wr : World} {regs : Int} {g cap P : Nat} {L : List R7} {k : Nat} {x : R7} (l : List (Nat × Int)) (h : PutRel w regs g cap P L wr) (hx : L[k]? = some x) (hl : ∀ p ∈ l, p.1 < 7 ∧ ∀ y : R7, y.ok → (y.put p.1 p.2).ok) (hxo : x.ok) (hg : w.heap.size ≤ g) (hP : g ≠ P) :
    PutRel w regs g cap P (L.set k (putsR x l)) (setAll wr g k l) := by
  induction l generalizing L wr x with
  | nil =>
    have : L.set k x = L := by
      apply List.ext_getElem?
      intro i
      by_cases hi : i = k
      · subst hi; rw [List.getElem?_set_self (List.getElem?_eq_some_iff.1 hx).1, hx]
      · rw [List.getElem?_set_ne (fun e => hi e.symm)]
    simpa [putsR, setAll, this] using h
  | cons p l ih =>
    obtain ⟨hm, hy⟩ := hl p (by simp)
    have h1 := h.put hx p.1 hm p.2 (hy x hxo) hg hP
    have h2 := ih h1 (x := x.put p.1 p.2) (by rw [List.getElem?_set_self (List.getElem?_eq_some_iff.1 hx).1]) (fun q hq => hl q (by simp [hq])) (hy x hxo)
    rw [List.set_set] at h2
    exact h2
theorem SF.setAll {w W : World} {regs : Int} {A : Option Addr} {n cap : Nat} (h : SF w regs A n cap W) (g k : Nat) (l : List (Nat × Int)) (hg : w.heap.size + 1 ≤ g) : SF w regs A n cap (setAll W g k l) := by
  induction l generalizing W with
  | nil => exact h
  | cons p l ih => exact ih (h.set g _ _ hg)
theorem put_ok (m : Nat) (hm : m < 7) (h4 : m ≠ 4) (n : Int) (hn : inI64 n) (y : R7) (h : y.ok) : (y.put m n).ok := by
  obtain ⟨h1, h2, h3, h4', h5, h6, h7⟩ := h
  match m, hm, h4 with
  | 0, _, _ => exact ⟨hn, h2, h3, h4', h5, h6, h7⟩
  | 1, _, _ => exact ⟨h1, hn, h3, h4', h5, h6, h7⟩
  | 2, _, _ => exact ⟨h1, h2, hn, h4', h5, h6, h7⟩
  | 3, _, _ => exact ⟨h1, h2, h3, hn, h5, h6, h7⟩
  | 5, _, _ => exact ⟨h1, h2, h3, h4', h5, hn, h7⟩
  | 6, _, _ => exact ⟨h1, h2, h3, h4', h5, h6, hn⟩
theorem put_ok4 (n : Int) (y : R7) (h : y.ok) : (y.put 4 (n % 4294967296)).ok := by
  obtain ⟨h1, h2, h3, h4', h5, h6, h7⟩ := h
  exact ⟨h1, h2, h3, h4', ⟨Int.emod_nonneg _ (by decide), Int.emod_lt_of_pos _ (by decide)⟩, h6, h7⟩
def half (n : Int) (q : List R7) (k : Nat) : List R7 := (q.take k).map (blankR n) ++ q.drop k
theorem half_len (n : Int) (q : List R7) (k : Nat) : (half n q k).length = q.length := by simp [half]; omega
theorem half_get (n : Int) (q : List R7) (k : Nat) (x : R7) (h : q[k]? = some x) : (half n q k)[k]? = some x := by
  have hk := (List.getElem?_eq_some_iff.1 h).1
  unfold half
  rw [List.getElem?_append_right (by simp; omega)]
  simp only [List.length_map, List.length_take, Nat.min_eq_left (Nat.le_of_lt hk), Nat.sub_self, List.getElem?_drop, Nat.add_zero]
  exact h
theorem half_set (n : Int) (q : List R7) (k : Nat) (x : R7) (h : q[k]? = some x) : (half n q k).set k (blankR n x) = half n q (k + 1) := by
  obtain ⟨hk, hx⟩ := List.getElem?_eq_some_iff.1 h
  unfold half
  rw [List.set_append, if_neg (by simp; omega)]
  simp only [List.length_map, List.length_take, Nat.min_eq_left (Nat.le_of_lt hk), Nat.sub_self]
  rw [List.drop_eq_getElem_cons hk, List.set_cons_zero, List.take_succ_eq_append_getElem hk, List.map_append, hx]
  simp
theorem half_all (n : Int) (q : List R7) (k : Nat) (h : q.length ≤ k) : half n q k = q.map (blankR n) := by
  unfold half
  rw [List.take_of_length_le h, List.drop_of_length_le h, List.append_nil]
set_option maxRecDepth 100000 in
set_option maxHeartbeats 3200000 in
theorem MirFields_w (regs : Int) (A : Option Addr) (cap : Nat) (q : List R7) (n : Int) (A1 : Option Addr) (cap1 : Nat) (dat : List Int) (w : World) (hg : inI64 regs) (hq : ∀ x ∈ q, x.ok) (hc : q.length ≤ cap) (hA : A = none → cap = 0) (hB : q.length * 56 ≤ 140737488351232) (hr : Reads w w.heap.size 7 A q.length (cellsR q)) (hn : -9223372036854775808 ≤ n ∧ n ≤ 9223372036854775807)
    (hq1 : ∀ x ∈ dat, 0 ≤ x ∧ x < 256) (hc1 : dat.length ≤ cap1) (hA1 : A1 = none → cap1 = 0) (hB1 : dat.length * 1 ≤ 140737488351232) (hr1 : Reads w w.heap.size 1 A1 dat.length (numV .u8 dat)) :
    Calls Try.prog 9 #[.agg #[.int .i64 regs, .slice A q.length cap], .int .i64 n, .slice A1 dat.length cap1] w fun e w' => e = .returned (.bool true) ∧ Below w.heap.size w w' := by
  have HR := Lib.hid hr
  have HQ := Lib.hid hq
  have HR1 := Lib.hid hr1
  have HQ1 := Lib.hid hq1
  have HA := Lib.hid hA
  have HNN := Lib.hid hn
  clear hr hq hA hr1 hq1 hA1 hn hg
  obtain ⟨i0, HI⟩ : ∃ i0, Hid (Try.prog.info? 34 = some i0 ∧ i0.zero = some (.agg #[.int .i64 0, .int .i64 0, .int .i64 0, .int .i64 0, .int .u32 0, .int .i64 0, .int .i64 0]) ∧ i0.size = 7 ∧ i0.bytes = 56) := by
    obtain ⟨i0, hi, hz0, hz1, hz2⟩ := info_parts infoR
    exact ⟨i0, Lib.hid ⟨hi, hz0, hz1, hz2⟩⟩
  go_enter Try.func9, Try.ntmps9
  go_wp2_with fail
  refine (Head12_c _).mono ?_
  rintro e W0 ⟨rfl, hb1⟩
  have hS0 : SF w regs A q.length cap W0 := ⟨keepC hb1 (by simp [go_sem]), keepC hb1 (by simp [go_sem]), below_t (below1 w _) hb1, by have := hb1.size; simpa using this⟩
  have HS := Lib.hid hS0
  have HZ := Lib.hid hS0.2.2.2
  have hz1 := hS0.2.2.2
  clear hS0 hb1
  go_wp2_with fail
  go_region_held3 (fun W => W.cell? ⟨w.heap.size, 0, none⟩ = some (.int .i64 regs) ∧ W.cell? ⟨w.heap.size, 1, none⟩ = some (.slice A q.length cap) ∧ Below w.heap.size w W ∧ w.heap.size + 1 ≤ W.heap.size)
    ((refine SF.c ?_; with_reducible (repeat (first | exact HS.out | exact hs1 | apply SF.al | apply SF.dr | (refine SF.set ?_ _ _ _ (by omega))))))
    (first
     | ((refine step_app rfl (.tmp 27) (.tmp 29) 23 rfl (w.heap.size + 1) 34 i0 _ 7 56 Try.underlying23 HI.out.1 HI.out.2.1 HI.out.2.2.1 HI.out.2.2.2 rfl (by decide) _ 0 [] rfl (by first | exact lit0 W0 _ HZ.out | exact (lit0 W0 _ HZ.out).alloc _ | exact lit1 W0 _ _ HZ.out) A w.heap.size q.length cap (cellsR q) rfl HA.out (HR.out.below (by first | exact below_dr (below_al HS.out.2.2.1 _) | exact below_dr (below_al (below_al HS.out.2.2.1 _) _))) (cellsR_one q) (by simp only [maxLen]; omega) (by omega) (by have := HZ.out; simp at this ⊢; omega) ?_; intro v1 w1 hown1 hg1 hnil; have hs1 : SF w regs A q.length cap w1 := (by first | exact (HS.out.al _).dr.grown2 hg1 (fun k hk => by have hk2 := Option.some.inj hk; have := HZ.out; simp at hk2; omega) | exact ((HS.out.al _).al _).dr.grown2 hg1 (fun k hk => by have hk2 := Option.some.inj hk; have := HZ.out; simp at hk2; omega)); have hz2 : w.heap.size + 1 ≤ w1.heap.size := hs1.2.2.2; (first | (have hp := var_last hg1; obtain ⟨p1, p2, p3, p4⟩ := hp.facts) | (have hp := var_first hg1; obtain ⟨p1, p2, p3, p4⟩ := hp.facts) | skip); (simp only [Nat.zero_add, List.nil_append] at hown1); obtain ⟨g, cap2, hv1, hge, hlt, hcur⟩ := own_form hown1 (fun e => by have := (hnil.1 e).1; cases this); subst hv1; clear hg1 hnil)))
  all_goals (
    rename_i hHeld
    clear hHeld
    first
    | (have hgP : g ≠ W0.heap.size + 1 := hp.ne hcur
       have hput := put_old hs1 HQ.out hown1 hp hgP (by omega)
       have hSF := sf_old hs1 (P := W0.heap.size + 1) (by omega) (.int .i64 regs) (.slice (some ⟨g, 0, none⟩) q.length cap2)
       clear p1 p2 p3 p4 hp
       generalize hPP : W0.heap.size + 1 = P at hgP hput hSF ⊢
       generalize hW3 : (w1.setCell ⟨P, 0, none⟩ (.int .i64 regs)).setCell ⟨P, 1, none⟩ (.slice (some ⟨g, 0, none⟩) q.length cap2) = W3 at hput hSF ⊢
       clear hW3 hPP)
    | (have hgP : g ≠ W0.heap.size := hp.ne hcur
       have hput := put_old hs1 HQ.out hown1 hp hgP (by omega)
       have hSF := sf_old hs1 (P := W0.heap.size) (by omega) (.int .i64 regs) (.slice (some ⟨g, 0, none⟩) q.length cap2)
       clear p1 p2 p3 p4 hp
       generalize hPP : W0.heap.size = P at hgP hput hSF ⊢
       generalize hW3 : (w1.setCell ⟨P, 0, none⟩ (.int .i64 regs)).setCell ⟨P, 1, none⟩ (.slice (some ⟨g, 0, none⟩) q.length cap2) = W3 at hput hSF ⊢
       clear hW3 hPP)
    | (have hgP : g ≠ w1.heap.size := by omega
       have hput := put_new (base := 0) hs1 HQ.out hown1 25
       have hSF := hs1.al (.cells #[.int .i64 regs, .slice (some ⟨g, 0, none⟩) q.length cap2] 25)
       generalize hW3 : w1.alloc (.cells #[.int .i64 regs, .slice (some ⟨g, 0, none⟩) q.length cap2] 25) = W3 at hput hSF ⊢
       generalize hPP : w1.heap.size = P at hgP hput hSF ⊢
       clear hW3 hPP)
    have H0 := Lib.hid hput
    have HS0 := Lib.hid hSF
    clear hput hSF hown1 hcur hs1 hz2 hz1 HZ HS HI hlt
    go_wp2_with fail
    go_loopw [9] (fun i wr => ∃ k : Nat, k ≤ q.length ∧ i = .int .i64 k ∧ Hid (PutRel w regs g cap2 P (half n q k) wr) ∧ Hid (SF w regs A q.length cap wr)) (fun i _ => q.length - (intOf i).toNat)
    case atStart => exact ⟨0, by omega, rfl, by simpa [half] using H0, HS0⟩
    case round =>
      obtain ⟨k, hk, rfl, hr, hs⟩ := hrel
      have c0 := hr.out.2.2.2.1
      have c1 := hr.out.2.2.2.2
      rw [half_len] at c1
      have b0 := hs.out.1
      have b1 := hs.out.2.1
      by_cases hkn : k < q.length
      · obtain ⟨x, hx⟩ : ∃ x, q[k]? = some x := ⟨_, List.getElem?_eq_getElem hkn⟩
        have hxh := half_get n q k x hx
        have hset := half_set n q k x hx
        have hf := hr.out.frozen
        have hkn' : (k : Int) < q.length := by omega
        have g0 := hr.out.get hxh 0 (by omega)
        have g1 := hr.out.get hxh 1 (by omega)
        have g2 := hr.out.get hxh 2 (by omega)
        have g3 := hr.out.get hxh 3 (by omega)
        have g4 := hr.out.get hxh 4 (by omega)
        have g5 := hr.out.get hxh 5 (by omega)
        have g6 := hr.out.get hxh 6 (by omega)
        have HPUT := Lib.hid (fun l hl => hr.out.puts l hxh hl (HQ.out x (List.mem_of_getElem? hx)) (by omega) hgP)
        have HSET := Lib.hid (fun l => hs.out.setAll g k l (by omega))
        have HH := Lib.hid hset
        clear hset hxh hx H0 HS0
        obtain ⟨o, d, a, b, kk, t, f⟩ := x
        change _ = some (Value.int .i64 o) at g0
        change _ = some (Value.int .i64 d) at g1
        change _ = some (Value.int .i64 a) at g2
        change _ = some (Value.int .i64 b) at g3
        change _ = some (Value.int .u32 kk) at g4
        change _ = some (Value.int .i64 t) at g5
        change _ = some (Value.int .i64 f) at g6
        rw [Nat.add_zero] at g0
        go_wp2_with fail
        refine (Names_c o wr).mono ?_
        rintro e w' ⟨rfl, rfl⟩
        by_cases hc0 : o = 1
        · skip
          have eD : shD o = true := by simp [shD]; omega
          have eA : shA o = false := by simp [shA]; omega
          have eB : shB o = false := by simp [shB]; omega
          have eT : shT o = false := by simp [shT]; omega
          have eF : shF o = false := by simp [shF]; omega
          have HL := Lib.hid (show PutRel w regs g cap2 P (half n q (k + 1)) (setAll wr g k [(2, n), (3, n), (5, n), (6, n)]) from by
            have hh := HPUT.out [(2, n), (3, n), (5, n), (6, n)] (by
              intro p hp
              simp only [List.mem_cons, List.mem_nil_iff, or_false] at hp
              rcases hp with rfl | rfl | rfl | rfl
              all_goals first | exact ⟨by dsimp only; omega, fun y hy => put_ok _ (by dsimp only; omega) (by dsimp only; omega) n HNN.out y hy⟩ | exact ⟨by dsimp only; omega, fun y hy => put_ok4 n y hy⟩)
            rw [← HH.out]
            have ek : (if o ≠ 1 ∧ o ≠ 3 then n % 4294967296 else kk) = kk := by rw [if_neg (by omega)]
            have eb : putsR ⟨o, d, a, b, kk, t, f⟩ [(2, n), (3, n), (5, n), (6, n)] = blankR n ⟨o, d, a, b, kk, t, f⟩ := by simp only [blankR, eD, eA, eB, eT, eF, ek]; rfl
            rw [eb] at hh; exact hh)
          have HT := Lib.hid (HSET.out [(2, n), (3, n), (5, n), (6, n)])
          have t1 : (o != 1) = false := by simp; omega
          unfold namesV
          rw [eD, eA, eB, eT, eF]
          clear eD eA eB eT eF HPUT HSET HH
          go_wp2
          go_roundw
          case rel => exact ⟨k + 1, by omega, by go_num, HL, HT⟩
          case measure => simp [intOf]; omega
        by_cases hc1 : o = 3
        · skip
          have eD : shD o = true := by simp [shD]; omega
          have eA : shA o = false := by simp [shA]; omega
          have eB : shB o = false := by simp [shB]; omega
          have eT : shT o = false := by simp [shT]; omega
          have eF : shF o = false := by simp [shF]; omega
          have HL := Lib.hid (show PutRel w regs g cap2 P (half n q (k + 1)) (setAll wr g k [(2, n), (3, n), (5, n), (6, n)]) from by
            have hh := HPUT.out [(2, n), (3, n), (5, n), (6, n)] (by
              intro p hp
              simp only [List.mem_cons, List.mem_nil_iff, or_false] at hp
              rcases hp with rfl | rfl | rfl | rfl
              all_goals first | exact ⟨by dsimp only; omega, fun y hy => put_ok _ (by dsimp only; omega) (by dsimp only; omega) n HNN.out y hy⟩ | exact ⟨by dsimp only; omega, fun y hy => put_ok4 n y hy⟩)
            rw [← HH.out]
            have ek : (if o ≠ 1 ∧ o ≠ 3 then n % 4294967296 else kk) = kk := by rw [if_neg (by omega)]
            have eb : putsR ⟨o, d, a, b, kk, t, f⟩ [(2, n), (3, n), (5, n), (6, n)] = blankR n ⟨o, d, a, b, kk, t, f⟩ := by simp only [blankR, eD, eA, eB, eT, eF, ek]; rfl
            rw [eb] at hh; exact hh)
          have HT := Lib.hid (HSET.out [(2, n), (3, n), (5, n), (6, n)])
          have t1 : (o != 1) = true := by simp; omega
          have t3 : (o != 3) = false := by simp; omega
          unfold namesV
          rw [eD, eA, eB, eT, eF]
          clear eD eA eB eT eF HPUT HSET HH
          go_wp2
          go_roundw
          case rel => exact ⟨k + 1, by omega, by go_num, HL, HT⟩
          case measure => simp [intOf]; omega
        by_cases hc2 : o = 2 ∨ o = 13
        · skip
          have eD : shD o = true := by simp [shD]; omega
          have eA : shA o = true := by simp [shA]; omega
          have eB : shB o = false := by simp [shB]; omega
          have eT : shT o = false := by simp [shT]; omega
          have eF : shF o = false := by simp [shF]; omega
          have HL := Lib.hid (show PutRel w regs g cap2 P (half n q (k + 1)) (setAll wr g k [(3, n), (5, n), (6, n), (4, n % 4294967296)]) from by
            have hh := HPUT.out [(3, n), (5, n), (6, n), (4, n % 4294967296)] (by
              intro p hp
              simp only [List.mem_cons, List.mem_nil_iff, or_false] at hp
              rcases hp with rfl | rfl | rfl | rfl
              all_goals first | exact ⟨by dsimp only; omega, fun y hy => put_ok _ (by dsimp only; omega) (by dsimp only; omega) n HNN.out y hy⟩ | exact ⟨by dsimp only; omega, fun y hy => put_ok4 n y hy⟩)
            rw [← HH.out]
            have ek : (if o ≠ 1 ∧ o ≠ 3 then n % 4294967296 else kk) = n % 4294967296 := by rw [if_pos (by omega)]
            have eb : putsR ⟨o, d, a, b, kk, t, f⟩ [(3, n), (5, n), (6, n), (4, n % 4294967296)] = blankR n ⟨o, d, a, b, kk, t, f⟩ := by simp only [blankR, eD, eA, eB, eT, eF, ek]; rfl
            rw [eb] at hh; exact hh)
          have HT := Lib.hid (HSET.out [(3, n), (5, n), (6, n), (4, n % 4294967296)])
          have t1 : (o != 1) = true := by simp; omega
          have t3 : (o != 3) = true := by simp; omega
          unfold namesV
          rw [eD, eA, eB, eT, eF]
          clear eD eA eB eT eF HPUT HSET HH
          go_wp2
          go_roundw
          case rel => exact ⟨k + 1, by omega, by go_num, HL, HT⟩
          case measure => simp [intOf]; omega
        by_cases hc3 : 4 ≤ o ∧ o ≤ 12
        · skip
          have eD : shD o = true := by simp [shD]; omega
          have eA : shA o = true := by simp [shA]; omega
          have eB : shB o = true := by simp [shB]; omega
          have eT : shT o = false := by simp [shT]; omega
          have eF : shF o = false := by simp [shF]; omega
          have HL := Lib.hid (show PutRel w regs g cap2 P (half n q (k + 1)) (setAll wr g k [(5, n), (6, n), (4, n % 4294967296)]) from by
            have hh := HPUT.out [(5, n), (6, n), (4, n % 4294967296)] (by
              intro p hp
              simp only [List.mem_cons, List.mem_nil_iff, or_false] at hp
              rcases hp with rfl | rfl | rfl
              all_goals first | exact ⟨by dsimp only; omega, fun y hy => put_ok _ (by dsimp only; omega) (by dsimp only; omega) n HNN.out y hy⟩ | exact ⟨by dsimp only; omega, fun y hy => put_ok4 n y hy⟩)
            rw [← HH.out]
            have ek : (if o ≠ 1 ∧ o ≠ 3 then n % 4294967296 else kk) = n % 4294967296 := by rw [if_pos (by omega)]
            have eb : putsR ⟨o, d, a, b, kk, t, f⟩ [(5, n), (6, n), (4, n % 4294967296)] = blankR n ⟨o, d, a, b, kk, t, f⟩ := by simp only [blankR, eD, eA, eB, eT, eF, ek]; rfl
            rw [eb] at hh; exact hh)
          have HT := Lib.hid (HSET.out [(5, n), (6, n), (4, n % 4294967296)])
          have t1 : (o != 1) = true := by simp; omega
          have t3 : (o != 3) = true := by simp; omega
          unfold namesV
          rw [eD, eA, eB, eT, eF]
          clear eD eA eB eT eF HPUT HSET HH
          go_wp2
          go_roundw
          case rel => exact ⟨k + 1, by omega, by go_num, HL, HT⟩
          case measure => simp [intOf]; omega
        by_cases hc4 : o = 14
        · skip
          have eD : shD o = false := by simp [shD]; omega
          have eA : shA o = false := by simp [shA]; omega
          have eB : shB o = false := by simp [shB]; omega
          have eT : shT o = true := by simp [shT]; omega
          have eF : shF o = false := by simp [shF]; omega
          have HL := Lib.hid (show PutRel w regs g cap2 P (half n q (k + 1)) (setAll wr g k [(1, n), (2, n), (3, n), (6, n), (4, n % 4294967296)]) from by
            have hh := HPUT.out [(1, n), (2, n), (3, n), (6, n), (4, n % 4294967296)] (by
              intro p hp
              simp only [List.mem_cons, List.mem_nil_iff, or_false] at hp
              rcases hp with rfl | rfl | rfl | rfl | rfl
              all_goals first | exact ⟨by dsimp only; omega, fun y hy => put_ok _ (by dsimp only; omega) (by dsimp only; omega) n HNN.out y hy⟩ | exact ⟨by dsimp only; omega, fun y hy => put_ok4 n y hy⟩)
            rw [← HH.out]
            have ek : (if o ≠ 1 ∧ o ≠ 3 then n % 4294967296 else kk) = n % 4294967296 := by rw [if_pos (by omega)]
            have eb : putsR ⟨o, d, a, b, kk, t, f⟩ [(1, n), (2, n), (3, n), (6, n), (4, n % 4294967296)] = blankR n ⟨o, d, a, b, kk, t, f⟩ := by simp only [blankR, eD, eA, eB, eT, eF, ek]; rfl
            rw [eb] at hh; exact hh)
          have HT := Lib.hid (HSET.out [(1, n), (2, n), (3, n), (6, n), (4, n % 4294967296)])
          have t1 : (o != 1) = true := by simp; omega
          have t3 : (o != 3) = true := by simp; omega
          unfold namesV
          rw [eD, eA, eB, eT, eF]
          clear eD eA eB eT eF HPUT HSET HH
          go_wp2
          go_roundw
          case rel => exact ⟨k + 1, by omega, by go_num, HL, HT⟩
          case measure => simp [intOf]; omega
        by_cases hc5 : 15 ≤ o ∧ o ≤ 18
        · skip
          have eD : shD o = false := by simp [shD]; omega
          have eA : shA o = true := by simp [shA]; omega
          have eB : shB o = true := by simp [shB]; omega
          have eT : shT o = true := by simp [shT]; omega
          have eF : shF o = true := by simp [shF]; omega
          have HL := Lib.hid (show PutRel w regs g cap2 P (half n q (k + 1)) (setAll wr g k [(1, n), (4, n % 4294967296)]) from by
            have hh := HPUT.out [(1, n), (4, n % 4294967296)] (by
              intro p hp
              simp only [List.mem_cons, List.mem_nil_iff, or_false] at hp
              rcases hp with rfl | rfl
              all_goals first | exact ⟨by dsimp only; omega, fun y hy => put_ok _ (by dsimp only; omega) (by dsimp only; omega) n HNN.out y hy⟩ | exact ⟨by dsimp only; omega, fun y hy => put_ok4 n y hy⟩)
            rw [← HH.out]
            have ek : (if o ≠ 1 ∧ o ≠ 3 then n % 4294967296 else kk) = n % 4294967296 := by rw [if_pos (by omega)]
            have eb : putsR ⟨o, d, a, b, kk, t, f⟩ [(1, n), (4, n % 4294967296)] = blankR n ⟨o, d, a, b, kk, t, f⟩ := by simp only [blankR, eD, eA, eB, eT, eF, ek]; rfl
            rw [eb] at hh; exact hh)
          have HT := Lib.hid (HSET.out [(1, n), (4, n % 4294967296)])
          have t1 : (o != 1) = true := by simp; omega
          have t3 : (o != 3) = true := by simp; omega
          unfold namesV
          rw [eD, eA, eB, eT, eF]
          clear eD eA eB eT eF HPUT HSET HH
          go_wp2
          go_roundw
          case rel => exact ⟨k + 1, by omega, by go_num, HL, HT⟩
          case measure => simp [intOf]; omega
        by_cases hc6 : o = 19
        · skip
          have eD : shD o = false := by simp [shD]; omega
          have eA : shA o = true := by simp [shA]; omega
          have eB : shB o = false := by simp [shB]; omega
          have eT : shT o = false := by simp [shT]; omega
          have eF : shF o = false := by simp [shF]; omega
          have HL := Lib.hid (show PutRel w regs g cap2 P (half n q (k + 1)) (setAll wr g k [(1, n), (3, n), (5, n), (6, n), (4, n % 4294967296)]) from by
            have hh := HPUT.out [(1, n), (3, n), (5, n), (6, n), (4, n % 4294967296)] (by
              intro p hp
              simp only [List.mem_cons, List.mem_nil_iff, or_false] at hp
              rcases hp with rfl | rfl | rfl | rfl | rfl
              all_goals first | exact ⟨by dsimp only; omega, fun y hy => put_ok _ (by dsimp only; omega) (by dsimp only; omega) n HNN.out y hy⟩ | exact ⟨by dsimp only; omega, fun y hy => put_ok4 n y hy⟩)
            rw [← HH.out]
            have ek : (if o ≠ 1 ∧ o ≠ 3 then n % 4294967296 else kk) = n % 4294967296 := by rw [if_pos (by omega)]
            have eb : putsR ⟨o, d, a, b, kk, t, f⟩ [(1, n), (3, n), (5, n), (6, n), (4, n % 4294967296)] = blankR n ⟨o, d, a, b, kk, t, f⟩ := by simp only [blankR, eD, eA, eB, eT, eF, ek]; rfl
            rw [eb] at hh; exact hh)
          have HT := Lib.hid (HSET.out [(1, n), (3, n), (5, n), (6, n), (4, n % 4294967296)])
          have t1 : (o != 1) = true := by simp; omega
          have t3 : (o != 3) = true := by simp; omega
          unfold namesV
          rw [eD, eA, eB, eT, eF]
          clear eD eA eB eT eF HPUT HSET HH
          go_wp2
          go_roundw
          case rel => exact ⟨k + 1, by omega, by go_num, HL, HT⟩
          case measure => simp [intOf]; omega
        · skip
          have eD : shD o = false := by simp [shD]; omega
          have eA : shA o = false := by simp [shA]; omega
          have eB : shB o = false := by simp [shB]; omega
          have eT : shT o = false := by simp [shT]; omega
          have eF : shF o = false := by simp [shF]; omega
          have HL := Lib.hid (show PutRel w regs g cap2 P (half n q (k + 1)) (setAll wr g k [(1, n), (2, n), (3, n), (5, n), (6, n), (4, n % 4294967296)]) from by
            have hh := HPUT.out [(1, n), (2, n), (3, n), (5, n), (6, n), (4, n % 4294967296)] (by
              intro p hp
              simp only [List.mem_cons, List.mem_nil_iff, or_false] at hp
              rcases hp with rfl | rfl | rfl | rfl | rfl | rfl
              all_goals first | exact ⟨by dsimp only; omega, fun y hy => put_ok _ (by dsimp only; omega) (by dsimp only; omega) n HNN.out y hy⟩ | exact ⟨by dsimp only; omega, fun y hy => put_ok4 n y hy⟩)
            rw [← HH.out]
            have ek : (if o ≠ 1 ∧ o ≠ 3 then n % 4294967296 else kk) = n % 4294967296 := by rw [if_pos (by omega)]
            have eb : putsR ⟨o, d, a, b, kk, t, f⟩ [(1, n), (2, n), (3, n), (5, n), (6, n), (4, n % 4294967296)] = blankR n ⟨o, d, a, b, kk, t, f⟩ := by simp only [blankR, eD, eA, eB, eT, eF, ek]; rfl
            rw [eb] at hh; exact hh)
          have HT := Lib.hid (HSET.out [(1, n), (2, n), (3, n), (5, n), (6, n), (4, n % 4294967296)])
          have t1 : (o != 1) = true := by simp; omega
          have t3 : (o != 3) = true := by simp; omega
          unfold namesV
          rw [eD, eA, eB, eT, eF]
          clear eD eA eB eT eF HPUT HSET HH
          go_wp2
          go_roundw
          case rel => exact ⟨k + 1, by omega, by go_num, HL, HT⟩
          case measure => simp [intOf]; omega
      · clear H0 HS0
        have hL : half n q k = q.map (blankR n) := half_all n q k (by omega)
        have HHR := Lib.hid hr.out
        clear hr
        rw [hL] at HHR
        have HOK := Lib.hid (fun x hx => by
          obtain ⟨y, hy, rfl⟩ := List.mem_map.1 hx
          exact blankR_ok n HNN.out y (HQ.out y hy) : ∀ x ∈ q.map (blankR n), x.ok)
        have HSS := Lib.hid hs.out
        obtain ⟨⟨rv, rs, rf, ra⟩, hR0⟩ : ∃ R, R = runP regs q dat := ⟨_, rfl⟩
        have HEQ := Lib.hid ((runP_blank regs n q dat).trans hR0.symm)
        have HR0 := Lib.hid hR0
        clear hR0
        clear hL hs
        go_wp2_with fail
        refine (MRun_c A regs cap q A1 cap1 dat HQ.out (by omega) HQ1.out (by omega) _ (HR.out.up HSS.out.2.2.1) (HR1.out.up HSS.out.2.2.1)).mono ?_
        rintro e w4 ⟨rfl, hb4⟩
        rw [← HR0.out]
        unfold ret4
        dsimp only
        have c0' := keepC hb4 c0
        have c1' := keepC hb4 c1
        have HP4 := Lib.hid (HHR.out.keep hb4)
        have hb4' := below_t HSS.out.2.2.1 hb4
        clear c0 c1 b0 b1 hb4
        go_wp2_with fail
        refine (MRun_n (some ⟨g, 0, none⟩) regs cap2 (q.map (blankR n)) q.length (by simp) A1 cap1 dat HOK.out (by omega) HQ1.out (by omega) _ (by have := HP4.out.reads; simpa using this) (HR1.out.up hb4')).mono ?_
        rintro e w5 ⟨rfl, hb5⟩
        rw [HEQ.out]
        unfold ret4
        dsimp only
        go_wp2
        go_ret
        exact ⟨rfl, below_t hb4' hb5⟩)
/-! ### the row of MirFields -/
set_option maxRecDepth 100000 in
theorem MirFields_lifted (os : Os) (started : os.Started) (H : Type) (enc : TypeId × Value → H) :
    ReturnsInHanded {} Try.checked os 9 .any (Rows.mirFieldsSpec.pre6 enc Try.prog Try.f9 Rows.mirFieldsRow.domain false) (Rows.mirFieldsSpec.post enc Try.prog Try.f9 false true false false) := by
  refine returnsInHanded_of_change_sized (C := Try.checked) ownNone started (by kernel_rfl) Try.func9
    (ChangeSpec.witness6 (enc := enc) (C := Try.checked) false ⟨#[], #[.agg #[.int .i64 0, .slice none 0 0], .int .i64 0, .slice none 0 0], []⟩ 8 (by kernel_rfl) (by kernel_rfl) (by kernel_rfl) (by kernel_rfl)) ?_
  intro W base args ds gs before hval0 hW hcnd hsz0 _
  have hsz : (DataW.weightsEach Try.prog (Try.f9.params.toList ++ Rows.mirFieldsSpec.plain.varTypes Try.prog) (ds ++ gs)).all (· ≤ reachBytes) = true := hsz0
  have hval : ∀ (j : Nat) t v, Try.f9.params[j]? = some t → args[j]? = some v → Value.okWide Try.prog W .any base t v := hval0
  have hW' := hW
  obtain ⟨p, q, hA0, hV, rfl, hfz, hnd⟩ := hW
  have hA : DataW.TrodAll enc Try.prog W 0 (fun _ => true) true Try.f9.params.toList args.toList ds p := hA0
  rw [Try.params9] at hA hval hsz
  obtain ⟨v0, vs0, d0, ds0, p0, q0, hargs, rfl, rfl, h0, r0⟩ := trodAll_cons hA
  obtain ⟨v1, vs1, d1, ds1, p1, q1, rfl, rfl, rfl, h1, r1⟩ := trodAll_cons r0
  obtain ⟨v2, vs2, d2, ds2, p2, q2, rfl, rfl, rfl, h2, r2⟩ := trodAll_cons r1
  obtain ⟨rfl, rfl, rfl⟩ := trodAll_nil r2
  obtain rfl : args = #[v0, v1, v2] := by cases args; simp_all
  obtain ⟨rfl, rfl⟩ := trodVars_none hV
  obtain ⟨rg0, a0, cap0, xs0, rfl, hi0, ho0, hc0, ha0, hb0, hr0⟩ := open_mir (j := 0) hsz rfl rfl (hval 0 25 v0 rfl rfl) h0
  have k0 := h0
  have lt0 : ∀ x ∈ p0, x.block < W.heap.size := by obtain ⟨m, hm⟩ := k0; exact DataW.trod_lt m _ _ _ hm
  obtain ⟨x1, rfl, rfl, rfl, w1⟩ := open_int Try.underlying3 (hval 1 3 v1 rfl rfl) h1
  obtain ⟨a2, len2, cap2, rfl⟩ := okWide_slice Try.underlying45 (hval 2 45 v2 rfl rfl)
  have k2 := h2
  have lt2 : ∀ x ∈ p2, x.block < W.heap.size := by obtain ⟨m, hm⟩ := k2; exact DataW.trod_lt m _ _ _ hm
  obtain ⟨xs2, hl2, hr2, ho2, hc2, ha2, hb2⟩ := open_rows (α := Int) (j := 2) (fun x : Int => [Value.int .u8 x]) (fun x : Int => 0 ≤ x ∧ x < 256) 1 1 Try.underlying45 (by kernel_rfl) (by decide) (fun _ => rfl) (by kernel_rfl) (int_cells Try.underlying5 (fun h => wf_u8 h)) hsz rfl rfl h2
  subst hl2
  clear hA0 hval0 hsz0 hsz
  refine (MirFields_w rg0 a0 cap0 xs0 x1 a2 cap2 xs2 W hi0 ho0 hc0 ha0 hb0 hr0 (wf_i64 w1) ho2 hc2 ha2 hb2 (reads_num hr2)).mono fun e W' ⟨he, bel⟩ => ?_
  subst he
  exact ⟨_, rfl, _, _, _, [], _, [], hW', trodAll_mk1 (shut_bool Try.underlying4 _), (trodAll_cons_mk (Below.trod laidOutB_ (by kernel_rfl) (of_decide_eq_true (by kernel_rfl)) k0 bel lt0) (trodAll_cons_mk (shut_int Try.underlying3 w1) (trodAll_cons_mk (Below.trod laidOutB_ (by kernel_rfl) (of_decide_eq_true (by kernel_rfl)) k2 bel lt2) trodAll_mk0))), rfl, bel.frame _, fun h => by cases h⟩
theorem MirFields_holds : Rows.MirFieldsSaid :=
  OpenClaim.holds_of_wide 9 Try.f9 rfl rfl rfl rfl rfl rfl rfl ⟨rfl, rfl, rfl, rfl, rfl⟩ rfl rfl rfl rfl rfl (by kernel_rfl) Try.func9 (by kernel_rfl)
    (of_decide_eq_true (by kernel_rfl)) (by unfold Func.isWrapper; first | (rw [if_pos (by decide +kernel)]; kernel_rfl) | (rw [if_neg (by decide +kernel)]; exact ⟨rfl, rfl⟩))
    (fun os started H enc _ => MirFields_lifted os started H enc)
#print axioms MirFields_holds
end Go.Proofs.Ytalhjbncloobpaa
