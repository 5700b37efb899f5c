import Derived.Test.YtapmpegblfcknaaFlowInto
import Derived.Test.YtapmpegblfcknaaCheckW4
import Derived.Test.YtapmpegblfcknaaAcc
set_option linter.unusedVariables false
set_option linter.unusedSimpArgs false
namespace Go.Proofs.Ytapmpegblfcknaa
open Go.RowKit Go.Shelf
/-! flow.Next, into, fine, Reach: the contracts. -/
theorem Next_c (A : Option Addr) (cap : Nat) (q : List I4) (at_ : Nat) (hat : at_ < q.length) (hok : ∀ x ∈ q, x.ok) (hlen : q.length ≤ 281474976710656) (w : World) (hr : Reads w w.heap.size 4 A q.length (cellsI q)) :
    Calls Try.prog 24 #[.slice A q.length cap, .int .i64 at_] w (NatsPost w (nextQ q at_)) := callsIn_wide.1 (Next_in A cap q at_ hat hok hlen w hr)
theorem into_c (A : Option Addr) (cap : Nat) (q : List I4) (hpos : 0 < q.length) (hok : ∀ x ∈ q, x.ok) (hlen : q.length ≤ 4096) (w : World) (hr : Reads w w.heap.size 4 A q.length (cellsI q)) :
    Calls Try.prog 47 #[.slice A q.length cap] w (NatsPost w (intoP q)) := callsIn_wide.1 (into_in A cap q hpos hok hlen w hr)
theorem bumpN_len (ts : List Nat) : ∀ n : List Nat, (bumpN n ts).length = n.length := by
  induction ts with
  | nil => intro n; rfl
  | cons t ts ih => intro n; show (bumpN (n.modify t (· + 1)) ts).length = _; rw [ih]; simp
theorem intoTo_len (q : List I4) (k : Nat) : (intoTo q k).length = q.length := by
  induction k with
  | zero => simp [intoTo]
  | succ k ih => rw [intoTo_succ]; unfold intoStep; split <;> simp [bumpN_len, ih]
theorem intoP_len (q : List I4) : (intoP q).length = q.length := intoTo_len q _
set_option maxHeartbeats 400000 in
theorem fine_c (A : Option Addr) (cap : Nat) (q : List I4) (hq : ∀ x ∈ q, x.ok) (hn : q.length ≤ 9223372036854775807) (w : World) (hr : Reads w w.heap.size 4 A q.length (cellsI q)) :
    Calls Try.prog 46 #[.slice A q.length cap] w fun e w' => e = .returned (.bool ((checkP q).1 == 0)) ∧ Below w.heap.size w w' := by
  obtain ⟨⟨pe, pa⟩, hP⟩ : ∃ P, P = checkP q := ⟨_, rfl⟩
  have HC := Lib.hid (Check_c A cap q hq hn w hr)
  rw [← hP]
  have HP := Lib.hid hP
  clear hP hr hq
  go_enter Try.func46, Try.ntmps46
  go_wp2_with fail
  refine HC.out.mono ?_
  rintro e w' ⟨rfl, hb⟩
  rw [← HP.out]
  dsimp only
  go_wp2
  go_ret
  exact ⟨rfl, hb⟩
def boolsV (l : List Bool) : List Value := l.map Value.bool
theorem infoBool : (Try.prog.info? 4).map (fun i => (i.zero, i.size, i.bytes)) = some (some (.bool false), 1, 1) := by kernel_rfl
def reachV (q : List I4) : List Bool := (intoP q).map (fun n => decide (0 < n))
/-- A row that grows, and what was there ahead. -/
def Grows (w : World) (t : TypeId) (v : Value) (n : Nat) (xs : List Value) (wr : World) : Prop := wr.ownsRow w.heap.size t 1 v n xs ∧ Below w.heap.size w wr
theorem Grows.nil (w : World) (t : TypeId) : Grows w t (.slice none 0 0) 0 [] w := ⟨World.ownsRow_nil _ _ _ _, Below.refl _ _⟩
theorem Grows.step {w wr w2 : World} {t : TypeId} {v v' : Value} {n : Nat} {xs ys : List Value} {o : Obj} (h : Grows w t v n xs wr) (hown : w2.ownsRow w.heap.size t 1 v' (n + 1) ys) (hg : (wr.alloc o).grownBy w2 v.ownBlock) : Grows w t v' (n + 1) ys w2 :=
  ⟨hown, below_gr (h.2.alloc h.2.size o) hg (by have := h.2.size; simp; omega) (fun k hk => own_ge h.1 k hk)⟩
def ReachPost (w : World) (q : List I4) (e : Ending) (w' : World) : Prop := ((checkP q).1 ≠ 0 ∧ e = .returned (.tuple #[.slice none 0 0, .int .i64 1]) ∧ Below w.heap.size w w') ∨ ((checkP q).1 = 0 ∧ ∃ v, e = .returned (.tuple #[v, .int .i64 0]) ∧ w'.ownsRow w.heap.size 4 1 v q.length (boolsV (reachV q)) ∧ Below w.heap.size w w')
set_option maxRecDepth 100000 in
set_option maxHeartbeats 800000 in
theorem Reach_c (A : Option Addr) (cap : Nat) (q : List I4) (hok : ∀ x ∈ q, x.ok) (hn : q.length ≤ 9223372036854775807) (w : World) (hr : Reads w w.heap.size 4 A q.length (cellsI q)) :
    Calls Try.prog 28 #[.slice A q.length cap] w (ReachPost w q) := by
  have HF := Lib.hid (fine_c A cap q hok hn w hr)
  have HR := Lib.hid hr
  have HOK := Lib.hid hok
  clear hr hok
  by_cases h0 : (checkP q).1 = 0
  · obtain ⟨a1, a2, -, -⟩ := acc_facts h0
    have hb : ((checkP q).1 == 0) = true := by simpa using h0
    have HB := Lib.hid hb
    have H0 := Lib.hid h0
    obtain ⟨i0, HI⟩ : ∃ i0, Hid (Try.prog.info? 4 = some i0 ∧ i0.zero = some (.bool false) ∧ i0.size = 1 ∧ i0.bytes = 1) := by
      obtain ⟨i0, hi, hz0, hz1, hz2⟩ := info_parts infoBool
      exact ⟨i0, Lib.hid ⟨hi, hz0, hz1, hz2⟩⟩
    clear hb h0
    go_enter Try.func28, Try.ntmps28
    go_wp2_with fail
    refine HF.out.mono ?_
    rintro e w1 ⟨rfl, hb1⟩
    rw [HB.out]
    go_wp2_with fail
    refine (into_c A cap q a1 HOK.out a2 w1 (HR.out.up hb1)).mono ?_
    rintro e w2 ⟨v, rfl, hown, hb2⟩
    rw [intoP_len] at hown
    obtain ⟨g, cap2, rfl, -⟩ := hown.form a1
    have HN := Lib.hid (Reads.of_own hown)
    have HB2 := Lib.hid (below_t hb1 hb2)
    have hgl := a1
    have HG := Lib.hid (Grows.nil w2 4)
    clear hown hb2
    go_wp2_with fail
    go_loopw [4, 13] (fun l i wr => ∃ k : Nat, k ≤ q.length ∧ i = .int .i64 k ∧ Hid (Grows w2 4 l k (boolsV ((reachV q).take k)) wr)) (fun _ i _ => q.length - (intOf i).toNat)
    case atStart => exact ⟨0, by omega, rfl, HG⟩
    case round =>
      obtain ⟨k, hk, rfl, HW⟩ := hrel
      clear HG
      rcases Nat.lt_or_ge k q.length with hkl | hkl
      · have hkl' : (k : Int) < q.length := by omega
        obtain ⟨x, hx⟩ : ∃ x, (intoP q)[k]? = some x := ⟨_, List.getElem?_eq_getElem (by rw [intoP_len]; exact hkl)⟩
        have hc : wr.cell? ⟨g, k, none⟩ = some (.int .i64 x) := by
          obtain ⟨b, off, e, _, hc⟩ := (HN.out.up HW.out.2).2 a1
          injection e with e; injection e with e1 e2
          subst e1 e2
          have := hc k (.int .i64 x) (by simp [numV, natsI, hx])
          simpa using this
        have HX := Lib.hid hx
        clear hx
        have hrow := HW.out.1
        have hsz := HW.out.2.size
        have HROW := Lib.hid hrow
        clear hrow
        go_wp2_with (at_builtin; refine wpList_append_own _ rfl _ _ 45 rfl w2.heap.size 4 i0 (.bool false) 1 1 Try.underlying45 HI.out.1 HI.out.2.1 HI.out.2.2.1 HI.out.2.2.2 rfl (by decide) _ k _ rfl (HROW.out.alloc _) ⟨wr.heap.size, 0, none⟩ 1 1 [.bool (decide (0 < x))] rfl rfl (cell_one_new _ _ _) (by simp [Value.oneCell']) (by simp only [maxLen]; omega) (by omega) (by simp; omega) ?_; intro v' w3 hown' hgrow _; have HO := Lib.hid hown'; have HGR := Lib.hid hgrow; clear hown' hgrow)
        refine ⟨⟨k + 1, hkl, rfl, Lib.hid ?_⟩, ?_⟩
        · have e : boolsV ((reachV q).take k) ++ [.bool (decide (0 < x))] = boolsV ((reachV q).take (k + 1)) := by
            rw [List.take_add_one]
            simp [boolsV, reachV, HX.out]
          rw [← e]
          exact HW.out.step HO.out HGR.out
        · simp only [intOf]; omega
      · obtain rfl : k = q.length := by omega
        have hrow := HW.out.1
        rw [List.take_of_length_le (by simp [reachV, intoP_len])] at hrow
        have hB := HW.out.2
        have HROW := Lib.hid hrow
        clear hrow
        obtain ⟨g', cap', hv, -⟩ := HROW.out.form a1
        subst hv
        go_wp2
        refine bodyPost_ret (v := .tuple #[.slice (some ⟨g', 0, none⟩) q.length cap', .int .i64 0]) (by simp [results, Try.results28, go_sem]) rfl ?_
        exact .inr ⟨H0.out, _, rfl, own_base HROW.out HB2.out.size, below_t HB2.out hB⟩
  · have hb : ((checkP q).1 == 0) = false := by simpa using h0
    have HB := Lib.hid hb
    have H0 := Lib.hid h0
    clear hb h0
    go_enter Try.func28, Try.ntmps28
    go_wp2_with fail
    refine HF.out.mono ?_
    rintro e w1 ⟨rfl, hb1⟩
    rw [HB.out]
    go_wp2
    refine bodyPost_ret (v := .tuple #[.slice none 0 0, .int .i64 1]) (by simp [results, Try.results28, go_sem]) rfl ?_
    exact .inl ⟨H0.out, rfl, hb1⟩
end Go.Proofs.Ytapmpegblfcknaa
