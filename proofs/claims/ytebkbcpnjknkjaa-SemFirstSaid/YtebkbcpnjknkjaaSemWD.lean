import Derived.Test.YtebkbcpnjknkjaaSemP3
import Derived.Test.YtebkbcpnjknkjaaOwnX
import Derived.Test.YtebkbcpnjknkjaaMapIns
import Derived.Maps.OwnSet
set_option linter.unusedVariables false
set_option linter.unusedSimpArgs false
set_option maxRecDepth 100000
namespace Go.Proofs.Ytebkbcpnjknkjaa
open Go.RowKit
open Go.Maps (Keyed)
/-! cmp.Compare, the orders, sem.rels: the walks. -/
theorem isNaN_c (x : Int) (w : World) : Calls Try.prog 73 #[.int .u64 x] w fun e w' => e = .returned (.bool false) ∧ w' = w := by
  have hx : (x != x) = false := by simp
  go_enter Try.func73, Try.ntmps73
  go_wp2
  go_ret
  exact ⟨rfl, rfl⟩
theorem Compare_c (x y : Int) (w : World) : Calls Try.prog 65 #[.int .u64 x, .int .u64 y] w fun e w' => e = .returned (.int .i64 (cmpI x y)) ∧ w' = w := by
  have hc : cmpI x y = if x < y then -1 else if y < x then 1 else 0 := rfl
  by_cases h1 : x < y
  · have HF : Hid (cmpI x y = -1) := Lib.hid (by rw [hc, if_pos h1])
    clear hc
    go_enter Try.func65, Try.ntmps65
    go_wp2_with (refine (isNaN_c _ _).mono ?_; rintro e w' ⟨rfl, rfl⟩)
    go_ret
    exact ⟨ret_i HF.out.symm, rfl⟩
  · by_cases h2 : y < x
    · have HF : Hid (cmpI x y = 1) := Lib.hid (by rw [hc, if_neg h1, if_pos h2])
      clear hc
      go_enter Try.func65, Try.ntmps65
      go_wp2_with (refine (isNaN_c _ _).mono ?_; rintro e w' ⟨rfl, rfl⟩)
      go_ret
      exact ⟨ret_i HF.out.symm, rfl⟩
    · have HF : Hid (cmpI x y = 0) := Lib.hid (by rw [hc, if_neg h1, if_neg h2])
      clear hc
      go_enter Try.func65, Try.ntmps65
      go_wp2_with (refine (isNaN_c _ _).mono ?_; rintro e w' ⟨rfl, rfl⟩)
      go_ret
      exact ⟨ret_i HF.out.symm, rfl⟩
theorem ord1_c (o : Int) (w : World) : Calls Try.prog 55 #[.int .i64 o] w fun e w' => e = .returned (.bool (ordB 1 o)) ∧ w' = w := by
  have HF : Hid (ordB 1 o = (o == 0)) := Lib.hid rfl
  go_enter Try.func55, Try.ntmps55
  go_wp2
  go_ret
  exact ⟨ret_b HF.out.symm, rfl⟩
theorem ord2_c (o : Int) (w : World) : Calls Try.prog 56 #[.int .i64 o] w fun e w' => e = .returned (.bool (ordB 2 o)) ∧ w' = w := by
  have HF : Hid (ordB 2 o = (o != 0)) := Lib.hid rfl
  go_enter Try.func56, Try.ntmps56
  go_wp2
  go_ret
  exact ⟨ret_b HF.out.symm, rfl⟩
theorem ord3_c (o : Int) (w : World) : Calls Try.prog 57 #[.int .i64 o] w fun e w' => e = .returned (.bool (ordB 3 o)) ∧ w' = w := by
  have HF : Hid (ordB 3 o = decide (o < 0)) := Lib.hid rfl
  go_enter Try.func57, Try.ntmps57
  go_wp2
  go_ret
  exact ⟨ret_b HF.out.symm, rfl⟩
theorem ord4_c (o : Int) (w : World) : Calls Try.prog 58 #[.int .i64 o] w fun e w' => e = .returned (.bool (ordB 4 o)) ∧ w' = w := by
  have HF : Hid (ordB 4 o = decide (o ≤ 0)) := Lib.hid rfl
  go_enter Try.func58, Try.ntmps58
  go_wp2
  go_ret
  exact ⟨ret_b HF.out.symm, rfl⟩
theorem ord5_c (o : Int) (w : World) : Calls Try.prog 59 #[.int .i64 o] w fun e w' => e = .returned (.bool (ordB 5 o)) ∧ w' = w := by
  have HF : Hid (ordB 5 o = decide (0 < o)) := Lib.hid rfl
  go_enter Try.func59, Try.ntmps59
  go_wp2
  go_ret
  exact ⟨ret_b HF.out.symm, rfl⟩
theorem ord6_c (o : Int) (w : World) : Calls Try.prog 60 #[.int .i64 o] w fun e w' => e = .returned (.bool (ordB 6 o)) ∧ w' = w := by
  have HF : Hid (ordB 6 o = decide (0 ≤ o)) := Lib.hid rfl
  go_enter Try.func60, Try.ntmps60
  go_wp2
  go_ret
  exact ⟨ret_b HF.out.symm, rfl⟩
def ordF (r : Int) : Nat := if r = 1 then 55 else if r = 2 then 56 else if r = 3 then 57 else if r = 4 then 58 else if r = 5 then 59 else 60
theorem ord_c {r : Int} (h0 : 1 ≤ r) (h6 : r ≤ 6) (o : Int) (w : World) : Calls Try.prog (ordF r) #[.int .i64 o] w fun e w' => e = .returned (.bool (ordB r.toNat o)) ∧ w' = w := by
  have : r = 1 ∨ r = 2 ∨ r = 3 ∨ r = 4 ∨ r = 5 ∨ r = 6 := by omega
  rcases this with rfl | rfl | rfl | rfl | rfl | rfl
  · exact ord1_c o w
  · exact ord2_c o w
  · exact ord3_c o w
  · exact ord4_c o w
  · exact ord5_c o w
  · exact ord6_c o w
/-- How a value of the map reads: by its function's number. -/
def fnR7 (v : Value) : Option (DataW Unit × List MemPlace) := match v with
  | .func (.func n) a b => if a.size = 0 ∧ b.size = 0 then some (.lit (.int .i64 n), []) else some (.lit (.int .i64 (-1)), [])
  | _ => some (.lit (.int .i64 (-1)), [])
theorem fnR7_fn (n : Nat) : fnR7 (.func (.func n) #[] #[]) = some (.lit (.int .i64 n), []) := rfl
theorem relKey : Keyed Try.prog 46 := Maps.int_keyed Try.underlying46
theorem relOf (c : Int) (h0 : 0 ≤ c) (h1 : c < 100) : keyOf Try.prog 46 (.int .i64 c) = some (.int .i64 c) := Maps.keyOf_int_mk Try.underlying46 (by simp [Lit.wf, IntKind.min, IntKind.max, IntKind.signed, IntKind.bits]; omega)
def relsD : DataW Unit := ((((((DataW.put (.map []) (.int .i64 1) (.lit (.int .i64 55))).put (.int .i64 2) (.lit (.int .i64 56))).put (.int .i64 3) (.lit (.int .i64 57))).put (.int .i64 4) (.lit (.int .i64 58))).put (.int .i64 5) (.lit (.int .i64 59))).put (.int .i64 6) (.lit (.int .i64 60)))
def RelsAt (W : World) (mb : Nat) : Prop := W.ownsMap Try.prog 46 fnR7 mb 6 relsD
theorem RelsAt.below {W W' : World} {mb : Nat} (h : RelsAt W mb) (hb : Below W.heap.size W W') : RelsAt W' mb :=
  World.ownsMap.kept h (row := none) ⟨hb.os, hb.tape, hb.output, hb.size, fun k hk _ => hb.block k hk⟩ (by simp)
theorem RelsAt.drewN {W : World} {mb : Nat} (h : RelsAt W mb) (n : Nat) : RelsAt (W.drewN n) mb := h
theorem zeroFn7 (w : World) : (zeroValue 111).run Try.prog w = .ok .nilFunc w := by kernel_rfl
theorem rels_at {r : Int} (h0 : 1 ≤ r) (h6 : r ≤ 6) : relsD.atKey (.int .i64 r) (.lit (.int .i64 (-1))) = .lit (.int .i64 (ordF r)) := by
  have : r = 1 ∨ r = 2 ∨ r = 3 ∨ r = 4 ∨ r = 5 ∨ r = 6 := by omega
  have k : ∀ r ∈ [(1 : Int), 2, 3, 4, 5, 6], relsD.atKey (.int .i64 r) (.lit (.int .i64 (-1))) = .lit (.int .i64 (ordF r)) := by
    simp only [List.forall_mem_cons]
    repeat' apply And.intro
    all_goals first | (exact fun _ h => by cases h) | kernel_rfl
  exact k r (by simp; omega)
theorem rels_look {W : World} {mb : Nat} (h : RelsAt W mb) {r : Int} (h0 : 1 ≤ r) (h6 : r ≤ 6) : (Instr.lookup 70 (.map (some mb)) (.int .i64 r) false).run Try.prog W = .ok (.func (.func (ordF r)) #[] #[]) W := by
  obtain ⟨v, ps, hr, hv⟩ := World.ownsMap.lookup h relKey Try.underlying70 (zeroFn7 W) (zd := .lit (.int .i64 (-1))) (zp := []) rfl (relOf r (by omega) (by omega))
  rw [rels_at h0 h6] at hv
  rw [hr]
  unfold fnR7 at hv
  split at hv
  · split at hv
    · rename_i a b hab
      obtain rfl := Array.eq_empty_of_size_eq_zero hab.1
      obtain rfl := Array.eq_empty_of_size_eq_zero hab.2
      injection hv with hv
      injection hv with hv _
      injection hv with hv
      injection hv with _ hv
      rw [show _ = ordF r from Int.ofNat_inj.1 hv]
    · injection hv with hv
      injection hv with hv _
      injection hv with hv
      injection hv with _ hv
      omega
  · injection hv with hv
    injection hv with hv _
    injection hv with hv
    injection hv with _ hv
    omega
def RelsPost (w : World) (e : Ending) (w' : World) : Prop := e = .returned (.map (some w.heap.size)) ∧ RelsAt w' w.heap.size ∧ Below w.heap.size w w'
set_option maxHeartbeats 800000 in
theorem rels_c (w : World) : Calls Try.prog 30 #[] w (RelsPost w) := by
  have hmm := @run_makeMap Try.prog
  have hown := World.ownsMap_made w Try.prog 46 fnR7
  have hb := below1 w (.map #[] 0)
  have hsz : w.heap.size < (w.alloc (.map #[] 0)).heap.size := by simp
  go_enter Try.func30, Try.ntmps30
  go_wp2_with (refine wpList_insert_own _ rfl _ _ _ 70 rfl _ _ relKey Try.underlying70 fnR7 _ _ _ rfl hown (by simp only [maxLen]; omega) _ _ _ rfl rfl (relOf _ (by decide) (by decide)) _ _ (fnR7_fn _) ?_; clear hown; intro w1 hown hg1; replace hb := hb.grown hg1 hb.size (fun k hk => by cases hk; exact Nat.le_refl _); replace hsz := Nat.lt_of_lt_of_le hsz hg1.size; clear hg1)
  go_ret
  exact ⟨rfl, hown, hb⟩
end Go.Proofs.Ytebkbcpnjknkjaa
