import Derived.Test.YtebkbcpnjknkjaaSemW2
set_option linter.unusedVariables false
set_option linter.unusedSimpArgs false
set_option maxRecDepth 100000
namespace Go.Proofs.Ytebkbcpnjknkjaa
open Go.RowKit
/-! sem.Number: the walk (slices.IndexFunc over the names, with a closure). -/
theorem Num1_c (n : ByteArray) (k : Int) (s : ByteArray) (b : Nat) (w : World) (hc : w.cell? ⟨b, 0, none⟩ = some (.string s)) : Calls Try.prog 53 #[.agg #[.string n, .int .u32 k], .pointer (some ⟨b, 0, none⟩)] w fun e w' => e = .returned (.bool (decide (n = s))) ∧ Below w.heap.size w w' := by
  have hq := nmEq (a := n) (b := s)
  have hb := World.block_lt_of_cell? w _ hc
  go_enter Try.func53, Try.ntmps53
  go_wp2
  go_ret
  exact ⟨ret_b rfl, below1 w _⟩
/-- Where a name stands first, if it does. -/
def FoundN (l : List Nm) (s : ByteArray) (i : Int) : Prop := (∃ (n : Nat) (x : Nm), i = n ∧ l[n]? = some x ∧ numIn l s = (x.nr, true)) ∨ (i = -1 ∧ numIn l s = (0, false))
def FoundPost (l : List Nm) (s : ByteArray) (w : World) (e : Ending) (w' : World) : Prop := ∃ i : Int, e = .returned (.int .i64 i) ∧ FoundN l s i ∧ Below w.heap.size w w'
set_option maxHeartbeats 800000 in
theorem IndexN_c (l : List Nm) (hl : l.length ≤ 1000) (A : Option Addr) (c : Nat) (s : ByteArray) (b : Nat) (w : World) (hr : Reads w w.heap.size 2 A l.length (cellsN l)) (hc : w.cell? ⟨b, 0, none⟩ = some (.string s)) :
    Calls Try.prog 52 #[.slice A l.length c, .func (.func 53) #[] #[.pointer (some ⟨b, 0, none⟩)]] w (FoundPost l s w) := by
  have HR := Lib.hid hr
  have HC := Lib.hid hc
  clear hr hc
  go_enter Try.func52, Try.ntmps52
  go_wp2_with fail
  go_loopw [8] (fun i wr => ∃ n : Nat, n ≤ l.length ∧ i = .int .i64 n ∧ Hid (Below w.heap.size w wr) ∧ Hid (numIn l s = numIn (l.drop n) s)) (fun i _ => l.length - (intOf i).toNat)
  case atStart => exact ⟨0, by omega, rfl, Lib.hid (Below.refl _ _), Lib.hid rfl⟩
  case round =>
    obtain ⟨n, hn, rfl, HB, HE⟩ := hrel
    rcases Nat.lt_or_ge n l.length with hlt | hge
    · have hlt' : (n : Int) < l.length := by omega
      obtain ⟨x, hx⟩ : ∃ x, l[n]? = some x := ⟨_, List.getElem?_eq_getElem hlt⟩
      have hE := HE.out
      rw [numIn_drop hx] at hE
      obtain ⟨bb, off, rfl, hb, i0, i1⟩ := (HR.out.up HB.out).nm hx
      have HX := Lib.hid hx
      obtain ⟨xn, xr⟩ := x
      dsimp only at hE i0 i1
      have HCL := Lib.hid (Num1_c xn xr s b wr (keepC HB.out HC.out))
      clear hx
      by_cases hxs : xn = s
      · rw [if_pos hxs] at hE
        have HF := Lib.hid hE
        rw [decide_eq_true hxs] at HCL
        clear hE hxs
        go_wp2_with fail
        refine HCL.out.mono ?_
        rintro e w1 ⟨rfl, hb1⟩
        have HB1 := Lib.hid (below_t HB.out hb1)
        clear hb1
        go_wp2
        go_ret
        exact ⟨_, rfl, Or.inl ⟨n, _, rfl, HX.out, HF.out⟩, HB1.out⟩
      · rw [if_neg hxs] at hE
        have HF := Lib.hid hE
        rw [decide_eq_false hxs] at HCL
        clear hE hxs
        go_wp2_with fail
        refine HCL.out.mono ?_
        rintro e w1 ⟨rfl, hb1⟩
        have HB1 := Lib.hid (below_t HB.out hb1)
        clear hb1
        go_wp2
        go_roundw
        case rel => exact ⟨n + 1, by omega, by go_num, HB1, HF⟩
        case measure => simp [intOf]; omega
    · obtain rfl : n = l.length := by omega
      have HF : Hid (numIn l s = (0, false)) := Lib.hid (by rw [HE.out, List.drop_length]; rfl)
      go_wp2
      go_ret
      exact ⟨_, rfl, Or.inr ⟨rfl, HF.out⟩, HB.out⟩
set_option maxHeartbeats 800000 in
theorem Number_c07 (a s : ByteArray) (w : World) : Calls Try.prog 26 #[.string a, .string s] w (NumPost7 (numP a s) w) := by
  have hmf : ∀ (fn : Fn) (first cap : Array Value) (w : World), (Instr.makeFunc fn first cap).run Try.prog w = .ok (.func fn first cap) w := fun _ _ _ _ => rfl
  have hlen := tableP_len a.data.toList
  obtain ⟨l, hl⟩ : ∃ l, l = tableP a.data.toList := ⟨_, rfl⟩
  have HT := Lib.hid (fun w => table_c a w)
  have HN : Hid (numP a s = numIn l s) := Lib.hid (by unfold numP; rw [hl])
  rw [← hl] at HT hlen
  clear hl
  go_enter Try.func26, Try.ntmps26
  go_wp2_with fail
  refine (HT.out _).mono ?_
  intro e w1 hp
  obtain ⟨A, c, rfl, hown, hb⟩ := hp.slice
  have HR := Lib.hid (Reads.of_own hown)
  have HB := Lib.hid (below_t (below1 w _) hb)
  have HC := Lib.hid (keepC hb (by simp [go_sem] : (w.alloc (.cells #[.string s] 9)).cell? ⟨w.heap.size, 0, none⟩ = some (.string s)))
  clear hp hown hb
  go_wp2_with fail
  refine (IndexN_c l (by omega) A c s w.heap.size w1 HR.out HC.out).mono ?_
  rintro e w2 ⟨i, rfl, hi, hb2⟩
  have HB2 := Lib.hid (below_t HB.out hb2)
  rcases hi with ⟨n, x, rfl, hx, hn⟩ | ⟨rfl, hn⟩
  · have hlt := (List.getElem?_eq_some_iff.1 hx).1
    have hlt' : (n : Int) < l.length := by omega
    have hn0 : ¬ ((n : Int) < 0) := by omega
    obtain ⟨bb, off, rfl, hb, i0, i1⟩ := (HR.out.up hb2).nm hx
    have HF := Lib.hid hn
    clear hx hn hb2
    go_wp2
    go_ret2
    exact ⟨ret_ub (by rw [HN.out, HF.out]) (by rw [HN.out, HF.out]), HB2.out⟩
  · have HF := Lib.hid hn
    clear hn hb2
    go_wp2
    go_ret2
    exact ⟨ret_ub (by rw [HN.out, HF.out]) (by rw [HN.out, HF.out]), HB2.out⟩
end Go.Proofs.Ytebkbcpnjknkjaa
