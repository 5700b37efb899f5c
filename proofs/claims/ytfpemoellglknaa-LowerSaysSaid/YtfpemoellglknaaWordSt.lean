import Derived.Test.YtfpemoellglknaaWord
import Derived.Test.YtfpemoellglknaaOwn
import Derived.Test.YtfpemoellglknaaCbpfS4
set_option linter.unusedVariables false
set_option linter.unusedSimpArgs false
namespace Go.Proofs.Ytfpemoellglknaa
open Go.RowKit Go.Shelf
/-! word.Store: the contract. -/
theorem there_n (A : Option Addr) (n cap at_ k : Nat) (h : at_ + k ≤ n) (hk : 1 ≤ k ∧ k ≤ 8) (hn : n ≤ 9223372036854775807) (w : World) : Calls Try.prog 52 #[.slice A n cap, .int .i64 at_, .int .i64 k] w fun e w' => e = .returned (.bool true) ∧ w = w' := by
  have h1 : (at_ : Int) ≤ n := by omega
  have h2 : (k : Int) ≤ (n : Int) - at_ := by omega
  have h3 : (1 : Int) ≤ k := by omega
  have h4 : (k : Int) ≤ 8 := by omega
  have h5 : (n : Int) ≤ 9223372036854775807 := by omega
  clear h hn hk
  go_enter Try.func52, Try.ntmps52
  go_wp2
  go_ret
  exact ⟨rfl, rfl⟩
/-- A row of bytes that the call has made. -/
def BRow (base g m : Nat) (l : List Int) (W : World) : Prop := l.length = m ∧ W.ownsRow base 5 1 (.slice (some ⟨g, 0, none⟩) m m) m (numV .u8 l)
theorem BRow.set {base g m : Nat} {l : List Int} {W : World} (h : BRow base g m l W) (j : Nat) (v : Int) : BRow base g m (l.set j v) (W.setCell ⟨g, j, none⟩ (.int .u8 v)) := by
  refine ⟨by simp [h.1], ?_⟩
  have := (h.2.stored j (.int .u8 v)).1
  have e : (numV .u8 l).set j (.int .u8 v) = numV .u8 (l.set j v) := by simp [numV, List.map_set]
  rwa [e] at this
theorem BRow.there {base g m : Nat} {l : List Int} {W : World} (h : BRow base g m l W) {j : Nat} (hj : j < m) : ∃ x, W.cell? ⟨g, j, none⟩ = some (.int .u8 x) := by
  obtain ⟨x, hx⟩ : ∃ x, l[j]? = some x := ⟨_, List.getElem?_eq_getElem (by rw [h.1]; exact hj)⟩
  exact ⟨x, by rw [h.2.cellAt j (by omega)]; simp [numV, hx]⟩
def byteAt (v : Int) (i : Nat) : Int := v / 2 ^ (8 * i) % 256
def putL (l : List Int) (at_ : Nat) (v : Int) (n : Nat) : List Int := (List.range n).foldl (fun l i => l.set (at_ + i) (byteAt v i)) l
theorem putL_succ (l : List Int) (at_ : Nat) (v : Int) (n : Nat) : putL l at_ v (n + 1) = (putL l at_ v n).set (at_ + n) (byteAt v n) := by unfold putL; rw [List.range_succ, List.foldl_append]; rfl
set_option maxRecDepth 100000 in
set_option maxHeartbeats 800000 in
theorem Store_c (base g m at_ n : Nat) (l : List Int) (v : Int) (h : at_ + n ≤ m) (hn : 1 ≤ n ∧ n ≤ 8) (hm : m ≤ 281474976710656) (hv : 0 ≤ v ∧ v < 18446744073709551616) (w : World) (hr : BRow base g m l w) :
    Calls Try.prog 31 #[.slice (some ⟨g, 0, none⟩) m m, .int .i64 at_, .int .i64 n, .int .u64 v] w fun e w' => e = .returned (.int .i64 0) ∧ BRow base g m (putL l at_ v n) w' ∧ w.grownBy w' (some g) := by
  have HR := Lib.hid hr
  obtain ⟨v0, v1⟩ := hv
  have h4 : (n : Int) ≤ 8 := by omega
  have h3 : (1 : Int) ≤ n := by omega
  have hmi : (m : Int) ≤ 281474976710656 := by omega
  have hai : (at_ : Int) + n ≤ m := by omega
  have HT := Lib.hid (there_n (some ⟨g, 0, none⟩) m m at_ n h hn (by omega) w)
  clear hr
  go_enter Try.func31, Try.ntmps31
  go_wp2_with fail
  refine HT.out.mono ?_
  rintro e w' ⟨rfl, rfl⟩
  go_wp2_with fail
  go_loopw [16] (fun i wr => ∃ k : Nat, k ≤ n ∧ i = .int .i64 k ∧ Hid (BRow base g m (putL l at_ v k) wr ∧ w.grownBy wr (some g))) (fun i _ => n - (intOf i).toNat)
  case atStart => exact ⟨0, by omega, rfl, Lib.hid ⟨HR.out, World.grownBy.refl _ _⟩⟩
  case round =>
    obtain ⟨k, hk, rfl, HI⟩ := hrel
    rcases Nat.lt_or_ge k n with hlt | hlt
    · have hlt' : (k : Int) < n := by omega
      obtain ⟨x, hx⟩ := HI.out.1.there (j := at_ + k) (by omega)
      have hf := HI.out.1.2.frozenAt (at_ + k)
      go_wp2_with fail
      refine ⟨⟨k + 1, hlt, rfl, Lib.hid ⟨?_, grow_set HI.out.2 _⟩⟩, by simp only [intOf]; omega⟩
      rw [putL_succ]
      exact HI.out.1.set (at_ + k) (byteAt v k)
    · obtain rfl : k = n := by omega
      go_wp2
      go_ret
      exact ⟨rfl, HI.out.1, HI.out.2⟩
/-! cbpf.Bytes: the contract. -/
def bytesI (x : I4) : List Int := [x.c % 256, x.c / 256, x.j, x.f, x.k % 256, x.k / 256 % 256, x.k / 65536 % 256, x.k / 16777216]
def bytesQ (q : List I4) : List Int := q.flatMap bytesI
theorem bytesQ_len (q : List I4) : (bytesQ q).length = 8 * q.length := by
  induction q with
  | nil => rfl
  | cons x q ih => simp only [bytesQ, List.flatMap_cons, List.length_append] at ih ⊢; rw [ih]; simp [bytesI]; omega
theorem bytesQ_take (q : List I4) {k : Nat} {x : I4} (h : q[k]? = some x) : bytesQ (q.take (k + 1)) = bytesQ (q.take k) ++ bytesI x := by
  rw [List.take_add_one, h]; simp [bytesQ]
/-- After so many rounds. -/
def bytesTo (q : List I4) (k : Nat) : List Int := bytesQ (q.take k) ++ List.replicate (8 * (q.length - k)) 0
theorem bytesTo_succ {q : List I4} (hq : ∀ x ∈ q, x.ok) {k : Nat} {x : I4} (h : q[k]? = some x) :
    putL (((putL (bytesTo q k) (8 * k) x.c 2).set (8 * k + 2) x.j).set (8 * k + 3) x.f) (8 * k + 4) x.k 4 = bytesTo q (k + 1) := by
  obtain ⟨a1, a2, a3, a4, a5, a6, a7, a8⟩ := hq x (List.mem_of_getElem? h)
  have hl := (List.getElem?_eq_some_iff.1 h).1
  have e1 : byteAt x.c 0 = x.c % 256 := by unfold byteAt; simp
  have e2 : byteAt x.c 1 = x.c / 256 := by unfold byteAt; rw [show (2 : Int) ^ (8 * 1) = 256 by decide]; omega
  have k0 : byteAt x.k 0 = x.k % 256 := by unfold byteAt; simp
  have k1 : byteAt x.k 1 = x.k / 256 % 256 := by unfold byteAt; rw [show (2 : Int) ^ (8 * 1) = 256 by decide]
  have k2 : byteAt x.k 2 = x.k / 65536 % 256 := by unfold byteAt; rw [show (2 : Int) ^ (8 * 2) = 65536 by decide]
  have k3 : byteAt x.k 3 = x.k / 16777216 := by unfold byteAt; rw [show (2 : Int) ^ (8 * 3) = 16777216 by decide]; omega
  have hlen : (bytesQ (q.take k)).length = 8 * k := by rw [bytesQ_len, List.length_take, Nat.min_eq_left (by omega)]
  unfold bytesTo
  rw [bytesQ_take q h, show 8 * (q.length - k) = 8 + 8 * (q.length - (k + 1)) by omega, ← List.replicate_append_replicate]
  generalize bytesQ (q.take k) = P at *
  generalize List.replicate (8 * (q.length - (k + 1))) (0 : Int) = R
  simp only [putL, List.range, List.range.loop, List.foldl_cons, List.foldl_nil, e1, e2, k0, k1, k2, k3, Nat.add_zero]
  rw [← hlen]
  simp [List.set_append_right, List.replicate, bytesI, Nat.add_assoc]
end Go.Proofs.Ytfpemoellglknaa
