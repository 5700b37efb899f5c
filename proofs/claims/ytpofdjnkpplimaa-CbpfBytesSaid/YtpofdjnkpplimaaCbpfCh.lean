import Derived.Test.YtpofdjnkpplimaaCbpfBy
import Derived.Test.YtpofdjnkpplimaaFenceTail
import Derived.Test.YtpofdjnkpplimaaStep
import Derived.RangeFuncNested
import Derived.RangeFuncBox
import Derived.LoopIn
import Derived.TacticsIn
set_option linter.unusedVariables false
set_option linter.unusedSimpArgs false
namespace Go.Proofs.Ytpofdjnkpplimaa
open Go.RowKit Go.Shelf
attribute [local go_sem] Oper.semAt_some
/-! slices.Chunk: the iterator's contract, in the wide fence. -/
def KpB (Bs Bn : Nat) (W W' : World) : Prop := W.heap.size ≤ W'.heap.size ∧ (Bs < W.heap.size → W'.heap[Bs]? = W.heap[Bs]?) ∧ (Bn < W.heap.size → W'.heap[Bn]? = W.heap[Bn]?)
theorem KpB.refl (Bs Bn : Nat) (W : World) : KpB Bs Bn W W := ⟨Nat.le_refl _, fun _ => rfl, fun _ => rfl⟩
theorem KpB.trans {Bs Bn : Nat} {A B C : World} (h : KpB Bs Bn A B) (k : KpB Bs Bn B C) : KpB Bs Bn A C :=
  ⟨Nat.le_trans h.1 k.1, fun c => (k.2.1 (Nat.lt_of_lt_of_le c h.1)).trans (h.2.1 c), fun c => (k.2.2 (Nat.lt_of_lt_of_le c h.1)).trans (h.2.2 c)⟩
theorem yield_any {F : Fence} (hd : F.depth = none) {m : Nat} (m' : Nat) {P : Program} {l : Nat} {args : Array Value} {W : World} {R : Ending → World → Prop} (h : YieldAt F m P l args W R) : YieldAt F m' P l args W R := by
  obtain ⟨fn, tmps, assign, body, hy, hR⟩ := h
  exact ⟨fn, tmps, assign, body, hy, ⟨hR.1, fun c cs _ => hR.2 c cs (fun d e => by rw [hd] at e; cases e)⟩⟩
theorem noOut_normal {Q : Exit → Act → World → Prop} {a : Act} {w : World} (h : Q .normal a w) : NoOut Q .normal a w := h
set_option maxRecDepth 100000 in
set_option maxHeartbeats 2000000 in
theorem chunk_in (l Bs Bn b off m cap : Nat) (hm : 8 * m ≤ cap) (hm2 : 8 * m ≤ 281474976710656) (J Jx : List Nat → World → Prop) (n : Nat) (W : World) (hJ : AbidesFrom W.heap.size J)
    (hY : ∀ (i : Nat) W1, i < m → J (List.range i) W1 → YieldAt Fence.wide (n - 1) Try.prog l #[.slice (some ⟨b, off + 8 * i, none⟩) 8 8] W1 fun e W' => (e = .returned (.bool true) ∧ J (List.range (i + 1)) W' ∧ KpB Bs Bn W1 W') ∨ (e = .returned (.bool false) ∧ Jx (List.range (i + 1)) W'))
    (hs : W.heap[Bs]? = some (.cells #[.slice (some ⟨b, off, none⟩) (8 * m) cap] 23 (0, 0))) (hn : W.heap[Bn]? = some (.cells #[.int .i64 8] 3 (0, 0))) (h0 : J [] W) :
    CallsIn Fence.wide n Try.prog 63 #[.func (.yield l) #[] #[], .pointer (some ⟨Bs, 0, none⟩), .pointer (some ⟨Bn, 0, none⟩)] W fun e W' => (∃ v, e = .returned v) ∧ (J (List.range m) W' ∨ ∃ k, Jx (List.range k) W') := by
  have HJ := Lib.hid hJ
  have HY := Lib.hid hY
  have HI0 := Lib.hid (show J (List.range 0) W ∧ W.heap[Bs]? = some (.cells #[.slice (some ⟨b, off, none⟩) (8 * m) cap] 23 (0, 0)) ∧ W.heap[Bn]? = some (.cells #[.int .i64 8] 3 (0, 0)) from ⟨h0, hs, hn⟩)
  clear hJ hY hs hn h0
  have hmi : (m : Int) * 8 ≤ 281474976710656 := by omega
  have HJ0' : ∀ {s : List Nat} {W1 W2 : World}, J s W1 → Below W1.heap.size W1 W2 → J s W2 := fun h hb => HJ.out _ _ _ none h ⟨hb.os, hb.tape, hb.output, hb.size, fun k hk _ => hb.block k hk⟩ (fun r e => by cases e)
  refine callsIn_of_wp Try.func63 rfl trivial ?_ rfl
  simp only [Try.ntmps63, List.size_toArray, List.length_cons, List.length_nil, Nat.reduceAdd, Nat.reduceSub, Array.replicate_succ, Array.replicate_zero, List.push_toArray, List.append_toArray, List.nil_append, List.cons_append]
  gi_wp2_with fail
  gi_loopw [4] (fun i wr => ∃ k p : Nat, k ≤ m ∧ p = 8 * k ∧ i = .int .i64 p ∧ Hid (J (List.range k) wr ∧ wr.heap[Bs]? = some (.cells #[.slice (some ⟨b, off, none⟩) (8 * m) cap] 23 (0, 0)) ∧ wr.heap[Bn]? = some (.cells #[.int .i64 8] 3 (0, 0)))) (fun i _ => 8 * m - (intOf i).toNat)
  case atStart => exact ⟨0, 0, by omega, rfl, rfl, HI0⟩
  case round =>
    obtain ⟨k, p, hk, hp, rfl, HW⟩ := hrel
    have HP := Lib.hid hp
    have cs : wr.cell? ⟨Bs, 0, none⟩ = some (.slice (some ⟨b, off, none⟩) (8 * m) cap) := by simp [World.cell?, HW.out.2.1]
    have cn : wr.cell? ⟨Bn, 0, none⟩ = some (.int .i64 8) := by simp [World.cell?, HW.out.2.2]
    rcases Nat.lt_or_ge k m with hkm | hkm
    · have hp1 : p + 8 ≤ 8 * m := by omega
      have hp2 : (p : Int) + 8 ≤ 8 * m := by omega
      have hp3 : (8 : Int) ≤ ((8 * m - p : Nat) : Int) := by omega
      have hp4 : cap ≠ p := by omega
      have hp6 : (p : Int) ≤ 8 * (m : Int) := by omega
      have hp5 : (p : Int) + 8 ≤ cap := by omega
      clear hp
      clear HI0
      have hJd : J (List.range k) wr.drew := HJ0' HW.out.1 (below_dr (Below.refl _ _))
      have hyk := HY.out k wr.drew hkm hJd
      rw [← HP.out] at hyk
      obtain ⟨fn, tmps, assign, body, hy, hR⟩ := yield_any rfl (n - 1) hyk
      have ds : wr.drew.cell? ⟨Bs, 0, none⟩ = some (.slice (some ⟨b, off, none⟩) (8 * m) cap) := cs
      have dn : wr.drew.cell? ⟨Bn, 0, none⟩ = some (.int .i64 8) := cn
      have hsz : Bs < wr.drew.heap.size ∧ Bn < wr.drew.heap.size := ⟨(Array.getElem?_eq_some_iff.1 HW.out.2.1).1, (Array.getElem?_eq_some_iff.1 HW.out.2.2).1⟩
      have HSZ := Lib.hid hsz
      clear hJd hsz hyk
      gi_wp2_with fail
      refine wpIn_tail 6 (by kernel_rfl) (by kernel_rfl) (by kernel_rfl) ?_
      simp only [List.take_succ_cons, List.take_zero, List.drop_succ_cons, List.drop_zero]
      repeat still_step
      refine wpStill_nil ?_
      go_wp2
      refine noOut_normal ?_
      gi_wp2_with fail
      refine ⟨(fun h => by cases h), hR.mono ?_⟩
      rintro e W' (⟨rfl, h1, h2⟩ | ⟨rfl, h1⟩)
      · have hs' := (h2.2.1 HSZ.out.1).trans HW.out.2.1
        have hn' := (h2.2.2 HSZ.out.2).trans HW.out.2.2
        have es : W'.cell? ⟨Bs, 0, none⟩ = some (.slice (some ⟨b, off, none⟩) (8 * m) cap) := by simp [World.cell?, hs']
        have en : W'.cell? ⟨Bn, 0, none⟩ = some (.int .i64 8) := by simp [World.cell?, hn']
        have HF := Lib.hid (show J (List.range (k + 1)) W' ∧ W'.heap[Bs]? = some (.cells #[.slice (some ⟨b, off, none⟩) (8 * m) cap] 23 (0, 0)) ∧ W'.heap[Bn]? = some (.cells #[.int .i64 8] 3 (0, 0)) from ⟨h1, hs', hn'⟩)
        clear h1 h2 hs' hn' cs cn ds dn
        gi_wp2_with fail
        go_roundw
        case rel => exact ⟨k + 1, p + 8, hkm, by have := HP.out; omega, rfl, HF⟩
        case measure => simp only [intOf]; omega
      · have HJX := Lib.hid h1
        clear h1
        gi_wp2
        refine bodyPost_ret (v := .tuple #[]) (by simp [results, Try.results63, go_sem]) rfl ?_
        exact ⟨⟨_, rfl⟩, .inr ⟨_, HJX.out⟩⟩
    · obtain rfl : k = m := by omega
      have hp2 : (p : Int) = 8 * (k : Int) := by omega
      have hp3 : 8 * (k : Int) ≤ p := by omega
      clear hp hp2
      gi_wp2
      go_end0
      exact ⟨⟨_, rfl⟩, .inl HW.out.1⟩
end Go.Proofs.Ytpofdjnkpplimaa
