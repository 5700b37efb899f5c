import Derived.Test.YtehpoamideeehaaCheckW3
set_option linter.unusedVariables false
set_option linter.unusedSimpArgs false
namespace Go.Proofs.Ytehpoamideeehaa
open Go.RowKit
/-! check.One, check.Check: the walks. -/
def oneQ (q : List I4) (i : Nat) : Int := match q[i]? with | some x => oneP x (q.length - i - 1 : Nat) | none => 41
def oneAt (q : List I4) (i : Int) : Int := if i < 0 then 41 else oneQ q i.toNat
def lastC (q : List I4) : Int := match q[q.length - 1]? with | some x => x.c | none => 0
def checkP (q : List I4) : Int × Int :=
  if q.length = 0 ∨ 4096 < q.length then (41, 0) else
  match (List.range q.length).find? (fun i => oneQ q i != 0) with
  | some i => (oneQ q i, i)
  | none => if bits .and .u16 (lastC q) 7 = 6 then (0, 0) else (48, q.length - 1)
theorem find_some (f : Nat → Bool) (n i : Nat) (hi : i < n) (hf : f i = true) (h : ∀ j, j < i → f j = false) : (List.range n).find? f = some i := by
  rw [List.find?_range_eq_some]
  exact ⟨hf, by simpa using hi, fun j hj => by simp [h j hj]⟩
theorem find_none (f : Nat → Bool) (n : Nat) (h : ∀ j, j < n → f j = false) : (List.range n).find? f = none := by
  rw [List.find?_range_eq_none]; intro i hi; simp [h i hi]

def CheckPost (w : World) (q : List I4) (e : Ending) (w' : World) : Prop := e = .returned (.tuple #[.int .i64 (checkP q).1, .int .i64 (checkP q).2]) ∧ Below w.heap.size w w'
theorem ret_p {X : Int × Int} {a b : Int} {k k' : IntKind} (h : X = (a, b)) : Ending.returned (.tuple #[.int k a, .int k' b]) = .returned (.tuple #[.int k X.1, .int k' X.2]) := by rw [h]
theorem ret_2 {a b c d : Int} {k k' : IntKind} (h : a = c) (h' : b = d) : Ending.returned (.tuple #[.int k a, .int k' b]) = .returned (.tuple #[.int k c, .int k' d]) := by rw [h, h']
set_option maxHeartbeats 400000 in
theorem Check_c (A : Option Addr) (cap : Nat) (q : List I4) (hq : ∀ x ∈ q, x.ok) (hn : q.length ≤ 9223372036854775807) (w : World) (hr : Reads w w.heap.size 4 A q.length (cellsI q)) :
    Calls Try.prog 16 #[.slice A q.length cap] w (CheckPost w q) := by
  by_cases hL : q.length = 0 ∨ 4096 < q.length
  · have HX := Lib.hid (show checkP q = (41, 0) by unfold checkP; rw [if_pos hL])
    clear hr
    rcases hL with h | h
    · have hd : ((q.length : Int) == 0) = true := by rw [h]; rfl
      clear h
      go_enter Try.func16, Try.ntmps16
      go_wp2
      go_ret2
      exact ⟨ret_p HX.out, Below.refl _ _⟩
    · have hd : ((q.length : Int) == 0) = false := by rw [beq_eq_false_iff_ne]; omega
      have hd2 : (4096 : Int) < q.length := by omega
      clear h
      go_enter Try.func16, Try.ntmps16
      go_wp2
      go_ret2
      exact ⟨ret_p HX.out, Below.refl _ _⟩
  · have hpos : 0 < q.length := by omega
    have h4 : q.length ≤ 4096 := by omega
    have hd : ((q.length : Int) == 0) = false := by rw [beq_eq_false_iff_ne]; omega
    have hd2 : (q.length : Int) ≤ 4096 := by omega
    have HR := Lib.hid hr
    have HQ := Lib.hid hq
    have HN := Lib.hid hL
    clear hr hq hL
    go_enter Try.func16, Try.ntmps16
    go_wp2_with fail
    refine (rules_c w).mono ?_
    rintro e w1 ⟨R, rfl, hR, hb⟩
    go_wp2_with fail
    go_loopw [19] (fun i wr => ∃ n : Nat, n ≤ q.length ∧ i = .int .i64 n ∧ Below w1.heap.size w1 wr ∧ ∀ j, j < n → oneQ q j = 0) (fun i _ => q.length - (intOf i).toNat)
    case atStart => exact ⟨0, by omega, rfl, Below.refl _ _, fun i h => by omega⟩
    case round =>
      obtain ⟨n, hn6, rfl, hB, hno⟩ := hrel
      have HO := Lib.hid hno
      clear hno
      have hBw : Below w.heap.size w wr := below_t hb hB
      by_cases h6 : n < q.length
      · obtain ⟨x, hx⟩ : ∃ x, q[n]? = some x := ⟨_, List.getElem?_eq_getElem h6⟩
        have e0 : oneP x (q.length - n - 1 : Nat) = oneQ q n := by unfold oneQ; rw [hx]
        have HE := Lib.hid hx
        have HP := Lib.hid e0
        clear e0 hx
        go_wp2_with fail
        refine (one_c R A cap n q x HE.out HQ.out hn wr (hR.keep hB) (HR.out.up hBw)).mono ?_
        rw [HP.out]
        rintro e w2 ⟨rfl, hb2⟩
        have hB2 : Below w.heap.size w w2 := below_t hBw hb2
        have hB3 : Below w1.heap.size w1 w2 := below_t hB hb2
        by_cases hz : oneQ q n = 0
        · have HN' := Lib.hid (show ∀ i, i < n + 1 → oneQ q i = 0 from fun i hi => by
            rcases Nat.lt_succ_iff_lt_or_eq.1 hi with h | rfl
            · exact HO.out i h
            · exact hz)
          have hz' : (oneQ q n != 0) = false := by simpa using hz
          clear hz HO
          go_wp2
          go_roundw
          case rel => exact ⟨n + 1, by omega, by go_num, hB3, HN'.out⟩
          case measure => simp [intOf]; omega
        · have hz' : (oneQ q n != 0) = true := by simpa using hz
          have HF := Lib.hid (show checkP q = (oneQ q n, (n : Int)) by
            unfold checkP
            rw [if_neg HN.out, find_some _ _ n h6 hz' (fun j hj => by simp [HO.out j hj])])
          clear hz HO
          go_wp2
          go_ret2
          exact ⟨ret_p HF.out, hB2⟩
      · obtain ⟨x, hx⟩ : ∃ x, q[q.length - 1]? = some x := ⟨_, List.getElem?_eq_getElem (by omega)⟩
        have hno' : (List.range q.length).find? (fun i => oneQ q i != 0) = none := find_none _ _ (fun j hj => by simp [HO.out j (by omega)])
        have hl : lastC q = x.c := by unfold lastC; rw [hx]
        have hxo := HQ.out x (List.mem_of_getElem? hx)
        obtain ⟨b, off, rfl, hbl, i0, _⟩ := (HR.out.up hBw).insn hx
        have HS := Lib.hid hno'
        have HLa := Lib.hid hl
        clear hno' hl hx HO
        by_cases hz : bits .and .u16 x.c 7 = 6
        · have hz' : (bits .and .u16 x.c 7 != 6) = false := by simpa using hz
          have HF := Lib.hid (show checkP q = (0, 0) by unfold checkP; rw [if_neg HN.out, HS.out]; simp only [HLa.out, hz, if_true])
          clear hz
          go_wp2
          go_ret2
          exact ⟨ret_p HF.out, hBw⟩
        · have hz' : (bits .and .u16 x.c 7 != 6) = true := by simpa using hz
          have HF := Lib.hid (show checkP q = (48, (q.length : Int) - 1) by unfold checkP; rw [if_neg HN.out, HS.out]; simp only [HLa.out, hz, if_false])
          clear hz
          go_wp2
          go_ret2
          exact ⟨ret_p HF.out, hBw⟩
end Go.Proofs.Ytehpoamideeehaa
