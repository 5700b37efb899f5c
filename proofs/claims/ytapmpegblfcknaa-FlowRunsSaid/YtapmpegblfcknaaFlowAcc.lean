import Derived.Test.YtapmpegblfcknaaFlowRA
import Derived.Test.YtapmpegblfcknaaFlowRL
import Derived.Test.YtapmpegblfcknaaCheckR3
set_option linter.unusedVariables false
set_option linter.unusedSimpArgs false
namespace Go.Proofs.Ytapmpegblfcknaa
open Go.RowKit Go.Shelf
/-! Accepted; numbers, of whole numbers. -/
theorem Accepted_c (A : Option Addr) (cap : Nat) (q : List I4) (hq : ∀ x ∈ q, x.ok) (hn : q.length ≤ 9223372036854775807) (w : World) (hr : Reads w w.heap.size 4 A q.length (cellsI q)) :
    Calls Try.prog 27 #[.slice A q.length cap] w fun e w' => e = .returned (.bool (isP q)) ∧ Below w.heap.size w w' := by
  have HC := Lib.hid (rIs_c A cap q hq hn w hr)
  clear hr hq
  go_enter Try.func27, Try.ntmps27
  go_wp2_with fail
  refine HC.out.mono ?_
  rintro e w' ⟨rfl, hb⟩
  go_wp2
  go_ret
  exact ⟨rfl, hb⟩
set_option maxHeartbeats 800000 in
theorem numbersI_c (A B : Option Addr) (ca cb n : Nat) (l : List Int) (hl : l.length = n) (hl2 : n ≤ 281474976710656) (w : World) (ha : Reads w w.heap.size 1 A n (numV .i64 l)) (hb : Reads w w.heap.size 1 B n (numV .i64 l)) :
    Calls Try.prog 25 #[.slice A n ca, .slice B n cb] w fun e w' => e = .returned (.bool true) ∧ Below w.heap.size w w' := by
  have HA := Lib.hid ha
  have HB := Lib.hid hb
  have HL := Lib.hid hl
  have hl' : (n : Int) ≤ 281474976710656 := by omega
  clear ha hb hl
  go_enter Try.func25, Try.ntmps25
  go_wp2_with fail
  go_loopw [5] (fun i wr => ∃ k : Nat, k ≤ n ∧ i = .int .i64 k ∧ Below w.heap.size w wr) (fun i _ => n - (intOf i).toNat)
  case atStart => exact ⟨0, by omega, rfl, Below.refl _ _⟩
  case round =>
    obtain ⟨k, hk, rfl, hB⟩ := hrel
    rcases Nat.lt_or_ge k n with hkl | hkl
    · have hkl' : (k : Int) < n := by omega
      obtain ⟨y, hy⟩ : ∃ y, l[k]? = some y := ⟨_, List.getElem?_eq_getElem (by rw [HL.out]; exact hkl)⟩
      obtain ⟨b1, o1, rfl, _, c1⟩ := (HA.out.up hB).num (x := y) (i := k) hy
      obtain ⟨b2, o2, rfl, _, c2⟩ := (HB.out.up hB).num (x := y) (i := k) hy
      clear hy
      go_wp2_with fail
      go_quiet (fail)
      go_wp2_with fail
      exact ⟨⟨k + 1, hkl, rfl, below_drN hB nq⟩, by simp only [intOf]; omega⟩
    · obtain rfl : k = n := by omega
      go_wp2
      go_ret
      exact ⟨rfl, hB⟩
theorem isP_of {q : List I4} (h : (checkP q).1 = 0) : isP q = true := by unfold isP; simpa using h
theorem isP_not {q : List I4} (h : (checkP q).1 ≠ 0) : isP q = false := by unfold isP; simpa using h
end Go.Proofs.Ytapmpegblfcknaa
