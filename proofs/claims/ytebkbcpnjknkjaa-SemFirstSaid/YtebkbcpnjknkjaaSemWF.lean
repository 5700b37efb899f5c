import Derived.Test.YtebkbcpnjknkjaaSemWE
set_option linter.unusedVariables false
set_option linter.unusedSimpArgs false
set_option maxRecDepth 100000
namespace Go.Proofs.Ytebkbcpnjknkjaa
open Go.RowKit
/-! slices.IndexFunc, ContainsFunc over expressions. (Printed by wip/gen/semwf.py.) -/
def IdxPost (x : Bool) (w : World) (e : Ending) (w' : World) : Prop := ∃ i : Int, e = .returned (.int .i64 i) ∧ decide (0 ≤ i) = x ∧ Below w.heap.size w w'
theorem any_drop {α : Type} {p : α → Bool} {l : List α} {n : Nat} {x : α} (hx : l[n]? = some x) : (l.drop n).any p = (p x || (l.drop (n + 1)).any p) := by
  have hn := (List.getElem?_eq_some_iff.1 hx).1
  rw [List.drop_eq_getElem_cons hn, List.any_cons]
  rw [List.getElem?_eq_getElem hn] at hx
  injection hx with hx
  rw [hx]
set_option maxHeartbeats 800000 in
theorem IndexM_c (d : D9) (mb : Nat) (p : ExA → Bool) (N : Nat → Prop) (A : Option Addr) (c : Nat) (l : List ExA) (hlen : l.length ≤ 9223372036854775807) (w : World) (hr : RowN w N 6 A l.length (cellsX l))
    (hcal : ∀ (i : Nat) (x : ExA) (W : World), l[i]? = some x → Below w.heap.size w W → Calls Try.prog 34 #[aVal d mb, x.val] W (BoolPost (p x) W)) : Calls Try.prog 72 #[.slice A l.length c, .func (.func 34) #[aVal d mb] #[]] w (IdxPost (l.any p) w) := by
  have HR := Lib.hid hr
  have HCAL := Lib.hid hcal
  clear hr hcal
  unfold aVal at *
  go_enter Try.func72, Try.ntmps72
  go_wp2_with fail
  go_loopw [8] (fun i wr => ∃ n : Nat, n ≤ l.length ∧ i = .int .i64 n ∧ Hid (Below w.heap.size w wr) ∧ Hid (l.any p = (l.drop n).any p)) (fun i _ => l.length - (intOf i).toNat)
  case atStart => exact ⟨0, by omega, rfl, Lib.hid (Below.refl _ _), Lib.hid rfl⟩
  case round =>
    obtain ⟨n, hn, rfl, HB, HE⟩ := hrel
    rcases Nat.lt_or_ge n l.length with hlt | hge
    · have hlt' : (n : Int) < l.length := by omega
      obtain ⟨y, hy⟩ : ∃ y, l[n]? = some y := ⟨_, List.getElem?_eq_getElem hlt⟩
      have hE := HE.out
      rw [any_drop hy] at hE
      have hcl := HCAL.out n y wr hy HB.out
      obtain ⟨q, hq⟩ : ∃ q, q = p y := ⟨_, rfl⟩
      rw [← hq] at hE hcl
      obtain ⟨yo, yA, yc, yl, yf, ym, yr, yv⟩ := y
      obtain ⟨bb, off, rfl, hbb, i0, i1, i2, i3, i4, i5⟩ := (HR.out.keep (N' := N) (fun b hb hl => ⟨hb, HB.out.block b hl⟩) (by decide)).ex hy
      unfold ExA.val BoolPost at hcl
      dsimp only at hcl
      have HCL := Lib.hid hcl
      clear hcl hy hq
      cases q with
      | true =>
        have HF : Hid (l.any p = true) := Lib.hid (by rw [hE]; rfl)
        have h0n : 0 ≤ (n : Int) := by omega
        clear hE
        go_wp2_with fail
        refine HCL.out.mono ?_
        rintro e w1 ⟨rfl, hb1⟩
        have HB1 := Lib.hid (below_t HB.out hb1)
        clear hb1
        go_wp2
        go_ret
        exact ⟨_, rfl, by rw [HF.out]; simp, HB1.out⟩
      | false =>
        have HF : Hid (l.any p = (l.drop (n + 1)).any p) := Lib.hid (by rw [hE]; rfl)
        clear hE
        go_wp2_with fail
        refine HCL.out.mono ?_
        rintro e w1 ⟨rfl, hb1⟩
        have HB1 := Lib.hid (below_t HB.out hb1)
        clear hb1
        go_wp2
        go_roundw
        case rel => exact ⟨n + 1, by omega, by go_num, HB1, HF⟩
        case measure => simp [intOf]; omega
    · obtain rfl : n = l.length := by omega
      have HF : Hid (l.any p = false) := Lib.hid (by rw [HE.out, List.drop_length]; rfl)
      go_wp2
      go_ret
      exact ⟨_, rfl, by rw [HF.out]; decide, HB.out⟩
theorem ContainsM_c (d : D9) (mb : Nat) (p : ExA → Bool) (N : Nat → Prop) (A : Option Addr) (c : Nat) (l : List ExA) (hlen : l.length ≤ 9223372036854775807) (w : World) (hr : RowN w N 6 A l.length (cellsX l))
    (hcal : ∀ (i : Nat) (x : ExA) (W : World), l[i]? = some x → Below w.heap.size w W → Calls Try.prog 34 #[aVal d mb, x.val] W (BoolPost (p x) W)) : Calls Try.prog 62 #[.slice A l.length c, .func (.func 34) #[aVal d mb] #[]] w (BoolPost (l.any p) w) := by
  have HI := Lib.hid (IndexM_c d mb p N A c l hlen w hr hcal)
  clear hr hcal
  unfold aVal at *
  go_enter Try.func62, Try.ntmps62
  go_wp2_with fail
  refine HI.out.mono ?_
  rintro e w1 ⟨i, rfl, hi, hb⟩
  have HIB := Lib.hid (And.intro hi hb)
  clear hi hb
  go_wp2
  go_ret
  exact ⟨ret_b HIB.out.1, HIB.out.2⟩
set_option maxHeartbeats 800000 in
theorem IndexC_c (g : Nat) (p : ExA → Bool) (N : Nat → Prop) (A : Option Addr) (c : Nat) (l : List ExA) (hlen : l.length ≤ 9223372036854775807) (w : World) (hr : RowN w N 6 A l.length (cellsX l))
    (hcal : ∀ (i : Nat) (x : ExA) (W : World), l[i]? = some x → Below w.heap.size w W → Calls Try.prog 63 #[x.val, .pointer (some ⟨g, 0, none⟩)] W (BoolPost (p x) W)) : Calls Try.prog 72 #[.slice A l.length c, .func (.func 63) #[] #[.pointer (some ⟨g, 0, none⟩)]] w (IdxPost (l.any p) w) := by
  have HR := Lib.hid hr
  have HCAL := Lib.hid hcal
  clear hr hcal
  skip
  go_enter Try.func72, Try.ntmps72
  go_wp2_with fail
  go_loopw [8] (fun i wr => ∃ n : Nat, n ≤ l.length ∧ i = .int .i64 n ∧ Hid (Below w.heap.size w wr) ∧ Hid (l.any p = (l.drop n).any p)) (fun i _ => l.length - (intOf i).toNat)
  case atStart => exact ⟨0, by omega, rfl, Lib.hid (Below.refl _ _), Lib.hid rfl⟩
  case round =>
    obtain ⟨n, hn, rfl, HB, HE⟩ := hrel
    rcases Nat.lt_or_ge n l.length with hlt | hge
    · have hlt' : (n : Int) < l.length := by omega
      obtain ⟨y, hy⟩ : ∃ y, l[n]? = some y := ⟨_, List.getElem?_eq_getElem hlt⟩
      have hE := HE.out
      rw [any_drop hy] at hE
      have hcl := HCAL.out n y wr hy HB.out
      obtain ⟨q, hq⟩ : ∃ q, q = p y := ⟨_, rfl⟩
      rw [← hq] at hE hcl
      obtain ⟨yo, yA, yc, yl, yf, ym, yr, yv⟩ := y
      obtain ⟨bb, off, rfl, hbb, i0, i1, i2, i3, i4, i5⟩ := (HR.out.keep (N' := N) (fun b hb hl => ⟨hb, HB.out.block b hl⟩) (by decide)).ex hy
      unfold ExA.val BoolPost at hcl
      dsimp only at hcl
      have HCL := Lib.hid hcl
      clear hcl hy hq
      cases q with
      | true =>
        have HF : Hid (l.any p = true) := Lib.hid (by rw [hE]; rfl)
        have h0n : 0 ≤ (n : Int) := by omega
        clear hE
        go_wp2_with fail
        refine HCL.out.mono ?_
        rintro e w1 ⟨rfl, hb1⟩
        have HB1 := Lib.hid (below_t HB.out hb1)
        clear hb1
        go_wp2
        go_ret
        exact ⟨_, rfl, by rw [HF.out]; simp, HB1.out⟩
      | false =>
        have HF : Hid (l.any p = (l.drop (n + 1)).any p) := Lib.hid (by rw [hE]; rfl)
        clear hE
        go_wp2_with fail
        refine HCL.out.mono ?_
        rintro e w1 ⟨rfl, hb1⟩
        have HB1 := Lib.hid (below_t HB.out hb1)
        clear hb1
        go_wp2
        go_roundw
        case rel => exact ⟨n + 1, by omega, by go_num, HB1, HF⟩
        case measure => simp [intOf]; omega
    · obtain rfl : n = l.length := by omega
      have HF : Hid (l.any p = false) := Lib.hid (by rw [HE.out, List.drop_length]; rfl)
      go_wp2
      go_ret
      exact ⟨_, rfl, by rw [HF.out]; decide, HB.out⟩
theorem ContainsC_c (g : Nat) (p : ExA → Bool) (N : Nat → Prop) (A : Option Addr) (c : Nat) (l : List ExA) (hlen : l.length ≤ 9223372036854775807) (w : World) (hr : RowN w N 6 A l.length (cellsX l))
    (hcal : ∀ (i : Nat) (x : ExA) (W : World), l[i]? = some x → Below w.heap.size w W → Calls Try.prog 63 #[x.val, .pointer (some ⟨g, 0, none⟩)] W (BoolPost (p x) W)) : Calls Try.prog 62 #[.slice A l.length c, .func (.func 63) #[] #[.pointer (some ⟨g, 0, none⟩)]] w (BoolPost (l.any p) w) := by
  have HI := Lib.hid (IndexC_c g p N A c l hlen w hr hcal)
  clear hr hcal
  skip
  go_enter Try.func62, Try.ntmps62
  go_wp2_with fail
  refine HI.out.mono ?_
  rintro e w1 ⟨i, rfl, hi, hb⟩
  have HIB := Lib.hid (And.intro hi hb)
  clear hi hb
  go_wp2
  go_ret
  exact ⟨ret_b HIB.out.1, HIB.out.2⟩
end Go.Proofs.Ytebkbcpnjknkjaa
