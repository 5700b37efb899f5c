import Derived.Test.YtebkbcpnjknkjaaSemWH
set_option linter.unusedVariables false
set_option linter.unusedSimpArgs false
set_option maxRecDepth 100000
namespace Go.Proofs.Ytebkbcpnjknkjaa
open Go.RowKit
/-! sem.Eval's closure; slices.ContainsFunc over calls. -/
theorem Eval1_c (ar : ByteArray) (d : D9) (x : CallP) (hx : 0 ≤ x.nr ∧ x.nr < 18446744073709551616) (g h : Nat) (W : World) (ha : W.cell? ⟨g, 0, none⟩ = some (.string ar)) (hd : W.cell? ⟨h, 0, none⟩ = some (.int .u32 d.nr)) :
    Calls Try.prog 32 #[x.val, .pointer (some ⟨g, 0, none⟩), .pointer (some ⟨h, 0, none⟩)] W (BoolPost ((nrP ar x).1 == d.nr) W) := by
  have hgl := World.block_lt_of_cell? W _ ha
  have hhl := World.block_lt_of_cell? W _ hd
  have HN := Lib.hid (fun w => number_c ar x hx w)
  obtain ⟨n, ok, hno⟩ : ∃ n ok, nrP ar x = (n, ok) := ⟨_, _, rfl⟩
  rw [hno] at HN ⊢
  unfold NumPost7 at HN
  obtain ⟨nm, nr⟩ := x
  unfold CallP.val at HN ⊢
  dsimp only at HN ⊢ hgl hhl
  have HD0 := Lib.hid hd
  clear hx hno
  go_enter Try.func32, Try.ntmps32
  go_wp2_with fail
  refine (HN.out _).mono ?_
  rintro e w1 ⟨rfl, hb⟩
  have k1 : w1.cell? ⟨h, 0, none⟩ = some (.int .u32 d.nr) := keepC hb (keepC (below1 W _) HD0.out)
  have HB := Lib.hid (below_t (below1 W _) hb)
  clear hb hd
  go_wp2
  go_ret
  exact ⟨rfl, HB.out⟩
set_option maxHeartbeats 800000 in
theorem IndexK_c (g h : Nat) (p : CallP → Bool) (N : Nat → Prop) (A : Option Addr) (c : Nat) (l : List CallP) (hlen : l.length ≤ 9223372036854775807) (w : World) (hr : RowN w N 2 A l.length (cellsC l))
    (hcal : ∀ (i : Nat) (x : CallP) (W : World), l[i]? = some x → Below w.heap.size w W → Calls Try.prog 32 #[x.val, .pointer (some ⟨g, 0, none⟩), .pointer (some ⟨h, 0, none⟩)] W (BoolPost (p x) W)) : Calls Try.prog 61 #[.slice A l.length c, .func (.func 32) #[] #[.pointer (some ⟨g, 0, none⟩), .pointer (some ⟨h, 0, none⟩)]] w (IdxPost (l.any p) w) := by
  have HR := Lib.hid hr
  have HCAL := Lib.hid hcal
  clear hr hcal
  go_enter Try.func61, Try.ntmps61
  go_wp2_with fail
  go_loopw [8] (fun i wr => ∃ n : Nat, n ≤ l.length ∧ i = .int .i64 n ∧ Hid (Below w.heap.size w wr) ∧ Hid (l.any p = (l.drop n).any p)) (fun i _ => l.length - (intOf i).toNat)
  case atStart => exact ⟨0, by omega, rfl, Lib.hid (Below.refl _ _), Lib.hid rfl⟩
  case round =>
    obtain ⟨n, hn, rfl, HB, HE⟩ := hrel
    rcases Nat.lt_or_ge n l.length with hlt | hge
    · have hlt' : (n : Int) < l.length := by omega
      obtain ⟨y, hy⟩ : ∃ y, l[n]? = some y := ⟨_, List.getElem?_eq_getElem hlt⟩
      have hE := HE.out
      rw [any_drop hy] at hE
      have hcl := HCAL.out n y wr hy HB.out
      obtain ⟨q, hq⟩ : ∃ q, q = p y := ⟨_, rfl⟩
      rw [← hq] at hE hcl
      obtain ⟨yn, yr⟩ := y
      obtain ⟨bb, off, rfl, hbb, i0, i1⟩ := (HR.out.keep (N' := N) (fun b hb hl => ⟨hb, HB.out.block b hl⟩) (by decide)).call hy
      unfold CallP.val BoolPost at hcl
      dsimp only at hcl
      have HCL := Lib.hid hcl
      clear hcl hy hq
      cases q with
      | true =>
        have HF : Hid (l.any p = true) := Lib.hid (by rw [hE]; rfl)
        have h0n : 0 ≤ (n : Int) := by omega
        clear hE
        go_wp2_with fail
        refine HCL.out.mono ?_
        rintro e w1 ⟨rfl, hb1⟩
        have HB1 := Lib.hid (below_t HB.out hb1)
        clear hb1
        go_wp2
        go_ret
        exact ⟨_, rfl, by rw [HF.out]; simp, HB1.out⟩
      | false =>
        have HF : Hid (l.any p = (l.drop (n + 1)).any p) := Lib.hid (by rw [hE]; rfl)
        clear hE
        go_wp2_with fail
        refine HCL.out.mono ?_
        rintro e w1 ⟨rfl, hb1⟩
        have HB1 := Lib.hid (below_t HB.out hb1)
        clear hb1
        go_wp2
        go_roundw
        case rel => exact ⟨n + 1, by omega, by go_num, HB1, HF⟩
        case measure => simp [intOf]; omega
    · obtain rfl : n = l.length := by omega
      have HF : Hid (l.any p = false) := Lib.hid (by rw [HE.out, List.drop_length]; rfl)
      go_wp2
      go_ret
      exact ⟨_, rfl, by rw [HF.out]; decide, HB.out⟩
theorem ContainsK_c (g h : Nat) (p : CallP → Bool) (N : Nat → Prop) (A : Option Addr) (c : Nat) (l : List CallP) (hlen : l.length ≤ 9223372036854775807) (w : World) (hr : RowN w N 2 A l.length (cellsC l))
    (hcal : ∀ (i : Nat) (x : CallP) (W : World), l[i]? = some x → Below w.heap.size w W → Calls Try.prog 32 #[x.val, .pointer (some ⟨g, 0, none⟩), .pointer (some ⟨h, 0, none⟩)] W (BoolPost (p x) W)) : Calls Try.prog 31 #[.slice A l.length c, .func (.func 32) #[] #[.pointer (some ⟨g, 0, none⟩), .pointer (some ⟨h, 0, none⟩)]] w (BoolPost (l.any p) w) := by
  have HI := Lib.hid (IndexK_c g h p N A c l hlen w hr hcal)
  clear hr hcal
  go_enter Try.func31, Try.ntmps31
  go_wp2_with fail
  refine HI.out.mono ?_
  rintro e w1 ⟨i, rfl, hi, hb⟩
  have HIB := Lib.hid (And.intro hi hb)
  clear hi hb
  go_wp2
  go_ret
  exact ⟨ret_b HIB.out.1, HIB.out.2⟩
theorem named_any (a : ByteArray) (nr : Int) (l : List CallP) : namedP a nr l = l.any fun x => (nrP a x).1 == nr := by
  induction l with
  | nil => rfl
  | cons x l ih => rw [namedP, ih, List.any_cons]
end Go.Proofs.Ytebkbcpnjknkjaa
