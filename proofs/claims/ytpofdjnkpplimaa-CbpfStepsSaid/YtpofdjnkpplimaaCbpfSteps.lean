import Derived.Test.YtpofdjnkpplimaaCbpfHead
import Derived.Test.YtpofdjnkpplimaaCbpfSt
import Derived.Test.YtpofdjnkpplimaaOpen
set_option linter.unusedVariables false
set_option linter.unusedSimpArgs false
namespace Go.Proofs.Ytpofdjnkpplimaa
open Go.RowKit Go.ChangeShapes Go.WideShapes Go.ChangeAt
open Go.ChangeMaps (open_string shut_string)
/-! CbpfSteps. -/
/-- Two machines that are as far as each other; what the first one keeps lies as it lay. -/
def Pair (w w5 : World) (b0 BM BR : Nat) (K : MK) (K' : RK) (z : MV) (W : World) : Prop := Below w.heap.size w W ∧ (∀ b, b0 ≤ b → b < BM → W.heap[b]? = w5.heap[b]?) ∧ MachAt W BM K z ∧ RMAt W BR K' z ∧ b0 ≤ K.mb ∧ K.mb < BM ∧ BM < BR ∧ w.heap.size ≤ b0 ∧ DoesAt W K.mb
section
variable {w w5 W V : World} {b0 BM BR : Nat} {K : MK} {K' : RK} {z z' : MV}
theorem Pair.keep (h : Pair w w5 b0 BM BR K K' z W) (hb : Below W.heap.size W V) : Pair w w5 b0 BM BR K K' z V := by
  obtain ⟨h1, h2, h3, h4, h5, h6, h7, h8, h9⟩ := h
  exact ⟨below_t h1 hb, fun b c1 c2 => (hb.block b (by have := h3.lt; omega)).trans (h2 b c1 c2), h3.keep hb, h4.keep hb, h5, h6, h7, h8, h9.kept (row := none) ⟨hb.os, hb.tape, hb.output, hb.size, fun k hk _ => hb.block k hk⟩ (by simp)⟩
theorem Pair.set (h : Pair w w5 b0 BM BR K K' z W) {g j : Nat} {v : Value} (hg : w.heap.size ≤ g) (c1 : g < b0 ∨ BM < g) (c3 : g ≠ BR) : Pair w w5 b0 BM BR K K' z (W.setCell ⟨g, j, none⟩ v) := by
  obtain ⟨h1, h2, h3, h4, h5, h6, h7, h8, h9⟩ := h
  exact ⟨h1.setCell (p := ⟨g, j, none⟩) hg _, fun b d1 d2 => (Below.heap_setCell _ _ _ _ (show b ≠ g by omega)).trans (h2 b d1 d2), ⟨h3.1, (Below.heap_setCell _ _ _ _ (show BM ≠ g by omega)).trans h3.2⟩, ⟨h4.1, (Below.heap_setCell _ _ _ _ (show BR ≠ g by omega)).trans h4.2⟩, h5, h6, h7, h8,
    h9.kept (row := some g) ⟨rfl, rfl, rfl, by simp, fun k _ hk => Below.heap_setCell _ _ _ k (fun e => hk (by rw [e]))⟩ (by simp; omega)⟩
theorem Pair.drewN (h : Pair w w5 b0 BM BR K K' z W) (n : Nat) : Pair w w5 b0 BM BR K K' z (W.drewN n) := h.keep (below_drN (Below.refl _ _) n)
theorem below_row {w W V : World} {B : Nat} (hb : Below w.heap.size w W) (hg : W.grownBy V (some B)) (hB : w.heap.size ≤ B) : Below w.heap.size w V := below_gr hb hg hb.size (fun k hk => by have := Option.some.inj hk; omega)
/-- A step of both. -/
theorem Pair.step {U : World} (h : Pair w w5 b0 BM BR K K' z W) (hm : MachAt V BM K z') (hg : W.grownBy V (some BM)) (hr : RMAt U BR K' z') (hg' : V.grownBy U (some BR)) : Pair w w5 b0 BM BR K K' z' U := by
  obtain ⟨h1, h2, h3, h4, h5, h6, h7, h8, h9⟩ := h
  have hl := h3.lt
  have hs := hg.size
  exact ⟨below_row (below_row h1 hg (by omega)) hg' (by omega), fun b d1 d2 => (hg'.block b (by omega) (by simp; omega)).trans ((hg.block b (by omega) (by simp; omega)).trans (h2 b d1 d2)), ⟨hm.1, (hg'.block BM (by omega) (by simp; omega)).trans hm.2⟩, hr, h5, h6, h7, h8,
    (h9.kept hg (by simp; omega)).kept hg' (by simp; omega)⟩
end
theorem Reads.from5 {w5 W : World} {b0 BM size n : Nat} {A : Option Addr} {xs : List Value} (h : Reads w5 BM size A n xs) (hA : 0 < n → ∃ g, A = some ⟨g, 0, none⟩ ∧ b0 ≤ g) (hk : ∀ b, b0 ≤ b → b < BM → W.heap[b]? = w5.heap[b]?) : Reads W BM size A n xs :=
  ⟨h.1, fun hn => by
    obtain ⟨b, off, e, hb, hc⟩ := h.2 hn
    obtain ⟨g, e', hg⟩ := hA hn
    rw [e] at e'
    injection e' with e'
    injection e' with e1 e2
    refine ⟨b, off, e, hb, fun j u hu => ?_⟩
    rw [← hc j u hu]
    exact World.cell?_of_block (a := ⟨b, off + j, none⟩) (hk b (by omega) hb)⟩
theorem MEnv.from5 {w5 W : World} {b0 BM : Nat} {K : MK} {q : List I4} {d : List Int} (h : MEnv w5 BM K q d) (hf : MFresh b0 K q d) (hk : ∀ b, b0 ≤ b → b < BM → W.heap[b]? = w5.heap[b]?) (hd : DoesAt W K.mb) : MEnv W BM K q d := by
  obtain ⟨h1, h2, h3, h4, h5, h6⟩ := h
  obtain ⟨f1, f2, f3⟩ := hf
  exact ⟨h1, h2, h3.from5 f1 hk, h4.from5 f2 hk, h5, hd⟩
theorem next_done {q : List I4} {d : List Int} (z : CS) : (MV.of z).through = z.done := rfl
set_option maxRecDepth 100000 in
set_option maxHeartbeats 3200000 in
theorem CbpfSteps_w (A : Option Addr) (cap : Nat) (q : List I4) (A1 : Option Addr) (cap1 : Nat) (dat : List Int) (many : Int) (w : World) (hq : ∀ x ∈ q, x.ok) (hc : q.length ≤ cap) (hA : A = none → cap = 0) (hB : q.length * 8 ≤ 140737488351232) (hr : Reads w w.heap.size 4 A q.length (cellsI q))
    (hq1 : ∀ x ∈ dat, 0 ≤ x ∧ x < 256) (hc1 : dat.length ≤ cap1) (hA1 : A1 = none → cap1 = 0) (hB1 : dat.length * 1 ≤ 140737488351232) (hr1 : Reads w w.heap.size 1 A1 dat.length (numV .u8 dat)) (hmany : -9223372036854775808 ≤ many ∧ many ≤ 9223372036854775807) :
    Calls Try.prog 7 #[.slice A q.length cap, .slice A1 dat.length cap1, .int .i64 many] w fun e w' => e = .returned (.bool true) ∧ Below w.heap.size w w' := by
  have HR := Lib.hid hr
  have HQ := Lib.hid hq
  have HR1 := Lib.hid hr1
  have HQ1 := Lib.hid hq1
  have HA := Lib.hid hA
  have HA1 := Lib.hid hA1
  have hql : (q.length : Int) ≤ 17592186043904 := by omega
  have hdl : (dat.length : Int) ≤ 140737488351232 := by omega
  clear hr hq hA hr1 hq1 hA1 hmany
  obtain ⟨i0, HI⟩ : ∃ i0, Hid (Try.prog.info? 5 = some i0 ∧ i0.zero = some (.int .u8 0) ∧ i0.size = 1 ∧ i0.bytes = 1) := by
    obtain ⟨i0, hi, hz0, hz1, hz2⟩ := info_parts infoU8
    exact ⟨i0, Lib.hid ⟨hi, hz0, hz1, hz2⟩⟩
  go_enter Try.func7, Try.ntmps7
  go_wp2_with fail
  refine (Head03_c w).mono ?_
  rintro e w1 ⟨rfl, hb1⟩
  go_wp2_with fail
  refine (Lent_c A cap q HA.out hc hB w1 (HR.out.up hb1)).mono ?_
  rintro e W2 ⟨g, cap2, rfl, hL, hb2⟩
  have hb2' := below_t hb1 hb2
  have hgl : g < W2.heap.size := by
    rcases hL.1.2 with ⟨h, _⟩ | ⟨g', cap', cur, h, _, hh, _⟩
    · cases h
    · injection h with h; injection h with h; injection h with h; subst h; exact (Array.getElem?_eq_some_iff.1 hh).1
  have hge : w.heap.size ≤ g := by have := own_ge hL.1 g (by simp [Value.ownBlock]); have := hb1.size; omega
  have HL := Lib.hid hL
  have HB1 := Lib.hid hb1
  have hcap2 : q.length + 1 ≤ cap2 := hL.2
  have hown0 := bytes_own0 W2
  clear hb2 hL hb1
  have tok : True := trivial
  go_wp2_with (at_builtin; have _t := tok; clear tok; refine wpList_app rfl (.tmp 31) (.tmp 32) 23 rfl W2.heap.size 5 i0 _ 1 1 Try.underlying23 HI.out.1 HI.out.2.1 HI.out.2.2.1 HI.out.2.2.2 rfl (by decide) _ 0 [] rfl hown0 A1 W2.heap.size dat.length cap1 (numV .u8 dat) rfl HA1.out ((HR1.out.up hb2').alloc (Nat.le_refl _) _) (by intro u hu; simp only [numV, List.mem_map] at hu; obtain ⟨x, _, rfl⟩ := hu; rfl) (by simp only [maxLen]; omega) (by omega) (by simp) ?_; intro v1 w4 hown1 hg1 hnil; have hb4 : Below W2.heap.size W2 w4 := below_gr (below1 W2 _) hg1 (by simp) (fun k hk => by have := own_ge hown0 k hk; omega); obtain ⟨g1, cap3, hv1⟩ : ∃ g1 cap3, v1 = .slice (some ⟨g1, 0, none⟩) dat.length cap3 := (by rcases hown1.2 with ⟨h, _⟩ | ⟨g', cap', cur, h, _⟩; exact absurd (hnil.1 h).1 (by intro e; cases e); exact ⟨g', cap', by simpa using h⟩); subst hv1; (simp only [Nat.zero_add, List.nil_append] at hown1); have hcap3 := own_cap hown1; have HO := Lib.hid hown1; have hb4' := below_t hb2' hb4; clear hnil hg1 hown1 hown0)
  have hg1l : g1 < w4.heap.size := by
    rcases HO.out.2 with ⟨h, _⟩ | ⟨g', cap', cur, h, _, hh, _⟩
    · cases h
    · injection h with h; injection h with h; injection h with h; subst h; exact (Array.getElem?_eq_some_iff.1 hh).1
  have hg1e : W2.heap.size ≤ g1 := own_ge HO.out g1 (by simp [Value.ownBlock])
  have hs24 := hb4.size
  have hsw2 := hb2'.size
  have HL4 := Lib.hid (HL.out.keep hb4)
  have HB4 := Lib.hid hb4'
  clear HL hb4 hb4' hb2'
  refine (New_b (some ⟨g, 0, none⟩) cap2 q (some ⟨g1, 0, none⟩) cap3 dat (fun h => by cases h) (by omega) (by omega) (fun h => by cases h) hcap3 hB1 w4 HL4.out.readsQ (Reads.of_own HO.out)).mono ?_
  rintro e w5 ⟨BM, K, rfl, hm5, he5, hf5, hBM, hb5⟩
  have HL5 := Lib.hid (HL4.out.keep hb5)
  have HO5 := Lib.hid (HO.out.kept (row := none) ⟨hb5.os, hb5.tape, hb5.output, hb5.size, fun k hk _ => hb5.block k hk⟩ (.inr (by simp [Value.ownBlock])))
  have HB5 := Lib.hid (below_t HB4.out hb5)
  have HM5 := Lib.hid hm5
  have HE5 := Lib.hid he5
  have HF5 := Lib.hid hf5
  have hBM5 := hm5.lt
  clear hm5 he5 hf5 hb5
  go_wp2_with fail
  refine (rNew_c A cap q A1 cap1 dat w5 (HR.out.up HB5.out) (HR1.out.up HB5.out)).mono ?_
  rintro e w6 ⟨rfl, hm6, he6, hb6⟩
  obtain ⟨K', HK'⟩ : ∃ K' : RK, Hid ((⟨A, q.length, cap, A1, dat.length, cap1⟩ : RK) = K') := ⟨_, Lib.hid rfl⟩
  rw [HK'.out] at hm6 he6
  obtain ⟨BR, hBR⟩ : ∃ BR, BR = w5.heap.size := ⟨_, rfl⟩
  rw [← hBR] at hm6 he6 ⊢
  have hBMR : BM < BR := by omega
  have hw4BR : w4.heap.size ≤ BM := hBM
  have hdo6 : DoesAt w6 K.mb := HE5.out.2.2.2.2.2.kept (row := none) ⟨hb6.os, hb6.tape, hb6.output, hb6.size, fun k hk _ => hb6.block k hk⟩ (by simp)
  have HP := Lib.hid (show Pair w w6 w4.heap.size BM BR K K' (MV.of CS.zero) w6 from ⟨below_t HB5.out hb6, fun _ _ _ => rfl, HM5.out.keep hb6, hm6, HF5.out.2.2, HE5.out.2.2.2.2.1, hBMR, by omega, hdo6⟩)
  have HE6 := Lib.hid (show MEnv w6 BM K q dat from HE5.out.from5 HF5.out (fun b h1 h2 => hb6.block b (by omega)) hdo6)
  have HL6 := Lib.hid (HL5.out.keep hb6)
  have HO6 := Lib.hid (HO5.out.kept (row := none) ⟨hb6.os, hb6.tape, hb6.output, hb6.size, fun k hk _ => hb6.block k hk⟩ (.inr (by simp [Value.ownBlock])))
  clear hm6 he6 hb6 hBR hdo6 HL5 HO5 HM5 HE5 HL4 HO HB4
  go_wp2_with fail
  go_loopw [12] (fun i wr => ∃ n : Nat, n ≤ q.length ∧ i = .int .i64 n ∧ Hid (Pair w w6 w4.heap.size BM BR K K' (MV.of CS.zero) wr ∧ (∃ xs, wr.ownsRow w1.heap.size 34 4 (.slice (some ⟨g, 0, none⟩) (q.length + 1) cap2) (q.length + 1) xs) ∧ wr.ownsRow W2.heap.size 5 1 (.slice (some ⟨g1, 0, none⟩) dat.length cap3) dat.length (numV .u8 dat))) (fun i _ => q.length - (intOf i).toNat)
  case atStart => exact ⟨0, by omega, rfl, Lib.hid ⟨HP.out, ⟨_, HL6.out.1⟩, HO6.out⟩⟩
  case round =>
    obtain ⟨n, hn, rfl, HI1⟩ := hrel
    rcases Nat.lt_or_ge n q.length with hlt | hlt
    · obtain ⟨hp, ⟨xs, hx⟩, ho⟩ := HI1.out
      have hlt' : (n : Int) < q.length := by omega
      obtain ⟨u, hu⟩ : ∃ u, wr.cell? ⟨g, n * 4, none⟩ = some u := ⟨_, (hx.cellAt (n * 4) (by omega)).trans (List.getElem?_eq_getElem (by rw [hx.1]; omega))⟩
      have hf := hx.frozenAt (n * 4)
      have HX := Lib.hid hx
      have HPP := Lib.hid hp
      have HOO := Lib.hid ho
      clear hp hx ho
      go_wp2_with fail
      refine ⟨⟨n + 1, hlt, rfl, Lib.hid ⟨HPP.out.set (by omega) (.inl (by omega)) (by omega), ⟨_, (HX.out.stored _ _).1⟩, ?_⟩⟩, by simp only [intOf]; omega⟩
      exact HOO.out.kept (row := some g) ⟨rfl, rfl, rfl, by simp, fun k _ hk => Below.heap_setCell _ _ _ k (fun e => hk (by rw [e]))⟩ (.inr (by simp [Value.ownBlock]; omega))
    · obtain rfl : n = q.length := by omega
      go_wp2_with fail
      have HI2 := Lib.hid (show Pair w w6 w4.heap.size BM BR K K' (MV.of CS.zero) wr ∧ (∃ bs : List Int, bs.length = dat.length ∧ (∀ x ∈ bs, 0 ≤ x ∧ x < 256) ∧ wr.ownsRow W2.heap.size 5 1 (.slice (some ⟨g1, 0, none⟩) dat.length cap3) dat.length (numV .u8 bs)) from ⟨HI1.out.1, dat, rfl, HQ1.out, HI1.out.2.2⟩)
      clear HI1 HP HL6 HO6
      go_loopw [13] (fun i wr => ∃ n : Nat, n ≤ dat.length ∧ i = .int .i64 n ∧ Hid (Pair w w6 w4.heap.size BM BR K K' (MV.of CS.zero) wr ∧ (∃ bs : List Int, bs.length = dat.length ∧ (∀ x ∈ bs, 0 ≤ x ∧ x < 256) ∧ wr.ownsRow W2.heap.size 5 1 (.slice (some ⟨g1, 0, none⟩) dat.length cap3) dat.length (numV .u8 bs)))) (fun i _ => dat.length - (intOf i).toNat)
      case atStart => exact ⟨0, by omega, rfl, HI2⟩
      case round =>
        obtain ⟨n, hn, rfl, HI3⟩ := hrel
        clear HI2
        rcases Nat.lt_or_ge n dat.length with hlt | hlt
        · obtain ⟨hp, bs, hbl, hbo, ho⟩ := HI3.out
          have hlt' : (n : Int) < dat.length := by omega
          obtain ⟨x, hx⟩ : ∃ x, bs[n]? = some x := ⟨_, List.getElem?_eq_getElem (by omega)⟩
          obtain ⟨x0, x1⟩ := hbo x (List.mem_of_getElem? hx)
          have hcx : wr.cell? ⟨g1, n, none⟩ = some (.int .u8 x) := by rw [ho.cellAt n (by omega)]; simp [numV, hx]
          have hf := ho.frozenAt n
          have HPP := Lib.hid hp
          have HBL := Lib.hid hbl
          have HBO := Lib.hid hbo
          have HOO := Lib.hid ho
          clear hp ho hbl hbo hx
          go_wp2_with fail
          refine ⟨⟨n + 1, hlt, rfl, Lib.hid ⟨HPP.out.set (by omega) (.inl (by omega)) (by omega), bs.set n ((x + 1) % 256), by simp [HBL.out], ?_, ?_⟩⟩, by simp only [intOf]; omega⟩
          · intro y hy
            rcases List.mem_or_eq_of_mem_set hy with h | rfl
            · exact HBO.out y h
            · omega
          · have h := (HOO.out.stored n (.int .u8 ((x + 1) % 256))).1
            have e : (numV .u8 bs).set n (.int .u8 ((x + 1) % 256)) = numV .u8 (bs.set n ((x + 1) % 256)) := by simp [numV, List.map_set]
            rwa [e] at h
        · obtain rfl : n = dat.length := by omega
          have HP3 := Lib.hid HI3.out.1
          clear HI3
          go_wp2_with fail
          clear hc1 HA HA1 hcap2 hcap3 hg1l hg1e hs24 HB1 HB5 hB1 hdl hgl hge hc HI
          go_loopw [14] (fun i wr => ∃ k : Nat, k ≤ q.length + 2 ∧ i = .int .i64 k ∧ Hid (∃ z : CS, z.ok q ∧ Pair w w6 w4.heap.size BM BR K K' (MV.of z) wr)) (fun i _ => q.length + 2 - (intOf i).toNat)
          case atStart => exact ⟨0, by omega, rfl, Lib.hid ⟨CS.zero, CS.zero_ok q, HP3.out⟩⟩
          case round =>
            obtain ⟨k, hk, rfl, HZ⟩ := hrel
            clear HP3
            rcases Nat.lt_or_ge k (q.length + 2) with hlt3 | hlt3
            · obtain ⟨z, hzo, hp⟩ := HZ.out
              have hlt' : (k : Int) ≤ (q.length : Int) + 1 := by omega
              obtain ⟨v, hv⟩ : ∃ v, v = MV.of z := ⟨_, rfl⟩
              rw [← hv] at hp
              have HV := Lib.hid hv
              have HZO := Lib.hid hzo
              have HP := Lib.hid hp
              have hbrl := hp.2.2.2.1.lt
              clear HZ hzo hp hv
              go_wp2_with fail
              refine (State_c BM K v wr HP.out.2.2.1).mono ?_
              rintro e w7 ⟨gl, cl, rfl, hown, hb7⟩
              have HP7 := Lib.hid (HP.out.keep hb7)
              have y2 := HP7.out.2.2.2.1.c2
              have y3 := HP7.out.2.2.2.1.c3
              have y20 := HP7.out.2.2.2.1.c20
              have hgl := own_ge hown gl (by simp [Value.ownBlock])
              have hml := HP.out.2.2.1.1
              have HOW := Lib.hid hown
              clear hown hb7
              go_wp2_with fail
              have HI4 := Lib.hid (show Pair w w6 w4.heap.size BM BR K K' v w7 ∧ (∃ us : List Int, us.length = 16 ∧ (∀ l, 0 ≤ l → us[l]? = v.m[l]?) ∧ w7.ownsRow wr.heap.size 26 1 (.slice (some ⟨gl, 0, none⟩) 16 cl) 16 (numV .u32 us)) from ⟨HP7.out, v.m, hml, fun _ _ => rfl, HOW.out⟩)
              clear HP7 HOW y2 y3 y20
              go_loopw [19] (fun i wi => ∃ j : Nat, j ≤ 16 ∧ i = .int .i64 j ∧ Hid (Pair w w6 w4.heap.size BM BR K K' v wi ∧ (∃ us : List Int, us.length = 16 ∧ (∀ l, j ≤ l → us[l]? = v.m[l]?) ∧ wi.ownsRow wr.heap.size 26 1 (.slice (some ⟨gl, 0, none⟩) 16 cl) 16 (numV .u32 us)))) (fun i _ => 16 - (intOf i).toNat)
              case atStart => exact ⟨0, by omega, rfl, HI4⟩
              case round =>
                obtain ⟨j, hj, rfl, HI5⟩ := hrel
                clear HI4
                rename World => wi
                rcases Nat.lt_or_ge j 16 with hj6 | hj6
                · obtain ⟨hp, us, hul, hus, ho⟩ := HI5.out
                  have hj6' : (j : Int) < 16 := by omega
                  obtain ⟨x, hx⟩ : ∃ x, x = getN v.m j := ⟨_, rfl⟩
                  have hxm : v.m[j]? = some x := by rw [hx]; unfold getN; rw [List.getD_eq_getElem?_getD, List.getElem?_eq_getElem (by omega)]; rfl
                  have hcx : wi.cell? ⟨gl, j, none⟩ = some (.int .u32 x) := by rw [ho.cellAt j (by omega)]; simp [numV, hus j (Nat.le_refl _), hxm]
                  have hcy : wi.cell? ⟨BR, 4 + j, none⟩ = some (.int .u32 x) := by rw [hx]; exact hp.2.2.2.1.cm hj6
                  have hf := ho.frozenAt j
                  have HPP := Lib.hid hp
                  have HUL := Lib.hid hul
                  have HUS := Lib.hid hus
                  have HOO := Lib.hid ho
                  clear hp ho hul hus hx hxm HI5
                  go_wp2_with fail
                  go_quiet (fail)
                  go_wp2_with fail
                  have hb0 := HPP.out.2.2.2.2.2.2.2.1
                  refine ⟨⟨j + 1, hj6, rfl, Lib.hid ⟨(HPP.out.drewN nq).set (by omega) (.inr (by omega)) (by omega), us.set j ((x + 1) % 4294967296), by simp [HUL.out], fun l hl => ?_, ?_⟩⟩, by simp only [intOf]; omega⟩
                  · rw [List.getElem?_set_ne (by omega)]; exact HUS.out l (by omega)
                  · have h := (show (wi.drewN nq).ownsRow wr.heap.size 26 1 (.slice (some ⟨gl, 0, none⟩) 16 cl) 16 (numV .u32 us) from HOO.out).stored j (.int .u32 ((x + 1) % 4294967296))
                    have e : (numV .u32 us).set j (.int .u32 ((x + 1) % 4294967296)) = numV .u32 (us.set j ((x + 1) % 4294967296)) := by simp [numV, List.map_set]
                    rw [e] at h
                    exact h.1
                · obtain rfl : j = 16 := by omega
                  have HP5 := Lib.hid HI5.out.1
                  clear HI5
                  have e1 : Calls Try.prog 20 #[.pointer (some ⟨BM, 0, none⟩)] wi (AnsPost wi z.answer) := Answer_c BM K z wi (HV.out ▸ HP5.out.2.2.1)
                  have HE1 := Lib.hid e1
                  clear e1
                  have HS1 := Lib.hid (fun (W : World) (h : Pair w w6 w4.heap.size BM BR K K' v W) => Step_c BM K q dat z W (HV.out ▸ h.2.2.1) (HE6.out.from5 HF5.out h.2.1 h.2.2.2.2.2.2.2.2) HZO.out HQ.out HQ1.out (by omega))
                  have HS2 := Lib.hid (fun (W V : World) (h : Pair w w6 w4.heap.size BM BR K K' v W) (hg : W.grownBy V (some BM)) => (show Calls Try.prog 23 #[.pointer (some ⟨BR, 0, none⟩)] V (RStepPost V BR K' (MV.of (z.next q dat))) from by
                    have hm := h.2.2.1.lt
                    have hr := h.2.2.2.1.lt
                    have hbw := below_row h.1 hg (by have := h.2.2.2.2.2.2.2.1; omega)
                    have hb0 := h.2.2.2.2.2.2.2.1
                    have hR : RMAt V BR K' (MV.of z) := HV.out ▸ ⟨h.2.2.2.1.1, (hg.block BR hr (by simp; omega)).trans h.2.2.2.1.2⟩
                    refine rStep_c BR K' q dat z V hR ?_ HZO.out HQ.out HQ1.out (by omega)
                    rw [← HK'.out]
                    exact ⟨rfl, rfl, (HR.out.below hbw).more (by omega), (HR1.out.below hbw).more (by omega)⟩))
                  have HTH := Lib.hid (show v.through = z.done from by rw [HV.out]; rfl)
                  go_wp2_with fail
                  refine HE1.out.mono ?_
                  rintro e w8 ⟨rfl, n1, rfl⟩
                  obtain ⟨⟨r1, r2, r3, r4⟩, hAN⟩ : ∃ R, R = z.answer := ⟨_, rfl⟩
                  have hnd : v.through = false → r1 = 0 ∧ r4 = 0 := fun h => by
                    rw [HTH.out] at h
                    obtain ⟨-, a1, a2⟩ := HZO.out.2.2.2.1 h
                    unfold CS.answer at hAN
                    rw [if_neg (by rw [a1]; decide), a2] at hAN
                    exact ⟨congrArg (fun r : Res4 => r.1) hAN, congrArg (fun r : Res4 => r.2.2.2) hAN⟩
                  have HAN := Lib.hid hAN
                  have HND := Lib.hid hnd
                  have HP8 := Lib.hid (HP5.out.drewN n1)
                  rw [← HAN.out]
                  simp only [ret4]
                  clear hAN hnd HE1 HP5
                  go_wp2_with fail
                  refine (rAnswer_c BR K' z (wi.drewN n1) (HV.out ▸ HP8.out.2.2.2.1)).mono ?_
                  rintro e w9 ⟨rfl, n2, rfl⟩
                  have HP9 := Lib.hid (HP8.out.drewN n2)
                  rw [← HAN.out]
                  simp only [ret4]
                  obtain ⟨W9, hW9⟩ : ∃ W9, W9 = (wi.drewN n1).drewN n2 := ⟨_, rfl⟩
                  rw [← hW9] at HP9 ⊢
                  clear hW9 HP8
                  have y22 := HP9.out.2.2.2.1.c22
                  cases hth : v.through with
                  | false =>
                    obtain ⟨rfl, rfl⟩ := HND.out hth
                    rw [hth] at y22
                    clear hth
                    go_wp2_with fail
                    obtain ⟨t, ht⟩ : ∃ t, t = (MV.of (z.next q dat)).through := ⟨_, rfl⟩
                    have HT := Lib.hid ht
                    clear ht
                    refine (HS1.out W9 HP9.out).mono ?_
                    rintro e w10 ⟨rfl, hm10, hg10⟩
                    have HS3 := Lib.hid (HS2.out W9 w10 HP9.out hg10)
                    have HM10 := Lib.hid hm10
                    have HG10 := Lib.hid hg10
                    rw [← HT.out]
                    clear hm10 hg10 y22
                    go_wp2_with fail
                    refine HS3.out.mono ?_
                    rintro e w11 ⟨rfl, hm11, hg11⟩
                    rw [← HT.out]
                    have HP11 := Lib.hid (HP9.out.step HM10.out HG10.out hm11 hg11)
                    clear hm11 hg11
                    go_wp2_with fail
                    exact ⟨⟨k + 1, by omega, rfl, Lib.hid ⟨z.next q dat, CS.next_ok HQ1.out HQ.out HZO.out, HP11.out⟩⟩, by simp only [intOf]; omega⟩
                  | true =>
                    rw [hth] at y22
                    clear hth
                    go_wp2_with fail
                    obtain ⟨t, ht⟩ : ∃ t, t = (MV.of (z.next q dat)).through := ⟨_, rfl⟩
                    have HT := Lib.hid ht
                    clear ht
                    refine (HS1.out W9 HP9.out).mono ?_
                    rintro e w10 ⟨rfl, hm10, hg10⟩
                    have HS3 := Lib.hid (HS2.out W9 w10 HP9.out hg10)
                    have HM10 := Lib.hid hm10
                    have HG10 := Lib.hid hg10
                    rw [← HT.out]
                    clear hm10 hg10 y22
                    go_wp2_with fail
                    refine HS3.out.mono ?_
                    rintro e w11 ⟨rfl, hm11, hg11⟩
                    rw [← HT.out]
                    have HP11 := Lib.hid (HP9.out.step HM10.out HG10.out hm11 hg11)
                    clear hm11 hg11
                    go_wp2_with fail
                    exact ⟨⟨k + 1, by omega, rfl, Lib.hid ⟨z.next q dat, CS.next_ok HQ1.out HQ.out HZO.out, HP11.out⟩⟩, by simp only [intOf]; omega⟩
            · obtain rfl : k = q.length + 2 := by omega
              obtain ⟨z, -, hp⟩ := HZ.out
              have hb := hp.1
              clear HZ hp
              go_wp2
              refine bodyPost_ret (v := .bool true) (by simp [results, Try.results7, go_sem]) rfl ⟨rfl, hb⟩
/-! ### the row of CbpfSteps -/
set_option maxRecDepth 100000 in
theorem CbpfSteps_lifted (os : Os) (started : os.Started) (H : Type) (enc : TypeId × Value → H) :
    ReturnsInHanded {} Try.checked os 7 .any (Rows.cbpfStepsSpec.pre6 enc Try.prog Try.f7 Rows.cbpfStepsRow.domain false) (Rows.cbpfStepsSpec.post enc Try.prog Try.f7 false true false false) := by
  refine returnsInHanded_of_change_sized (C := Try.checked) ownNone started (by kernel_rfl) Try.func7
    (ChangeSpec.witness6 (enc := enc) (C := Try.checked) false ⟨#[], #[.slice none 0 0, .slice none 0 0, .int .i64 0], []⟩ 8 (by kernel_rfl) (by kernel_rfl) (by kernel_rfl) (by kernel_rfl)) ?_
  intro W base args ds gs before hval0 hW hcnd hsz0 _
  have hsz : (DataW.weightsEach Try.prog (Try.f7.params.toList ++ Rows.cbpfStepsSpec.plain.varTypes Try.prog) (ds ++ gs)).all (· ≤ reachBytes) = true := hsz0
  have hval : ∀ (j : Nat) t v, Try.f7.params[j]? = some t → args[j]? = some v → Value.okWide Try.prog W .any base t v := hval0
  have hW' := hW
  obtain ⟨p, q, hA0, hV, rfl, hfz, hnd⟩ := hW
  have hA : DataW.TrodAll enc Try.prog W 0 (fun _ => true) true Try.f7.params.toList args.toList ds p := hA0
  rw [Try.params7] at hA hval hsz
  obtain ⟨v0, vs0, d0, ds0, p0, q0, hargs, rfl, rfl, h0, r0⟩ := trodAll_cons hA
  obtain ⟨v1, vs1, d1, ds1, p1, q1, rfl, rfl, rfl, h1, r1⟩ := trodAll_cons r0
  obtain ⟨v2, vs2, d2, ds2, p2, q2, rfl, rfl, rfl, h2, r2⟩ := trodAll_cons r1
  obtain ⟨rfl, rfl, rfl⟩ := trodAll_nil r2
  obtain rfl : args = #[v0, v1, v2] := by cases args; simp_all
  obtain ⟨rfl, rfl⟩ := trodVars_none hV
  obtain ⟨a0, len0, cap0, rfl⟩ := okWide_slice Try.underlying22 (hval 0 22 v0 rfl rfl)
  have k0 := h0
  have lt0 : ∀ x ∈ p0, x.block < W.heap.size := by obtain ⟨m, hm⟩ := k0; exact DataW.trod_lt m _ _ _ hm
  obtain ⟨xs0, hl0, hr0, ho0, hc0, ha0, hb0⟩ := open_rows (α := I4) (j := 0) I4.cells I4.ok 4 8 Try.underlying22 (by kernel_rfl) (by decide) (fun _ => rfl) (by kernel_rfl) insn_cells hsz rfl rfl h0
  subst hl0
  obtain ⟨a1, len1, cap1, rfl⟩ := okWide_slice Try.underlying23 (hval 1 23 v1 rfl rfl)
  have k1 := h1
  have lt1 : ∀ x ∈ p1, x.block < W.heap.size := by obtain ⟨m, hm⟩ := k1; exact DataW.trod_lt m _ _ _ hm
  obtain ⟨xs1, hl1, hr1, ho1, hc1, ha1, hb1⟩ := open_rows (α := Int) (j := 1) (fun x : Int => [Value.int .u8 x]) (fun x : Int => 0 ≤ x ∧ x < 256) 1 1 Try.underlying23 (by kernel_rfl) (by decide) (fun _ => rfl) (by kernel_rfl) (int_cells Try.underlying5 (fun h => wf_u8 h)) hsz rfl rfl h1
  subst hl1
  obtain ⟨x2, rfl, rfl, rfl, w2⟩ := open_int Try.underlying3 (hval 2 3 v2 rfl rfl) h2
  clear hA0 hval0 hsz0 hsz
  refine (CbpfSteps_w a0 cap0 xs0 a1 cap1 xs1 x2 W ho0 hc0 ha0 hb0 hr0 ho1 hc1 ha1 hb1 (reads_num hr1) (wf_i64 w2)).mono fun e W' ⟨he, bel⟩ => ?_
  subst he
  exact ⟨_, rfl, _, _, _, [], _, [], hW', trodAll_mk1 (shut_bool Try.underlying4 _), (trodAll_cons_mk (Below.trod laidOutB_ (by kernel_rfl) (of_decide_eq_true (by kernel_rfl)) k0 bel lt0) (trodAll_cons_mk (Below.trod laidOutB_ (by kernel_rfl) (of_decide_eq_true (by kernel_rfl)) k1 bel lt1) (trodAll_cons_mk (shut_int Try.underlying3 w2) trodAll_mk0))), rfl, bel.frame _, fun h => by cases h⟩
theorem CbpfSteps_holds : Rows.CbpfStepsSaid :=
  OpenClaim.holds_of_wide 7 Try.f7 rfl rfl rfl rfl rfl rfl rfl ⟨rfl, rfl, rfl, rfl, rfl⟩ rfl rfl rfl rfl rfl (by kernel_rfl) Try.func7 (by kernel_rfl)
    (of_decide_eq_true (by kernel_rfl)) (by unfold Func.isWrapper; first | (rw [if_pos (by decide +kernel)]; kernel_rfl) | (rw [if_neg (by decide +kernel)]; exact ⟨rfl, rfl⟩))
    (fun os started H enc _ => CbpfSteps_lifted os started H enc)
#print axioms CbpfSteps_holds
end Go.Proofs.Ytpofdjnkpplimaa
