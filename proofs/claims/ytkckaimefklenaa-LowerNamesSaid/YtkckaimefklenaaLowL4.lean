import Derived.Test.YtkckaimefklenaaLowL3
import Derived.Test.YtkckaimefklenaaLowF
set_option linter.unusedVariables false
set_option linter.unusedSimpArgs false
namespace Go.Proofs.Ytkckaimefklenaa
open Go.RowKit
/-! lower.layout's stretch: the walk. (Printed by gen/lowl4.py.) -/
theorem below_dr2 {B : Nat} {w W : World} (h : Below B w W) : Below B w W.drew := ⟨h.os, h.tape, h.output, h.size, h.block⟩
theorem LayAt.drewN {lo : Nat} {q : List N8} {L B c : Nat} {Pn Yn first : Nat → Nat} {size : Nat} {far : Nat → Bool × Bool} {W : World} (h : LayAt lo q L B c Pn Yn first size far W) (n : Nat) : LayAt lo q L B c Pn Yn first size far (W.drewN n) := ⟨h.lay, h.ptr, h.part, h.ways, h.tag, h.lo⟩
def anyB (q : List N8) (far : List (Bool × Bool)) (k : Nat) : Bool := decide (farMid q far k ≠ far)
theorem anyB_zero {q : List N8} {far : List (Bool × Bool)} (hf : far.length = q.length) : anyB q far 0 = false := by unfold anyB; rw [farMid_zero hf]; simp
theorem anyB_same {q : List N8} {far : List (Bool × Bool)} {k : Nat} {x : N8} (hx : q[k]? = some x) (h : farOne q far k x = farAt far k) : anyB q far (k + 1) = anyB q far k := by unfold anyB; rw [farMid_same hx h]
theorem anyB_step {q : List N8} {far : List (Bool × Bool)} {k : Nat} {x : N8} (hx : q[k]? = some x) {va vb ta tb : Bool} (h1 : farAt far k = (va, vb)) (h2 : farOne q far k x = (ta, tb)) : anyB q far (k + 1) = (anyB q far k || ta != va || tb != vb) := by
  by_cases h : farOne q far k x = farAt far k
  · rw [anyB_same hx h]
    rw [h1, h2] at h
    injection h with e1 e2
    subst e1 e2
    cases anyB q far k <;> simp
  · have e : anyB q far (k + 1) = true := by unfold anyB; simpa using farMid_diff hx h
    rw [e]
    rw [h1, h2] at h
    cases ta <;> cases va <;> cases tb <;> cases vb <;> simp at h ⊢
set_option maxRecDepth 100000 in
set_option maxHeartbeats 3200000 in
theorem stretch_c {lo : Nat} {q : List N8} {L B c : Nat} {Pn Yn : Nat → Nat} {size : Nat} (far : List (Bool × Bool)) (hf : far.length = q.length) (hc : (checkD q).1 = 0) (w : World) (h : LayAt lo q L B c Pn Yn (placeN q far) size (farAt far) w) :
    Calls Try.prog 16 #[.pointer (some ⟨L, 0, none⟩)] w fun e w' => e = .returned (.bool (anyB q far q.length)) ∧ LayAt lo q L B c Pn Yn (placeN q far) size (farAt (farNext q far)) w' ∧ Below lo w w' := by
  obtain ⟨a1, a2, a3⟩ := checkD_zero hc
  have HOK := Lib.hid a3
  have hn' : (q.length : Int) ≤ 4096 := by omega
  have l0 := h.l0
  have H0 : Hid (LayAt lo q L B c Pn Yn (placeN q far) size (farAt (farMid q far 0)) w) := Lib.hid (by rw [farMid_zero hf]; exact h)
  have HZ := Lib.hid (anyB_zero hf)
  clear h a3 hc
  go_enter Try.func16, Try.ntmps16
  go_wp2_with fail
  go_loopw [13, 3] (fun i a wr => ∃ k : Nat, k ≤ q.length ∧ i = .int .i64 k ∧ a = .bool (anyB q far k) ∧ Hid (LayAt lo q L B c Pn Yn (placeN q far) size (farAt (farMid q far k)) wr) ∧ Hid (Below lo w wr)) (fun i _ _ => q.length - (intOf i).toNat)
  case atStart => exact ⟨0, by omega, rfl, by rw [HZ.out], H0, Lib.hid (Below.refl _ _)⟩
  case round =>
    obtain ⟨k, hk, rfl, rfl, HW, HB⟩ := hrel
    obtain ⟨b0, hb0⟩ : ∃ b0, b0 = anyB q far k := ⟨_, rfl⟩
    rw [← hb0]
    have HB0 := Lib.hid hb0
    clear H0 HZ l0 hb0
    rcases Nat.lt_or_ge k q.length with hkl | hkl
    · have hkl' : (k : Int) < q.length := by omega
      obtain ⟨x, hx⟩ : ∃ x, q[k]? = some x := ⟨_, List.getElem?_eq_getElem hkl⟩
      have HX := Lib.hid hx
      have ck := HW.out.ptr k hkl
      have p9 := (HW.out.partAt hx).2.2.2.2.2.2.2.2.2
      cases hl : x.lf with
      | true =>
        have hwv : waysV x (Yn k) = .slice none 0 0 := by unfold waysV; rw [if_pos hl]
        rw [hwv] at p9
        have HSAME : Hid (farOne q far k x = farAt far k) := Lib.hid (by unfold farOne; rw [if_pos hl])
        clear hl hwv hx
        go_wp2_with fail
        go_loopw [22, 3] (fun i a wr2 => i = .int .i64 0 ∧ a = .bool b0 ∧ wr2 = wr) (fun i _ _ => 0)
        case atStart => exact ⟨rfl, rfl, rfl⟩
        case round =>
          obtain ⟨rfl, rfl, rfl⟩ := hrel
          go_wp2
          go_roundw
          case rel => exact ⟨k + 1, by omega, by go_num, by rw [anyB_same HX.out HSAME.out, HB0.out], Lib.hid (by rw [farMid_same HX.out HSAME.out]; exact HW.out), HB⟩
          case measure => simp [intOf]; omega
      | false =>
        have hno := HOK.out k x hx hl
        have hwv : waysV x (Yn k) = .slice (some ⟨Yn k, 0, none⟩) 2 2 := by unfold waysV; rw [if_neg (by rw [hl]; decide)]
        have HWV := Lib.hid hwv
        have HLF := Lib.hid hl
        rw [hwv] at p9
        obtain ⟨T, hT⟩ : ∃ T : Nat, x.t = T := ⟨x.t.toNat, by have := hno.t; omega⟩
        obtain ⟨F, hF⟩ : ∃ F : Nat, x.f = F := ⟨x.f.toNat, by have := hno.f; omega⟩
        have hTq : (T : Int) < q.length := by have := hno.t; omega
        have hFq : (F : Int) < q.length := by have := hno.f; omega
        obtain ⟨xT, hxT⟩ : ∃ y, q[T]? = some y := ⟨_, List.getElem?_eq_getElem (by omega)⟩
        obtain ⟨xF, hxF⟩ : ∃ y, q[F]? = some y := ⟨_, List.getElem?_eq_getElem (by omega)⟩
        have HXT := Lib.hid hxT
        have HXF := Lib.hid hxF
        obtain ⟨pT, hpT⟩ : ∃ u, u = placeN q far T := ⟨_, rfl⟩
        obtain ⟨pF, hpF⟩ : ∃ u, u = placeN q far F := ⟨_, rfl⟩
        obtain ⟨pK, hpK⟩ : ∃ u, u = placeN q far k := ⟨_, rfl⟩
        obtain ⟨J, hJ⟩ : ∃ u, u = jumpN x (placeN q far k) := ⟨_, rfl⟩
        have hTb : (pT : Int) ≤ 25000 := by have := placeN_le q far T; omega
        have hFb : (pF : Int) ≤ 25000 := by have := placeN_le q far F; omega
        have hKb : (pK : Int) ≤ 100000 := by have := placeN_le q far k; omega
        have hJb : (J : Int) ≤ 100000 := by
          have h1 := placeN_le q far k
          have h2 : b2n (x.msk != ones32) ≤ 1 := by unfold b2n; split <;> omega
          rw [hJ]; unfold jumpN; omega
        have HPT := Lib.hid hpT
        have HPF := Lib.hid hpF
        have HPK := Lib.hid hpK
        have HPKB := Lib.hid hKb
        have HJ := Lib.hid hJ
        have HJC : Hid (∀ W, PartAt W (Pn k) x (placeN q far k) (waysV x (Yn k)) → Calls Try.prog 17 #[.pointer (some ⟨Pn k, 0, none⟩)] W fun e w' => e = .returned (.int .i64 J) ∧ w' = W) := Lib.hid (fun W hp => by rw [HJ.out]; exact (jump_c (Pn k) x _ _ (by rw [← HPK.out]; exact HPKB.out) W hp).mono fun _ _ h => ⟨h.1, h.2.symm⟩)
        have HTF : Hid (x.t = T ∧ x.f = F) := Lib.hid ⟨hT, hF⟩
        obtain ⟨⟨va, vb⟩, hfv⟩ : ∃ v, v = farAt far k := ⟨_, rfl⟩
        have HFV := Lib.hid hfv.symm
        obtain ⟨ta, hta⟩ : ∃ ta, ta = (va || decide ((255 : Int) < pT - J - 1)) := ⟨_, rfl⟩
        obtain ⟨tb, htb⟩ : ∃ tb, tb = (vb || decide ((255 : Int) < pF - J - 1)) := ⟨_, rfl⟩
        have HONE : Hid (farOne q far k x = (ta, tb)) := Lib.hid (by unfold farOne longN; rw [if_neg (by rw [hl]; decide), ← hfv, hT, hF, Int.toNat_natCast, Int.toNat_natCast, ← hpT, ← hpF, ← hJ, hta, htb])
        have HTA := Lib.hid hta
        have HTB := Lib.hid htb
        have HS0 : Hid (LayAt lo q L B c Pn Yn (placeN q far) size (fun j => if j = k then (va, vb) else farAt (farMid q far k) j) wr) := Lib.hid (HW.out.cast (fun _ _ _ => rfl) rfl (fun j y _ _ => by
          by_cases e : j = k
          · rw [if_pos e, e, farMid_here hkl, hfv]
          · rw [if_neg e]))
        clear hx hl hno hwv hT hF hxT hxF hpT hpF hpK hJ hfv hta htb hKb
        go_wp2_with fail
        go_loopw [22, 3] (fun i a wr2 => ∃ u v b : Bool, a = .bool b ∧ Hid (LayAt lo q L B c Pn Yn (placeN q far) size (fun j => if j = k then (u, v) else farAt (farMid q far k) j) wr2) ∧ Hid (Below lo w wr2) ∧ ((i = .int .i64 0 ∧ u = va ∧ v = vb ∧ b = b0) ∨ (i = .int .i64 1 ∧ u = ta ∧ v = vb ∧ b = (b0 || ta != va)) ∨ (i = .int .i64 2 ∧ u = ta ∧ v = tb ∧ b = (b0 || ta != va || tb != vb)))) (fun i _ _ => 2 - (intOf i).toNat)
        case atStart => exact ⟨va, vb, b0, rfl, HS0, HB, .inl ⟨rfl, rfl, rfl, rfl⟩⟩
        case round =>
          obtain ⟨u, v, b, rfl, HS, HBS, hh⟩ := hrel
          clear HS0 HW HB ck p9
          rcases hh with ⟨rfl, hu, hv, hb⟩ | ⟨rfl, hu, hv, hb⟩ | ⟨rfl, hu, hv, hb⟩
          · rw [hu, hv] at HS
            rw [hb]
            clear hu hv hb
            obtain ⟨y0, y1, y2, y3⟩ := HS.out.waysAt HX.out HLF.out
            rw [if_pos rfl] at y1 y3
            rw [HTF.out.1] at y0
            rw [HTF.out.2] at y2
            have p9 := (HS.out.partAt HX.out).2.2.2.2.2.2.2.2.2
            rw [HWV.out] at p9
            have l0 := HS.out.l0
            have cT := HS.out.ptr T (by omega)
            have cp := (HS.out.partAt HXT.out).2.2.2.2.2.2.2.2.1
            rw [← HPT.out] at cp
            have fy := HS.out.freeY HX.out HLF.out 1
            have HPA := Lib.hid (HS.out.partAt HX.out)
            cases hva : va with
            | true =>
              have HV := Lib.hid hva
              have ht : ta = true := by rw [HTA.out, hva]; rfl
              have HT := Lib.hid ht
              rw [hva] at y1
              clear hva ht
              go_wp2_with fail
              go_quiet (fail)
              go_wp2
              go_roundw
              case rel => exact ⟨ta, vb, _, rfl, Lib.hid ((HS.out.cast (fun _ _ _ => rfl) rfl (fun j y _ _ => by first | rw [HT.out, HV.out] | rw [HV.out, HT.out] | (rw [HT.out]; rfl))).drewN _), Lib.hid (below_drN HBS.out _), .inr (.inl ⟨by go_num, rfl, rfl, by have h1 := HT.out; have h2 := HV.out; rw [h1]; first | (rw [h2]; simp) | simp⟩)⟩
              case measure => simp [intOf]
            | false =>
              have HV := Lib.hid hva
              rw [hva] at y1
              by_cases hd : (255 : Int) < pT - J - 1
              · have ht : ta = true := by rw [HTA.out, hva]; simpa using hd
                have HT := Lib.hid ht
                clear hva ht
                go_wp2_with fail
                go_quiet (first | (go_at_call 17; refine Calls.quiet_of_same (HJC.out _ (by exact HPA.out))))
                go_wp2_with fail
                go_wp2
                go_roundw
                case rel => exact ⟨ta, vb, _, rfl, Lib.hid ((((HS.out.drewN _).setT HX.out HLF.out)).cast (fun _ _ _ => rfl) rfl (fun j y _ _ => by by_cases e : j = k <;> simp [e, HT.out])), Lib.hid ((below_drN HBS.out _).setCell (p := ⟨Yn k, 1, none⟩) ((HS.out.lo.2.2 k x HX.out).2 HLF.out) _), .inr (.inl ⟨by go_num, rfl, rfl, by have h1 := HT.out; have h2 := HV.out; rw [h1]; first | (rw [h2]; simp) | simp⟩)⟩
                case measure => simp [intOf]
              · have ht : ta = false := by rw [HTA.out, hva]; simpa using hd
                have HT := Lib.hid ht
                clear hva ht
                go_wp2_with fail
                go_quiet (first | (go_at_call 17; refine Calls.quiet_of_same (HJC.out _ (by exact HPA.out))))
                go_wp2_with fail
                go_wp2
                go_roundw
                case rel => exact ⟨ta, vb, _, rfl, Lib.hid ((HS.out.cast (fun _ _ _ => rfl) rfl (fun j y _ _ => by first | rw [HT.out, HV.out] | rw [HV.out, HT.out] | (rw [HT.out]; rfl))).drewN _), Lib.hid (below_drN HBS.out _), .inr (.inl ⟨by go_num, rfl, rfl, by have h1 := HT.out; have h2 := HV.out; rw [h1]; first | (rw [h2]; simp) | simp⟩)⟩
                case measure => simp [intOf]
          · rw [hu, hv] at HS
            obtain ⟨b1, hb1⟩ : ∃ b1, b1 = (b0 || ta != va) := ⟨_, rfl⟩
            rw [← hb1] at hb
            rw [hb]
            have HB1 := Lib.hid hb1
            clear hu hv hb hb1
            obtain ⟨y0, y1, y2, y3⟩ := HS.out.waysAt HX.out HLF.out
            rw [if_pos rfl] at y1 y3
            rw [HTF.out.1] at y0
            rw [HTF.out.2] at y2
            have p9 := (HS.out.partAt HX.out).2.2.2.2.2.2.2.2.2
            rw [HWV.out] at p9
            have l0 := HS.out.l0
            have cT := HS.out.ptr F (by omega)
            have cp := (HS.out.partAt HXF.out).2.2.2.2.2.2.2.2.1
            rw [← HPF.out] at cp
            have fy := HS.out.freeY HX.out HLF.out 3
            have HPA := Lib.hid (HS.out.partAt HX.out)
            cases hvb : vb with
            | true =>
              have HV := Lib.hid hvb
              have ht : tb = true := by rw [HTB.out, hvb]; rfl
              have HT := Lib.hid ht
              rw [hvb] at y3
              clear hvb ht
              go_wp2_with fail
              go_quiet (fail)
              go_wp2
              go_roundw
              case rel => exact ⟨ta, tb, _, rfl, Lib.hid ((HS.out.cast (fun _ _ _ => rfl) rfl (fun j y _ _ => by first | rw [HT.out, HV.out] | rw [HV.out, HT.out] | (rw [HT.out]; rfl))).drewN _), Lib.hid (below_drN HBS.out _), .inr (.inr ⟨by go_num, rfl, rfl, by rw [HB1.out, HT.out]; first | (rw [HV.out]; simp) | simp⟩)⟩
              case measure => simp [intOf]
            | false =>
              have HV := Lib.hid hvb
              rw [hvb] at y3
              by_cases hd : (255 : Int) < pF - J - 1
              · have ht : tb = true := by rw [HTB.out, hvb]; simpa using hd
                have HT := Lib.hid ht
                clear hvb ht
                go_wp2_with fail
                go_quiet (first | (go_at_call 17; refine Calls.quiet_of_same (HJC.out _ (by exact HPA.out))))
                go_wp2_with fail
                go_wp2
                go_roundw
                case rel => exact ⟨ta, tb, _, rfl, Lib.hid ((((HS.out.drewN _).setF HX.out HLF.out)).cast (fun _ _ _ => rfl) rfl (fun j y _ _ => by by_cases e : j = k <;> simp [e, HT.out])), Lib.hid ((below_drN HBS.out _).setCell (p := ⟨Yn k, 3, none⟩) ((HS.out.lo.2.2 k x HX.out).2 HLF.out) _), .inr (.inr ⟨by go_num, rfl, rfl, by (try rw [HB1.out]); have h1 := HT.out; have h2 := HV.out; rw [h1]; first | (rw [h2]; simp) | simp⟩)⟩
                case measure => simp [intOf]
              · have ht : tb = false := by rw [HTB.out, hvb]; simpa using hd
                have HT := Lib.hid ht
                clear hvb ht
                go_wp2_with fail
                go_quiet (first | (go_at_call 17; refine Calls.quiet_of_same (HJC.out _ (by exact HPA.out))))
                go_wp2_with fail
                go_wp2
                go_roundw
                case rel => exact ⟨ta, tb, _, rfl, Lib.hid ((HS.out.cast (fun _ _ _ => rfl) rfl (fun j y _ _ => by first | rw [HT.out, HV.out] | rw [HV.out, HT.out] | (rw [HT.out]; rfl))).drewN _), Lib.hid (below_drN HBS.out _), .inr (.inr ⟨by go_num, rfl, rfl, by (try rw [HB1.out]); have h1 := HT.out; have h2 := HV.out; rw [h1]; first | (rw [h2]; simp) | simp⟩)⟩
                case measure => simp [intOf]
          · rw [hu, hv] at HS
            have HBB := Lib.hid hb
            clear hu hv hb
            go_wp2
            go_roundw
            case rel => exact ⟨k + 1, by omega, by go_num, by rw [anyB_step HX.out HFV.out HONE.out, ← HB0.out, HBB.out], Lib.hid (HS.out.cast (fun _ _ _ => rfl) rfl (fun j y hy _ => by
              rw [farMid_succ HX.out, farSet_at (by rw [farMid_len]; omega), HONE.out])), HBS⟩
            case measure => simp [intOf]; omega
    · obtain rfl : k = q.length := by omega
      go_wp2
      go_ret
      exact ⟨by rw [HB0.out]; rfl, by have h := HW.out; rw [farMid_end] at h; exact h, HB.out⟩
end Go.Proofs.Ytkckaimefklenaa
