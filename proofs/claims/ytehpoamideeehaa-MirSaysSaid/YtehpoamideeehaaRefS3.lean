import Derived.Test.YtehpoamideeehaaRefNew
import Derived.Test.YtehpoamideeehaaCbpfS4
set_option linter.unusedVariables false
set_option linter.unusedSimpArgs false
namespace Go.Proofs.Ytehpoamideeehaa
open Go.RowKit Go.Shelf
/-! ravelinref03: Answer, Run: the contracts. -/
theorem rAnswer_c (B : Nat) (K : RK) (z : CS) (w : World) (hm : RMAt w B K (MV.of z)) : Calls Try.prog 24 #[.pointer (some ⟨B, 0, none⟩)] w (AnsPost w z.answer) := by
  have c24 := hm.c24
  have c21 := hm.c21
  have c20 := hm.c20
  have c23 := hm.c23
  simp only [MV.of] at c24 c21 c20 c23
  clear hm
  by_cases he : z.err = 0
  · have HX := Lib.hid (show z.answer = (z.ans, (z.steps : Int), 0, 0) by unfold CS.answer; rw [if_neg (by simp [he])])
    rw [he] at c24
    clear he
    go_enter Try.func24, Try.ntmps24
    go_wp2
    go_quiet (fail)
    go_wp2
    refine bodyPost_ret (v := .tuple #[.int .u32 z.ans, .int .i64 z.steps, .int .i64 0, .int .i64 0]) (by simp [results, Try.results24, go_sem]) rfl ⟨by rw [HX.out]; rfl, _, rfl⟩
  · have HX := Lib.hid (show z.answer = (0, (z.steps : Int), z.err, (z.at_ : Int)) by unfold CS.answer; rw [if_pos he])
    have he' : (z.err != 0) = true := by simpa using he
    clear he
    go_enter Try.func24, Try.ntmps24
    go_wp2
    go_quiet (fail)
    go_wp2
    refine bodyPost_ret (v := .tuple #[.int .u32 0, .int .i64 z.steps, .int .i64 z.err, .int .i64 z.at_]) (by simp [results, Try.results24, go_sem]) rfl ⟨by rw [HX.out]; rfl, _, rfl⟩
/-- A machine on its way, or through. -/
def ROnWay (w : World) (B : Nat) (K : RK) (q : List I4) (d : List Int) (R : Res4) (t : Value) (wr : World) : Prop := ∃ z, t = .bool z.done ∧ RMAt wr B K (MV.of z) ∧ REnv wr B K q d ∧ z.ok q ∧ Below w.heap.size w wr ∧ ∃ n, (CS.after q d n z).done = true ∧ (CS.after q d n z).answer = R
set_option maxHeartbeats 800000 in
theorem rRun_c (A : Option Addr) (cap : Nat) (q : List I4) (Ad : Option Addr) (capd : Nat) (d : List Int) (hq47 : q.length ≤ 281474976710656)
    (hq : ∀ x ∈ q, x.ok) (hd : ∀ x ∈ d, 0 ≤ x ∧ x < 256) (w : World) (hr : Reads w w.heap.size 4 A q.length (cellsI q)) (hrd : Reads w w.heap.size 1 Ad d.length (numV .u8 d)) :
    Calls Try.prog 12 #[.slice A q.length cap, .slice Ad d.length capd] w (RunPost w (runC q d)) := by
  obtain ⟨RES, hRES⟩ : ∃ x, x = runC q d := ⟨_, rfl⟩
  rw [← hRES]
  have hrun := runC_after q d
  rw [← hRES] at hrun
  have HRUN := Lib.hid hrun
  have HN := Lib.hid (rNew_c A cap q Ad capd d w hr hrd)
  have HQ := Lib.hid hq
  have HD := Lib.hid hd
  obtain ⟨K, HK⟩ : ∃ K : RK, Hid ((⟨A, q.length, cap, Ad, d.length, capd⟩ : RK) = K) := ⟨_, Lib.hid rfl⟩
  obtain ⟨B, HB⟩ : ∃ B : Nat, Hid (w.heap.size = B) := ⟨_, Lib.hid rfl⟩
  clear hRES hrun hr hrd hq hd
  go_enter Try.func12, Try.ntmps12
  go_wp2_with fail
  refine HN.out.mono ?_
  rintro e w1 ⟨rfl, hm1, he1, hb1⟩
  rw [HK.out, HB.out] at hm1 he1
  rw [HB.out]
  have HW := Lib.hid (show ROnWay w B K q d RES (.bool false) w1 from ⟨CS.zero, rfl, hm1, he1, CS.zero_ok q, hb1, _, HRUN.out⟩)
  clear hm1 he1 hb1 HN HRUN
  go_wp2_with fail
  go_loopw [9] (fun t wr => Hid (ROnWay w B K q d RES t wr)) (fun t wr => rleft q.length B t wr)
  case atStart => exact HW
  case round =>
    obtain ⟨z, hz9, hm, he, hz, hbw, n, hn⟩ := hrel.out
    have HE := Lib.hid he
    have HM := Lib.hid hm
    have HZ := Lib.hid hz
    have HNN := Lib.hid hn
    have hz6 := hz.2.2.2.2.2.1
    have hBw := Nat.le_of_lt hm.lt
    subst hz9
    clear hm he hz hn hrel HW
    cases hdn : z.done with
    | true =>
      have hfin : z.answer = RES := by have := HNN.out.2; rwa [CS.after_done _ hdn] at this
      have HF := Lib.hid hfin
      clear hfin hdn
      go_wp2_with fail
      refine (rAnswer_c B K _ wr HM.out).mono ?_
      rw [HF.out]
      rintro e w3 ⟨rfl, nn, rfl⟩
      have hb3 := below_drN hbw nn
      obtain ⟨r1, r2, r3, r4⟩ := RES
      simp only [ret4]
      go_wp2
      refine bodyPost_ret (v := .tuple #[.int .u32 r1, .int .i64 r2, .int .i64 r3, .int .i64 r4]) (by simp [results, Try.results12, go_sem]) rfl ⟨rfl, hb3⟩
    | false =>
      obtain ⟨m, rfl, hn'⟩ := after_ne hdn HNN.out
      have HN' := Lib.hid hn'
      have HST := Lib.hid (rstepsOf_at HM.out)
      have HS := Lib.hid (rStep_c B K q d z wr HM.out HE.out HZ.out HQ.out HD.out hq47)
      have HZ2 := Lib.hid (CS.next_ok HD.out HQ.out HZ.out)
      have HDN := Lib.hid hdn
      clear hn' hdn
      go_wp2_with fail
      refine HS.out.mono ?_
      rintro e w2 ⟨rfl, hm2, hg2⟩
      have he2 := HE.out.grown hg2 hBw
      have hb2 : Below w.heap.size w w2 := hbw.grown hg2 hbw.size (fun k hk => by cases hk; exact Nat.le_of_eq HB.out)
      have HW2 := Lib.hid (show ROnWay w B K q d RES (.bool (MV.of (z.next q d)).through) w2 from ⟨_, rfl, hm2, he2, HZ2.out, hb2, m, HN'.out⟩)
      have HME := Lib.hid (show rleft q.length B (.bool (MV.of (z.next q d)).through) w2 < rleft q.length B (.bool false) wr by
        have hs2 := rstepsOf_at hm2
        have hzz := hz6
        cases hdd : (z.next q d).done with
        | true => simp only [rleft, MV.of, hdd, HST.out]; omega
        | false =>
          rw [next_steps hdd] at hs2
          simp only [rleft, MV.of, hdd, HST.out, hs2]; omega)
      obtain ⟨tb, htb⟩ : ∃ tb, tb = (MV.of (z.next q d)).through := ⟨_, rfl⟩
      rw [← htb] at HW2 HME ⊢
      clear htb hm2 he2 hg2 HS HE
      go_wp2
      go_roundw
      case rel => exact HW2
      case measure => exact HME.out
end Go.Proofs.Ytehpoamideeehaa
