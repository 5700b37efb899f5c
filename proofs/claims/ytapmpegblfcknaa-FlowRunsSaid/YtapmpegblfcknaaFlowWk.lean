import Derived.Test.YtapmpegblfcknaaFlowRunP
import Derived.Test.YtapmpegblfcknaaFlowRR
import Derived.Test.YtapmpegblfcknaaRefNew
set_option linter.unusedVariables false
set_option linter.unusedSimpArgs false
namespace Go.Proofs.Ytapmpegblfcknaa
open Go.RowKit Go.Shelf
/-! ravelinlaw10.walked: the walk. -/
/-- On its way: the machine, the places so far. -/
def WkOn (w : World) (B H : Nat) (K : RK) (q : List I4) (d : List Int) (vl t : Value) (wr : World) : Prop := ∃ n z L, t = .bool z.done ∧ RMAt wr B K (MV.of z) ∧ REnv wr B K q d ∧ z.ok q ∧ TrailAt q d n z L ∧ wr.ownsRow H 3 1 vl L.length (numV .i64 (natsI L)) ∧ Below w.heap.size w wr ∧ H ≤ wr.heap.size
set_option maxRecDepth 100000 in
set_option maxHeartbeats 1600000 in
theorem walked_c (A : Option Addr) (cap : Nat) (q : List I4) (Ad : Option Addr) (capd : Nat) (d : List Int) (h0 : (checkP q).1 = 0) (h64 : d.length = 64)
    (hq : ∀ x ∈ q, x.ok) (hd : ∀ x ∈ d, 0 ≤ x ∧ x < 256) (w : World) (hr : Reads w w.heap.size 4 A q.length (cellsI q)) (hrd : Reads w w.heap.size 1 Ad d.length (numV .u8 d)) :
    Calls Try.prog 36 #[.slice A q.length cap, .slice Ad d.length capd] w fun e w' => ∃ (L : List Nat) (A' : Option Addr) (c : Nat), e = .returned (.slice A' L.length c) ∧ 0 < L.length ∧ Trail q L ∧ LRow w.heap.size A' c L w' ∧ Below w.heap.size w w' := by
  obtain ⟨a1, a2, -, -⟩ := acc_facts h0
  have H0 := Lib.hid h0
  have H64 := Lib.hid h64
  have HN := Lib.hid (rNew_c A cap q Ad capd d w hr hrd)
  have HQ := Lib.hid hq
  have HD := Lib.hid hd
  obtain ⟨K, HK⟩ : ∃ K : RK, Hid ((⟨A, q.length, cap, Ad, d.length, capd⟩ : RK) = K) := ⟨_, Lib.hid rfl⟩
  obtain ⟨B, HB⟩ : ∃ B : Nat, Hid (w.heap.size = B) := ⟨_, Lib.hid rfl⟩
  obtain ⟨i0, HI⟩ : ∃ i0, Hid (Try.prog.info? 3 = some i0 ∧ i0.zero = some (.int .i64 0) ∧ i0.size = 1 ∧ i0.bytes = 8) := by
    obtain ⟨i0, hi, hz0, hz1, hz2⟩ := info_parts infoInt
    exact ⟨i0, Lib.hid ⟨hi, hz0, hz1, hz2⟩⟩
  have hq1 : (q.length : Int) ≤ 4096 := by omega
  have HFR := Lib.hid (longTo_le q q.length 0)
  clear hr hrd hq hd h0 h64
  go_enter Try.func36, Try.ntmps36
  go_wp2_with fail
  refine HN.out.mono ?_
  rintro e w1 ⟨rfl, hm1, he1, hb1⟩
  rw [HK.out, HB.out] at hm1 he1
  rw [HB.out]
  obtain ⟨H, hH⟩ : ∃ H, H = w1.heap.size := ⟨_, rfl⟩
  have hBH : B < H := by rw [hH]; exact hm1.lt
  have HW := Lib.hid (show WkOn w B H K q d (.slice none 0 0) (.bool false) w1 from ⟨0, CS.zero, [], rfl, hm1, he1, CS.zero_ok q, TrailAt.zero q d, World.ownsRow_nil _ _ _ _, hb1, by omega⟩)
  clear hm1 he1 hb1 HN hH
  go_wp2_with fail
  go_loopw [5, 7] (fun vl t wr => Hid (WkOn w B H K q d vl t wr)) (fun _ t wr => rleft q.length B t wr)
  case atStart => exact HW
  case round =>
    obtain ⟨n, z, L, hz9, hm, he, hz, ht, hown, hbw, hsz⟩ := hrel.out
    have hz6 := hz.2.2.2.2.2.1
    subst hz9
    clear hrel HW
    obtain ⟨Al, cl, rfl⟩ := own_slice hown
    cases hdn : z.done with
    | true =>
      have hpos : 0 < L.length := by
        rcases Nat.eq_zero_or_pos L.length with e | e
        · have h1 := ht.at_
          rw [show n = 0 by have := ht.len; omega] at h1
          rw [h1] at hdn; cases hdn
        · exact e
      have HE := Lib.hid (And.intro ht.trail (And.intro hown hbw))
      clear hdn hm he hz ht hown hbw
      go_wp2
      refine bodyPost_ret (v := .slice Al L.length cl) (by simp [results, Try.results36, go_sem]) rfl ?_
      obtain ⟨h1, h2, h3⟩ := HE.out
      have := HB.out
      exact ⟨L, Al, cl, rfl, hpos, h1, own_base h2 (by omega), h3⟩
    | false =>
      obtain ⟨htn, hlt⟩ := ht.next H0.out HQ.out H64.out hdn
      have hLn : L.length ≤ 4096 := by
        have h1 := ht.trail.long HQ.out
        have h2 := HFR.out
        unfold longP at h1
        omega
      have cp := hm.c20
      simp only [MV.of] at cp
      have hBw := hm.lt
      have HE := Lib.hid he
      have HM := Lib.hid hm
      have HZ := Lib.hid hz
      have HTN := Lib.hid htn
      have HOW := Lib.hid hown
      have HBW := Lib.hid hbw
      have HST := Lib.hid (rstepsOf_at hm)
      have HZ2 := Lib.hid (CS.next_ok HD.out HQ.out hz)
      obtain ⟨p, hp⟩ : ∃ p, p = z.at_ := ⟨_, rfl⟩
      rw [← hp] at cp
      have HP := Lib.hid hp
      have hb5 : some B ≠ (Value.slice Al L.length cl).ownBlock := fun e => by have := own_ge hown B e.symm; omega
      have HNE := Lib.hid hb5
      clear hdn hm he hz htn hown hbw ht hp hb5
      go_wp2_with (at_builtin; refine wpList_append_own _ rfl _ _ 36 rfl H 3 i0 (.int .i64 0) 1 8 Try.underlying36 HI.out.1 HI.out.2.1 HI.out.2.2.1 HI.out.2.2.2 rfl (by decide) (.slice Al L.length cl) L.length _ rfl (HOW.out.alloc _) ⟨wr.heap.size, 0, none⟩ 1 1 [.int .i64 p] rfl rfl (cell_one_new _ _ _) (by simp [Value.oneCell']) (by simp only [maxLen]; omega) (by omega) (by simp; omega) ?_; intro v' w3 hown' hgrow _; obtain ⟨g', cap', rfl⟩ := ownsRow_succ hown'; have hgr : w3.heap[B]? = wr.heap[B]? := (hgrow.block B (by simp; omega) HNE.out).trans (Below.heap_alloc wr _ B hBw); have hbk : ∀ b, b < H → w3.heap[b]? = wr.heap[b]? := (fun b hb => (hgrow.block b (by simp; omega) (fun e => by have := own_ge HOW.out b e.symm; omega)).trans (Below.heap_alloc wr _ b (by omega))); have HG3 := Lib.hid hgr; have HBK := Lib.hid hbk; have HO3 := Lib.hid hown'; have HGR := Lib.hid hgrow; clear hown' hgrow hgr hbk)
      have hm3 : RMAt w3 B K (MV.of z) := ⟨HM.out.1, HG3.out.trans HM.out.2⟩
      have he3 : REnv w3 B K q d := HE.out.keep (fun b o hb => World.cell?_of_block (a := ⟨b, o, none⟩) (HBK.out b (by omega)))
      have hb3 : Below w.heap.size w w3 := below_gr (HBW.out.alloc HBW.out.size _) HGR.out (by have := HBW.out.size; simp; omega) (fun k hk => by have := own_ge HOW.out k hk; have := HB.out; omega)
      have HB3 := Lib.hid hb3
      have HE3 := Lib.hid he3
      have HM3 := Lib.hid hm3
      have hs3 : H ≤ w3.heap.size := by have := HGR.out.size; simp at this; omega
      clear hm3 he3 hb3
      refine (rStep_c B K q d z w3 HM3.out HE3.out HZ.out HQ.out HD.out (by omega)).mono ?_
      rintro e w4 ⟨rfl, hm4, hg4⟩
      have hgl' := own_ge HO3.out g' (by simp [Value.ownBlock])
      have hW2 : WkOn w B H K q d (.slice (some ⟨g', 0, none⟩) (L.length + 1) cap') (.bool (MV.of (z.next q d)).through) w4 := by
        refine ⟨n + 1, _, _, rfl, hm4, HE3.out.grown hg4 (by have := HM3.out.lt; omega), HZ2.out, HTN.out, ?_, HB3.out.grown hg4 HB3.out.size (fun k hk => by cases hk; exact Nat.le_of_eq HB.out), by have := hg4.size; omega⟩
        have h9 := HO3.out.kept hg4 (.inr (by simp [Value.ownBlock]; omega))
        rw [HP.out] at h9
        simpa [numV, natsI] using h9
      have HW2 := Lib.hid hW2
      have HME := Lib.hid (show rleft q.length B (.bool (MV.of (z.next q d)).through) w4 < rleft q.length B (.bool false) wr by
        have hs2 := rstepsOf_at hm4
        have hzz := hz6
        cases hdd : (z.next q d).done with
        | true => simp only [rleft, MV.of, hdd, HST.out]; omega
        | false =>
          rw [next_steps hdd] at hs2
          simp only [rleft, MV.of, hdd, HST.out, hs2]; omega)
      obtain ⟨tb, htb⟩ : ∃ tb, tb = (MV.of (z.next q d)).through := ⟨_, rfl⟩
      rw [← htb] at HW2 HME ⊢
      clear htb hm4 hg4 hW2
      go_wp2
      go_roundw
      case rel => exact HW2
      case measure => exact HME.out
end Go.Proofs.Ytapmpegblfcknaa
