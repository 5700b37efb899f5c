import Derived.Test.YtapmpegblfcknaaFlowRB
import Derived.Test.YtapmpegblfcknaaFlowAb
set_option linter.unusedVariables false
set_option linter.unusedSimpArgs false
namespace Go.Proofs.Ytapmpegblfcknaa
open Go.RowKit Go.Shelf
/-! The reference's without and Above. -/
theorem canRow_snoc {c i : Nat} {l : List Bool} (h : l.getD i false = true ∧ i ≠ c) (ts : List Nat) (t : Nat) : canRow c i l (ts ++ [t]) = (canRow c i l ts).set t true := by
  unfold canRow; rw [if_pos h, if_pos h, setAll_snoc]
theorem canRow_len (c i : Nat) (l : List Bool) (ts : List Nat) : (canRow c i l ts).length = l.length := by unfold canRow; split <;> simp [setAll_len]
theorem canRow_at {c i : Nat} {l : List Bool} {ts : List Nat} (h : l.getD i false = true ∧ i ≠ c) : (canRow c i l ts).getD i false = true := by
  unfold canRow; rw [if_pos h]; exact setAll_at h.1
theorem canRow_no {c i : Nat} {l : List Bool} {ts : List Nat} (h : ¬ (l.getD i false = true ∧ i ≠ c)) : canRow c i l ts = l := by unfold canRow; rw [if_neg h]
set_option maxRecDepth 100000 in
set_option maxHeartbeats 3200000 in
theorem without_c (Ab : Option Addr) (cb m c : Nat) (ps : List (Nat × Nat)) (nx : Nat → List Nat) (hm : ps.length = m) (hm1 : 0 < m) (hm2 : m ≤ 4096) (hc : c < m) (hF : Fwd m nx) (h2 : ∀ j, (nx j).length ≤ 2) (w : World) (hr : BlkReads w Ab ps nx) :
    Calls Try.prog 49 #[.slice Ab m cb, .int .i64 c] w fun e w' => e = .returned (.slice (some ⟨w.heap.size, 0, none⟩) m m) ∧ BoRow w.heap.size w.heap.size m (canTo m nx c m) w' ∧ Below w.heap.size w w' := by
  have HR := Lib.hid hr
  have HPL := Lib.hid hm
  have HF := Lib.hid hF
  have H2 := Lib.hid h2
  clear hr hm hF h2
  obtain ⟨i0, HI⟩ : ∃ i0, Hid (Try.prog.info? 4 = some i0 ∧ i0.zero = some (.bool false) ∧ i0.size = 1 ∧ i0.bytes = 1) := by
    obtain ⟨i0, hi, hz0, hz1, hz2⟩ := info_parts infoBool
    exact ⟨i0, Lib.hid ⟨hi, hz0, hz1, hz2⟩⟩
  obtain ⟨w1, hrun, hown, hg⟩ := run_make_full (P := Try.prog) w w.heap.size 45 4 i0 _ 1 Try.underlying45 HI.out.1 HI.out.2.1 HI.out.2.2.1 .i64 .i64 m (by rw [HI.out.2.2.2]; omega) (by simp only [maxLen]; omega) (Nat.le_refl _)
  have hb1 : Below w.heap.size w w1 := ⟨hg.os, hg.tape, hg.output, hg.size, fun k hk => hg.block k hk (by simp)⟩
  have hrow : BoRow w.heap.size w.heap.size m (List.replicate m false) w1 := BoRow.new hown
  have hm3 : (0 : Int) < m := by omega
  have hm4 : (m : Int) ≤ 4096 := by omega
  have hcm : (c : Int) < m := by omega
  have c0 := hrow.get hm1
  have f0 := hrow.free 0
  obtain ⟨z, hz⟩ : ∃ z : Bool, z = (c != 0) := ⟨_, rfl⟩
  have hzi : ((c : Int) != 0) = z := by rw [hz]; cases c <;> rfl
  have HS : Hid (BoRow w.heap.size w.heap.size m (canTo m nx c 0) (w1.setCell ⟨w.heap.size, 0, none⟩ (.bool z)) ∧ Below w.heap.size w (w1.setCell ⟨w.heap.size, 0, none⟩ (.bool z))) :=
    Lib.hid ⟨by rw [hz]; exact hrow.set 0 (c != 0), hb1.setCell (p := ⟨w.heap.size, 0, none⟩) (Nat.le_refl _) _⟩
  clear hown hg hrow hb1 hz
  go_enter Try.func49, Try.ntmps49
  go_wp2_with fail
  clear hrun c0 f0 hzi
  go_loopw [6] (fun i wr => ∃ n : Nat, n ≤ m ∧ i = .int .i64 n ∧ Hid (BoRow w.heap.size w.heap.size m (canTo m nx c n) wr ∧ Below w.heap.size w wr)) (fun i _ => m - (intOf i).toNat)
  case atStart => exact ⟨0, by omega, rfl, HS⟩
  case round =>
    obtain ⟨n, hn, rfl, HW⟩ := hrel
    clear HS
    rcases Nat.lt_or_ge n m with hnm | hnm
    · have hnm' : (n : Int) < m := by omega
      obtain ⟨p, hp⟩ : ∃ p, ps[n]? = some p := ⟨_, List.getElem?_eq_getElem (by rw [HPL.out]; exact hnm)⟩
      obtain ⟨bb, Aj, cj, rfl, hbb, -, -, d2, hrd⟩ := HR.out n p hp
      obtain ⟨L, hL⟩ : ∃ L, L = nx n := ⟨_, rfl⟩
      rw [← hL] at d2 hrd
      have HM : Hid (∀ t ∈ L, t < m) := Lib.hid (fun t ht => (HF.out.ahead n t hnm (by rw [← hL]; exact ht)).2)
      have hL2 : (L.length : Int) ≤ 2 := by have := H2.out n; rw [← hL] at this; omega
      have HL := Lib.hid hL
      have HRD := Lib.hid hrd
      have HD := Lib.hid d2
      obtain ⟨u, hu⟩ : ∃ u, u = (canTo m nx c n).getD n false := ⟨_, rfl⟩
      have HU := Lib.hid hu
      obtain ⟨v, hv⟩ : ∃ v, v = decide (n ≠ c) := ⟨_, rfl⟩
      have hvi : ((n : Int) != c) = v := by
        rw [hv]
        by_cases e : n = c
        · subst e; simp
        · have : ¬ ((n : Int) = c) := by omega
          simp [e, this]
      have HV := Lib.hid hv
      have HS2 : Hid (BoRow w.heap.size w.heap.size m (canRow c n (canTo m nx c n) (L.take 0)) wr ∧ Below w.heap.size w wr) := Lib.hid ⟨by
        have e : canRow c n (canTo m nx c n) (L.take 0) = canTo m nx c n := by unfold canRow; split <;> rfl
        rw [e]; exact HW.out.1, HW.out.2⟩
      clear hp d2 hrd hL hu hv
      go_wp2_with fail
      go_loopw [7] (fun k wr2 => ∃ s : Nat, s ≤ L.length ∧ k = .int .i64 s ∧ ((u && v) = false → s = 0) ∧ Hid (BoRow w.heap.size w.heap.size m (canRow c n (canTo m nx c n) (L.take s)) wr2 ∧ Below w.heap.size w wr2)) (fun k _ => L.length - (intOf k).toNat)
      case atStart => exact ⟨0, by omega, rfl, fun _ => rfl, HS2⟩
      case round =>
        obtain ⟨s, hs, rfl, hs0, HW2⟩ := hrel
        clear HS2
        have cn : wr.cell? ⟨bb, n * 3 + 2, none⟩ = some (.slice Aj L.length cj) := (HW2.out.2.cell (p := ⟨bb, n * 3 + 2, none⟩) hbb).trans HD.out
        by_cases huv : (u && v) = true
        · obtain ⟨rfl, rfl⟩ : u = true ∧ v = true := by simpa using huv
          clear hs0 huv
          have hcond : Hid ((canTo m nx c n).getD n false = true ∧ n ≠ c) := Lib.hid ⟨HU.out.symm, of_decide_eq_true HV.out.symm⟩
          have cb1 : wr.cell? ⟨w.heap.size, n, none⟩ = some (.bool true) := by rw [HW2.out.1.get hnm]; exact congrArg (fun x => some (Value.bool x)) (canRow_at hcond.out)
          rcases Nat.lt_or_ge s L.length with hsl | hsl
          · obtain ⟨y, hy⟩ : ∃ y, L[s]? = some y := ⟨_, List.getElem?_eq_getElem hsl⟩
            obtain ⟨b1, o1, rfl, hb1, cy⟩ := HRD.out.num (x := (y : Int)) (i := s) (by simp [natsI, hy])
            have cy' : wr.cell? ⟨b1, o1 + s, none⟩ = some (.int .i64 y) := (HW2.out.2.cell (p := ⟨b1, o1 + s, none⟩) hb1).trans cy
            have hym : y < m := HM.out y (List.mem_of_getElem? hy)
            have hym' : (y : Int) < m := by omega
            have hsl' : (s : Int) < L.length := by omega
            have c1 := HW2.out.1.get hym
            have f1 := HW2.out.1.free y
            have HN2 : Hid (BoRow w.heap.size w.heap.size m (canRow c n (canTo m nx c n) (L.take (s + 1))) (wr.setCell ⟨w.heap.size, y, none⟩ (.bool true)) ∧ Below w.heap.size w (wr.setCell ⟨w.heap.size, y, none⟩ (.bool true))) :=
              Lib.hid ⟨by rw [take_snocN hy, canRow_snoc hcond.out]; exact HW2.out.1.set y true, HW2.out.2.setCell (p := ⟨w.heap.size, y, none⟩) (Nat.le_refl _) _⟩
            clear hy cy
            go_wp2
            go_roundw
            case rel => exact ⟨s + 1, by omega, by go_num, (fun h => by cases h), HN2⟩
            case measure => simp [intOf]; omega
          · obtain rfl : s = L.length := by omega
            have hend : Hid (BoRow w.heap.size w.heap.size m (canTo m nx c (n + 1)) wr ∧ Below w.heap.size w wr) := Lib.hid ⟨by rw [canTo_succ, ← HL.out]; have := HW2.out.1; rw [List.take_length] at this; exact this, HW2.out.2⟩
            go_wp2
            go_roundw
            case rel => exact ⟨n + 1, by omega, by go_num, hend⟩
            case measure => simp [intOf]; omega
        · obtain rfl : s = 0 := hs0 (by simpa using huv)
          have hnc : ¬ ((canTo m nx c n).getD n false = true ∧ n ≠ c) := fun h => huv (by rw [HU.out, HV.out, h.1, decide_eq_true h.2]; rfl)
          have cb1 : wr.cell? ⟨w.heap.size, n, none⟩ = some (.bool u) := by rw [HW2.out.1.get hnm, canRow_no hnc]; exact congrArg (fun x => some (Value.bool x)) HU.out.symm
          have hend : Hid (BoRow w.heap.size w.heap.size m (canTo m nx c (n + 1)) wr ∧ Below w.heap.size w wr) := Lib.hid ⟨by
            have := HW2.out.1
            rw [canRow_no hnc] at this
            rw [canTo_succ, canRow_no hnc]; exact this, HW2.out.2⟩
          have HUV := Lib.hid huv
          clear hs0 hnc huv
          cases hLL : decide (0 < L.length) with
          | false =>
            have h1 : (L.length : Int) ≤ 0 := by have := of_decide_eq_false hLL; omega
            clear hLL
            go_wp2
            go_roundw
            case rel => exact ⟨n + 1, by omega, by go_num, hend⟩
            case measure => simp [intOf]; omega
          | true =>
            have h1 : (0 : Int) < L.length := by have := of_decide_eq_true hLL; omega
            clear hLL
            cases u with
            | false =>
              go_wp2
              go_roundw
              case rel => exact ⟨n + 1, by omega, by go_num, hend⟩
              case measure => simp [intOf]; omega
            | true =>
              cases v with
              | true => exact absurd rfl HUV.out
              | false =>
                go_wp2
                go_roundw
                case rel => exact ⟨n + 1, by omega, by go_num, hend⟩
                case measure => simp [intOf]; omega
    · obtain rfl : n = m := by omega
      have hend := HW.out
      go_wp2
      go_ret
      exact ⟨rfl, hend.1, hend.2⟩
/-! Above. -/
def rabMid (n : Nat) (nx : Nat → List Nat) (out : List Int) (c b : Nat) : List Int := (List.range n).map fun x => if x < b ∧ x ≠ c ∧ (canTo n nx c n).getD x false = false then (c : Int) else out.getD x 0
theorem rabMid_zero {n : Nat} {nx : Nat → List Nat} {out : List Int} (h : out.length = n) (c : Nat) : rabMid n nx out c 0 = out := by
  refine List.ext_getElem? fun i => ?_
  unfold rabMid
  rw [List.getElem?_map]
  rcases Nat.lt_or_ge i n with hi | hi
  · rw [List.getElem?_range hi, List.getElem?_eq_getElem (by omega : i < out.length), Option.map_some, if_neg (by omega), List.getD_eq_getElem?_getD, List.getElem?_eq_getElem (by omega : i < out.length)]; rfl
  · rw [List.getElem?_eq_none (by simpa using hi), List.getElem?_eq_none (by omega)]; rfl
theorem rabMid_end (n : Nat) (nx : Nat → List Nat) (out : List Int) (c : Nat) : rabMid n nx out c n = rabStep n nx out c := by
  unfold rabMid rabStep
  refine List.map_congr_left fun x hx => ?_
  have : x < n := by simpa using hx
  by_cases h : x ≠ c ∧ (canTo n nx c n).getD x false = false
  · rw [if_pos ⟨this, h⟩, if_pos h]
  · rw [if_neg (fun h1 => h h1.2), if_neg h]
theorem rabMid_yes {n : Nat} {nx : Nat → List Nat} {out : List Int} {c b : Nat} (h : b ≠ c ∧ (canTo n nx c n).getD b false = false) : rabMid n nx out c (b + 1) = (rabMid n nx out c b).set b c := by
  refine List.ext_getElem? fun i => ?_
  unfold rabMid
  rw [List.getElem?_set, List.getElem?_map, List.getElem?_map, List.length_map, List.length_range]
  by_cases e : b = i
  · subst e
    rw [if_pos rfl]
    rcases Nat.lt_or_ge b n with hb | hb
    · rw [if_pos hb, List.getElem?_range hb, Option.map_some, if_pos ⟨by omega, h⟩]
    · rw [if_neg (by omega), List.getElem?_eq_none (by simpa using hb)]; rfl
  · rw [if_neg e]
    rcases Nat.lt_or_ge i n with hi | hi
    · rw [List.getElem?_range hi, Option.map_some, Option.map_some]
      by_cases h2 : i < b ∧ i ≠ c ∧ (canTo n nx c n).getD i false = false
      · rw [if_pos h2, if_pos ⟨by omega, h2.2⟩]
      · rw [if_neg h2, if_neg (fun h3 => h2 ⟨by omega, h3.2⟩)]
    · rw [List.getElem?_eq_none (by simpa using hi)]; rfl
theorem rabMid_no {n : Nat} {nx : Nat → List Nat} {out : List Int} {c b : Nat} (h : ¬ (b ≠ c ∧ (canTo n nx c n).getD b false = false)) : rabMid n nx out c (b + 1) = rabMid n nx out c b := by
  unfold rabMid
  refine List.map_congr_left fun x hx => ?_
  by_cases h2 : x < b ∧ x ≠ c ∧ (canTo n nx c n).getD x false = false
  · rw [if_pos h2, if_pos ⟨by omega, h2.2⟩]
  · rw [if_neg h2, if_neg (fun h3 => by
      rcases Nat.lt_succ_iff_lt_or_eq.1 h3.1 with y | y
      · exact h2 ⟨y, h3.2⟩
      · subst y; exact h h3.2)]
theorem setm1 (n k : Nat) (hk : k < n) : (List.replicate k (-1 : Int) ++ List.replicate (n - k) 0).set k (-1) = List.replicate (k + 1) (-1) ++ List.replicate (n - (k + 1)) 0 := by
  obtain ⟨m, hm⟩ : ∃ m, n - k = m + 1 := ⟨n - k - 1, by omega⟩
  rw [hm, show n - (k + 1) = m by omega, List.set_append_right _ _ (by simp)]
  rw [List.length_replicate, Nat.sub_self, List.replicate_succ (n := m), List.set_cons_zero, List.replicate_succ' (n := k), List.append_assoc]; rfl
set_option maxRecDepth 100000 in
set_option maxHeartbeats 3200000 in
theorem rAbove_c (A : Option Addr) (cap : Nat) (q : List I4) (h0 : (checkP q).1 = 0) (hok : ∀ x ∈ q, x.ok) (w : World) (hr : Reads w w.heap.size 4 A q.length (cellsI q)) :
    Calls Try.prog 35 #[.slice A q.length cap] w fun e w' => ∃ g, e = .returned (.slice (some ⟨g, 0, none⟩) (blocksQ q).length (blocksQ q).length) ∧ IRow w.heap.size g (blocksQ q).length (aboveP q) w' ∧ Below w.heap.size w w' := by
  obtain ⟨a1, a2, -, -⟩ := acc_facts h0
  have HRB := Lib.hid (rBlocks_c A cap q h0 hok w hr)
  have HOK := Lib.hid hok
  have H0 := Lib.hid h0
  clear hr hok h0
  obtain ⟨m, hm⟩ : ∃ m, m = (blocksQ q).length := ⟨_, rfl⟩
  have hm1 : 0 < m := by rw [hm]; exact blocks_pos H0.out HOK.out
  have hm2 : m ≤ 4096 := by rw [hm]; exact Nat.le_trans (blocks_le q (intoP q) q.length 0) a2
  have hm3 : (m : Int) ≤ 4096 := by omega
  have hm4 : (0 : Int) < m := by omega
  have HMM := Lib.hid hm
  obtain ⟨i0, HI⟩ : ∃ i0, Hid (Try.prog.info? 3 = some i0 ∧ i0.zero = some (.int .i64 0) ∧ i0.size = 1 ∧ i0.bytes = 8) := by
    obtain ⟨i0, hi, hz0, hz1, hz2⟩ := info_parts infoInt
    exact ⟨i0, Lib.hid ⟨hi, hz0, hz1, hz2⟩⟩
  clear hm
  go_enter Try.func35, Try.ntmps35
  go_wp2_with fail
  refine HRB.out.mono ?_
  rintro e w2 hP
  obtain ⟨Ab, cb, rfl, HBR, hb2⟩ := hP.reads H0.out HOK.out
  rw [← HMM.out]
  have HB2 := Lib.hid hb2
  obtain ⟨ps, hps⟩ : ∃ ps, ps = blocksQ q := ⟨_, rfl⟩
  obtain ⟨nx, hnx⟩ : ∃ nx, nx = nxQ q := ⟨_, rfl⟩
  have HFW' : Hid (Fwd m nx) := Lib.hid (by rw [HMM.out, hnx]; exact nx_fwd H0.out HOK.out)
  have HNX' : Hid (∀ j, (nx j).length ≤ 2) := Lib.hid (by rw [hnx]; exact nx_len q)
  have HPL : Hid (ps.length = m) := Lib.hid (by rw [hps, HMM.out])
  have HAB : Hid (rabTo m nx m = aboveP q) := Lib.hid (by rw [← above_same HFW'.out, HMM.out, hnx]; rfl)
  rw [← hps, ← hnx] at HBR
  clear hP hps hnx hb2
  obtain ⟨w3, hrun, hown, hg⟩ := run_make_full (P := Try.prog) w2 w2.heap.size 36 3 i0 _ 1 Try.underlying36 HI.out.1 HI.out.2.1 HI.out.2.2.1 .i64 .i64 m (by rw [HI.out.2.2.2]; omega) (by simp only [maxLen]; omega) (Nat.le_refl _)
  have hb3 : Below w2.heap.size w2 w3 := ⟨hg.os, hg.tape, hg.output, hg.size, fun k hk => hg.block k hk (by simp)⟩
  have hrow : IRow w2.heap.size w2.heap.size m (List.replicate m 0) w3 := IRow.new hown
  obtain ⟨g, hgg⟩ : ∃ g, g = w2.heap.size := ⟨_, rfl⟩
  have HS : Hid (IRow g g m (List.replicate 0 (-1) ++ List.replicate (m - 0) 0) w3 ∧ Below g w2 w3) := Lib.hid (by rw [hgg]; exact ⟨hrow, hb3⟩)
  have hgl := hrow.lt hm1
  rw [← hgg] at hgl
  clear hown hg hrow hb3
  go_wp2_with fail
  rw [← hgg]
  have HGG : Hid (w2.heap.size = g) := Lib.hid hgg.symm
  clear hrun hgg
  go_loopw [5] (fun i wr => ∃ k : Nat, k ≤ m ∧ i = .int .i64 k ∧ Hid (IRow g g m (List.replicate k (-1) ++ List.replicate (m - k) 0) wr ∧ Below g w2 wr)) (fun i _ => m - (intOf i).toNat)
  case atStart => exact ⟨0, by omega, rfl, HS⟩
  case round =>
    obtain ⟨k, hk, rfl, HW⟩ := hrel
    clear HS
    rcases Nat.lt_or_ge k m with hkm | hkm
    · have hkm' : (k : Int) < m := by omega
      have c1 := HW.out.1.get hkm
      have f1 := HW.out.1.free k
      have HN : Hid (IRow g g m (List.replicate (k + 1) (-1) ++ List.replicate (m - (k + 1)) 0) (wr.setCell ⟨g, k, none⟩ (.int .i64 (-1))) ∧ Below g w2 (wr.setCell ⟨g, k, none⟩ (.int .i64 (-1)))) :=
        Lib.hid ⟨by rw [← setm1 m k hkm]; exact HW.out.1.set k (-1), HW.out.2.setCell (p := ⟨g, k, none⟩) (Nat.le_refl _) _⟩
      go_wp2
      go_roundw
      case rel => exact ⟨k + 1, by omega, by go_num, HN⟩
      case measure => simp [intOf]; omega
    · obtain rfl : k = m := by omega
      have HS : Hid (IRow g g k (rabTo k nx 0) wr ∧ Below g w2 wr) := Lib.hid (by
        have hrow := HW.out.1
        rw [Nat.sub_self, List.replicate_zero, List.append_nil] at hrow
        exact ⟨hrow, HW.out.2⟩)
      go_wp2_with fail
      go_loopw [6] (fun i wr => ∃ j : Nat, j ≤ k ∧ i = .int .i64 j ∧ Hid (IRow g g k (rabTo k nx j) wr ∧ Below g w2 wr)) (fun i _ => k - (intOf i).toNat)
      case atStart => exact ⟨0, by omega, rfl, HS⟩
      case round =>
        obtain ⟨c, hc, rfl, HW2⟩ := hrel
        clear HS
        rcases Nat.lt_or_ge c k with hck | hck
        · have hck' : (c : Int) < k := by omega
          have HBRr : Hid (BlkReads wr Ab ps nx) := Lib.hid (HBR.out.up (by rw [HGG.out]; exact HW2.out.2))
          go_wp2_with fail
          refine (without_c Ab cb k c ps nx HPL.out hm1 hm2 hck HFW'.out HNX'.out wr HBRr.out).mono ?_
          rintro e w5 ⟨rfl, hcan, hb5⟩
          obtain ⟨X, hX⟩ : ∃ X, X = wr.heap.size := ⟨_, rfl⟩
          have hgX : g < X := by rw [hX]; exact HW2.out.1.lt hm1
          rw [← hX] at hcan ⊢
          have HS5 : Hid (IRow g g k (rabMid k nx (rabTo k nx c) c 0) w5 ∧ Below g w2 w5 ∧ BoRow X X k (canTo k nx c k) w5) := Lib.hid ⟨by rw [rabMid_zero (rabTo_len _ _ _)]; exact HW2.out.1.keep hb5, by
            have h1 := HW2.out.2
            have := below_t (by rw [HGG.out]; exact h1 : Below w2.heap.size w2 wr) hb5
            rw [HGG.out] at this; exact this, hcan⟩
          clear hcan hb5 hX HBRr HW2
          go_wp2_with fail
          go_loopw [8] (fun b wr2 => ∃ s : Nat, s ≤ k ∧ b = .int .i64 s ∧ Hid (IRow g g k (rabMid k nx (rabTo k nx c) c s) wr2 ∧ Below g w2 wr2 ∧ BoRow X X k (canTo k nx c k) wr2)) (fun b _ => k - (intOf b).toNat)
          case atStart => exact ⟨0, by omega, rfl, HS5⟩
          case round =>
            obtain ⟨s, hs, rfl, HW3⟩ := hrel
            clear HS5
            rcases Nat.lt_or_ge s k with hsk | hsk
            · have hsk' : (s : Int) < k := by omega
              obtain ⟨u, hu⟩ : ∃ u, u = (canTo k nx c k).getD s false := ⟨_, rfl⟩
              have cu := HW3.out.2.2.get hsk
              rw [← hu] at cu
              have cs := HW3.out.1.get hsk
              have fs := HW3.out.1.free s
              have HU := Lib.hid hu
              clear hu
              by_cases hsc : s = c
              · have t1 : ((s : Int) != c) = false := by rw [hsc]; simp
                have HN : Hid (IRow g g k (rabMid k nx (rabTo k nx c) c (s + 1)) wr ∧ Below g w2 wr ∧ BoRow X X k (canTo k nx c k) wr) := Lib.hid ⟨by rw [rabMid_no (fun h => h.1 hsc)]; exact HW3.out.1, HW3.out.2⟩
                clear hsc
                go_wp2
                go_roundw
                case rel => exact ⟨s + 1, by omega, by go_num, HN⟩
                case measure => simp [intOf]; omega
              · have t1 : ((s : Int) != c) = true := by simp; omega
                cases u with
                | true =>
                  have HN : Hid (IRow g g k (rabMid k nx (rabTo k nx c) c (s + 1)) wr ∧ Below g w2 wr ∧ BoRow X X k (canTo k nx c k) wr) := Lib.hid ⟨by rw [rabMid_no (fun h => by have := h.2; rw [← HU.out] at this; cases this)]; exact HW3.out.1, HW3.out.2⟩
                  clear hsc
                  go_wp2
                  go_roundw
                  case rel => exact ⟨s + 1, by omega, by go_num, HN⟩
                  case measure => simp [intOf]; omega
                | false =>
                  have HN : Hid (IRow g g k (rabMid k nx (rabTo k nx c) c (s + 1)) (wr.setCell ⟨g, s, none⟩ (.int .i64 c)) ∧ Below g w2 (wr.setCell ⟨g, s, none⟩ (.int .i64 c)) ∧ BoRow X X k (canTo k nx c k) (wr.setCell ⟨g, s, none⟩ (.int .i64 c))) :=
                    Lib.hid ⟨by rw [rabMid_yes ⟨hsc, HU.out.symm⟩]; exact HW3.out.1.set s c, HW3.out.2.1.setCell (p := ⟨g, s, none⟩) (Nat.le_refl _) _, HW3.out.2.2.other (a := ⟨g, s, none⟩) (show g ≠ X by omega) _⟩
                  clear hsc
                  go_wp2
                  go_roundw
                  case rel => exact ⟨s + 1, by omega, by go_num, HN⟩
                  case measure => simp [intOf]; omega
            · obtain rfl : s = k := by omega
              have HN : Hid (IRow g g s (rabTo s nx (c + 1)) wr ∧ Below g w2 wr) := Lib.hid ⟨by rw [rabTo_succ, ← rabMid_end]; exact HW3.out.1, HW3.out.2.1⟩
              go_wp2
              go_roundw
              case rel => exact ⟨c + 1, by omega, by go_num, HN⟩
              case measure => simp [intOf]; omega
        · obtain rfl : c = k := by omega
          have hrow := HW2.out.1
          rw [HAB.out] at hrow
          have HE := Lib.hid (And.intro hrow HW2.out.2)
          clear hrow
          go_wp2
          refine bodyPost_ret (v := .slice (some ⟨g, 0, none⟩) c c) (by simp [results, Try.results35, go_sem]) rfl ?_
          refine ⟨g, by rw [← HMM.out], ?_, ?_⟩
          · rw [← HMM.out]; exact ⟨HE.out.1.1, own_base HE.out.1.2 (by have := HB2.out.size; have := HGG.out; omega)⟩
          · exact below_t HB2.out (by rw [HGG.out]; exact HE.out.2)
end Go.Proofs.Ytapmpegblfcknaa
