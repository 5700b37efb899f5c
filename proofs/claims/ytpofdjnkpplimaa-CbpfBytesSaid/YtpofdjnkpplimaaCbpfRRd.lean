import Derived.Test.YtpofdjnkpplimaaCbpfRd
set_option linter.unusedVariables false
set_option linter.unusedSimpArgs false
namespace Go.Proofs.Ytpofdjnkpplimaa
open Go.RowKit Go.Shelf
/-! ravelinref03.Read. -/
set_option maxHeartbeats 800000 in
theorem rLoad2_w (b off cap at_ : Nat) (b0 b1 : Int) (n : Nat) (h : at_ + 2 ≤ n) (hn : n ≤ 9223372036854775807) (w : World)
    (c0 : w.cell? ⟨b, off + at_, none⟩ = some (.int .u8 b0)) (c1 : w.cell? ⟨b, off + (at_ + 1), none⟩ = some (.int .u8 b1))
    (h0 : 0 ≤ b0 ∧ b0 < 256) (h1 : 0 ≤ b1 ∧ b1 < 256) :
    Calls Try.prog 46 #[.slice (some ⟨b, off, none⟩) n cap, .int .i64 at_, .int .i64 2] w fun e w' => e = .returned (.tuple #[.int .u64 (b0 + b1 * 256), .int .i64 0]) ∧ w = w' := by
  obtain ⟨p0, q0⟩ := h0
  obtain ⟨p1, q1⟩ := h1
  have hi : (at_ : Int) + 2 ≤ n := by omega
  go_enter Try.func46, Try.ntmps46
  go_wp2_with fail
  refine wp_loop_rounds 3 ?_
  rw [rounds_succ]
  go_wp2_with fail
  rw [show bits .or .u64 0 b1 = b1 by rw [or_add 0 0 b1 (by omega) (by omega) (by omega) p1 (by omega) (by omega)]; omega]
  rw [rounds_succ]
  go_wp2_with fail
  rw [orl p1 (by omega) p0 q0]
  rw [rounds_succ]
  go_wp2_with fail
  go_ret2
  exact ⟨ret2_u (by omega), rfl⟩
def GrowQ (w : World) (v : Value) (l : List I4) (W : World) : Prop := W.ownsRow w.heap.size 34 4 v l.length (cellsI l) ∧ Below w.heap.size w W
def ReadPost (w : World) (d : List Int) (e : Ending) (w' : World) : Prop := (d.length % 8 ≠ 0 ∧ e = .returned (.tuple #[.slice none 0 0, .int .i64 31]) ∧ Below w.heap.size w w') ∨ (d.length % 8 = 0 ∧ ∃ v, e = .returned (.tuple #[v, .int .i64 0]) ∧ GrowQ w v (readQ d (d.length / 8)) w')
theorem readQ_len (d : List Int) (k : Nat) : (readQ d k).length = k := by simp [readQ]
theorem readQ_succ (d : List Int) (k : Nat) : readQ d (k + 1) = readQ d k ++ [readI d k] := by simp [readQ, List.range_succ]
theorem getN_get {d : List Int} {i : Nat} (h : i < d.length) : d[i]? = some (getN d i) := by unfold getN; rw [List.getD_eq_getElem?_getD, List.getElem?_eq_getElem h]; rfl
theorem Reads.byte {w : World} {B n b off : Nat} {d : List Int} (h : Reads w B 1 (some ⟨b, off, none⟩) n (numV .u8 d)) {i : Nat} (hi : i < d.length) : w.cell? ⟨b, off + i, none⟩ = some (.int .u8 (getN d i)) := by
  obtain ⟨b', off', e, _, hc⟩ := h.num (getN_get hi)
  injection e with e; injection e with e1 e2
  subst e1 e2
  exact hc
theorem getN_u8 {d : List Int} (h : ∀ x ∈ d, 0 ≤ x ∧ x < 256) (i : Nat) : 0 ≤ getN d i ∧ getN d i < 256 := by
  unfold getN
  rw [List.getD_eq_getElem?_getD]
  cases e : d[i]? with
  | none => exact ⟨by decide, by decide⟩
  | some x => exact h x (List.mem_of_getElem? e)
set_option maxRecDepth 100000 in
set_option maxHeartbeats 1600000 in
theorem rRead_c (A : Option Addr) (cap : Nat) (d : List Int) (hd : ∀ x ∈ d, 0 ≤ x ∧ x < 256) (hB : d.length ≤ 140737488351232) (w : World) (hr : Reads w w.heap.size 1 A d.length (numV .u8 d)) :
    Calls Try.prog 28 #[.slice A d.length cap] w (ReadPost w d) := by
  have HR := Lib.hid hr
  have HD := Lib.hid hd
  have hdl : (d.length : Int) ≤ 140737488351232 := by omega
  clear hr hd
  obtain ⟨i0, HI⟩ : ∃ i0, Hid (Try.prog.info? 34 = some i0 ∧ i0.zero = some (.agg #[.int .u16 0, .int .u8 0, .int .u8 0, .int .u32 0]) ∧ i0.size = 4 ∧ i0.bytes = 8) := by
    obtain ⟨i0, hi, hz0, hz1, hz2⟩ := info_parts infoI
    exact ⟨i0, Lib.hid ⟨hi, hz0, hz1, hz2⟩⟩
  by_cases h8 : d.length % 8 = 0
  · have ht : ((d.length : Int) % 8 != 0) = false := by simp; omega
    have H8 := Lib.hid h8
    have hl8 : 8 * (d.length / 8) = d.length := by omega
    obtain ⟨m, hm⟩ : ∃ m, m = d.length / 8 := ⟨_, rfl⟩
    have HM := Lib.hid hm
    have HL := Lib.hid (show d.length = 8 * m by omega)
    clear h8 hl8 hm
    go_enter Try.func28, Try.ntmps28
    go_wp2_with fail
    have HG := Lib.hid (show GrowQ w (.slice none 0 0) (readQ d 0) w from ⟨World.ownsRow_nil _ _ _ _, Below.refl _ _⟩)
    go_loopw [4, 5] (fun v i wr => ∃ k p : Nat, k ≤ m ∧ Hid (p = 8 * k) ∧ i = .int .i64 p ∧ Hid (GrowQ w v (readQ d k) wr)) (fun _ i _ => 8 * m - (intOf i).toNat)
    case atStart => exact ⟨0, 0, by omega, Lib.hid rfl, rfl, HG⟩
    case round =>
      obtain ⟨k, p, hk, HP, rfl, HW⟩ := hrel
      clear HG
      rcases Nat.lt_or_ge k m with hlt | hlt
      · have hpl : p + 8 ≤ d.length := by have := HP.out; have := HL.out; omega
        have hpl' : (p : Int) + 8 ≤ d.length := by omega
        have hp0 : (p : Int) < d.length := by omega
        have hr' := HR.out.up HW.out.2
        obtain ⟨b, off, hA, hbl, -⟩ := hr'.2 (by omega)
        subst hA
        have HR' := Lib.hid hr'
        have hn := HD.out
        have HN := Lib.hid (fun j => getN_u8 hn j)
        clear hn hr'
        go_wp2_with fail
        refine (rLoad2_w b off cap p _ _ d.length (by omega) (by omega) wr (HR'.out.byte (by omega)) (HR'.out.byte (by omega)) (HN.out _) (HN.out _)).mono ?_
        rintro e w2 ⟨rfl, rfl⟩
        go_wp2_with fail
        refine (rLoad4_w b off cap (p + 4) _ _ _ _ d.length (by omega) (by omega) wr (HR'.out.byte (by omega)) (HR'.out.byte (by omega)) (HR'.out.byte (by omega)) (HR'.out.byte (by omega)) (HN.out _) (HN.out _) (HN.out _) (HN.out _)).mono ?_
        rintro e w2 ⟨rfl, rfl⟩
        obtain ⟨C, hC⟩ : ∃ C, C = getN d p + getN d (p + 1) * 256 := ⟨_, rfl⟩
        obtain ⟨K4, hK4⟩ : ∃ K4, K4 = getN d (p + 4) + getN d (p + 4 + 1) * 256 + getN d (p + 4 + 2) * 65536 + getN d (p + 4 + 3) * 16777216 := ⟨_, rfl⟩
        obtain ⟨J, hJ⟩ : ∃ J, J = getN d (p + 2) := ⟨_, rfl⟩
        obtain ⟨F, hF⟩ : ∃ F, F = getN d (p + 3) := ⟨_, rfl⟩
        have HC := Lib.hid hC
        have HK4 := Lib.hid hK4
        have HJ := Lib.hid hJ
        have HF := Lib.hid hF
        rw [← hC, ← hK4]
        clear hC hK4 hJ hF
        have HK := Lib.hid (show ∀ W, Below w.heap.size w W → W.cell? ⟨b, off + ((p : Int) + 2).toNat, none⟩ = some (.int .u8 J) ∧ W.cell? ⟨b, off + ((p : Int) + 3).toNat, none⟩ = some (.int .u8 F) ∧ Below w.heap.size w W from fun W hb => by
          rw [HJ.out, HF.out, show ((p : Int) + 2).toNat = p + 2 by omega, show ((p : Int) + 3).toNat = p + 3 by omega]
          exact ⟨(HR.out.below hb).byte (by omega), (HR.out.below hb).byte (by omega), hb⟩)
        have hkk : k + 1 ≤ 17592186043904 := by have := HL.out; omega
        have hp2 : (p : Int) + 2 < d.length := by omega
        have hp3 : (p : Int) + 3 < d.length := by omega
        have hq2 : (0 : Int) ≤ (p : Int) + 2 := by omega
        have hq3 : (0 : Int) ≤ (p : Int) + 3 := by omega
        have hr2 : IntKind.i64.wrap ((p : Int) + 2) = (p : Int) + 2 := by rw [IntKind.wrap_i64]; omega
        have hr3 : IntKind.i64.wrap ((p : Int) + 3) = (p : Int) + 3 := by rw [IntKind.wrap_i64]; omega
        have hrow := HW.out.1
        rw [readQ_len] at hrow
        have HROW := Lib.hid hrow
        have hwr := HW.out.2.size
        clear hrow
        have HOW0 := Lib.hid (show ((wr.alloc (.cells #[.int .u16 (IntKind.u16.wrap C), .int .u8 J, .int .u8 F, .int .u32 (IntKind.u32.wrap K4)] 34)).drew).ownsRow w.heap.size 34 4 _ k (cellsI (readQ d k)) from HROW.out.alloc _)
        have HNEW := Lib.hid (show Reads ((wr.alloc (.cells #[.int .u16 (IntKind.u16.wrap C), .int .u8 J, .int .u8 F, .int .u32 (IntKind.u32.wrap K4)] 34)).drew) (wr.heap.size + 1) 4 (some ⟨wr.heap.size, 0, none⟩) 1 (cellsI [⟨IntKind.u16.wrap C, J, F, IntKind.u32.wrap K4⟩]) from reads_new wr #[.int .u16 (IntKind.u16.wrap C), .int .u8 J, .int .u8 F, .int .u32 (IntKind.u32.wrap K4)] 34 4 1 (cellsI [⟨IntKind.u16.wrap C, J, F, IntKind.u32.wrap K4⟩]) rfl rfl)
        go_wp2_with fail
        go_region_held3 (fun W => W.cell? ⟨b, off + ((p : Int) + 2).toNat, none⟩ = some (.int .u8 J) ∧ W.cell? ⟨b, off + ((p : Int) + 3).toNat, none⟩ = some (.int .u8 F) ∧ Below w.heap.size w W)
          (first | exact HK.out _ (below_dr HW.out.2) | exact HK.out _ (below_dr (HW.out.2.alloc HW.out.2.size _)) | exact HK.out _ (by assumption) | assumption)
          (first | (refine step_app rfl (.tmp 33) (.tmp 49) 22 rfl w.heap.size 34 i0 _ 4 8 Try.underlying22 HI.out.1 HI.out.2.1 HI.out.2.2.1 HI.out.2.2.2 rfl (by decide) _ k _ rfl HOW0.out (some ⟨wr.heap.size, 0, none⟩) (wr.heap.size + 1) 1 1 (cellsI [⟨IntKind.u16.wrap C, J, F, IntKind.u32.wrap K4⟩]) rfl (fun h => by cases h) HNEW.out (cellsI_one _) (by simp only [maxLen]; omega) (by omega) (by simp; omega) ?_; intro v' w3 hown' hgrow _; have HO := Lib.hid hown'; have hb3 : Below w.heap.size w w3 := below_gr (below_dr (HW.out.2.alloc HW.out.2.size _)) hgrow (by simp; omega) (fun j hj => own_ge HROW.out j hj); clear hown' hgrow))
        go_wp2_with fail
        have e16 : IntKind.u16.wrap C = C := by
          have h0 := HN.out p; have h1 := HN.out (p + 1); have h := HC.out
          rw [show IntKind.u16.wrap C = C % 65536 by simp [IntKind.wrap, IntKind.bits, IntKind.signed]]; omega
        have e32 : IntKind.u32.wrap K4 = K4 := by
          have h0 := HN.out (p + 4); have h1 := HN.out (p + 4 + 1); have h2 := HN.out (p + 4 + 2); have h3 := HN.out (p + 4 + 3); have h := HK4.out
          rw [show IntKind.u32.wrap K4 = K4 % 4294967296 by simp [IntKind.wrap, IntKind.bits, IntKind.signed]]; omega
        refine ⟨⟨k + 1, p + 8, hlt, Lib.hid (by have := HP.out; omega), rfl, Lib.hid ⟨?_, hb3⟩⟩, by simp only [intOf]; have := HL.out; omega⟩
        have h := HO.out
        have ex : (⟨IntKind.u16.wrap C, J, F, IntKind.u32.wrap K4⟩ : I4) = readI d k := by rw [e16, e32, HC.out, HK4.out, HJ.out, HF.out, HP.out]; rfl
        rw [ex] at h
        rw [readQ_succ, List.length_append, readQ_len]
        have e2 : cellsI (readQ d k) ++ cellsI [readI d k] = cellsI (readQ d k ++ [readI d k]) := by simp [cellsI]
        rw [e2] at h
        exact h
      · obtain rfl : k = m := by omega
        have hp : (d.length : Int) ≤ p := by have := HP.out; have := HL.out; omega
        have hg := HW.out
        rw [HM.out] at hg
        have HGG := Lib.hid hg
        clear hg
        go_wp2
        refine bodyPost_ret (v := .tuple #[u4, .int .i64 0]) (by simp [results, Try.results28, go_sem]) rfl (.inr ⟨H8.out, _, rfl, HGG.out⟩)
  · have ht : ((d.length : Int) % 8 != 0) = true := by simp; omega
    have H8 := Lib.hid h8
    clear h8
    go_enter Try.func28, Try.ntmps28
    go_wp2
    refine bodyPost_ret (v := .tuple #[.slice none 0 0, .int .i64 31]) (by simp [results, Try.results28, go_sem]) rfl (.inl ⟨H8.out, rfl, Below.refl _ _⟩)
end Go.Proofs.Ytpofdjnkpplimaa
