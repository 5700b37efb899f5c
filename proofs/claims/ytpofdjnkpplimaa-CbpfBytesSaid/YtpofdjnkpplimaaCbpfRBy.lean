import Derived.Test.YtpofdjnkpplimaaCbpfBy
import Derived.Test.YtpofdjnkpplimaaStep
set_option linter.unusedVariables false
set_option linter.unusedSimpArgs false
namespace Go.Proofs.Ytpofdjnkpplimaa
open Go.RowKit Go.Shelf
/-! ravelinref03.Bytes: the walk. -/
def GrowB (w : World) (v : Value) (l : List Int) (W : World) : Prop := W.ownsRow w.heap.size 5 1 v l.length (numV .u8 l) ∧ Below w.heap.size w W
def bytesW (x : I4) : List Int := [IntKind.u8.wrap x.c, IntKind.u8.wrap (x.c / 256), x.j, x.f, IntKind.u8.wrap x.k, IntKind.u8.wrap (x.k / 256), IntKind.u8.wrap (x.k / 65536), IntKind.u8.wrap (x.k / 16777216)]
theorem bytesW_eq {x : I4} (hx : x.ok) : bytesW x = bytesI x := by
  obtain ⟨a1, a2, a3, a4, a5, a6, a7, a8⟩ := hx
  have h : ∀ y : Int, IntKind.u8.wrap y = y % 256 := fun y => by simp [IntKind.wrap, IntKind.bits, IntKind.signed]
  unfold bytesW bytesI
  simp only [h]
  rw [Int.emod_eq_of_lt (a := x.c / 256) (by omega) (by omega), Int.emod_eq_of_lt (a := x.k / 16777216) (by omega) (by omega)]
def RBytesPost (w : World) (q : List I4) (e : Ending) (w' : World) : Prop := ∃ v, e = .returned v ∧ GrowB w v (bytesQ q) w'
set_option maxRecDepth 100000 in
set_option maxHeartbeats 1600000 in
theorem rBytes_c (A : Option Addr) (cap : Nat) (q : List I4) (hq : ∀ x ∈ q, x.ok) (hB : q.length * 8 ≤ 140737488351232) (w : World) (hr : Reads w w.heap.size 4 A q.length (cellsI q)) :
    Calls Try.prog 25 #[.slice A q.length cap] w (RBytesPost w q) := by
  have HR := Lib.hid hr
  have HQ := Lib.hid hq
  have hql : (q.length : Int) ≤ 17592186043904 := by omega
  clear hr hq
  obtain ⟨i0, HI⟩ : ∃ i0, Hid (Try.prog.info? 5 = some i0 ∧ i0.zero = some (.int .u8 0) ∧ i0.size = 1 ∧ i0.bytes = 1) := by
    obtain ⟨i0, hi, hz0, hz1, hz2⟩ := info_parts infoU8
    exact ⟨i0, Lib.hid ⟨hi, hz0, hz1, hz2⟩⟩
  go_enter Try.func25, Try.ntmps25
  go_wp2_with fail
  have HG := Lib.hid (show GrowB w (.slice none 0 0) (bytesQ (q.take 0)) w from ⟨World.ownsRow_nil _ _ _ _, Below.refl _ _⟩)
  go_loopw [3, 4] (fun v i wr => ∃ k : Nat, k ≤ q.length ∧ i = .int .i64 k ∧ Hid (GrowB w v (bytesQ (q.take k)) wr)) (fun _ i _ => q.length - (intOf i).toNat)
  case atStart => exact ⟨0, by omega, rfl, HG⟩
  case round =>
    obtain ⟨k, hk, rfl, HW⟩ := hrel
    clear HG
    rcases Nat.lt_or_ge k q.length with hlt | hlt
    · have hlt' : (k : Int) < q.length := by omega
      obtain ⟨x, hx⟩ : ∃ x, q[k]? = some x := ⟨_, List.getElem?_eq_getElem hlt⟩
      obtain ⟨a1, a2, a3, a4, a5, a6, a7, a8⟩ := HQ.out x (List.mem_of_getElem? hx)
      obtain ⟨b, off, rfl, hbl, c0, c1, c2, c3⟩ := (HR.out.up HW.out.2).insn hx
      have HX := Lib.hid hx
      have hlen : (bytesQ (q.take k)).length = 8 * k := by rw [bytesQ_len, List.length_take, Nat.min_eq_left (by omega)]
      have HLEN := Lib.hid hlen
      have hwr := HW.out.2.size
      have hrow := HW.out.1
      rw [hlen] at hrow
      have HROW := Lib.hid hrow
      clear hx hlen hrow
      have HOW0 := Lib.hid (show ((wr.alloc (.cells (numV .u8 (bytesW x)).toArray 5)).drew).ownsRow w.heap.size 5 1 _ (8 * k) (numV .u8 (bytesQ (q.take k))) from HROW.out.alloc _)
      have HNEW := Lib.hid (show Reads ((wr.alloc (.cells (numV .u8 (bytesW x)).toArray 5)).drew) (wr.heap.size + 1) 1 (some ⟨wr.heap.size, 0, none⟩) 8 (numV .u8 (bytesW x)) from reads_new wr (numV .u8 (bytesW x)).toArray 5 1 8 (numV .u8 (bytesW x)) rfl rfl)
      have HK := Lib.hid (show ∀ W, Below w.heap.size w W → W.cell? ⟨b, off + k * 4, none⟩ = some (.int .u16 x.c) ∧ W.cell? ⟨b, off + k * 4 + 1, none⟩ = some (.int .u8 x.j) ∧ W.cell? ⟨b, off + k * 4 + 2, none⟩ = some (.int .u8 x.f) ∧ W.cell? ⟨b, off + k * 4 + 3, none⟩ = some (.int .u32 x.k) ∧ Below w.heap.size w W from fun W hb => by
        obtain ⟨b', off', e, _, d0, d1, d2, d3⟩ := (HR.out.below hb).insn HX.out
        injection e with e; injection e with e1 e2
        subst e1 e2
        exact ⟨d0, d1, d2, d3, hb⟩)
      clear c0 c1 c2 c3
      go_wp2_with fail
      go_region_held3 (fun W => W.cell? ⟨b, off + k * 4, none⟩ = some (.int .u16 x.c) ∧ W.cell? ⟨b, off + k * 4 + 1, none⟩ = some (.int .u8 x.j) ∧ W.cell? ⟨b, off + k * 4 + 2, none⟩ = some (.int .u8 x.f) ∧ W.cell? ⟨b, off + k * 4 + 3, none⟩ = some (.int .u32 x.k) ∧ Below w.heap.size w W)
        (first | exact HK.out _ (below_dr HW.out.2) | exact HK.out _ (below_dr (HW.out.2.alloc HW.out.2.size _)) | exact HK.out _ (by assumption) | assumption)
        (first | (refine step_app rfl (.tmp 11) (.tmp 62) 23 rfl w.heap.size 5 i0 _ 1 1 Try.underlying23 HI.out.1 HI.out.2.1 HI.out.2.2.1 HI.out.2.2.2 rfl (by decide) _ (8 * k) _ rfl HOW0.out (some ⟨wr.heap.size, 0, none⟩) (wr.heap.size + 1) 8 8 (numV .u8 (bytesW x)) rfl (fun h => by cases h) HNEW.out (numV_one _ _) (by simp only [maxLen]; omega) (by omega) (by simp; omega) ?_; intro v' w3 hown' hgrow _; have HO := Lib.hid hown'; have hb3 : Below w.heap.size w w3 := below_gr (below_dr (HW.out.2.alloc HW.out.2.size _)) hgrow (by simp; omega) (fun j hj => own_ge HROW.out j hj); clear hown' hgrow))
      go_wp2_with fail
      refine ⟨⟨k + 1, hlt, rfl, Lib.hid ?_⟩, by simp only [intOf]; omega⟩
      have e : bytesQ (q.take (k + 1)) = bytesQ (q.take k) ++ bytesI x := bytesQ_take q HX.out
      refine ⟨?_, ?_⟩
      · rw [e, List.length_append, HLEN.out]
        have h := HO.out
        rw [bytesW_eq (HQ.out x (List.mem_of_getElem? HX.out))] at h
        have e2 : numV .u8 (bytesQ (q.take k)) ++ numV .u8 (bytesI x) = numV .u8 (bytesQ (q.take k) ++ bytesI x) := by simp [numV]
        rw [e2] at h
        exact h
      · exact hb3
    · obtain rfl : k = q.length := by omega
      have e : bytesQ (q.take q.length) = bytesQ q := by rw [List.take_of_length_le (Nat.le_refl _)]
      have h := HW.out
      rw [e] at h
      have HH := Lib.hid h
      clear h
      go_wp2
      go_ret
      exact ⟨_, rfl, HH.out⟩
end Go.Proofs.Ytpofdjnkpplimaa
