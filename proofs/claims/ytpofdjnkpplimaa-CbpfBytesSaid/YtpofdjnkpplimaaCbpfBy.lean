import Derived.Test.YtpofdjnkpplimaaWordSt
set_option linter.unusedVariables false
set_option linter.unusedSimpArgs false
namespace Go.Proofs.Ytpofdjnkpplimaa
open Go.RowKit Go.Shelf
/-! cbpf.Bytes: the walk. -/
theorem BRow.keep {base g m : Nat} {l : List Int} {W V : World} (h : BRow base g m l W) (hb : Below W.heap.size W V) : BRow base g m l V := ⟨h.1, h.2.kept (row := none) ⟨hb.os, hb.tape, hb.output, hb.size, fun k hk _ => hb.block k hk⟩ (.inr (by simp [Value.ownBlock]))⟩
theorem Store_i (base g m at_ n : Nat) (ai ni : Int) (ha : ai = at_) (hn' : ni = n) (l : List Int) (v : Int) (h : at_ + n ≤ m) (hn : 1 ≤ n ∧ n ≤ 8) (hm : m ≤ 281474976710656) (hv : 0 ≤ v ∧ v < 4294967296) (w : World) (hr : BRow base g m l w) :
    Calls Try.prog 43 #[.slice (some ⟨g, 0, none⟩) m m, .int .i64 ai, .int .i64 ni, .int .u64 v] w fun e w' => e = .returned (.int .i64 0) ∧ BRow base g m (putL l at_ v n) w' ∧ w.grownBy w' (some g) := by
  subst ha hn'; exact Store_c base g m at_ n l v h hn hm hv w hr
theorem keepG {w W : World} {g b o : Nat} {v : Value} (hg : w.grownBy W (some g)) (hb : b < w.heap.size) (hne : b ≠ g) (h : w.cell? ⟨b, o, none⟩ = some v) : W.cell? ⟨b, o, none⟩ = some v := by
  rw [← h]; exact World.cell?_of_block (a := ⟨b, o, none⟩) (hg.block b hb (by simpa using hne))
def BytesPost (w : World) (q : List I4) (e : Ending) (w' : World) : Prop := ∃ g, e = .returned (.slice (some ⟨g, 0, none⟩) (8 * q.length) (8 * q.length)) ∧ w.heap.size ≤ g ∧ BRow w.heap.size g (8 * q.length) (bytesQ q) w' ∧ Below w.heap.size w w'
set_option maxRecDepth 100000 in
set_option maxHeartbeats 1600000 in
theorem Bytes_c (A : Option Addr) (cap : Nat) (q : List I4) (hq : ∀ x ∈ q, x.ok) (hB : q.length * 8 ≤ 140737488351232) (w : World) (hr : Reads w w.heap.size 4 A q.length (cellsI q)) :
    Calls Try.prog 24 #[.slice A q.length cap] w (BytesPost w q) := by
  have HR := Lib.hid hr
  have HQ := Lib.hid hq
  have hql : (q.length : Int) ≤ 17592186043904 := by omega
  clear hr hq
  obtain ⟨i0, HI⟩ : ∃ i0, Hid (Try.prog.info? 5 = some i0 ∧ i0.zero = some (.int .u8 0) ∧ i0.size = 1 ∧ i0.bytes = 1) := by
    obtain ⟨i0, hi, hz0, hz1, hz2⟩ := info_parts infoU8
    exact ⟨i0, Lib.hid ⟨hi, hz0, hz1, hz2⟩⟩
  go_enter Try.func24, Try.ntmps24
  go_wp2_with (at_make; refine wpList_make_full _ rfl _ _ 23 rfl w.heap.size 5 i0 _ 1 Try.underlying23 HI.out.1 HI.out.2.1 HI.out.2.2.1 .i64 .i64 _ _ (8 * q.length) rfl rfl rfl rfl (by rw [HI.out.2.2.2]; omega) (by simp only [maxLen]; omega) (by simp) ?_; intro w2 hown hg; have HG := Lib.hid hg; have HO := Lib.hid hown; clear hg hown)
  have hb0 : Below w.heap.size w w2 := ⟨HG.out.os, HG.out.tape, HG.out.output, HG.out.size, fun k hk => HG.out.block k hk (by simp)⟩
  have hr0 : BRow w.heap.size w.heap.size (8 * q.length) (bytesTo q 0) w2 := by
    refine ⟨by simp [bytesTo, bytesQ], ?_⟩
    have e : (madeCells (Value.int .u8 0).cells (8 * q.length * 1)).toList = numV .u8 (bytesTo q 0) := by
      simp only [numV, bytesTo, bytesQ, List.take_zero, List.flatMap_nil, List.nil_append, Nat.sub_zero, List.map_replicate, Nat.mul_one]; exact toList_madeCells_one _ _
    rw [← e]; exact HO.out
  have HI0 := Lib.hid (show BRow w.heap.size w.heap.size (8 * q.length) (bytesTo q 0) w2 ∧ Below w.heap.size w w2 ∧ w.heap.size < w2.heap.size from ⟨hr0, hb0, by
    rcases HO.out.2 with ⟨h, _⟩ | ⟨g', cap', cur, h, _, hh, _⟩
    · cases h
    · injection h with h; injection h with h; injection h with h; subst h; exact (Array.getElem?_eq_some_iff.1 hh).1⟩)
  clear hb0 hr0 HO HG
  obtain ⟨g, hg⟩ : ∃ g, g = w.heap.size := ⟨_, rfl⟩
  have HGE := Lib.hid hg
  rw [← hg]
  clear hg
  go_loopw [12] (fun i wr => ∃ k : Nat, k ≤ q.length ∧ i = .int .i64 k ∧ Hid (BRow w.heap.size g (8 * q.length) (bytesTo q k) wr ∧ Below w.heap.size w wr ∧ g < wr.heap.size)) (fun i _ => q.length - (intOf i).toNat)
  case atStart => exact ⟨0, by omega, rfl, HGE.out ▸ HI0⟩
  case round =>
    obtain ⟨k, hk, rfl, HW⟩ := hrel
    clear HI0
    rcases Nat.lt_or_ge k q.length with hlt | hlt
    · have hlt' : (k : Int) < q.length := by omega
      obtain ⟨x, hx⟩ : ∃ x, q[k]? = some x := ⟨_, List.getElem?_eq_getElem hlt⟩
      obtain ⟨a1, a2, a3, a4, a5, a6, a7, a8⟩ := HQ.out x (List.mem_of_getElem? hx)
      obtain ⟨b, off, rfl, hbl, c0, c1, c2, c3⟩ := (HR.out.up HW.out.2.1).insn hx
      have HX := Lib.hid hx
      clear hx
      obtain ⟨W1, hW1⟩ : ∃ W1, W1 = wr.alloc (.cells #[.int .u16 x.c, .int .u8 x.j, .int .u8 x.f, .int .u32 x.k] 34) := ⟨_, rfl⟩
      have hb1 : Below wr.heap.size wr W1 := by rw [hW1]; exact below1 _ _
      have hs1 : wr.heap.size < W1.heap.size := by rw [hW1]; simp
      have d1 : W1.cell? ⟨wr.heap.size, 1, none⟩ = some (.int .u8 x.j) := by rw [hW1]; simp [go_sem]
      have d2 : W1.cell? ⟨wr.heap.size, 2, none⟩ = some (.int .u8 x.f) := by rw [hW1]; simp [go_sem]
      have d3 : W1.cell? ⟨wr.heap.size, 3, none⟩ = some (.int .u32 x.k) := by rw [hW1]; simp [go_sem]
      have hgw := HW.out.2.2
      have HS1 := Lib.hid (Store_i w.heap.size g (8 * q.length) (8 * k) 2 (8 * (k : Int)) 2 (by push_cast; rfl) rfl (bytesTo q k) x.c (by omega) (by decide) (by omega) ⟨a1, by omega⟩ W1 (HW.out.1.keep hb1))
      have HW1 := Lib.hid hW1
      clear hW1
      go_wp2_with fail
      rw [← HW1.out]
      refine HS1.out.mono ?_
      rintro e W2 ⟨rfl, hr2, hg2⟩
      have e1 := keepG hg2 hs1 (by omega) d1
      have e2 := keepG hg2 hs1 (by omega) d2
      have e3 := keepG hg2 hs1 (by omega) d3
      obtain ⟨y2, hy2⟩ := hr2.there (j := 8 * k + 2) (by omega)
      obtain ⟨y3, hy3⟩ := hr2.there (j := 8 * k + 3) (by omega)
      have f2 := hr2.2.frozenAt (8 * k + 2)
      have f3 := hr2.2.frozenAt (8 * k + 3)
      have HR2 := Lib.hid hr2
      have HG2 := Lib.hid hg2
      clear hr2 hg2 d1 d2 d3 HS1 HW1
      go_wp2_with fail
      go_region
      obtain ⟨W3, hW3⟩ : ∃ W3, W3 = ((W2.setCell ⟨g, 8 * k + 2, none⟩ (.int .u8 x.j)).setCell ⟨g, 8 * k + 3, none⟩ (.int .u8 x.f)).drew := ⟨_, rfl⟩
      have hg3 : W2.grownBy W3 (some g) := by rw [hW3]; exact grow_drew (grow_set (grow_set (World.grownBy.refl _ _) _) _)
      have hr3 : BRow w.heap.size g (8 * q.length) (((putL (bytesTo q k) (8 * k) x.c 2).set (8 * k + 2) x.j).set (8 * k + 3) x.f) W3 := by rw [hW3]; exact (HR2.out.set _ _).set _ _
      have hs12 := HG2.out.size
      have e3' := keepG hg3 (by omega) (by omega) e3
      rw [← hW3]
      have HS2 := Lib.hid (Store_i w.heap.size g (8 * q.length) (8 * k + 4) 4 (8 * (k : Int) + 4) 4 (by push_cast; rfl) rfl _ x.k (by omega) (by decide) (by omega) ⟨a7, a8⟩ W3 hr3)
      have HG3 := Lib.hid hg3
      clear hW3 hg3 hr3 e1 e2 e3 hy2 hy3 f2 f3
      go_wp2_with fail
      refine HS2.out.mono ?_
      rintro e W4 ⟨rfl, hr4, hg4⟩
      rw [bytesTo_succ HQ.out HX.out] at hr4
      have hbw : Below w.heap.size w W4 := by
        have h1 := below_t HW.out.2.1 hb1
        have h := (HG2.out.trans HG3.out).trans hg4
        exact below_gr h1 h h1.size (fun j hj => by have := Option.some.inj hj; have := HGE.out; omega)
      have hgl : g < W4.heap.size := by have := HG3.out.size; have := hg4.size; omega
      have HF := Lib.hid (show BRow w.heap.size g (8 * q.length) (bytesTo q (k + 1)) W4 ∧ Below w.heap.size w W4 ∧ g < W4.heap.size from ⟨hr4, hbw, hgl⟩)
      clear hr4 hg4 hbw hgl
      go_wp2_with fail
      exact ⟨⟨k + 1, hlt, rfl, HF⟩, by simp only [intOf]; omega⟩
    · obtain rfl : k = q.length := by omega
      have hr := HW.out.1
      have hb := HW.out.2.1
      have e : bytesTo q q.length = bytesQ q := by simp [bytesTo]
      rw [e] at hr
      have HRR := Lib.hid hr
      clear hr
      go_wp2
      go_ret
      exact ⟨g, rfl, Nat.le_of_eq HGE.out.symm, HRR.out, hb⟩
end Go.Proofs.Ytpofdjnkpplimaa
