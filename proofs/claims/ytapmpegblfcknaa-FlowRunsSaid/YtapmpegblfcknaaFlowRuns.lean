import Derived.Test.YtapmpegblfcknaaFlowAcc
import Derived.Test.YtapmpegblfcknaaFlowWk
import Derived.Test.YtapmpegblfcknaaFlowHead
import Derived.Test.YtapmpegblfcknaaOpen
set_option linter.unusedVariables false
set_option linter.unusedSimpArgs false
namespace Go.Proofs.Ytapmpegblfcknaa
open Go.RowKit Go.ChangeShapes Go.WideShapes Go.ChangeAt
open Go.ChangeMaps (open_string shut_string)
/-! FlowRuns. -/
/-- Where a run is: the block, the blocks that it has been in. -/
def FRInv (q : List I4) (L : List Nat) (i : Nat) (now : Int) (been : List Bool) : Prop := been.length = (blocksQ q).length ∧ ((i = 0 ∧ now = -1) ∨ (0 < i ∧ ∃ (c : Nat) (p : Nat × Nat) (x : Nat), now = c ∧ (blocksQ q)[c]? = some p ∧ L[i - 1]? = some x ∧ p.1 ≤ x ∧ x < p.2 ∧ been.getD c false = true ∧ ∀ b a, been.getD b false = true → b < (blocksQ q).length → Anc (aboveP q) b a → been.getD a false = true))
theorem getD_set_bool {l : List Bool} {i j : Nat} (h : i < l.length) : (l.set i true).getD j false = true ↔ j = i ∨ l.getD j false = true := by
  rw [List.getD_eq_getElem?_getD, List.getElem?_set]
  by_cases e : i = j
  · subst e; simp [h]
  · rw [if_neg e, ← List.getD_eq_getElem?_getD]
    constructor
    · exact .inr
    · rintro (x | x)
      · exact absurd x.symm e
      · exact x
section
variable {q : List I4} (h0 : (checkP q).1 = 0) (hok : ∀ x ∈ q, x.ok)
include h0 hok
omit hok in
/-- On within the block. -/
theorem FRInv.stay {L : List Nat} (hT : Trail q L) {i : Nat} {c : Nat} {p : Nat × Nat} {x y : Nat} {been : List Bool} (h : FRInv q L i c been) (hp : (blocksQ q)[c]? = some p) (hx : L[i - 1]? = some x) (hy : L[i]? = some y) (hm : x + 1 < p.2) : y = x + 1 ∧ y < p.2 ∧ FRInv q L (i + 1) c been := by
  obtain ⟨hl, h | ⟨hi, c', p', x', e1, e2, e3, e4, e5, e6, e7⟩⟩ := h
  · omega
  · have : c' = c := by omega
    subst this
    rw [hp] at e2; injection e2 with e2; subst e2
    rw [hx] at e3; injection e3 with e3; subst e3
    have hch := hT.chain (i - 1) x y hx (by rw [show i - 1 + 1 = i by omega]; exact hy)
    rw [(blk_mid h0 hp e4 hm).2.1] at hch
    simp at hch
    subst hch
    exact ⟨rfl, hm, hl, .inr ⟨by omega, c', p, x + 1, rfl, hp, by rw [show i + 1 - 1 = i by omega]; exact hy, by omega, hm, e6, e7⟩⟩
/-- On to another block. -/
theorem FRInv.leaves {L : List Nat} (hT : Trail q L) {i : Nat} {c : Nat} {p : Nat × Nat} {x y : Nat} {been : List Bool} (h : FRInv q L i c been) (hp : (blocksQ q)[c]? = some p) (hx : L[i - 1]? = some x) (hy : L[i]? = some y) (hm : ¬ x + 1 < p.2) :
    x + 1 = p.2 ∧ p.2 ≤ y ∧ ∃ (t : Nat) (pt : Nat × Nat), (blocksQ q)[t]? = some pt ∧ pt.1 = y ∧ t ∈ nxQ q c ∧ (∀ a, Anc (aboveP q) t a → a ≠ t → been.getD a false = true) ∧ FRInv q L (i + 1) t (been.set t true) := by
  obtain ⟨hl, h | ⟨hi, c', p', x', e1, e2, e3, e4, e5, e6, e7⟩⟩ := h
  · omega
  · have : c' = c := by omega
    subst this
    rw [hp] at e2; injection e2 with e2; subst e2
    rw [hx] at e3; injection e3 with e3; subst e3
    have hch := hT.chain (i - 1) x y hx (by rw [show i - 1 + 1 = i by omega]; exact hy)
    have hxe : x = p.2 - 1 := by omega
    rw [hxe] at hch
    obtain ⟨t, pt, h1, h2, h3⟩ := blk_start h0 hok hp hch
    have hlt := blk_lt h0 hp h1 h3
    have htm : t ∈ nxQ q c' := (nx_mem h0 hok hp).2 ⟨pt, h1, by rw [h2]; exact hch⟩
    have htl := (List.getElem?_eq_some_iff.1 h1).1
    obtain ⟨-, hlow, hdone⟩ := abTo_end (nx_fwd h0 hok)
    have hcl := (List.getElem?_eq_some_iff.1 hp).1
    have hanc : ∀ a, Anc (aboveP q) t a → a ≠ t → been.getD a false = true := fun a ha hne => by
      rcases (hdone t (by omega) htl a).1 ha with e | e
      · exact absurd e hne
      · exact e7 c' a e6 hcl (e c' hcl htm)
    refine ⟨by omega, by omega, t, pt, h1, h2, htm, hanc, by simpa using hl, .inr ⟨by omega, t, pt, y, rfl, h1, by rw [show i + 1 - 1 = i by omega]; exact hy, by omega, by have := blk_bounds h0 h1; omega, (getD_set_bool (by omega)).2 (.inl rfl), fun b a hb hbl ha => ?_⟩⟩
    rcases (getD_set_bool (by omega)).1 hb with e | e
    · subst e
      by_cases hab : a = b
      · exact (getD_set_bool (by omega)).2 (.inl hab)
      · exact (getD_set_bool (by omega)).2 (.inr (hanc a ha hab))
    · exact (getD_set_bool (by omega)).2 (.inr (e7 b a e hbl ha))
/-- At the beginning. -/
theorem FRInv.begins {L : List Nat} (hT : Trail q L) {y : Nat} {been : List Bool} (h : FRInv q L 0 (-1) been) (hb : ∀ j, been.getD j false = false) (hy : L[0]? = some y) : ∃ pt : Nat × Nat, (blocksQ q)[0]? = some pt ∧ pt.1 = y ∧ FRInv q L 1 0 (been.set 0 true) := by
  obtain ⟨p, hp, h1⟩ := blk_first h0 hok
  have hbd := blk_bounds h0 hp
  have hy0 := hT.first y hy
  have hpos := (List.getElem?_eq_some_iff.1 hp).1
  obtain ⟨-, hlow, hdone⟩ := abTo_end (nx_fwd h0 hok)
  refine ⟨p, hp, by omega, by simpa using h.1, .inr ⟨by omega, 0, p, y, rfl, hp, hy, by omega, by omega, (getD_set_bool (by rw [h.1]; exact hpos)).2 (.inl rfl), fun b a hb2 hbl ha => ?_⟩⟩
  rcases (getD_set_bool (by rw [h.1]; exact hpos)).1 hb2 with e | e
  · subst e
    have := (anc_zero hlow a).1 ha
    subst this; exact hb2
  · rw [hb b] at e; cases e
end
theorem blk_from {q : List I4} (h0 : (checkP q).1 = 0) {j t : Nat} {p pt : Nat × Nat} (hp : (blocksQ q)[j]? = some p) (ht : (blocksQ q)[t]? = some pt) : (p.1 = pt.1 ↔ j = t) := by
  constructor
  · intro e
    have h1 := blk_bounds h0 hp
    have h2 := blk_bounds h0 ht
    exact blk_same h0 hp ht (k := p.1) (Nat.le_refl _) h1.1 (by omega) (by omega)
  · rintro rfl; rw [hp] at ht; injection ht with ht; rw [ht]
def FRMem (q : List I4) (L : List Nat) (X m : Nat) (w9 : World) (n : Nat) (nv : Int) (been : List Bool) (wr : World) : Prop := FRInv q L n nv been ∧ (n = 0 → ∀ j, been.getD j false = false) ∧ BoRow X X m been wr ∧ Below X w9 wr
/-- What comes next. -/
theorem FRInv.next {q : List I4} (h0 : (checkP q).1 = 0) (hok : ∀ x ∈ q, x.ok) {L : List Nat} (hT : Trail q L) {n : Nat} {nv : Int} {been : List Bool} (h : FRInv q L n nv been) (hb : n = 0 → ∀ j, been.getD j false = false) {y : Nat} (hy : L[n]? = some y) :
    (∃ (c : Nat) (p : Nat × Nat) (x : Nat), 0 < n ∧ nv = c ∧ (blocksQ q)[c]? = some p ∧ L[n - 1]? = some x ∧ y = x + 1 ∧ y < p.2 ∧ FRInv q L (n + 1) c been) ∨
    (∃ (t : Nat) (pt : Nat × Nat), (blocksQ q)[t]? = some pt ∧ pt.1 = y ∧ FRInv q L (n + 1) t (been.set t true) ∧ (∀ a, Anc (aboveP q) t a → a ≠ t → been.getD a false = true) ∧
      ((n = 0 ∧ nv = -1) ∨ ∃ (c : Nat) (p : Nat × Nat) (x : Nat), 0 < n ∧ nv = c ∧ (blocksQ q)[c]? = some p ∧ L[n - 1]? = some x ∧ x + 1 = p.2 ∧ p.2 ≤ y ∧ t ∈ nxQ q c)) := by
  rcases h.2 with ⟨e1, e2⟩ | ⟨h1, c, p, x, e2, hp, hx, -⟩
  · subst e1 e2
    obtain ⟨pt, k1, k2, k3⟩ := FRInv.begins h0 hok hT h (hb rfl) hy
    obtain ⟨-, hlow, -⟩ := abTo_end (nx_fwd h0 hok)
    exact .inr ⟨0, pt, k1, k2, k3, fun a ha hne => absurd ((anc_zero hlow a).1 ha) hne, .inl ⟨rfl, rfl⟩⟩
  · subst e2
    by_cases hm : x + 1 < p.2
    · obtain ⟨k1, k2, k3⟩ := FRInv.stay h0 hT h hp hx hy hm
      exact .inl ⟨c, p, x, h1, rfl, hp, hx, k1, k2, k3⟩
    · obtain ⟨k1, k2, t, pt, k3, k4, k5, k6, k7⟩ := FRInv.leaves h0 hok hT h hp hx hy hm
      exact .inr ⟨t, pt, k3, k4, k7, k6, .inr ⟨c, p, x, h1, rfl, hp, hx, k1, k2, k5⟩⟩
theorem above_at {q : List I4} (h0 : (checkP q).1 = 0) (hok : ∀ x ∈ q, x.ok) {t : Nat} (ht : t < (blocksQ q).length) : (aboveP q).getD t 0 = -1 ∨ ∃ a : Nat, (aboveP q).getD t 0 = (a : Int) ∧ a < t ∧ Anc (aboveP q) t a := by
  obtain ⟨-, hlow, -⟩ := abTo_end (nx_fwd h0 hok)
  rcases Nat.eq_zero_or_pos t with rfl | h
  · exact .inl hlow.1
  · obtain ⟨a, h1, h2⟩ := hlow.2 t h (by omega)
    exact .inr ⟨a, h1, h2, .step h1 (.refl a)⟩
theorem Anc.trans {ab : List Int} {x y z : Nat} (h : Anc ab x y) (h2 : Anc ab y z) : Anc ab x z := by
  induction h with
  | refl => exact h2
  | step e _ ih => exact .step e (ih h2)
theorem reachV_get {q : List I4} {y : Nat} (h : rch q y) : (boolsV (reachV q))[y]? = some (.bool true) := by
  have hl := rch_lt h
  have h2 : (intoP q)[y]? = some ((intoP q).getD y 0) := by rw [List.getD_eq_getElem?_getD, List.getElem?_eq_getElem (by rw [intoP_len]; exact hl)]; rfl
  simp only [boolsV, reachV, List.getElem?_map, h2, Option.map_some]
  rw [decide_eq_true (Nat.pos_of_ne_zero h)]
set_option maxRecDepth 100000 in
set_option maxHeartbeats 6400000 in
theorem FlowRuns_yes (A : Option Addr) (cap : Nat) (q : List I4) (A1 : Option Addr) (cap1 : Nat) (dat : List Int) (w : World) (hq : ∀ x ∈ q, x.ok) (hr : Reads w w.heap.size 4 A q.length (cellsI q))
    (hq1 : ∀ x ∈ dat, 0 ≤ x ∧ x < 256) (hr1 : Reads w w.heap.size 1 A1 dat.length (numV .u8 dat)) (h0 : (checkP q).1 = 0) (h64 : dat.length = 64) :
    Calls Try.prog 12 #[.slice A q.length cap, .slice A1 dat.length cap1] w fun e w' => e = .returned (.bool true) ∧ Below w.heap.size w w' := by
  obtain ⟨a1, a2, -, -⟩ := acc_facts h0
  have HR := Lib.hid hr
  have HR1 := Lib.hid hr1
  have HQ := Lib.hid hq
  have HD := Lib.hid hq1
  have H0 := Lib.hid h0
  have H64 := Lib.hid h64
  obtain ⟨m, hm⟩ : ∃ m, m = (blocksQ q).length := ⟨_, rfl⟩
  have hm2 : m ≤ 4096 := by rw [hm]; exact Nat.le_trans (blocks_le q (intoP q) q.length 0) a2
  have hm1 : 0 < m := by rw [hm]; exact blocks_pos h0 hq
  have HMM := Lib.hid hm
  have HNX := Lib.hid (nx_len q)
  have t64 : ((dat.length : Int) != 64) = false := by rw [h64]; rfl
  have hq47 : q.length ≤ 281474976710656 := by omega
  obtain ⟨i0, HI⟩ : ∃ i0, Hid (Try.prog.info? 4 = some i0 ∧ i0.zero = some (.bool false) ∧ i0.size = 1 ∧ i0.bytes = 1) := by
    obtain ⟨i0, hi, hz0, hz1, hz2⟩ := info_parts infoBool
    exact ⟨i0, Lib.hid ⟨hi, hz0, hz1, hz2⟩⟩
  clear hr hr1 hq hq1 h0 h64 hm
  go_enter Try.func12, Try.ntmps12
  go_wp2_with fail
  refine (Head10_c w).mono ?_
  rintro e w1 ⟨rfl, hb1⟩
  go_wp2_with fail
  refine (Accepted_c A cap q HQ.out (by omega) w1 (HR.out.up hb1)).mono ?_
  rintro e w2 ⟨rfl, hb2⟩
  rw [isP_of H0.out]
  have HW2 := Lib.hid (below_t hb1 hb2)
  clear hb1 hb2
  go_wp2_with fail
  refine (Reach_c A cap q HQ.out (by omega) w2 (HR.out.up HW2.out)).mono ?_
  rintro e w3 (⟨h, -⟩ | ⟨-, v3, rfl, hro3, hb3⟩)
  · exact absurd H0.out h
  obtain ⟨g3, c3, hv3, -, -⟩ := hro3.form a1
  subst hv3
  have HR3 := Lib.hid (Reads.of_own hro3)
  have HW3 := Lib.hid (below_t HW2.out hb3)
  clear hro3 hb3
  go_wp2_with fail
  refine (Blocks_c A cap q HQ.out (by omega) w3 (HR.out.up HW3.out)).mono ?_
  rintro e w4 (⟨h, -⟩ | ⟨-, v4, rfl, hP4⟩)
  · exact absurd H0.out h
  obtain ⟨A4, c4, hv4, HR4, hb4⟩ := hP4.reads H0.out HQ.out
  injection hv4 with hv4
  subst hv4
  have HR34 := Lib.hid (HR3.out.up hb4)
  have HW4 := Lib.hid (below_t HW3.out hb4)
  clear hP4 hb4 HR3
  go_wp2_with fail
  refine (Above_c A cap q HQ.out (by omega) w4 (HR.out.up HW4.out)).mono ?_
  rintro e w5 (⟨h, -⟩ | ⟨-, g5, rfl, hI5, hb5⟩)
  · exact absurd H0.out h
  have HR35 := Lib.hid (HR34.out.up hb5)
  have HR45 := Lib.hid (HR4.out.up hb5)
  have HI5 := Lib.hid hI5
  have HW5 := Lib.hid (below_t HW4.out hb5)
  clear hI5 hb5 HR4 HR34
  go_wp2_with fail
  refine (Longest_c A cap q HQ.out (by omega) w5 (HR.out.up HW5.out)).mono ?_
  rintro e w6 (⟨h, -⟩ | ⟨-, rfl, hb6⟩)
  · exact absurd H0.out h
  have HW6 := Lib.hid (below_t HW5.out hb6)
  have HX6 := Lib.hid hb6
  clear hb6
  go_wp2_with fail
  refine (walked_c A cap q A1 cap1 dat H0.out H64.out HQ.out HD.out w6 (HR.out.up HW6.out) (HR1.out.up HW6.out)).mono ?_
  rintro e w9 ⟨L, A9, c9, rfl, hLp, hT, hLR, hb9⟩
  obtain ⟨y0, hy0⟩ : ∃ y, L[0]? = some y := ⟨_, List.getElem?_eq_getElem hLp⟩
  obtain ⟨g9, rfl, -, -⟩ := hLR.get hy0
  have HW9 := Lib.hid (below_t HW6.out hb9)
  have HX9 := Lib.hid (below_t HX6.out hb9)
  have HT := Lib.hid hT
  have HLR := Lib.hid hLR
  have hLL : decide (longP q < L.length) = false := decide_eq_false (by have := hT.long HQ.out; omega)
  have hL4 : (L.length : Int) ≤ 4096 := by have h1 := hT.long HQ.out; have h2 := longTo_le q q.length 0; unfold longP at h1; omega
  have HR39 := Lib.hid (HR35.out.up HX9.out)
  have HR49 := Lib.hid (HR45.out.up HX9.out)
  have HI9 := Lib.hid (HI5.out.keep HX9.out)
  obtain ⟨X, hX⟩ : ∃ X, X = w9.heap.size := ⟨_, rfl⟩
  obtain ⟨b3, o3, e3, hb3, hc3⟩ := HR39.out.2 a1
  injection e3 with e3; injection e3 with e3 e4
  subst e3 e4
  obtain ⟨ps, hps⟩ : ∃ ps, ps = blocksQ q := ⟨_, rfl⟩
  have HPL : Hid (ps.length = m) := Lib.hid (by rw [HMM.out, hps])
  have HPS := Lib.hid hps
  have HCR : Hid (∀ y, rch q y → w9.cell? ⟨g3, y, none⟩ = some (.bool true)) := Lib.hid (fun y hy => by have := hc3 y _ (reachV_get hy); rw [Nat.zero_add] at this; exact this)
  have hg3X : g3 < X := by rw [hX]; exact hb3
  rw [← HMM.out] at HI9 ⊢
  rw [← hps] at HR49
  obtain ⟨pz, hpz⟩ : ∃ pz, ps[0]? = some pz := ⟨_, List.getElem?_eq_getElem (by rw [HPL.out]; exact hm1)⟩
  obtain ⟨g4, Aj, cj, rfl, hg4, -⟩ := HR49.out 0 pz hpz
  rw [← hX] at hg4
  have hg5X : g5 < X := by rw [hX]; exact HI9.out.lt hm1
  obtain ⟨w10, hrun, hown, hg⟩ := run_make_full (P := Try.prog) w9 w9.heap.size 45 4 i0 _ 1 Try.underlying45 HI.out.1 HI.out.2.1 HI.out.2.2.1 .i64 .i64 m (by rw [HI.out.2.2.2]; omega) (by simp only [maxLen]; omega) (Nat.le_refl _)
  have hb10 : Below w9.heap.size w9 w10 := ⟨hg.os, hg.tape, hg.output, hg.size, fun k hk => hg.block k hk (by simp)⟩
  have hrow : BoRow w9.heap.size w9.heap.size m (List.replicate m false) w10 := BoRow.new hown
  have hrep : ∀ j, (List.replicate m false).getD j false = false := fun j => by rw [List.getD_eq_getElem?_getD, List.getElem?_replicate]; split <;> rfl
  have HS : Hid (FRMem q L X m w9 0 (-1) (List.replicate m false) w10) := Lib.hid ⟨⟨by rw [List.length_replicate, HMM.out], .inl ⟨rfl, rfl⟩⟩, fun _ => hrep, by rw [hX]; exact ⟨hrow, hb10⟩⟩
  have hm4 : (m : Int) ≤ 4096 := by omega
  have HXX : Hid (w9.heap.size = X) := Lib.hid hX.symm
  clear hown hg hrow hb10 hrep hT hLR hb9 hy0 hps hc3 hpz hb3 HR35 HR45 HR39 HI5
  go_wp2_with fail
  rw [← hX]
  clear hrun hX
  go_loopw [17, 18] (fun now i wr => ∃ (n : Nat) (nv : Int) (been : List Bool), n ≤ L.length ∧ i = .int .i64 n ∧ now = .int .i64 nv ∧ Hid (FRMem q L X m w9 n nv been wr)) (fun _ i _ => L.length - (intOf i).toNat)
  case atStart => exact ⟨0, -1, _, by omega, rfl, rfl, HS⟩
  case round =>
    obtain ⟨n, nv, been, hn, rfl, rfl, HW⟩ := hrel
    clear HS
    rcases Nat.lt_or_ge n L.length with hnl | hnl
    · have hnl' : (n : Int) < L.length := by omega
      obtain ⟨y, hy⟩ : ∃ y, L[n]? = some y := ⟨_, List.getElem?_eq_getElem hnl⟩
      obtain ⟨hF, hB0, hBR, hBW⟩ := HW.out
      have HBW : Hid (Below w9.heap.size w9 wr) := Lib.hid (by rw [HXX.out]; exact hBW)
      obtain ⟨g9', e9, -, cy⟩ := (HLR.out.keep HBW.out).get hy
      injection e9 with e9; injection e9 with e9 _
      subst e9
      have hry := HT.out.reach y (List.mem_of_getElem? hy)
      have hyq : (y : Int) < q.length := by have := rch_lt hry; omega
      have crr : wr.cell? ⟨g3, y, none⟩ = some (.bool true) := keepC HBW.out (HCR.out y hry)
      have hnx := hF.next H0.out HQ.out HT.out hB0 hy
      rw [← HPS.out] at hnx
      have HBR := Lib.hid hBR
      clear hF hB0 hBR hBW
      rcases hnx with ⟨c, p, x, k1, rfl, k3, k4, k5, k6, k7⟩ | ⟨t, pt, k1, k2, k3, k4, k5⟩
      · obtain ⟨n', hn'⟩ : ∃ n', n = n' + 1 := ⟨n - 1, by omega⟩
        rw [show n - 1 = n' by omega] at k4
        have hpe : (n : Int) - 1 = n' := by omega
        have hn'l : (n' : Int) < L.length := by omega
        obtain ⟨g9', e9, -, cx⟩ := (HLR.out.keep HBW.out).get k4
        injection e9 with e9; injection e9 with e9 _
        subst e9
        obtain ⟨g4', A4', c4', e4, hg4', -, d1, -⟩ := (HR49.out.up HBW.out) c p k3
        injection e4 with e4; injection e4 with e4 _
        subst e4
        have hcm : (c : Int) < m := by have := (List.getElem?_eq_some_iff.1 k3).1; rw [HPL.out] at this; omega
        have hxq : (x : Int) ≤ 4096 := by have := k5; omega
        have t1 : ((y : Int) == (x : Int) + 1) = true := by rw [beq_iff_eq]; omega
        have t2 : decide ((y : Int) < p.2) = true := decide_eq_true (by omega)
        have t2' : decide (y < p.2) = true := decide_eq_true k6
        have HK7 := Lib.hid k7
        clear k3 k4 k5 k6 k7 hn' hy hry
        go_wp2_with fail
        go_quiet (fail)
        go_wp2
        go_roundw
        case rel => exact ⟨n + 1, _, been, by omega, by go_num, rfl, Lib.hid ⟨HK7.out, fun h => by omega, HBR.out.keep (below_drN (Below.refl _ _) _), below_drN HW.out.2.2.2 _⟩⟩
        case measure => simp [intOf]; omega
      · have htl : t < m := by have := (List.getElem?_eq_some_iff.1 k1).1; rw [HPL.out] at this; exact this
        have htm : (t : Int) < m := by omega
        have HK1 := Lib.hid k1
        have HK2 := Lib.hid k2
        have HK3 := Lib.hid k3
        have HK4 := Lib.hid k4
        have HK5 := Lib.hid k5
        have HY := Lib.hid hy
        clear k1 k2 k3 k4 k5 hy hry
        go_upto_region 19 with (fail)
        go_cut [139] (fun s wc => s = .bool false ∧ Hid (BoRow X X m been wc ∧ Below w9.heap.size w9 wc))
        case first =>
          rcases HK5.out with ⟨e1, e2⟩ | ⟨c, p, x, e1, e2, e3, e4, e5, e6, e7⟩
          · subst e1 e2
            go_quiet (fail)
            go_wp2
            go_meet
            exact ⟨rfl, Lib.hid ⟨HBR.out.keep (below_drN (Below.refl _ _) _), below_drN HBW.out _⟩⟩
          · subst e2
            obtain ⟨n', hn'⟩ : ∃ n', n = n' + 1 := ⟨n - 1, by omega⟩
            rw [show n - 1 = n' by omega] at e4
            have hpe : (n : Int) - 1 = n' := by omega
            have hn'l : (n' : Int) < L.length := by omega
            obtain ⟨g9', e9, -, cx⟩ := (HLR.out.keep HBW.out).get e4
            injection e9 with e9; injection e9 with e9 _
            subst e9
            obtain ⟨g4', A4', c4', e4, hg4', -, d1, -⟩ := (HR49.out.up HBW.out) c p e3
            injection e4 with e4; injection e4 with e4 _
            subst e4
            have hcm : (c : Int) < m := by have := (List.getElem?_eq_some_iff.1 e3).1; rw [HPL.out] at this; omega
            have hxq : (x : Int) ≤ 4096 := by omega
            have t2 : decide ((y : Int) < p.2) = false := decide_eq_false (by omega)
            have t2' : decide (y < p.2) = false := decide_eq_false (by omega)
            cases t1 : ((y : Int) == (x : Int) + 1) with
            | true =>
              clear e3 e5 e6 e7 hn'
              go_quiet (fail)
              go_wp2
              go_meet
              exact ⟨rfl, Lib.hid ⟨HBR.out.keep (below_drN (Below.refl _ _) _), below_drN HBW.out _⟩⟩
            | false =>
              clear e3 e5 e6 e7 hn'
              go_quiet (fail)
              go_wp2
              go_meet
              exact ⟨rfl, Lib.hid ⟨HBR.out.keep (below_drN (Below.refl _ _) _), below_drN HBW.out _⟩⟩
        case rest =>
          obtain ⟨rfl, HC1⟩ := hcut
          clear crr cy
          rename World => wc1
          go_wp2_with fail
          go_loopw [19, 20] (fun xt k wr2 => ∃ s : Nat, s ≤ m ∧ k = .int .i64 s ∧ xt = .int .i64 (if t < s then (t : Int) else -1) ∧ Hid (BoRow X X m been wr2 ∧ Below w9.heap.size w9 wr2)) (fun _ k _ => m - (intOf k).toNat)
          case atStart => exact ⟨0, by omega, rfl, by rw [if_neg (by omega)], HC1⟩
          case round =>
            obtain ⟨s, hs, rfl, rfl, HW2⟩ := hrel
            clear HC1
            rcases Nat.lt_or_ge s m with hsm | hsm
            · have hsm' : (s : Int) < m := by omega
              obtain ⟨p', hp'⟩ : ∃ p', ps[s]? = some p' := ⟨_, List.getElem?_eq_getElem (by rw [HPL.out]; exact hsm)⟩
              obtain ⟨g4', A4', c4', e4, hg4', d0, -⟩ := (HR49.out.up HW2.out.2) s p' hp'
              injection e4 with e4; injection e4 with e4 _
              subst e4
              obtain ⟨g9', e9, -, cy⟩ := (HLR.out.keep HW2.out.2).get HY.out
              injection e9 with e9; injection e9 with e9 _
              subst e9
              have hst := blk_from H0.out (by rw [← HPS.out]; exact hp') (by rw [← HPS.out]; exact HK1.out)
              rw [HK2.out] at hst
              clear hp'
              by_cases e : s = t
              · have t1 : ((p'.1 : Int) == y) = true := by rw [beq_iff_eq]; have := hst.2 e; omega
                have hif : (if t < s + 1 then (t : Int) else -1) = (s : Int) := by rw [if_pos (by omega)]; omega
                have HIF := Lib.hid hif
                obtain ⟨tv, htv⟩ : ∃ tv, tv = (if t < s then (t : Int) else -1) := ⟨_, rfl⟩
                rw [← htv]
                clear hst e hif htv
                go_wp2_with fail
                go_quiet (fail)
                go_wp2
                go_roundw
                case rel => exact ⟨s + 1, by omega, by go_num, by rw [HIF.out], Lib.hid ⟨HW2.out.1.keep (below_drN (Below.refl _ _) _), below_drN HW2.out.2 _⟩⟩
                case measure => simp [intOf]; omega
              · have t1 : ((p'.1 : Int) == y) = false := by rw [beq_eq_false_iff_ne]; intro h; exact e (hst.1 (by omega))
                have hif : (if t < s + 1 then (t : Int) else -1) = (if t < s then (t : Int) else -1) := by
                  by_cases h : t < s
                  · rw [if_pos h, if_pos (by omega)]
                  · rw [if_neg h, if_neg (by omega)]
                have HIF := Lib.hid hif
                obtain ⟨tv, htv⟩ : ∃ tv, tv = (if t < s then (t : Int) else -1) := ⟨_, rfl⟩
                rw [← htv] at HIF ⊢
                clear hst e hif htv
                go_wp2_with fail
                go_quiet (fail)
                go_wp2
                go_roundw
                case rel => exact ⟨s + 1, by omega, by go_num, by rw [HIF.out], Lib.hid ⟨HW2.out.1.keep (below_drN (Below.refl _ _) _), below_drN HW2.out.2 _⟩⟩
                case measure => simp [intOf]; omega
            · rw [if_pos (show t < s by omega)]
              obtain rfl : s = m := by omega
              have HC2 := Lib.hid HW2.out
              clear HW2
              rename World => wc2
              obtain ⟨z, hz⟩ : ∃ z : Bool, z = ((n : Int) == 0) := ⟨_, rfl⟩
              have hzi : ((n : Int) == 0) = z := hz.symm
              have HZ := Lib.hid hz
              clear hz
              go_upto_block 4 with (fail)
              go_cut [21] (fun s21 wc => s21 = .bool true ∧ Hid (BoRow X X s been wc ∧ Below w9.heap.size w9 wc))
              case first =>
                clear hzi
                rcases HK5.out with ⟨e1, e2⟩ | ⟨c, p, x, e1, e2, e3, e4, e5, e6, e7⟩
                · have hzt : z = true := by rw [HZ.out, e1]; rfl
                  subst hzt e2
                  clear e1
                  go_wp2_with fail
                  go_loopw [21] (fun s21 wr2 => s21 = .bool true ∧ Hid (BoRow X X s been wr2 ∧ Below w9.heap.size w9 wr2)) (fun _ _ => 0)
                  case atStart => exact ⟨rfl, HC2⟩
                  case round =>
                    obtain ⟨rfl, HQ2⟩ := hrel
                    go_wp2
                    go_meet
                    exact ⟨rfl, HQ2⟩
                · have hzt : z = false := by rw [HZ.out, beq_eq_false_iff_ne]; omega
                  subst hzt e2
                  obtain ⟨N, hN⟩ : ∃ N, N = nxQ q c := ⟨_, rfl⟩
                  have hN2 : (N.length : Int) ≤ 2 := by have := HNX.out c; rw [← hN] at this; omega
                  have HN := Lib.hid hN
                  have HE3 := Lib.hid e3
                  have HE7 := Lib.hid e7
                  have hcm : (c : Int) < s := by have := (List.getElem?_eq_some_iff.1 e3).1; rw [HPL.out] at this; omega
                  clear hN e1 e3 e4 e5 e6 e7
                  go_wp2_with fail
                  go_loopw [21, 22] (fun s21 k wr2 => ∃ r : Nat, r ≤ N.length ∧ k = .int .i64 r ∧ s21 = .bool (decide (t ∈ N.take r)) ∧ Hid (BoRow X X s been wr2 ∧ Below w9.heap.size w9 wr2)) (fun _ k _ => N.length - (intOf k).toNat)
                  case atStart => exact ⟨0, by omega, rfl, by simp, HC2⟩
                  case round =>
                    obtain ⟨r, hr, rfl, rfl, HQ2⟩ := hrel
                    obtain ⟨g4', A4', c4', e4, hg4', -, -, d2, hrd⟩ := (HR49.out.up HQ2.out.2) c p HE3.out
                    injection e4 with e4; injection e4 with e4 _
                    subst e4
                    rw [← HN.out] at d2 hrd
                    rcases Nat.lt_or_ge r N.length with hrl | hrl
                    · have hrl' : (r : Int) < N.length := by omega
                      obtain ⟨u, hu⟩ : ∃ u, N[r]? = some u := ⟨_, List.getElem?_eq_getElem hrl⟩
                      obtain ⟨b1, o1, rfl, -, cu⟩ := hrd.num (x := (u : Int)) (i := r) (by simp [natsI, hu])
                      have hsn : decide (t ∈ N.take (r + 1)) = (decide (t ∈ N.take r) || decide (u = t)) := by
                        rw [take_snocN hu]
                        by_cases h1 : t ∈ N.take r
                        · simp [h1]
                        · by_cases h2 : u = t
                          · simp [h2]
                          · simp [h1, h2, Ne.symm h2]
                      have HSN := Lib.hid hsn
                      obtain ⟨b, hb⟩ : ∃ b, b = decide (t ∈ N.take r) := ⟨_, rfl⟩
                      rw [← hb] at HSN ⊢
                      clear hrd hu hsn hb
                      cases b with
                      | true =>
                        go_wp2
                        go_roundw
                        case rel => exact ⟨r + 1, by omega, by go_num, by rw [HSN.out]; rfl, HQ2⟩
                        case measure => simp [intOf]; omega
                      | false =>
                        by_cases hut : u = t
                        · have t1 : ((u : Int) == t) = true := by rw [beq_iff_eq]; omega
                          have HUT := Lib.hid hut
                          clear hut
                          go_wp2
                          go_roundw
                          case rel => exact ⟨r + 1, by omega, by go_num, by rw [HSN.out, decide_eq_true HUT.out]; rfl, HQ2⟩
                          case measure => simp [intOf]; omega
                        · have t1 : ((u : Int) == t) = false := by rw [beq_eq_false_iff_ne]; omega
                          have HUT := Lib.hid hut
                          clear hut
                          go_wp2
                          go_roundw
                          case rel => exact ⟨r + 1, by omega, by go_num, by rw [HSN.out, decide_eq_false HUT.out]; rfl, HQ2⟩
                          case measure => simp [intOf]; omega
                    · obtain rfl : r = N.length := by omega
                      have ht : decide (t ∈ N.take N.length) = true := decide_eq_true (by rw [List.take_length, HN.out]; exact HE7.out)
                      rw [ht]
                      clear ht hrd
                      go_wp2
                      go_meet
                      exact ⟨rfl, HQ2⟩
              case rest =>
                obtain ⟨rfl, HC3⟩ := hcut
                clear hzi
                rename World => wc3
                go_upto_region 31 with (fail)
                go_cut [209] (fun s209 wc => s209 = .bool false ∧ Hid (BoRow X X s been wc ∧ Below w9.heap.size w9 wc))
                case first =>
                  have t0 : decide ((t : Int) < 0) = false := decide_eq_false (by omega)
                  have t00 : (0 : Int) ≤ (t : Int) := by omega
                  have t000 : ¬ (t : Int) < 0 := by omega
                  rcases HK5.out with ⟨e1, e2⟩ | ⟨c, p, x, e1, e2, e3, e4, e5, e6, e7⟩
                  · subst e2
                    clear e1
                    go_quiet (fail)
                    go_wp2
                    go_meet
                    exact ⟨rfl, Lib.hid ⟨HC3.out.1.keep (below_drN (Below.refl _ _) _), below_drN HC3.out.2 _⟩⟩
                  · subst e2
                    obtain ⟨n', hn'⟩ : ∃ n', n = n' + 1 := ⟨n - 1, by omega⟩
                    rw [show n - 1 = n' by omega] at e4
                    have hpe : (n : Int) - 1 = n' := by omega
                    have hn'l : (n' : Int) < L.length := by omega
                    obtain ⟨g9', e9, -, cx⟩ := (HLR.out.keep HC3.out.2).get e4
                    injection e9 with e9; injection e9 with e9 _
                    subst e9
                    obtain ⟨g4', A4', c4', e4, hg4', -, d1, -⟩ := (HR49.out.up HC3.out.2) c p e3
                    injection e4 with e4; injection e4 with e4 _
                    subst e4
                    have hcm : (c : Int) < s := by have := (List.getElem?_eq_some_iff.1 e3).1; rw [HPL.out] at this; omega
                    have hp2 : (p.2 : Int) - 1 = x := by omega
                    have hp3 : (p.2 : Int) ≤ 5000 := by omega
                    have hp4 : (1 : Int) ≤ p.2 := by omega
                    clear e3 e5 e6 e7 hn'
                    go_quiet (fail)
                    go_wp2
                    go_meet
                    exact ⟨rfl, Lib.hid ⟨HC3.out.1.keep (below_drN (Below.refl _ _) _), below_drN HC3.out.2 _⟩⟩
                case rest =>
                  obtain ⟨rfl, HC4⟩ := hcut
                  rename World => wc4
                  have hts : t < s := htl
                  obtain ⟨av, hav⟩ : ∃ av, av = (aboveP q).getD t 0 := ⟨_, rfl⟩
                  have cav := (HI9.out.keep HC4.out.2).get hts
                  rw [← hav] at cav
                  have hv := above_at H0.out HQ.out (t := t) (by rw [← HMM.out]; exact hts)
                  rw [← hav] at hv
                  have HV : Hid (av = -1 ∨ ∃ a : Nat, av = (a : Int) ∧ a < t ∧ Anc (aboveP q) t a) := Lib.hid hv
                  clear hav hv
                  go_wp2_with fail
                  go_loop [23] (fun s23 => ∃ v : Int, s23 = .int .i64 v ∧ Hid (v = -1 ∨ ∃ a : Nat, v = (a : Int) ∧ a < t ∧ Anc (aboveP q) t a)) (fun s23 => (intOf s23 + 1).toNat)
                  case atStart => exact ⟨av, rfl, HV⟩
                  case round =>
                    obtain ⟨v, rfl, HV2⟩ := hrel
                    clear HV cav
                    rcases HV2.out with e | ⟨a, e, hat, hanc⟩
                    · subst e
                      have cb := HC4.out.1.get hts
                      have fb := HC4.out.1.free t
                      have HN9 : Hid (FRMem q L X s w9 (n + 1) t (been.set t true) (wc4.setCell ⟨X, t, none⟩ (.bool true))) := Lib.hid ⟨HK3.out, fun h => by omega, HC4.out.1.set t true, by
                        have h1 := HC4.out.2
                        rw [HXX.out] at h1
                        exact h1.setCell (p := ⟨X, t, none⟩) (Nat.le_refl _) _⟩
                      go_wp2
                      go_roundw
                      case rel => exact ⟨n + 1, _, _, by omega, by go_num, rfl, HN9⟩
                      case measure => simp [intOf]; omega
                    · subst e
                      have has : a < s := by omega
                      have hat' : (a : Int) < t := by omega
                      have cb := HC4.out.1.get has
                      rw [HK4.out a hanc (by omega)] at cb
                      obtain ⟨bv, hbv⟩ : ∃ bv, bv = (aboveP q).getD a 0 := ⟨_, rfl⟩
                      have cbv := (HI9.out.keep HC4.out.2).get has
                      rw [← hbv] at cbv
                      have hv2 := above_at H0.out HQ.out (t := a) (by rw [← HMM.out]; exact has)
                      rw [← hbv] at hv2
                      have HV3 : Hid (bv = -1 ∨ ∃ b : Nat, bv = (b : Int) ∧ b < t ∧ Anc (aboveP q) t b) := Lib.hid (by
                        rcases hv2 with h | ⟨b, h1, h2, h3⟩
                        · exact .inl h
                        · exact .inr ⟨b, h1, by omega, hanc.trans h3⟩)
                      have hbl : bv < a ∧ -1 ≤ bv := by
                        rcases hv2 with h | ⟨b, h1, h2, h3⟩ <;> omega
                      clear hbv hv2 hanc
                      go_wp2
                      go_round
                      case rel => exact ⟨bv, rfl, HV3⟩
                      case measure => simp [intOf]; omega
    · obtain rfl : n = L.length := by omega
      have hbE := below_t HW9.out (by have := HW.out.2.2.2; rw [← HXX.out] at this; exact this : Below w9.heap.size w9 wr)
      go_wp2
      go_ret
      exact ⟨rfl, hbE⟩
set_option maxRecDepth 100000 in
set_option maxHeartbeats 1600000 in
theorem FlowRuns_no (A : Option Addr) (cap : Nat) (q : List I4) (A1 : Option Addr) (cap1 n1 : Nat) (w : World) (hq : ∀ x ∈ q, x.ok) (hn : q.length ≤ 9223372036854775807) (hr : Reads w w.heap.size 4 A q.length (cellsI q)) (h : (checkP q).1 ≠ 0 ∨ n1 ≠ 64) :
    Calls Try.prog 12 #[.slice A q.length cap, .slice A1 n1 cap1] w fun e w' => e = .returned (.bool true) ∧ Below w.heap.size w w' := by
  have HR := Lib.hid hr
  have HQ := Lib.hid hq
  have H := Lib.hid h
  clear hr hq h
  go_enter Try.func12, Try.ntmps12
  go_wp2_with fail
  refine (Head10_c w).mono ?_
  rintro e w1 ⟨rfl, hb1⟩
  go_wp2_with fail
  refine (Accepted_c A cap q HQ.out hn w1 (HR.out.up hb1)).mono ?_
  rintro e w2 ⟨rfl, hb2⟩
  have hbE := below_t hb1 hb2
  clear hb1 hb2
  cases hB : isP q with
  | false =>
    go_wp2
    go_ret
    exact ⟨rfl, hbE⟩
  | true =>
    have t64 : ((n1 : Int) != 64) = true := by
      rcases H.out with h | h
      · rw [isP_not h] at hB; cases hB
      · simp; omega
    go_wp2
    go_ret
    exact ⟨rfl, hbE⟩
theorem FlowRuns_w (A : Option Addr) (cap : Nat) (q : List I4) (A1 : Option Addr) (cap1 : Nat) (dat : List Int) (w : World) (hq : ∀ x ∈ q, x.ok) (hc : q.length ≤ cap) (hA : A = none → cap = 0) (hB : q.length * 8 ≤ 140737488351232) (hr : Reads w w.heap.size 4 A q.length (cellsI q))
    (hq1 : ∀ x ∈ dat, 0 ≤ x ∧ x < 256) (hc1 : dat.length ≤ cap1) (hA1 : A1 = none → cap1 = 0) (hB1 : dat.length * 1 ≤ 140737488351232) (hr1 : Reads w w.heap.size 1 A1 dat.length (numV .u8 dat)) :
    Calls Try.prog 12 #[.slice A q.length cap, .slice A1 dat.length cap1] w fun e w' => e = .returned (.bool true) ∧ Below w.heap.size w w' := by
  by_cases h : (checkP q).1 = 0 ∧ dat.length = 64
  · exact FlowRuns_yes A cap q A1 cap1 dat w hq hr hq1 hr1 h.1 h.2
  · exact FlowRuns_no A cap q A1 cap1 dat.length w hq (by omega) hr (by
      by_cases h1 : (checkP q).1 = 0
      · exact .inr fun h2 => h ⟨h1, h2⟩
      · exact .inl h1)
/-! ### the row of FlowRuns -/
set_option maxRecDepth 100000 in
theorem FlowRuns_lifted (os : Os) (started : os.Started) (H : Type) (enc : TypeId × Value → H) :
    ReturnsInHanded {} Try.checked os 12 .any (Rows.flowRunsSpec.pre6 enc Try.prog Try.f12 Rows.flowRunsRow.domain false) (Rows.flowRunsSpec.post enc Try.prog Try.f12 false true false false) := by
  refine returnsInHanded_of_change_sized (C := Try.checked) ownNone started (by kernel_rfl) Try.func12
    (ChangeSpec.witness6 (enc := enc) (C := Try.checked) false ⟨#[], #[.slice none 0 0, .slice none 0 0], []⟩ 8 (by kernel_rfl) (by kernel_rfl) (by kernel_rfl) (by kernel_rfl)) ?_
  intro W base args ds gs before hval0 hW hcnd hsz0 _
  have hsz : (DataW.weightsEach Try.prog (Try.f12.params.toList ++ Rows.flowRunsSpec.plain.varTypes Try.prog) (ds ++ gs)).all (· ≤ reachBytes) = true := hsz0
  have hval : ∀ (j : Nat) t v, Try.f12.params[j]? = some t → args[j]? = some v → Value.okWide Try.prog W .any base t v := hval0
  have hW' := hW
  obtain ⟨p, q, hA0, hV, rfl, hfz, hnd⟩ := hW
  have hA : DataW.TrodAll enc Try.prog W 0 (fun _ => true) true Try.f12.params.toList args.toList ds p := hA0
  rw [Try.params12] at hA hval hsz
  obtain ⟨v0, vs0, d0, ds0, p0, q0, hargs, rfl, rfl, h0, r0⟩ := trodAll_cons hA
  obtain ⟨v1, vs1, d1, ds1, p1, q1, rfl, rfl, rfl, h1, r1⟩ := trodAll_cons r0
  obtain ⟨rfl, rfl, rfl⟩ := trodAll_nil r1
  obtain rfl : args = #[v0, v1] := by cases args; simp_all
  obtain ⟨rfl, rfl⟩ := trodVars_none hV
  obtain ⟨a0, len0, cap0, rfl⟩ := okWide_slice Try.underlying22 (hval 0 22 v0 rfl rfl)
  have k0 := h0
  have lt0 : ∀ x ∈ p0, x.block < W.heap.size := by obtain ⟨m, hm⟩ := k0; exact DataW.trod_lt m _ _ _ hm
  obtain ⟨xs0, hl0, hr0, ho0, hc0, ha0, hb0⟩ := open_rows (α := I4) (j := 0) I4.cells I4.ok 4 8 Try.underlying22 (by kernel_rfl) (by decide) (fun _ => rfl) (by kernel_rfl) insn_cells hsz rfl rfl h0
  subst hl0
  obtain ⟨a1, len1, cap1, rfl⟩ := okWide_slice Try.underlying61 (hval 1 61 v1 rfl rfl)
  have k1 := h1
  have lt1 : ∀ x ∈ p1, x.block < W.heap.size := by obtain ⟨m, hm⟩ := k1; exact DataW.trod_lt m _ _ _ hm
  obtain ⟨xs1, hl1, hr1, ho1, hc1, ha1, hb1⟩ := open_rows (α := Int) (j := 1) (fun x : Int => [Value.int .u8 x]) (fun x : Int => 0 ≤ x ∧ x < 256) 1 1 Try.underlying61 (by kernel_rfl) (by decide) (fun _ => rfl) (by kernel_rfl) (int_cells Try.underlying5 (fun h => wf_u8 h)) hsz rfl rfl h1
  subst hl1
  clear hA0 hval0 hsz0 hsz
  refine (FlowRuns_w a0 cap0 xs0 a1 cap1 xs1 W ho0 hc0 ha0 hb0 hr0 ho1 hc1 ha1 hb1 (reads_num hr1)).mono fun e W' ⟨he, bel⟩ => ?_
  subst he
  exact ⟨_, rfl, _, _, _, [], _, [], hW', trodAll_mk1 (shut_bool Try.underlying4 _), (trodAll_cons_mk (Below.trod laidOutB_ (by kernel_rfl) (of_decide_eq_true (by kernel_rfl)) k0 bel lt0) (trodAll_cons_mk (Below.trod laidOutB_ (by kernel_rfl) (of_decide_eq_true (by kernel_rfl)) k1 bel lt1) trodAll_mk0)), rfl, bel.frame _, fun h => by cases h⟩
theorem FlowRuns_holds : Rows.FlowRunsSaid :=
  OpenClaim.holds_of_wide 12 Try.f12 rfl rfl rfl rfl rfl rfl rfl ⟨rfl, rfl, rfl, rfl, rfl⟩ rfl rfl rfl rfl rfl (by kernel_rfl) Try.func12 (by kernel_rfl)
    (of_decide_eq_true (by kernel_rfl)) (by unfold Func.isWrapper; first | (rw [if_pos (by decide +kernel)]; kernel_rfl) | (rw [if_neg (by decide +kernel)]; exact ⟨rfl, rfl⟩))
    (fun os started H enc _ => FlowRuns_lifted os started H enc)
#print axioms FlowRuns_holds
end Go.Proofs.Ytapmpegblfcknaa
