/- SemNames: the examples of chapter 07 and its errors by their numbers are as the statement says. No conditions: it takes no arguments. -/
import Derived.Test.YtebkbcpnjknkjaaSemHead
import Derived.Test.YtebkbcpnjknkjaaOpenG
import Derived.Laws.Concat
set_option linter.unusedVariables false
set_option linter.unusedSimpArgs false
set_option maxRecDepth 100000
namespace Go.Proofs.Ytebkbcpnjknkjaa
open Go.RowKit Go.ChangeShapes Go.WideShapes Go.Deep
def text7 : ByteArray := ⟨#[97, 114, 99, 104, 32, 120, 56, 54, 95, 54, 52, 59, 102, 111, 114, 101, 105, 103, 110, 32, 108, 111, 103, 59, 100, 101, 102, 97, 117, 108, 116, 32, 108, 111, 103, 59, 111, 110, 32]⟩
def bads7 : List (ByteArray × Int) := [(⟨#[98, 111, 103, 117, 115, 32, 100, 111, 32, 108, 111, 103, 59]⟩, 73), (⟨#[48, 44, 32, 114, 101, 97, 100, 32, 100, 111, 32, 108, 111, 103, 59]⟩, 74), (⟨#[52, 50, 57, 52, 57, 54, 55, 50, 57, 54, 32, 100, 111, 32, 108, 111, 103, 59]⟩, 73), (⟨#[49, 32, 119, 104, 101, 110, 32, 97, 114, 103, 48, 32, 38, 32, 51, 32, 61, 61, 32, 52, 32, 100, 111, 32, 108, 111, 103, 59]⟩, 75), (⟨#[49, 32, 119, 104, 101, 110, 32, 97, 114, 103, 48, 32, 38, 32, 48, 32, 61, 61, 32, 48, 32, 100, 111, 32, 108, 111, 103, 59]⟩, 75), (⟨#[49, 32, 100, 111, 32, 101, 114, 114, 110, 111, 32, 52, 48, 57, 54, 59]⟩, 72)]
def badB (x : ByteArray × Int) : Bool := match parseT (text7 ++ x.1) with
  | some q => q.okB && (checkP 1099511627776 q == (x.2, 0)) && decide ((text7 ++ x.1).size ≤ 65536) && no35 (text7 ++ x.1)
  | none => false
theorem bads_ok : bads7.all badB = true := by kernel_rfl
theorem bad_at {n : Nat} {s : ByteArray} {k : Int} (h : bads7[n]? = some (s, k)) : ∃ q, parseT (text7 ++ s) = some q ∧ q.okB = true ∧ checkP 1099511627776 q = (k, 0) ∧ (text7 ++ s).size ≤ 65536 ∧ no35 (text7 ++ s) = true := by
  have h2 := List.all_eq_true.1 bads_ok _ (List.mem_of_getElem? h)
  unfold badB at h2
  dsimp only at h2
  split at h2
  · rename_i q e
    simp only [Bool.and_eq_true, decide_eq_true_eq, beq_iff_eq] at h2
    exact ⟨q, e, h2.1.1.1, h2.1.1.2, h2.1.2, h2.2⟩
  · cases h2
def d7 (ip arch : Int) : D9 := ⟨257, arch, ip, 0, 3, 4, 0, 0, 0⟩
theorem p7_evals : ∃ p0, parseT txt7 = some p0 ∧ p0.okB = true ∧ (evalP 1099511627776 p0 (d7 5000 3221225534) = 2147221504 ∧ evalP 1099511627776 p0 (d7 4095 3221225534) = 327681 ∧ evalP 1099511627776 p0 (d7 4095 3221225715) = 2147483648) ∧ checkP 1099511627776 { p0 with arch := ⟨#[97, 114, 109]⟩ } = (71, -1) := by
  have h : (parseT txt7).map (fun p0 => (p0.okB, evalP 1099511627776 p0 (d7 5000 3221225534), evalP 1099511627776 p0 (d7 4095 3221225534), evalP 1099511627776 p0 (d7 4095 3221225715), checkP 1099511627776 { p0 with arch := ⟨#[97, 114, 109]⟩ })) = some (true, 2147221504, 327681, 2147483648, (71, -1)) := by kernel_rfl
  cases e : parseT txt7 with
  | none => rw [e] at h; cases h
  | some p0 =>
    rw [e] at h
    simp only [Option.map_some, Option.some.injEq, Prod.mk.injEq] at h
    exact ⟨p0, rfl, h.1, ⟨h.2.1, h.2.2.1, h.2.2.2.1⟩, h.2.2.2.2⟩
def pCells (p : PolA) : Array Value := #[.string p.arch, .int .i64 p.fk, .int .u64 p.fd, .int .i64 p.dk, .int .u64 p.dd, .slice p.A p.rules.length p.cap]
structure NS (w : World) (p : PolA) (d : D9) (P : Nat) (W : World) : Prop where
  below : Below w.heap.size w W
  pbox : W.heap[P]? = some (.cells (pCells p) 29 (0, 0))
  dbox : W.heap[P + 1]? = some (.cells d.cells.toArray 34 (0, 0))
  pin : p.In W (fun b => b < P)
  hP : w.heap.size ≤ P
theorem NS.call {w W W' : World} {p : PolA} {d : D9} {P : Nat} (h : NS w p d P W) (hb : Below W.heap.size W W') : NS w p d P W' :=
  ⟨below_t h.below hb, keepH hb h.pbox, keepH hb h.dbox, h.pin.below hb, h.hP⟩
theorem NS.alloc {w W : World} {p : PolA} {d : D9} {P : Nat} (h : NS w p d P W) (o : Obj) : NS w p d P (W.alloc o) := h.call (below1 W o)
theorem NS.pcl {w W : World} {p : PolA} {d : D9} {P : Nat} (h : NS w p d P W) : W.cell? ⟨P, 0, none⟩ = some (.string p.arch) ∧ W.cell? ⟨P, 1, none⟩ = some (.int .i64 p.fk) ∧ W.cell? ⟨P, 2, none⟩ = some (.int .u64 p.fd) ∧ W.cell? ⟨P, 3, none⟩ = some (.int .i64 p.dk) ∧ W.cell? ⟨P, 4, none⟩ = some (.int .u64 p.dd) ∧ W.cell? ⟨P, 5, none⟩ = some (.slice p.A p.rules.length p.cap) := (box6 h.pbox).1
theorem frzD {W : World} {g : Nat} {cs : Array Value} {t : TypeId} (h : W.heap[g]? = some (.cells cs t (0, 0))) (j : Nat) : W.frozen? ⟨g, j, none⟩ = false := by simp [World.frozen?, h]
theorem NS.setD {w W : World} {p : PolA} {d d' : D9} {P : Nat} (h : NS w p d P W) (j : Nat) (v : Value) (e : d.cells.toArray.setIfInBounds j v = d'.cells.toArray) : NS w p d' P (W.setCell ⟨P + 1, j, none⟩ v) :=
  ⟨h.below.setCell (show w.heap.size ≤ P + 1 by have := h.hP; omega) _, (Below.heap_setCell W ⟨P + 1, j, none⟩ v P (by show P ≠ P + 1; omega)).trans h.pbox, by have := heap_setX h.dbox v (j := j); rw [e] at this; exact this, h.pin.keep (fun b hb _ => ⟨hb, Below.heap_setCell W ⟨P + 1, j, none⟩ v b (by show b ≠ P + 1; omega)⟩), h.hP⟩
set_option maxHeartbeats 3200000 in
theorem SemNames_w (w : World) : Calls Try.prog 3 #[] w fun e w' => e = .returned (.bool true) ∧ Below w.heap.size w w' := by
  obtain ⟨p0, hp0, hok, ⟨hev1, hev2, hev3⟩, hck⟩ := p7_evals
  have HL := Lib.hid (fun w => lives7_c w)
  have HSO := Lib.hid (fun w => some7_c hp0 w)
  have HEV := Lib.hid (fun (p : PolA) (e : p.strip = p0.strip) d N w h => Eval_c N p d w (PolA.Ok.same (PolA.okB_of hok) e) h)
  have HV1 := Lib.hid (fun (p : PolA) (e : p.strip = p0.strip) => (eval_same 1099511627776 e (d7 5000 3221225534)).trans hev1)
  have HV2 := Lib.hid (fun (p : PolA) (e : p.strip = p0.strip) => (eval_same 1099511627776 e (d7 4095 3221225534)).trans hev2)
  have HV3 := Lib.hid (fun (p : PolA) (e : p.strip = p0.strip) => (eval_same 1099511627776 e (d7 4095 3221225715)).trans hev3)
  have HCK := Lib.hid hck
  have HOK := Lib.hid hok
  clear hp0 hok hev1 hev2 hev3 hck
  go_enter Try.func3, Try.ntmps3
  go_wp2_with fail
  refine (HL.out _).mono ?_
  rintro e w1 ⟨rfl, hb1⟩
  have HB1 := Lib.hid hb1
  clear hb1
  go_wp2_with fail
  refine (HSO.out _).mono ?_
  rintro e w2 ⟨p, rfl, hst, hin, hb2⟩
  have HST := Lib.hid hst
  have HS := Lib.hid (show NS w p (d7 5000 3221225534) w2.heap.size ((w2.alloc (.cells (pCells p) 29)).alloc (.cells (D9.cells (d7 5000 3221225534)).toArray 34)) from
    ⟨below_al (below_al (below_t HB1.out hb2) _) _, alloc_box (heap_nwT _ _) _, by have := heap_nwT (w2.alloc (.cells (pCells p) 29)) (.cells (D9.cells (d7 5000 3221225534)).toArray 34); rwa [World.size_alloc] at this, (hin.keep (N' := fun b => b < w2.heap.size) (fun b hb hl => ⟨hl, (Below.heap_alloc _ _ b (by rw [World.size_alloc]; omega)).trans (Below.heap_alloc w2 _ b hl)⟩)), (below_t HB1.out hb2).size⟩)
  have HV1' := Lib.hid (HV1.out p hst)
  have HV2' := Lib.hid (HV2.out p hst)
  have HV3' := Lib.hid (HV3.out p hst)
  have HEV' := Lib.hid (fun d N w h => HEV.out p hst d N w h)
  clear hst hin hb2
  obtain ⟨ar, fk, fd, dk, dd, A, cap, rs⟩ := p
  unfold U32Post at HEV'
  unfold PolA.val at HEV' ⊢
  unfold pCells d7 D9.cells at HS
  dsimp only at HEV' HS ⊢
  obtain ⟨P, hP⟩ : ∃ P, P = w2.heap.size := ⟨_, rfl⟩
  rw [← hP] at HS
  have HW0 := Lib.hid hP
  go_upto_region 4 with (fail)
  rw [← hP]
  generalize (w2.alloc (.cells #[.string ar, .int .i64 fk, .int .u64 fd, .int .i64 dk, .int .u64 dd, .slice A rs.length cap] 29)).alloc (.cells #[.int .u32 257, .int .u32 3221225534, .int .u64 5000, .int .u64 0, .int .u64 3, .int .u64 4, .int .u64 0, .int .u64 0, .int .u64 0] 34) = wa at HS ⊢
  clear hP HW0
  obtain ⟨b0, b1, b2, b3, b4, b5⟩ := HS.out.pcl
  obtain ⟨d0, d1, d2, d3, d4, d5, d6, d7, d8⟩ := dcl HS.out.dbox
  dsimp only at b0 b1 b2 b3 b4 b5 d0 d1 d2 d3 d4 d5 d6 d7 d8
  have HE1 := Lib.hid (HEV'.out (Go.Proofs.Ytebkbcpnjknkjaa.d7 5000 3221225534) _ wa HS.out.pin)
  rw [HV1'.out] at HE1
  unfold D9.val Go.Proofs.Ytebkbcpnjknkjaa.d7 at HE1
  dsimp only at HE1
  go_wp2_with fail
  refine HE1.out.mono ?_
  rintro e wb ⟨rfl, hb⟩
  have HS2 := Lib.hid (HS.out.call hb)
  clear hb b0 b1 b2 b3 b4 b5 d0 d1 d2 d3 d4 d5 d6 d7 d8 HE1
  obtain ⟨d0, d1, d2, d3, d4, d5, d6, d7, d8⟩ := dcl HS2.out.dbox
  dsimp only at d0 d1 d2 d3 d4 d5 d6 d7 d8
  have fz := frzD HS2.out.dbox 2
  go_upto_region 6 with (fail)
  have HS3 := Lib.hid (HS2.out.setD 2 (.int .u64 4095) (d' := ⟨257, 3221225534, 4095, 0, 3, 4, 0, 0, 0⟩) rfl)
  generalize wb.setCell ⟨P + 1, 2, none⟩ (.int .u64 4095) = wc at HS3 ⊢
  clear d0 d1 d2 d3 d4 d5 d6 d7 d8 fz
  obtain ⟨b0, b1, b2, b3, b4, b5⟩ := HS3.out.pcl
  obtain ⟨d0, d1, d2, d3, d4, d5, d6, d7, d8⟩ := dcl HS3.out.dbox
  dsimp only at b0 b1 b2 b3 b4 b5 d0 d1 d2 d3 d4 d5 d6 d7 d8
  have HE1 := Lib.hid (HEV'.out (Go.Proofs.Ytebkbcpnjknkjaa.d7 4095 3221225534) _ wc HS3.out.pin)
  rw [HV2'.out] at HE1
  unfold D9.val Go.Proofs.Ytebkbcpnjknkjaa.d7 at HE1
  dsimp only at HE1
  go_wp2_with fail
  refine HE1.out.mono ?_
  rintro e wd ⟨rfl, hb⟩
  have HS4 := Lib.hid (HS3.out.call hb)
  clear hb b0 b1 b2 b3 b4 b5 d0 d1 d2 d3 d4 d5 d6 d7 d8 HE1
  obtain ⟨d0, d1, d2, d3, d4, d5, d6, d7, d8⟩ := dcl HS4.out.dbox
  dsimp only at d0 d1 d2 d3 d4 d5 d6 d7 d8
  have fz := frzD HS4.out.dbox 1
  go_upto_region 8 with (fail)
  have HS5 := Lib.hid (HS4.out.setD 1 (.int .u32 3221225715) (d' := ⟨257, 3221225715, 4095, 0, 3, 4, 0, 0, 0⟩) rfl)
  generalize wd.setCell ⟨P + 1, 1, none⟩ (.int .u32 3221225715) = we at HS5 ⊢
  clear d0 d1 d2 d3 d4 d5 d6 d7 d8 fz
  obtain ⟨b0, b1, b2, b3, b4, b5⟩ := HS5.out.pcl
  obtain ⟨d0, d1, d2, d3, d4, d5, d6, d7, d8⟩ := dcl HS5.out.dbox
  dsimp only at b0 b1 b2 b3 b4 b5 d0 d1 d2 d3 d4 d5 d6 d7 d8
  have HE1 := Lib.hid (HEV'.out (Go.Proofs.Ytebkbcpnjknkjaa.d7 4095 3221225715) _ we HS5.out.pin)
  rw [HV3'.out] at HE1
  unfold D9.val Go.Proofs.Ytebkbcpnjknkjaa.d7 at HE1
  dsimp only at HE1
  go_wp2_with fail
  refine HE1.out.mono ?_
  rintro e wf ⟨rfl, hb⟩
  have HS6 := Lib.hid (HS5.out.call hb)
  clear hb b0 b1 b2 b3 b4 b5 d0 d1 d2 d3 d4 d5 d6 d7 d8 HE1 HS HS2 HS3 HS4 HS5
  have HT := Lib.hid (show NS w _ _ P _ ∧ ((wf.alloc (.cells ((bads7.map fun x => Value.string x.1)).toArray 9)).alloc (.cells (bads7.map fun x => Value.int .i64 x.2).toArray 37)).heap[wf.heap.size]? = some (.cells ((bads7.map fun x => Value.string x.1)).toArray 9 (0, 0)) ∧ ((wf.alloc (.cells ((bads7.map fun x => Value.string x.1)).toArray 9)).alloc (.cells (bads7.map fun x => Value.int .i64 x.2).toArray 37)).heap[wf.heap.size + 1]? = some (.cells (bads7.map fun x => Value.int .i64 x.2).toArray 37 (0, 0)) from
    ⟨(HS6.out.alloc (.cells ((bads7.map fun x => Value.string x.1)).toArray 9)).alloc (.cells (bads7.map fun x => Value.int .i64 x.2).toArray 37), alloc_box (heap_nwT wf _) _, by have := heap_nwT (wf.alloc (.cells ((bads7.map fun x => Value.string x.1)).toArray 9)) (.cells (bads7.map fun x => Value.int .i64 x.2).toArray 37); rwa [World.size_alloc] at this⟩)
  go_upto_region 12 with (fail)
  obtain ⟨S, hS⟩ : ∃ S, S = wf.heap.size := ⟨_, rfl⟩
  rw [← hS] at HT ⊢
  obtain ⟨wg, hwg⟩ : ∃ wg, wg = (wf.alloc (.cells ((bads7.map fun x => Value.string x.1)).toArray 9)).alloc (.cells (bads7.map fun x => Value.int .i64 x.2).toArray 37) := ⟨_, rfl⟩
  rw [← hwg] at HT
  unfold bads7 at hwg
  simp only [List.map_cons, List.map_nil] at hwg
  rw [← hwg]
  clear hwg hS
  have HIX := Lib.hid (fun (N : Nat → Prop) w => Expr_c N (.mk 3 none 0 [] 0 0 0 0) w ⟨⟨rfl, fun h => absurd h (by decide)⟩, trivial⟩ ⟨by decide, trivial⟩)
  have HPOK := Lib.hid (PolA.Ok.same (PolA.okB_of HOK.out) HST.out)
  have HCK2 : Hid (checkP 1099511627776 ⟨⟨#[97, 114, 109]⟩, fk, fd, dk, dd, A, cap, rs⟩ = (71, -1)) := Lib.hid ((check_same 1099511627776 (p := ⟨⟨#[97, 114, 109]⟩, fk, fd, dk, dd, A, cap, rs⟩) (q := { p0 with arch := ⟨#[97, 114, 109]⟩ }) (by
    have h := HST.out
    unfold PolA.strip at h ⊢
    simp only [PolA.mk.injEq] at h ⊢
    simp only [h, and_self])).trans HCK.out)
  clear HSO HEV HV1 HV2 HV3 HCK HOK HST HV1' HV2' HV3' HEV' HS6
  go_wp2_with fail
  go_loopw [10] (fun i wr => ∃ n : Nat, i = .int .i64 n ∧ n ≤ 6 ∧ Hid (NS w ⟨ar, fk, fd, dk, dd, A, cap, rs⟩ ⟨257, 3221225715, 4095, 0, 3, 4, 0, 0, 0⟩ P wr ∧ wr.heap[S]? = some (.cells ((bads7.map fun x => Value.string x.1)).toArray 9 (0, 0)) ∧ wr.heap[S + 1]? = some (.cells (bads7.map fun x => Value.int .i64 x.2).toArray 37 (0, 0)))) (fun i _ => 6 - (intOf i).toNat)
  case atStart => exact ⟨0, rfl, by omega, HT⟩
  case round =>
    obtain ⟨n, rfl, hn, HB⟩ := hrel
    clear HT
    rcases Nat.lt_or_ge n 6 with hlt | hge
    · have hlt' : (n : Int) < 6 := by omega
      obtain ⟨⟨bs, bk⟩, hy⟩ : ∃ y, bads7[n]? = some y := ⟨_, List.getElem?_eq_getElem (by simpa [bads7] using hlt)⟩
      obtain ⟨q, hq1, hq2, hq3, hq4, hq5⟩ := bad_at hy
      have s0 : wr.cell? ⟨S, n, none⟩ = some (.string bs) := by simp [World.cell?, HB.out.2.1, hy]
      have t0 : wr.cell? ⟨S + 1, n, none⟩ = some (.int .i64 bk) := by simp [World.cell?, HB.out.2.2, hy]
      have HPT := Lib.hid (fun w => Parse_t (text7 ++ bs) hq4 hq5 hq1 w)
      have hadd := fun w => run_string_add_sum (P := Try.prog) w text7 bs (by rw [ByteArray.size_append] at hq4; omega)
      have HQ := Lib.hid (And.intro hq2 hq3)
      obtain ⟨tb, htb⟩ : ∃ tb, tb = text7 ++ bs := ⟨_, rfl⟩
      rw [← htb] at HPT hadd
      unfold text7 at hadd
      clear hy hq1 hq2 hq3 hq4 hq5 htb
      go_wp2_with fail
      refine (HPT.out _).mono ?_
      rintro e w3 ⟨q', rfl, hst, hin, hb3⟩
      have HB3 := Lib.hid (show NS w ⟨ar, fk, fd, dk, dd, A, cap, rs⟩ ⟨257, 3221225715, 4095, 0, 3, 4, 0, 0, 0⟩ P w3 ∧ w3.heap[S]? = some (.cells ((bads7.map fun x => Value.string x.1)).toArray 9 (0, 0)) ∧ w3.heap[S + 1]? = some (.cells (bads7.map fun x => Value.int .i64 x.2).toArray 37 (0, 0)) from ⟨HB.out.1.call hb3, keepH hb3 HB.out.2.1, keepH hb3 HB.out.2.2⟩)
      have hSl := (Array.getElem?_eq_some_iff.1 HB3.out.2.2).1
      have t1 : w3.cell? ⟨S + 1, n, none⟩ = some (.int .i64 bk) := keepC hb3 t0
      have HCC := Lib.hid (fun w h => Check_c (fun b => wr.heap.size ≤ b) q' w (PolA.Ok.same (PolA.okB_of HQ.out.1) hst) h)
      rw [(check_same 1099511627776 hst).trans HQ.out.2] at HCC
      have HIN := Lib.hid hin
      unfold CheckPost at HCC
      obtain ⟨qar, qfk, qfd, qdk, qdd, qA, qcap, qrs⟩ := q'
      unfold PolA.val at HCC ⊢
      dsimp only at HCC ⊢
      have HINA := Lib.hid (HIN.out.below (below1 w3 (.cells #[.string qar, .int .i64 qfk, .int .u64 qfd, .int .i64 qdk, .int .u64 qdd, .slice qA qrs.length qcap] 29)))
      clear hst hin hb3
      go_wp2_with fail
      refine (HCC.out _ HINA.out).mono ?_
      rintro e w4 ⟨rfl, hb4⟩
      have hb4' := below_t (below1 w3 (.cells #[.string qar, .int .i64 qfk, .int .u64 qfd, .int .i64 qdk, .int .u64 qdd, .slice qA qrs.length qcap] 29)) hb4
      have HB4 := Lib.hid (show NS w ⟨ar, fk, fd, dk, dd, A, cap, rs⟩ ⟨257, 3221225715, 4095, 0, 3, 4, 0, 0, 0⟩ P w4 ∧ w4.heap[S]? = some (.cells ((bads7.map fun x => Value.string x.1)).toArray 9 (0, 0)) ∧ w4.heap[S + 1]? = some (.cells (bads7.map fun x => Value.int .i64 x.2).toArray 37 (0, 0)) from ⟨HB3.out.1.call hb4', keepH hb4' HB3.out.2.1, keepH hb4' HB3.out.2.2⟩)
      have t2 : w4.cell? ⟨S + 1, n, none⟩ = some (.int .i64 bk) := keepC hb4' t1
      have hbk : (bk != bk) = false := by simp
      clear hb4 hb4' s0 t0 t1 hSl
      go_wp2
      go_roundw
      case rel => exact ⟨n + 1, by go_num, by omega, HB4⟩
      case measure => simp [intOf]; omega
    · obtain rfl : n = 6 := by omega
      obtain ⟨b0, b1, b2, b3, b4, b5⟩ := HB.out.1.pcl
      dsimp only at b0 b1 b2 b3 b4 b5
      have fz := frzD HB.out.1.pbox 0
      have h6 : ((6 : Nat) : Int) = 6 := rfl
      rw [h6]
      go_upto_region 20 with (fail)
      have HZ := Lib.hid (show Below w.heap.size w (wr.setCell ⟨P, 0, none⟩ (.string ⟨#[97, 114, 109]⟩)) ∧ (wr.setCell ⟨P, 0, none⟩ (.string ⟨#[97, 114, 109]⟩)).heap[P]? = some (.cells #[.string ⟨#[97, 114, 109]⟩, .int .i64 fk, .int .u64 fd, .int .i64 dk, .int .u64 dd, .slice A rs.length cap] 29 (0, 0)) ∧ PolA.In (wr.setCell ⟨P, 0, none⟩ (.string ⟨#[97, 114, 109]⟩)) (fun b => b < P) ⟨⟨#[97, 114, 109]⟩, fk, fd, dk, dd, A, cap, rs⟩ from
        ⟨HB.out.1.below.setCell (show w.heap.size ≤ P from HB.out.1.hP) _, heap_setX HB.out.1.pbox _, by
          have h := HB.out.1.pin.set (g := P) (by show ¬ P < P; omega) 0 (.string ⟨#[97, 114, 109]⟩)
          exact ⟨h.rows, h.all⟩⟩)
      generalize wr.setCell ⟨P, 0, none⟩ (.string ⟨#[97, 114, 109]⟩) = wz at HZ ⊢
      clear b0 b1 b2 b3 b4 b5 fz
      obtain ⟨b0, b1, b2, b3, b4, b5⟩ := (box6 HZ.out.2.1).1
      have HCZ := Lib.hid (Check_c (fun b => b < P) ⟨⟨#[97, 114, 109]⟩, fk, fd, dk, dd, A, cap, rs⟩ wz ⟨by show (3 : Nat) ≤ maxLen; unfold maxLen; omega, HPOK.out.fd, HPOK.out.dd, HPOK.out.rules⟩ HZ.out.2.2)
      rw [HCK2.out] at HCZ
      unfold CheckPost PolA.val at HCZ
      dsimp only at HCZ
      have HX := Lib.hid (fun w => HIX.out (fun _ => True) w)
      rw [show withinP 1099511627776 0 (.mk 3 none 0 [] 0 0 0 0) = 76 from rfl] at HX
      unfold ExA.val at HX
      dsimp only [List.length_nil] at HX
      go_wp2_with fail
      refine HCZ.out.mono ?_
      rintro e w5 ⟨rfl, hb5⟩
      have HB5 := Lib.hid (below_t HZ.out.1 hb5)
      clear hb5
      go_wp2_with fail
      refine (HX.out _).mono ?_
      rintro e w6 ⟨rfl, hb6⟩
      have HB6 := Lib.hid (below_t HB5.out hb6)
      clear hb6
      go_wp2
      go_ret
      exact ⟨rfl, HB6.out⟩
/-! ### the row of SemNames -/
set_option maxRecDepth 100000 in
theorem SemNames_lifted (os : Os) (started : os.Started) (H : Type) (enc : TypeId × Value → H) :
    ReturnsInHanded {} Try.checked os 3 .any (Rows.semNamesSpec.pre6 enc Try.prog Try.f3 Rows.semNamesRow.domain false) (Rows.semNamesSpec.post enc Try.prog Try.f3 false true false false) := by
  refine returnsInHanded_of_change_sized (C := Try.checked) ownNone started (by kernel_rfl) Try.func3
    (ChangeSpec.witness6 (enc := enc) (C := Try.checked) false ⟨#[], #[], []⟩ 8 (by kernel_rfl) (by kernel_rfl) (by kernel_rfl) (by kernel_rfl)) ?_
  intro W base args ds gs before hval0 hW hcnd hsz0 _
  have hsz : (DataW.weightsEach Try.prog (Try.f3.params.toList ++ Rows.semNamesSpec.plain.varTypes Try.prog) (ds ++ gs)).all (· ≤ reachBytes) = true := hsz0
  have hval : ∀ (j : Nat) t v, Try.f3.params[j]? = some t → args[j]? = some v → Value.okWide Try.prog W .any base t v := hval0
  have hW' := hW
  obtain ⟨p, q, hA0, hV, rfl, hfz, hnd⟩ := hW
  have hA : DataW.TrodAll enc Try.prog W 0 (fun _ => true) true Try.f3.params.toList args.toList ds p := hA0
  rw [Try.params3] at hA hval hsz
  obtain ⟨hargs, rfl, rfl⟩ := trodAll_nil hA
  obtain rfl : args = #[] := by cases args; simp_all
  obtain ⟨rfl, rfl⟩ := trodVars_none hV
  clear hA0 hval0 hsz0 hsz
  refine (SemNames_w  W ).mono fun e W' ⟨he, bel⟩ => ?_
  subst he
  exact ⟨_, rfl, _, _, _, [], _, [], hW', trodAll_mk1 (shut_bool Try.underlying4 _), trodAll_mk0, rfl, bel.frame _, fun h => by cases h⟩
theorem SemNames_holds : Rows.SemNamesSaid :=
  OpenClaim.holds_of_wide 3 Try.f3 rfl rfl rfl rfl rfl rfl rfl ⟨rfl, rfl, rfl, rfl, rfl⟩ rfl rfl rfl rfl rfl (by kernel_rfl) Try.func3 (by kernel_rfl)
    (of_decide_eq_true (by kernel_rfl)) (by unfold Func.isWrapper; first | (rw [if_pos (by decide +kernel)]; kernel_rfl) | (rw [if_neg (by decide +kernel)]; exact ⟨rfl, rfl⟩))
    (fun os started H enc _ => SemNames_lifted os started H enc)
#print axioms SemNames_holds
end Go.Proofs.Ytebkbcpnjknkjaa
