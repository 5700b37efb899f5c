import Derived.Test.YtebkbcpnjknkjaaSemW8
import Derived.Test.YtebkbcpnjknkjaaSemW6
import Derived.Maps.OwnOps
set_option linter.unusedVariables false
set_option linter.unusedSimpArgs false
set_option maxRecDepth 100000
namespace Go.Proofs.Ytebkbcpnjknkjaa
open Go.RowKit
open Go.Maps (Keyed)
/-! sem.rule: the walk. -/
theorem u32Key : Keyed Try.prog 31 := Maps.int_keyed Try.underlying31
theorem u32Of (c : Int) (h0 : 0 ≤ c) (h1 : c < 4294967296) : keyOf Try.prog 31 (.int .u32 c) = some (.int .u32 c) := Maps.keyOf_int_mk Try.underlying31 (by simp [Lit.wf, IntKind.min, IntKind.max, IntKind.signed, IntKind.bits]; omega)
theorem zeroInt (w : World) : (zeroValue 3).run Try.prog w = .ok (.int .i64 0) w := by kernel_rfl
theorem box9R {W : World} {g : Nat} {a b c d e f p q r : Value} {t : TypeId} (h : W.heap[g]? = some (.cells #[a, b, c, d, e, f, p, q, r] t (0, 0))) : W.cell? ⟨g, 0, none⟩ = some a ∧ W.cell? ⟨g, 1, none⟩ = some b ∧ W.cell? ⟨g, 2, none⟩ = some c ∧ W.cell? ⟨g, 3, none⟩ = some d ∧ W.cell? ⟨g, 4, none⟩ = some e ∧ W.cell? ⟨g, 5, none⟩ = some f ∧ W.cell? ⟨g, 6, none⟩ = some p ∧ W.cell? ⟨g, 7, none⟩ = some q ∧ W.cell? ⟨g, 8, none⟩ = some r := by simp [World.cell?, h]
/-- The numbers that have been met. -/
def Met (seen : List Int) (D : DataW Unit) : Prop := ∀ k : Int, D.atKey (.int .u32 k) (.lit (.int .i64 0)) = .lit (.int .i64 (if k ∈ seen then 1 else 0))
theorem Met.put {seen : List Int} {D : DataW Unit} (h : Met seen D) (hm : Maps.IsMap D) (n : Int) : Met (seen ++ [n]) (D.put (.int .u32 n) (.lit (.int .i64 1))) := by
  intro k
  by_cases hk : k = n
  · subst hk
    rw [Maps.atKey_put_same hm (show WideAt.IsKeyLit (.int .u32 k) from trivial), if_pos (by simp)]
  · rw [Maps.atKey_put_other (by intro e; injection e with _ e; exact hk e), h k]
    congr 2
    simp [hk]
theorem ownsMap_below {k : TypeId} {R : Value → Option (DataW Unit × List MemPlace)} {b n : Nat} {D : DataW Unit} {W W' : World} (h : W.ownsMap Try.prog k R b n D) (hb : Below W.heap.size W W') : W'.ownsMap Try.prog k R b n D :=
  h.kept (row := none) ⟨hb.os, hb.tape, hb.output, hb.size, fun k hk _ => hb.block k hk⟩ (by simp)
structure RuleS (a : ByteArray) (w : World) (ob : Obj) (B : Nat) (cnt : Nat) (seen : List Int) (W : World) : Prop where
  below : Below w.heap.size w W
  box : W.heap[w.heap.size]? = some ob
  map : ∃ D, W.ownsMap Try.prog 31 (plainElem (H := Unit) Try.prog 3) B cnt D ∧ Met seen D
  hB : w.heap.size < B
theorem RuleS.call {a : ByteArray} {w W W' : World} {ob : Obj} {B cnt : Nat} {seen : List Int} (h : RuleS a w ob B cnt seen W) (hb : Below W.heap.size W W') : RuleS a w ob B cnt seen W' :=
  ⟨below_t h.below hb, (hb.block _ (Array.getElem?_eq_some_iff.1 h.box).1).trans h.box, by obtain ⟨D, h1, h2⟩ := h.map; exact ⟨D, ownsMap_below h1 hb, h2⟩, h.hB⟩
theorem RuleS.alloc {a : ByteArray} {w W : World} {ob : Obj} {B cnt : Nat} {seen : List Int} (h : RuleS a w ob B cnt seen W) (o : Obj) : RuleS a w ob B cnt seen (W.alloc o) := h.call (below1 W o)
theorem lit_eq {k : IntKind} {a b : Int} (h : (DataW.lit (.int k a) : DataW Unit) = .lit (.int k b)) : a = b := by injection h with h; injection h
def IntPost (x : Int) (w : World) (e : Ending) (w' : World) : Prop := e = .returned (.int .i64 x) ∧ Below w.heap.size w w'
set_option maxHeartbeats 3200000 in
theorem rule_c (N : Nat → Prop) (a : ByteArray) (x : RuA) (w : World) (hok : x.Ok) (hin : x.In w N) : Calls Try.prog 43 #[.string a, x.val] w (IntPost (ruleP 1099511627776 a x) w) := by
  have hmm := @run_makeMap Try.prog
  obtain ⟨A, cp, cs, ⟨xo, xA, xc, xl, xf, xm, xr, xv⟩, dk, dd⟩ := x
  obtain ⟨hnrs, hdd, hlen, hfit⟩ := hok
  obtain ⟨hcalls, hwhen⟩ := hin
  dsimp only at hnrs hdd hlen hfit hcalls hwhen
  have HNR := Lib.hid hnrs
  have HROW := Lib.hid hcalls
  have HEX := Lib.hid (fun W h => Expr_c N (.mk xo xA xc xl xf xm xr xv) W h hfit)
  have HIN := Lib.hid hwhen
  have HACT := Lib.hid (fun w => Action_c dk dd hdd w)
  unfold RuA.val RuA.cells ExA.cells
  simp only [List.cons_append, List.nil_append]
  unfold ExA.val at HEX
  dsimp only at HEX
  obtain ⟨res, hres⟩ : ∃ res, res = ruleP 1099511627776 a ⟨A, cp, cs, .mk xo xA xc xl xf xm xr xv, dk, dd⟩ := ⟨_, rfl⟩
  rw [← hres]
  unfold ruleP at hres
  dsimp only at hres
  clear hnrs hcalls hwhen hdd hfit
  by_cases hc0 : cs = []
  · rw [if_pos hc0] at hres
    have HF := Lib.hid hres
    have hz : ((cs.length : Int) == 0) = true := by simp [hc0]
    clear hres hc0 hlen
    go_enter Try.func43, Try.ntmps43
    go_wp2
    go_ret
    exact ⟨ret_i HF.out.symm, below1 w _⟩
  · rw [if_neg hc0] at hres
    have hz : ((cs.length : Int) == 0) = false := by rw [beq_eq_false_iff_ne]; have := List.length_pos_iff.2 hc0; omega
    obtain ⟨ew, hew⟩ : ∃ ew, ew = withinP 1099511627776 0 (.mk xo xA xc xl xf xm xr xv) := ⟨_, rfl⟩
    rw [← hew] at HEX hres
    obtain ⟨an, ab, hact⟩ : ∃ an ab, actionP dk dd = (an, ab) := ⟨_, _, rfl⟩
    rw [hact] at HACT hres
    unfold NumPost7 at HACT
    dsimp only at HACT hres
    have HRES : Hid (res = if callsP a [] (cs.drop 0) ≠ 0 then callsP a [] (cs.drop 0) else if ew ≠ 0 then ew else if ab = true then 0 else 72) := Lib.hid hres
    have HS := Lib.hid (show RuleS a w (.cells #[.slice A cs.length cp, .int .i64 xo, .slice xA xl.length xc, .int .i64 xf, .int .u64 xm, .int .i64 xr, .int .u64 xv, .int .i64 dk, .int .u64 dd] 51 (0, 0)) (w.heap.size + 1) 0 [] ((w.alloc (.cells #[.slice A cs.length cp, .int .i64 xo, .slice xA xl.length xc, .int .i64 xf, .int .u64 xm, .int .i64 xr, .int .u64 xv, .int .i64 dk, .int .u64 dd] 51)).alloc (.map #[] 0)) from
      ⟨below_al (below1 w _) _, alloc_box (heap_nwT w _) _, ⟨.map [], by have := World.ownsMap_made (w.alloc (.cells #[.slice A cs.length cp, .int .i64 xo, .slice xA xl.length xc, .int .i64 xf, .int .u64 xm, .int .i64 xr, .int .u64 xv, .int .i64 dk, .int .u64 dd] 51)) Try.prog 31 (plainElem (H := Unit) Try.prog 3); rwa [World.size_alloc] at this, fun k => rfl⟩, by omega⟩)
    clear hres hew hact hc0
    go_enter Try.func43, Try.ntmps43
    go_wp2_with fail
    go_loopw [21] (fun i wr => ∃ (n : Nat) (seen : List Int), i = .int .i64 n ∧ n ≤ cs.length ∧ Hid (RuleS a w (.cells #[.slice A cs.length cp, .int .i64 xo, .slice xA xl.length xc, .int .i64 xf, .int .u64 xm, .int .i64 xr, .int .u64 xv, .int .i64 dk, .int .u64 dd] 51 (0, 0)) (w.heap.size + 1) n seen wr) ∧ Hid (res = if callsP a seen (cs.drop n) ≠ 0 then callsP a seen (cs.drop n) else if ew ≠ 0 then ew else if ab = true then 0 else 72)) (fun i _ => cs.length - (intOf i).toNat)
    case atStart => exact ⟨0, [], rfl, by omega, HS, HRES⟩
    case round =>
      obtain ⟨n, seen, rfl, hn, HB, HE⟩ := hrel
      clear HS HRES
      rcases Nat.lt_or_ge n cs.length with hlt | hge
      · have hlt' : (n : Int) < cs.length := by omega
        obtain ⟨⟨yn, yr⟩, hy⟩ : ∃ y, cs[n]? = some y := ⟨_, List.getElem?_eq_getElem hlt⟩
        have hE := HE.out
        rw [callsP_drop hy] at hE
        have hyr := HNR.out _ (List.mem_of_getElem? hy)
        obtain ⟨b, off, rfl, hbb, i0, i1⟩ := (HROW.out.keep (N' := N) (fun b hb hl => ⟨hb, HB.out.below.block b hl⟩) (by decide)).call hy
        have HNUM := Lib.hid (fun w => number_c a ⟨yn, yr⟩ hyr w)
        have hrg := nrP_range a ⟨yn, yr⟩ hyr
        obtain ⟨q, qb, hq⟩ : ∃ q qb, nrP a ⟨yn, yr⟩ = (q, qb) := ⟨_, _, rfl⟩
        rw [hq] at HNUM hE hrg
        unfold NumPost7 CallP.val at HNUM
        dsimp only at HNUM hE hrg
        obtain ⟨hq0, hq1⟩ := hrg
        clear hq hy hyr
        cases qb with
        | false =>
          rw [if_pos (show (false = false) from rfl), if_pos (by decide)] at hE
          have HF := Lib.hid hE
          clear hE
          go_wp2_with fail
          refine (HNUM.out _).mono ?_
          rintro e w1 ⟨rfl, hb1⟩
          have HB1 := Lib.hid (below_t (below_al HB.out.below (.cells #[.string yn, .int .u64 yr] 68)) hb1)
          clear hb1
          go_wp2
          go_ret
          exact ⟨ret_i HF.out.symm, HB1.out⟩
        | true =>
          rw [if_neg (show ¬ (true = false) by decide)] at hE
          go_wp2_with fail
          refine (HNUM.out _).mono ?_
          rintro e w1 ⟨rfl, hb1⟩
          have HB1 := Lib.hid ((HB.out.alloc (.cells #[.string yn, .int .u64 yr] 68)).call hb1)
          clear hb1
          obtain ⟨D, hown, hmet⟩ := HB1.out.map
          have hm := hown.isMap
          have hmq := hmet q
          by_cases hqs : q ∈ seen
          · rw [if_pos hqs, if_pos (by decide)] at hE
            rw [if_pos hqs] at hmq
            have HF := Lib.hid hE
            have HM := Lib.hid hmet
            clear hE hqs hmet
            go_wp2_with (first
            | (at_lookup; have _u := hown2; refine wpList_lookup_own_int _ rfl _ _ 123 rfl 31 3 .i64 u32Key Try.underlying123 Try.underlying3 (zeroInt _) _ _ _ rfl hown2 _ _ rfl (u32Of q hq0 hq1) ?_; intro c hat _; obtain rfl : c = 2 := lit_eq (hat.symm.trans (Maps.atKey_put_same hm (show WideAt.IsKeyLit (.int .u32 q) from trivial) _ _)); clear hat)
            | (at_mapUpdate; refine wpList_mapUpdate_own _ rfl _ _ _ 123 rfl _ _ u32Key Try.underlying123 _ _ _ _ rfl hown (by simp only [maxLen]; omega) _ _ _ rfl rfl (u32Of q hq0 hq1) _ [] (plainElem_int Try.underlying3 (by decide)) ?_; intro w2 hown2 hg2)
            | (at_lookup; refine wpList_lookup_own_int _ rfl _ _ 123 rfl 31 3 .i64 u32Key Try.underlying123 Try.underlying3 (zeroInt _) _ _ _ rfl hown _ _ rfl (u32Of q hq0 hq1) ?_; intro c hat _; obtain rfl : c = 1 := lit_eq (hat.symm.trans hmq); clear hat))
            go_ret
            exact ⟨ret_i HF.out.symm, HB1.out.below.grown hg2 HB1.out.below.size (fun k hk => by cases hk; omega)⟩
          · rw [if_neg hqs] at hE
            rw [if_neg hqs] at hmq
            have HF := Lib.hid hE
            have HM := Lib.hid hmet
            clear hE hqs hmet
            go_wp2_with (first
            | (at_lookup; have _u := hown2; refine wpList_lookup_own_int _ rfl _ _ 123 rfl 31 3 .i64 u32Key Try.underlying123 Try.underlying3 (zeroInt _) _ _ _ rfl hown2 _ _ rfl (u32Of q hq0 hq1) ?_; intro c hat _; obtain rfl : c = 1 := lit_eq (hat.symm.trans (Maps.atKey_put_same hm (show WideAt.IsKeyLit (.int .u32 q) from trivial) _ _)); clear hat)
            | (at_mapUpdate; refine wpList_mapUpdate_own _ rfl _ _ _ 123 rfl _ _ u32Key Try.underlying123 _ _ _ _ rfl hown (by simp only [maxLen]; omega) _ _ _ rfl rfl (u32Of q hq0 hq1) _ [] (plainElem_int Try.underlying3 (by decide)) ?_; intro w2 hown2 hg2)
            | (at_lookup; refine wpList_lookup_own_int _ rfl _ _ 123 rfl 31 3 .i64 u32Key Try.underlying123 Try.underlying3 (zeroInt _) _ _ _ rfl hown _ _ rfl (u32Of q hq0 hq1) ?_; intro c hat _; obtain rfl : c = 0 := lit_eq (hat.symm.trans hmq); clear hat))
            have HB2 := Lib.hid (show RuleS a w _ (w.heap.size + 1) (n + 1) (seen ++ [q]) w2 from ⟨HB1.out.below.grown hg2 HB1.out.below.size (fun k hk => by cases hk; omega), grown_box hg2 HB1.out.box (by intro e; injection e with e; omega), ⟨_, hown2, HM.out.put hm q⟩, by omega⟩)
            clear hown hown2 hg2 hm hmq
            go_roundw
            case rel => exact ⟨n + 1, _, by go_num, by omega, HB2, HF⟩
            case measure => simp [intOf]; omega
      · obtain rfl : n = cs.length := by omega
        have hE := HE.out
        rw [List.drop_length, show callsP a seen [] = 0 from rfl, if_neg (by decide)] at hE
        obtain ⟨b0, b1, b2, b3, b4, b5, b6, b7, b8⟩ := box9R HB.out.box
        have HINW := Lib.hid (HIN.out.keep (N' := N) (fun b hb hl => ⟨hb, HB.out.below.block b hl⟩))
        by_cases h0 : ew = 0
        · rw [if_neg (by simpa using h0)] at hE
          have hew : (ew != 0) = false := by simpa using h0
          cases ab with
          | true =>
            rw [if_pos rfl] at hE
            have HF := Lib.hid hE
            clear hE h0
            go_wp2_with fail
            refine (HEX.out _ HINW.out).mono ?_
            rintro e w1 ⟨rfl, hb1⟩
            have HB1 := Lib.hid (HB.out.call hb1)
            clear hb1 b0 b1 b2 b3 b4 b5 b6 b7 b8
            obtain ⟨b0, b1, b2, b3, b4, b5, b6, b7, b8⟩ := box9R HB1.out.box
            go_wp2_with fail
            refine (HACT.out _).mono ?_
            rintro e w2 ⟨rfl, hb2⟩
            have HB2 := Lib.hid (HB1.out.call hb2)
            clear hb2
            go_wp2
            go_ret
            exact ⟨ret_i HF.out.symm, HB2.out.below⟩
          | false =>
            rw [if_neg (by decide)] at hE
            have HF := Lib.hid hE
            clear hE h0
            go_wp2_with fail
            refine (HEX.out _ HINW.out).mono ?_
            rintro e w1 ⟨rfl, hb1⟩
            have HB1 := Lib.hid (HB.out.call hb1)
            clear hb1 b0 b1 b2 b3 b4 b5 b6 b7 b8
            obtain ⟨b0, b1, b2, b3, b4, b5, b6, b7, b8⟩ := box9R HB1.out.box
            go_wp2_with fail
            refine (HACT.out _).mono ?_
            rintro e w2 ⟨rfl, hb2⟩
            have HB2 := Lib.hid (HB1.out.call hb2)
            clear hb2
            go_wp2
            go_ret
            exact ⟨ret_i HF.out.symm, HB2.out.below⟩
        · rw [if_pos h0] at hE
          have hew : (ew != 0) = true := by simpa using h0
          have HF := Lib.hid hE
          clear hE h0
          go_wp2_with fail
          refine (HEX.out _ HINW.out).mono ?_
          rintro e w1 ⟨rfl, hb1⟩
          have HB1 := Lib.hid (HB.out.call hb1)
          clear hb1
          go_wp2
          go_ret
          exact ⟨ret_i HF.out.symm, HB1.out.below⟩
end Go.Proofs.Ytebkbcpnjknkjaa
