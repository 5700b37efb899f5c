import Derived.Test.YtebkbcpnjknkjaaSemW9
import Derived.Test.YtebkbcpnjknkjaaSemW7
set_option linter.unusedVariables false
set_option linter.unusedSimpArgs false
set_option maxRecDepth 100000
namespace Go.Proofs.Ytebkbcpnjknkjaa
open Go.RowKit
/-! ravelinref07.rule: the walk. -/
theorem infoU32s : (Try.prog.info? 31).map (fun i => (i.zero, i.size, i.bytes)) = some (some (.int .u32 0), 1, 4) := by kernel_rfl
theorem numV_snoc (k : IntKind) (l : List Int) (x : Int) : numV k l ++ [.int k x] = numV k (l ++ [x]) := by simp [numV]
theorem numV_len (k : IntKind) (l : List Int) : (numV k l).length = l.length := by simp [numV]
structure RRuleS (w : World) (ob : Obj) (seen : List Int) (v : Value) (W : World) : Prop where
  below : Below w.heap.size w W
  box : W.heap[w.heap.size]? = some ob
  own : W.ownsRow (w.heap.size + 1) 31 1 v seen.length (numV .u32 seen)
theorem RRuleS.call {w W W' : World} {ob : Obj} {seen : List Int} {v : Value} (h : RRuleS w ob seen v W) (hb : Below W.heap.size W W') : RRuleS w ob seen v W' :=
  ⟨below_t h.below hb, (hb.block _ (Array.getElem?_eq_some_iff.1 h.box).1).trans h.box, own_upT h.own hb⟩
set_option maxHeartbeats 3200000 in
theorem rrule_c (M : Nat) (N : Nat → Prop) (a : ByteArray) (x : RuA) (w : World) (hok : x.Ok) (hsm : x.when_.small M) (hin : x.In w N) (hbig : x.calls.length ≤ 1000000000000) : Calls Try.prog 45 #[.string a, x.val] w (IntPost (ruleP M a x) w) := by
  obtain ⟨i0, HI⟩ : ∃ i0, Hid (Try.prog.info? 31 = some i0 ∧ i0.zero = some (.int .u32 0) ∧ i0.size = 1 ∧ i0.bytes = 4) := by
    obtain ⟨i0, hi, hz0, hz1, hz2⟩ := info_parts infoU32s
    exact ⟨i0, Lib.hid ⟨hi, hz0, hz1, hz2⟩⟩
  obtain ⟨A, cp, cs, ⟨xo, xA, xc, xl, xf, xm, xr, xv⟩, dk, dd⟩ := x
  obtain ⟨hnrs, hdd, hlen, hfit⟩ := hok
  obtain ⟨hcalls, hwhen⟩ := hin
  dsimp only at hnrs hdd hlen hfit hcalls hwhen hsm hbig
  have HNR := Lib.hid hnrs
  have HROW := Lib.hid hcalls
  have HEX := Lib.hid (fun W h => rExpr_c M N (.mk xo xA xc xl xf xm xr xv) W h hfit hsm)
  have HIN := Lib.hid hwhen
  have HACT := Lib.hid (fun w => rAction_c dk dd hdd w)
  unfold RuA.val RuA.cells ExA.cells
  simp only [List.cons_append, List.nil_append]
  unfold ExA.val at HEX
  dsimp only at HEX
  obtain ⟨res, hres⟩ : ∃ res, res = ruleP M a ⟨A, cp, cs, .mk xo xA xc xl xf xm xr xv, dk, dd⟩ := ⟨_, rfl⟩
  rw [← hres]
  unfold ruleP at hres
  dsimp only at hres
  clear hnrs hcalls hwhen hdd hfit hsm
  by_cases hc0 : cs = []
  · rw [if_pos hc0] at hres
    have HF := Lib.hid hres
    have hz : ((cs.length : Int) == 0) = true := by simp [hc0]
    clear hres hc0 hlen
    go_enter Try.func45, Try.ntmps45
    go_wp2
    go_ret
    exact ⟨ret_i HF.out.symm, below1 w _⟩
  · rw [if_neg hc0] at hres
    have hz : ((cs.length : Int) == 0) = false := by rw [beq_eq_false_iff_ne]; have := List.length_pos_iff.2 hc0; omega
    obtain ⟨ew, hew⟩ : ∃ ew, ew = withinP M 0 (.mk xo xA xc xl xf xm xr xv) := ⟨_, rfl⟩
    rw [← hew] at HEX hres
    obtain ⟨an, ab, hact⟩ : ∃ an ab, actionP dk dd = (an, ab) := ⟨_, _, rfl⟩
    rw [hact] at HACT hres
    unfold NumPost7 at HACT
    dsimp only at HACT hres
    have HRES : Hid (res = if callsP a [] (cs.drop 0) ≠ 0 then callsP a [] (cs.drop 0) else if ew ≠ 0 then ew else if ab = true then 0 else 72) := Lib.hid hres
    have HS := Lib.hid (show RRuleS w (.cells #[.slice A cs.length cp, .int .i64 xo, .slice xA xl.length xc, .int .i64 xf, .int .u64 xm, .int .i64 xr, .int .u64 xv, .int .i64 dk, .int .u64 dd] 51 (0, 0)) [] (.slice none 0 0) (w.alloc (.cells #[.slice A cs.length cp, .int .i64 xo, .slice xA xl.length xc, .int .i64 xf, .int .u64 xm, .int .i64 xr, .int .u64 xv, .int .i64 dk, .int .u64 dd] 51)) from
      ⟨below1 w _, heap_nwT w _, World.ownsRow_nil _ _ _ _⟩)
    clear hres hew hact hc0
    go_enter Try.func45, Try.ntmps45
    go_wp2_with fail
    go_loopw [5, 6] (fun v i wr => ∃ (n : Nat) (seen : List Int), i = .int .i64 n ∧ n ≤ cs.length ∧ seen.length = n ∧ Hid (RRuleS w (.cells #[.slice A cs.length cp, .int .i64 xo, .slice xA xl.length xc, .int .i64 xf, .int .u64 xm, .int .i64 xr, .int .u64 xv, .int .i64 dk, .int .u64 dd] 51 (0, 0)) seen v wr) ∧ Hid (res = if callsP a seen (cs.drop n) ≠ 0 then callsP a seen (cs.drop n) else if ew ≠ 0 then ew else if ab = true then 0 else 72)) (fun _ i _ => cs.length - (intOf i).toNat)
    case atStart => exact ⟨0, [], rfl, by omega, rfl, HS, HRES⟩
    case round =>
      obtain ⟨n, seen, rfl, hn, hsn, HB, HE⟩ := hrel
      clear HS HRES
      have HSN := Lib.hid hsn
      have hsl : seen.length ≤ 1000000000000 := by omega
      clear hsn
      obtain ⟨b0, b1, b2, b3, b4, b5, b6, b7, b8⟩ := box9R HB.out.box
      rcases Nat.lt_or_ge n cs.length with hlt | hge
      · have hlt' : (n : Int) < cs.length := by omega
        obtain ⟨⟨yn, yr⟩, hy⟩ : ∃ y, cs[n]? = some y := ⟨_, List.getElem?_eq_getElem hlt⟩
        have hE := HE.out
        rw [callsP_drop hy] at hE
        have hyr := HNR.out _ (List.mem_of_getElem? hy)
        obtain ⟨b, off, rfl, hbb, i0', i1⟩ := (HROW.out.keep (N' := N) (fun b hb hl => ⟨hb, HB.out.below.block b hl⟩) (by decide)).call hy
        have HNUM := Lib.hid (fun w => rNr_c a ⟨yn, yr⟩ hyr w)
        have hrg := nrP_range a ⟨yn, yr⟩ hyr
        obtain ⟨q, qb, hq⟩ : ∃ q qb, nrP a ⟨yn, yr⟩ = (q, qb) := ⟨_, _, rfl⟩
        rw [hq] at HNUM hE hrg
        unfold NumPost7 CallP.val at HNUM
        dsimp only at HNUM hE hrg
        obtain ⟨hq0, hq1⟩ := hrg
        clear hq hy hyr
        cases qb with
        | false =>
          rw [if_pos (show (false = false) from rfl), if_pos (by decide)] at hE
          have HF := Lib.hid hE
          clear hE
          go_wp2_with fail
          refine (HNUM.out _).mono ?_
          rintro e w1 ⟨rfl, hb1⟩
          have HB1 := Lib.hid (below_t HB.out.below hb1)
          clear hb1
          go_wp2
          go_ret
          exact ⟨ret_i HF.out.symm, HB1.out⟩
        | true =>
          rw [if_neg (show ¬ (true = false) by decide)] at hE
          have HE2 := Lib.hid hE
          clear hE
          obtain ⟨As, cs2, rfl⟩ : ∃ As c, u5 = .slice As seen.length c := by
            rcases HB.out.own.2 with ⟨h1, h2⟩ | ⟨g, cap, cur, h1, _⟩
            · exact ⟨none, 0, by rw [h1, h2]⟩
            · exact ⟨_, _, h1⟩
          go_wp2_with fail
          refine (HNUM.out _).mono ?_
          rintro e w1 ⟨rfl, hb1⟩
          have HB1 := Lib.hid (HB.out.call hb1)
          have HRS := Lib.hid (Reads.of_own HB1.out.own)
          clear hb1 b0 b1 b2 b3 b4 b5 b6 b7 b8 i0' i1
          go_wp2_with fail
          obtain ⟨wo, rfl⟩ : ∃ wo : World, wo = w1 := ⟨_, rfl⟩
          go_loopw [9] (fun j wr2 => wr2 = wo ∧ ∃ k : Nat, j = .int .i64 k ∧ k ≤ seen.length ∧ Hid (∀ i, i < k → seen[i]? ≠ some q)) (fun j _ => seen.length - (intOf j).toNat)
          case atStart => exact ⟨rfl, 0, rfl, by omega, Lib.hid (fun i h => by omega)⟩
          case round =>
            obtain ⟨rfl, k, rfl, hk, HNO⟩ := hrel
            rcases Nat.lt_or_ge k seen.length with hklt | hkge
            · have hklt' : (k : Int) < seen.length := by omega
              obtain ⟨y, hy⟩ : ∃ y, seen[k]? = some y := ⟨_, List.getElem?_eq_getElem hklt⟩
              obtain ⟨bs, offs, rfl, hbs, j0⟩ := Reads.num HRS.out hy
              by_cases hyq : y = q
              · subst hyq
                have HF : Hid (res = 74) := Lib.hid (by have := HE2.out; rw [if_pos (List.mem_of_getElem? hy), if_pos (by decide)] at this; exact this)
                clear hy
                go_wp2
                go_ret
                exact ⟨ret_i HF.out.symm, HB1.out.below⟩
              · have hne : (y == q) = false := by simpa using hyq
                have HNO2 := Lib.hid (show ∀ i, i < k + 1 → seen[i]? ≠ some q from fun i hi => by
                  rcases Nat.lt_succ_iff_lt_or_eq.1 hi with h | rfl
                  · exact HNO.out i h
                  · rw [hy]; intro e; injection e with e; exact hyq e)
                clear hy hyq
                go_wp2
                go_roundw
                case rel => exact ⟨trivial, k + 1, by go_num, by omega, HNO2⟩
                case measure => simp [intOf]; omega
            · obtain rfl : k = seen.length := by omega
              have hnm : q ∉ seen := fun hm => by
                obtain ⟨i, hi, e⟩ := List.getElem_of_mem hm
                exact HNO.out i hi (by rw [List.getElem?_eq_getElem hi, e])
              have HF := Lib.hid (show res = if callsP a (seen ++ [q]) (cs.drop (n + 1)) ≠ 0 then _ else _ by have := HE2.out; rw [if_neg hnm] at this; exact this)
              clear hnm HNO
              go_wp2_with (at_builtin; refine wpList_append_own (wr.alloc (.cells #[.int .u32 q] 31)) rfl (.tmp 48) (.tmp 50) 124 rfl (w.heap.size + 1) 31 i0 _ 1 4 Try.underlying124 HI.out.1 HI.out.2.1 HI.out.2.2.1 HI.out.2.2.2 rfl (by decide) (.slice As seen.length cs2) seen.length (numV .u32 seen) rfl (own_alloc HB1.out.own _) ⟨wr.heap.size, 0, none⟩ 1 1 [.int .u32 q] rfl rfl (fun j u hu => by rw [add_plain, Nat.zero_add]; exact (World.cell?_alloc_new _ _ _ _).trans (by simpa using hu)) (by simp [Value.oneCell']) (by simp only [maxLen]; omega) (by omega) (by have := HB1.out.below.size; simp; omega) ?_; intro v2 w4 hown hg _; have HG := Lib.hid hg; have HO4 := Lib.hid hown; clear hown hg)
              have HN2 := Lib.hid (show RRuleS w _ (seen ++ [q]) v2 w4 from ⟨(below_al HB1.out.below _).grown HG.out (by have := HB1.out.below.size; simp; omega) (fun k hk => by have := own_geT HB1.out.own k hk; omega), grown_box HG.out (alloc_box HB1.out.box _) (fun e => by have := own_geT HB1.out.own _ e; omega), by rw [List.length_append, ← numV_snoc]; exact HO4.out⟩)
              go_roundw
              case rel => exact ⟨n + 1, seen ++ [q], by go_num, by omega, by rw [List.length_append, HSN.out]; rfl, HN2, HF⟩
              case measure => simp [intOf]; omega
      · obtain rfl : n = cs.length := by omega
        have hE := HE.out
        rw [List.drop_length, show callsP a seen [] = 0 from rfl, if_neg (by decide)] at hE
        have HINW := Lib.hid (HIN.out.keep (N' := N) (fun b hb hl => ⟨hb, HB.out.below.block b hl⟩))
        by_cases h0 : ew = 0
        · rw [if_neg (by simpa using h0)] at hE
          have hew : (ew != 0) = false := by simpa using h0
          cases ab with
          | true =>
            rw [if_pos rfl] at hE
            have HF := Lib.hid hE
            clear hE h0
            go_wp2_with fail
            refine (HEX.out _ HINW.out).mono ?_
            rintro e w1 ⟨rfl, hb1⟩
            have HB1 := Lib.hid (HB.out.call hb1)
            clear hb1 b0 b1 b2 b3 b4 b5 b6 b7 b8
            obtain ⟨b0, b1, b2, b3, b4, b5, b6, b7, b8⟩ := box9R HB1.out.box
            go_wp2_with fail
            refine (HACT.out _).mono ?_
            rintro e w2 ⟨rfl, hb2⟩
            have HB2 := Lib.hid (HB1.out.call hb2)
            clear hb2
            go_wp2
            go_ret
            exact ⟨ret_i HF.out.symm, HB2.out.below⟩
          | false =>
            rw [if_neg (by decide)] at hE
            have HF := Lib.hid hE
            clear hE h0
            go_wp2_with fail
            refine (HEX.out _ HINW.out).mono ?_
            rintro e w1 ⟨rfl, hb1⟩
            have HB1 := Lib.hid (HB.out.call hb1)
            clear hb1 b0 b1 b2 b3 b4 b5 b6 b7 b8
            obtain ⟨b0, b1, b2, b3, b4, b5, b6, b7, b8⟩ := box9R HB1.out.box
            go_wp2_with fail
            refine (HACT.out _).mono ?_
            rintro e w2 ⟨rfl, hb2⟩
            have HB2 := Lib.hid (HB1.out.call hb2)
            clear hb2
            go_wp2
            go_ret
            exact ⟨ret_i HF.out.symm, HB2.out.below⟩
        · rw [if_pos h0] at hE
          have hew : (ew != 0) = true := by simpa using h0
          have HF := Lib.hid hE
          clear hE h0
          go_wp2_with fail
          refine (HEX.out _ HINW.out).mono ?_
          rintro e w1 ⟨rfl, hb1⟩
          have HB1 := Lib.hid (HB.out.call hb1)
          clear hb1
          go_wp2
          go_ret
          exact ⟨ret_i HF.out.symm, HB1.out.below⟩
end Go.Proofs.Ytebkbcpnjknkjaa
