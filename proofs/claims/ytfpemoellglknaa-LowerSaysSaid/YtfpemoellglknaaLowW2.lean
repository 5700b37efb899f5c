import Derived.Test.YtfpemoellglknaaLowW1
import Derived.Test.YtfpemoellglknaaAppBig
import Derived.Test.YtfpemoellglknaaOwn
set_option linter.unusedVariables false
set_option linter.unusedSimpArgs false
namespace Go.Proofs.Ytfpemoellglknaa
open Go.RowKit
/-! ravelinlaw09.Grown: the walk. -/
theorem wpList_app_any {P : Program} {w : World} {ops : Array Oper} {rest : List Oper} {o : Oper} {a : Act} {Q : Exit → Act → World → Prop} (hgd : o.guard = none) (s x : Operand) (t : TypeId)
    (ho : o.op = .call { callee := .builtin .append, args := #[s, x], argTypes := #[t, t] })
    (base : Nat) (e : TypeId) (i : TypeInfo) (z : Value) (size bytes : Nat) (ht : P.underlying t = some (.slice e)) (hi : P.info? e = some i) (hz : i.zero = some z)
    (hsize : i.size = size) (hby : i.bytes = bytes) (hzs : z.cells.size = size) (hsz : 0 < size)
    (v : Value) (n : Nat) (xs : List Value) (hs : a.eval s = v) (hown : w.ownsRow base e size v n xs)
    (ad : Addr) (B m c : Nat) (news : List Value) (hx : a.eval x = .slice (some ad) m c) (hr : Reads w B size (some ad) m news) (h1 : ∀ u ∈ news, u.oneCell' = true) (hm : 0 < m)
    (h63 : n + m ≤ maxLen) (hb64 : bytes ≤ 64) (hmb : m * bytes ≤ 140737488355328) (hbytes : (n + m) * bytes ≤ 200000000000000) (hbase : base ≤ w.heap.size)
    (h : ∀ g' cap' w', w'.ownsRow base e size (.slice (some ⟨g', 0, none⟩) (n + m) cap') (n + m) (xs ++ news) → w.grownBy w' v.ownBlock → wpList P ops Q rest (a.put o.dst (.slice (some ⟨g', 0, none⟩) (n + m) cap')) w') : wpList P ops Q (o :: rest) a w := by
  rcases hown.2 with ⟨rfl, hn⟩ | ⟨g, cap, cur, rfl, hg, r⟩
  · subst hn
    refine wpList_app hgd s x t ho base e i z size bytes ht hi hz hsize hby hzs hsz _ 0 xs hs hown (some ad) B m c news hx (fun h => by cases h) hr h1 h63 (by rw [Nat.zero_add]; exact hmb) hbase fun v' w' hown' hg' _ => ?_
    obtain ⟨g', cap', hv, -, -⟩ := hown'.form (by omega)
    subst hv
    exact h g' cap' w' hown' hg'
  · exact wpList_app_big hgd s x t ho base e i z size bytes ht hi hz hsize hby hzs hsz g n cap xs hs hown (some ad) B m c news hx (fun h => by cases h) hr h1 h63 hb64 hbytes hbase fun g' cap' w' hown' hg' => h g' cap' w' hown' hg'
theorem reads_new2 (w : World) (o : Obj) (cs : Array Value) (t : TypeId) (size n : Nat) (hl : cs.toList.length = n * size) : Reads ((w.alloc o).alloc (.cells cs t)) (w.heap.size + 2) size (some ⟨w.heap.size + 1, 0, none⟩) n cs.toList := by
  have h := reads_new (w.alloc o) cs t size n cs.toList rfl hl
  rw [World.size_alloc] at h
  exact h
def gmin (a b : Int) : Int := if b < a then b else a
def gmax (a b : Int) : Int := if a < b then b else a
def grownI (n len : Nat) (side : Bool) (i : Nat) : N8 :=
  let last : Int := (n : Int) + len - 1
  let t0 : Int := if side = true then last else (i : Int) + 1
  ⟨false, 0, 4 * ((i : Int) % 16), if (i : Int) % 3 = 0 then 16711935 else 4294967295, 1 + (i : Int) % 4, i, if (i : Int) % 5 = 4 then gmin ((i : Int) + 1 + (i : Int) % 400) last else t0, if side = true then (i : Int) + 1 else last⟩
def grownJ (n : Nat) (x : N8) : N8 := if x.lf = true then x else { x with t := gmin (gmax x.t 0) 1048576 + n, f := gmin (gmax x.f 0) 1048576 + n }
def grownP (l : List N8) (n : Nat) (side : Bool) : List N8 := (List.range n).map (grownI n l.length side) ++ l.map (grownJ n)
theorem infoN : (Try.prog.info? 52).map (fun i => (i.zero, i.size, i.bytes)) = some (some (.agg #[.bool false, .int .u32 0, .int .i64 0, .int .u32 0, .int .i64 0, .int .u32 0, .int .i64 0, .int .i64 0]), 8, 56) := by kernel_rfl
theorem N8_one (x : N8) : ∀ u ∈ x.cells, u.oneCell' = true := by intro u hu; simp [N8.cells] at hu; rcases hu with rfl | rfl | rfl | rfl | rfl | rfl | rfl | rfl <;> rfl
def GrownPost (w : World) (l : List N8) (e : Ending) (w' : World) : Prop := ∃ v, e = .returned v ∧ w'.ownsRow w.heap.size 52 8 v l.length (cellsN l) ∧ Below w.heap.size w w'
theorem range_snoc (f : Nat → N8) (k : Nat) : cellsN ((List.range (k + 1)).map f) = cellsN ((List.range k).map f) ++ (f k).cells := by
  rw [List.range_succ, List.map_append, cellsN_app]; simp [cellsN]
set_option maxRecDepth 100000 in
set_option maxHeartbeats 3200000 in
theorem Grown_c (A : Option Addr) (cap : Nat) (l : List N8) (many : Int) (side : Bool) (hl : l.length * 56 ≤ 140737488351232) (hm : 0 ≤ many ∧ many < 65536) (w : World) (hr : Reads w w.heap.size 8 A l.length (cellsN l)) :
    Calls Try.prog 6 #[.slice A l.length cap, .int .u16 many, .bool side] w (GrownPost w (grownP l (many % 4104).toNat side)) := by
  obtain ⟨m1, m2⟩ := hm
  obtain ⟨N, hN⟩ : ∃ N : Nat, (many % 4104 : Int) = N := ⟨(many % 4104).toNat, by omega⟩
  have hNn : (many % 4104).toNat = N := by omega
  have hN2 : N < 4104 := by omega
  rw [hNn]
  have HR := Lib.hid hr
  obtain ⟨i0, HI⟩ : ∃ i0, Hid (Try.prog.info? 52 = some i0 ∧ i0.zero = some (.agg #[.bool false, .int .u32 0, .int .i64 0, .int .u32 0, .int .i64 0, .int .u32 0, .int .i64 0, .int .i64 0]) ∧ i0.size = 8 ∧ i0.bytes = 56) := by
    obtain ⟨i0, hi, hz0, hz1, hz2⟩ := info_parts infoN
    exact ⟨i0, Lib.hid ⟨hi, hz0, hz1, hz2⟩⟩
  have hl2 : (l.length : Int) ≤ 2513169434843 := by omega
  have hN3 : (N : Int) < 4104 := by omega
  clear hr hNn
  go_enter Try.func6, Try.ntmps6
  go_wp2_with fail
  simp only [hN]
  clear hN
  go_loopw [8, 9] (fun v i wr => ∃ k : Nat, k ≤ N ∧ i = .int .i64 k ∧ Hid (wr.ownsRow w.heap.size 52 8 v k (cellsN ((List.range k).map (grownI N l.length side))) ∧ Below w.heap.size w wr)) (fun _ i _ => N - (intOf i).toNat)
  case atStart => exact ⟨0, by omega, rfl, Lib.hid ⟨World.ownsRow_nil _ _ _ _, Below.refl _ _⟩⟩
  case round =>
    obtain ⟨k, hk, rfl, HW⟩ := hrel
    rcases Nat.lt_or_ge k N with hkN | hkN
    · have hkN' : (k : Int) < N := by omega
      have hsz := HW.out.2.size
      obtain ⟨G, hG⟩ : ∃ G, G = (grownI N l.length side k).cells := ⟨_, rfl⟩
      have HG := Lib.hid hG
      clear hG
      cases h3 : ((k : Int) % 3 == 0) <;> cases h5 : ((k : Int) % 5 == 4) <;> cases side
      all_goals (
        go_wp2_with (at_builtin; refine wpList_app_any rfl (.tmp 66) (.tmp 68) 22 rfl w.heap.size 52 i0 _ 8 56 Try.underlying22 HI.out.1 HI.out.2.1 HI.out.2.2.1 HI.out.2.2.2 rfl (by decide) _ k _ rfl ((HW.out.1.alloc _).alloc _) ⟨wr.heap.size + 1, 0, none⟩ (wr.heap.size + 2) 1 1 _ rfl (reads_new2 wr _ _ _ 8 1 rfl) ?_ (by decide) (by simp only [maxLen]; omega) (by decide) (by decide) (by omega) (by simp; omega) ?_; (intro u hu; simp at hu; rcases hu with rfl | rfl | rfl | rfl | rfl | rfl | rfl | rfl <;> rfl); intro g' cap' w3 hown' hgrow)
        have hb3 : Below w.heap.size w w3 := below_gr (((HW.out.2.alloc hsz _).alloc (by simp; omega) _)) hgrow (by simp; omega) (fun k hk => own_ge HW.out.1 k hk)
        have H3 := Lib.hid h3
        have H5 := Lib.hid h5
        have HO := Lib.hid hown'
        clear h3 h5 hown' hgrow
        go_roundw
        case rel =>
          refine ⟨k + 1, by omega, by go_num, Lib.hid ⟨?_, hb3⟩⟩
          rw [range_snoc]
          have h3' := H3.out
          have h5' := H5.out
          simp at h3' h5'
          have h := HO.out
          simp only [grownI, N8.cells, gmin, h3', h5', if_true, if_false, Bool.false_eq_true, reduceIte]
          exact h
        case measure => simp [intOf]; omega)
    · obtain rfl : k = N := by omega
      have HS : Hid (wr.ownsRow w.heap.size 52 8 u8 (k + 0) (cellsN ((List.range k).map (grownI k l.length side) ++ (l.take 0).map (grownJ k))) ∧ Below w.heap.size w wr) := Lib.hid (by simpa using HW.out)
      clear HW
      go_wp2_with fail
      go_loopw [8, 11] (fun v i wr => ∃ j : Nat, j ≤ l.length ∧ i = .int .i64 j ∧ Hid (wr.ownsRow w.heap.size 52 8 v (k + j) (cellsN ((List.range k).map (grownI k l.length side) ++ (l.take j).map (grownJ k))) ∧ Below w.heap.size w wr)) (fun _ i _ => l.length - (intOf i).toNat)
      case atStart => exact ⟨0, by omega, rfl, HS⟩
      case round =>
        obtain ⟨j, hj, rfl, HW⟩ := hrel
        clear HS
        rcases Nat.lt_or_ge j l.length with hjl | hjl
        · have hjl' : (j : Int) < l.length := by omega
          have hsz := HW.out.2.size
          obtain ⟨x, hx⟩ : ∃ x, l[j]? = some x := ⟨_, List.getElem?_eq_getElem hjl⟩
          obtain ⟨b, off, rfl, hb, d0, d1, d2, d3, d4, d5, d6, d7⟩ := (HR.out.up HW.out.2).node hx
          have hsn : cellsN ((List.range k).map (grownI k l.length side) ++ (l.take (j + 1)).map (grownJ k)) = cellsN ((List.range k).map (grownI k l.length side) ++ (l.take j).map (grownJ k)) ++ (grownJ k x).cells := by
            rw [List.take_add_one, hx, List.map_append, ← List.append_assoc, cellsN_app]; simp [cellsN]
          have HSN := Lib.hid hsn
          obtain ⟨lf, wd, of, msk, op, kk, t, f⟩ := x
          dsimp only at d0 d1 d2 d3 d4 d5 d6 d7
          clear hsn hx
          cases lf with
          | true =>
            go_wp2_with (at_builtin; refine wpList_app_any rfl (.tmp 97) (.tmp 99) 22 rfl w.heap.size 52 i0 _ 8 56 Try.underlying22 HI.out.1 HI.out.2.1 HI.out.2.2.1 HI.out.2.2.2 rfl (by decide) _ (k + j) _ rfl ((HW.out.1.alloc _).alloc _) ⟨wr.heap.size + 1, 0, none⟩ (wr.heap.size + 2) 1 1 _ rfl (reads_new2 wr _ _ _ 8 1 rfl) ?_ (by decide) (by simp only [maxLen]; omega) (by decide) (by decide) (by omega) (by simp; omega) ?_; (intro u hu; simp at hu; rcases hu with rfl | rfl | rfl | rfl | rfl | rfl | rfl | rfl <;> rfl); intro g' cap' w3 hown' hgrow)
            have hb3 : Below w.heap.size w w3 := below_gr (((HW.out.2.alloc hsz _).alloc (by simp; omega) _)) hgrow (by simp; omega) (fun k hk => own_ge HW.out.1 k hk)
            have HO := Lib.hid hown'
            clear hown' hgrow
            go_roundw
            case rel =>
              refine ⟨j + 1, by omega, by go_num, Lib.hid ⟨?_, hb3⟩⟩
              rw [HSN.out]
              exact HO.out
            case measure => simp [intOf]; omega
          | false =>
            obtain ⟨T1, hT1⟩ : ∃ T1, (if t < 0 then (0 : Int) else t) = T1 := ⟨_, rfl⟩
            obtain ⟨T2, hT2⟩ : ∃ T2, (if 1048576 < T1 then (1048576 : Int) else T1) = T2 := ⟨_, rfl⟩
            obtain ⟨F1, hF1⟩ : ∃ F1, (if f < 0 then (0 : Int) else f) = F1 := ⟨_, rfl⟩
            obtain ⟨F2, hF2⟩ : ∃ F2, (if 1048576 < F1 then (1048576 : Int) else F1) = F2 := ⟨_, rfl⟩
            have bT : 0 ≤ T2 ∧ T2 ≤ 1048576 := by
              rw [← hT2]; split
              · omega
              · rw [← hT1] at *; split at * <;> omega
            have bF : 0 ≤ F2 ∧ F2 ≤ 1048576 := by
              rw [← hF2]; split
              · omega
              · rw [← hF1] at *; split at * <;> omega
            obtain ⟨bT1, bT2⟩ := bT
            obtain ⟨bF1, bF2⟩ := bF
            have HT : Hid (gmin (gmax t 0) 1048576 = T2 ∧ gmin (gmax f 0) 1048576 = F2) := Lib.hid (by unfold gmin gmax; rw [hT1, hF1, hT2, hF2]; exact ⟨rfl, rfl⟩)
            focus (
              go_wp2_with (at_builtin; refine wpList_app_any rfl (.tmp 97) (.tmp 99) 22 rfl w.heap.size 52 i0 _ 8 56 Try.underlying22 HI.out.1 HI.out.2.1 HI.out.2.2.1 HI.out.2.2.2 rfl (by decide) _ (k + j) _ rfl ((HW.out.1.alloc _).alloc _) ⟨wr.heap.size + 1, 0, none⟩ (wr.heap.size + 2) 1 1 _ rfl (reads_new2 wr _ _ _ 8 1 rfl) ?_ (by decide) (by simp only [maxLen]; omega) (by decide) (by decide) (by omega) (by simp; omega) ?_; (intro u hu; simp at hu; rcases hu with rfl | rfl | rfl | rfl | rfl | rfl | rfl | rfl <;> rfl); intro g' cap' w3 hown' hgrow)
              have hb3 : Below w.heap.size w w3 := below_gr (((HW.out.2.alloc hsz _).alloc (by simp; omega) _)) hgrow (by simp; omega) (fun k hk => own_ge HW.out.1 k hk)
              have HO := Lib.hid hown'
              clear hown' hgrow
              go_roundw
              case rel =>
                refine ⟨j + 1, by omega, by go_num, Lib.hid ⟨?_, hb3⟩⟩
                rw [HSN.out]
                have h := HO.out
                simp only [grownJ, N8.cells, HT.out.1, HT.out.2, Bool.false_eq_true, reduceIte]
                exact h
              case measure => simp [intOf]; omega)
        · obtain rfl : j = l.length := by omega
          have HE : Hid (wr.ownsRow w.heap.size 52 8 u8 (k + l.length) (cellsN (grownP l k side)) ∧ Below w.heap.size w wr) := Lib.hid (by
            have h := HW.out
            rw [List.take_length] at h
            exact h)
          clear HW
          go_wp2
          refine bodyPost_ret (v := u8) (by simp [results, Try.results6, go_sem]) rfl ?_
          have hlen : (grownP l k side).length = k + l.length := by simp [grownP]
          exact ⟨_, rfl, by rw [hlen]; exact HE.out.1, HE.out.2⟩
end Go.Proofs.Ytfpemoellglknaa
