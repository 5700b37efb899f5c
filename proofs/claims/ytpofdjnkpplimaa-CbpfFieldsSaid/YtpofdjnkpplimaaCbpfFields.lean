import Derived.Test.YtpofdjnkpplimaaCbpfHead
import Derived.Test.YtpofdjnkpplimaaCbpfFP
import Derived.Test.YtpofdjnkpplimaaInsnRow
import Derived.Test.YtpofdjnkpplimaaOpen
set_option linter.unusedVariables false
set_option linter.unusedSimpArgs false
namespace Go.Proofs.Ytpofdjnkpplimaa
open Go.RowKit Go.ChangeShapes Go.WideShapes Go.ChangeAt
open Go.ChangeMaps (open_string shut_string)
/-! CbpfFields. -/
def turned (t kk : Int) (q : List I4) (n : Nat) : List I4 := (q.take n).map (fieldsP t kk) ++ q.drop n
theorem turned_len (t kk : Int) (q : List I4) (n : Nat) : (turned t kk q n).length = q.length := by simp [turned]; omega
theorem turned_get {t kk : Int} {q : List I4} {n : Nat} {x : I4} (h : q[n]? = some x) : (turned t kk q n)[n]? = some x := by
  have hn := (List.getElem?_eq_some_iff.1 h).1
  unfold turned
  rw [List.getElem?_append_right (by simp; omega)]
  simp only [List.length_map, List.length_take, Nat.min_eq_left (Nat.le_of_lt hn), Nat.sub_self, List.getElem?_drop, Nat.add_zero]
  exact h
theorem turned_succ {t kk : Int} {q : List I4} {n : Nat} {x : I4} (h : q[n]? = some x) : (turned t kk q n).set n (fieldsP t kk x) = turned t kk q (n + 1) := by
  have hn := (List.getElem?_eq_some_iff.1 h).1
  unfold turned
  rw [List.set_append_right _ _ (by simp; omega), List.take_add_one, h]
  simp only [List.length_map, List.length_take, Nat.min_eq_left (Nat.le_of_lt hn), Nat.sub_self, Option.toList_some, List.map_append, List.map_cons, List.map_nil, List.append_assoc, List.singleton_append]
  congr 1
  rw [List.drop_eq_getElem_cons hn, List.set_cons_zero]
theorem turned_all (t kk : Int) (q : List I4) : turned t kk q q.length = q.map (fieldsP t kk) := by simp [turned]
section
variable {w wr : World} {base g cap n : Nat} {q : List I4} {t kk : Int} {x : I4}
theorem set_get {l : List I4} {n : Nat} {x y : I4} (h : l[n]? = some x) : (l.set n y)[n]? = some y := by
  have hn := (List.getElem?_eq_some_iff.1 h).1
  rw [List.getElem?_set_self hn]
theorem fields_tt (h : IRow w base g cap (turned t kk q n) wr) (hx : q[n]? = some x) (hj : memC x.c jumpL = true) (hk : noK x.c = true) : IRow w base g cap (turned t kk q (n + 1)) (wr.setCell ⟨g, n * 4 + 3, none⟩ (.int .u32 (bits .xor .u32 x.k kk))) :=
  (h.setK (turned_get hx) _).cast (by rw [← turned_succ hx]; simp [fieldsP, hj, hk])
theorem fields_tf (h : IRow w base g cap (turned t kk q n) wr) (hx : q[n]? = some x) (hj : memC x.c jumpL = true) (hk : noK x.c = false) : IRow w base g cap (turned t kk q (n + 1)) wr :=
  h.cast (by
    rw [← turned_succ hx]
    have e : fieldsP t kk x = x := by simp [fieldsP, hj, hk]
    rw [e]
    exact (by
      have hg := turned_get (t := t) (kk := kk) hx
      have hl := (List.getElem?_eq_some_iff.1 hg).1
      refine List.ext_getElem? fun i => ?_
      by_cases hni : n = i
      · subst hni; rw [List.getElem?_set_self hl, hg]
      · rw [List.getElem?_set_ne hni]))
theorem fields_ft (h : IRow w base g cap (turned t kk q n) wr) (hx : q[n]? = some x) (hj : memC x.c jumpL = false) (hk : noK x.c = true) : IRow w base g cap (turned t kk q (n + 1)) (((wr.setCell ⟨g, n * 4 + 1, none⟩ (.int .u8 (bits .xor .u8 x.j t))).setCell ⟨g, n * 4 + 2, none⟩ (.int .u8 ((x.f + t) % 256))).setCell ⟨g, n * 4 + 3, none⟩ (.int .u32 (bits .xor .u32 x.k kk))) :=
  (((h.setJ (turned_get hx) _).setF (set_get (turned_get hx)) _).setK (by rw [List.set_set]; exact set_get (turned_get hx)) _).cast (by rw [← turned_succ hx]; simp [fieldsP, hj, hk])
theorem fields_ff (h : IRow w base g cap (turned t kk q n) wr) (hx : q[n]? = some x) (hj : memC x.c jumpL = false) (hk : noK x.c = false) : IRow w base g cap (turned t kk q (n + 1)) ((wr.setCell ⟨g, n * 4 + 1, none⟩ (.int .u8 (bits .xor .u8 x.j t))).setCell ⟨g, n * 4 + 2, none⟩ (.int .u8 ((x.f + t) % 256))) :=
  ((h.setJ (turned_get hx) _).setF (set_get (turned_get hx)) _).cast (by rw [← turned_succ hx]; simp [fieldsP, hj, hk])
end
/-- The tests of one round, decided. -/
theorem noK_ways (c : Int) : (noK c = true ∧ (c == 22) = true) ∨ (noK c = true ∧ (c == 22) = false ∧ (c == 128) = true) ∨ (noK c = true ∧ (c == 22) = false ∧ (c == 128) = false ∧ (c == 129) = true) ∨ (noK c = true ∧ (c == 22) = false ∧ (c == 128) = false ∧ (c == 129) = false ∧ (c == 132) = true)
    ∨ (noK c = true ∧ (c == 22) = false ∧ (c == 128) = false ∧ (c == 129) = false ∧ (c == 132) = false ∧ (c == 7) = true) ∨ (noK c = true ∧ (c == 22) = false ∧ (c == 128) = false ∧ (c == 129) = false ∧ (c == 132) = false ∧ (c == 7) = false ∧ (c == 135) = true)
    ∨ (noK c = false ∧ (c == 22) = false ∧ (c == 128) = false ∧ (c == 129) = false ∧ (c == 132) = false ∧ (c == 7) = false ∧ (c == 135) = false ∧ (bits .and .u16 c 8 != 0) = false)
    ∨ (noK c = true ∧ (c == 22) = false ∧ (c == 128) = false ∧ (c == 129) = false ∧ (c == 132) = false ∧ (c == 7) = false ∧ (c == 135) = false ∧ (bits .and .u16 c 8 != 0) = true ∧ (bits .and .u16 c 7 == 4) = true)
    ∨ (noK c = true ∧ (c == 22) = false ∧ (c == 128) = false ∧ (c == 129) = false ∧ (c == 132) = false ∧ (c == 7) = false ∧ (c == 135) = false ∧ (bits .and .u16 c 8 != 0) = true ∧ (bits .and .u16 c 7 == 4) = false ∧ (bits .and .u16 c 7 == 5) = true)
    ∨ (noK c = false ∧ (c == 22) = false ∧ (c == 128) = false ∧ (c == 129) = false ∧ (c == 132) = false ∧ (c == 7) = false ∧ (c == 135) = false ∧ (bits .and .u16 c 8 != 0) = true ∧ (bits .and .u16 c 7 == 4) = false ∧ (bits .and .u16 c 7 == 5) = false) := by
  unfold noK
  cases (c == 22) <;> cases (c == 128) <;> cases (c == 129) <;> cases (c == 132) <;> cases (c == 7) <;> cases (c == 135) <;> cases (bits .and .u16 c 8 != 0) <;> cases (bits .and .u16 c 7 == 4) <;> cases (bits .and .u16 c 7 == 5) <;> decide
set_option maxRecDepth 100000 in
set_option maxHeartbeats 3200000 in
theorem CbpfFields_w (A : Option Addr) (cap : Nat) (q : List I4) (t kk : Int) (A1 : Option Addr) (cap1 : Nat) (dat : List Int) (w : World) (hq : ∀ x ∈ q, x.ok) (hc : q.length ≤ cap) (hA : A = none → cap = 0) (hB : q.length * 8 ≤ 140737488351232) (hr : Reads w w.heap.size 4 A q.length (cellsI q))
    (ht : 0 ≤ t ∧ t < 256) (hk : 0 ≤ kk ∧ kk < 4294967296)
    (hq1 : ∀ x ∈ dat, 0 ≤ x ∧ x < 256) (hc1 : dat.length ≤ cap1) (hA1 : A1 = none → cap1 = 0) (hB1 : dat.length * 1 ≤ 140737488351232) (hr1 : Reads w w.heap.size 1 A1 dat.length (numV .u8 dat)) :
    Calls Try.prog 6 #[.slice A q.length cap, .int .u8 t, .int .u32 kk, .slice A1 dat.length cap1] w fun e w' => e = .returned (.bool true) ∧ Below w.heap.size w w' := by
  have HC := Lib.hid (fun (W : World) (hb : Below w.heap.size w W) => Run_c A cap q A1 cap1 dat hA hc hB hA1 hc1 hB1 hq hq1 W (hr.up hb) (hr1.up hb))
  have HC2 := Lib.hid (fun (g c2 : Nat) (W : World) (hb : Below w.heap.size w W) (hc2 : q.length ≤ c2) (hr2 : Reads W W.heap.size 4 (some ⟨g, 0, none⟩) q.length (cellsI (q.map (fieldsP t kk)))) =>
    (show Calls Try.prog 13 #[.slice (some ⟨g, 0, none⟩) q.length c2, .slice A1 dat.length cap1] W (RunPost W (runC q dat)) from by
      have h := Run_c (some ⟨g, 0, none⟩) c2 (q.map (fieldsP t kk)) A1 cap1 dat (fun h => by cases h) (by simpa using hc2) (by simpa using hB) hA1 hc1 hB1 (fun x hx => by obtain ⟨y, hy, rfl⟩ := List.mem_map.1 hx; exact fieldsP_ok (hq y hy)) hq1 W (by simpa using hr2) (hr1.up hb)
      rw [runC_fields, List.length_map] at h
      exact h))
  obtain ⟨t0, t1⟩ := ht
  obtain ⟨k0, k1⟩ := hk
  have HR := Lib.hid hr
  have HA := Lib.hid hA
  clear hr hA hr1 hq1 hA1 hq
  obtain ⟨⟨rv, rs, rf, ra⟩, hR0⟩ : ∃ R, R = runC q dat := ⟨_, rfl⟩
  have HR0 := Lib.hid hR0
  clear hR0
  obtain ⟨i0, HI⟩ : ∃ i0, Hid (Try.prog.info? 34 = some i0 ∧ i0.zero = some (.agg #[.int .u16 0, .int .u8 0, .int .u8 0, .int .u32 0]) ∧ i0.size = 4 ∧ i0.bytes = 8) := by
    obtain ⟨i0, hi, hz0, hz1, hz2⟩ := info_parts infoI
    exact ⟨i0, Lib.hid ⟨hi, hz0, hz1, hz2⟩⟩
  go_enter Try.func6, Try.ntmps6
  go_wp2_with fail
  refine (Head03_c w).mono ?_
  rintro e w1 ⟨rfl, hb1⟩
  have h0 : (w1.alloc (.cells #[] 34)).ownsRow w1.heap.size 34 4 (.slice (some ⟨w1.heap.size, 0, none⟩) 0 0) 0 [] := World.ownsRow_lit w1 #[] 0 (Nat.le_refl _) (by decide) rfl
  go_wp2_with (at_builtin; refine wpList_app rfl (.tmp 23) (.tmp 24) 22 rfl w1.heap.size 34 i0 _ 4 8 Try.underlying22 HI.out.1 HI.out.2.1 HI.out.2.2.1 HI.out.2.2.2 rfl (by decide) _ 0 [] rfl h0 A w1.heap.size q.length cap (cellsI q) rfl HA.out ((HR.out.up hb1).alloc (Nat.le_refl _) _) (cellsI_one q) (by simp only [maxLen]; omega) (by omega) (by simp) ?_; intro v1 w4 hown1 hg1 hnil; have hb4 : Below w1.heap.size w1 w4 := below_gr (below1 w1 _) hg1 (by simp) (fun k hk => by have := own_ge h0 k hk; omega); obtain ⟨g1, cap3, hv1⟩ : ∃ g1 cap3, v1 = .slice (some ⟨g1, 0, none⟩) q.length cap3 := (by rcases hown1.2 with ⟨h, _⟩ | ⟨g', cap', cur, h, _⟩; exact absurd (hnil.1 h).1 (by intro e; cases e); exact ⟨g', cap', by simpa using h⟩); subst hv1; (simp only [Nat.zero_add, List.nil_append] at hown1); have hcap3 := own_cap hown1; have hge := own_ge hown1 g1 (by simp [Value.ownBlock]); have hb4' := below_t hb1 hb4; have HO := Lib.hid hown1; clear hnil hg1 hown1 h0)
  have hgl : g1 < w4.heap.size := by
    rcases HO.out.2 with ⟨h, _⟩ | ⟨g', cap', cur, h, _, hh, _⟩
    · cases h
    · injection h with h; injection h with h; injection h with h; subst h; exact (Array.getElem?_eq_some_iff.1 hh).1
  have HROW := Lib.hid (show IRow w w1.heap.size g1 cap3 (turned t kk q 0) w4 from ⟨by simpa [turned] using HO.out, hb4', by have := hb1.size; omega, hgl⟩)
  clear HO hb4 hgl
  go_loopw [11, 12, 13] (fun i _ _ wr => ∃ n : Nat, n ≤ q.length ∧ i = .int .i64 n ∧ Hid (IRow w w1.heap.size g1 cap3 (turned t kk q n) wr)) (fun i _ _ _ => q.length - (intOf i).toNat)
  case atStart => exact ⟨0, by omega, rfl, HROW⟩
  case round =>
    obtain ⟨n, hn, rfl, HRW⟩ := hrel
    clear HROW
    have hgl := HRW.out.2.2.2
    have hfr : ∀ j, wr.frozen? ⟨g1, j, none⟩ = false := fun j => HRW.out.free j
    by_cases hlt : n < q.length
    · obtain ⟨x, hx⟩ : ∃ x, q[n]? = some x := ⟨_, List.getElem?_eq_getElem hlt⟩
      obtain ⟨g0, g1', g2, g3⟩ := HRW.out.cells (turned_get hx)
      have HX := Lib.hid hx
      have hlt' : (n : Int) < q.length := by omega
      clear hx
      cases hj : memC x.c jumpL with
      | true =>
        have HJ := Lib.hid hj
        clear hj
        go_wp2_with fail
        refine (Jump_c x.c wr).mono ?_
        rintro e w' ⟨rfl, rfl⟩
        rw [HJ.out]
        rcases noK_ways x.c with ⟨hk, h1⟩ | ⟨hk, h1, h2⟩ | ⟨hk, h1, h2, h3⟩ | ⟨hk, h1, h2, h3, h4⟩ | ⟨hk, h1, h2, h3, h4, h5⟩ | ⟨hk, h1, h2, h3, h4, h5, h6⟩ | ⟨hk, h1, h2, h3, h4, h5, h6, h7⟩ | ⟨hk, h1, h2, h3, h4, h5, h6, h7, h8⟩ | ⟨hk, h1, h2, h3, h4, h5, h6, h7, h8, h9⟩ | ⟨hk, h1, h2, h3, h4, h5, h6, h7, h8, h9⟩
        · as_aux_lemma =>
            have HK := Lib.hid hk
            clear hk
            go_wp2
            go_roundw
            case rel => exact ⟨n + 1, by omega, by go_num, Lib.hid (fields_tt HRW.out HX.out HJ.out HK.out)⟩
            case measure => simp [intOf]; omega
        · as_aux_lemma =>
            have HK := Lib.hid hk
            clear hk
            go_wp2
            go_roundw
            case rel => exact ⟨n + 1, by omega, by go_num, Lib.hid (fields_tt HRW.out HX.out HJ.out HK.out)⟩
            case measure => simp [intOf]; omega
        · as_aux_lemma =>
            have HK := Lib.hid hk
            clear hk
            go_wp2
            go_roundw
            case rel => exact ⟨n + 1, by omega, by go_num, Lib.hid (fields_tt HRW.out HX.out HJ.out HK.out)⟩
            case measure => simp [intOf]; omega
        · as_aux_lemma =>
            have HK := Lib.hid hk
            clear hk
            go_wp2
            go_roundw
            case rel => exact ⟨n + 1, by omega, by go_num, Lib.hid (fields_tt HRW.out HX.out HJ.out HK.out)⟩
            case measure => simp [intOf]; omega
        · as_aux_lemma =>
            have HK := Lib.hid hk
            clear hk
            go_wp2
            go_roundw
            case rel => exact ⟨n + 1, by omega, by go_num, Lib.hid (fields_tt HRW.out HX.out HJ.out HK.out)⟩
            case measure => simp [intOf]; omega
        · as_aux_lemma =>
            have HK := Lib.hid hk
            clear hk
            go_wp2
            go_roundw
            case rel => exact ⟨n + 1, by omega, by go_num, Lib.hid (fields_tt HRW.out HX.out HJ.out HK.out)⟩
            case measure => simp [intOf]; omega
        · as_aux_lemma =>
            have HK := Lib.hid hk
            clear hk
            go_wp2
            go_roundw
            case rel => exact ⟨n + 1, by omega, by go_num, Lib.hid (fields_tf HRW.out HX.out HJ.out HK.out)⟩
            case measure => simp [intOf]; omega
        · as_aux_lemma =>
            have HK := Lib.hid hk
            clear hk
            go_wp2
            go_roundw
            case rel => exact ⟨n + 1, by omega, by go_num, Lib.hid (fields_tt HRW.out HX.out HJ.out HK.out)⟩
            case measure => simp [intOf]; omega
        · as_aux_lemma =>
            have HK := Lib.hid hk
            clear hk
            go_wp2
            go_roundw
            case rel => exact ⟨n + 1, by omega, by go_num, Lib.hid (fields_tt HRW.out HX.out HJ.out HK.out)⟩
            case measure => simp [intOf]; omega
        · as_aux_lemma =>
            have HK := Lib.hid hk
            clear hk
            go_wp2
            go_roundw
            case rel => exact ⟨n + 1, by omega, by go_num, Lib.hid (fields_tf HRW.out HX.out HJ.out HK.out)⟩
            case measure => simp [intOf]; omega
      | false =>
        have HJ := Lib.hid hj
        clear hj
        go_wp2_with fail
        refine (Jump_c x.c wr).mono ?_
        rintro e w' ⟨rfl, rfl⟩
        rw [HJ.out]
        rcases noK_ways x.c with ⟨hk, h1⟩ | ⟨hk, h1, h2⟩ | ⟨hk, h1, h2, h3⟩ | ⟨hk, h1, h2, h3, h4⟩ | ⟨hk, h1, h2, h3, h4, h5⟩ | ⟨hk, h1, h2, h3, h4, h5, h6⟩ | ⟨hk, h1, h2, h3, h4, h5, h6, h7⟩ | ⟨hk, h1, h2, h3, h4, h5, h6, h7, h8⟩ | ⟨hk, h1, h2, h3, h4, h5, h6, h7, h8, h9⟩ | ⟨hk, h1, h2, h3, h4, h5, h6, h7, h8, h9⟩
        · as_aux_lemma =>
            have HK := Lib.hid hk
            clear hk
            go_wp2
            go_roundw
            case rel => exact ⟨n + 1, by omega, by go_num, Lib.hid (fields_ft HRW.out HX.out HJ.out HK.out)⟩
            case measure => simp [intOf]; omega
        · as_aux_lemma =>
            have HK := Lib.hid hk
            clear hk
            go_wp2
            go_roundw
            case rel => exact ⟨n + 1, by omega, by go_num, Lib.hid (fields_ft HRW.out HX.out HJ.out HK.out)⟩
            case measure => simp [intOf]; omega
        · as_aux_lemma =>
            have HK := Lib.hid hk
            clear hk
            go_wp2
            go_roundw
            case rel => exact ⟨n + 1, by omega, by go_num, Lib.hid (fields_ft HRW.out HX.out HJ.out HK.out)⟩
            case measure => simp [intOf]; omega
        · as_aux_lemma =>
            have HK := Lib.hid hk
            clear hk
            go_wp2
            go_roundw
            case rel => exact ⟨n + 1, by omega, by go_num, Lib.hid (fields_ft HRW.out HX.out HJ.out HK.out)⟩
            case measure => simp [intOf]; omega
        · as_aux_lemma =>
            have HK := Lib.hid hk
            clear hk
            go_wp2
            go_roundw
            case rel => exact ⟨n + 1, by omega, by go_num, Lib.hid (fields_ft HRW.out HX.out HJ.out HK.out)⟩
            case measure => simp [intOf]; omega
        · as_aux_lemma =>
            have HK := Lib.hid hk
            clear hk
            go_wp2
            go_roundw
            case rel => exact ⟨n + 1, by omega, by go_num, Lib.hid (fields_ft HRW.out HX.out HJ.out HK.out)⟩
            case measure => simp [intOf]; omega
        · as_aux_lemma =>
            have HK := Lib.hid hk
            clear hk
            go_wp2
            go_roundw
            case rel => exact ⟨n + 1, by omega, by go_num, Lib.hid (fields_ff HRW.out HX.out HJ.out HK.out)⟩
            case measure => simp [intOf]; omega
        · as_aux_lemma =>
            have HK := Lib.hid hk
            clear hk
            go_wp2
            go_roundw
            case rel => exact ⟨n + 1, by omega, by go_num, Lib.hid (fields_ft HRW.out HX.out HJ.out HK.out)⟩
            case measure => simp [intOf]; omega
        · as_aux_lemma =>
            have HK := Lib.hid hk
            clear hk
            go_wp2
            go_roundw
            case rel => exact ⟨n + 1, by omega, by go_num, Lib.hid (fields_ft HRW.out HX.out HJ.out HK.out)⟩
            case measure => simp [intOf]; omega
        · as_aux_lemma =>
            have HK := Lib.hid hk
            clear hk
            go_wp2
            go_roundw
            case rel => exact ⟨n + 1, by omega, by go_num, Lib.hid (fields_ff HRW.out HX.out HJ.out HK.out)⟩
            case measure => simp [intOf]; omega
    · obtain rfl : n = q.length := by omega
      have hbw := HRW.out.2.1
      have HX2 := Lib.hid (show Reads wr wr.heap.size 4 (some ⟨g1, 0, none⟩) q.length (cellsI (q.map (fieldsP t kk))) from by
        have := Reads.of_own HRW.out.1
        rw [turned_all, List.length_map] at this
        exact this)
      clear HRW hfr
      go_wp2_with fail
      refine (HC.out wr hbw).mono ?_
      rintro e w5 ⟨rfl, hb5⟩
      rw [← HR0.out]
      unfold ret4
      dsimp only
      have hb5' := below_t hbw hb5
      have HX5 := Lib.hid (HX2.out.up hb5)
      clear HX2
      go_wp2_with fail
      refine (HC2.out g1 cap3 w5 hb5' hcap3 HX5.out).mono ?_
      rintro e w6 ⟨rfl, hb6⟩
      rw [← HR0.out]
      unfold ret4
      dsimp only
      have hb6' := below_t hb5' hb6
      go_wp2
      go_ret
      exact ⟨rfl, hb6'⟩
/-! ### the row of CbpfFields -/
set_option maxRecDepth 100000 in
theorem CbpfFields_lifted (os : Os) (started : os.Started) (H : Type) (enc : TypeId × Value → H) :
    ReturnsInHanded {} Try.checked os 6 .any (Rows.cbpfFieldsSpec.pre6 enc Try.prog Try.f6 Rows.cbpfFieldsRow.domain false) (Rows.cbpfFieldsSpec.post enc Try.prog Try.f6 false true false false) := by
  refine returnsInHanded_of_change_sized (C := Try.checked) ownNone started (by kernel_rfl) Try.func6
    (ChangeSpec.witness6 (enc := enc) (C := Try.checked) false ⟨#[], #[.slice none 0 0, .int .u8 0, .int .u32 0, .slice none 0 0], []⟩ 8 (by kernel_rfl) (by kernel_rfl) (by kernel_rfl) (by kernel_rfl)) ?_
  intro W base args ds gs before hval0 hW hcnd hsz0 _
  have hsz : (DataW.weightsEach Try.prog (Try.f6.params.toList ++ Rows.cbpfFieldsSpec.plain.varTypes Try.prog) (ds ++ gs)).all (· ≤ reachBytes) = true := hsz0
  have hval : ∀ (j : Nat) t v, Try.f6.params[j]? = some t → args[j]? = some v → Value.okWide Try.prog W .any base t v := hval0
  have hW' := hW
  obtain ⟨p, q, hA0, hV, rfl, hfz, hnd⟩ := hW
  have hA : DataW.TrodAll enc Try.prog W 0 (fun _ => true) true Try.f6.params.toList args.toList ds p := hA0
  rw [Try.params6] at hA hval hsz
  obtain ⟨v0, vs0, d0, ds0, p0, q0, hargs, rfl, rfl, h0, r0⟩ := trodAll_cons hA
  obtain ⟨v1, vs1, d1, ds1, p1, q1, rfl, rfl, rfl, h1, r1⟩ := trodAll_cons r0
  obtain ⟨v2, vs2, d2, ds2, p2, q2, rfl, rfl, rfl, h2, r2⟩ := trodAll_cons r1
  obtain ⟨v3, vs3, d3, ds3, p3, q3, rfl, rfl, rfl, h3, r3⟩ := trodAll_cons r2
  obtain ⟨rfl, rfl, rfl⟩ := trodAll_nil r3
  obtain rfl : args = #[v0, v1, v2, v3] := by cases args; simp_all
  obtain ⟨rfl, rfl⟩ := trodVars_none hV
  obtain ⟨a0, len0, cap0, rfl⟩ := okWide_slice Try.underlying22 (hval 0 22 v0 rfl rfl)
  have k0 := h0
  have lt0 : ∀ x ∈ p0, x.block < W.heap.size := by obtain ⟨m, hm⟩ := k0; exact DataW.trod_lt m _ _ _ hm
  obtain ⟨xs0, hl0, hr0, ho0, hc0, ha0, hb0⟩ := open_rows (α := I4) (j := 0) I4.cells I4.ok 4 8 Try.underlying22 (by kernel_rfl) (by decide) (fun _ => rfl) (by kernel_rfl) insn_cells hsz rfl rfl h0
  subst hl0
  obtain ⟨x1, rfl, rfl, rfl, w1⟩ := open_int Try.underlying5 (hval 1 5 v1 rfl rfl) h1
  obtain ⟨x2, rfl, rfl, rfl, w2⟩ := open_int Try.underlying26 (hval 2 26 v2 rfl rfl) h2
  obtain ⟨a3, len3, cap3, rfl⟩ := okWide_slice Try.underlying23 (hval 3 23 v3 rfl rfl)
  have k3 := h3
  have lt3 : ∀ x ∈ p3, x.block < W.heap.size := by obtain ⟨m, hm⟩ := k3; exact DataW.trod_lt m _ _ _ hm
  obtain ⟨xs3, hl3, hr3, ho3, hc3, ha3, hb3⟩ := open_rows (α := Int) (j := 3) (fun x : Int => [Value.int .u8 x]) (fun x : Int => 0 ≤ x ∧ x < 256) 1 1 Try.underlying23 (by kernel_rfl) (by decide) (fun _ => rfl) (by kernel_rfl) (int_cells Try.underlying5 (fun h => wf_u8 h)) hsz rfl rfl h3
  subst hl3
  clear hA0 hval0 hsz0 hsz
  refine (CbpfFields_w a0 cap0 xs0 x1 x2 a3 cap3 xs3 W ho0 hc0 ha0 hb0 hr0 (wf_u8 w1) (wf_u32 w2) ho3 hc3 ha3 hb3 (reads_num hr3)).mono fun e W' ⟨he, bel⟩ => ?_
  subst he
  exact ⟨_, rfl, _, _, _, [], _, [], hW', trodAll_mk1 (shut_bool Try.underlying4 _), (trodAll_cons_mk (Below.trod laidOutB_ (by kernel_rfl) (of_decide_eq_true (by kernel_rfl)) k0 bel lt0) (trodAll_cons_mk (shut_int Try.underlying5 w1) (trodAll_cons_mk (shut_int Try.underlying26 w2) (trodAll_cons_mk (Below.trod laidOutB_ (by kernel_rfl) (of_decide_eq_true (by kernel_rfl)) k3 bel lt3) trodAll_mk0)))), rfl, bel.frame _, fun h => by cases h⟩
theorem CbpfFields_holds : Rows.CbpfFieldsSaid :=
  OpenClaim.holds_of_wide 6 Try.f6 rfl rfl rfl rfl rfl rfl rfl ⟨rfl, rfl, rfl, rfl, rfl⟩ rfl rfl rfl rfl rfl (by kernel_rfl) Try.func6 (by kernel_rfl)
    (of_decide_eq_true (by kernel_rfl)) (by unfold Func.isWrapper; first | (rw [if_pos (by decide +kernel)]; kernel_rfl) | (rw [if_neg (by decide +kernel)]; exact ⟨rfl, rfl⟩))
    (fun os started H enc _ => CbpfFields_lifted os started H enc)
#print axioms CbpfFields_holds
end Go.Proofs.Ytpofdjnkpplimaa
