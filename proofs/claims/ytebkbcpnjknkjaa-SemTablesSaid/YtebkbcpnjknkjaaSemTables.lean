/- SemTables: of any architecture's name, any names and any verdicts, sem's architectures, names, numbers and actions are the document's. No conditions. -/
import Derived.Test.YtebkbcpnjknkjaaSemHead
import Derived.Test.YtebkbcpnjknkjaaOpenX
import Derived.Test.YtebkbcpnjknkjaaSemWL
set_option linter.unusedVariables false
set_option linter.unusedSimpArgs false
set_option maxRecDepth 100000
namespace Go.Proofs.Ytebkbcpnjknkjaa
open Go.RowKit Go.ChangeShapes Go.WideShapes Go.Deep
def strC (x : ByteArray) : List Value := [.string x]
def verC (x : Int × Int) : List Value := [.int .i64 x.1, .int .u64 x.2]
def verOk (x : Int × Int) : Prop := 0 ≤ x.2 ∧ x.2 < 18446744073709551616
theorem strsV_flat (l : List ByteArray) : strsV l = l.flatMap strC := by
  induction l with
  | nil => rfl
  | cons x l ih => simp only [strsV, List.map_cons, List.flatMap_cons, strC] at ih ⊢; rw [ih]; rfl
theorem verC_length (l : List (Int × Int)) : (l.flatMap verC).length = l.length * 2 := by
  induction l with
  | nil => rfl
  | cons x l ih => simp only [List.flatMap_cons, List.length_append, List.length_cons] at ih ⊢; rw [ih]; simp [verC]; omega
theorem verC_get (l : List (Int × Int)) (i : Nat) (x : Int × Int) (hx : l[i]? = some x) (k : Nat) (hk : k < 2) : (l.flatMap verC)[i * 2 + k]? = (verC x)[k]? := by
  induction l generalizing i with
  | nil => simp at hx
  | cons y l ih =>
    cases i with
    | zero => simp only [List.getElem?_cons_zero, Option.some.injEq] at hx; subst hx; simp only [List.flatMap_cons]; rw [List.getElem?_append_left (by simp [verC]; omega)]; simp
    | succ i =>
      rw [List.getElem?_cons_succ] at hx
      have e : (i + 1) * 2 + k = (verC y).length + (i * 2 + k) := by simp [verC]; omega
      simp only [List.flatMap_cons] at ih ⊢
      rw [e, List.getElem?_append_right (by omega), Nat.add_sub_cancel_left]
      exact ih i hx
theorem Reads.str {w : World} {B n : Nat} {A : Option Addr} {l : List ByteArray} (h : Reads w B 1 A n (strsV l)) {i : Nat} {x : ByteArray} (hx : l[i]? = some x) :
    ∃ b off, A = some ⟨b, off, none⟩ ∧ b < B ∧ w.cell? ⟨b, off + i, none⟩ = some (.string x) := by
  have hl : l.length = n := by have := h.1; simp [strsV] at this; exact this
  have hi : i < l.length := (List.getElem?_eq_some_iff.1 hx).1
  obtain ⟨b, off, e, hb, hc⟩ := h.2 (by omega)
  exact ⟨b, off, e, hb, hc i _ (by simp [strsV, hx])⟩
theorem Reads.ver {w : World} {B n : Nat} {A : Option Addr} {l : List (Int × Int)} (h : Reads w B 2 A n (l.flatMap verC)) {i : Nat} {x : Int × Int} (hx : l[i]? = some x) :
    ∃ b off, A = some ⟨b, off, none⟩ ∧ b < B ∧ w.cell? ⟨b, off + i * 2, none⟩ = some (.int .i64 x.1) ∧ w.cell? ⟨b, off + i * 2 + 1, none⟩ = some (.int .u64 x.2) := by
  have hl : l.length = n := by have := h.1; rw [verC_length] at this; omega
  have hi : i < l.length := (List.getElem?_eq_some_iff.1 hx).1
  obtain ⟨b, off, e, hb, hc⟩ := h.2 (by omega)
  exact ⟨b, off, e, hb, hc (i * 2 + 0) _ (by rw [verC_get l i x hx 0 (by omega)]; rfl), hc (i * 2 + 1) _ (by rw [verC_get l i x hx 1 (by omega)]; rfl)⟩
theorem NamesPost.slice {l : List ByteArray} {w w' : World} {e : Ending} (h : NamesPost l w e w') : ∃ A c, e = .returned (.slice A l.length c) ∧ Reads w' w'.heap.size 1 A l.length (strsV l) ∧ Below w.heap.size w w' := by
  obtain ⟨v, h1, h2, h3⟩ := h
  rcases h2.2 with ⟨e1, e2⟩ | ⟨g, cap, cur, e1, _⟩
  · have e3 : l = [] := by cases l with | nil => rfl | cons x l => simp [strsV] at e2
    subst e3
    exact ⟨none, 0, by rw [h1, e1]; rfl, Reads.none_, h3⟩
  · exact ⟨_, _, by rw [h1, e1], Reads.of_own (by rw [e1] at h2; exact h2), h3⟩
theorem namesP_len (a : ByteArray) : (namesP a).length ≤ 24 := by unfold namesP; rw [List.length_map]; exact tableP_len _
theorem string_cells {H : Type} {enc : TypeId × Value → H} {w : World} {base : Nat} {spare : Nat → Bool} {held : Bool} (n : Nat) (cs : List Value) (y : DataW H × List MemPlace) (h : DataW.trod enc Try.prog w base spare held n 9 cs = some y) : ∃ x : ByteArray, cs = strC x ∧ True := by
  obtain ⟨k, e, _, _⟩ := DataW.trod_string Try.underlying9 h
  exact ⟨k, e, trivial⟩
theorem verd_cells {H : Type} {enc : TypeId × Value → H} {w : World} {base : Nat} {spare : Nat → Bool} {held : Bool} (n : Nat) (cs : List Value) (y : DataW H × List MemPlace) (h : DataW.trod enc Try.prog w base spare held n 26 cs = some y) : ∃ x : Int × Int, cs = verC x ∧ verOk x := by
  obtain ⟨x, e, h1⟩ := verdict_cells n cs y h
  exact ⟨x, e, h1⟩
set_option maxHeartbeats 3200000 in
theorem SemTables_w (a : ByteArray) (A1 : Option Addr) (cap1 : Nat) (ns : List ByteArray) (A2 : Option Addr) (cap2 : Nat) (vs : List (Int × Int)) (w : World) (ha : a.size ≤ maxLen)
    (ho1 : ∀ x ∈ ns, True) (hc1 : ns.length ≤ cap1) (hA1 : A1 = none → cap1 = 0) (hB1 : ns.length * 16 ≤ 140737488351232) (hr1 : Reads w w.heap.size 1 A1 ns.length (ns.flatMap strC))
    (ho2 : ∀ x ∈ vs, verOk x) (hc2 : vs.length ≤ cap2) (hA2 : A2 = none → cap2 = 0) (hB2 : vs.length * 16 ≤ 140737488351232) (hr2 : Reads w w.heap.size 2 A2 vs.length (vs.flatMap verC)) :
    Calls Try.prog 8 #[.string a, .slice A1 ns.length cap1, .slice A2 vs.length cap2] w fun e w' => e = .returned (.bool true) ∧ Below w.heap.size w w' := by
  have HL := Lib.hid (fun w => lives7_c w)
  have HAR := Lib.hid (fun w => Arch_c a ha w)
  have HRA := Lib.hid (fun w => rArch_c a w)
  have HNM := Lib.hid (fun w => Names_c07 a w)
  have HRN := Lib.hid (fun w => rNames_c a w)
  have HNU := Lib.hid (fun s w => Number_c07 a s w)
  have HRU := Lib.hid (fun s w => rNumber_c a s w)
  have HAC := Lib.hid (fun k d hd w => Action_c k d hd w)
  have HRC := Lib.hid (fun k d hd w => rAction_c k d hd w)
  unfold NumPost7 at HNU HRU HAC HRC
  unfold ArchPost at HAR
  obtain ⟨aw, hab⟩ : ∃ aw, aw = archP a.data.toList := ⟨_, rfl⟩
  rw [← hab] at HAR HRA
  obtain ⟨aw, ab⟩ := aw
  have hln := namesP_len a
  obtain ⟨L, hL⟩ : ∃ L, L = namesP a := ⟨_, rfl⟩
  rw [← hL] at HNM HRN hln
  have HR1 := Lib.hid (by rw [← strsV_flat] at hr1; exact hr1)
  have HR2 := Lib.hid hr2
  have HO2 := Lib.hid ho2
  dsimp only at HAR HRA
  clear ha hr1 hr2 ho2 hab hL ho1 hc1 hA1 hc2 hA2
  go_enter Try.func8, Try.ntmps8
  go_wp2_with fail
  refine (HL.out _).mono ?_
  rintro e w1 ⟨rfl, hb⟩
  have H1 := Lib.hid hb
  clear hb
  go_wp2_with fail
  refine (HAR.out _).mono ?_
  rintro e w2 ⟨rfl, hb⟩
  have H2 := Lib.hid (below_t H1.out hb)
  clear hb
  go_wp2_with fail
  refine (HRA.out _).mono ?_
  rintro e w3 ⟨rfl, rfl⟩
  go_wp2_with fail
  refine (HNM.out _).mono ?_
  intro e w3 hp
  obtain ⟨A3, c3, rfl, hr3, hb⟩ := hp.slice
  have H3 := Lib.hid (below_t H2.out hb)
  have HR3 := Lib.hid hr3
  clear hp hr3 hb
  go_wp2_with fail
  refine (HRN.out _).mono ?_
  intro e w4 hp
  obtain ⟨A4, c4, rfl, hr4, hb⟩ := hp.slice
  have H4 := Lib.hid (below_t H3.out hb)
  have HR3' := Lib.hid (HR3.out.up hb)
  have HR4 := Lib.hid hr4
  clear hp hr4 hb
  go_wp2_with fail
  go_loopw [14] (fun i wr => ∃ n : Nat, i = .int .i64 n ∧ n ≤ L.length ∧ Hid (Below w4.heap.size w4 wr)) (fun i _ => L.length - (intOf i).toNat)
  case atStart => exact ⟨0, rfl, by omega, Lib.hid (Below.refl _ _)⟩
  case round =>
    obtain ⟨n, rfl, hn, HB⟩ := hrel
    rcases Nat.lt_or_ge n L.length with hlt | hge
    · have hlt' : (n : Int) < L.length := by omega
      obtain ⟨x, hx⟩ : ∃ x, L[n]? = some x := ⟨_, List.getElem?_eq_getElem hlt⟩
      have HX := Lib.hid hx
      obtain ⟨B3, O3, rfl, hb3, i3⟩ := (HR3'.out.up HB.out).str hx
      obtain ⟨B4, O4, rfl, hb4, i4⟩ := (HR4.out.up HB.out).str hx
      clear hx
      obtain ⟨q, hq⟩ : ∃ q, q = numP a x := ⟨_, rfl⟩
      have HNX := Lib.hid (fun w => HNU.out x w)
      have HRX := Lib.hid (fun w => HRU.out x w)
      rw [← hq] at HNX HRX
      obtain ⟨qn, qb⟩ := q
      dsimp only at HNX HRX
      clear hq
      go_wp2_with fail
      refine (HNX.out _).mono ?_
      rintro e w5 ⟨rfl, hb⟩
      have H5 := Lib.hid (below_t HB.out hb)
      have i4' := keepC hb i4
      have i3' := keepC hb i3
      clear hb i4 i3
      go_wp2_with fail
      refine (HRX.out _).mono ?_
      rintro e w6 ⟨rfl, hb⟩
      have H6 := Lib.hid (below_t H5.out hb)
      have i4 := keepC hb i4'
      have i3 := keepC hb i3'
      clear hb i4' i3'
      go_wp2_with fail
      go_quiet (fail)
      go_wp2
      go_roundw
      case rel => exact ⟨n + 1, by go_num, by omega, Lib.hid (below_drN H6.out _)⟩
      case measure => simp [intOf]; omega
    · obtain rfl : n = L.length := by omega
      have H5 := Lib.hid (below_t H4.out HB.out)
      go_wp2_with fail
      obtain ⟨wo1, rfl⟩ : ∃ wo1 : World, wo1 = wr := ⟨_, rfl⟩
      go_loopw [19] (fun i wr => ∃ n : Nat, i = .int .i64 n ∧ n ≤ ns.length ∧ Hid (Below wo1.heap.size wo1 wr)) (fun i _ => ns.length - (intOf i).toNat)
      case atStart => exact ⟨0, rfl, by omega, Lib.hid (Below.refl _ _)⟩
      case round =>
        obtain ⟨n, rfl, hn, HB2⟩ := hrel
        rcases Nat.lt_or_ge n ns.length with hlt | hge
        · have hlt' : (n : Int) < ns.length := by omega
          obtain ⟨x, hx⟩ : ∃ x, ns[n]? = some x := ⟨_, List.getElem?_eq_getElem hlt⟩
          obtain ⟨B3, O3, rfl, hb3, i3⟩ := (HR1.out.up (below_t H5.out HB2.out)).str hx
          clear hx
          obtain ⟨q, hq⟩ : ∃ q, q = numP a x := ⟨_, rfl⟩
          have HNX := Lib.hid (fun w => HNU.out x w)
          have HRX := Lib.hid (fun w => HRU.out x w)
          rw [← hq] at HNX HRX
          obtain ⟨qn, qb⟩ := q
          dsimp only at HNX HRX
          clear hq
          go_wp2_with fail
          refine (HNX.out _).mono ?_
          rintro e w5 ⟨rfl, hb⟩
          have H6 := Lib.hid (below_t HB2.out hb)
          have i3' := keepC hb i3
          clear hb i3
          go_wp2_with fail
          refine (HRX.out _).mono ?_
          rintro e w6 ⟨rfl, hb⟩
          have H7 := Lib.hid (below_t H6.out hb)
          clear hb i3'
          go_wp2
          go_roundw
          case rel => exact ⟨n + 1, by go_num, by omega, H7⟩
          case measure => simp [intOf]; omega
        · obtain rfl : n = ns.length := by omega
          have H6 := Lib.hid (below_t H5.out HB2.out)
          go_wp2_with fail
          obtain ⟨wo, rfl⟩ : ∃ wo : World, wo = wr := ⟨_, rfl⟩
          go_loopw [24] (fun i wr => ∃ n : Nat, i = .int .i64 n ∧ n ≤ vs.length ∧ Hid (Below w.heap.size w wr)) (fun i _ => vs.length - (intOf i).toNat)
          case atStart => exact ⟨0, rfl, by omega, H6⟩
          case round =>
            obtain ⟨n, rfl, hn, HB3⟩ := hrel
            rcases Nat.lt_or_ge n vs.length with hlt | hge
            · have hlt' : (n : Int) < vs.length := by omega
              obtain ⟨⟨xk, xd⟩, hx⟩ : ∃ x, vs[n]? = some x := ⟨_, List.getElem?_eq_getElem hlt⟩
              have hok := HO2.out _ (List.mem_of_getElem? hx)
              obtain ⟨B3, O3, rfl, hb3, i3, i4⟩ := (HR2.out.up HB3.out).ver hx
              dsimp only at i3 i4
              clear hx
              obtain ⟨q, hq⟩ : ∃ q, q = actionP xk xd := ⟨_, rfl⟩
              have HNX := Lib.hid (fun w => HAC.out xk xd hok w)
              have HRX := Lib.hid (fun w => HRC.out xk xd hok w)
              rw [← hq] at HNX HRX
              obtain ⟨qn, qb⟩ := q
              dsimp only at HNX HRX
              clear hq hok
              go_wp2_with fail
              refine (HNX.out _).mono ?_
              rintro e w5 ⟨rfl, hb⟩
              have H7 := Lib.hid (below_t HB3.out hb)
              have i3' := keepC hb i3
              have i4' := keepC hb i4
              clear hb i3 i4
              go_wp2_with fail
              refine (HRX.out _).mono ?_
              rintro e w6 ⟨rfl, hb⟩
              have H8 := Lib.hid (below_t H7.out hb)
              clear hb i3' i4'
              go_wp2
              go_roundw
              case rel => exact ⟨n + 1, by go_num, by omega, H8⟩
              case measure => simp [intOf]; omega
            · obtain rfl : n = vs.length := by omega
              go_wp2
              go_ret
              exact ⟨rfl, HB3.out⟩
/-! ### the row of SemTables -/
set_option maxRecDepth 100000 in
theorem SemTables_lifted (os : Os) (started : os.Started) (H : Type) (enc : TypeId × Value → H) :
    ReturnsInHanded {} Try.checked os 8 .any (Rows.semTablesSpec.pre6 enc Try.prog Try.f8 Rows.semTablesRow.domain false) (Rows.semTablesSpec.post enc Try.prog Try.f8 false true false false) := by
  refine returnsInHanded_of_change_sized (C := Try.checked) ownNone started (by kernel_rfl) Try.func8
    (ChangeSpec.witness6 (enc := enc) (C := Try.checked) false ⟨#[], #[.string ⟨#[]⟩, .slice none 0 0, .slice none 0 0], []⟩ 8 (by kernel_rfl) (by kernel_rfl) (by kernel_rfl) (by kernel_rfl)) ?_
  intro W base args ds gs before hval0 hW hcnd hsz0 _
  have hsz : (DataW.weightsEach Try.prog (Try.f8.params.toList ++ Rows.semTablesSpec.plain.varTypes Try.prog) (ds ++ gs)).all (· ≤ reachBytes) = true := hsz0
  have hval : ∀ (j : Nat) t v, Try.f8.params[j]? = some t → args[j]? = some v → Value.okWide Try.prog W .any base t v := hval0
  have hW' := hW
  obtain ⟨p, q, hA0, hV, rfl, hfz, hnd⟩ := hW
  have hA : DataW.TrodAll enc Try.prog W 0 (fun _ => true) true Try.f8.params.toList args.toList ds p := hA0
  rw [Try.params8] at hA hval hsz
  obtain ⟨v0, vs0, d0, ds0, p0, q0, hargs, rfl, rfl, h0, r0⟩ := trodAll_cons hA
  obtain ⟨v1, vs1, d1, ds1, p1, q1, rfl, rfl, rfl, h1, r1⟩ := trodAll_cons r0
  obtain ⟨v2, vs2, d2, ds2, p2, q2, rfl, rfl, rfl, h2, r2⟩ := trodAll_cons r1
  obtain ⟨rfl, rfl, rfl⟩ := trodAll_nil r2
  obtain rfl : args = #[v0, v1, v2] := by cases args; simp_all
  obtain ⟨rfl, rfl⟩ := trodVars_none hV
  obtain ⟨x0, rfl, rfl, rfl, hs0⟩ := Go.ChangeMaps.open_string Try.underlying9 (hval 0 9 v0 rfl rfl) h0
  obtain ⟨a1, len1, cap1, rfl⟩ := okWide_slice Try.underlying36 (hval 1 36 v1 rfl rfl)
  have k1 := h1
  have lt1 : ∀ x ∈ p1, x.block < W.heap.size := by obtain ⟨m, hm⟩ := k1; exact DataW.trod_lt m _ _ _ hm
  obtain ⟨xs1, hl1, hr1, ho1, hc1, ha1, hb1⟩ := open_rows (α := ByteArray) (j := 1) strC (fun _ : ByteArray => True) 1 16 Try.underlying36 (by kernel_rfl) (by decide) (fun _ => rfl) (by kernel_rfl) string_cells hsz rfl rfl h1
  subst hl1
  obtain ⟨a2, len2, cap2, rfl⟩ := okWide_slice Try.underlying60 (hval 2 60 v2 rfl rfl)
  have k2 := h2
  have lt2 : ∀ x ∈ p2, x.block < W.heap.size := by obtain ⟨m, hm⟩ := k2; exact DataW.trod_lt m _ _ _ hm
  obtain ⟨xs2, hl2, hr2, ho2, hc2, ha2, hb2⟩ := open_rows (α := (Int × Int)) (j := 2) verC verOk 2 16 Try.underlying60 (by kernel_rfl) (by decide) (fun _ => rfl) (by kernel_rfl) verd_cells hsz rfl rfl h2
  subst hl2
  clear hA0 hval0 hsz0 hsz
  refine (SemTables_w x0 a1 cap1 xs1 a2 cap2 xs2 W hs0 ho1 hc1 ha1 hb1 hr1 ho2 hc2 ha2 hb2 hr2).mono fun e W' ⟨he, bel⟩ => ?_
  subst he
  exact ⟨_, rfl, _, _, _, [], _, [], hW', trodAll_mk1 (shut_bool Try.underlying4 _), (trodAll_cons_mk (Go.ChangeMaps.shut_string Try.underlying9 hs0) (trodAll_cons_mk (Below.trod laidOutB_ (by kernel_rfl) (of_decide_eq_true (by kernel_rfl)) k1 bel lt1) (trodAll_cons_mk (Below.trod laidOutB_ (by kernel_rfl) (of_decide_eq_true (by kernel_rfl)) k2 bel lt2) trodAll_mk0))), rfl, bel.frame _, fun h => by cases h⟩
theorem SemTables_holds : Rows.SemTablesSaid :=
  OpenClaim.holds_of_wide 8 Try.f8 rfl rfl rfl rfl rfl rfl rfl ⟨rfl, rfl, rfl, rfl, rfl⟩ rfl rfl rfl rfl rfl (by kernel_rfl) Try.func8 (by kernel_rfl)
    (of_decide_eq_true (by kernel_rfl)) (by unfold Func.isWrapper; first | (rw [if_pos (by decide +kernel)]; kernel_rfl) | (rw [if_neg (by decide +kernel)]; exact ⟨rfl, rfl⟩))
    (fun os started H enc _ => SemTables_lifted os started H enc)
#print axioms SemTables_holds
end Go.Proofs.Ytebkbcpnjknkjaa
