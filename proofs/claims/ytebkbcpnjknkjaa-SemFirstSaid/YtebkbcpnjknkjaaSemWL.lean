import Derived.Test.YtebkbcpnjknkjaaSemW3
set_option linter.unusedVariables false
set_option linter.unusedSimpArgs false
set_option maxRecDepth 100000
namespace Go.Proofs.Ytebkbcpnjknkjaa
open Go.RowKit
/-! sem.Names, ravelinref07.Names: the walks. -/
theorem infoStr : (Try.prog.info? 9).map (fun i => (i.zero, i.size, i.bytes)) = some (some (.string ⟨#[]⟩), 1, 16) := by kernel_rfl
def strsV (l : List ByteArray) : List Value := l.map Value.string
def namesV7 (l : List Nm) : List Value := strsV (l.map Nm.name)
theorem namesV7_snoc (l : List Nm) {n : Nat} {x : Nm} (hx : l[n]? = some x) : namesV7 (l.take n) ++ [.string x.name] = namesV7 (l.take (n + 1)) := by
  have hn := (List.getElem?_eq_some_iff.1 hx).1
  rw [List.take_succ_eq_append_getElem hn]
  rw [List.getElem?_eq_getElem hn] at hx
  injection hx with hx
  simp [namesV7, strsV, hx]
def NamesPost (l : List ByteArray) (w : World) (e : Ending) (w' : World) : Prop := ∃ v, e = .returned v ∧ w'.ownsRow w.heap.size 9 1 v l.length (strsV l) ∧ Below w.heap.size w w'
theorem TabPost.sliceX {T : TypeId} {l : List Nm} {w w' : World} {e : Ending} (h : TabPost T l w e w') : ∃ A c, e = .returned (.slice A l.length c) ∧ w'.ownsRow w.heap.size T 2 (.slice A l.length c) l.length (cellsN l) ∧ Below w.heap.size w w' := h.slice
theorem own_mono7 {W : World} {base base' : Nat} {e : TypeId} {size n : Nat} {v : Value} {xs : List Value} (h : W.ownsRow base e size v n xs) (hb : base' ≤ base) : W.ownsRow base' e size v n xs := by
  refine ⟨h.1, ?_⟩
  rcases h.2 with h | ⟨g, cap, cur, h1, h2, h3⟩
  · exact Or.inl h
  · exact Or.inr ⟨g, cap, cur, h1, by omega, h3⟩
theorem reads_new2N (w : World) (o : Obj) (cs : Array Value) (t : TypeId) (size n : Nat) (hl : cs.toList.length = n * size) : Reads ((w.alloc o).alloc (.cells cs t)) (w.heap.size + 2) size (some ⟨w.heap.size + 1, 0, none⟩) n cs.toList := by
  have h := reads_new (w.alloc o) cs t size n cs.toList rfl hl
  rw [World.size_alloc] at h
  exact h
theorem below_gr7 {B : Nat} {w w1 w2 : World} (h : Below B w w1) {row : Option Nat} (hg : w1.grownBy w2 row) (hB : B ≤ w1.heap.size) (hr : ∀ k, row = some k → B ≤ k) : Below B w w2 := h.grown hg hB hr
set_option maxHeartbeats 800000 in
theorem Names_c07 (a : ByteArray) (w : World) : Calls Try.prog 24 #[.string a] w (NamesPost (namesP a) w) := by
  obtain ⟨i0, HI⟩ : ∃ i0, Hid (Try.prog.info? 9 = some i0 ∧ i0.zero = some (.string ⟨#[]⟩) ∧ i0.size = 1 ∧ i0.bytes = 16) := by
    obtain ⟨i0, hi, hz0, hz1, hz2⟩ := info_parts infoStr
    exact ⟨i0, Lib.hid ⟨hi, hz0, hz1, hz2⟩⟩
  have hlen := tableP_len a.data.toList
  obtain ⟨l, hl⟩ : ∃ l, l = tableP a.data.toList := ⟨_, rfl⟩
  have HT := Lib.hid (fun w => table_c a w)
  have HN : Hid (namesP a = l.map Nm.name) := Lib.hid (by unfold namesP; rw [hl])
  rw [← hl] at HT hlen
  clear hl
  go_enter Try.func24, Try.ntmps24
  go_wp2_with fail
  refine (HT.out _).mono ?_
  intro e w1 hp
  obtain ⟨A, c, rfl, hown, hb⟩ := hp.sliceX
  have HR := Lib.hid (Reads.of_own hown)
  have HB := Lib.hid hb
  clear hp hown hb
  go_wp2_with fail
  go_loopw [9, 3] (fun i v wr => ∃ n : Nat, i = .int .i64 n ∧ n ≤ l.length ∧ Hid (wr.ownsRow w1.heap.size 9 1 v n (namesV7 (l.take n)) ∧ Below w1.heap.size w1 wr)) (fun i _ _ => l.length - (intOf i).toNat)
  case atStart => exact ⟨0, rfl, by omega, Lib.hid ⟨World.ownsRow_nil _ _ _ _, Below.refl _ _⟩⟩
  case round =>
    obtain ⟨n, rfl, hn, HW⟩ := hrel
    rcases Nat.lt_or_ge n l.length with hlt | hge
    · have hlt' : (n : Int) < l.length := by omega
      obtain ⟨x, hx⟩ : ∃ x, l[n]? = some x := ⟨_, List.getElem?_eq_getElem hlt⟩
      obtain ⟨bb, off, rfl, hb, i0', i1'⟩ := (HR.out.up HW.out.2).nm hx
      have HX := Lib.hid hx
      obtain ⟨xn, xr⟩ := x
      dsimp only at i0' i1'
      clear hx
      go_wp2_with (at_builtin; refine wpList_app rfl (.tmp 13) (.tmp 16) 36 rfl w1.heap.size 9 i0 _ 1 16 Try.underlying36 HI.out.1 HI.out.2.1 HI.out.2.2.1 HI.out.2.2.2 rfl (by decide) u3 n (namesV7 (l.take n)) rfl ((HW.out.1.alloc _).alloc _) (some ⟨wr.heap.size + 1, 0, none⟩) (wr.heap.size + 2) 1 1 [.string xn] rfl (fun h => by cases h) (reads_new2N wr _ _ _ 1 1 rfl) (by intro u hu; simp only [List.mem_cons, List.mem_nil_iff, or_false] at hu; subst hu; rfl) (by simp only [maxLen]; omega) (by omega) (by have := HW.out.2.size; simp; omega) ?_; intro v2 w2 hown2 hg2 _; have HO2 := Lib.hid hown2; have HB2 : Hid (Below w1.heap.size w1 w2) := Lib.hid (below_gr7 (below_al (below_al HW.out.2 _) _) hg2 (by have := HW.out.2.size; simp; omega) (fun k hk => own_geT HW.out.1 k hk)); clear hown2 hg2)
      go_roundw
      case rel => exact ⟨n + 1, by go_num, by omega, Lib.hid ⟨by have := HO2.out; rwa [namesV7_snoc l HX.out] at this, HB2.out⟩⟩
      case measure => simp [intOf]; omega
    · obtain rfl : n = l.length := by omega
      have HF := Lib.hid (And.intro HW.out.1 HW.out.2)
      go_wp2
      go_ret
      exact ⟨_, rfl, by have h := HF.out.1; rw [List.take_length] at h; rw [HN.out, List.length_map]; exact own_mono7 h HB.out.size, below_t HB.out HF.out.2⟩
set_option maxHeartbeats 800000 in
theorem rNames_c (a : ByteArray) (w : World) : Calls Try.prog 25 #[.string a] w (NamesPost (namesP a) w) := by
  obtain ⟨i0, HI⟩ : ∃ i0, Hid (Try.prog.info? 9 = some i0 ∧ i0.zero = some (.string ⟨#[]⟩) ∧ i0.size = 1 ∧ i0.bytes = 16) := by
    obtain ⟨i0, hi, hz0, hz1, hz2⟩ := info_parts infoStr
    exact ⟨i0, Lib.hid ⟨hi, hz0, hz1, hz2⟩⟩
  have hlen := tableP_len a.data.toList
  obtain ⟨l, hl⟩ : ∃ l, l = tableP a.data.toList := ⟨_, rfl⟩
  have HT := Lib.hid (fun w => rTable_c a w)
  have HN : Hid (namesP a = l.map Nm.name) := Lib.hid (by unfold namesP; rw [hl])
  rw [← hl] at HT hlen
  clear hl
  go_enter Try.func25, Try.ntmps25
  go_wp2_with fail
  refine (HT.out _).mono ?_
  intro e w1 hp
  obtain ⟨A, c, rfl, hown, hb⟩ := hp.sliceX
  have HR := Lib.hid (Reads.of_own hown)
  have HB := Lib.hid hb
  clear hp hown hb
  go_wp2_with fail
  go_loopw [5, 4] (fun i v wr => ∃ n : Nat, i = .int .i64 n ∧ n ≤ l.length ∧ Hid (wr.ownsRow w1.heap.size 9 1 v n (namesV7 (l.take n)) ∧ Below w1.heap.size w1 wr)) (fun i _ _ => l.length - (intOf i).toNat)
  case atStart => exact ⟨0, rfl, by omega, Lib.hid ⟨World.ownsRow_nil _ _ _ _, Below.refl _ _⟩⟩
  case round =>
    obtain ⟨n, rfl, hn, HW⟩ := hrel
    rcases Nat.lt_or_ge n l.length with hlt | hge
    · have hlt' : (n : Int) < l.length := by omega
      obtain ⟨x, hx⟩ : ∃ x, l[n]? = some x := ⟨_, List.getElem?_eq_getElem hlt⟩
      obtain ⟨bb, off, rfl, hb, i0', i1'⟩ := (HR.out.up HW.out.2).nm hx
      have HX := Lib.hid hx
      obtain ⟨xn, xr⟩ := x
      dsimp only at i0' i1'
      clear hx
      go_wp2_with (at_builtin; refine wpList_app rfl (.tmp 14) (.tmp 20) 36 rfl w1.heap.size 9 i0 _ 1 16 Try.underlying36 HI.out.1 HI.out.2.1 HI.out.2.2.1 HI.out.2.2.2 rfl (by decide) u4 n (namesV7 (l.take n)) rfl (HW.out.1.alloc _) (some ⟨wr.heap.size, 0, none⟩) (wr.heap.size + 1) 1 1 [.string xn] rfl (fun h => by cases h) (reads_new wr _ _ 1 1 _ rfl rfl) (by intro u hu; simp only [List.mem_cons, List.mem_nil_iff, or_false] at hu; subst hu; rfl) (by simp only [maxLen]; omega) (by omega) (by have := HW.out.2.size; simp; omega) ?_; intro v2 w2 hown2 hg2 _; have HO2 := Lib.hid hown2; have HB2 : Hid (Below w1.heap.size w1 w2) := Lib.hid (below_gr7 (below_al HW.out.2 _) hg2 (by have := HW.out.2.size; simp; omega) (fun k hk => own_geT HW.out.1 k hk)); clear hown2 hg2)
      go_roundw
      case rel => exact ⟨n + 1, by go_num, by omega, Lib.hid ⟨by have := HO2.out; rwa [namesV7_snoc l HX.out] at this, HB2.out⟩⟩
      case measure => simp [intOf]; omega
    · obtain rfl : n = l.length := by omega
      have HF := Lib.hid (And.intro HW.out.1 HW.out.2)
      go_wp2
      go_ret
      exact ⟨_, rfl, by have h := HF.out.1; rw [List.take_length] at h; rw [HN.out, List.length_map]; exact own_mono7 h HB.out.size, below_t HB.out HF.out.2⟩
end Go.Proofs.Ytebkbcpnjknkjaa
