import Derived.Test.YtebkbcpnjknkjaaLexW3
import Derived.Test.YtebkbcpnjknkjaaOwnX
import Derived.Test.YtebkbcpnjknkjaaAppBig
import Derived.Maps.AppendAt
set_option linter.unusedVariables false
set_option linter.unusedSimpArgs false
set_option maxRecDepth 100000
namespace Go.Proofs.Ytebkbcpnjknkjaa
open Go.RowKit
/-! ravelinref05.Tokens: the walk. -/
def cellsT (l : List Tk) : List Value := l.flatMap Tk.cells
theorem cellsT_length (q : List Tk) : (cellsT q).length = q.length * 4 := by
  induction q with
  | nil => rfl
  | cons x q ih => simp only [cellsT, List.flatMap_cons, List.length_append] at ih ⊢; rw [ih]; simp [Tk.cells]; omega
theorem cellsT_snoc (l : List Tk) (t : Tk) : cellsT l ++ t.cells = cellsT (l ++ [t]) := by simp [cellsT]
theorem cellsT_one (t : Tk) : ∀ u ∈ t.cells, u.oneCell' = true := by intro u hu; simp [Tk.cells] at hu; rcases hu with rfl | rfl | rfl | rfl <;> rfl
def tokensP (s : ByteArray) : Nat → Nat → List Tk → Option (List Tk × Int × Int)
  | 0, _, _ => none
  | f + 1, a, out => if (nextP5 s a).2.2 ≠ 0 then some (out, (nextP5 s a).2.2, (nextP5 s a).2.1)
      else if (nextP5 s a).1.kind = 1 then some (out ++ [(nextP5 s a).1], 0, 0) else tokensP s f (nextP5 s a).2.1.toNat (out ++ [(nextP5 s a).1])
theorem runP5_gt (s : ByteArray) (a : Nat) (h : a < s.size) (hc : (letterB (bt s a) || digitB (bt s a)) = true) : a < runP5 s s.size a := by
  obtain ⟨f, hf⟩ : ∃ f, s.size = f + 1 := ⟨s.size - 1, by omega⟩
  have e : runP5 s s.size a = runP5 s f (a + 1) := by
    rw [hf, runP5, if_pos ⟨h, hc⟩]
  rw [e]
  have := (runP5_le s f (a + 1) (by omega)).2
  omega
theorem next_more {s : ByteArray} {a : Nat} (ha : a ≤ s.size) (h0 : (nextP5 s a).2.2 = 0) (h1 : (nextP5 s a).1.kind ≠ 1) : ∃ n : Nat, (nextP5 s a).2.1 = n ∧ a < n ∧ n ≤ s.size := by
  obtain ⟨k1, k2⟩ := skipP_le s s.size a ha
  unfold nextP5 at h0 h1 ⊢
  dsimp only at h0 h1 ⊢
  by_cases e : skipP s s.size a = s.size
  · rw [if_pos e] at h1; exact absurd rfl h1
  · rw [if_neg e] at h0 ⊢
    have hlt : skipP s s.size a < s.size := by omega
    cases hl : letterB (bt s (skipP s s.size a)) with
    | true =>
      rw [hl] at h0
      rw [if_pos rfl] at h0 ⊢
      have hg := runP5_gt s _ hlt (by rw [hl]; rfl)
      have hle := (runP5_le s s.size _ k1).1
      by_cases h32 : 32 < runP5 s s.size (skipP s s.size a) - skipP s s.size a
      · rw [if_pos h32] at h0; exact absurd (show (52 : Int) = 0 from h0) (by decide)
      · rw [if_neg h32]; exact ⟨_, rfl, by omega, hle⟩
    | false =>
      rw [hl] at h0
      rw [if_neg (by decide)] at h0 ⊢
      cases hd : digitB (bt s (skipP s s.size a)) with
      | true =>
        rw [hd] at h0
        rw [if_pos rfl] at h0 ⊢
        have hg := runP5_gt s _ hlt (by rw [hd]; simp)
        have hle := (runP5_le s s.size _ k1).1
        cases hn : (numberP (s.extract (skipP s s.size a) (runP5 s s.size (skipP s s.size a)))).2 with
        | true => rw [if_pos rfl]; exact ⟨_, rfl, by omega, hle⟩
        | false => rw [hn, if_neg (by decide)] at h0; exact absurd (show (53 : Int) = 0 from h0) (by decide)
      | false =>
        rw [hd] at h0
        rw [if_neg (by decide)] at h0 ⊢
        have hz := signP_size s _ hlt
        by_cases hn : signP s (skipP s s.size a) = 0
        · rw [if_pos hn] at h0; exact absurd (show (51 : Int) = 0 from h0) (by decide)
        · rw [if_neg hn]; exact ⟨_, rfl, by omega, hz.1⟩
theorem infoTk : (Try.prog.info? 83).map (fun i => (i.zero, i.size, i.bytes)) = some (some (.agg #[.int .i64 0, .string ⟨#[]⟩, .int .u64 0, .int .i64 0]), 4, 40) := by kernel_rfl
theorem below_grT {B : Nat} {w w1 w2 : World} (h : Below B w w1) {row : Option Nat} (hg : w1.grownBy w2 row) (hB : B ≤ w1.heap.size) (hr : ∀ k, row = some k → B ≤ k) : Below B w w2 := h.grown hg hB hr
theorem reads_new2T (w : World) (o : Obj) (cs : Array Value) (t : TypeId) (size n : Nat) (hl : cs.toList.length = n * size) : Reads ((w.alloc o).alloc (.cells cs t)) (w.heap.size + 2) size (some ⟨w.heap.size + 1, 0, none⟩) n cs.toList := by
  have h := reads_new (w.alloc o) cs t size n cs.toList rfl hl
  rw [World.size_alloc] at h
  exact h
theorem box_kept {w1 w2 : World} {o o2 : Obj} {v : Value} {base e size n : Nat} {xs : List Value} (hg : ((w1.alloc o).alloc o2).grownBy w2 v.ownBlock) (h : w1.ownsRow base e size v n xs) : w2.heap[w1.heap.size]? = some o :=
  ((hg.block w1.heap.size (by simp; omega) (fun e => by have := own_ltT h _ e.symm; omega)).trans (Below.heap_alloc (w1.alloc o) o2 _ (by simp))).trans (by show (w1.heap.push o)[w1.heap.size]? = _; exact Array.getElem?_push_size)
def ToksPost (l : List Tk) (er pl : Int) (w : World) (e : Ending) (w' : World) : Prop := ∃ v, e = .returned (.tuple #[v, .int .i64 er, .int .i64 pl]) ∧ w'.ownsRow w.heap.size 83 4 v l.length (cellsT l) ∧ Below w.heap.size w w'
set_option maxHeartbeats 1600000 in
theorem Tokens_c (s : ByteArray) (hs : s.size ≤ 65536) (hno : ∀ i, bt s i ≠ 35) {f : Nat} {l : List Tk} {er pl : Int} (hP : tokensP s f 0 [] = some (l, er, pl)) (w : World) : Calls Try.prog 66 #[.string s] w (ToksPost l er pl w) := by
  obtain ⟨i0, HI⟩ : ∃ i0, Hid (Try.prog.info? 83 = some i0 ∧ i0.zero = some (.agg #[.int .i64 0, .string ⟨#[]⟩, .int .u64 0, .int .i64 0]) ∧ i0.size = 4 ∧ i0.bytes = 40) := by
    obtain ⟨i0, hi, hz0, hz1, hz2⟩ := info_parts infoTk
    exact ⟨i0, Lib.hid ⟨hi, hz0, hz1, hz2⟩⟩
  have HNO := Lib.hid hno
  have HS : Hid (∃ f, tokensP s f 0 [] = some (l, er, pl)) := Lib.hid ⟨f, hP⟩
  clear hno hP
  go_enter Try.func66, Try.ntmps66
  go_wp2_with fail
  go_loopw [6, 5] (fun i v wr => ∃ (a : Nat) (out : List Tk), i = .int .i64 a ∧ a ≤ s.size ∧ out.length ≤ a ∧ Hid (∃ f, tokensP s f a out = some (l, er, pl)) ∧ Hid (wr.ownsRow w.heap.size 83 4 v out.length (cellsT out) ∧ Below w.heap.size w wr)) (fun i _ _ => s.size - (intOf i).toNat)
  case atStart => exact ⟨0, [], rfl, by omega, by simp, HS, Lib.hid ⟨World.ownsRow_nil _ _ _ _, Below.refl _ _⟩⟩
  case round =>
    obtain ⟨a, out, rfl, ha, hol, HF, HW⟩ := hrel
    clear HS
    obtain ⟨f, hf⟩ := HF.out
    obtain ⟨f, rfl⟩ : ∃ f', f = f' + 1 := by cases f with | zero => cases hf | succ f => exact ⟨f, rfl⟩
    rw [tokensP] at hf
    have HMORE := Lib.hid (next_more ha)
    obtain ⟨kd, tx, nm, pl5, nx, ee, hN⟩ : ∃ kd tx nm pl5 nx ee, nextP5 s a = (⟨kd, tx, nm, pl5⟩, nx, ee) := ⟨_, _, _, _, _, _, rfl⟩
    rw [hN] at hf HMORE
    dsimp only at hf HMORE
    have HNX := Lib.hid hN
    have hs' : (s.size : Int) ≤ 65536 := by omega
    clear hN HF
    by_cases h0 : ee = 0
    · subst h0
      rw [if_neg (by decide)] at hf
      by_cases h1 : kd = 1
      · subst h1
        rw [if_pos rfl] at hf
        injection hf with hf
        injection hf with hf1 hf2
        injection hf2 with hf2 hf3
        have HL := Lib.hid (show l = out ++ [⟨1, tx, nm, pl5⟩] ∧ er = 0 ∧ pl = 0 from ⟨hf1.symm, hf2.symm, hf3.symm⟩)
        clear hf1 hf2 hf3 HMORE
        go_wp2_with fail
        refine (Next5_c s a ha hs HNO.out wr).mono ?_
        rintro e w1 ⟨rfl, hb1⟩
        rw [HNX.out]
        unfold Tk.val
        dsimp only
        have HB1 := Lib.hid hb1
        clear hb1
        go_wp2_with (at_builtin; refine wpList_app rfl (.tmp 22) (.tmp 24) 86 rfl w.heap.size 83 i0 _ 4 40 Try.underlying86 HI.out.1 HI.out.2.1 HI.out.2.2.1 HI.out.2.2.2 rfl (by decide) u5 out.length (cellsT out) rfl (((own_upT HW.out.1 HB1.out).alloc _).alloc _) (some ⟨w1.heap.size + 1, 0, none⟩) (w1.heap.size + 2) 1 1 (Tk.cells ⟨1, tx, nm, pl5⟩) rfl (fun h => by cases h) (reads_new2T w1 _ _ _ 4 1 rfl) (cellsT_one _) (by simp only [maxLen]; omega) (by omega) (by have := HW.out.2.size; have := HB1.out.size; simp; omega) ?_; intro v2 w2 hown2 hg2 _; have hbx := box_kept hg2 (own_upT HW.out.1 HB1.out); have k0 : w2.cell? ⟨w1.heap.size, 0, none⟩ = some (.int .i64 1) := (by simp [World.cell?, hbx]); have HO2 := Lib.hid hown2; have HB2 : Hid (Below w.heap.size w w2) := Lib.hid (below_grT (below_al (below_al (below_t HW.out.2 HB1.out) _) _) hg2 (by have := HW.out.2.size; have := HB1.out.size; simp; omega) (fun k hk => own_geT HW.out.1 k hk)); clear hown2 hg2 hbx)
        refine bodyPost_ret (v := .tuple #[v2, .int .i64 0, .int .i64 0]) (by simp [results, Try.results66, go_sem]) rfl ?_
        obtain ⟨e1, e2, e3⟩ := HL.out
        exact ⟨v2, by rw [e2, e3], by rw [e1, List.length_append, ← cellsT_snoc]; exact HO2.out, HB2.out⟩
      · rw [if_neg h1] at hf
        obtain ⟨N, hN, n1, n2⟩ := HMORE.out rfl h1
        subst hN
        rw [Int.toNat_natCast] at hf
        have HL := Lib.hid (show ∃ f, tokensP s f N (out ++ [⟨kd, tx, nm, pl5⟩]) = some (l, er, pl) from ⟨f, hf⟩)
        have hk1 : (kd == 1) = false := by simpa using h1
        clear h1 hf HMORE
        go_wp2_with fail
        refine (Next5_c s a ha hs HNO.out wr).mono ?_
        rintro e w1 ⟨rfl, hb1⟩
        rw [HNX.out]
        unfold Tk.val
        dsimp only
        have HB1 := Lib.hid hb1
        clear hb1
        go_wp2_with (at_builtin; refine wpList_app rfl (.tmp 22) (.tmp 24) 86 rfl w.heap.size 83 i0 _ 4 40 Try.underlying86 HI.out.1 HI.out.2.1 HI.out.2.2.1 HI.out.2.2.2 rfl (by decide) u5 out.length (cellsT out) rfl (((own_upT HW.out.1 HB1.out).alloc _).alloc _) (some ⟨w1.heap.size + 1, 0, none⟩) (w1.heap.size + 2) 1 1 (Tk.cells ⟨kd, tx, nm, pl5⟩) rfl (fun h => by cases h) (reads_new2T w1 _ _ _ 4 1 rfl) (cellsT_one _) (by simp only [maxLen]; omega) (by omega) (by have := HW.out.2.size; have := HB1.out.size; simp; omega) ?_; intro v2 w2 hown2 hg2 _; have hbx := box_kept hg2 (own_upT HW.out.1 HB1.out); have k0 : w2.cell? ⟨w1.heap.size, 0, none⟩ = some (.int .i64 kd) := (by simp [World.cell?, hbx]); have HO2 := Lib.hid hown2; have HB2 : Hid (Below w.heap.size w w2) := Lib.hid (below_grT (below_al (below_al (below_t HW.out.2 HB1.out) _) _) hg2 (by have := HW.out.2.size; have := HB1.out.size; simp; omega) (fun k hk => own_geT HW.out.1 k hk)); clear hown2 hg2 hbx)
        go_roundw
        case rel => exact ⟨N, out ++ [⟨kd, tx, nm, pl5⟩], rfl, n2, by rw [List.length_append]; simp; omega, HL, Lib.hid ⟨by rw [List.length_append, ← cellsT_snoc]; exact HO2.out, HB2.out⟩⟩
        case measure => simp [intOf]; omega
    · rw [if_pos h0] at hf
      injection hf with hf
      injection hf with hf1 hf2
      injection hf2 with hf2 hf3
      have HL := Lib.hid (show l = out ∧ er = ee ∧ pl = nx from ⟨hf1.symm, hf2.symm, hf3.symm⟩)
      have hne : (ee != 0) = true := by simpa using h0
      clear hf1 hf2 hf3 HMORE h0
      go_wp2_with fail
      refine (Next5_c s a ha hs HNO.out wr).mono ?_
      rintro e w1 ⟨rfl, hb1⟩
      rw [HNX.out]
      unfold Tk.val
      dsimp only
      have HB1 := Lib.hid hb1
      clear hb1
      go_wp2
      refine bodyPost_ret (v := .tuple #[u5, .int .i64 ee, .int .i64 nx]) (by simp [results, Try.results66, go_sem]) rfl ?_
      obtain ⟨e1, e2, e3⟩ := HL.out
      exact ⟨u5, by rw [e2, e3], by rw [e1]; exact own_upT HW.out.1 (below_t HB1.out (below1 w1 _)), below_al (below_t HW.out.2 HB1.out) _⟩
end Go.Proofs.Ytebkbcpnjknkjaa
