import Derived.Test.YtebkbcpnjknkjaaRdW1
import Derived.Deep.Cut
import Derived.Laws.Strings
set_option linter.unusedVariables false
set_option linter.unusedSimpArgs false
set_option maxRecDepth 100000
namespace Go.Proofs.Ytebkbcpnjknkjaa
open Go.RowKit
/-! ravelinref06's reader: next, is, want, kind. -/
theorem rnext_c {l : List Tk} {ee pl : Int} {A : Option Addr} {c R : Nat} {s s' : RSt} {t : Tk} (w : World) (h : RdAt l ee pl A c R s w) (hn : rnextP l ee pl s = some (t, s')) : Calls Try.prog 67 #[.pointer (some ⟨R, 0, none⟩)] w (RPost l ee pl A c R t.val s' w) := by
  have hk := h.keep (below1 w (.cells #[.int .i64 0, .string ⟨#[]⟩, .int .u64 0, .int .i64 0] 83))
  have HA := Lib.hid hk
  have HR := Lib.hid h.lt
  have hR := h.lt
  clear h hk
  obtain ⟨tk, tt, tn, ta, a1, d1, e1, b1, hp⟩ : ∃ tk tt tn ta a1 d1 e1 b1, peekP l ee pl s = (⟨tk, tt, tn, ta⟩, ⟨a1, d1, e1, b1⟩) := ⟨_, _, _, _, _, _, _, _, rfl⟩
  unfold rnextP at hn
  rw [hp] at hn
  dsimp only at hn
  have hpk := fun w h => peek_c (l := l) (ee := ee) (pl := pl) (A := A) (c := c) (R := R) (s := s) w h
  rw [hp] at hpk
  dsimp only at hpk
  have HP := Lib.hid hpk
  clear hp hpk
  by_cases h0 : e1 = 0
  · subst h0
    rw [if_pos rfl] at hn
    unfold bumpP at hn
    dsimp only at hn
    by_cases ha : a1 < 1000000
    · rw [if_pos ha] at hn
      simp only [Option.map_some, Option.some.injEq, Prod.mk.injEq] at hn
      have HN := Lib.hid hn
      have ha' : (a1 : Int) < 1000000 := by omega
      clear hn ha
      go_enter Try.func67, Try.ntmps67
      go_wp2_with fail
      refine (HP.out _ HA.out).mono ?_
      rintro e w1 ⟨rfl, hr1, hk1⟩
      unfold Tk.val
      dsimp only
      have HR1 := Lib.hid hr1
      have HK1 := Lib.hid (keepR_t (keepR_b (below1 w _)) hk1)
      have HBX := Lib.hid ((hk1.block w.heap.size (by show _ < (w.heap.push _).size; simp) (fun e => by injection e with e; omega)).trans (heap_nwT w _))
      obtain ⟨-, -, -, c3, -, c5, -⟩ := (hr1.keep (below1 w1 (.cells #[.int .i64 tk, .string tt, .int .u64 tn, .int .i64 ta] 83))).cl
      have f3 := (hr1.keep (below1 w1 (.cells #[.int .i64 tk, .string tt, .int .u64 tn, .int .i64 ta] 83))).fr 3
      dsimp only at c3 c5
      have hR1 := hr1.lt
      have hs1 : w.heap.size < w1.heap.size := by have := hk1.size; have e : (w.alloc tkObj).heap.size = w.heap.size + 1 := World.size_alloc _ _; unfold tkObj at e; omega
      clear hr1 hk1
      go_upto_region 4 with (fail)
      have HX : Hid (RdAt l ee pl A c R ⟨a1 + 1, d1, 0, b1⟩ ((w1.setCell ⟨R, 3, none⟩ (.int .i64 (a1 + 1))).alloc (.cells #[.int .i64 tk, .string tt, .int .u64 tn, .int .i64 ta] 83)) ∧ KeepR R w ((w1.setCell ⟨R, 3, none⟩ (.int .i64 (a1 + 1))).alloc (.cells #[.int .i64 tk, .string tt, .int .u64 tn, .int .i64 ta] 83)) ∧ ((w1.setCell ⟨R, 3, none⟩ (.int .i64 (a1 + 1))).alloc (.cells #[.int .i64 tk, .string tt, .int .u64 tn, .int .i64 ta] 83)).heap[w.heap.size]? = some (.cells #[.int .i64 0, .string ⟨#[]⟩, .int .u64 0, .int .i64 0] 83 (0, 0)) ∧ ((w1.setCell ⟨R, 3, none⟩ (.int .i64 (a1 + 1))).alloc (.cells #[.int .i64 tk, .string tt, .int .u64 tn, .int .i64 ta] 83)).heap[w1.heap.size]? = some (.cells #[.int .i64 tk, .string tt, .int .u64 tn, .int .i64 ta] 83 (0, 0))) := Lib.hid (by
        have hz : (w1.setCell ⟨R, 3, none⟩ (.int .i64 (a1 + 1))).heap.size = w1.heap.size := by simp
        refine ⟨(HR1.out.set (s' := ⟨a1 + 1, d1, 0, b1⟩) (j := 3) (by simp [rdCells])).keep (below1 _ _), keepR_t (keepR_t HK1.out (keepR_set R 3 w1 _)) (keepR_b (below1 _ _)), ?_, ?_⟩
        · exact (Below.heap_alloc _ _ w.heap.size (by rw [hz]; exact hs1)).trans ((Below.heap_setCell w1 ⟨R, 3, none⟩ _ w.heap.size (by show w.heap.size ≠ R; omega)).trans HBX.out)
        · rw [← hz]; exact heap_nwT _ _)
      generalize (w1.setCell ⟨R, 3, none⟩ (.int .i64 (a1 + 1))).alloc (.cells #[.int .i64 tk, .string tt, .int .u64 tn, .int .i64 ta] 83) = wc at HX ⊢
      obtain ⟨k0, k1, k2, k3, g0, g1, g2, g3⟩ := box4 HX.out.2.2.1
      obtain ⟨m0, m1, m2, m3, -⟩ := box4 HX.out.2.2.2
      clear c3 c5 f3
      go_wp2
      obtain ⟨r0, r1, r2, r3, -⟩ := box4 (set4 HX.out.2.2.1 (.int .i64 tk) (.string tt) (.int .u64 tn) (.int .i64 ta))
      refine bodyPost_ret (v := Tk.val ⟨tk, tt, tn, ta⟩) (by simp [results, Try.results67, go_sem, Tk.val, r0, r1, r2, r3]) rfl ?_
      obtain ⟨rfl, rfl⟩ := HN.out
      refine ⟨rfl, ?_, ?_⟩
      · exact (((HX.out.1.setO HR.out _ _).setO HR.out _ _).setO HR.out _ _).setO HR.out _ _
      · exact keepR_setN (keepR_setN (keepR_setN (keepR_setN HX.out.2.1 (Nat.le_refl _) _ _) (Nat.le_refl _) _ _) (Nat.le_refl _) _ _) (Nat.le_refl _) _ _
    · rw [if_neg ha] at hn; cases hn
  · rw [if_neg h0] at hn
    simp only [Option.some.injEq, Prod.mk.injEq] at hn
    have HN := Lib.hid hn
    have h1 : (e1 == 0) = false := by simpa using h0
    clear hn h0
    go_enter Try.func67, Try.ntmps67
    go_wp2_with fail
    refine (HP.out _ HA.out).mono ?_
    rintro e w1 ⟨rfl, hr1, hk1⟩
    unfold Tk.val
    dsimp only
    have HR1 := Lib.hid hr1
    have HK1 := Lib.hid (keepR_t (keepR_b (below1 w _)) hk1)
    have HBX := Lib.hid ((hk1.block w.heap.size (by show _ < (w.heap.push _).size; simp) (fun e => by injection e with e; omega)).trans (heap_nwT w _))
    obtain ⟨-, -, -, -, -, c5, -⟩ := (hr1.keep (below1 w1 (.cells #[.int .i64 tk, .string tt, .int .u64 tn, .int .i64 ta] 83))).cl
    dsimp only at c5
    have hR1 := hr1.lt
    have hs1 : w.heap.size < w1.heap.size := by have := hk1.size; have e : (w.alloc tkObj).heap.size = w.heap.size + 1 := World.size_alloc _ _; unfold tkObj at e; omega
    clear hr1 hk1
    go_upto_region 4 with (fail)
    have HX : Hid (RdAt l ee pl A c R ⟨a1, d1, e1, b1⟩ (w1.alloc (.cells #[.int .i64 tk, .string tt, .int .u64 tn, .int .i64 ta] 83)) ∧ KeepR R w (w1.alloc (.cells #[.int .i64 tk, .string tt, .int .u64 tn, .int .i64 ta] 83)) ∧ (w1.alloc (.cells #[.int .i64 tk, .string tt, .int .u64 tn, .int .i64 ta] 83)).heap[w.heap.size]? = some (.cells #[.int .i64 0, .string ⟨#[]⟩, .int .u64 0, .int .i64 0] 83 (0, 0)) ∧ (w1.alloc (.cells #[.int .i64 tk, .string tt, .int .u64 tn, .int .i64 ta] 83)).heap[w1.heap.size]? = some (.cells #[.int .i64 tk, .string tt, .int .u64 tn, .int .i64 ta] 83 (0, 0))) := Lib.hid (by
      refine ⟨HR1.out.keep (below1 _ _), keepR_t HK1.out (keepR_b (below1 _ _)), ?_, ?_⟩
      · exact (Below.heap_alloc _ _ w.heap.size hs1).trans HBX.out
      · exact heap_nwT _ _)
    generalize w1.alloc (.cells #[.int .i64 tk, .string tt, .int .u64 tn, .int .i64 ta] 83) = wc at HX ⊢
    obtain ⟨k0, k1, k2, k3, g0, g1, g2, g3⟩ := box4 HX.out.2.2.1
    obtain ⟨m0, m1, m2, m3, -⟩ := box4 HX.out.2.2.2
    clear c5
    go_wp2
    obtain ⟨r0, r1, r2, r3, -⟩ := box4 (set4 HX.out.2.2.1 (.int .i64 tk) (.string tt) (.int .u64 tn) (.int .i64 ta))
    refine bodyPost_ret (v := Tk.val ⟨tk, tt, tn, ta⟩) (by simp [results, Try.results67, go_sem, Tk.val, r0, r1, r2, r3]) rfl ?_
    obtain ⟨rfl, rfl⟩ := HN.out
    refine ⟨rfl, ?_, ?_⟩
    · exact (((HX.out.1.setO HR.out _ _).setO HR.out _ _).setO HR.out _ _).setO HR.out _ _
    · exact keepR_setN (keepR_setN (keepR_setN (keepR_setN HX.out.2.1 (Nat.le_refl _) _ _) (Nat.le_refl _) _ _) (Nat.le_refl _) _ _) (Nat.le_refl _) _ _
theorem text_ne {a b : ByteArray} (h : a ≠ b) : (a.toList == b.toList) = false := by
  rw [beq_eq_false_iff_ne]
  intro e
  rw [ByteArray.toList_eq, ByteArray.toList_eq] at e
  exact h (by cases a; cases b; congr; exact Array.toList_inj.1 e)
theorem ris_c {l : List Tk} {ee pl : Int} {A : Option Addr} {c R : Nat} {s s' : RSt} {ok : Bool} (kd : Int) (tx : ByteArray) (w : World) (h : RdAt l ee pl A c R s w) (hn : isP l ee pl kd tx s = some (ok, s')) : Calls Try.prog 40 #[.pointer (some ⟨R, 0, none⟩), .int .i64 kd, .string tx] w (RPost l ee pl A c R (.bool ok) s' w) := by
  have HA := Lib.hid h
  have hR := h.lt
  clear h
  obtain ⟨tk, tt, tn, ta, a1, d1, e1, b1, hp⟩ : ∃ tk tt tn ta a1 d1 e1 b1, peekP l ee pl s = (⟨tk, tt, tn, ta⟩, ⟨a1, d1, e1, b1⟩) := ⟨_, _, _, _, _, _, _, _, rfl⟩
  unfold isP at hn
  rw [hp] at hn
  dsimp only at hn
  have hpk := fun w h => peek_c (l := l) (ee := ee) (pl := pl) (A := A) (c := c) (R := R) (s := s) w h
  rw [hp] at hpk
  dsimp only at hpk
  have HP := Lib.hid hpk
  clear hp hpk
  go_enter Try.func40, Try.ntmps40
  go_wp2_with fail
  refine (HP.out _ HA.out).mono ?_
  rintro e w1 ⟨rfl, hr1, hk1⟩
  unfold Tk.val
  dsimp only
  have HR1 := Lib.hid hr1
  have HK1 := Lib.hid hk1
  have hr2 := hr1.keep (below1 w1 (.cells #[.int .i64 tk, .string tt, .int .u64 tn, .int .i64 ta] 83))
  obtain ⟨-, -, -, c3, -, c5, -⟩ := hr2.cl
  have f3 := hr2.fr 3
  dsimp only at c5 c3
  have hR1 := hr1.lt
  clear hr1 hk1 hr2
  by_cases h0 : e1 = 0
  · subst h0
    by_cases hk : tk = kd
    · subst hk
      by_cases ht : tt = tx
      · subst ht
        rw [if_neg (by simp)] at hn
        unfold bumpP at hn
        dsimp only at hn
        by_cases ha : a1 < 1000000
        · rw [if_pos ha] at hn
          simp only [Option.map_some, Option.some.injEq, Prod.mk.injEq] at hn
          have HN := Lib.hid hn
          have ha' : (a1 : Int) < 1000000 := by omega
          clear hn ha
          go_wp2
          refine bodyPost_ret (v := .bool true) (by simp [results, Try.results40, go_sem]) rfl ?_
          obtain ⟨rfl, rfl⟩ := HN.out
          exact ⟨rfl, (HR1.out.set (s' := ⟨a1 + 1, d1, 0, b1⟩) (j := 3) (by simp [rdCells])).keep (below1 _ _), keepR_t (keepR_t HK1.out (keepR_set R 3 w1 _)) (keepR_b (below1 _ _))⟩
        · rw [if_neg ha] at hn; cases hn
      · rw [if_pos (by simp [ht])] at hn
        simp only [Option.some.injEq, Prod.mk.injEq] at hn
        have HN := Lib.hid hn
        have ht1 := text_ne ht
        clear hn ht
        go_wp2
        refine bodyPost_ret (v := .bool false) (by simp [results, Try.results40, go_sem]) rfl ?_
        obtain ⟨rfl, rfl⟩ := HN.out
        exact ⟨rfl, HR1.out.keep (below1 _ _), keepR_t HK1.out (keepR_b (below1 _ _))⟩
    · rw [if_pos (by simp [hk])] at hn
      simp only [Option.some.injEq, Prod.mk.injEq] at hn
      have HN := Lib.hid hn
      have hk1 : (tk != kd) = true := by simpa using hk
      clear hn hk
      go_wp2
      refine bodyPost_ret (v := .bool false) (by simp [results, Try.results40, go_sem]) rfl ?_
      obtain ⟨rfl, rfl⟩ := HN.out
      exact ⟨rfl, HR1.out.keep (below1 _ _), keepR_t HK1.out (keepR_b (below1 _ _))⟩
  · rw [if_pos (by simp [h0])] at hn
    simp only [Option.some.injEq, Prod.mk.injEq] at hn
    have HN := Lib.hid hn
    have h1 : (e1 != 0) = true := by simpa using h0
    clear hn h0
    go_wp2
    refine bodyPost_ret (v := .bool false) (by simp [results, Try.results40, go_sem]) rfl ?_
    obtain ⟨rfl, rfl⟩ := HN.out
    exact ⟨rfl, HR1.out.keep (below1 _ _), keepR_t HK1.out (keepR_b (below1 _ _))⟩
def wantP (l : List Tk) (ee pl : Int) (k : Int) (t : ByteArray) (s : RSt) : Option RSt :=
  (isP l ee pl k t s).map fun x => if x.1 = true then x.2 else failsP 61 (peekP l ee pl x.2).1.at_ (peekP l ee pl x.2).2
theorem want_c {l : List Tk} {ee pl : Int} {A : Option Addr} {c R : Nat} {s s' : RSt} (kd : Int) (tx : ByteArray) (w : World) (h : RdAt l ee pl A c R s w) (hn : wantP l ee pl kd tx s = some s') : Calls Try.prog 36 #[.pointer (some ⟨R, 0, none⟩), .int .i64 kd, .string tx] w (RPost l ee pl A c R (.tuple #[]) s' w) := by
  have HA := Lib.hid h
  clear h
  unfold wantP at hn
  cases hi : isP l ee pl kd tx s with
  | none => rw [hi] at hn; cases hn
  | some x =>
    obtain ⟨ok, s1⟩ := x
    rw [hi] at hn
    simp only [Option.map_some, Option.some.injEq] at hn
    have HI := Lib.hid (fun w h => ris_c (A := A) (c := c) (R := R) kd tx w h hi)
    clear hi
    go_enter Try.func36, Try.ntmps36
    go_wp2_with fail
    refine (HI.out _ HA.out).mono ?_
    rintro e w1 ⟨rfl, hr1, hk1⟩
    have HR1 := Lib.hid hr1
    have HK1 := Lib.hid hk1
    clear hr1 hk1
    cases ok with
    | true =>
      rw [if_pos rfl] at hn
      subst hn
      go_wp2
      go_end0
      exact ⟨rfl, HR1.out, HK1.out⟩
    | false =>
      rw [if_neg (by decide)] at hn
      obtain ⟨⟨tk, tt, tn, ta⟩, s2, hp⟩ : ∃ t s2, peekP l ee pl s1 = (t, s2) := ⟨_, _, rfl⟩
      rw [hp] at hn
      dsimp only at hn
      have hpk := fun w h => peek_c (l := l) (ee := ee) (pl := pl) (A := A) (c := c) (R := R) (s := s1) w h
      rw [hp] at hpk
      dsimp only at hpk
      unfold Tk.val at hpk
      dsimp only at hpk
      have HP := Lib.hid hpk
      subst hn
      clear hp hpk
      have hx : ∀ w, (Instr.field 83 (.agg #[.int .i64 tk, .string tt, .int .u64 tn, .int .i64 ta]) 3).run Try.prog w = .ok (.int .i64 ta) w := fun _ => by kernel_rfl
      go_wp2_with fail
      refine (HP.out _ HR1.out).mono ?_
      rintro e w2 ⟨rfl, hr2, hk2⟩
      have HR2 := Lib.hid hr2
      have HK2 := Lib.hid hk2
      clear hr2 hk2
      go_wp2_with fail
      refine (fails_c 61 ta _ HR2.out).mono ?_
      rintro e w3 ⟨rfl, hr3, hk3⟩
      have HR3 := Lib.hid hr3
      have HK3 := Lib.hid hk3
      clear hr3 hk3
      go_wp2
      go_end0
      exact ⟨rfl, HR3.out, keepR_t HK1.out (keepR_t HK2.out HK3.out)⟩
def kindP (l : List Tk) (ee pl : Int) (k : Int) (s : RSt) : Option (Tk × RSt) :=
  if (peekP l ee pl s).1.kind ≠ k then some (Tk.zero, failsP 61 (peekP l ee pl s).1.at_ (peekP l ee pl s).2) else rnextP l ee pl (peekP l ee pl s).2
theorem kind_c {l : List Tk} {ee pl : Int} {A : Option Addr} {c R : Nat} {s s' : RSt} {t : Tk} (kd : Int) (w : World) (h : RdAt l ee pl A c R s w) (hn : kindP l ee pl kd s = some (t, s')) : Calls Try.prog 37 #[.pointer (some ⟨R, 0, none⟩), .int .i64 kd] w (RPost l ee pl A c R t.val s' w) := by
  have hk := h.keep (below1 w (.cells #[.int .i64 0, .string ⟨#[]⟩, .int .u64 0, .int .i64 0] 83))
  have HA := Lib.hid hk
  have HR := Lib.hid h.lt
  have hR := h.lt
  clear h hk
  obtain ⟨tk, tt, tn, ta, s1, hp⟩ : ∃ tk tt tn ta s1, peekP l ee pl s = (⟨tk, tt, tn, ta⟩, s1) := ⟨_, _, _, _, _, rfl⟩
  unfold kindP at hn
  rw [hp] at hn
  dsimp only at hn
  have hpk := fun w h => peek_c (l := l) (ee := ee) (pl := pl) (A := A) (c := c) (R := R) (s := s) w h
  rw [hp] at hpk
  dsimp only at hpk
  unfold Tk.val at hpk
  dsimp only at hpk
  have HP := Lib.hid hpk
  clear hp hpk
  go_enter Try.func37, Try.ntmps37
  go_wp2_with fail
  refine (HP.out _ HA.out).mono ?_
  rintro e w1 ⟨rfl, hr1, hk1⟩
  have HR1 := Lib.hid (hr1.keep (below1 w1 (.cells #[.int .i64 tk, .string tt, .int .u64 tn, .int .i64 ta] 83)))
  have hs1 : w.heap.size < w1.heap.size := by have := hk1.size; have e : (w.alloc tkObj).heap.size = w.heap.size + 1 := World.size_alloc _ _; unfold tkObj at e; omega
  have HBX := Lib.hid ((Below.heap_alloc w1 (.cells #[.int .i64 tk, .string tt, .int .u64 tn, .int .i64 ta] 83) w.heap.size hs1).trans ((hk1.block w.heap.size (by show _ < (w.heap.push _).size; simp) (fun e => by injection e with e; omega)).trans (heap_nwT w _)))
  have HK1 := Lib.hid (keepR_t (keepR_t (keepR_b (below1 w _)) hk1) (keepR_b (below1 w1 (.cells #[.int .i64 tk, .string tt, .int .u64 tn, .int .i64 ta] 83))))
  have HS1 := Lib.hid hs1
  clear hr1 hk1
  by_cases hk : tk = kd
  · subst hk
    rw [if_neg (by simp)] at hn
    obtain ⟨xk, xt, xn, xa⟩ := t
    have HN := Lib.hid (fun w h => rnext_c (A := A) (c := c) (R := R) (s := s1) w h hn)
    unfold Tk.val at HN ⊢
    dsimp only at HN ⊢
    clear hn
    go_wp2_with fail
    refine (HN.out _ HR1.out).mono ?_
    rintro e w2 ⟨rfl, hr2, hk2⟩
    have HR2 := Lib.hid hr2
    have HB2 := Lib.hid ((hk2.block w.heap.size (by have := HS1.out; show _ < (w1.heap.push _).size; simp; omega) (fun e => by injection e with e; omega)).trans HBX.out)
    have HK2 := Lib.hid (keepR_t HK1.out hk2)
    obtain ⟨k0, k1, k2, k3, g0, g1, g2, g3⟩ := box4 HB2.out
    clear hr2 hk2
    go_wp2
    obtain ⟨r0, r1, r2, r3, -⟩ := box4 (set4 HB2.out (.int .i64 xk) (.string xt) (.int .u64 xn) (.int .i64 xa))
    refine bodyPost_ret (v := Tk.val ⟨xk, xt, xn, xa⟩) (by simp [results, Try.results37, go_sem, Tk.val, r0, r1, r2, r3]) rfl ?_
    refine ⟨rfl, ?_, ?_⟩
    · exact (((HR2.out.setO HR.out _ _).setO HR.out _ _).setO HR.out _ _).setO HR.out _ _
    · exact keepR_setN (keepR_setN (keepR_setN (keepR_setN HK2.out (Nat.le_refl _) _ _) (Nat.le_refl _) _ _) (Nat.le_refl _) _ _) (Nat.le_refl _) _ _
  · rw [if_pos hk] at hn
    simp only [Option.some.injEq, Prod.mk.injEq] at hn
    have HN := Lib.hid hn
    have hk' : (tk != kd) = true := by simpa using hk
    clear hn hk
    go_wp2_with fail
    refine (fails_c 61 ta _ HR1.out).mono ?_
    rintro e w2 ⟨rfl, hr2, hk2⟩
    have HR2 := Lib.hid hr2
    have HB2 := Lib.hid ((hk2.block w.heap.size (by have := HS1.out; show _ < (w1.heap.push _).size; simp; omega) (fun e => by injection e with e; omega)).trans HBX.out)
    have HK2 := Lib.hid (keepR_t HK1.out hk2)
    obtain ⟨k0, k1, k2, k3, g0, g1, g2, g3⟩ := box4 HB2.out
    clear hr2 hk2
    go_wp2
    obtain ⟨r0, r1, r2, r3, -⟩ := box4 (set4 HB2.out (.int .i64 0) (.string ⟨#[]⟩) (.int .u64 0) (.int .i64 0))
    refine bodyPost_ret (v := Tk.val Tk.zero) (by simp [results, Try.results37, go_sem, Tk.val, Tk.zero, r0, r1, r2, r3]) rfl ?_
    obtain ⟨rfl, rfl⟩ := HN.out
    refine ⟨rfl, ?_, ?_⟩
    · exact (((HR2.out.setO HR.out _ _).setO HR.out _ _).setO HR.out _ _).setO HR.out _ _
    · exact keepR_setN (keepR_setN (keepR_setN (keepR_setN HK2.out (Nat.le_refl _) _ _) (Nat.le_refl _) _ _) (Nat.le_refl _) _ _) (Nat.le_refl _) _ _
end Go.Proofs.Ytebkbcpnjknkjaa
