import Derived.Test.YtebkbcpnjknkjaaRdW2
import Derived.Test.YtebkbcpnjknkjaaPolP
set_option linter.unusedVariables false
set_option linter.unusedSimpArgs false
set_option maxRecDepth 100000
namespace Go.Proofs.Ytebkbcpnjknkjaa
open Go.RowKit
/-! ravelinref06's reader: rel, field, deeper, call. -/
def relP (s : ByteArray) : Int :=
  if (s.toList == [61, 61]) = true then 1 else if (s.toList == [33, 61]) = true then 2 else if (s.toList == [60]) = true then 3 else if (s.toList == [60, 61]) = true then 4 else if (s.toList == [62]) = true then 5 else if (s.toList == [62, 61]) = true then 6 else 0
theorem rrel_c (s : ByteArray) (w : World) : Calls Try.prog 87 #[.string s] w fun e w' => e = .returned (.int .i64 (relP s)) ∧ w' = w := by
  have HM : Hid (relP s = if (s.toList == [61, 61]) = true then 1 else if (s.toList == [33, 61]) = true then 2 else if (s.toList == [60]) = true then 3 else if (s.toList == [60, 61]) = true then 4 else if (s.toList == [62]) = true then 5 else if (s.toList == [62, 61]) = true then 6 else 0) := Lib.hid rfl
  go_enter Try.func87, Try.ntmps87
  go_wp2
  all_goals go_ret
  all_goals exact ⟨ret_i (by rw [HM.out]; simp [*]), rfl⟩
def deeperP (t : Tk) (s : RSt) : Option (Bool × RSt) :=
  if 0 ≤ s.deep ∧ s.deep < 1000000 then
    if 64 < s.deep + 1 then some (decide ((failsP 62 t.at_ ⟨s.at_, s.deep + 1, s.err, s.bad⟩).err = 0), failsP 62 t.at_ ⟨s.at_, s.deep + 1, s.err, s.bad⟩)
    else some (decide (s.err = 0), ⟨s.at_, s.deep + 1, s.err, s.bad⟩)
  else none
theorem deeper_c {l : List Tk} {ee pl : Int} {A : Option Addr} {c R : Nat} {s s' : RSt} {ok : Bool} (t : Tk) (w : World) (h : RdAt l ee pl A c R s w) (hn : deeperP t s = some (ok, s')) : Calls Try.prog 85 #[.pointer (some ⟨R, 0, none⟩), t.val] w (RPost l ee pl A c R (.bool ok) s' w) := by
  obtain ⟨tk, tt, tn, ta⟩ := t
  obtain ⟨a, d, er, b⟩ := s
  unfold deeperP at hn
  dsimp only at hn
  unfold Tk.val
  dsimp only
  have HA := Lib.hid h
  have hk := h.keep (below1 w (.cells #[.int .i64 tk, .string tt, .int .u64 tn, .int .i64 ta] 83))
  obtain ⟨-, -, -, -, c4, c5, -⟩ := hk.cl
  have f4 := hk.fr 4
  dsimp only at c4 c5
  have hR := h.lt
  clear h hk
  by_cases hd : 0 ≤ d ∧ d < 1000000
  · rw [if_pos hd] at hn
    obtain ⟨hd0, hd1⟩ := hd
    have HX : Hid (RdAt l ee pl A c R ⟨a, d + 1, er, b⟩ ((w.setCell ⟨R, 4, none⟩ (.int .i64 (d + 1))).alloc (.cells #[.int .i64 tk, .string tt, .int .u64 tn, .int .i64 ta] 83)) ∧ KeepR R w ((w.setCell ⟨R, 4, none⟩ (.int .i64 (d + 1))).alloc (.cells #[.int .i64 tk, .string tt, .int .u64 tn, .int .i64 ta] 83))) := Lib.hid ⟨(HA.out.set (s' := ⟨a, d + 1, er, b⟩) (j := 4) (by simp [rdCells])).keep (below1 _ _), keepR_t (keepR_set R 4 w _) (keepR_b (below1 _ _))⟩
    obtain ⟨-, -, -, -, z4, z5, -⟩ := (HA.out.set (s' := ⟨a, d + 1, er, b⟩) (j := 4) (v := .int .i64 (d + 1)) (by simp [rdCells])).cl
    dsimp only at z4 z5
    by_cases h64 : 64 < d + 1
    · rw [if_pos h64] at hn
      simp only [Option.some.injEq, Prod.mk.injEq] at hn
      have HN := Lib.hid hn
      clear hn
      go_enter Try.func85, Try.ntmps85
      go_wp2_with fail
      refine (fails_c 62 ta _ HX.out.1).mono ?_
      rintro e w1 ⟨rfl, hr1, hk1⟩
      obtain ⟨-, -, -, -, -, q5, -⟩ := hr1.cl
      have HR1 := Lib.hid hr1
      have HK1 := Lib.hid (keepR_t HX.out.2 hk1)
      clear hr1 hk1 c4 c5 f4 z4 z5
      go_wp2
      refine bodyPost_ret (v := .bool ((failsP 62 ta ⟨a, d + 1, er, b⟩).err == 0)) (by simp [results, Try.results85, go_sem]) rfl ?_
      obtain ⟨rfl, rfl⟩ := HN.out
      exact ⟨by congr 2, HR1.out, HK1.out⟩
    · rw [if_neg h64] at hn
      simp only [Option.some.injEq, Prod.mk.injEq] at hn
      have HN := Lib.hid hn
      clear hn
      go_enter Try.func85, Try.ntmps85
      go_wp2
      refine bodyPost_ret (v := .bool (er == 0)) (by simp [results, Try.results85, go_sem]) rfl ?_
      obtain ⟨rfl, rfl⟩ := HN.out
      exact ⟨by congr 2, HX.out.1, HX.out.2⟩
  · rw [if_neg hd] at hn; cases hn
def fieldP (s : ByteArray) : Int :=
  if (s.toList == [105, 112]) = true then 6 else if s.size = 4 ∧ ((s.extract 0 3).toList == [97, 114, 103]) = true ∧ 48 ≤ bt s 3 ∧ bt s 3 ≤ 53 then bt s 3 - 48 else -1
theorem field_c (s : ByteArray) (w : World) : Calls Try.prog 84 #[.string s] w fun e w' => e = .returned (.int .i64 (fieldP s)) ∧ w' = w := by
  by_cases h4 : s.size = 4
  · have hix : ∀ w, (Instr.index 9 (.string s) (.int .i64 3)).run Try.prog w = .ok (.int .u8 (bt s 3)) w := fun w => run_index_bt Try.underlying9 s 3 (by omega) w
    have hsl : ∀ w, (Instr.slice 9 (.string s) none (some (.int .i64 3)) none).run Try.prog w = .ok (.string (s.extract 0 3)) w := fun w => by
      rw [run_slice_string_h w 9 s Try.underlying9 .i64 3 (by omega) (by omega)]; rfl
    obtain ⟨r1, r2⟩ := bt_range s 3
    have HM : Hid (fieldP s = if (s.toList == [105, 112]) = true then 6 else if ((s.extract 0 3).toList == [97, 114, 103]) = true ∧ 48 ≤ bt s 3 ∧ bt s 3 ≤ 53 then bt s 3 - 48 else -1) := Lib.hid (by unfold fieldP; simp [h4])
    obtain ⟨x, hx⟩ : ∃ x, x = s.extract 0 3 := ⟨_, rfl⟩
    obtain ⟨b, hb⟩ : ∃ b, b = bt s 3 := ⟨_, rfl⟩
    rw [← hx, ← hb] at HM
    rw [← hx] at hsl
    rw [← hb] at hix r1 r2
    have hz : (s.size : Int) = 4 := by omega
    clear hx hb h4
    go_enter Try.func84, Try.ntmps84
    go_wp2
    all_goals go_ret
    all_goals exact ⟨ret_i (by rw [HM.out]; simp [*] <;> omega), rfl⟩
  · have HM : Hid (fieldP s = if (s.toList == [105, 112]) = true then 6 else -1) := Lib.hid (by unfold fieldP; simp [h4])
    have hz : ((s.size : Int) == 4) = false := by rw [beq_eq_false_iff_ne]; omega
    clear h4
    go_enter Try.func84, Try.ntmps84
    go_wp2
    all_goals go_ret
    all_goals exact ⟨ret_i (by rw [HM.out]; simp [*]), rfl⟩
def callP (l : List Tk) (ee pl : Int) (s : RSt) : Option (CallP × RSt) :=
  if (peekP l ee pl s).1.kind = 2 then (rnextP l ee pl (peekP l ee pl s).2).map fun x => (⟨(peekP l ee pl s).1.text, 0⟩, x.2)
  else if (peekP l ee pl s).1.kind = 3 then (rnextP l ee pl (peekP l ee pl s).2).map fun x => (⟨⟨#[]⟩, (peekP l ee pl s).1.num⟩, x.2)
  else some (⟨⟨#[]⟩, 0⟩, failsP 61 (peekP l ee pl s).1.at_ (peekP l ee pl s).2)
theorem box2 {W : World} {g : Nat} {a b : Value} {t : TypeId} (h : W.heap[g]? = some (.cells #[a, b] t (0, 0))) : W.cell? ⟨g, 0, none⟩ = some a ∧ W.cell? ⟨g, 1, none⟩ = some b ∧ W.frozen? ⟨g, 0, none⟩ = false ∧ W.frozen? ⟨g, 1, none⟩ = false := by simp [World.cell?, World.frozen?, h]
theorem set2T {W : World} {g : Nat} {a b : Value} {t : TypeId} (h : W.heap[g]? = some (.cells #[a, b] t (0, 0))) (a' b' : Value) :
    ((W.setCell ⟨g, 0, none⟩ a').setCell ⟨g, 1, none⟩ b').heap[g]? = some (.cells #[a', b'] t (0, 0)) := by
  rw [heap_setT (heap_setT h a') b']; rfl
theorem call_c {l : List Tk} {ee pl : Int} {A : Option Addr} {c R : Nat} {s s' : RSt} {x : CallP} (w : World) (h : RdAt l ee pl A c R s w) (hn : callP l ee pl s = some (x, s')) : Calls Try.prog 68 #[.pointer (some ⟨R, 0, none⟩)] w (RPost l ee pl A c R x.val s' w) := by
  have hk := h.keep (below1 w (.cells #[.string ⟨#[]⟩, .int .u64 0] 68))
  have HA := Lib.hid hk
  have HR := Lib.hid h.lt
  have hR := h.lt
  clear h hk
  obtain ⟨tk, tt, tn, ta, s1, hp⟩ : ∃ tk tt tn ta s1, peekP l ee pl s = (⟨tk, tt, tn, ta⟩, s1) := ⟨_, _, _, _, _, rfl⟩
  unfold callP at hn
  rw [hp] at hn
  dsimp only at hn
  have hpk := fun w h => peek_c (l := l) (ee := ee) (pl := pl) (A := A) (c := c) (R := R) (s := s) w h
  rw [hp] at hpk
  dsimp only at hpk
  unfold Tk.val at hpk
  dsimp only at hpk
  have HP := Lib.hid hpk
  clear hp hpk
  go_enter Try.func68, Try.ntmps68
  go_wp2_with fail
  refine (HP.out _ HA.out).mono ?_
  rintro e w1 ⟨rfl, hr1, hk1⟩
  have HR1 := Lib.hid (hr1.keep (below1 w1 (.cells #[.int .i64 tk, .string tt, .int .u64 tn, .int .i64 ta] 83)))
  have hs1 : w.heap.size < w1.heap.size := by have := hk1.size; have e : (w.alloc (.cells #[.string ⟨#[]⟩, .int .u64 0] 68)).heap.size = w.heap.size + 1 := World.size_alloc _ _; omega
  have HBX := Lib.hid ((Below.heap_alloc w1 (.cells #[.int .i64 tk, .string tt, .int .u64 tn, .int .i64 ta] 83) w.heap.size hs1).trans ((hk1.block w.heap.size (by show _ < (w.heap.push _).size; simp) (fun e => by injection e with e; omega)).trans (heap_nwT w _)))
  have HTK := Lib.hid (heap_nwT w1 (.cells #[.int .i64 tk, .string tt, .int .u64 tn, .int .i64 ta] 83))
  have HK1 := Lib.hid (keepR_t (keepR_t (keepR_b (below1 w _)) hk1) (keepR_b (below1 w1 (.cells #[.int .i64 tk, .string tt, .int .u64 tn, .int .i64 ta] 83))))
  have HS1 := Lib.hid hs1
  have hR1 := Lib.hid hr1.lt
  clear hr1 hk1
  by_cases hk : tk = 2
  · subst hk
    rw [if_pos rfl] at hn
    cases hx : rnextP l ee pl s1 with
    | none => rw [hx] at hn; cases hn
    | some y =>
      obtain ⟨⟨yk, yt, yn, ya⟩, s2⟩ := y
      rw [hx] at hn
      simp only [Option.map_some, Option.some.injEq, Prod.mk.injEq] at hn
      obtain ⟨rfl, rfl⟩ := hn
      have HN := Lib.hid (fun w h => rnext_c (A := A) (c := c) (R := R) (s := s1) w h hx)
      unfold Tk.val at HN
      dsimp only at HN
      unfold CallP.val
      dsimp only
      clear hx
      go_wp2_with fail
      refine (HN.out _ HR1.out).mono ?_
      rintro e w2 ⟨rfl, hr2, hk2⟩
      have HR2 := Lib.hid hr2
      have HB2 := Lib.hid ((hk2.block w.heap.size (by have := HS1.out; show _ < (w1.heap.push _).size; simp; omega) (fun e => by injection e with e; omega)).trans HBX.out)
      obtain ⟨q0, q1, q2, q3, -⟩ := box4 ((hk2.block w1.heap.size (by show _ < (w1.heap.push _).size; simp) (fun e => by injection e with e; have := hR1.out; omega)).trans HTK.out)
      have HK2 := Lib.hid (keepR_t HK1.out hk2)
      obtain ⟨k0, k1, g0, g1⟩ := box2 HB2.out
      clear hr2 hk2
      go_wp2
      obtain ⟨r0, r1, -⟩ := box2 (set2T HB2.out (.string tt) (.int .u64 0))
      refine bodyPost_ret (v := .agg #[.string tt, .int .u64 0]) (by simp [results, Try.results68, go_sem, r0, r1]) rfl ?_
      exact ⟨rfl, (HR2.out.setO HR.out _ _).setO HR.out _ _, keepR_setN (keepR_setN HK2.out (Nat.le_refl _) _ _) (Nat.le_refl _) _ _⟩
  · by_cases hk3 : tk = 3
    · subst hk3
      rw [if_neg (by decide), if_pos rfl] at hn
      cases hx : rnextP l ee pl s1 with
      | none => rw [hx] at hn; cases hn
      | some y =>
        obtain ⟨⟨yk, yt, yn, ya⟩, s2⟩ := y
        rw [hx] at hn
        simp only [Option.map_some, Option.some.injEq, Prod.mk.injEq] at hn
        obtain ⟨rfl, rfl⟩ := hn
        have HN := Lib.hid (fun w h => rnext_c (A := A) (c := c) (R := R) (s := s1) w h hx)
        unfold Tk.val at HN
        dsimp only at HN
        unfold CallP.val
        dsimp only
        clear hx
        go_wp2_with fail
        refine (HN.out _ HR1.out).mono ?_
        rintro e w2 ⟨rfl, hr2, hk2⟩
        have HR2 := Lib.hid hr2
        have HB2 := Lib.hid ((hk2.block w.heap.size (by have := HS1.out; show _ < (w1.heap.push _).size; simp; omega) (fun e => by injection e with e; omega)).trans HBX.out)
        obtain ⟨q0, q1, q2, q3, -⟩ := box4 ((hk2.block w1.heap.size (by show _ < (w1.heap.push _).size; simp) (fun e => by injection e with e; have := hR1.out; omega)).trans HTK.out)
        have HK2 := Lib.hid (keepR_t HK1.out hk2)
        obtain ⟨k0, k1, g0, g1⟩ := box2 HB2.out
        clear hr2 hk2
        go_wp2
        obtain ⟨r0, r1, -⟩ := box2 (set2T HB2.out (.string ⟨#[]⟩) (.int .u64 tn))
        refine bodyPost_ret (v := .agg #[.string ⟨#[]⟩, .int .u64 tn]) (by simp [results, Try.results68, go_sem, r0, r1]) rfl ?_
        exact ⟨rfl, (HR2.out.setO HR.out _ _).setO HR.out _ _, keepR_setN (keepR_setN HK2.out (Nat.le_refl _) _ _) (Nat.le_refl _) _ _⟩
    · rw [if_neg hk, if_neg hk3] at hn
      simp only [Option.some.injEq, Prod.mk.injEq] at hn
      obtain ⟨rfl, rfl⟩ := hn
      have hk2' : (tk == 2) = false := by simpa using hk
      have hk3' : (tk == 3) = false := by simpa using hk3
      unfold CallP.val
      dsimp only
      clear hk hk3
      go_wp2_with fail
      refine (fails_c 61 ta _ HR1.out).mono ?_
      rintro e w2 ⟨rfl, hr2, hk2⟩
      have HR2 := Lib.hid hr2
      have HB2 := Lib.hid ((hk2.block w.heap.size (by have := HS1.out; show _ < (w1.heap.push _).size; simp; omega) (fun e => by injection e with e; omega)).trans HBX.out)
      have HK2 := Lib.hid (keepR_t HK1.out hk2)
      obtain ⟨k0, k1, g0, g1⟩ := box2 HB2.out
      clear hr2 hk2
      go_wp2
      obtain ⟨r0, r1, -⟩ := box2 (set2T HB2.out (.string ⟨#[]⟩) (.int .u64 0))
      refine bodyPost_ret (v := .agg #[.string ⟨#[]⟩, .int .u64 0]) (by simp [results, Try.results68, go_sem, r0, r1]) rfl ?_
      exact ⟨rfl, (HR2.out.setO HR.out _ _).setO HR.out _ _, keepR_setN (keepR_setN HK2.out (Nat.le_refl _) _ _) (Nat.le_refl _) _ _⟩
end Go.Proofs.Ytebkbcpnjknkjaa
