import Derived.Test.YtebkbcpnjknkjaaLexW2
set_option linter.unusedVariables false
set_option linter.unusedSimpArgs false
set_option maxRecDepth 100000
namespace Go.Proofs.Ytebkbcpnjknkjaa
open Go.RowKit
/-! ravelinref05.Next: the walk. -/
structure Tk where
  kind : Int
  text : ByteArray
  num : Int
  at_ : Int
def Tk.zero : Tk := ⟨0, ⟨#[]⟩, 0, 0⟩
def Tk.val (t : Tk) : Value := .agg #[.int .i64 t.kind, .string t.text, .int .u64 t.num, .int .i64 t.at_]
def Tk.cells (t : Tk) : List Value := [.int .i64 t.kind, .string t.text, .int .u64 t.num, .int .i64 t.at_]
def nextP5 (s : ByteArray) (at_ : Nat) : Tk × Int × Int :=
  let a := skipP s s.size at_
  if a = s.size then (⟨1, ⟨#[]⟩, 0, a⟩, a, 0)
  else if letterB (bt s a) = true then (let e := runP5 s s.size a; if 32 < e - a then (Tk.zero, (a : Int), 52) else (⟨2, s.extract a e, 0, a⟩, (e : Int), 0))
  else if digitB (bt s a) = true then (let e := runP5 s s.size a; if (numberP (s.extract a e)).2 = true then (⟨3, s.extract a e, (numberP (s.extract a e)).1, a⟩, (e : Int), 0) else (Tk.zero, (a : Int), 53))
  else (let n := signP s a; if n = 0 then (Tk.zero, (a : Int), 51) else (⟨4, s.extract a (a + n), 0, a⟩, ((a + n : Nat) : Int), 0))
def NextPost5 (s : ByteArray) (a : Nat) (w : World) (e : Ending) (w' : World) : Prop := e = .returned (.tuple #[(nextP5 s a).1.val, .int .i64 (nextP5 s a).2.1, .int .i64 (nextP5 s a).2.2]) ∧ Below w.heap.size w w'
theorem signP_size (s : ByteArray) (a : Nat) (h : a < s.size) : a + signP s a ≤ s.size ∧ signP s a ≤ 2 := by
  have h2 : twoB s a = true → a + 2 ≤ s.size := fun h => by unfold twoB at h; simp at h; omega
  unfold signP
  dsimp only
  repeat' split
  all_goals first | omega | (have := h2 (by assumption); omega)
set_option maxHeartbeats 1600000 in
theorem Next5_c (s : ByteArray) (at_ : Nat) (ha : at_ ≤ s.size) (hs : s.size ≤ 65536) (hno : ∀ i, bt s i ≠ 35) (w : World) : Calls Try.prog 74 #[.string s, .int .i64 at_] w (NextPost5 s at_ w) := by
  have hs' : (s.size : Int) ≤ 65536 := by omega
  have ha' : (at_ : Int) ≤ s.size := by omega
  have HSK := Lib.hid (fun w => skip_c s at_ ha hs hno w)
  obtain ⟨a, haa⟩ : ∃ a, a = skipP s s.size at_ := ⟨_, rfl⟩
  have hal := (skipP_le s s.size at_ ha).1
  rw [← haa] at HSK hal
  have HAA := Lib.hid haa
  have hal' : (a : Int) ≤ s.size := by omega
  clear haa hno
  by_cases hend : a = s.size
  · have HE : Hid (nextP5 s at_ = (⟨1, ⟨#[]⟩, 0, a⟩, (a : Int), 0)) := Lib.hid (by unfold nextP5; rw [← HAA.out]; exact if_pos hend)
    have he : ((a : Int) == s.size) = true := by simp [hend]
    clear hend
    go_enter Try.func74, Try.ntmps74
    go_wp2_with fail
    refine (HSK.out _).mono ?_
    rintro e w1 ⟨rfl, rfl⟩
    go_wp2
    refine bodyPost_ret (v := .tuple #[Tk.val ⟨1, ⟨#[]⟩, 0, a⟩, .int .i64 a, .int .i64 0]) (by simp [results, Try.results74, go_sem, Tk.val, Tk.zero]) rfl ⟨by rw [HE.out], below1 w _⟩
  · have hlt : a < s.size := by omega
    have hlt' : (a : Int) < s.size := by omega
    have he : ((a : Int) == s.size) = false := by rw [beq_eq_false_iff_ne]; omega
    have hix := run_index_bt Try.underlying9 s a hlt
    obtain ⟨c, hc⟩ : ∃ c, c = bt s a := ⟨_, rfl⟩
    have HC := Lib.hid hc
    rw [← hc] at hix
    have HN := Lib.hid hend
    clear hc hend
    cases hl : letterB c with
    | true =>
      obtain ⟨r, hr⟩ : ∃ r, r = runP5 s s.size a := ⟨_, rfl⟩
      obtain ⟨r1, r2⟩ := runP5_le s s.size a hal
      rw [← hr] at r1 r2
      have HRUN := Lib.hid (fun w => run5_c s a hal hs w)
      rw [← hr] at HRUN
      have hra : (a : Int) ≤ r := by omega
      have hrs : (r : Int) ≤ s.size := by omega
      have HL := Lib.hid hl
      have HR := Lib.hid hr
      clear hr
      by_cases h32 : 32 < r - a
      · have HE : Hid (nextP5 s at_ = (Tk.zero, (a : Int), 52)) := Lib.hid (by unfold nextP5; rw [← HAA.out]; dsimp only; rw [if_neg HN.out, ← HC.out, if_pos HL.out, ← HR.out, if_pos h32])
        have hw : (32 : Int) < (r : Int) - a := by omega
        clear hl h32
        go_enter Try.func74, Try.ntmps74
        go_wp2_with fail
        refine (HSK.out _).mono ?_
        rintro e w1 ⟨rfl, rfl⟩
        go_wp2_with fail
        refine (letter_c c _).mono ?_
        rintro e w1 ⟨rfl, rfl⟩
        rw [HL.out]
        go_wp2_with fail
        refine (digit_c c _).mono ?_
        rintro e w1 ⟨rfl, rfl⟩
        go_wp2_with fail
        refine (HRUN.out _).mono ?_
        rintro e w1 ⟨rfl, rfl⟩
        go_wp2
        refine bodyPost_ret (v := .tuple #[Tk.val Tk.zero, .int .i64 a, .int .i64 52]) (by simp [results, Try.results74, go_sem, Tk.val, Tk.zero]) rfl ⟨by rw [HE.out], below_al (below1 w _) _⟩
      · have HE : Hid (nextP5 s at_ = (⟨2, s.extract a r, 0, a⟩, (r : Int), 0)) := Lib.hid (by unfold nextP5; rw [← HAA.out]; dsimp only; rw [if_neg HN.out, ← HC.out, if_pos HL.out, ← HR.out, if_neg h32])
        have hw : ¬ (32 : Int) < (r : Int) - a := by omega
        clear hl h32
        go_enter Try.func74, Try.ntmps74
        go_wp2_with fail
        refine (HSK.out _).mono ?_
        rintro e w1 ⟨rfl, rfl⟩
        go_wp2_with fail
        refine (letter_c c _).mono ?_
        rintro e w1 ⟨rfl, rfl⟩
        rw [HL.out]
        go_wp2_with fail
        refine (digit_c c _).mono ?_
        rintro e w1 ⟨rfl, rfl⟩
        go_wp2_with fail
        refine (HRUN.out _).mono ?_
        rintro e w1 ⟨rfl, rfl⟩
        go_wp2
        refine bodyPost_ret (v := .tuple #[Tk.val ⟨2, s.extract a r, 0, a⟩, .int .i64 r, .int .i64 0]) (by simp [results, Try.results74, go_sem, Tk.val, Tk.zero]) rfl ⟨by rw [HE.out], below_al (below1 w _) _⟩
    | false =>
      cases hd : digitB c with
      | true =>
        obtain ⟨r, hr⟩ : ∃ r, r = runP5 s s.size a := ⟨_, rfl⟩
        obtain ⟨r1, r2⟩ := runP5_le s s.size a hal
        rw [← hr] at r1 r2
        have HRUN := Lib.hid (fun w => run5_c s a hal hs w)
        rw [← hr] at HRUN
        have hra : (a : Int) ≤ r := by omega
        have hrs : (r : Int) ≤ s.size := by omega
        have HL := Lib.hid hl
        have HD := Lib.hid hd
        have HR := Lib.hid hr
        have HNUM := Lib.hid (fun w => Number_c (s.extract a r) (by rw [ByteArray.size_extract]; omega) w)
        clear hr hl hd
        obtain ⟨m, hm⟩ : ∃ m, m = (numberP (s.extract a r)).1 := ⟨_, rfl⟩
        have HM := Lib.hid hm
        cases hb : (numberP (s.extract a r)).2 with
        | true =>
          have HE : Hid (nextP5 s at_ = (⟨3, s.extract a r, m, a⟩, (r : Int), 0)) := Lib.hid (by unfold nextP5; rw [← HAA.out]; dsimp only; rw [if_neg HN.out, ← HC.out, if_neg (by rw [HL.out]; decide), if_pos HD.out, ← HR.out, if_pos hb, hm])
          have HB := Lib.hid hb
          clear hb hm
          go_enter Try.func74, Try.ntmps74
          go_wp2_with fail
          refine (HSK.out _).mono ?_
          rintro e w1 ⟨rfl, rfl⟩
          go_wp2_with fail
          refine (letter_c c _).mono ?_
          rintro e w1 ⟨rfl, rfl⟩
          rw [HL.out]
          go_wp2_with fail
          refine (digit_c c _).mono ?_
          rintro e w1 ⟨rfl, rfl⟩
          rw [HD.out]
          go_wp2_with fail
          refine (HRUN.out _).mono ?_
          rintro e w1 ⟨rfl, rfl⟩
          go_wp2_with fail
          refine (HNUM.out _).mono ?_
          rintro e w1 ⟨rfl, rfl⟩
          rw [HB.out]
          rw [← HM.out]
          go_wp2
          refine bodyPost_ret (v := .tuple #[Tk.val ⟨3, s.extract a r, m, a⟩, .int .i64 r, .int .i64 0]) (by simp [results, Try.results74, go_sem, Tk.val, Tk.zero]) rfl ⟨by rw [HE.out], below_al (below1 w _) _⟩
        | false =>
          have HE : Hid (nextP5 s at_ = (Tk.zero, (a : Int), 53)) := Lib.hid (by unfold nextP5; rw [← HAA.out]; dsimp only; rw [if_neg HN.out, ← HC.out, if_neg (by rw [HL.out]; decide), if_pos HD.out, ← HR.out, if_neg (by rw [hb]; decide)])
          have HB := Lib.hid hb
          clear hb hm
          go_enter Try.func74, Try.ntmps74
          go_wp2_with fail
          refine (HSK.out _).mono ?_
          rintro e w1 ⟨rfl, rfl⟩
          go_wp2_with fail
          refine (letter_c c _).mono ?_
          rintro e w1 ⟨rfl, rfl⟩
          rw [HL.out]
          go_wp2_with fail
          refine (digit_c c _).mono ?_
          rintro e w1 ⟨rfl, rfl⟩
          rw [HD.out]
          go_wp2_with fail
          refine (HRUN.out _).mono ?_
          rintro e w1 ⟨rfl, rfl⟩
          go_wp2_with fail
          refine (HNUM.out _).mono ?_
          rintro e w1 ⟨rfl, rfl⟩
          rw [HB.out]
          rw [← HM.out]
          go_wp2
          refine bodyPost_ret (v := .tuple #[Tk.val Tk.zero, .int .i64 a, .int .i64 53]) (by simp [results, Try.results74, go_sem, Tk.val, Tk.zero]) rfl ⟨by rw [HE.out], below_al (below1 w _) _⟩
      | false =>
        have HSG := Lib.hid (fun w => sign_c s a hlt hs w)
        obtain ⟨n, hn⟩ : ∃ n, n = signP s a := ⟨_, rfl⟩
        rw [← hn] at HSG
        have HL := Lib.hid hl
        have HD := Lib.hid hd
        have HNN := Lib.hid hn
        clear hl hd hn
        by_cases hz : n = 0
        · have HE : Hid (nextP5 s at_ = (Tk.zero, (a : Int), 51)) := Lib.hid (by unfold nextP5; rw [← HAA.out]; dsimp only; rw [if_neg HN.out, ← HC.out, if_neg (by rw [HL.out]; decide), if_neg (by rw [HD.out]; decide), ← HNN.out, if_pos hz])
          have hz' : ((n : Int) == 0) = true := by simp [hz]
          clear hz
          go_enter Try.func74, Try.ntmps74
          go_wp2_with fail
          refine (HSK.out _).mono ?_
          rintro e w1 ⟨rfl, rfl⟩
          go_wp2_with fail
          refine (letter_c c _).mono ?_
          rintro e w1 ⟨rfl, rfl⟩
          rw [HL.out]
          go_wp2_with fail
          refine (digit_c c _).mono ?_
          rintro e w1 ⟨rfl, rfl⟩
          rw [HD.out]
          go_wp2_with fail
          refine (HSG.out _).mono ?_
          rintro e w1 ⟨rfl, rfl⟩
          go_wp2
          refine bodyPost_ret (v := .tuple #[Tk.val Tk.zero, .int .i64 a, .int .i64 51]) (by simp [results, Try.results74, go_sem, Tk.val, Tk.zero]) rfl ⟨by rw [HE.out], below1 w _⟩
        · have HE : Hid (nextP5 s at_ = (⟨4, s.extract a (a + n), 0, a⟩, ((a + n : Nat) : Int), 0)) := Lib.hid (by unfold nextP5; rw [← HAA.out]; dsimp only; rw [if_neg HN.out, ← HC.out, if_neg (by rw [HL.out]; decide), if_neg (by rw [HD.out]; decide), ← HNN.out, if_neg hz])
          have hz' : ((n : Int) == 0) = false := by simpa using hz
          have hsz := signP_size s a hlt
          rw [← HNN.out] at hsz
          have hn2 : (n : Int) ≤ 2 := by omega
          have han : (a : Int) + n ≤ s.size := by omega
          have htn : ((a : Int) + n).toNat = a + n := by omega
          have hsl : ∀ w : World, (Instr.slice 9 (.string s) (some (.int .i64 (a : Int))) (some (.int .i64 ((a : Int) + n))) none).run Try.prog w = .ok (.string (s.extract a (a + n))) w := fun w => by
            rw [run_slice_string (P := Try.prog) w 9 s .i64 .i64 a ((a : Int) + n) Try.underlying9 (by omega) (by omega) han, htn, Int.toNat_natCast]
          clear hz hsz
          go_enter Try.func74, Try.ntmps74
          go_wp2_with fail
          refine (HSK.out _).mono ?_
          rintro e w1 ⟨rfl, rfl⟩
          go_wp2_with fail
          refine (letter_c c _).mono ?_
          rintro e w1 ⟨rfl, rfl⟩
          rw [HL.out]
          go_wp2_with fail
          refine (digit_c c _).mono ?_
          rintro e w1 ⟨rfl, rfl⟩
          rw [HD.out]
          go_wp2_with fail
          refine (HSG.out _).mono ?_
          rintro e w1 ⟨rfl, rfl⟩
          go_wp2
          refine bodyPost_ret (v := .tuple #[Tk.val ⟨4, s.extract a (a + n), 0, a⟩, .int .i64 ((a + n : Nat) : Int), .int .i64 0]) (by simp [results, Try.results74, go_sem, Tk.val, Tk.zero, htn]) rfl ⟨by rw [HE.out], below1 w _⟩
end Go.Proofs.Ytebkbcpnjknkjaa
