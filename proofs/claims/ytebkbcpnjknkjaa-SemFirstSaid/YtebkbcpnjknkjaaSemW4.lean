import Derived.Test.YtebkbcpnjknkjaaSemW3
set_option linter.unusedVariables false
set_option linter.unusedSimpArgs false
set_option maxRecDepth 100000
namespace Go.Proofs.Ytebkbcpnjknkjaa
open Go.RowKit
/-! secdata.Code, sem.Action, ravelinref07.Action: the walks. -/
structure R3 where
  (k wd : Int)
  (nb : Bool)
def R3.cells (x : R3) : List Value := [.int .i64 x.k, .int .u32 x.wd, .bool x.nb]
def rows8 : List R3 := [⟨1, 2147483648, false⟩, ⟨2, 0, false⟩, ⟨3, 196608, true⟩, ⟨4, 327680, true⟩, ⟨5, 2143289344, false⟩, ⟨6, 2146435072, true⟩, ⟨7, 2147221504, false⟩, ⟨8, 2147418112, false⟩]
def codeIn : List R3 → Int → Int → Int × Int
  | [], _, _ => (0, 23)
  | x :: l, k, d => if x.k = k ∧ (x.nb = true ∨ d = 0) then (bits .or .u32 x.wd d, 0) else codeIn l k d
theorem rows_c (w : World) : Calls Try.prog 71 #[] w fun e w' => e = .returned (.slice (some ⟨w.heap.size, 0, none⟩) 8 8) ∧ w' = w.alloc (.cells (rows8.flatMap R3.cells).toArray 128) := by
  go_enter Try.func71, Try.ntmps71
  go_wp2
  go_ret
  exact ⟨rfl, rfl⟩
theorem codeIn_drop {l : List R3} {k d : Int} {n : Nat} {x : R3} (hx : l[n]? = some x) : codeIn (l.drop n) k d = if x.k = k ∧ (x.nb = true ∨ d = 0) then (bits .or .u32 x.wd d, 0) else codeIn (l.drop (n + 1)) k d := by
  have hn := (List.getElem?_eq_some_iff.1 hx).1
  rw [List.drop_eq_getElem_cons hn, codeIn]
  rw [List.getElem?_eq_getElem hn] at hx
  injection hx with hx
  rw [hx]
theorem ret_ui {a b x y : Int} (h1 : a = b) (h2 : x = y) : Ending.returned (.tuple #[.int .u32 a, .int .i64 x]) = .returned (.tuple #[.int .u32 b, .int .i64 y]) := by rw [h1, h2]
theorem rows_at {w W : World} {g : Nat} (h : W.heap[g]? = some (.cells (rows8.flatMap R3.cells).toArray 128 (0, 0))) {n : Nat} (hn : n < 8) {x : R3} (hx : rows8[n]? = some x) : W.cell? ⟨g, n * 3, none⟩ = some (.int .i64 x.k) ∧ W.cell? ⟨g, n * 3 + 1, none⟩ = some (.int .u32 x.wd) ∧ W.cell? ⟨g, n * 3 + 2, none⟩ = some (.bool x.nb) := by
  have hc : ∀ j, W.cell? ⟨g, j, none⟩ = (rows8.flatMap R3.cells)[j]? := fun j => by simp [World.cell?, h]
  rw [hc, hc, hc]
  have : ∀ n, n < 8 → ∀ x, rows8[n]? = some x → (rows8.flatMap R3.cells)[n * 3]? = some (.int .i64 x.k) ∧ (rows8.flatMap R3.cells)[n * 3 + 1]? = some (.int .u32 x.wd) ∧ (rows8.flatMap R3.cells)[n * 3 + 2]? = some (.bool x.nb) := by
    intro n hn x hx
    match n, hn with
    | 0, _ | 1, _ | 2, _ | 3, _ | 4, _ | 5, _ | 6, _ | 7, _ => (injection hx with hx; subst hx; exact ⟨rfl, rfl, rfl⟩)
  exact this n hn x hx
def CodePost (x : Int × Int) (w : World) (e : Ending) (w' : World) : Prop := e = .returned (.tuple #[.int .u32 x.1, .int .i64 x.2]) ∧ Below w.heap.size w w'
set_option maxHeartbeats 800000 in
theorem Code_c (k d : Int) (hd : 0 ≤ d ∧ d < 65536) (w : World) : Calls Try.prog 54 #[.agg #[.int .i64 k, .int .u16 d]] w (CodePost (codeIn rows8 k d) w) := by
  obtain ⟨hd0, hd1⟩ := hd
  have hw : IntKind.u32.wrap d = d := by rw [IntKind.wrap_u32]; omega
  go_enter Try.func54, Try.ntmps54
  go_wp2_with fail
  refine (rows_c _).mono ?_
  rintro e w1 ⟨rfl, rfl⟩
  have HS := Lib.hid (show Below w.heap.size w ((w.alloc (.cells #[.int .i64 k, .int .u16 d] 110)).alloc (.cells (rows8.flatMap R3.cells).toArray 128)) ∧ ((w.alloc (.cells #[.int .i64 k, .int .u16 d] 110)).alloc (.cells (rows8.flatMap R3.cells).toArray 128)).heap[w.heap.size]? = some (.cells #[.int .i64 k, .int .u16 d] 110 (0, 0)) ∧ ((w.alloc (.cells #[.int .i64 k, .int .u16 d] 110)).alloc (.cells (rows8.flatMap R3.cells).toArray 128)).heap[w.heap.size + 1]? = some (.cells (rows8.flatMap R3.cells).toArray 128 (0, 0)) from
    ⟨below_al (below1 w _) _, alloc_box (heap_nwT w _) _, by have := heap_nwT (w.alloc (.cells #[.int .i64 k, .int .u16 d] 110)) (.cells (rows8.flatMap R3.cells).toArray 128); rwa [World.size_alloc] at this⟩)
  generalize (w.alloc (.cells #[.int .i64 k, .int .u16 d] 110)).alloc (.cells (rows8.flatMap R3.cells).toArray 128) = w1 at HS ⊢
  simp only [World.size_alloc]
  go_wp2_with fail
  go_loopw [8] (fun i wr => ∃ n : Nat, n ≤ 8 ∧ i = .int .i64 n ∧ Hid (Below w.heap.size w wr ∧ wr.heap[w.heap.size]? = some (.cells #[.int .i64 k, .int .u16 d] 110 (0, 0)) ∧ wr.heap[w.heap.size + 1]? = some (.cells (rows8.flatMap R3.cells).toArray 128 (0, 0))) ∧ Hid (codeIn rows8 k d = codeIn (rows8.drop n) k d)) (fun i _ => 8 - (intOf i).toNat)
  case atStart => exact ⟨0, by omega, rfl, HS, Lib.hid rfl⟩
  case round =>
    obtain ⟨n, hn, rfl, HB, HE⟩ := hrel
    clear HS
    rcases Nat.lt_or_ge n 8 with hlt | hge
    · have hlt' : (n : Int) < 8 := by omega
      obtain ⟨x, hx⟩ : ∃ x, rows8[n]? = some x := ⟨_, List.getElem?_eq_getElem (by simpa [rows8] using hlt)⟩
      have hE := HE.out
      rw [codeIn_drop hx] at hE
      obtain ⟨i0, i1, i2⟩ := rows_at (w := w) HB.out.2.2 hlt hx
      have hlt2 : w.heap.size + 1 < wr.heap.size := (Array.getElem?_eq_some_iff.1 HB.out.2.2).1
      have hlt1 : w.heap.size < wr.heap.size := by omega
      obtain ⟨k0, k1, -, -⟩ := (show wr.cell? ⟨w.heap.size, 0, none⟩ = some (.int .i64 k) ∧ wr.cell? ⟨w.heap.size, 1, none⟩ = some (.int .u16 d) ∧ True ∧ True from ⟨by simp [World.cell?, HB.out.2.1], by simp [World.cell?, HB.out.2.1], trivial, trivial⟩)
      obtain ⟨xk, xw, xb⟩ := x
      dsimp only at hE i0 i1 i2
      have HNX := Lib.hid (fun o : Obj => show Below w.heap.size w (wr.alloc o) ∧ (wr.alloc o).heap[w.heap.size]? = some (.cells #[.int .i64 k, .int .u16 d] 110 (0, 0)) ∧ (wr.alloc o).heap[w.heap.size + 1]? = some (.cells (rows8.flatMap R3.cells).toArray 128 (0, 0)) from ⟨below_al HB.out.1 o, alloc_box HB.out.2.1 o, alloc_box HB.out.2.2 o⟩)
      clear hx
      by_cases hk : xk = k ∧ (xb = true ∨ d = 0)
      · rw [if_pos hk] at hE
        have HF := Lib.hid hE
        clear hE
        obtain ⟨rfl, hk⟩ := hk
        have h00 : (xk == xk) = true := by simp
        cases xb with
        | true =>
          clear hk
          go_wp2
          go_ret2
          exact ⟨ret_ui (by rw [HF.out]) (by rw [HF.out]), (HNX.out _).1⟩
        | false =>
          obtain rfl : d = 0 := by simpa using hk
          clear hk
          go_wp2
          go_ret2
          exact ⟨ret_ui (by rw [HF.out]) (by rw [HF.out]), (HNX.out _).1⟩
      · rw [if_neg hk] at hE
        have HF := Lib.hid hE
        clear hE
        by_cases h1 : xk = k
        · subst h1
          have h00 : (xk == xk) = true := by simp
          cases xb with
          | true => exact absurd ⟨rfl, Or.inl rfl⟩ hk
          | false =>
            have hd2 : (d == 0) = false := by rw [beq_eq_false_iff_ne]; exact fun e => hk ⟨rfl, Or.inr e⟩
            clear hk
            go_wp2
            go_roundw
            case rel => exact ⟨n + 1, by omega, by go_num, Lib.hid (HNX.out _), HF⟩
            case measure => simp [intOf]; omega
        · have h00 : (xk == k) = false := by rw [beq_eq_false_iff_ne]; exact h1
          clear hk h1
          go_wp2
          go_roundw
          case rel => exact ⟨n + 1, by omega, by go_num, Lib.hid (HNX.out _), HF⟩
          case measure => simp [intOf]; omega
    · obtain rfl : n = 8 := by omega
      have HF : Hid (codeIn rows8 k d = (0, 23)) := Lib.hid (by rw [HE.out]; rfl)
      have h8 : ((8 : Nat) : Int) = 8 := rfl
      rw [h8]
      go_wp2
      go_ret2
      exact ⟨ret_ui (by rw [HF.out]) (by rw [HF.out]), HB.out.1⟩
/-! What a verdict says. -/
theorem or32 (m : Nat) (hm : m < 65536) (d : Int) (h0 : 0 ≤ d) (hd : d < 65536) : bits .or .u32 ((m * 65536 : Nat) : Int) d = ((m * 65536 : Nat) : Int) + d := by
  obtain ⟨n, rfl⟩ : ∃ n : Nat, d = n := ⟨d.toNat, by omega⟩
  have := (bits_nat .u32 32 (by decide) (fun n h0 h1 => by rw [IntKind.wrap_u32]; omega) (m * 65536) n (by omega) (by omega)).2
  rw [this, ← Int.natCast_add]
  congr 1
  rw [Nat.mul_comm, ← Nat.two_pow_add_eq_or_of_lt (i := 16) (by omega)]
theorem code_num (k wd d : Int) (h : rows8.find? (fun x => x.k == k) = some ⟨k, wd, true⟩) : codeIn rows8 k d = (bits .or .u32 wd d, 0) := by
  simp only [rows8, List.find?] at h
  simp only [codeIn, rows8]
  repeat' split at h
  all_goals first
    | (cases h; done)
    | (simp only [Option.some.injEq, R3.mk.injEq] at h; obtain ⟨rfl, rfl, -⟩ := h; simp)
    | (simp only [Option.some.injEq, R3.mk.injEq] at h; exact absurd h.2.2 (by decide))
theorem code_word (k wd d : Int) (h : rows8.find? (fun x => x.k == k) = some ⟨k, wd, false⟩) : codeIn rows8 k d = if d = 0 then (bits .or .u32 wd d, 0) else (0, 23) := by
  simp only [rows8, List.find?] at h
  simp only [codeIn, rows8]
  repeat' split at h
  all_goals first
    | (cases h; done)
    | (simp only [Option.some.injEq, R3.mk.injEq] at h; obtain ⟨rfl, rfl, -⟩ := h; simp)
    | (simp only [Option.some.injEq, R3.mk.injEq] at h; exact absurd h.2.2 (by decide))
theorem code_none (k d : Int) (h1 : k ≠ 1) (h2 : k ≠ 2) (h3 : k ≠ 3) (h4 : k ≠ 4) (h5 : k ≠ 5) (h6 : k ≠ 6) (h7 : k ≠ 7) (h8 : k ≠ 8) : codeIn rows8 k d = (0, 23) := by
  simp only [codeIn, rows8]
  rw [if_neg (fun h => h1 h.1.symm), if_neg (fun h => h2 h.1.symm), if_neg (fun h => h3 h.1.symm), if_neg (fun h => h4 h.1.symm), if_neg (fun h => h5 h.1.symm), if_neg (fun h => h6 h.1.symm), if_neg (fun h => h7 h.1.symm), if_neg (fun h => h8 h.1.symm)]
theorem action_code (k d : Int) (h0 : 0 ≤ d) : actionP k d = if 65535 < d ∨ (k = 4 ∧ 4095 < d) then (0, false) else ((codeIn rows8 k d).1, (codeIn rows8 k d).2 == 0) := by
  by_cases hb : 65535 < d ∨ (k = 4 ∧ 4095 < d)
  · rw [if_pos hb]
    unfold actionP
    repeat' split
    all_goals first | rfl | omega
  · rw [if_neg hb]
    have hn : d < 65536 := by omega
    have word : ∀ k wd : Int, bits .or .u32 wd 0 = wd → rows8.find? (fun x => x.k == k) = some ⟨k, wd, false⟩ → (if d = 0 then ((wd, true) : Int × Bool) else (0, false)) = ((codeIn rows8 k d).1, (codeIn rows8 k d).2 == 0) := by
      intro k wd hw h
      rw [code_word k wd d h]
      split
      · rename_i hz; rw [hz, hw]; rfl
      · rfl
    have num : ∀ (k : Int) (m : Nat), m < 65536 → rows8.find? (fun x => x.k == k) = some ⟨k, ((m * 65536 : Nat) : Int), true⟩ → ((((m * 65536 : Nat) : Int) + d, true) : Int × Bool) = ((codeIn rows8 k d).1, (codeIn rows8 k d).2 == 0) := by
      intro k m hm h
      rw [code_num k _ d h, or32 m hm d h0 hn]; rfl
    unfold actionP
    by_cases h1 : k = 1
    · subst h1; rw [if_pos rfl]; exact word 1 _ (by decide) rfl
    rw [if_neg h1]
    by_cases h2 : k = 2
    · subst h2; rw [if_pos rfl]; exact word 2 _ (by decide) rfl
    rw [if_neg h2]
    by_cases h3 : k = 3
    · subst h3; rw [if_pos rfl, if_pos (by omega)]; exact num 3 3 (by decide) rfl
    rw [if_neg h3]
    by_cases h4 : k = 4
    · subst h4; rw [if_pos rfl, if_pos (by omega)]; exact num 4 5 (by decide) rfl
    rw [if_neg h4]
    by_cases h5 : k = 5
    · subst h5; rw [if_pos rfl]; exact word 5 _ (by decide) rfl
    rw [if_neg h5]
    by_cases h6 : k = 6
    · subst h6; rw [if_pos rfl, if_pos (by omega)]; exact num 6 32752 (by decide) rfl
    rw [if_neg h6]
    by_cases h7 : k = 7
    · subst h7; rw [if_pos rfl]; exact word 7 _ (by decide) rfl
    rw [if_neg h7]
    by_cases h8 : k = 8
    · subst h8; rw [if_pos rfl]; exact word 8 _ (by decide) rfl
    rw [if_neg h8, code_none k d h1 h2 h3 h4 h5 h6 h7 h8]; rfl
set_option maxHeartbeats 800000 in
theorem Action_c (k d : Int) (hd : 0 ≤ d ∧ d < 18446744073709551616) (w : World) : Calls Try.prog 28 #[.agg #[.int .i64 k, .int .u64 d]] w (NumPost7 (actionP k d) w) := by
  have hac := action_code k d hd.1
  by_cases h1 : 65535 < d
  · have HF : Hid (actionP k d = (0, false)) := Lib.hid (by rw [hac, if_pos (Or.inl h1)])
    have h1' : decide (65535 < d) = true := decide_eq_true h1
    clear hac hd
    go_enter Try.func28, Try.ntmps28
    go_wp2
    go_ret2
    exact ⟨ret_ub (by rw [HF.out]) (by rw [HF.out]), below1 w _⟩
  · have h1' : decide (65535 < d) = false := decide_eq_false h1
    by_cases h2 : k = 4 ∧ 4095 < d
    · have HF : Hid (actionP k d = (0, false)) := Lib.hid (by rw [hac, if_pos (Or.inr h2)])
      obtain ⟨rfl, h2⟩ := h2
      have h2' : decide (4095 < d) = true := decide_eq_true h2
      clear hac hd
      go_enter Try.func28, Try.ntmps28
      go_wp2
      go_ret2
      exact ⟨ret_ub (by rw [HF.out]) (by rw [HF.out]), below1 w _⟩
    · rw [if_neg (by rintro (h | h); exact h1 h; exact h2 h)] at hac
      have HF := Lib.hid hac
      have hd0 := hd.1
      have hd1 : d < 65536 := by omega
      have HC := Lib.hid (fun w => Code_c k d ⟨hd0, hd1⟩ w)
      have hw : IntKind.u16.wrap d = d := by rw [IntKind.wrap_u16]; omega
      have hk : (k == 4) = false ∨ (k = 4 ∧ decide (4095 < d) = false) := by
        by_cases h : k = 4
        · exact Or.inr ⟨h, decide_eq_false (fun h' => h2 ⟨h, h'⟩)⟩
        · exact Or.inl (by simpa using h)
      clear hac hd h1 h2
      rcases hk with hk | ⟨rfl, hk⟩
      all_goals (
        go_enter Try.func28, Try.ntmps28
        go_wp2_with fail
        refine (HC.out _).mono ?_
        rintro e w1 ⟨rfl, hb⟩
        have HB := Lib.hid (below_t (below1 w _) hb)
        clear hb
        go_wp2
        go_ret2
        exact ⟨ret_ub (by rw [HF.out]) (by rw [HF.out]), HB.out⟩)
set_option maxHeartbeats 800000 in
theorem rAction_c (k d : Int) (hd : 0 ≤ d ∧ d < 18446744073709551616) (w : World) : Calls Try.prog 29 #[.agg #[.int .i64 k, .int .u64 d]] w (NumPost7 (actionP k d) w) := by
  have HF : Hid (actionP k d = if (k == 1) = true then (if d = 0 then (2147483648, true) else (0, false)) else if (k == 2) = true then (if d = 0 then (0, true) else (0, false))
    else if (k == 3) = true then (if d ≤ 65535 then (196608 + d, true) else (0, false)) else if (k == 4) = true then (if d ≤ 4095 then (327680 + d, true) else (0, false))
    else if (k == 5) = true then (if d = 0 then (2143289344, true) else (0, false)) else if (k == 6) = true then (if d ≤ 65535 then (2146435072 + d, true) else (0, false))
    else if (k == 7) = true then (if d = 0 then (2147221504, true) else (0, false)) else if (k == 8) = true then (if d = 0 then (2147418112, true) else (0, false)) else (0, false)) := Lib.hid (by unfold actionP; simp only [beq_iff_eq])
  obtain ⟨hd0, hd1⟩ := hd
  have HD := Lib.hid hd1
  clear hd1
  go_enter Try.func29, Try.ntmps29
  go_wp2
  all_goals go_ret2
  all_goals refine ⟨ret_ub ?_ ?_, below1 w _⟩
  all_goals rw [HF.out]
  all_goals simp only [*, Bool.false_eq_true, if_true, if_false]
  all_goals repeat' split
  all_goals first | rfl | (show _ = _; dsimp only; omega)
end Go.Proofs.Ytebkbcpnjknkjaa
