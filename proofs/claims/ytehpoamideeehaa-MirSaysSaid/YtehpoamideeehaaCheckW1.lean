import Derived.Test.YtehpoamideeehaaCheckPure
set_option linter.unusedVariables false
set_option linter.unusedSimpArgs false
namespace Go.Proofs.Ytehpoamideeehaa
open Go.RowKit
/-! check.Seals, check.is, check.rules and its closures: the walks. -/

set_option maxHeartbeats 1000000 in
theorem Seals_w (c : Int) (h0 : 0 ≤ c) (h1 : c < 65536) (w : World) : Calls Try.prog 63 #[.int .u16 c] w fun e w' => e = .returned (.bool (sealsP c)) ∧ w = w' := by
  go_enter Try.func63, Try.ntmps63
  go_wp2
  all_goals go_ret
  all_goals (refine ⟨ret_b ?_, rfl⟩; unfold sealsP)
  all_goals first | (simp [*]; done) | grind
theorem Seals_c (c : Int) (h0 : 0 ≤ c) (h1 : c < 65536) (w : World) : Calls Try.prog 63 #[.int .u16 c] w fun e w' => e = .returned (.bool (sealsL c)) ∧ w = w' := by
  rw [← sealsP_eq c h0 h1]; exact Seals_w c h0 h1 w

/-- A row of u16 codes at block G. -/
def Codes (w : World) (G : Nat) (l : List Int) : Prop := ∀ i x, l[i]? = some x → w.cell? ⟨G, i, none⟩ = some (.int .u16 x)
/-- A captured slice of codes. -/
def CodesAt (w : World) (B : Nat) (l : List Int) : Prop := B < w.heap.size ∧ ∃ G, G < w.heap.size ∧ w.cell? ⟨B, 0, none⟩ = some (.slice (some ⟨G, 0, none⟩) l.length l.length) ∧ Codes w G l
theorem CodesAt.keep {w w' : World} {B : Nat} {l : List Int} (h : CodesAt w B l) (hb : Below w.heap.size w w') : CodesAt w' B l := by
  obtain ⟨h1, G, h2, h3, h4⟩ := h
  exact ⟨Nat.lt_of_lt_of_le h1 hb.size, G, Nat.lt_of_lt_of_le h2 hb.size, (hb.cell (p := ⟨B, 0, none⟩) h1).trans h3, fun i x hx => (hb.cell (p := ⟨G, i, none⟩) h2).trans (h4 i x hx)⟩

def memC (c : Int) (l : List Int) : Bool := decide (c ∈ l)
set_option maxHeartbeats 400000 in
theorem is1_c (x : I4) (B : Nat) (l : List Int) (w : World) (hl : l.length ≤ 100) (h : CodesAt w B l) :
    Calls Try.prog 85 #[.agg #[.int .u16 x.c, .int .u8 x.j, .int .u8 x.f, .int .u32 x.k], .pointer (some ⟨B, 0, none⟩)] w fun e w' => e = .returned (.bool (memC x.c l)) ∧ Below w.heap.size w w' := by
  obtain ⟨hBl, G, hGl, hB, hG⟩ := h
  obtain ⟨c, j, f, k⟩ := x
  dsimp only
  go_enter Try.func85, Try.ntmps85
  go_wp2
  go_loop [3, 8] (fun s3 s8 => ∃ n : Nat, n ≤ l.length ∧ s8 = .int .i64 n ∧ s3 = .bool false ∧ ∀ i, i < n → l[i]? ≠ some c) (fun _ i => l.length - (intOf i).toNat)
  case atStart => exact ⟨0, Nat.zero_le _, rfl, rfl, fun i h => by omega⟩
  case round =>
    obtain ⟨n, hn, rfl, rfl, hno⟩ := hrel
    by_cases hlt : n < l.length
    · have hc := hG n l[n] (List.getElem?_eq_getElem hlt)
      by_cases hx : c = l[n]
      · have hx' : (c == l[n]) = true := by simpa using hx
        have hr : memC c l = true := by rw [hx]; simp [memC]
        clear hno hG hx
        go_wp2
        go_ret
        exact ⟨rfl, below1 _ _⟩
      · have hx' : (c == l[n]) = false := by simpa using hx
        have hno' : ∀ i, i < n + 1 → l[i]? ≠ some c := by
          intro i hi
          rcases Nat.lt_succ_iff_lt_or_eq.1 hi with h | rfl
          · exact hno i h
          · rw [List.getElem?_eq_getElem hlt]; intro h; injection h with h; exact hx h.symm
        clear hno hG hx
        go_wp2
        go_round
        case rel => exact ⟨n + 1, by omega, by go_num, rfl, hno'⟩
        case measure => simp [intOf]; omega
    · have hr : memC c l = false := by
        have : n = l.length := by omega
        subst this
        simp only [memC, decide_eq_false_iff_not]
        intro hm
        obtain ⟨i, hi, h⟩ := List.getElem_of_mem hm
        exact hno i hi (by rw [List.getElem?_eq_getElem hi, h])
      clear hno hG
      go_wp2
      go_ret
      exact ⟨rfl, below1 _ _⟩

/-- What each of the six rules says of an instruction with so many behind it. -/
def br0 (x : I4) (left : Int) : Bool := !sealsL x.c
def br1 (x : I4) (left : Int) : Bool := if x.c = 5 then decide (left ≤ x.k) else (bits .and .u16 x.c 7 == 5) && (decide (left ≤ x.j) || decide (left ≤ x.f))
def br2 (x : I4) (left : Int) : Bool := memC x.c [32] && (x.k % 4 != 0 || decide (64 ≤ x.k))
def br3 (x : I4) (left : Int) : Bool := memC x.c [52] && (x.k == 0)
def br4 (x : I4) (left : Int) : Bool := memC x.c [100, 116] && decide (31 < x.k)
def br5 (x : I4) (left : Int) : Bool := memC x.c [96, 97, 2, 3] && decide (16 ≤ x.k)

set_option maxHeartbeats 400000 in
theorem rules1_c (x : I4) (hx : x.ok) (left : Int) (h0 : 0 ≤ left) (h1 : left < 18446744073709551616) (w : World) :
    Calls Try.prog 62 #[.agg #[.int .u16 x.c, .int .u8 x.j, .int .u8 x.f, .int .u32 x.k], .int .u64 left] w fun e w' => e = .returned (.bool (br0 x left)) ∧ Below w.heap.size w w' := by
  obtain ⟨c, j, f, k⟩ := x
  obtain ⟨a1, a2, a3, a4, a5, a6, a7, a8⟩ := hx
  dsimp only at a1 a2 a3 a4 a5 a6 a7 a8
  dsimp only
  go_enter Try.func62, Try.ntmps62
  go_wp2_with (go_at_call 63; refine (Seals_c c a1 a2 _).mono ?_; rintro e w' ⟨rfl, rfl⟩)
  go_ret
  exact ⟨rfl, below1 _ _⟩
set_option maxHeartbeats 400000 in
theorem rules2_c (x : I4) (hx : x.ok) (left : Int) (h0 : 0 ≤ left) (h1 : left < 18446744073709551616) (w : World) :
    Calls Try.prog 64 #[.agg #[.int .u16 x.c, .int .u8 x.j, .int .u8 x.f, .int .u32 x.k], .int .u64 left] w fun e w' => e = .returned (.bool (br1 x left)) ∧ Below w.heap.size w w' := by
  obtain ⟨c, j, f, k⟩ := x
  obtain ⟨a1, a2, a3, a4, a5, a6, a7, a8⟩ := hx
  dsimp only at a1 a2 a3 a4 a5 a6 a7 a8
  dsimp only
  go_enter Try.func64, Try.ntmps64
  go_wp2
  all_goals go_ret
  all_goals (refine ⟨ret_b ?_, below1 _ _⟩; unfold br1; dsimp only; grind)
set_option maxHeartbeats 400000 in
theorem rules3_c (x : I4) (hx : x.ok) (left : Int) (h0 : 0 ≤ left) (h1 : left < 18446744073709551616) (B G : Nat) (w : World) (hB : w.cell? ⟨B, 0, none⟩ = some (.func (.func 85) #[] #[.pointer (some ⟨G, 0, none⟩)])) (hBl : B < w.heap.size) (hG : CodesAt w G [32]) :
    Calls Try.prog 65 #[.agg #[.int .u16 x.c, .int .u8 x.j, .int .u8 x.f, .int .u32 x.k], .int .u64 left, .pointer (some ⟨B, 0, none⟩)] w fun e w' => e = .returned (.bool (br2 x left)) ∧ Below w.heap.size w w' := by
  have hG' := fun (o : Obj) => hG.keep (below1 w o)
  obtain ⟨c, j, f, k⟩ := x
  obtain ⟨a1, a2, a3, a4, a5, a6, a7, a8⟩ := hx
  dsimp only at a1 a2 a3 a4 a5 a6 a7 a8
  dsimp only
  go_enter Try.func65, Try.ntmps65
  go_wp2_with fail
  refine (is1_c ⟨c, j, f, k⟩ G [32] _ (by decide) (hG' _)).mono ?_
  rintro e w1 ⟨rfl, hb⟩
  obtain ⟨hc1, hf1⟩ := bcell hb
  have hbw := below_t (below1 w _) hb
  clear hG hG'
  by_cases hm : memC c [32] = true
  all_goals
    try simp only [Bool.not_eq_true] at hm
    go_wp2
    all_goals go_ret
    all_goals (refine ⟨ret_b ?_, hbw⟩; unfold br2; dsimp only; first | (simp [*]; done) | grind)
set_option maxHeartbeats 400000 in
theorem rules4_c (x : I4) (hx : x.ok) (left : Int) (h0 : 0 ≤ left) (h1 : left < 18446744073709551616) (B G : Nat) (w : World) (hB : w.cell? ⟨B, 0, none⟩ = some (.func (.func 85) #[] #[.pointer (some ⟨G, 0, none⟩)])) (hBl : B < w.heap.size) (hG : CodesAt w G [52]) :
    Calls Try.prog 66 #[.agg #[.int .u16 x.c, .int .u8 x.j, .int .u8 x.f, .int .u32 x.k], .int .u64 left, .pointer (some ⟨B, 0, none⟩)] w fun e w' => e = .returned (.bool (br3 x left)) ∧ Below w.heap.size w w' := by
  have hG' := fun (o : Obj) => hG.keep (below1 w o)
  obtain ⟨c, j, f, k⟩ := x
  obtain ⟨a1, a2, a3, a4, a5, a6, a7, a8⟩ := hx
  dsimp only at a1 a2 a3 a4 a5 a6 a7 a8
  dsimp only
  go_enter Try.func66, Try.ntmps66
  go_wp2_with fail
  refine (is1_c ⟨c, j, f, k⟩ G [52] _ (by decide) (hG' _)).mono ?_
  rintro e w1 ⟨rfl, hb⟩
  obtain ⟨hc1, hf1⟩ := bcell hb
  have hbw := below_t (below1 w _) hb
  clear hG hG'
  by_cases hm : memC c [52] = true
  all_goals
    try simp only [Bool.not_eq_true] at hm
    go_wp2
    all_goals go_ret
    all_goals (refine ⟨ret_b ?_, hbw⟩; unfold br3; dsimp only; first | (simp [*]; done) | grind)
set_option maxHeartbeats 400000 in
theorem rules5_c (x : I4) (hx : x.ok) (left : Int) (h0 : 0 ≤ left) (h1 : left < 18446744073709551616) (B G : Nat) (w : World) (hB : w.cell? ⟨B, 0, none⟩ = some (.func (.func 85) #[] #[.pointer (some ⟨G, 0, none⟩)])) (hBl : B < w.heap.size) (hG : CodesAt w G [100, 116]) :
    Calls Try.prog 67 #[.agg #[.int .u16 x.c, .int .u8 x.j, .int .u8 x.f, .int .u32 x.k], .int .u64 left, .pointer (some ⟨B, 0, none⟩)] w fun e w' => e = .returned (.bool (br4 x left)) ∧ Below w.heap.size w w' := by
  have hG' := fun (o : Obj) => hG.keep (below1 w o)
  obtain ⟨c, j, f, k⟩ := x
  obtain ⟨a1, a2, a3, a4, a5, a6, a7, a8⟩ := hx
  dsimp only at a1 a2 a3 a4 a5 a6 a7 a8
  dsimp only
  go_enter Try.func67, Try.ntmps67
  go_wp2_with fail
  refine (is1_c ⟨c, j, f, k⟩ G [100, 116] _ (by decide) (hG' _)).mono ?_
  rintro e w1 ⟨rfl, hb⟩
  obtain ⟨hc1, hf1⟩ := bcell hb
  have hbw := below_t (below1 w _) hb
  clear hG hG'
  by_cases hm : memC c [100, 116] = true
  all_goals
    try simp only [Bool.not_eq_true] at hm
    go_wp2
    all_goals go_ret
    all_goals (refine ⟨ret_b ?_, hbw⟩; unfold br4; dsimp only; first | (simp [*]; done) | grind)
set_option maxHeartbeats 400000 in
theorem rules6_c (x : I4) (hx : x.ok) (left : Int) (h0 : 0 ≤ left) (h1 : left < 18446744073709551616) (B G : Nat) (w : World) (hB : w.cell? ⟨B, 0, none⟩ = some (.func (.func 85) #[] #[.pointer (some ⟨G, 0, none⟩)])) (hBl : B < w.heap.size) (hG : CodesAt w G [96, 97, 2, 3]) :
    Calls Try.prog 68 #[.agg #[.int .u16 x.c, .int .u8 x.j, .int .u8 x.f, .int .u32 x.k], .int .u64 left, .pointer (some ⟨B, 0, none⟩)] w fun e w' => e = .returned (.bool (br5 x left)) ∧ Below w.heap.size w w' := by
  have hG' := fun (o : Obj) => hG.keep (below1 w o)
  obtain ⟨c, j, f, k⟩ := x
  obtain ⟨a1, a2, a3, a4, a5, a6, a7, a8⟩ := hx
  dsimp only at a1 a2 a3 a4 a5 a6 a7 a8
  dsimp only
  go_enter Try.func68, Try.ntmps68
  go_wp2_with fail
  refine (is1_c ⟨c, j, f, k⟩ G [96, 97, 2, 3] _ (by decide) (hG' _)).mono ?_
  rintro e w1 ⟨rfl, hb⟩
  obtain ⟨hc1, hf1⟩ := bcell hb
  have hbw := below_t (below1 w _) hb
  clear hG hG'
  by_cases hm : memC c [96, 97, 2, 3] = true
  all_goals
    try simp only [Bool.not_eq_true] at hm
    go_wp2
    all_goals go_ret
    all_goals (refine ⟨ret_b ?_, hbw⟩; unfold br5; dsimp only; first | (simp [*]; done) | grind)
end Go.Proofs.Ytehpoamideeehaa
