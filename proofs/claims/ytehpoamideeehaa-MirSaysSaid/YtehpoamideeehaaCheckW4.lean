import Derived.Test.YtehpoamideeehaaCheckW1
import Derived.BigQuiet
import Derived.Deep.QuietTactic
import Derived.StillTailTactics
set_option linter.unusedVariables false
set_option linter.unusedSimpArgs false
namespace Go.Proofs.Ytehpoamideeehaa
open Go.RowKit
/-- The slice of rules, as it lies in memory. -/
def RulesAt (w : World) (R : Nat) : Prop := R < w.heap.size ∧ ∃ B2 B3 B4 B5 G2 G3 G4 G5,
  (w.cell? ⟨R, 0, none⟩ = some (.int .i64 42) ∧ w.cell? ⟨R, 1, none⟩ = some (.func (.func 62) #[] #[]) ∧
   w.cell? ⟨R, 2, none⟩ = some (.int .i64 43) ∧ w.cell? ⟨R, 3, none⟩ = some (.func (.func 64) #[] #[]) ∧
   w.cell? ⟨R, 4, none⟩ = some (.int .i64 44) ∧ w.cell? ⟨R, 5, none⟩ = some (.func (.func 65) #[] #[.pointer (some ⟨B2, 0, none⟩)]) ∧
   w.cell? ⟨R, 6, none⟩ = some (.int .i64 45) ∧ w.cell? ⟨R, 7, none⟩ = some (.func (.func 66) #[] #[.pointer (some ⟨B3, 0, none⟩)]) ∧
   w.cell? ⟨R, 8, none⟩ = some (.int .i64 46) ∧ w.cell? ⟨R, 9, none⟩ = some (.func (.func 67) #[] #[.pointer (some ⟨B4, 0, none⟩)]) ∧
   w.cell? ⟨R, 10, none⟩ = some (.int .i64 47) ∧ w.cell? ⟨R, 11, none⟩ = some (.func (.func 68) #[] #[.pointer (some ⟨B5, 0, none⟩)])) ∧
  (w.cell? ⟨B2, 0, none⟩ = some (.func (.func 85) #[] #[.pointer (some ⟨G2, 0, none⟩)]) ∧ B2 < w.heap.size ∧ CodesAt w G2 [32]) ∧
  (w.cell? ⟨B3, 0, none⟩ = some (.func (.func 85) #[] #[.pointer (some ⟨G3, 0, none⟩)]) ∧ B3 < w.heap.size ∧ CodesAt w G3 [52]) ∧
  (w.cell? ⟨B4, 0, none⟩ = some (.func (.func 85) #[] #[.pointer (some ⟨G4, 0, none⟩)]) ∧ B4 < w.heap.size ∧ CodesAt w G4 [100, 116]) ∧
  (w.cell? ⟨B5, 0, none⟩ = some (.func (.func 85) #[] #[.pointer (some ⟨G5, 0, none⟩)]) ∧ B5 < w.heap.size ∧ CodesAt w G5 [96, 97, 2, 3])
theorem box_keep {w w' : World} {B G : Nat} {v : Value} {l : List Int} (h : w.cell? ⟨B, 0, none⟩ = some v ∧ B < w.heap.size ∧ CodesAt w G l) (hb : Below w.heap.size w w') : w'.cell? ⟨B, 0, none⟩ = some v ∧ B < w'.heap.size ∧ CodesAt w' G l :=
  ⟨(hb.cell (p := ⟨B, 0, none⟩) h.2.1).trans h.1, Nat.lt_of_lt_of_le h.2.1 hb.size, h.2.2.keep hb⟩
theorem RulesAt.keep {w w' : World} {R : Nat} (h : RulesAt w R) (hb : Below w.heap.size w w') : RulesAt w' R := by
  obtain ⟨h0, B2, B3, B4, B5, G2, G3, G4, G5, ⟨c0, c1, c2, c3, c4, c5, c6, c7, c8, c9, c10, c11⟩, k2, k3, k4, k5⟩ := h
  have hc : ∀ o, w'.cell? ⟨R, o, none⟩ = w.cell? ⟨R, o, none⟩ := fun o => hb.cell (p := ⟨R, o, none⟩) h0
  refine ⟨Nat.lt_of_lt_of_le h0 hb.size, B2, B3, B4, B5, G2, G3, G4, G5, ⟨?_, ?_, ?_, ?_, ?_, ?_, ?_, ?_, ?_, ?_, ?_, ?_⟩, box_keep k2 hb, box_keep k3 hb, box_keep k4 hb, box_keep k5 hb⟩
  all_goals (rw [hc]; assumption)
def rulesRow (s : Nat) : Array Value := #[.int .i64 42, .func (.func 62) #[] #[], .int .i64 43, .func (.func 64) #[] #[], .int .i64 44, .func (.func 65) #[] #[.pointer (some ⟨s + 4, 0, none⟩)], .int .i64 45, .func (.func 66) #[] #[.pointer (some ⟨s + 5, 0, none⟩)],
     .int .i64 46, .func (.func 67) #[] #[.pointer (some ⟨s + 8, 0, none⟩)], .int .i64 47, .func (.func 68) #[] #[.pointer (some ⟨s + 11, 0, none⟩)]]
def rulesObjs (s : Nat) : List Obj :=
  [.cells #[.int .u16 32] 45, .cells #[.slice (some ⟨s, 0, none⟩) 1 1] 120, .cells #[.int .u16 52] 45, .cells #[.slice (some ⟨s + 2, 0, none⟩) 1 1] 120,
   .cells #[.func (.func 85) #[] #[.pointer (some ⟨s + 1, 0, none⟩)]] 111, .cells #[.func (.func 85) #[] #[.pointer (some ⟨s + 3, 0, none⟩)]] 111,
   .cells #[.int .u16 100, .int .u16 116] 45, .cells #[.slice (some ⟨s + 6, 0, none⟩) 2 2] 120, .cells #[.func (.func 85) #[] #[.pointer (some ⟨s + 7, 0, none⟩)]] 111,
   .cells #[.int .u16 96, .int .u16 97, .int .u16 2, .int .u16 3] 45, .cells #[.slice (some ⟨s + 9, 0, none⟩) 4 4] 120, .cells #[.func (.func 85) #[] #[.pointer (some ⟨s + 10, 0, none⟩)]] 111,
   .cells (rulesRow s) 115]
theorem codes_al (w : World) (L : List Obj) (B G : Nat) (l : List Int) (hB : L[B]? = some (.cells #[.slice (some ⟨w.heap.size + G, 0, none⟩) l.length l.length] 120)) (hG : L[G]? = some (.cells (l.map (Value.int .u16)).toArray 45)) : CodesAt (al w L) (w.heap.size + B) l := by
  have hBl := (List.getElem?_eq_some_iff.1 hB).1
  have hGl := (List.getElem?_eq_some_iff.1 hG).1
  refine ⟨by rw [al_size]; omega, w.heap.size + G, by rw [al_size]; omega, by rw [al_cell w L B hB]; rfl, fun i x hx => ?_⟩
  rw [al_cell w L G hG]
  simp [hx]
theorem box_al (w : World) (L : List Obj) (B G : Nat) (l : List Int) (hB : L[B]? = some (.cells #[.func (.func 85) #[] #[.pointer (some ⟨w.heap.size + G, 0, none⟩)]] 111)) (hC : CodesAt (al w L) (w.heap.size + G) l) :
    (al w L).cell? ⟨w.heap.size + B, 0, none⟩ = some (.func (.func 85) #[] #[.pointer (some ⟨w.heap.size + G, 0, none⟩)]) ∧ w.heap.size + B < (al w L).heap.size ∧ CodesAt (al w L) (w.heap.size + G) l :=
  ⟨by rw [al_cell w L B hB]; rfl, by rw [al_size]; have := (List.getElem?_eq_some_iff.1 hB).1; omega, hC⟩
theorem rules_cell (w : World) (j : Nat) : (al w (rulesObjs w.heap.size)).cell? ⟨w.heap.size + 12, j, none⟩ = (rulesRow w.heap.size)[j]? := al_cell w (rulesObjs w.heap.size) 12 (c := rulesRow w.heap.size) (t := 115) (fr := (0, 0)) rfl j
theorem rulesAt_al (w : World) : RulesAt (al w (rulesObjs w.heap.size)) (w.heap.size + 12) := by
  have hs : (al w (rulesObjs w.heap.size)).heap.size = w.heap.size + 13 := al_size _ _
  refine ⟨by omega, w.heap.size + 4, w.heap.size + 5, w.heap.size + 8, w.heap.size + 11, w.heap.size + 1, w.heap.size + 3, w.heap.size + 7, w.heap.size + 10,
    ⟨(rules_cell w 0).trans rfl, (rules_cell w 1).trans rfl, (rules_cell w 2).trans rfl, (rules_cell w 3).trans rfl, (rules_cell w 4).trans rfl, (rules_cell w 5).trans rfl, (rules_cell w 6).trans rfl, (rules_cell w 7).trans rfl, (rules_cell w 8).trans rfl, (rules_cell w 9).trans rfl, (rules_cell w 10).trans rfl, (rules_cell w 11).trans rfl⟩,
    box_al w _ 4 1 [32] rfl (codes_al w _ 1 0 [32] rfl rfl), box_al w _ 5 3 [52] rfl (codes_al w _ 3 2 [52] rfl rfl), box_al w _ 8 7 [100, 116] rfl (codes_al w _ 7 6 [100, 116] rfl rfl), box_al w _ 11 10 [96, 97, 2, 3] rfl (codes_al w _ 10 9 [96, 97, 2, 3] rfl rfl)⟩
def SomeRules (w : World) (e : Ending) (w' : World) : Prop := ∃ R, e = .returned (.slice (some ⟨R, 0, none⟩) 6 6) ∧ RulesAt w' R ∧ Below w.heap.size w w'
set_option maxHeartbeats 1000000 in
theorem rules_c (w : World) : Calls Try.prog 33 #[] w (SomeRules w) := by
  have hmf : ∀ (fn : Fn) (first cap : Array Value) (w : World), (Instr.makeFunc fn first cap).run Try.prog w = .ok (.func fn first cap) w := fun _ _ _ _ => rfl
  go_enter Try.func33, Try.ntmps33
  go_wp2
  go_ret
  exact ⟨w.heap.size + 12, rfl, rulesAt_al w, al_below w (rulesObjs w.heap.size)⟩
end Go.Proofs.Ytehpoamideeehaa
set_option linter.unusedVariables false
set_option linter.unusedSimpArgs false
namespace Go.Proofs.Ytehpoamideeehaa
open Go.RowKit
/-- The rules by number: which number of an error, and when. -/
def brk (x : I4) (left : Int) : List (Int × Bool) := [(42, br0 x left), (43, br1 x left), (44, br2 x left), (45, br3 x left), (46, br4 x left), (47, br5 x left)]
def firstOf : List (Int × Bool) → Int
  | [] => 0
  | (e, b) :: l => if b then e else firstOf l
def oneP (x : I4) (left : Int) : Int := firstOf (brk x left)

/-- Each rule's function value, and its contract wherever memory has grown. -/
def RuleFn (w : World) (R n : Nat) (e : Int) (br : I4 → Int → Bool) : Prop :=
  w.cell? ⟨R, n * 2, none⟩ = some (.int .i64 e) ∧ ∃ fn cap, w.cell? ⟨R, n * 2 + 1, none⟩ = some (.func (.func fn) #[] cap) ∧ (∀ args w, Sem.run Try.prog (callFunc fn args) w = .ok (.enter fn args) w) ∧
    ∀ (x : I4), x.ok → ∀ left : Int, 0 ≤ left → left < 18446744073709551616 → ∀ w', Below w.heap.size w w' → Calls Try.prog fn (#[.agg #[.int .u16 x.c, .int .u8 x.j, .int .u8 x.f, .int .u32 x.k], .int .u64 left] ++ cap) w' fun e w'' => e = .returned (.bool (br x left)) ∧ Below w'.heap.size w' w''
theorem ruleFns {w : World} {R : Nat} (h : RulesAt w R) : RuleFn w R 0 42 br0 ∧ RuleFn w R 1 43 br1 ∧ RuleFn w R 2 44 br2 ∧ RuleFn w R 3 45 br3 ∧ RuleFn w R 4 46 br4 ∧ RuleFn w R 5 47 br5 := by
  obtain ⟨h0, B2, B3, B4, B5, G2, G3, G4, G5, ⟨c0, c1, c2, c3, c4, c5, c6, c7, c8, c9, c10, c11⟩, k2, k3, k4, k5⟩ := h
  refine ⟨⟨c0, _, _, c1, by intros; go_simp, ?_⟩, ⟨c2, _, _, c3, by intros; go_simp, ?_⟩, ⟨c4, _, _, c5, by intros; go_simp, ?_⟩, ⟨c6, _, _, c7, by intros; go_simp, ?_⟩, ⟨c8, _, _, c9, by intros; go_simp, ?_⟩, ⟨c10, _, _, c11, by intros; go_simp, ?_⟩⟩
  · intro x hx left hl0 hl1 w' hb; exact rules1_c x hx left hl0 hl1 w'
  · intro x hx left hl0 hl1 w' hb; exact rules2_c x hx left hl0 hl1 w'
  · intro x hx left hl0 hl1 w' hb; obtain ⟨a, b, c⟩ := box_keep k2 hb; exact rules3_c x hx left hl0 hl1 B2 G2 w' a b c
  · intro x hx left hl0 hl1 w' hb; obtain ⟨a, b, c⟩ := box_keep k3 hb; exact rules4_c x hx left hl0 hl1 B3 G3 w' a b c
  · intro x hx left hl0 hl1 w' hb; obtain ⟨a, b, c⟩ := box_keep k4 hb; exact rules5_c x hx left hl0 hl1 B4 G4 w' a b c
  · intro x hx left hl0 hl1 w' hb; obtain ⟨a, b, c⟩ := box_keep k5 hb; exact rules6_c x hx left hl0 hl1 B5 G5 w' a b c
def ruleN : Nat → Int × (I4 → Int → Bool)
  | 0 => (42, br0) | 1 => (43, br1) | 2 => (44, br2) | 3 => (45, br3) | 4 => (46, br4) | _ => (47, br5)
theorem ruleFn {w : World} {R : Nat} (h : RulesAt w R) (n : Nat) (hn : n < 6) : RuleFn w R n (ruleN n).1 (ruleN n).2 := by
  obtain ⟨h0, h1, h2, h3, h4, h5⟩ := ruleFns h
  match n, hn with
  | 0, _ => exact h0 | 1, _ => exact h1 | 2, _ => exact h2 | 3, _ => exact h3 | 4, _ => exact h4 | 5, _ => exact h5
theorem oneP_no (x : I4) (left : Int) (h : ∀ i, i < 6 → (ruleN i).2 x left = false) : oneP x left = 0 := by
  have := h 0 (by omega); have := h 1 (by omega); have := h 2 (by omega); have := h 3 (by omega); have := h 4 (by omega); have := h 5 (by omega)
  simp_all [oneP, brk, firstOf, ruleN]
theorem oneP_yes (x : I4) (left : Int) (n : Nat) (hn : n < 6) (h : ∀ i, i < n → (ruleN i).2 x left = false) (hy : (ruleN n).2 x left = true) : oneP x left = (ruleN n).1 := by
  have g := fun i hi => h i hi
  match n, hn with
  | 0, _ => simp_all [oneP, brk, firstOf, ruleN]
  | 1, _ => have := g 0 (by omega); simp_all [oneP, brk, firstOf, ruleN]
  | 2, _ => have := g 0 (by omega); have := g 1 (by omega); simp_all [oneP, brk, firstOf, ruleN]
  | 3, _ => have := g 0 (by omega); have := g 1 (by omega); have := g 2 (by omega); simp_all [oneP, brk, firstOf, ruleN]
  | 4, _ => have := g 0 (by omega); have := g 1 (by omega); have := g 2 (by omega); have := g 3 (by omega); simp_all [oneP, brk, firstOf, ruleN]
  | 5, _ => have := g 0 (by omega); have := g 1 (by omega); have := g 2 (by omega); have := g 3 (by omega); have := g 4 (by omega); simp_all [oneP, brk, firstOf, ruleN]

theorem left_in (at_ n : Nat) (h : at_ < n) (hn : n ≤ 9223372036854775807) : wrap64 (wrap64 ((n : Int) - at_) - 1) = (n - at_ - 1 : Nat) := by unfold wrap64; omega
set_option maxHeartbeats 1000000 in
set_option maxRecDepth 100000 in
theorem one_c (R : Nat) (A : Option Addr) (cap at_ : Nat) (q : List I4) (x : I4) (hx : q[at_]? = some x) (hq : ∀ x ∈ q, x.ok) (hn : q.length ≤ 9223372036854775807) (w : World) (hR : RulesAt w R) (hr : Reads w w.heap.size 4 A q.length (cellsI q)) :
    Calls Try.prog 34 #[.slice (some ⟨R, 0, none⟩) 6 6, .slice A q.length cap, .int .i64 at_] w fun e w' => e = .returned (.int .i64 (oneP x (q.length - at_ - 1 : Nat))) ∧ Below w.heap.size w w' := by
  have hlt : at_ < q.length := (List.getElem?_eq_some_iff.1 hx).1
  have hok := hq x (List.mem_of_getElem? hx)
  have hleft := left_in at_ q.length hlt hn
  obtain ⟨L, hL⟩ : ∃ L : Nat, L = q.length - at_ - 1 := ⟨_, rfl⟩
  have HX := Lib.hid (show (L : Int) = (q.length : Int) - at_ - 1 by omega)
  rw [← hL] at hleft ⊢
  have hL2 : L < 9223372036854775807 := by omega
  clear hL
  obtain ⟨b, off, rfl, hb, i0, i1, i2, i3⟩ := hr.insn hx
  clear hleft hr hq hx
  go_enter Try.func34, Try.ntmps34
  go_wp2
  go_loopw [6, 11] (fun s6 s11 wr => ∃ n : Nat, n ≤ 6 ∧ s11 = .int .i64 n ∧ s6 = .int .i64 0 ∧ Below w.heap.size w wr ∧ ∀ i, i < n → (ruleN i).2 x L = false) (fun _ i _ => 6 - (intOf i).toNat)
  case atStart => exact ⟨0, by omega, rfl, rfl, Below.refl _ _, fun i h => by omega⟩
  case round =>
    obtain ⟨n, hn6, rfl, rfl, hB, hno⟩ := hrel
    by_cases h6 : n < 6
    · obtain ⟨r0, fn, cp, r1, hfn, hcall⟩ := ruleFn (hR.keep hB) n h6
      have hRl : R < wr.heap.size := (hR.keep hB).1
      have hbl : b < wr.heap.size := Nat.lt_of_lt_of_le hb hB.size
      obtain ⟨hc, hf⟩ := bcell hB
      have j0 := (hc b (off + at_ * 4) hb).trans i0
      have j1 := (hc b (off + at_ * 4 + 1) hb).trans i1
      have j2 := (hc b (off + at_ * 4 + 2) hb).trans i2
      have j3 := (hc b (off + at_ * 4 + 3) hb).trans i3
      have HC := Lib.hid hcall
      have HN := Lib.hid hno
      clear hcall hno hc hf i0 i1 i2 i3 hR
      go_wp2
      have hlt0 : (at_ : Int) < q.length := by omega
      refine wp_tail 12 (by kernel_rfl) (by kernel_rfl) ?_
      simp only [List.take_succ_cons, List.take_zero, List.drop_succ_cons, List.drop_zero]
      repeat still_step
      refine wpStill_nil ?_
      have hle : (at_ : Int) < q.length := by omega
      go_wp2_with fail
      rw [show ((q.length : Int) - at_ - 1) = (L : Int) from HX.out.symm]
      refine (HC.out x hok L (by omega) (by omega) _ (below_dr (below1 _ _))).mono ?_
      rintro e w2 ⟨rfl, hb2⟩
      obtain ⟨hc2, hf2⟩ := bcell hb2
      have hB2 : Below w.heap.size w w2 := below_t (below_dr (below_al hB _)) hb2
      by_cases hy : (ruleN n).2 x L = true
      · have HY := Lib.hid (oneP_yes x L n h6 HN.out hy)
        clear HN
        go_wp2
        go_ret
        exact ⟨ret_i HY.out.symm, hB2⟩
      · have hy' : (ruleN n).2 x L = false := by simpa using hy
        have HN' := Lib.hid (show ∀ i, i < n + 1 → (ruleN i).2 x L = false from fun i hi => by
          rcases Nat.lt_succ_iff_lt_or_eq.1 hi with h | rfl
          · exact HN.out i h
          · exact hy')
        clear HN hy
        go_wp2
        go_roundw
        case rel => exact ⟨n + 1, by omega, by go_num, rfl, hB2, HN'.out⟩
        case measure => simp [intOf]; omega
    · have HZ := Lib.hid (oneP_no x L (fun i hi => hno i (by omega)))
      clear hno
      go_wp2
      go_ret
      exact ⟨ret_i HZ.out.symm, hB⟩
end Go.Proofs.Ytehpoamideeehaa
set_option linter.unusedVariables false
set_option linter.unusedSimpArgs false
namespace Go.Proofs.Ytehpoamideeehaa
open Go.RowKit
/-! check.One, check.Check: the walks. -/
def oneQ (q : List I4) (i : Nat) : Int := match q[i]? with | some x => oneP x (q.length - i - 1 : Nat) | none => 41
def oneAt (q : List I4) (i : Int) : Int := if i < 0 then 41 else oneQ q i.toNat
def lastC (q : List I4) : Int := match q[q.length - 1]? with | some x => x.c | none => 0
def checkP (q : List I4) : Int × Int :=
  if q.length = 0 ∨ 4096 < q.length then (41, 0) else
  match (List.range q.length).find? (fun i => oneQ q i != 0) with
  | some i => (oneQ q i, i)
  | none => if bits .and .u16 (lastC q) 7 = 6 then (0, 0) else (48, q.length - 1)
theorem find_some (f : Nat → Bool) (n i : Nat) (hi : i < n) (hf : f i = true) (h : ∀ j, j < i → f j = false) : (List.range n).find? f = some i := by
  rw [List.find?_range_eq_some]
  exact ⟨hf, by simpa using hi, fun j hj => by simp [h j hj]⟩
theorem find_none (f : Nat → Bool) (n : Nat) (h : ∀ j, j < n → f j = false) : (List.range n).find? f = none := by
  rw [List.find?_range_eq_none]; intro i hi; simp [h i hi]

def CheckPost (w : World) (q : List I4) (e : Ending) (w' : World) : Prop := e = .returned (.tuple #[.int .i64 (checkP q).1, .int .i64 (checkP q).2]) ∧ Below w.heap.size w w'
theorem ret_p {X : Int × Int} {a b : Int} {k k' : IntKind} (h : X = (a, b)) : Ending.returned (.tuple #[.int k a, .int k' b]) = .returned (.tuple #[.int k X.1, .int k' X.2]) := by rw [h]
theorem ret_2 {a b c d : Int} {k k' : IntKind} (h : a = c) (h' : b = d) : Ending.returned (.tuple #[.int k a, .int k' b]) = .returned (.tuple #[.int k c, .int k' d]) := by rw [h, h']
set_option maxHeartbeats 400000 in
theorem Check_c (A : Option Addr) (cap : Nat) (q : List I4) (hq : ∀ x ∈ q, x.ok) (hn : q.length ≤ 9223372036854775807) (w : World) (hr : Reads w w.heap.size 4 A q.length (cellsI q)) :
    Calls Try.prog 16 #[.slice A q.length cap] w (CheckPost w q) := by
  by_cases hL : q.length = 0 ∨ 4096 < q.length
  · have HX := Lib.hid (show checkP q = (41, 0) by unfold checkP; rw [if_pos hL])
    clear hr
    rcases hL with h | h
    · have hd : ((q.length : Int) == 0) = true := by rw [h]; rfl
      clear h
      go_enter Try.func16, Try.ntmps16
      go_wp2
      go_ret2
      exact ⟨ret_p HX.out, Below.refl _ _⟩
    · have hd : ((q.length : Int) == 0) = false := by rw [beq_eq_false_iff_ne]; omega
      have hd2 : (4096 : Int) < q.length := by omega
      clear h
      go_enter Try.func16, Try.ntmps16
      go_wp2
      go_ret2
      exact ⟨ret_p HX.out, Below.refl _ _⟩
  · have hpos : 0 < q.length := by omega
    have h4 : q.length ≤ 4096 := by omega
    have hd : ((q.length : Int) == 0) = false := by rw [beq_eq_false_iff_ne]; omega
    have hd2 : (q.length : Int) ≤ 4096 := by omega
    have HR := Lib.hid hr
    have HQ := Lib.hid hq
    have HN := Lib.hid hL
    clear hr hq hL
    go_enter Try.func16, Try.ntmps16
    go_wp2_with fail
    refine (rules_c w).mono ?_
    rintro e w1 ⟨R, rfl, hR, hb⟩
    go_wp2_with fail
    go_loopw [19] (fun i wr => ∃ n : Nat, n ≤ q.length ∧ i = .int .i64 n ∧ Below w1.heap.size w1 wr ∧ ∀ j, j < n → oneQ q j = 0) (fun i _ => q.length - (intOf i).toNat)
    case atStart => exact ⟨0, by omega, rfl, Below.refl _ _, fun i h => by omega⟩
    case round =>
      obtain ⟨n, hn6, rfl, hB, hno⟩ := hrel
      have HO := Lib.hid hno
      clear hno
      have hBw : Below w.heap.size w wr := below_t hb hB
      by_cases h6 : n < q.length
      · obtain ⟨x, hx⟩ : ∃ x, q[n]? = some x := ⟨_, List.getElem?_eq_getElem h6⟩
        have e0 : oneP x (q.length - n - 1 : Nat) = oneQ q n := by unfold oneQ; rw [hx]
        have HE := Lib.hid hx
        have HP := Lib.hid e0
        clear e0 hx
        go_wp2_with fail
        refine (one_c R A cap n q x HE.out HQ.out hn wr (hR.keep hB) (HR.out.up hBw)).mono ?_
        rw [HP.out]
        rintro e w2 ⟨rfl, hb2⟩
        have hB2 : Below w.heap.size w w2 := below_t hBw hb2
        have hB3 : Below w1.heap.size w1 w2 := below_t hB hb2
        by_cases hz : oneQ q n = 0
        · have HN' := Lib.hid (show ∀ i, i < n + 1 → oneQ q i = 0 from fun i hi => by
            rcases Nat.lt_succ_iff_lt_or_eq.1 hi with h | rfl
            · exact HO.out i h
            · exact hz)
          have hz' : (oneQ q n != 0) = false := by simpa using hz
          clear hz HO
          go_wp2
          go_roundw
          case rel => exact ⟨n + 1, by omega, by go_num, hB3, HN'.out⟩
          case measure => simp [intOf]; omega
        · have hz' : (oneQ q n != 0) = true := by simpa using hz
          have HF := Lib.hid (show checkP q = (oneQ q n, (n : Int)) by
            unfold checkP
            rw [if_neg HN.out, find_some _ _ n h6 hz' (fun j hj => by simp [HO.out j hj])])
          clear hz HO
          go_wp2
          go_ret2
          exact ⟨ret_p HF.out, hB2⟩
      · obtain ⟨x, hx⟩ : ∃ x, q[q.length - 1]? = some x := ⟨_, List.getElem?_eq_getElem (by omega)⟩
        have hno' : (List.range q.length).find? (fun i => oneQ q i != 0) = none := find_none _ _ (fun j hj => by simp [HO.out j (by omega)])
        have hl : lastC q = x.c := by unfold lastC; rw [hx]
        have hxo := HQ.out x (List.mem_of_getElem? hx)
        obtain ⟨b, off, rfl, hbl, i0, _⟩ := (HR.out.up hBw).insn hx
        have HS := Lib.hid hno'
        have HLa := Lib.hid hl
        clear hno' hl hx HO
        by_cases hz : bits .and .u16 x.c 7 = 6
        · have hz' : (bits .and .u16 x.c 7 != 6) = false := by simpa using hz
          have HF := Lib.hid (show checkP q = (0, 0) by unfold checkP; rw [if_neg HN.out, HS.out]; simp only [HLa.out, hz, if_true])
          clear hz
          go_wp2
          go_ret2
          exact ⟨ret_p HF.out, hBw⟩
        · have hz' : (bits .and .u16 x.c 7 != 6) = true := by simpa using hz
          have HF := Lib.hid (show checkP q = (48, (q.length : Int) - 1) by unfold checkP; rw [if_neg HN.out, HS.out]; simp only [HLa.out, hz, if_false])
          clear hz
          go_wp2
          go_ret2
          exact ⟨ret_p HF.out, hBw⟩
end Go.Proofs.Ytehpoamideeehaa
