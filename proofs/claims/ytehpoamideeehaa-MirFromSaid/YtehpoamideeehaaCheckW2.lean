import Derived.Test.YtehpoamideeehaaCheckW1
import Derived.BigQuiet
import Derived.Deep.QuietTactic
set_option linter.unusedVariables false
set_option linter.unusedSimpArgs false
namespace Go.Proofs.Ytehpoamideeehaa
open Go.RowKit
/-- The slice of rules, as it lies in memory. -/
def RulesAt (w : World) (R : Nat) : Prop := R < w.heap.size ∧ ∃ B2 B3 B4 B5 G2 G3 G4 G5,
  (w.cell? ⟨R, 0, none⟩ = some (.int .i64 42) ∧ w.cell? ⟨R, 1, none⟩ = some (.func (.func 62) #[] #[]) ∧
   w.cell? ⟨R, 2, none⟩ = some (.int .i64 43) ∧ w.cell? ⟨R, 3, none⟩ = some (.func (.func 64) #[] #[]) ∧
   w.cell? ⟨R, 4, none⟩ = some (.int .i64 44) ∧ w.cell? ⟨R, 5, none⟩ = some (.func (.func 65) #[] #[.pointer (some ⟨B2, 0, none⟩)]) ∧
   w.cell? ⟨R, 6, none⟩ = some (.int .i64 45) ∧ w.cell? ⟨R, 7, none⟩ = some (.func (.func 66) #[] #[.pointer (some ⟨B3, 0, none⟩)]) ∧
   w.cell? ⟨R, 8, none⟩ = some (.int .i64 46) ∧ w.cell? ⟨R, 9, none⟩ = some (.func (.func 67) #[] #[.pointer (some ⟨B4, 0, none⟩)]) ∧
   w.cell? ⟨R, 10, none⟩ = some (.int .i64 47) ∧ w.cell? ⟨R, 11, none⟩ = some (.func (.func 68) #[] #[.pointer (some ⟨B5, 0, none⟩)])) ∧
  (w.cell? ⟨B2, 0, none⟩ = some (.func (.func 85) #[] #[.pointer (some ⟨G2, 0, none⟩)]) ∧ B2 < w.heap.size ∧ CodesAt w G2 [32]) ∧
  (w.cell? ⟨B3, 0, none⟩ = some (.func (.func 85) #[] #[.pointer (some ⟨G3, 0, none⟩)]) ∧ B3 < w.heap.size ∧ CodesAt w G3 [52]) ∧
  (w.cell? ⟨B4, 0, none⟩ = some (.func (.func 85) #[] #[.pointer (some ⟨G4, 0, none⟩)]) ∧ B4 < w.heap.size ∧ CodesAt w G4 [100, 116]) ∧
  (w.cell? ⟨B5, 0, none⟩ = some (.func (.func 85) #[] #[.pointer (some ⟨G5, 0, none⟩)]) ∧ B5 < w.heap.size ∧ CodesAt w G5 [96, 97, 2, 3])
theorem box_keep {w w' : World} {B G : Nat} {v : Value} {l : List Int} (h : w.cell? ⟨B, 0, none⟩ = some v ∧ B < w.heap.size ∧ CodesAt w G l) (hb : Below w.heap.size w w') : w'.cell? ⟨B, 0, none⟩ = some v ∧ B < w'.heap.size ∧ CodesAt w' G l :=
  ⟨(hb.cell (p := ⟨B, 0, none⟩) h.2.1).trans h.1, Nat.lt_of_lt_of_le h.2.1 hb.size, h.2.2.keep hb⟩
theorem RulesAt.keep {w w' : World} {R : Nat} (h : RulesAt w R) (hb : Below w.heap.size w w') : RulesAt w' R := by
  obtain ⟨h0, B2, B3, B4, B5, G2, G3, G4, G5, ⟨c0, c1, c2, c3, c4, c5, c6, c7, c8, c9, c10, c11⟩, k2, k3, k4, k5⟩ := h
  have hc : ∀ o, w'.cell? ⟨R, o, none⟩ = w.cell? ⟨R, o, none⟩ := fun o => hb.cell (p := ⟨R, o, none⟩) h0
  refine ⟨Nat.lt_of_lt_of_le h0 hb.size, B2, B3, B4, B5, G2, G3, G4, G5, ⟨?_, ?_, ?_, ?_, ?_, ?_, ?_, ?_, ?_, ?_, ?_, ?_⟩, box_keep k2 hb, box_keep k3 hb, box_keep k4 hb, box_keep k5 hb⟩
  all_goals (rw [hc]; assumption)
def rulesRow (s : Nat) : Array Value := #[.int .i64 42, .func (.func 62) #[] #[], .int .i64 43, .func (.func 64) #[] #[], .int .i64 44, .func (.func 65) #[] #[.pointer (some ⟨s + 4, 0, none⟩)], .int .i64 45, .func (.func 66) #[] #[.pointer (some ⟨s + 5, 0, none⟩)],
     .int .i64 46, .func (.func 67) #[] #[.pointer (some ⟨s + 8, 0, none⟩)], .int .i64 47, .func (.func 68) #[] #[.pointer (some ⟨s + 11, 0, none⟩)]]
def rulesObjs (s : Nat) : List Obj :=
  [.cells #[.int .u16 32] 45, .cells #[.slice (some ⟨s, 0, none⟩) 1 1] 120, .cells #[.int .u16 52] 45, .cells #[.slice (some ⟨s + 2, 0, none⟩) 1 1] 120,
   .cells #[.func (.func 85) #[] #[.pointer (some ⟨s + 1, 0, none⟩)]] 111, .cells #[.func (.func 85) #[] #[.pointer (some ⟨s + 3, 0, none⟩)]] 111,
   .cells #[.int .u16 100, .int .u16 116] 45, .cells #[.slice (some ⟨s + 6, 0, none⟩) 2 2] 120, .cells #[.func (.func 85) #[] #[.pointer (some ⟨s + 7, 0, none⟩)]] 111,
   .cells #[.int .u16 96, .int .u16 97, .int .u16 2, .int .u16 3] 45, .cells #[.slice (some ⟨s + 9, 0, none⟩) 4 4] 120, .cells #[.func (.func 85) #[] #[.pointer (some ⟨s + 10, 0, none⟩)]] 111,
   .cells (rulesRow s) 115]
theorem codes_al (w : World) (L : List Obj) (B G : Nat) (l : List Int) (hB : L[B]? = some (.cells #[.slice (some ⟨w.heap.size + G, 0, none⟩) l.length l.length] 120)) (hG : L[G]? = some (.cells (l.map (Value.int .u16)).toArray 45)) : CodesAt (al w L) (w.heap.size + B) l := by
  have hBl := (List.getElem?_eq_some_iff.1 hB).1
  have hGl := (List.getElem?_eq_some_iff.1 hG).1
  refine ⟨by rw [al_size]; omega, w.heap.size + G, by rw [al_size]; omega, by rw [al_cell w L B hB]; rfl, fun i x hx => ?_⟩
  rw [al_cell w L G hG]
  simp [hx]
theorem box_al (w : World) (L : List Obj) (B G : Nat) (l : List Int) (hB : L[B]? = some (.cells #[.func (.func 85) #[] #[.pointer (some ⟨w.heap.size + G, 0, none⟩)]] 111)) (hC : CodesAt (al w L) (w.heap.size + G) l) :
    (al w L).cell? ⟨w.heap.size + B, 0, none⟩ = some (.func (.func 85) #[] #[.pointer (some ⟨w.heap.size + G, 0, none⟩)]) ∧ w.heap.size + B < (al w L).heap.size ∧ CodesAt (al w L) (w.heap.size + G) l :=
  ⟨by rw [al_cell w L B hB]; rfl, by rw [al_size]; have := (List.getElem?_eq_some_iff.1 hB).1; omega, hC⟩
theorem rules_cell (w : World) (j : Nat) : (al w (rulesObjs w.heap.size)).cell? ⟨w.heap.size + 12, j, none⟩ = (rulesRow w.heap.size)[j]? := al_cell w (rulesObjs w.heap.size) 12 (c := rulesRow w.heap.size) (t := 115) (fr := (0, 0)) rfl j
theorem rulesAt_al (w : World) : RulesAt (al w (rulesObjs w.heap.size)) (w.heap.size + 12) := by
  have hs : (al w (rulesObjs w.heap.size)).heap.size = w.heap.size + 13 := al_size _ _
  refine ⟨by omega, w.heap.size + 4, w.heap.size + 5, w.heap.size + 8, w.heap.size + 11, w.heap.size + 1, w.heap.size + 3, w.heap.size + 7, w.heap.size + 10,
    ⟨(rules_cell w 0).trans rfl, (rules_cell w 1).trans rfl, (rules_cell w 2).trans rfl, (rules_cell w 3).trans rfl, (rules_cell w 4).trans rfl, (rules_cell w 5).trans rfl, (rules_cell w 6).trans rfl, (rules_cell w 7).trans rfl, (rules_cell w 8).trans rfl, (rules_cell w 9).trans rfl, (rules_cell w 10).trans rfl, (rules_cell w 11).trans rfl⟩,
    box_al w _ 4 1 [32] rfl (codes_al w _ 1 0 [32] rfl rfl), box_al w _ 5 3 [52] rfl (codes_al w _ 3 2 [52] rfl rfl), box_al w _ 8 7 [100, 116] rfl (codes_al w _ 7 6 [100, 116] rfl rfl), box_al w _ 11 10 [96, 97, 2, 3] rfl (codes_al w _ 10 9 [96, 97, 2, 3] rfl rfl)⟩
def SomeRules (w : World) (e : Ending) (w' : World) : Prop := ∃ R, e = .returned (.slice (some ⟨R, 0, none⟩) 6 6) ∧ RulesAt w' R ∧ Below w.heap.size w w'
set_option maxHeartbeats 1000000 in
theorem rules_c (w : World) : Calls Try.prog 33 #[] w (SomeRules w) := by
  have hmf : ∀ (fn : Fn) (first cap : Array Value) (w : World), (Instr.makeFunc fn first cap).run Try.prog w = .ok (.func fn first cap) w := fun _ _ _ _ => rfl
  go_enter Try.func33, Try.ntmps33
  go_wp2
  go_ret
  exact ⟨w.heap.size + 12, rfl, rulesAt_al w, al_below w (rulesObjs w.heap.size)⟩
end Go.Proofs.Ytehpoamideeehaa
