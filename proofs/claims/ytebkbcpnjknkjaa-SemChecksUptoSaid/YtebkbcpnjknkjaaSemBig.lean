import Derived.Test.YtebkbcpnjknkjaaSemWC
import Derived.Test.YtebkbcpnjknkjaaSemWH
set_option linter.unusedVariables false
set_option linter.unusedSimpArgs false
namespace Go.Proofs.Ytebkbcpnjknkjaa
open Go.RowKit
/-! Where no row is longer than M, a greater bound says the same. -/
theorem oneP_big {M : Nat} {M' : Int} (h : (M : Int) ≤ M') {op : Int} {n : Nat} (hn : n ≤ M) (f m r v : Int) : oneP M' op n f m r v = oneP M op n f m r v := by
  have e : (mostP M' op < (n : Int)) ↔ (mostP (M : Int) op < (n : Int)) := by
    unfold mostP
    split
    · rfl
    · split
      · omega
      · rfl
  unfold oneP
  simp only [e]
mutual
theorem within_big {M : Nat} {M' : Int} (h : (M : Int) ≤ M') : ∀ (x : ExA) (deep : Nat), x.small M → withinP M' deep x = withinP M deep x
  | .mk op A c l f m r v, deep, hs => by
    rw [withinP, withinP, oneP_big h hs.1, withinL_big h l (deep + 1) hs.2]
theorem withinL_big {M : Nat} {M' : Int} (h : (M : Int) ≤ M') : ∀ (l : List ExA) (deep : Nat), ExA.smallL M l → withinL M' deep l = withinL M deep l
  | [], deep, _ => by rw [withinL, withinL]
  | x :: l, deep, hs => by rw [withinL, withinL, within_big h x deep hs.1, withinL_big h l deep hs.2]
end
theorem rule_big {M : Nat} {M' : Int} (h : (M : Int) ≤ M') (a : ByteArray) (x : RuA) (hs : x.when_.small M) : ruleP M' a x = ruleP M a x := by
  unfold ruleP; rw [within_big h _ _ hs]
theorem rules_big {M : Nat} {M' : Int} (h : (M : Int) ≤ M') (a : ByteArray) : ∀ (l : List RuA) (i : Nat), (∀ x ∈ l, x.when_.small M) → rulesP M' a i l = rulesP M a i l
  | [], i, _ => rfl
  | x :: l, i, hs => by rw [rulesP, rulesP, rule_big h a x (hs x (by simp)), rules_big h a l (i + 1) fun y hy => hs y (by simp [hy])]
theorem check_big {M : Nat} {M' : Int} (h : (M : Int) ≤ M') (p : PolA) (hs : p.small M) : checkP M' p = checkP M p := by
  unfold checkP; rw [rules_big h _ _ _ fun x hx => (hs x hx).1]
theorem eval_big {M : Nat} {M' : Int} (h : (M : Int) ≤ M') (p : PolA) (hs : p.small M) (d : D9) : evalP M' p d = evalP M p d := by
  unfold evalP; rw [check_big h p hs]
theorem holdsAt_big {M : Nat} {M' : Int} (h : (M : Int) ≤ M') (x : ExA) (hs : x.small M) (d : D9) : holdsAt M' d x = holdsAt M d x := by
  unfold holdsAt; rw [within_big h x 0 hs]
end Go.Proofs.Ytebkbcpnjknkjaa
