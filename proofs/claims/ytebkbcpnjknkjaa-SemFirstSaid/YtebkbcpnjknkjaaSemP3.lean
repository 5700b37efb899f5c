import Derived.Test.YtebkbcpnjknkjaaSemP2
import Derived.Test.YtebkbcpnjknkjaaD9P
set_option linter.unusedVariables false
set_option linter.unusedSimpArgs false
namespace Go.Proofs.Ytebkbcpnjknkjaa
open Go.RowKit
/-! Chapter 07, plainly: what expressions and policies say. -/
def relB (r a b : Int) : Bool := if r = 1 then a == b else if r = 2 then a != b else if r = 3 then decide (a < b) else if r = 4 then decide (a ≤ b) else if r = 5 then decide (b < a) else decide (b ≤ a)
def fieldV (d : D9) (f : Int) : Int := if f = 6 then d.ip else d.args.getD f.toNat 0
def D9.seven (d : D9) : List Int := [d.a0, d.a1, d.a2, d.a3, d.a4, d.a5, d.ip]
theorem fieldV_get (d : D9) {f : Int} (h0 : 0 ≤ f) (h6 : f ≤ 6) : d.seven[f.toNat]? = some (fieldV d f) := by
  have : f = 0 ∨ f = 1 ∨ f = 2 ∨ f = 3 ∨ f = 4 ∨ f = 5 ∨ f = 6 := by omega
  rcases this with rfl | rfl | rfl | rfl | rfl | rfl | rfl <;> rfl
mutual
def holdsP (d : D9) : ExA → Bool
  | .mk op _ _ l f m r v => if op = 3 then !(anyP d l) else if op = 4 then allP d l else if op = 5 then anyP d l else if op = 6 then relB r (bits .and .u64 (fieldV d f) m) v else op == 1
def anyP (d : D9) : List ExA → Bool
  | [] => false
  | x :: l => holdsP d x || anyP d l
def allP (d : D9) : List ExA → Bool
  | [] => true
  | x :: l => holdsP d x && allP d l
end
theorem anyP_drop {d : D9} {l : List ExA} {n : Nat} {x : ExA} (hx : l[n]? = some x) : anyP d (l.drop n) = (holdsP d x || anyP d (l.drop (n + 1))) := by
  have hn := (List.getElem?_eq_some_iff.1 hx).1
  rw [List.drop_eq_getElem_cons hn, anyP]
  rw [List.getElem?_eq_getElem hn] at hx
  injection hx with hx
  rw [hx]
theorem allP_drop {d : D9} {l : List ExA} {n : Nat} {x : ExA} (hx : l[n]? = some x) : allP d (l.drop n) = (holdsP d x && allP d (l.drop (n + 1))) := by
  have hn := (List.getElem?_eq_some_iff.1 hx).1
  rw [List.drop_eq_getElem_cons hn, allP]
  rw [List.getElem?_eq_getElem hn] at hx
  injection hx with hx
  rw [hx]
def cmpI (a b : Int) : Int := if a < b then -1 else if b < a then 1 else 0
def ordB (k : Nat) (o : Int) : Bool := if k = 1 then o == 0 else if k = 2 then o != 0 else if k = 3 then decide (o < 0) else if k = 4 then decide (o ≤ 0) else if k = 5 then decide (0 < o) else decide (0 ≤ o)
theorem ord_rel {r : Int} (h0 : 1 ≤ r) (h6 : r ≤ 6) (a b : Int) : ordB r.toNat (cmpI a b) = relB r a b := by
  have : r = 1 ∨ r = 2 ∨ r = 3 ∨ r = 4 ∨ r = 5 ∨ r = 6 := by omega
  rcases Int.lt_trichotomy a b with h | h | h
  · have hc : cmpI a b = -1 := by unfold cmpI; rw [if_pos h]
    rw [hc]
    have h1 : ¬ a = b := by omega
    have h2 : ¬ b < a := by omega
    have h3 : ¬ b ≤ a := by omega
    have h4 : a ≤ b := by omega
    rcases this with rfl | rfl | rfl | rfl | rfl | rfl <;> simp [ordB, relB, h, h1, h2, h3, h4]
  · subst h
    have hc : cmpI a a = 0 := by unfold cmpI; simp
    rw [hc]
    rcases this with rfl | rfl | rfl | rfl | rfl | rfl <;> simp [ordB, relB]
  · have hc : cmpI a b = 1 := by unfold cmpI; rw [if_neg (by omega), if_pos h]
    rw [hc]
    have h1 : ¬ a = b := by omega
    have h2 : ¬ a < b := by omega
    have h3 : ¬ a ≤ b := by omega
    have h4 : b ≤ a := by omega
    rcases this with rfl | rfl | rfl | rfl | rfl | rfl <;> simp [ordB, relB, h, h1, h2, h3, h4]
def namedP (a : ByteArray) (nr : Int) : List CallP → Bool
  | [] => false
  | x :: l => (nrP a x).1 == nr || namedP a nr l
theorem namedP_drop {a : ByteArray} {nr : Int} {l : List CallP} {n : Nat} {x : CallP} (hx : l[n]? = some x) : namedP a nr (l.drop n) = ((nrP a x).1 == nr || namedP a nr (l.drop (n + 1))) := by
  have hn := (List.getElem?_eq_some_iff.1 hx).1
  rw [List.drop_eq_getElem_cons hn, namedP]
  rw [List.getElem?_eq_getElem hn] at hx
  injection hx with hx
  rw [hx]
/-- What the rules say, the default's word at the end. -/
def saysP (a : ByteArray) (d : D9) (w0 : Int) : List RuA → Int
  | [] => w0
  | x :: l => if (namedP a d.nr x.calls && holdsP d x.when_) = true then (actionP x.dk x.dd).1 else saysP a d w0 l
theorem saysP_drop {a : ByteArray} {d : D9} {w0 : Int} {l : List RuA} {n : Nat} {x : RuA} (hx : l[n]? = some x) : saysP a d w0 (l.drop n) = if (namedP a d.nr x.calls && holdsP d x.when_) = true then (actionP x.dk x.dd).1 else saysP a d w0 (l.drop (n + 1)) := by
  have hn := (List.getElem?_eq_some_iff.1 hx).1
  rw [List.drop_eq_getElem_cons hn, saysP]
  rw [List.getElem?_eq_getElem hn] at hx
  injection hx with hx
  rw [hx]
def evalP (M : Int) (p : PolA) (d : D9) : Int :=
  if (checkP M p).1 ≠ 0 then 0 else if d.arch ≠ (archP p.arch.data.toList).1 then (actionP p.fk p.fd).1 else saysP p.arch d (actionP p.dk p.dd).1 p.rules
/-! Expressions that may be. -/
theorem within_parts {M : Int} {deep : Nat} {op f m r v : Int} {A : Option Addr} {c : Nat} {l : List ExA} (h : withinP M deep (.mk op A c l f m r v) = 0) : deep ≤ 200 ∧ oneP M op l.length f m r v = 0 ∧ withinL M (deep + 1) l = 0 := by
  rw [withinP] at h
  split at h
  · cases h
  · split at h
    · rename_i h1; exact absurd h h1
    · rename_i h0 h1; exact ⟨by omega, Classical.byContradiction h1, h⟩
theorem withinL_get {M : Int} {deep : Nat} {l : List ExA} (h : withinL M deep l = 0) {i : Nat} {x : ExA} (hx : l[i]? = some x) : withinP M deep x = 0 := by
  induction l generalizing i with
  | nil => simp at hx
  | cons y l ih =>
    rw [withinL] at h
    split at h
    · rename_i h1; exact absurd h h1
    · rename_i h1
      cases i with
      | zero => simp at hx; subst hx; exact Classical.byContradiction h1
      | succ i => exact ih h (by simpa using hx)
theorem anyP_any (d : D9) (l : List ExA) : anyP d l = l.any (holdsP d) := by
  induction l with
  | nil => rfl
  | cons x l ih => rw [anyP, ih, List.any_cons]
theorem allP_any (d : D9) (l : List ExA) : allP d l = !(l.any fun x => !(holdsP d x)) := by
  induction l with
  | nil => rfl
  | cons x l ih => rw [allP, ih, List.any_cons]; cases holdsP d x <;> simp
end Go.Proofs.Ytebkbcpnjknkjaa
