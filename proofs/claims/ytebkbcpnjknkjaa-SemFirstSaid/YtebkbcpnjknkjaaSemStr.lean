import Derived.Test.YtebkbcpnjknkjaaSemP3
set_option linter.unusedVariables false
set_option linter.unusedSimpArgs false
set_option maxRecDepth 100000
namespace Go.Proofs.Ytebkbcpnjknkjaa
open Go.RowKit
/-! What is said of expressions and policies does not depend on where they lie. -/
mutual
theorem within_strip (M : Int) : ∀ (x : ExA) (deep : Nat), withinP M deep x.strip = withinP M deep x
  | .mk op A c l f m r v, deep => by
    simp only [ExA.strip, withinP, ExA.stripL_length]
    rw [withinL_strip M l (deep + 1)]
theorem withinL_strip (M : Int) : ∀ (l : List ExA) (deep : Nat), withinL M deep (ExA.stripL l) = withinL M deep l
  | [], _ => rfl
  | x :: l, deep => by simp only [ExA.stripL, withinL]; rw [within_strip M x deep, withinL_strip M l deep]
end
mutual
theorem holds_strip (d : D9) : ∀ (x : ExA), holdsP d x.strip = holdsP d x
  | .mk op A c l f m r v => by
    simp only [ExA.strip, holdsP]
    rw [any_strip d l, all_strip d l]
theorem any_strip (d : D9) : ∀ (l : List ExA), anyP d (ExA.stripL l) = anyP d l
  | [] => rfl
  | x :: l => by simp only [ExA.stripL, anyP]; rw [holds_strip d x, any_strip d l]
theorem all_strip (d : D9) : ∀ (l : List ExA), allP d (ExA.stripL l) = allP d l
  | [] => rfl
  | x :: l => by simp only [ExA.stripL, allP]; rw [holds_strip d x, all_strip d l]
end
mutual
theorem fits_strip : ∀ (x : ExA), x.strip.fits ↔ x.fits
  | .mk op A c l f m r v => by simp only [ExA.strip, ExA.fits, ExA.stripL_length]; rw [fitsL_strip l]
theorem fitsL_strip : ∀ (l : List ExA), ExA.fitsL (ExA.stripL l) ↔ ExA.fitsL l
  | [] => Iff.rfl
  | x :: l => by simp only [ExA.stripL, ExA.fitsL]; rw [fits_strip x, fitsL_strip l]
end
mutual
def ExA.fitsB : ExA → Bool
  | .mk _ _ _ l _ _ _ _ => decide (l.length ≤ 9223372036854775807) && ExA.fitsBL l
def ExA.fitsBL : List ExA → Bool
  | [] => true
  | x :: l => ExA.fitsB x && ExA.fitsBL l
end
mutual
theorem fits_of : ∀ (x : ExA), x.fitsB = true → x.fits
  | .mk op A c l f m r v, h => by
    simp only [ExA.fitsB, Bool.and_eq_true, decide_eq_true_eq] at h
    exact ⟨h.1, fitsL_of l h.2⟩
theorem fitsL_of : ∀ (l : List ExA), ExA.fitsBL l = true → ExA.fitsL l
  | [], _ => trivial
  | x :: l, h => by
    simp only [ExA.fitsBL, Bool.and_eq_true] at h
    exact ⟨fits_of x h.1, fitsL_of l h.2⟩
end
theorem rule_strip (M : Int) (a : ByteArray) (x : RuA) : ruleP M a x.strip = ruleP M a x := by
  unfold ruleP RuA.strip
  dsimp only
  rw [within_strip]
theorem rules_strip (M : Int) (a : ByteArray) : ∀ (l : List RuA) (i : Nat), rulesP M a i (l.map RuA.strip) = rulesP M a i l
  | [], _ => rfl
  | x :: l, i => by simp only [List.map_cons, rulesP]; rw [rule_strip, rules_strip M a l]
theorem says_strip (a : ByteArray) (d : D9) (w0 : Int) : ∀ (l : List RuA), saysP a d w0 (l.map RuA.strip) = saysP a d w0 l
  | [] => rfl
  | x :: l => by
    simp only [List.map_cons, saysP]
    rw [says_strip a d w0 l, show x.strip.calls = x.calls from rfl, show x.strip.when_ = x.when_.strip from rfl, holds_strip, show x.strip.dk = x.dk from rfl, show x.strip.dd = x.dd from rfl]
theorem check_strip (M : Int) (p : PolA) : checkP M p.strip = checkP M p := by
  unfold checkP PolA.strip
  dsimp only
  rw [rules_strip, List.length_map]
theorem eval_strip (M : Int) (p : PolA) (d : D9) : evalP M p.strip d = evalP M p d := by
  have := check_strip M p
  unfold evalP
  rw [this]
  unfold PolA.strip
  dsimp only
  rw [says_strip]
def RuA.okB (x : RuA) : Bool := x.calls.all (fun c => decide (0 ≤ c.nr) && decide (c.nr < 18446744073709551616)) && (decide (0 ≤ x.dd) && decide (x.dd < 18446744073709551616)) && decide (x.calls.length ≤ 9223372036854775807) && x.when_.fitsB
def PolA.okB (p : PolA) : Bool := decide (p.arch.size ≤ maxLen) && (decide (0 ≤ p.fd) && decide (p.fd < 18446744073709551616)) && (decide (0 ≤ p.dd) && decide (p.dd < 18446744073709551616)) && p.rules.all RuA.okB
theorem RuA.okB_of {x : RuA} (h : x.okB = true) : x.Ok := by
  simp only [RuA.okB, Bool.and_eq_true, decide_eq_true_eq, List.all_eq_true] at h
  exact ⟨h.1.1.1, h.1.1.2, h.1.2, fits_of _ h.2⟩
theorem PolA.okB_of {p : PolA} (h : p.okB = true) : p.Ok := by
  simp only [PolA.okB, Bool.and_eq_true, decide_eq_true_eq, List.all_eq_true] at h
  exact ⟨h.1.1.1, h.1.1.2, h.1.2, fun r hr => RuA.okB_of (h.2 r hr)⟩
theorem RuA.Ok.of_strip {x : RuA} (h : x.strip.Ok) : x.Ok := ⟨h.nrs, h.dd, h.len, (fits_strip _).1 h.fits⟩
theorem PolA.Ok.of_strip {p : PolA} (h : p.strip.Ok) : p.Ok := ⟨h.arch, h.fd, h.dd, fun r hr => RuA.Ok.of_strip (h.rules _ (List.mem_map.2 ⟨r, hr, rfl⟩))⟩
theorem PolA.Ok.strip {p : PolA} (h : p.Ok) : p.strip.Ok := ⟨h.arch, h.fd, h.dd, fun r hr => by
  obtain ⟨x, hx, rfl⟩ := List.mem_map.1 hr
  have hk := h.rules x hx
  exact ⟨hk.nrs, hk.dd, hk.len, (fits_strip _).2 hk.fits⟩⟩
theorem PolA.Ok.same {p q : PolA} (h : q.Ok) (e : p.strip = q.strip) : p.Ok := PolA.Ok.of_strip (e ▸ h.strip)
theorem eval_same (M : Int) {p q : PolA} (e : p.strip = q.strip) (d : D9) : evalP M p d = evalP M q d := by rw [← eval_strip, e, eval_strip]
theorem check_same (M : Int) {p q : PolA} (e : p.strip = q.strip) : checkP M p = checkP M q := by rw [← check_strip, e, check_strip]
end Go.Proofs.Ytebkbcpnjknkjaa
