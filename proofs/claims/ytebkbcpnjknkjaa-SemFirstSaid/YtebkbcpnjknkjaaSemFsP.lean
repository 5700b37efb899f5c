import Derived.Test.YtebkbcpnjknkjaaSemNmP
set_option linter.unusedVariables false
set_option linter.unusedSimpArgs false
set_option maxRecDepth 100000
namespace Go.Proofs.Ytebkbcpnjknkjaa
open Go.RowKit
/-! SemFirst, plainly: a rule behind one that has all its calls, and always holds; data that nobody looks at. -/
mutual
def asksP (f : Int) : ExA → Bool
  | .mk op _ _ l g _ _ _ => if op = 6 then g == f else asksL f l
def asksL (f : Int) : List ExA → Bool
  | [] => false
  | x :: l => asksP f x || asksL f l
end
theorem asksL_drop {f : Int} {l : List ExA} {n : Nat} {x : ExA} (hx : l[n]? = some x) : asksL f (l.drop n) = (asksP f x || asksL f (l.drop (n + 1))) := by
  have hn := (List.getElem?_eq_some_iff.1 hx).1
  rw [List.drop_eq_getElem_cons hn, asksL]
  rw [List.getElem?_eq_getElem hn] at hx
  injection hx with hx
  rw [hx]
mutual
theorem holds_mix {d e : D9} : ∀ (x : ExA), (∀ f, asksP f x = true → fieldV d f = fieldV e f) → holdsP d x = holdsP e x
  | .mk op A c l f m r v, h => by
    have hl : op ≠ 6 → anyP d l = anyP e l ∧ allP d l = allP e l := fun h6 => by
      have := holdsL_mix l (fun g hg => h g (by rw [asksP, if_neg h6]; exact hg))
      exact this
    rw [holdsP, holdsP]
    by_cases h3 : op = 3
    · rw [if_pos h3, if_pos h3, (hl (by omega)).1]
    · rw [if_neg h3, if_neg h3]
      by_cases h4 : op = 4
      · rw [if_pos h4, if_pos h4, (hl (by omega)).2]
      · rw [if_neg h4, if_neg h4]
        by_cases h5 : op = 5
        · rw [if_pos h5, if_pos h5, (hl (by omega)).1]
        · rw [if_neg h5, if_neg h5]
          by_cases h6 : op = 6
          · rw [if_pos h6, if_pos h6, h f (by rw [asksP, if_pos h6]; simp)]
          · rw [if_neg h6, if_neg h6]
theorem holdsL_mix {d e : D9} : ∀ (l : List ExA), (∀ f, asksL f l = true → fieldV d f = fieldV e f) → anyP d l = anyP e l ∧ allP d l = allP e l
  | [], _ => ⟨rfl, rfl⟩
  | x :: l, h => by
    have h1 := holds_mix x (fun f hf => h f (by rw [asksL, hf]; rfl))
    have h2 := holdsL_mix l (fun f hf => h f (by rw [asksL, hf]; simp))
    rw [anyP, anyP, allP, allP, h1, h2.1, h2.2]
    exact ⟨rfl, rfl⟩
end
def asksR (f : Int) (l : List RuA) : Bool := l.any fun x => asksP f x.when_
/-- Arguments that nobody asks for are another's. -/
def mixD (g : Int → Bool) (d o : D9) : D9 := ⟨d.nr, d.arch, d.ip, if g 0 then d.a0 else o.a0, if g 1 then d.a1 else o.a1, if g 2 then d.a2 else o.a2, if g 3 then d.a3 else o.a3, if g 4 then d.a4 else o.a4, if g 5 then d.a5 else o.a5⟩
theorem field_mix (g : Int → Bool) (d o : D9) {f : Int} (h0 : 0 ≤ f) (h6 : f ≤ 6) (hg : g f = true) : fieldV d f = fieldV (mixD g d o) f := by
  have : f = 0 ∨ f = 1 ∨ f = 2 ∨ f = 3 ∨ f = 4 ∨ f = 5 ∨ f = 6 := by omega
  rcases this with rfl | rfl | rfl | rfl | rfl | rfl | rfl <;> simp [fieldV, mixD, D9.args, hg]
mutual
theorem asks_range {M : Int} : ∀ (x : ExA) (deep : Nat) {f : Int}, withinP M deep x = 0 → asksP f x = true → 0 ≤ f ∧ f ≤ 6
  | .mk op A c l g m r v, deep, f, hw, ha => by
    obtain ⟨h1, h2, h3⟩ := within_parts hw
    rw [asksP] at ha
    by_cases h6 : op = 6
    · rw [if_pos h6] at ha
      have : g = f := by simpa using ha
      subst this h6
      rcases oneP_good h2 with ⟨e, _⟩ | ⟨e, _⟩ | ⟨e, _⟩ | ⟨e, _⟩ | ⟨e, _⟩ | ⟨-, -, f0, f6, -⟩
      all_goals first | exact absurd e (by decide) | exact ⟨f0, f6⟩
    · rw [if_neg h6] at ha
      exact asksL_range l (deep + 1) h3 ha
theorem asksL_range {M : Int} : ∀ (l : List ExA) (deep : Nat) {f : Int}, withinL M deep l = 0 → asksL f l = true → 0 ≤ f ∧ f ≤ 6
  | [], _, _, _, ha => by cases ha
  | x :: l, deep, f, hw, ha => by
    rw [withinL] at hw
    by_cases hx : withinP M deep x ≠ 0
    · rw [if_pos hx] at hw; exact absurd hw hx
    · rw [if_neg hx] at hw
      rw [asksL, Bool.or_eq_true] at ha
      rcases ha with ha | ha
      · exact asks_range (M := M) x deep (by simpa using hx) ha
      · exact asksL_range l deep hw ha
end
theorem says_mix {a : ByteArray} {d e : D9} (hn : d.nr = e.nr) (w0 : Int) : ∀ {l : List RuA}, (∀ r ∈ l, holdsP d r.when_ = holdsP e r.when_) → saysP a d w0 l = saysP a e w0 l := by
  intro l
  induction l with
  | nil => intro _; rfl
  | cons x l ih =>
    intro h
    rw [saysP, saysP, ih fun r hr => h r (by simp [hr]), h x (by simp), hn]
theorem ruleP_within {M : Int} {a : ByteArray} {x : RuA} (h : ruleP M a x = 0) : withinP M 0 x.when_ = 0 ∧ (actionP x.dk x.dd).2 = true ∧ x.calls ≠ [] := by
  unfold ruleP at h
  split at h
  · cases h
  · rename_i h0
    split at h
    · rename_i h1; exact absurd h h1
    · split at h
      · rename_i h1; exact absurd h h1
      · rename_i h1
        refine ⟨by simpa using h1, ?_, h0⟩
        cases e : (actionP x.dk x.dd).2 with
        | true => rfl
        | false => rw [e] at h; simp at h
theorem eval_mix {M : Int} {p : PolA} (hc : (checkP M p).1 = 0) (d o : D9) (g : Int → Bool) (hg : ∀ f, 0 ≤ f → f ≤ 5 → g f = asksR f p.rules) : evalP M p d = evalP M p (mixD g d o) := by
  obtain ⟨-, -, -, h5⟩ := check_parts hc
  unfold evalP
  rw [says_mix (a := p.arch) (d := d) (e := mixD g d o) rfl _ (fun r hr => ?_)]
  · rfl
  · refine holds_mix r.when_ fun f hf => ?_
    obtain ⟨f0, f6⟩ := asks_range r.when_ 0 (ruleP_within (h5 r hr)).1 hf
    by_cases h : f = 6
    · subst h; rfl
    · refine field_mix g d o f0 f6 ?_
      rw [hg f f0 (by omega)]
      exact List.any_eq_true.2 ⟨r, hr, hf⟩
def trueE : ExA := .mk 1 none 0 [] 0 0 0 0
def trueR (x : RuA) : RuA := ⟨x.A, x.cap, x.calls, trueE, x.dk, x.dd⟩
def traceR (x : RuA) : RuA := ⟨x.A, x.cap, x.calls, x.when_, 6, 7⟩
theorem rule_true {M : Int} {a : ByteArray} {x : RuA} (h : ruleP M a x = 0) : ruleP M a (trueR x) = 0 := by
  obtain ⟨h1, h2, h3⟩ := ruleP_within h
  have hc := ruleP_calls h
  have ht : withinP M 0 trueE = 0 := by
    simp [trueE, withinP, oneP, leastP, mostP, withinL]
  unfold ruleP trueR
  dsimp only
  rw [if_neg h3, hc, if_neg (by simp), ht, if_neg (by simp), if_pos h2]
theorem rule_trace {M : Int} {a : ByteArray} {x : RuA} (h : ruleP M a x = 0) : ruleP M a (traceR x) = 0 := by
  obtain ⟨h1, h2, h3⟩ := ruleP_within h
  have hc := ruleP_calls h
  unfold ruleP traceR
  dsimp only
  rw [if_neg h3, hc, if_neg (by simp), h1, if_neg (by simp), if_pos (by decide)]
/-- The rules with one put in, and without the one behind it. -/
def firstQ (n : Nat) (l : List RuA) : List RuA := match l[n]? with
  | none => l
  | some x => l.take n ++ (trueR x :: traceR x :: l.drop (n + 1))
def firstR (n : Nat) (l : List RuA) : List RuA := match l[n]? with
  | none => l
  | some x => l.take n ++ (trueR x :: l.drop (n + 1))
theorem len_firstQ {n : Nat} {l : List RuA} : (firstQ n l).length ≤ l.length + 1 := by
  unfold firstQ
  cases e : l[n]? with
  | none => simp
  | some x =>
    have := (List.getElem?_eq_some_iff.1 e).1
    simp only [List.length_append, List.length_take, List.length_cons, List.length_drop]
    omega
theorem firstQ_len {n : Nat} {l : List RuA} (h : n < l.length) : (firstQ n l).length = l.length + 1 := by
  unfold firstQ
  rw [List.getElem?_eq_getElem h]
  simp only [List.length_append, List.length_take, List.length_cons, List.length_drop]
  omega
theorem firstR_of {n : Nat} {l : List RuA} (h : n < l.length) : firstR n l = (firstQ n l).take (n + 1) ++ (firstQ n l).drop (n + 2) := by
  unfold firstQ firstR
  rw [List.getElem?_eq_getElem h]
  dsimp only
  have h1 : (l.take n).length = n := by rw [List.length_take]; omega
  have e1 : n + 1 - n = 1 := by omega
  have e2 : n + 2 - n = 2 := by omega
  have ht : (l.take n ++ (trueR l[n] :: traceR l[n] :: l.drop (n + 1))).take (n + 1) = l.take n ++ [trueR l[n]] := by
    rw [List.take_append, h1, List.take_of_length_le (show (l.take n).length ≤ n + 1 by omega), e1]; rfl
  have hd : (l.take n ++ (trueR l[n] :: traceR l[n] :: l.drop (n + 1))).drop (n + 2) = l.drop (n + 1) := by
    rw [List.drop_append, h1, List.drop_eq_nil_of_le (show (l.take n).length ≤ n + 2 by omega), e2]; rfl
  rw [ht, hd]
  simp
theorem firstQ_snoc {n : Nat} {l : List RuA} {x : RuA} (h : l.length ≠ n) : firstQ n (l ++ [x]) = firstQ n l ++ [x] := by
  unfold firstQ
  rcases Nat.lt_or_ge n l.length with hlt | hge
  · rw [List.getElem?_append_left hlt, List.getElem?_eq_getElem hlt]
    dsimp only
    rw [List.take_append_of_le_length (by omega), List.drop_append_of_le_length (by omega)]
    simp
  · rw [List.getElem?_eq_none (by simp; omega), List.getElem?_eq_none (by omega)]
theorem firstQ_at {l : List RuA} {x : RuA} : firstQ l.length (l ++ [x]) = firstQ l.length l ++ [trueR x, traceR x] := by
  unfold firstQ
  rw [List.getElem?_append_right (Nat.le_refl _), List.getElem?_eq_none (Nat.le_refl _)]
  simp
theorem firstQ_take {n i : Nat} {l : List RuA} {x : RuA} (hx : l[i]? = some x) : firstQ n (l.take (i + 1)) = firstQ n (l.take i) ++ (if i = n then [trueR x, traceR x] else [x]) := by
  have hi := (List.getElem?_eq_some_iff.1 hx).1
  rw [List.take_succ_eq_append_getElem hi]
  rw [List.getElem?_eq_getElem hi] at hx
  injection hx with hx
  rw [hx]
  have hl : (l.take i).length = i := by rw [List.length_take]; omega
  by_cases h : i = n
  · rw [if_pos h]
    have := firstQ_at (l := l.take i) (x := x)
    rw [hl, h] at this
    rw [h]; exact this
  · rw [if_neg h, firstQ_snoc (by rw [hl]; exact h)]
theorem says_app {a : ByteArray} {d : D9} {w0 : Int} (k m : List RuA) (h : saysP a d w0 k = saysP a d w0 m) : ∀ (l : List RuA), saysP a d w0 (l ++ k) = saysP a d w0 (l ++ m) := by
  intro l
  induction l with
  | nil => exact h
  | cons x l ih => rw [List.cons_append, List.cons_append, saysP, saysP, ih]
theorem says_first (a : ByteArray) (d : D9) (w0 : Int) (n : Nat) (l : List RuA) : saysP a d w0 (firstQ n l) = saysP a d w0 (firstR n l) := by
  unfold firstQ firstR
  cases l[n]? with
  | none => rfl
  | some x =>
    refine says_app _ _ ?_ _
    rw [saysP, saysP, saysP]
    have h1 : holdsP d (trueR x).when_ = true := by simp [trueR, trueE, holdsP]
    have h2 : namedP a d.nr (traceR x).calls = namedP a d.nr (trueR x).calls := rfl
    rw [h1, h2, Bool.and_true]
    cases namedP a d.nr (trueR x).calls <;> simp
theorem rulesP_all {M : Int} {a : ByteArray} : ∀ {l : List RuA} (i : Nat), (∀ r ∈ l, ruleP M a r = 0) → rulesP M a i l = (0, 0) := by
  intro l
  induction l with
  | nil => intro i _; rfl
  | cons x l ih =>
    intro i h
    rw [rulesP, h x (by simp), if_neg (by simp)]
    exact ih (i + 1) fun r hr => h r (by simp [hr])
theorem all_firstQ {M : Int} {a : ByteArray} {n : Nat} {l : List RuA} (h : ∀ r ∈ l, ruleP M a r = 0) : ∀ r ∈ firstQ n l, ruleP M a r = 0 := by
  intro r hr
  unfold firstQ at hr
  cases e : l[n]? with
  | none => rw [e] at hr; exact h r hr
  | some x =>
    rw [e] at hr
    have hx := h x (List.mem_of_getElem? e)
    simp only [List.mem_append, List.mem_cons] at hr
    rcases hr with hr | rfl | rfl | hr
    · exact h r (List.mem_of_mem_take hr)
    · exact rule_true hx
    · exact rule_trace hx
    · exact h r (List.mem_of_mem_drop hr)
theorem sub_firstR {n : Nat} {l : List RuA} : ∀ r ∈ firstR n l, r ∈ firstQ n l := by
  intro r hr
  unfold firstR at hr
  unfold firstQ
  cases e : l[n]? with
  | none => rw [e] at hr; exact hr
  | some x =>
    rw [e] at hr
    simp only [List.mem_append, List.mem_cons] at hr ⊢
    rcases hr with hr | hr | hr
    · exact Or.inl hr
    · exact Or.inr (Or.inl hr)
    · exact Or.inr (Or.inr (Or.inr hr))
theorem len_firstR {n : Nat} {l : List RuA} : (firstR n l).length ≤ (firstQ n l).length := by
  unfold firstR firstQ
  cases l[n]? with
  | none => simp
  | some x => simp
theorem eval_first {M : Int} {ar : ByteArray} {fk fd dk dd : Int} {A B : Option Addr} {c b : Nat} {n : Nat} {l : List RuA} (h : (checkP M ⟨ar, fk, fd, dk, dd, A, c, l⟩).1 = 0) (h512 : (firstQ n l).length ≤ 512) (d : D9) :
    evalP M ⟨ar, fk, fd, dk, dd, A, c, firstQ n l⟩ d = evalP M ⟨ar, fk, fd, dk, dd, B, b, firstR n l⟩ d := by
  obtain ⟨h1, ⟨h2, h3⟩, -, h5⟩ := check_parts h
  dsimp only at h1 h2 h3 h5
  have hQ : checkP M ⟨ar, fk, fd, dk, dd, A, c, firstQ n l⟩ = (0, 0) := by
    rw [check_of_parts (p := ⟨ar, fk, fd, dk, dd, A, c, firstQ n l⟩) h1 h2 h3 h512]; exact rulesP_all 0 (all_firstQ h5)
  have hR : checkP M ⟨ar, fk, fd, dk, dd, B, b, firstR n l⟩ = (0, 0) := by
    rw [check_of_parts (p := ⟨ar, fk, fd, dk, dd, B, b, firstR n l⟩) h1 h2 h3 (by have := len_firstR (n := n) (l := l); dsimp only; omega)]; exact rulesP_all 0 fun r hr => all_firstQ h5 r (sub_firstR r hr)
  unfold evalP
  rw [hQ, hR]
  dsimp only
  rw [says_first]
end Go.Proofs.Ytebkbcpnjknkjaa
