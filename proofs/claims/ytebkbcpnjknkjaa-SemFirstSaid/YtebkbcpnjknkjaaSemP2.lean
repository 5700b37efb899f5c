import Derived.Test.YtebkbcpnjknkjaaSemP
set_option linter.unusedVariables false
set_option linter.unusedSimpArgs false
set_option maxRecDepth 100000
namespace Go.Proofs.Ytebkbcpnjknkjaa
open Go.RowKit
/-! Chapter 07, plainly: which expressions may be. M: how many parts there may be at most. -/
def leastP (op : Int) : Int := if op = 3 then 1 else if op = 4 ∨ op = 5 then 2 else 0
def mostP (M : Int) (op : Int) : Int := if op = 3 then 1 else if op = 4 ∨ op = 5 then M else 0
def oneP (M : Int) (op : Int) (n : Nat) (f m r v : Int) : Int :=
  if op < 1 ∨ 6 < op ∨ (n : Int) < leastP op ∨ mostP M op < n then 76
  else if op ≠ 6 then 0
  else if f < 0 ∨ 6 < f ∨ r < 1 ∨ 6 < r then 76
  else if m = 0 ∨ bits .andNot .u64 v m ≠ 0 then 75 else 0
mutual
def withinP (M : Int) (deep : Nat) : ExA → Int
  | .mk op _ _ l f m r v => if 200 < deep then 76 else if oneP M op l.length f m r v ≠ 0 then oneP M op l.length f m r v else withinL M (deep + 1) l
def withinL (M : Int) (deep : Nat) : List ExA → Int
  | [] => 0
  | x :: l => if withinP M deep x ≠ 0 then withinP M deep x else withinL M deep l
end
mutual
/-- No row is longer than a row may be. -/
def ExA.fits : ExA → Prop
  | .mk _ _ _ l _ _ _ _ => l.length ≤ 9223372036854775807 ∧ ExA.fitsL l
def ExA.fitsL : List ExA → Prop
  | [] => True
  | x :: l => ExA.fits x ∧ ExA.fitsL l
end
theorem ExA.fitsL_get {l : List ExA} (h : ExA.fitsL l) {i : Nat} {x : ExA} (hx : l[i]? = some x) : x.fits := by
  induction l generalizing i with
  | nil => simp at hx
  | cons y l ih =>
    simp only [ExA.fitsL] at h
    cases i with
    | zero => simp at hx; subst hx; exact h.1
    | succ i => exact ih h.2 (by simpa using hx)
theorem withinL_drop {M : Int} {deep : Nat} {l : List ExA} {n : Nat} {x : ExA} (hx : l[n]? = some x) : withinL M deep (l.drop n) = if withinP M deep x ≠ 0 then withinP M deep x else withinL M deep (l.drop (n + 1)) := by
  have hn := (List.getElem?_eq_some_iff.1 hx).1
  rw [List.drop_eq_getElem_cons hn, withinL]
  rw [List.getElem?_eq_getElem hn] at hx
  injection hx with hx
  rw [hx]
mutual
/-- No row is longer than M. -/
def ExA.small (M : Nat) : ExA → Prop
  | .mk _ _ _ l _ _ _ _ => l.length ≤ M ∧ ExA.smallL M l
def ExA.smallL (M : Nat) : List ExA → Prop
  | [] => True
  | x :: l => ExA.small M x ∧ ExA.smallL M l
end
theorem ExA.smallL_get {M : Nat} {l : List ExA} (h : ExA.smallL M l) {i : Nat} {x : ExA} (hx : l[i]? = some x) : x.small M := by
  induction l generalizing i with
  | nil => simp at hx
  | cons y l ih =>
    simp only [ExA.smallL] at h
    cases i with
    | zero => simp at hx; subst hx; exact h.1
    | succ i => exact ih h.2 (by simpa using hx)
/-- An expression itself is as it may be: which ways there are. -/
theorem oneP_good {M : Int} {op f m r v : Int} {n : Nat} (h : oneP M op n f m r v = 0) :
    (op = 1 ∧ n = 0) ∨ (op = 2 ∧ n = 0) ∨ (op = 3 ∧ n = 1) ∨ (op = 4 ∧ 2 ≤ n) ∨ (op = 5 ∧ 2 ≤ n) ∨ (op = 6 ∧ n = 0 ∧ 0 ≤ f ∧ f ≤ 6 ∧ 1 ≤ r ∧ r ≤ 6 ∧ m ≠ 0 ∧ bits .andNot .u64 v m = 0) := by
  unfold oneP at h
  split at h
  · cases h
  · rename_i h1
    have hop : op = 1 ∨ op = 2 ∨ op = 3 ∨ op = 4 ∨ op = 5 ∨ op = 6 := by omega
    rcases hop with rfl | rfl | rfl | rfl | rfl | rfl <;> simp [leastP, mostP] at h1 <;> try omega
theorem oneP_bad {M : Int} {op f m r v : Int} {n : Nat} (hM : (n : Int) ≤ M) (h : oneP M op n f m r v ≠ 0) :
    (oneP M op n f m r v = 76 ∧ (((op = 1 ∨ op = 2) ∧ n ≠ 0) ∨ (op = 3 ∧ n ≠ 1) ∨ ((op = 4 ∨ op = 5) ∧ n < 2) ∨ (op = 6 ∧ (n ≠ 0 ∨ f < 0 ∨ 6 < f ∨ r < 1 ∨ 6 < r)) ∨ op < 1 ∨ 6 < op)) ∨
    (oneP M op n f m r v = 75 ∧ op = 6 ∧ n = 0 ∧ 0 ≤ f ∧ f ≤ 6 ∧ 1 ≤ r ∧ r ≤ 6 ∧ (m = 0 ∨ (m ≠ 0 ∧ bits .andNot .u64 v m ≠ 0))) := by
  unfold oneP at h ⊢
  by_cases h1 : op < 1 ∨ 6 < op ∨ (n : Int) < leastP op ∨ mostP M op < n
  · rw [if_pos h1]
    left
    refine ⟨rfl, ?_⟩
    by_cases hop : op < 1 ∨ 6 < op
    · omega
    · have hop : op = 1 ∨ op = 2 ∨ op = 3 ∨ op = 4 ∨ op = 5 ∨ op = 6 := by omega
      rcases hop with rfl | rfl | rfl | rfl | rfl | rfl <;> simp [leastP, mostP] at h1 <;> omega
  · rw [if_neg h1] at h ⊢
    by_cases h6 : op = 6
    · subst h6
      rw [if_neg (fun h => h rfl)] at h ⊢
      by_cases h3 : f < 0 ∨ 6 < f ∨ r < 1 ∨ 6 < r
      · rw [if_pos h3]; left; exact ⟨rfl, by omega⟩
      · rw [if_neg h3] at h ⊢
        have hn : n = 0 := by simp [leastP, mostP] at h1; omega
        by_cases h4 : m = 0
        · rw [if_pos (Or.inl h4)]; right; exact ⟨rfl, rfl, hn, by omega, by omega, by omega, by omega, Or.inl h4⟩
        · by_cases h5 : bits .andNot .u64 v m = 0
          · rw [if_neg (by rintro (h | h); exact h4 h; exact h h5)] at h; exact absurd rfl h
          · rw [if_pos (Or.inr h5)]; right; exact ⟨rfl, rfl, hn, by omega, by omega, by omega, by omega, Or.inr ⟨h4, h5⟩⟩
    · rw [if_pos h6] at h; exact absurd rfl h
theorem within_nil {M : Int} {deep n : Nat} {l : List ExA} (hl : l.length ≤ n) : withinL M deep (l.drop n) = 0 := by rw [List.drop_eq_nil_of_le hl]; rfl
theorem RowN.ex {W : World} {N : Nat → Prop} {A : Option Addr} {l : List ExA} (h : RowN W N 6 A l.length (cellsX l)) {i : Nat} {op f m r v : Int} {B : Option Addr} {c : Nat} {k : List ExA} (hx : l[i]? = some (.mk op B c k f m r v)) :
    ∃ b off, A = some ⟨b, off, none⟩ ∧ b < W.heap.size ∧ W.cell? ⟨b, off + i * 6, none⟩ = some (.int .i64 op) ∧ W.cell? ⟨b, off + i * 6 + 1, none⟩ = some (.slice B k.length c) ∧ W.cell? ⟨b, off + i * 6 + 2, none⟩ = some (.int .i64 f) ∧ W.cell? ⟨b, off + i * 6 + 3, none⟩ = some (.int .u64 m) ∧ W.cell? ⟨b, off + i * 6 + 4, none⟩ = some (.int .i64 r) ∧ W.cell? ⟨b, off + i * 6 + 5, none⟩ = some (.int .u64 v) := by
  have hi : i < l.length := (List.getElem?_eq_some_iff.1 hx).1
  obtain ⟨b, off, e, hb, hc⟩ := h.2 (by omega)
  have g := fun m hm => cellsX_get l i _ hx m hm
  have c0 := hc (i * 6 + 0) _ (by rw [g 0 (by omega)]; rfl)
  exact ⟨b, off, e, World.block_lt_of_cell? W _ c0, c0, hc (i * 6 + 1) _ (by rw [g 1 (by omega)]; rfl), hc (i * 6 + 2) _ (by rw [g 2 (by omega)]; rfl), hc (i * 6 + 3) _ (by rw [g 3 (by omega)]; rfl), hc (i * 6 + 4) _ (by rw [g 4 (by omega)]; rfl), hc (i * 6 + 5) _ (by rw [g 5 (by omega)]; rfl)⟩
/-! A call's number. -/
def nrP (arch : ByteArray) (x : CallP) : Int × Bool :=
  if x.name.data.toList = [] then (x.nr % 4294967296, decide (x.nr < 4294967296)) else ((numP arch x.name).1, (numP arch x.name).2 && x.nr == 0)
/-! Rules, policies. -/
def callsP (a : ByteArray) : List Int → List CallP → Int
  | _, [] => 0
  | seen, x :: l => if (nrP a x).2 = false then 73 else if (nrP a x).1 ∈ seen then 74 else callsP a (seen ++ [(nrP a x).1]) l
theorem callsP_drop {a : ByteArray} {seen : List Int} {l : List CallP} {n : Nat} {x : CallP} (hx : l[n]? = some x) : callsP a seen (l.drop n) = if (nrP a x).2 = false then 73 else if (nrP a x).1 ∈ seen then 74 else callsP a (seen ++ [(nrP a x).1]) (l.drop (n + 1)) := by
  have hn := (List.getElem?_eq_some_iff.1 hx).1
  rw [List.drop_eq_getElem_cons hn, callsP]
  rw [List.getElem?_eq_getElem hn] at hx
  injection hx with hx
  rw [hx]
def ruleP (M : Int) (a : ByteArray) (x : RuA) : Int :=
  if x.calls = [] then 73 else if callsP a [] x.calls ≠ 0 then callsP a [] x.calls else if withinP M 0 x.when_ ≠ 0 then withinP M 0 x.when_ else if (actionP x.dk x.dd).2 = true then 0 else 72
structure RuA.Ok (x : RuA) : Prop where
  nrs : ∀ c ∈ x.calls, 0 ≤ c.nr ∧ c.nr < 18446744073709551616
  dd : 0 ≤ x.dd ∧ x.dd < 18446744073709551616
  len : x.calls.length ≤ 9223372036854775807
  fits : x.when_.fits
def rulesP (M : Int) (a : ByteArray) : Nat → List RuA → Int × Int
  | _, [] => (0, 0)
  | i, x :: l => if ruleP M a x ≠ 0 then (ruleP M a x, i) else rulesP M a (i + 1) l
theorem rulesP_drop {M : Int} {a : ByteArray} {l : List RuA} {n : Nat} {x : RuA} (hx : l[n]? = some x) : rulesP M a n (l.drop n) = if ruleP M a x ≠ 0 then (ruleP M a x, (n : Int)) else rulesP M a (n + 1) (l.drop (n + 1)) := by
  have hn := (List.getElem?_eq_some_iff.1 hx).1
  rw [List.drop_eq_getElem_cons hn, rulesP]
  rw [List.getElem?_eq_getElem hn] at hx
  injection hx with hx
  rw [hx]
def checkP (M : Int) (p : PolA) : Int × Int :=
  if (archP p.arch.data.toList).2 = false then (71, -1) else if (actionP p.fk p.fd).2 = false ∨ (actionP p.dk p.dd).2 = false then (72, -1)
  else if 512 < p.rules.length then (2, -1) else rulesP M p.arch 0 p.rules
structure PolA.Ok (p : PolA) : Prop where
  arch : p.arch.size ≤ maxLen
  fd : 0 ≤ p.fd ∧ p.fd < 18446744073709551616
  dd : 0 ≤ p.dd ∧ p.dd < 18446744073709551616
  rules : ∀ r ∈ p.rules, r.Ok
theorem RowN.call {W : World} {N : Nat → Prop} {A : Option Addr} {l : List CallP} (h : RowN W N 2 A l.length (cellsC l)) {i : Nat} {n : ByteArray} {k : Int} (hx : l[i]? = some ⟨n, k⟩) :
    ∃ b off, A = some ⟨b, off, none⟩ ∧ b < W.heap.size ∧ W.cell? ⟨b, off + i * 2, none⟩ = some (.string n) ∧ W.cell? ⟨b, off + i * 2 + 1, none⟩ = some (.int .u64 k) := by
  have hi : i < l.length := (List.getElem?_eq_some_iff.1 hx).1
  obtain ⟨b, off, e, hb, hc⟩ := h.2 (by omega)
  have g := fun m hm => cellsC_get l i _ hx m hm
  have c0 := hc (i * 2 + 0) _ (by rw [g 0 (by omega)]; rfl)
  exact ⟨b, off, e, World.block_lt_of_cell? W _ c0, c0, hc (i * 2 + 1) _ (by rw [g 1 (by omega)]; rfl)⟩
theorem RowN.rule {W : World} {N : Nat → Prop} {A : Option Addr} {l : List RuA} (h : RowN W N 9 A l.length (cellsU l)) {i : Nat} {B : Option Addr} {cp : Nat} {cs : List CallP} {op f m r v : Int} {C : Option Addr} {c : Nat} {k : List ExA} {dk dd : Int} (hx : l[i]? = some ⟨B, cp, cs, .mk op C c k f m r v, dk, dd⟩) :
    ∃ b off, A = some ⟨b, off, none⟩ ∧ b < W.heap.size ∧ W.cell? ⟨b, off + i * 9, none⟩ = some (.slice B cs.length cp) ∧ W.cell? ⟨b, off + i * 9 + 1, none⟩ = some (.int .i64 op) ∧ W.cell? ⟨b, off + i * 9 + 2, none⟩ = some (.slice C k.length c) ∧ W.cell? ⟨b, off + i * 9 + 3, none⟩ = some (.int .i64 f) ∧ W.cell? ⟨b, off + i * 9 + 4, none⟩ = some (.int .u64 m) ∧ W.cell? ⟨b, off + i * 9 + 5, none⟩ = some (.int .i64 r) ∧ W.cell? ⟨b, off + i * 9 + 6, none⟩ = some (.int .u64 v) ∧ W.cell? ⟨b, off + i * 9 + 7, none⟩ = some (.int .i64 dk) ∧ W.cell? ⟨b, off + i * 9 + 8, none⟩ = some (.int .u64 dd) := by
  have hi : i < l.length := (List.getElem?_eq_some_iff.1 hx).1
  obtain ⟨b, off, e, hb, hc⟩ := h.2 (by omega)
  have g := fun m hm => cellsU_get l i _ hx m hm
  have c0 := hc (i * 9 + 0) _ (by rw [g 0 (by omega)]; rfl)
  exact ⟨b, off, e, World.block_lt_of_cell? W _ c0, c0, hc (i * 9 + 1) _ (by rw [g 1 (by omega)]; rfl), hc (i * 9 + 2) _ (by rw [g 2 (by omega)]; rfl), hc (i * 9 + 3) _ (by rw [g 3 (by omega)]; rfl), hc (i * 9 + 4) _ (by rw [g 4 (by omega)]; rfl), hc (i * 9 + 5) _ (by rw [g 5 (by omega)]; rfl), hc (i * 9 + 6) _ (by rw [g 6 (by omega)]; rfl), hc (i * 9 + 7) _ (by rw [g 7 (by omega)]; rfl), hc (i * 9 + 8) _ (by rw [g 8 (by omega)]; rfl)⟩
theorem nrP_range (a : ByteArray) (x : CallP) (h : 0 ≤ x.nr ∧ x.nr < 18446744073709551616) : 0 ≤ (nrP a x).1 ∧ (nrP a x).1 < 4294967296 := by
  unfold nrP
  split
  · dsimp only; omega
  · dsimp only
    unfold numP
    have : ∀ l ∈ [tabX, tabR, []], 0 ≤ (numIn l x.name).1 ∧ (numIn l x.name).1 < 4294967296 := by
      have key : ∀ l : List Nm, (∀ y ∈ l, 0 ≤ y.nr ∧ y.nr < 4294967296) → 0 ≤ (numIn l x.name).1 ∧ (numIn l x.name).1 < 4294967296 := by
        intro l
        induction l with
        | nil => intro _; simp [numIn]
        | cons y l ih =>
          intro hl
          rw [numIn]
          split
          · exact hl y (by simp)
          · exact ih (fun z hz => hl z (by simp [hz]))
      intro l hl
      refine key l ?_
      simp only [List.mem_cons, List.mem_nil_iff, or_false] at hl
      rcases hl with rfl | rfl | rfl
      · decide
      · decide
      · simp
    apply this
    unfold tableP
    split
    · simp
    · split <;> simp
end Go.Proofs.Ytebkbcpnjknkjaa
