import Derived.Test.YtebkbcpnjknkjaaSemStr
set_option linter.unusedVariables false
set_option linter.unusedSimpArgs false
set_option maxRecDepth 100000
namespace Go.Proofs.Ytebkbcpnjknkjaa
open Go.RowKit
/-! SemNamed, plainly: a policy whose calls are numbered says what it says. -/
def nrB (l : List Nm) : Bool := l.all fun x => decide (0 ≤ x.nr) && decide (x.nr < 4294967296)
theorem nrB_tab (s : List UInt8) : nrB (tableP s) = true := by unfold tableP; split <;> (try split) <;> kernel_rfl
theorem numIn_range {l : List Nm} (hl : nrB l = true) (s : ByteArray) : 0 ≤ (numIn l s).1 ∧ (numIn l s).1 < 4294967296 := by
  induction l with
  | nil => simp [numIn]
  | cons x l ih =>
    simp only [nrB, List.all_cons, Bool.and_eq_true, decide_eq_true_eq] at hl
    rw [numIn]
    split
    · exact hl.1
    · exact ih (by simpa [nrB] using hl.2)
theorem numP_range (a s : ByteArray) : 0 ≤ (numP a s).1 ∧ (numP a s).1 < 4294967296 := numIn_range (nrB_tab _) s
def numCall (a : ByteArray) (x : CallP) : CallP := if x.name.data.toList = [] then x else ⟨⟨#[]⟩, (numP a x.name).1⟩
theorem nr_numCall {a : ByteArray} {x : CallP} (h : (nrP a x).2 = true) : nrP a (numCall a x) = nrP a x := by
  unfold numCall
  by_cases hn : x.name.data.toList = []
  · rw [if_pos hn]
  · rw [if_neg hn]
    unfold nrP at h ⊢
    rw [if_neg hn] at h ⊢
    have hr := numP_range a x.name
    simp only [Bool.and_eq_true, beq_iff_eq] at h
    rw [if_pos (by rfl)]
    simp only [h.1, h.2]
    refine Prod.ext ?_ ?_
    · simp only; omega
    · simp; omega
def numRule (a : ByteArray) (x : RuA) : RuA := ⟨none, 0, x.calls.map (numCall a), x.when_, x.dk, x.dd⟩
theorem callsP_all {a : ByteArray} : ∀ {seen : List Int} {cs : List CallP}, callsP a seen cs = 0 → ∀ c ∈ cs, (nrP a c).2 = true := by
  intro seen cs
  induction cs generalizing seen with
  | nil => intro _ c hc; cases hc
  | cons x l ih =>
    intro h c hc
    rw [callsP] at h
    split at h
    · cases h
    · rename_i h1
      split at h
      · cases h
      · rcases List.mem_cons.1 hc with rfl | hc
        · simpa using h1
        · exact ih h c hc
theorem callsP_num {a : ByteArray} : ∀ {seen : List Int} {cs : List CallP}, callsP a seen cs = 0 → callsP a seen (cs.map (numCall a)) = 0 := by
  intro seen cs
  induction cs generalizing seen with
  | nil => intro _; rfl
  | cons x l ih =>
    intro h
    have hx := callsP_all h x (by simp)
    rw [List.map_cons, callsP, nr_numCall hx]
    rw [callsP] at h
    split at h
    · cases h
    · rename_i h1
      rw [if_neg h1]
      split at h
      · cases h
      · rename_i h2
        rw [if_neg h2]
        exact ih h
theorem namedP_num {a : ByteArray} {nr : Int} : ∀ {cs : List CallP}, (∀ c ∈ cs, (nrP a c).2 = true) → namedP a nr (cs.map (numCall a)) = namedP a nr cs := by
  intro cs
  induction cs with
  | nil => intro _; rfl
  | cons x l ih =>
    intro h
    rw [List.map_cons, namedP, namedP, nr_numCall (h x (by simp)), ih fun c hc => h c (by simp [hc])]
theorem ruleP_calls {M : Int} {a : ByteArray} {x : RuA} (h : ruleP M a x = 0) : callsP a [] x.calls = 0 := by
  unfold ruleP at h
  split at h
  · cases h
  · split at h
    · rename_i h1; exact absurd h h1
    · rename_i h1; simpa using h1
theorem ruleP_num {M : Int} {a : ByteArray} {x : RuA} (h : ruleP M a x = 0) : ruleP M a (numRule a x) = 0 := by
  have hc := ruleP_calls h
  have hn := callsP_num hc
  unfold ruleP at h ⊢
  unfold numRule
  dsimp only
  rw [hn]
  rw [hc] at h
  split at h
  · cases h
  · rename_i h1
    rw [if_neg (by simpa using h1)]
    exact h
theorem rulesP_num {M : Int} {a : ByteArray} : ∀ {l : List RuA}, (∀ r ∈ l, ruleP M a r = 0) → ∀ i, rulesP M a i (l.map (numRule a)) = (0, 0) := by
  intro l
  induction l with
  | nil => intro _ i; rfl
  | cons x l ih =>
    intro h i
    rw [List.map_cons, rulesP, ruleP_num (h x (by simp)), if_neg (by simp)]
    exact ih (fun r hr => h r (by simp [hr])) (i + 1)
def numPol (p : PolA) : PolA := ⟨p.arch, p.fk, p.fd, p.dk, p.dd, none, 0, p.rules.map (numRule p.arch)⟩
theorem rulesP_ok {M : Int} {a : ByteArray} : ∀ {l : List RuA} {i : Nat}, (rulesP M a i l).1 = 0 → ∀ r ∈ l, ruleP M a r = 0 := by
  intro l
  induction l with
  | nil => intro i _ r hr; cases hr
  | cons x l ih =>
    intro i h r hr
    rw [rulesP] at h
    split at h
    · rename_i h1; exact absurd h h1
    · rename_i h1
      rcases List.mem_cons.1 hr with rfl | hr
      · simpa using h1
      · exact ih h r hr
theorem check_parts {M : Int} {p : PolA} (h : (checkP M p).1 = 0) : (archP p.arch.data.toList).2 = true ∧ ((actionP p.fk p.fd).2 = true ∧ (actionP p.dk p.dd).2 = true) ∧ p.rules.length ≤ 512 ∧ ∀ r ∈ p.rules, ruleP M p.arch r = 0 := by
  unfold checkP at h
  split at h
  · cases h
  · rename_i h1
    split at h
    · cases h
    · rename_i h2
      split at h
      · cases h
      · rename_i h3
        refine ⟨by simpa using h1, ⟨?_, ?_⟩, by omega, rulesP_ok h⟩
        · cases e : (actionP p.fk p.fd).2 with
          | true => rfl
          | false => exact absurd (Or.inl e) h2
        · cases e : (actionP p.dk p.dd).2 with
          | true => rfl
          | false => exact absurd (Or.inr e) h2
theorem check_of_parts {M : Int} {p : PolA} (h1 : (archP p.arch.data.toList).2 = true) (h2 : (actionP p.fk p.fd).2 = true) (h3 : (actionP p.dk p.dd).2 = true) (h4 : p.rules.length ≤ 512) : checkP M p = rulesP M p.arch 0 p.rules := by
  unfold checkP
  rw [if_neg (by rw [h1]; simp), if_neg (by rw [h2, h3]; simp), if_neg (by omega)]
theorem check_num {M : Int} {p : PolA} (h : (checkP M p).1 = 0) : checkP M (numPol p) = (0, 0) := by
  obtain ⟨h1, ⟨h2, h3⟩, h4, h5⟩ := check_parts h
  rw [check_of_parts (p := numPol p) h1 h2 h3 (by simpa [numPol] using h4)]
  exact rulesP_num h5 0
theorem says_num {M : Int} {a : ByteArray} (d : D9) (w0 : Int) : ∀ {l : List RuA}, (∀ r ∈ l, ruleP M a r = 0) → saysP a d w0 (l.map (numRule a)) = saysP a d w0 l := by
  intro l
  induction l with
  | nil => intro _; rfl
  | cons x l ih =>
    intro h
    rw [List.map_cons, saysP, saysP, ih fun r hr => h r (by simp [hr])]
    unfold numRule
    dsimp only
    rw [namedP_num (callsP_all (ruleP_calls (h x (by simp))))]
theorem eval_num {M : Int} {p : PolA} (h : (checkP M p).1 = 0) (d : D9) : evalP M (numPol p) d = evalP M p d := by
  have h0 := check_num h
  obtain ⟨-, -, -, h5⟩ := check_parts h
  unfold evalP
  rw [h0, h]
  simp only [numPol]
  rw [says_num d _ h5]
  rfl
theorem Ok_num {p : PolA} (h : p.Ok) : (numPol p).Ok := by
  refine ⟨h.arch, h.fd, h.dd, ?_⟩
  intro r hr
  simp only [numPol, List.mem_map] at hr
  obtain ⟨x, hx, rfl⟩ := hr
  have hk := h.rules x hx
  refine ⟨?_, hk.dd, by simpa [numRule] using hk.len, hk.fits⟩
  intro c hc
  simp only [numRule, List.mem_map] at hc
  obtain ⟨y, hy, rfl⟩ := hc
  unfold numCall
  split
  · exact hk.nrs y hy
  · have := numP_range p.arch y.name
    dsimp only
    omega
/-! No more calls than numbers. -/
theorem pigeon : ∀ (N : Nat) (l : List Int), l.Nodup → (∀ x ∈ l, 0 ≤ x ∧ x < N) → l.length ≤ N := by
  intro N
  induction N with
  | zero =>
    intro l _ h
    cases l with
    | nil => simp
    | cons x l => have := h x (by simp); omega
  | succ N ih =>
    intro l hn h
    by_cases hm : (N : Int) ∈ l
    · have h1 := List.length_erase_of_mem hm
      have h2 := ih (l.erase (N : Int)) (hn.erase _) (fun x hx => by
        have h3 := (List.Nodup.mem_erase_iff hn).1 hx
        have h4 := h x h3.2
        have : x ≠ (N : Int) := h3.1
        omega)
      omega
    · have := ih l hn (fun x hx => by
        have h4 := h x hx
        have : x ≠ (N : Int) := fun e => hm (e ▸ hx)
        omega)
      omega
theorem callsP_nodup {a : ByteArray} : ∀ {cs : List CallP} {seen : List Int}, seen.Nodup → callsP a seen cs = 0 → (seen ++ cs.map fun c => (nrP a c).1).Nodup := by
  intro cs
  induction cs with
  | nil => intro seen hs _; simpa using hs
  | cons x l ih =>
    intro seen hs h
    rw [callsP] at h
    split at h
    · cases h
    · split at h
      · cases h
      · rename_i h2
        have := ih (seen := seen ++ [(nrP a x).1]) (by rw [List.nodup_append]; exact ⟨hs, by simp, by intro u hu v hv; simp at hv; subst hv; intro e; exact h2 (e ▸ hu)⟩) h
        simpa using this
theorem nrP_range7 {a : ByteArray} {x : CallP} (h0 : 0 ≤ x.nr) : 0 ≤ (nrP a x).1 ∧ (nrP a x).1 < 4294967296 := by
  unfold nrP
  split
  · dsimp only; omega
  · exact numP_range a x.name
theorem calls_len {a : ByteArray} {cs : List CallP} (hn : ∀ c ∈ cs, 0 ≤ c.nr ∧ c.nr < 18446744073709551616) (h : callsP a [] cs = 0) : cs.length ≤ 4294967296 := by
  have h1 := callsP_nodup (seen := []) (by simp) h
  have h2 := pigeon 4294967296 _ h1 (fun x hx => by
    simp only [List.nil_append, List.mem_map] at hx
    obtain ⟨c, hc, rfl⟩ := hx
    exact nrP_range7 (hn c hc).1)
  simpa using h2
/-! Names have numbers that rise. -/
def riseB (l : List Nm) : Bool := (List.range l.length).all fun i => match l[i]?, l[i + 1]? with
  | some x, some y => (numIn l x.name == (x.nr, true)) && (numIn l y.name == (y.nr, true)) && decide (x.nr < y.nr)
  | _, _ => true
theorem rise_tab (s : List UInt8) : riseB (tableP s) = true := by unfold tableP; split <;> (try split) <;> kernel_rfl
theorem names_rise (a : ByteArray) {i : Nat} {u v : ByteArray} (hu : (namesP a)[i]? = some u) (hv : (namesP a)[i + 1]? = some v) : ∃ n m, numP a u = (n, true) ∧ numP a v = (m, true) ∧ n < m := by
  unfold namesP at hu hv
  rw [List.getElem?_map] at hu hv
  obtain ⟨x, hx, rfl⟩ := Option.map_eq_some_iff.1 hu
  obtain ⟨y, hy, rfl⟩ := Option.map_eq_some_iff.1 hv
  have h := rise_tab a.data.toList
  unfold riseB at h
  rw [List.all_eq_true] at h
  have h := h i (by rw [List.mem_range]; exact (List.getElem?_eq_some_iff.1 hx).1)
  rw [hx, hy] at h
  simp only [Bool.and_eq_true, beq_iff_eq, decide_eq_true_eq] at h
  exact ⟨x.nr, y.nr, h.1.1, h.1.2, h.2⟩
end Go.Proofs.Ytebkbcpnjknkjaa
