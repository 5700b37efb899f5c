import Derived.Test.YtkckaimefklenaaBase
import Derived.Deep.RegionHeld3
import Derived.Deep.DeepMust
set_option linter.unusedVariables false
set_option linter.unusedSimpArgs false
namespace Go.Proofs.Ytkckaimefklenaa
open Go.RowKit
/-- append, as a step of a region that draws. -/
theorem step_app {P : Program} {w : World} {ops : Array Oper} {o : Oper} {a : Act} {K : Act → World → Prop} {Q : Exit → Act → World → Prop} {E : Prop} (hgd : o.guard = none) (s x : Operand) (t : TypeId)
    (ho : o.op = .call { callee := .builtin .append, args := #[s, x], argTypes := #[t, t] })
    (base : Nat) (e : TypeId) (i : TypeInfo) (z : Value) (size bytes : Nat) (ht : P.underlying t = some (.slice e)) (hi : P.info? e = some i) (hz : i.zero = some z)
    (hsize : i.size = size) (hby : i.bytes = bytes) (hzs : z.cells.size = size) (hsz : 0 < size)
    (v : Value) (n : Nat) (xs : List Value) (hs : a.eval s = v) (hown : w.ownsRow base e size v n xs)
    (A : Option Addr) (B m c : Nat) (news : List Value) (hx : a.eval x = .slice A m c) (hA : A = none → c = 0) (hr : Reads w B size A m news) (h1 : ∀ u ∈ news, u.oneCell' = true)
    (h63 : n + m ≤ maxLen) (hbytes : (n + m) * bytes ≤ 140737488355328) (hbase : base ≤ w.heap.size)
    (h : ∀ v' w', w'.ownsRow base e size v' (n + m) (xs ++ news) → w.grownBy w' v.ownBlock → (v' = .slice none 0 0 ↔ v = .slice none 0 0 ∧ m = 0) → K (a.put o.dst v') w') :
    if Region.wanted o (yielded ops a.tmps) = true then Oper.wp P o a w K Q else E := by
  have hw : Region.wanted o (yielded ops a.tmps) = true := by simp [Region.wanted, hgd]
  rw [if_pos hw]
  cases A with
  | some ad =>
    refine wp_append_own w s x t ho base e i z size bytes ht hi hz hsize hby hzs hsz v n xs hs hown ad m c news hx hr.1 (fun j u hu => ?_) h1 h63 hbytes hbase h
    have hm : 0 < m := by
      have := (List.getElem?_eq_some_iff.1 hu).1
      rw [hr.1] at this
      rcases Nat.eq_zero_or_pos m with h0 | h0
      · subst h0; simp at this
      · exact h0
    obtain ⟨b, off, e', _, hc⟩ := hr.2 hm
    injection e' with e'
    subst e'
    rw [add_plain]; exact hc j u hu
  | none =>
    obtain rfl := hA rfl
    have hm : m = 0 := by
      rcases Nat.eq_zero_or_pos m with h0 | h0
      · exact h0
      · obtain ⟨_, _, e', _⟩ := hr.2 h0; cases e'
    subst hm
    have hn : news = [] := List.eq_nil_of_length_eq_zero (by rw [hr.1]; simp)
    subst hn
    have hrun := run_append_owned_none (P := P) (w := w) base t o.type e i size ht hi v n xs hown
    unfold Oper.wp execOp
    simp only [ho, resolve, invoke, builtin, Sem.run_bind, Sem.run_pure, Result.andThen_ok, List.map_toArray, List.map_cons, List.map_nil, hs, hx, hrun]
    exact h v w (by simpa using hown) ⟨rfl, rfl, rfl, Nat.le_refl _, fun _ _ _ => rfl⟩ (by simp)
theorem isSome_set {W : World} {a : Addr} {u : Value} {b : Addr} (h : (W.cell? b).isSome = true) : ((W.setCell a u).cell? b).isSome = true := by
  by_cases e : a = b
  · subst e
    obtain ⟨x, hx⟩ := Option.isSome_iff_exists.1 h
    rw [World.cell?_setCell_same _ _ _ hx]; rfl
  · rw [World.cell?_setCell_other _ _ _ _ e]; exact h
def cellD (W : World) (a : Addr) : Value := (W.cell? a).getD undef
theorem cellD_of {W : World} {a : Addr} (h : (W.cell? a).isSome = true) : W.cell? a = some (cellD W a) := by
  obtain ⟨x, hx⟩ := Option.isSome_iff_exists.1 h
  unfold cellD; rw [hx]; rfl
end Go.Proofs.Ytkckaimefklenaa
