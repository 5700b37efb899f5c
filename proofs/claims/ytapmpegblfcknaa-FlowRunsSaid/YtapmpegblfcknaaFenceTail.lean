import Derived.Test.YtapmpegblfcknaaBase
import Derived.StillTail
import Derived.OrdersIn
set_option linter.unusedVariables false
set_option linter.unusedSimpArgs false
namespace Go.Proofs.Ytapmpegblfcknaa
open Go.RowKit
/-! A region that draws its order, inside a fence and inside a round, where nobody is called. -/
def Plain (r : Result Next) : Prop := match r with
  | .ok (.value _) _ => True
  | .ok .skip _ => True
  | .halt _ _ => True
  | _ => False
def Alone (P : Program) (o : Oper) : Prop := ∀ ρ w, o.about P w ρ = none ∧ (∀ r, o.semAt r ρ = execOp ρ o) ∧ Plain ((execOp ρ o).run P w)
def aloneB (o : Oper) : Bool := match o.op with
  | .move _ | .assign _ | .load .. | .store .. | .indexAddr .. | .fieldAddr .. | .binOp .. | .convert .. | .unOp .. | .extract .. | .build .. | .buildSlice .. | .slice .. | .alloc .. => true
  | .call c => match c.callee with
    | .builtin .len => true
    | .builtin .max => true
    | .builtin .min => true
    | _ => false
  | _ => false
section
variable {P : Program} {w : World}
theorem plain_v (s : Sem Value) : Plain ((do let x ← s; pure (Next.value x) : Sem Next).run P w) := by
  simp only [Sem.run_bind]
  cases s.run P w with
  | ok v w' => simp [Plain]
  | halt v w' => simp [Plain, Result.andThen]
theorem plain_u (s : Sem Unit) : Plain ((do s; pure Next.skip : Sem Next).run P w) := by
  simp only [Sem.run_bind]
  cases s.run P w with
  | ok v w' => simp [Plain]
  | halt v w' => simp [Plain, Result.andThen]
theorem alone_of {o : Oper} (h : aloneB o = true) : Alone P o := by
  intro ρ w
  unfold aloneB at h
  cases ho : o.op <;> simp only [ho] at h <;> first
    | (cases h; done)
    | (refine ⟨by unfold Oper.about; simp only [ho], fun r => Oper.semAt_eq r ρ o (fun c => by rw [ho]; intro e; cases e), ?_⟩
       unfold execOp
       simp only [ho]
       first | exact plain_v _ | exact plain_u _ | (simp [Plain]; done))
    | (rename_i c
       cases hc : c.callee <;> simp only [hc] at h <;> first
         | (cases h; done)
         | (rename_i b
            cases b <;> first
              | (cases h; done)
              | (refine ⟨by unfold Oper.about; simp [ho, resolve, hc, Target.leads], fun r => Oper.semAt_eq r ρ o (fun c => by rw [ho]; intro e; cases e), ?_⟩
                 unfold execOp
                 simp only [ho, resolve, hc, invoke, builtin, Sem.run_bind, Sem.run_pure, Result.andThen_ok]
                 first | exact plain_v _ | (have := plain_v (P := P) (w := w) (Builtin.len_ c.argTypes o.type (c.args.map ρ)); simpa [Sem.run_bind] using this) | (have := plain_v (P := P) (w := w) (Builtin.max_ c.argTypes o.type (c.args.map ρ)); simpa [Sem.run_bind] using this) | (have := plain_v (P := P) (w := w) (Builtin.min_ c.argTypes o.type (c.args.map ρ)); simpa [Sem.run_bind] using this))))
/-- No way out for what asks for more than there is. -/
def NoOut (Q : Exit → Act → World → Prop) : Exit → Act → World → Prop
  | .outgrown, _, _ => False
  | e, a, w => Q e a w
theorem noOut_lets {Q : Exit → Act → World → Prop} : ¬ LetsOut (NoOut Q) := fun ⟨_, _, h⟩ => h
theorem noOut_to {Q : Exit → Act → World → Prop} (e : Exit) (a : Act) (w : World) (h : NoOut Q e a w) : Q e a w := by cases e <;> first | exact h | exact h.elim
theorem wp_alone {F : Fence} {n : Nat} {o : Oper} {a : Act} {K : Act → World → Prop} {Q : Exit → Act → World → Prop} (ha : Alone P o) (h : o.wp P a w K Q) : o.wpIn F n P a w K Q := by
  obtain ⟨h1, h2, h3⟩ := ha a.eval w
  refine ⟨fun f hf => (by rw [h1] at hf; cases hf), ?_⟩
  rw [h2]
  unfold Oper.wp at h
  revert h h3
  generalize (execOp a.eval o).run P w = r
  intro h h3
  cases r with
  | ok x w' => cases x <;> first | exact h | exact h3.elim
  | halt x w' => cases x <;> exact h
theorem wpOp_alone {F : Fence} {n : Nat} {ops : Array Oper} {Q : Exit → Act → World → Prop} (hQ : ¬ LetsOut Q) (hall : ∀ (i : Nat) (o : Oper), ops[i]? = some o → Alone P o) {i : Nat} {K : Act → World → Prop} {a : Act} (h : wpOp P ops Q i K a w) : wpOpIn F n P ops Q i K a w := by
  unfold wpOp at h
  unfold wpOpIn
  cases ho : ops[i]? with
  | none => simpa [ho] using h
  | some o =>
    simp only [ho] at h ⊢
    split
    · rename_i hw
      rw [if_pos hw] at h
      rcases h with h | ⟨_, h⟩
      · exact wp_alone (hall i o ho) h
      · exact absurd h hQ
    · rename_i hw
      rw [if_neg hw] at h
      exact ⟨fun f hf => (by rw [(hall i o ho a.eval w).1] at hf; cases hf), h⟩
theorem wpAny_alone {F : Fence} {n : Nat} {md : Region.Mode} {ops : Array Oper} {Q : Exit → Act → World → Prop} (hQ : ¬ LetsOut Q) (hall : ∀ (i : Nat) (o : Oper), ops[i]? = some o → Alone P o) :
    ∀ (fuel : Nat) (listed : Array Bool) (a : Act) (w : World), wpAny P md ops Q fuel listed a w → wpAnyIn F n P md ops Q fuel listed a w := by
  intro fuel
  induction fuel with
  | zero => intro listed a w h; exact h
  | succ fuel ih =>
    intro listed a w h
    exact ⟨h.1, fun i hi => wpOpIn_mono (fun a' w' h' => ih _ a' w' h') (wpOp_alone hQ hall (h.2 i hi))⟩
theorem alone_all {l : List Oper} (h : l.all aloneB = true) : ∀ (i : Nat) (o : Oper), l.toArray[i]? = some o → Alone P o := fun i o ho => alone_of (List.all_eq_true.1 h o (List.mem_of_getElem? (by simpa using ho)))
theorem wpIn_tail {F : Fence} {m id : Nat} {Q : Exit → Act → World → Prop} {a : Act} {l : List Oper} (n : Nat) (hm : P.follows .mixedOrders = true) (hB : Region.lexTailB .any l.toArray n = true) (hal : l.all aloneB = true)
    (h : wpStill P l.toArray w.drew (fun a' => wpList P l.toArray (NoOut Q) (l.drop n) a' w.drew) (l.take n) a) : (Code.region id l.toArray true).wpIn F m P Q a w := by
  simp only [Region.lexTailB, Bool.and_eq_true, decide_eq_true_eq] at hB
  obtain ⟨⟨⟨⟨b1, b2⟩, b3⟩, b4⟩, b5⟩ := hB
  have hn : n < l.length := by simpa using b2
  have h1 : (l.take n).length = n := by simp; omega
  have h2 : (l.drop n).length = l.toArray.size - n := by simp
  have inv : HeadInv .any l.toArray n (Array.replicate l.toArray.size false) :=
    ⟨by simp, fun j oj _ hl => (by rw [getD_replicate_false] at hl; cases hl), fun t _ ht => getD_in (by simpa using ht) (getD_replicate_false _ _)⟩
  have H := wpAnyL_lex (md := .any) (g := l.toArray.size - n) b1 b3 b4 b2 (l.take n) 0 _ a (fun j hj => by
    have hj' : j < n := by omega
    simp [hj']) (by simpa using h1) inv (by rw [h1]; exact b5) h
  refine Code.wpIn_mono noOut_to (wpIn_region_any hm (wpAny_alone noOut_lets (alone_all hal) _ _ _ _ ?_))
  have := wpAny_of_head (Q' := NoOut Q) (g := l.toArray.size - n) (fun listed a' hL => by
    have := wpAny_of_seq (md := .any) (Q' := NoOut Q) (l.drop n) n listed a' w.drew (fun j => by simp [List.getElem?_drop]) (by rw [h2]; exact hL.1) hL.2
    rwa [h2] at this) _ _ _ H
  rw [h1, show n + (l.toArray.size - n) = l.toArray.size by omega] at this
  exact this
end
end Go.Proofs.Ytapmpegblfcknaa
