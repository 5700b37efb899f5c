import Derived.Test.YtapmpegblfcknaaFenceTail
import Derived.OrdersHeld
set_option linter.unusedVariables false
set_option linter.unusedSimpArgs false
namespace Go.Proofs.Ytapmpegblfcknaa
open Go.RowKit
/-! A region that draws its order, inside a fence and inside a round, where nobody is called: what holds of the world lets loads be taken first. -/
def aloneA (o : Oper) : Bool := aloneB o || (match o.op with | .call c => (match c.callee with | .builtin .append => true | _ => false) | _ => false)
section
variable {P : Program} {w : World}
theorem alone_ofA {o : Oper} (h : aloneA o = true) : Alone P o := by
  unfold aloneA at h
  rw [Bool.or_eq_true] at h
  rcases h with h | h
  · exact alone_of h
  · intro ρ w
    cases ho : o.op <;> simp only [ho] at h <;> first
      | (cases h; done)
      | (rename_i c
         cases hc : c.callee <;> simp only [hc] at h <;> first
           | (cases h; done)
           | (rename_i b
              cases b <;> first
                | (cases h; done)
                | (refine ⟨by unfold Oper.about; simp [ho, resolve, hc, Target.leads], fun r => Oper.semAt_eq r ρ o (fun c => by rw [ho]; intro e; cases e), ?_⟩
                   unfold execOp
                   simp only [ho, resolve, hc, invoke, builtin, Sem.run_bind, Sem.run_pure, Result.andThen_ok]
                   have := plain_v (P := P) (w := w) (Builtin.append_ c.argTypes o.type (c.args.map ρ)); simpa [Sem.run_bind] using this)))
theorem alone_allA {l : List Oper} (h : l.all aloneA = true) : ∀ (i : Nat) (o : Oper), l.toArray[i]? = some o → Alone P o := fun i o ho => alone_ofA (List.all_eq_true.1 h o (List.mem_of_getElem? (by simpa using ho)))
/-- No way out, no panic. -/
def NoOP (Q : Exit → Act → World → Prop) : Exit → Act → World → Prop
  | .outgrown, _, _ => False
  | .panic _, _, _ => False
  | e, a, w => Q e a w
theorem noOP_lets {Q : Exit → Act → World → Prop} : ¬ LetsOut (NoOP Q) := fun ⟨_, _, h⟩ => h
theorem noOP_to {Q : Exit → Act → World → Prop} (e : Exit) (a : Act) (w : World) (h : NoOP Q e a w) : Q e a w := by cases e <;> first | exact h | exact h.elim
theorem wpIn_region_held {S : World → Prop} {F : Fence} {m id : Nat} {Q : Exit → Act → World → Prop} {a : Act} {l : List Oper} (hm : P.follows .mixedOrders = true) (hal : l.all aloneA = true)
    (h : wpAnyH P .any l.toArray (NoOP Q) S l.toArray.size (Array.replicate l.toArray.size false) a w.drew) : (Code.region id l.toArray true).wpIn F m P Q a w :=
  Code.wpIn_mono noOP_to (wpIn_region_any hm (wpAny_alone noOP_lets (alone_allA hal) _ _ _ _ (wpAny_of_held _ _ _ _ h)))
theorem wpOp_of {ops : Array Oper} {Q : Exit → Act → World → Prop} {i : Nat} {o : Oper} {K : Act → World → Prop} {a : Act} (hi : ops[i]? = some o) (hg : o.guard = none) (h : Oper.wp P o a w K Q) : wpOp P ops Q i K a w := by
  unfold wpOp
  simp only [hi]
  rw [if_pos (show Region.wanted o (yielded ops a.tmps) = true by simp [Region.wanted, hg])]
  exact .inl h
/-- An operation that is the only one which may come up. -/
theorem wpAnyH_one {S : World → Prop} {md : Region.Mode} {ops : Array Oper} {Q : Exit → Act → World → Prop} {fuel : Nat} {listed : Array Bool} {a : Act} {i : Nat} {o : Oper} (hr : Region.ready md ops listed = [i]) (hi : ops[i]? = some o) (hg : o.guard = none)
    (h : Oper.wp P o a w (fun a' w' => S w' ∧ wpAnyH P md ops Q S fuel (listed.setIfInBounds i true) a' w') Q) : wpAnyH P md ops Q S (fuel + 1) listed a w := by
  refine wpAnyH_all hr (by simp) (fun j hj => ?_)
  simp only [List.mem_singleton] at hj
  subst hj
  exact wpOp_of hi hg h
/-- Two that may come up. -/
theorem wpAnyH_two {S : World → Prop} {md : Region.Mode} {ops : Array Oper} {Q : Exit → Act → World → Prop} {fuel : Nat} {listed : Array Bool} {a : Act} {i j : Nat} {o o' : Oper} (hr : Region.ready md ops listed = [i, j]) (hi : ops[i]? = some o) (hg : o.guard = none) (hj : ops[j]? = some o') (hg' : o'.guard = none)
    (h : Oper.wp P o a w (fun a' w' => S w' ∧ wpAnyH P md ops Q S fuel (listed.setIfInBounds i true) a' w') Q)
    (h' : Oper.wp P o' a w (fun a' w' => S w' ∧ wpAnyH P md ops Q S fuel (listed.setIfInBounds j true) a' w') Q) : wpAnyH P md ops Q S (fuel + 1) listed a w := by
  refine wpAnyH_all hr (by simp) (fun k hk => ?_)
  simp only [List.mem_cons, List.mem_nil_iff, or_false] at hk
  rcases hk with rfl | rfl
  · exact wpOp_of hi hg h
  · exact wpOp_of hj hg' h'
theorem wp_value {o : Oper} {a : Act} {w' : World} {v : Value} {K : Act → World → Prop} {Q : Exit → Act → World → Prop} (h : (execOp a.eval o).run P w = .ok (.value v) w') (hk : K (a.put o.dst v) w') : Oper.wp P o a w K Q := by
  unfold Oper.wp; rw [h]; exact hk
theorem wp_skipped {o : Oper} {a : Act} {w' : World} {K : Act → World → Prop} {Q : Exit → Act → World → Prop} (h : (execOp a.eval o).run P w = .ok .skip w') (hk : K (a.put o.dst undef) w') : Oper.wp P o a w K Q := by
  unfold Oper.wp; rw [h]; exact hk
section
variable {S : World → Prop} {md : Region.Mode} {ops : Array Oper} {Q : Exit → Act → World → Prop} {fuel : Nat} {listed : Array Bool} {a : Act}
theorem wpAnyH_one_v {i : Nat} {o : Oper} {v : Value} {w' : World} (hr : Region.ready md ops listed = [i]) (hi : ops[i]? = some o) (hg : o.guard = none) (h : (execOp a.eval o).run P w = .ok (.value v) w') (hS : S w')
    (hk : wpAnyH P md ops Q S fuel (listed.setIfInBounds i true) (a.put o.dst v) w') : wpAnyH P md ops Q S (fuel + 1) listed a w := wpAnyH_one hr hi hg (wp_value h ⟨hS, hk⟩)
theorem wpAnyH_one_s {i : Nat} {o : Oper} {w' : World} (hr : Region.ready md ops listed = [i]) (hi : ops[i]? = some o) (hg : o.guard = none) (h : (execOp a.eval o).run P w = .ok .skip w') (hS : S w')
    (hk : wpAnyH P md ops Q S fuel (listed.setIfInBounds i true) (a.put o.dst undef) w') : wpAnyH P md ops Q S (fuel + 1) listed a w := wpAnyH_one hr hi hg (wp_skipped h ⟨hS, hk⟩)
theorem wpAnyH_two_v {i j : Nat} {o o' : Oper} {v u : Value} {w' u' : World} (hr : Region.ready md ops listed = [i, j]) (hi : ops[i]? = some o) (hg : o.guard = none) (hj : ops[j]? = some o') (hg' : o'.guard = none)
    (h : (execOp a.eval o).run P w = .ok (.value v) w') (hS : S w') (h' : (execOp a.eval o').run P w = .ok (.value u) u') (hS' : S u')
    (hk : wpAnyH P md ops Q S fuel (listed.setIfInBounds i true) (a.put o.dst v) w') (hk' : wpAnyH P md ops Q S fuel (listed.setIfInBounds j true) (a.put o'.dst u) u') : wpAnyH P md ops Q S (fuel + 1) listed a w :=
  wpAnyH_two hr hi hg hj hg' (wp_value h ⟨hS, hk⟩) (wp_value h' ⟨hS', hk'⟩)
theorem wpAnyH_app {k : Nat} {o : Oper} (hr : Region.ready md ops listed = [k]) (hi0 : ops[k]? = some o) (hgd : o.guard = none) (s x : Operand) (t : TypeId)
    (ho : o.op = .call { callee := .builtin .append, args := #[s, x], argTypes := #[t, t] })
    (base : Nat) (e : TypeId) (i : TypeInfo) (z : Value) (size bytes : Nat) (ht : P.underlying t = some (.slice e)) (hi : P.info? e = some i) (hz : i.zero = some z)
    (hsize : i.size = size) (hby : i.bytes = bytes) (hzs : z.cells.size = size) (hsz : 0 < size)
    (v : Value) (n : Nat) (xs : List Value) (hs : a.eval s = v) (hown : w.ownsRow base e size v n xs)
    (ad : Addr) (m c : Nat) (news : List Value) (hx : a.eval x = .slice (some ad) m c) (hl : news.length = m * size) (hnews : ∀ j u, news[j]? = some u → w.cell? (ad.add j) = some u) (h1 : ∀ u ∈ news, u.oneCell' = true)
    (h63 : n + m ≤ maxLen) (hbytes : (n + m) * bytes ≤ 140737488355328) (hbase : base ≤ w.heap.size)
    (h : ∀ v' w', w'.ownsRow base e size v' (n + m) (xs ++ news) → w.grownBy w' v.ownBlock → (v' = .slice none 0 0 ↔ v = .slice none 0 0 ∧ m = 0) → S w' ∧ wpAnyH P md ops Q S fuel (listed.setIfInBounds k true) (a.put o.dst v') w') : wpAnyH P md ops Q S (fuel + 1) listed a w :=
  wpAnyH_one hr hi0 hgd (wp_append_own w s x t ho base e i z size bytes ht hi hz hsize hby hzs hsz v n xs hs hown ad m c news hx hl hnews h1 h63 hbytes hbase h)
end
end
end Go.Proofs.Ytapmpegblfcknaa
