import Derived.Test.YtebkbcpnjknkjaaSemHead
import Derived.Test.YtebkbcpnjknkjaaSemWL
import Derived.Test.YtebkbcpnjknkjaaSemNmP
import Derived.Test.YtebkbcpnjknkjaaStrRow
set_option linter.unusedVariables false
set_option linter.unusedSimpArgs false
set_option maxRecDepth 100000
namespace Go.Proofs.Ytebkbcpnjknkjaa
open Go.RowKit
/-! A policy that is being made: its box, its rules' row, the rows of the rules' calls. -/
theorem wpList_app_at {P : Program} {w : World} {ops : Array Oper} {rest : List Oper} {o : Oper} {a : Act} {Q : Exit → Act → World → Prop} (hgd : o.guard = none) (s x : Operand) (t : TypeId)
    (ho : o.op = .call { callee := .builtin .append, args := #[s, x], argTypes := #[t, t] })
    (base : Nat) (e : TypeId) (i : TypeInfo) (z : Value) (size bytes : Nat) (ht : P.underlying t = some (.slice e)) (hi : P.info? e = some i) (hz : i.zero = some z)
    (hsize : i.size = size) (hby : i.bytes = bytes) (hzs : z.cells.size = size) (hsz : 0 < size)
    (v : Value) (n : Nat) (xs : List Value) (hs : a.eval s = v) (hown : w.ownsRow base e size v n xs)
    (ad : Addr) (m c : Nat) (news : List Value) (hx : a.eval x = .slice (some ad) m c) (hl : news.length = m * size) (hnews : ∀ j u, news[j]? = some u → w.cell? (ad.add j) = some u) (h1 : ∀ u ∈ news, u.oneCell' = true)
    (h63 : n + m ≤ maxLen) (hbytes : (n + m) * bytes ≤ 140737488355328) (hbase : base ≤ w.heap.size)
    (h : ∀ v' w', w'.ownsRow base e size v' (n + m) (xs ++ news) → w.grownBy w' v.ownBlock → (v'.ownBlock = v.ownBlock ∨ v'.ownBlock = some w.heap.size) → wpList P ops Q rest (a.put o.dst v') w') : wpList P ops Q (o :: rest) a w := by
  refine wpList_plain hgd fun K hK => ?_
  obtain ⟨v', w', hr, h2, h3, h4, h5⟩ := run_append_own_at (P := P) w base t o.type e i z size bytes ht hi hz hsize hby hzs hsz v n xs hown ad m c news hl hnews h1 h63 hbytes hbase
  unfold Oper.wp execOp
  simp only [ho, resolve, invoke, builtin, Sem.run_bind, Sem.run_pure, Result.andThen_ok, List.map_toArray, List.map_cons, List.map_nil, hs, hx, hr]
  exact hK _ _ (h v' w' h2 h3 h5)
theorem new_at (w : World) (cs : Array Value) (t : TypeId) : ∀ j u, cs.toList[j]? = some u → (w.alloc (.cells cs t)).cell? ((⟨w.heap.size, 0, none⟩ : Addr).add j) = some u := by
  intro j u hu
  rw [add_plain, Nat.zero_add]
  exact (World.cell?_alloc_new _ _ _ _).trans (by simpa using hu)
theorem own_slc {W : World} {base e size n : Nat} {v : Value} {xs : List Value} (h : W.ownsRow base e size v n xs) : ∃ A c, v = .slice A n c := by
  have hn := own_lenV h
  rcases h.2 with ⟨e1, e2⟩ | ⟨g, cap, cur, e1, _⟩
  · rw [e1] at hn; exact ⟨none, 0, by rw [e1, ← hn]; rfl⟩
  · exact ⟨_, _, e1⟩
structure NmS (w : World) (po do_ : Obj) (Q : Nat) (ar : ByteArray) (fk fd dk dd : Int) (qs : List RuA) (v : Value) (W : World) : Prop where
  hd : HD w po do_ W
  qbox : W.heap[Q]? = some (.cells #[.string ar, .int .i64 fk, .int .u64 fd, .int .i64 dk, .int .u64 dd, v] 29 (0, 0))
  own : W.ownsRow (Q + 1) 51 9 v qs.length (cellsU qs)
  all : ∀ r ∈ qs, r.In W (fun g => g < w.heap.size ∨ (Q < g ∧ v.ownBlock ≠ some g))
  hQ : w.heap.size + 2 ≤ Q
section
variable {w W W' W1 w4 : World} {po do_ : Obj} {Q : Nat} {ar : ByteArray} {fk fd dk dd : Int} {qs : List RuA} {v v2 : Value}
theorem NmS.call (h : NmS w po do_ Q ar fk fd dk dd qs v W) (hb : Below W.heap.size W W') : NmS w po do_ Q ar fk fd dk dd qs v W' :=
  ⟨h.hd.call hb, keepH hb h.qbox, own_upT h.own hb, fun r hr => (h.all r hr).keep fun g hg hl => ⟨hg, hb.block g hl⟩, h.hQ⟩
theorem NmS.lt (h : NmS w po do_ Q ar fk fd dk dd qs v W) : Q < W.heap.size := (Array.getElem?_eq_some_iff.1 h.qbox).1
theorem NmS.more {x : RuA} (h : NmS w po do_ Q ar fk fd dk dd qs v W) (hb : Below W.heap.size W W1) (hx : x.In W1 (fun g => g < w.heap.size ∨ W.heap.size ≤ g))
    (hown : w4.ownsRow (Q + 1) 51 9 v2 (qs.length + 1) (cellsU qs ++ x.cells)) (hg : (W1.alloc (.cells x.cells.toArray 51)).grownBy w4 v.ownBlock) (hat : v2.ownBlock = v.ownBlock ∨ v2.ownBlock = some (W1.alloc (.cells x.cells.toArray 51)).heap.size) :
    NmS w po do_ Q ar fk fd dk dd (qs ++ [x]) v2 (w4.setCell ⟨Q, 5, none⟩ v2) := by
  have hge : ∀ k, v.ownBlock = some k → Q < k := fun k hk => own_geT h.own k hk
  have hlt : ∀ k, v.ownBlock = some k → k < W.heap.size := own_ltT h.own
  have hsz := hb.size
  have hQ := h.hQ
  have hQl := h.lt
  have key : ∀ g, g < W1.heap.size → v.ownBlock ≠ some g → g ≠ Q → (w4.setCell ⟨Q, 5, none⟩ v2).heap[g]? = W1.heap[g]? := by
    intro g hgl hn hg0
    exact (Below.heap_setCell w4 ⟨Q, 5, none⟩ v2 g (by show g ≠ Q; omega)).trans ((hg.block g (by rw [World.size_alloc]; omega) (fun e => hn (by first | exact e | exact e.symm))).trans (Below.heap_alloc W1 _ g hgl))
  have key2 : ∀ g, g < W1.heap.size → v.ownBlock ≠ some g → v2.ownBlock ≠ some g := by
    intro g hgl hn
    rcases hat with h | h
    · rw [h]; exact hn
    · rw [h, World.size_alloc]; intro e; injection e with e; omega
  have hbl : Below W.heap.size W (w4.setCell ⟨Q, 5, none⟩ v2) → True := fun _ => trivial
  refine ⟨⟨?_, ?_, ?_⟩, ?_, ?_, ?_, hQ⟩
  · refine Below.setCell ?_ (show w.heap.size ≤ Q by omega) _
    exact (below_al (below_t h.hd.below hb) _).grown hg (by rw [World.size_alloc]; omega) (fun k hk => by have := hge k hk; omega)
  · have h1 := h.hd.ebox
    have h2 := (Array.getElem?_eq_some_iff.1 h1).1
    exact (key _ (by omega) (fun e => by have := hge _ e; omega) (by omega)).trans ((hb.block _ h2).trans h1)
  · have h1 := h.hd.dbox
    have h2 := (Array.getElem?_eq_some_iff.1 h1).1
    exact (key _ (by omega) (fun e => by have := hge _ e; omega) (by omega)).trans ((hb.block _ h2).trans h1)
  · have := heap_setT (grown_box hg (alloc_box (keepH hb h.qbox) _) (fun e => by have := hge _ e; omega)) v2 (j := 5)
    exact this
  · rw [List.length_append, ← cellsU_snoc]; exact own_set hown (by omega) _ _
  · intro r hr
    rcases List.mem_append.1 hr with hr | hr
    · refine (h.all r hr).keep fun g hg' hl => ?_
      rcases hg' with hg' | hg'
      · exact ⟨Or.inl hg', (key g (by omega) (fun e => by have := hge _ e; omega) (by omega)).trans (hb.block g hl)⟩
      · exact ⟨Or.inr ⟨hg'.1, key2 g (by omega) hg'.2⟩, (key g (by omega) hg'.2 (by omega)).trans (hb.block g hl)⟩
    · obtain rfl : r = x := by simpa using hr
      refine hx.keep fun g hg' hl => ?_
      rcases hg' with hg' | hg'
      · exact ⟨Or.inl hg', key g hl (fun e => by have := hge _ e; omega) (by omega)⟩
      · exact ⟨Or.inr ⟨by omega, key2 g hl (fun e => by have := hlt _ e; omega)⟩, key g hl (fun e => by have := hlt _ e; omega) (by omega)⟩
theorem NmS.pol {A : Option Addr} {c : Nat} (h : NmS w po do_ Q ar fk fd dk dd qs (.slice A qs.length c) W) : PolA.In W (fun g => g < w.heap.size ∨ Q < g) ⟨ar, fk, fd, dk, dd, A, c, qs⟩ :=
  ⟨RowN.of_own h.own (fun g _ hg => Or.inr (by omega)), fun r hr => (h.all r hr).keep fun g hg _ => ⟨by rcases hg with hg | hg; exact Or.inl hg; exact Or.inr hg.1, rfl⟩⟩
end
/-- A rule that is being made: its box, its calls' row. -/
structure NmI (wo : World) (u : Value) (cs : List CallP) (rest : List Value) (W : World) : Prop where
  below : Below wo.heap.size wo W
  box : W.heap[wo.heap.size]? = some (.cells (u :: rest).toArray 51 (0, 0))
  own : W.ownsRow (wo.heap.size + 1) 68 2 u cs.length (cellsC cs)
section
variable {wo W W' w4 : World} {u u2 : Value} {cs : List CallP} {rest : List Value}
theorem NmI.call (h : NmI wo u cs rest W) (hb : Below W.heap.size W W') : NmI wo u cs rest W' := ⟨below_t h.below hb, keepH hb h.box, own_upT h.own hb⟩
theorem NmI.more {x : CallP} (h : NmI wo u cs rest W) {o : Obj} (hown : w4.ownsRow (wo.heap.size + 1) 68 2 u2 (cs.length + 1) (cellsC cs ++ x.cells)) (hg : (W.alloc o).grownBy w4 u.ownBlock) :
    NmI wo u2 (cs ++ [x]) rest (w4.setCell ⟨wo.heap.size, 0, none⟩ u2) := by
  have hge : ∀ k, u.ownBlock = some k → wo.heap.size < k := fun k hk => own_geT h.own k hk
  have hl := (Array.getElem?_eq_some_iff.1 h.box).1
  refine ⟨?_, ?_, ?_⟩
  · refine Below.setCell ?_ (show wo.heap.size ≤ wo.heap.size from Nat.le_refl _) _
    exact (below_al h.below _).grown hg (by rw [World.size_alloc]; omega) (fun k hk => by have := hge k hk; omega)
  · have := heap_setT (grown_box hg (alloc_box h.box _) (fun e => by have := hge _ e; omega)) u2 (j := 0)
    rw [this]
    simp
  · rw [List.length_append, ← cellsC_snoc]; exact own_set hown (by omega) _ _
end
end Go.Proofs.Ytebkbcpnjknkjaa
