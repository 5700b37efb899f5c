import Derived.Test.YtkckaimefklenaaBase
import Derived.ArgAppend
set_option linter.unusedVariables false
set_option linter.unusedSimpArgs false
namespace Go.Proofs.Ytkckaimefklenaa
open Go.RowKit
/-! append, where what grows is a little beyond 2^47 bytes. -/
theorem growBy_le (need : Nat) : ∀ (r c : Nat), c ≤ need + (need + 768) / 4 → Builtin.growBy need r c ≤ need + (need + 768) / 4 := by
  intro r
  induction r with
  | zero => intro c h; unfold Builtin.growBy; exact h
  | succ r ih =>
    intro c h
    unfold Builtin.growBy
    split
    · exact h
    · exact ih _ (by omega)
theorem nextcap_le {need old : Nat} (h : old < need) : Builtin.nextslicecap need old ≤ need + (need + 768) / 4 + 512 := by
  unfold Builtin.nextslicecap
  split
  · omega
  · split
    · omega
    · have := growBy_le need 4 old (by omega); omega
theorem wpList_app_big {P : Program} {w : World} {ops : Array Oper} {rest : List Oper} {o : Oper} {a : Act} {Q : Exit → Act → World → Prop} (hgd : o.guard = none) (s x : Operand) (t : TypeId)
    (ho : o.op = .call { callee := .builtin .append, args := #[s, x], argTypes := #[t, t] })
    (base : Nat) (e : TypeId) (i : TypeInfo) (z : Value) (size bytes : Nat) (ht : P.underlying t = some (.slice e)) (hi : P.info? e = some i) (hz : i.zero = some z)
    (hsize : i.size = size) (hby : i.bytes = bytes) (hzs : z.cells.size = size) (hsz : 0 < size)
    (g n cap : Nat) (xs : List Value) (hs : a.eval s = .slice (some ⟨g, 0, none⟩) n cap) (hown : w.ownsRow base e size (.slice (some ⟨g, 0, none⟩) n cap) n xs)
    (A : Option Addr) (B m c : Nat) (news : List Value) (hx : a.eval x = .slice A m c) (hA : A = none → c = 0) (hr : Reads w B size A m news) (h1 : ∀ u ∈ news, u.oneCell' = true)
    (h63 : n + m ≤ maxLen) (hb64 : bytes ≤ 64) (hbytes : (n + m) * bytes ≤ 200000000000000) (hbase : base ≤ w.heap.size)
    (h : ∀ g' cap' w', w'.ownsRow base e size (.slice (some ⟨g', 0, none⟩) (n + m) cap') (n + m) (xs ++ news) → w.grownBy w' (some g) → wpList P ops Q rest (a.put o.dst (.slice (some ⟨g', 0, none⟩) (n + m) cap')) w') : wpList P ops Q (o :: rest) a w := by
  rcases hown.2 with ⟨h', _⟩ | ⟨g', cap', cur, h', hbg, hg, hnc, hcm, hcs, htake⟩
  · cases h'
  injection h' with h1' h2' h3'
  injection h1' with h1'
  injection h1' with h1'
  subst h1' h3'
  by_cases hm : m = 0
  · subst hm
    have hn : news = [] := List.eq_nil_of_length_eq_zero (by rw [hr.1]; simp)
    subst hn
    have hrun : (Builtin.append_ #[t, t] o.type #[.slice (some ⟨g, 0, none⟩) n cap, .slice A 0 c]).run P w = .ok (.slice (some ⟨g, 0, none⟩) n cap) w := by
      cases A with
      | none => obtain rfl := hA rfl; exact run_append_owned_none (P := P) (w := w) base t o.type e i size ht hi _ n xs hown
      | some ad =>
        have := run_append_room_cells (P := P) w t o.type e i ht hi g 0 n cap ad 0 c [] (by simp) (fun j u hj => by simp at hj) (fun u hu => by simp at hu) (by omega) (fun j hj => by simp at hj) (fun j hj => by simp at hj)
        simpa [World.setCells] using this
    refine wpList_plain hgd fun K hK => ?_
    unfold Oper.wp execOp
    simp only [ho, resolve, invoke, builtin, Sem.run_bind, Sem.run_pure, Result.andThen_ok, List.map_toArray, List.map_cons, List.map_nil, hs, hx, hrun]
    exact hK _ _ (h g cap w (by simpa using hown) ⟨rfl, rfl, rfl, Nat.le_refl _, fun _ _ _ => rfl⟩)
  · obtain ⟨b, off, rfl, _, hc⟩ := hr.2 (by omega)
    have hnews : ∀ j u, news[j]? = some u → w.cell? ((⟨b, off, none⟩ : Addr).add j) = some u := fun j u hu => by rw [add_plain]; exact hc j u hu
    by_cases hroom : n + m ≤ cap
    · have hfit : n * i.size + news.length ≤ cur.size := by rw [hr.1, hsize, hcs, ← Nat.add_mul]; exact Nat.mul_le_mul_right _ hroom
      have hrun := run_append_room (P := P) w t o.type e i ht hi g n cap cur hg ⟨b, off, none⟩ m c news (by rw [hr.1, hsize]) hnews h1 hroom hfit
      refine wpList_plain hgd fun K hK => ?_
      unfold Oper.wp execOp
      simp only [ho, resolve, invoke, builtin, Sem.run_bind, Sem.run_pure, Result.andThen_ok, List.map_toArray, List.map_cons, List.map_nil, hs, hx, hrun]
      have hlen : (xs ++ news).length = (n + m) * size := by rw [List.length_append, hown.1, hr.1, Nat.add_mul]
      refine hK _ _ (h g cap _ ⟨hlen, .inr ⟨g, cap, _, rfl, hbg, setRow_heap w g cur _ e _ hg, hroom, hcm, ?_, ?_⟩⟩ ⟨rfl, rfl, rfl, by simp, fun k _ hk => setRow_other w g k _ (fun e => hk (by rw [e]))⟩)
      · rw [hsize] at hfit
        simp only [List.size_toArray, List.length_append, List.length_take, List.length_drop, Array.length_toList, hsize]
        omega
      · rw [hsize, htake, ← hlen]
        exact List.take_left
    · have holds : ∀ j u, xs[j]? = some u → w.cell? ((⟨g, 0, none⟩ : Addr).add j) = some u := hown.cells (g := g) rfl
      have hfit : Builtin.nextslicecap (n + m) cap * i.bytes ≤ 281474976710656 := by
        have h1 := nextcap_le (need := n + m) (old := cap) (by omega)
        have h2 : Builtin.nextslicecap (n + m) cap * i.bytes ≤ ((n + m) + ((n + m) + 768) / 4 + 512) * i.bytes := Nat.mul_le_mul_right _ h1
        rw [hby] at h2 ⊢
        have h3 : ((n + m) + ((n + m) + 768) / 4 + 512) * bytes ≤ ((n + m) * 5 / 4 + 1000) * bytes := Nat.mul_le_mul_right _ (by omega)
        have h4 : ((n + m) * 5 / 4 + 1000) * bytes ≤ (n + m) * bytes * 5 / 4 + 64000 := by
          rw [Nat.add_mul]
          have : (n + m) * 5 / 4 * bytes ≤ (n + m) * bytes * 5 / 4 := by
            rw [Nat.le_div_iff_mul_le (by decide)]
            calc (n + m) * 5 / 4 * bytes * 4 = ((n + m) * 5 / 4 * 4) * bytes := by rw [Nat.mul_assoc, Nat.mul_comm bytes 4, ← Nat.mul_assoc]
              _ ≤ ((n + m) * 5) * bytes := Nat.mul_le_mul_right _ (Nat.div_mul_le_self _ _)
              _ = (n + m) * bytes * 5 := by rw [Nat.mul_assoc, Nat.mul_comm 5 bytes, ← Nat.mul_assoc]
          omega
        omega
      have hrun := run_append_grow (P := P) w t o.type e i z ht hi hz ⟨g, 0, none⟩ n cap xs (by rw [hown.1, hsize]) holds ⟨b, off, none⟩ m c news (by rw [hr.1, hsize]) hnews (by omega) (by simp only [maxLen] at h63; omega) hfit
      have hge := grownCap_ge w (n + m) cap e
      have hcmx : grownCap w (n + m) cap e ≤ maxLen := grownCap_le_maxLen w (n + m) cap e h63
      have hlen : (xs ++ news).length = (n + m) * size := by rw [List.length_append, hown.1, hr.1, Nat.add_mul]
      refine wpList_plain hgd fun K hK => ?_
      unfold Oper.wp execOp
      simp only [ho, resolve, invoke, builtin, Sem.run_bind, Sem.run_pure, Result.andThen_ok, List.map_toArray, List.map_cons, List.map_nil, hs, hx, hrun]
      refine hK _ _ (h _ _ _ ⟨hlen, .inr ⟨w.heap.size, _, _, rfl, hbase, heap_alloc_new w.drew _, hge, hcmx, ?_, ?_⟩⟩ ⟨rfl, rfl, rfl, by simp, fun k hk _ => heap_alloc_old w.drew _ hk⟩)
      · simp only [Array.size_append, List.size_toArray, size_zeroCells, hzs, hown.1, hr.1, ← Nat.add_mul]
        congr 1
        omega
      · simp only [Array.toList_append, List.append_assoc]
        rw [← List.append_assoc, ← hlen]
        exact List.take_left
end Go.Proofs.Ytkckaimefklenaa
