import Derived.Test.YtkckaimefklenaaOwn
set_option linter.unusedVariables false
set_option linter.unusedSimpArgs false
namespace Go.Proofs.Ytkckaimefklenaa
open Go.RowKit
/-! ravelinref03.Same: the walk. -/
/-! #### equality of instructions -/
section
variable {P : Program} {d : Nat} {xs ys : Array Value} {f : Field} {fs : List Field} {a b : Value} {r : Bool} {w : World}
theorem eqFields_if (hn : f.name ≠ "_") (ha : (part f.type xs f.offset).run P w = .ok a w) (hb : (part f.type ys f.offset).run P w = .ok b w) (he : (Op.equalIn d f.type a b).run P w = .ok r w) :
    (Op.eqFields d xs ys (f :: fs)).run P w = if r = true then (Op.eqFields d xs ys fs).run P w else .ok false w := by
  rw [Op.eqFields]
  simp only [if_pos hn, Sem.run_bind, ha, hb, he, Result.andThen_ok]
  cases r <;> simp
end
theorem equalIn_of {P : Program} {d : Nat} {xs ys : Array Value} {w : World} {t : TypeId} {fs : Array Field} (hu : P.underlying t = some (.struct fs)) (hp : P.stoodInHeld t = false) : (Op.equalIn (d + 1) t (.agg xs) (.agg ys)).run P w = (Op.eqFields d xs ys fs.toList).run P w := by
  have hf : P.fieldsOf t = fs := by simp [Program.fieldsOf, hu]
  rw [run_equalIn_struct (P := P) w d t xs ys (by rw [hf]; exact hu) hp, hf]
def eqI4 (x y : I4) : Bool := x.c == y.c && (x.j == y.j && (x.f == y.f && x.k == y.k))
theorem eqI4_iff (x y : I4) : eqI4 x y = true ↔ x = y := by
  obtain ⟨a, b, c, d⟩ := x; obtain ⟨a', b', c', d'⟩ := y
  simp [eqI4]
theorem equalIn_insn (d : Nat) (w : World) (a b c e a' b' c' e' : Int) :
    (Op.equalIn (d + 2) 45 (.agg #[.int .u16 a, .int .u8 b, .int .u8 c, .int .u32 e]) (.agg #[.int .u16 a', .int .u8 b', .int .u8 c', .int .u32 e'])).run Try.prog w = .ok (a == a' && (b == b' && (c == c' && e == e'))) w := by
  rw [equalIn_of Try.underlying45 (by kernel_rfl)]
  simp only [List.toList_toArray]
  rw [eqFields_if (by decide) (by go_simp; rfl) (by go_simp; rfl) (by go_simp; rfl)]
  rw [eqFields_if (by decide) (by go_simp; rfl) (by go_simp; rfl) (by go_simp; rfl)]
  rw [eqFields_if (by decide) (by go_simp; rfl) (by go_simp; rfl) (by go_simp; rfl)]
  rw [eqFields_if (by decide) (by go_simp; rfl) (by go_simp; rfl) (by go_simp; rfl)]
  simp only [Op.eqFields]
  by_cases h1 : a = a' <;> by_cases h2 : b = b' <;> by_cases h3 : c = c' <;> by_cases h4 : e = e' <;> simp [h1, h2, h3, h4]
attribute [local go_sem high] equalIn_insn
def sameP (a b : List I4) : Bool := decide (a = b)
set_option maxHeartbeats 400000 in
theorem Same_c (A A' : Option Addr) (cap cap' : Nat) (q r : List I4) (w : World) (hn : q.length ≤ 9223372036854775807) (hr : Reads w w.heap.size 4 A q.length (cellsI q)) (hr' : Reads w w.heap.size 4 A' r.length (cellsI r)) :
    Calls Try.prog 8 #[.slice A q.length cap, .slice A' r.length cap'] w fun e w' => e = .returned (.bool (sameP q r)) ∧ Below w.heap.size w w' := by
  by_cases hl : q.length = r.length
  · have hl1 : ((q.length : Int) != (r.length : Int)) = false := by simp [hl]
    have HL := Lib.hid hl
    have HR := Lib.hid hr
    have HR' := Lib.hid hr'
    clear hr hr' hl
    go_enter Try.func8, Try.ntmps8
    go_wp2
    go_loopw [5] (fun i wr => ∃ n : Nat, n ≤ q.length ∧ i = .int .i64 n ∧ Below w.heap.size w wr ∧ ∀ j, j < n → q[j]? = r[j]?) (fun i _ => q.length - (intOf i).toNat)
    case atStart => exact ⟨0, by omega, rfl, Below.refl _ _, fun j h => by omega⟩
    case round =>
      obtain ⟨n, hn6, rfl, hBw, hno⟩ := hrel
      have HO := Lib.hid hno
      clear hno
      by_cases h6 : n < q.length
      · obtain ⟨x, hx⟩ : ∃ x, q[n]? = some x := ⟨_, List.getElem?_eq_getElem h6⟩
        obtain ⟨y, hy⟩ : ∃ y, r[n]? = some y := ⟨_, List.getElem?_eq_getElem (by have := HL.out; omega)⟩
        obtain ⟨b, off, rfl, hb, i0, i1, i2, i3⟩ := (HR.out.up hBw).insn hx
        obtain ⟨b', off', rfl, hb', j0, j1, j2, j3⟩ := (HR'.out.up hBw).insn hy
        have hlt1 : (n : Int) < q.length := by omega
        have hlt2 : (n : Int) < r.length := by have := HL.out; omega
        have hlt3 : n < r.length := by omega
        by_cases he : x = y
        · have HN := Lib.hid (show ∀ i, i < n + 1 → q[i]? = r[i]? from fun i hi => by
            rcases Nat.lt_succ_iff_lt_or_eq.1 hi with h | rfl
            · exact HO.out i h
            · rw [hx, hy, he])
          have ht : (!(x.c == y.c && (x.j == y.j && (x.f == y.f && x.k == y.k)))) = false := by rw [he]; simp
          clear HO he hx hy
          go_wp2
          go_quiet (fail)
          go_wp2
          go_roundw
          case rel => exact ⟨n + 1, by omega, by go_num, below_drN hBw _, HN.out⟩
          case measure => simp [intOf]; omega
        · have ht : (!(x.c == y.c && (x.j == y.j && (x.f == y.f && x.k == y.k)))) = true := by
            have := mt (eqI4_iff x y).1 he
            cases h : eqI4 x y with
            | true => exact absurd h this
            | false => unfold eqI4 at h; rw [h]; rfl
          have hs : sameP q r = false := by
            simp only [sameP, decide_eq_false_iff_not]; rintro rfl
            rw [hx] at hy; injection hy with hy; exact he hy
          have HS := Lib.hid hs
          clear HO he hx hy hs
          go_wp2
          go_quiet (fail)
          go_wp2
          go_ret
          exact ⟨ret_b HS.out.symm, below_drN hBw _⟩
      · have hs : sameP q r = true := by
          simp only [sameP, decide_eq_true_eq]
          refine List.ext_getElem? fun j => ?_
          by_cases hj : j < n
          · exact HO.out j hj
          · rw [List.getElem?_eq_none (by omega), List.getElem?_eq_none (by have := HL.out; omega)]
        have HS := Lib.hid hs
        clear hs HO
        go_wp2
        go_ret
        exact ⟨ret_b HS.out.symm, hBw⟩
  · have hl1 : ((q.length : Int) != (r.length : Int)) = true := by simp; omega
    have HS := Lib.hid (show sameP q r = false by simp only [sameP, decide_eq_false_iff_not]; rintro rfl; exact hl rfl)
    clear hr hr' hl
    go_enter Try.func8, Try.ntmps8
    go_wp2
    go_ret
    exact ⟨ret_b HS.out.symm, Below.refl _ _⟩

theorem sameP_self (q : List I4) : sameP q q = true := by simp [sameP]
theorem own_sl {w : World} {base : Nat} {e : TypeId} {size n : Nat} {v : Value} {xs : List Value} (h : w.ownsRow base e size v n xs) : ∃ A cap, v = .slice A n cap ∧ n ≤ cap ∧ (A = none → cap = 0) ∧ Reads w w.heap.size size A n xs := by
  obtain ⟨h1, h2⟩ := h
  rcases h2 with ⟨rfl, rfl⟩ | ⟨g, cap, cur, rfl, hb, hg, hnc, hcm, hcs, htake⟩
  · have : xs = [] := List.eq_nil_of_length_eq_zero (by simpa using h1)
    subst this
    exact ⟨none, 0, rfl, Nat.le_refl _, fun _ => rfl, Reads.none_⟩
  · have ho : w.ownsRow base e size (.slice (some ⟨g, 0, none⟩) n cap) n xs := ⟨h1, .inr ⟨g, cap, cur, rfl, hb, hg, hnc, hcm, hcs, htake⟩⟩
    exact ⟨some ⟨g, 0, none⟩, cap, rfl, hnc, (fun e => by cases e), Reads.of_own ho⟩
end Go.Proofs.Ytkckaimefklenaa
