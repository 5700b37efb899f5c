import Derived.Test.YtehpoamideeehaaOwn
set_option linter.unusedVariables false
set_option linter.unusedSimpArgs false
namespace Go.Proofs.Ytehpoamideeehaa
open Go.RowKit
/-! ravelinlaw03.Lent, Kept, ravelinref03.Same: the walks. -/
def markI : I4 := ⟨30583, 0, 0, 0⟩
/-- A lent copy: a slice with the mark behind. -/
def IsLent (w : World) (base : Nat) (q : List I4) (g cap : Nat) : Prop :=
  w.ownsRow base 47 4 (.slice (some ⟨g, 0, none⟩) (q.length + 1) cap) (q.length + 1) (cellsI (q ++ [markI])) ∧ q.length + 1 ≤ cap
def LentPost (w : World) (q : List I4) (e : Ending) (w' : World) : Prop :=
  ∃ g cap, e = .returned (.slice (some ⟨g, 0, none⟩) q.length cap) ∧ IsLent w' w.heap.size q g cap ∧ Below w.heap.size w w'
theorem IsLent.keep {w w' : World} {base g cap : Nat} {q : List I4} (h : IsLent w base q g cap) (hb : Below w.heap.size w w') : IsLent w' base q g cap := by
  refine ⟨h.1.kept (row := none) ⟨hb.os, hb.tape, hb.output, hb.size, fun k hk _ => hb.block k hk⟩ (.inr (by simp [Value.ownBlock])), h.2⟩
theorem IsLent.reads {w : World} {base g cap : Nat} {q : List I4} (h : IsLent w base q g cap) : Reads w w.heap.size 4 (some ⟨g, 0, none⟩) (q.length + 1) (cellsI (q ++ [markI])) := Reads.of_own h.1
theorem cellsI_take (q r : List I4) : (cellsI (q ++ r)).take (q.length * 4) = cellsI q := by
  have : cellsI (q ++ r) = cellsI q ++ cellsI r := by simp [cellsI]
  rw [this, ← cellsI_length q, List.take_left]
theorem IsLent.readsQ {w : World} {base g cap : Nat} {q : List I4} (h : IsLent w base q g cap) : Reads w w.heap.size 4 (some ⟨g, 0, none⟩) q.length (cellsI q) := by
  have := h.reads.take (k := q.length) (by omega)
  rwa [cellsI_take] at this
set_option maxHeartbeats 400000 in
theorem Lent_c (A : Option Addr) (cap : Nat) (q : List I4) (hA : A = none → cap = 0) (hc : q.length ≤ cap) (hn : q.length * 8 ≤ 140737488351232) (w : World) (hr : Reads w w.heap.size 4 A q.length (cellsI q)) :
    Calls Try.prog 6 #[.slice A q.length cap] w (LentPost w q) := by
  obtain ⟨i0, HI⟩ : ∃ i0, Hid (Try.prog.info? 47 = some i0 ∧ i0.zero = some (.agg #[.int .u16 0, .int .u8 0, .int .u8 0, .int .u32 0]) ∧ i0.size = 4 ∧ i0.bytes = 8) := by
    obtain ⟨i0, hi, hz0, hz1, hz2⟩ := info_parts infoI
    exact ⟨i0, Lib.hid ⟨hi, hz0, hz1, hz2⟩⟩
  have HR := Lib.hid hr
  have HA := Lib.hid hA
  clear hr hA
  have h0 : (w.alloc (.cells #[] 47)).ownsRow w.heap.size 47 4 (.slice (some ⟨w.heap.size, 0, none⟩) 0 0) 0 [] := World.ownsRow_lit w #[] 0 (Nat.le_refl _) (by decide) rfl
  have tok1 : True := trivial
  go_enter Try.func6, Try.ntmps6
  go_wp2_with (first
    | (at_builtin; have _t := tok1; clear tok1; refine wpList_app rfl (.tmp 3) (.tmp 4) 22 rfl w.heap.size 47 i0 _ 4 8 Try.underlying22 HI.out.1 HI.out.2.1 HI.out.2.2.1 HI.out.2.2.2 rfl (by decide) _ 0 [] rfl h0 A w.heap.size q.length cap (cellsI q) rfl HA.out (HR.out.alloc (Nat.le_refl _) _) (cellsI_one q) (by simp only [maxLen]; omega) (by omega) (by simp) ?_
       intro v1 w1 hown1 hg1 _
       have hb1 : Below w.heap.size w w1 := below_gr (below1 w _) hg1 (by simp) (fun k hk => Nat.le_of_eq (Option.some.inj hk))
       have hs1 := hb1.size
       (try simp only [Nat.zero_add, List.nil_append] at hown1)
       clear hg1)
    | (at_builtin; refine wpList_app rfl (.tmp 5) (.tmp 7) 22 rfl w.heap.size 47 i0 _ 4 8 Try.underlying22 HI.out.1 HI.out.2.1 HI.out.2.2.1 HI.out.2.2.2 rfl (by decide) v1 q.length (cellsI q) rfl (hown1.alloc _) _ (w1.heap.size + 1) 1 1 markI.cells rfl (fun h => by cases h) (reads_new w1 _ _ 4 1 markI.cells rfl rfl) (I4_one markI) (by simp only [maxLen]; omega) (by omega) (by simp; omega) ?_
       intro v2 w2 hown2 hg2 _
       have hb2 : Below w.heap.size w w2 := below_gr (below_al hb1 _) hg2 (by simp; omega) (fun k hk => own_ge hown1 k hk)
       obtain ⟨g, cap2, hv2, hge, hlt⟩ := hown2.form (by omega)
       subst hv2
       rw [cellsI_snoc] at hown2
       have hcap := own_cap hown2
       clear hg2))
  go_ret
  refine ⟨g, cap2, rfl, ⟨hown2, hcap⟩, hb2⟩

/-! #### equality of instructions -/
section
variable {P : Program} {d : Nat} {xs ys : Array Value} {f : Field} {fs : List Field} {a b : Value} {r : Bool} {w : World}
theorem eqFields_if (hn : f.name ≠ "_") (ha : (part f.type xs f.offset).run P w = .ok a w) (hb : (part f.type ys f.offset).run P w = .ok b w) (he : (Op.equalIn d f.type a b).run P w = .ok r w) :
    (Op.eqFields d xs ys (f :: fs)).run P w = if r = true then (Op.eqFields d xs ys fs).run P w else .ok false w := by
  rw [Op.eqFields]
  simp only [if_pos hn, Sem.run_bind, ha, hb, he, Result.andThen_ok]
  cases r <;> simp
end
theorem equalIn_of {P : Program} {d : Nat} {xs ys : Array Value} {w : World} {t : TypeId} {fs : Array Field} (hu : P.underlying t = some (.struct fs)) (hp : P.stoodInHeld t = false) : (Op.equalIn (d + 1) t (.agg xs) (.agg ys)).run P w = (Op.eqFields d xs ys fs.toList).run P w := by
  have hf : P.fieldsOf t = fs := by simp [Program.fieldsOf, hu]
  rw [run_equalIn_struct (P := P) w d t xs ys (by rw [hf]; exact hu) hp, hf]
def eqI4 (x y : I4) : Bool := x.c == y.c && (x.j == y.j && (x.f == y.f && x.k == y.k))
theorem eqI4_iff (x y : I4) : eqI4 x y = true ↔ x = y := by
  obtain ⟨a, b, c, d⟩ := x; obtain ⟨a', b', c', d'⟩ := y
  simp [eqI4]
theorem equalIn_insn (d : Nat) (w : World) (a b c e a' b' c' e' : Int) :
    (Op.equalIn (d + 2) 47 (.agg #[.int .u16 a, .int .u8 b, .int .u8 c, .int .u32 e]) (.agg #[.int .u16 a', .int .u8 b', .int .u8 c', .int .u32 e'])).run Try.prog w = .ok (a == a' && (b == b' && (c == c' && e == e'))) w := by
  rw [equalIn_of Try.underlying47 (by kernel_rfl)]
  simp only [List.toList_toArray]
  rw [eqFields_if (by decide) (by go_simp; rfl) (by go_simp; rfl) (by go_simp; rfl)]
  rw [eqFields_if (by decide) (by go_simp; rfl) (by go_simp; rfl) (by go_simp; rfl)]
  rw [eqFields_if (by decide) (by go_simp; rfl) (by go_simp; rfl) (by go_simp; rfl)]
  rw [eqFields_if (by decide) (by go_simp; rfl) (by go_simp; rfl) (by go_simp; rfl)]
  simp only [Op.eqFields]
  by_cases h1 : a = a' <;> by_cases h2 : b = b' <;> by_cases h3 : c = c' <;> by_cases h4 : e = e' <;> simp [h1, h2, h3, h4]
attribute [local go_sem high] equalIn_insn
def sameP (a b : List I4) : Bool := decide (a = b)
set_option maxHeartbeats 400000 in
theorem Same_c (A A' : Option Addr) (cap cap' : Nat) (q r : List I4) (w : World) (hn : q.length ≤ 9223372036854775807) (hr : Reads w w.heap.size 4 A q.length (cellsI q)) (hr' : Reads w w.heap.size 4 A' r.length (cellsI r)) :
    Calls Try.prog 19 #[.slice A q.length cap, .slice A' r.length cap'] w fun e w' => e = .returned (.bool (sameP q r)) ∧ Below w.heap.size w w' := by
  by_cases hl : q.length = r.length
  · have hl1 : ((q.length : Int) != (r.length : Int)) = false := by simp [hl]
    have HL := Lib.hid hl
    have HR := Lib.hid hr
    have HR' := Lib.hid hr'
    clear hr hr' hl
    go_enter Try.func19, Try.ntmps19
    go_wp2
    go_loopw [5] (fun i wr => ∃ n : Nat, n ≤ q.length ∧ i = .int .i64 n ∧ Below w.heap.size w wr ∧ ∀ j, j < n → q[j]? = r[j]?) (fun i _ => q.length - (intOf i).toNat)
    case atStart => exact ⟨0, by omega, rfl, Below.refl _ _, fun j h => by omega⟩
    case round =>
      obtain ⟨n, hn6, rfl, hBw, hno⟩ := hrel
      have HO := Lib.hid hno
      clear hno
      by_cases h6 : n < q.length
      · obtain ⟨x, hx⟩ : ∃ x, q[n]? = some x := ⟨_, List.getElem?_eq_getElem h6⟩
        obtain ⟨y, hy⟩ : ∃ y, r[n]? = some y := ⟨_, List.getElem?_eq_getElem (by have := HL.out; omega)⟩
        obtain ⟨b, off, rfl, hb, i0, i1, i2, i3⟩ := (HR.out.up hBw).insn hx
        obtain ⟨b', off', rfl, hb', j0, j1, j2, j3⟩ := (HR'.out.up hBw).insn hy
        have hlt1 : (n : Int) < q.length := by omega
        have hlt2 : (n : Int) < r.length := by have := HL.out; omega
        have hlt3 : n < r.length := by omega
        by_cases he : x = y
        · have HN := Lib.hid (show ∀ i, i < n + 1 → q[i]? = r[i]? from fun i hi => by
            rcases Nat.lt_succ_iff_lt_or_eq.1 hi with h | rfl
            · exact HO.out i h
            · rw [hx, hy, he])
          have ht : (!(x.c == y.c && (x.j == y.j && (x.f == y.f && x.k == y.k)))) = false := by rw [he]; simp
          clear HO he hx hy
          go_wp2
          go_quiet (fail)
          go_wp2
          go_roundw
          case rel => exact ⟨n + 1, by omega, by go_num, below_drN hBw _, HN.out⟩
          case measure => simp [intOf]; omega
        · have ht : (!(x.c == y.c && (x.j == y.j && (x.f == y.f && x.k == y.k)))) = true := by
            have := mt (eqI4_iff x y).1 he
            cases h : eqI4 x y with
            | true => exact absurd h this
            | false => unfold eqI4 at h; rw [h]; rfl
          have hs : sameP q r = false := by
            simp only [sameP, decide_eq_false_iff_not]; rintro rfl
            rw [hx] at hy; injection hy with hy; exact he hy
          have HS := Lib.hid hs
          clear HO he hx hy hs
          go_wp2
          go_quiet (fail)
          go_wp2
          go_ret
          exact ⟨ret_b HS.out.symm, below_drN hBw _⟩
      · have hs : sameP q r = true := by
          simp only [sameP, decide_eq_true_eq]
          refine List.ext_getElem? fun j => ?_
          by_cases hj : j < n
          · exact HO.out j hj
          · rw [List.getElem?_eq_none (by omega), List.getElem?_eq_none (by have := HL.out; omega)]
        have HS := Lib.hid hs
        clear hs HO
        go_wp2
        go_ret
        exact ⟨ret_b HS.out.symm, hBw⟩
  · have hl1 : ((q.length : Int) != (r.length : Int)) = true := by simp; omega
    have HS := Lib.hid (show sameP q r = false by simp only [sameP, decide_eq_false_iff_not]; rintro rfl; exact hl rfl)
    clear hr hr' hl
    go_enter Try.func19, Try.ntmps19
    go_wp2
    go_ret
    exact ⟨ret_b HS.out.symm, Below.refl _ _⟩

set_option maxHeartbeats 400000 in
theorem Kept_c (A' : Option Addr) (base g cap cap' : Nat) (q r : List I4) (w : World) (hn : q.length * 8 ≤ 140737488351232) (hL : IsLent w base q g cap) (hr' : Reads w w.heap.size 4 A' r.length (cellsI r)) :
    Calls Try.prog 8 #[.slice (some ⟨g, 0, none⟩) q.length cap, .slice A' r.length cap'] w fun e w' => e = .returned (.bool (sameP q r)) ∧ Below w.heap.size w w' := by
  have HR := Lib.hid hL.readsQ
  have HR' := Lib.hid hr'
  have HM := Lib.hid hL.reads
  have hcap := hL.2
  clear hr' hL
  go_enter Try.func8, Try.ntmps8
  go_wp2_with fail
  refine (Same_c _ A' cap cap' q r w (by omega) HR.out HR'.out).mono ?_
  rintro e w1 ⟨rfl, hb⟩
  obtain ⟨b, off, he, hbl, i0, _⟩ := (HM.out.up hb).insn (i := q.length) (x := markI) (by simp)
  injection he with he
  injection he with h1 h2
  subst h1 h2
  rw [Nat.zero_add] at i0
  change _ = some (Value.int .u16 30583) at i0
  have hle : (q.length : Int) + 1 ≤ cap := by omega
  by_cases hs : sameP q r = true
  · go_wp2
    go_ret
    exact ⟨ret_b hs.symm, hb⟩
  · have hs' : sameP q r = false := by simpa using hs
    clear hs
    go_wp2
    go_ret
    exact ⟨ret_b hs'.symm, hb⟩
end Go.Proofs.Ytehpoamideeehaa
