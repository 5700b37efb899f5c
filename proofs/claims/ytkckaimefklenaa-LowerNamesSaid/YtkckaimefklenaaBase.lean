import Derived.Test.YtkckaimefklenaaProg
import Derived.WalkKit
import Derived.Outline
import Derived.Below
import Derived.Laws.OwnMore
import Derived.Deep.AppendLies
import Derived.Deep.Draws
import Derived.Laws.EntriesVeiled
import Derived.Laws.Rows
import Derived.Lib.Hide
import Derived.Laws.BitsLemmas
import Derived.StillTailTactics
import Derived.OwnWalk
import Derived.Laws.StructEq
import Derived.Deep.AppendSrc
import Derived.BigQuiet
import Derived.Deep.QuietTactic
set_option linter.unusedVariables false
set_option linter.unusedSimpArgs false
namespace Go.Proofs.Ytkckaimefklenaa
open Go.RowKit

/-! ### Endings, worlds -/
theorem ret_b {a b : Bool} (h : a = b) : Ending.returned (.bool a) = .returned (.bool b) := by rw [h]
theorem ret_i {k : IntKind} {a b : Int} (h : a = b) : Ending.returned (.int k a) = .returned (.int k b) := by rw [h]
theorem below1 (w : World) (o : Obj) : Below w.heap.size w (w.alloc o) := (Below.refl _ _).alloc (Nat.le_refl _) o
theorem below_al {w W : World} (h : Below w.heap.size w W) (o : Obj) : Below w.heap.size w (W.alloc o) := h.alloc h.size o
theorem below_dr {B : Nat} {w W : World} (h : Below B w W) : Below B w W.drew := ⟨h.os, h.tape, h.output, h.size, h.block⟩
theorem below_drN {B : Nat} {w W : World} (h : Below B w W) (n : Nat) : Below B w (W.drewN n) := ⟨h.os, h.tape, h.output, h.size, h.block⟩
theorem below_tr {B : Nat} {w w1 w2 : World} (h : Below B w w1) (hB : B ≤ w1.heap.size) (k : Below w1.heap.size w1 w2) : Below B w w2 :=
  h.trans ⟨k.os, k.tape, k.output, k.size, fun i hi => k.block i (Nat.lt_of_lt_of_le hi hB)⟩
theorem below_t {w w1 w2 : World} (h : Below w.heap.size w w1) (k : Below w1.heap.size w1 w2) : Below w.heap.size w w2 := below_tr h h.size k
theorem bcell {W w1 : World} (hb : Below W.heap.size W w1) : (∀ b o, b < W.heap.size → w1.cell? ⟨b, o, none⟩ = W.cell? ⟨b, o, none⟩) ∧ (∀ b o, b < W.heap.size → w1.frozen? ⟨b, o, none⟩ = W.frozen? ⟨b, o, none⟩) :=
  ⟨fun b o h => hb.cell (p := ⟨b, o, none⟩) h, fun b o h => hb.frozen (p := ⟨b, o, none⟩) h⟩
theorem below_of {B : Nat} {w w1 : World} (h : Below B w w1) {B' : Nat} (hB : B' ≤ B) : Below B' w w1 := ⟨h.os, h.tape, h.output, h.size, fun i hi => h.block i (by omega)⟩

theorem keepC {w w1 : World} (hb : Below w.heap.size w w1) {b o : Nat} {v : Value} (h : w.cell? ⟨b, o, none⟩ = some v) : w1.cell? ⟨b, o, none⟩ = some v := (hb.cell (p := ⟨b, o, none⟩) (World.block_lt_of_cell? w _ h)).trans h

/-- New blocks, one behind the other. -/
def al (w : World) : List Obj → World
  | [] => w
  | o :: l => al (w.alloc o) l
theorem al_below (w : World) (l : List Obj) : Below w.heap.size w (al w l) := by
  induction l generalizing w with
  | nil => exact Below.refl _ _
  | cons o l ih => exact below_tr (below1 w o) (by simp) (ih _)
theorem al_size (w : World) (l : List Obj) : (al w l).heap.size = w.heap.size + l.length := by
  induction l generalizing w with
  | nil => rfl
  | cons o l ih => simp only [al]; rw [ih]; simp; omega
theorem al_heap (w : World) (l : List Obj) (i : Nat) (o : Obj) (h : l[i]? = some o) : (al w l).heap[w.heap.size + i]? = some o := by
  induction l generalizing w i with
  | nil => simp at h
  | cons x l ih =>
    cases i with
    | zero =>
      simp at h; subst h
      have hb := (al_below (w.alloc x) l).block w.heap.size (by simp)
      simp only [al, Nat.add_zero]; rw [hb]; show (w.heap.push x)[w.heap.size]? = _; simp
    | succ i =>
      have := ih (w.alloc x) i (by simpa using h)
      simp only [al]; rw [← this]; congr 1; simp; omega
theorem al_cell (w : World) (l : List Obj) (i : Nat) {c : Array Value} {t : TypeId} {fr : Nat × Nat} (h : l[i]? = some (.cells c t fr)) (j : Nat) : (al w l).cell? ⟨w.heap.size + i, j, none⟩ = c[j]? := by
  simp [World.cell?, al_heap w l i _ h]
theorem al_frozen (w : World) (l : List Obj) (i : Nat) {c : Array Value} {t : TypeId} (h : l[i]? = some (.cells c t (0, 0))) (j : Nat) : (al w l).frozen? ⟨w.heap.size + i, j, none⟩ = false := by
  simp [World.frozen?, al_heap w l i _ h]
theorem add_plain (g o j : Nat) : (⟨g, o, none⟩ : Addr).add j = ⟨g, o + j, none⟩ := by unfold Addr.add; split <;> simp_all

/-! ### Slices that are read: '.slice A n c' holds the cells xs (of so many a row), below block B -/
def Reads (w : World) (B size : Nat) (A : Option Addr) (n : Nat) (xs : List Value) : Prop :=
  xs.length = n * size ∧ (0 < n → ∃ b off, A = some ⟨b, off, none⟩ ∧ b < B ∧ ∀ j u, xs[j]? = some u → w.cell? ⟨b, off + j, none⟩ = some u)
section
variable {w w' : World} {B B' size n : Nat} {A : Option Addr} {xs : List Value}
theorem Reads.none_ : Reads w B size A 0 [] := ⟨by simp, fun h => absurd h (by omega)⟩
theorem Reads.keep (h : Reads w B size A n xs) (hk : ∀ b o, b < B → w'.cell? ⟨b, o, none⟩ = w.cell? ⟨b, o, none⟩) : Reads w' B size A n xs :=
  ⟨h.1, fun hn => by
    obtain ⟨b, off, e, hb, hc⟩ := h.2 hn
    exact ⟨b, off, e, hb, fun j u hu => (hk _ _ hb).trans (hc j u hu)⟩⟩
theorem Reads.more (h : Reads w B size A n xs) (hB : B ≤ B') : Reads w B' size A n xs :=
  ⟨h.1, fun hn => by
    obtain ⟨b, off, e, hb, hc⟩ := h.2 hn
    exact ⟨b, off, e, by omega, hc⟩⟩
theorem Reads.below (h : Reads w B size A n xs) (hb : Below B w w') : Reads w' B size A n xs := h.keep fun b o hp => hb.cell (p := ⟨b, o, none⟩) hp
theorem Reads.up (h : Reads w w.heap.size size A n xs) (hb : Below w.heap.size w w') : Reads w' w'.heap.size size A n xs := (h.below hb).more hb.size
theorem Reads.drew (h : Reads w B size A n xs) : Reads w.drew B size A n xs := h
theorem Reads.drewN (h : Reads w B size A n xs) (k : Nat) : Reads (w.drewN k) B size A n xs := h
theorem Reads.alloc (h : Reads w B size A n xs) (hB : B ≤ w.heap.size) (o : Obj) : Reads (w.alloc o) B size A n xs := h.keep fun b _ hp => World.cell?_alloc_lt w o ⟨b, _, none⟩ (show b < w.heap.size by omega)
theorem Reads.cut (h : Reads w B size A n xs) {k cap : Nat} (hk : k ≤ n) (hc : n ≤ cap) :
    Reads w B size (if cap = k then A else A.map (·.add (k * size))) (n - k) (xs.drop (k * size)) := by
  refine ⟨by rw [List.length_drop, h.1, Nat.sub_mul], fun hn => ?_⟩
  obtain ⟨b, off, rfl, hb, hcell⟩ := h.2 (by omega)
  rw [if_neg (by omega)]
  refine ⟨b, off + k * size, ?_, hb, fun j u hu => ?_⟩
  · simp only [Option.map_some, Option.some.injEq]
    unfold Addr.add
    split <;> simp_all
  · rw [Nat.add_assoc]
    exact hcell _ u (by rw [← hu, List.getElem?_drop])
theorem Reads.take (h : Reads w B size A n xs) {k : Nat} (hk : k ≤ n) : Reads w B size A k (xs.take (k * size)) := by
  refine ⟨by rw [List.length_take, h.1]; exact Nat.min_eq_left (Nat.mul_le_mul_right _ hk), fun hn => ?_⟩
  obtain ⟨b, off, rfl, hb, hcell⟩ := h.2 (by omega)
  refine ⟨b, off, rfl, hb, fun j u hu => hcell j u ?_⟩
  rw [List.getElem?_take] at hu
  split at hu
  · exact hu
  · cases hu
theorem Reads.of_own {base : Nat} {e : TypeId} {c : Nat} (h : w.ownsRow base e size (.slice A n c) n xs) : Reads w w.heap.size size A n xs := by
  refine ⟨h.1, fun hn => ?_⟩
  obtain ⟨g, cap, hv, _, hlt⟩ := h.form hn
  have hA : A = some ⟨g, 0, none⟩ := by injection hv
  subst hA
  exact ⟨_, _, rfl, hlt, fun j u hu => by rw [← add_plain]; exact h.cells (g := g) rfl j u hu⟩
end

theorem reads_new (w : World) (cs : Array Value) (t : TypeId) (size n : Nat) (xs : List Value) (hx : xs = cs.toList) (hl : xs.length = n * size) : Reads (w.alloc (.cells cs t)) (w.heap.size + 1) size (some ⟨w.heap.size, 0, none⟩) n xs := by
  refine ⟨hl, fun _ => ⟨_, _, rfl, by omega, fun j u hu => ?_⟩⟩
  subst hx
  rw [Nat.zero_add, World.cell?_alloc_new]
  simpa using hu

/-! ### append, from whatever slice that reads -/
theorem wpList_app {P : Program} {w : World} {ops : Array Oper} {rest : List Oper} {o : Oper} {a : Act} {Q : Exit → Act → World → Prop} (hgd : o.guard = none) (s x : Operand) (t : TypeId)
    (ho : o.op = .call { callee := .builtin .append, args := #[s, x], argTypes := #[t, t] })
    (base : Nat) (e : TypeId) (i : TypeInfo) (z : Value) (size bytes : Nat) (ht : P.underlying t = some (.slice e)) (hi : P.info? e = some i) (hz : i.zero = some z)
    (hsize : i.size = size) (hby : i.bytes = bytes) (hzs : z.cells.size = size) (hsz : 0 < size)
    (v : Value) (n : Nat) (xs : List Value) (hs : a.eval s = v) (hown : w.ownsRow base e size v n xs)
    (A : Option Addr) (B m c : Nat) (news : List Value) (hx : a.eval x = .slice A m c) (hA : A = none → c = 0) (hr : Reads w B size A m news) (h1 : ∀ u ∈ news, u.oneCell' = true)
    (h63 : n + m ≤ maxLen) (hbytes : (n + m) * bytes ≤ 140737488355328) (hbase : base ≤ w.heap.size)
    (h : ∀ v' w', w'.ownsRow base e size v' (n + m) (xs ++ news) → w.grownBy w' v.ownBlock → (v' = .slice none 0 0 ↔ v = .slice none 0 0 ∧ m = 0) → wpList P ops Q rest (a.put o.dst v') w') : wpList P ops Q (o :: rest) a w := by
  cases A with
  | some ad =>
    refine wpList_append_own w hgd s x t ho base e i z size bytes ht hi hz hsize hby hzs hsz v n xs hs hown ad m c news hx hr.1 (fun j u hu => ?_) h1 h63 hbytes hbase h
    have hm : 0 < m := by
      have := (List.getElem?_eq_some_iff.1 hu).1
      rw [hr.1] at this
      rcases Nat.eq_zero_or_pos m with h0 | h0
      · subst h0; simp at this
      · exact h0
    obtain ⟨b, off, e', _, hc⟩ := hr.2 hm
    injection e' with e'
    subst e'
    rw [add_plain]; exact hc j u hu
  | none =>
    obtain rfl := hA rfl
    have hm : m = 0 := by
      rcases Nat.eq_zero_or_pos m with h0 | h0
      · exact h0
      · obtain ⟨_, _, e', _⟩ := hr.2 h0; cases e'
    subst hm
    have hn : news = [] := List.eq_nil_of_length_eq_zero (by rw [hr.1]; simp)
    subst hn
    refine wpList_plain hgd fun K hK => ?_
    have hrun := run_append_owned_none (P := P) (w := w) base t o.type e i size ht hi v n xs hown
    unfold Oper.wp execOp
    simp only [ho, resolve, invoke, builtin, Sem.run_bind, Sem.run_pure, Result.andThen_ok, List.map_toArray, List.map_cons, List.map_nil, hs, hx, hrun]
    exact hK _ _ (h v w (by simpa using hown) ⟨rfl, rfl, rfl, Nat.le_refl _, fun _ _ _ => rfl⟩ (by simp))

/-! ### Numbers of a kind -/
def numV (k : IntKind) (l : List Int) : List Value := l.map (Value.int k)
theorem Reads.num {w : World} {B n : Nat} {A : Option Addr} {k : IntKind} {l : List Int} (h : Reads w B 1 A n (numV k l)) {i : Nat} {x : Int} (hx : l[i]? = some x) :
    ∃ b off, A = some ⟨b, off, none⟩ ∧ b < B ∧ w.cell? ⟨b, off + i, none⟩ = some (.int k x) := by
  have hl : l.length = n := by have := h.1; simp [numV] at this; exact this
  have hi : i < l.length := (List.getElem?_eq_some_iff.1 hx).1
  obtain ⟨b, off, e, hb, hc⟩ := h.2 (by omega)
  exact ⟨b, off, e, hb, hc i _ (by simp [numV, hx])⟩

/-! ### A region that draws its order, its last operations in one forced order -/
theorem wp_tail {P : Program} {id : Nat} {Q : Exit → Act → World → Prop} {a : Act} {w : World} {l : List Oper} (n : Nat) (hm : P.follows .mixedOrders = true) (hB : Region.lexTailB .any l.toArray n = true)
    (h : wpStill P l.toArray w.drew (fun a' => wpList P l.toArray Q (l.drop n) a' w.drew) (l.take n) a) : (Code.region id l.toArray true).wp P Q a w := wp_region_still_tail n hm hB h

/-! ### Bits -/
theorem bits_andNot_eq (k : IntKind) (hk : ∀ n : Int, 0 ≤ n → n < 2 ^ k.bits → k.wrap n = n) (a b : Nat) (ha : a < 2 ^ k.bits) (hb : b < 2 ^ k.bits) :
    bits .andNot k a b = ((a - (a &&& b) : Nat) : Int) := by
  have e : (BitVec.ofNat k.bits a &&& ~~~BitVec.ofNat k.bits b).toNat = a - (a &&& b) := by
    have h1 : BitVec.ofNat k.bits a &&& ~~~BitVec.ofNat k.bits b = BitVec.ofNat k.bits a - (BitVec.ofNat k.bits a &&& BitVec.ofNat k.bits b) := by
      have h2 : (BitVec.ofNat k.bits a &&& ~~~BitVec.ofNat k.bits b) + (BitVec.ofNat k.bits a &&& BitVec.ofNat k.bits b) = BitVec.ofNat k.bits a := by
        rw [BitVec.add_eq_or_of_and_eq_zero]
        · ext i hi; simp only [BitVec.getElem_or, BitVec.getElem_and, BitVec.getElem_not]; cases (BitVec.ofNat k.bits a)[i] <;> cases (BitVec.ofNat k.bits b)[i] <;> rfl
        · ext i hi; simp only [BitVec.getElem_and, BitVec.getElem_not, BitVec.getElem_zero]; cases (BitVec.ofNat k.bits a)[i] <;> cases (BitVec.ofNat k.bits b)[i] <;> rfl
      exact (BitVec.eq_sub_iff_add_eq).2 h2
    rw [h1, BitVec.toNat_sub_of_le]
    · simp [Nat.mod_eq_of_lt ha, Nat.mod_eq_of_lt hb]
    · rw [BitVec.le_def, BitVec.toNat_and]; exact Nat.and_le_left
  simp only [bits, BitVec.ofInt_natCast, e]
  refine hk _ (Int.natCast_nonneg _) ?_
  have : a - (a &&& b) < 2 ^ k.bits := by omega
  exact_mod_cast this
theorem wraps_u16 (n : Int) (h₀ : 0 ≤ n) (h₁ : n < 2 ^ 16) : IntKind.u16.wrap n = n := by simp [IntKind.wrap, IntKind.bits, IntKind.signed]; omega
theorem and7 (c : Nat) (h : c < 65536) : bits .and .u16 c 7 = ((c % 8 : Nat) : Int) := by
  have := (bits_nat .u16 16 (by decide) wraps_u16 c 7 (by omega) (by omega)).1
  rw [show (7 : Int) = ((7 : Nat) : Int) from rfl, this, show (7 : Nat) = 2 ^ 3 - 1 from rfl, Nat.and_two_pow_sub_one_eq_mod]
theorem not7 (c : Nat) (h : c < 65536) : bits .andNot .u16 c 7 = ((c - c % 8 : Nat) : Int) := by
  have := bits_andNot_eq .u16 wraps_u16 c 7 (by simpa [IntKind.bits] using h) (by decide)
  rw [show (7 : Int) = ((7 : Nat) : Int) from rfl, this, show (7 : Nat) = 2 ^ 3 - 1 from rfl, Nat.and_two_pow_sub_one_eq_mod]
theorem not8 (c : Nat) (h : c < 65536) : bits .andNot .u16 c 8 = ((c - (c &&& 8) : Nat) : Int) := by
  have := bits_andNot_eq .u16 wraps_u16 c 8 (by simpa [IntKind.bits] using h) (by decide)
  rw [show (8 : Int) = ((8 : Nat) : Int) from rfl, this]
end Go.Proofs.Ytkckaimefklenaa
