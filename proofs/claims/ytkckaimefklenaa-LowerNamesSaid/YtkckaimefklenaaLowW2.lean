import Derived.Test.YtkckaimefklenaaLowW1
import Derived.Test.YtkckaimefklenaaAppBig
import Derived.Test.YtkckaimefklenaaOwn
set_option linter.unusedVariables false
set_option linter.unusedSimpArgs false
namespace Go.Proofs.Ytkckaimefklenaa
open Go.RowKit
/-! ravelinlaw09.Grown: the walk. -/
theorem wpList_app_any {P : Program} {w : World} {ops : Array Oper} {rest : List Oper} {o : Oper} {a : Act} {Q : Exit → Act → World → Prop} (hgd : o.guard = none) (s x : Operand) (t : TypeId)
    (ho : o.op = .call { callee := .builtin .append, args := #[s, x], argTypes := #[t, t] })
    (base : Nat) (e : TypeId) (i : TypeInfo) (z : Value) (size bytes : Nat) (ht : P.underlying t = some (.slice e)) (hi : P.info? e = some i) (hz : i.zero = some z)
    (hsize : i.size = size) (hby : i.bytes = bytes) (hzs : z.cells.size = size) (hsz : 0 < size)
    (v : Value) (n : Nat) (xs : List Value) (hs : a.eval s = v) (hown : w.ownsRow base e size v n xs)
    (ad : Addr) (B m c : Nat) (news : List Value) (hx : a.eval x = .slice (some ad) m c) (hr : Reads w B size (some ad) m news) (h1 : ∀ u ∈ news, u.oneCell' = true) (hm : 0 < m)
    (h63 : n + m ≤ maxLen) (hb64 : bytes ≤ 64) (hmb : m * bytes ≤ 140737488355328) (hbytes : (n + m) * bytes ≤ 200000000000000) (hbase : base ≤ w.heap.size)
    (h : ∀ g' cap' w', w'.ownsRow base e size (.slice (some ⟨g', 0, none⟩) (n + m) cap') (n + m) (xs ++ news) → w.grownBy w' v.ownBlock → wpList P ops Q rest (a.put o.dst (.slice (some ⟨g', 0, none⟩) (n + m) cap')) w') : wpList P ops Q (o :: rest) a w := by
  rcases hown.2 with ⟨rfl, hn⟩ | ⟨g, cap, cur, rfl, hg, r⟩
  · subst hn
    refine wpList_app hgd s x t ho base e i z size bytes ht hi hz hsize hby hzs hsz _ 0 xs hs hown (some ad) B m c news hx (fun h => by cases h) hr h1 h63 (by rw [Nat.zero_add]; exact hmb) hbase fun v' w' hown' hg' _ => ?_
    obtain ⟨g', cap', hv, -, -⟩ := hown'.form (by omega)
    subst hv
    exact h g' cap' w' hown' hg'
  · exact wpList_app_big hgd s x t ho base e i z size bytes ht hi hz hsize hby hzs hsz g n cap xs hs hown (some ad) B m c news hx (fun h => by cases h) hr h1 h63 hb64 hbytes hbase fun g' cap' w' hown' hg' => h g' cap' w' hown' hg'
theorem reads_new2 (w : World) (o : Obj) (cs : Array Value) (t : TypeId) (size n : Nat) (hl : cs.toList.length = n * size) : Reads ((w.alloc o).alloc (.cells cs t)) (w.heap.size + 2) size (some ⟨w.heap.size + 1, 0, none⟩) n cs.toList := by
  have h := reads_new (w.alloc o) cs t size n cs.toList rfl hl
  rw [World.size_alloc] at h
  exact h
def gmin (a b : Int) : Int := if b < a then b else a
def gmax (a b : Int) : Int := if a < b then b else a
def grownI (n len : Nat) (side : Bool) (i : Nat) : N8 :=
  let last : Int := (n : Int) + len - 1
  let t0 : Int := if side = true then last else (i : Int) + 1
  ⟨false, 0, 4 * ((i : Int) % 16), if (i : Int) % 3 = 0 then 16711935 else 4294967295, 1 + (i : Int) % 4, i, if (i : Int) % 5 = 4 then gmin ((i : Int) + 1 + (i : Int) % 400) last else t0, if side = true then (i : Int) + 1 else last⟩
def grownJ (n : Nat) (x : N8) : N8 := if x.lf = true then x else { x with t := gmin (gmax x.t 0) 1048576 + n, f := gmin (gmax x.f 0) 1048576 + n }
def grownP (l : List N8) (n : Nat) (side : Bool) : List N8 := (List.range n).map (grownI n l.length side) ++ l.map (grownJ n)
theorem infoN : (Try.prog.info? 26).map (fun i => (i.zero, i.size, i.bytes)) = some (some (.agg #[.bool false, .int .u32 0, .int .i64 0, .int .u32 0, .int .i64 0, .int .u32 0, .int .i64 0, .int .i64 0]), 8, 56) := by kernel_rfl
theorem N8_one (x : N8) : ∀ u ∈ x.cells, u.oneCell' = true := by intro u hu; simp [N8.cells] at hu; rcases hu with rfl | rfl | rfl | rfl | rfl | rfl | rfl | rfl <;> rfl
def GrownPost (w : World) (l : List N8) (e : Ending) (w' : World) : Prop := ∃ v, e = .returned v ∧ w'.ownsRow w.heap.size 26 8 v l.length (cellsN l) ∧ Below w.heap.size w w'
theorem range_snoc (f : Nat → N8) (k : Nat) : cellsN ((List.range (k + 1)).map f) = cellsN ((List.range k).map f) ++ (f k).cells := by
  rw [List.range_succ, List.map_append, cellsN_app]; simp [cellsN]
end Go.Proofs.Ytkckaimefklenaa
