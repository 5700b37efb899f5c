/- LowerNames: the examples of chapter 09 and its errors by their numbers are as the statement says. No conditions: it takes no arguments. -/
import Derived.Test.YtkckaimefklenaaLowHead
import Derived.Test.YtkckaimefklenaaOpenG
import Derived.Test.YtkckaimefklenaaArchW
set_option linter.unusedVariables false
set_option linter.unusedSimpArgs false
set_option maxRecDepth 100000
namespace Go.Proofs.Ytkckaimefklenaa
open Go.RowKit Go.ChangeShapes Go.WideShapes Go.Deep
theorem heap_nwL (W : World) (o : Obj) : (W.alloc o).heap[W.heap.size]? = some o := by
  show (W.heap.push o)[W.heap.size]? = some o
  exact Array.getElem?_push_size
theorem Check_z (w : World) : Calls Try.prog 19 #[.agg #[.string ⟨#[]⟩, .int .i64 0, .int .u64 0, .int .i64 0, .int .u64 0, .slice none 0 0]] w fun e w' => e = .returned (.tuple #[.int .i64 71, .int .i64 (-1)]) ∧ Below w.heap.size w w' := by
  have HA := Lib.hid (fun w => Arch_c ⟨#[]⟩ (by decide) w)
  unfold ArchPost at HA
  rw [show archP (ByteArray.mk #[]).data.toList = (0, false) from by decide] at HA
  dsimp only at HA
  go_enter Try.func19, Try.ntmps19
  go_wp2_with fail
  refine (HA.out _).mono ?_
  rintro e w1 ⟨rfl, hb⟩
  have HB := Lib.hid (below_t (below1 w _) hb)
  clear hb
  go_wp2
  go_ret2
  exact ⟨rfl, HB.out⟩
theorem Build_z (w : World) : Calls Try.prog 13 #[.agg #[.string ⟨#[]⟩, .int .i64 0, .int .u64 0, .int .i64 0, .int .u64 0, .slice none 0 0]] w fun e w' => e = .returned (.tuple #[.slice none 0 0, .int .i64 81]) ∧ Below w.heap.size w w' := by
  have HA := Lib.hid (fun w => Check_z w)
  go_enter Try.func13, Try.ntmps13
  go_wp2_with fail
  refine (HA.out _).mono ?_
  rintro e w1 ⟨rfl, hb⟩
  have HB := Lib.hid (below_t (below1 w _) hb)
  clear hb
  go_wp2
  go_ret2
  exact ⟨rfl, HB.out⟩
theorem Lower_z (w : World) : Calls Try.prog 7 #[.agg #[.string ⟨#[]⟩, .int .i64 0, .int .u64 0, .int .i64 0, .int .u64 0, .slice none 0 0]] w fun e w' => e = .returned (.tuple #[.slice none 0 0, .int .i64 81]) ∧ Below w.heap.size w w' := by
  have HA := Lib.hid (fun w => Build_z w)
  go_enter Try.func7, Try.ntmps7
  go_wp2_with fail
  refine (HA.out _).mono ?_
  rintro e w1 ⟨rfl, hb⟩
  have HB := Lib.hid (below_t (below1 w _) hb)
  clear hb
  go_wp2
  go_ret2
  exact ⟨rfl, HB.out⟩
def exN (m : Int) : List N8 := [⟨false, 0, 0, m, 1, 7, 1, 2⟩, ⟨true, 1, 0, 0, 0, 0, 0, 0⟩, ⟨true, 2, 0, 0, 0, 0, 0, 0⟩]
def ones9 : List I4 := [⟨32, 0, 0, 0⟩, ⟨21, 0, 1, 7⟩, ⟨6, 0, 0, 1⟩, ⟨6, 0, 0, 2⟩]
def twos9 : List I4 := [⟨32, 0, 0, 0⟩, ⟨84, 0, 0, 255⟩, ⟨21, 0, 1, 7⟩, ⟨6, 0, 0, 1⟩, ⟨6, 0, 0, 2⟩]
theorem far_one (k : Nat) : farTo (exN 4294967295) k = [(false, false), (false, false), (false, false)] := by
  induction k with
  | zero => rfl
  | succ k ih => rw [farTo, ih]; decide
theorem far_two (k : Nat) : farTo (exN 255) k = [(false, false), (false, false), (false, false)] := by
  induction k with
  | zero => rfl
  | succ k ih => rw [farTo, ih]; decide
theorem emit_one (k : Nat) : emitTo (exN 4294967295) (farTo (exN 4294967295) k) 3 = ones9 ∧ placeN (exN 4294967295) (farTo (exN 4294967295) k) 3 = 4 := by rw [far_one]; decide
theorem emit_two (k : Nat) : emitTo (exN 255) (farTo (exN 255) k) 3 = twos9 ∧ placeN (exN 255) (farTo (exN 255) k) 3 = 5 := by rw [far_two]; decide
theorem exN_ok {m : Int} (h0 : 0 ≤ m) (h1 : m < 4294967296) : ∀ x ∈ exN m, x.ok := by
  intro x hx
  simp only [exN, List.mem_cons, List.mem_nil_iff, or_false] at hx
  rcases hx with rfl | rfl | rfl <;> simp [N8.ok, in32, in64] <;> omega
def OnePost (w : World) (e : Ending) (w' : World) : Prop := Below w.heap.size w w' ∧ ∃ g c, w.heap.size ≤ g ∧ e = .returned (.tuple #[.slice (some ⟨g, 0, none⟩) 4 c, .int .i64 0]) ∧ Reads w' w'.heap.size 4 (some ⟨g, 0, none⟩) 4 (cellsI ones9)
def TwoPost (w : World) (e : Ending) (w' : World) : Prop := Below w.heap.size w w' ∧ ∃ g c, w.heap.size ≤ g ∧ e = .returned (.tuple #[.slice (some ⟨g, 0, none⟩) 5 c, .int .i64 0]) ∧ Reads w' w'.heap.size 4 (some ⟨g, 0, none⟩) 5 (cellsI twos9)
theorem one_emits (A : Option Addr) (c : Nat) (w : World) (hr : Reads w w.heap.size 8 A 3 (cellsN (exN 4294967295))) : Calls Try.prog 5 #[.slice A 3 c] w (OnePost w) := by
  refine (Emit_c A c (exN 4294967295) (exN_ok (by decide) (by decide)) (by decide) w hr).mono ?_
  rintro e w1 ⟨hb, ⟨h, -⟩ | ⟨-, k, -, ⟨h, -⟩ | ⟨-, v, rfl, hown⟩⟩⟩
  · exact absurd (by decide : (checkD (exN 4294967295)).1 = 0) h
  · have := (emit_one k).2
    rw [show (exN 4294967295).length = 3 from rfl, this] at h; omega
  · rw [show (exN 4294967295).length = 3 from rfl, (emit_one k).1] at hown
    have hown1 : w1.ownsRow w.heap.size 45 4 v 4 (cellsI ones9) := hown
    obtain ⟨g, cv, rfl, hge, -⟩ := hown1.form (by decide)
    exact ⟨hb, g, cv, hge, rfl, Reads.of_own hown1⟩
theorem two_emits (A : Option Addr) (c : Nat) (w : World) (hr : Reads w w.heap.size 8 A 3 (cellsN (exN 255))) : Calls Try.prog 5 #[.slice A 3 c] w (TwoPost w) := by
  refine (Emit_c A c (exN 255) (exN_ok (by decide) (by decide)) (by decide) w hr).mono ?_
  rintro e w1 ⟨hb, ⟨h, -⟩ | ⟨-, k, -, ⟨h, -⟩ | ⟨-, v, rfl, hown⟩⟩⟩
  · exact absurd (by decide : (checkD (exN 255)).1 = 0) h
  · have := (emit_two k).2
    rw [show (exN 255).length = 3 from rfl, this] at h; omega
  · rw [show (exN 255).length = 3 from rfl, (emit_two k).1] at hown
    have hown1 : w1.ownsRow w.heap.size 45 4 v 5 (cellsI twos9) := hown
    obtain ⟨g, cv, rfl, hge, -⟩ := hown1.form (by decide)
    exact ⟨hb, g, cv, hge, rfl, Reads.of_own hown1⟩
theorem two_size (A : Option Addr) (c : Nat) (w : World) (hr : Reads w w.heap.size 8 A 3 (cellsN (exN 255))) : Calls Try.prog 6 #[.slice A 3 c] w fun e w' => e = .returned (.tuple #[.int .i64 5, .int .i64 0]) ∧ Below w.heap.size w w' := by
  refine (Size_c A c (exN 255) (exN_ok (by decide) (by decide)) (by decide) w hr).mono ?_
  rintro e w1 ⟨hb, ⟨h, -⟩ | ⟨-, k, -, rfl⟩⟩
  · exact absurd (by decide : (checkD (exN 255)).1 = 0) h
  · rw [show (exN 255).length = 3 from rfl, (emit_two k).2]; exact ⟨rfl, hb⟩
theorem nil_emits (w : World) : Calls Try.prog 5 #[.slice none 0 0] w fun e w' => e = .returned (.tuple #[.slice none 0 0, .int .i64 83]) ∧ Below w.heap.size w w' := by
  refine (Emit_c none 0 [] (by intro x hx; cases hx) (by decide) w Reads.none_).mono ?_
  rintro e w1 ⟨hb, ⟨-, rfl⟩ | ⟨h, -⟩⟩
  · exact ⟨rfl, hb⟩
  · exact absurd h (by decide)
set_option maxHeartbeats 1600000 in
theorem LowerNames_w (w : World) : Calls Try.prog 3 #[] w fun e w' => e = .returned (.bool true) ∧ Below w.heap.size w w' := by
  have HL := Lib.hid (fun w => lives_c w)
  have HE1 := Lib.hid (fun A c w h => one_emits A c w h)
  have HE2 := Lib.hid (fun A c w h => two_emits A c w h)
  have HSZ := Lib.hid (fun A c w h => two_size A c w h)
  have HE0 := Lib.hid (fun w => nil_emits w)
  have HLZ := Lib.hid (fun w => Lower_z w)
  go_enter Try.func3, Try.ntmps3
  go_wp2_with fail
  refine (HL.out _).mono ?_
  rintro e w1 ⟨rfl, hb⟩
  have H1 := Lib.hid hb
  clear hb
  go_upto_region 3 with (fail)
  have HB1 := Lib.hid (show (w1.alloc (.cells #[.bool false, .int .u32 0, .int .i64 0, .int .u32 4294967295, .int .i64 1, .int .u32 7, .int .i64 1, .int .i64 2, .bool true, .int .u32 1, .int .i64 0, .int .u32 0, .int .i64 0, .int .u32 0, .int .i64 0, .int .i64 0, .bool true, .int .u32 2, .int .i64 0, .int .u32 0, .int .i64 0, .int .u32 0, .int .i64 0, .int .i64 0] 26)).heap[w1.heap.size]? = some (.cells #[.bool false, .int .u32 0, .int .i64 0, .int .u32 4294967295, .int .i64 1, .int .u32 7, .int .i64 1, .int .i64 2, .bool true, .int .u32 1, .int .i64 0, .int .u32 0, .int .i64 0, .int .u32 0, .int .i64 0, .int .i64 0, .bool true, .int .u32 2, .int .i64 0, .int .u32 0, .int .i64 0, .int .u32 0, .int .i64 0, .int .i64 0] 26 (0, 0)) from heap_nwL _ _)
  have HR1 := Lib.hid (show Reads (w1.alloc (.cells #[.bool false, .int .u32 0, .int .i64 0, .int .u32 4294967295, .int .i64 1, .int .u32 7, .int .i64 1, .int .i64 2, .bool true, .int .u32 1, .int .i64 0, .int .u32 0, .int .i64 0, .int .u32 0, .int .i64 0, .int .i64 0, .bool true, .int .u32 2, .int .i64 0, .int .u32 0, .int .i64 0, .int .u32 0, .int .i64 0, .int .i64 0] 26)) (w1.alloc (.cells #[.bool false, .int .u32 0, .int .i64 0, .int .u32 4294967295, .int .i64 1, .int .u32 7, .int .i64 1, .int .i64 2, .bool true, .int .u32 1, .int .i64 0, .int .u32 0, .int .i64 0, .int .u32 0, .int .i64 0, .int .i64 0, .bool true, .int .u32 2, .int .i64 0, .int .u32 0, .int .i64 0, .int .u32 0, .int .i64 0, .int .i64 0] 26)).heap.size 8 (some ⟨w1.heap.size, 0, none⟩) 3 (cellsN (exN 4294967295)) from by
    have h := reads_new w1 #[.bool false, .int .u32 0, .int .i64 0, .int .u32 4294967295, .int .i64 1, .int .u32 7, .int .i64 1, .int .i64 2, .bool true, .int .u32 1, .int .i64 0, .int .u32 0, .int .i64 0, .int .u32 0, .int .i64 0, .int .i64 0, .bool true, .int .u32 2, .int .i64 0, .int .u32 0, .int .i64 0, .int .u32 0, .int .i64 0, .int .i64 0] 26 8 3 (cellsN (exN 4294967295)) rfl rfl
    rw [World.size_alloc]; exact h)
  have H2 := Lib.hid (below_al H1.out (.cells #[.bool false, .int .u32 0, .int .i64 0, .int .u32 4294967295, .int .i64 1, .int .u32 7, .int .i64 1, .int .i64 2, .bool true, .int .u32 1, .int .i64 0, .int .u32 0, .int .i64 0, .int .u32 0, .int .i64 0, .int .i64 0, .bool true, .int .u32 2, .int .i64 0, .int .u32 0, .int .i64 0, .int .u32 0, .int .i64 0, .int .i64 0] 26))
  obtain ⟨g, hg⟩ : ∃ g, g = w1.heap.size := ⟨_, rfl⟩
  rw [← hg] at HB1 HR1 ⊢
  generalize w1.alloc (.cells #[.bool false, .int .u32 0, .int .i64 0, .int .u32 4294967295, .int .i64 1, .int .u32 7, .int .i64 1, .int .i64 2, .bool true, .int .u32 1, .int .i64 0, .int .u32 0, .int .i64 0, .int .u32 0, .int .i64 0, .int .i64 0, .bool true, .int .u32 2, .int .i64 0, .int .u32 0, .int .i64 0, .int .u32 0, .int .i64 0, .int .i64 0] 26) = w2 at HB1 HR1 H2 ⊢
  have hwg : w.heap.size ≤ g := by rw [hg]; exact H1.out.size
  clear hg H1
  go_wp2_with fail
  refine (HE1.out _ _ _ HR1.out).mono ?_
  rintro e w3 ⟨hb, g1, k1, hge1, rfl, hr⟩
  have hgg : g < w2.heap.size := (Array.getElem?_eq_some_iff.1 HB1.out).1
  have hne : g1 ≠ g := by omega
  have H3 := Lib.hid (below_t H2.out hb)
  have HQ1 := Lib.hid hr
  have HB3 := Lib.hid ((hb.block _ (Array.getElem?_eq_some_iff.1 HB1.out).1).trans HB1.out)
  have c3 : w3.cell? ⟨g, 3, none⟩ = some (.int .u32 4294967295) := by simp [World.cell?, HB3.out]
  have f3 : w3.frozen? ⟨g, 3, none⟩ = false := by simp [World.frozen?, HB3.out]
  clear hb hr HB1 HR1 H2
  go_upto_region 5 with (fail)
  have HB4 : Hid ((w3.setCell ⟨g, 3, none⟩ (.int .u32 255)).heap[g]? = some (.cells #[.bool false, .int .u32 0, .int .i64 0, .int .u32 255, .int .i64 1, .int .u32 7, .int .i64 1, .int .i64 2, .bool true, .int .u32 1, .int .i64 0, .int .u32 0, .int .i64 0, .int .u32 0, .int .i64 0, .int .i64 0, .bool true, .int .u32 2, .int .i64 0, .int .u32 0, .int .i64 0, .int .u32 0, .int .i64 0, .int .i64 0] 26 (0, 0))) := Lib.hid (heapSet (j := 3) HB3.out (.int .u32 255))
  have H4 := Lib.hid (show Below w.heap.size w (w3.setCell ⟨g, 3, none⟩ (.int .u32 255)) from H3.out.setCell (show w.heap.size ≤ g from hwg) _)
  have hgl : g < w3.heap.size := (Array.getElem?_eq_some_iff.1 HB3.out).1
  have hz : (w3.setCell ⟨g, 3, none⟩ (.int .u32 255)).heap.size = w3.heap.size := by simp [World.setCell]
  have HQ2 := Lib.hid (show Reads (w3.setCell ⟨g, 3, none⟩ (.int .u32 255)) (w3.setCell ⟨g, 3, none⟩ (.int .u32 255)).heap.size 4 (some ⟨g1, 0, none⟩) 4 (cellsI ones9) from by
    refine ⟨HQ1.out.1, fun hn => ?_⟩
    obtain ⟨b, off, e, hb, hc⟩ := HQ1.out.2 hn
    have hbe : b = g1 := by injection e with e; injection e with e1 _ _; exact e1.symm
    refine ⟨b, off, e, by rw [hz]; exact hb, fun j u hu => ?_⟩
    have h := hc j u hu
    have h2 := Below.heap_setCell w3 ⟨g, 3, none⟩ (.int .u32 255) b (by show b ≠ g; rw [hbe]; exact hne)
    simp only [World.cell?] at h ⊢
    rw [h2]; exact h)
  have HR4 := Lib.hid (show Reads (w3.setCell ⟨g, 3, none⟩ (.int .u32 255)) (w3.setCell ⟨g, 3, none⟩ (.int .u32 255)).heap.size 8 (some ⟨g, 0, none⟩) 3 (cellsN (exN 255)) from by
    refine ⟨rfl, fun _ => ⟨g, 0, rfl, by rw [hz]; exact hgl, fun j u hu => ?_⟩⟩
    rw [Nat.zero_add]
    simp only [World.cell?, HB4.out]
    simpa [exN, cellsN, N8.cells] using hu)
  generalize w3.setCell ⟨g, 3, none⟩ (.int .u32 255) = w4 at HB4 H4 HQ2 HR4 ⊢
  clear c3 f3 H3 HQ1 HB3 hgl hz hge1 hne hgg hwg
  go_wp2_with fail
  refine (HE2.out _ _ _ HR4.out).mono ?_
  rintro e w5 ⟨hb, g2, k2, hge2, rfl, hr⟩
  have H5 := Lib.hid (below_t H4.out hb)
  have HQ5 := Lib.hid (HQ2.out.up hb)
  have HT5 := Lib.hid hr
  have HR5 := Lib.hid (HR4.out.up hb)
  clear hb hr hge2
  go_wp2_with fail
  refine (HSZ.out _ _ _ HR5.out).mono ?_
  rintro e w6 ⟨rfl, hb⟩
  have H6 := Lib.hid (below_t H5.out hb)
  have HQ6 := Lib.hid (HQ5.out.up hb)
  have HT6 := Lib.hid (HT5.out.up hb)
  clear hb
  go_wp2_with fail
  refine (HE0.out _).mono ?_
  rintro e w7 ⟨rfl, hb⟩
  have H7 := Lib.hid (below_t H6.out hb)
  have HQ7 := Lib.hid (HQ6.out.up hb)
  have HT7 := Lib.hid (HT6.out.up hb)
  clear hb
  go_wp2_with fail
  refine (HLZ.out _).mono ?_
  rintro e w8 ⟨rfl, hb⟩
  have H8 := Lib.hid (below_t H7.out hb)
  have HQ8 := Lib.hid (HQ7.out.up hb)
  have HT8 := Lib.hid (HT7.out.up hb)
  clear hb
  have HS1 := Lib.hid (show Calls Try.prog 8 #[.slice (some ⟨g1, 0, none⟩) 4 k1, .slice (some ⟨w8.heap.size, 0, none⟩) 4 4] (w8.alloc (.cells (cellsI ones9).toArray 45)) _ from Same_c (some ⟨g1, 0, none⟩) (some ⟨w8.heap.size, 0, none⟩) k1 4 ones9 ones9 (w8.alloc (.cells (cellsI ones9).toArray 45)) (by decide) (HQ8.out.up (below1 w8 _)) (by
    have h := reads_new w8 (cellsI ones9).toArray 45 4 4 (cellsI ones9) rfl rfl
    rw [World.size_alloc]; exact h))
  rw [show sameP ones9 ones9 = true from by decide] at HS1
  have H9 := Lib.hid (below_al H8.out (.cells (cellsI ones9).toArray 45))
  have HT9 := Lib.hid (HT8.out.up (below1 w8 (.cells (cellsI ones9).toArray 45)))
  go_wp2_with fail
  refine HS1.out.mono ?_
  rintro e w9 ⟨rfl, hb⟩
  have H10 := Lib.hid (below_t H9.out hb)
  have HT10 := Lib.hid (HT9.out.up hb)
  clear hb HS1
  have HS2 := Lib.hid (show Calls Try.prog 8 #[.slice (some ⟨g2, 0, none⟩) 5 k2, .slice (some ⟨w9.heap.size, 0, none⟩) 5 5] (w9.alloc (.cells (cellsI twos9).toArray 45)) _ from Same_c (some ⟨g2, 0, none⟩) (some ⟨w9.heap.size, 0, none⟩) k2 5 twos9 twos9 (w9.alloc (.cells (cellsI twos9).toArray 45)) (by decide) (HT10.out.up (below1 w9 _)) (by
    have h := reads_new w9 (cellsI twos9).toArray 45 4 5 (cellsI twos9) rfl rfl
    rw [World.size_alloc]; exact h))
  rw [show sameP twos9 twos9 = true from by decide] at HS2
  have H11 := Lib.hid (below_al H10.out (.cells (cellsI twos9).toArray 45))
  go_wp2_with fail
  refine HS2.out.mono ?_
  rintro e w10 ⟨rfl, hb⟩
  have H12 := Lib.hid (below_t H11.out hb)
  clear hb HS2
  go_wp2
  go_ret
  exact ⟨rfl, H12.out⟩
/-! ### the row of LowerNames -/
set_option maxRecDepth 100000 in
theorem LowerNames_lifted (os : Os) (started : os.Started) (H : Type) (enc : TypeId × Value → H) :
    ReturnsInHanded {} Try.checked os 3 .any (Rows.lowerNamesSpec.pre6 enc Try.prog Try.f3 Rows.lowerNamesRow.domain false) (Rows.lowerNamesSpec.post enc Try.prog Try.f3 false true false false) := by
  refine returnsInHanded_of_change_sized (C := Try.checked) ownNone started (by kernel_rfl) Try.func3
    (ChangeSpec.witness6 (enc := enc) (C := Try.checked) false ⟨#[], #[], []⟩ 8 (by kernel_rfl) (by kernel_rfl) (by kernel_rfl) (by kernel_rfl)) ?_
  intro W base args ds gs before hval0 hW hcnd hsz0 _
  have hsz : (DataW.weightsEach Try.prog (Try.f3.params.toList ++ Rows.lowerNamesSpec.plain.varTypes Try.prog) (ds ++ gs)).all (· ≤ reachBytes) = true := hsz0
  have hval : ∀ (j : Nat) t v, Try.f3.params[j]? = some t → args[j]? = some v → Value.okWide Try.prog W .any base t v := hval0
  have hW' := hW
  obtain ⟨p, q, hA0, hV, rfl, hfz, hnd⟩ := hW
  have hA : DataW.TrodAll enc Try.prog W 0 (fun _ => true) true Try.f3.params.toList args.toList ds p := hA0
  rw [Try.params3] at hA hval hsz
  obtain ⟨hargs, rfl, rfl⟩ := trodAll_nil hA
  obtain rfl : args = #[] := by cases args; simp_all
  obtain ⟨rfl, rfl⟩ := trodVars_none hV
  clear hA0 hval0 hsz0 hsz
  refine (LowerNames_w  W ).mono fun e W' ⟨he, bel⟩ => ?_
  subst he
  exact ⟨_, rfl, _, _, _, [], _, [], hW', trodAll_mk1 (shut_bool Try.underlying4 _), trodAll_mk0, rfl, bel.frame _, fun h => by cases h⟩
theorem LowerNames_holds : Rows.LowerNamesSaid :=
  OpenClaim.holds_of_wide 3 Try.f3 rfl rfl rfl rfl rfl rfl rfl ⟨rfl, rfl, rfl, rfl, rfl⟩ rfl rfl rfl rfl rfl (by kernel_rfl) Try.func3 (by kernel_rfl)
    (of_decide_eq_true (by kernel_rfl)) (by unfold Func.isWrapper; first | (rw [if_pos (by decide +kernel)]; kernel_rfl) | (rw [if_neg (by decide +kernel)]; exact ⟨rfl, rfl⟩))
    (fun os started H enc _ => LowerNames_lifted os started H enc)
#print axioms LowerNames_holds
end Go.Proofs.Ytkckaimefklenaa
