import Derived.Test.YtebkbcpnjknkjaaRdW9
import Derived.Test.YtebkbcpnjknkjaaSemStr
import Derived.Test.YtebkbcpnjknkjaaSemWJ
set_option linter.unusedVariables false
set_option linter.unusedSimpArgs false
set_option maxRecDepth 100000
namespace Go.Proofs.Ytebkbcpnjknkjaa
open Go.RowKit
/-! ravelinlaw07: some, lives. -/
def parseT (s : ByteArray) : Option PolA := match tokensP s (s.size + 1) 0 [] with
  | some (l, _, _) => if l.length ≤ 100000 then parseS l 300 else none
  | none => none
def no35 (s : ByteArray) : Bool := s.data.toList.all (· != 35)
theorem no35_of {s : ByteArray} (h : no35 s = true) : ∀ i, bt s i ≠ 35 := by
  intro i
  unfold bt
  split
  · rename_i hi
    have hm : s[i] ∈ s.data.toList := by
      have : i < s.data.size := hi
      exact Array.mem_toList_iff.2 (Array.getElem_mem this)
    have := List.all_eq_true.1 h _ hm
    intro e
    have : s[i] = 35 := UInt8.toNat_inj.1 (by have : (s[i].toNat : Int) = 35 := e; exact_mod_cast this)
    simp_all
  · decide
/-- What a text says, once it is read. -/
theorem Parse_t (s : ByteArray) (hs : s.size ≤ 65536) (hno : no35 s = true) {p0 : PolA} (hp : parseT s = some p0) (w : World) : Calls Try.prog 13 #[.string s] w (ParsePost p0 w) := by
  unfold parseT at hp
  split at hp
  · rename_i l er pl e
    split at hp
    · rename_i hl
      exact Parse_s s hs (no35_of hno) e hl hp w
    · cases hp
  · cases hp
theorem set6X {W : World} {g : Nat} {a b c d e f : Value} {t : TypeId} (h : W.heap[g]? = some (.cells #[a, b, c, d, e, f] t (0, 0))) (a' b' c' d' e' f' : Value) :
    ((((((W.setCell ⟨g, 0, none⟩ a').setCell ⟨g, 1, none⟩ b').setCell ⟨g, 2, none⟩ c').setCell ⟨g, 3, none⟩ d').setCell ⟨g, 4, none⟩ e').setCell ⟨g, 5, none⟩ f').heap[g]? = some (.cells #[a', b', c', d', e', f'] t (0, 0)) := set6 h a' b' c' d' e' f'
theorem PolA.In.set {W : World} {N : Nat → Prop} {x : PolA} (h : x.In W N) {g : Nat} (hg : ¬ N g) (j : Nat) (v : Value) : x.In (W.setCell ⟨g, j, none⟩ v) N := h.keep fun b hb _ => ⟨hb, Below.heap_setCell W ⟨g, j, none⟩ v b (fun e => hg (by have e' : b = g := e; rwa [e'] at hb))⟩
theorem PolA.In.set6 {W : World} {N : Nat → Prop} {x : PolA} (h : x.In W N) {g : Nat} (hg : ¬ N g) {a b c d e f : Value} : x.In ((((((W.setCell ⟨g, 0, none⟩ a).setCell ⟨g, 1, none⟩ b).setCell ⟨g, 2, none⟩ c).setCell ⟨g, 3, none⟩ d).setCell ⟨g, 4, none⟩ e).setCell ⟨g, 5, none⟩ f) N :=
  (((((h.set hg _ _).set hg _ _).set hg _ _).set hg _ _).set hg _ _).set hg _ _
theorem PolA.In.mono {W : World} {N N' : Nat → Prop} {x : PolA} (h : x.In W N) (hN : ∀ b, N b → N' b) : x.In W N' := h.keep fun b hb _ => ⟨hN b hb, rfl⟩
def txt7 : ByteArray := ⟨(([97, 114, 99, 104, 32, 120, 56, 54, 95, 54, 52, 59, 102, 111, 114, 101, 105, 103, 110, 32, 107, 105, 108, 108, 95, 112, 114, 111, 99, 101, 115, 115, 59, 100, 101, 102, 97].append [117, 108, 116, 32, 101, 114, 114, 110, 111, 32, 49, 59, 111, 110, 32, 114, 101, 97, 100, 44, 32, 119, 114, 105, 116, 101, 44, 32, 50, 51, 49, 32, 100, 111, 32, 97, 108]).append ([108, 111, 119, 59, 111, 110, 32, 111, 112, 101, 110, 97, 116, 32, 119, 104, 101, 110, 32, 97, 114, 103, 50, 32, 38, 32, 48, 120, 51, 32, 61, 61, 32, 48, 32, 97, 110].append [100, 32, 110, 111, 116, 32, 40, 97, 114, 103, 49, 32, 62, 32, 53, 32, 111, 114, 32, 105, 112, 32, 60, 32, 52, 48, 57, 54, 41, 32, 100, 111, 32, 108, 111, 103, 59])).toArray⟩
def PolPost (p0 : PolA) (w : World) (e : Ending) (w' : World) : Prop := ∃ p : PolA, e = .returned p.val ∧ p.strip = p0.strip ∧ p.In w' (fun b => w.heap.size ≤ b) ∧ Below w.heap.size w w'
theorem some7_c {p0 : PolA} (hp : parseT txt7 = some p0) (w : World) : Calls Try.prog 11 #[] w (PolPost p0 w) := by
  have HP := Lib.hid (fun w => Parse_t txt7 (by decide) (by kernel_rfl) hp w)
  unfold txt7 at HP
  clear hp
  go_enter Try.func11, Try.ntmps11
  go_wp2_with fail
  refine (HP.out _).mono ?_
  rintro e w1 ⟨p, rfl, hst, hin, hb⟩
  obtain ⟨ar, fk, fd, dk, dd, A, cap, rs⟩ := p
  have HB := Lib.hid (below_t (below1 w _) hb)
  have HO := Lib.hid (alloc_box (keepH hb (heap_nwT w _)) (.cells #[.string ar, .int .i64 fk, .int .u64 fd, .int .i64 dk, .int .u64 dd, .slice A rs.length cap] 29))
  have hwl := (Array.getElem?_eq_some_iff.1 (keepH hb (heap_nwT w _))).1
  have HIN := Lib.hid hin
  have HST := Lib.hid hst
  clear hst hin hb
  unfold PolA.val
  dsimp only
  go_upto_region 2 with (fail)
  have HC := Lib.hid (show (w1.alloc (.cells #[.string ar, .int .i64 fk, .int .u64 fd, .int .i64 dk, .int .u64 dd, .slice A rs.length cap] 29)).heap[w.heap.size]? = some (.cells #[.string ⟨#[]⟩, .int .i64 0, .int .u64 0, .int .i64 0, .int .u64 0, .slice none 0 0] 29 (0, 0)) ∧ (w1.alloc (.cells #[.string ar, .int .i64 fk, .int .u64 fd, .int .i64 dk, .int .u64 dd, .slice A rs.length cap] 29)).heap[w1.heap.size]? = some (.cells #[.string ar, .int .i64 fk, .int .u64 fd, .int .i64 dk, .int .u64 dd, .slice A rs.length cap] 29 (0, 0)) ∧ Below w.heap.size w (w1.alloc (.cells #[.string ar, .int .i64 fk, .int .u64 fd, .int .i64 dk, .int .u64 dd, .slice A rs.length cap] 29)) ∧ PolA.In (w1.alloc (.cells #[.string ar, .int .i64 fk, .int .u64 fd, .int .i64 dk, .int .u64 dd, .slice A rs.length cap] 29)) (fun b => w.heap.size < b) ⟨ar, fk, fd, dk, dd, A, cap, rs⟩ from
    ⟨HO.out, heap_nwT _ _, below_al HB.out _, HIN.out.keep fun b hb hl => ⟨by simp at hb; omega, Below.heap_alloc w1 _ b hl⟩⟩)
  generalize w1.alloc (.cells #[.string ar, .int .i64 fk, .int .u64 fd, .int .i64 dk, .int .u64 dd, .slice A rs.length cap] 29) = wc at HC ⊢
  obtain ⟨o0, o1, o2, o3, o4, o5⟩ := (box6 HC.out.1).1
  obtain ⟨fo0, fo1, fo2, fo3, fo4, fo5⟩ := (box6 HC.out.1).2
  obtain ⟨q0, q1, q2, q3, q4, q5⟩ := (box6 HC.out.2.1).1
  go_wp2
  obtain ⟨r0, r1, r2, r3, r4, r5⟩ := (box6 (set6X HC.out.1 (.string ar) (.int .i64 fk) (.int .u64 fd) (.int .i64 dk) (.int .u64 dd) (.slice A rs.length cap))).1
  refine bodyPost_ret (v := PolA.val ⟨ar, fk, fd, dk, dd, A, cap, rs⟩) (by simp [results, Try.results11, go_sem, PolA.val, r0, r1, r2, r3, r4, r5]) rfl ?_
  exact ⟨⟨ar, fk, fd, dk, dd, A, cap, rs⟩, rfl, HST.out, (HC.out.2.2.2.set6 (by show ¬ _ < _; omega)).mono (fun b hb => by omega), (((((HC.out.2.2.1.setCell (Nat.le_refl _) _).setCell (Nat.le_refl _) _).setCell (Nat.le_refl _) _).setCell (Nat.le_refl _) _).setCell (Nat.le_refl _) _).setCell (Nat.le_refl _) _⟩
theorem p7_says : ∃ p0, parseT txt7 = some p0 ∧ p0.okB = true ∧ evalP 1099511627776 p0 ⟨231, 3221225534, 0, 0, 0, 0, 0, 0, 0⟩ = 2147418112 := by
  have h : (parseT txt7).map (fun p0 => (p0.okB, evalP 1099511627776 p0 ⟨231, 3221225534, 0, 0, 0, 0, 0, 0, 0⟩)) = some (true, 2147418112) := by kernel_rfl
  cases e : parseT txt7 with
  | none => rw [e] at h; cases h
  | some p0 =>
    rw [e] at h
    simp only [Option.map_some, Option.some.injEq, Prod.mk.injEq] at h
    exact ⟨p0, rfl, h.1, h.2⟩
theorem openat_num : numP ⟨#[120, 56, 54, 95, 54, 52]⟩ ⟨#[111, 112, 101, 110, 97, 116]⟩ = (257, true) := by kernel_rfl
set_option maxHeartbeats 800000 in
theorem lives7_c (w : World) : Calls Try.prog 10 #[] w fun e w' => e = .returned (.bool true) ∧ Below w.heap.size w w' := by
  obtain ⟨p0, hp0, hok, hev⟩ := p7_says
  have HN := Lib.hid (fun w => Number_c07 ⟨#[120, 56, 54, 95, 54, 52]⟩ ⟨#[111, 112, 101, 110, 97, 116]⟩ w)
  rw [openat_num] at HN
  unfold NumPost7 at HN
  have HSO := Lib.hid (fun w => some7_c hp0 w)
  have HEV := Lib.hid (fun (p : PolA) (e : p.strip = p0.strip) N w h => Eval_c N p ⟨231, 3221225534, 0, 0, 0, 0, 0, 0, 0⟩ w (PolA.Ok.same (PolA.okB_of hok) e) h)
  have HVV := Lib.hid (fun (p : PolA) (e : p.strip = p0.strip) => (eval_same 1099511627776 e ⟨231, 3221225534, 0, 0, 0, 0, 0, 0, 0⟩).trans hev)
  clear hp0 hok hev
  go_enter Try.func10, Try.ntmps10
  go_wp2_with fail
  refine (HN.out _).mono ?_
  rintro e w1 ⟨rfl, hb1⟩
  have HB1 := Lib.hid hb1
  clear hb1
  go_wp2_with fail
  refine (HSO.out _).mono ?_
  rintro e w2 ⟨p, rfl, hst, hin, hb2⟩
  have HB2 := Lib.hid (below_t HB1.out hb2)
  have HE := Lib.hid (HEV.out p hst _ w2 hin)
  have HV := Lib.hid (HVV.out p hst)
  unfold U32Post D9.val at HE
  rw [HV.out] at HE
  clear hst hin hb2
  dsimp only at HE
  obtain ⟨ar, fk, fd, dk, dd, A, cap, rs⟩ := p
  unfold PolA.val at HE ⊢
  dsimp only at HE ⊢
  go_wp2_with fail
  refine HE.out.mono ?_
  rintro e w3 ⟨rfl, hb3⟩
  have HB3 := Lib.hid (below_t HB2.out hb3)
  clear hb3
  go_wp2
  go_ret
  exact ⟨rfl, HB3.out⟩
end Go.Proofs.Ytebkbcpnjknkjaa
