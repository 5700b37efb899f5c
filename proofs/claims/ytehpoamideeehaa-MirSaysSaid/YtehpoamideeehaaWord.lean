import Derived.Test.YtehpoamideeehaaBase
set_option linter.unusedVariables false
set_option linter.unusedSimpArgs false
namespace Go.Proofs.Ytehpoamideeehaa
open Go.RowKit
/-! secdata.Word, ravelinref02.Word: the word of the data at a place. -/
def dataAt (d : List Int) (i : Nat) : Int := d.getD i 0
theorem wraps_u64 (n : Int) (h₀ : 0 ≤ n) (h₁ : n < 2 ^ 64) : IntKind.u64.wrap n = n := by simp [IntKind.wrap, IntKind.bits, IntKind.signed]; omega
theorem bits_or_comm (k : IntKind) (x y : Int) : bits .or k x y = bits .or k y x := by simp only [bits, BitVec.or_comm]
theorem or_add (i : Nat) (x y : Int) (hx : 0 ≤ x) (hx' : x < 2 ^ i) (hx2 : x < 2 ^ 64) (hy : 0 ≤ y) (hy' : y % 2 ^ i = 0) (hy2 : y < 2 ^ 64) : bits .or .u64 x y = x + y := by
  rw [bits_or_comm, bits_join .u64 64 (by decide) wraps_u64 i y x hy hy' hy2 hx hx' hx2]; omega
theorem or4 {b0 b1 b2 b3 : Int} (p0 : 0 ≤ b0) (q0 : b0 < 256) (p1 : 0 ≤ b1) (q1 : b1 < 256) (p2 : 0 ≤ b2) (q2 : b2 < 256) (p3 : 0 ≤ b3) (q3 : b3 < 256) :
    bits .or .u64 (bits .or .u64 (bits .or .u64 (bits .or .u64 0 b0) (b1 * 256)) (b2 * 65536)) (b3 * 16777216) = b0 + b1 * 256 + b2 * 65536 + b3 * 16777216 := by
  rw [or_add 0 0 b0 (by omega) (by omega) (by omega) p0 (by omega) (by omega), or_add 8 (0 + b0) (b1 * 256) (by omega) (by omega) (by omega) (by omega) (by omega) (by omega),
    or_add 16 (0 + b0 + b1 * 256) (b2 * 65536) (by omega) (by omega) (by omega) (by omega) (by omega) (by omega), or_add 24 (0 + b0 + b1 * 256 + b2 * 65536) (b3 * 16777216) (by omega) (by omega) (by omega) (by omega) (by omega) (by omega)]
  omega
theorem ret2_u {a b c : Int} {k k' : IntKind} (h : a = b) : Ending.returned (.tuple #[.int k a, .int k' c]) = .returned (.tuple #[.int k b, .int k' c]) := by rw [h]
theorem there_c (A : Option Addr) (n cap : Nat) (at_ : Nat) (h : at_ + 4 ≤ n) (hn : n ≤ 9223372036854775807) (w : World) : Calls Try.prog 73 #[.slice A n cap, .int .i64 at_, .int .i64 4] w fun e w' => e = .returned (.bool true) ∧ w = w' := by
  have h1 : (at_ : Int) + 4 ≤ n := by omega
  go_enter Try.func73, Try.ntmps73
  go_wp2
  go_ret
  exact ⟨ret_b (by simp; omega), rfl⟩
set_option maxHeartbeats 800000 in
theorem Load4_w (b off cap at_ : Nat) (b0 b1 b2 b3 : Int) (n : Nat) (h : at_ + 4 ≤ n) (hn : n ≤ 9223372036854775807) (w : World)
    (c0 : w.cell? ⟨b, off + at_, none⟩ = some (.int .u8 b0)) (c1 : w.cell? ⟨b, off + (at_ + 1), none⟩ = some (.int .u8 b1)) (c2 : w.cell? ⟨b, off + (at_ + 2), none⟩ = some (.int .u8 b2)) (c3 : w.cell? ⟨b, off + (at_ + 3), none⟩ = some (.int .u8 b3))
    (h0 : 0 ≤ b0 ∧ b0 < 256) (h1 : 0 ≤ b1 ∧ b1 < 256) (h2 : 0 ≤ b2 ∧ b2 < 256) (h3 : 0 ≤ b3 ∧ b3 < 256) :
    Calls Try.prog 56 #[.slice (some ⟨b, off, none⟩) n cap, .int .i64 at_, .int .i64 4] w fun e w' => e = .returned (.tuple #[.int .u64 (b0 + b1 * 256 + b2 * 65536 + b3 * 16777216), .int .i64 0]) ∧ w = w' := by
  obtain ⟨p0, q0⟩ := h0
  obtain ⟨p1, q1⟩ := h1
  obtain ⟨p2, q2⟩ := h2
  obtain ⟨p3, q3⟩ := h3
  have hi : (at_ : Int) + 4 ≤ n := by omega
  go_enter Try.func56, Try.ntmps56
  go_wp2_with fail
  refine (there_c _ n cap at_ h hn w).mono ?_
  rintro e w' ⟨rfl, rfl⟩
  go_wp2_with fail
  refine wp_loop_rounds 5 ?_
  rw [rounds_succ]
  go_wp2_with fail
  rw [rounds_succ]
  go_wp2_with fail
  rw [rounds_succ]
  go_wp2_with fail
  rw [rounds_succ]
  go_wp2_with fail
  rw [rounds_succ]
  go_wp2_with fail
  go_ret2
  exact ⟨ret2_u (or4 p0 q0 p1 q1 p2 q2 p3 q3), rfl⟩
theorem or4r {b0 b1 b2 b3 : Int} (p0 : 0 ≤ b0) (q0 : b0 < 256) (p1 : 0 ≤ b1) (q1 : b1 < 256) (p2 : 0 ≤ b2) (q2 : b2 < 256) (p3 : 0 ≤ b3) (q3 : b3 < 256) : True := trivial
theorem orl {x b : Int} (hx : 0 ≤ x) (hx2 : x < 36028797018963968) (hb : 0 ≤ b) (hb2 : b < 256) : bits .or .u64 (x * 256) b = x * 256 + b := by
  rw [bits_join .u64 64 (by decide) wraps_u64 8 (x * 256) b (by omega) (by omega) (by omega) hb (by omega) (by omega)]
def wordP (d : List Int) (i : Nat) : Int := dataAt d i + dataAt d (i + 1) * 256 + dataAt d (i + 2) * 65536 + dataAt d (i + 3) * 16777216
theorem dataAt_ok {d : List Int} (h : ∀ x ∈ d, 0 ≤ x ∧ x < 256) (i : Nat) : 0 ≤ dataAt d i ∧ dataAt d i < 256 := by
  unfold dataAt
  rw [List.getD_eq_getElem?_getD]
  cases e : d[i]? with
  | none => simp
  | some x => exact h x (List.mem_of_getElem? e)
theorem wordP_ok {d : List Int} (h : ∀ x ∈ d, 0 ≤ x ∧ x < 256) (i : Nat) : 0 ≤ wordP d i ∧ wordP d i < 4294967296 := by
  have h0 := dataAt_ok h i; have h1 := dataAt_ok h (i + 1); have h2 := dataAt_ok h (i + 2); have h3 := dataAt_ok h (i + 3)
  unfold wordP; omega
theorem dataAt_get {d : List Int} {i : Nat} (h : i < d.length) : d[i]? = some (dataAt d i) := by
  unfold dataAt; rw [List.getD_eq_getElem?_getD, List.getElem?_eq_getElem h]; rfl
theorem Reads.data {w : World} {B n : Nat} {A : Option Addr} {d : List Int} (h : Reads w B 1 A n (numV .u8 d)) {i : Nat} (hi : i + 4 ≤ d.length) : ∃ b off, A = some ⟨b, off, none⟩ ∧ b < B ∧ w.cell? ⟨b, off + i, none⟩ = some (.int .u8 (dataAt d i)) ∧ w.cell? ⟨b, off + (i + 1), none⟩ = some (.int .u8 (dataAt d (i + 1))) ∧
    w.cell? ⟨b, off + (i + 2), none⟩ = some (.int .u8 (dataAt d (i + 2))) ∧ w.cell? ⟨b, off + (i + 3), none⟩ = some (.int .u8 (dataAt d (i + 3))) := by
  obtain ⟨b, off, e, hb, c0⟩ := h.num (dataAt_get (d := d) (i := i) (by omega))
  obtain ⟨b1, off1, e1, _, c1⟩ := h.num (dataAt_get (d := d) (i := i + 1) (by omega))
  obtain ⟨b2, off2, e2, _, c2⟩ := h.num (dataAt_get (d := d) (i := i + 2) (by omega))
  obtain ⟨b3, off3, e3, _, c3⟩ := h.num (dataAt_get (d := d) (i := i + 3) (by omega))
  subst e
  injection e1 with e1; injection e1 with e1 e1'
  injection e2 with e2; injection e2 with e2 e2'
  injection e3 with e3; injection e3 with e3 e3'
  subst e1 e1' e2 e2' e3 e3'
  exact ⟨b, off, rfl, hb, c0, c1, c2, c3⟩
set_option maxHeartbeats 400000 in
theorem Word_c (A : Option Addr) (cap : Nat) (d : List Int) (hd : d.length = 64) (hok : ∀ x ∈ d, 0 ≤ x ∧ x < 256) (i : Nat) (h4 : i % 4 = 0) (hi : i < 64) (w : World) (B : Nat) (hr : Reads w B 1 A 64 (numV .u8 d)) :
    Calls Try.prog 28 #[.slice A 64 cap, .int .i64 i] w fun e w' => e = .returned (.tuple #[.int .u32 (wordP d i), .int .i64 0]) ∧ w = w' := by
  obtain ⟨b, off, rfl, hb, c0, c1, c2, c3⟩ := hr.data (i := i) (by omega)
  have o0 := dataAt_ok hok i; have o1 := dataAt_ok hok (i + 1); have o2 := dataAt_ok hok (i + 2); have o3 := dataAt_ok hok (i + 3)
  have hw := wordP_ok hok i
  obtain ⟨hw1, hw2⟩ := hw
  have HC := Lib.hid (Load4_w b off cap i _ _ _ _ 64 (by omega) (by omega) w c0 c1 c2 c3 o0 o1 o2 o3)
  rw [show dataAt d i + dataAt d (i + 1) * 256 + dataAt d (i + 2) * 65536 + dataAt d (i + 3) * 16777216 = wordP d i from rfl] at HC
  have g1 : ((i : Int) % 4 != 0) = false := by simp; omega
  have g2 : (i : Int) < 64 := by omega
  clear c0 c1 c2 c3 o0 o1 o2 o3 hr hok hd
  go_enter Try.func28, Try.ntmps28
  go_wp2_with fail
  refine HC.out.mono ?_
  rintro e w' ⟨rfl, rfl⟩
  go_wp2
  go_ret2
  exact ⟨rfl, rfl⟩
set_option maxHeartbeats 800000 in
theorem rLoad4_w (b off cap at_ : Nat) (b0 b1 b2 b3 : Int) (n : Nat) (h : at_ + 4 ≤ n) (hn : n ≤ 9223372036854775807) (w : World)
    (c0 : w.cell? ⟨b, off + at_, none⟩ = some (.int .u8 b0)) (c1 : w.cell? ⟨b, off + (at_ + 1), none⟩ = some (.int .u8 b1)) (c2 : w.cell? ⟨b, off + (at_ + 2), none⟩ = some (.int .u8 b2)) (c3 : w.cell? ⟨b, off + (at_ + 3), none⟩ = some (.int .u8 b3))
    (h0 : 0 ≤ b0 ∧ b0 < 256) (h1 : 0 ≤ b1 ∧ b1 < 256) (h2 : 0 ≤ b2 ∧ b2 < 256) (h3 : 0 ≤ b3 ∧ b3 < 256) :
    Calls Try.prog 70 #[.slice (some ⟨b, off, none⟩) n cap, .int .i64 at_, .int .i64 4] w fun e w' => e = .returned (.tuple #[.int .u64 (b0 + b1 * 256 + b2 * 65536 + b3 * 16777216), .int .i64 0]) ∧ w = w' := by
  obtain ⟨p0, q0⟩ := h0
  obtain ⟨p1, q1⟩ := h1
  obtain ⟨p2, q2⟩ := h2
  obtain ⟨p3, q3⟩ := h3
  have hi : (at_ : Int) + 4 ≤ n := by omega
  go_enter Try.func70, Try.ntmps70
  go_wp2_with fail
  refine wp_loop_rounds 5 ?_
  rw [rounds_succ]
  go_wp2_with fail
  rw [show bits .or .u64 0 b3 = b3 by rw [or_add 0 0 b3 (by omega) (by omega) (by omega) p3 (by omega) (by omega)]; omega]
  rw [rounds_succ]
  go_wp2_with fail
  rw [orl p3 (by omega) p2 q2]
  rw [rounds_succ]
  go_wp2_with fail
  rw [orl (show 0 ≤ b3 * 256 + b2 by omega) (by omega) p1 q1]
  rw [rounds_succ]
  go_wp2_with fail
  rw [orl (show 0 ≤ (b3 * 256 + b2) * 256 + b1 by omega) (by omega) p0 q0]
  rw [rounds_succ]
  go_wp2_with fail
  go_ret2
  exact ⟨ret2_u (by omega), rfl⟩
set_option maxHeartbeats 400000 in
theorem rWord_c (A : Option Addr) (cap : Nat) (d : List Int) (hd : d.length = 64) (hok : ∀ x ∈ d, 0 ≤ x ∧ x < 256) (i : Nat) (h4 : i % 4 = 0) (hi : i < 64) (w : World) (B : Nat) (hr : Reads w B 1 A 64 (numV .u8 d)) :
    Calls Try.prog 52 #[.slice A 64 cap, .int .i64 i] w fun e w' => e = .returned (.tuple #[.int .u32 (wordP d i), .int .i64 0]) ∧ w = w' := by
  obtain ⟨b, off, rfl, hb, c0, c1, c2, c3⟩ := hr.data (i := i) (by omega)
  have o0 := dataAt_ok hok i; have o1 := dataAt_ok hok (i + 1); have o2 := dataAt_ok hok (i + 2); have o3 := dataAt_ok hok (i + 3)
  have hw := wordP_ok hok i
  obtain ⟨hw1, hw2⟩ := hw
  have HC := Lib.hid (rLoad4_w b off cap i _ _ _ _ 64 (by omega) (by omega) w c0 c1 c2 c3 o0 o1 o2 o3)
  rw [show dataAt d i + dataAt d (i + 1) * 256 + dataAt d (i + 2) * 65536 + dataAt d (i + 3) * 16777216 = wordP d i from rfl] at HC
  have g1 : ((i : Int) % 4 != 0) = false := by simp; omega
  have g2 : (i : Int) ≤ 60 := by omega
  clear c0 c1 c2 c3 o0 o1 o2 o3 hr hok hd
  go_enter Try.func52, Try.ntmps52
  go_wp2_with fail
  refine HC.out.mono ?_
  rintro e w' ⟨rfl, rfl⟩
  go_wp2
  go_ret2
  exact ⟨rfl, rfl⟩
end Go.Proofs.Ytehpoamideeehaa
