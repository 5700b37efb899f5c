import Derived.Test.YtehpoamideeehaaRefM1
set_option linter.unusedVariables false
set_option linter.unusedSimpArgs false
namespace Go.Proofs.Ytehpoamideeehaa
open Go.RowKit
/-! ravelinref03: wrong, moves. -/
set_option maxHeartbeats 1000000 in
theorem rwrong_c (i : I4) (hi : i.ok) (w : World) : Calls Try.prog 44 #[.agg #[.int .u16 i.c, .int .u8 i.j, .int .u8 i.f, .int .u32 i.k]] w fun e w' => e = .returned (.int .i64 (cwrong i)) ∧ Below w.heap.size w w' := by
  obtain ⟨k0, k1⟩ : 0 ≤ i.k ∧ i.k < 4294967296 := ⟨hi.2.2.2.2.2.2.1, hi.2.2.2.2.2.2.2⟩
  obtain ⟨c, j, f, k⟩ := i
  dsimp only at *
  clear hi
  have HX := Lib.hid (show cwrong ⟨c, j, f, k⟩ = if sealsL c = false then 32 else if c = 32 ∧ (60 < k ∨ k % 4 ≠ 0) then 34 else if (c = 96 ∨ c = 97 ∨ c = 2 ∨ c = 3) ∧ 15 < k then 35 else if c = 52 ∧ k = 0 then 36 else 0 from rfl)
  cases hs : sealsL c with
  | false =>
    have HV := Lib.hid (HX.out.trans (if_pos hs))
    have HS := Lib.hid hs
    clear hs HX
    go_enter Try.func44, Try.ntmps44
    go_wp2_with fail
    refine (rSeals_c c _).mono ?_
    rintro e w' ⟨rfl, rfl⟩
    rw [HS.out]
    go_wp2
    go_ret
    exact ⟨ret_i HV.out.symm, below1 _ _⟩
  | true =>
    have HS := Lib.hid hs
    clear hs
    go_enter Try.func44, Try.ntmps44
    go_wp2_with fail
    refine (rSeals_c c _).mono ?_
    rintro e w' ⟨rfl, rfl⟩
    rw [HS.out]
    go_wp2
    all_goals go_ret
    all_goals (refine ⟨ret_i ?_, below1 _ _⟩; clear HX; (try subst_vars); have hs := HS.out; unfold cwrong; simp only [hs, Bool.true_eq_false, if_false]; grind)
set_option maxRecDepth 100000 in
set_option maxHeartbeats 800000 in
theorem rmoves_128 (i : I4) (hi : i.ok) (hc : i.c = 128) (B : Nat) (K : RK) (z : MV) (w : World) (hm : RMAt w B K z) :
    Calls Try.prog 50 #[.pointer (some ⟨B, 0, none⟩), .agg #[.int .u16 i.c, .int .u8 i.j, .int .u8 i.f, .int .u32 i.k]] w fun e w' => e = .returned (.tuple #[]) ∧ RMAt w' B K { z with a := 64 } ∧ w.grownBy w' (some B) := by
  obtain ⟨k0, k1⟩ : 0 ≤ i.k ∧ i.k < 4294967296 := ⟨hi.2.2.2.2.2.2.1, hi.2.2.2.2.2.2.2⟩
  have hl := hm.lt
  have HM := Lib.hid hm
  have c2 := hm.c2
  have f2 := hm.free 2
  have c3 := hm.c3
  have f3 := hm.free 3
  obtain ⟨c, jt, jf, k⟩ := i
  dsimp only at *
  subst hc
  clear hi hm
  go_enter Try.func50, Try.ntmps50
  go_wp2
  go_end0
  exact ⟨rfl, (HM.out.setA _).alloc _, (by repeat (first | exact World.grownBy.refl _ _ | apply grow_drew | apply grow_al | apply grow_set))⟩
set_option maxRecDepth 100000 in
set_option maxHeartbeats 800000 in
theorem rmoves_129 (i : I4) (hi : i.ok) (hc : i.c = 129) (B : Nat) (K : RK) (z : MV) (w : World) (hm : RMAt w B K z) :
    Calls Try.prog 50 #[.pointer (some ⟨B, 0, none⟩), .agg #[.int .u16 i.c, .int .u8 i.j, .int .u8 i.f, .int .u32 i.k]] w fun e w' => e = .returned (.tuple #[]) ∧ RMAt w' B K { z with x := 64 } ∧ w.grownBy w' (some B) := by
  obtain ⟨k0, k1⟩ : 0 ≤ i.k ∧ i.k < 4294967296 := ⟨hi.2.2.2.2.2.2.1, hi.2.2.2.2.2.2.2⟩
  have hl := hm.lt
  have HM := Lib.hid hm
  have c2 := hm.c2
  have f2 := hm.free 2
  have c3 := hm.c3
  have f3 := hm.free 3
  obtain ⟨c, jt, jf, k⟩ := i
  dsimp only at *
  subst hc
  clear hi hm
  go_enter Try.func50, Try.ntmps50
  go_wp2
  go_end0
  exact ⟨rfl, (HM.out.setX _).alloc _, (by repeat (first | exact World.grownBy.refl _ _ | apply grow_drew | apply grow_al | apply grow_set))⟩
set_option maxRecDepth 100000 in
set_option maxHeartbeats 800000 in
theorem rmoves_0 (i : I4) (hi : i.ok) (hc : i.c = 0) (B : Nat) (K : RK) (z : MV) (w : World) (hm : RMAt w B K z) :
    Calls Try.prog 50 #[.pointer (some ⟨B, 0, none⟩), .agg #[.int .u16 i.c, .int .u8 i.j, .int .u8 i.f, .int .u32 i.k]] w fun e w' => e = .returned (.tuple #[]) ∧ RMAt w' B K { z with a := i.k } ∧ w.grownBy w' (some B) := by
  obtain ⟨k0, k1⟩ : 0 ≤ i.k ∧ i.k < 4294967296 := ⟨hi.2.2.2.2.2.2.1, hi.2.2.2.2.2.2.2⟩
  have hl := hm.lt
  have HM := Lib.hid hm
  have c2 := hm.c2
  have f2 := hm.free 2
  have c3 := hm.c3
  have f3 := hm.free 3
  obtain ⟨c, jt, jf, k⟩ := i
  dsimp only at *
  subst hc
  clear hi hm
  go_enter Try.func50, Try.ntmps50
  go_wp2
  go_end0
  exact ⟨rfl, (HM.out.setA _).alloc _, (by repeat (first | exact World.grownBy.refl _ _ | apply grow_drew | apply grow_al | apply grow_set))⟩
set_option maxRecDepth 100000 in
set_option maxHeartbeats 800000 in
theorem rmoves_1 (i : I4) (hi : i.ok) (hc : i.c = 1) (B : Nat) (K : RK) (z : MV) (w : World) (hm : RMAt w B K z) :
    Calls Try.prog 50 #[.pointer (some ⟨B, 0, none⟩), .agg #[.int .u16 i.c, .int .u8 i.j, .int .u8 i.f, .int .u32 i.k]] w fun e w' => e = .returned (.tuple #[]) ∧ RMAt w' B K { z with x := i.k } ∧ w.grownBy w' (some B) := by
  obtain ⟨k0, k1⟩ : 0 ≤ i.k ∧ i.k < 4294967296 := ⟨hi.2.2.2.2.2.2.1, hi.2.2.2.2.2.2.2⟩
  have hl := hm.lt
  have HM := Lib.hid hm
  have c2 := hm.c2
  have f2 := hm.free 2
  have c3 := hm.c3
  have f3 := hm.free 3
  obtain ⟨c, jt, jf, k⟩ := i
  dsimp only at *
  subst hc
  clear hi hm
  go_enter Try.func50, Try.ntmps50
  go_wp2
  go_end0
  exact ⟨rfl, (HM.out.setX _).alloc _, (by repeat (first | exact World.grownBy.refl _ _ | apply grow_drew | apply grow_al | apply grow_set))⟩
set_option maxRecDepth 100000 in
set_option maxHeartbeats 800000 in
theorem rmoves_132 (i : I4) (hi : i.ok) (hc : i.c = 132) (B : Nat) (K : RK) (z : MV) (w : World) (hm : RMAt w B K z) :
    Calls Try.prog 50 #[.pointer (some ⟨B, 0, none⟩), .agg #[.int .u16 i.c, .int .u8 i.j, .int .u8 i.f, .int .u32 i.k]] w fun e w' => e = .returned (.tuple #[]) ∧ RMAt w' B K { z with a := (0 - z.a) % 4294967296 } ∧ w.grownBy w' (some B) := by
  obtain ⟨k0, k1⟩ : 0 ≤ i.k ∧ i.k < 4294967296 := ⟨hi.2.2.2.2.2.2.1, hi.2.2.2.2.2.2.2⟩
  have hl := hm.lt
  have HM := Lib.hid hm
  have c2 := hm.c2
  have f2 := hm.free 2
  have c3 := hm.c3
  have f3 := hm.free 3
  obtain ⟨c, jt, jf, k⟩ := i
  dsimp only at *
  subst hc
  clear hi hm
  go_enter Try.func50, Try.ntmps50
  go_wp2
  go_end0
  exact ⟨rfl, ((HM.out.setA _).alloc _).cast (by first | rfl | (congr 1; omega)), (by repeat (first | exact World.grownBy.refl _ _ | apply grow_drew | apply grow_al | apply grow_set))⟩
set_option maxRecDepth 100000 in
set_option maxHeartbeats 800000 in
theorem rmoves_7 (i : I4) (hi : i.ok) (hc : i.c = 7) (B : Nat) (K : RK) (z : MV) (w : World) (hm : RMAt w B K z) :
    Calls Try.prog 50 #[.pointer (some ⟨B, 0, none⟩), .agg #[.int .u16 i.c, .int .u8 i.j, .int .u8 i.f, .int .u32 i.k]] w fun e w' => e = .returned (.tuple #[]) ∧ RMAt w' B K { z with x := z.a } ∧ w.grownBy w' (some B) := by
  obtain ⟨k0, k1⟩ : 0 ≤ i.k ∧ i.k < 4294967296 := ⟨hi.2.2.2.2.2.2.1, hi.2.2.2.2.2.2.2⟩
  have hl := hm.lt
  have HM := Lib.hid hm
  have c2 := hm.c2
  have f2 := hm.free 2
  have c3 := hm.c3
  have f3 := hm.free 3
  obtain ⟨c, jt, jf, k⟩ := i
  dsimp only at *
  subst hc
  clear hi hm
  go_enter Try.func50, Try.ntmps50
  go_wp2
  go_end0
  exact ⟨rfl, (HM.out.setX _).alloc _, (by repeat (first | exact World.grownBy.refl _ _ | apply grow_drew | apply grow_al | apply grow_set))⟩
set_option maxRecDepth 100000 in
set_option maxHeartbeats 800000 in
theorem rmoves_135 (i : I4) (hi : i.ok) (hc : i.c = 135) (B : Nat) (K : RK) (z : MV) (w : World) (hm : RMAt w B K z) :
    Calls Try.prog 50 #[.pointer (some ⟨B, 0, none⟩), .agg #[.int .u16 i.c, .int .u8 i.j, .int .u8 i.f, .int .u32 i.k]] w fun e w' => e = .returned (.tuple #[]) ∧ RMAt w' B K { z with a := z.x } ∧ w.grownBy w' (some B) := by
  obtain ⟨k0, k1⟩ : 0 ≤ i.k ∧ i.k < 4294967296 := ⟨hi.2.2.2.2.2.2.1, hi.2.2.2.2.2.2.2⟩
  have hl := hm.lt
  have HM := Lib.hid hm
  have c2 := hm.c2
  have f2 := hm.free 2
  have c3 := hm.c3
  have f3 := hm.free 3
  obtain ⟨c, jt, jf, k⟩ := i
  dsimp only at *
  subst hc
  clear hi hm
  go_enter Try.func50, Try.ntmps50
  go_wp2
  go_end0
  exact ⟨rfl, (HM.out.setA _).alloc _, (by repeat (first | exact World.grownBy.refl _ _ | apply grow_drew | apply grow_al | apply grow_set))⟩
set_option maxRecDepth 100000 in
set_option maxHeartbeats 800000 in
theorem rmoves_96 (i : I4) (hi : i.ok) (hc : i.c = 96) (B : Nat) (K : RK) (z : MV) (hk : i.k < 16) (w : World) (hm : RMAt w B K z) :
    Calls Try.prog 50 #[.pointer (some ⟨B, 0, none⟩), .agg #[.int .u16 i.c, .int .u8 i.j, .int .u8 i.f, .int .u32 i.k]] w fun e w' => e = .returned (.tuple #[]) ∧ RMAt w' B K { z with a := getN z.m i.k.toNat } ∧ w.grownBy w' (some B) := by
  obtain ⟨k0, k1⟩ : 0 ≤ i.k ∧ i.k < 4294967296 := ⟨hi.2.2.2.2.2.2.1, hi.2.2.2.2.2.2.2⟩
  have hl := hm.lt
  have HM := Lib.hid hm
  have c2 := hm.c2
  have f2 := hm.free 2
  have c3 := hm.c3
  have f3 := hm.free 3
  obtain ⟨c, jt, jf, k⟩ := i
  dsimp only at *
  subst hc
  obtain ⟨n, hn⟩ := nat_of k0
  have cm := hm.cm (j := n) (by omega)
  have fm := hm.free (4 + n)
  rw [hn]
  simp only [Int.toNat_natCast]
  rw [hn] at hk
  have hn16 : n < 16 := by omega
  subst hn
  have CM := Lib.hid cm
  clear cm k1
  clear hi hm
  go_enter Try.func50, Try.ntmps50
  go_wp2_with fail
  refine wp_tail 10 (by kernel_rfl) (by kernel_rfl) ?_
  simp only [List.take_succ_cons, List.take_zero, List.drop_succ_cons, List.drop_zero]
  have cm := CM.out
  repeat still_step
  refine wpStill_nil ?_
  go_wp2
  go_end0
  exact ⟨rfl, ((HM.out.setA _).alloc _).drew, (by repeat (first | exact World.grownBy.refl _ _ | apply grow_drew | apply grow_al | apply grow_set))⟩
set_option maxRecDepth 100000 in
set_option maxHeartbeats 800000 in
theorem rmoves_97 (i : I4) (hi : i.ok) (hc : i.c = 97) (B : Nat) (K : RK) (z : MV) (hk : i.k < 16) (w : World) (hm : RMAt w B K z) :
    Calls Try.prog 50 #[.pointer (some ⟨B, 0, none⟩), .agg #[.int .u16 i.c, .int .u8 i.j, .int .u8 i.f, .int .u32 i.k]] w fun e w' => e = .returned (.tuple #[]) ∧ RMAt w' B K { z with x := getN z.m i.k.toNat } ∧ w.grownBy w' (some B) := by
  obtain ⟨k0, k1⟩ : 0 ≤ i.k ∧ i.k < 4294967296 := ⟨hi.2.2.2.2.2.2.1, hi.2.2.2.2.2.2.2⟩
  have hl := hm.lt
  have HM := Lib.hid hm
  have c2 := hm.c2
  have f2 := hm.free 2
  have c3 := hm.c3
  have f3 := hm.free 3
  obtain ⟨c, jt, jf, k⟩ := i
  dsimp only at *
  subst hc
  obtain ⟨n, hn⟩ := nat_of k0
  have cm := hm.cm (j := n) (by omega)
  have fm := hm.free (4 + n)
  rw [hn]
  simp only [Int.toNat_natCast]
  rw [hn] at hk
  have hn16 : n < 16 := by omega
  subst hn
  have CM := Lib.hid cm
  clear cm k1
  clear hi hm
  go_enter Try.func50, Try.ntmps50
  go_wp2_with fail
  refine wp_tail 10 (by kernel_rfl) (by kernel_rfl) ?_
  simp only [List.take_succ_cons, List.take_zero, List.drop_succ_cons, List.drop_zero]
  have cm := CM.out
  repeat still_step
  refine wpStill_nil ?_
  go_wp2
  go_end0
  exact ⟨rfl, ((HM.out.setX _).alloc _).drew, (by repeat (first | exact World.grownBy.refl _ _ | apply grow_drew | apply grow_al | apply grow_set))⟩
set_option maxRecDepth 100000 in
set_option maxHeartbeats 800000 in
theorem rmoves_2 (i : I4) (hi : i.ok) (hc : i.c = 2) (B : Nat) (K : RK) (z : MV) (hk : i.k < 16) (w : World) (hm : RMAt w B K z) :
    Calls Try.prog 50 #[.pointer (some ⟨B, 0, none⟩), .agg #[.int .u16 i.c, .int .u8 i.j, .int .u8 i.f, .int .u32 i.k]] w fun e w' => e = .returned (.tuple #[]) ∧ RMAt w' B K { z with m := z.m.set i.k.toNat z.a } ∧ w.grownBy w' (some B) := by
  obtain ⟨k0, k1⟩ : 0 ≤ i.k ∧ i.k < 4294967296 := ⟨hi.2.2.2.2.2.2.1, hi.2.2.2.2.2.2.2⟩
  have hl := hm.lt
  have HM := Lib.hid hm
  have c2 := hm.c2
  have f2 := hm.free 2
  have c3 := hm.c3
  have f3 := hm.free 3
  obtain ⟨c, jt, jf, k⟩ := i
  dsimp only at *
  subst hc
  obtain ⟨n, hn⟩ := nat_of k0
  have cm := hm.cm (j := n) (by omega)
  have fm := hm.free (4 + n)
  rw [hn]
  simp only [Int.toNat_natCast]
  rw [hn] at hk
  have hn16 : n < 16 := by omega
  subst hn
  have CM := Lib.hid cm
  clear cm k1
  clear hi hm
  go_enter Try.func50, Try.ntmps50
  go_wp2_with fail
  refine wp_tail 10 (by kernel_rfl) (by kernel_rfl) ?_
  simp only [List.take_succ_cons, List.take_zero, List.drop_succ_cons, List.drop_zero]
  have cm := CM.out
  repeat still_step
  refine wpStill_nil ?_
  go_wp2
  go_end0
  exact ⟨rfl, ((HM.out.setM hn16 _).alloc _).drew, (by repeat (first | exact World.grownBy.refl _ _ | apply grow_drew | apply grow_al | apply grow_set))⟩
set_option maxRecDepth 100000 in
set_option maxHeartbeats 800000 in
theorem rmoves_3 (i : I4) (hi : i.ok) (hc : i.c = 3) (B : Nat) (K : RK) (z : MV) (hk : i.k < 16) (w : World) (hm : RMAt w B K z) :
    Calls Try.prog 50 #[.pointer (some ⟨B, 0, none⟩), .agg #[.int .u16 i.c, .int .u8 i.j, .int .u8 i.f, .int .u32 i.k]] w fun e w' => e = .returned (.tuple #[]) ∧ RMAt w' B K { z with m := z.m.set i.k.toNat z.x } ∧ w.grownBy w' (some B) := by
  obtain ⟨k0, k1⟩ : 0 ≤ i.k ∧ i.k < 4294967296 := ⟨hi.2.2.2.2.2.2.1, hi.2.2.2.2.2.2.2⟩
  have hl := hm.lt
  have HM := Lib.hid hm
  have c2 := hm.c2
  have f2 := hm.free 2
  have c3 := hm.c3
  have f3 := hm.free 3
  obtain ⟨c, jt, jf, k⟩ := i
  dsimp only at *
  subst hc
  obtain ⟨n, hn⟩ := nat_of k0
  have cm := hm.cm (j := n) (by omega)
  have fm := hm.free (4 + n)
  rw [hn]
  simp only [Int.toNat_natCast]
  rw [hn] at hk
  have hn16 : n < 16 := by omega
  subst hn
  have CM := Lib.hid cm
  clear cm k1
  clear hi hm
  go_enter Try.func50, Try.ntmps50
  go_wp2_with fail
  refine wp_tail 10 (by kernel_rfl) (by kernel_rfl) ?_
  simp only [List.take_succ_cons, List.take_zero, List.drop_succ_cons, List.drop_zero]
  have cm := CM.out
  repeat still_step
  refine wpStill_nil ?_
  go_wp2
  go_end0
  exact ⟨rfl, ((HM.out.setM hn16 _).alloc _).drew, (by repeat (first | exact World.grownBy.refl _ _ | apply grow_drew | apply grow_al | apply grow_set))⟩
set_option maxRecDepth 100000 in
set_option maxHeartbeats 800000 in
theorem rmoves_32 (i : I4) (hi : i.ok) (hc : i.c = 32) (B : Nat) (K : RK) (z : MV) (hK : K.nd = 64) (hk : i.k < 64) (h4 : i.k % 4 = 0) (dat : List Int) (hd : dat.length = 64) (hok : ∀ x ∈ dat, 0 ≤ x ∧ x < 256) (w : World) (hm : RMAt w B K z) (hrd : Reads w w.heap.size 1 K.Ad 64 (numV .u8 dat)) :
    Calls Try.prog 50 #[.pointer (some ⟨B, 0, none⟩), .agg #[.int .u16 i.c, .int .u8 i.j, .int .u8 i.f, .int .u32 i.k]] w fun e w' => e = .returned (.tuple #[]) ∧ RMAt w' B K { z with a := wordP dat i.k.toNat } ∧ w.grownBy w' (some B) := by
  obtain ⟨k0, k1⟩ : 0 ≤ i.k ∧ i.k < 4294967296 := ⟨hi.2.2.2.2.2.2.1, hi.2.2.2.2.2.2.2⟩
  have hl := hm.lt
  have HM := Lib.hid hm
  have c2 := hm.c2
  have f2 := hm.free 2
  have c3 := hm.c3
  have f3 := hm.free 3
  obtain ⟨c, jt, jf, k⟩ := i
  dsimp only at *
  subst hc
  obtain ⟨n, hn⟩ := nat_of k0
  rw [hn] at hk h4 ⊢
  have hn64 : n < 64 := by omega
  subst hn
  simp only [Int.toNat_natCast]
  have HWR := Lib.hid (show IntKind.i64.wrap (n : Int) = n by simp [IntKind.wrap, IntKind.bits, IntKind.signed]; omega)
  have c1 := hm.c1
  rw [hK] at c1
  have HC := Lib.hid (fun (W : World) (hW : Below w.heap.size w W) => (rWord_c K.Ad K.cd dat hd hok n (by omega) hn64 W w.heap.size (hrd.below hW)).mono fun e w' ⟨h1, h2⟩ => (⟨h1, h2.symm⟩ : e = _ ∧ w' = W))
  have c1' : (w.alloc (insnO ⟨32, jt, jf, n⟩)).drew.cell? ⟨B, 1, none⟩ = some (.slice K.Ad 64 K.cd) := keepC (below1 w _) c1
  have c1h := Lib.hid c1'
  have c2h := Lib.hid (show (w.alloc (insnO ⟨32, jt, jf, n⟩)).drew.cell? ⟨w.heap.size, 3, none⟩ = some (.int .u32 n) by simp [go_sem, insnO])
  clear k1 h4 hK c1' hd hok hrd
  clear hi hm
  go_enter Try.func50, Try.ntmps50
  go_wp2_with fail
  go_region_held3 (fun W => W.cell? ⟨w.heap.size, 3, none⟩ = some (.int .u32 n) ∧ W.cell? ⟨B, 1, none⟩ = some (.slice K.Ad 64 K.cd) ∧ Below w.heap.size w W) (first | exact ⟨c2h.out, c1h.out, below_dr (below1 w _)⟩ | assumption)
    (first | (go_at_call 52; go_must ((first | rw [HWR.out] | skip); refine (HC.out _ (below_dr (below1 w _))).mono ?_; rintro e w' ⟨rfl, rfl⟩)))
  go_wp2
  go_end0
  exact ⟨rfl, ((HM.out.setA _).alloc _).drew, (by repeat (first | exact World.grownBy.refl _ _ | apply grow_drew | apply grow_al | apply grow_set))⟩
end Go.Proofs.Ytehpoamideeehaa
