import Derived.Test.YtebkbcpnjknkjaaSemWF
set_option linter.unusedVariables false
set_option linter.unusedSimpArgs false
set_option maxRecDepth 100000
namespace Go.Proofs.Ytebkbcpnjknkjaa
open Go.RowKit
/-! sem's asker.holds: the walk. -/
theorem holds1_c (d : D9) (mb : Nat) (x : ExA) (g : Nat) (q : Bool) (W : World) (hbx : W.heap[g]? = some (.cells (aCells d mb) 73 (0, 0))) (hcal : ∀ W', Below W.heap.size W W' → Calls Try.prog 34 #[aVal d mb, x.val] W' (BoolPost q W')) : Calls Try.prog 63 #[x.val, .pointer (some ⟨g, 0, none⟩)] W (BoolPost (!q) W) := by
  have hg := (Array.getElem?_eq_some_iff.1 hbx).1
  have HC := Lib.hid (hcal (W.alloc (.cells x.cells.toArray 48)) (below1 W _))
  obtain ⟨k0, k1, k2, k3, k4, k5, k6, k7, k8, k9⟩ : W.cell? ⟨g, 0, none⟩ = some (.int .u32 d.nr) ∧ W.cell? ⟨g, 1, none⟩ = some (.int .u32 d.arch) ∧ W.cell? ⟨g, 2, none⟩ = some (.int .u64 d.ip) ∧ W.cell? ⟨g, 3, none⟩ = some (.int .u64 d.a0) ∧ W.cell? ⟨g, 4, none⟩ = some (.int .u64 d.a1) ∧ W.cell? ⟨g, 5, none⟩ = some (.int .u64 d.a2) ∧ W.cell? ⟨g, 6, none⟩ = some (.int .u64 d.a3) ∧ W.cell? ⟨g, 7, none⟩ = some (.int .u64 d.a4) ∧ W.cell? ⟨g, 8, none⟩ = some (.int .u64 d.a5) ∧ W.cell? ⟨g, 9, none⟩ = some (.map (some mb)) := by
    simp [World.cell?, hbx, aCells]
  obtain ⟨op, A, c, l, f, m, r, v⟩ := x
  unfold ExA.cells ExA.val aVal aCells BoolPost at HC
  unfold ExA.val
  dsimp only at HC ⊢
  clear hbx hcal
  go_enter Try.func63, Try.ntmps63
  go_wp2_with fail
  refine HC.out.mono ?_
  rintro e w1 ⟨rfl, hb⟩
  have HB := Lib.hid (below_t (below1 W _) hb)
  clear hb
  go_wp2
  go_ret
  exact ⟨rfl, HB.out⟩
set_option maxHeartbeats 3200000 in
theorem holds_c (d : D9) (mb : Nat) (M : Int) (N : Nat → Prop) : ∀ (k : Nat) (x : ExA) (deep : Nat) (w : World), 201 ≤ k + deep → withinP M deep x = 0 → x.In w N → x.fits → RelsAt w mb → Calls Try.prog 34 #[aVal d mb, x.val] w (BoolPost (holdsP d x) w) := by
  intro k
  induction k with
  | zero =>
    intro x deep w hk hv hin hfit hm
    obtain ⟨op, A, c, l, f, m, r, v⟩ := x
    have := (within_parts hv).1
    omega
  | succ k ih =>
    intro x deep w hk hv hin hfit hm
    obtain ⟨op, A, c, l, f, m, r, v⟩ := x
    obtain ⟨hd, hone, hwl⟩ := within_parts hv
    obtain ⟨hrow, hinl⟩ := hin
    obtain ⟨hlen, hfl⟩ := hfit
    have HS := Lib.hid (HoldS.start (d := d) hm #[.int .i64 op, .slice A l.length c, .int .i64 f, .int .u64 m, .int .i64 r, .int .u64 v] 48)
    have IH := Lib.hid (show ∀ (i : Nat) (y : ExA) (W : World), l[i]? = some y → Below w.heap.size w W → Calls Try.prog 34 #[aVal d mb, y.val] W (BoolPost (holdsP d y) W) from fun i y W hy hb =>
      ih y (deep + 1) W (by omega) (withinL_get hwl hy) ((ExA.InL_get hinl hy).keep (fun b hb' hl => ⟨hb', hb.block b hl⟩)) (ExA.fitsL_get hfl hy) (hm.below hb))
    have HROW := Lib.hid hrow
    clear ih hv hinl hfl hwl hrow
    rcases oneP_good hone with ⟨rfl, hn⟩ | ⟨rfl, hn⟩ | ⟨rfl, hn⟩ | ⟨rfl, hn⟩ | ⟨rfl, hn⟩ | ⟨rfl, hn, h1, h2, h3, h4, h5, h6⟩
    · have HF : Hid (holdsP d (.mk 1 A c l f m r v) = true) := Lib.hid (by simp [holdsP])
      unfold aVal ExA.val
      unfold aCells at HS ⊢
      dsimp only
      clear hone hn IH hm
      go_enter Try.func34, Try.ntmps34
      go_wp2
      go_ret
      exact ⟨ret_b HF.out.symm, below_al (below1 w _) _⟩
    · have HF : Hid (holdsP d (.mk 2 A c l f m r v) = false) := Lib.hid (by simp [holdsP])
      unfold aVal ExA.val
      unfold aCells at HS ⊢
      dsimp only
      clear hone hn IH hm
      go_enter Try.func34, Try.ntmps34
      go_wp2
      go_ret
      exact ⟨ret_b HF.out.symm, below_al (below1 w _) _⟩
    · obtain ⟨y, rfl⟩ := List.length_eq_one_iff.1 hn
      have HF : Hid (holdsP d (.mk 3 A c [y] f m r v) = !(holdsP d y)) := Lib.hid (by simp [holdsP, anyP])
      obtain ⟨q, hq⟩ : ∃ q, q = holdsP d y := ⟨_, rfl⟩
      rw [← hq] at HF
      have HC := Lib.hid (fun W hb => IH.out 0 y W rfl hb)
      rw [← hq] at HC
      obtain ⟨yo, yA, yc, yl, yf, ym, yr, yv⟩ := y
      obtain ⟨wr, hwr⟩ : ∃ wr, wr = (w.alloc (.cells (aCells d mb) 73)).alloc (.cells #[.int .i64 3, .slice A [ExA.mk yo yA yc yl yf ym yr yv].length c, .int .i64 f, .int .u64 m, .int .i64 r, .int .u64 v] 48) := ⟨_, rfl⟩
      have HW := Lib.hid hwr
      rw [← hwr] at HS
      obtain ⟨bb, off, rfl, hbb, i0, i1, i2, i3, i4, i5⟩ := (HROW.out.keep (N' := N) (W' := wr) (fun b hb hl => ⟨hb, HS.out.below.block b hl⟩) (by decide)).ex (i := 0) rfl
      unfold aVal ExA.val BoolPost at HC
      unfold aVal ExA.val
      unfold aCells at HC HW ⊢
      dsimp only at HC ⊢
      simp only [List.length_cons, List.length_nil, Nat.zero_add] at HS HW ⊢
      simp only [Nat.zero_mul, Nat.add_zero] at i0 i1 i2 i3 i4 i5
      clear hone hn IH hm hq hwr
      go_enter Try.func34, Try.ntmps34
      go_upto_region 3 with (fail)
      rw [← HW.out]
      obtain ⟨k0, k1, k2, k3, k4, k5, k6, k7, k8, k9⟩ := HS.out.cl
      obtain ⟨b0, b1, b2, b3, b4, b5⟩ := (box6 HS.out.ebox).1
      clear HW
      refine wp_tail 5 (by kernel_rfl) (by kernel_rfl) ?_
      simp only [List.take_succ_cons, List.take_zero, List.drop_succ_cons, List.drop_zero]
      repeat still_step
      refine wpStill_nil ?_
      go_wp2_with fail
      refine (HC.out _ (HS.out.drewN 1).below).mono ?_
      rintro e w1 ⟨rfl, hb⟩
      have HB := Lib.hid (below_t (HS.out.drewN 1).below hb)
      clear hb
      go_wp2
      go_ret
      exact ⟨ret_b HF.out.symm, HB.out⟩
    · have HF : Hid (holdsP d (.mk 4 A c l f m r v) = !(l.any fun x => !(holdsP d x))) := Lib.hid (by simp [holdsP, allP_any])
      obtain ⟨wr, hwr⟩ : ∃ wr, wr = (w.alloc (.cells (aCells d mb) 73)).alloc (.cells #[.int .i64 4, .slice A l.length c, .int .i64 f, .int .u64 m, .int .i64 r, .int .u64 v] 48) := ⟨_, rfl⟩
      have HW := Lib.hid hwr
      rw [← hwr] at HS
      have hmf : ∀ (fn : Fn) (first cap : Array Value) (w : World), (Instr.makeFunc fn first cap).run Try.prog w = .ok (.func fn first cap) w := fun _ _ _ _ => rfl
      have HC := Lib.hid (ContainsC_c w.heap.size (fun x => !(holdsP d x)) N A c l hlen wr (HROW.out.keep (N' := N) (W' := wr) (fun b hb hl => ⟨hb, HS.out.below.block b hl⟩) (by decide)) (fun i y W hy hb =>
        holds1_c d mb y w.heap.size (holdsP d y) W (keepH hb HS.out.abox) (fun W' hb' => IH.out i y W' hy (below_t (below_t HS.out.below hb) hb'))))
      unfold aVal ExA.val
      unfold BoolPost at HC
      unfold aCells at HW ⊢
      dsimp only
      clear hone hn IH hm hwr
      go_enter Try.func34, Try.ntmps34
      go_upto_region 5 with (fail)
      rw [← HW.out]
      obtain ⟨b0, b1, b2, b3, b4, b5⟩ := (box6 HS.out.ebox).1
      clear HW
      go_wp2_with fail
      refine HC.out.mono ?_
      rintro e w1 ⟨rfl, hb⟩
      have HB := Lib.hid (below_t HS.out.below hb)
      clear hb
      go_wp2
      go_ret
      exact ⟨ret_b HF.out.symm, HB.out⟩
    · have HF : Hid (holdsP d (.mk 5 A c l f m r v) = l.any (holdsP d)) := Lib.hid (by simp [holdsP, anyP_any])
      obtain ⟨wr, hwr⟩ : ∃ wr, wr = (w.alloc (.cells (aCells d mb) 73)).alloc (.cells #[.int .i64 5, .slice A l.length c, .int .i64 f, .int .u64 m, .int .i64 r, .int .u64 v] 48) := ⟨_, rfl⟩
      have HW := Lib.hid hwr
      rw [← hwr] at HS
      have hmf : ∀ (fn : Fn) (first cap : Array Value) (w : World), (Instr.makeFunc fn first cap).run Try.prog w = .ok (.func fn first cap) w := fun _ _ _ _ => rfl
      have HC := Lib.hid (ContainsM_c d mb (holdsP d) N A c l hlen wr (HROW.out.keep (N' := N) (W' := wr) (fun b hb hl => ⟨hb, HS.out.below.block b hl⟩) (by decide)) (fun i y W hy hb => IH.out i y W hy (below_t HS.out.below hb)))
      unfold aVal at HC ⊢
      unfold ExA.val
      unfold BoolPost at HC
      unfold aCells at HW HC ⊢
      dsimp only
      clear hone hn IH hm hwr
      go_enter Try.func34, Try.ntmps34
      go_upto_region 7 with (fail)
      rw [← HW.out]
      obtain ⟨k0, k1, k2, k3, k4, k5, k6, k7, k8, k9⟩ := HS.out.cl
      obtain ⟨b0, b1, b2, b3, b4, b5⟩ := (box6 HS.out.ebox).1
      clear HW
      go_wp2_with fail
      refine HC.out.mono ?_
      rintro e w1 ⟨rfl, hb⟩
      have HB := Lib.hid (below_t HS.out.below hb)
      clear hb
      go_wp2
      go_ret
      exact ⟨ret_b HF.out.symm, HB.out⟩
    · have HF : holdsP d (.mk 6 A c l f m r v) = relB r (bits .and .u64 (fieldV d f) m) v := by simp [holdsP]
      rw [HF]
      exact holds_test d mb A l.length c f m r v ⟨h1, h2⟩ ⟨h3, h4⟩ w hm
end Go.Proofs.Ytebkbcpnjknkjaa
