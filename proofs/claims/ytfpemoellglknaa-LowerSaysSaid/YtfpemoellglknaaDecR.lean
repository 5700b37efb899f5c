import Derived.Test.YtfpemoellglknaaWordSt
import Derived.Test.YtfpemoellglknaaLowW1
import Derived.Test.YtfpemoellglknaaLowSP
set_option linter.unusedVariables false
set_option linter.unusedSimpArgs false
set_option maxRecDepth 100000
namespace Go.Proofs.Ytfpemoellglknaa
open Go.RowKit Go.Shelf
/-! secdata.Bytes, decision.next, decision.Run: the walks. -/
/-- Data. -/
structure D9 where
  nr : Int
  arch : Int
  ip : Int
  a0 : Int
  a1 : Int
  a2 : Int
  a3 : Int
  a4 : Int
  a5 : Int
deriving DecidableEq
def in64u (x : Int) : Prop := 0 ≤ x ∧ x < 18446744073709551616
def D9.ok (d : D9) : Prop := in32 d.nr ∧ in32 d.arch ∧ in64u d.ip ∧ in64u d.a0 ∧ in64u d.a1 ∧ in64u d.a2 ∧ in64u d.a3 ∧ in64u d.a4 ∧ in64u d.a5
def D9.args (d : D9) : List Int := [d.a0, d.a1, d.a2, d.a3, d.a4, d.a5]
def D9.cells (d : D9) : List Value := [.int .u32 d.nr, .int .u32 d.arch, .int .u64 d.ip, .int .u64 d.a0, .int .u64 d.a1, .int .u64 d.a2, .int .u64 d.a3, .int .u64 d.a4, .int .u64 d.a5]
def D9.val (d : D9) : Value := .agg #[.int .u32 d.nr, .int .u32 d.arch, .int .u64 d.ip, .int .u64 d.a0, .int .u64 d.a1, .int .u64 d.a2, .int .u64 d.a3, .int .u64 d.a4, .int .u64 d.a5]
def baseD (d : D9) : List Int := putL (putL (putL (List.replicate 64 0) 0 d.nr 4) 4 d.arch 4) 8 d.ip 8
def argL (d : D9) : Nat → List Int
  | 0 => baseD d
  | k + 1 => putL (argL d k) (16 + 8 * k) (d.args.getD k 0) 8
def bytesD (d : D9) : List Int := argL d 6
theorem putL_len (l : List Int) (a : Nat) (v : Int) (n : Nat) : (putL l a v n).length = l.length := by
  induction n with
  | zero => rfl
  | succ n ih => rw [putL_succ, List.length_set, ih]
theorem byteAt_ok (v : Int) (i : Nat) : 0 ≤ byteAt v i ∧ byteAt v i < 256 := by unfold byteAt; omega
theorem putL_ok {l : List Int} (h : ∀ b ∈ l, 0 ≤ b ∧ b < 256) (a : Nat) (v : Int) (n : Nat) : ∀ b ∈ putL l a v n, 0 ≤ b ∧ b < 256 := by
  induction n with
  | zero => exact h
  | succ n ih =>
    intro b hb
    rw [putL_succ] at hb
    rcases List.mem_or_eq_of_mem_set hb with h' | rfl
    · exact ih b h'
    · exact byteAt_ok _ _
theorem argL_ok (d : D9) (k : Nat) : (argL d k).length = 64 ∧ ∀ b ∈ argL d k, 0 ≤ b ∧ b < 256 := by
  induction k with
  | zero => exact ⟨by simp [argL, baseD, putL_len], putL_ok (putL_ok (putL_ok (fun b hb => by rw [List.eq_of_mem_replicate hb]; decide) _ _ _) _ _ _) _ _ _⟩
  | succ k ih => exact ⟨by rw [argL, putL_len, ih.1], putL_ok ih.2 _ _ _⟩
theorem bytesD_len (d : D9) : (bytesD d).length = 64 := (argL_ok d 6).1
theorem bytesD_ok (d : D9) : ∀ b ∈ bytesD d, 0 ≤ b ∧ b < 256 := (argL_ok d 6).2
theorem bkeep {base g m : Nat} {l : List Int} {W V : World} (h : BRow base g m l W) (hb : Below W.heap.size W V) : BRow base g m l V := ⟨h.1, h.2.kept (row := none) ⟨hb.os, hb.tape, hb.output, hb.size, fun k hk _ => hb.block k hk⟩ (.inr (by simp [Value.ownBlock]))⟩
theorem Store_j (base g m at_ n : Nat) (ai ni : Int) (ha : ai = at_) (hn' : ni = n) (l : List Int) (v : Int) (h : at_ + n ≤ m) (hn : 1 ≤ n ∧ n ≤ 8) (hm : m ≤ 281474976710656) (hv : 0 ≤ v ∧ v < 18446744073709551616) (w : World) (hr : BRow base g m l w) :
    Calls Try.prog 31 #[.slice (some ⟨g, 0, none⟩) m m, .int .i64 ai, .int .i64 ni, .int .u64 v] w fun e w' => e = .returned (.int .i64 0) ∧ BRow base g m (putL l at_ v n) w' ∧ w.grownBy w' (some g) := by
  subst ha hn'; exact Store_c base g m at_ n l v h hn hm hv w hr
theorem kept_g {w W : World} {g b o : Nat} {v : Value} (hg : w.grownBy W (some g)) (hb : b < w.heap.size) (hne : b ≠ g) (h : w.cell? ⟨b, o, none⟩ = some v) : W.cell? ⟨b, o, none⟩ = some v := by
  rw [← h]; exact World.cell?_of_block (a := ⟨b, o, none⟩) (hg.block b hb (by simpa using hne))
def DBytesPost (w : World) (d : D9) (e : Ending) (w' : World) : Prop := ∃ g, e = .returned (.slice (some ⟨g, 0, none⟩) 64 64) ∧ w.heap.size ≤ g ∧ BRow w.heap.size g 64 (bytesD d) w' ∧ Below w.heap.size w w'
theorem own_lt1 {W : World} {base e size n : Nat} {v : Value} {xs : List Value} (h : W.ownsRow base e size v n xs) (k : Nat) (hk : v.ownBlock = some k) : k < W.heap.size := by
  rcases h.2 with ⟨rfl, _⟩ | ⟨g, cap, cur, rfl, hb, hg, _⟩
  · simp [Value.ownBlock] at hk
  · have : g = k := by simpa [Value.ownBlock] using hk
    subst this
    exact (Array.getElem?_eq_some_iff.1 hg).1
def boxD (w : World) (d : D9) : World := w.alloc (.cells #[.int .u32 d.nr, .int .u32 d.arch, .int .u64 d.ip, .int .u64 d.a0, .int .u64 d.a1, .int .u64 d.a2, .int .u64 d.a3, .int .u64 d.a4, .int .u64 d.a5] 44)
def DataAt (W : World) (b : Nat) (d : D9) : Prop := W.cell? ⟨b, 0, none⟩ = some (.int .u32 d.nr) ∧ W.cell? ⟨b, 1, none⟩ = some (.int .u32 d.arch) ∧ W.cell? ⟨b, 2, none⟩ = some (.int .u64 d.ip) ∧ ∀ k, k < 6 → W.cell? ⟨b, 3 + k, none⟩ = some (.int .u64 (d.args.getD k 0))
theorem boxD_at (w : World) (d : D9) : DataAt (boxD w d) w.heap.size d := by
  refine ⟨?_, ?_, ?_, fun k hk => ?_⟩
  · unfold boxD; rw [World.cell?_alloc_new]; rfl
  · unfold boxD; rw [World.cell?_alloc_new]; rfl
  · unfold boxD; rw [World.cell?_alloc_new]; rfl
  · have : k = 0 ∨ k = 1 ∨ k = 2 ∨ k = 3 ∨ k = 4 ∨ k = 5 := by omega
    rcases this with rfl | rfl | rfl | rfl | rfl | rfl <;> (unfold boxD; rw [World.cell?_alloc_new]; rfl)
theorem DataAt.kept {w W : World} {g b : Nat} {d : D9} (h : DataAt w b d) (hg : w.grownBy W (some g)) (hne : b ≠ g) : DataAt W b d := by
  have hb : b < w.heap.size := World.block_lt_of_cell? w _ h.1
  exact ⟨kept_g hg hb hne h.1, kept_g hg hb hne h.2.1, kept_g hg hb hne h.2.2.1, fun k hk => kept_g hg hb hne (h.2.2.2 k hk)⟩
theorem DataAt.kept0 {w W : World} {b : Nat} {d : D9} (h : DataAt w b d) (hg : w.grownBy W none) : DataAt W b d := by
  have hb : b < w.heap.size := World.block_lt_of_cell? w _ h.1
  have k : ∀ o v, w.cell? ⟨b, o, none⟩ = some v → W.cell? ⟨b, o, none⟩ = some v := fun o v h => by rw [← h]; exact World.cell?_of_block (a := ⟨b, o, none⟩) (hg.block b hb (by simp))
  exact ⟨k _ _ h.1, k _ _ h.2.1, k _ _ h.2.2.1, fun i hi => k _ _ (h.2.2.2 i hi)⟩
structure DSt (w : World) (d : D9) (B g : Nat) (l : List Int) (W : World) : Prop where
  row : BRow w.heap.size g 64 l W
  below : Below w.heap.size w W
  at_ : DataAt W B d
  lt : g < W.heap.size
theorem DSt.next {w : World} {d : D9} {B g : Nat} {l l' : List Int} {W W' : World} (h : DSt w d B g l W) (hr : BRow w.heap.size g 64 l' W') (hg : W.grownBy W' (some g)) (hne : B ≠ g) (hge : w.heap.size ≤ g) : DSt w d B g l' W' :=
  ⟨hr, below_gr h.below hg h.below.size (fun k hk => by injection hk with hk; omega), h.at_.kept hg hne, by have := hg.size; have := h.lt; omega⟩
set_option maxHeartbeats 1600000 in
theorem DBytes_c (d : D9) (hd : d.ok) (w : World) : Calls Try.prog 16 #[d.val] w (DBytesPost w d) := by
  unfold D9.val
  obtain ⟨i0, HI⟩ : ∃ i0, Hid (Try.prog.info? 5 = some i0 ∧ i0.zero = some (.int .u8 0) ∧ i0.size = 1 ∧ i0.bytes = 1) := by
    obtain ⟨i0, hi, hz0, hz1, hz2⟩ := info_parts infoU8
    exact ⟨i0, Lib.hid ⟨hi, hz0, hz1, hz2⟩⟩
  obtain ⟨h1, h2, h3, k0, k1, k2, k3, k4, k5⟩ := hd
  have HARG : Hid (∀ k, k < 6 → in64u (d.args.getD k 0)) := Lib.hid (fun k hk => by
    have : k = 0 ∨ k = 1 ∨ k = 2 ∨ k = 3 ∨ k = 4 ∨ k = 5 := by omega
    rcases this with rfl | rfl | rfl | rfl | rfl | rfl
    · exact k0
    · exact k1
    · exact k2
    · exact k3
    · exact k4
    · exact k5)
  have H3 := Lib.hid h3
  have HBX : Hid (DataAt (boxD w d) w.heap.size d) := Lib.hid (boxD_at w d)
  have HBB : Hid (Below w.heap.size w (boxD w d) ∧ (boxD w d).heap.size = w.heap.size + 1) := Lib.hid ⟨below1 w _, by simp [boxD]⟩
  obtain ⟨n0, n1⟩ := h1
  obtain ⟨r0, r1⟩ := h2
  clear h3 k0 k1 k2 k3 k4 k5
  go_enter Try.func16, Try.ntmps16
  go_wp2_with (at_make; refine wpList_make_full _ rfl _ _ 47 rfl w.heap.size 5 i0 _ 1 Try.underlying47 HI.out.1 HI.out.2.1 HI.out.2.2.1 .i64 .i64 _ _ 64 rfl rfl rfl rfl (by rw [HI.out.2.2.2]; omega) (by simp only [maxLen]; omega) (by simp) ?_; intro w2 hown hg; change (boxD w d).grownBy w2 none at hg; have HS : Hid (DSt w d w.heap.size (w.heap.size + 1) (List.replicate 64 0) w2) := (Lib.hid (by
      have e : (madeCells (Value.int .u8 0).cells (64 * 1)).toList = numV .u8 (List.replicate 64 0) := by
        simp only [numV, List.map_replicate]; exact toList_madeCells_one _ _
      rw [e] at hown
      have hs : (boxD w d).heap.size = w.heap.size + 1 := HBB.out.2
      change w2.ownsRow w.heap.size 5 1 (.slice (some ⟨(boxD w d).heap.size, 0, none⟩) 64 64) 64 _ at hown
      rw [hs] at hown
      refine ⟨⟨by simp, hown⟩, below_gr HBB.out.1 hg HBB.out.1.size (fun k hk => by cases hk), HBX.out.kept0 hg, own_lt1 hown _ rfl⟩)); clear hown hg; have c0 := HS.out.at_.1)
  obtain ⟨g, hg⟩ : ∃ g, g = w.heap.size + 1 := ⟨_, rfl⟩
  obtain ⟨B, hB⟩ : ∃ B, B = w.heap.size := ⟨_, rfl⟩
  have HGE : Hid (w.heap.size ≤ g ∧ B ≠ g) := Lib.hid (by omega)
  rw [← hg, ← hB] at HS ⊢
  rw [← hB] at c0
  clear hg hB HBX HBB
  refine (Store_j w.heap.size g 64 0 4 0 4 rfl rfl _ d.nr (by decide) (by decide) (by decide) ⟨n0, by omega⟩ w2 HS.out.row).mono ?_
  rintro e w3 ⟨rfl, hr3, hg3⟩
  have HS3 := Lib.hid (HS.out.next hr3 hg3 HGE.out.2 HGE.out.1)
  have c1 := HS3.out.at_.2.1
  clear hr3 hg3 c0 HS
  go_wp2_with fail
  refine (Store_j w.heap.size g 64 4 4 4 4 rfl rfl _ d.arch (by decide) (by decide) (by decide) ⟨r0, by omega⟩ w3 HS3.out.row).mono ?_
  rintro e w4 ⟨rfl, hr4, hg4⟩
  have HS4 := Lib.hid (HS3.out.next hr4 hg4 HGE.out.2 HGE.out.1)
  have c2 := HS4.out.at_.2.2.1
  clear hr4 hg4 c1 HS3
  go_wp2_with fail
  refine (Store_j w.heap.size g 64 8 8 8 8 rfl rfl _ d.ip (by decide) (by decide) (by decide) H3.out w4 HS4.out.row).mono ?_
  rintro e w5 ⟨rfl, hr5, hg5⟩
  have HS5 : Hid (DSt w d B g (argL d 0) w5) := Lib.hid (HS4.out.next hr5 hg5 HGE.out.2 HGE.out.1)
  clear hr5 hg5 c2 HS4
  go_wp2_with fail
  go_loopw [20] (fun i wr => ∃ k : Nat, k ≤ 6 ∧ i = .int .i64 k ∧ Hid (DSt w d B g (argL d k) wr)) (fun i _ => 6 - (intOf i).toNat)
  case atStart => exact ⟨0, by omega, rfl, HS5⟩
  case round =>
    obtain ⟨k, hk, rfl, HW⟩ := hrel
    clear HS5
    rcases Nat.lt_or_ge k 6 with hlt | hlt
    · have hlt' : (k : Int) < 6 := by omega
      have ca := HW.out.at_.2.2.2 k hlt
      go_wp2_with fail
      refine (Store_j w.heap.size g 64 (16 + 8 * k) 8 (16 + 8 * (k : Int)) 8 (by push_cast; rfl) rfl _ (d.args.getD k 0) (by omega) (by decide) (by decide) (HARG.out k hlt) wr HW.out.row).mono ?_
      rintro e w6 ⟨rfl, hr6, hg6⟩
      have HS6 : Hid (DSt w d B g (argL d (k + 1)) w6) := Lib.hid (HW.out.next hr6 hg6 HGE.out.2 HGE.out.1)
      clear hr6 hg6
      go_wp2_with fail
      exact ⟨⟨k + 1, hlt, rfl, HS6⟩, by simp only [intOf]; omega⟩
    · obtain rfl : k = 6 := by omega
      go_wp2
      go_ret
      exact ⟨g, rfl, HGE.out.1, HW.out.row, HW.out.below⟩
def N8.val (x : N8) : Value := .agg #[.bool x.lf, .int .u32 x.wd, .int .i64 x.off, .int .u32 x.msk, .int .i64 x.op, .int .u32 x.k, .int .i64 x.t, .int .i64 x.f]
set_option maxHeartbeats 1600000 in
theorem next_c (x : N8) (hx : 1 ≤ x.op ∧ x.op ≤ 4) (v : Int) (w : World) : Calls Try.prog 27 #[x.val, .int .u32 v] w fun e w' => e = .returned (.int .i64 (nextN x v)) ∧ Below w.heap.size w w' := by
  unfold N8.val
  obtain ⟨lf, wd, off, msk, op, k, t, f⟩ := x
  dsimp only at hx ⊢
  obtain ⟨m, hm⟩ : ∃ m, m = bits .and .u32 v msk := ⟨_, rfl⟩
  have HM := Lib.hid hm
  have HE : Hid (nextN ⟨lf, wd, off, msk, op, k, t, f⟩ v = if testN op m k = true then t else f) := Lib.hid (by unfold nextN; rw [hm])
  have : op = 1 ∨ op = 2 ∨ op = 3 ∨ op = 4 := by omega
  clear hx
  rcases this with rfl | rfl | rfl | rfl
  · cases h : (m == k)
    all_goals (
      have HH := Lib.hid h
      go_enter Try.func27, Try.ntmps27
      rw [hm] at h
      clear hm
      go_wp2
      all_goals go_ret
      all_goals exact ⟨ret_i (by rw [HE.out]; unfold testN; rw [if_pos rfl, HH.out]; rfl), below1 _ _⟩)
  · cases h : decide (k < m)
    all_goals (
      have HH := Lib.hid h
      go_enter Try.func27, Try.ntmps27
      rw [hm] at h
      clear hm
      go_wp2
      all_goals go_ret
      all_goals exact ⟨ret_i (by rw [HE.out, show testN 2 m k = decide (k < m) from rfl, HH.out]; rfl), below1 _ _⟩)
  · cases h : decide (k ≤ m)
    all_goals (
      have HH := Lib.hid h
      go_enter Try.func27, Try.ntmps27
      rw [hm] at h
      clear hm
      go_wp2
      all_goals go_ret
      all_goals exact ⟨ret_i (by rw [HE.out, show testN 3 m k = decide (k ≤ m) from rfl, HH.out]; rfl), below1 _ _⟩)
  · cases h : (bits .and .u32 m k != 0)
    all_goals (
      have HH := Lib.hid h
      go_enter Try.func27, Try.ntmps27
      rw [hm] at h
      clear hm
      go_wp2
      all_goals go_ret
      all_goals exact ⟨ret_i (by rw [HE.out, show testN 4 m k = (bits .and .u32 m k != 0) from rfl, HH.out]; rfl), below1 _ _⟩)
def DRunPost (w : World) (q : List N8) (d : D9) (e : Ending) (w' : World) : Prop := e = .returned (.tuple #[.int .u32 (runD q (bytesD d)).1, .int .i64 (runD q (bytesD d)).2.1, .int .i64 (runD q (bytesD d)).2.2]) ∧ Below w.heap.size w w'
theorem nextN_or (x : N8) (v : Int) : nextN x v = x.t ∨ nextN x v = x.f := by unfold nextN; split; exact .inl rfl; exact .inr rfl
theorem heap_set1 {w : World} {B j : Nat} {c : Array Value} {t : TypeId} {fr : Nat × Nat} (h : w.heap[B]? = some (.cells c t fr)) (v : Value) : (w.setCell ⟨B, j, none⟩ v).heap[B]? = some (.cells (c.setIfInBounds j v) t fr) := by
  have hlt := (Array.getElem?_eq_some_iff.1 h).1
  have h' : w.heap[B] = .cells c t fr := (Array.getElem?_eq_some_iff.1 h).2
  show (w.heap.modify B _)[B]? = _
  rw [Array.getElem?_eq_getElem (by simpa using hlt), Array.getElem_modify_self, h']
  rfl
def nodeO (x : N8) : Obj := .cells #[.bool x.lf, .int .u32 x.wd, .int .i64 x.off, .int .u32 x.msk, .int .i64 x.op, .int .u32 x.k, .int .i64 x.t, .int .i64 x.f] 52 (0, 0)
theorem node_box {W : World} {B : Nat} {x : N8} (h : W.heap[B]? = some (nodeO x)) : NodeAt W B 0 x ∧ ∀ j, W.frozen? ⟨B, j, none⟩ = false := by
  unfold nodeO at h
  refine ⟨⟨?_, ?_, ?_, ?_, ?_, ?_, ?_, ?_⟩, fun j => ?_⟩ <;> simp [World.cell?, World.frozen?, h]
theorem box_store {W : World} {B : Nat} {x z : N8} (h : W.heap[B]? = some (nodeO x)) : ((((((((W.setCell ⟨B, 0, none⟩ (.bool z.lf)).setCell ⟨B, 1, none⟩ (.int .u32 z.wd)).setCell ⟨B, 2, none⟩ (.int .i64 z.off)).setCell ⟨B, 3, none⟩ (.int .u32 z.msk)).setCell ⟨B, 4, none⟩ (.int .i64 z.op)).setCell ⟨B, 5, none⟩ (.int .u32 z.k)).setCell ⟨B, 6, none⟩ (.int .i64 z.t)).setCell ⟨B, 7, none⟩ (.int .i64 z.f)).heap[B]? = some (nodeO z) := by
  unfold nodeO at *
  have h0 := heap_set1 (j := 0) h (.bool z.lf)
  have h1 := heap_set1 (j := 1) h0 (.int .u32 z.wd)
  have h2 := heap_set1 (j := 2) h1 (.int .i64 z.off)
  have h3 := heap_set1 (j := 3) h2 (.int .u32 z.msk)
  have h4 := heap_set1 (j := 4) h3 (.int .i64 z.op)
  have h5 := heap_set1 (j := 5) h4 (.int .u32 z.k)
  have h6 := heap_set1 (j := 6) h5 (.int .i64 z.t)
  have h7 := heap_set1 (j := 7) h6 (.int .i64 z.f)
  refine h7.trans ?_
  simp
theorem box_below {W W0 : World} {B : Nat} {z : N8} (h : Below B W0 W) : Below B W0 ((((((((W.setCell ⟨B, 0, none⟩ (.bool z.lf)).setCell ⟨B, 1, none⟩ (.int .u32 z.wd)).setCell ⟨B, 2, none⟩ (.int .i64 z.off)).setCell ⟨B, 3, none⟩ (.int .u32 z.msk)).setCell ⟨B, 4, none⟩ (.int .i64 z.op)).setCell ⟨B, 5, none⟩ (.int .u32 z.k)).setCell ⟨B, 6, none⟩ (.int .i64 z.t)).setCell ⟨B, 7, none⟩ (.int .i64 z.f)) :=
  ((((((((h.setCell (p := ⟨B, 0, none⟩) (Nat.le_refl _) _).setCell (p := ⟨B, 1, none⟩) (Nat.le_refl _) _).setCell (p := ⟨B, 2, none⟩) (Nat.le_refl _) _).setCell (p := ⟨B, 3, none⟩) (Nat.le_refl _) _).setCell (p := ⟨B, 4, none⟩) (Nat.le_refl _) _).setCell (p := ⟨B, 5, none⟩) (Nat.le_refl _) _).setCell (p := ⟨B, 6, none⟩) (Nat.le_refl _) _).setCell (p := ⟨B, 7, none⟩) (Nat.le_refl _) _)
structure RunSt (q : List N8) (b : List Int) (w2 : World) (i cnt f : Nat) (x : N8) (W : World) : Prop where
  hx : q[i]? = some x
  go : goD q b q.length 0 1 = goD q b (f + 1) i cnt
  hf : q.length ≤ f + 1 + i
  hcnt : cnt ≤ i + 1
  box : W.heap[w2.heap.size]? = some (nodeO x)
  below : Below w2.heap.size w2 W
set_option maxHeartbeats 1600000 in
theorem DRun_c (A : Option Addr) (cap : Nat) (q : List N8) (d : D9) (hd : d.ok) (hq : ∀ x ∈ q, x.ok) (hn : q.length ≤ 9223372036854775807) (w : World) (hr : Reads w w.heap.size 8 A q.length (cellsN q)) :
    Calls Try.prog 14 #[.slice A q.length cap, d.val] w (DRunPost w q d) := by
  have HR := Lib.hid hr
  have HD := Lib.hid hd
  have HC := Lib.hid (fun (w1 : World) (h : Below w.heap.size w w1) => DCheck_c A cap q hq hn w1 (hr.up h))
  clear hr hq hd
  obtain ⟨pe, hpe⟩ : ∃ pe, pe = (checkD q).1 := ⟨_, rfl⟩
  obtain ⟨pp, hpp⟩ : ∃ pp, pp = (checkD q).2 := ⟨_, rfl⟩
  have HPE := Lib.hid hpe
  have HPP := Lib.hid hpp
  clear hpe hpp
  have HBX : Hid (Below w.heap.size w (boxD w d)) := Lib.hid (below1 w _)
  have HLD : Hid (∀ w1, Below (boxD w d).heap.size (boxD w d) w1 → (w1.cell? ⟨w.heap.size, 0, none⟩ = some (.int .u32 d.nr) ∧ w1.cell? ⟨w.heap.size, 1, none⟩ = some (.int .u32 d.arch) ∧ w1.cell? ⟨w.heap.size, 2, none⟩ = some (.int .u64 d.ip) ∧ w1.cell? ⟨w.heap.size, 3, none⟩ = some (.int .u64 d.a0) ∧ w1.cell? ⟨w.heap.size, 4, none⟩ = some (.int .u64 d.a1) ∧ w1.cell? ⟨w.heap.size, 5, none⟩ = some (.int .u64 d.a2) ∧ w1.cell? ⟨w.heap.size, 6, none⟩ = some (.int .u64 d.a3) ∧ w1.cell? ⟨w.heap.size, 7, none⟩ = some (.int .u64 d.a4) ∧ w1.cell? ⟨w.heap.size, 8, none⟩ = some (.int .u64 d.a5))) := Lib.hid (fun w1 hb => by
    obtain ⟨g0, g1, g2, g3⟩ := boxD_at w d
    exact ⟨keepC hb g0, keepC hb g1, keepC hb g2, keepC hb (g3 0 (by omega)), keepC hb (g3 1 (by omega)), keepC hb (g3 2 (by omega)), keepC hb (g3 3 (by omega)), keepC hb (g3 4 (by omega)), keepC hb (g3 5 (by omega))⟩)
  have HDV : Hid (d.val = .agg #[.int .u32 d.nr, .int .u32 d.arch, .int .u64 d.ip, .int .u64 d.a0, .int .u64 d.a1, .int .u64 d.a2, .int .u64 d.a3, .int .u64 d.a4, .int .u64 d.a5]) := Lib.hid rfl
  unfold D9.val
  by_cases h0 : pe = 0
  · have hc0 : (checkD q).1 = 0 := by rw [← HPE.out]; exact h0
    have HC0 := Lib.hid hc0
    obtain ⟨a1, a2, a3⟩ := checkD_zero hc0
    have HOK := Lib.hid a3
    have hq1 : (q.length : Int) ≤ 4096 := by omega
    have hq0 : (0 : Int) < q.length := by omega
    subst h0
    clear hc0 a3
    go_enter Try.func14, Try.ntmps14
    go_wp2_with fail
    refine (HC.out (boxD w d) HBX.out).mono ?_
    rintro e w1 ⟨rfl, hb1⟩
    obtain ⟨e0, e1, e2, e3, e4, e5, e6, e7, e8⟩ := HLD.out w1 hb1
    have HB1 := Lib.hid (below_t HBX.out hb1)
    rw [← HPE.out, ← HPP.out]
    clear hb1
    go_wp2_with fail
    refine (DBytes_c d HD.out w1).mono ?_
    rintro e w2 ⟨g, rfl, -, hrow, hb2⟩
    have HB2 := Lib.hid (below_t HB1.out hb2)
    have HRW := Lib.hid hrow
    obtain ⟨x, hx⟩ : ∃ x, q[0]? = some x := ⟨_, List.getElem?_eq_getElem a1⟩
    obtain ⟨bb, off, rfl, hb, hna⟩ := (HR.out.up HB2.out).node hx
    obtain ⟨d0, d1, d2, d3, d4, d5, d6, d7⟩ := hna
    simp only [Nat.zero_mul, Nat.add_zero] at d0 d1 d2 d3 d4 d5 d6 d7
    have HX := Lib.hid hx
    have H0 : Hid (runD q (bytesD d) = ((goD q (bytesD d) q.length 0 1).1, ((goD q (bytesD d) q.length 0 1).2 : Int), 0)) := Lib.hid (by unfold runD; rw [if_neg (by simp [HC0.out])])
    clear hb2 hrow hx e0 e1 e2 e3 e4 e5 e6 e7 e8
    go_wp2_with fail
    have HS0 : Hid (RunSt q (bytesD d) w2 0 1 (q.length - 1) x (w2.alloc (.cells #[.bool x.lf, .int .u32 x.wd, .int .i64 x.off, .int .u32 x.msk, .int .i64 x.op, .int .u32 x.k, .int .i64 x.t, .int .i64 x.f] 52))) := Lib.hid ⟨HX.out, by rw [show q.length - 1 + 1 = q.length by omega], by omega, by omega, by show (w2.heap.push _)[w2.heap.size]? = _; exact Array.getElem?_push_size, below1 w2 _⟩
    clear d0 d1 d2 d3 d4 d5 d6 d7 HX
    go_loopw [10] (fun n wr => ∃ (i cnt f : Nat) (x : N8), n = .int .i64 cnt ∧ Hid (RunSt q (bytesD d) w2 i cnt f x wr)) (fun n _ => q.length - (intOf n).toNat)
    case atStart => exact ⟨0, 1, q.length - 1, x, rfl, HS0⟩
    case round =>
      obtain ⟨i, cnt, f, y, rfl, HW⟩ := hrel
      clear HS0
      obtain ⟨⟨d0, d1, d2, d3, d4, d5, d6, d7⟩, -⟩ := node_box HW.out.box
      simp only [Nat.zero_add] at d0 d1 d2 d3 d4 d5 d6 d7
      have HYX := Lib.hid HW.out.hx
      have HBW := Lib.hid (below_t HB2.out HW.out.below)
      have hil : i < q.length := (List.getElem?_eq_some_iff.1 HYX.out).1
      have hcnt := HW.out.hcnt
      have hcn2 : (cnt : Int) ≤ 4096 := by omega
      have HGO := Lib.hid HW.out.go
      obtain ⟨lf, wd, of, mk, op, k, t, f'⟩ := y
      try dsimp only at d0 d1 d2 d3 d4 d5 d6 d7
      cases lf with
      | true =>
        have HE : Hid (goD q (bytesD d) q.length 0 1 = (wd, cnt)) := Lib.hid (by rw [HGO.out, goD, HYX.out]; simp)
        go_wp2
        refine bodyPost_ret (v := .tuple #[.int .u32 wd, .int .i64 cnt, .int .i64 0]) (by simp [results, Try.results14, go_sem]) rfl ?_
        exact ⟨by rw [H0.out, HE.out], HBW.out⟩
      | false =>
        have hno := HOK.out i _ HYX.out rfl
        obtain ⟨o0, o1, o2⟩ := hno.off
        obtain ⟨t0, t1⟩ := hno.t
        obtain ⟨u0, u1⟩ := hno.f
        obtain ⟨p0, p1⟩ := hno.op
        dsimp only at o0 o1 o2 t0 t1 u0 u1 p0 p1
        obtain ⟨O, rfl⟩ : ∃ O : Nat, of = O := ⟨of.toNat, by omega⟩
        obtain ⟨V, hV⟩ : ∃ V, V = wordP (bytesD d) O := ⟨_, rfl⟩
        obtain ⟨N, hN⟩ : ∃ N : Nat, nextN ⟨false, wd, O, mk, op, k, t, f'⟩ V = N := ⟨(nextN ⟨false, wd, O, mk, op, k, t, f'⟩ V).toNat, by rcases nextN_or ⟨false, wd, O, mk, op, k, t, f'⟩ V with e | e <;> (rw [e]; dsimp only; omega)⟩
        have hNb : i < N ∧ N < q.length := by rcases nextN_or ⟨false, wd, O, mk, op, k, t, f'⟩ V with e | e <;> (rw [hN] at e; dsimp only at e; omega)
        obtain ⟨n0, n1⟩ := hNb
        have hNi : (N : Int) < q.length := by omega
        have HE : Hid (goD q (bytesD d) (f + 1) i cnt = goD q (bytesD d) f N (cnt + 1)) := Lib.hid (by rw [goD, HYX.out]; simp only [Bool.false_eq_true, if_false]; rw [Int.toNat_natCast, ← hV, hN, Int.toNat_natCast])
        have HV := Lib.hid hV
        have HN := Lib.hid hN
        have HP := Lib.hid (show 1 ≤ op ∧ op ≤ 4 from ⟨p0, p1⟩)
        have HWD := Lib.hid (Word_c (some ⟨g, 0, none⟩) 64 (bytesD d) (bytesD_len d) (bytesD_ok d) O (by omega) (by omega) wr wr.heap.size (((Reads.of_own HRW.out.2).up HW.out.below)))
        clear hV hN o0 o1 o2 t0 t1 u0 u1 p0 p1 hno
        go_wp2_with fail
        refine HWD.out.mono ?_
        rintro e w3 ⟨rfl, rfl⟩
        rw [← HV.out]
        go_wp2_with fail
        refine (next_c ⟨false, wd, O, mk, op, k, t, f'⟩ HP.out V wr).mono ?_
        rintro e w4 ⟨rfl, hb4⟩
        rw [HN.out]
        obtain ⟨z, hz⟩ : ∃ z, q[N]? = some z := ⟨_, List.getElem?_eq_getElem n1⟩
        have HZ := Lib.hid hz
        obtain ⟨bb2, off2, e5, hb5, hna⟩ := (HR.out.up (below_t HBW.out hb4)).node hz
        injection e5 with e5; injection e5 with e6 e7
        subst e6 e7
        obtain ⟨c0, c1, c2, c3, c4, c5, c6, c7⟩ := hna
        have HBX4 : Hid (w4.heap[w2.heap.size]? = some (nodeO ⟨false, wd, O, mk, op, k, t, f'⟩)) := Lib.hid ((hb4.block _ (Array.getElem?_eq_some_iff.1 HW.out.box).1).trans HW.out.box)
        obtain ⟨⟨b0, b1, b2, b3, b4, b5, b6, b7⟩, hfr⟩ := node_box HBX4.out
        have r0 := hfr 0
        have r1 := hfr 1
        have r2 := hfr 2
        have r3 := hfr 3
        have r4 := hfr 4
        have r5 := hfr 5
        have r6 := hfr 6
        have r7 := hfr 7
        simp only [Nat.zero_add] at b0 b1 b2 b3 b4 b5 b6 b7
        have HB4 := Lib.hid hb4
        clear hz hb4 hfr d0 d1 d2 d3 d4 d5 d6 d7
        go_wp2
        go_roundw
        case rel =>
          refine ⟨N, cnt + 1, f - 1, z, by go_num, Lib.hid ⟨HZ.out, ?_, ?_, ?_, ?_, ?_⟩⟩
          · rw [HGO.out, HE.out]
            congr 1
            have := HW.out.hf
            omega
          · have := HW.out.hf; omega
          · omega
          · exact box_store HBX4.out
          · exact box_below (below_tr HW.out.below (Nat.le_of_lt (Array.getElem?_eq_some_iff.1 HW.out.box).1) HB4.out)
        case measure => simp [intOf]; omega
  · have hne : (pe != 0) = true := by simpa using h0
    have HNE := Lib.hid (show (checkD q).1 ≠ 0 by rw [← HPE.out]; exact h0)
    clear h0
    go_enter Try.func14, Try.ntmps14
    go_wp2_with fail
    refine (HC.out (boxD w d) HBX.out).mono ?_
    rintro e w1 ⟨rfl, hb1⟩
    rw [← HPE.out, ← HPP.out]
    go_wp2
    refine bodyPost_ret (v := .tuple #[.int .u32 0, .int .i64 0, .int .i64 pe]) (by simp [results, Try.results14, go_sem]) rfl ?_
    have e : runD q (bytesD d) = (0, 0, pe) := by unfold runD; rw [if_pos HNE.out, HPE.out]
    exact ⟨by rw [e], below_t HBX.out hb1⟩
end Go.Proofs.Ytfpemoellglknaa
