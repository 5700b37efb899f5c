import Derived.Test.YtebkbcpnjknkjaaRdW8
set_option linter.unusedVariables false
set_option linter.unusedSimpArgs false
set_option maxRecDepth 100000
namespace Go.Proofs.Ytebkbcpnjknkjaa
open Go.RowKit
/-! ravelinref06: reader, Parse. -/
theorem step_app_at {P : Program} {w : World} {ops : Array Oper} {o : Oper} {a : Act} {K : Act → World → Prop} {Q : Exit → Act → World → Prop} {E : Prop} (hgd : o.guard = none) (s x : Operand) (t : TypeId)
    (ho : o.op = .call { callee := .builtin .append, args := #[s, x], argTypes := #[t, t] })
    (base : Nat) (e : TypeId) (i : TypeInfo) (z : Value) (size bytes : Nat) (ht : P.underlying t = some (.slice e)) (hi : P.info? e = some i) (hz : i.zero = some z)
    (hsize : i.size = size) (hby : i.bytes = bytes) (hzs : z.cells.size = size) (hsz : 0 < size)
    (v : Value) (n : Nat) (xs : List Value) (hs : a.eval s = v) (hown : w.ownsRow base e size v n xs)
    (ad : Addr) (m c : Nat) (news : List Value) (hx : a.eval x = .slice (some ad) m c) (hl : news.length = m * size) (hnews : ∀ j u, news[j]? = some u → w.cell? (ad.add j) = some u) (h1 : ∀ u ∈ news, u.oneCell' = true)
    (h63 : n + m ≤ maxLen) (hbytes : (n + m) * bytes ≤ 140737488355328) (hbase : base ≤ w.heap.size)
    (h : ∀ v' w', w'.ownsRow base e size v' (n + m) (xs ++ news) → w.grownBy w' v.ownBlock → (v'.ownBlock = v.ownBlock ∨ v'.ownBlock = some w.heap.size) → K (a.put o.dst v') w') :
    if Region.wanted o (yielded ops a.tmps) = true then Oper.wp P o a w K Q else E := by
  have hw : Region.wanted o (yielded ops a.tmps) = true := by simp [Region.wanted, hgd]
  rw [if_pos hw]
  obtain ⟨v', w', hr, h2, h3, h4, h5⟩ := run_append_own_at (P := P) w base t o.type e i z size bytes ht hi hz hsize hby hzs hsz v n xs hown ad m c news hl hnews h1 h63 hbytes hbase
  unfold Oper.wp execOp
  simp only [ho, resolve, invoke, builtin, Sem.run_bind, Sem.run_pure, Result.andThen_ok, List.map_toArray, List.map_cons, List.map_nil, hs, hx, hr]
  exact h v' w' h2 h3 h5
def ReaderPost (l : List Tk) (er pl : Int) (w : World) (e : Ending) (w' : World) : Prop :=
  ∃ (R : Nat) (A : Option Addr) (c : Nat), e = .returned (.pointer (some ⟨R, 0, none⟩)) ∧ w.heap.size ≤ R ∧ RdAt l er pl A c R (St 0 0) w' ∧ Below w.heap.size w w'
theorem reader_c (s : ByteArray) (hs : s.size ≤ 65536) (hno : ∀ i, bt s i ≠ 35) {f : Nat} {l : List Tk} {er pl : Int} (hP : tokensP s f 0 [] = some (l, er, pl)) (hl : l.length ≤ 100000) (w : World) : Calls Try.prog 35 #[.string s] w (ReaderPost l er pl w) := by
  have HT := Lib.hid (fun w => Tokens_c s hs hno hP w)
  clear hs hno hP
  go_enter Try.func35, Try.ntmps35
  go_wp2_with fail
  refine (HT.out _).mono ?_
  rintro e w1 ⟨v, rfl, hown, hb⟩
  obtain ⟨A, c, rfl⟩ : ∃ A c, v = .slice A l.length c := by
    rcases hown.2 with ⟨h1, h2⟩ | ⟨g, cap, cur, h1, _⟩
    · exact ⟨none, 0, by rw [h1, h2]⟩
    · exact ⟨_, _, h1⟩
  have HO := Lib.hid hown
  have HB := Lib.hid hb
  clear hown hb
  go_wp2
  go_ret
  have hz := HB.out.size
  refine ⟨w1.heap.size, A, c, rfl, hz, ⟨heap_nwT w1 _, ?_, hl⟩, below_al HB.out _⟩
  exact (Reads.of_own HO.out).alloc (Nat.le_refl _) _
theorem callsS_lt {l : List Tk} : ∀ (f a : Nat) (acc cs : List CallP) (a' : Nat), callsS l f a acc = some (cs, a') → a < a' := by
  intro f
  induction f with
  | zero => intro a acc cs a' h; cases h
  | succ f ih =>
    intro a acc cs a' h
    rw [callsS] at h
    split at h
    · split at h
      · split at h
        · have := ih _ _ _ _ h; omega
        · simp only [Option.some.injEq, Prod.mk.injEq] at h; omega
      · cases h
    · cases h
theorem verdS_lt {l : List Tk} {a a' : Nat} {x : Int × Int} (h : verdS l a = some (x, a')) : a < a' := by
  unfold verdS at h
  split at h
  · split at h
    · cases h
    · simp only [Option.some.injEq, Prod.mk.injEq] at h; omega
    · split at h
      · simp only [Option.some.injEq, Prod.mk.injEq] at h; omega
      · cases h
  · cases h
theorem ruleS_lt {l : List Tk} {f a a' : Nat} {d : Int} {x : RuA} (h : ruleS l f a d = some (x, a')) : a < a' := by
  unfold ruleS at h
  split at h
  · rename_i cs a1 e1
    have h1 := callsS_lt _ _ _ _ _ e1
    split at h
    · rename_i y a2 e2
      have h2 : a1 ≤ a2 := by
        unfold whenS at e2
        split at e2
        · split at e2
          · split at e2
            · rename_i e3
              have := (pS_lt _ _ _ _ _ _ _ e3).1
              simp only [Option.some.injEq, Prod.mk.injEq] at e2; omega
            · cases e2
          · simp only [Option.some.injEq, Prod.mk.injEq] at e2; omega
        · cases e2
      split at h
      · split at h
        · rename_i v a3 e3
          have := verdS_lt e3
          split at h
          · simp only [Option.some.injEq, Prod.mk.injEq] at h; omega
          · cases h
        · cases h
      · cases h
    · cases h
  · cases h
def rulesS (l : List Tk) : Nat → Nat → List RuA → Option (List RuA × Nat)
  | 0, _, _ => none
  | f + 1, a, acc =>
    if a < l.length then
      if tkB 2 ⟨#[111, 110]⟩ (l.getD a Tk.zero) = true then
        if acc.length < 512 then (match ruleS l f (a + 1) 0 with | some (r, a1) => rulesS l f a1 (acc ++ [r]) | none => none) else none
      else some (acc, a)
    else none
def wantB (l : List Tk) (k : Int) (t : ByteArray) (a : Nat) : Bool := decide (a < l.length) && tkB k t (l.getD a Tk.zero)
def parseS (l : List Tk) (f : Nat) : Option PolA :=
  if wantB l 2 ⟨#[97, 114, 99, 104]⟩ 0 = true ∧ (1 < l.length ∧ (l.getD 1 Tk.zero).kind = 2) ∧ wantB l 4 ⟨#[59]⟩ 2 = true ∧ wantB l 2 ⟨#[102, 111, 114, 101, 105, 103, 110]⟩ 3 = true then
    match verdS l 4 with
    | none => none
    | some (v1, a1) =>
      if wantB l 4 ⟨#[59]⟩ a1 = true ∧ wantB l 2 ⟨#[100, 101, 102, 97, 117, 108, 116]⟩ (a1 + 1) = true then
        match verdS l (a1 + 2) with
        | none => none
        | some (v2, a2) =>
          if wantB l 4 ⟨#[59]⟩ a2 = true then
            match rulesS l f (a2 + 1) [] with
            | none => none
            | some (rs, a3) => if a3 < l.length ∧ (l.getD a3 Tk.zero).kind = 1 then some ⟨(l.getD 1 Tk.zero).text, v1.1, v1.2, v2.1, v2.2, none, 0, rs⟩ else none
          else none
      else none
  else none
theorem infoU : (Try.prog.info? 51).map (fun i => (i.zero, i.size, i.bytes)) = some (some (.agg #[.slice none 0 0, .int .i64 0, .slice none 0 0, .int .i64 0, .int .u64 0, .int .i64 0, .int .u64 0, .int .i64 0, .int .u64 0]), 9, 104) := by kernel_rfl
structure PB (l : List Tk) (er pl : Int) (A : Option Addr) (c R : Nat) (w0 : World) (b : Nat) (cs : Array Value) (W : World) : Prop where
  rd : RdW l er pl A c R (St b 0) w0 W
  box : W.heap[w0.heap.size]? = some (.cells cs 29 (0, 0))
section
variable {l : List Tk} {er pl : Int} {A : Option Addr} {c R : Nat} {w0 : World} {b b' : Nat} {cs : Array Value} {W W' : World}
theorem PB.call {u : Value} {e : Ending} (h : PB l er pl A c R w0 b cs W) (hR : R < w0.heap.size) (k : RPost l er pl A c R u (St b' 0) W e W') : PB l er pl A c R w0 b' cs W' := ⟨h.rd.call k, keep_box k.2.2 h.box hR⟩
theorem PB.set (h : PB l er pl A c R w0 b cs W) (hR : R < w0.heap.size) (j : Nat) (v : Value) : PB l er pl A c R w0 b (cs.setIfInBounds j v) (W.setCell ⟨w0.heap.size, j, none⟩ v) := ⟨h.rd.set hR (Nat.le_refl _) _ _, heap_setT h.box _⟩
end
structure ParAt (l : List Tk) (er pl : Int) (A : Option Addr) (c R : Nat) (w0 : World) (ar : ByteArray) (fk fd dk dd : Int) (rs : List RuA) (b : Nat) (v : Value) (W : World) : Prop where
  own : W.ownsRow (w0.heap.size + 1) 51 9 v rs.length (cellsU rs)
  all : ∀ r ∈ rs, r.In W (fun g => w0.heap.size < g ∧ v.ownBlock ≠ some g)
  pb : PB l er pl A c R w0 b #[.string ar, .int .i64 fk, .int .u64 fd, .int .i64 dk, .int .u64 dd, v] W
  len : rs.length ≤ b
section
variable {l : List Tk} {er pl : Int} {A : Option Addr} {c R : Nat} {w0 : World} {ar : ByteArray} {fk fd dk dd : Int} {rs : List RuA} {b b' : Nat} {v v2 : Value} {W W' w1 w4 : World}
theorem ParAt.call {u : Value} {e : Ending} (h : ParAt l er pl A c R w0 ar fk fd dk dd rs b v W) (hR : R < w0.heap.size) (k : RPost l er pl A c R u (St b' 0) W e W') (hb : b ≤ b') : ParAt l er pl A c R w0 ar fk fd dk dd rs b' v W' :=
  ⟨own_keepR h.own (by omega) k.2.2, fun r hr => (h.all r hr).keep fun g hg hl => ⟨hg, k.2.2.block g hl (fun e => by injection e with e; omega)⟩, h.pb.call hR k, Nat.le_trans h.len hb⟩
theorem ParAt.alloc (h : ParAt l er pl A c R w0 ar fk fd dk dd rs b v W) (o : Obj) : ParAt l er pl A c R w0 ar fk fd dk dd rs b v (W.alloc o) :=
  ⟨own_alloc h.own o, fun r hr => (h.all r hr).keep fun g hg hl => ⟨hg, Below.heap_alloc W o g hl⟩, ⟨h.pb.rd.alloc o, alloc_box h.pb.box o⟩, h.len⟩
theorem ParAt.more {x : RuA} (hR : R < w0.heap.size) (h : ParAt l er pl A c R w0 ar fk fd dk dd rs b v W) (hra : RdAt l er pl A c R (St b' 0) w1) (hk : KeepR R W w1) (hx : x.In w1 (fun g => W.heap.size ≤ g)) (hb : b < b')
    (hown : w4.ownsRow (w0.heap.size + 1) 51 9 v2 (rs.length + 1) (cellsU rs ++ x.cells)) (hg : (w1.alloc (.cells x.cells.toArray 51)).grownBy w4 v.ownBlock) (hat : v2.ownBlock = v.ownBlock ∨ v2.ownBlock = some (w1.alloc (.cells x.cells.toArray 51)).heap.size) :
    ParAt l er pl A c R w0 ar fk fd dk dd (rs ++ [x]) b' v2 (w4.setCell ⟨w0.heap.size, 5, none⟩ v2) := by
  have hge : ∀ k, v.ownBlock = some k → w0.heap.size < k := fun k hk => own_geT h.own k hk
  have hlt : ∀ k, v.ownBlock = some k → k < W.heap.size := own_ltT h.own
  have hsz := hk.size
  have key : ∀ g, g < w1.heap.size → v.ownBlock ≠ some g → w0.heap.size < g → v2.ownBlock ≠ some g ∧ (w4.setCell ⟨w0.heap.size, 5, none⟩ v2).heap[g]? = w1.heap[g]? := by
    intro g hgl hn hg0
    refine ⟨?_, ?_⟩
    · rcases hat with h | h
      · rw [h]; exact hn
      · rw [h, World.size_alloc]; intro e; injection e with e; omega
    · exact (Below.heap_setCell w4 ⟨w0.heap.size, 5, none⟩ v2 g (by show g ≠ w0.heap.size; omega)).trans ((hg.block g (by rw [World.size_alloc]; omega) (fun e => hn (by first | exact e | exact e.symm))).trans (Below.heap_alloc w1 _ g hgl))
  have h0 : w0.heap.size < W.heap.size := (Array.getElem?_eq_some_iff.1 h.pb.box).1
  refine ⟨?_, ?_, ⟨?_, ?_⟩, ?_⟩
  · rw [List.length_append, ← cellsU_snoc]; exact own_set hown (by omega) _ _
  · intro r hr
    rcases List.mem_append.1 hr with hr | hr
    · refine (h.all r hr).keep fun g hg' hl => ?_
      obtain ⟨k1, k2⟩ := key g (by omega) hg'.2 hg'.1
      exact ⟨⟨hg'.1, k1⟩, k2.trans (hk.block g hl (fun e => by injection e with e; omega))⟩
    · obtain rfl : r = x := by simpa using hr
      refine hx.keep fun g hg' hl => ?_
      obtain ⟨k1, k2⟩ := key g hl (fun e => by have := hlt g e; omega) (by omega)
      exact ⟨⟨by omega, k1⟩, k2⟩
  · exact (((h.pb.rd.callX hra hk).alloc _).grown hg hR (fun k hk => Nat.le_of_lt (hge k hk))).set hR (Nat.le_refl _) _ _
  · have := heap_setT (grown_box hg (alloc_box (keep_box hk h.pb.box hR) _) (fun e => by have := hge _ e; omega)) v2 (j := 5)
    exact this
  · rw [List.length_append]; have := h.len; simp; omega
end
def ParsePost (p0 : PolA) (w : World) (e : Ending) (w' : World) : Prop := ∃ p : PolA, e = .returned (.tuple #[p.val, .int .i64 0, .int .i64 0]) ∧ p.strip = p0.strip ∧ p.In w' (fun b => w.heap.size ≤ b) ∧ Below w.heap.size w w'
set_option maxHeartbeats 1600000 in
theorem Parse_s (s : ByteArray) (hs : s.size ≤ 65536) (hno : ∀ i, bt s i ≠ 35) {f f2 : Nat} {l : List Tk} {er pl : Int} (hT : tokensP s f 0 [] = some (l, er, pl)) (hl : l.length ≤ 100000) {p0 : PolA} (hp : parseS l f2 = some p0) (w : World) : Calls Try.prog 13 #[.string s] w (ParsePost p0 w) := by
  obtain ⟨i0, HI⟩ : ∃ i0, Hid (Try.prog.info? 51 = some i0 ∧ i0.zero = some (.agg #[.slice none 0 0, .int .i64 0, .slice none 0 0, .int .i64 0, .int .u64 0, .int .i64 0, .int .u64 0, .int .i64 0, .int .u64 0]) ∧ i0.size = 9 ∧ i0.bytes = 104) := by
    obtain ⟨i0, hi, hz0, hz1, hz2⟩ := info_parts infoU
    exact ⟨i0, Lib.hid ⟨hi, hz0, hz1, hz2⟩⟩
  have HRD := Lib.hid (fun w => reader_c s hs hno hT hl w)
  have HH : Hid (wantB l 2 ⟨#[97, 114, 99, 104]⟩ 0 = true ∧ (1 < l.length ∧ (l.getD 1 Tk.zero).kind = 2) ∧ wantB l 4 ⟨#[59]⟩ 2 = true ∧ wantB l 2 ⟨#[102, 111, 114, 101, 105, 103, 110]⟩ 3 = true ∧ ∃ k1 n1 a1 k2 n2 a2 rs a3, verdS l 4 = some ((k1, n1), a1) ∧ wantB l 4 ⟨#[59]⟩ a1 = true ∧ wantB l 2 ⟨#[100, 101, 102, 97, 117, 108, 116]⟩ (a1 + 1) = true ∧ verdS l (a1 + 2) = some ((k2, n2), a2) ∧ wantB l 4 ⟨#[59]⟩ a2 = true ∧ rulesS l f2 (a2 + 1) [] = some (rs, a3) ∧ (a3 < l.length ∧ (l.getD a3 Tk.zero).kind = 1) ∧ p0 = ⟨(l.getD 1 Tk.zero).text, k1, n1, k2, n2, none, 0, rs⟩) := Lib.hid (by
    unfold parseS at hp
    split at hp
    · rename_i h1
      refine ⟨h1.1, h1.2.1, h1.2.2.1, h1.2.2.2, ?_⟩
      split at hp
      · cases hp
      · rename_i v1 a1 e1
        split at hp
        · rename_i h2
          split at hp
          · cases hp
          · rename_i v2 a2 e2
            split at hp
            · rename_i h3
              split at hp
              · cases hp
              · rename_i rs a3 e3
                split at hp
                · rename_i h4
                  injection hp with hp
                  exact ⟨v1.1, v1.2, a1, v2.1, v2.2, a2, rs, a3, e1, h2.1, h2.2, e2, h3, e3, h4, hp.symm⟩
                · cases hp
            · cases hp
        · cases hp
    · cases hp)
  clear hp hs hno hT
  obtain ⟨g1, g2, g3, g4, k1, n1, a1, k2, n2, a2, rs, a3, g5, g6, g7, g8, g9, g10, g11, rfl⟩ := HH.out
  have wt : ∀ {k : Int} {t : ByteArray} {a : Nat}, wantB l k t a = true → a < l.length ∧ tkB k t (l.getD a Tk.zero) = true := fun h => by simpa [wantB] using h
  have HW0 := Lib.hid (fun (A : Option Addr) (c R : Nat) w h => want_s (A := A) (c := c) (R := R) (d := 0) (ee := er) (pl := pl) 2 ⟨#[97, 114, 99, 104]⟩ w h (wt g1).1 (wt g1).2)
  have HW1 := Lib.hid (fun (A : Option Addr) (c R : Nat) w h => kind_s (A := A) (c := c) (R := R) (d := 0) (ee := er) (pl := pl) 2 w h g2.1 g2.2)
  have HW2 := Lib.hid (fun (A : Option Addr) (c R : Nat) w h => want_s (A := A) (c := c) (R := R) (d := 0) (ee := er) (pl := pl) 4 ⟨#[59]⟩ w h (wt g3).1 (wt g3).2)
  have HW3 := Lib.hid (fun (A : Option Addr) (c R : Nat) w h => want_s (A := A) (c := c) (R := R) (d := 0) (ee := er) (pl := pl) 2 ⟨#[102, 111, 114, 101, 105, 103, 110]⟩ w h (wt g4).1 (wt g4).2)
  have HW4 := Lib.hid (fun (A : Option Addr) (c R : Nat) w h => verdict_s (A := A) (c := c) (R := R) (d := 0) (ee := er) (pl := pl) w h g5)
  have HW5 := Lib.hid (fun (A : Option Addr) (c R : Nat) w h => want_s (A := A) (c := c) (R := R) (d := 0) (ee := er) (pl := pl) 4 ⟨#[59]⟩ w h (wt g6).1 (wt g6).2)
  have HW6 := Lib.hid (fun (A : Option Addr) (c R : Nat) w h => want_s (A := A) (c := c) (R := R) (d := 0) (ee := er) (pl := pl) 2 ⟨#[100, 101, 102, 97, 117, 108, 116]⟩ w h (wt g7).1 (wt g7).2)
  have HW7 := Lib.hid (fun (A : Option Addr) (c R : Nat) w h => verdict_s (A := A) (c := c) (R := R) (d := 0) (ee := er) (pl := pl) w h g8)
  have HW8 := Lib.hid (fun (A : Option Addr) (c R : Nat) w h => want_s (A := A) (c := c) (R := R) (d := 0) (ee := er) (pl := pl) 4 ⟨#[59]⟩ w h (wt g9).1 (wt g9).2)
  have HRU := Lib.hid (show ∃ f, rulesS l f (a2 + 1) [] = some (rs, a3) from ⟨_, g10⟩)
  have HW9 := Lib.hid (fun (A : Option Addr) (c R : Nat) w h => kind_s (A := A) (c := c) (R := R) (d := 0) (ee := er) (pl := pl) 1 w h g11.1 g11.2)
  obtain ⟨sk, ar, sn, sa, hs1⟩ : ∃ sk sx sn sa, l.getD 1 Tk.zero = ⟨sk, sx, sn, sa⟩ := ⟨_, _, _, _, rfl⟩
  rw [hs1] at HW1 ⊢
  dsimp only
  unfold Tk.val at HW1
  unfold verdV at HW4 HW7
  dsimp only at HW1 HW4 HW7
  have hfx : ∀ w, (Instr.field 83 (.agg #[.int .i64 sk, .string ar, .int .u64 sn, .int .i64 sa]) 1).run Try.prog w = .ok (.string ar) w := fun _ => by kernel_rfl
  clear HH g1 g2 g3 g4 g5 g6 g7 g8 g9 g10 g11 hs1 wt
  go_enter Try.func13, Try.ntmps13
  go_wp2_with fail
  refine (HRD.out _).mono ?_
  rintro e w0 ⟨R, A, c, rfl, hRge, hra, hbl⟩
  have hRlt := hra.lt
  have H0 := Lib.hid (show PB l er pl A c R w0 0 #[.string ⟨#[]⟩, .int .i64 0, .int .u64 0, .int .i64 0, .int .u64 0, .slice none 0 0] (w0.alloc (.cells #[.string ⟨#[]⟩, .int .i64 0, .int .u64 0, .int .i64 0, .int .u64 0, .slice none 0 0] 29)) from ⟨(RdW.start hra).alloc _, heap_nwT _ _⟩)
  have HBL := Lib.hid hbl
  have hwz : w.heap.size < w0.heap.size := by have := hbl.size; simp at this; omega
  have HOUT := Lib.hid (show w0.heap[w.heap.size]? = some (.cells #[.string ⟨#[]⟩, .int .i64 0, .int .u64 0, .int .i64 0, .int .u64 0, .slice none 0 0] 29 (0, 0)) from (hbl.block _ (by simp)).trans (heap_nwT w _))
  clear hra hbl
  go_wp2_with fail
  refine (HW0.out A c R _ H0.out.rd.at_).mono ?_
  rintro e w1 hr
  obtain rfl := hr.1
  have H1 := Lib.hid (H0.out.call hRlt hr)
  clear hr
  go_wp2_with fail
  refine (HW1.out A c R _ H1.out.rd.at_).mono ?_
  rintro e w2 hr
  obtain rfl := hr.1
  have H2 := Lib.hid (H1.out.call hRlt hr)
  have f0 := (box6 H2.out.box).2
  have b0 := (box6 H2.out.box).1
  obtain ⟨fb0, fb1, fb2, fb3, fb4, fb5⟩ := f0
  obtain ⟨b0, b1, b2, b3, b4, b5⟩ := b0
  clear hr
  go_upto_region 5 with (fail)
  have H3 : Hid (PB l er pl A c R w0 2 #[.string ar, .int .i64 0, .int .u64 0, .int .i64 0, .int .u64 0, .slice none 0 0] (w2.setCell ⟨w0.heap.size, 0, none⟩ (.string ar))) := Lib.hid (H2.out.set hRlt 0 _)
  generalize w2.setCell ⟨w0.heap.size, 0, none⟩ (.string ar) = w3 at H3 ⊢
  clear fb0 fb1 fb2 fb3 fb4 fb5 b0 b1 b2 b3 b4 b5
  go_wp2_with fail
  refine (HW2.out A c R _ H3.out.rd.at_).mono ?_
  rintro e w4 hr
  obtain rfl := hr.1
  have H4 := Lib.hid (H3.out.call hRlt hr)
  clear hr
  go_wp2_with fail
  refine (HW3.out A c R _ H4.out.rd.at_).mono ?_
  rintro e w5 hr
  obtain rfl := hr.1
  have H5 := Lib.hid (H4.out.call hRlt hr)
  clear hr
  go_wp2_with fail
  refine (HW4.out A c R _ H5.out.rd.at_).mono ?_
  rintro e w6 hr
  obtain rfl := hr.1
  have H6 := Lib.hid (H5.out.call hRlt hr)
  clear hr
  have f0 := (box6 H6.out.box).2
  have b0 := (box6 H6.out.box).1
  obtain ⟨fb0, fb1, fb2, fb3, fb4, fb5⟩ := f0
  obtain ⟨b0, b1, b2, b3, b4, b5⟩ := b0
  go_upto_region 8 with (fail)
  have H7 : Hid (PB l er pl A c R w0 a1 #[.string ar, .int .i64 k1, .int .u64 n1, .int .i64 0, .int .u64 0, .slice none 0 0] ((w6.setCell ⟨w0.heap.size, 1, none⟩ (.int .i64 k1)).setCell ⟨w0.heap.size, 2, none⟩ (.int .u64 n1))) := Lib.hid ((H6.out.set hRlt 1 _).set hRlt 2 _)
  generalize (w6.setCell ⟨w0.heap.size, 1, none⟩ (.int .i64 k1)).setCell ⟨w0.heap.size, 2, none⟩ (.int .u64 n1) = w7 at H7 ⊢
  clear fb0 fb1 fb2 fb3 fb4 fb5 b0 b1 b2 b3 b4 b5
  go_wp2_with fail
  refine (HW5.out A c R _ H7.out.rd.at_).mono ?_
  rintro e w8 hr
  obtain rfl := hr.1
  have H8 := Lib.hid (H7.out.call hRlt hr)
  clear hr
  go_wp2_with fail
  refine (HW6.out A c R _ H8.out.rd.at_).mono ?_
  rintro e w9 hr
  obtain rfl := hr.1
  have H9 := Lib.hid (H8.out.call hRlt hr)
  clear hr
  go_wp2_with fail
  refine (HW7.out A c R _ H9.out.rd.at_).mono ?_
  rintro e w10 hr
  obtain rfl := hr.1
  have H10 := Lib.hid (H9.out.call hRlt hr)
  clear hr
  have f0 := (box6 H10.out.box).2
  have b0 := (box6 H10.out.box).1
  obtain ⟨fb0, fb1, fb2, fb3, fb4, fb5⟩ := f0
  obtain ⟨b0, b1, b2, b3, b4, b5⟩ := b0
  go_upto_region 11 with (fail)
  have H11 : Hid (PB l er pl A c R w0 a2 #[.string ar, .int .i64 k1, .int .u64 n1, .int .i64 k2, .int .u64 n2, .slice none 0 0] ((w10.setCell ⟨w0.heap.size, 3, none⟩ (.int .i64 k2)).setCell ⟨w0.heap.size, 4, none⟩ (.int .u64 n2))) := Lib.hid ((H10.out.set hRlt 3 _).set hRlt 4 _)
  generalize (w10.setCell ⟨w0.heap.size, 3, none⟩ (.int .i64 k2)).setCell ⟨w0.heap.size, 4, none⟩ (.int .u64 n2) = w11 at H11 ⊢
  clear fb0 fb1 fb2 fb3 fb4 fb5 b0 b1 b2 b3 b4 b5
  go_wp2_with fail
  refine (HW8.out A c R _ H11.out.rd.at_).mono ?_
  rintro e w12 hr
  obtain rfl := hr.1
  have H12 := Lib.hid (H11.out.call hRlt hr)
  clear hr
  have HS : Hid (ParAt l er pl A c R w0 ar k1 n1 k2 n2 [] (a2 + 1) (.slice none 0 0) w12) := Lib.hid ⟨World.ownsRow_nil _ _ _ _, (fun r hr => by cases hr), H12.out, by simp⟩
  clear HW0 HW1 HW2 HW3 HW4 HW5 HW6 HW7 HW8 H0 H1 H2 H3 H4 H5 H6 H7 H8 H9 H10 H11 H12 HRD hfx
  go_wp2_with fail
  go_loopw [8] (fun _ wr => ∃ (v : Value) (acc acc0 : List RuA) (b : Nat), Hid (ParAt l er pl A c R w0 ar k1 n1 k2 n2 acc b v wr) ∧ Hid (acc.map RuA.strip = acc0.map RuA.strip) ∧ Hid (∃ f, rulesS l f b acc0 = some (rs, a3))) (fun _ wr => l.length - atOf wr R)
  case atStart => exact ⟨_, _, _, _, HS, Lib.hid rfl, HRU⟩
  case round =>
    obtain ⟨v, acc, acc0, b, HL, HST, HC⟩ := hrel
    clear HS HRU
    obtain ⟨f3, hf⟩ := HC.out
    obtain ⟨f3, rfl⟩ : ∃ f', f3 = f' + 1 := by cases f3 with | zero => cases hf | succ f => exact ⟨f, rfl⟩
    rw [rulesS] at hf
    by_cases hb1 : b < l.length
    · rw [if_pos hb1] at hf
      have HPK := Lib.hid (fun w h => peek_s (A := A) (c := c) (R := R) (d := 0) (ee := er) (pl := pl) w h hb1)
      obtain ⟨tk, tt, tn, ta, hs1⟩ : ∃ sk sx sn sa, l.getD b Tk.zero = ⟨sk, sx, sn, sa⟩ := ⟨_, _, _, _, rfl⟩
      rw [hs1] at HPK
      unfold Tk.val at HPK
      dsimp only at HPK
      obtain ⟨-, -, -, -, -, c5, -⟩ := HL.out.pb.rd.at_.cl
      dsimp only [St] at c5
      clear hs1
      cases hon : tkB 2 ⟨#[111, 110]⟩ (l.getD b Tk.zero) with
      | true =>
        rw [hon, if_pos rfl] at hf
        have HIS := Lib.hid (fun w h => is_t (A := A) (c := c) (R := R) (d := 0) (ee := er) (pl := pl) 2 ⟨#[111, 110]⟩ w h hb1 hon)
        by_cases h512 : acc0.length < 512
        · rw [if_pos h512] at hf
          cases hru : ruleS l f3 (b + 1) 0 with
          | none => rw [hru] at hf; cases hf
          | some y =>
            obtain ⟨x0, b2⟩ := y
            rw [hru] at hf
            dsimp only at hf
            have HRULE := Lib.hid (fun w h => rule_s (A := A) (c := c) (R := R) (ee := er) (pl := pl) w hru h)
            have hbb := ruleS_lt hru
            have hal : acc.length < 512 := by have := congrArg List.length HST.out; simp at this; omega
            have hne : ((acc.length : Int) == 512) = false := by rw [beq_eq_false_iff_ne]; omega
            have HF := Lib.hid hf
            have hlb := HL.out.len
            clear hf hru hon
            go_wp2_with fail
            refine (HPK.out _ HL.out.pb.rd.at_).mono ?_
            rintro e w1 hr
            obtain rfl := hr.1
            have HL1 := Lib.hid ((HL.out.call hRlt hr (Nat.le_refl _)).alloc (.cells #[.int .i64 tk, .string tt, .int .u64 tn, .int .i64 ta] 83))
            clear hr c5
            go_wp2_with fail
            refine (HIS.out _ HL1.out.pb.rd.at_).mono ?_
            rintro e w2 hr
            obtain rfl := hr.1
            have HL2 := Lib.hid (HL1.out.call hRlt hr (Nat.le_succ _))
            clear hr
            obtain ⟨Av, cv, rfl⟩ : ∃ Av cv, v = .slice Av acc.length cv := by
              rcases HL2.out.own.2 with ⟨h1, h2⟩ | ⟨g, cap, cur, h1, _⟩
              · exact ⟨none, 0, by rw [h1, h2]⟩
              · exact ⟨_, _, h1⟩
            obtain ⟨-, -, -, -, -, b5⟩ := (box6 HL2.out.pb.box).1
            obtain ⟨-, -, -, -, -, fb5⟩ := (box6 HL2.out.pb.box).2
            have hX : w0.heap.size < w2.heap.size := (Array.getElem?_eq_some_iff.1 HL2.out.pb.box).1
            go_wp2_with fail
            go_region_law (first
              | (go_simp; go_at_call 42; refine (HRULE.out _ (HL2.out.pb.rd.at_.drewN 1)).mono ?_; rintro e w3 ⟨⟨xA, xcap, xcs, ⟨xo, xeA, xec, xl, xf, xm, xr, xv⟩, xdk, xdd⟩, rfl, hstx, hin, hra, hkr⟩; have hkr' : KeepR R w2 w3 := ⟨hkr.os, hkr.tape, hkr.output, hkr.size, hkr.block⟩; have HO3 := Lib.hid (own_keepR HL2.out.own (by omega) hkr'); have HB3 := Lib.hid (keep_box hkr' HL2.out.pb.box hRlt); have HX3 := Lib.hid (And.intro hin (And.intro hra (And.intro hkr' hstx))); have s1 := (box6 HB3.out).1.2.2.2.2.2; have s2 := (box6 HB3.out).2.2.2.2.2.2; have hX3 : w0.heap.size < w3.heap.size := (Array.getElem?_eq_some_iff.1 HB3.out).1; unfold RuA.val RuA.cells ExA.cells; simp only [List.cons_append, List.nil_append]; clear hstx hin hra hkr hkr')
              | (refine step_app_at rfl (.tmp 53) (.tmp 56) 27 rfl (w0.heap.size + 1) 51 i0 _ 9 104 Try.underlying27 HI.out.1 HI.out.2.1 HI.out.2.2.1 HI.out.2.2.2 rfl (by decide) (.slice Av acc.length cv) acc.length (cellsU acc) rfl (own_alloc HO3.out _) ⟨w3.heap.size, 0, none⟩ 1 1 (RuA.cells ⟨xA, xcap, xcs, .mk xo xeA xec xl xf xm xr xv, xdk, xdd⟩) rfl rfl (fun j u hu => by rw [add_plain, Nat.zero_add]; exact (World.cell?_alloc_new _ _ _ _).trans (by simpa [RuA.cells, ExA.cells] using hu)) (RuA.cells_one _) (by simp only [maxLen]; omega) (by omega) (by simp; omega) ?_; intro v' w4 hown4 hg4 hat4; obtain ⟨g4, cap4, hv4, -, -⟩ := hown4.form (by omega); subst hv4; have hgt : ∀ k, (Value.slice Av acc.length cv).ownBlock = some k → w0.heap.size + 1 ≤ k := fun k hk => own_geT HO3.out k hk; have HB4 := Lib.hid (grown_box hg4 (alloc_box HB3.out _) (fun e => by have := hgt _ e; omega)); have HO4 := Lib.hid (And.intro hown4 (And.intro hg4 hat4)); have s4 := (box6 HB4.out).1.2.2.2.2.2; have s5 := (box6 HB4.out).2.2.2.2.2.2; clear hown4 hg4 hat4 hgt))
            all_goals (
              go_wp2
              have HM := Lib.hid (ParAt.more hRlt HL2.out HX3.out.2.1 HX3.out.2.2.1 HX3.out.1 hbb HO4.out.1 HO4.out.2.1 HO4.out.2.2)
              go_roundw
              case rel => exact ⟨_, _, acc0 ++ [x0], b2, HM, Lib.hid (by rw [List.map_append, List.map_append, HST.out, List.map_cons, List.map_cons, HX3.out.2.2.2]), Lib.hid ⟨_, HF.out⟩⟩
              case measure =>
                rw [HM.out.pb.rd.atOf, HL.out.pb.rd.atOf]; omega)
        · rw [if_neg h512] at hf; cases hf
      | false =>
        rw [hon, if_neg (by decide)] at hf
        have HIS := Lib.hid (fun w h => is_f (A := A) (c := c) (R := R) (d := 0) (ee := er) (pl := pl) 2 ⟨#[111, 110]⟩ w h hb1 hon)
        simp only [Option.some.injEq, Prod.mk.injEq] at hf
        obtain ⟨rfl, rfl⟩ := hf
        obtain ⟨Av, cv, rfl⟩ : ∃ Av cv, v = .slice Av acc.length cv := by
          rcases HL.out.own.2 with ⟨h1, h2⟩ | ⟨g, cap, cur, h1, _⟩
          · exact ⟨none, 0, by rw [h1, h2]⟩
          · exact ⟨_, _, h1⟩
        clear hon
        go_wp2_with fail
        refine (HPK.out _ HL.out.pb.rd.at_).mono ?_
        rintro e w1 hr
        obtain rfl := hr.1
        have HL1 := Lib.hid ((HL.out.call hRlt hr (Nat.le_refl _)).alloc (.cells #[.int .i64 tk, .string tt, .int .u64 tn, .int .i64 ta] 83))
        clear hr c5
        go_wp2_with fail
        refine (HIS.out _ HL1.out.pb.rd.at_).mono ?_
        rintro e w2 hr
        obtain rfl := hr.1
        have HL2 := Lib.hid (HL1.out.call hRlt hr (Nat.le_refl _))
        clear hr
        go_wp2_with fail
        refine (HW9.out A c R _ HL2.out.pb.rd.at_).mono ?_
        rintro e w3 hr
        obtain rfl := hr.1
        have HL3 := Lib.hid (HL2.out.call hRlt hr (Nat.le_succ _))
        have hRw : w.heap.size < R := by have := hRge; simp at this; omega
        have HO3 := Lib.hid ((HL3.out.pb.rd.keep.block w.heap.size hwz (fun e => by injection e with e; omega)).trans HOUT.out)
        clear hr
        obtain ⟨-, -, -, -, -, c5, -⟩ := HL3.out.pb.rd.at_.cl
        dsimp only [St] at c5
        obtain ⟨b0, b1, b2, b3, b4, b5⟩ := (box6 HL3.out.pb.box).1
        obtain ⟨o0, o1, o2, o3, o4, o5⟩ := (box6 HO3.out).1
        obtain ⟨fo0, fo1, fo2, fo3, fo4, fo5⟩ := (box6 HO3.out).2
        go_wp2
        obtain ⟨r0, r1, r2, r3, r4, r5⟩ := (box6 (set6 HO3.out (.string ar) (.int .i64 k1) (.int .u64 n1) (.int .i64 k2) (.int .u64 n2) (.slice Av acc.length cv))).1
        refine bodyPost_ret (v := .tuple #[PolA.val ⟨ar, k1, n1, k2, n2, Av, cv, acc⟩, .int .i64 0, .int .i64 0]) (by simp [results, Try.results13, go_sem, PolA.val, r0, r1, r2, r3, r4, r5]) rfl ?_
        have key : ∀ g, g ≠ w.heap.size → (set6W w3 w.heap.size (.string ar) (.int .i64 k1) (.int .u64 n1) (.int .i64 k2) (.int .u64 n2) (.slice Av acc.length cv)).heap[g]? = w3.heap[g]? := fun g hg => set6W_other _ _ _ _ _ _ hg
        have hk3 := HL3.out.pb.rd.keep
        have hz3 := HBL.out.size
        have F1 : PolA.In (set6W w3 w.heap.size (.string ar) (.int .i64 k1) (.int .u64 n1) (.int .i64 k2) (.int .u64 n2) (.slice Av acc.length cv)) (fun b => w.heap.size ≤ b) ⟨ar, k1, n1, k2, n2, Av, cv, acc⟩ := by
          refine ⟨?_, ?_⟩
          · exact (RowN.of_own (N := fun g => w0.heap.size < g) HL3.out.own (fun g _ hg => by omega)).keep (fun g hg _ => ⟨by omega, key g (by omega)⟩) (by decide)
          · intro r hr
            exact (HL3.out.all r hr).keep fun g hg _ => ⟨by omega, key g (by omega)⟩
        have hB3 : Below w.heap.size w w3 := ⟨hk3.os.trans HBL.out.os, hk3.tape.trans HBL.out.tape, hk3.output.trans HBL.out.output, by have := hk3.size; omega, fun g hg => (hk3.block g (by omega) (fun e => by injection e with e; omega)).trans ((HBL.out.block g (by simp; omega)).trans (Below.heap_alloc w _ g hg))⟩
        have F2 : Below w.heap.size w (set6W w3 w.heap.size (.string ar) (.int .i64 k1) (.int .u64 n1) (.int .i64 k2) (.int .u64 n2) (.slice Av acc.length cv)) :=
          (((((hB3.setCell (Nat.le_refl _) _).setCell (Nat.le_refl _) _).setCell (Nat.le_refl _) _).setCell (Nat.le_refl _) _).setCell (Nat.le_refl _) _).setCell (Nat.le_refl _) _
        unfold set6W at F1 F2
        exact ⟨⟨ar, k1, n1, k2, n2, Av, cv, acc⟩, rfl, (by unfold PolA.strip; dsimp only; rw [HST.out]), F1, F2⟩
    · rw [if_neg hb1] at hf; cases hf
end Go.Proofs.Ytebkbcpnjknkjaa
