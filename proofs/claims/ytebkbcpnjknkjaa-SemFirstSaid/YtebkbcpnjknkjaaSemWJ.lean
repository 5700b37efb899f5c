import Derived.Test.YtebkbcpnjknkjaaSemWI
set_option linter.unusedVariables false
set_option linter.unusedSimpArgs false
set_option maxRecDepth 100000
namespace Go.Proofs.Ytebkbcpnjknkjaa
open Go.RowKit
/-! sem.Eval: the walk. -/
def U32Post (x : Int) (w : World) (e : Ending) (w' : World) : Prop := e = .returned (.int .u32 x) ∧ Below w.heap.size w w'
structure EvS (w : World) (po do_ : Obj) (d : D9) (V AB mb : Nat) (vk vd : Int) (W : World) : Prop where
  hd : HD w po do_ W
  vbox : W.heap[V]? = some (.cells #[.int .i64 vk, .int .u64 vd] 26 (0, 0))
  abox : W.heap[AB]? = some (.cells (aCells d mb) 73 (0, 0))
  rels : RelsAt W mb
theorem EvS.call {w W W' : World} {po do_ : Obj} {d : D9} {V AB mb : Nat} {vk vd : Int} (h : EvS w po do_ d V AB mb vk vd W) (hb : Below W.heap.size W W') : EvS w po do_ d V AB mb vk vd W' :=
  ⟨h.hd.call hb, keepH hb h.vbox, keepH hb h.abox, h.rels.below hb⟩
theorem EvS.alloc {w W : World} {po do_ : Obj} {d : D9} {V AB mb : Nat} {vk vd : Int} (h : EvS w po do_ d V AB mb vk vd W) (o : Obj) : EvS w po do_ d V AB mb vk vd (W.alloc o) := h.call (below1 W o)
theorem acl {W : World} {g : Nat} {d : D9} {mb : Nat} {t : TypeId} (h : W.heap[g]? = some (.cells (aCells d mb) t (0, 0))) : W.cell? ⟨g, 0, none⟩ = some (.int .u32 d.nr) ∧ W.cell? ⟨g, 1, none⟩ = some (.int .u32 d.arch) ∧ W.cell? ⟨g, 2, none⟩ = some (.int .u64 d.ip) ∧ W.cell? ⟨g, 3, none⟩ = some (.int .u64 d.a0) ∧ W.cell? ⟨g, 4, none⟩ = some (.int .u64 d.a1) ∧ W.cell? ⟨g, 5, none⟩ = some (.int .u64 d.a2) ∧ W.cell? ⟨g, 6, none⟩ = some (.int .u64 d.a3) ∧ W.cell? ⟨g, 7, none⟩ = some (.int .u64 d.a4) ∧ W.cell? ⟨g, 8, none⟩ = some (.int .u64 d.a5) ∧ W.cell? ⟨g, 9, none⟩ = some (.map (some mb)) := by
  simp [World.cell?, h, aCells]
theorem box2R {W : World} {g : Nat} {a b : Value} {t : TypeId} (h : W.heap[g]? = some (.cells #[a, b] t (0, 0))) : W.cell? ⟨g, 0, none⟩ = some a ∧ W.cell? ⟨g, 1, none⟩ = some b ∧ W.frozen? ⟨g, 0, none⟩ = false ∧ W.frozen? ⟨g, 1, none⟩ = false := by simp [World.cell?, World.frozen?, h]
theorem heap_setX {w : World} {B j : Nat} {c : Array Value} {t : TypeId} {fr : Nat × Nat} (h : w.heap[B]? = some (.cells c t fr)) (v : Value) : (w.setCell ⟨B, j, none⟩ v).heap[B]? = some (.cells (c.setIfInBounds j v) t fr) := by
  have hlt := (Array.getElem?_eq_some_iff.1 h).1
  have h' : w.heap[B] = .cells c t fr := (Array.getElem?_eq_some_iff.1 h).2
  show (w.heap.modify B _)[B]? = _
  rw [Array.getElem?_eq_getElem (by simpa using hlt), Array.getElem_modify_self, h']
  rfl
theorem set2X {W : World} {g : Nat} {a b : Value} {t : TypeId} (h : W.heap[g]? = some (.cells #[a, b] t (0, 0))) (a' b' : Value) :
    ((W.setCell ⟨g, 0, none⟩ a').setCell ⟨g, 1, none⟩ b').heap[g]? = some (.cells #[a', b'] t (0, 0)) := by
  rw [heap_setX (heap_setX h a') b']; rfl
theorem checkP_rules {M : Int} {p : PolA} (h : (checkP M p).1 = 0) : p.rules.length ≤ 512 ∧ (actionP p.fk p.fd).2 = true ∧ ∀ r ∈ p.rules, ruleP M p.arch r = 0 := by
  unfold checkP at h
  split at h
  · cases h
  · split at h
    · cases h
    · rename_i h2
      split at h
      · cases h
      · refine ⟨by omega, by cases hh : (actionP p.fk p.fd).2 with | true => rfl | false => exact absurd (Or.inl hh) h2, ?_⟩
        have key : ∀ (l : List RuA) (i : Nat), (rulesP M p.arch i l).1 = 0 → ∀ r ∈ l, ruleP M p.arch r = 0 := by
          intro l
          induction l with
          | nil => intro i _ r hr; cases hr
          | cons x l ih =>
            intro i hi r hr
            rw [rulesP] at hi
            split at hi
            · rename_i h1; exact absurd hi h1
            · rename_i h1
              rcases List.mem_cons.1 hr with rfl | hr
              · exact Classical.byContradiction h1
              · exact ih _ hi r hr
        exact key _ _ h
theorem ruleP_when {M : Int} {a : ByteArray} {x : RuA} (h : ruleP M a x = 0) : withinP M 0 x.when_ = 0 := by
  unfold ruleP at h
  split at h
  · cases h
  · split at h
    · rename_i h1; exact absurd h h1
    · split at h
      · rename_i h1; exact absurd h h1
      · rename_i h1; exact Classical.byContradiction h1
theorem box10 {W : World} {g : Nat} {a b c d e f p q r s : Value} {t : TypeId} (h : W.heap[g]? = some (.cells #[a, b, c, d, e, f, p, q, r, s] t (0, 0))) : W.cell? ⟨g, 0, none⟩ = some a ∧ W.cell? ⟨g, 1, none⟩ = some b ∧ W.cell? ⟨g, 2, none⟩ = some c ∧ W.cell? ⟨g, 3, none⟩ = some d ∧ W.cell? ⟨g, 4, none⟩ = some e ∧ W.cell? ⟨g, 5, none⟩ = some f ∧ W.cell? ⟨g, 6, none⟩ = some p ∧ W.cell? ⟨g, 7, none⟩ = some q ∧ W.cell? ⟨g, 8, none⟩ = some r ∧ W.cell? ⟨g, 9, none⟩ = some s ∧ ∀ j, W.frozen? ⟨g, j, none⟩ = false := by simp [World.cell?, World.frozen?, h]
def set10W (W : World) (g : Nat) (a b c d e f p q r s : Value) : World := (((((((((W.setCell ⟨g, 0, none⟩ a).setCell ⟨g, 1, none⟩ b).setCell ⟨g, 2, none⟩ c).setCell ⟨g, 3, none⟩ d).setCell ⟨g, 4, none⟩ e).setCell ⟨g, 5, none⟩ f).setCell ⟨g, 6, none⟩ p).setCell ⟨g, 7, none⟩ q).setCell ⟨g, 8, none⟩ r).setCell ⟨g, 9, none⟩ s
theorem set10W_other {W : World} {g k : Nat} (a b c d e f p q r s : Value) (h : k ≠ g) : (set10W W g a b c d e f p q r s).heap[k]? = W.heap[k]? := by
  unfold set10W
  iterate 10 rw [Below.heap_setCell _ _ _ _ (by exact h)]
theorem set10W_box {W : World} {g : Nat} (a b c d e f p q r s : Value) {a' b' c' d' e' f' p' q' r' s' : Value} {t : TypeId} (h : W.heap[g]? = some (.cells #[a', b', c', d', e', f', p', q', r', s'] t (0, 0))) : (set10W W g a b c d e f p q r s).heap[g]? = some (.cells #[a, b, c, d, e, f, p, q, r, s] t (0, 0)) := by
  unfold set10W
  rw [heap_setX (heap_setX (heap_setX (heap_setX (heap_setX (heap_setX (heap_setX (heap_setX (heap_setX (heap_setX h a) b) c) d) e) f) p) q) r) s]
  simp
theorem set10W_below {w W : World} {g : Nat} (a b c d e f p q r s : Value) (h : Below w.heap.size w W) (hg : w.heap.size ≤ g) : Below w.heap.size w (set10W W g a b c d e f p q r s) :=
  (((((((((h.setCell hg _).setCell hg _).setCell hg _).setCell hg _).setCell hg _).setCell hg _).setCell hg _).setCell hg _).setCell hg _).setCell hg _
theorem EvS.put {w W : World} {po do_ : Obj} {d : D9} {V AB mb : Nat} {vk vd : Int} {a' b' c' d' e' f' p' q' r' s' : Value} (h : HD w po do_ W) (hv : W.heap[V]? = some (.cells #[.int .i64 vk, .int .u64 vd] 26 (0, 0))) (hm : RelsAt W mb) (hz : W.heap[AB]? = some (.cells #[a', b', c', d', e', f', p', q', r', s'] 73 (0, 0))) (h1 : w.heap.size + 2 ≤ AB) (h2 : V ≠ AB) (h3 : mb ≠ AB) :
    EvS w po do_ d V AB mb vk vd (set10W W AB (.int .u32 d.nr) (.int .u32 d.arch) (.int .u64 d.ip) (.int .u64 d.a0) (.int .u64 d.a1) (.int .u64 d.a2) (.int .u64 d.a3) (.int .u64 d.a4) (.int .u64 d.a5) (.map (some mb))) := by
  refine ⟨⟨set10W_below _ _ _ _ _ _ _ _ _ _ h.below (by omega), (set10W_other _ _ _ _ _ _ _ _ _ _ (by omega)).trans h.ebox, (set10W_other _ _ _ _ _ _ _ _ _ _ (by omega)).trans h.dbox⟩, (set10W_other _ _ _ _ _ _ _ _ _ _ h2).trans hv, set10W_box _ _ _ _ _ _ _ _ _ _ hz, ?_⟩
  have hs : ∀ {X : World} {j : Nat} {u : Value}, RelsAt X mb → RelsAt (X.setCell ⟨AB, j, none⟩ u) mb := fun h => World.ownsMap.setCell h (by exact h3) _
  unfold set10W
  exact hs (hs (hs (hs (hs (hs (hs (hs (hs (hs hm)))))))))
set_option maxHeartbeats 3200000 in
theorem Eval_c (N : Nat → Prop) (p : PolA) (d : D9) (w : World) (hok : p.Ok) (hin : p.In w N) : Calls Try.prog 12 #[p.val, d.val] w (U32Post (evalP 1099511627776 p d) w) := by
  have HCK := Lib.hid (fun W hb => Check_c N p W hok (hin.keep (N' := N) (fun b hb' hl => ⟨hb', (show Below w.heap.size w W from hb).block b hl⟩)))
  obtain ⟨ce, cat, hce⟩ : ∃ a b, checkP 1099511627776 p = (a, b) := ⟨_, _, rfl⟩
  have HRL := Lib.hid (fun h0 : ce = 0 => checkP_rules (M := 1099511627776) (p := p) (by rw [hce]; exact h0))
  obtain ⟨res, hres⟩ : ∃ res, res = evalP 1099511627776 p d := ⟨_, rfl⟩
  rw [← hres]
  unfold evalP at hres
  rw [hce] at hres HCK
  obtain ⟨ar, fk, fd, dk, dd, A, cap, rs⟩ := p
  obtain ⟨hsz, hfd, hdd, hrs⟩ := hok
  obtain ⟨hrow, hall⟩ := hin
  unfold CheckPost at HCK
  dsimp only at hsz hfd hdd hrs hrow hall hres HCK HRL
  have HARCH := Lib.hid (fun w => Arch_c ar hsz w)
  obtain ⟨an, ab, har⟩ : ∃ an ab, archP ar.data.toList = (an, ab) := ⟨_, _, rfl⟩
  unfold ArchPost at HARCH
  rw [har] at HARCH hres
  dsimp only at HARCH hres
  have HA1 := Lib.hid (fun w => Action_c fk fd hfd w)
  have HA2 := Lib.hid (fun w => Action_c dk dd hdd w)
  have HRS := Lib.hid hrs
  have HROW := Lib.hid hrow
  have HALL := Lib.hid hall
  have HRES := Lib.hid hres
  have HS := Lib.hid (HD.start w #[.string ar, .int .i64 fk, .int .u64 fd, .int .i64 dk, .int .u64 dd, .slice A rs.length cap] d.cells.toArray 29 34)
  unfold D9.cells at HS
  unfold PolA.val at HCK ⊢
  unfold D9.val
  dsimp only at HCK ⊢
  unfold NumPost7 at HA1 HA2
  clear hsz hfd hdd hrs hrow hall har hce hres
  go_enter Try.func12, Try.ntmps12
  go_wp2_with fail
  refine (HCK.out _ HS.out.below).mono ?_
  rintro e w1 ⟨rfl, hb1⟩
  have H1 := Lib.hid (HS.out.call hb1)
  clear hb1
  by_cases h0 : ce = 0
  · subst h0
    obtain ⟨b0, b1, b2, b3, b4, b5⟩ := (box6 H1.out.ebox).1
    have HRES2 := Lib.hid (by have := HRES.out; rwa [if_neg (by decide)] at this)
    go_wp2_with fail
    refine (HARCH.out _).mono ?_
    rintro e w2 ⟨rfl, hb2⟩
    have H2 := Lib.hid (H1.out.call hb2)
    clear hb2 b0 b1 b2 b3 b4 b5
    obtain ⟨b0, b1, b2, b3, b4, b5⟩ := (box6 H2.out.ebox).1
    obtain ⟨d0, d1, d2, d3, d4, d5, d6, d7, d8⟩ := dcl H2.out.dbox
    by_cases ha : d.arch = an
    · have HRES3 : Hid (res = saysP ar d (actionP dk dd).1 (rs.drop 0)) := Lib.hid (by have := HRES2.out; rw [if_neg (fun h => h ha)] at this; exact this)
      have ha1 : (d.arch != an) = false := by simp [ha]
      clear ha
      go_upto_region 9 with (fail)
      have HV := Lib.hid (show HD w (.cells #[.string ar, .int .i64 fk, .int .u64 fd, .int .i64 dk, .int .u64 dd, .slice A rs.length cap] 29 (0, 0)) (.cells #[.int .u32 d.nr, .int .u32 d.arch, .int .u64 d.ip, .int .u64 d.a0, .int .u64 d.a1, .int .u64 d.a2, .int .u64 d.a3, .int .u64 d.a4, .int .u64 d.a5] 34 (0, 0)) (w2.alloc (.cells #[.int .i64 dk, .int .u64 dd] 26)) ∧ (w2.alloc (.cells #[.int .i64 dk, .int .u64 dd] 26)).heap[w2.heap.size]? = some (.cells #[.int .i64 dk, .int .u64 dd] 26 (0, 0)) from ⟨H2.out.alloc _, heap_nwT _ _⟩)
      obtain ⟨V, hV⟩ : ∃ V, V = w2.heap.size := ⟨_, rfl⟩
      have hwV : w.heap.size + 2 ≤ V := by have := (Array.getElem?_eq_some_iff.1 H2.out.dbox).1; omega
      rw [← hV] at HV ⊢
      generalize w2.alloc (.cells #[.int .i64 dk, .int .u64 dd] 26) = wv at HV ⊢
      clear hV b0 b1 b2 b3 b4 b5 d0 d1 d2 d3 d4 d5 d6 d7 d8 H1 H2 HS HCK HARCH
      go_cut [12] (fun s12 wc => ∃ AB mb, s12 = .pointer (some ⟨AB, 0, none⟩) ∧ Hid (EvS w (.cells #[.string ar, .int .i64 fk, .int .u64 fd, .int .i64 dk, .int .u64 dd, .slice A rs.length cap] 29 (0, 0)) (.cells #[.int .u32 d.nr, .int .u32 d.arch, .int .u64 d.ip, .int .u64 d.a0, .int .u64 d.a1, .int .u64 d.a2, .int .u64 d.a3, .int .u64 d.a4, .int .u64 d.a5] 34 (0, 0)) d V AB mb dk dd wc))
      case first =>
        obtain ⟨d0, d1, d2, d3, d4, d5, d6, d7, d8⟩ := dcl HV.out.1.dbox
        have hlv := (Array.getElem?_eq_some_iff.1 HV.out.1.dbox).1
        go_region_law (first
          | (go_simp; go_at_call 30; refine (rels_c _).mono ?_; rintro e w3 ⟨rfl, hm3, hb3⟩; have HA3 := Lib.hid (And.intro ((HV.out.1.drewN 1).call hb3) (And.intro (keepH (W := wv.drewN 1) hb3 HV.out.2) hm3)); have hl3 := (Array.getElem?_eq_some_iff.1 HA3.out.1.dbox).1; obtain ⟨e0, e1, e2, e3, e4, e5, e6, e7, e8⟩ := dcl HA3.out.1.dbox; clear hb3 hm3)
          | (go_simp; go_at_call 30; refine (rels_c _).mono ?_; rintro e w3 ⟨rfl, hm3, hb3⟩; have HB3 := Lib.hid (And.intro (((HV.out.1.alloc (.cells #[.int .u32 0, .int .u32 0, .int .u64 0, .int .u64 0, .int .u64 0, .int .u64 0, .int .u64 0, .int .u64 0, .int .u64 0, .map none] 73)).drewN 1).call hb3) (And.intro (keepH (W := (wv.alloc (.cells #[.int .u32 0, .int .u32 0, .int .u64 0, .int .u64 0, .int .u64 0, .int .u64 0, .int .u64 0, .int .u64 0, .int .u64 0, .map none] 73)).drewN 1) hb3 (alloc_box HV.out.2 _)) (And.intro hm3 (keepH (W := (wv.alloc (.cells #[.int .u32 0, .int .u32 0, .int .u64 0, .int .u64 0, .int .u64 0, .int .u64 0, .int .u64 0, .int .u64 0, .int .u64 0, .map none] 73)).drewN 1) hb3 (heap_nwT wv (.cells #[.int .u32 0, .int .u32 0, .int .u64 0, .int .u64 0, .int .u64 0, .int .u64 0, .int .u64 0, .int .u64 0, .int .u64 0, .map none] 73)))))); have hVl := (Array.getElem?_eq_some_iff.1 HV.out.2).1; have hl3 := (Array.getElem?_eq_some_iff.1 HB3.out.1.dbox).1; obtain ⟨e0, e1, e2, e3, e4, e5, e6, e7, e8⟩ := dcl HB3.out.1.dbox; obtain ⟨z0, z1, z2, z3, z4, z5, z6, z7, z8, z9, zf⟩ := box10 HB3.out.2.2.2; have zf0 := zf 0; have zf1 := zf 1; have zf2 := zf 2; have zf3 := zf 3; have zf4 := zf 4; have zf5 := zf 5; have zf6 := zf 6; have zf7 := zf 7; have zf8 := zf 8; have zf9 := zf 9; clear hb3 hm3 zf))
        all_goals (
          go_wp2
          go_meet
          first
          | exact ⟨_, _, rfl, Lib.hid ⟨HA3.out.1.alloc _, alloc_box HA3.out.2.1 _, heap_nwT _ _, HA3.out.2.2.below (below1 _ _)⟩⟩
          | exact ⟨_, _, rfl, Lib.hid (EvS.put HB3.out.1 HB3.out.2.1 (by have h := HB3.out.2.2.1; simpa using h) HB3.out.2.2.2 (by omega) (by omega) (by simp))⟩)
      case rest =>
        obtain ⟨AB, mb, rfl, HE0⟩ := hcut
        obtain ⟨hr512, hfok, hrule⟩ := HRL.out (by simp)
        have HRULE := Lib.hid hrule
        clear HV HRL hfok hrule
        obtain ⟨b0, b1, b2, b3, b4, b5⟩ := (box6 HE0.out.hd.ebox).1
        go_wp2_with fail
        clear b0 b1 b2 b3 b4 b5
        go_loopw [50] (fun i wr => ∃ n : Nat, i = .int .i64 n ∧ n ≤ rs.length ∧ Hid (EvS w (.cells #[.string ar, .int .i64 fk, .int .u64 fd, .int .i64 dk, .int .u64 dd, .slice A rs.length cap] 29 (0, 0)) (.cells #[.int .u32 d.nr, .int .u32 d.arch, .int .u64 d.ip, .int .u64 d.a0, .int .u64 d.a1, .int .u64 d.a2, .int .u64 d.a3, .int .u64 d.a4, .int .u64 d.a5] 34 (0, 0)) d V AB mb dk dd wr) ∧ Hid (res = saysP ar d (actionP dk dd).1 (rs.drop n))) (fun i _ => rs.length - (intOf i).toNat)
        case atStart => exact ⟨0, rfl, by omega, HE0, HRES3⟩
        case round =>
          obtain ⟨n, rfl, hn, HB, HE⟩ := hrel
          clear HE0 HRES3
          rcases Nat.lt_or_ge n rs.length with hlt | hge
          · have hlt' : (n : Int) < rs.length := by omega
            obtain ⟨⟨xA, xcap, cs, ⟨xo, xeA, xc, xl, xf, xm, xr, xv⟩, xdk, xdd⟩, hy⟩ : ∃ y, rs[n]? = some y := ⟨_, List.getElem?_eq_getElem hlt⟩
            have hE := HE.out
            rw [saysP_drop hy] at hE
            have hmem := List.mem_of_getElem? hy
            obtain ⟨b, off, rfl, hbb, i0, i1, i2, i3, i4, i5, i6, i7, i8⟩ := (HROW.out.keep (N' := N) (fun b hb hl => ⟨hb, HB.out.hd.below.block b hl⟩) (by decide)).rule hy
            have hinr := (HALL.out _ hmem).keep (N' := N) (fun b hb hl => ⟨hb, HB.out.hd.below.block b hl⟩)
            have hok := HRS.out _ hmem
            have hwi := ruleP_when (HRULE.out _ hmem)
            obtain ⟨hnrs, hxdd, hclen, hfit⟩ := hok
            obtain ⟨hcalls, hwhen⟩ := hinr
            dsimp only at hnrs hxdd hclen hfit hcalls hwhen hwi hE
            have hmf : ∀ (fn : Fn) (first cap : Array Value) (w : World), (Instr.makeFunc fn first cap).run Try.prog w = .ok (.func fn first cap) w := fun _ _ _ _ => rfl
            rw [named_any] at hE
            have HWR := Lib.hid (HB.out.alloc (.cells #[.slice xA cs.length xcap, .int .i64 xo, .slice xeA xl.length xc, .int .i64 xf, .int .u64 xm, .int .i64 xr, .int .u64 xv, .int .i64 xdk, .int .u64 xdd] 51))
            have HRB := Lib.hid (heap_nwT wr (.cells #[.slice xA cs.length xcap, .int .i64 xo, .slice xeA xl.length xc, .int .i64 xf, .int .u64 xm, .int .i64 xr, .int .u64 xv, .int .i64 xdk, .int .u64 xdd] 51))
            have HNM := Lib.hid (ContainsK_c w.heap.size (w.heap.size + 1) (fun x => (nrP ar x).1 == d.nr) N xA xcap cs hclen (wr.alloc (.cells #[.slice xA cs.length xcap, .int .i64 xo, .slice xeA xl.length xc, .int .i64 xf, .int .u64 xm, .int .i64 xr, .int .u64 xv, .int .i64 xdk, .int .u64 xdd] 51)) (hcalls.keep (N' := N) (fun b hb hl => ⟨hb, Below.heap_alloc wr _ b hl⟩) (by decide)) (fun i y W hy hb =>
              Eval1_c ar d y (hnrs y (List.mem_of_getElem? hy)) w.heap.size (w.heap.size + 1) W (box6 (HWR.out.call hb).hd.ebox).1.1 (dcl (d := d) (HWR.out.call hb).hd.dbox).1))
            obtain ⟨q, hq⟩ : ∃ q, q = cs.any fun x => (nrP ar x).1 == d.nr := ⟨_, rfl⟩
            rw [← hq] at HNM hE
            obtain ⟨hv, hhv⟩ : ∃ hv, hv = holdsP d (.mk xo xeA xc xl xf xm xr xv) := ⟨_, rfl⟩
            have HHO := Lib.hid (fun W hb hm => holds_c d mb 1099511627776 N 201 (.mk xo xeA xc xl xf xm xr xv) 0 W (by omega) hwi (hwhen.keep (N' := N) (fun b hb' hl => ⟨hb', (show Below wr.heap.size wr W from hb).block b hl⟩)) hfit hm)
            rw [← hhv] at HHO hE
            have HAX := Lib.hid (fun w => Action_c xdk xdd hxdd w)
            unfold BoolPost at HNM HHO
            unfold aVal aCells ExA.val at HHO
            unfold NumPost7 at HAX
            dsimp only at HHO
            have HE2 := Lib.hid hE
            clear hE hy hmem hcalls hwhen hwi hfit hnrs hxdd hq hhv
            cases q with
            | false =>
              have HF := Lib.hid (by have := HE2.out; rwa [if_neg (by simp)] at this)
              go_wp2_with fail
              refine HNM.out.mono ?_
              rintro e w3 ⟨rfl, hb3⟩
              have HB3 := Lib.hid (HWR.out.call hb3)
              clear hb3
              go_wp2
              go_roundw
              case rel => exact ⟨n + 1, by go_num, by omega, HB3, HF⟩
              case measure => simp [intOf]; omega
            | true =>
              go_wp2_with fail
              refine HNM.out.mono ?_
              rintro e w3 ⟨rfl, hb3⟩
              have HB3 := Lib.hid (HWR.out.call hb3)
              have HR3 := Lib.hid (keepH hb3 HRB.out)
              have HW3 := Lib.hid (show Below wr.heap.size wr w3 from below_t (below1 wr _) hb3)
              clear hb3
              obtain ⟨p0, p1, p2, p3, p4, p5, p6, p7, p8⟩ := box9R HR3.out
              obtain ⟨a0, a1, a2, a3, a4, a5, a6, a7, a8, a9⟩ := acl HB3.out.abox
              go_wp2_with fail
              refine (HHO.out _ HW3.out HB3.out.rels).mono ?_
              rintro e w4 ⟨rfl, hb4⟩
              have HB4 := Lib.hid (HB3.out.call hb4)
              have HR4 := Lib.hid (keepH hb4 HR3.out)
              clear hb4 p0 p1 p2 p3 p4 p5 p6 p7 p8 a0 a1 a2 a3 a4 a5 a6 a7 a8 a9
              cases hv with
              | false =>
                have HF := Lib.hid (by have := HE2.out; rwa [if_neg (by simp)] at this)
                go_wp2
                go_roundw
                case rel => exact ⟨n + 1, by go_num, by omega, HB4, HF⟩
                case measure => simp [intOf]; omega
              | true =>
                have HF := Lib.hid (by have := HE2.out; rwa [if_pos (by simp)] at this)
                obtain ⟨p0, p1, p2, p3, p4, p5, p6, p7, p8⟩ := box9R HR4.out
                obtain ⟨v0, v1, fv0, fv1⟩ := box2R HB4.out.vbox
                have hbelow := Lib.hid (show Below w.heap.size w ((w4.setCell ⟨V, 0, none⟩ (.int .i64 xdk)).setCell ⟨V, 1, none⟩ (.int .u64 xdd)) from (HB4.out.hd.below.setCell (show w.heap.size ≤ V by omega) _).setCell (show w.heap.size ≤ V by omega) _)
                obtain ⟨u0, u1, -, -⟩ := box2R (set2X HB4.out.vbox (.int .i64 xdk) (.int .u64 xdd))
                go_wp2_with fail
                refine (HAX.out _).mono ?_
                rintro e w5 ⟨rfl, hb5⟩
                have HB5 := Lib.hid (below_t hbelow.out hb5)
                clear hb5
                go_wp2
                go_ret
                exact ⟨by rw [HF.out]; rfl, HB5.out⟩
          · obtain rfl : n = rs.length := by omega
            have HF : Hid (res = (actionP dk dd).1) := Lib.hid (by rw [HE.out, List.drop_length]; rfl)
            obtain ⟨v0, v1, -, -⟩ := box2R HB.out.vbox
            go_wp2_with fail
            refine (HA2.out _).mono ?_
            rintro e w5 ⟨rfl, hb5⟩
            have HB5 := Lib.hid (below_t HB.out.hd.below hb5)
            clear hb5
            go_wp2
            go_ret
            exact ⟨by rw [HF.out]; rfl, HB5.out⟩
    · have HF := Lib.hid (by have := HRES2.out; rwa [if_pos ha] at this)
      have ha1 : (d.arch != an) = true := by simpa using ha
      clear ha
      go_wp2_with fail
      refine (HA1.out _).mono ?_
      rintro e w3 ⟨rfl, hb3⟩
      have HB3 := Lib.hid (below_t H2.out.below hb3)
      clear hb3
      go_wp2
      go_ret
      exact ⟨by rw [HF.out]; rfl, HB3.out⟩
  · have HF := Lib.hid (by have := HRES.out; rwa [if_pos h0] at this)
    have h1 : (ce != 0) = true := by simpa using h0
    clear h0
    go_wp2
    go_ret
    exact ⟨by rw [HF.out]; rfl, H1.out.below⟩
end Go.Proofs.Ytebkbcpnjknkjaa
