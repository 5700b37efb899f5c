import Derived.Test.YtebkbcpnjknkjaaSemWD
import Derived.Test.YtebkbcpnjknkjaaStep
import Derived.WalkSpells
import Derived.Deep.RegionLaw
import Derived.Deep.DeepCutAuto
import Derived.Deep.CutBlock
import Derived.IntWalk
set_option linter.unusedVariables false
set_option linter.unusedSimpArgs false
set_option maxRecDepth 100000
namespace Go.Proofs.Ytebkbcpnjknkjaa
open Go.RowKit
/-! slices.Clone of six numbers; a test. -/
theorem infoU64 : (Try.prog.info? 24).map (fun i => (i.zero, i.size, i.bytes)) = some (some (.int .u64 0), 1, 8) := by kernel_rfl
def CloneU (l : List Int) (w : World) (e : Ending) (w' : World) : Prop := ∃ g cap, e = .returned (.slice (some ⟨g, 0, none⟩) 6 cap) ∧ w'.ownsRow w.heap.size 24 1 (.slice (some ⟨g, 0, none⟩) 6 cap) 6 (numV .u64 l) ∧ Below w.heap.size w w'
set_option maxHeartbeats 800000 in
theorem CloneU_c (l : List Int) (hl : l.length = 6) (b off cap : Nat) (w : World) (hr : Reads w w.heap.size 1 (some ⟨b, off, none⟩) 6 (numV .u64 l)) : Calls Try.prog 64 #[.slice (some ⟨b, off, none⟩) 6 cap] w (CloneU l w) := by
  have heq := Lib.run_eql_slice_nil (P := Try.prog) w 116 24 (some ⟨b, off, none⟩) 6 cap 0 0 Try.underlying116
  obtain ⟨i0, HI⟩ : ∃ i0, Hid (Try.prog.info? 24 = some i0 ∧ i0.zero = some (.int .u64 0) ∧ i0.size = 1 ∧ i0.bytes = 8) := by
    obtain ⟨i0, hi, hz0, hz1, hz2⟩ := info_parts infoU64
    exact ⟨i0, Lib.hid ⟨hi, hz0, hz1, hz2⟩⟩
  have HR := Lib.hid hr
  have HL := Lib.hid hl
  have h0 : (w.alloc (.cells #[] 24)).ownsRow w.heap.size 24 1 (.slice (some ⟨w.heap.size, 0, none⟩) 0 0) 0 [] := World.ownsRow_lit w #[] 0 (Nat.le_refl _) (by decide) rfl
  have HO := Lib.hid h0
  clear hr hl h0
  go_enter Try.func64, Try.ntmps64
  go_wp2_with (at_builtin; refine wpList_app rfl (.tmp 5) (.tmp 6) 116 rfl w.heap.size 24 i0 _ 1 8 Try.underlying116 HI.out.1 HI.out.2.1 HI.out.2.2.1 HI.out.2.2.2 rfl (by decide) _ 0 [] rfl HO.out (some ⟨b, off, none⟩) w.heap.size 6 cap (numV .u64 l) rfl (fun h => by cases h) (HR.out.alloc (Nat.le_refl _) _) (by intro u hu; simp [numV] at hu; obtain ⟨x, _, rfl⟩ := hu; rfl) (by simp only [maxLen]; omega) (by omega) (by simp) ?_; intro v1 w1 hown1 hg1 _; obtain ⟨g1, cap1, hv1, -, -⟩ := hown1.form (by omega); subst hv1; have hb1 : Below w.heap.size w w1 := Below.grown (below1 w _) hg1 (by simp) (fun k hk => Nat.le_of_eq (Option.some.inj hk)); (try simp only [Nat.zero_add, List.nil_append] at hown1); have HO1 := Lib.hid hown1; clear hg1 hown1)
  go_ret
  exact ⟨g1, cap1, rfl, HO1.out, hb1⟩
def aCells (d : D9) (mb : Nat) : Array Value := #[.int .u32 d.nr, .int .u32 d.arch, .int .u64 d.ip, .int .u64 d.a0, .int .u64 d.a1, .int .u64 d.a2, .int .u64 d.a3, .int .u64 d.a4, .int .u64 d.a5, .map (some mb)]
def aVal (d : D9) (mb : Nat) : Value := .agg (aCells d mb)
def BoolPost (x : Bool) (w : World) (e : Ending) (w' : World) : Prop := e = .returned (.bool x) ∧ Below w.heap.size w w'
structure HoldS (w : World) (d : D9) (mb : Nat) (ob : Obj) (W : World) : Prop where
  below : Below w.heap.size w W
  abox : W.heap[w.heap.size]? = some (.cells (aCells d mb) 73 (0, 0))
  ebox : W.heap[w.heap.size + 1]? = some ob
  rels : RelsAt W mb
theorem HoldS.call {w W W' : World} {d : D9} {mb : Nat} {ob : Obj} (h : HoldS w d mb ob W) (hb : Below W.heap.size W W') : HoldS w d mb ob W' :=
  ⟨below_t h.below hb, keepH hb h.abox, keepH hb h.ebox, h.rels.below hb⟩
theorem HoldS.drewN {w W : World} {d : D9} {mb : Nat} {ob : Obj} (h : HoldS w d mb ob W) (n : Nat) : HoldS w d mb ob (W.drewN n) := ⟨below_drN h.below n, h.abox, h.ebox, h.rels⟩
theorem HoldS.alloc {w W : World} {d : D9} {mb : Nat} {ob : Obj} (h : HoldS w d mb ob W) (o : Obj) : HoldS w d mb ob (W.alloc o) := h.call (below1 W o)
theorem HoldS.cl {w W : World} {d : D9} {mb : Nat} {ob : Obj} (h : HoldS w d mb ob W) : W.cell? ⟨w.heap.size, 0, none⟩ = some (.int .u32 d.nr) ∧ W.cell? ⟨w.heap.size, 1, none⟩ = some (.int .u32 d.arch) ∧ W.cell? ⟨w.heap.size, 2, none⟩ = some (.int .u64 d.ip) ∧ W.cell? ⟨w.heap.size, 3, none⟩ = some (.int .u64 d.a0) ∧ W.cell? ⟨w.heap.size, 4, none⟩ = some (.int .u64 d.a1) ∧ W.cell? ⟨w.heap.size, 5, none⟩ = some (.int .u64 d.a2) ∧ W.cell? ⟨w.heap.size, 6, none⟩ = some (.int .u64 d.a3) ∧ W.cell? ⟨w.heap.size, 7, none⟩ = some (.int .u64 d.a4) ∧ W.cell? ⟨w.heap.size, 8, none⟩ = some (.int .u64 d.a5) ∧ W.cell? ⟨w.heap.size, 9, none⟩ = some (.map (some mb)) := by
  have := h.abox
  simp [World.cell?, this, aCells]
theorem HoldS.args {w W : World} {d : D9} {mb : Nat} {ob : Obj} (h : HoldS w d mb ob W) : Reads W W.heap.size 1 (some ⟨w.heap.size, 3, none⟩) 6 (numV .u64 d.args) := by
  refine ⟨rfl, fun _ => ⟨_, _, rfl, (Array.getElem?_eq_some_iff.1 h.abox).1, fun j u hu => ?_⟩⟩
  obtain ⟨-, -, -, k0, k1, k2, k3, k4, k5, -⟩ := h.cl
  match j, hu with
  | 0, hu => simp [numV, D9.args] at hu; subst hu; exact k0
  | 1, hu => simp [numV, D9.args] at hu; subst hu; exact k1
  | 2, hu => simp [numV, D9.args] at hu; subst hu; exact k2
  | 3, hu => simp [numV, D9.args] at hu; subst hu; exact k3
  | 4, hu => simp [numV, D9.args] at hu; subst hu; exact k4
  | 5, hu => simp [numV, D9.args] at hu; subst hu; exact k5
theorem HoldS.start {w : World} {d : D9} {mb : Nat} (h : RelsAt w mb) (cs : Array Value) (t : TypeId) : HoldS w d mb (.cells cs t (0, 0)) ((w.alloc (.cells (aCells d mb) 73)).alloc (.cells cs t)) :=
  ⟨below_al (below1 w _) _, alloc_box (heap_nwT w _) _, by have := heap_nwT (w.alloc (.cells (aCells d mb) 73)) (.cells cs t); rwa [World.size_alloc] at this, (h.below (below1 w _)).below (below1 _ _)⟩
theorem HoldS.grown {w W W' : World} {d : D9} {mb : Nat} {ob : Obj} {row : Option Nat} (h : HoldS w d mb ob W) (hg : W.grownBy W' row) (hr : ∀ k, row = some k → w.heap.size + 2 ≤ k) (hmb : row ≠ some mb) : HoldS w d mb ob W' :=
  ⟨h.below.grown hg h.below.size (fun k hk => by have := hr k hk; omega), grown_box hg h.abox (fun e => by have := hr _ e; omega), grown_box hg h.ebox (fun e => by have := hr _ e; omega), World.ownsMap.kept h.rels hg (fun e => hmb e.symm)⟩
theorem own_mono {W : World} {base base' : Nat} {e : TypeId} {size n : Nat} {v : Value} {xs : List Value} (h : W.ownsRow base e size v n xs) (hb : base' ≤ base) : W.ownsRow base' e size v n xs := by
  refine ⟨h.1, ?_⟩
  rcases h.2 with h2 | ⟨k, cap, cur, h1, h2, h3, h4⟩
  · exact .inl h2
  · exact .inr ⟨k, cap, cur, h1, by omega, h3, h4⟩
theorem seven_eq (d : D9) : numV .u64 d.args ++ [.int .u64 d.ip] = numV .u64 d.seven := rfl
set_option maxHeartbeats 3200000 in
theorem holds_test (d : D9) (mb : Nat) (A : Option Addr) (n c : Nat) (f m r v : Int) (hf : 0 ≤ f ∧ f ≤ 6) (hr : 1 ≤ r ∧ r ≤ 6) (w : World) (hm : RelsAt w mb) :
    Calls Try.prog 34 #[aVal d mb, .agg #[.int .i64 6, .slice A n c, .int .i64 f, .int .u64 m, .int .i64 r, .int .u64 v]] w (BoolPost (relB r (bits .and .u64 (fieldV d f) m) v) w) := by
  obtain ⟨i0, HI⟩ : ∃ i0, Hid (Try.prog.info? 24 = some i0 ∧ i0.zero = some (.int .u64 0) ∧ i0.size = 1 ∧ i0.bytes = 8) := by
    obtain ⟨i0, hi, hz0, hz1, hz2⟩ := info_parts infoU64
    exact ⟨i0, Lib.hid ⟨hi, hz0, hz1, hz2⟩⟩
  have HS := Lib.hid (HoldS.start (d := d) hm #[.int .i64 6, .slice A n c, .int .i64 f, .int .u64 m, .int .i64 r, .int .u64 v] 48)
  obtain ⟨f0, f6⟩ := hf
  obtain ⟨r0, r6⟩ := hr
  have HFV := Lib.hid (fieldV_get d f0 f6)
  clear hm
  unfold aVal
  unfold aCells at HS ⊢
  go_enter Try.func34, Try.ntmps34
  go_upto_region 9 with (fail)
  have hmbl := HS.out.rels.lt
  have hws : w.heap.size + 2 ≤ ((w.alloc (.cells #[.int .u32 d.nr, .int .u32 d.arch, .int .u64 d.ip, .int .u64 d.a0, .int .u64 d.a1, .int .u64 d.a2, .int .u64 d.a3, .int .u64 d.a4, .int .u64 d.a5, .map (some mb)] 73)).alloc (.cells #[.int .i64 6, .slice A n c, .int .i64 f, .int .u64 m, .int .i64 r, .int .u64 v] 48)).heap.size := by simp
  generalize (w.alloc (.cells #[.int .u32 d.nr, .int .u32 d.arch, .int .u64 d.ip, .int .u64 d.a0, .int .u64 d.a1, .int .u64 d.a2, .int .u64 d.a3, .int .u64 d.a4, .int .u64 d.a5, .map (some mb)] 73)).alloc (.cells #[.int .i64 6, .slice A n c, .int .i64 f, .int .u64 m, .int .i64 r, .int .u64 v] 48) = wr at HS hmbl hws ⊢
  go_cut [5] (fun s5 wc => ∃ g cap, s5 = .slice (some ⟨g, 0, none⟩) 7 cap ∧ Hid (HoldS w d mb (.cells #[.int .i64 6, .slice A n c, .int .i64 f, .int .u64 m, .int .i64 r, .int .u64 v] 48 (0, 0)) wc ∧ wc.ownsRow wr.heap.size 24 1 (.slice (some ⟨g, 0, none⟩) 7 cap) 7 (numV .u64 d.seven)))
  case first =>
    obtain ⟨-, -, q2, q3, -⟩ := HS.out.cl
    have rowB : ∀ w1 : World, Below ((wr.drewN 1).alloc (.cells #[.int .u64 d.ip] 24)).heap.size ((wr.drewN 1).alloc (.cells #[.int .u64 d.ip] 24)) w1 → Reads w1 w1.heap.size 1 (some ⟨wr.heap.size, 0, none⟩) 1 [.int .u64 d.ip] := fun w1 hb => ((reads_new (wr.drewN 1) #[.int .u64 d.ip] 24 1 1 [.int .u64 d.ip] rfl rfl).more (by simp)).up hb
    have RB := Lib.hid rowB
    clear rowB
    go_region_law (first
      | (go_simp; go_at_call 64; refine (CloneU_c d.args rfl _ _ _ _ (by first | exact (HS.out.drewN 1).args | exact ((HS.out.drewN 1).alloc _).args)).mono ?_; rintro e w1 ⟨g1, cap1, rfl, hown1, hb1⟩; have HB1 := Lib.hid hb1; have HO1 : Hid (w1.ownsRow wr.heap.size 24 1 (.slice (some ⟨g1, 0, none⟩) 6 cap1) 6 (numV .u64 d.args)) := Lib.hid (own_mono hown1 (by first | exact Nat.le_refl _ | (simp; done) | (simp; omega))); have hz1 : wr.heap.size ≤ w1.heap.size := (by have := hb1.size; simp at this; omega); have HS1 : Hid (HoldS w d mb (.cells #[.int .i64 6, .slice A n c, .int .i64 f, .int .u64 m, .int .i64 r, .int .u64 v] 48 (0, 0)) w1) := Lib.hid (by first | exact (HS.out.drewN 1).call hb1 | exact ((HS.out.drewN 1).alloc _).call hb1); have s1 := HS1.out.cl.2.2.1; have hw1 : w.heap.size < w1.heap.size := (by omega); clear hown1 hb1)
      | (refine step_app rfl (.tmp 36) (.tmp 40) 116 rfl wr.heap.size 24 i0 _ 1 8 Try.underlying116 HI.out.1 HI.out.2.1 HI.out.2.2.1 HI.out.2.2.2 rfl (by decide) (.slice (some ⟨g1, 0, none⟩) 6 cap1) 6 (numV .u64 d.args) rfl (own_alloc HO1.out _) (some ⟨w1.heap.size, 0, none⟩) (w1.heap.size + 1) 1 1 [.int .u64 d.ip] rfl (fun h => by cases h) (reads_new w1 _ _ 1 1 [.int .u64 d.ip] rfl rfl) (by simp [Value.oneCell']) (by simp only [maxLen]; omega) (by omega) (by first | omega | (simp; omega)) ?_; intro v' w4 hown4 hg4 _; obtain ⟨g4, cap4, hv4, -, -⟩ := hown4.form (by omega); subst hv4; have HO4 := Lib.hid hown4; have HG4 := Lib.hid ((HS1.out.alloc _).grown hg4 (fun k hk => by have := own_geT HO1.out k hk; omega) (fun e => by have := own_geT HO1.out _ e; omega)); clear hown4 hg4)
      | (refine step_app rfl (.tmp 36) (.tmp 40) 116 rfl wr.heap.size 24 i0 _ 1 8 Try.underlying116 HI.out.1 HI.out.2.1 HI.out.2.2.1 HI.out.2.2.2 rfl (by decide) (.slice (some ⟨g1, 0, none⟩) 6 cap1) 6 (numV .u64 d.args) rfl HO1.out (some ⟨wr.heap.size, 0, none⟩) w1.heap.size 1 1 [.int .u64 d.ip] rfl (fun h => by cases h) (RB.out _ HB1.out) (by simp [Value.oneCell']) (by simp only [maxLen]; omega) (by omega) (by first | omega | (simp; omega)) ?_; intro v' w4 hown4 hg4 _; obtain ⟨g4, cap4, hv4, -, -⟩ := hown4.form (by omega); subst hv4; have HO4 := Lib.hid hown4; have HG4 := Lib.hid (HS1.out.grown hg4 (fun k hk => by have := own_geT HO1.out k hk; omega) (fun e => by have := own_geT HO1.out _ e; omega)); clear hown4 hg4))
    all_goals (
      go_wp2
      go_meet
      exact ⟨g4, cap4, rfl, Lib.hid ⟨HG4.out, HO4.out⟩⟩)
  case rest =>
    obtain ⟨g, cap, rfl, HC⟩ := hcut
    have hcf := HC.out.2.cells (g := g) rfl f.toNat (.int .u64 (fieldV d f)) (by simp [numV, HFV.out])
    rw [add_plain, Nat.zero_add] at hcf
    obtain ⟨-, -, -, -, -, -, -, -, -, k9⟩ := HC.out.1.cl
    obtain ⟨b0, b1, b2, b3, b4, b5⟩ := (box6 HC.out.1.ebox).1
    have f7 : f < 7 := by omega
    have HRB := Lib.hid (ord_rel r0 r6 (bits .and .u64 (fieldV d f) m) v)
    have hr6 : r = 1 ∨ r = 2 ∨ r = 3 ∨ r = 4 ∨ r = 5 ∨ r = 6 := by omega
    clear HS HI r0 r6
    rcases hr6 with rfl | rfl | rfl | rfl | rfl | rfl
    · have hlk : ∀ k : Nat, (Instr.lookup 70 (.map (some mb)) (.int .i64 1) false).run Try.prog (wc.drewN k) = .ok (.func (.func 55) #[] #[]) (wc.drewN k) := fun k => rels_look (r := 1) (HC.out.1.rels.drewN k) (by decide) (by decide)
      go_wp2_with fail
      go_quiet ((first | (go_at_call 65; exact Calls.quiet_of_same (Compare_c _ _ _)) | (go_at_call 55; exact Calls.quiet_of_same (ord1_c _ _))))
      go_wp2
      go_ret
      exact ⟨ret_b HRB.out, below_drN HC.out.1.below _⟩
    · have hlk : ∀ k : Nat, (Instr.lookup 70 (.map (some mb)) (.int .i64 2) false).run Try.prog (wc.drewN k) = .ok (.func (.func 56) #[] #[]) (wc.drewN k) := fun k => rels_look (r := 2) (HC.out.1.rels.drewN k) (by decide) (by decide)
      go_wp2_with fail
      go_quiet ((first | (go_at_call 65; exact Calls.quiet_of_same (Compare_c _ _ _)) | (go_at_call 56; exact Calls.quiet_of_same (ord2_c _ _))))
      go_wp2
      go_ret
      exact ⟨ret_b HRB.out, below_drN HC.out.1.below _⟩
    · have hlk : ∀ k : Nat, (Instr.lookup 70 (.map (some mb)) (.int .i64 3) false).run Try.prog (wc.drewN k) = .ok (.func (.func 57) #[] #[]) (wc.drewN k) := fun k => rels_look (r := 3) (HC.out.1.rels.drewN k) (by decide) (by decide)
      go_wp2_with fail
      go_quiet ((first | (go_at_call 65; exact Calls.quiet_of_same (Compare_c _ _ _)) | (go_at_call 57; exact Calls.quiet_of_same (ord3_c _ _))))
      go_wp2
      go_ret
      exact ⟨ret_b HRB.out, below_drN HC.out.1.below _⟩
    · have hlk : ∀ k : Nat, (Instr.lookup 70 (.map (some mb)) (.int .i64 4) false).run Try.prog (wc.drewN k) = .ok (.func (.func 58) #[] #[]) (wc.drewN k) := fun k => rels_look (r := 4) (HC.out.1.rels.drewN k) (by decide) (by decide)
      go_wp2_with fail
      go_quiet ((first | (go_at_call 65; exact Calls.quiet_of_same (Compare_c _ _ _)) | (go_at_call 58; exact Calls.quiet_of_same (ord4_c _ _))))
      go_wp2
      go_ret
      exact ⟨ret_b HRB.out, below_drN HC.out.1.below _⟩
    · have hlk : ∀ k : Nat, (Instr.lookup 70 (.map (some mb)) (.int .i64 5) false).run Try.prog (wc.drewN k) = .ok (.func (.func 59) #[] #[]) (wc.drewN k) := fun k => rels_look (r := 5) (HC.out.1.rels.drewN k) (by decide) (by decide)
      go_wp2_with fail
      go_quiet ((first | (go_at_call 65; exact Calls.quiet_of_same (Compare_c _ _ _)) | (go_at_call 59; exact Calls.quiet_of_same (ord5_c _ _))))
      go_wp2
      go_ret
      exact ⟨ret_b HRB.out, below_drN HC.out.1.below _⟩
    · have hlk : ∀ k : Nat, (Instr.lookup 70 (.map (some mb)) (.int .i64 6) false).run Try.prog (wc.drewN k) = .ok (.func (.func 60) #[] #[]) (wc.drewN k) := fun k => rels_look (r := 6) (HC.out.1.rels.drewN k) (by decide) (by decide)
      go_wp2_with fail
      go_quiet ((first | (go_at_call 65; exact Calls.quiet_of_same (Compare_c _ _ _)) | (go_at_call 60; exact Calls.quiet_of_same (ord6_c _ _))))
      go_wp2
      go_ret
      exact ⟨ret_b HRB.out, below_drN HC.out.1.below _⟩
end Go.Proofs.Ytebkbcpnjknkjaa
