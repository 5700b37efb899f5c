import Derived.Test.YtehpoamideeehaaCbpfP
import Derived.Test.YtehpoamideeehaaCodeP
import Derived.Maps.OwnSet
set_option linter.unusedVariables false
set_option linter.unusedSimpArgs false
set_option maxRecDepth 100000
namespace Go.Proofs.Ytehpoamideeehaa
open Go.RowKit
open Go.Maps (Keyed)
/-! cbpf.operations: the map of what instructions do. -/
/-- How a value of the map reads: by its function's number. -/
def fnR (v : Value) : Option (DataW Unit × List MemPlace) := match v with
  | .func (.func n) a b => if a.size = 0 ∧ b.size = 0 then some (.lit (.int .i64 n), []) else some (.lit (.int .i64 (-1)), [])
  | _ => some (.lit (.int .i64 (-1)), [])
theorem fnR_fn (n : Nat) : fnR (.func (.func n) #[] #[]) = some (.lit (.int .i64 n), []) := rfl
theorem wpList_insert_own {H : Type} {P : Program} (w : World) {ops : Array Oper} {rest : List Oper} {o : Oper} {a : Act} {Q : Exit → Act → World → Prop}
    (hg : o.guard = none) (m x v : Operand) (t : TypeId) (hop : o.op = Op.insert t m x v)
    (k e : TypeId) (K : Keyed P k) (ht : P.underlying t = some (.map k e)) (R : Value → Option (DataW H × List MemPlace)) (b n : Nat) (D : DataW H)
    (hm : a.eval m = .map (some b)) (hown : w.ownsMap P k R b n D) (hn : n < maxLen) (key val : Value) (kl : Lit) (hx : a.eval x = key) (hv : a.eval v = val) (hkey : keyOf P k key = some kl)
    (d : DataW H) (ps : List MemPlace) (hval : R val = some (d, ps))
    (hK : ∀ w', w'.ownsMap P k R b (n + 1) (D.put kl d) → w.grownBy w' (some b) → wpList P ops Q rest (a.put o.dst undef) w') :
    wpList P ops Q (o :: rest) a w := by
  refine wpList_plain hg fun K' hK' => ?_
  obtain ⟨w', hrun, r1, r2⟩ := hown.update K ht hn hkey hval
  unfold Oper.wp
  simp [execOp, hop, hm, hx, hv, hrun, Result.andThen]
  exact hK' _ _ (hK w' r1 r2)
theorem codeKey : Keyed Try.prog 45 := Maps.int_keyed Try.underlying45
theorem codeOf (c : Int) (h0 : 0 ≤ c) (h1 : c < 65536) : keyOf Try.prog 45 (.int .u16 c) = some (.int .u16 c) := Maps.keyOf_int_mk Try.underlying45 (by simp [Lit.wf, IntKind.min, IntKind.max, IntKind.signed, IntKind.bits]; omega)
def lits0 : List (Int × Int) := [(32, 74), (128, 75), (129, 75), (0, 76), (1, 76), (96, 77), (97, 77),
  (2, 78), (3, 78), (132, 79), (5, 80), (6, 81), (22, 81), (7, 82), (135, 82)]
def aops : List Int := [0, 16, 32, 48, 64, 80, 96, 112, 160]
def jops : List Int := [16, 32, 48, 64]
def putAll (D : DataW Unit) (l : List (Int × Int)) : DataW Unit := l.foldl (fun D p => D.put (.int .u16 p.1) (.lit (.int .i64 p.2))) D
def lits1 (k : Nat) : List (Int × Int) := lits0 ++ (aops.take k).flatMap fun c => [(bits .or .u16 4 c, 83), (bits .or .u16 (bits .or .u16 4 c) 8, 83)]
def lits2 (k : Nat) : List (Int × Int) := lits1 9 ++ (jops.take k).flatMap fun c => [(bits .or .u16 5 c, 84), (bits .or .u16 (bits .or .u16 5 c) 8, 84)]
def doesD : DataW Unit := putAll (.map []) (lits2 4)
theorem bits_u16 (op : BinOp) (a b : Int) : 0 ≤ bits op .u16 a b ∧ bits op .u16 a b < 65536 := by
  unfold bits; simp only [IntKind.wrap_u16]; omega
theorem putAll_two (l : List (Int × Int)) (a b : Int × Int) : putAll (.map []) (l ++ [a, b]) = ((putAll (.map []) l).put (.int .u16 a.1) (.lit (.int .i64 a.2))).put (.int .u16 b.1) (.lit (.int .i64 b.2)) := by simp [putAll, List.foldl_append]
theorem lits1_succ {k : Nat} {c : Int} (h : aops[k]? = some c) : lits1 (k + 1) = lits1 k ++ [(bits .or .u16 4 c, 83), (bits .or .u16 (bits .or .u16 4 c) 8, 83)] := by
  unfold lits1
  rw [List.take_add_one, h]
  simp
theorem lits2_succ {k : Nat} {c : Int} (h : jops[k]? = some c) : lits2 (k + 1) = lits2 k ++ [(bits .or .u16 5 c, 84), (bits .or .u16 (bits .or .u16 5 c) 8, 84)] := by
  unfold lits2
  rw [List.take_add_one, h]
  simp
theorem Codes.grown {w w' : World} {G b : Nat} {l : List Int} (h : Codes w G l) (hg : w.grownBy w' (some b)) (hne : G ≠ b) (hlt : G < w.heap.size) : Codes w' G l := fun i x hx => by
  rw [World.cell?_of_block (a := ⟨G, i, none⟩) (hg.block _ hlt (by simpa using hne))]; exact h i x hx
theorem Codes.new (w : World) (l : List Int) : Codes (w.alloc (.cells (l.map (Value.int .u16)).toArray 45)) w.heap.size l := fun i x hx => by
  rw [World.cell?_alloc_new]; simp [hx]
def OpsRel (w : World) (b8 n : Nat) (lits : List (Int × Int)) (ops : List Int) (wr : World) : Prop := wr.ownsMap Try.prog 45 fnR w.heap.size n (putAll (.map []) lits) ∧ Below w.heap.size w wr ∧ Codes wr b8 ops ∧ b8 < wr.heap.size ∧ w.heap.size < b8
set_option maxHeartbeats 1000000 in
theorem operations_c (w : World) : Calls Try.prog 59 #[] w fun e w' => e = .returned (.map (some w.heap.size)) ∧ w'.ownsMap Try.prog 45 fnR w.heap.size 41 doesD ∧ Below w.heap.size w w' := by
  have hmm := @run_makeMap Try.prog
  have hown := World.ownsMap_made w Try.prog 45 fnR
  have hb := below1 w (.map #[] 0)
  have hs : w.heap.size < (w.alloc (.map #[] 0)).heap.size := by simp
  go_enter Try.func59, Try.ntmps59
  go_wp2_with (refine wpList_insert_own _ rfl _ _ _ 105 rfl _ _ codeKey Try.underlying105 fnR _ _ _ rfl hown (by simp only [maxLen]; omega) _ _ _ rfl rfl (codeOf _ (by decide) (by decide)) _ _ (fnR_fn _) ?_; clear hown; intro w1 hown hg1; replace hb := hb.grown hg1 hb.size (fun k hk => by cases hk; exact Nat.le_refl _); replace hs := Nat.lt_of_lt_of_le hs hg1.size; clear hg1)
  have HREL : Hid (OpsRel w w1.heap.size 15 (lits1 0) aops (w1.alloc (.cells (aops.map (Value.int .u16)).toArray 45))) := Lib.hid ⟨hown.alloc _, below_al hb _, Codes.new _ _, by simp, hs⟩
  obtain ⟨b8, hb8⟩ : ∃ b8, b8 = w1.heap.size := ⟨_, rfl⟩
  rw [← hb8] at HREL
  rw [← hb8]
  clear hown hb hs hmm
  go_loopw [3, 10] (fun o i wr => ∃ k : Nat, k ≤ 9 ∧ i = .int .i64 k ∧ Hid (OpsRel w b8 (15 + 2 * k) (lits1 k) aops wr)) (fun _ i _ => 9 - (intOf i).toNat)
  case atStart => exact ⟨0, by omega, rfl, by subst hb8; exact HREL⟩
  case round =>
    obtain ⟨k, hk, rfl, HR⟩ := hrel
    clear HREL hb8
    by_cases hlt : k < 9
    · obtain ⟨c, hc⟩ : ∃ c, aops[k]? = some c := ⟨_, List.getElem?_eq_getElem (by simpa [aops] using hlt)⟩
      obtain ⟨hown, hb, hcod, h1, h2⟩ := HR.out
      have hcell := hcod k c hc
      have HC := Lib.hid hcod
      have HK := Lib.hid hc
      have hlt' : (k : Int) < 9 := by omega
      clear HR hcod hc
      go_wp2_with (at_mapUpdate; refine wpList_mapUpdate_own _ rfl _ _ _ 105 rfl _ _ codeKey Try.underlying105 fnR _ _ _ rfl hown (by simp only [maxLen]; omega) _ _ _ rfl rfl (codeOf _ (bits_u16 _ _ _).1 (bits_u16 _ _ _).2) _ _ (fnR_fn _) ?_; clear hown; intro w2 hown hg2; replace hb := hb.grown hg2 hb.size (fun k hk => by cases hk; exact Nat.le_refl _); replace HC := Lib.hid (HC.out.grown hg2 (by omega) h1); replace h1 := Nat.lt_of_lt_of_le h1 hg2.size; clear hg2)
      have HN := Lib.hid (show OpsRel w b8 (15 + 2 * (k + 1)) (lits1 (k + 1)) aops w2 from ⟨by rw [lits1_succ HK.out, putAll_two]; exact hown.mono (by omega), hb, HC.out, h1, h2⟩)
      clear hown
      go_roundw
      case rel => exact ⟨k + 1, by omega, by go_num, HN⟩
      case measure => simp [intOf]; omega
    · obtain rfl : k = 9 := by omega
      obtain ⟨hown, hb, -, h1, h2⟩ := HR.out
      have hs : w.heap.size < wr.heap.size := by omega
      have HREL : Hid (OpsRel w wr.heap.size 33 (lits2 0) jops (wr.alloc (.cells (jops.map (Value.int .u16)).toArray 45))) := Lib.hid ⟨by have := hown.alloc (.cells (jops.map (Value.int .u16)).toArray 45); exact this, below_al hb _, Codes.new _ _, by simp, hs⟩
      clear hown hb hs HR
      rw [show ((9 : Nat) : Int) = 9 from rfl]
      go_wp2
      obtain ⟨b9, hb9⟩ : ∃ b9, b9 = wr.heap.size := ⟨_, rfl⟩
      rw [← hb9] at HREL
      rw [← hb9]
      go_loopw [5, 24] (fun o i wr => ∃ k : Nat, k ≤ 4 ∧ i = .int .i64 k ∧ Hid (OpsRel w b9 (33 + 2 * k) (lits2 k) jops wr)) (fun _ i _ => 4 - (intOf i).toNat)
      case atStart => exact ⟨0, by omega, rfl, by subst hb9; exact HREL⟩
      case round =>
        obtain ⟨k, hk, rfl, HR⟩ := hrel
        clear HREL hb9
        by_cases hlt : k < 4
        · obtain ⟨c, hc⟩ : ∃ c, jops[k]? = some c := ⟨_, List.getElem?_eq_getElem (by simpa [jops] using hlt)⟩
          obtain ⟨hown, hb, hcod, h1, h2⟩ := HR.out
          have hcell := hcod k c hc
          have HC := Lib.hid hcod
          have HK := Lib.hid hc
          have hlt' : (k : Int) < 4 := by omega
          clear HR hcod hc
          go_wp2_with (at_mapUpdate; refine wpList_mapUpdate_own _ rfl _ _ _ 105 rfl _ _ codeKey Try.underlying105 fnR _ _ _ rfl hown (by simp only [maxLen]; omega) _ _ _ rfl rfl (codeOf _ (bits_u16 _ _ _).1 (bits_u16 _ _ _).2) _ _ (fnR_fn _) ?_; clear hown; intro w2 hown hg2; replace hb := hb.grown hg2 hb.size (fun k hk => by cases hk; exact Nat.le_refl _); replace HC := Lib.hid (HC.out.grown hg2 (by omega) h1); replace h1 := Nat.lt_of_lt_of_le h1 hg2.size; clear hg2)
          have HN := Lib.hid (show OpsRel w b9 (33 + 2 * (k + 1)) (lits2 (k + 1)) jops w2 from ⟨by rw [lits2_succ HK.out, putAll_two]; exact hown.mono (by omega), hb, HC.out, h1, h2⟩)
          clear hown
          go_roundw
          case rel => exact ⟨k + 1, by omega, by go_num, HN⟩
          case measure => simp [intOf]; omega
        · obtain rfl : k = 4 := by omega
          go_wp2
          go_ret
          exact ⟨rfl, HR.out.1, HR.out.2.1⟩

/-! What the map says of a code. -/
def fnOf (c : Int) : Nat :=
  if memC c aluL = true then 83 else if memC c jumpL = true then 84 else if c = 32 then 74 else if c = 128 ∨ c = 129 then 75
  else if c = 0 ∨ c = 1 then 76 else if c = 96 ∨ c = 97 then 77 else if c = 2 ∨ c = 3 then 78 else if c = 132 then 79
  else if c = 5 then 80 else if c = 6 ∨ c = 22 then 81 else 82
theorem putAll_map {D : DataW Unit} (h : Maps.IsMap D) (l : List (Int × Int)) : Maps.IsMap (putAll D l) := by
  induction l generalizing D with
  | nil => exact h
  | cons p l ih => exact ih (h.put _ _)
theorem has_putAll {D : DataW Unit} (l : List (Int × Int)) (c : Int) (h : ∀ p ∈ l, p.1 ≠ c) : Maps.has (putAll D l) (.int .u16 c) = Maps.has D (.int .u16 c) := by
  induction l generalizing D with
  | nil => rfl
  | cons p l ih =>
    show Maps.has (putAll (D.put _ _) l) _ = _
    rw [ih (fun p hp => h p (by simp [hp])), Maps.has_put_other (fun e => h p (by simp) (by injection e with _ e; exact e.symm))]
theorem lits_seal : ∀ p ∈ lits2 4, sealsL p.1 = true := by decide +kernel
theorem does_no {c : Int} (h : sealsL c = false) : Maps.has doesD (.int .u16 c) = false := by
  unfold doesD
  rw [has_putAll _ _ (fun p hp e => by have := lits_seal p hp; rw [e, h] at this; cases this)]
  rfl
theorem does_all : ∀ c ∈ aluL ++ jumpL ++ restL, Maps.has doesD (.int .u16 c) = true ∧ doesD.atKey (.int .u16 c) (.lit (.int .i64 (-1))) = .lit (.int .i64 (fnOf c)) := by
  simp only [aluL, jumpL, restL, List.cons_append, List.nil_append, List.forall_mem_cons]
  repeat' apply And.intro
  all_goals first | (exact fun _ h => by cases h) | kernel_rfl
theorem zeroFn (w : World) : (zeroValue 109).run Try.prog w = .ok .nilFunc w := by kernel_rfl
def DoesAt (w : World) (mb : Nat) : Prop := w.ownsMap Try.prog 45 fnR mb 41 doesD
theorem does_yes {w : World} {mb : Nat} (h : DoesAt w mb) {c : Int} (hs : sealsL c = true) (h0 : 0 ≤ c) (h1 : c < 65536) :
    (Instr.lookup 105 (.map (some mb)) (.int .u16 c) true).run Try.prog w = .ok (.tuple #[.func (.func (fnOf c)) #[] #[], .bool true]) w := by
  obtain ⟨v, ps, hr, hv⟩ := h.look_ok codeKey Try.underlying105 (zeroFn w) (zd := .lit (.int .i64 (-1))) (zp := []) rfl (codeOf c h0 h1)
  obtain ⟨d1, d2⟩ := does_all c (sealsL_cases hs)
  rw [d1] at hr
  rw [d2] at hv
  rw [hr]
  unfold fnR at hv
  split at hv
  · split at hv
    · rename_i a b hab
      obtain rfl := Array.eq_empty_of_size_eq_zero hab.1
      obtain rfl := Array.eq_empty_of_size_eq_zero hab.2
      injection hv with hv
      injection hv with hv _
      injection hv with hv
      injection hv with _ hv
      rw [show _ = fnOf c from Int.ofNat_inj.1 hv]
    · injection hv with hv
      injection hv with hv _
      injection hv with hv
      injection hv with _ hv
      omega
  · injection hv with hv
    injection hv with hv _
    injection hv with hv
    injection hv with _ hv
    omega
theorem does_not {w : World} {mb : Nat} (h : DoesAt w mb) {c : Int} (hs : sealsL c = false) (h0 : 0 ≤ c) (h1 : c < 65536) :
    (Instr.lookup 105 (.map (some mb)) (.int .u16 c) true).run Try.prog w = .ok (.tuple #[.nilFunc, .bool false]) w := by
  have hno := does_no hs
  obtain ⟨es, clock, hb, F, _, hD⟩ := h
  rw [hD] at hno
  rcases Maps.fit_look true codeKey Try.underlying105 (zeroFn w) hb F (codeOf c h0 h1) with ⟨hrun, _, hat⟩ | ⟨e0, y, _, _, hrun, hRv, hat, _⟩
  · exact hrun
  · rw [Maps.has_true_of_atKey hat] at hno; cases hno
end Go.Proofs.Ytehpoamideeehaa
