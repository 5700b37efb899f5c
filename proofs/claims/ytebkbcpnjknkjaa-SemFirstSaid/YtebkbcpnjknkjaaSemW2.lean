import Derived.Test.YtebkbcpnjknkjaaSemW1
import Derived.Test.YtebkbcpnjknkjaaMapIns
import Derived.StringKeys
set_option linter.unusedVariables false
set_option linter.unusedSimpArgs false
set_option maxRecDepth 100000
namespace Go.Proofs.Ytebkbcpnjknkjaa
open Go.RowKit
open Go.Maps (Keyed)
/-! sem.Arch: the walk. -/
theorem strKey : Keyed Try.prog 9 := Maps.string_keyed Try.underlying9
theorem strOf (s : ByteArray) (h : s.size ≤ maxLen) : keyOf Try.prog 9 (.string s) = some (.string s.data.toList) := Go.WideMaps.keyOf_string_mk Try.underlying9 h
theorem zeroU32 (w : World) : (zeroValue 31).run Try.prog w = .ok (.int .u32 0) w := by kernel_rfl
def archD : DataW Unit := ((DataW.put (.map []) (.string [120, 56, 54, 95, 54, 52]) (.lit (.int .u32 3221225534))).put (.string [114, 105, 115, 99, 118, 54, 52]) (.lit (.int .u32 3221225715))).put (.string [97, 97, 114, 99, 104, 54, 52]) (.lit (.int .u32 3221225655))
theorem arch_at (l : List UInt8) : archD.atKey (.string l) (.lit (.int .u32 0)) = .lit (.int .u32 (archP l).1) ∧ Maps.has archD (.string l) = (archP l).2 := by
  have m0 : Maps.IsMap (.map [] : DataW Unit) := ⟨[], rfl⟩
  have kl : ∀ l : List UInt8, WideAt.IsKeyLit (.string l) := fun l => trivial
  have ne : ∀ {a b : List UInt8}, a ≠ b → (Lit.string a) ≠ (Lit.string b) := fun h e => h (by injection e)
  unfold archD archP
  by_cases h3 : l = [97, 97, 114, 99, 104, 54, 52]
  · subst h3
    rw [Maps.atKey_put_same ((m0.put _ _).put _ _) (kl _), Maps.has_put_same ((m0.put _ _).put _ _) (kl _)]
    exact ⟨rfl, rfl⟩
  · rw [Maps.atKey_put_other (ne h3), Maps.has_put_other (ne h3)]
    by_cases h2 : l = [114, 105, 115, 99, 118, 54, 52]
    · subst h2
      rw [Maps.atKey_put_same (m0.put _ _) (kl _), Maps.has_put_same (m0.put _ _) (kl _)]
      exact ⟨rfl, rfl⟩
    · rw [Maps.atKey_put_other (ne h2), Maps.has_put_other (ne h2)]
      by_cases h1 : l = [120, 56, 54, 95, 54, 52]
      · subst h1
        rw [Maps.atKey_put_same m0 (kl _), Maps.has_put_same m0 (kl _)]
        exact ⟨rfl, rfl⟩
      · rw [Maps.atKey_put_other (ne h1), Maps.has_put_other (ne h1), if_neg h1, if_neg h2, if_neg h3]
        exact ⟨rfl, rfl⟩
theorem ret_ub {a b : Int} {x y : Bool} (h1 : a = b) (h2 : x = y) : Ending.returned (.tuple #[.int .u32 a, .bool x]) = .returned (.tuple #[.int .u32 b, .bool y]) := by rw [h1, h2]
def ArchPost (s : ByteArray) (w : World) (e : Ending) (w' : World) : Prop := e = .returned (.tuple #[.int .u32 (archP s.data.toList).1, .bool (archP s.data.toList).2]) ∧ Below w.heap.size w w'
set_option maxHeartbeats 800000 in
theorem Arch_c (s : ByteArray) (hs : s.size ≤ maxLen) (w : World) : Calls Try.prog 22 #[.string s] w (ArchPost s w) := by
  have hmm := @run_makeMap Try.prog
  have hown := World.ownsMap_made w Try.prog 9 (plainElem (H := Unit) Try.prog 31)
  have hb := below1 w (.map #[] 0)
  have hsz : w.heap.size < (w.alloc (.map #[] 0)).heap.size := by simp
  have HK := Lib.hid (strOf s hs)
  have HA := Lib.hid (arch_at s.data.toList)
  clear hs
  go_enter Try.func22, Try.ntmps22
  go_wp2_with (first
    | (refine wpList_insert_own _ rfl _ _ _ 95 rfl _ _ strKey Try.underlying95 (plainElem (H := Unit) Try.prog 31) _ _ _ rfl hown (by simp only [maxLen]; omega) _ _ _ rfl rfl (strOf _ (by decide)) _ _ (plainElem_int Try.underlying31 (by decide)) ?_; clear hown; intro w1 hown hg1; replace hb := hb.grown hg1 hb.size (fun k hk => by cases hk; exact Nat.le_refl _); replace hsz := Nat.lt_of_lt_of_le hsz hg1.size; clear hg1)
    | (at_lookup; refine wpList_lookup_own_ok_int _ rfl _ _ 95 rfl 9 31 .u32 strKey Try.underlying95 Try.underlying31 (zeroU32 _) _ _ _ rfl hown _ _ rfl HK.out ?_; intro c hat hwc))
  go_ret2
  refine ⟨?_, hb⟩
  obtain ⟨h1, h2⟩ := HA.out
  unfold archD at h1 h2
  rw [h1] at hat
  injection hat with hat
  injection hat with _ hat
  exact ret_ub hat.symm h2
/-! Number, Names. -/
theorem nmEq {a b : ByteArray} : (a.toList == b.toList) = decide (a = b) := by
  rw [ByteArray.toList_eq, ByteArray.toList_eq]
  obtain ⟨⟨x⟩⟩ := a
  obtain ⟨⟨y⟩⟩ := b
  by_cases h : x = y <;> simp [h]
theorem TabPost.slice {T : TypeId} {l : List Nm} {w w' : World} {e : Ending} (h : TabPost T l w e w') : ∃ A c, e = .returned (.slice A l.length c) ∧ w'.ownsRow w.heap.size T 2 (.slice A l.length c) l.length (cellsN l) ∧ Below w.heap.size w w' := by
  obtain ⟨v, h1, h2, h3⟩ := h
  rcases h2.2 with ⟨e1, e2⟩ | ⟨g, cap, cur, e1, _⟩
  · exact ⟨none, 0, by rw [h1, e1, e2], by rw [e1] at h2; rw [e2]; rw [e2] at h2; exact h2, h3⟩
  · exact ⟨_, _, by rw [h1, e1], by rw [e1] at h2; exact h2, h3⟩
def NumPost7 (x : Int × Bool) (w : World) (e : Ending) (w' : World) : Prop := e = .returned (.tuple #[.int .u32 x.1, .bool x.2]) ∧ Below w.heap.size w w'
theorem numIn_drop {l : List Nm} {s : ByteArray} {n : Nat} {x : Nm} (hx : l[n]? = some x) : numIn (l.drop n) s = if x.name = s then (x.nr, true) else numIn (l.drop (n + 1)) s := by
  have hn := (List.getElem?_eq_some_iff.1 hx).1
  rw [List.drop_eq_getElem_cons hn, numIn]
  rw [List.getElem?_eq_getElem hn] at hx
  injection hx with hx
  rw [hx]
set_option maxHeartbeats 800000 in
theorem rNumber_c (a s : ByteArray) (w : World) : Calls Try.prog 27 #[.string a, .string s] w (NumPost7 (numP a s) w) := by
  have hlen := tableP_len a.data.toList
  obtain ⟨l, hl⟩ : ∃ l, l = tableP a.data.toList := ⟨_, rfl⟩
  have HT := Lib.hid (fun w => rTable_c a w)
  have HN : Hid (numP a s = numIn (l.drop 0) s) := Lib.hid (by unfold numP; rw [hl]; rfl)
  rw [← hl] at HT hlen
  clear hl
  go_enter Try.func27, Try.ntmps27
  go_wp2_with fail
  refine (HT.out _).mono ?_
  intro e w1 hp
  obtain ⟨A, c, rfl, hown, hb⟩ := hp.slice
  have HR := Lib.hid (Reads.of_own hown)
  have HB := Lib.hid hb
  clear hp hown hb
  go_wp2_with fail
  go_loopw [7] (fun i wr => wr = w1 ∧ ∃ n : Nat, n ≤ l.length ∧ i = .int .i64 n ∧ Hid (numP a s = numIn (l.drop n) s)) (fun i _ => l.length - (intOf i).toNat)
  case atStart => exact ⟨rfl, 0, by omega, rfl, HN⟩
  case round =>
    obtain ⟨rfl, n, hn, rfl, HE⟩ := hrel
    rcases Nat.lt_or_ge n l.length with hlt | hge
    · have hlt' : (n : Int) < l.length := by omega
      obtain ⟨x, hx⟩ : ∃ x, l[n]? = some x := ⟨_, List.getElem?_eq_getElem hlt⟩
      have hE := HE.out
      rw [numIn_drop hx] at hE
      obtain ⟨b, off, rfl, hb, i0, i1⟩ := HR.out.nm hx
      have hq := nmEq (a := x.name) (b := s)
      obtain ⟨xn, xr⟩ := x
      dsimp only at hE hq i0 i1
      clear hx HN
      by_cases hxs : xn = s
      · rw [if_pos hxs] at hE
        have HF := Lib.hid hE
        rw [decide_eq_true hxs] at hq
        clear hE hxs
        go_wp2
        go_ret2
        exact ⟨ret_ub (by rw [HF.out]) (by rw [HF.out]), HB.out⟩
      · rw [if_neg hxs] at hE
        have HF := Lib.hid hE
        rw [decide_eq_false hxs] at hq
        clear hE hxs
        go_wp2
        go_roundw
        case rel => exact ⟨trivial, n + 1, by omega, by go_num, HF⟩
        case measure => simp [intOf]; omega
    · obtain rfl : n = l.length := by omega
      have HF : Hid (numP a s = (0, false)) := Lib.hid (by rw [HE.out, List.drop_length]; rfl)
      go_wp2
      go_ret2
      exact ⟨ret_ub (by rw [HF.out]) (by rw [HF.out]), HB.out⟩
end Go.Proofs.Ytebkbcpnjknkjaa
