import Derived.Test.YtkckaimefklenaaArchP
import Derived.Test.YtkckaimefklenaaMapIns
import Derived.StringKeys
set_option linter.unusedVariables false
set_option linter.unusedSimpArgs false
set_option maxRecDepth 100000
namespace Go.Proofs.Ytkckaimefklenaa
open Go.RowKit
open Go.Maps (Keyed)
/-! sem.Arch: the walk. -/
theorem strKey : Keyed Try.prog 9 := Maps.string_keyed Try.underlying9
theorem strOf (s : ByteArray) (h : s.size ≤ maxLen) : keyOf Try.prog 9 (.string s) = some (.string s.data.toList) := Go.WideMaps.keyOf_string_mk Try.underlying9 h
theorem zeroU32 (w : World) : (zeroValue 23).run Try.prog w = .ok (.int .u32 0) w := by kernel_rfl
def archD : DataW Unit := ((DataW.put (.map []) (.string [120, 56, 54, 95, 54, 52]) (.lit (.int .u32 3221225534))).put (.string [114, 105, 115, 99, 118, 54, 52]) (.lit (.int .u32 3221225715))).put (.string [97, 97, 114, 99, 104, 54, 52]) (.lit (.int .u32 3221225655))
theorem arch_at (l : List UInt8) : archD.atKey (.string l) (.lit (.int .u32 0)) = .lit (.int .u32 (archP l).1) ∧ Maps.has archD (.string l) = (archP l).2 := by
  have m0 : Maps.IsMap (.map [] : DataW Unit) := ⟨[], rfl⟩
  have kl : ∀ l : List UInt8, WideAt.IsKeyLit (.string l) := fun l => trivial
  have ne : ∀ {a b : List UInt8}, a ≠ b → (Lit.string a) ≠ (Lit.string b) := fun h e => h (by injection e)
  unfold archD archP
  by_cases h3 : l = [97, 97, 114, 99, 104, 54, 52]
  · subst h3
    rw [Maps.atKey_put_same ((m0.put _ _).put _ _) (kl _), Maps.has_put_same ((m0.put _ _).put _ _) (kl _)]
    exact ⟨rfl, rfl⟩
  · rw [Maps.atKey_put_other (ne h3), Maps.has_put_other (ne h3)]
    by_cases h2 : l = [114, 105, 115, 99, 118, 54, 52]
    · subst h2
      rw [Maps.atKey_put_same (m0.put _ _) (kl _), Maps.has_put_same (m0.put _ _) (kl _)]
      exact ⟨rfl, rfl⟩
    · rw [Maps.atKey_put_other (ne h2), Maps.has_put_other (ne h2)]
      by_cases h1 : l = [120, 56, 54, 95, 54, 52]
      · subst h1
        rw [Maps.atKey_put_same m0 (kl _), Maps.has_put_same m0 (kl _)]
        exact ⟨rfl, rfl⟩
      · rw [Maps.atKey_put_other (ne h1), Maps.has_put_other (ne h1), if_neg h1, if_neg h2, if_neg h3]
        exact ⟨rfl, rfl⟩
theorem ret_ub {a b : Int} {x y : Bool} (h1 : a = b) (h2 : x = y) : Ending.returned (.tuple #[.int .u32 a, .bool x]) = .returned (.tuple #[.int .u32 b, .bool y]) := by rw [h1, h2]
def ArchPost (s : ByteArray) (w : World) (e : Ending) (w' : World) : Prop := e = .returned (.tuple #[.int .u32 (archP s.data.toList).1, .bool (archP s.data.toList).2]) ∧ Below w.heap.size w w'
set_option maxHeartbeats 800000 in
theorem Arch_c (s : ByteArray) (hs : s.size ≤ maxLen) (w : World) : Calls Try.prog 24 #[.string s] w (ArchPost s w) := by
  have hmm := @run_makeMap Try.prog
  have hown := World.ownsMap_made w Try.prog 9 (plainElem (H := Unit) Try.prog 23)
  have hb := below1 w (.map #[] 0)
  have hsz : w.heap.size < (w.alloc (.map #[] 0)).heap.size := by simp
  have HK := Lib.hid (strOf s hs)
  have HA := Lib.hid (arch_at s.data.toList)
  clear hs
  go_enter Try.func24, Try.ntmps24
  go_wp2_with (first
    | (refine wpList_insert_own _ rfl _ _ _ 115 rfl _ _ strKey Try.underlying115 (plainElem (H := Unit) Try.prog 23) _ _ _ rfl hown (by simp only [maxLen]; omega) _ _ _ rfl rfl (strOf _ (by decide)) _ _ (plainElem_int Try.underlying23 (by decide)) ?_; clear hown; intro w1 hown hg1; replace hb := hb.grown hg1 hb.size (fun k hk => by cases hk; exact Nat.le_refl _); replace hsz := Nat.lt_of_lt_of_le hsz hg1.size; clear hg1)
    | (at_lookup; refine wpList_lookup_own_ok_int _ rfl _ _ 115 rfl 9 23 .u32 strKey Try.underlying115 Try.underlying23 (zeroU32 _) _ _ _ rfl hown _ _ rfl HK.out ?_; intro c hat hwc))
  go_ret2
  refine ⟨?_, hb⟩
  obtain ⟨h1, h2⟩ := HA.out
  unfold archD at h1 h2
  rw [h1] at hat
  injection hat with hat
  injection hat with _ hat
  exact ret_ub hat.symm h2
/-! Number, Names. -/
end Go.Proofs.Ytkckaimefklenaa
