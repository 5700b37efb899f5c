import Derived.Test.YtebkbcpnjknkjaaSemP
import Derived.Test.YtebkbcpnjknkjaaOwnX
import Derived.Laws.Strings
set_option linter.unusedVariables false
set_option linter.unusedSimpArgs false
set_option maxRecDepth 100000
namespace Go.Proofs.Ytebkbcpnjknkjaa
open Go.RowKit
/-! sem, ravelinref07: Arch (the reference's), the tables: the walks. -/
theorem rArch_c (s : ByteArray) (w : World) : Calls Try.prog 23 #[.string s] w fun e w' => e = .returned (.tuple #[.int .u32 (archP s.data.toList).1, .bool (archP s.data.toList).2]) ∧ w' = w := by
  rw [← ByteArray.toList_eq]
  have HM : Hid (archP s.toList = if (s.toList == [120, 56, 54, 95, 54, 52]) = true then (3221225534, true) else if (s.toList == [114, 105, 115, 99, 118, 54, 52]) = true then (3221225715, true) else if (s.toList == [97, 97, 114, 99, 104, 54, 52]) = true then (3221225655, true) else (0, false)) := Lib.hid (by unfold archP; simp only [beq_iff_eq])
  go_enter Try.func23, Try.ntmps23
  go_wp2
  all_goals go_ret2
  all_goals exact ⟨by rw [HM.out]; simp [*], rfl⟩
def TabPost (T : TypeId) (l : List Nm) (w : World) (e : Ending) (w' : World) : Prop := ∃ v, e = .returned v ∧ w'.ownsRow w.heap.size T 2 v l.length (cellsN l) ∧ Below w.heap.size w w'
theorem ne_tl {s : ByteArray} {l : List UInt8} (h : s.toList ≠ l) : (s.toList == l) = false := by simpa using h
set_option maxHeartbeats 3200000 in
theorem table_c (s : ByteArray) (w : World) : Calls Try.prog 50 #[.string s] w (TabPost 99 (tableP s.data.toList) w) := by
  rw [← ByteArray.toList_eq]
  by_cases h1 : s.toList = [120, 56, 54, 95, 54, 52]
  · have HT : Hid (tableP s.toList = tabX) := Lib.hid (by unfold tableP; rw [if_pos h1])
    go_enter Try.func50, Try.ntmps50
    go_wp2
    go_ret
    refine ⟨_, rfl, ?_, below1 w _⟩
    rw [HT.out]
    exact own_lit (cs := (cellsN tabX).toArray) 2 24 rfl (by simp [maxLen]) (Nat.le_refl _)
  · have q1 := ne_tl h1
    by_cases h2 : s.toList = [114, 105, 115, 99, 118, 54, 52]
    · have HT : Hid (tableP s.toList = tabR) := Lib.hid (by unfold tableP; rw [if_neg h1, if_pos (Or.inl h2)])
      clear h1
      go_enter Try.func50, Try.ntmps50
      go_wp2
      go_ret
      refine ⟨_, rfl, ?_, below1 w _⟩
      rw [HT.out]
      exact own_lit (cs := (cellsN tabR).toArray) 2 21 rfl (by simp [maxLen]) (Nat.le_refl _)
    · have q2 := ne_tl h2
      by_cases h3 : s.toList = [97, 97, 114, 99, 104, 54, 52]
      · have HT : Hid (tableP s.toList = tabR) := Lib.hid (by unfold tableP; rw [if_neg h1, if_pos (Or.inr h3)])
        clear h1 h2
        go_enter Try.func50, Try.ntmps50
        go_wp2
        go_ret
        refine ⟨_, rfl, ?_, below1 w _⟩
        rw [HT.out]
        exact own_lit (cs := (cellsN tabR).toArray) 2 21 rfl (by simp [maxLen]) (Nat.le_refl _)
      · have q3 := ne_tl h3
        have HT : Hid (tableP s.toList = []) := Lib.hid (by unfold tableP; rw [if_neg h1, if_neg (by rintro (h | h); exact h2 h; exact h3 h)])
        clear h1 h2 h3
        go_enter Try.func50, Try.ntmps50
        go_wp2
        go_ret
        refine ⟨_, rfl, ?_, Below.refl _ _⟩
        rw [HT.out]
        exact World.ownsRow_nil _ _ _ _
set_option maxHeartbeats 3200000 in
theorem rTable_c (s : ByteArray) (w : World) : Calls Try.prog 51 #[.string s] w (TabPost 103 (tableP s.data.toList) w) := by
  rw [← ByteArray.toList_eq]
  by_cases h1 : s.toList = [120, 56, 54, 95, 54, 52]
  · have HT : Hid (tableP s.toList = tabX) := Lib.hid (by unfold tableP; rw [if_pos h1])
    go_enter Try.func51, Try.ntmps51
    go_wp2
    go_ret
    refine ⟨_, rfl, ?_, below1 w _⟩
    rw [HT.out]
    exact own_lit (cs := (cellsN tabX).toArray) 2 24 rfl (by simp [maxLen]) (Nat.le_refl _)
  · have q1 := ne_tl h1
    by_cases h2 : s.toList = [114, 105, 115, 99, 118, 54, 52]
    · have HT : Hid (tableP s.toList = tabR) := Lib.hid (by unfold tableP; rw [if_neg h1, if_pos (Or.inl h2)])
      clear h1
      go_enter Try.func51, Try.ntmps51
      go_wp2
      go_ret
      refine ⟨_, rfl, ?_, below1 w _⟩
      rw [HT.out]
      exact own_lit (cs := (cellsN tabR).toArray) 2 21 rfl (by simp [maxLen]) (Nat.le_refl _)
    · have q2 := ne_tl h2
      by_cases h3 : s.toList = [97, 97, 114, 99, 104, 54, 52]
      · have HT : Hid (tableP s.toList = tabR) := Lib.hid (by unfold tableP; rw [if_neg h1, if_pos (Or.inr h3)])
        clear h1 h2
        go_enter Try.func51, Try.ntmps51
        go_wp2
        go_ret
        refine ⟨_, rfl, ?_, below1 w _⟩
        rw [HT.out]
        exact own_lit (cs := (cellsN tabR).toArray) 2 21 rfl (by simp [maxLen]) (Nat.le_refl _)
      · have q3 := ne_tl h3
        have HT : Hid (tableP s.toList = []) := Lib.hid (by unfold tableP; rw [if_neg h1, if_neg (by rintro (h | h); exact h2 h; exact h3 h)])
        clear h1 h2 h3
        go_enter Try.func51, Try.ntmps51
        go_wp2
        go_ret
        refine ⟨_, rfl, ?_, Below.refl _ _⟩
        rw [HT.out]
        exact World.ownsRow_nil _ _ _ _
end Go.Proofs.Ytebkbcpnjknkjaa
