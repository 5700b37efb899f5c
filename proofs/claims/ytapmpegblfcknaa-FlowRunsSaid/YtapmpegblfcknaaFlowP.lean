import Derived.Test.YtapmpegblfcknaaAcc
set_option linter.unusedVariables false
set_option linter.unusedSimpArgs false
namespace Go.Proofs.Ytapmpegblfcknaa
open Go.RowKit
/-! The plain side of layer 10: where an instruction leads. -/
def onL (at_ left : Nat) (skip : Int) : List Nat := if skip < left then [at_ + 1 + skip.toNat] else []
def nextI (x : I4) (at_ left : Nat) : List Nat :=
  if x.c = 6 ∨ x.c = 22 then []
  else if x.c = 5 then onL at_ left x.k
  else if memC x.c jumpL = true then (if x.j = x.f then onL at_ left x.j else onL at_ left x.j ++ onL at_ left x.f)
  else onL at_ left 0
def nextQ (q : List I4) (i : Nat) : List Nat := match q[i]? with | some x => nextI x i (q.length - i - 1) | none => []
def nextAt (q : List I4) (i : Int) : List Nat := if i < 0 then [] else nextQ q i.toNat
theorem onL_mem {at_ left : Nat} {skip : Int} {n : Nat} (h : n ∈ onL at_ left skip) (h0 : 0 ≤ skip) : at_ < n ∧ n < at_ + 1 + left := by
  unfold onL at h
  split at h
  · simp at h; subst h; omega
  · simp at h
theorem nextI_mem {x : I4} (hx : x.ok) {at_ left n : Nat} (h : n ∈ nextI x at_ left) : at_ < n ∧ n < at_ + 1 + left := by
  obtain ⟨a1, a2, a3, a4, a5, a6, a7, a8⟩ := hx
  unfold nextI at h
  split at h
  · simp at h
  split at h
  · exact onL_mem h a7
  split at h
  · split at h
    · exact onL_mem h a3
    · rcases List.mem_append.1 h with h | h
      · exact onL_mem h a3
      · exact onL_mem h a5
  · exact onL_mem h (by omega)
theorem onL_len (at_ left : Nat) (skip : Int) : (onL at_ left skip).length ≤ 1 := by unfold onL; split <;> simp
theorem nextI_len (x : I4) (at_ left : Nat) : (nextI x at_ left).length ≤ 2 := by
  have h1 := onL_len at_ left x.j
  have h2 := onL_len at_ left x.f
  have h3 := onL_len at_ left x.k
  have h4 := onL_len at_ left 0
  unfold nextI
  split
  · simp
  split
  · omega
  split
  · split
    · omega
    · simp; omega
  · omega
theorem nextQ_len (q : List I4) (i : Nat) : (nextQ q i).length ≤ 2 := by
  unfold nextQ; split
  · exact nextI_len _ _ _
  · simp
theorem nextQ_mem {q : List I4} (hq : ∀ x ∈ q, x.ok) {i n : Nat} (h : n ∈ nextQ q i) : i < n ∧ n < q.length := by
  unfold nextQ at h
  split at h
  · rename_i x hx
    have hl := (List.getElem?_eq_some_iff.1 hx).1
    have := nextI_mem (hq x (List.mem_of_getElem? hx)) h
    omega
  · simp at h
/-- Jumps, as the program tells them. -/
theorem jumps_small : chk (fun n => ((bits .and .u16 n 7 == 5) && ((n : Int) != 5) && sealsL n) == memC n jumpL) 256 = true := by decide +kernel
theorem memC_big {c : Int} (h : 256 ≤ c) : memC c jumpL = false := by
  have hs := sealsL_big c h
  cases hm : memC c jumpL with
  | false => rfl
  | true => have : sealsL c = true := by simp [sealsL, List.contains_iff_mem, mem_of_memC hm]
            rw [hs] at this; cases this
theorem jumps_eq (c : Int) (h0 : 0 ≤ c) : ((bits .and .u16 c 7 == 5) && (c != 5) && sealsL c) = memC c jumpL := by
  obtain ⟨n, rfl⟩ := Int.eq_ofNat_of_zero_le h0
  by_cases h : n < 256
  · have := chk_all _ _ jumps_small n h
    simpa using this
  · rw [memC_big (by omega), sealsL_big _ (by omega), Bool.and_false]
def natsI (l : List Nat) : List Int := l.map fun n : Nat => (n : Int)
end Go.Proofs.Ytapmpegblfcknaa
