import Derived.Test.YtpofdjnkpplimaaRefS3
import Derived.Laws.BytesArg
set_option linter.unusedVariables false
set_option linter.unusedSimpArgs false
namespace Go.Proofs.Ytpofdjnkpplimaa
open Go.RowKit Go.Shelf
/-! ravelinlaw03.Head: the walk; bytes as strings. -/
def head03 : List I4 := [⟨0, 0, 0, 7⟩, ⟨4, 0, 0, 1⟩, ⟨22, 0, 0, 0⟩]
theorem head03P : runC head03 (List.replicate 64 0) = (8, 3, 0, 0) := by decide +kernel
set_option maxRecDepth 100000 in
set_option maxHeartbeats 1600000 in
theorem Head03_c (w : World) : Calls Try.prog 11 #[] w fun e w' => e = .returned (.bool true) ∧ Below w.heap.size w w' := by
  have HE := Lib.hid head03P
  obtain ⟨i0, HI⟩ : ∃ i0, Hid (Try.prog.info? 5 = some i0 ∧ i0.zero = some (.int .u8 0) ∧ i0.size = 1 ∧ i0.bytes = 1) := by
    obtain ⟨i0, hi, hz0, hz1, hz2⟩ := info_parts infoU8
    exact ⟨i0, Lib.hid ⟨hi, hz0, hz1, hz2⟩⟩
  have hok : ∀ x ∈ head03, x.ok := by intro x hx; simp [head03] at hx; rcases hx with rfl | rfl | rfl <;> simp [I4.ok]
  have HOK := Lib.hid hok
  have HR := Lib.hid (reads_new w (cellsI head03).toArray 34 4 3 (cellsI head03) rfl rfl)
  clear hok
  go_enter Try.func11, Try.ntmps11
  go_wp2_with (at_make; refine wpList_make_full _ rfl _ _ 23 rfl w.heap.size 5 i0 _ 1 Try.underlying23 HI.out.1 HI.out.2.1 HI.out.2.2.1 .i64 .i64 _ _ 64 rfl rfl rfl rfl (by rw [HI.out.2.2.2]; decide) (by decide) (by simp) ?_; intro w2 hown hg)
  have hb1 := below1 w (.cells (cellsI head03).toArray 34)
  have hb2 : Below w.heap.size w w2 := hb1.grown hg (by simp) (fun k hk => by cases hk)
  have hb12 : Below (w.heap.size + 1) (w.alloc (.cells (cellsI head03).toArray 34)) w2 := ⟨hg.os, hg.tape, hg.output, hg.size, fun k hk => hg.block k (by simp; omega) (by simp)⟩
  have HD := Lib.hid (show Reads w2 w2.heap.size 1 (some ⟨w.heap.size + 1, 0, none⟩) 64 (numV .u8 (List.replicate 64 0)) from by
    have e : (madeCells (Value.int .u8 0).cells (64 * 1)).toList = numV .u8 (List.replicate 64 0) := by
      simp only [numV, List.map_replicate]; exact toList_madeCells_one _ _
    have := Reads.of_own hown
    rw [e] at this
    simpa using this)
  have HQ := Lib.hid ((HR.out.below hb12).more (by have := hg.size; simpa using this))
  clear hown hg hb1 hb12
  go_wp2_with fail
  refine (Run_c _ 3 head03 _ 64 (List.replicate 64 0) (fun h => by cases h) (by decide) (by decide) (fun h => by cases h) (by decide) (by decide) HOK.out (by decide) w2 HQ.out HD.out).mono ?_
  rintro e w3 ⟨rfl, hb3⟩
  rw [HE.out]
  simp only [ret4]
  have hb3' := below_t hb2 hb3
  go_wp2
  go_ret
  exact ⟨rfl, hb3'⟩
theorem bytes_own0 (w : World) : (w.alloc (.cells #[] 5)).ownsRow w.heap.size 5 1 (.slice (some ⟨w.heap.size, 0, none⟩) 0 0) 0 [] := World.ownsRow_lit w #[] 0 (Nat.le_refl _) (by decide) rfl
theorem conv_empty (w : World) (a : Addr) (c : Nat) : (convert 23 9 (.slice (some a) 0 c)).run Try.prog w = .ok (.string (strOfNums [])) w := by
  rw [run_convert_bytes_string w _ _ 5 _ 0 c Try.underlying23 Try.underlying5 Try.underlying9]
  have hl : (loadCells a 0).run Try.prog w = .ok #[] w := by
    have := run_loadCells_list (P := Try.prog) w a [] (fun j v hj => by simp at hj)
    simpa using this
  rw [run_bytesToString w _ 0 c [] (by simpa using hl), foldl_push_bytes]
  simp [strOfNums, ByteArray.empty, ByteArray.emptyWithCapacity]
  rfl
/-- A slice of bytes as a string. -/
theorem conv_reads {w : World} {B : Nat} {A : Option Addr} {d : List Int} {cap : Nat} (hA : A = none → cap = 0) (h : Reads w B 1 A d.length (numV .u8 d)) : (convert 23 9 (.slice A d.length cap)).run Try.prog w = .ok (.string (strOfNums d)) w := by
  by_cases h0 : 0 < d.length
  · obtain ⟨b, off, e, _, _⟩ := h.2 h0
    subst e
    refine run_convert_bytes_arg w _ 5 Try.underlying23 Try.underlying5 b off d.length cap d rfl (fun i hi => ?_) _ Try.underlying9
    obtain ⟨b', off', e, _, hc⟩ := h.num (List.getElem?_eq_getElem hi)
    injection e with e
    injection e with e1 e2
    subst e1 e2
    rw [hc, List.getD_eq_getElem?_getD, List.getElem?_eq_getElem hi]; rfl
  · have hd : d = [] := List.eq_nil_of_length_eq_zero (by omega)
    subst hd
    cases A with
    | none => obtain rfl := hA rfl; exact run_convert_bytes_nil w _ 5 Try.underlying23 Try.underlying5 _ _ _ Try.underlying9
    | some a => exact conv_empty w a cap
end Go.Proofs.Ytpofdjnkpplimaa
