import Derived.Test.YtpofdjnkpplimaaCbpfCh
set_option linter.unusedVariables false
set_option linter.unusedSimpArgs false
namespace Go.Proofs.Ytpofdjnkpplimaa
open Go.RowKit Go.Shelf
attribute [local go_sem] Oper.semAt_some
/-! cbpf.Read. -/
theorem Chunk_c (A : Option Addr) (n cap : Nat) (w : World) : Calls Try.prog 44 #[.slice A n cap, .int .i64 8] w fun e w' => e = .returned (.func (.func 63) #[] #[.pointer (some ⟨w.heap.size, 0, none⟩), .pointer (some ⟨w.heap.size + 1, 0, none⟩)]) ∧ w' = (w.alloc (.cells #[.slice A n cap] 23)).alloc (.cells #[.int .i64 8] 3) := by
  go_enter Try.func44, Try.ntmps44
  go_wp2
  go_ret
  exact ⟨rfl, rfl⟩
theorem there2_c (A : Option Addr) (n cap : Nat) (at_ : Nat) (h : at_ + 2 ≤ n) (hn : n ≤ 9223372036854775807) (w : World) : Calls Try.prog 62 #[.slice A n cap, .int .i64 at_, .int .i64 2] w fun e w' => e = .returned (.bool true) ∧ w = w' := there_n A n cap at_ 2 h (by decide) hn w
theorem or2 {b0 b1 : Int} (p0 : 0 ≤ b0) (q0 : b0 < 256) (p1 : 0 ≤ b1) (q1 : b1 < 256) : bits .or .u64 (bits .or .u64 0 b0) (b1 * 256) = b0 + b1 * 256 := by
  have e0 : bits .or .u64 0 b0 = b0 := by rw [or_add 0 0 b0 (by decide) (by decide) (by decide) p0 (by omega) (by omega)]; omega
  rw [e0, or_add 8 b0 (b1 * 256) p0 (by simpa using q0) (by omega) (by omega) (by omega) (by omega)]
set_option maxHeartbeats 800000 in
theorem Load2_w (b off cap at_ : Nat) (b0 b1 : Int) (n : Nat) (h : at_ + 2 ≤ n) (hn : n ≤ 9223372036854775807) (w : World)
    (c0 : w.cell? ⟨b, off + at_, none⟩ = some (.int .u8 b0)) (c1 : w.cell? ⟨b, off + (at_ + 1), none⟩ = some (.int .u8 b1)) 
    (h0 : 0 ≤ b0 ∧ b0 < 256) (h1 : 0 ≤ b1 ∧ b1 < 256) :
    Calls Try.prog 45 #[.slice (some ⟨b, off, none⟩) n cap, .int .i64 at_, .int .i64 2] w fun e w' => e = .returned (.tuple #[.int .u64 (b0 + b1 * 256), .int .i64 0]) ∧ w = w' := by
  obtain ⟨p0, q0⟩ := h0
  obtain ⟨p1, q1⟩ := h1
  have hi : (at_ : Int) + 2 ≤ n := by omega
  go_enter Try.func45, Try.ntmps45
  go_wp2_with fail
  refine (there2_c _ n cap at_ h hn w).mono ?_
  rintro e w' ⟨rfl, rfl⟩
  go_wp2_with fail
  refine wp_loop_rounds 3 ?_
  rw [rounds_succ]
  go_wp2_with fail
  rw [rounds_succ]
  go_wp2_with fail
  rw [rounds_succ]
  go_wp2_with fail
  go_ret2
  exact ⟨ret2_u (or2 p0 q0 p1 q1), rfl⟩
def readI (d : List Int) (i : Nat) : I4 := ⟨getN d (8 * i) + getN d (8 * i + 1) * 256, getN d (8 * i + 2), getN d (8 * i + 3), getN d (8 * i + 4) + getN d (8 * i + 4 + 1) * 256 + getN d (8 * i + 4 + 2) * 65536 + getN d (8 * i + 4 + 3) * 16777216⟩
def readQ (d : List Int) (m : Nat) : List I4 := (List.range m).map (readI d)
theorem KpB.put {Bs Bn : Nat} {w : World} (h1 : Bs < w.heap.size) (h2 : Bn < w.heap.size) (W : World) (l : Nat) (o o' : Obj) (hl : w.heap.size ≤ l) (h : W.heap[l]? = some o) (hc : o.isCells = false) (_ : o.isWalk = false) : KpB Bs Bn W (W.putObj l o') :=
  ⟨by simp, fun _ => World.putObj_heap_other (by omega), fun _ => World.putObj_heap_other (by omega)⟩
theorem chunk_stops (n Bs Bn b off m cap : Nat) (hm : 8 * m ≤ cap) (hm2 : 8 * m ≤ 281474976710656) (w : World)
    (hs : w.heap[Bs]? = some (.cells #[.slice (some ⟨b, off, none⟩) (8 * m) cap] 23 (0, 0))) (hn : w.heap[Bn]? = some (.cells #[.int .i64 8] 3 (0, 0))) :
    SeqStopsK Fence.wide n Try.prog 63 #[.pointer (some ⟨Bs, 0, none⟩), .pointer (some ⟨Bn, 0, none⟩)] (fun i : { i : Nat // i < m } => #[Value.slice (some ⟨b, off + 8 * i.1, none⟩) 8 8]) (KpB Bs Bn) (fun xs => xs.map (fun t => t.1) = List.range m) (fun _ => True) m w := fun l J Jx W hW hJ hJx hY h0 => by
  refine (chunk_in l Bs Bn b off m cap hm hm2 (fun s W => ∃ s' : List { i : Nat // i < m }, s'.map (fun t => t.1) = s ∧ J s' W) (fun s W => ∃ s' : List { i : Nat // i < m }, s'.map (fun t => t.1) = s ∧ Jx s' W) n W
    (fun s A B row hs hg hr => by obtain ⟨l', e, h⟩ := hs; exact ⟨l', e, hJ l' A B row h hg hr⟩) (fun i W1 hi hj => ?_) ?_ ?_ ⟨[], rfl, h0⟩).mono ?_
  · obtain ⟨s', e, h⟩ := hj
    have hl : s'.length < m := by rw [← List.length_map (f := fun t : { i : Nat // i < m } => t.1), e]; simpa using hi
    obtain ⟨fn, tmps, assign, body, hy, hR⟩ := hY s' ⟨i, hi⟩ W1 h hl
    refine ⟨fn, tmps, assign, body, hy, hR.mono ?_⟩
    rintro e' W' (⟨h1, h2, h3⟩ | ⟨h1, h2⟩)
    · exact .inl ⟨h1, ⟨_, by rw [List.map_append, e, List.range_succ]; rfl, h2⟩, h3⟩
    · exact .inr ⟨h1, ⟨_, by rw [List.map_append, e, List.range_succ]; rfl, h2⟩⟩
  · exact (hW.block _ (Array.getElem?_eq_some_iff.1 hs).1).trans hs
  · exact (hW.block _ (Array.getElem?_eq_some_iff.1 hn).1).trans hn
  · rintro e W' ⟨hv, ⟨s', e', h1⟩ | ⟨k, s', _, h1⟩⟩
    · exact ⟨hv, .inl ⟨s', e', h1⟩⟩
    · exact ⟨hv, .inr ⟨s', trivial, h1⟩⟩
end Go.Proofs.Ytpofdjnkpplimaa
