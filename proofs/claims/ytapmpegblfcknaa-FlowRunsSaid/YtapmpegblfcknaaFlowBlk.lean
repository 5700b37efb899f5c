import Derived.Test.YtapmpegblfcknaaFlowBlkW
set_option linter.unusedVariables false
set_option linter.unusedSimpArgs false
namespace Go.Proofs.Ytapmpegblfcknaa
open Go.RowKit Go.Shelf
/-! flow.Blocks: the contract. -/
theorem blocks_c (A : Option Addr) (cap : Nat) (q : List I4) (h0 : (checkP q).1 = 0) (hok : ∀ x ∈ q, x.ok) (w : World) (hr : Reads w w.heap.size 4 A q.length (cellsI q)) :
    Calls Try.prog 48 #[.slice A q.length cap] w (BlksPost w q) := callsIn_wide.1 (blocks_in A cap q h0 hok w hr)
set_option maxRecDepth 100000 in
set_option maxHeartbeats 800000 in
theorem Blocks_c (A : Option Addr) (cap : Nat) (q : List I4) (hok : ∀ x ∈ q, x.ok) (hn : q.length ≤ 9223372036854775807) (w : World) (hr : Reads w w.heap.size 4 A q.length (cellsI q)) :
    Calls Try.prog 29 #[.slice A q.length cap] w (BlocksPost w q) := by
  have HF := Lib.hid (fine_c A cap q hok hn w hr)
  have HR := Lib.hid hr
  have HOK := Lib.hid hok
  clear hr hok
  by_cases h0 : (checkP q).1 = 0
  · have hb : ((checkP q).1 == 0) = true := by simpa using h0
    have HB := Lib.hid hb
    have H0 := Lib.hid h0
    clear hb h0
    go_enter Try.func29, Try.ntmps29
    go_wp2_with fail
    refine HF.out.mono ?_
    rintro e w1 ⟨rfl, hb1⟩
    rw [HB.out]
    go_wp2_with fail
    refine (blocks_c A cap q H0.out HOK.out w1 (HR.out.up hb1)).mono ?_
    rintro e w2 ⟨v, vs, nu, rfl, h1, h2, h3, h4, h5, h6⟩
    obtain ⟨Al, cl, rfl⟩ := own_slice h2
    have HX := Lib.hid (And.intro h1 (And.intro h2 (And.intro h3 (And.intro h4 (And.intro h5 h6)))))
    have HB1 := Lib.hid hb1
    clear h1 h2 h3 h4 h5 h6 hb1
    go_wp2
    refine bodyPost_ret (v := .tuple #[.slice Al (blocksQ q).length cl, .int .i64 0]) (by simp [results, Try.results29, go_sem]) rfl ?_
    obtain ⟨h1, h2, h3, h4, h5, h6⟩ := HX.out
    exact .inr ⟨H0.out, _, rfl, _, vs, nu, rfl, h1, own_base h2 HB1.out.size, below_t HB1.out h3, h4, h5, fun j v h7 h8 => own_base (h6 j v h7 h8) HB1.out.size⟩
  · have hb : ((checkP q).1 == 0) = false := by simpa using h0
    have HB := Lib.hid hb
    have H0 := Lib.hid h0
    clear hb h0
    go_enter Try.func29, Try.ntmps29
    go_wp2_with fail
    refine HF.out.mono ?_
    rintro e w1 ⟨rfl, hb1⟩
    rw [HB.out]
    go_wp2
    refine bodyPost_ret (v := .tuple #[.slice none 0 0, .int .i64 1]) (by simp [results, Try.results29, go_sem]) rfl ?_
    exact .inl ⟨H0.out, rfl, hb1⟩
end Go.Proofs.Ytapmpegblfcknaa
