import Derived.Test.YtapmpegblfcknaaRefS2
set_option linter.unusedVariables false
set_option linter.unusedSimpArgs false
namespace Go.Proofs.Ytapmpegblfcknaa
open Go.RowKit
/-! ravelinref03.New: the contract; how far a machine is. -/
def RNewPost (w : World) (A : Option Addr) (cap : Nat) (q : List I4) (Ad : Option Addr) (capd : Nat) (d : List Int) (e : Ending) (w' : World) : Prop :=
  e = .returned (.pointer (some ⟨w.heap.size, 0, none⟩)) ∧ RMAt w' w.heap.size ⟨A, q.length, cap, Ad, d.length, capd⟩ (MV.of CS.zero) ∧ REnv w' w.heap.size ⟨A, q.length, cap, Ad, d.length, capd⟩ q d ∧ Below w.heap.size w w'
theorem rNew_c (A : Option Addr) (cap : Nat) (q : List I4) (Ad : Option Addr) (capd : Nat) (d : List Int) (w : World) (hr : Reads w w.heap.size 4 A q.length (cellsI q)) (hrd : Reads w w.heap.size 1 Ad d.length (numV .u8 d)) :
    Calls Try.prog 50 #[.slice A q.length cap, .slice Ad d.length capd] w (RNewPost w A cap q Ad capd d) := by
  have HR := Lib.hid hr
  have HRD := Lib.hid hrd
  clear hr hrd
  go_enter Try.func50, Try.ntmps50
  go_wp2
  go_ret
  refine ⟨rfl, ⟨rfl, ?_⟩, ⟨rfl, rfl, HR.out.alloc (Nat.le_refl _) _, HRD.out.alloc (Nat.le_refl _) _⟩, below1 _ _⟩
  rw [heap_alloc_new]; rfl
theorem rstepsOf_at {w : World} {B : Nat} {K : RK} {z : CS} (h : RMAt w B K (MV.of z)) : stepsOf B w = z.steps := by
  unfold stepsOf; rw [h.c21]; simp [MV.of]
def rleft (n : Nat) (B : Nat) (t : Value) (w : World) : Nat := match t with | .bool true => 0 | _ => n + 2 - stepsOf B w
end Go.Proofs.Ytapmpegblfcknaa
