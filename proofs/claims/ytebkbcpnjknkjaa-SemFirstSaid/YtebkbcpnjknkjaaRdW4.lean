import Derived.Test.YtebkbcpnjknkjaaRdW3
import Derived.Test.YtebkbcpnjknkjaaTreeP
set_option linter.unusedVariables false
set_option linter.unusedSimpArgs false
set_option maxRecDepth 100000
namespace Go.Proofs.Ytebkbcpnjknkjaa
open Go.RowKit
/-! ravelinref06's reader where nothing is wrong: what its functions do then; verdict, test. -/
def St (a : Nat) (d : Int) : RSt := ⟨a, d, 0, 0⟩
def tkB (kd : Int) (tx : ByteArray) (t : Tk) : Bool := t.kind == kd && t.text.data.toList == tx.data.toList
theorem tkB_iff (kd : Int) (tx : ByteArray) (t : Tk) : tkB kd tx t = true ↔ t.kind = kd ∧ t.text = tx := by
  unfold tkB
  obtain ⟨k, ⟨⟨x⟩⟩, n, a⟩ := t
  obtain ⟨⟨y⟩⟩ := tx
  simp
section
variable {l : List Tk} {ee pl : Int} {a : Nat} {d : Int}
theorem peek_St (ha : a < l.length) : peekP l ee pl (St a d) = (l.getD a Tk.zero, St a d) := by
  unfold peekP
  rw [if_neg (by simp [St]), if_neg (by simp [St]; omega)]; rfl
theorem bump_St (ha : a < 1000000) : bumpP (St a d) = some (St (a + 1) d) := by
  unfold bumpP; rw [if_pos (by simpa [St] using ha)]; rfl
theorem rnext_St (ha : a < l.length) (hl : l.length ≤ 100000) : rnextP l ee pl (St a d) = some (l.getD a Tk.zero, St (a + 1) d) := by
  unfold rnextP
  rw [peek_St ha]
  dsimp only
  rw [if_pos (show (St a d).err = 0 from rfl), bump_St (by omega)]; rfl
end
section
variable {l : List Tk} {ee pl : Int} {A : Option Addr} {c R a : Nat} {d : Int}
theorem peek_s (w : World) (h : RdAt l ee pl A c R (St a d) w) (ha : a < l.length) : Calls Try.prog 39 #[.pointer (some ⟨R, 0, none⟩)] w (RPost l ee pl A c R (l.getD a Tk.zero).val (St a d) w) := by
  have := peek_c w h
  rwa [peek_St ha] at this
theorem next_s (w : World) (h : RdAt l ee pl A c R (St a d) w) (ha : a < l.length) : Calls Try.prog 67 #[.pointer (some ⟨R, 0, none⟩)] w (RPost l ee pl A c R (l.getD a Tk.zero).val (St (a + 1) d) w) := by
  exact rnext_c w h (rnext_St ha h.len)
theorem is_s (kd : Int) (tx : ByteArray) {ok : Bool} (w : World) (h : RdAt l ee pl A c R (St a d) w) (ha : a < l.length) (ho : tkB kd tx (l.getD a Tk.zero) = ok) : Calls Try.prog 40 #[.pointer (some ⟨R, 0, none⟩), .int .i64 kd, .string tx] w (RPost l ee pl A c R (.bool ok) (St (if ok = true then a + 1 else a) d) w) := by
  refine ris_c kd tx w h ?_
  have hl := h.len
  unfold isP
  rw [peek_St ha]
  dsimp only
  cases ok with
  | true =>
    obtain ⟨h1, h2⟩ := (tkB_iff _ _ _).1 ho
    rw [if_neg (by rw [h1, h2]; simp [St]), bump_St (by omega)]; rfl
  | false =>
    have : ¬ ((l.getD a Tk.zero).kind = kd ∧ (l.getD a Tk.zero).text = tx) := fun hh => by rw [(tkB_iff _ _ _).2 hh] at ho; cases ho
    rw [if_pos (by simp only [St]; by_cases h1 : (l.getD a Tk.zero).kind = kd <;> simp_all)]; rfl
theorem is_t (kd : Int) (tx : ByteArray) (w : World) (h : RdAt l ee pl A c R (St a d) w) (ha : a < l.length) (ho : tkB kd tx (l.getD a Tk.zero) = true) : Calls Try.prog 40 #[.pointer (some ⟨R, 0, none⟩), .int .i64 kd, .string tx] w (RPost l ee pl A c R (.bool true) (St (a + 1) d) w) := is_s kd tx w h ha ho
theorem is_f (kd : Int) (tx : ByteArray) (w : World) (h : RdAt l ee pl A c R (St a d) w) (ha : a < l.length) (ho : tkB kd tx (l.getD a Tk.zero) = false) : Calls Try.prog 40 #[.pointer (some ⟨R, 0, none⟩), .int .i64 kd, .string tx] w (RPost l ee pl A c R (.bool false) (St a d) w) := is_s kd tx w h ha ho
theorem want_s (kd : Int) (tx : ByteArray) (w : World) (h : RdAt l ee pl A c R (St a d) w) (ha : a < l.length) (ho : tkB kd tx (l.getD a Tk.zero) = true) : Calls Try.prog 36 #[.pointer (some ⟨R, 0, none⟩), .int .i64 kd, .string tx] w (RPost l ee pl A c R (.tuple #[]) (St (a + 1) d) w) := by
  refine want_c kd tx w h ?_
  have hl := h.len
  obtain ⟨h1, h2⟩ := (tkB_iff _ _ _).1 ho
  have : isP l ee pl kd tx (St a d) = some (true, St (a + 1) d) := by
    unfold isP
    rw [peek_St ha]
    dsimp only
    rw [if_neg (by rw [h1, h2]; simp [St]), bump_St (by omega)]; rfl
  unfold wantP
  rw [this]; rfl
theorem kind_s (kd : Int) (w : World) (h : RdAt l ee pl A c R (St a d) w) (ha : a < l.length) (hk : (l.getD a Tk.zero).kind = kd) : Calls Try.prog 37 #[.pointer (some ⟨R, 0, none⟩), .int .i64 kd] w (RPost l ee pl A c R (l.getD a Tk.zero).val (St (a + 1) d) w) := by
  refine kind_c kd w h ?_
  have hl := h.len
  unfold kindP
  rw [peek_St ha]
  dsimp only
  rw [if_neg (fun h => h hk)]
  exact rnext_St ha hl
theorem deeper_s (t : Tk) (w : World) (h : RdAt l ee pl A c R (St a d) w) (hd : 0 ≤ d ∧ d < 64) : Calls Try.prog 85 #[.pointer (some ⟨R, 0, none⟩), t.val] w (RPost l ee pl A c R (.bool true) (St a (d + 1)) w) := by
  refine deeper_c t w h ?_
  unfold deeperP
  rw [if_pos (by simp only [St]; omega), if_neg (by simp only [St]; omega)]; rfl
def callS (t : Tk) : Option CallP := if t.kind = 2 then some ⟨t.text, 0⟩ else if t.kind = 3 then some ⟨⟨#[]⟩, t.num⟩ else none
theorem call_s {x : CallP} (w : World) (h : RdAt l ee pl A c R (St a d) w) (ha : a < l.length) (hx : callS (l.getD a Tk.zero) = some x) : Calls Try.prog 68 #[.pointer (some ⟨R, 0, none⟩)] w (RPost l ee pl A c R x.val (St (a + 1) d) w) := by
  refine call_c w h ?_
  have hl := h.len
  have hn : rnextP l ee pl (St a d) = some (l.getD a Tk.zero, St (a + 1) d) := rnext_St ha hl
  unfold callS at hx
  unfold callP
  rw [peek_St ha]
  dsimp only
  by_cases h2 : (l.getD a Tk.zero).kind = 2
  · rw [if_pos h2] at hx ⊢
    injection hx with hx
    subst hx
    rw [hn]; rfl
  · rw [if_neg h2] at hx ⊢
    by_cases h3 : (l.getD a Tk.zero).kind = 3
    · rw [if_pos h3] at hx ⊢
      injection hx with hx
      subst hx
      rw [hn]; rfl
    · rw [if_neg h3] at hx; cases hx
end
/-- A world behind calls of the reader's: it is at a state, and blocks that were there are there. -/
structure RdW (l : List Tk) (ee pl : Int) (A : Option Addr) (c R : Nat) (s : RSt) (w W : World) : Prop where
  at_ : RdAt l ee pl A c R s W
  keep : KeepR R w W
section
variable {l : List Tk} {ee pl : Int} {A : Option Addr} {c R : Nat} {s s' : RSt} {w W W' : World}
theorem RdW.start (h : RdAt l ee pl A c R s w) : RdW l ee pl A c R s w w := ⟨h, keepR_refl _ _⟩
theorem RdW.alloc (h : RdW l ee pl A c R s w W) (o : Obj) : RdW l ee pl A c R s w (W.alloc o) := ⟨h.at_.keep (below1 _ _), keepR_t h.keep (keepR_b (below1 _ _))⟩
theorem RdW.drewN (h : RdW l ee pl A c R s w W) (k : Nat) : RdW l ee pl A c R s w (W.drewN k) := ⟨h.at_.drewN k, ⟨h.keep.os, h.keep.tape, h.keep.output, h.keep.size, h.keep.block⟩⟩
theorem RdW.call {v : Value} {e : Ending} (h : RdW l ee pl A c R s w W) (k : RPost l ee pl A c R v s' W e W') : RdW l ee pl A c R s' w W' := ⟨k.2.1, keepR_t h.keep k.2.2⟩
theorem RdW.set (h : RdW l ee pl A c R s w W) {g : Nat} (hR : R < w.heap.size) (hg : w.heap.size ≤ g) (j : Nat) (v : Value) : RdW l ee pl A c R s w (W.setCell ⟨g, j, none⟩ v) := ⟨h.at_.setO (by omega) j v, keepR_setN h.keep hg j v⟩
theorem RdW.le (h : RdW l ee pl A c R s w W) : w.heap.size ≤ W.heap.size := h.keep.size
theorem RdW.lt (h : RdW l ee pl A c R s w W) : R < W.heap.size := h.at_.lt
end
theorem keep_box {R : Nat} {W W' : World} (k : KeepR R W W') {g : Nat} {o : Obj} (h : W.heap[g]? = some o) (hg : R < g) : W'.heap[g]? = some o :=
  (k.block g (Array.getElem?_eq_some_iff.1 h).1 (fun e => by injection e with e; omega)).trans h
theorem set6 {W : World} {g : Nat} {a b c d e f : Value} {t : TypeId} (h : W.heap[g]? = some (.cells #[a, b, c, d, e, f] t (0, 0))) (a' b' c' d' e' f' : Value) :
    ((((((W.setCell ⟨g, 0, none⟩ a').setCell ⟨g, 1, none⟩ b').setCell ⟨g, 2, none⟩ c').setCell ⟨g, 3, none⟩ d').setCell ⟨g, 4, none⟩ e').setCell ⟨g, 5, none⟩ f').heap[g]? = some (.cells #[a', b', c', d', e', f'] t (0, 0)) := by
  rw [heap_setT (heap_setT (heap_setT (heap_setT (heap_setT (heap_setT h a') b') c') d') e') f']; rfl
def wordS (s : List UInt8) : Option (Int × Bool) :=
  if s = [107, 105, 108, 108, 95, 112, 114, 111, 99, 101, 115, 115] then some (1, false) else if s = [107, 105, 108, 108, 95, 116, 104, 114, 101, 97, 100] then some (2, false)
  else if s = [116, 114, 97, 112] then some (3, true) else if s = [101, 114, 114, 110, 111] then some (4, true) else if s = [110, 111, 116, 105, 102, 121] then some (5, false)
  else if s = [116, 114, 97, 99, 101] then some (6, true) else if s = [108, 111, 103] then some (7, false) else if s = [97, 108, 108, 111, 119] then some (8, false) else none
def verdS (l : List Tk) (a : Nat) : Option ((Int × Int) × Nat) :=
  if a < l.length ∧ (l.getD a Tk.zero).kind = 2 then
    match wordS (l.getD a Tk.zero).text.data.toList with
    | none => none
    | some (k, false) => some ((k, 0), a + 1)
    | some (k, true) => if a + 1 < l.length ∧ (l.getD (a + 1) Tk.zero).kind = 3 then some ((k, (l.getD (a + 1) Tk.zero).num), a + 2) else none
  else none
def verdV (x : Int × Int) : Value := .agg #[.int .i64 x.1, .int .u64 x.2]
end Go.Proofs.Ytebkbcpnjknkjaa
