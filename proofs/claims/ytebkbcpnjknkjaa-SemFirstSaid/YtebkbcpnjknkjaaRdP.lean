import Derived.Test.YtebkbcpnjknkjaaRdW5
set_option linter.unusedVariables false
set_option linter.unusedSimpArgs false
set_option maxRecDepth 100000
namespace Go.Proofs.Ytebkbcpnjknkjaa
open Go.RowKit
/-! ravelinref06's expressions, read without an error: plainly; trees in worlds that change elsewhere. -/
def fieldS (s : List UInt8) : Int :=
  if s = [105, 112] then 6 else match s with
    | [97, 114, 103, d] => if 48 ≤ d.toNat ∧ d.toNat ≤ 53 then (d.toNat : Int) - 48 else -1
    | _ => -1
theorem fieldS_eq (s : ByteArray) : fieldP s = fieldS s.data.toList := by
  obtain ⟨⟨l⟩⟩ := s
  unfold fieldP fieldS
  simp only [ByteArray.toList_eq, beq_iff_eq]
  by_cases h : l = [105, 112]
  · simp [h]
  · rw [if_neg h, if_neg h]
    have hs : ByteArray.size ⟨⟨l⟩⟩ = l.length := rfl
    split
    · rename_i h2
      obtain ⟨h4, h3, h5, h6⟩ := h2
      rw [hs] at h4
      match l, h4 with
      | [a, b, c, d], _ =>
        have e3 : [a, b, c] = [97, 114, 103] := by simpa [ByteArray.data_extract] using h3
        have eb : bt ⟨⟨[a, b, c, d]⟩⟩ 3 = (d.toNat : Int) := by unfold bt; rw [dif_pos (by rw [hs]; show 3 < 4; decide)]; rfl
        simp only [List.cons.injEq, and_true] at e3
        obtain ⟨rfl, rfl, rfl⟩ := e3
        rw [eb] at h5 h6 ⊢
        show _ = if 48 ≤ d.toNat ∧ d.toNat ≤ 53 then (d.toNat : Int) - 48 else -1
        rw [if_pos (by omega)]
    · rename_i h2
      split
      · rename_i d
        split
        · rename_i h3
          exfalso
          apply h2
          have eb : bt ⟨⟨[97, 114, 103, d]⟩⟩ 3 = (d.toNat : Int) := by unfold bt; rw [dif_pos (by rw [hs]; show 3 < 4; decide)]; rfl
          refine ⟨rfl, rfl, ?_, ?_⟩ <;> rw [eb] <;> omega
        · rfl
      · rfl
def wrapX (op : Int) : List ExA → ExA
  | [x] => x
  | l => .mk op none 0 l 0 0 0 0
def pS (l : List Tk) : Nat → Nat → Nat → Int → List ExA → Option (List ExA × Nat)
  | 0, _, _, _, _ => none
  | f + 1, 0, a, d, _ =>
    if a < l.length then
      if tkB 2 ⟨#[110, 111, 116]⟩ (l.getD a Tk.zero) = true then
        if 0 ≤ d ∧ d < 64 then
          match pS l f 0 (a + 1) (d + 1) [] with
          | some ([x], a1) => some ([.mk 3 none 0 [x] 0 0 0 0], a1)
          | _ => none
        else none
      else if tkB 4 ⟨#[40]⟩ (l.getD a Tk.zero) = true then
        if 0 ≤ d ∧ d < 64 then
          match pS l f 2 (a + 1) (d + 1) [] with
          | some (es, a1) => if a1 < l.length ∧ tkB 4 ⟨#[41]⟩ (l.getD a1 Tk.zero) = true then some ([wrapX 5 es], a1 + 1) else none
          | none => none
        else none
      else if tkB 2 ⟨#[116, 114, 117, 101]⟩ (l.getD a Tk.zero) = true then some ([.mk 1 none 0 [] 0 0 0 0], a + 1)
      else if tkB 2 ⟨#[102, 97, 108, 115, 101]⟩ (l.getD a Tk.zero) = true then some ([.mk 2 none 0 [] 0 0 0 0], a + 1)
      else if (l.getD a Tk.zero).kind = 2 ∧ 0 ≤ fieldS (l.getD a Tk.zero).text.data.toList then
        match testS l (fieldS (l.getD a Tk.zero).text.data.toList) (a + 1) with
        | some (x, a1) => some ([x], a1)
        | none => none
      else none
    else none
  | f + 1, 1, a, d, acc =>
    match pS l f 0 a d [] with
    | some ([x], a1) => if a1 < l.length then (if tkB 2 ⟨#[97, 110, 100]⟩ (l.getD a1 Tk.zero) = true then pS l f 1 (a1 + 1) d (acc ++ [x]) else some (acc ++ [x], a1)) else none
    | _ => none
  | f + 1, _ + 2, a, d, acc =>
    match pS l f 1 a d [] with
    | some (es, a1) => if a1 < l.length then (if tkB 2 ⟨#[111, 114]⟩ (l.getD a1 Tk.zero) = true then pS l f 2 (a1 + 1) d (acc ++ [wrapX 4 es]) else some (acc ++ [wrapX 4 es], a1)) else none
    | none => none
theorem testS_lt {l : List Tk} {f : Int} {a a' : Nat} {x : ExA} (h : testS l f a = some (x, a')) : a < a' := by
  unfold testS testT at h
  repeat' split at h
  all_goals first | (cases h; done) | (simp only [Option.some.injEq, Prod.mk.injEq] at h; omega)
theorem pS_lt {l : List Tk} : ∀ (f m a : Nat) (d : Int) (acc es : List ExA) (a' : Nat), pS l f m a d acc = some (es, a') → a < a' ∧ (1 ≤ m → acc.length < es.length) := by
  intro f
  induction f with
  | zero => intro m a d acc es a' h; cases h
  | succ f ih =>
    intro m a d acc es a' h
    match m with
    | 0 =>
      rw [pS] at h
      refine ⟨?_, fun h => absurd h (by decide)⟩
      split at h
      · split at h
        · split at h
          · split at h
            · rename_i e
              have := (ih _ _ _ _ _ _ e).1
              simp only [Option.some.injEq, Prod.mk.injEq] at h; omega
            · cases h
          · cases h
        · split at h
          · split at h
            · split at h
              · rename_i e
                split at h
                · have := (ih _ _ _ _ _ _ e).1
                  simp only [Option.some.injEq, Prod.mk.injEq] at h; omega
                · cases h
              · cases h
            · cases h
          · split at h
            · simp only [Option.some.injEq, Prod.mk.injEq] at h; omega
            · split at h
              · simp only [Option.some.injEq, Prod.mk.injEq] at h; omega
              · split at h
                · split at h
                  · rename_i e
                    have := testS_lt e
                    simp only [Option.some.injEq, Prod.mk.injEq] at h; omega
                  · cases h
                · cases h
      · cases h
    | 1 =>
      rw [pS] at h
      split at h
      · rename_i e
        have h1 := (ih _ _ _ _ _ _ e).1
        split at h
        · split at h
          · have h2 := ih _ _ _ _ _ _ h
            have h3 := h2.2 (by decide)
            rw [List.length_append] at h3
            exact ⟨by omega, fun _ => by omega⟩
          · simp only [Option.some.injEq, Prod.mk.injEq] at h
            obtain ⟨rfl, rfl⟩ := h
            exact ⟨h1, fun _ => by rw [List.length_append]; simp⟩
        · cases h
      · cases h
    | m + 2 =>
      rw [pS] at h
      split at h
      · rename_i e
        have h1 := (ih _ _ _ _ _ _ e).1
        split at h
        · split at h
          · have h2 := ih _ _ _ _ _ _ h
            have h3 := h2.2 (by decide)
            rw [List.length_append] at h3
            exact ⟨by omega, fun _ => by omega⟩
          · simp only [Option.some.injEq, Prod.mk.injEq] at h
            obtain ⟨rfl, rfl⟩ := h
            exact ⟨h1, fun _ => by rw [List.length_append]; simp⟩
        · cases h
      · cases h
section
variable {W W' : World} {N N' : Nat → Prop} {x : ExA}
theorem ExA.In.mono (h : x.In W N) (hN : ∀ b, N b → N' b) : x.In W N' := h.keep fun b hb _ => ⟨hN b hb, rfl⟩
theorem ExA.In.set (h : x.In W N) {g : Nat} (hg : ¬ N g) (j : Nat) (v : Value) : x.In (W.setCell ⟨g, j, none⟩ v) N := h.keep fun b hb _ => ⟨hb, Below.heap_setCell W ⟨g, j, none⟩ v b (fun e => hg (by have e' : b = g := e; rwa [e'] at hb))⟩
theorem ExA.In.alloc (h : x.In W N) (o : Obj) : x.In (W.alloc o) N := h.keep fun b hb hl => ⟨hb, Below.heap_alloc W o b hl⟩
theorem ExA.In.drewN (h : x.In W N) (k : Nat) : x.In (W.drewN k) N := ExA.In.keep (W := W) (W' := W.drewN k) (N := N) (N' := N) (fun b hb hl => ⟨hb, rfl⟩) x h
theorem ExA.In.keepR {R : Nat} (h : x.In W N) (k : KeepR R W W') (hR : ¬ N R) : x.In W' N := h.keep fun b hb hl => ⟨hb, k.block b hl (fun e => hR (by injection e with e; rwa [e] at hb))⟩
theorem ExA.In.below (h : x.In W N) (k : Below W.heap.size W W') : x.In W' N := h.keep fun b hb hl => ⟨hb, k.block b hl⟩
end
def XPost (l : List Tk) (ee pl : Int) (A : Option Addr) (c R : Nat) (x0 : ExA) (a' : Nat) (d : Int) (w : World) (e : Ending) (w' : World) : Prop :=
  ∃ x : ExA, e = .returned x.val ∧ x.strip = x0.strip ∧ x.In w' (fun b => w.heap.size ≤ b) ∧ RdAt l ee pl A c R (St a' d) w' ∧ KeepR R w w'
theorem RdAt.deep {l : List Tk} {ee pl : Int} {A : Option Addr} {c R a : Nat} {d : Int} {W : World} (h : RdAt l ee pl A c R (St a (d + 1)) W) : RdAt l ee pl A c R (St a d) (W.setCell ⟨R, 4, none⟩ (.int .i64 d)) := h.set (by simp [rdCells, St])
theorem RdW.deep {l : List Tk} {ee pl : Int} {A : Option Addr} {c R a : Nat} {d : Int} {w W : World} (h : RdW l ee pl A c R (St a (d + 1)) w W) : RdW l ee pl A c R (St a d) w (W.setCell ⟨R, 4, none⟩ (.int .i64 d)) := ⟨h.at_.deep, keepR_t h.keep (keepR_set R 4 W _)⟩
def set6W (W : World) (g : Nat) (a b c d e f : Value) : World := (((((W.setCell ⟨g, 0, none⟩ a).setCell ⟨g, 1, none⟩ b).setCell ⟨g, 2, none⟩ c).setCell ⟨g, 3, none⟩ d).setCell ⟨g, 4, none⟩ e).setCell ⟨g, 5, none⟩ f
section
variable {W : World} {g : Nat} (a b c d e f : Value)
theorem set6W_other {k : Nat} (h : k ≠ g) : (set6W W g a b c d e f).heap[k]? = W.heap[k]? := by
  unfold set6W
  iterate 6 rw [Below.heap_setCell _ _ _ _ (by exact h)]
theorem set6W_size : (set6W W g a b c d e f).heap.size = W.heap.size := by simp [set6W]
theorem set6W_box {a' b' c' d' e' f' : Value} {t : TypeId} (h : W.heap[g]? = some (.cells #[a', b', c', d', e', f'] t (0, 0))) : (set6W W g a b c d e f).heap[g]? = some (.cells #[a, b, c, d, e, f] t (0, 0)) := set6 h a b c d e f
theorem RdW.set6W {l : List Tk} {ee pl : Int} {A : Option Addr} {c0 R : Nat} {s : RSt} {w : World} (h : RdW l ee pl A c0 R s w W) (hR : R < w.heap.size) (hg : w.heap.size ≤ g) : RdW l ee pl A c0 R s w (set6W W g a b c d e f) :=
  (((((h.set hR hg _ _).set hR hg _ _).set hR hg _ _).set hR hg _ _).set hR hg _ _).set hR hg _ _
theorem ExA.In.set6W {N : Nat → Prop} {x : ExA} (h : x.In W N) (hg : ¬ N g) : x.In (set6W W g a b c d e f) N :=
  (((((h.set hg _ _).set hg _ _).set hg _ _).set hg _ _).set hg _ _).set hg _ _
end
end Go.Proofs.Ytebkbcpnjknkjaa
