/-
  Nothing of the program stands here: rules for conditions that the engine makes: returns, calls, what memory says.
  Conditions: none.
-/
import Derived.Test.YtlccbaemcfjdoaaEngC
import Derived.Below
import Derived.Laws.AppendOwn
import Derived.Laws.MakeOwn
set_option linter.unusedVariables false
set_option linter.unusedSimpArgs false
namespace Go.Proofs.Ytlccbaemcfjdoaa
open Go.RowKit

/-! ### 17. Worlds, told by Below -/
theorem Ext.below {B : Nat} {w w1 : World} (h : Ext B w w1) : Below B w w1 := ⟨h.os, h.tape, h.output, h.size, h.low⟩
theorem Ext.after {B : Nat} {w0 w w1 : World} (h : Ext B w w1) (h0 : Below B w0 w) : Below B w0 w1 := h0.trans h.below
theorem below_ext {B : Nat} {w w' : World} (h : Below w.heap.size w w') (hB : B ≤ w.heap.size) : Ext B w w' :=
  ⟨h.os, h.tape, h.output, h.size, fun k c t f hk => by rw [h.block k (lt_of_some hk)]; exact hk, fun k hk => h.block k (Nat.lt_of_lt_of_le hk hB)⟩
theorem masked {B : Nat} {bs : List Nat} {w w1 w2 w' : World} (h : Ext B w w1) (hx : ∀ x, x ∈ bs → x < w1.heap.size ∧ NC w x ∧ B ≤ x) (hB : B ≤ w1.heap.size) (h2 : Below w1.heap.size w1 w2) (hm : Msk bs w2 w') : Ext B w w' := by
  have h12 := h.trans (below_ext h2 hB)
  refine ⟨hm.os.trans h12.os, hm.tape.trans h12.tape, hm.output.trans h12.output, by rw [hm.size]; exact h12.size, fun k c t f hk => ?_, fun k hk => ?_⟩
  · rw [hm.block k (fun hkb => (hx k hkb).2.1 c t f hk)]
    exact h12.row k c t f hk
  · rw [hm.block k (fun hkb => by have := (hx k hkb).2.2; omega)]
    exact h12.low k hk
/-- A call that returns a value and leaves what there was. -/
def Gives (P : Program) (f : Nat) (args : List Value) (w : World) (v : Value) : Prop :=
  Calls P f ⟨args⟩ w fun e w' => e = .returned v ∧ Below w.heap.size w w'
/-- A call that returns what Q tells, and leaves what there was. -/
def Yields (P : Program) (f : Nat) (args : List Value) (w : World) (Q : Value → World → Prop) : Prop :=
  Calls P f ⟨args⟩ w fun e w' => ∃ v, e = .returned v ∧ Q v w' ∧ Below w.heap.size w w'
def IsV (w0 : World) (v : Value) : Value → World → Prop := fun u w' => u = v ∧ Below w0.heap.size w0 w'
def IsQ (w0 : World) (Q : Value → World → Prop) : Value → World → Prop := fun u w' => Q u w' ∧ Below w0.heap.size w0 w'
theorem gives_of {P : Program} {f : Nat} {args : List Value} {w : World} {v : Value} (h : Calls P f ⟨args⟩ w fun e w' => ∃ u, e = .returned u ∧ IsV w v u w') : Gives P f args w v :=
  Calls.mono h fun e w' ⟨u, he, hu, hb⟩ => ⟨by rw [he, hu], hb⟩
theorem yields_of {P : Program} {f : Nat} {args : List Value} {w : World} {Q : Value → World → Prop} (h : Calls P f ⟨args⟩ w fun e w' => ∃ u, e = .returned u ∧ IsQ w Q u w') : Yields P f args w Q :=
  Calls.mono h fun e w' ⟨u, he, hq, hb⟩ => ⟨u, he, hq, hb⟩
theorem ret_is {w0 w : World} {u v : Value} (h : Below w0.heap.size w0 w) (hu : u = v) : Ret w0.heap.size w (IsV w0 v u) := fun _ he => ⟨hu, he.after h⟩
theorem ret_q {w0 w : World} {u : Value} {Q : Value → World → Prop} (h : Below w0.heap.size w0 w) (hq : ∀ w1, Ext w0.heap.size w w1 → Q u w1) : Ret w0.heap.size w (IsQ w0 Q u) := fun w1 he => ⟨hq w1 he, he.after h⟩
theorem call_gives {P : Program} {f : Nat} {args : List Value} {w0 w : World} {bs : List Nat} {v : Value} {K : Value → World → Prop} (h0 : Below w0.heap.size w0 w)
    (hc : ∀ w1, Ext w0.heap.size w w1 → Below w0.heap.size w0 w1 → Gives P f args w1 v) (hk : ∀ w', Ext w0.heap.size w w' → Below w0.heap.size w0 w' → K v w') : CallK P f args w0.heap.size w bs K := by
  intro w1 h1 hx
  refine Calls.mono (hc w1 h1 (h1.after h0)) fun e w2 ⟨he, hb⟩ => ⟨v, he, ⟨hb.size, fun x hxb => hb.block x (hx x hxb).1⟩, ?_⟩
  have hB : w0.heap.size ≤ w1.heap.size := Nat.le_trans h0.size h1.size
  cases bs with
  | nil =>
    have := masked (bs := []) h1 (fun x hx => by cases hx) hB hb (mask_msk [] w2)
    exact hk w2 this (this.after h0)
  | cons b r =>
    intro w' hm
    have := masked h1 hx hB hb hm
    exact hk w' this (this.after h0)
theorem call_yields {P : Program} {f : Nat} {args : List Value} {w0 w : World} {bs : List Nat} {Q : World → Value → World → Prop} {K : Value → World → Prop} (h0 : Below w0.heap.size w0 w)
    (hc : ∀ w1, Ext w0.heap.size w w1 → Below w0.heap.size w0 w1 → Yields P f args w1 (Q w1))
    (hk : ∀ w1 v w2 w', w.heap.size ≤ w1.heap.size → Below w1.heap.size w1 w2 → Q w1 v w2 → (∀ k, (w.heap.size ≤ k → w1.heap.size ≤ k ∨ k ∉ bs) → k ∉ bs → w'.heap[k]? = w2.heap[k]?) → (∀ k, w1.heap.size ≤ k → w'.heap[k]? = w2.heap[k]?) → Ext w0.heap.size w w' → Below w0.heap.size w0 w' → K v w') : CallK P f args w0.heap.size w bs K := by
  intro w1 h1 hx
  refine Calls.mono (hc w1 h1 (h1.after h0)) fun e w2 ⟨v, he, hQ, hb⟩ => ⟨v, he, ⟨hb.size, fun x hxb => hb.block x (hx x hxb).1⟩, ?_⟩
  have hB : w0.heap.size ≤ w1.heap.size := Nat.le_trans h0.size h1.size
  cases bs with
  | nil =>
    have := masked (bs := []) h1 (fun x hx => by cases hx) hB hb (mask_msk [] w2)
    exact hk w1 v w2 w2 h1.size hb hQ (fun _ _ _ => rfl) (fun _ _ => rfl) this (this.after h0)
  | cons b r =>
    intro w' hm
    have := masked h1 hx hB hb hm
    exact hk w1 v w2 w' h1.size hb hQ (fun k _ hk => hm.block k hk) (fun k hk => hm.block k (fun hkb => by have := (hx k hkb).1; omega)) this (this.after h0)

/-! ### 18. Rows of memory -/
section
variable {α : Type}
/-- A slice's elements, of sz cells each, are xs. -/
structure RowAt (E : World → Addr → α → Prop) (sz : Nat) (w : World) (A : Option Addr) (l : Nat) (xs : List α) : Prop where
  len : xs.length = l
  small : l ≤ maxLen
  get : ∀ i x, xs[i]? = some x → ∃ p, A = some p ∧ E w (p.add (i * sz)) x
/-- What is told of an element is told by its cells. -/
def Kept1 (E : World → Addr → α → Prop) : Prop := ∀ (w w' : World) a x, (∀ q v, w.cell? q = some v → w'.cell? q = some v) → E w a x → E w' a x
theorem RowAt.keep {E : World → Addr → α → Prop} (hE : Kept1 E) {sz : Nat} {w w' : World} {A : Option Addr} {l : Nat} {xs : List α} (h : RowAt E sz w A l xs) (hw : ∀ q v, w.cell? q = some v → w'.cell? q = some v) : RowAt E sz w' A l xs :=
  ⟨h.len, h.small, fun i x hi => by obtain ⟨p, hp, hx⟩ := h.get i x hi; exact ⟨p, hp, hE _ _ _ _ hw hx⟩⟩
theorem below_keeps {w w' : World} (h : Below w.heap.size w w') (q : Addr) (v : Value) (hq : w.cell? q = some v) : w'.cell? q = some v := (h.cell (cell_lt hq)).trans hq
theorem ext_keeps {B : Nat} {w w' : World} (h : Ext B w w') (q : Addr) (v : Value) (hq : w.cell? q = some v) : w'.cell? q = some v := h.cell hq
theorem RowAt.at {E : World → Addr → α → Prop} {sz : Nat} {w : World} {A : Option Addr} {l : Nat} {xs : List α} (h : RowAt E sz w A l xs) {i : Nat} (hi : i < l) : ∃ x p, xs[i]? = some x ∧ A = some p ∧ E w (p.add (i * sz)) x := by
  have hx : xs[i]? = some (xs[i]'(by rw [h.len]; exact hi)) := List.getElem?_eq_getElem _
  obtain ⟨p, hp, he⟩ := h.get i _ hx
  exact ⟨_, p, hx, hp, he⟩
end
/-- A number's cell. -/
def NumE (k : IntKind) : World → Addr → Int → Prop := fun w a n => w.cell? a = some (.int k n)
theorem NumE.kept (k : IntKind) : Kept1 (NumE k) := fun _ _ _ _ hw h => hw _ _ h
abbrev Nums (k : IntKind) (w : World) (A : Option Addr) (l : Nat) (xs : List Int) : Prop := RowAt (NumE k) 1 w A l xs
theorem Nums.at {k : IntKind} {w : World} {A : Option Addr} {l : Nat} {xs : List Int} (h : Nums k w A l xs) {i : Nat} (hi : i < l) : ∃ n p, xs[i]? = some n ∧ A = some p ∧ w.cell? (p.add i) = some (.int k n) := by
  obtain ⟨x, p, hx, hp, he⟩ := RowAt.at h hi
  exact ⟨x, p, hx, hp, by simpa [NumE] using he⟩
theorem nums_nil (k : IntKind) (w : World) : Nums k w none 0 [] := ⟨rfl, Nat.zero_le _, fun i x h => by simp at h⟩

/-! ### 19. Numbers -/
theorem wrap_id {n : Int} (h0 : -9223372036854775808 ≤ n) (h1 : n ≤ 9223372036854775807) : IntKind.wrap .i64 n = n := by rw [IntKind.wrap_i64]; omega
theorem wrap_succ {i l : Nat} (h : i < l) (hl : l ≤ maxLen) : IntKind.wrap .i64 ((i : Int) + 1) = ((i + 1 : Nat) : Int) := by
  simp only [maxLen] at hl
  have h3 : IntKind.wrap .i64 ((i : Int) + 1) = (i : Int) + 1 := wrap_id (by omega) (by omega)
  rw [h3]; rfl
end Go.Proofs.Ytlccbaemcfjdoaa
