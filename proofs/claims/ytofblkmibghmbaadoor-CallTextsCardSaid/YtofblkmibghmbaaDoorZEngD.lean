/-
  Nothing of the program stands here: rules for conditions that the engine makes: returns, calls, what memory says.
  Conditions: none.
-/
import Derived.Test.YtofblkmibghmbaaDoorZEngC
import Derived.Below
import Derived.Laws.AppendOwn
import Derived.Laws.MakeOwn
import Derived.Lib.AppendZerosOnto
import Derived.Laws.OwnMore
set_option linter.unusedVariables false
set_option linter.unusedSimpArgs false
namespace Go.Proofs.YtofblkmibghmbaaDoor
open Go.RowKit
theorem Ext.below {B : Nat} {w w1 : World} (h : Ext B w w1) : Below B w w1 := ⟨h.os, h.tape, h.output, h.size, h.low⟩
theorem Ext.after {B : Nat} {w0 w w1 : World} (h : Ext B w w1) (h0 : Below B w0 w) : Below B w0 w1 := h0.trans h.below
theorem below_ext {B : Nat} {w w' : World} (h : Below w.heap.size w w') (hB : B ≤ w.heap.size) : Ext B w w' :=
  ⟨h.os, h.tape, h.output, h.size, fun k c t f hk => by rw [h.block k (lt_of_some hk)]; exact hk, fun k hk => h.block k (Nat.lt_of_lt_of_le hk hB)⟩
theorem masked {B : Nat} {bs : List Nat} {w w1 w2 w' : World} (h : Ext B w w1) (hx : ∀ x, x ∈ bs → x < w1.heap.size ∧ NC w x ∧ B ≤ x) (hB : B ≤ w1.heap.size) (h2 : Below w1.heap.size w1 w2) (hm : Msk bs w2 w') : Ext B w w' := by
  have h12 := h.trans (below_ext h2 hB)
  refine ⟨hm.os.trans h12.os, hm.tape.trans h12.tape, hm.output.trans h12.output, by rw [hm.size]; exact h12.size, fun k c t f hk => ?_, fun k hk => ?_⟩
  · rw [hm.block k (fun hkb => (hx k hkb).2.1 c t f hk)]
    exact h12.row k c t f hk
  · rw [hm.block k (fun hkb => by have := (hx k hkb).2.2; omega)]
    exact h12.low k hk
def Gives (P : Program) (f : Nat) (args : List Value) (w : World) (v : Value) : Prop :=
  Calls P f ⟨args⟩ w fun e w' => e = .returned v ∧ Below w.heap.size w w'
def Yields (P : Program) (f : Nat) (args : List Value) (w : World) (Q : Value → World → Prop) : Prop :=
  Calls P f ⟨args⟩ w fun e w' => ∃ v, e = .returned v ∧ Q v w' ∧ Below w.heap.size w w'
def IsV (w0 : World) (v : Value) : Value → World → Prop := fun u w' => u = v ∧ Below w0.heap.size w0 w'
def IsQ (w0 : World) (Q : Value → World → Prop) : Value → World → Prop := fun u w' => Q u w' ∧ Below w0.heap.size w0 w'
theorem gives_of {P : Program} {f : Nat} {args : List Value} {w : World} {v : Value} (h : Calls P f ⟨args⟩ w fun e w' => ∃ u, e = .returned u ∧ IsV w v u w') : Gives P f args w v :=
  Calls.mono h fun e w' ⟨u, he, hu, hb⟩ => ⟨by rw [he, hu], hb⟩
theorem yields_of {P : Program} {f : Nat} {args : List Value} {w : World} {Q : Value → World → Prop} (h : Calls P f ⟨args⟩ w fun e w' => ∃ u, e = .returned u ∧ IsQ w Q u w') : Yields P f args w Q :=
  Calls.mono h fun e w' ⟨u, he, hq, hb⟩ => ⟨u, he, hq, hb⟩
theorem ret_is {w0 w : World} {u v : Value} (h : Below w0.heap.size w0 w) (hu : u = v) : Ret w0.heap.size w (IsV w0 v u) := fun _ he => ⟨hu, he.after h⟩
theorem ret_q {w0 w : World} {u : Value} {Q : Value → World → Prop} (h : Below w0.heap.size w0 w) (hq : ∀ w1, Ext w0.heap.size w w1 → Q u w1) : Ret w0.heap.size w (IsQ w0 Q u) := fun w1 he => ⟨hq w1 he, he.after h⟩
theorem call_gives {P : Program} {f : Nat} {args : List Value} {w0 w : World} {bs : List Nat} {v : Value} {K : Value → World → Prop} (h0 : Below w0.heap.size w0 w)
    (hc : ∀ w1, Ext w0.heap.size w w1 → Below w0.heap.size w0 w1 → Gives P f args w1 v) (hk : ∀ w', Ext w0.heap.size w w' → Below w0.heap.size w0 w' → K v w') : CallK P f args w0.heap.size w bs K := by
  intro w1 h1 hx
  refine Calls.mono (hc w1 h1 (h1.after h0)) fun e w2 ⟨he, hb⟩ => ⟨v, he, ⟨hb.size, fun x hxb => hb.block x (hx x hxb).1⟩, ?_⟩
  have hB : w0.heap.size ≤ w1.heap.size := Nat.le_trans h0.size h1.size
  cases bs with
  | nil =>
    have := masked (bs := []) h1 (fun x hx => by cases hx) hB hb (mask_msk [] w2)
    exact hk w2 this (this.after h0)
  | cons b r =>
    intro w' hm
    have := masked h1 hx hB hb hm
    exact hk w' this (this.after h0)
section
variable {α : Type}
structure RowAt (E : World → Addr → α → Prop) (sz : Nat) (w : World) (A : Option Addr) (l : Nat) (xs : List α) : Prop where
  len : xs.length = l
  small : l ≤ maxLen
  get : ∀ i x, xs[i]? = some x → ∃ p, A = some p ∧ E w (p.add (i * sz)) x
theorem below_keeps {w w' : World} (h : Below w.heap.size w w') (q : Addr) (v : Value) (hq : w.cell? q = some v) : w'.cell? q = some v := (h.cell (cell_lt hq)).trans hq
theorem RowAt.at {E : World → Addr → α → Prop} {sz : Nat} {w : World} {A : Option Addr} {l : Nat} {xs : List α} (h : RowAt E sz w A l xs) {i : Nat} (hi : i < l) : ∃ x p, xs[i]? = some x ∧ A = some p ∧ E w (p.add (i * sz)) x := by
  have hx : xs[i]? = some (xs[i]'(by rw [h.len]; exact hi)) := List.getElem?_eq_getElem _
  obtain ⟨p, hp, he⟩ := h.get i _ hx
  exact ⟨_, p, hx, hp, he⟩
end
def NumE (k : IntKind) : World → Addr → Int → Prop := fun w a n => w.cell? a = some (.int k n)
abbrev Nums (k : IntKind) (w : World) (A : Option Addr) (l : Nat) (xs : List Int) : Prop := RowAt (NumE k) 1 w A l xs
theorem Nums.at {k : IntKind} {w : World} {A : Option Addr} {l : Nat} {xs : List Int} (h : Nums k w A l xs) {i : Nat} (hi : i < l) : ∃ n p, xs[i]? = some n ∧ A = some p ∧ w.cell? (p.add i) = some (.int k n) := by
  obtain ⟨x, p, hx, hp, he⟩ := RowAt.at h hi
  exact ⟨x, p, hx, hp, by simpa [NumE] using he⟩
theorem wrap_id {n : Int} (h0 : -9223372036854775808 ≤ n) (h1 : n ≤ 9223372036854775807) : IntKind.wrap .i64 n = n := by rw [IntKind.wrap_i64]; omega
end Go.Proofs.YtofblkmibghmbaaDoor
set_option linter.unusedVariables false
set_option linter.unusedSimpArgs false
namespace Go.Proofs.YtofblkmibghmbaaDoor
open Go.RowKit
structure ExtS (B : Nat) (S : Nat → Prop) (w w' : World) : Prop where
  os : w'.os = w.os
  tape : w'.tape = w.tape
  output : w'.output = w.output
  size : w.heap.size ≤ w'.heap.size
  row : ∀ (k : Nat) (c : Array Value) (t : TypeId) (f : Nat × Nat), ¬ S k → w.heap[k]? = some (Obj.cells c t f) → w'.heap[k]? = some (Obj.cells c t f)
  low : ∀ k, k < B → ¬ S k → w'.heap[k]? = w.heap[k]?
theorem ExtS.below {B : Nat} {S : Nat → Prop} {w w1 : World} (h : ExtS B S w w1) (hS : ∀ k, S k → B ≤ k) : Below B w w1 := ⟨h.os, h.tape, h.output, h.size, fun k hk => h.low k hk (fun e => by have := hS k e; omega)⟩
theorem ExtS.after {B : Nat} {S : Nat → Prop} {w0 w w1 : World} (h : ExtS B S w w1) (hS : ∀ k, S k → B ≤ k) (h0 : Below B w0 w) : Below B w0 w1 := h0.trans (h.below hS)
theorem ExtS.trans {B : Nat} {S : Nat → Prop} {a b c : World} (h : ExtS B S a b) (k : ExtS B S b c) : ExtS B S a c :=
  ⟨k.os.trans h.os, k.tape.trans h.tape, k.output.trans h.output, Nat.le_trans h.size k.size, fun i x t f hS hi => k.row i x t f hS (h.row i x t f hS hi), fun i hi hS => (k.low i hi hS).trans (h.low i hi hS)⟩
theorem ExtS.cell {B : Nat} {S : Nat → Prop} {w w' : World} (h : ExtS B S w w') {a : Addr} {v : Value} (hc : w.cell? a = some v) (hS : ¬ S a.block) : w'.cell? a = some v := by
  obtain ⟨c, t, f, hb⟩ := cell_block hc
  exact (cell_same (by rw [hb, h.row _ _ _ _ hS hb])).trans hc
theorem hide_any {bs : List Nat} {w : World} {K : World → Prop} (h : ∀ w', Msk bs w w' → K w') : Hide bs w K := by
  cases bs with
  | nil => exact h w (mask_msk [] w)
  | cons b r => exact h
theorem ExtS.none {B : Nat} {w w' : World} (h : ExtS B (fun _ => False) w w') : Ext B w w' := ⟨h.os, h.tape, h.output, h.size, fun k c t f hk => h.row k c t f (fun h => h) hk, fun k hk => h.low k hk (fun h => h)⟩
def OwnI (w : World) (g : Nat) (k : IntKind) (e : TypeId) (xs : List Int) : Prop := w.heap[g]? = some (.cells (xs.map (.int k)).toArray e (0, 0))
theorem own_add (g i : Nat) : ((⟨g, 0, none⟩ : Addr).add i) = ⟨g, i, none⟩ := by rw [bx_add, Nat.zero_add]
theorem OwnI.cell {w : World} {g : Nat} {k : IntKind} {e : TypeId} {xs : List Int} (h : OwnI w g k e xs) {i : Nat} {n : Int} (hn : xs[i]? = some n) : w.cell? ((⟨g, 0, none⟩ : Addr).add i) = some (.int k n) := by
  rw [own_add]
  simp [World.cell?, show w.heap[g]? = _ from h, hn]
theorem OwnI.ext {B : Nat} {w w' : World} {g : Nat} {k : IntKind} {e : TypeId} {xs : List Int} (h : OwnI w g k e xs) (he : Ext B w w') : OwnI w' g k e xs := he.row _ _ _ _ h
end Go.Proofs.YtofblkmibghmbaaDoor
set_option linter.unusedVariables false
set_option linter.unusedSimpArgs false
namespace Go.Proofs.YtofblkmibghmbaaDoor
open Go.RowKit
def Turns (P : Program) (f : Nat) (args : List Value) (w : World) (S : Nat → Prop) (Q : Value → World → Prop) : Prop :=
  Calls P f ⟨args⟩ w fun e w' => ∃ v, e = .returned v ∧ Q v w' ∧ Chg S w w'
theorem call_turns {P : Program} {f : Nat} {args : List Value} {B : Nat} {w : World} {bs : List Nat} {S : Nat → Prop} {Q : World → Value → World → Prop} {K : Value → World → Prop} (hB : B ≤ w.heap.size)
    (hS : ∀ k, S k → ∃ c t f, w.heap[k]? = some (Obj.cells c t f))
    (hc : ∀ w1, Ext B w w1 → Turns P f args w1 S (Q w1))
    (hk : ∀ w1 v w2 w', w.heap.size ≤ w1.heap.size → Ext B w w1 → Chg S w1 w2 → Q w1 v w2 → (∀ k, S k → w'.heap[k]? = w2.heap[k]?) → (∀ k, w1.heap.size ≤ k → w'.heap[k]? = w2.heap[k]?) → (∀ k c t f, ¬ S k → w.heap[k]? = some (Obj.cells c t f) → w'.heap[k]? = some (Obj.cells c t f)) →
      (∀ k, k < B → ¬ S k → w'.heap[k]? = w.heap[k]?) → w'.os = w.os → w'.tape = w.tape → w'.output = w.output → w1.heap.size ≤ w'.heap.size → K v w') : CallK P f args B w bs K := by
  intro w1 h1 hx
  have hnb : ∀ k, S k → k ∉ bs := fun k hk hkb => by obtain ⟨c, t, f, h⟩ := hS k hk; exact (hx k hkb).2.1 c t f h
  refine Calls.mono (hc w1 h1) fun e w2 ⟨v, he, hQ, hb⟩ => ⟨v, he, ⟨hb.size, fun x hxb => hb.block x (hx x hxb).1 (fun hs => hnb x hs hxb)⟩, ?_⟩
  refine hide_any fun w' hm => ?_
  have hB1 : B ≤ w1.heap.size := Nat.le_trans hB h1.size
  refine hk w1 v w2 w' h1.size h1 hb hQ (fun k hk => hm.block k (hnb k hk)) (fun k hk => hm.block k (fun hkb => by have := (hx k hkb).1; omega)) (fun k c t f hnS hk => ?_) (fun k hkB hnS => ?_)
    (hm.os.trans (hb.os.trans h1.os)) (hm.tape.trans (hb.tape.trans h1.tape)) (hm.output.trans (hb.output.trans h1.output)) (by rw [hm.size]; exact hb.size)
  · have h2 := h1.row k c t f hk
    rw [hm.block k (fun hkb => (hx k hkb).2.1 c t f hk), hb.block k (lt_of_some h2) hnS]
    exact h2
  · rw [hm.block k (fun hkb => by have := (hx k hkb).2.2; omega), hb.block k (by omega) hnS]
    exact h1.low k hkB
theorem at_cell {w : World} {g : Nat} {L : List Value} {t : TypeId} {fr : Nat × Nat} (h : w.heap[g]? = some (.cells ⟨L⟩ t fr)) {i : Nat} {v : Value} (hv : L[i]? = some v) : w.cell? ⟨g, i, none⟩ = some v := by
  simp [World.cell?, h, hv]
end Go.Proofs.YtofblkmibghmbaaDoor
set_option linter.unusedVariables false
set_option linter.unusedSimpArgs false
namespace Go.Proofs.YtofblkmibghmbaaDoor
open Go.RowKit
theorem call_turnsS {P : Program} {f : Nat} {args : List Value} {B : Nat} {w : World} {bs : List Nat} {S : Nat → Prop} {Q : World → Value → World → Prop} {K : Value → World → Prop} (hB : B ≤ w.heap.size)
    (hS : ∀ k, S k → ∃ c t f, w.heap[k]? = some (Obj.cells c t f)) (hc : ∀ w1, Ext B w w1 → Turns P f args w1 S (Q w1))
    (hk : ∀ w1 v w2 w', w.heap.size ≤ w1.heap.size → Q w1 v w2 → (∀ k, S k ∨ w1.heap.size ≤ k → w'.heap[k]? = w2.heap[k]?) → ExtS B S w w' → K v w') : CallK P f args B w bs K := by
  refine call_turns hB hS hc fun w1 v w2 w' hs he hch hQ hSS hnew hrow hlow hos ht ho hsz => ?_
  exact hk w1 v w2 w' hs hQ (fun k h => h.elim (hSS k) (hnew k)) ⟨hos, ht, ho, Nat.le_trans hs hsz, hrow, hlow⟩
theorem call_yieldsX {P : Program} {f : Nat} {args : List Value} {B : Nat} {w : World} {bs : List Nat} {Q : World → Value → World → Prop} {K : Value → World → Prop} (hB : B ≤ w.heap.size)
    (hc : ∀ w1, Ext B w w1 → Yields P f args w1 (Q w1)) (hk : ∀ w1 v w2 w', w.heap.size ≤ w1.heap.size → Q w1 v w2 → (∀ k, w1.heap.size ≤ k → w'.heap[k]? = w2.heap[k]?) → Ext B w w' → K v w') : CallK P f args B w bs K := by
  refine call_turnsS (S := fun _ => False) (Q := Q) hB (fun k h => h.elim) (fun w1 e1 => ?_) fun w1 v w2 w' hs hQ hsame he => hk w1 v w2 w' hs hQ (fun k h => hsame k (.inr h)) he.none
  exact Calls.mono (hc w1 e1) fun e w' ⟨v, he, hq, hb⟩ => ⟨v, he, hq, hb.os, hb.tape, hb.output, hb.size, fun k hk _ => hb.block k hk⟩
theorem alloc1 {B : Nat} {w w1 : World} (o : Obj) (h1 : Ext B w w1) (hB : B ≤ w.heap.size) : Ext B w (w1.alloc o) ∧ (w1.alloc o).heap[w1.heap.size]? = some o :=
  ⟨h1.alloc hB o, alloc_new w1 o⟩
end Go.Proofs.YtofblkmibghmbaaDoor
set_option linter.unusedVariables false
set_option linter.unusedSimpArgs false
namespace Go.Proofs.YtofblkmibghmbaaDoor
open Go.RowKit
end Go.Proofs.YtofblkmibghmbaaDoor
