/-
  Nothing of the program stands here: rules for calls that write to memory of one's own.
  Conditions: none.
-/
import Derived.Test.YtlccbaemcfjdoaaEngE
set_option linter.unusedVariables false
set_option linter.unusedSimpArgs false
namespace Go.Proofs.Ytlccbaemcfjdoaa
open Go.RowKit

/-! ### 22. Calls that write -/
/-- A call that returns what Q tells; of what there was, only blocks in S have turned. -/
def Turns (P : Program) (f : Nat) (args : List Value) (w : World) (S : Nat → Prop) (Q : Value → World → Prop) : Prop :=
  Calls P f ⟨args⟩ w fun e w' => ∃ v, e = .returned v ∧ Q v w' ∧ Chg S w w'
/-- From a function's condition: the post. -/
def IsT (w0 : World) (S : Nat → Prop) (Q : Value → World → Prop) : Value → World → Prop := fun u w' => Q u w' ∧ Chg S w0 w'
theorem turns_of {P : Program} {f : Nat} {args : List Value} {w : World} {S : Nat → Prop} {Q : Value → World → Prop} (h : Calls P f ⟨args⟩ w fun e w' => ∃ u, e = .returned u ∧ IsT w S Q u w') : Turns P f args w S Q :=
  Calls.mono h fun e w' ⟨u, he, hq, hb⟩ => ⟨u, he, hq, hb⟩
theorem ext_chg {w0 w w1 : World} {S : Nat → Prop} (h : Chg S w0 w) (he : Ext w0.heap.size w w1) : Chg S w0 w1 :=
  ⟨he.os.trans h.os, he.tape.trans h.tape, he.output.trans h.output, Nat.le_trans h.size he.size, fun k hk hS => (he.low k hk).trans (h.block k hk hS)⟩
theorem ret_t {w0 w : World} {u : Value} {S : Nat → Prop} {Q : Value → World → Prop} (h : Chg S w0 w) (hq : ∀ w1, Ext w0.heap.size w w1 → Q u w1) : Ret w0.heap.size w (IsT w0 S Q u) := fun w1 he => ⟨hq w1 he, ext_chg h he⟩
/-- A call that writes to blocks in S, all of which have cells. B: the first block of the caller's own. -/
theorem call_turns {P : Program} {f : Nat} {args : List Value} {B : Nat} {w : World} {bs : List Nat} {S : Nat → Prop} {Q : World → Value → World → Prop} {K : Value → World → Prop} (hB : B ≤ w.heap.size)
    (hS : ∀ k, S k → ∃ c t f, w.heap[k]? = some (Obj.cells c t f))
    (hc : ∀ w1, Ext B w w1 → Turns P f args w1 S (Q w1))
    (hk : ∀ w1 v w2 w', w.heap.size ≤ w1.heap.size → Ext B w w1 → Chg S w1 w2 → Q w1 v w2 → (∀ k, S k → w'.heap[k]? = w2.heap[k]?) → (∀ k, w1.heap.size ≤ k → w'.heap[k]? = w2.heap[k]?) → (∀ k c t f, ¬ S k → w.heap[k]? = some (Obj.cells c t f) → w'.heap[k]? = some (Obj.cells c t f)) →
      (∀ k, k < B → ¬ S k → w'.heap[k]? = w.heap[k]?) → w'.os = w.os → w'.tape = w.tape → w'.output = w.output → w1.heap.size ≤ w'.heap.size → K v w') : CallK P f args B w bs K := by
  intro w1 h1 hx
  have hnb : ∀ k, S k → k ∉ bs := fun k hk hkb => by obtain ⟨c, t, f, h⟩ := hS k hk; exact (hx k hkb).2.1 c t f h
  refine Calls.mono (hc w1 h1) fun e w2 ⟨v, he, hQ, hb⟩ => ⟨v, he, ⟨hb.size, fun x hxb => hb.block x (hx x hxb).1 (fun hs => hnb x hs hxb)⟩, ?_⟩
  refine hide_any fun w' hm => ?_
  have hB1 : B ≤ w1.heap.size := Nat.le_trans hB h1.size
  refine hk w1 v w2 w' h1.size h1 hb hQ (fun k hk => hm.block k (hnb k hk)) (fun k hk => hm.block k (fun hkb => by have := (hx k hkb).1; omega)) (fun k c t f hnS hk => ?_) (fun k hkB hnS => ?_)
    (hm.os.trans (hb.os.trans h1.os)) (hm.tape.trans (hb.tape.trans h1.tape)) (hm.output.trans (hb.output.trans h1.output)) (by rw [hm.size]; exact hb.size)
  · have h2 := h1.row k c t f hk
    rw [hm.block k (fun hkb => (hx k hkb).2.1 c t f hk), hb.block k (lt_of_some h2) hnS]
    exact h2
  · rw [hm.block k (fun hkb => by have := (hx k hkb).2.2; omega), hb.block k (by omega) hnS]
    exact h1.low k hkB

/-! ### 23. Blocks, cell by cell -/
theorem at_cell {w : World} {g : Nat} {L : List Value} {t : TypeId} {fr : Nat × Nat} (h : w.heap[g]? = some (.cells ⟨L⟩ t fr)) {i : Nat} {v : Value} (hv : L[i]? = some v) : w.cell? ⟨g, i, none⟩ = some v := by
  simp [World.cell?, h, hv]
theorem at_frozen {w : World} {g : Nat} {L : Array Value} {t : TypeId} (h : w.heap[g]? = some (.cells L t (0, 0))) (i : Nat) : w.frozen? ⟨g, i, none⟩ = false := by
  simp [World.frozen?, h]
theorem at_set {w : World} {g : Nat} {L : List Value} {t : TypeId} (h : w.heap[g]? = some (.cells ⟨L⟩ t (0, 0))) (i : Nat) (v : Value) : (w.setCell ⟨g, i, none⟩ v).heap[g]? = some (.cells ⟨L.set i v⟩ t (0, 0)) :=
  set_row (cells := L) h i v
theorem at_other {w : World} {g i k : Nat} {v : Value} (h : k ≠ g) : (w.setCell ⟨g, i, none⟩ v).heap[k]? = w.heap[k]? := setCell_heap w _ v k h
/-- What is owned, its block told. -/
theorem owns_some {w : World} {B : Nat} {e : TypeId} {size : Nat} {v : Value} {n : Nat} {xs : List Value} (h : w.ownsRow B e size v n xs) (hn : 0 < n) : ∃ g cap, v = .slice (some ⟨g, 0, none⟩) n cap ∧ v.ownBlock = some g ∧ B ≤ g := by
  rcases h.2 with ⟨_, h0⟩ | ⟨g, cap, cur, rfl, hb, _⟩
  · omega
  · exact ⟨g, cap, rfl, rfl, hb⟩
theorem owns_cell {w : World} {B : Nat} {e : TypeId} {size : Nat} {n g cap : Nat} {xs : List Value} (h : w.ownsRow B e size (.slice (some ⟨g, 0, none⟩) n cap) n xs) {i : Nat} {u : Value} (hu : xs[i]? = some u) : w.cell? ⟨g, i, none⟩ = some u := by
  have := h.cells (g := g) rfl i u hu
  rwa [own_add] at this
theorem owns_frozen {w : World} {B : Nat} {e : TypeId} {size : Nat} {n g cap : Nat} {xs : List Value} (h : w.ownsRow B e size (.slice (some ⟨g, 0, none⟩) n cap) n xs) (i : Nat) : w.frozen? ⟨g, i, none⟩ = false := by
  rcases h.2 with ⟨hv, _⟩ | ⟨g', cap', cur, hv, _, hg, _⟩
  · cases hv
  · cases hv; exact at_frozen hg i
theorem owns_set {w : World} {B : Nat} {e : TypeId} {size : Nat} {n g cap : Nat} {xs : List Value} (h : w.ownsRow B e size (.slice (some ⟨g, 0, none⟩) n cap) n xs) (i : Nat) (u : Value) (hi : i < n * size) :
    (w.setCell ⟨g, i, none⟩ u).ownsRow B e size (.slice (some ⟨g, 0, none⟩) n cap) n (xs.set i u) := by
  refine ⟨by simpa using h.1, .inr ?_⟩
  rcases h.2 with ⟨hv, _⟩ | ⟨g', cap', cur, hv, hb, hg, hc, hm, hs, ht⟩
  · cases hv
  · cases hv
    refine ⟨g, cap, _, rfl, hb, at_set (L := cur.toList) hg i u, hc, hm, by simpa using hs, ?_⟩
    rw [← ht]
    simp only
    rw [List.take_set]
theorem owns_other {w w' : World} {B : Nat} {e : TypeId} {size : Nat} {v : Value} {n : Nat} {xs : List Value} (h : w.ownsRow B e size v n xs) (hw : ∀ g, v.ownBlock = some g → w'.heap[g]? = w.heap[g]?) : w'.ownsRow B e size v n xs := by
  refine ⟨h.1, ?_⟩
  rcases h.2 with hn | ⟨g, cap, cur, rfl, hb, hg, rest⟩
  · exact .inl hn
  · exact .inr ⟨g, cap, cur, rfl, hb, by rw [hw g rfl]; exact hg, rest⟩
end Go.Proofs.Ytlccbaemcfjdoaa
