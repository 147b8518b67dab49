/-
  Layer 18: frames held against frames; the document's example.
  Conditions: the frames lie in memory as told.
-/
import Derived.Test.YtlccbaemcfjdoaaZD18
set_option linter.unusedVariables false
set_option linter.unusedSimpArgs false
namespace Go.Proofs.Ytlccbaemcfjdoaa
open Go.RowKit
theorem call_read {w0 w : World} {bs : List Nat} {g b : Nat} {mem : List Int} {P : Option Addr} {p : List Fnc} {cap : Nat} {at_ : Int} {K : Value → World → Prop} (hB : w0.heap.size ≤ w.heap.size) (h : ArenaAt w g b mem) (hp : ProgAt w P p.length p) (hs : Sized p) (hpl : p.length ≤ 1000)
    (hk : ∀ s w', Ext w0.heap.size w w' → FrmAt (newW w.heap.size w') (readM p mem at_).1 s → K (.tuple ⟨[frmV (readM p mem at_).1 s, .int .i64 (readM p mem at_).2.1, .int .i64 (readM p mem at_).2.2]⟩) w') :
    CallK Try.prog 54 [.pointer (some ⟨g, 0, none⟩), .agg ⟨[.slice P p.length cap]⟩, .int .i64 at_] w0.heap.size w bs K := by
  refine call_yieldsX (Q := ReadQ (readM p mem at_)) hB (fun w1 e1 => yields54 (h.ext e1) (RowAt.keep FncE.kept hp (ext_keeps e1)) hs hpl at_) fun w1 u w2 w' hsz hQ hnew he => ?_
  obtain ⟨s, rfl, hf⟩ := hQ
  refine hk s w' he (hf.keep fun q v hq => ?_)
  obtain ⟨h1, h2⟩ := newW_cell.1 hq
  exact newW_cell.2 ⟨(cell_same (hnew _ h2)).trans h1, Nat.le_trans hsz h2⟩
end Go.Proofs.Ytlccbaemcfjdoaa
