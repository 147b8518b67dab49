/-
  Layer 20: the roots of a stack: the program's answer and the document's, by one plain rule.
  Conditions: the arena, the words, and the program, lie in memory as told; the program's functions are sized.
-/
import Derived.Test.YtlccbaemcfjdoaaZW20b
set_option linter.unusedVariables false
set_option linter.unusedSimpArgs false
namespace Go.Proofs.Ytlccbaemcfjdoaa
open Go.RowKit
section
variable {w0 wb : World} {p : List Fnc}
structure Outs (w0 wb w : World) (A : Option Addr) (c : Nat) (out : List Int) : Prop where
  row : w.ownsRow wb.heap.size 51 1 (.slice A out.length c) out.length (out.map (.int .u64))
  sub : ∀ q v, wb.cell? q = some v → w.cell? q = some v
  below : Below w0.heap.size w0 w
  lt : wb.heap.size ≤ w.heap.size
theorem Outs.ext {w w' : World} {A : Option Addr} {c : Nat} {out : List Int} (h : Outs w0 wb w A c out) (he : Ext w0.heap.size w w') : Outs w0 wb w' A c out := ⟨he.owns h.row, fun q v hq => he.cell (h.sub q v hq), he.after h.below, Nat.le_trans h.lt he.size⟩
end
section
variable {w0 wb : World} {p : List Fnc}
end
end Go.Proofs.Ytlccbaemcfjdoaa
