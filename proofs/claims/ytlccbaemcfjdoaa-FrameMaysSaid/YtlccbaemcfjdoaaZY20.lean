/-
  Layer 20: the document's walker: all its steps are those of the walker by steps; a walker's roots, copied; walked returns true.
  Conditions: the words, and the program, lie in memory as told; the program's functions are sized.
-/
import Derived.Test.YtlccbaemcfjdoaaZP20
set_option linter.unusedVariables false
set_option linter.unusedSimpArgs false
namespace Go.Proofs.Ytlccbaemcfjdoaa
open Go.RowKit
def lookC (l : LookW) (_ : Unit) : List Value := [.int .i64 l.1, .bool l.2.1, .int .i64 l.2.2]
def lksC (L : List LookW) : List Value := flatC lookC L (List.replicate L.length ())
def LookE (w : World) (p : Addr) (l : LookW) : Prop := w.cell? (p.add 0) = some (.int .i64 l.1) ∧ w.cell? (p.add 1) = some (.bool l.2.1) ∧ w.cell? (p.add 2) = some (.int .i64 l.2.2)
theorem LookE.kept : Kept1 LookE := fun _ _ _ _ hw h => ⟨hw _ _ h.1, hw _ _ h.2.1, hw _ _ h.2.2⟩
structure Outs2 (w0 w : World) (A : Option Addr) (c : Nat) (out : List LookW) (RA : Option Addr) (rc : Nat) (roots : List Int) : Prop where
  looks : w.ownsRow w0.heap.size 169 3 (.slice A out.length c) out.length (lksC out)
  row : w.ownsRow w0.heap.size 51 1 (.slice RA roots.length rc) roots.length (roots.map (.int .u64))
  below : Below w0.heap.size w0 w
section
variable {w0 : World} {p : List Fnc} {mem : List Int} {top : Int}
theorem Outs2.ext {w w' : World} {A RA : Option Addr} {c rc : Nat} {out : List LookW} {roots : List Int} (h : Outs2 w0 w A c out RA rc roots) (he : Ext w0.heap.size w w') : Outs2 w0 w' A c out RA rc roots := ⟨he.owns h.looks, he.owns h.row, he.after h.below⟩
end
end Go.Proofs.Ytlccbaemcfjdoaa
