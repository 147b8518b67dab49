/-
  Layer 20: the law's function ScanStacks returns true.
  Conditions: the numbers, and the words, lie in memory as told.
-/
import Derived.Test.YtlccbaemcfjdoaaZX20
import Derived.Test.YtlccbaemcfjdoaaZW17
set_option linter.unusedVariables false
set_option linter.unusedSimpArgs false
namespace Go.Proofs.Ytlccbaemcfjdoaa
open Go.RowKit
theorem YardAt.below_bd {w : World} {p : List Fnc} {mem0 : List Int} {lo : Int} {xs : List Frm} {P FA TA : Option Addr} {g b m : Nat} (h : YardAt w p mem0 lo xs P FA TA g b m) : -1 ≤ (stk p mem0 lo xs).below ∧ (stk p mem0 lo xs).below < 1024 := by
  have h1 := h.all.bel
  have h2 := h.ok.fin
  have h3 := h.len
  omega
end Go.Proofs.Ytlccbaemcfjdoaa
