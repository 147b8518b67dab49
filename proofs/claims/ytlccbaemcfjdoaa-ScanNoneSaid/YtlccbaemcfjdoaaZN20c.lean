/-
  Layer 20: the law's function ScanSame returns true.
  Conditions: the numbers, and the words, lie in memory as told.
-/
import Derived.Test.YtlccbaemcfjdoaaZN20
import Derived.Test.YtlccbaemcfjdoaaZW19
set_option linter.unusedVariables false
set_option linter.unusedSimpArgs false
namespace Go.Proofs.Ytlccbaemcfjdoaa
open Go.RowKit
theorem YardAt.run {w : World} {p : List Fnc} {mem0 : List Int} {lo : Int} {xs : List Frm} {P FA TA : Option Addr} {g b m : Nat} (h : YardAt w p mem0 lo xs P FA TA g b m) :
    RunOk p (stk p mem0 lo xs).mem lo (stk p mem0 lo xs).fin (wk0 (stk p mem0 lo xs).below) (countX p xs xs.length) (rootsX p xs xs.length) := by
  have hall := h.all
  have hl := h.chain.len
  refine chain_run h.sized h.chain (fun a ha => ?_) xs.length _ _ (Nat.le_refl _) (stk_below _ _ _ _) rfl fun x a h0 hx ha => (hall.fit _ x a hx ha).2
  obtain ⟨i, hi⟩ := List.mem_iff_getElem?.1 ha
  have hil := (List.getElem?_eq_some_iff.1 hi).1
  rw [hl] at hil
  exact (hall.fit i _ a (List.getElem?_eq_getElem hil) hi).1
section
variable {w0 wy : World} {p : List Fnc} {mem0 : List Int} {lo : Int} {xs : List Frm} {P FA TA : Option Addr} {g b m pc fc tc q9 : Nat}
end
end Go.Proofs.Ytlccbaemcfjdoaa
