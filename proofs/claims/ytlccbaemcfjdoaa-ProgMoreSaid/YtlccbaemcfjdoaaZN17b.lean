/-
  Layer 17: the law's function ProgMade returns true.
  Conditions: the numbers lie in memory as told.
-/
import Derived.Test.YtlccbaemcfjdoaaZN17
set_option linter.unusedVariables false
set_option linter.unusedSimpArgs false
namespace Go.Proofs.Ytlccbaemcfjdoaa
open Go.RowKit
theorem made_depths {p : List Fnc} (h : MadeOk p) {k : Nat} {x : Fnc} (hx : p[k]? = some x) : ∃ d, depthsOf p k = d ∧ (∀ j y, x.code[j]? = some y → Steady p x.code.length d j y) ∧ DOk x.code.length d ∧ d.getD 0 0 = 0 ∧ 1 ≤ x.code.length := by
  have hm := List.mem_of_getElem? hx
  obtain ⟨d, hd⟩ := h.depths hm
  have h0 : (checkM p).1 = 0 := by rw [h.check]
  obtain ⟨hfew, hlen, hjmp, hflow, hsized⟩ := check_ok h0
  obtain ⟨h1, h2, h3⟩ := depths_still hfew (hjmp x hm) hd
  have hl := (h.done x hm).1
  exact ⟨d, by unfold depthsOf; rw [if_pos ⟨h0, by omega⟩, Int.toNat_natCast, hx]; simp only [hd], h1, h2, h3 hl, hl⟩
section
variable {w0 : World} {p : List Fnc} {C : Option Addr} {c : Nat} {q3 : Nat}
end
end Go.Proofs.Ytlccbaemcfjdoaa
