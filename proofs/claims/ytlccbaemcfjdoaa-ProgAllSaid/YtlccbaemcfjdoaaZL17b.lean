/-
  Layer 17: whatever the input, ProgAll returns true, and the input reads as it did.
  Conditions: none.
-/
import Derived.Test.YtlccbaemcfjdoaaZR17
import Derived.Test.YtlccbaemcfjdoaaZInit
set_option maxRecDepth 100000
namespace Go.Proofs.Ytlccbaemcfjdoaa
open Go.ChangeShapes Go.WideShapes Go.ChangeAt Go.RowKit
theorem joined5 : joinedFacts Try.prog 5 Try.f5 Rows.progAllSpec Rows.progAllRow = true := by
  unfold joinedFacts
  rw [mayEnter_ok, liftsFinal_ok, make_ok]
  kernel_rfl
theorem progAll.over : Rows.progAllRow.holds Try.pinned (OpenSpec.ofChange Rows.progAllSpec) :=
  OpenClaim.holds_of_wide 5 Try.f5 rfl rfl rfl rfl rfl rfl rfl ⟨rfl, rfl, rfl, rfl, rfl⟩ rfl rfl rfl rfl rfl (by kernel_rfl) Try.func5 joined5
    (of_decide_eq_true (by kernel_rfl)) (by unfold Func.isWrapper; first | (rw [if_pos (by decide +kernel)]; kernel_rfl) | (rw [if_neg (by decide +kernel)]; exact ⟨rfl, rfl⟩))
    (fun os started H enc _ => progAll.lifted os started H enc)
theorem progAll_holds : Rows.ProgAllSaid := progAll.over
end Go.Proofs.Ytlccbaemcfjdoaa
