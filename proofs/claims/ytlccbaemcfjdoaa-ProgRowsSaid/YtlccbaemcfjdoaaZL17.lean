/-
  Layer 17: whatever the input, ProgRows returns true, and the input reads as it did.
  Conditions: none.
-/
import Derived.Test.YtlccbaemcfjdoaaZR17
import Derived.Test.YtlccbaemcfjdoaaZInit
set_option maxRecDepth 100000
namespace Go.Proofs.Ytlccbaemcfjdoaa
open Go.ChangeShapes Go.WideShapes Go.ChangeAt Go.RowKit
theorem joined3 : joinedFacts Try.prog 3 Try.f3 Rows.progRowsSpec Rows.progRowsRow = true := by
  unfold joinedFacts
  rw [mayEnter_ok, liftsFinal_ok, make_ok]
  kernel_rfl
theorem progRows.over : Rows.progRowsRow.holds Try.pinned (OpenSpec.ofChange Rows.progRowsSpec) :=
  OpenClaim.holds_of_wide 3 Try.f3 rfl rfl rfl rfl rfl rfl rfl ⟨rfl, rfl, rfl, rfl, rfl⟩ rfl rfl rfl rfl rfl (by kernel_rfl) Try.func3 joined3
    (of_decide_eq_true (by kernel_rfl)) (by unfold Func.isWrapper; first | (rw [if_pos (by decide +kernel)]; kernel_rfl) | (rw [if_neg (by decide +kernel)]; exact ⟨rfl, rfl⟩))
    (fun os started H enc _ => progRows.lifted os started H enc)
theorem progRows_holds : Rows.ProgRowsSaid := progRows.over
end Go.Proofs.Ytlccbaemcfjdoaa
