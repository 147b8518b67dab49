/-
  What the engine makes of the loaded functions 42, 44, 52, 54, 94, 105, 59: conditions under which a call returns as told, and proofs of that.
  Conditions: none. Printed by a program of this project.
-/
import Derived.Test.YtlccbaemcfjdoaaZWB
set_option linter.unusedVariables false
set_option maxRecDepth 100000
namespace Go.Proofs.Ytlccbaemcfjdoaa
def V105n.vc (B : Nat) (R : Value → World → Prop) (a c : Int) (w : World) : Prop :=
  Ret B w (R (.tuple ⟨[.slice none 0 0, .int .i64 2]⟩))
noncomputable def V105n.cfg (B : Nat) : Cfg := ⟨Try.prog, ⟨47, B⟩, [], hasN [], hasN []⟩
noncomputable def V105n.code : Code := (Try.f105.body).getD .skip
noncomputable def V105n.cuts (B : Nat) (R : Value → World → Prop) : Nat → Cut := nthC []
noncomputable def V105n.h : H := .s (.z) (.s (.b (.s (.z) (.c (.s (.z) (.z)) (.s (.z) (.c (.s (.z) (.z)) (.z)))))) (.s (.z) (.z)))
theorem V105n.vc_eq (B : Nat) (R : Value → World → Prop) (a c : Int) (w : World) : wpf (V105n.cfg B) (V105n.cuts B R) V105n.code V105n.h [] (postOf Try.prog B (Try.f105.results.toList) R) (argE 0 [.pointer none, .int .i64 a, .int .i64 c]) [] w = V105n.vc B R a c w := by kernel_rfl
theorem V105n.obl (B : Nat) (R : Value → World → Prop) : oblP (V105n.cfg B) (V105n.cuts B R) V105n.code V105n.h [] (postOf Try.prog B (Try.f105.results.toList) R) := by
  have e : oblP (V105n.cfg B) (V105n.cuts B R) V105n.code V105n.h [] (postOf Try.prog B (Try.f105.results.toList) R) = (True ∧ ((True ∧ ((True ∧ True) ∧ (True ∧ ((True ∧ True) ∧ True)))) ∧ (True ∧ True))) := by kernel_rfl
  rw [e]
  exact ⟨trivial, ⟨⟨trivial, ⟨⟨trivial, trivial⟩, ⟨trivial, ⟨⟨trivial, trivial⟩, trivial⟩⟩⟩⟩, ⟨trivial, trivial⟩⟩⟩
theorem V105n.cfgOk (B : Nat) : CfgOk (V105n.cfg B) := cfgOk_of (by kernel_rfl) (by kernel_rfl)
theorem V105n.sound {a d : Int} {w : World} {R : Value → World → Prop} (h : V105n.vc w.heap.size R a d w) : Calls Try.prog 105 ⟨[.pointer none, .int .i64 a, .int .i64 d]⟩ w fun e w' => ∃ v, e = .returned v ∧ R v w' :=
  calls_wpfP (c := V105n.cfg w.heap.size) (fn := Try.f105) (x := V105n.code) (V105n.cuts w.heap.size R) V105n.h (V105n.cfgOk _) mixed Try.func105 (by kernel_rfl) (by kernel_rfl) (by kernel_rfl) rfl (V105n.obl _ _) ((V105n.vc_eq _ _ a d _).symm ▸ h)
end Go.Proofs.Ytlccbaemcfjdoaa
