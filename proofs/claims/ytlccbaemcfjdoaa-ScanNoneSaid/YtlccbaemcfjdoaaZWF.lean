/-
  What the engine makes of the loaded functions 42, 44, 52, 54, 94, 105, 59: conditions under which a call returns as told, and proofs of that.
  Conditions: none. Printed by a program of this project.
-/
import Derived.Test.YtlccbaemcfjdoaaZWB
set_option linter.unusedVariables false
set_option maxRecDepth 100000
namespace Go.Proofs.Ytlccbaemcfjdoaa
def V59n.vc (B : Nat) (R : Value → World → Prop) (a : Option Addr) (c d : Nat) (f : Int) (w : World) : Prop :=
  ∀ g : Nat, w.heap.size ≤ g →
  Ret B w (R (.tuple ⟨[.slice none 0 0, .int .i64 2]⟩))
noncomputable def V59n.cfg (B : Nat) : Cfg := ⟨Try.prog, ⟨57, B⟩, [], hasN [], hasN []⟩
noncomputable def V59n.code : Code := (Try.f59.body).getD .skip
noncomputable def V59n.cuts (B : Nat) (R : Value → World → Prop) : Nat → Cut := nthC []
noncomputable def V59n.h : H := .s (.z) (.s (.s (.z) (.c (.s (.z) (.z)) (.z))) (.s (.z) (.s (.s (.z) (.b (.z))) (.s (.z) (.z)))))
theorem V59n.vc_eq (B : Nat) (R : Value → World → Prop) (a : Option Addr) (c d : Nat) (f : Int) (w : World) : wpf (V59n.cfg B) (V59n.cuts B R) V59n.code V59n.h [] (postOf Try.prog B (Try.f59.results.toList) R) (argE 0 [.pointer none, .agg ⟨[.slice a c d]⟩, .int .i64 f]) [] w = V59n.vc B R a c d f w := by kernel_rfl
theorem V59n.obl (B : Nat) (R : Value → World → Prop) : oblP (V59n.cfg B) (V59n.cuts B R) V59n.code V59n.h [] (postOf Try.prog B (Try.f59.results.toList) R) := by
  have e : oblP (V59n.cfg B) (V59n.cuts B R) V59n.code V59n.h [] (postOf Try.prog B (Try.f59.results.toList) R) = (True ∧ ((True ∧ ((True ∧ True) ∧ True)) ∧ (True ∧ ((True ∧ True) ∧ (True ∧ True))))) := by kernel_rfl
  rw [e]
  exact ⟨trivial, ⟨⟨trivial, ⟨⟨trivial, trivial⟩, trivial⟩⟩, ⟨trivial, ⟨⟨trivial, trivial⟩, ⟨trivial, trivial⟩⟩⟩⟩⟩
theorem V59n.cfgOk (B : Nat) : CfgOk (V59n.cfg B) := cfgOk_of (by kernel_rfl) (by kernel_rfl)
theorem V59n.sound {a : Option Addr} {d f : Nat} {g : Int} {w : World} {R : Value → World → Prop} (h : V59n.vc w.heap.size R a d f g w) : Calls Try.prog 59 ⟨[.pointer none, .agg ⟨[.slice a d f]⟩, .int .i64 g]⟩ w fun e w' => ∃ v, e = .returned v ∧ R v w' :=
  calls_wpfP (c := V59n.cfg w.heap.size) (fn := Try.f59) (x := V59n.code) (V59n.cuts w.heap.size R) V59n.h (V59n.cfgOk _) mixed Try.func59 (by kernel_rfl) (by kernel_rfl) (by kernel_rfl) rfl (V59n.obl _ _) ((V59n.vc_eq _ _ a d f g _).symm ▸ h)
end Go.Proofs.Ytlccbaemcfjdoaa
