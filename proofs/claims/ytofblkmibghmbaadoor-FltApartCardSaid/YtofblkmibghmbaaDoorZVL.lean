/-
  What the engine makes of the loaded functions 3, 4, 5, 6, 7, 8, 9, 10: conditions under which a call returns as told, and proofs of that.
  Conditions: none. Printed by a program of this project.
-/
import Derived.Test.YtofblkmibghmbaaDoorZVU
set_option linter.unusedVariables false
set_option maxRecDepth 100000
namespace Go.Proofs.YtofblkmibghmbaaDoor
def V3.vc (B : Nat) (R : Value → World → Prop) (a c : Int) (w : World) : Prop :=
  CallK Tryd.prog 19 [.int .u64 a] B w [] fun v d => 
  ∃ f : ByteArray, v = .string f ∧
  CallK Tryd.prog 19 [.int .u64 c] B d [] fun g i => 
  ∃ j : ByteArray, g = .string j ∧
  if (a == c) = false
  then (CallK Tryd.prog 20 [.int .u64 a] B i [] fun l m => 
   ∃ n : Bool, l = .bool n ∧
   if n = true
   then (CallK Tryd.prog 20 [.int .u64 c] B m [] fun o p => 
    ∃ q : Bool, o = .bool q ∧
    if ((f.toList == j.toList) == q) = true
    then (CallK Tryd.prog 21 [] B p [] fun r s => 
     ∃ t : Bool, r = .bool t ∧
     Ret B s (R (.bool t)))
    else (Ret B p (R (.bool false))))
   else (if ((f.toList == j.toList) == false) = true
    then (CallK Tryd.prog 21 [] B m [] fun o p => 
     ∃ t : Bool, o = .bool t ∧
     Ret B p (R (.bool t)))
    else (Ret B m (R (.bool false)))))
  else (if ((f.toList == j.toList) == true) = true
   then (CallK Tryd.prog 21 [] B i [] fun l m => 
    ∃ t : Bool, l = .bool t ∧
    Ret B m (R (.bool t)))
   else (Ret B i (R (.bool false))))
noncomputable def V3.cfg (B : Nat) : Cfg := ⟨Tryd.prog, ⟨25, B⟩, [], hasN [19, 20, 21], hasN [], look []⟩
noncomputable def V3.code : Code := (Tryd.f3.body).getD .skip
noncomputable def V3.cuts (B : Nat) (R : Value → World → Prop) : Nat → Cut := nthC []
noncomputable def V3.h : H := .s (.z) (.s (.z) (.z))
theorem V3.vc_eq (B : Nat) (R : Value → World → Prop) (a c : Int) (w : World) : wpf (V3.cfg B) (V3.cuts B R) V3.code V3.h [] (postOf Tryd.prog B (Tryd.f3.results.toList) R) (argE 0 [.int .u64 a, .int .u64 c]) [] w = V3.vc B R a c w := by kernel_rfl
theorem V3.obl (B : Nat) (R : Value → World → Prop) : oblP (V3.cfg B) (V3.cuts B R) V3.code V3.h [] (postOf Tryd.prog B (Tryd.f3.results.toList) R) := by
  have e : oblP (V3.cfg B) (V3.cuts B R) V3.code V3.h [] (postOf Tryd.prog B (Tryd.f3.results.toList) R) = (True ∧ (True ∧ True)) := by kernel_rfl
  rw [e]
  exact ⟨trivial, ⟨trivial, trivial⟩⟩
theorem V3.cfgOk (B : Nat) : CfgOk (V3.cfg B) := cfgOk_of (by kernel_rfl) (by kernel_rfl) extNil
theorem V3.sound {a d : Int} {w : World} {R : Value → World → Prop} (h : V3.vc w.heap.size R a d w) : Calls Tryd.prog 3 ⟨[.int .u64 a, .int .u64 d]⟩ w fun e w' => ∃ v, e = .returned v ∧ R v w' :=
  calls_wpfP (c := V3.cfg w.heap.size) (fn := Tryd.f3) (x := V3.code) (V3.cuts w.heap.size R) V3.h (V3.cfgOk _) mixed Tryd.func3 (by kernel_rfl) (by kernel_rfl) (by kernel_rfl) rfl (V3.obl _ _) ((V3.vc_eq _ _ a d _).symm ▸ h)
end Go.Proofs.YtofblkmibghmbaaDoor
