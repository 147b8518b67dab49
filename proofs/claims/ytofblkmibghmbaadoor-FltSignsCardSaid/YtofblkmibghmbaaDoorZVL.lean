/-
  What the engine makes of the loaded functions 3, 4, 5, 6, 7, 8, 9, 10: conditions under which a call returns as told, and proofs of that.
  Conditions: none. Printed by a program of this project.
-/
import Derived.Test.YtofblkmibghmbaaDoorZVU
set_option linter.unusedVariables false
set_option maxRecDepth 100000
namespace Go.Proofs.YtofblkmibghmbaaDoor
def V4.vc (B : Nat) (R : Value → World → Prop) (a c : Int) (w : World) : Prop :=
  CallK Tryd.prog 22 [.int .u64 a] B w [] fun v d => 
  ∃ f : Int, v = .int .u64 f ∧
  CallK Tryd.prog 22 [.int .u64 f] B d [] fun g i => 
  ∃ j : Int, g = .int .u64 j ∧
  CallK Tryd.prog 24 [.int .u64 a] B i [] fun l m => 
  ∃ n : Nat, l = .float .f64 n ∧
  CallK Tryd.prog 23 [.float .f64 n] B m [] fun o p => 
  ∃ q : Int, o = .int .u64 q ∧
  if (j == q) = true
  then (CallK Tryd.prog 25 [.int .u64 a, .int .u64 c] B p [] fun r s => 
   ∃ t : Int, r = .int .u64 t ∧
   CallK Tryd.prog 22 [.int .u64 c] B s [] fun u x => 
   ∃ y : Int, u = .int .u64 y ∧
   CallK Tryd.prog 26 [.int .u64 a, .int .u64 y] B x [] fun z A => 
   ∃ C : Int, z = .int .u64 C ∧
   if (t == C) = true
   then (CallK Tryd.prog 26 [.int .u64 a, .int .u64 c] B A [] fun D E => 
    ∃ F : Int, D = .int .u64 F ∧
    CallK Tryd.prog 26 [.int .u64 c, .int .u64 a] B E [] fun G I => 
    ∃ J : Int, G = .int .u64 J ∧
    if (F == J) = true
    then (CallK Tryd.prog 27 [.int .u64 a, .int .u64 c] B I [] fun L M => 
     ∃ N : Int, L = .int .u64 N ∧
     CallK Tryd.prog 27 [.int .u64 c, .int .u64 a] B M [] fun O P => 
     ∃ Q : Int, O = .int .u64 Q ∧
     if (N == Q) = true
     then (CallK Tryd.prog 28 [.int .u64 a] B P [] fun S T => 
      ∃ U : Bool, S = .bool U ∧
      CallK Tryd.prog 29 [.int .u64 a, .int .u64 0] B T [] fun W X => 
      ∃ Y : Bool, W = .bool Y ∧
      if (U == (!Y)) = true
      then (CallK Tryd.prog 22 [.int .u64 0] B X [] fun Z a1 => 
       ∃ a2 : Int, Z = .int .u64 a2 ∧
       if (a2 == 9223372036854775808) = true
       then (CallK Tryd.prog 21 [] B a1 [] fun a3 a4 => 
        ∃ a5 : Bool, a3 = .bool a5 ∧
        Ret B a4 (R (.bool a5)))
       else (Ret B a1 (R (.bool false))))
      else (Ret B X (R (.bool false))))
     else (Ret B P (R (.bool false))))
    else (Ret B I (R (.bool false))))
   else (Ret B A (R (.bool false))))
  else (Ret B p (R (.bool false)))
noncomputable def V4.cfg (B : Nat) : Cfg := ⟨Tryd.prog, ⟨55, B⟩, [], hasN [21, 22, 23, 24, 25, 26, 27, 28, 29], hasN [], look []⟩
noncomputable def V4.code : Code := (Tryd.f4.body).getD .skip
noncomputable def V4.cuts (B : Nat) (R : Value → World → Prop) : Nat → Cut := nthC []
noncomputable def V4.h : H := .s (.z) (.s (.z) (.z))
theorem V4.vc_eq (B : Nat) (R : Value → World → Prop) (a c : Int) (w : World) : wpf (V4.cfg B) (V4.cuts B R) V4.code V4.h [] (postOf Tryd.prog B (Tryd.f4.results.toList) R) (argE 0 [.int .u64 a, .int .u64 c]) [] w = V4.vc B R a c w := by kernel_rfl
theorem V4.obl (B : Nat) (R : Value → World → Prop) : oblP (V4.cfg B) (V4.cuts B R) V4.code V4.h [] (postOf Tryd.prog B (Tryd.f4.results.toList) R) := by
  have e : oblP (V4.cfg B) (V4.cuts B R) V4.code V4.h [] (postOf Tryd.prog B (Tryd.f4.results.toList) R) = (True ∧ (True ∧ True)) := by kernel_rfl
  rw [e]
  exact ⟨trivial, ⟨trivial, trivial⟩⟩
theorem V4.cfgOk (B : Nat) : CfgOk (V4.cfg B) := cfgOk_of (by kernel_rfl) (by kernel_rfl) extNil
theorem V4.sound {a d : Int} {w : World} {R : Value → World → Prop} (h : V4.vc w.heap.size R a d w) : Calls Tryd.prog 4 ⟨[.int .u64 a, .int .u64 d]⟩ w fun e w' => ∃ v, e = .returned v ∧ R v w' :=
  calls_wpfP (c := V4.cfg w.heap.size) (fn := Tryd.f4) (x := V4.code) (V4.cuts w.heap.size R) V4.h (V4.cfgOk _) mixed Tryd.func4 (by kernel_rfl) (by kernel_rfl) (by kernel_rfl) rfl (V4.obl _ _) ((V4.vc_eq _ _ a d _).symm ▸ h)
end Go.Proofs.YtofblkmibghmbaaDoor
