/-
  What the engine makes of the loaded functions 3, 4, 5, 6, 7, 8, 9, 10: conditions under which a call returns as told, and proofs of that.
  Conditions: none. Printed by a program of this project.
-/
import Derived.Test.YtofblkmibghmbaaDoorZVU
set_option linter.unusedVariables false
set_option maxRecDepth 100000
namespace Go.Proofs.YtofblkmibghmbaaDoor
def V5.vc (B : Nat) (R : Value → World → Prop) (a c : Int) (w : World) : Prop :=
  CallK Tryd.prog 24 [.int .u64 a] B w [] fun v d => 
  ∃ f : Nat, v = .float .f64 f ∧
  CallK Tryd.prog 30 [.float .f64 f] B d [] fun g i => 
  ∃ j : Int, g = .int .u64 j ∧
  CallK Tryd.prog 31 [.int .u64 a] B i [] fun l m => 
  ∃ n : Nat, l = .float .f64 n ∧
  CallK Tryd.prog 30 [.float .f64 n] B m [] fun o p => 
  ∃ q : Int, o = .int .u64 q ∧
  if (j == q) = true
  then (CallK Tryd.prog 24 [.int .u64 a] B p [] fun r s => 
   ∃ t : Nat, r = .float .f64 t ∧
   CallK Tryd.prog 23 [.float .f64 t] B s [] fun u x => 
   ∃ y : Int, u = .int .u64 y ∧
   CallK Tryd.prog 31 [.int .u64 a] B x [] fun z A => 
   ∃ C : Nat, z = .float .f64 C ∧
   CallK Tryd.prog 30 [.float .f64 C] B A [] fun D E => 
   ∃ F : Int, D = .int .u64 F ∧
   if (y == F) = true
   then (CallK Tryd.prog 32 [.int .i64 c] B E [] fun G I => 
    ∃ J : Int, G = .int .u64 J ∧
    CallK Tryd.prog 33 [.int .i64 c] B I [] fun L M => 
    ∃ N : Int, L = .int .u64 N ∧
    if (J == N) = true
    then (CallK Tryd.prog 19 [.int .u64 a] B M [] fun O P => 
     ∃ Q : ByteArray, O = .string Q ∧
     CallK Tryd.prog 34 [.int .u64 a] B P [] fun S T => 
     ∃ U : ByteArray, S = .string U ∧
     if (Q.toList == U.toList) = true
     then (CallK Tryd.prog 32 [.int .i64 c] B T [] fun W X => 
      ∃ Y : Int, W = .int .u64 Y ∧
      CallK Tryd.prog 19 [.int .u64 Y] B X [] fun Z a1 => 
      ∃ a2 : ByteArray, Z = .string a2 ∧
      CallK Tryd.prog 33 [.int .i64 c] B a1 [] fun a3 a4 => 
      ∃ a5 : Int, a3 = .int .u64 a5 ∧
      CallK Tryd.prog 34 [.int .u64 a5] B a4 [] fun a6 a7 => 
      ∃ a8 : ByteArray, a6 = .string a8 ∧
      if (a2.toList == a8.toList) = true
      then (CallK Tryd.prog 21 [] B a7 [] fun a9 c0 => 
       ∃ c1 : Bool, a9 = .bool c1 ∧
       Ret B c0 (R (.bool c1)))
      else (Ret B a7 (R (.bool false))))
     else (Ret B T (R (.bool false))))
    else (Ret B M (R (.bool false))))
   else (Ret B E (R (.bool false))))
  else (Ret B p (R (.bool false)))
noncomputable def V5.cfg (B : Nat) : Cfg := ⟨Tryd.prog, ⟨47, B⟩, [], hasN [19, 21, 23, 24, 30, 31, 32, 33, 34], hasN [], look []⟩
noncomputable def V5.code : Code := (Tryd.f5.body).getD .skip
noncomputable def V5.cuts (B : Nat) (R : Value → World → Prop) : Nat → Cut := nthC []
noncomputable def V5.h : H := .s (.z) (.s (.z) (.z))
theorem V5.vc_eq (B : Nat) (R : Value → World → Prop) (a c : Int) (w : World) : wpf (V5.cfg B) (V5.cuts B R) V5.code V5.h [] (postOf Tryd.prog B (Tryd.f5.results.toList) R) (argE 0 [.int .u64 a, .int .i64 c]) [] w = V5.vc B R a c w := by kernel_rfl
theorem V5.obl (B : Nat) (R : Value → World → Prop) : oblP (V5.cfg B) (V5.cuts B R) V5.code V5.h [] (postOf Tryd.prog B (Tryd.f5.results.toList) R) := by
  have e : oblP (V5.cfg B) (V5.cuts B R) V5.code V5.h [] (postOf Tryd.prog B (Tryd.f5.results.toList) R) = (True ∧ (True ∧ True)) := by kernel_rfl
  rw [e]
  exact ⟨trivial, ⟨trivial, trivial⟩⟩
theorem V5.cfgOk (B : Nat) : CfgOk (V5.cfg B) := cfgOk_of (by kernel_rfl) (by kernel_rfl) extNil
theorem V5.sound {a d : Int} {w : World} {R : Value → World → Prop} (h : V5.vc w.heap.size R a d w) : Calls Tryd.prog 5 ⟨[.int .u64 a, .int .i64 d]⟩ w fun e w' => ∃ v, e = .returned v ∧ R v w' :=
  calls_wpfP (c := V5.cfg w.heap.size) (fn := Tryd.f5) (x := V5.code) (V5.cuts w.heap.size R) V5.h (V5.cfgOk _) mixed Tryd.func5 (by kernel_rfl) (by kernel_rfl) (by kernel_rfl) rfl (V5.obl _ _) ((V5.vc_eq _ _ a d _).symm ▸ h)
end Go.Proofs.YtofblkmibghmbaaDoor
