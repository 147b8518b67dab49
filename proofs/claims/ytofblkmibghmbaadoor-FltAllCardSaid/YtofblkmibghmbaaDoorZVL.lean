/-
  What the engine makes of the loaded functions 3, 4, 5, 6, 7, 8, 9, 10: conditions under which a call returns as told, and proofs of that.
  Conditions: none. Printed by a program of this project.
-/
import Derived.Test.YtofblkmibghmbaaDoorZVU
set_option linter.unusedVariables false
set_option maxRecDepth 100000
namespace Go.Proofs.YtofblkmibghmbaaDoor
def V10.vc (B : Nat) (R : Value → World → Prop) (a c : Int) (w : World) : Prop :=
  CallK Tryd.prog 26 [.int .u64 a, .int .u64 c] B w [] fun v d => 
  ∃ f : Int, v = .int .u64 f ∧
  CallK Tryd.prog 42 [.int .u64 a, .int .u64 c] B d [] fun g i => 
  ∃ j : Int, g = .int .u64 j ∧
  if (f == j) = true
  then (CallK Tryd.prog 25 [.int .u64 a, .int .u64 c] B i [] fun l m => 
   ∃ n : Int, l = .int .u64 n ∧
   CallK Tryd.prog 43 [.int .u64 a, .int .u64 c] B m [] fun o p => 
   ∃ q : Int, o = .int .u64 q ∧
   if (n == q) = true
   then (CallK Tryd.prog 27 [.int .u64 a, .int .u64 c] B p [] fun r s => 
    ∃ t : Int, r = .int .u64 t ∧
    CallK Tryd.prog 44 [.int .u64 a, .int .u64 c] B s [] fun u x => 
    ∃ y : Int, u = .int .u64 y ∧
    if (t == y) = true
    then (CallK Tryd.prog 41 [.int .u64 a, .int .u64 c] B x [] fun z A => 
     ∃ C : Int, z = .int .u64 C ∧
     CallK Tryd.prog 45 [.int .u64 a, .int .u64 c] B A [] fun D E => 
     ∃ F : Int, D = .int .u64 F ∧
     if (C == F) = true
     then (CallK Tryd.prog 22 [.int .u64 a] B E [] fun G I => 
      ∃ J : Int, G = .int .u64 J ∧
      CallK Tryd.prog 46 [.int .u64 a] B I [] fun L M => 
      ∃ N : Int, L = .int .u64 N ∧
      if (J == N) = true
      then (CallK Tryd.prog 35 [.int .u64 a] B M [] fun O P => 
       ∃ Q : Int, O = .int .u64 Q ∧
       CallK Tryd.prog 47 [.int .u64 a] B P [] fun S T => 
       ∃ U : Int, S = .int .u64 U ∧
       if (Q == U) = true
       then (CallK Tryd.prog 39 [.int .u64 a, .int .u64 c] B T [] fun W X => 
        ∃ Y : Int, W = .int .u64 Y ∧
        CallK Tryd.prog 48 [.int .u64 a, .int .u64 c] B X [] fun Z a1 => 
        ∃ a2 : Int, Z = .int .u64 a2 ∧
        if (Y == a2) = true
        then (CallK Tryd.prog 40 [.int .u64 a, .int .u64 c] B a1 [] fun a3 a4 => 
         ∃ a5 : Int, a3 = .int .u64 a5 ∧
         CallK Tryd.prog 49 [.int .u64 a, .int .u64 c] B a4 [] fun a6 a7 => 
         ∃ a8 : Int, a6 = .int .u64 a8 ∧
         if (a5 == a8) = true
         then (CallK Tryd.prog 36 [.int .u64 a, .int .u64 c] B a7 [] fun a9 c0 => 
          ∃ c1 : Bool, a9 = .bool c1 ∧
          CallK Tryd.prog 50 [.int .u64 a, .int .u64 c] B c0 [] fun c2 c3 => 
          ∃ c4 : Bool, c2 = .bool c4 ∧
          if (c1 == c4) = true
          then (CallK Tryd.prog 29 [.int .u64 a, .int .u64 c] B c3 [] fun c5 c6 => 
           ∃ c7 : Bool, c5 = .bool c7 ∧
           CallK Tryd.prog 51 [.int .u64 a, .int .u64 c] B c6 [] fun c8 c9 => 
           ∃ d0 : Bool, c8 = .bool d0 ∧
           if (c7 == d0) = true
           then (CallK Tryd.prog 28 [.int .u64 a] B c9 [] fun d1 d2 => 
            ∃ d3 : Bool, d1 = .bool d3 ∧
            CallK Tryd.prog 52 [.int .u64 a] B d2 [] fun d4 d5 => 
            ∃ d6 : Bool, d4 = .bool d6 ∧
            if (d3 == d6) = true
            then (CallK Tryd.prog 38 [.int .u64 a] B d5 [] fun d7 d8 => 
             ∃ d9 : Int, d7 = .int .u64 d9 ∧
             CallK Tryd.prog 53 [.int .u64 a] B d8 [] fun f0 f1 => 
             ∃ f2 : Int, f0 = .int .u64 f2 ∧
             if (d9 == f2) = true
             then (CallK Tryd.prog 21 [] B f1 [] fun f3 f4 => 
              ∃ f5 : Bool, f3 = .bool f5 ∧
              Ret B f4 (R (.bool f5)))
             else (Ret B f1 (R (.bool false))))
            else (Ret B d5 (R (.bool false))))
           else (Ret B c9 (R (.bool false))))
          else (Ret B c3 (R (.bool false))))
         else (Ret B a7 (R (.bool false))))
        else (Ret B a1 (R (.bool false))))
       else (Ret B T (R (.bool false))))
      else (Ret B M (R (.bool false))))
     else (Ret B E (R (.bool false))))
    else (Ret B x (R (.bool false))))
   else (Ret B p (R (.bool false))))
  else (Ret B i (R (.bool false)))
noncomputable def V10.cfg (B : Nat) : Cfg := ⟨Tryd.prog, ⟨106, B⟩, [], hasN [21, 22, 25, 26, 27, 28, 29, 35, 36, 38, 39, 40, 41, 42, 43, 44, 45, 46, 47, 48, 49, 50, 51, 52, 53], hasN [], look []⟩
noncomputable def V10.code : Code := (Tryd.f10.body).getD .skip
noncomputable def V10.cuts (B : Nat) (R : Value → World → Prop) : Nat → Cut := nthC []
noncomputable def V10.h : H := .s (.z) (.s (.z) (.z))
theorem V10.vc_eq (B : Nat) (R : Value → World → Prop) (a c : Int) (w : World) : wpf (V10.cfg B) (V10.cuts B R) V10.code V10.h [] (postOf Tryd.prog B (Tryd.f10.results.toList) R) (argE 0 [.int .u64 a, .int .u64 c]) [] w = V10.vc B R a c w := by kernel_rfl
theorem V10.obl (B : Nat) (R : Value → World → Prop) : oblP (V10.cfg B) (V10.cuts B R) V10.code V10.h [] (postOf Tryd.prog B (Tryd.f10.results.toList) R) := by
  have e : oblP (V10.cfg B) (V10.cuts B R) V10.code V10.h [] (postOf Tryd.prog B (Tryd.f10.results.toList) R) = (True ∧ (True ∧ True)) := by kernel_rfl
  rw [e]
  exact ⟨trivial, ⟨trivial, trivial⟩⟩
theorem V10.cfgOk (B : Nat) : CfgOk (V10.cfg B) := cfgOk_of (by kernel_rfl) (by kernel_rfl) extNil
theorem V10.sound {a d : Int} {w : World} {R : Value → World → Prop} (h : V10.vc w.heap.size R a d w) : Calls Tryd.prog 10 ⟨[.int .u64 a, .int .u64 d]⟩ w fun e w' => ∃ v, e = .returned v ∧ R v w' :=
  calls_wpfP (c := V10.cfg w.heap.size) (fn := Tryd.f10) (x := V10.code) (V10.cuts w.heap.size R) V10.h (V10.cfgOk _) mixed Tryd.func10 (by kernel_rfl) (by kernel_rfl) (by kernel_rfl) rfl (V10.obl _ _) ((V10.vc_eq _ _ a d _).symm ▸ h)
end Go.Proofs.YtofblkmibghmbaaDoor
