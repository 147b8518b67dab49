/-
  What the engine makes of the loaded functions 3, 4, 5, 6, 7, 8, 9, 10: conditions under which a call returns as told, and proofs of that.
  Conditions: none. Printed by a program of this project.
-/
import Derived.Test.YtofblkmibghmbaaDoorZVU
set_option linter.unusedVariables false
set_option maxRecDepth 100000
namespace Go.Proofs.YtofblkmibghmbaaDoor
def V7.vc (B : Nat) (R : Value → World → Prop) (a c d f : Int) (w : World) : Prop :=
  CallK Tryd.prog 32 [.int .i64 (IntKind.wrap .i64 a)] B w [] fun v g => 
  ∃ i : Int, v = .int .u64 i ∧
  CallK Tryd.prog 32 [.int .i64 (IntKind.wrap .i64 c)] B g [] fun j l => 
  ∃ m : Int, j = .int .u64 m ∧
  CallK Tryd.prog 19 [.int .u64 i] B l [] fun n o => 
  ∃ p : ByteArray, n = .string p ∧
  CallK Tryd.prog 37 [.string p] B o [] fun q r => 
  ∃ (s : Int) (t : Bool), q = .tuple ⟨[.int .i64 s, .bool t]⟩ ∧
  CallK Tryd.prog 26 [.int .u64 i, .int .u64 m] B r [] fun u x => 
  ∃ y : Int, u = .int .u64 y ∧
  CallK Tryd.prog 32 [.int .i64 (IntKind.wrap .i64 (IntKind.wrap .i64 a + IntKind.wrap .i64 c))] B x [] fun z A => 
  ∃ C : Int, z = .int .u64 C ∧
  if (y == C) = true
  then (CallK Tryd.prog 25 [.int .u64 i, .int .u64 m] B A [] fun D E => 
   ∃ F : Int, D = .int .u64 F ∧
   CallK Tryd.prog 32 [.int .i64 (IntKind.wrap .i64 (IntKind.wrap .i64 a - IntKind.wrap .i64 c))] B E [] fun G I => 
   ∃ J : Int, G = .int .u64 J ∧
   if (F == J) = true
   then (CallK Tryd.prog 32 [.int .i64 (IntKind.wrap .i64 d)] B I [] fun L M => 
    ∃ N : Int, L = .int .u64 N ∧
    CallK Tryd.prog 32 [.int .i64 (IntKind.wrap .i64 f)] B M [] fun O P => 
    ∃ Q : Int, O = .int .u64 Q ∧
    CallK Tryd.prog 27 [.int .u64 N, .int .u64 Q] B P [] fun S T => 
    ∃ U : Int, S = .int .u64 U ∧
    CallK Tryd.prog 32 [.int .i64 (IntKind.wrap .i64 (IntKind.wrap .i64 d * IntKind.wrap .i64 f))] B T [] fun W X => 
    ∃ Y : Int, W = .int .u64 Y ∧
    if (U == Y) = false
    then (if (d == 0) = false
     then (if (f == 0) = true
      then (CallK Tryd.prog 36 [.int .u64 i, .int .u64 m] B X [] fun Z a1 => 
       ∃ a2 : Bool, Z = .bool a2 ∧
       if (a2 == (decide (a < c))) = true
       then (CallK Tryd.prog 29 [.int .u64 i, .int .u64 m] B a1 [] fun a3 a4 => 
        ∃ a5 : Bool, a3 = .bool a5 ∧
        if (a5 == (a == c)) = true
        then (CallK Tryd.prog 28 [.int .u64 i] B a4 [] fun a6 a7 => 
         ∃ a8 : Bool, a6 = .bool a8 ∧
         if (a8 == (a != 0)) = true
         then (CallK Tryd.prog 35 [.int .u64 i] B a7 [] fun a9 c0 => 
          ∃ c1 : Int, a9 = .int .u64 c1 ∧
          if (c1 == i) = true
          then (if t = true
           then (if (s == IntKind.wrap .i64 a) = true
            then (CallK Tryd.prog 21 [] B c0 [] fun c3 c4 => 
             ∃ c5 : Bool, c3 = .bool c5 ∧
             Ret B c4 (R (.bool c5)))
            else (Ret B c0 (R (.bool false))))
           else (Ret B c0 (R (.bool false))))
          else (Ret B c0 (R (.bool false))))
         else (Ret B a7 (R (.bool false))))
        else (Ret B a4 (R (.bool false))))
       else (Ret B a1 (R (.bool false))))
      else (Ret B X (R (.bool false))))
     else (CallK Tryd.prog 36 [.int .u64 i, .int .u64 m] B X [] fun Z a1 => 
      ∃ a2 : Bool, Z = .bool a2 ∧
      if (a2 == (decide (a < c))) = true
      then (CallK Tryd.prog 29 [.int .u64 i, .int .u64 m] B a1 [] fun a3 a4 => 
       ∃ a5 : Bool, a3 = .bool a5 ∧
       if (a5 == (a == c)) = true
       then (CallK Tryd.prog 28 [.int .u64 i] B a4 [] fun a6 a7 => 
        ∃ a8 : Bool, a6 = .bool a8 ∧
        if (a8 == (a != 0)) = true
        then (CallK Tryd.prog 35 [.int .u64 i] B a7 [] fun a9 c0 => 
         ∃ c1 : Int, a9 = .int .u64 c1 ∧
         if (c1 == i) = true
         then (if t = true
          then (if (s == IntKind.wrap .i64 a) = true
           then (CallK Tryd.prog 21 [] B c0 [] fun c3 c4 => 
            ∃ c5 : Bool, c3 = .bool c5 ∧
            Ret B c4 (R (.bool c5)))
           else (Ret B c0 (R (.bool false))))
          else (Ret B c0 (R (.bool false))))
         else (Ret B c0 (R (.bool false))))
        else (Ret B a7 (R (.bool false))))
       else (Ret B a4 (R (.bool false))))
      else (Ret B a1 (R (.bool false)))))
    else (CallK Tryd.prog 36 [.int .u64 i, .int .u64 m] B X [] fun Z a1 => 
     ∃ a2 : Bool, Z = .bool a2 ∧
     if (a2 == (decide (a < c))) = true
     then (CallK Tryd.prog 29 [.int .u64 i, .int .u64 m] B a1 [] fun a3 a4 => 
      ∃ a5 : Bool, a3 = .bool a5 ∧
      if (a5 == (a == c)) = true
      then (CallK Tryd.prog 28 [.int .u64 i] B a4 [] fun a6 a7 => 
       ∃ a8 : Bool, a6 = .bool a8 ∧
       if (a8 == (a != 0)) = true
       then (CallK Tryd.prog 35 [.int .u64 i] B a7 [] fun a9 c0 => 
        ∃ c1 : Int, a9 = .int .u64 c1 ∧
        if (c1 == i) = true
        then (if t = true
         then (if (s == IntKind.wrap .i64 a) = true
          then (CallK Tryd.prog 21 [] B c0 [] fun c3 c4 => 
           ∃ c5 : Bool, c3 = .bool c5 ∧
           Ret B c4 (R (.bool c5)))
          else (Ret B c0 (R (.bool false))))
         else (Ret B c0 (R (.bool false))))
        else (Ret B c0 (R (.bool false))))
       else (Ret B a7 (R (.bool false))))
      else (Ret B a4 (R (.bool false))))
     else (Ret B a1 (R (.bool false)))))
   else (Ret B I (R (.bool false))))
  else (Ret B A (R (.bool false)))
noncomputable def V7.cfg (B : Nat) : Cfg := ⟨Tryd.prog, ⟨114, B⟩, [], hasN [19, 21, 25, 26, 27, 28, 29, 32, 35, 36, 37], hasN [], look []⟩
noncomputable def V7.code : Code := (Tryd.f7.body).getD .skip
noncomputable def V7.cuts (B : Nat) (R : Value → World → Prop) : Nat → Cut := nthC []
noncomputable def V7.h : H := .s (.z) (.s (.z) (.s (.z) (.s (.z) (.z))))
theorem V7.vc_eq (B : Nat) (R : Value → World → Prop) (a c d f : Int) (w : World) : wpf (V7.cfg B) (V7.cuts B R) V7.code V7.h [] (postOf Tryd.prog B (Tryd.f7.results.toList) R) (argE 0 [.int .i32 a, .int .i32 c, .int .i16 d, .int .i16 f]) [] w = V7.vc B R a c d f w := by kernel_rfl
theorem V7.obl (B : Nat) (R : Value → World → Prop) : oblP (V7.cfg B) (V7.cuts B R) V7.code V7.h [] (postOf Tryd.prog B (Tryd.f7.results.toList) R) := by
  have e : oblP (V7.cfg B) (V7.cuts B R) V7.code V7.h [] (postOf Tryd.prog B (Tryd.f7.results.toList) R) = (True ∧ (True ∧ (True ∧ (True ∧ True)))) := by kernel_rfl
  rw [e]
  exact ⟨trivial, ⟨trivial, ⟨trivial, ⟨trivial, trivial⟩⟩⟩⟩
theorem V7.cfgOk (B : Nat) : CfgOk (V7.cfg B) := cfgOk_of (by kernel_rfl) (by kernel_rfl) extNil
theorem V7.sound {a d f g : Int} {w : World} {R : Value → World → Prop} (h : V7.vc w.heap.size R a d f g w) : Calls Tryd.prog 7 ⟨[.int .i32 a, .int .i32 d, .int .i16 f, .int .i16 g]⟩ w fun e w' => ∃ v, e = .returned v ∧ R v w' :=
  calls_wpfP (c := V7.cfg w.heap.size) (fn := Tryd.f7) (x := V7.code) (V7.cuts w.heap.size R) V7.h (V7.cfgOk _) mixed Tryd.func7 (by kernel_rfl) (by kernel_rfl) (by kernel_rfl) rfl (V7.obl _ _) ((V7.vc_eq _ _ a d f g _).symm ▸ h)
end Go.Proofs.YtofblkmibghmbaaDoor
