/-
  What the engine makes of the loaded functions 3, 4, 5, 6, 7, 8, 9, 10: conditions under which a call returns as told, and proofs of that.
  Conditions: none. Printed by a program of this project.
-/
import Derived.Test.YtofblkmibghmbaaDoorZVU
set_option linter.unusedVariables false
set_option maxRecDepth 100000
namespace Go.Proofs.YtofblkmibghmbaaDoor
def V8.b1 (B : Nat) (R : Value → World → Prop) (a c : Int) (d : Bool) (f g : Int) (w : World) : Prop :=
  CallK Tryd.prog 38 [.int .u64 a] B w [] fun v i => 
  ∃ j : Int, v = .int .u64 j ∧
  CallK Tryd.prog 38 [.int .u64 c] B i [] fun l m => 
  ∃ n : Int, l = .int .u64 n ∧
  if ((decide (j < n)) == d) = true
  then (CallK Tryd.prog 38 [.int .u64 a] B m [] fun o p => 
   ∃ q : Int, o = .int .u64 q ∧
   CallK Tryd.prog 38 [.int .u64 c] B p [] fun r s => 
   ∃ t : Int, r = .int .u64 t ∧
   if ((q == t) == (a == c)) = true
   then (CallK Tryd.prog 39 [.int .u64 a, .int .u64 c] B s [] fun u x => 
    ∃ y : Int, u = .int .u64 y ∧
    if (y == f) = true
    then (CallK Tryd.prog 40 [.int .u64 a, .int .u64 c] B x [] fun z A => 
     ∃ C : Int, z = .int .u64 C ∧
     if (C == g) = true
     then (CallK Tryd.prog 21 [] B A [] fun D E => 
      ∃ F : Bool, D = .bool F ∧
      Ret B E (R (.bool F)))
     else (Ret B A (R (.bool false))))
    else (Ret B x (R (.bool false))))
   else (Ret B s (R (.bool false))))
  else (Ret B m (R (.bool false)))
def V8.b0 (B : Nat) (R : Value → World → Prop) (a c : Int) (d : Bool) (w : World) : Prop :=
  CallK Tryd.prog 38 [.int .u64 a] B w [] fun v f => 
  ∃ g : Int, v = .int .u64 g ∧
  CallK Tryd.prog 38 [.int .u64 c] B f [] fun i j => 
  ∃ l : Int, i = .int .u64 l ∧
  if (decide (g < l)) = true
  then (V8.b1 B R a c d a c j)
  else (V8.b1 B R a c d c a j)
def V8.vc (B : Nat) (R : Value → World → Prop) (a c : Int) (w : World) : Prop :=
  CallK Tryd.prog 20 [.int .u64 a] B w [] fun v d => 
  ∃ f : Bool, v = .bool f ∧
  if f = false
  then (CallK Tryd.prog 20 [.int .u64 c] B d [] fun g i => 
   ∃ j : Bool, g = .bool j ∧
   if j = true
   then (CallK Tryd.prog 21 [] B i [] fun l m => 
    ∃ n : Bool, l = .bool n ∧
    Ret B m (R (.bool n)))
   else (CallK Tryd.prog 36 [.int .u64 a, .int .u64 c] B i [] fun l m => 
    ∃ o : Bool, l = .bool o ∧
    if o = false
    then (if (a == 9223372036854775808) = true
     then (V8.b0 B R a c (c == 0) m)
     else (V8.b0 B R a c false m))
    else (V8.b0 B R a c true m)))
  else (CallK Tryd.prog 21 [] B d [] fun g i => 
   ∃ n : Bool, g = .bool n ∧
   Ret B i (R (.bool n)))
noncomputable def V8.cfg (B : Nat) : Cfg := ⟨Tryd.prog, ⟨70, B⟩, [], hasN [20, 21, 36, 38, 39, 40], hasN [], look []⟩
noncomputable def V8.code : Code := (Tryd.f8.body).getD .skip
noncomputable def V8.cuts (B : Nat) (R : Value → World → Prop) : Nat → Cut := nthC [⟨[(0, .one (.int .u64)), (1, .one (.int .u64)), (5, .one (.bool))], [], fun fs vs bs w => V8.b0 B R (iV (nthV vs 0)) (iV (nthV vs 1)) (bV (nthV vs 2)) w⟩,
  ⟨[(0, .one (.int .u64)), (1, .one (.int .u64)), (5, .one (.bool)), (6, .one (.int .u64)), (7, .one (.int .u64))], [], fun fs vs bs w => V8.b1 B R (iV (nthV vs 0)) (iV (nthV vs 1)) (bV (nthV vs 2)) (iV (nthV vs 3)) (iV (nthV vs 4)) w⟩]
noncomputable def V8.h : H := .s (.z) (.s (.s (.z) (.c (.s (.z) (.z)) (.z))) (.cut 0 (.z) (.s (.z) (.cut 1 (.s (.z) (.c (.z) (.z))) (.s (.z) (.z))))))
theorem V8.vc_eq (B : Nat) (R : Value → World → Prop) (a c : Int) (w : World) : wpf (V8.cfg B) (V8.cuts B R) V8.code V8.h [] (postOf Tryd.prog B (Tryd.f8.results.toList) R) (argE 0 [.int .u64 a, .int .u64 c]) [] w = V8.vc B R a c w := by kernel_rfl
theorem V8.obl (B : Nat) (R : Value → World → Prop) : oblP (V8.cfg B) (V8.cuts B R) V8.code V8.h [] (postOf Tryd.prog B (Tryd.f8.results.toList) R) := by
  have e : oblP (V8.cfg B) (V8.cuts B R) V8.code V8.h [] (postOf Tryd.prog B (Tryd.f8.results.toList) R) = (True ∧ ((True ∧ ((True ∧ True) ∧ True)) ∧ (True ∧ (∀ (a c : Int) (d : Bool) (w : World), V8.b0 B R a c d w → V8.b0 B R a c d w) ∧ (True ∧ ((True ∧ (True ∧ True)) ∧ (∀ (a c : Int) (d : Bool) (f g : Int) (w : World), V8.b1 B R a c d f g w → V8.b1 B R a c d f g w) ∧ (True ∧ True)))))) := by kernel_rfl
  rw [e]
  exact ⟨trivial, ⟨⟨trivial, ⟨⟨trivial, trivial⟩, trivial⟩⟩, ⟨trivial, fun a c d w h => h, ⟨trivial, ⟨⟨trivial, ⟨trivial, trivial⟩⟩, fun a c d f g w h => h, ⟨trivial, trivial⟩⟩⟩⟩⟩⟩
theorem V8.cfgOk (B : Nat) : CfgOk (V8.cfg B) := cfgOk_of (by kernel_rfl) (by kernel_rfl) extNil
theorem V8.sound {a d : Int} {w : World} {R : Value → World → Prop} (h : V8.vc w.heap.size R a d w) : Calls Tryd.prog 8 ⟨[.int .u64 a, .int .u64 d]⟩ w fun e w' => ∃ v, e = .returned v ∧ R v w' :=
  calls_wpfP (c := V8.cfg w.heap.size) (fn := Tryd.f8) (x := V8.code) (V8.cuts w.heap.size R) V8.h (V8.cfgOk _) mixed Tryd.func8 (by kernel_rfl) (by kernel_rfl) (by kernel_rfl) rfl (V8.obl _ _) ((V8.vc_eq _ _ a d _).symm ▸ h)
end Go.Proofs.YtofblkmibghmbaaDoor
