/-
  What the engine makes of the loaded functions 3, 4, 5, 6, 7, 8, 9, 10: conditions under which a call returns as told, and proofs of that.
  Conditions: none. Printed by a program of this project.
-/
import Derived.Test.YtofblkmibghmbaaDoorZVU
set_option linter.unusedVariables false
set_option maxRecDepth 100000
namespace Go.Proofs.YtofblkmibghmbaaDoor
def V6.vc (B : Nat) (R : Value → World → Prop) (a : Int) (w : World) : Prop :=
  CallK Tryd.prog 35 [.int .u64 a] B w [] fun v c => 
  ∃ d : Int, v = .int .u64 d ∧
  CallK Tryd.prog 20 [.int .u64 a] B c [] fun f g => 
  ∃ i : Bool, f = .bool i ∧
  if i = true
  then (CallK Tryd.prog 20 [.int .u64 d] B g [] fun j l => 
   ∃ m : Bool, j = .bool m ∧
   if m = true
   then (CallK Tryd.prog 21 [] B l [] fun n o => 
    ∃ p : Bool, n = .bool p ∧
    Ret B o (R (.bool p)))
   else (Ret B l (R (.bool false))))
  else (CallK Tryd.prog 36 [.int .u64 a, .int .u64 d] B g [] fun j l => 
   ∃ q : Bool, j = .bool q ∧
   if (!q) = true
   then (if (d == a) = false
    then (CallK Tryd.prog 32 [.int .i64 1] B l [] fun n o => 
     ∃ r : Int, n = .int .u64 r ∧
     CallK Tryd.prog 26 [.int .u64 d, .int .u64 r] B o [] fun s t => 
     ∃ u : Int, s = .int .u64 u ∧
     CallK Tryd.prog 36 [.int .u64 a, .int .u64 u] B t [] fun x y => 
     ∃ z : Bool, x = .bool z ∧
     if z = true
     then (CallK Tryd.prog 35 [.int .u64 d] B y [] fun A C => 
      ∃ D : Int, A = .int .u64 D ∧
      if (D == d) = true
      then (CallK Tryd.prog 21 [] B C [] fun E F => 
       ∃ G : Bool, E = .bool G ∧
       Ret B F (R (.bool G)))
      else (Ret B C (R (.bool false))))
     else (Ret B y (R (.bool false))))
    else (CallK Tryd.prog 35 [.int .u64 d] B l [] fun n o => 
     ∃ D : Int, n = .int .u64 D ∧
     if (D == d) = true
     then (CallK Tryd.prog 21 [] B o [] fun s t => 
      ∃ G : Bool, s = .bool G ∧
      Ret B t (R (.bool G)))
     else (Ret B o (R (.bool false)))))
   else (Ret B l (R (.bool false))))
noncomputable def V6.cfg (B : Nat) : Cfg := ⟨Tryd.prog, ⟨38, B⟩, [], hasN [20, 21, 26, 32, 35, 36], hasN [], look []⟩
noncomputable def V6.code : Code := (Tryd.f6.body).getD .skip
noncomputable def V6.cuts (B : Nat) (R : Value → World → Prop) : Nat → Cut := nthC []
noncomputable def V6.h : H := .s (.z) (.s (.z) (.s (.s (.z) (.c (.s (.z) (.z)) (.z))) (.s (.z) (.z))))
theorem V6.vc_eq (B : Nat) (R : Value → World → Prop) (a : Int) (w : World) : wpf (V6.cfg B) (V6.cuts B R) V6.code V6.h [] (postOf Tryd.prog B (Tryd.f6.results.toList) R) (argE 0 [.int .u64 a]) [] w = V6.vc B R a w := by kernel_rfl
theorem V6.obl (B : Nat) (R : Value → World → Prop) : oblP (V6.cfg B) (V6.cuts B R) V6.code V6.h [] (postOf Tryd.prog B (Tryd.f6.results.toList) R) := by
  have e : oblP (V6.cfg B) (V6.cuts B R) V6.code V6.h [] (postOf Tryd.prog B (Tryd.f6.results.toList) R) = (True ∧ (True ∧ ((True ∧ ((True ∧ True) ∧ True)) ∧ (True ∧ True)))) := by kernel_rfl
  rw [e]
  exact ⟨trivial, ⟨trivial, ⟨⟨trivial, ⟨⟨trivial, trivial⟩, trivial⟩⟩, ⟨trivial, trivial⟩⟩⟩⟩
theorem V6.cfgOk (B : Nat) : CfgOk (V6.cfg B) := cfgOk_of (by kernel_rfl) (by kernel_rfl) extNil
theorem V6.sound {a : Int} {w : World} {R : Value → World → Prop} (h : V6.vc w.heap.size R a w) : Calls Tryd.prog 6 ⟨[.int .u64 a]⟩ w fun e w' => ∃ v, e = .returned v ∧ R v w' :=
  calls_wpfP (c := V6.cfg w.heap.size) (fn := Tryd.f6) (x := V6.code) (V6.cuts w.heap.size R) V6.h (V6.cfgOk _) mixed Tryd.func6 (by kernel_rfl) (by kernel_rfl) (by kernel_rfl) rfl (V6.obl _ _) ((V6.vc_eq _ _ a _).symm ▸ h)
end Go.Proofs.YtofblkmibghmbaaDoor
