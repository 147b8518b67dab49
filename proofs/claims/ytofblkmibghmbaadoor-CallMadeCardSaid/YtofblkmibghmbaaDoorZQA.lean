import Derived.Test.YtofblkmibghmbaaDoorZEngC
import Derived.Test.YtofblkmibghmbaaDoorProg
/-
  What the engine makes of the loaded functions 131, 157, 132, 158, 162, 155, 99: conditions under which a call returns as told, and proofs of that.
  Conditions: none. Printed by a program of this project.
-/
set_option linter.unusedVariables false
set_option maxRecDepth 100000
namespace Go.Proofs.YtofblkmibghmbaaDoor
theorem mixed : Tryd.prog.follows .mixedOrders = true := by kernel_rfl
def V131.b1 (B : Nat) (R : Value → World → Prop) (a : Int) (c : Bool) (w : World) : Prop :=
  if c = true
  then (Ret B w (R (.int .i64 2)))
  else (if (a == 4) = true
   then (if (a == 4) = true
    then (Ret B w (R (.int .i64 1)))
    else (Ret B w (R (.int .i64 0))))
   else (if (a == 9) = true
    then (if (a == 9) = true
     then (Ret B w (R (.int .i64 1)))
     else (Ret B w (R (.int .i64 0))))
    else (if (a == 10) = true
     then (if (a == 10) = true
      then (Ret B w (R (.int .i64 1)))
      else (Ret B w (R (.int .i64 0))))
     else (if (a == 16) = true
      then (if (a == 16) = true
       then (Ret B w (R (.int .i64 1)))
       else (Ret B w (R (.int .i64 0))))
      else (if (a == 18) = true
       then (if (a == 18) = true
        then (Ret B w (R (.int .i64 1)))
        else (Ret B w (R (.int .i64 0))))
       else (if (a == 20) = true
        then (if (a == 20) = true
         then (Ret B w (R (.int .i64 1)))
         else (Ret B w (R (.int .i64 0))))
        else (if (a == 22) = true
         then (if (a == 22) = true
          then (Ret B w (R (.int .i64 1)))
          else (Ret B w (R (.int .i64 0))))
         else (if (a == 27) = true
          then (Ret B w (R (.int .i64 1)))
          else (Ret B w (R (.int .i64 0)))))))))))
def V131.b0 (B : Nat) (R : Value → World → Prop) (a : Int) (c : Bool) (d : Nat) (f g i : Int) (j : Nat) (l : Option Addr) (m n : Nat) (w : World) : Prop :=
  if c = true
  then (CallK Tryd.prog 162 [.agg ⟨[.slice l m n]⟩, .int .i64 g] B w [d, j] fun v o => 
   ∃ p : Int, v = .int .i64 p ∧
   Ret B o (R (.int .i64 p)))
  else (if (a == 5) = true
   then (V131.b1 B R a (a == 5) w)
   else (if (a == 6) = true
    then (V131.b1 B R a (a == 6) w)
    else (if (a == 7) = true
     then (V131.b1 B R a (a == 7) w)
     else (if (a == 8) = true
      then (V131.b1 B R a (a == 8) w)
      else (if (a == 11) = true
       then (V131.b1 B R a (a == 11) w)
       else (if (a == 12) = true
        then (V131.b1 B R a (a == 12) w)
        else (if (a == 13) = true
         then (V131.b1 B R a (a == 13) w)
         else (V131.b1 B R a (a == 14) w))))))))
def V131.vc (B : Nat) (R : Value → World → Prop) (a : Option Addr) (c d : Nat) (f g i : Int) (w : World) : Prop :=
  ∀ j : Nat, w.heap.size ≤ j →
  ∀ l : Nat, w.heap.size ≤ l →
  if (f == 17) = true
  then (V131.b0 B R f (f == 17) l f g i j a c d w)
  else (V131.b0 B R f (f == 19) l f g i j a c d w)
noncomputable def V131.cfg (B : Nat) : Cfg := ⟨Tryd.prog, ⟨32, B⟩, [], hasN [162], hasN [], look []⟩
noncomputable def V131.code : Code := (Tryd.f131.body).getD .skip
noncomputable def V131.cuts (B : Nat) (R : Value → World → Prop) : Nat → Cut := nthC [⟨[(6, .one (.int .i64)), (7, .one (.bool))], [(3, 101, [.int .i64, .int .i64, .int .i64]), (2, 52, [.slice])], fun fs vs bs w => V131.b0 B R (iV (nthV vs 0)) (bV (nthV vs 1)) (nthB bs 0).blk (iV (nthV (nthB bs 0).cells 0)) (iV (nthV (nthB bs 0).cells 1)) (iV (nthV (nthB bs 0).cells 2)) (nthB bs 1).blk (slA (nthV (nthB bs 1).cells 0)) (slL (nthV (nthB bs 1).cells 0)) (slC (nthV (nthB bs 1).cells 0)) w⟩,
  ⟨[(6, .one (.int .i64)), (14, .one (.bool))], [], fun fs vs bs w => V131.b1 B R (iV (nthV vs 0)) (bV (nthV vs 1)) w⟩]
noncomputable def V131.h : H := .s (.z) (.s (.s (.z) (.b (.cut 0 (.s (.z) (.c (.z) (.z))) (.c (.s (.z) (.z)) (.cut 1 (.s (.z) (.c (.z) (.s (.z) (.c (.z) (.s (.z) (.c (.z) (.s (.z) (.c (.z) (.s (.z) (.c (.z) (.s (.z) (.c (.z) (.s (.z) (.c (.z) (.z))))))))))))))) (.c (.s (.z) (.z)) (.s (.s (.z) (.c (.z) (.s (.z) (.c (.z) (.s (.z) (.c (.z) (.s (.z) (.c (.z) (.s (.z) (.c (.z) (.s (.z) (.c (.z) (.s (.z) (.c (.z) (.z))))))))))))))) (.c (.s (.z) (.z)) (.z))))))))) (.s (.z) (.z)))
theorem V131.vc_eq (B : Nat) (R : Value → World → Prop) (a : Option Addr) (c d : Nat) (f g i : Int) (w : World) : wpf (V131.cfg B) (V131.cuts B R) V131.code V131.h [] (postOf Tryd.prog B (Tryd.f131.results.toList) R) (argE 0 [.agg ⟨[.slice a c d]⟩, .agg ⟨[.int .i64 f, .int .i64 g, .int .i64 i]⟩]) [] w = V131.vc B R a c d f g i w := by kernel_rfl
theorem V131.obl (B : Nat) (R : Value → World → Prop) : oblP (V131.cfg B) (V131.cuts B R) V131.code V131.h [] (postOf Tryd.prog B (Tryd.f131.results.toList) R) := by
  have e : oblP (V131.cfg B) (V131.cuts B R) V131.code V131.h [] (postOf Tryd.prog B (Tryd.f131.results.toList) R) = (True ∧ ((True ∧ ((True ∧ (True ∧ True)) ∧ (∀ (a : Int) (c : Bool) (d : Nat) (f g i : Int) (j : Nat) (l : Option Addr) (m n : Nat) (w : World), V131.b0 B R a c d f g i j l m n w → V131.b0 B R a c d f g i j l m n w) ∧ ((True ∧ True) ∧ ((True ∧ (True ∧ (True ∧ (True ∧ (True ∧ (True ∧ (True ∧ (True ∧ (True ∧ (True ∧ (True ∧ (True ∧ (True ∧ (True ∧ True)))))))))))))) ∧ (∀ (a : Int) (o : Bool) (w : World), V131.b1 B R a o w → V131.b1 B R a o w) ∧ ((True ∧ True) ∧ ((True ∧ (True ∧ (True ∧ (True ∧ (True ∧ (True ∧ (True ∧ (True ∧ (True ∧ (True ∧ (True ∧ (True ∧ (True ∧ (True ∧ True)))))))))))))) ∧ ((True ∧ True) ∧ True))))))) ∧ (True ∧ True))) := by kernel_rfl
  rw [e]
  exact ⟨trivial, ⟨⟨trivial, ⟨⟨trivial, ⟨trivial, trivial⟩⟩, fun a c d f g i j l m n w h => h, ⟨⟨trivial, trivial⟩, ⟨⟨trivial, ⟨trivial, ⟨trivial, ⟨trivial, ⟨trivial, ⟨trivial, ⟨trivial, ⟨trivial, ⟨trivial, ⟨trivial, ⟨trivial, ⟨trivial, ⟨trivial, ⟨trivial, trivial⟩⟩⟩⟩⟩⟩⟩⟩⟩⟩⟩⟩⟩⟩, fun a o w h => h, ⟨⟨trivial, trivial⟩, ⟨⟨trivial, ⟨trivial, ⟨trivial, ⟨trivial, ⟨trivial, ⟨trivial, ⟨trivial, ⟨trivial, ⟨trivial, ⟨trivial, ⟨trivial, ⟨trivial, ⟨trivial, ⟨trivial, trivial⟩⟩⟩⟩⟩⟩⟩⟩⟩⟩⟩⟩⟩⟩, ⟨⟨trivial, trivial⟩, trivial⟩⟩⟩⟩⟩⟩⟩, ⟨trivial, trivial⟩⟩⟩
theorem V131.cfgOk (B : Nat) : CfgOk (V131.cfg B) := cfgOk_of (by kernel_rfl) (by kernel_rfl) extNil
theorem V131.sound {a : Option Addr} {d f : Nat} {g i j : Int} {w : World} {R : Value → World → Prop} (h : V131.vc w.heap.size R a d f g i j w) : Calls Tryd.prog 131 ⟨[.agg ⟨[.slice a d f]⟩, .agg ⟨[.int .i64 g, .int .i64 i, .int .i64 j]⟩]⟩ w fun e w' => ∃ v, e = .returned v ∧ R v w' :=
  calls_wpfP (c := V131.cfg w.heap.size) (fn := Tryd.f131) (x := V131.code) (V131.cuts w.heap.size R) V131.h (V131.cfgOk _) mixed Tryd.func131 (by kernel_rfl) (by kernel_rfl) (by kernel_rfl) rfl (V131.obl _ _) ((V131.vc_eq _ _ a d f g i j _).symm ▸ h)
def V157.vc (B : Nat) (R : Value → World → Prop) (a : Option Addr) (c d : Nat) (f g i : Int) (w : World) : Prop :=
  ∀ j : Nat, w.heap.size ≤ j →
  ∀ l : Nat, w.heap.size ≤ l →
  CallK Tryd.prog 155 [.int .i64 f] B w [l, j] fun v m => 
  ∃ (n o p : Int) (q : Bool), v = .tuple ⟨[.int .i64 n, .int .i64 o, .int .i64 p, .bool q]⟩ ∧
  if (decide (o < 0)) = true
  then (if (decide (g < 0)) = false
   then (if (decide (g ≥ (c : Int))) = true
    then (Ret B m (R (.int .i64 0)))
    else (∃ r : Addr, a = some r ∧ (0 : Int) ≤ g ∧ g < (c : Int) ∧
    ∃ s : Int, m.cell? ((r.add (g.toNat * 4)).add 0) = some (.int .i64 s) ∧
    Ret B m (R (.int .i64 (if 0 > s then 0 else s)))))
   else (Ret B m (R (.int .i64 0))))
  else (Ret B m (R (.int .i64 o)))
noncomputable def V157.cfg (B : Nat) : Cfg := ⟨Tryd.prog, ⟨39, B⟩, [], hasN [155], hasN [], look []⟩
noncomputable def V157.code : Code := (Tryd.f157.body).getD .skip
noncomputable def V157.cuts (B : Nat) (R : Value → World → Prop) : Nat → Cut := nthC []
noncomputable def V157.h : H := .s (.z) (.s (.z) (.s (.s (.z) (.c (.s (.s (.z) (.c (.s (.z) (.z)) (.z))) (.s (.z) (.z))) (.z))) (.s (.z) (.z))))
theorem V157.vc_eq (B : Nat) (R : Value → World → Prop) (a : Option Addr) (c d : Nat) (f g i : Int) (w : World) : wpf (V157.cfg B) (V157.cuts B R) V157.code V157.h [] (postOf Tryd.prog B (Tryd.f157.results.toList) R) (argE 0 [.agg ⟨[.slice a c d]⟩, .agg ⟨[.int .i64 f, .int .i64 g, .int .i64 i]⟩]) [] w = V157.vc B R a c d f g i w := by kernel_rfl
theorem V157.obl (B : Nat) (R : Value → World → Prop) : oblP (V157.cfg B) (V157.cuts B R) V157.code V157.h [] (postOf Tryd.prog B (Tryd.f157.results.toList) R) := by
  have e : oblP (V157.cfg B) (V157.cuts B R) V157.code V157.h [] (postOf Tryd.prog B (Tryd.f157.results.toList) R) = (True ∧ (True ∧ ((True ∧ (((True ∧ ((True ∧ True) ∧ True)) ∧ (True ∧ True)) ∧ True)) ∧ (True ∧ True)))) := by kernel_rfl
  rw [e]
  exact ⟨trivial, ⟨trivial, ⟨⟨trivial, ⟨⟨⟨trivial, ⟨⟨trivial, trivial⟩, trivial⟩⟩, ⟨trivial, trivial⟩⟩, trivial⟩⟩, ⟨trivial, trivial⟩⟩⟩⟩
theorem V157.cfgOk (B : Nat) : CfgOk (V157.cfg B) := cfgOk_of (by kernel_rfl) (by kernel_rfl) extNil
theorem V157.sound {a : Option Addr} {d f : Nat} {g i j : Int} {w : World} {R : Value → World → Prop} (h : V157.vc w.heap.size R a d f g i j w) : Calls Tryd.prog 157 ⟨[.agg ⟨[.slice a d f]⟩, .agg ⟨[.int .i64 g, .int .i64 i, .int .i64 j]⟩]⟩ w fun e w' => ∃ v, e = .returned v ∧ R v w' :=
  calls_wpfP (c := V157.cfg w.heap.size) (fn := Tryd.f157) (x := V157.code) (V157.cuts w.heap.size R) V157.h (V157.cfgOk _) mixed Tryd.func157 (by kernel_rfl) (by kernel_rfl) (by kernel_rfl) rfl (V157.obl _ _) ((V157.vc_eq _ _ a d f g i j _).symm ▸ h)
def V132.vc (B : Nat) (R : Value → World → Prop) (a c d : Int) (w : World) : Prop :=
  ∀ f : Nat, w.heap.size ≤ f →
  if (a == 21) = true
  then (Ret B w (R (.int .i64 2)))
  else (if (a == 1) = true
   then (if (a == 1) = true
    then (Ret B w (R (.int .i64 1)))
    else (Ret B w (R (.int .i64 0))))
   else (if (a == 2) = true
    then (if (a == 2) = true
     then (Ret B w (R (.int .i64 1)))
     else (Ret B w (R (.int .i64 0))))
    else (if (a == 3) = true
     then (if (a == 3) = true
      then (Ret B w (R (.int .i64 1)))
      else (Ret B w (R (.int .i64 0))))
     else (if (a == 17) = true
      then (if (a == 17) = true
       then (Ret B w (R (.int .i64 1)))
       else (Ret B w (R (.int .i64 0))))
      else (if (a == 5) = true
       then (if (a == 5) = true
        then (Ret B w (R (.int .i64 1)))
        else (Ret B w (R (.int .i64 0))))
       else (if (a == 6) = true
        then (if (a == 6) = true
         then (Ret B w (R (.int .i64 1)))
         else (Ret B w (R (.int .i64 0))))
        else (if (a == 7) = true
         then (if (a == 7) = true
          then (Ret B w (R (.int .i64 1)))
          else (Ret B w (R (.int .i64 0))))
         else (if (a == 8) = true
          then (if (a == 8) = true
           then (Ret B w (R (.int .i64 1)))
           else (Ret B w (R (.int .i64 0))))
          else (if (a == 11) = true
           then (if (a == 11) = true
            then (Ret B w (R (.int .i64 1)))
            else (Ret B w (R (.int .i64 0))))
           else (if (a == 12) = true
            then (if (a == 12) = true
             then (Ret B w (R (.int .i64 1)))
             else (Ret B w (R (.int .i64 0))))
            else (if (a == 13) = true
             then (if (a == 13) = true
              then (Ret B w (R (.int .i64 1)))
              else (Ret B w (R (.int .i64 0))))
             else (if (a == 14) = true
              then (if (a == 14) = true
               then (Ret B w (R (.int .i64 1)))
               else (Ret B w (R (.int .i64 0))))
              else (if (a == 9) = true
               then (if (a == 9) = true
                then (Ret B w (R (.int .i64 1)))
                else (Ret B w (R (.int .i64 0))))
               else (if (a == 10) = true
                then (Ret B w (R (.int .i64 1)))
                else (Ret B w (R (.int .i64 0)))))))))))))))))
noncomputable def V132.cfg (B : Nat) : Cfg := ⟨Tryd.prog, ⟨22, B⟩, [], hasN [], hasN [], look []⟩
noncomputable def V132.code : Code := (Tryd.f132.body).getD .skip
noncomputable def V132.cuts (B : Nat) (R : Value → World → Prop) : Nat → Cut := nthC []
noncomputable def V132.h : H := .s (.z) (.s (.s (.z) (.b (.s (.z) (.c (.s (.z) (.z)) (.s (.s (.z) (.c (.z) (.s (.z) (.c (.z) (.s (.z) (.c (.z) (.s (.z) (.c (.z) (.s (.z) (.c (.z) (.s (.z) (.c (.z) (.s (.z) (.c (.z) (.s (.z) (.c (.z) (.s (.z) (.c (.z) (.s (.z) (.c (.z) (.s (.z) (.c (.z) (.s (.z) (.c (.z) (.s (.z) (.c (.z) (.z))))))))))))))))))))))))))) (.c (.s (.z) (.z)) (.z))))))) (.s (.z) (.z)))
theorem V132.vc_eq (B : Nat) (R : Value → World → Prop) (a c d : Int) (w : World) : wpf (V132.cfg B) (V132.cuts B R) V132.code V132.h [] (postOf Tryd.prog B (Tryd.f132.results.toList) R) (argE 0 [.agg ⟨[.int .i64 a, .int .i64 c, .int .i64 d]⟩]) [] w = V132.vc B R a c d w := by kernel_rfl
theorem V132.obl (B : Nat) (R : Value → World → Prop) : oblP (V132.cfg B) (V132.cuts B R) V132.code V132.h [] (postOf Tryd.prog B (Tryd.f132.results.toList) R) := by
  have e : oblP (V132.cfg B) (V132.cuts B R) V132.code V132.h [] (postOf Tryd.prog B (Tryd.f132.results.toList) R) = (True ∧ ((True ∧ (True ∧ ((True ∧ True) ∧ ((True ∧ (True ∧ (True ∧ (True ∧ (True ∧ (True ∧ (True ∧ (True ∧ (True ∧ (True ∧ (True ∧ (True ∧ (True ∧ (True ∧ (True ∧ (True ∧ (True ∧ (True ∧ (True ∧ (True ∧ (True ∧ (True ∧ (True ∧ (True ∧ (True ∧ (True ∧ True)))))))))))))))))))))))))) ∧ ((True ∧ True) ∧ True))))) ∧ (True ∧ True))) := by kernel_rfl
  rw [e]
  exact ⟨trivial, ⟨⟨trivial, ⟨trivial, ⟨⟨trivial, trivial⟩, ⟨⟨trivial, ⟨trivial, ⟨trivial, ⟨trivial, ⟨trivial, ⟨trivial, ⟨trivial, ⟨trivial, ⟨trivial, ⟨trivial, ⟨trivial, ⟨trivial, ⟨trivial, ⟨trivial, ⟨trivial, ⟨trivial, ⟨trivial, ⟨trivial, ⟨trivial, ⟨trivial, ⟨trivial, ⟨trivial, ⟨trivial, ⟨trivial, ⟨trivial, ⟨trivial, trivial⟩⟩⟩⟩⟩⟩⟩⟩⟩⟩⟩⟩⟩⟩⟩⟩⟩⟩⟩⟩⟩⟩⟩⟩⟩⟩, ⟨⟨trivial, trivial⟩, trivial⟩⟩⟩⟩⟩, ⟨trivial, trivial⟩⟩⟩
theorem V132.cfgOk (B : Nat) : CfgOk (V132.cfg B) := cfgOk_of (by kernel_rfl) (by kernel_rfl) extNil
theorem V132.sound {a d f : Int} {w : World} {R : Value → World → Prop} (h : V132.vc w.heap.size R a d f w) : Calls Tryd.prog 132 ⟨[.agg ⟨[.int .i64 a, .int .i64 d, .int .i64 f]⟩]⟩ w fun e w' => ∃ v, e = .returned v ∧ R v w' :=
  calls_wpfP (c := V132.cfg w.heap.size) (fn := Tryd.f132) (x := V132.code) (V132.cuts w.heap.size R) V132.h (V132.cfgOk _) mixed Tryd.func132 (by kernel_rfl) (by kernel_rfl) (by kernel_rfl) rfl (V132.obl _ _) ((V132.vc_eq _ _ a d f _).symm ▸ h)
def V158.vc (B : Nat) (R : Value → World → Prop) (a c d : Int) (w : World) : Prop :=
  ∀ f : Nat, w.heap.size ≤ f →
  CallK Tryd.prog 155 [.int .i64 a] B w [f] fun v g => 
  ∃ (i j l : Int) (m : Bool), v = .tuple ⟨[.int .i64 i, .int .i64 j, .int .i64 l, .bool m]⟩ ∧
  Ret B g (R (.int .i64 l))
noncomputable def V158.cfg (B : Nat) : Cfg := ⟨Tryd.prog, ⟨16, B⟩, [], hasN [155], hasN [], look []⟩
noncomputable def V158.code : Code := (Tryd.f158.body).getD .skip
noncomputable def V158.cuts (B : Nat) (R : Value → World → Prop) : Nat → Cut := nthC []
noncomputable def V158.h : H := .s (.z) (.s (.z) (.s (.z) (.z)))
theorem V158.vc_eq (B : Nat) (R : Value → World → Prop) (a c d : Int) (w : World) : wpf (V158.cfg B) (V158.cuts B R) V158.code V158.h [] (postOf Tryd.prog B (Tryd.f158.results.toList) R) (argE 0 [.agg ⟨[.int .i64 a, .int .i64 c, .int .i64 d]⟩]) [] w = V158.vc B R a c d w := by kernel_rfl
theorem V158.obl (B : Nat) (R : Value → World → Prop) : oblP (V158.cfg B) (V158.cuts B R) V158.code V158.h [] (postOf Tryd.prog B (Tryd.f158.results.toList) R) := by
  have e : oblP (V158.cfg B) (V158.cuts B R) V158.code V158.h [] (postOf Tryd.prog B (Tryd.f158.results.toList) R) = (True ∧ (True ∧ (True ∧ True))) := by kernel_rfl
  rw [e]
  exact ⟨trivial, ⟨trivial, ⟨trivial, trivial⟩⟩⟩
theorem V158.cfgOk (B : Nat) : CfgOk (V158.cfg B) := cfgOk_of (by kernel_rfl) (by kernel_rfl) extNil
theorem V158.sound {a d f : Int} {w : World} {R : Value → World → Prop} (h : V158.vc w.heap.size R a d f w) : Calls Tryd.prog 158 ⟨[.agg ⟨[.int .i64 a, .int .i64 d, .int .i64 f]⟩]⟩ w fun e w' => ∃ v, e = .returned v ∧ R v w' :=
  calls_wpfP (c := V158.cfg w.heap.size) (fn := Tryd.f158) (x := V158.code) (V158.cuts w.heap.size R) V158.h (V158.cfgOk _) mixed Tryd.func158 (by kernel_rfl) (by kernel_rfl) (by kernel_rfl) rfl (V158.obl _ _) ((V158.vc_eq _ _ a d f _).symm ▸ h)
def V162.vc (B : Nat) (R : Value → World → Prop) (a : Option Addr) (c d : Nat) (f : Int) (w : World) : Prop :=
  ∀ g : Nat, w.heap.size ≤ g →
  if (decide (f < 0)) = false
  then (if (decide (f ≥ (c : Int))) = true
   then (Ret B w (R (.int .i64 0)))
   else (∃ i : Addr, a = some i ∧ (0 : Int) ≤ f ∧ f < (c : Int) ∧
   ∃ j : Int, w.cell? ((i.add (f.toNat * 4)).add 0) = some (.int .i64 j) ∧
   Ret B w (R (.int .i64 (if 0 > j then 0 else j)))))
  else (Ret B w (R (.int .i64 0)))
noncomputable def V162.cfg (B : Nat) : Cfg := ⟨Tryd.prog, ⟨21, B⟩, [], hasN [], hasN [], look []⟩
noncomputable def V162.code : Code := (Tryd.f162.body).getD .skip
noncomputable def V162.cuts (B : Nat) (R : Value → World → Prop) : Nat → Cut := nthC []
noncomputable def V162.h : H := .s (.z) (.s (.s (.z) (.c (.s (.z) (.z)) (.z))) (.s (.z) (.z)))
theorem V162.vc_eq (B : Nat) (R : Value → World → Prop) (a : Option Addr) (c d : Nat) (f : Int) (w : World) : wpf (V162.cfg B) (V162.cuts B R) V162.code V162.h [] (postOf Tryd.prog B (Tryd.f162.results.toList) R) (argE 0 [.agg ⟨[.slice a c d]⟩, .int .i64 f]) [] w = V162.vc B R a c d f w := by kernel_rfl
theorem V162.obl (B : Nat) (R : Value → World → Prop) : oblP (V162.cfg B) (V162.cuts B R) V162.code V162.h [] (postOf Tryd.prog B (Tryd.f162.results.toList) R) := by
  have e : oblP (V162.cfg B) (V162.cuts B R) V162.code V162.h [] (postOf Tryd.prog B (Tryd.f162.results.toList) R) = (True ∧ ((True ∧ ((True ∧ True) ∧ True)) ∧ (True ∧ True))) := by kernel_rfl
  rw [e]
  exact ⟨trivial, ⟨⟨trivial, ⟨⟨trivial, trivial⟩, trivial⟩⟩, ⟨trivial, trivial⟩⟩⟩
theorem V162.cfgOk (B : Nat) : CfgOk (V162.cfg B) := cfgOk_of (by kernel_rfl) (by kernel_rfl) extNil
theorem V162.sound {a : Option Addr} {d f : Nat} {g : Int} {w : World} {R : Value → World → Prop} (h : V162.vc w.heap.size R a d f g w) : Calls Tryd.prog 162 ⟨[.agg ⟨[.slice a d f]⟩, .int .i64 g]⟩ w fun e w' => ∃ v, e = .returned v ∧ R v w' :=
  calls_wpfP (c := V162.cfg w.heap.size) (fn := Tryd.f162) (x := V162.code) (V162.cuts w.heap.size R) V162.h (V162.cfgOk _) mixed Tryd.func162 (by kernel_rfl) (by kernel_rfl) (by kernel_rfl) rfl (V162.obl _ _) ((V162.vc_eq _ _ a d f g _).symm ▸ h)
def V155.b3 (B : Nat) (R : Value → World → Prop) (a : Int) (c : Bool) (w : World) : Prop :=
  if c = true
  then (Ret B w (R (.tuple ⟨[.int .i64 6, .int .i64 0, .int .i64 0, .bool true]⟩)))
  else (if (a == 24) = true
   then (Ret B w (R (.tuple ⟨[.int .i64 7, .int .i64 0, .int .i64 0, .bool true]⟩)))
   else (if (a == 26) = true
    then (Ret B w (R (.tuple ⟨[.int .i64 0, .int .i64 0, .int .i64 0, .bool true]⟩)))
    else (Ret B w (R (.tuple ⟨[.int .i64 0, .int .i64 0, .int .i64 0, .bool false]⟩)))))
def V155.b2 (B : Nat) (R : Value → World → Prop) (a : Int) (c : Bool) (w : World) : Prop :=
  if c = true
  then (Ret B w (R (.tuple ⟨[.int .i64 0, .int .i64 1, .int .i64 0, .bool true]⟩)))
  else (if (a == 19) = true
   then (Ret B w (R (.tuple ⟨[.int .i64 5, .int .i64 (-1), .int .i64 0, .bool true]⟩)))
   else (if (a == 21) = true
    then (Ret B w (R (.tuple ⟨[.int .i64 0, .int .i64 0, .int .i64 2, .bool true]⟩)))
    else (if (a == 23) = true
     then (V155.b3 B R a (a == 23) w)
     else (V155.b3 B R a (a == 25) w))))
def V155.b1 (B : Nat) (R : Value → World → Prop) (a : Int) (c : Bool) (w : World) : Prop :=
  if c = true
  then (Ret B w (R (.tuple ⟨[.int .i64 0, .int .i64 1, .int .i64 1, .bool true]⟩)))
  else (if (a == 15) = true
   then (Ret B w (R (.tuple ⟨[.int .i64 4, .int .i64 0, .int .i64 0, .bool true]⟩)))
   else (if (a == 16) = true
    then (Ret B w (R (.tuple ⟨[.int .i64 4, .int .i64 1, .int .i64 0, .bool true]⟩)))
    else (if (a == 17) = true
     then (Ret B w (R (.tuple ⟨[.int .i64 5, .int .i64 (-1), .int .i64 1, .bool true]⟩)))
     else (if (a == 18) = true
      then (V155.b2 B R a (a == 18) w)
      else (if (a == 20) = true
       then (V155.b2 B R a (a == 20) w)
       else (if (a == 22) = true
        then (V155.b2 B R a (a == 22) w)
        else (V155.b2 B R a (a == 27) w)))))))
def V155.b0 (B : Nat) (R : Value → World → Prop) (a : Int) (c : Bool) (w : World) : Prop :=
  if c = true
  then (Ret B w (R (.tuple ⟨[.int .i64 0, .int .i64 2, .int .i64 1, .bool true]⟩)))
  else (if (a == 9) = true
   then (V155.b1 B R a (a == 9) w)
   else (V155.b1 B R a (a == 10) w))
def V155.vc (B : Nat) (R : Value → World → Prop) (a : Int) (w : World) : Prop :=
  if (a == 1) = true
  then (Ret B w (R (.tuple ⟨[.int .i64 1, .int .i64 0, .int .i64 1, .bool true]⟩)))
  else (if (a == 2) = true
   then (Ret B w (R (.tuple ⟨[.int .i64 2, .int .i64 0, .int .i64 1, .bool true]⟩)))
   else (if (a == 3) = true
    then (Ret B w (R (.tuple ⟨[.int .i64 3, .int .i64 0, .int .i64 1, .bool true]⟩)))
    else (if (a == 4) = true
     then (Ret B w (R (.tuple ⟨[.int .i64 3, .int .i64 1, .int .i64 0, .bool true]⟩)))
     else (if (a == 5) = true
      then (V155.b0 B R a (a == 5) w)
      else (if (a == 6) = true
       then (V155.b0 B R a (a == 6) w)
       else (if (a == 7) = true
        then (V155.b0 B R a (a == 7) w)
        else (if (a == 8) = true
         then (V155.b0 B R a (a == 8) w)
         else (if (a == 11) = true
          then (V155.b0 B R a (a == 11) w)
          else (if (a == 12) = true
           then (V155.b0 B R a (a == 12) w)
           else (if (a == 13) = true
            then (V155.b0 B R a (a == 13) w)
            else (V155.b0 B R a (a == 14) w)))))))))))
noncomputable def V155.cfg (B : Nat) : Cfg := ⟨Tryd.prog, ⟨49, B⟩, [], hasN [], hasN [], look []⟩
noncomputable def V155.code : Code := (Tryd.f155.body).getD .skip
noncomputable def V155.cuts (B : Nat) (R : Value → World → Prop) : Nat → Cut := nthC [⟨[(6, .one (.int .i64)), (15, .one (.bool))], [], fun fs vs bs w => V155.b0 B R (iV (nthV vs 0)) (bV (nthV vs 1)) w⟩,
  ⟨[(6, .one (.int .i64)), (24, .one (.bool))], [], fun fs vs bs w => V155.b1 B R (iV (nthV vs 0)) (bV (nthV vs 1)) w⟩,
  ⟨[(6, .one (.int .i64)), (33, .one (.bool))], [], fun fs vs bs w => V155.b2 B R (iV (nthV vs 0)) (bV (nthV vs 1)) w⟩,
  ⟨[(6, .one (.int .i64)), (42, .one (.bool))], [], fun fs vs bs w => V155.b3 B R (iV (nthV vs 0)) (bV (nthV vs 1)) w⟩]
noncomputable def V155.h : H := .s (.z) (.s (.s (.z) (.b (.s (.z) (.c (.s (.z) (.z)) (.s (.z) (.c (.s (.z) (.z)) (.s (.z) (.c (.s (.z) (.z)) (.s (.z) (.c (.s (.z) (.z)) (.cut 0 (.s (.z) (.c (.z) (.s (.z) (.c (.z) (.s (.z) (.c (.z) (.s (.z) (.c (.z) (.s (.z) (.c (.z) (.s (.z) (.c (.z) (.s (.z) (.c (.z) (.z))))))))))))))) (.c (.s (.z) (.z)) (.cut 1 (.s (.z) (.c (.z) (.z))) (.c (.s (.z) (.z)) (.s (.z) (.c (.s (.z) (.z)) (.s (.z) (.c (.s (.z) (.z)) (.s (.z) (.c (.s (.z) (.z)) (.cut 2 (.s (.z) (.c (.z) (.s (.z) (.c (.z) (.s (.z) (.c (.z) (.z))))))) (.c (.s (.z) (.z)) (.s (.z) (.c (.s (.z) (.z)) (.s (.z) (.c (.s (.z) (.z)) (.cut 3 (.s (.z) (.c (.z) (.z))) (.c (.s (.z) (.z)) (.s (.z) (.c (.s (.z) (.z)) (.s (.z) (.c (.s (.z) (.z)) (.z))))))))))))))))))))))))))))))))) (.s (.z) (.z)))
theorem V155.vc_eq (B : Nat) (R : Value → World → Prop) (a : Int) (w : World) : wpf (V155.cfg B) (V155.cuts B R) V155.code V155.h [] (postOf Tryd.prog B (Tryd.f155.results.toList) R) (argE 0 [.int .i64 a]) [] w = V155.vc B R a w := by kernel_rfl
theorem V155.obl (B : Nat) (R : Value → World → Prop) : oblP (V155.cfg B) (V155.cuts B R) V155.code V155.h [] (postOf Tryd.prog B (Tryd.f155.results.toList) R) := by
  have e : oblP (V155.cfg B) (V155.cuts B R) V155.code V155.h [] (postOf Tryd.prog B (Tryd.f155.results.toList) R) = (True ∧ ((True ∧ (True ∧ ((True ∧ True) ∧ (True ∧ ((True ∧ True) ∧ (True ∧ ((True ∧ True) ∧ (True ∧ ((True ∧ True) ∧ ((True ∧ (True ∧ (True ∧ (True ∧ (True ∧ (True ∧ (True ∧ (True ∧ (True ∧ (True ∧ (True ∧ (True ∧ (True ∧ (True ∧ True)))))))))))))) ∧ (∀ (a : Int) (c : Bool) (w : World), V155.b0 B R a c w → V155.b0 B R a c w) ∧ ((True ∧ True) ∧ ((True ∧ (True ∧ True)) ∧ (∀ (a : Int) (d : Bool) (w : World), V155.b1 B R a d w → V155.b1 B R a d w) ∧ ((True ∧ True) ∧ (True ∧ ((True ∧ True) ∧ (True ∧ ((True ∧ True) ∧ (True ∧ ((True ∧ True) ∧ ((True ∧ (True ∧ (True ∧ (True ∧ (True ∧ (True ∧ True)))))) ∧ (∀ (a : Int) (f : Bool) (w : World), V155.b2 B R a f w → V155.b2 B R a f w) ∧ ((True ∧ True) ∧ (True ∧ ((True ∧ True) ∧ (True ∧ ((True ∧ True) ∧ ((True ∧ (True ∧ True)) ∧ (∀ (a : Int) (g : Bool) (w : World), V155.b3 B R a g w → V155.b3 B R a g w) ∧ ((True ∧ True) ∧ (True ∧ ((True ∧ True) ∧ (True ∧ ((True ∧ True) ∧ True))))))))))))))))))))))))))))))) ∧ (True ∧ True))) := by kernel_rfl
  rw [e]
  exact ⟨trivial, ⟨⟨trivial, ⟨trivial, ⟨⟨trivial, trivial⟩, ⟨trivial, ⟨⟨trivial, trivial⟩, ⟨trivial, ⟨⟨trivial, trivial⟩, ⟨trivial, ⟨⟨trivial, trivial⟩, ⟨⟨trivial, ⟨trivial, ⟨trivial, ⟨trivial, ⟨trivial, ⟨trivial, ⟨trivial, ⟨trivial, ⟨trivial, ⟨trivial, ⟨trivial, ⟨trivial, ⟨trivial, ⟨trivial, trivial⟩⟩⟩⟩⟩⟩⟩⟩⟩⟩⟩⟩⟩⟩, fun a c w h => h, ⟨⟨trivial, trivial⟩, ⟨⟨trivial, ⟨trivial, trivial⟩⟩, fun a d w h => h, ⟨⟨trivial, trivial⟩, ⟨trivial, ⟨⟨trivial, trivial⟩, ⟨trivial, ⟨⟨trivial, trivial⟩, ⟨trivial, ⟨⟨trivial, trivial⟩, ⟨⟨trivial, ⟨trivial, ⟨trivial, ⟨trivial, ⟨trivial, ⟨trivial, trivial⟩⟩⟩⟩⟩⟩, fun a f w h => h, ⟨⟨trivial, trivial⟩, ⟨trivial, ⟨⟨trivial, trivial⟩, ⟨trivial, ⟨⟨trivial, trivial⟩, ⟨⟨trivial, ⟨trivial, trivial⟩⟩, fun a g w h => h, ⟨⟨trivial, trivial⟩, ⟨trivial, ⟨⟨trivial, trivial⟩, ⟨trivial, ⟨⟨trivial, trivial⟩, trivial⟩⟩⟩⟩⟩⟩⟩⟩⟩⟩⟩⟩⟩⟩⟩⟩⟩⟩⟩⟩⟩⟩⟩⟩⟩⟩⟩⟩⟩⟩⟩, ⟨trivial, trivial⟩⟩⟩
theorem V155.cfgOk (B : Nat) : CfgOk (V155.cfg B) := cfgOk_of (by kernel_rfl) (by kernel_rfl) extNil
theorem V155.sound {a : Int} {w : World} {R : Value → World → Prop} (h : V155.vc w.heap.size R a w) : Calls Tryd.prog 155 ⟨[.int .i64 a]⟩ w fun e w' => ∃ v, e = .returned v ∧ R v w' :=
  calls_wpfP (c := V155.cfg w.heap.size) (fn := Tryd.f155) (x := V155.code) (V155.cuts w.heap.size R) V155.h (V155.cfgOk _) mixed Tryd.func155 (by kernel_rfl) (by kernel_rfl) (by kernel_rfl) rfl (V155.obl _ _) ((V155.vc_eq _ _ a _).symm ▸ h)
def V99.b1 (B : Nat) (R : Value → World → Prop) (a : Bool) (c : Nat) (d f g : Int) (i : Option Addr) (j l : Nat) (w : World) : Prop :=
  if a = true
  then (Ret B w (R (.bool false)))
  else (if (decide (g < 0)) = false
   then (if (decide (g > IntKind.wrap .i64 (f - d))) = true
    then (Ret B w (R (.bool false)))
    else (if (decide ((j : Int) ≥ 1)) = true
     then (Ret B w (R (.bool (decide ((j : Int) ≤ 64)))))
     else (Ret B w (R (.bool false)))))
   else (Ret B w (R (.bool false))))
def V99.b0 (B : Nat) (R : Value → World → Prop) (a : Bool) (c : Nat) (d f g : Int) (i : Option Addr) (j l : Nat) (w : World) : Prop :=
  if a = true
  then (Ret B w (R (.bool false)))
  else (if (decide (f < d)) = false
   then (V99.b1 B R (decide (f > 8)) c d f g i j l w)
   else (V99.b1 B R true c d f g i j l w))
def V99.vc (B : Nat) (R : Value → World → Prop) (a c d : Int) (f : Option Addr) (g i : Nat) (w : World) : Prop :=
  ∀ j : Nat, w.heap.size ≤ j →
  if (decide (a < 0)) = false
  then (V99.b0 B R (decide (a > 3)) j a c d f g i w)
  else (V99.b0 B R true j a c d f g i w)
noncomputable def V99.cfg (B : Nat) : Cfg := ⟨Tryd.prog, ⟨47, B⟩, [], hasN [], hasN [], look []⟩
noncomputable def V99.code : Code := (Tryd.f99.body).getD .skip
noncomputable def V99.cuts (B : Nat) (R : Value → World → Prop) : Nat → Cut := nthC [⟨[(3, .one (.bool))], [(1, 65, [.int .i64, .int .i64, .int .i64, .slice])], fun fs vs bs w => V99.b0 B R (bV (nthV vs 0)) (nthB bs 0).blk (iV (nthV (nthB bs 0).cells 0)) (iV (nthV (nthB bs 0).cells 1)) (iV (nthV (nthB bs 0).cells 2)) (slA (nthV (nthB bs 0).cells 3)) (slL (nthV (nthB bs 0).cells 3)) (slC (nthV (nthB bs 0).cells 3)) w⟩,
  ⟨[(12, .one (.bool))], [(1, 65, [.int .i64, .int .i64, .int .i64, .slice])], fun fs vs bs w => V99.b1 B R (bV (nthV vs 0)) (nthB bs 0).blk (iV (nthV (nthB bs 0).cells 0)) (iV (nthV (nthB bs 0).cells 1)) (iV (nthV (nthB bs 0).cells 2)) (slA (nthV (nthB bs 0).cells 3)) (slL (nthV (nthB bs 0).cells 3)) (slC (nthV (nthB bs 0).cells 3)) w⟩]
noncomputable def V99.h : H := .s (.z) (.s (.b (.cut 0 (.z) (.c (.s (.z) (.z)) (.cut 1 (.z) (.c (.s (.z) (.z)) (.s (.z) (.c (.s (.z) (.z)) (.z)))))))) (.s (.z) (.z)))
theorem V99.vc_eq (B : Nat) (R : Value → World → Prop) (a c d : Int) (f : Option Addr) (g i : Nat) (w : World) : wpf (V99.cfg B) (V99.cuts B R) V99.code V99.h [] (postOf Tryd.prog B (Tryd.f99.results.toList) R) (argE 0 [.agg ⟨[.int .i64 a, .int .i64 c, .int .i64 d, .slice f g i]⟩]) [] w = V99.vc B R a c d f g i w := by kernel_rfl
theorem V99.obl (B : Nat) (R : Value → World → Prop) : oblP (V99.cfg B) (V99.cuts B R) V99.code V99.h [] (postOf Tryd.prog B (Tryd.f99.results.toList) R) := by
  have e : oblP (V99.cfg B) (V99.cuts B R) V99.code V99.h [] (postOf Tryd.prog B (Tryd.f99.results.toList) R) = (True ∧ ((True ∧ (∀ (a : Bool) (c : Nat) (d f g : Int) (i : Option Addr) (j l : Nat) (w : World), V99.b0 B R a c d f g i j l w → V99.b0 B R a c d f g i j l w) ∧ ((True ∧ True) ∧ (True ∧ (∀ (m : Bool) (c : Nat) (d f g : Int) (i : Option Addr) (j l : Nat) (w : World), V99.b1 B R m c d f g i j l w → V99.b1 B R m c d f g i j l w) ∧ ((True ∧ True) ∧ (True ∧ ((True ∧ True) ∧ True)))))) ∧ (True ∧ True))) := by kernel_rfl
  rw [e]
  exact ⟨trivial, ⟨⟨trivial, fun a c d f g i j l w h => h, ⟨⟨trivial, trivial⟩, ⟨trivial, fun m c d f g i j l w h => h, ⟨⟨trivial, trivial⟩, ⟨trivial, ⟨⟨trivial, trivial⟩, trivial⟩⟩⟩⟩⟩⟩, ⟨trivial, trivial⟩⟩⟩
theorem V99.cfgOk (B : Nat) : CfgOk (V99.cfg B) := cfgOk_of (by kernel_rfl) (by kernel_rfl) extNil
theorem V99.sound {a d f : Int} {g : Option Addr} {i j : Nat} {w : World} {R : Value → World → Prop} (h : V99.vc w.heap.size R a d f g i j w) : Calls Tryd.prog 99 ⟨[.agg ⟨[.int .i64 a, .int .i64 d, .int .i64 f, .slice g i j]⟩]⟩ w fun e w' => ∃ v, e = .returned v ∧ R v w' :=
  calls_wpfP (c := V99.cfg w.heap.size) (fn := Tryd.f99) (x := V99.code) (V99.cuts w.heap.size R) V99.h (V99.cfgOk _) mixed Tryd.func99 (by kernel_rfl) (by kernel_rfl) (by kernel_rfl) rfl (V99.obl _ _) ((V99.vc_eq _ _ a d f g i j _).symm ▸ h)
end Go.Proofs.YtofblkmibghmbaaDoor
