/-
  What the engine makes of the loaded functions 28, 29, 30, 31, 32, 33, 82, 83, 84, 89: conditions under which a call returns as told, and proofs of that.
  Conditions: none. Printed by a program of this project.
-/
import Derived.Test.YtlccbaemcfjdoaaZEngC
import Derived.Test.YtlccbaemcfjdoaaProg
set_option linter.unusedVariables false
set_option maxRecDepth 100000
namespace Go.Proofs.Ytlccbaemcfjdoaa
theorem mixed : Try.prog.follows .mixedOrders = true := by kernel_rfl
def V29.vc (B : Nat) (R : Value → World → Prop) (a : Option Addr) (c d : Nat) (f g i : Int) (w : World) : Prop :=
  ∀ j : Nat, w.heap.size ≤ j →
  ∀ l : Nat, w.heap.size ≤ l →
  CallK Try.prog 83 [.int .i64 f] B w [l, j] fun v m => 
  ∃ (n o p : Int) (q : Bool), v = .tuple ⟨[.int .i64 n, .int .i64 o, .int .i64 p, .bool q]⟩ ∧
  if (decide (o < 0)) = true
  then (if (decide (g < 0)) = false
   then (if (decide (g ≥ (c : Int))) = true
    then (Ret B m (R (.int .i64 0)))
    else (∃ r : Addr, a = some r ∧ (0 : Int) ≤ g ∧ g < (c : Int) ∧
    ∃ s : Int, m.cell? ((r.add (g.toNat * 4)).add 0) = some (.int .i64 s) ∧
    Ret B m (R (.int .i64 (if 0 > s then 0 else s)))))
   else (Ret B m (R (.int .i64 0))))
  else (Ret B m (R (.int .i64 o)))
noncomputable def V29.cfg (B : Nat) : Cfg := ⟨Try.prog, ⟨39, B⟩, [], hasN [83], hasN []⟩
noncomputable def V29.code : Code := (Try.f29.body).getD .skip
noncomputable def V29.cuts (B : Nat) (R : Value → World → Prop) : Nat → Cut := nthC []
noncomputable def V29.h : H := .s (.z) (.s (.z) (.s (.s (.z) (.c (.s (.s (.z) (.c (.s (.z) (.z)) (.z))) (.s (.z) (.z))) (.z))) (.s (.z) (.z))))
theorem V29.vc_eq (B : Nat) (R : Value → World → Prop) (a : Option Addr) (c d : Nat) (f g i : Int) (w : World) : wpf (V29.cfg B) (V29.cuts B R) V29.code V29.h [] (postOf Try.prog B (Try.f29.results.toList) R) (argE 0 [.agg ⟨[.slice a c d]⟩, .agg ⟨[.int .i64 f, .int .i64 g, .int .i64 i]⟩]) [] w = V29.vc B R a c d f g i w := by kernel_rfl
theorem V29.obl (B : Nat) (R : Value → World → Prop) : oblP (V29.cfg B) (V29.cuts B R) V29.code V29.h [] (postOf Try.prog B (Try.f29.results.toList) R) := by
  have e : oblP (V29.cfg B) (V29.cuts B R) V29.code V29.h [] (postOf Try.prog B (Try.f29.results.toList) R) = (True ∧ (True ∧ ((True ∧ (((True ∧ ((True ∧ True) ∧ True)) ∧ (True ∧ True)) ∧ True)) ∧ (True ∧ True)))) := by kernel_rfl
  rw [e]
  exact ⟨trivial, ⟨trivial, ⟨⟨trivial, ⟨⟨⟨trivial, ⟨⟨trivial, trivial⟩, trivial⟩⟩, ⟨trivial, trivial⟩⟩, trivial⟩⟩, ⟨trivial, trivial⟩⟩⟩⟩
theorem V29.cfgOk (B : Nat) : CfgOk (V29.cfg B) := cfgOk_of (by kernel_rfl) (by kernel_rfl)
theorem V29.sound {a : Option Addr} {d f : Nat} {g i j : Int} {w : World} {R : Value → World → Prop} (h : V29.vc w.heap.size R a d f g i j w) : Calls Try.prog 29 ⟨[.agg ⟨[.slice a d f]⟩, .agg ⟨[.int .i64 g, .int .i64 i, .int .i64 j]⟩]⟩ w fun e w' => ∃ v, e = .returned v ∧ R v w' :=
  calls_wpfP (c := V29.cfg w.heap.size) (fn := Try.f29) (x := V29.code) (V29.cuts w.heap.size R) V29.h (V29.cfgOk _) mixed Try.func29 (by kernel_rfl) (by kernel_rfl) (by kernel_rfl) rfl (V29.obl _ _) ((V29.vc_eq _ _ a d f g i j _).symm ▸ h)
def V31.vc (B : Nat) (R : Value → World → Prop) (a c d : Int) (w : World) : Prop :=
  ∀ f : Nat, w.heap.size ≤ f →
  CallK Try.prog 83 [.int .i64 a] B w [f] fun v g => 
  ∃ (i j l : Int) (m : Bool), v = .tuple ⟨[.int .i64 i, .int .i64 j, .int .i64 l, .bool m]⟩ ∧
  Ret B g (R (.int .i64 l))
noncomputable def V31.cfg (B : Nat) : Cfg := ⟨Try.prog, ⟨16, B⟩, [], hasN [83], hasN []⟩
noncomputable def V31.code : Code := (Try.f31.body).getD .skip
noncomputable def V31.cuts (B : Nat) (R : Value → World → Prop) : Nat → Cut := nthC []
noncomputable def V31.h : H := .s (.z) (.s (.z) (.s (.z) (.z)))
theorem V31.vc_eq (B : Nat) (R : Value → World → Prop) (a c d : Int) (w : World) : wpf (V31.cfg B) (V31.cuts B R) V31.code V31.h [] (postOf Try.prog B (Try.f31.results.toList) R) (argE 0 [.agg ⟨[.int .i64 a, .int .i64 c, .int .i64 d]⟩]) [] w = V31.vc B R a c d w := by kernel_rfl
theorem V31.obl (B : Nat) (R : Value → World → Prop) : oblP (V31.cfg B) (V31.cuts B R) V31.code V31.h [] (postOf Try.prog B (Try.f31.results.toList) R) := by
  have e : oblP (V31.cfg B) (V31.cuts B R) V31.code V31.h [] (postOf Try.prog B (Try.f31.results.toList) R) = (True ∧ (True ∧ (True ∧ True))) := by kernel_rfl
  rw [e]
  exact ⟨trivial, ⟨trivial, ⟨trivial, trivial⟩⟩⟩
theorem V31.cfgOk (B : Nat) : CfgOk (V31.cfg B) := cfgOk_of (by kernel_rfl) (by kernel_rfl)
theorem V31.sound {a d f : Int} {w : World} {R : Value → World → Prop} (h : V31.vc w.heap.size R a d f w) : Calls Try.prog 31 ⟨[.agg ⟨[.int .i64 a, .int .i64 d, .int .i64 f]⟩]⟩ w fun e w' => ∃ v, e = .returned v ∧ R v w' :=
  calls_wpfP (c := V31.cfg w.heap.size) (fn := Try.f31) (x := V31.code) (V31.cuts w.heap.size R) V31.h (V31.cfgOk _) mixed Try.func31 (by kernel_rfl) (by kernel_rfl) (by kernel_rfl) rfl (V31.obl _ _) ((V31.vc_eq _ _ a d f _).symm ▸ h)
def V32.l0 (B : Nat) (R : Value → World → Prop) : Nat → Int → Option Addr → Nat → Nat → Int → Int → World → Prop
  | 0 => fun _ _ _ _ _ _ _ => False
  | k + 1 => fun a c d f g i w =>
    if (decide (i < g)) = true
    then (∃ j : Addr, c = some j ∧ (0 : Int) ≤ i ∧ i < (d : Int) ∧
    ∃ l : Int, w.cell? ((j.add (i.toNat * 3)).add 0) = some (.int .i64 l) ∧
    ∃ m : Int, w.cell? ((j.add (i.toNat * 3)).add 1) = some (.int .i64 m) ∧
    ∃ n : Int, w.cell? ((j.add (i.toNat * 3)).add 2) = some (.int .i64 n) ∧
    ∀ o : Nat, w.heap.size ≤ o →
    if (l == 19) = true
     then (Ret B w (R (.int .i64 (IntKind.wrap .i64 (a + 16)))))
     else ((V32.l0 B R k) a c d f g (IntKind.wrap .i64 (i + 1)) w))
    else (Ret B w (R (.int .i64 a)))
def V32.vc (B : Nat) (R : Value → World → Prop) (a c d : Int) (f : Option Addr) (g i : Nat) (w : World) : Prop :=
  ∀ j : Nat, w.heap.size ≤ j →
  ∃ l, V32.l0 B R l (IntKind.wrap .i64 (IntKind.wrap .i64 (7 + (if 8 < (if 0 > c then 0 else c) then 8 else (if 0 > c then 0 else c))) + 8)) f g i (g : Int) 0 w
noncomputable def V32.cfg (B : Nat) : Cfg := ⟨Try.prog, ⟨26, B⟩, [], hasN [], hasN []⟩
noncomputable def V32.code : Code := (Try.f32.body).getD .skip
noncomputable def V32.cuts (B : Nat) (R : Value → World → Prop) : Nat → Cut := nthC [⟨[(3, .one (.int .i64)), (13, .one (.slice)), (14, .one (.int .i64)), (15, .one (.int .i64))], [], fun fs vs bs w => V32.l0 B R (nthN fs 0) (iV (nthV vs 0)) (slA (nthV vs 1)) (slL (nthV vs 1)) (slC (nthV vs 1)) (iV (nthV vs 2)) (iV (nthV vs 3)) w⟩]
noncomputable def V32.h : H := .s (.z) (.s (.z) (.s (.s (.z) (.b (.l 0 (.s (.z) (.s (.c (.z) (.z)) (.s (.b (.s (.z) (.s (.z) (.c (.s (.z) (.z)) (.z))))) (.z))))))) (.s (.z) (.z))))
theorem V32.vc_eq (B : Nat) (R : Value → World → Prop) (a c d : Int) (f : Option Addr) (g i : Nat) (w : World) : wpf (V32.cfg B) (V32.cuts B R) V32.code V32.h [] (postOf Try.prog B (Try.f32.results.toList) R) (argE 0 [.agg ⟨[.int .i64 a, .int .i64 c, .int .i64 d, .slice f g i]⟩]) [] w = V32.vc B R a c d f g i w := by kernel_rfl
theorem V32.obl (B : Nat) (R : Value → World → Prop) : oblP (V32.cfg B) (V32.cuts B R) V32.code V32.h [] (postOf Try.prog B (Try.f32.results.toList) R) := by
  have e : oblP (V32.cfg B) (V32.cuts B R) V32.code V32.h [] (postOf Try.prog B (Try.f32.results.toList) R) = (True ∧ (True ∧ ((True ∧ ((∀ (a : Int) (c : Option Addr) (d f : Nat) (g i : Int) (w : World), ¬ V32.l0 B R 0 a c d f g i w) ∧ (∀ j, ∀ (a : Int) (c : Option Addr) (d f : Nat) (g i : Int) (w : World), V32.l0 B R (j + 1) a c d f g i w → V32.l0 B R (j + 1) a c d f g i w) ∧ ∀ j : Nat, (True ∧ ((True ∧ True) ∧ ((True ∧ (True ∧ ((True ∧ True) ∧ True))) ∧ True))))) ∧ (True ∧ True)))) := by kernel_rfl
  rw [e]
  exact ⟨trivial, ⟨trivial, ⟨⟨trivial, ⟨fun a c d f g i w h => h, fun _ a c d f g i w h => h, fun j => ⟨trivial, ⟨⟨trivial, trivial⟩, ⟨⟨trivial, ⟨trivial, ⟨⟨trivial, trivial⟩, trivial⟩⟩⟩, trivial⟩⟩⟩⟩⟩, ⟨trivial, trivial⟩⟩⟩⟩
theorem V32.cfgOk (B : Nat) : CfgOk (V32.cfg B) := cfgOk_of (by kernel_rfl) (by kernel_rfl)
theorem V32.sound {a d f : Int} {g : Option Addr} {i j : Nat} {w : World} {R : Value → World → Prop} (h : V32.vc w.heap.size R a d f g i j w) : Calls Try.prog 32 ⟨[.agg ⟨[.int .i64 a, .int .i64 d, .int .i64 f, .slice g i j]⟩]⟩ w fun e w' => ∃ v, e = .returned v ∧ R v w' :=
  calls_wpfP (c := V32.cfg w.heap.size) (fn := Try.f32) (x := V32.code) (V32.cuts w.heap.size R) V32.h (V32.cfgOk _) mixed Try.func32 (by kernel_rfl) (by kernel_rfl) (by kernel_rfl) rfl (V32.obl _ _) ((V32.vc_eq _ _ a d f g i j _).symm ▸ h)
def V33.vc (B : Nat) (R : Value → World → Prop) (a c d : Int) (f : Option Addr) (g i : Nat) (w : World) : Prop :=
  ∀ j : Nat, w.heap.size ≤ j →
  CallK Try.prog 84 [.agg ⟨[.int .i64 a, .int .i64 c, .int .i64 d, .slice f g i]⟩] B w [j] fun v l => 
  ∃ m : Bool, v = .bool m ∧
  if m = true
  then (Ret B l (R (.int .i64 (IntKind.wrap .i64 (IntKind.wrap .i64 (IntKind.wrap .i64 (7 + (if 8 < (if 0 > c then 0 else c) then 8 else (if 0 > c then 0 else c))) + 8) + 16)))))
  else (Ret B l (R (.int .i64 (IntKind.wrap .i64 (IntKind.wrap .i64 (7 + (if 8 < (if 0 > c then 0 else c) then 8 else (if 0 > c then 0 else c))) + 8)))))
noncomputable def V33.cfg (B : Nat) : Cfg := ⟨Try.prog, ⟨15, B⟩, [], hasN [84], hasN []⟩
noncomputable def V33.code : Code := (Try.f33.body).getD .skip
noncomputable def V33.cuts (B : Nat) (R : Value → World → Prop) : Nat → Cut := nthC []
noncomputable def V33.h : H := .s (.z) (.s (.z) (.s (.s (.z) (.c (.z) (.z))) (.s (.z) (.z))))
theorem V33.vc_eq (B : Nat) (R : Value → World → Prop) (a c d : Int) (f : Option Addr) (g i : Nat) (w : World) : wpf (V33.cfg B) (V33.cuts B R) V33.code V33.h [] (postOf Try.prog B (Try.f33.results.toList) R) (argE 0 [.agg ⟨[.int .i64 a, .int .i64 c, .int .i64 d, .slice f g i]⟩]) [] w = V33.vc B R a c d f g i w := by kernel_rfl
theorem V33.obl (B : Nat) (R : Value → World → Prop) : oblP (V33.cfg B) (V33.cuts B R) V33.code V33.h [] (postOf Try.prog B (Try.f33.results.toList) R) := by
  have e : oblP (V33.cfg B) (V33.cuts B R) V33.code V33.h [] (postOf Try.prog B (Try.f33.results.toList) R) = (True ∧ (True ∧ ((True ∧ (True ∧ True)) ∧ (True ∧ True)))) := by kernel_rfl
  rw [e]
  exact ⟨trivial, ⟨trivial, ⟨⟨trivial, ⟨trivial, trivial⟩⟩, ⟨trivial, trivial⟩⟩⟩⟩
theorem V33.cfgOk (B : Nat) : CfgOk (V33.cfg B) := cfgOk_of (by kernel_rfl) (by kernel_rfl)
theorem V33.sound {a d f : Int} {g : Option Addr} {i j : Nat} {w : World} {R : Value → World → Prop} (h : V33.vc w.heap.size R a d f g i j w) : Calls Try.prog 33 ⟨[.agg ⟨[.int .i64 a, .int .i64 d, .int .i64 f, .slice g i j]⟩]⟩ w fun e w' => ∃ v, e = .returned v ∧ R v w' :=
  calls_wpfP (c := V33.cfg w.heap.size) (fn := Try.f33) (x := V33.code) (V33.cuts w.heap.size R) V33.h (V33.cfgOk _) mixed Try.func33 (by kernel_rfl) (by kernel_rfl) (by kernel_rfl) rfl (V33.obl _ _) ((V33.vc_eq _ _ a d f g i j _).symm ▸ h)
def V83.b3 (B : Nat) (R : Value → World → Prop) (a : Int) (c : Bool) (w : World) : Prop :=
  if c = true
  then (Ret B w (R (.tuple ⟨[.int .i64 6, .int .i64 0, .int .i64 0, .bool true]⟩)))
  else (if (a == 24) = true
   then (Ret B w (R (.tuple ⟨[.int .i64 7, .int .i64 0, .int .i64 0, .bool true]⟩)))
   else (if (a == 26) = true
    then (Ret B w (R (.tuple ⟨[.int .i64 0, .int .i64 0, .int .i64 0, .bool true]⟩)))
    else (Ret B w (R (.tuple ⟨[.int .i64 0, .int .i64 0, .int .i64 0, .bool false]⟩)))))
def V83.b2 (B : Nat) (R : Value → World → Prop) (a : Int) (c : Bool) (w : World) : Prop :=
  if c = true
  then (Ret B w (R (.tuple ⟨[.int .i64 0, .int .i64 1, .int .i64 0, .bool true]⟩)))
  else (if (a == 19) = true
   then (Ret B w (R (.tuple ⟨[.int .i64 5, .int .i64 (-1), .int .i64 0, .bool true]⟩)))
   else (if (a == 21) = true
    then (Ret B w (R (.tuple ⟨[.int .i64 0, .int .i64 0, .int .i64 2, .bool true]⟩)))
    else (if (a == 23) = true
     then (V83.b3 B R a (a == 23) w)
     else (V83.b3 B R a (a == 25) w))))
def V83.b1 (B : Nat) (R : Value → World → Prop) (a : Int) (c : Bool) (w : World) : Prop :=
  if c = true
  then (Ret B w (R (.tuple ⟨[.int .i64 0, .int .i64 1, .int .i64 1, .bool true]⟩)))
  else (if (a == 15) = true
   then (Ret B w (R (.tuple ⟨[.int .i64 4, .int .i64 0, .int .i64 0, .bool true]⟩)))
   else (if (a == 16) = true
    then (Ret B w (R (.tuple ⟨[.int .i64 4, .int .i64 1, .int .i64 0, .bool true]⟩)))
    else (if (a == 17) = true
     then (Ret B w (R (.tuple ⟨[.int .i64 5, .int .i64 (-1), .int .i64 1, .bool true]⟩)))
     else (if (a == 18) = true
      then (V83.b2 B R a (a == 18) w)
      else (if (a == 20) = true
       then (V83.b2 B R a (a == 20) w)
       else (if (a == 22) = true
        then (V83.b2 B R a (a == 22) w)
        else (V83.b2 B R a (a == 27) w)))))))
def V83.b0 (B : Nat) (R : Value → World → Prop) (a : Int) (c : Bool) (w : World) : Prop :=
  if c = true
  then (Ret B w (R (.tuple ⟨[.int .i64 0, .int .i64 2, .int .i64 1, .bool true]⟩)))
  else (if (a == 9) = true
   then (V83.b1 B R a (a == 9) w)
   else (V83.b1 B R a (a == 10) w))
def V83.vc (B : Nat) (R : Value → World → Prop) (a : Int) (w : World) : Prop :=
  if (a == 1) = true
  then (Ret B w (R (.tuple ⟨[.int .i64 1, .int .i64 0, .int .i64 1, .bool true]⟩)))
  else (if (a == 2) = true
   then (Ret B w (R (.tuple ⟨[.int .i64 2, .int .i64 0, .int .i64 1, .bool true]⟩)))
   else (if (a == 3) = true
    then (Ret B w (R (.tuple ⟨[.int .i64 3, .int .i64 0, .int .i64 1, .bool true]⟩)))
    else (if (a == 4) = true
     then (Ret B w (R (.tuple ⟨[.int .i64 3, .int .i64 1, .int .i64 0, .bool true]⟩)))
     else (if (a == 5) = true
      then (V83.b0 B R a (a == 5) w)
      else (if (a == 6) = true
       then (V83.b0 B R a (a == 6) w)
       else (if (a == 7) = true
        then (V83.b0 B R a (a == 7) w)
        else (if (a == 8) = true
         then (V83.b0 B R a (a == 8) w)
         else (if (a == 11) = true
          then (V83.b0 B R a (a == 11) w)
          else (if (a == 12) = true
           then (V83.b0 B R a (a == 12) w)
           else (if (a == 13) = true
            then (V83.b0 B R a (a == 13) w)
            else (V83.b0 B R a (a == 14) w)))))))))))
noncomputable def V83.cfg (B : Nat) : Cfg := ⟨Try.prog, ⟨49, B⟩, [], hasN [], hasN []⟩
noncomputable def V83.code : Code := (Try.f83.body).getD .skip
noncomputable def V83.cuts (B : Nat) (R : Value → World → Prop) : Nat → Cut := nthC [⟨[(6, .one (.int .i64)), (15, .one (.bool))], [], fun fs vs bs w => V83.b0 B R (iV (nthV vs 0)) (bV (nthV vs 1)) w⟩,
  ⟨[(6, .one (.int .i64)), (24, .one (.bool))], [], fun fs vs bs w => V83.b1 B R (iV (nthV vs 0)) (bV (nthV vs 1)) w⟩,
  ⟨[(6, .one (.int .i64)), (33, .one (.bool))], [], fun fs vs bs w => V83.b2 B R (iV (nthV vs 0)) (bV (nthV vs 1)) w⟩,
  ⟨[(6, .one (.int .i64)), (42, .one (.bool))], [], fun fs vs bs w => V83.b3 B R (iV (nthV vs 0)) (bV (nthV vs 1)) w⟩]
noncomputable def V83.h : H := .s (.z) (.s (.s (.z) (.b (.s (.z) (.c (.s (.z) (.z)) (.s (.z) (.c (.s (.z) (.z)) (.s (.z) (.c (.s (.z) (.z)) (.s (.z) (.c (.s (.z) (.z)) (.cut 0 (.s (.z) (.c (.z) (.s (.z) (.c (.z) (.s (.z) (.c (.z) (.s (.z) (.c (.z) (.s (.z) (.c (.z) (.s (.z) (.c (.z) (.s (.z) (.c (.z) (.z))))))))))))))) (.c (.s (.z) (.z)) (.cut 1 (.s (.z) (.c (.z) (.z))) (.c (.s (.z) (.z)) (.s (.z) (.c (.s (.z) (.z)) (.s (.z) (.c (.s (.z) (.z)) (.s (.z) (.c (.s (.z) (.z)) (.cut 2 (.s (.z) (.c (.z) (.s (.z) (.c (.z) (.s (.z) (.c (.z) (.z))))))) (.c (.s (.z) (.z)) (.s (.z) (.c (.s (.z) (.z)) (.s (.z) (.c (.s (.z) (.z)) (.cut 3 (.s (.z) (.c (.z) (.z))) (.c (.s (.z) (.z)) (.s (.z) (.c (.s (.z) (.z)) (.s (.z) (.c (.s (.z) (.z)) (.z))))))))))))))))))))))))))))))))) (.s (.z) (.z)))
theorem V83.vc_eq (B : Nat) (R : Value → World → Prop) (a : Int) (w : World) : wpf (V83.cfg B) (V83.cuts B R) V83.code V83.h [] (postOf Try.prog B (Try.f83.results.toList) R) (argE 0 [.int .i64 a]) [] w = V83.vc B R a w := by kernel_rfl
theorem V83.obl (B : Nat) (R : Value → World → Prop) : oblP (V83.cfg B) (V83.cuts B R) V83.code V83.h [] (postOf Try.prog B (Try.f83.results.toList) R) := by
  have e : oblP (V83.cfg B) (V83.cuts B R) V83.code V83.h [] (postOf Try.prog B (Try.f83.results.toList) R) = (True ∧ ((True ∧ (True ∧ ((True ∧ True) ∧ (True ∧ ((True ∧ True) ∧ (True ∧ ((True ∧ True) ∧ (True ∧ ((True ∧ True) ∧ ((True ∧ (True ∧ (True ∧ (True ∧ (True ∧ (True ∧ (True ∧ (True ∧ (True ∧ (True ∧ (True ∧ (True ∧ (True ∧ (True ∧ True)))))))))))))) ∧ (∀ (a : Int) (c : Bool) (w : World), V83.b0 B R a c w → V83.b0 B R a c w) ∧ ((True ∧ True) ∧ ((True ∧ (True ∧ True)) ∧ (∀ (a : Int) (d : Bool) (w : World), V83.b1 B R a d w → V83.b1 B R a d w) ∧ ((True ∧ True) ∧ (True ∧ ((True ∧ True) ∧ (True ∧ ((True ∧ True) ∧ (True ∧ ((True ∧ True) ∧ ((True ∧ (True ∧ (True ∧ (True ∧ (True ∧ (True ∧ True)))))) ∧ (∀ (a : Int) (f : Bool) (w : World), V83.b2 B R a f w → V83.b2 B R a f w) ∧ ((True ∧ True) ∧ (True ∧ ((True ∧ True) ∧ (True ∧ ((True ∧ True) ∧ ((True ∧ (True ∧ True)) ∧ (∀ (a : Int) (g : Bool) (w : World), V83.b3 B R a g w → V83.b3 B R a g w) ∧ ((True ∧ True) ∧ (True ∧ ((True ∧ True) ∧ (True ∧ ((True ∧ True) ∧ True))))))))))))))))))))))))))))))) ∧ (True ∧ True))) := by kernel_rfl
  rw [e]
  exact ⟨trivial, ⟨⟨trivial, ⟨trivial, ⟨⟨trivial, trivial⟩, ⟨trivial, ⟨⟨trivial, trivial⟩, ⟨trivial, ⟨⟨trivial, trivial⟩, ⟨trivial, ⟨⟨trivial, trivial⟩, ⟨⟨trivial, ⟨trivial, ⟨trivial, ⟨trivial, ⟨trivial, ⟨trivial, ⟨trivial, ⟨trivial, ⟨trivial, ⟨trivial, ⟨trivial, ⟨trivial, ⟨trivial, ⟨trivial, trivial⟩⟩⟩⟩⟩⟩⟩⟩⟩⟩⟩⟩⟩⟩, fun a c w h => h, ⟨⟨trivial, trivial⟩, ⟨⟨trivial, ⟨trivial, trivial⟩⟩, fun a d w h => h, ⟨⟨trivial, trivial⟩, ⟨trivial, ⟨⟨trivial, trivial⟩, ⟨trivial, ⟨⟨trivial, trivial⟩, ⟨trivial, ⟨⟨trivial, trivial⟩, ⟨⟨trivial, ⟨trivial, ⟨trivial, ⟨trivial, ⟨trivial, ⟨trivial, trivial⟩⟩⟩⟩⟩⟩, fun a f w h => h, ⟨⟨trivial, trivial⟩, ⟨trivial, ⟨⟨trivial, trivial⟩, ⟨trivial, ⟨⟨trivial, trivial⟩, ⟨⟨trivial, ⟨trivial, trivial⟩⟩, fun a g w h => h, ⟨⟨trivial, trivial⟩, ⟨trivial, ⟨⟨trivial, trivial⟩, ⟨trivial, ⟨⟨trivial, trivial⟩, trivial⟩⟩⟩⟩⟩⟩⟩⟩⟩⟩⟩⟩⟩⟩⟩⟩⟩⟩⟩⟩⟩⟩⟩⟩⟩⟩⟩⟩⟩⟩⟩, ⟨trivial, trivial⟩⟩⟩
theorem V83.cfgOk (B : Nat) : CfgOk (V83.cfg B) := cfgOk_of (by kernel_rfl) (by kernel_rfl)
theorem V83.sound {a : Int} {w : World} {R : Value → World → Prop} (h : V83.vc w.heap.size R a w) : Calls Try.prog 83 ⟨[.int .i64 a]⟩ w fun e w' => ∃ v, e = .returned v ∧ R v w' :=
  calls_wpfP (c := V83.cfg w.heap.size) (fn := Try.f83) (x := V83.code) (V83.cuts w.heap.size R) V83.h (V83.cfgOk _) mixed Try.func83 (by kernel_rfl) (by kernel_rfl) (by kernel_rfl) rfl (V83.obl _ _) ((V83.vc_eq _ _ a _).symm ▸ h)
def V84.l0 (B : Nat) (R : Value → World → Prop) : Nat → Int → Nat → Int → Int → Int → Option Addr → Nat → Nat → World → Prop
  | 0 => fun _ _ _ _ _ _ _ _ _ => False
  | k + 1 => fun a c d f g i j l w =>
    if (decide (a < (j : Int))) = true
    then (∃ m : Addr, i = some m ∧ (0 : Int) ≤ a ∧ a < (j : Int) ∧
    ∃ n : Int, w.cell? ((m.add (a.toNat * 3)).add 0) = some (.int .i64 n) ∧
    if (n == 19) = true
     then (Ret B w (R (.bool true)))
     else ((V84.l0 B R k) (IntKind.wrap .i64 (a + 1)) c d f g i j l w))
    else (Ret B w (R (.bool false)))
def V84.vc (B : Nat) (R : Value → World → Prop) (a c d : Int) (f : Option Addr) (g i : Nat) (w : World) : Prop :=
  ∀ j : Nat, w.heap.size ≤ j →
  ∃ l, V84.l0 B R l 0 j a c d f g i w
noncomputable def V84.cfg (B : Nat) : Cfg := ⟨Try.prog, ⟨18, B⟩, [], hasN [], hasN []⟩
noncomputable def V84.code : Code := (Try.f84.body).getD .skip
noncomputable def V84.cuts (B : Nat) (R : Value → World → Prop) : Nat → Cut := nthC [⟨[(3, .one (.int .i64))], [(1, 29, [.int .i64, .int .i64, .int .i64, .slice])], fun fs vs bs w => V84.l0 B R (nthN fs 0) (iV (nthV vs 0)) (nthB bs 0).blk (iV (nthV (nthB bs 0).cells 0)) (iV (nthV (nthB bs 0).cells 1)) (iV (nthV (nthB bs 0).cells 2)) (slA (nthV (nthB bs 0).cells 3)) (slL (nthV (nthB bs 0).cells 3)) (slC (nthV (nthB bs 0).cells 3)) w⟩]
noncomputable def V84.h : H := .s (.z) (.s (.s (.z) (.b (.l 0 (.s (.s (.z) (.c (.z) (.z))) (.s (.b (.s (.z) (.c (.s (.z) (.z)) (.z)))) (.z)))))) (.s (.z) (.z)))
theorem V84.vc_eq (B : Nat) (R : Value → World → Prop) (a c d : Int) (f : Option Addr) (g i : Nat) (w : World) : wpf (V84.cfg B) (V84.cuts B R) V84.code V84.h [] (postOf Try.prog B (Try.f84.results.toList) R) (argE 0 [.agg ⟨[.int .i64 a, .int .i64 c, .int .i64 d, .slice f g i]⟩]) [] w = V84.vc B R a c d f g i w := by kernel_rfl
theorem V84.obl (B : Nat) (R : Value → World → Prop) : oblP (V84.cfg B) (V84.cuts B R) V84.code V84.h [] (postOf Try.prog B (Try.f84.results.toList) R) := by
  have e : oblP (V84.cfg B) (V84.cuts B R) V84.code V84.h [] (postOf Try.prog B (Try.f84.results.toList) R) = (True ∧ ((True ∧ ((∀ (a : Int) (c : Nat) (d f g : Int) (i : Option Addr) (j l : Nat) (w : World), ¬ V84.l0 B R 0 a c d f g i j l w) ∧ (∀ m, ∀ (a : Int) (c : Nat) (d f g : Int) (i : Option Addr) (j l : Nat) (w : World), V84.l0 B R (m + 1) a c d f g i j l w → V84.l0 B R (m + 1) a c d f g i j l w) ∧ ∀ m : Nat, ((True ∧ (True ∧ True)) ∧ ((True ∧ ((True ∧ True) ∧ True)) ∧ True)))) ∧ (True ∧ True))) := by kernel_rfl
  rw [e]
  exact ⟨trivial, ⟨⟨trivial, ⟨fun a c d f g i j l w h => h, fun _ a c d f g i j l w h => h, fun m => ⟨⟨trivial, ⟨trivial, trivial⟩⟩, ⟨⟨trivial, ⟨⟨trivial, trivial⟩, trivial⟩⟩, trivial⟩⟩⟩⟩, ⟨trivial, trivial⟩⟩⟩
theorem V84.cfgOk (B : Nat) : CfgOk (V84.cfg B) := cfgOk_of (by kernel_rfl) (by kernel_rfl)
theorem V84.sound {a d f : Int} {g : Option Addr} {i j : Nat} {w : World} {R : Value → World → Prop} (h : V84.vc w.heap.size R a d f g i j w) : Calls Try.prog 84 ⟨[.agg ⟨[.int .i64 a, .int .i64 d, .int .i64 f, .slice g i j]⟩]⟩ w fun e w' => ∃ v, e = .returned v ∧ R v w' :=
  calls_wpfP (c := V84.cfg w.heap.size) (fn := Try.f84) (x := V84.code) (V84.cuts w.heap.size R) V84.h (V84.cfgOk _) mixed Try.func84 (by kernel_rfl) (by kernel_rfl) (by kernel_rfl) rfl (V84.obl _ _) ((V84.vc_eq _ _ a d f g i j _).symm ▸ h)
def V89.b1 (B : Nat) (R : Value → World → Prop) (a : Bool) (c : Nat) (d f g : Int) (i : Option Addr) (j l : Nat) (w : World) : Prop :=
  if a = true
  then (Ret B w (R (.bool false)))
  else (if (decide (g < 0)) = false
   then (if (decide (g > IntKind.wrap .i64 (f - d))) = true
    then (Ret B w (R (.bool false)))
    else (if (decide ((j : Int) ≥ 1)) = true
     then (Ret B w (R (.bool (decide ((j : Int) ≤ 64)))))
     else (Ret B w (R (.bool false)))))
   else (Ret B w (R (.bool false))))
def V89.b0 (B : Nat) (R : Value → World → Prop) (a : Bool) (c : Nat) (d f g : Int) (i : Option Addr) (j l : Nat) (w : World) : Prop :=
  if a = true
  then (Ret B w (R (.bool false)))
  else (if (decide (f < d)) = false
   then (V89.b1 B R (decide (f > 8)) c d f g i j l w)
   else (V89.b1 B R true c d f g i j l w))
def V89.vc (B : Nat) (R : Value → World → Prop) (a c d : Int) (f : Option Addr) (g i : Nat) (w : World) : Prop :=
  ∀ j : Nat, w.heap.size ≤ j →
  if (decide (a < 0)) = false
  then (V89.b0 B R (decide (a > 3)) j a c d f g i w)
  else (V89.b0 B R true j a c d f g i w)
noncomputable def V89.cfg (B : Nat) : Cfg := ⟨Try.prog, ⟨47, B⟩, [], hasN [], hasN []⟩
noncomputable def V89.code : Code := (Try.f89.body).getD .skip
noncomputable def V89.cuts (B : Nat) (R : Value → World → Prop) : Nat → Cut := nthC [⟨[(3, .one (.bool))], [(1, 29, [.int .i64, .int .i64, .int .i64, .slice])], fun fs vs bs w => V89.b0 B R (bV (nthV vs 0)) (nthB bs 0).blk (iV (nthV (nthB bs 0).cells 0)) (iV (nthV (nthB bs 0).cells 1)) (iV (nthV (nthB bs 0).cells 2)) (slA (nthV (nthB bs 0).cells 3)) (slL (nthV (nthB bs 0).cells 3)) (slC (nthV (nthB bs 0).cells 3)) w⟩,
  ⟨[(12, .one (.bool))], [(1, 29, [.int .i64, .int .i64, .int .i64, .slice])], fun fs vs bs w => V89.b1 B R (bV (nthV vs 0)) (nthB bs 0).blk (iV (nthV (nthB bs 0).cells 0)) (iV (nthV (nthB bs 0).cells 1)) (iV (nthV (nthB bs 0).cells 2)) (slA (nthV (nthB bs 0).cells 3)) (slL (nthV (nthB bs 0).cells 3)) (slC (nthV (nthB bs 0).cells 3)) w⟩]
noncomputable def V89.h : H := .s (.z) (.s (.b (.cut 0 (.z) (.c (.s (.z) (.z)) (.cut 1 (.z) (.c (.s (.z) (.z)) (.s (.z) (.c (.s (.z) (.z)) (.z)))))))) (.s (.z) (.z)))
theorem V89.vc_eq (B : Nat) (R : Value → World → Prop) (a c d : Int) (f : Option Addr) (g i : Nat) (w : World) : wpf (V89.cfg B) (V89.cuts B R) V89.code V89.h [] (postOf Try.prog B (Try.f89.results.toList) R) (argE 0 [.agg ⟨[.int .i64 a, .int .i64 c, .int .i64 d, .slice f g i]⟩]) [] w = V89.vc B R a c d f g i w := by kernel_rfl
theorem V89.obl (B : Nat) (R : Value → World → Prop) : oblP (V89.cfg B) (V89.cuts B R) V89.code V89.h [] (postOf Try.prog B (Try.f89.results.toList) R) := by
  have e : oblP (V89.cfg B) (V89.cuts B R) V89.code V89.h [] (postOf Try.prog B (Try.f89.results.toList) R) = (True ∧ ((True ∧ (∀ (a : Bool) (c : Nat) (d f g : Int) (i : Option Addr) (j l : Nat) (w : World), V89.b0 B R a c d f g i j l w → V89.b0 B R a c d f g i j l w) ∧ ((True ∧ True) ∧ (True ∧ (∀ (m : Bool) (c : Nat) (d f g : Int) (i : Option Addr) (j l : Nat) (w : World), V89.b1 B R m c d f g i j l w → V89.b1 B R m c d f g i j l w) ∧ ((True ∧ True) ∧ (True ∧ ((True ∧ True) ∧ True)))))) ∧ (True ∧ True))) := by kernel_rfl
  rw [e]
  exact ⟨trivial, ⟨⟨trivial, fun a c d f g i j l w h => h, ⟨⟨trivial, trivial⟩, ⟨trivial, fun m c d f g i j l w h => h, ⟨⟨trivial, trivial⟩, ⟨trivial, ⟨⟨trivial, trivial⟩, trivial⟩⟩⟩⟩⟩⟩, ⟨trivial, trivial⟩⟩⟩
theorem V89.cfgOk (B : Nat) : CfgOk (V89.cfg B) := cfgOk_of (by kernel_rfl) (by kernel_rfl)
theorem V89.sound {a d f : Int} {g : Option Addr} {i j : Nat} {w : World} {R : Value → World → Prop} (h : V89.vc w.heap.size R a d f g i j w) : Calls Try.prog 89 ⟨[.agg ⟨[.int .i64 a, .int .i64 d, .int .i64 f, .slice g i j]⟩]⟩ w fun e w' => ∃ v, e = .returned v ∧ R v w' :=
  calls_wpfP (c := V89.cfg w.heap.size) (fn := Try.f89) (x := V89.code) (V89.cuts w.heap.size R) V89.h (V89.cfgOk _) mixed Try.func89 (by kernel_rfl) (by kernel_rfl) (by kernel_rfl) rfl (V89.obl _ _) ((V89.vc_eq _ _ a d f g i j _).symm ▸ h)
end Go.Proofs.Ytlccbaemcfjdoaa
