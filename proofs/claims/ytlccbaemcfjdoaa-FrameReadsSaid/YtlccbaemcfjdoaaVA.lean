/-
  What the engine makes of the loaded functions 28, 29, 30, 31, 32, 33, 82, 83, 84, 89: conditions under which a call returns as told, and proofs of that.
  Conditions: none. Printed by a program of this project.
-/
import Derived.Test.YtlccbaemcfjdoaaEngC
import Derived.Test.YtlccbaemcfjdoaaProg
set_option linter.unusedVariables false
set_option maxRecDepth 100000
namespace Go.Proofs.Ytlccbaemcfjdoaa
theorem mixed : Try.prog.follows .mixedOrders = true := by kernel_rfl

/-! function 28 -/
def V28.b1 (B : Nat) (R : Value → World → Prop) (x6 : Int) (b14 : Bool) (w : World) : Prop :=
  if b14 = true
  then (Ret B w (R (.int .i64 2)))
  else (if (x6 == 4) = true
   then (if (x6 == 4) = true
    then (Ret B w (R (.int .i64 1)))
    else (Ret B w (R (.int .i64 0))))
   else (if (x6 == 9) = true
    then (if (x6 == 9) = true
     then (Ret B w (R (.int .i64 1)))
     else (Ret B w (R (.int .i64 0))))
    else (if (x6 == 10) = true
     then (if (x6 == 10) = true
      then (Ret B w (R (.int .i64 1)))
      else (Ret B w (R (.int .i64 0))))
     else (if (x6 == 16) = true
      then (if (x6 == 16) = true
       then (Ret B w (R (.int .i64 1)))
       else (Ret B w (R (.int .i64 0))))
      else (if (x6 == 18) = true
       then (if (x6 == 18) = true
        then (Ret B w (R (.int .i64 1)))
        else (Ret B w (R (.int .i64 0))))
       else (if (x6 == 20) = true
        then (if (x6 == 20) = true
         then (Ret B w (R (.int .i64 1)))
         else (Ret B w (R (.int .i64 0))))
        else (if (x6 == 22) = true
         then (if (x6 == 22) = true
          then (Ret B w (R (.int .i64 1)))
          else (Ret B w (R (.int .i64 0))))
         else (if (x6 == 27) = true
          then (Ret B w (R (.int .i64 1)))
          else (Ret B w (R (.int .i64 0)))))))))))
def V28.b0 (B : Nat) (R : Value → World → Prop) (x6 : Int) (b7 : Bool) (q3 : Nat) (i3 i3_1 i3_2 : Int) (q2 : Nat) (p2 : Option Addr) (p2l p2c : Nat) (w : World) : Prop :=
  if b7 = true
  then (CallK Try.prog 82 [.agg ⟨[.slice p2 p2l p2c]⟩, .int .i64 i3_1] B w [q3, q2] fun v w_1 => 
   ∃ x13 : Int, v = .int .i64 x13 ∧
   Ret B w_1 (R (.int .i64 x13)))
  else (if (x6 == 5) = true
   then (V28.b1 B R x6 (x6 == 5) w)
   else (if (x6 == 6) = true
    then (V28.b1 B R x6 (x6 == 6) w)
    else (if (x6 == 7) = true
     then (V28.b1 B R x6 (x6 == 7) w)
     else (if (x6 == 8) = true
      then (V28.b1 B R x6 (x6 == 8) w)
      else (if (x6 == 11) = true
       then (V28.b1 B R x6 (x6 == 11) w)
       else (if (x6 == 12) = true
        then (V28.b1 B R x6 (x6 == 12) w)
        else (if (x6 == 13) = true
         then (V28.b1 B R x6 (x6 == 13) w)
         else (V28.b1 B R x6 (x6 == 14) w))))))))
def V28.vc (B : Nat) (R : Value → World → Prop) (p0 : Option Addr) (p0l p0c : Nat) (i1 i1_1 i1_2 : Int) (w : World) : Prop :=
  ∀ q2 : Nat, w.heap.size ≤ q2 →
∀ q3 : Nat, w.heap.size ≤ q3 →
if (i1 == 17) = true
  then (V28.b0 B R i1 (i1 == 17) q3 i1 i1_1 i1_2 q2 p0 p0l p0c w)
  else (V28.b0 B R i1 (i1 == 19) q3 i1 i1_1 i1_2 q2 p0 p0l p0c w)
noncomputable def V28.cfg (B : Nat) : Cfg := ⟨Try.prog, ⟨32, B⟩, [], hasN [82], hasN []⟩
noncomputable def V28.code : Code := (Try.f28.body).getD .skip
noncomputable def V28.cuts (B : Nat) (R : Value → World → Prop) : Nat → Cut := nthC [⟨[(6, .one (.int .i64)), (7, .one (.bool))], [(3, 26, [.int .i64, .int .i64, .int .i64]), (2, 24, [.slice])], fun fs vs bs w => V28.b0 B R (iV (nthV vs 0)) (bV (nthV vs 1)) (nthB bs 0).blk (iV (nthV (nthB bs 0).cells 0)) (iV (nthV (nthB bs 0).cells 1)) (iV (nthV (nthB bs 0).cells 2)) (nthB bs 1).blk (slA (nthV (nthB bs 1).cells 0)) (slL (nthV (nthB bs 1).cells 0)) (slC (nthV (nthB bs 1).cells 0)) w⟩,
  ⟨[(6, .one (.int .i64)), (14, .one (.bool))], [], fun fs vs bs w => V28.b1 B R (iV (nthV vs 0)) (bV (nthV vs 1)) w⟩]
noncomputable def V28.h : H := .s (.z) (.s (.s (.z) (.b (.cut 0 (.s (.z) (.c (.z) (.z))) (.c (.s (.z) (.z)) (.cut 1 (.s (.z) (.c (.z) (.s (.z) (.c (.z) (.s (.z) (.c (.z) (.s (.z) (.c (.z) (.s (.z) (.c (.z) (.s (.z) (.c (.z) (.s (.z) (.c (.z) (.z))))))))))))))) (.c (.s (.z) (.z)) (.s (.s (.z) (.c (.z) (.s (.z) (.c (.z) (.s (.z) (.c (.z) (.s (.z) (.c (.z) (.s (.z) (.c (.z) (.s (.z) (.c (.z) (.s (.z) (.c (.z) (.z))))))))))))))) (.c (.s (.z) (.z)) (.z))))))))) (.s (.z) (.z)))
theorem V28.vc_eq (B : Nat) (R : Value → World → Prop) (p0 : Option Addr) (p0l p0c : Nat) (i1 i1_1 i1_2 : Int) (w : World) : wpf (V28.cfg B) (V28.cuts B R) V28.code V28.h [] (postOf Try.prog B (Try.f28.results.toList) R) (argE 0 [.agg ⟨[.slice p0 p0l p0c]⟩, .agg ⟨[.int .i64 i1, .int .i64 i1_1, .int .i64 i1_2]⟩]) [] w = V28.vc B R p0 p0l p0c i1 i1_1 i1_2 w := by kernel_rfl
theorem V28.obl (B : Nat) (R : Value → World → Prop) : oblP (V28.cfg B) (V28.cuts B R) V28.code V28.h [] (postOf Try.prog B (Try.f28.results.toList) R) := by
  have e : oblP (V28.cfg B) (V28.cuts B R) V28.code V28.h [] (postOf Try.prog B (Try.f28.results.toList) R) = (True ∧ ((True ∧ ((True ∧ (True ∧ True)) ∧ (∀ (x6 : Int) (b7 : Bool) (q3 : Nat) (i3 i3_1 i3_2 : Int) (q2 : Nat) (p2 : Option Addr) (p2l p2c : Nat) (w : World), V28.b0 B R x6 b7 q3 i3 i3_1 i3_2 q2 p2 p2l p2c w → V28.b0 B R x6 b7 q3 i3 i3_1 i3_2 q2 p2 p2l p2c w) ∧ ((True ∧ True) ∧ ((True ∧ (True ∧ (True ∧ (True ∧ (True ∧ (True ∧ (True ∧ (True ∧ (True ∧ (True ∧ (True ∧ (True ∧ (True ∧ (True ∧ True)))))))))))))) ∧ (∀ (x6 : Int) (b14 : Bool) (w : World), V28.b1 B R x6 b14 w → V28.b1 B R x6 b14 w) ∧ ((True ∧ True) ∧ ((True ∧ (True ∧ (True ∧ (True ∧ (True ∧ (True ∧ (True ∧ (True ∧ (True ∧ (True ∧ (True ∧ (True ∧ (True ∧ (True ∧ True)))))))))))))) ∧ ((True ∧ True) ∧ True))))))) ∧ (True ∧ True))) := by kernel_rfl
  rw [e]
  exact ⟨trivial, ⟨⟨trivial, ⟨⟨trivial, ⟨trivial, trivial⟩⟩, fun x6 b7 q3 i3 i3_1 i3_2 q2 p2 p2l p2c w h => h, ⟨⟨trivial, trivial⟩, ⟨⟨trivial, ⟨trivial, ⟨trivial, ⟨trivial, ⟨trivial, ⟨trivial, ⟨trivial, ⟨trivial, ⟨trivial, ⟨trivial, ⟨trivial, ⟨trivial, ⟨trivial, ⟨trivial, trivial⟩⟩⟩⟩⟩⟩⟩⟩⟩⟩⟩⟩⟩⟩, fun x6 b14 w h => h, ⟨⟨trivial, trivial⟩, ⟨⟨trivial, ⟨trivial, ⟨trivial, ⟨trivial, ⟨trivial, ⟨trivial, ⟨trivial, ⟨trivial, ⟨trivial, ⟨trivial, ⟨trivial, ⟨trivial, ⟨trivial, ⟨trivial, trivial⟩⟩⟩⟩⟩⟩⟩⟩⟩⟩⟩⟩⟩⟩, ⟨⟨trivial, trivial⟩, trivial⟩⟩⟩⟩⟩⟩⟩, ⟨trivial, trivial⟩⟩⟩
theorem V28.cfgOk (B : Nat) : CfgOk (V28.cfg B) := cfgOk_of (by kernel_rfl) (by kernel_rfl)
theorem V28.sound {p0 : Option Addr} {p0l p0c : Nat} {i1 i1_1 i1_2 : Int} {w : World} {R : Value → World → Prop} (h : V28.vc w.heap.size R p0 p0l p0c i1 i1_1 i1_2 w) : Calls Try.prog 28 ⟨[.agg ⟨[.slice p0 p0l p0c]⟩, .agg ⟨[.int .i64 i1, .int .i64 i1_1, .int .i64 i1_2]⟩]⟩ w fun e w' => ∃ v, e = .returned v ∧ R v w' :=
  calls_wpfP (c := V28.cfg w.heap.size) (fn := Try.f28) (x := V28.code) (V28.cuts w.heap.size R) V28.h (V28.cfgOk _) mixed Try.func28 (by kernel_rfl) (by kernel_rfl) (by kernel_rfl) rfl (V28.obl _ _) ((V28.vc_eq _ _ p0 p0l p0c i1 i1_1 i1_2 _).symm ▸ h)

/-! function 29 -/
def V29.vc (B : Nat) (R : Value → World → Prop) (p0 : Option Addr) (p0l p0c : Nat) (i1 i1_1 i1_2 : Int) (w : World) : Prop :=
  ∀ q2 : Nat, w.heap.size ≤ q2 →
∀ q3 : Nat, w.heap.size ≤ q3 →
CallK Try.prog 83 [.int .i64 i1] B w [q3, q2] fun v w_1 => 
  ∃ (x12 x12_1 x12_2 : Int) (b12 : Bool), v = .tuple ⟨[.int .i64 x12, .int .i64 x12_1, .int .i64 x12_2, .bool b12]⟩ ∧
  if (decide (x12_1 < 0)) = true
  then (if (decide (i1_1 < 0)) = false
   then (if (decide (i1_1 ≥ (p0l : Int))) = true
    then (Ret B w_1 (R (.int .i64 0)))
    else (∃ p34 : Addr, p0 = some p34 ∧ (0 : Int) ≤ i1_1 ∧ i1_1 < (p0l : Int) ∧
    ∃ x36 : Int, w_1.cell? ((p34.add (i1_1.toNat * 4)).add 0) = some (.int .i64 x36) ∧
    Ret B w_1 (R (.int .i64 (if 0 > x36 then 0 else x36)))))
   else (Ret B w_1 (R (.int .i64 0))))
  else (Ret B w_1 (R (.int .i64 x12_1)))
noncomputable def V29.cfg (B : Nat) : Cfg := ⟨Try.prog, ⟨39, B⟩, [], hasN [83], hasN []⟩
noncomputable def V29.code : Code := (Try.f29.body).getD .skip
noncomputable def V29.cuts (B : Nat) (R : Value → World → Prop) : Nat → Cut := nthC []
noncomputable def V29.h : H := .s (.z) (.s (.z) (.s (.s (.z) (.c (.s (.s (.z) (.c (.s (.z) (.z)) (.z))) (.s (.z) (.z))) (.z))) (.s (.z) (.z))))
theorem V29.vc_eq (B : Nat) (R : Value → World → Prop) (p0 : Option Addr) (p0l p0c : Nat) (i1 i1_1 i1_2 : Int) (w : World) : wpf (V29.cfg B) (V29.cuts B R) V29.code V29.h [] (postOf Try.prog B (Try.f29.results.toList) R) (argE 0 [.agg ⟨[.slice p0 p0l p0c]⟩, .agg ⟨[.int .i64 i1, .int .i64 i1_1, .int .i64 i1_2]⟩]) [] w = V29.vc B R p0 p0l p0c i1 i1_1 i1_2 w := by kernel_rfl
theorem V29.obl (B : Nat) (R : Value → World → Prop) : oblP (V29.cfg B) (V29.cuts B R) V29.code V29.h [] (postOf Try.prog B (Try.f29.results.toList) R) := by
  have e : oblP (V29.cfg B) (V29.cuts B R) V29.code V29.h [] (postOf Try.prog B (Try.f29.results.toList) R) = (True ∧ (True ∧ ((True ∧ (((True ∧ ((True ∧ True) ∧ True)) ∧ (True ∧ True)) ∧ True)) ∧ (True ∧ True)))) := by kernel_rfl
  rw [e]
  exact ⟨trivial, ⟨trivial, ⟨⟨trivial, ⟨⟨⟨trivial, ⟨⟨trivial, trivial⟩, trivial⟩⟩, ⟨trivial, trivial⟩⟩, trivial⟩⟩, ⟨trivial, trivial⟩⟩⟩⟩
theorem V29.cfgOk (B : Nat) : CfgOk (V29.cfg B) := cfgOk_of (by kernel_rfl) (by kernel_rfl)
theorem V29.sound {p0 : Option Addr} {p0l p0c : Nat} {i1 i1_1 i1_2 : Int} {w : World} {R : Value → World → Prop} (h : V29.vc w.heap.size R p0 p0l p0c i1 i1_1 i1_2 w) : Calls Try.prog 29 ⟨[.agg ⟨[.slice p0 p0l p0c]⟩, .agg ⟨[.int .i64 i1, .int .i64 i1_1, .int .i64 i1_2]⟩]⟩ w fun e w' => ∃ v, e = .returned v ∧ R v w' :=
  calls_wpfP (c := V29.cfg w.heap.size) (fn := Try.f29) (x := V29.code) (V29.cuts w.heap.size R) V29.h (V29.cfgOk _) mixed Try.func29 (by kernel_rfl) (by kernel_rfl) (by kernel_rfl) rfl (V29.obl _ _) ((V29.vc_eq _ _ p0 p0l p0c i1 i1_1 i1_2 _).symm ▸ h)

/-! function 30 -/
def V30.vc (B : Nat) (R : Value → World → Prop) (i0 i0_1 i0_2 : Int) (w : World) : Prop :=
  ∀ q1 : Nat, w.heap.size ≤ q1 →
if (i0 == 21) = true
  then (Ret B w (R (.int .i64 2)))
  else (if (i0 == 1) = true
   then (if (i0 == 1) = true
    then (Ret B w (R (.int .i64 1)))
    else (Ret B w (R (.int .i64 0))))
   else (if (i0 == 2) = true
    then (if (i0 == 2) = true
     then (Ret B w (R (.int .i64 1)))
     else (Ret B w (R (.int .i64 0))))
    else (if (i0 == 3) = true
     then (if (i0 == 3) = true
      then (Ret B w (R (.int .i64 1)))
      else (Ret B w (R (.int .i64 0))))
     else (if (i0 == 17) = true
      then (if (i0 == 17) = true
       then (Ret B w (R (.int .i64 1)))
       else (Ret B w (R (.int .i64 0))))
      else (if (i0 == 5) = true
       then (if (i0 == 5) = true
        then (Ret B w (R (.int .i64 1)))
        else (Ret B w (R (.int .i64 0))))
       else (if (i0 == 6) = true
        then (if (i0 == 6) = true
         then (Ret B w (R (.int .i64 1)))
         else (Ret B w (R (.int .i64 0))))
        else (if (i0 == 7) = true
         then (if (i0 == 7) = true
          then (Ret B w (R (.int .i64 1)))
          else (Ret B w (R (.int .i64 0))))
         else (if (i0 == 8) = true
          then (if (i0 == 8) = true
           then (Ret B w (R (.int .i64 1)))
           else (Ret B w (R (.int .i64 0))))
          else (if (i0 == 11) = true
           then (if (i0 == 11) = true
            then (Ret B w (R (.int .i64 1)))
            else (Ret B w (R (.int .i64 0))))
           else (if (i0 == 12) = true
            then (if (i0 == 12) = true
             then (Ret B w (R (.int .i64 1)))
             else (Ret B w (R (.int .i64 0))))
            else (if (i0 == 13) = true
             then (if (i0 == 13) = true
              then (Ret B w (R (.int .i64 1)))
              else (Ret B w (R (.int .i64 0))))
             else (if (i0 == 14) = true
              then (if (i0 == 14) = true
               then (Ret B w (R (.int .i64 1)))
               else (Ret B w (R (.int .i64 0))))
              else (if (i0 == 9) = true
               then (if (i0 == 9) = true
                then (Ret B w (R (.int .i64 1)))
                else (Ret B w (R (.int .i64 0))))
               else (if (i0 == 10) = true
                then (Ret B w (R (.int .i64 1)))
                else (Ret B w (R (.int .i64 0)))))))))))))))))
noncomputable def V30.cfg (B : Nat) : Cfg := ⟨Try.prog, ⟨22, B⟩, [], hasN [], hasN []⟩
noncomputable def V30.code : Code := (Try.f30.body).getD .skip
noncomputable def V30.cuts (B : Nat) (R : Value → World → Prop) : Nat → Cut := nthC []
noncomputable def V30.h : H := .s (.z) (.s (.s (.z) (.b (.s (.z) (.c (.s (.z) (.z)) (.s (.s (.z) (.c (.z) (.s (.z) (.c (.z) (.s (.z) (.c (.z) (.s (.z) (.c (.z) (.s (.z) (.c (.z) (.s (.z) (.c (.z) (.s (.z) (.c (.z) (.s (.z) (.c (.z) (.s (.z) (.c (.z) (.s (.z) (.c (.z) (.s (.z) (.c (.z) (.s (.z) (.c (.z) (.s (.z) (.c (.z) (.z))))))))))))))))))))))))))) (.c (.s (.z) (.z)) (.z))))))) (.s (.z) (.z)))
theorem V30.vc_eq (B : Nat) (R : Value → World → Prop) (i0 i0_1 i0_2 : Int) (w : World) : wpf (V30.cfg B) (V30.cuts B R) V30.code V30.h [] (postOf Try.prog B (Try.f30.results.toList) R) (argE 0 [.agg ⟨[.int .i64 i0, .int .i64 i0_1, .int .i64 i0_2]⟩]) [] w = V30.vc B R i0 i0_1 i0_2 w := by kernel_rfl
theorem V30.obl (B : Nat) (R : Value → World → Prop) : oblP (V30.cfg B) (V30.cuts B R) V30.code V30.h [] (postOf Try.prog B (Try.f30.results.toList) R) := by
  have e : oblP (V30.cfg B) (V30.cuts B R) V30.code V30.h [] (postOf Try.prog B (Try.f30.results.toList) R) = (True ∧ ((True ∧ (True ∧ ((True ∧ True) ∧ ((True ∧ (True ∧ (True ∧ (True ∧ (True ∧ (True ∧ (True ∧ (True ∧ (True ∧ (True ∧ (True ∧ (True ∧ (True ∧ (True ∧ (True ∧ (True ∧ (True ∧ (True ∧ (True ∧ (True ∧ (True ∧ (True ∧ (True ∧ (True ∧ (True ∧ (True ∧ True)))))))))))))))))))))))))) ∧ ((True ∧ True) ∧ True))))) ∧ (True ∧ True))) := by kernel_rfl
  rw [e]
  exact ⟨trivial, ⟨⟨trivial, ⟨trivial, ⟨⟨trivial, trivial⟩, ⟨⟨trivial, ⟨trivial, ⟨trivial, ⟨trivial, ⟨trivial, ⟨trivial, ⟨trivial, ⟨trivial, ⟨trivial, ⟨trivial, ⟨trivial, ⟨trivial, ⟨trivial, ⟨trivial, ⟨trivial, ⟨trivial, ⟨trivial, ⟨trivial, ⟨trivial, ⟨trivial, ⟨trivial, ⟨trivial, ⟨trivial, ⟨trivial, ⟨trivial, ⟨trivial, trivial⟩⟩⟩⟩⟩⟩⟩⟩⟩⟩⟩⟩⟩⟩⟩⟩⟩⟩⟩⟩⟩⟩⟩⟩⟩⟩, ⟨⟨trivial, trivial⟩, trivial⟩⟩⟩⟩⟩, ⟨trivial, trivial⟩⟩⟩
theorem V30.cfgOk (B : Nat) : CfgOk (V30.cfg B) := cfgOk_of (by kernel_rfl) (by kernel_rfl)
theorem V30.sound {i0 i0_1 i0_2 : Int} {w : World} {R : Value → World → Prop} (h : V30.vc w.heap.size R i0 i0_1 i0_2 w) : Calls Try.prog 30 ⟨[.agg ⟨[.int .i64 i0, .int .i64 i0_1, .int .i64 i0_2]⟩]⟩ w fun e w' => ∃ v, e = .returned v ∧ R v w' :=
  calls_wpfP (c := V30.cfg w.heap.size) (fn := Try.f30) (x := V30.code) (V30.cuts w.heap.size R) V30.h (V30.cfgOk _) mixed Try.func30 (by kernel_rfl) (by kernel_rfl) (by kernel_rfl) rfl (V30.obl _ _) ((V30.vc_eq _ _ i0 i0_1 i0_2 _).symm ▸ h)

/-! function 31 -/
def V31.vc (B : Nat) (R : Value → World → Prop) (i0 i0_1 i0_2 : Int) (w : World) : Prop :=
  ∀ q1 : Nat, w.heap.size ≤ q1 →
CallK Try.prog 83 [.int .i64 i0] B w [q1] fun v w_1 => 
  ∃ (x10 x10_1 x10_2 : Int) (b10 : Bool), v = .tuple ⟨[.int .i64 x10, .int .i64 x10_1, .int .i64 x10_2, .bool b10]⟩ ∧
  Ret B w_1 (R (.int .i64 x10_2))
noncomputable def V31.cfg (B : Nat) : Cfg := ⟨Try.prog, ⟨16, B⟩, [], hasN [83], hasN []⟩
noncomputable def V31.code : Code := (Try.f31.body).getD .skip
noncomputable def V31.cuts (B : Nat) (R : Value → World → Prop) : Nat → Cut := nthC []
noncomputable def V31.h : H := .s (.z) (.s (.z) (.s (.z) (.z)))
theorem V31.vc_eq (B : Nat) (R : Value → World → Prop) (i0 i0_1 i0_2 : Int) (w : World) : wpf (V31.cfg B) (V31.cuts B R) V31.code V31.h [] (postOf Try.prog B (Try.f31.results.toList) R) (argE 0 [.agg ⟨[.int .i64 i0, .int .i64 i0_1, .int .i64 i0_2]⟩]) [] w = V31.vc B R i0 i0_1 i0_2 w := by kernel_rfl
theorem V31.obl (B : Nat) (R : Value → World → Prop) : oblP (V31.cfg B) (V31.cuts B R) V31.code V31.h [] (postOf Try.prog B (Try.f31.results.toList) R) := by
  have e : oblP (V31.cfg B) (V31.cuts B R) V31.code V31.h [] (postOf Try.prog B (Try.f31.results.toList) R) = (True ∧ (True ∧ (True ∧ True))) := by kernel_rfl
  rw [e]
  exact ⟨trivial, ⟨trivial, ⟨trivial, trivial⟩⟩⟩
theorem V31.cfgOk (B : Nat) : CfgOk (V31.cfg B) := cfgOk_of (by kernel_rfl) (by kernel_rfl)
theorem V31.sound {i0 i0_1 i0_2 : Int} {w : World} {R : Value → World → Prop} (h : V31.vc w.heap.size R i0 i0_1 i0_2 w) : Calls Try.prog 31 ⟨[.agg ⟨[.int .i64 i0, .int .i64 i0_1, .int .i64 i0_2]⟩]⟩ w fun e w' => ∃ v, e = .returned v ∧ R v w' :=
  calls_wpfP (c := V31.cfg w.heap.size) (fn := Try.f31) (x := V31.code) (V31.cuts w.heap.size R) V31.h (V31.cfgOk _) mixed Try.func31 (by kernel_rfl) (by kernel_rfl) (by kernel_rfl) rfl (V31.obl _ _) ((V31.vc_eq _ _ i0 i0_1 i0_2 _).symm ▸ h)

/-! function 32 -/
def V32.l0 (B : Nat) (R : Value → World → Prop) : Nat → Int → Option Addr → Nat → Nat → Int → Int → World → Prop
  | 0 => fun _ _ _ _ _ _ _ => False
  | k + 1 => fun n3 A13 A13l A13c x14 x15 w =>
    if (decide (x15 < x14)) = true
    then (∃ p17 : Addr, A13 = some p17 ∧ (0 : Int) ≤ x15 ∧ x15 < (A13l : Int) ∧
    ∃ x18 : Int, w.cell? ((p17.add (x15.toNat * 3)).add 0) = some (.int .i64 x18) ∧
    ∃ x18_1 : Int, w.cell? ((p17.add (x15.toNat * 3)).add 1) = some (.int .i64 x18_1) ∧
    ∃ x18_2 : Int, w.cell? ((p17.add (x15.toNat * 3)).add 2) = some (.int .i64 x18_2) ∧
    ∀ q5 : Nat, w.heap.size ≤ q5 →
    if (x18 == 19) = true
     then (Ret B w (R (.int .i64 (IntKind.wrap .i64 (n3 + 16)))))
     else ((V32.l0 B R k) n3 A13 A13l A13c x14 (IntKind.wrap .i64 (x15 + 1)) w))
    else (Ret B w (R (.int .i64 n3)))
def V32.vc (B : Nat) (R : Value → World → Prop) (f0 f0_1 f0_2 : Int) (f0_3 : Option Addr) (f0_3l f0_3c : Nat) (w : World) : Prop :=
  ∀ q1 : Nat, w.heap.size ≤ q1 →
∃ k_1, V32.l0 B R k_1 (IntKind.wrap .i64 (IntKind.wrap .i64 (7 + (if 8 < (if 0 > f0_1 then 0 else f0_1) then 8 else (if 0 > f0_1 then 0 else f0_1))) + 8)) f0_3 f0_3l f0_3c (f0_3l : Int) 0 w
noncomputable def V32.cfg (B : Nat) : Cfg := ⟨Try.prog, ⟨26, B⟩, [], hasN [], hasN []⟩
noncomputable def V32.code : Code := (Try.f32.body).getD .skip
noncomputable def V32.cuts (B : Nat) (R : Value → World → Prop) : Nat → Cut := nthC [⟨[(3, .one (.int .i64)), (13, .one (.slice)), (14, .one (.int .i64)), (15, .one (.int .i64))], [], fun fs vs bs w => V32.l0 B R (nthN fs 0) (iV (nthV vs 0)) (slA (nthV vs 1)) (slL (nthV vs 1)) (slC (nthV vs 1)) (iV (nthV vs 2)) (iV (nthV vs 3)) w⟩]
noncomputable def V32.h : H := .s (.z) (.s (.z) (.s (.s (.z) (.b (.l 0 (.s (.z) (.s (.c (.z) (.z)) (.s (.b (.s (.z) (.s (.z) (.c (.s (.z) (.z)) (.z))))) (.z))))))) (.s (.z) (.z))))
theorem V32.vc_eq (B : Nat) (R : Value → World → Prop) (f0 f0_1 f0_2 : Int) (f0_3 : Option Addr) (f0_3l f0_3c : Nat) (w : World) : wpf (V32.cfg B) (V32.cuts B R) V32.code V32.h [] (postOf Try.prog B (Try.f32.results.toList) R) (argE 0 [.agg ⟨[.int .i64 f0, .int .i64 f0_1, .int .i64 f0_2, .slice f0_3 f0_3l f0_3c]⟩]) [] w = V32.vc B R f0 f0_1 f0_2 f0_3 f0_3l f0_3c w := by kernel_rfl
theorem V32.obl (B : Nat) (R : Value → World → Prop) : oblP (V32.cfg B) (V32.cuts B R) V32.code V32.h [] (postOf Try.prog B (Try.f32.results.toList) R) := by
  have e : oblP (V32.cfg B) (V32.cuts B R) V32.code V32.h [] (postOf Try.prog B (Try.f32.results.toList) R) = (True ∧ (True ∧ ((True ∧ ((∀ (n3 : Int) (A13 : Option Addr) (A13l A13c : Nat) (x14 x15 : Int) (w : World), ¬ V32.l0 B R 0 n3 A13 A13l A13c x14 x15 w) ∧ (∀ k0, ∀ (n3 : Int) (A13 : Option Addr) (A13l A13c : Nat) (x14 x15 : Int) (w : World), V32.l0 B R (k0 + 1) n3 A13 A13l A13c x14 x15 w → V32.l0 B R (k0 + 1) n3 A13 A13l A13c x14 x15 w) ∧ ∀ k0 : Nat, (True ∧ ((True ∧ True) ∧ ((True ∧ (True ∧ ((True ∧ True) ∧ True))) ∧ True))))) ∧ (True ∧ True)))) := by kernel_rfl
  rw [e]
  exact ⟨trivial, ⟨trivial, ⟨⟨trivial, ⟨fun n3 A13 A13l A13c x14 x15 w h => h, fun _ n3 A13 A13l A13c x14 x15 w h => h, fun k0 => ⟨trivial, ⟨⟨trivial, trivial⟩, ⟨⟨trivial, ⟨trivial, ⟨⟨trivial, trivial⟩, trivial⟩⟩⟩, trivial⟩⟩⟩⟩⟩, ⟨trivial, trivial⟩⟩⟩⟩
theorem V32.cfgOk (B : Nat) : CfgOk (V32.cfg B) := cfgOk_of (by kernel_rfl) (by kernel_rfl)
theorem V32.sound {f0 f0_1 f0_2 : Int} {f0_3 : Option Addr} {f0_3l f0_3c : Nat} {w : World} {R : Value → World → Prop} (h : V32.vc w.heap.size R f0 f0_1 f0_2 f0_3 f0_3l f0_3c w) : Calls Try.prog 32 ⟨[.agg ⟨[.int .i64 f0, .int .i64 f0_1, .int .i64 f0_2, .slice f0_3 f0_3l f0_3c]⟩]⟩ w fun e w' => ∃ v, e = .returned v ∧ R v w' :=
  calls_wpfP (c := V32.cfg w.heap.size) (fn := Try.f32) (x := V32.code) (V32.cuts w.heap.size R) V32.h (V32.cfgOk _) mixed Try.func32 (by kernel_rfl) (by kernel_rfl) (by kernel_rfl) rfl (V32.obl _ _) ((V32.vc_eq _ _ f0 f0_1 f0_2 f0_3 f0_3l f0_3c _).symm ▸ h)

/-! function 33 -/
def V33.vc (B : Nat) (R : Value → World → Prop) (f0 f0_1 f0_2 : Int) (f0_3 : Option Addr) (f0_3l f0_3c : Nat) (w : World) : Prop :=
  ∀ q1 : Nat, w.heap.size ≤ q1 →
CallK Try.prog 84 [.agg ⟨[.int .i64 f0, .int .i64 f0_1, .int .i64 f0_2, .slice f0_3 f0_3l f0_3c]⟩] B w [q1] fun v w_1 => 
  ∃ b11 : Bool, v = .bool b11 ∧
  if b11 = true
  then (Ret B w_1 (R (.int .i64 (IntKind.wrap .i64 (IntKind.wrap .i64 (IntKind.wrap .i64 (7 + (if 8 < (if 0 > f0_1 then 0 else f0_1) then 8 else (if 0 > f0_1 then 0 else f0_1))) + 8) + 16)))))
  else (Ret B w_1 (R (.int .i64 (IntKind.wrap .i64 (IntKind.wrap .i64 (7 + (if 8 < (if 0 > f0_1 then 0 else f0_1) then 8 else (if 0 > f0_1 then 0 else f0_1))) + 8)))))
noncomputable def V33.cfg (B : Nat) : Cfg := ⟨Try.prog, ⟨15, B⟩, [], hasN [84], hasN []⟩
noncomputable def V33.code : Code := (Try.f33.body).getD .skip
noncomputable def V33.cuts (B : Nat) (R : Value → World → Prop) : Nat → Cut := nthC []
noncomputable def V33.h : H := .s (.z) (.s (.z) (.s (.s (.z) (.c (.z) (.z))) (.s (.z) (.z))))
theorem V33.vc_eq (B : Nat) (R : Value → World → Prop) (f0 f0_1 f0_2 : Int) (f0_3 : Option Addr) (f0_3l f0_3c : Nat) (w : World) : wpf (V33.cfg B) (V33.cuts B R) V33.code V33.h [] (postOf Try.prog B (Try.f33.results.toList) R) (argE 0 [.agg ⟨[.int .i64 f0, .int .i64 f0_1, .int .i64 f0_2, .slice f0_3 f0_3l f0_3c]⟩]) [] w = V33.vc B R f0 f0_1 f0_2 f0_3 f0_3l f0_3c w := by kernel_rfl
theorem V33.obl (B : Nat) (R : Value → World → Prop) : oblP (V33.cfg B) (V33.cuts B R) V33.code V33.h [] (postOf Try.prog B (Try.f33.results.toList) R) := by
  have e : oblP (V33.cfg B) (V33.cuts B R) V33.code V33.h [] (postOf Try.prog B (Try.f33.results.toList) R) = (True ∧ (True ∧ ((True ∧ (True ∧ True)) ∧ (True ∧ True)))) := by kernel_rfl
  rw [e]
  exact ⟨trivial, ⟨trivial, ⟨⟨trivial, ⟨trivial, trivial⟩⟩, ⟨trivial, trivial⟩⟩⟩⟩
theorem V33.cfgOk (B : Nat) : CfgOk (V33.cfg B) := cfgOk_of (by kernel_rfl) (by kernel_rfl)
theorem V33.sound {f0 f0_1 f0_2 : Int} {f0_3 : Option Addr} {f0_3l f0_3c : Nat} {w : World} {R : Value → World → Prop} (h : V33.vc w.heap.size R f0 f0_1 f0_2 f0_3 f0_3l f0_3c w) : Calls Try.prog 33 ⟨[.agg ⟨[.int .i64 f0, .int .i64 f0_1, .int .i64 f0_2, .slice f0_3 f0_3l f0_3c]⟩]⟩ w fun e w' => ∃ v, e = .returned v ∧ R v w' :=
  calls_wpfP (c := V33.cfg w.heap.size) (fn := Try.f33) (x := V33.code) (V33.cuts w.heap.size R) V33.h (V33.cfgOk _) mixed Try.func33 (by kernel_rfl) (by kernel_rfl) (by kernel_rfl) rfl (V33.obl _ _) ((V33.vc_eq _ _ f0 f0_1 f0_2 f0_3 f0_3l f0_3c _).symm ▸ h)

/-! function 82 -/
def V82.vc (B : Nat) (R : Value → World → Prop) (p0 : Option Addr) (p0l p0c : Nat) (f1 : Int) (w : World) : Prop :=
  ∀ q2 : Nat, w.heap.size ≤ q2 →
if (decide (f1 < 0)) = false
  then (if (decide (f1 ≥ (p0l : Int))) = true
   then (Ret B w (R (.int .i64 0)))
   else (∃ p17 : Addr, p0 = some p17 ∧ (0 : Int) ≤ f1 ∧ f1 < (p0l : Int) ∧
   ∃ x19 : Int, w.cell? ((p17.add (f1.toNat * 4)).add 0) = some (.int .i64 x19) ∧
   Ret B w (R (.int .i64 (if 0 > x19 then 0 else x19)))))
  else (Ret B w (R (.int .i64 0)))
noncomputable def V82.cfg (B : Nat) : Cfg := ⟨Try.prog, ⟨21, B⟩, [], hasN [], hasN []⟩
noncomputable def V82.code : Code := (Try.f82.body).getD .skip
noncomputable def V82.cuts (B : Nat) (R : Value → World → Prop) : Nat → Cut := nthC []
noncomputable def V82.h : H := .s (.z) (.s (.s (.z) (.c (.s (.z) (.z)) (.z))) (.s (.z) (.z)))
theorem V82.vc_eq (B : Nat) (R : Value → World → Prop) (p0 : Option Addr) (p0l p0c : Nat) (f1 : Int) (w : World) : wpf (V82.cfg B) (V82.cuts B R) V82.code V82.h [] (postOf Try.prog B (Try.f82.results.toList) R) (argE 0 [.agg ⟨[.slice p0 p0l p0c]⟩, .int .i64 f1]) [] w = V82.vc B R p0 p0l p0c f1 w := by kernel_rfl
theorem V82.obl (B : Nat) (R : Value → World → Prop) : oblP (V82.cfg B) (V82.cuts B R) V82.code V82.h [] (postOf Try.prog B (Try.f82.results.toList) R) := by
  have e : oblP (V82.cfg B) (V82.cuts B R) V82.code V82.h [] (postOf Try.prog B (Try.f82.results.toList) R) = (True ∧ ((True ∧ ((True ∧ True) ∧ True)) ∧ (True ∧ True))) := by kernel_rfl
  rw [e]
  exact ⟨trivial, ⟨⟨trivial, ⟨⟨trivial, trivial⟩, trivial⟩⟩, ⟨trivial, trivial⟩⟩⟩
theorem V82.cfgOk (B : Nat) : CfgOk (V82.cfg B) := cfgOk_of (by kernel_rfl) (by kernel_rfl)
theorem V82.sound {p0 : Option Addr} {p0l p0c : Nat} {f1 : Int} {w : World} {R : Value → World → Prop} (h : V82.vc w.heap.size R p0 p0l p0c f1 w) : Calls Try.prog 82 ⟨[.agg ⟨[.slice p0 p0l p0c]⟩, .int .i64 f1]⟩ w fun e w' => ∃ v, e = .returned v ∧ R v w' :=
  calls_wpfP (c := V82.cfg w.heap.size) (fn := Try.f82) (x := V82.code) (V82.cuts w.heap.size R) V82.h (V82.cfgOk _) mixed Try.func82 (by kernel_rfl) (by kernel_rfl) (by kernel_rfl) rfl (V82.obl _ _) ((V82.vc_eq _ _ p0 p0l p0c f1 _).symm ▸ h)

/-! function 83 -/
def V83.b3 (B : Nat) (R : Value → World → Prop) (x6 : Int) (b42 : Bool) (w : World) : Prop :=
  if b42 = true
  then (Ret B w (R (.tuple ⟨[.int .i64 6, .int .i64 0, .int .i64 0, .bool true]⟩)))
  else (if (x6 == 24) = true
   then (Ret B w (R (.tuple ⟨[.int .i64 7, .int .i64 0, .int .i64 0, .bool true]⟩)))
   else (if (x6 == 26) = true
    then (Ret B w (R (.tuple ⟨[.int .i64 0, .int .i64 0, .int .i64 0, .bool true]⟩)))
    else (Ret B w (R (.tuple ⟨[.int .i64 0, .int .i64 0, .int .i64 0, .bool false]⟩)))))
def V83.b2 (B : Nat) (R : Value → World → Prop) (x6 : Int) (b33 : Bool) (w : World) : Prop :=
  if b33 = true
  then (Ret B w (R (.tuple ⟨[.int .i64 0, .int .i64 1, .int .i64 0, .bool true]⟩)))
  else (if (x6 == 19) = true
   then (Ret B w (R (.tuple ⟨[.int .i64 5, .int .i64 (-1), .int .i64 0, .bool true]⟩)))
   else (if (x6 == 21) = true
    then (Ret B w (R (.tuple ⟨[.int .i64 0, .int .i64 0, .int .i64 2, .bool true]⟩)))
    else (if (x6 == 23) = true
     then (V83.b3 B R x6 (x6 == 23) w)
     else (V83.b3 B R x6 (x6 == 25) w))))
def V83.b1 (B : Nat) (R : Value → World → Prop) (x6 : Int) (b24 : Bool) (w : World) : Prop :=
  if b24 = true
  then (Ret B w (R (.tuple ⟨[.int .i64 0, .int .i64 1, .int .i64 1, .bool true]⟩)))
  else (if (x6 == 15) = true
   then (Ret B w (R (.tuple ⟨[.int .i64 4, .int .i64 0, .int .i64 0, .bool true]⟩)))
   else (if (x6 == 16) = true
    then (Ret B w (R (.tuple ⟨[.int .i64 4, .int .i64 1, .int .i64 0, .bool true]⟩)))
    else (if (x6 == 17) = true
     then (Ret B w (R (.tuple ⟨[.int .i64 5, .int .i64 (-1), .int .i64 1, .bool true]⟩)))
     else (if (x6 == 18) = true
      then (V83.b2 B R x6 (x6 == 18) w)
      else (if (x6 == 20) = true
       then (V83.b2 B R x6 (x6 == 20) w)
       else (if (x6 == 22) = true
        then (V83.b2 B R x6 (x6 == 22) w)
        else (V83.b2 B R x6 (x6 == 27) w)))))))
def V83.b0 (B : Nat) (R : Value → World → Prop) (x6 : Int) (b15 : Bool) (w : World) : Prop :=
  if b15 = true
  then (Ret B w (R (.tuple ⟨[.int .i64 0, .int .i64 2, .int .i64 1, .bool true]⟩)))
  else (if (x6 == 9) = true
   then (V83.b1 B R x6 (x6 == 9) w)
   else (V83.b1 B R x6 (x6 == 10) w))
def V83.vc (B : Nat) (R : Value → World → Prop) (op0 : Int) (w : World) : Prop :=
  if (op0 == 1) = true
  then (Ret B w (R (.tuple ⟨[.int .i64 1, .int .i64 0, .int .i64 1, .bool true]⟩)))
  else (if (op0 == 2) = true
   then (Ret B w (R (.tuple ⟨[.int .i64 2, .int .i64 0, .int .i64 1, .bool true]⟩)))
   else (if (op0 == 3) = true
    then (Ret B w (R (.tuple ⟨[.int .i64 3, .int .i64 0, .int .i64 1, .bool true]⟩)))
    else (if (op0 == 4) = true
     then (Ret B w (R (.tuple ⟨[.int .i64 3, .int .i64 1, .int .i64 0, .bool true]⟩)))
     else (if (op0 == 5) = true
      then (V83.b0 B R op0 (op0 == 5) w)
      else (if (op0 == 6) = true
       then (V83.b0 B R op0 (op0 == 6) w)
       else (if (op0 == 7) = true
        then (V83.b0 B R op0 (op0 == 7) w)
        else (if (op0 == 8) = true
         then (V83.b0 B R op0 (op0 == 8) w)
         else (if (op0 == 11) = true
          then (V83.b0 B R op0 (op0 == 11) w)
          else (if (op0 == 12) = true
           then (V83.b0 B R op0 (op0 == 12) w)
           else (if (op0 == 13) = true
            then (V83.b0 B R op0 (op0 == 13) w)
            else (V83.b0 B R op0 (op0 == 14) w)))))))))))
noncomputable def V83.cfg (B : Nat) : Cfg := ⟨Try.prog, ⟨49, B⟩, [], hasN [], hasN []⟩
noncomputable def V83.code : Code := (Try.f83.body).getD .skip
noncomputable def V83.cuts (B : Nat) (R : Value → World → Prop) : Nat → Cut := nthC [⟨[(6, .one (.int .i64)), (15, .one (.bool))], [], fun fs vs bs w => V83.b0 B R (iV (nthV vs 0)) (bV (nthV vs 1)) w⟩,
  ⟨[(6, .one (.int .i64)), (24, .one (.bool))], [], fun fs vs bs w => V83.b1 B R (iV (nthV vs 0)) (bV (nthV vs 1)) w⟩,
  ⟨[(6, .one (.int .i64)), (33, .one (.bool))], [], fun fs vs bs w => V83.b2 B R (iV (nthV vs 0)) (bV (nthV vs 1)) w⟩,
  ⟨[(6, .one (.int .i64)), (42, .one (.bool))], [], fun fs vs bs w => V83.b3 B R (iV (nthV vs 0)) (bV (nthV vs 1)) w⟩]
noncomputable def V83.h : H := .s (.z) (.s (.s (.z) (.b (.s (.z) (.c (.s (.z) (.z)) (.s (.z) (.c (.s (.z) (.z)) (.s (.z) (.c (.s (.z) (.z)) (.s (.z) (.c (.s (.z) (.z)) (.cut 0 (.s (.z) (.c (.z) (.s (.z) (.c (.z) (.s (.z) (.c (.z) (.s (.z) (.c (.z) (.s (.z) (.c (.z) (.s (.z) (.c (.z) (.s (.z) (.c (.z) (.z))))))))))))))) (.c (.s (.z) (.z)) (.cut 1 (.s (.z) (.c (.z) (.z))) (.c (.s (.z) (.z)) (.s (.z) (.c (.s (.z) (.z)) (.s (.z) (.c (.s (.z) (.z)) (.s (.z) (.c (.s (.z) (.z)) (.cut 2 (.s (.z) (.c (.z) (.s (.z) (.c (.z) (.s (.z) (.c (.z) (.z))))))) (.c (.s (.z) (.z)) (.s (.z) (.c (.s (.z) (.z)) (.s (.z) (.c (.s (.z) (.z)) (.cut 3 (.s (.z) (.c (.z) (.z))) (.c (.s (.z) (.z)) (.s (.z) (.c (.s (.z) (.z)) (.s (.z) (.c (.s (.z) (.z)) (.z))))))))))))))))))))))))))))))))) (.s (.z) (.z)))
theorem V83.vc_eq (B : Nat) (R : Value → World → Prop) (op0 : Int) (w : World) : wpf (V83.cfg B) (V83.cuts B R) V83.code V83.h [] (postOf Try.prog B (Try.f83.results.toList) R) (argE 0 [.int .i64 op0]) [] w = V83.vc B R op0 w := by kernel_rfl
theorem V83.obl (B : Nat) (R : Value → World → Prop) : oblP (V83.cfg B) (V83.cuts B R) V83.code V83.h [] (postOf Try.prog B (Try.f83.results.toList) R) := by
  have e : oblP (V83.cfg B) (V83.cuts B R) V83.code V83.h [] (postOf Try.prog B (Try.f83.results.toList) R) = (True ∧ ((True ∧ (True ∧ ((True ∧ True) ∧ (True ∧ ((True ∧ True) ∧ (True ∧ ((True ∧ True) ∧ (True ∧ ((True ∧ True) ∧ ((True ∧ (True ∧ (True ∧ (True ∧ (True ∧ (True ∧ (True ∧ (True ∧ (True ∧ (True ∧ (True ∧ (True ∧ (True ∧ (True ∧ True)))))))))))))) ∧ (∀ (x6 : Int) (b15 : Bool) (w : World), V83.b0 B R x6 b15 w → V83.b0 B R x6 b15 w) ∧ ((True ∧ True) ∧ ((True ∧ (True ∧ True)) ∧ (∀ (x6 : Int) (b24 : Bool) (w : World), V83.b1 B R x6 b24 w → V83.b1 B R x6 b24 w) ∧ ((True ∧ True) ∧ (True ∧ ((True ∧ True) ∧ (True ∧ ((True ∧ True) ∧ (True ∧ ((True ∧ True) ∧ ((True ∧ (True ∧ (True ∧ (True ∧ (True ∧ (True ∧ True)))))) ∧ (∀ (x6 : Int) (b33 : Bool) (w : World), V83.b2 B R x6 b33 w → V83.b2 B R x6 b33 w) ∧ ((True ∧ True) ∧ (True ∧ ((True ∧ True) ∧ (True ∧ ((True ∧ True) ∧ ((True ∧ (True ∧ True)) ∧ (∀ (x6 : Int) (b42 : Bool) (w : World), V83.b3 B R x6 b42 w → V83.b3 B R x6 b42 w) ∧ ((True ∧ True) ∧ (True ∧ ((True ∧ True) ∧ (True ∧ ((True ∧ True) ∧ True))))))))))))))))))))))))))))))) ∧ (True ∧ True))) := by kernel_rfl
  rw [e]
  exact ⟨trivial, ⟨⟨trivial, ⟨trivial, ⟨⟨trivial, trivial⟩, ⟨trivial, ⟨⟨trivial, trivial⟩, ⟨trivial, ⟨⟨trivial, trivial⟩, ⟨trivial, ⟨⟨trivial, trivial⟩, ⟨⟨trivial, ⟨trivial, ⟨trivial, ⟨trivial, ⟨trivial, ⟨trivial, ⟨trivial, ⟨trivial, ⟨trivial, ⟨trivial, ⟨trivial, ⟨trivial, ⟨trivial, ⟨trivial, trivial⟩⟩⟩⟩⟩⟩⟩⟩⟩⟩⟩⟩⟩⟩, fun x6 b15 w h => h, ⟨⟨trivial, trivial⟩, ⟨⟨trivial, ⟨trivial, trivial⟩⟩, fun x6 b24 w h => h, ⟨⟨trivial, trivial⟩, ⟨trivial, ⟨⟨trivial, trivial⟩, ⟨trivial, ⟨⟨trivial, trivial⟩, ⟨trivial, ⟨⟨trivial, trivial⟩, ⟨⟨trivial, ⟨trivial, ⟨trivial, ⟨trivial, ⟨trivial, ⟨trivial, trivial⟩⟩⟩⟩⟩⟩, fun x6 b33 w h => h, ⟨⟨trivial, trivial⟩, ⟨trivial, ⟨⟨trivial, trivial⟩, ⟨trivial, ⟨⟨trivial, trivial⟩, ⟨⟨trivial, ⟨trivial, trivial⟩⟩, fun x6 b42 w h => h, ⟨⟨trivial, trivial⟩, ⟨trivial, ⟨⟨trivial, trivial⟩, ⟨trivial, ⟨⟨trivial, trivial⟩, trivial⟩⟩⟩⟩⟩⟩⟩⟩⟩⟩⟩⟩⟩⟩⟩⟩⟩⟩⟩⟩⟩⟩⟩⟩⟩⟩⟩⟩⟩⟩⟩, ⟨trivial, trivial⟩⟩⟩
theorem V83.cfgOk (B : Nat) : CfgOk (V83.cfg B) := cfgOk_of (by kernel_rfl) (by kernel_rfl)
theorem V83.sound {op0 : Int} {w : World} {R : Value → World → Prop} (h : V83.vc w.heap.size R op0 w) : Calls Try.prog 83 ⟨[.int .i64 op0]⟩ w fun e w' => ∃ v, e = .returned v ∧ R v w' :=
  calls_wpfP (c := V83.cfg w.heap.size) (fn := Try.f83) (x := V83.code) (V83.cuts w.heap.size R) V83.h (V83.cfgOk _) mixed Try.func83 (by kernel_rfl) (by kernel_rfl) (by kernel_rfl) rfl (V83.obl _ _) ((V83.vc_eq _ _ op0 _).symm ▸ h)

/-! function 84 -/
def V84.l0 (B : Nat) (R : Value → World → Prop) : Nat → Int → Nat → Int → Int → Int → Option Addr → Nat → Nat → World → Prop
  | 0 => fun _ _ _ _ _ _ _ _ _ => False
  | k + 1 => fun i3 q1 f1 f1_1 f1_2 f1_3 f1_3l f1_3c w =>
    if (decide (i3 < (f1_3l : Int))) = true
    then (∃ p14 : Addr, f1_3 = some p14 ∧ (0 : Int) ≤ i3 ∧ i3 < (f1_3l : Int) ∧
    ∃ x16 : Int, w.cell? ((p14.add (i3.toNat * 3)).add 0) = some (.int .i64 x16) ∧
    if (x16 == 19) = true
     then (Ret B w (R (.bool true)))
     else ((V84.l0 B R k) (IntKind.wrap .i64 (i3 + 1)) q1 f1 f1_1 f1_2 f1_3 f1_3l f1_3c w))
    else (Ret B w (R (.bool false)))
def V84.vc (B : Nat) (R : Value → World → Prop) (f0 f0_1 f0_2 : Int) (f0_3 : Option Addr) (f0_3l f0_3c : Nat) (w : World) : Prop :=
  ∀ q1 : Nat, w.heap.size ≤ q1 →
∃ k_1, V84.l0 B R k_1 0 q1 f0 f0_1 f0_2 f0_3 f0_3l f0_3c w
noncomputable def V84.cfg (B : Nat) : Cfg := ⟨Try.prog, ⟨18, B⟩, [], hasN [], hasN []⟩
noncomputable def V84.code : Code := (Try.f84.body).getD .skip
noncomputable def V84.cuts (B : Nat) (R : Value → World → Prop) : Nat → Cut := nthC [⟨[(3, .one (.int .i64))], [(1, 29, [.int .i64, .int .i64, .int .i64, .slice])], fun fs vs bs w => V84.l0 B R (nthN fs 0) (iV (nthV vs 0)) (nthB bs 0).blk (iV (nthV (nthB bs 0).cells 0)) (iV (nthV (nthB bs 0).cells 1)) (iV (nthV (nthB bs 0).cells 2)) (slA (nthV (nthB bs 0).cells 3)) (slL (nthV (nthB bs 0).cells 3)) (slC (nthV (nthB bs 0).cells 3)) w⟩]
noncomputable def V84.h : H := .s (.z) (.s (.s (.z) (.b (.l 0 (.s (.s (.z) (.c (.z) (.z))) (.s (.b (.s (.z) (.c (.s (.z) (.z)) (.z)))) (.z)))))) (.s (.z) (.z)))
theorem V84.vc_eq (B : Nat) (R : Value → World → Prop) (f0 f0_1 f0_2 : Int) (f0_3 : Option Addr) (f0_3l f0_3c : Nat) (w : World) : wpf (V84.cfg B) (V84.cuts B R) V84.code V84.h [] (postOf Try.prog B (Try.f84.results.toList) R) (argE 0 [.agg ⟨[.int .i64 f0, .int .i64 f0_1, .int .i64 f0_2, .slice f0_3 f0_3l f0_3c]⟩]) [] w = V84.vc B R f0 f0_1 f0_2 f0_3 f0_3l f0_3c w := by kernel_rfl
theorem V84.obl (B : Nat) (R : Value → World → Prop) : oblP (V84.cfg B) (V84.cuts B R) V84.code V84.h [] (postOf Try.prog B (Try.f84.results.toList) R) := by
  have e : oblP (V84.cfg B) (V84.cuts B R) V84.code V84.h [] (postOf Try.prog B (Try.f84.results.toList) R) = (True ∧ ((True ∧ ((∀ (i3 : Int) (q1 : Nat) (f1 f1_1 f1_2 : Int) (f1_3 : Option Addr) (f1_3l f1_3c : Nat) (w : World), ¬ V84.l0 B R 0 i3 q1 f1 f1_1 f1_2 f1_3 f1_3l f1_3c w) ∧ (∀ k0, ∀ (i3 : Int) (q1 : Nat) (f1 f1_1 f1_2 : Int) (f1_3 : Option Addr) (f1_3l f1_3c : Nat) (w : World), V84.l0 B R (k0 + 1) i3 q1 f1 f1_1 f1_2 f1_3 f1_3l f1_3c w → V84.l0 B R (k0 + 1) i3 q1 f1 f1_1 f1_2 f1_3 f1_3l f1_3c w) ∧ ∀ k0 : Nat, ((True ∧ (True ∧ True)) ∧ ((True ∧ ((True ∧ True) ∧ True)) ∧ True)))) ∧ (True ∧ True))) := by kernel_rfl
  rw [e]
  exact ⟨trivial, ⟨⟨trivial, ⟨fun i3 q1 f1 f1_1 f1_2 f1_3 f1_3l f1_3c w h => h, fun _ i3 q1 f1 f1_1 f1_2 f1_3 f1_3l f1_3c w h => h, fun k0 => ⟨⟨trivial, ⟨trivial, trivial⟩⟩, ⟨⟨trivial, ⟨⟨trivial, trivial⟩, trivial⟩⟩, trivial⟩⟩⟩⟩, ⟨trivial, trivial⟩⟩⟩
theorem V84.cfgOk (B : Nat) : CfgOk (V84.cfg B) := cfgOk_of (by kernel_rfl) (by kernel_rfl)
theorem V84.sound {f0 f0_1 f0_2 : Int} {f0_3 : Option Addr} {f0_3l f0_3c : Nat} {w : World} {R : Value → World → Prop} (h : V84.vc w.heap.size R f0 f0_1 f0_2 f0_3 f0_3l f0_3c w) : Calls Try.prog 84 ⟨[.agg ⟨[.int .i64 f0, .int .i64 f0_1, .int .i64 f0_2, .slice f0_3 f0_3l f0_3c]⟩]⟩ w fun e w' => ∃ v, e = .returned v ∧ R v w' :=
  calls_wpfP (c := V84.cfg w.heap.size) (fn := Try.f84) (x := V84.code) (V84.cuts w.heap.size R) V84.h (V84.cfgOk _) mixed Try.func84 (by kernel_rfl) (by kernel_rfl) (by kernel_rfl) rfl (V84.obl _ _) ((V84.vc_eq _ _ f0 f0_1 f0_2 f0_3 f0_3l f0_3c _).symm ▸ h)

/-! function 89 -/
def V89.b1 (B : Nat) (R : Value → World → Prop) (b12 : Bool) (q1 : Nat) (f1 f1_1 f1_2 : Int) (f1_3 : Option Addr) (f1_3l f1_3c : Nat) (w : World) : Prop :=
  if b12 = true
  then (Ret B w (R (.bool false)))
  else (if (decide (f1_2 < 0)) = false
   then (if (decide (f1_2 > IntKind.wrap .i64 (f1_1 - f1))) = true
    then (Ret B w (R (.bool false)))
    else (if (decide ((f1_3l : Int) ≥ 1)) = true
     then (Ret B w (R (.bool (decide ((f1_3l : Int) ≤ 64)))))
     else (Ret B w (R (.bool false)))))
   else (Ret B w (R (.bool false))))
def V89.b0 (B : Nat) (R : Value → World → Prop) (b3 : Bool) (q1 : Nat) (f1 f1_1 f1_2 : Int) (f1_3 : Option Addr) (f1_3l f1_3c : Nat) (w : World) : Prop :=
  if b3 = true
  then (Ret B w (R (.bool false)))
  else (if (decide (f1_1 < f1)) = false
   then (V89.b1 B R (decide (f1_1 > 8)) q1 f1 f1_1 f1_2 f1_3 f1_3l f1_3c w)
   else (V89.b1 B R true q1 f1 f1_1 f1_2 f1_3 f1_3l f1_3c w))
def V89.vc (B : Nat) (R : Value → World → Prop) (f0 f0_1 f0_2 : Int) (f0_3 : Option Addr) (f0_3l f0_3c : Nat) (w : World) : Prop :=
  ∀ q1 : Nat, w.heap.size ≤ q1 →
if (decide (f0 < 0)) = false
  then (V89.b0 B R (decide (f0 > 3)) q1 f0 f0_1 f0_2 f0_3 f0_3l f0_3c w)
  else (V89.b0 B R true q1 f0 f0_1 f0_2 f0_3 f0_3l f0_3c w)
noncomputable def V89.cfg (B : Nat) : Cfg := ⟨Try.prog, ⟨47, B⟩, [], hasN [], hasN []⟩
noncomputable def V89.code : Code := (Try.f89.body).getD .skip
noncomputable def V89.cuts (B : Nat) (R : Value → World → Prop) : Nat → Cut := nthC [⟨[(3, .one (.bool))], [(1, 29, [.int .i64, .int .i64, .int .i64, .slice])], fun fs vs bs w => V89.b0 B R (bV (nthV vs 0)) (nthB bs 0).blk (iV (nthV (nthB bs 0).cells 0)) (iV (nthV (nthB bs 0).cells 1)) (iV (nthV (nthB bs 0).cells 2)) (slA (nthV (nthB bs 0).cells 3)) (slL (nthV (nthB bs 0).cells 3)) (slC (nthV (nthB bs 0).cells 3)) w⟩,
  ⟨[(12, .one (.bool))], [(1, 29, [.int .i64, .int .i64, .int .i64, .slice])], fun fs vs bs w => V89.b1 B R (bV (nthV vs 0)) (nthB bs 0).blk (iV (nthV (nthB bs 0).cells 0)) (iV (nthV (nthB bs 0).cells 1)) (iV (nthV (nthB bs 0).cells 2)) (slA (nthV (nthB bs 0).cells 3)) (slL (nthV (nthB bs 0).cells 3)) (slC (nthV (nthB bs 0).cells 3)) w⟩]
noncomputable def V89.h : H := .s (.z) (.s (.b (.cut 0 (.z) (.c (.s (.z) (.z)) (.cut 1 (.z) (.c (.s (.z) (.z)) (.s (.z) (.c (.s (.z) (.z)) (.z)))))))) (.s (.z) (.z)))
theorem V89.vc_eq (B : Nat) (R : Value → World → Prop) (f0 f0_1 f0_2 : Int) (f0_3 : Option Addr) (f0_3l f0_3c : Nat) (w : World) : wpf (V89.cfg B) (V89.cuts B R) V89.code V89.h [] (postOf Try.prog B (Try.f89.results.toList) R) (argE 0 [.agg ⟨[.int .i64 f0, .int .i64 f0_1, .int .i64 f0_2, .slice f0_3 f0_3l f0_3c]⟩]) [] w = V89.vc B R f0 f0_1 f0_2 f0_3 f0_3l f0_3c w := by kernel_rfl
theorem V89.obl (B : Nat) (R : Value → World → Prop) : oblP (V89.cfg B) (V89.cuts B R) V89.code V89.h [] (postOf Try.prog B (Try.f89.results.toList) R) := by
  have e : oblP (V89.cfg B) (V89.cuts B R) V89.code V89.h [] (postOf Try.prog B (Try.f89.results.toList) R) = (True ∧ ((True ∧ (∀ (b3 : Bool) (q1 : Nat) (f1 f1_1 f1_2 : Int) (f1_3 : Option Addr) (f1_3l f1_3c : Nat) (w : World), V89.b0 B R b3 q1 f1 f1_1 f1_2 f1_3 f1_3l f1_3c w → V89.b0 B R b3 q1 f1 f1_1 f1_2 f1_3 f1_3l f1_3c w) ∧ ((True ∧ True) ∧ (True ∧ (∀ (b12 : Bool) (q1 : Nat) (f1 f1_1 f1_2 : Int) (f1_3 : Option Addr) (f1_3l f1_3c : Nat) (w : World), V89.b1 B R b12 q1 f1 f1_1 f1_2 f1_3 f1_3l f1_3c w → V89.b1 B R b12 q1 f1 f1_1 f1_2 f1_3 f1_3l f1_3c w) ∧ ((True ∧ True) ∧ (True ∧ ((True ∧ True) ∧ True)))))) ∧ (True ∧ True))) := by kernel_rfl
  rw [e]
  exact ⟨trivial, ⟨⟨trivial, fun b3 q1 f1 f1_1 f1_2 f1_3 f1_3l f1_3c w h => h, ⟨⟨trivial, trivial⟩, ⟨trivial, fun b12 q1 f1 f1_1 f1_2 f1_3 f1_3l f1_3c w h => h, ⟨⟨trivial, trivial⟩, ⟨trivial, ⟨⟨trivial, trivial⟩, trivial⟩⟩⟩⟩⟩⟩, ⟨trivial, trivial⟩⟩⟩
theorem V89.cfgOk (B : Nat) : CfgOk (V89.cfg B) := cfgOk_of (by kernel_rfl) (by kernel_rfl)
theorem V89.sound {f0 f0_1 f0_2 : Int} {f0_3 : Option Addr} {f0_3l f0_3c : Nat} {w : World} {R : Value → World → Prop} (h : V89.vc w.heap.size R f0 f0_1 f0_2 f0_3 f0_3l f0_3c w) : Calls Try.prog 89 ⟨[.agg ⟨[.int .i64 f0, .int .i64 f0_1, .int .i64 f0_2, .slice f0_3 f0_3l f0_3c]⟩]⟩ w fun e w' => ∃ v, e = .returned v ∧ R v w' :=
  calls_wpfP (c := V89.cfg w.heap.size) (fn := Try.f89) (x := V89.code) (V89.cuts w.heap.size R) V89.h (V89.cfgOk _) mixed Try.func89 (by kernel_rfl) (by kernel_rfl) (by kernel_rfl) rfl (V89.obl _ _) ((V89.vc_eq _ _ f0 f0_1 f0_2 f0_3 f0_3l f0_3c _).symm ▸ h)
end Go.Proofs.Ytlccbaemcfjdoaa
