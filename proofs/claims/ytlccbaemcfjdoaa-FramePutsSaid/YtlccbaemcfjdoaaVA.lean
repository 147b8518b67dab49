/-
  What the engine makes of the loaded functions 3, 5, 28, 29, 30, 31, 32, 33, 34, 36, 37, 38, 40, 82, 83, 84, 87, 88, 89, 90, 91, 118, 119, 120, 121, 122, 123: conditions under which a call returns as told, and proofs of that.
  Conditions: none. Printed by a program of this project.
-/
import Derived.Test.YtlccbaemcfjdoaaEngC
import Derived.Test.YtlccbaemcfjdoaaProg
set_option linter.unusedVariables false
set_option maxRecDepth 100000
namespace Go.Proofs.Ytlccbaemcfjdoaa
theorem mixed : Try.prog.follows .mixedOrders = true := by kernel_rfl

/-! function 3 -/
def V3.vc (B : Nat) (R : Value → World → Prop) (p0 : Option Addr) (p0l p0c : Nat) (i1 i1_1 i1_2 f2 f2_1 f2_2 : Int) (f2_3 : Option Addr) (f2_3l f2_3c : Nat) (w : World) : Prop :=
  ∀ q3 : Nat, w.heap.size ≤ q3 →
∀ q4 : Nat, w.heap.size ≤ q4 →
∀ q5 : Nat, w.heap.size ≤ q5 →
CallK Try.prog 28 [.agg ⟨[.slice p0 p0l p0c]⟩, .agg ⟨[.int .i64 i1, .int .i64 i1_1, .int .i64 i1_2]⟩] B w [q5, q4, q3] fun v w_1 => 
  ∃ x9 : Int, v = .int .i64 x9 ∧
  CallK Try.prog 29 [.agg ⟨[.slice p0 p0l p0c]⟩, .agg ⟨[.int .i64 i1, .int .i64 i1_1, .int .i64 i1_2]⟩] B w_1 [q5, q4, q3] fun v_1 w_2 => 
  ∃ x12 : Int, v_1 = .int .i64 x12 ∧
  if (x9 == x12) = true
  then (CallK Try.prog 30 [.agg ⟨[.int .i64 i1, .int .i64 i1_1, .int .i64 i1_2]⟩] B w_2 [q5, q4, q3] fun v_2 w_3 => 
   ∃ x16 : Int, v_2 = .int .i64 x16 ∧
   CallK Try.prog 31 [.agg ⟨[.int .i64 i1, .int .i64 i1_1, .int .i64 i1_2]⟩] B w_3 [q5, q4, q3] fun v_3 w_4 => 
   ∃ x18 : Int, v_3 = .int .i64 x18 ∧
   if (x16 == x18) = true
   then (CallK Try.prog 32 [.agg ⟨[.int .i64 f2, .int .i64 f2_1, .int .i64 f2_2, .slice f2_3 f2_3l f2_3c]⟩] B w_4 [q5, q4, q3] fun v_4 w_5 => 
    ∃ x23 : Int, v_4 = .int .i64 x23 ∧
    CallK Try.prog 33 [.agg ⟨[.int .i64 f2, .int .i64 f2_1, .int .i64 f2_2, .slice f2_3 f2_3l f2_3c]⟩] B w_5 [q5, q4, q3] fun v_5 w_6 => 
    ∃ x25 : Int, v_5 = .int .i64 x25 ∧
    if (x23 == x25) = true
    then (CallK Try.prog 34 [] B w_6 [q5, q4, q3] fun v_6 w_7 => 
     ∃ b29 : Bool, v_6 = .bool b29 ∧
     Ret B w_7 (R (.bool b29)))
    else (Ret B w_6 (R (.bool false))))
   else (Ret B w_4 (R (.bool false))))
  else (Ret B w_2 (R (.bool false)))
noncomputable def V3.cfg (B : Nat) : Cfg := ⟨Try.prog, ⟨31, B⟩, [], hasN [28, 29, 30, 31, 32, 33, 34], hasN []⟩
noncomputable def V3.code : Code := (Try.f3.body).getD .skip
noncomputable def V3.cuts (B : Nat) (R : Value → World → Prop) : Nat → Cut := nthC []
noncomputable def V3.h : H := .s (.z) (.s (.r [[0, 1, 3, 4, 2, 5, 6, 7, 8, 10, 9, 11, 12, 13, 14, 15, 17, 16, 18, 19, 20, 21, 22, 23, 24]]) (.z))
theorem V3.vc_eq (B : Nat) (R : Value → World → Prop) (p0 : Option Addr) (p0l p0c : Nat) (i1 i1_1 i1_2 f2 f2_1 f2_2 : Int) (f2_3 : Option Addr) (f2_3l f2_3c : Nat) (w : World) : wpf (V3.cfg B) (V3.cuts B R) V3.code V3.h [] (postOf Try.prog B (Try.f3.results.toList) R) (argE 0 [.agg ⟨[.slice p0 p0l p0c]⟩, .agg ⟨[.int .i64 i1, .int .i64 i1_1, .int .i64 i1_2]⟩, .agg ⟨[.int .i64 f2, .int .i64 f2_1, .int .i64 f2_2, .slice f2_3 f2_3l f2_3c]⟩]) [] w = V3.vc B R p0 p0l p0c i1 i1_1 i1_2 f2 f2_1 f2_2 f2_3 f2_3l f2_3c w := by kernel_rfl
theorem V3.obl (B : Nat) (R : Value → World → Prop) : oblP (V3.cfg B) (V3.cuts B R) V3.code V3.h [] (postOf Try.prog B (Try.f3.results.toList) R) := by
  have e : oblP (V3.cfg B) (V3.cuts B R) V3.code V3.h [] (postOf Try.prog B (Try.f3.results.toList) R) = (True ∧ ((true = true) ∧ True)) := by kernel_rfl
  rw [e]
  exact ⟨trivial, ⟨rfl, trivial⟩⟩
theorem V3.cfgOk (B : Nat) : CfgOk (V3.cfg B) := cfgOk_of (by kernel_rfl) (by kernel_rfl)
theorem V3.sound {p0 : Option Addr} {p0l p0c : Nat} {i1 i1_1 i1_2 f2 f2_1 f2_2 : Int} {f2_3 : Option Addr} {f2_3l f2_3c : Nat} {w : World} {R : Value → World → Prop} (h : V3.vc w.heap.size R p0 p0l p0c i1 i1_1 i1_2 f2 f2_1 f2_2 f2_3 f2_3l f2_3c w) : Calls Try.prog 3 ⟨[.agg ⟨[.slice p0 p0l p0c]⟩, .agg ⟨[.int .i64 i1, .int .i64 i1_1, .int .i64 i1_2]⟩, .agg ⟨[.int .i64 f2, .int .i64 f2_1, .int .i64 f2_2, .slice f2_3 f2_3l f2_3c]⟩]⟩ w fun e w' => ∃ v, e = .returned v ∧ R v w' :=
  calls_wpfP (c := V3.cfg w.heap.size) (fn := Try.f3) (x := V3.code) (V3.cuts w.heap.size R) V3.h (V3.cfgOk _) mixed Try.func3 (by kernel_rfl) (by kernel_rfl) (by kernel_rfl) rfl (V3.obl _ _) ((V3.vc_eq _ _ p0 p0l p0c i1 i1_1 i1_2 f2 f2_1 f2_2 f2_3 f2_3l f2_3c _).symm ▸ h)

/-! function 5 -/
def V5.vc (B : Nat) (R : Value → World → Prop) (p0 : Option Addr) (p0l p0c : Nat) (f1 : Int) (w : World) : Prop :=
  ∀ q2 : Nat, w.heap.size ≤ q2 →
CallK Try.prog 36 [.agg ⟨[.slice p0 p0l p0c]⟩, .int .i64 f1] B w [q2] fun v w_1 => 
  ∃ b7 : Bool, v = .bool b7 ∧
  if b7 = true
  then (CallK Try.prog 34 [] B w_1 [q2] fun v_1 w_2 => 
   ∃ b9 : Bool, v_1 = .bool b9 ∧
   Ret B w_2 (R (.bool b9)))
  else (Ret B w_1 (R (.bool false)))
noncomputable def V5.cfg (B : Nat) : Cfg := ⟨Try.prog, ⟨11, B⟩, [], hasN [34, 36], hasN []⟩
noncomputable def V5.code : Code := (Try.f5.body).getD .skip
noncomputable def V5.cuts (B : Nat) (R : Value → World → Prop) : Nat → Cut := nthC []
noncomputable def V5.h : H := .s (.z) (.s (.z) (.z))
theorem V5.vc_eq (B : Nat) (R : Value → World → Prop) (p0 : Option Addr) (p0l p0c : Nat) (f1 : Int) (w : World) : wpf (V5.cfg B) (V5.cuts B R) V5.code V5.h [] (postOf Try.prog B (Try.f5.results.toList) R) (argE 0 [.agg ⟨[.slice p0 p0l p0c]⟩, .int .i64 f1]) [] w = V5.vc B R p0 p0l p0c f1 w := by kernel_rfl
theorem V5.obl (B : Nat) (R : Value → World → Prop) : oblP (V5.cfg B) (V5.cuts B R) V5.code V5.h [] (postOf Try.prog B (Try.f5.results.toList) R) := by
  have e : oblP (V5.cfg B) (V5.cuts B R) V5.code V5.h [] (postOf Try.prog B (Try.f5.results.toList) R) = (True ∧ (True ∧ True)) := by kernel_rfl
  rw [e]
  exact ⟨trivial, ⟨trivial, trivial⟩⟩
theorem V5.cfgOk (B : Nat) : CfgOk (V5.cfg B) := cfgOk_of (by kernel_rfl) (by kernel_rfl)
theorem V5.sound {p0 : Option Addr} {p0l p0c : Nat} {f1 : Int} {w : World} {R : Value → World → Prop} (h : V5.vc w.heap.size R p0 p0l p0c f1 w) : Calls Try.prog 5 ⟨[.agg ⟨[.slice p0 p0l p0c]⟩, .int .i64 f1]⟩ w fun e w' => ∃ v, e = .returned v ∧ R v w' :=
  calls_wpfP (c := V5.cfg w.heap.size) (fn := Try.f5) (x := V5.code) (V5.cuts w.heap.size R) V5.h (V5.cfgOk _) mixed Try.func5 (by kernel_rfl) (by kernel_rfl) (by kernel_rfl) rfl (V5.obl _ _) ((V5.vc_eq _ _ p0 p0l p0c f1 _).symm ▸ h)

/-! function 28 -/
def V28.b1 (B : Nat) (R : Value → World → Prop) (x6 : Int) (b14 : Bool) (w : World) : Prop :=
  if b14 = true
  then (Ret B w (R (.int .i64 2)))
  else (if (x6 == 4) = true
   then (if (x6 == 4) = true
    then (Ret B w (R (.int .i64 1)))
    else (Ret B w (R (.int .i64 0))))
   else (if (x6 == 9) = true
    then (if (x6 == 9) = true
     then (Ret B w (R (.int .i64 1)))
     else (Ret B w (R (.int .i64 0))))
    else (if (x6 == 10) = true
     then (if (x6 == 10) = true
      then (Ret B w (R (.int .i64 1)))
      else (Ret B w (R (.int .i64 0))))
     else (if (x6 == 16) = true
      then (if (x6 == 16) = true
       then (Ret B w (R (.int .i64 1)))
       else (Ret B w (R (.int .i64 0))))
      else (if (x6 == 18) = true
       then (if (x6 == 18) = true
        then (Ret B w (R (.int .i64 1)))
        else (Ret B w (R (.int .i64 0))))
       else (if (x6 == 20) = true
        then (if (x6 == 20) = true
         then (Ret B w (R (.int .i64 1)))
         else (Ret B w (R (.int .i64 0))))
        else (if (x6 == 22) = true
         then (if (x6 == 22) = true
          then (Ret B w (R (.int .i64 1)))
          else (Ret B w (R (.int .i64 0))))
         else (if (x6 == 27) = true
          then (Ret B w (R (.int .i64 1)))
          else (Ret B w (R (.int .i64 0)))))))))))
def V28.b0 (B : Nat) (R : Value → World → Prop) (x6 : Int) (b7 : Bool) (q3 : Nat) (i3 i3_1 i3_2 : Int) (q2 : Nat) (p2 : Option Addr) (p2l p2c : Nat) (w : World) : Prop :=
  if b7 = true
  then (CallK Try.prog 82 [.agg ⟨[.slice p2 p2l p2c]⟩, .int .i64 i3_1] B w [q3, q2] fun v w_1 => 
   ∃ x13 : Int, v = .int .i64 x13 ∧
   Ret B w_1 (R (.int .i64 x13)))
  else (if (x6 == 5) = true
   then (V28.b1 B R x6 (x6 == 5) w)
   else (if (x6 == 6) = true
    then (V28.b1 B R x6 (x6 == 6) w)
    else (if (x6 == 7) = true
     then (V28.b1 B R x6 (x6 == 7) w)
     else (if (x6 == 8) = true
      then (V28.b1 B R x6 (x6 == 8) w)
      else (if (x6 == 11) = true
       then (V28.b1 B R x6 (x6 == 11) w)
       else (if (x6 == 12) = true
        then (V28.b1 B R x6 (x6 == 12) w)
        else (if (x6 == 13) = true
         then (V28.b1 B R x6 (x6 == 13) w)
         else (V28.b1 B R x6 (x6 == 14) w))))))))
def V28.vc (B : Nat) (R : Value → World → Prop) (p0 : Option Addr) (p0l p0c : Nat) (i1 i1_1 i1_2 : Int) (w : World) : Prop :=
  ∀ q2 : Nat, w.heap.size ≤ q2 →
∀ q3 : Nat, w.heap.size ≤ q3 →
if (i1 == 17) = true
  then (V28.b0 B R i1 (i1 == 17) q3 i1 i1_1 i1_2 q2 p0 p0l p0c w)
  else (V28.b0 B R i1 (i1 == 19) q3 i1 i1_1 i1_2 q2 p0 p0l p0c w)
noncomputable def V28.cfg (B : Nat) : Cfg := ⟨Try.prog, ⟨32, B⟩, [], hasN [82], hasN []⟩
noncomputable def V28.code : Code := (Try.f28.body).getD .skip
noncomputable def V28.cuts (B : Nat) (R : Value → World → Prop) : Nat → Cut := nthC [⟨[(6, .one (.int .i64)), (7, .one (.bool))], [(3, 26, [.int .i64, .int .i64, .int .i64]), (2, 24, [.slice])], fun fs vs bs w => V28.b0 B R (iV (nthV vs 0)) (bV (nthV vs 1)) (nthB bs 0).blk (iV (nthV (nthB bs 0).cells 0)) (iV (nthV (nthB bs 0).cells 1)) (iV (nthV (nthB bs 0).cells 2)) (nthB bs 1).blk (slA (nthV (nthB bs 1).cells 0)) (slL (nthV (nthB bs 1).cells 0)) (slC (nthV (nthB bs 1).cells 0)) w⟩,
  ⟨[(6, .one (.int .i64)), (14, .one (.bool))], [], fun fs vs bs w => V28.b1 B R (iV (nthV vs 0)) (bV (nthV vs 1)) w⟩]
noncomputable def V28.h : H := .s (.z) (.s (.s (.z) (.b (.cut 0 (.s (.z) (.c (.z) (.z))) (.c (.s (.z) (.z)) (.cut 1 (.s (.z) (.c (.z) (.s (.z) (.c (.z) (.s (.z) (.c (.z) (.s (.z) (.c (.z) (.s (.z) (.c (.z) (.s (.z) (.c (.z) (.s (.z) (.c (.z) (.z))))))))))))))) (.c (.s (.z) (.z)) (.s (.s (.z) (.c (.z) (.s (.z) (.c (.z) (.s (.z) (.c (.z) (.s (.z) (.c (.z) (.s (.z) (.c (.z) (.s (.z) (.c (.z) (.s (.z) (.c (.z) (.z))))))))))))))) (.c (.s (.z) (.z)) (.z))))))))) (.s (.z) (.z)))
theorem V28.vc_eq (B : Nat) (R : Value → World → Prop) (p0 : Option Addr) (p0l p0c : Nat) (i1 i1_1 i1_2 : Int) (w : World) : wpf (V28.cfg B) (V28.cuts B R) V28.code V28.h [] (postOf Try.prog B (Try.f28.results.toList) R) (argE 0 [.agg ⟨[.slice p0 p0l p0c]⟩, .agg ⟨[.int .i64 i1, .int .i64 i1_1, .int .i64 i1_2]⟩]) [] w = V28.vc B R p0 p0l p0c i1 i1_1 i1_2 w := by kernel_rfl
theorem V28.obl (B : Nat) (R : Value → World → Prop) : oblP (V28.cfg B) (V28.cuts B R) V28.code V28.h [] (postOf Try.prog B (Try.f28.results.toList) R) := by
  have e : oblP (V28.cfg B) (V28.cuts B R) V28.code V28.h [] (postOf Try.prog B (Try.f28.results.toList) R) = (True ∧ ((True ∧ ((True ∧ (True ∧ True)) ∧ (∀ (x6 : Int) (b7 : Bool) (q3 : Nat) (i3 i3_1 i3_2 : Int) (q2 : Nat) (p2 : Option Addr) (p2l p2c : Nat) (w : World), V28.b0 B R x6 b7 q3 i3 i3_1 i3_2 q2 p2 p2l p2c w → V28.b0 B R x6 b7 q3 i3 i3_1 i3_2 q2 p2 p2l p2c w) ∧ ((True ∧ True) ∧ ((True ∧ (True ∧ (True ∧ (True ∧ (True ∧ (True ∧ (True ∧ (True ∧ (True ∧ (True ∧ (True ∧ (True ∧ (True ∧ (True ∧ True)))))))))))))) ∧ (∀ (x6 : Int) (b14 : Bool) (w : World), V28.b1 B R x6 b14 w → V28.b1 B R x6 b14 w) ∧ ((True ∧ True) ∧ ((True ∧ (True ∧ (True ∧ (True ∧ (True ∧ (True ∧ (True ∧ (True ∧ (True ∧ (True ∧ (True ∧ (True ∧ (True ∧ (True ∧ True)))))))))))))) ∧ ((True ∧ True) ∧ True))))))) ∧ (True ∧ True))) := by kernel_rfl
  rw [e]
  exact ⟨trivial, ⟨⟨trivial, ⟨⟨trivial, ⟨trivial, trivial⟩⟩, fun x6 b7 q3 i3 i3_1 i3_2 q2 p2 p2l p2c w h => h, ⟨⟨trivial, trivial⟩, ⟨⟨trivial, ⟨trivial, ⟨trivial, ⟨trivial, ⟨trivial, ⟨trivial, ⟨trivial, ⟨trivial, ⟨trivial, ⟨trivial, ⟨trivial, ⟨trivial, ⟨trivial, ⟨trivial, trivial⟩⟩⟩⟩⟩⟩⟩⟩⟩⟩⟩⟩⟩⟩, fun x6 b14 w h => h, ⟨⟨trivial, trivial⟩, ⟨⟨trivial, ⟨trivial, ⟨trivial, ⟨trivial, ⟨trivial, ⟨trivial, ⟨trivial, ⟨trivial, ⟨trivial, ⟨trivial, ⟨trivial, ⟨trivial, ⟨trivial, ⟨trivial, trivial⟩⟩⟩⟩⟩⟩⟩⟩⟩⟩⟩⟩⟩⟩, ⟨⟨trivial, trivial⟩, trivial⟩⟩⟩⟩⟩⟩⟩, ⟨trivial, trivial⟩⟩⟩
theorem V28.cfgOk (B : Nat) : CfgOk (V28.cfg B) := cfgOk_of (by kernel_rfl) (by kernel_rfl)
theorem V28.sound {p0 : Option Addr} {p0l p0c : Nat} {i1 i1_1 i1_2 : Int} {w : World} {R : Value → World → Prop} (h : V28.vc w.heap.size R p0 p0l p0c i1 i1_1 i1_2 w) : Calls Try.prog 28 ⟨[.agg ⟨[.slice p0 p0l p0c]⟩, .agg ⟨[.int .i64 i1, .int .i64 i1_1, .int .i64 i1_2]⟩]⟩ w fun e w' => ∃ v, e = .returned v ∧ R v w' :=
  calls_wpfP (c := V28.cfg w.heap.size) (fn := Try.f28) (x := V28.code) (V28.cuts w.heap.size R) V28.h (V28.cfgOk _) mixed Try.func28 (by kernel_rfl) (by kernel_rfl) (by kernel_rfl) rfl (V28.obl _ _) ((V28.vc_eq _ _ p0 p0l p0c i1 i1_1 i1_2 _).symm ▸ h)

/-! function 29 -/
def V29.vc (B : Nat) (R : Value → World → Prop) (p0 : Option Addr) (p0l p0c : Nat) (i1 i1_1 i1_2 : Int) (w : World) : Prop :=
  ∀ q2 : Nat, w.heap.size ≤ q2 →
∀ q3 : Nat, w.heap.size ≤ q3 →
CallK Try.prog 83 [.int .i64 i1] B w [q3, q2] fun v w_1 => 
  ∃ (x12 x12_1 x12_2 : Int) (b12 : Bool), v = .tuple ⟨[.int .i64 x12, .int .i64 x12_1, .int .i64 x12_2, .bool b12]⟩ ∧
  if (decide (x12_1 < 0)) = true
  then (if (decide (i1_1 < 0)) = false
   then (if (decide (i1_1 ≥ (p0l : Int))) = true
    then (Ret B w_1 (R (.int .i64 0)))
    else (∃ p34 : Addr, p0 = some p34 ∧ (0 : Int) ≤ i1_1 ∧ i1_1 < (p0l : Int) ∧
    ∃ x36 : Int, w_1.cell? ((p34.add (i1_1.toNat * 4)).add 0) = some (.int .i64 x36) ∧
    Ret B w_1 (R (.int .i64 (if 0 > x36 then 0 else x36)))))
   else (Ret B w_1 (R (.int .i64 0))))
  else (Ret B w_1 (R (.int .i64 x12_1)))
noncomputable def V29.cfg (B : Nat) : Cfg := ⟨Try.prog, ⟨39, B⟩, [], hasN [83], hasN []⟩
noncomputable def V29.code : Code := (Try.f29.body).getD .skip
noncomputable def V29.cuts (B : Nat) (R : Value → World → Prop) : Nat → Cut := nthC []
noncomputable def V29.h : H := .s (.z) (.s (.z) (.s (.s (.z) (.c (.s (.s (.z) (.c (.s (.z) (.z)) (.z))) (.s (.z) (.z))) (.z))) (.s (.z) (.z))))
theorem V29.vc_eq (B : Nat) (R : Value → World → Prop) (p0 : Option Addr) (p0l p0c : Nat) (i1 i1_1 i1_2 : Int) (w : World) : wpf (V29.cfg B) (V29.cuts B R) V29.code V29.h [] (postOf Try.prog B (Try.f29.results.toList) R) (argE 0 [.agg ⟨[.slice p0 p0l p0c]⟩, .agg ⟨[.int .i64 i1, .int .i64 i1_1, .int .i64 i1_2]⟩]) [] w = V29.vc B R p0 p0l p0c i1 i1_1 i1_2 w := by kernel_rfl
theorem V29.obl (B : Nat) (R : Value → World → Prop) : oblP (V29.cfg B) (V29.cuts B R) V29.code V29.h [] (postOf Try.prog B (Try.f29.results.toList) R) := by
  have e : oblP (V29.cfg B) (V29.cuts B R) V29.code V29.h [] (postOf Try.prog B (Try.f29.results.toList) R) = (True ∧ (True ∧ ((True ∧ (((True ∧ ((True ∧ True) ∧ True)) ∧ (True ∧ True)) ∧ True)) ∧ (True ∧ True)))) := by kernel_rfl
  rw [e]
  exact ⟨trivial, ⟨trivial, ⟨⟨trivial, ⟨⟨⟨trivial, ⟨⟨trivial, trivial⟩, trivial⟩⟩, ⟨trivial, trivial⟩⟩, trivial⟩⟩, ⟨trivial, trivial⟩⟩⟩⟩
theorem V29.cfgOk (B : Nat) : CfgOk (V29.cfg B) := cfgOk_of (by kernel_rfl) (by kernel_rfl)
theorem V29.sound {p0 : Option Addr} {p0l p0c : Nat} {i1 i1_1 i1_2 : Int} {w : World} {R : Value → World → Prop} (h : V29.vc w.heap.size R p0 p0l p0c i1 i1_1 i1_2 w) : Calls Try.prog 29 ⟨[.agg ⟨[.slice p0 p0l p0c]⟩, .agg ⟨[.int .i64 i1, .int .i64 i1_1, .int .i64 i1_2]⟩]⟩ w fun e w' => ∃ v, e = .returned v ∧ R v w' :=
  calls_wpfP (c := V29.cfg w.heap.size) (fn := Try.f29) (x := V29.code) (V29.cuts w.heap.size R) V29.h (V29.cfgOk _) mixed Try.func29 (by kernel_rfl) (by kernel_rfl) (by kernel_rfl) rfl (V29.obl _ _) ((V29.vc_eq _ _ p0 p0l p0c i1 i1_1 i1_2 _).symm ▸ h)

/-! function 30 -/
def V30.vc (B : Nat) (R : Value → World → Prop) (i0 i0_1 i0_2 : Int) (w : World) : Prop :=
  ∀ q1 : Nat, w.heap.size ≤ q1 →
if (i0 == 21) = true
  then (Ret B w (R (.int .i64 2)))
  else (if (i0 == 1) = true
   then (if (i0 == 1) = true
    then (Ret B w (R (.int .i64 1)))
    else (Ret B w (R (.int .i64 0))))
   else (if (i0 == 2) = true
    then (if (i0 == 2) = true
     then (Ret B w (R (.int .i64 1)))
     else (Ret B w (R (.int .i64 0))))
    else (if (i0 == 3) = true
     then (if (i0 == 3) = true
      then (Ret B w (R (.int .i64 1)))
      else (Ret B w (R (.int .i64 0))))
     else (if (i0 == 17) = true
      then (if (i0 == 17) = true
       then (Ret B w (R (.int .i64 1)))
       else (Ret B w (R (.int .i64 0))))
      else (if (i0 == 5) = true
       then (if (i0 == 5) = true
        then (Ret B w (R (.int .i64 1)))
        else (Ret B w (R (.int .i64 0))))
       else (if (i0 == 6) = true
        then (if (i0 == 6) = true
         then (Ret B w (R (.int .i64 1)))
         else (Ret B w (R (.int .i64 0))))
        else (if (i0 == 7) = true
         then (if (i0 == 7) = true
          then (Ret B w (R (.int .i64 1)))
          else (Ret B w (R (.int .i64 0))))
         else (if (i0 == 8) = true
          then (if (i0 == 8) = true
           then (Ret B w (R (.int .i64 1)))
           else (Ret B w (R (.int .i64 0))))
          else (if (i0 == 11) = true
           then (if (i0 == 11) = true
            then (Ret B w (R (.int .i64 1)))
            else (Ret B w (R (.int .i64 0))))
           else (if (i0 == 12) = true
            then (if (i0 == 12) = true
             then (Ret B w (R (.int .i64 1)))
             else (Ret B w (R (.int .i64 0))))
            else (if (i0 == 13) = true
             then (if (i0 == 13) = true
              then (Ret B w (R (.int .i64 1)))
              else (Ret B w (R (.int .i64 0))))
             else (if (i0 == 14) = true
              then (if (i0 == 14) = true
               then (Ret B w (R (.int .i64 1)))
               else (Ret B w (R (.int .i64 0))))
              else (if (i0 == 9) = true
               then (if (i0 == 9) = true
                then (Ret B w (R (.int .i64 1)))
                else (Ret B w (R (.int .i64 0))))
               else (if (i0 == 10) = true
                then (Ret B w (R (.int .i64 1)))
                else (Ret B w (R (.int .i64 0)))))))))))))))))
noncomputable def V30.cfg (B : Nat) : Cfg := ⟨Try.prog, ⟨22, B⟩, [], hasN [], hasN []⟩
noncomputable def V30.code : Code := (Try.f30.body).getD .skip
noncomputable def V30.cuts (B : Nat) (R : Value → World → Prop) : Nat → Cut := nthC []
noncomputable def V30.h : H := .s (.z) (.s (.s (.z) (.b (.s (.z) (.c (.s (.z) (.z)) (.s (.s (.z) (.c (.z) (.s (.z) (.c (.z) (.s (.z) (.c (.z) (.s (.z) (.c (.z) (.s (.z) (.c (.z) (.s (.z) (.c (.z) (.s (.z) (.c (.z) (.s (.z) (.c (.z) (.s (.z) (.c (.z) (.s (.z) (.c (.z) (.s (.z) (.c (.z) (.s (.z) (.c (.z) (.s (.z) (.c (.z) (.z))))))))))))))))))))))))))) (.c (.s (.z) (.z)) (.z))))))) (.s (.z) (.z)))
theorem V30.vc_eq (B : Nat) (R : Value → World → Prop) (i0 i0_1 i0_2 : Int) (w : World) : wpf (V30.cfg B) (V30.cuts B R) V30.code V30.h [] (postOf Try.prog B (Try.f30.results.toList) R) (argE 0 [.agg ⟨[.int .i64 i0, .int .i64 i0_1, .int .i64 i0_2]⟩]) [] w = V30.vc B R i0 i0_1 i0_2 w := by kernel_rfl
theorem V30.obl (B : Nat) (R : Value → World → Prop) : oblP (V30.cfg B) (V30.cuts B R) V30.code V30.h [] (postOf Try.prog B (Try.f30.results.toList) R) := by
  have e : oblP (V30.cfg B) (V30.cuts B R) V30.code V30.h [] (postOf Try.prog B (Try.f30.results.toList) R) = (True ∧ ((True ∧ (True ∧ ((True ∧ True) ∧ ((True ∧ (True ∧ (True ∧ (True ∧ (True ∧ (True ∧ (True ∧ (True ∧ (True ∧ (True ∧ (True ∧ (True ∧ (True ∧ (True ∧ (True ∧ (True ∧ (True ∧ (True ∧ (True ∧ (True ∧ (True ∧ (True ∧ (True ∧ (True ∧ (True ∧ (True ∧ True)))))))))))))))))))))))))) ∧ ((True ∧ True) ∧ True))))) ∧ (True ∧ True))) := by kernel_rfl
  rw [e]
  exact ⟨trivial, ⟨⟨trivial, ⟨trivial, ⟨⟨trivial, trivial⟩, ⟨⟨trivial, ⟨trivial, ⟨trivial, ⟨trivial, ⟨trivial, ⟨trivial, ⟨trivial, ⟨trivial, ⟨trivial, ⟨trivial, ⟨trivial, ⟨trivial, ⟨trivial, ⟨trivial, ⟨trivial, ⟨trivial, ⟨trivial, ⟨trivial, ⟨trivial, ⟨trivial, ⟨trivial, ⟨trivial, ⟨trivial, ⟨trivial, ⟨trivial, ⟨trivial, trivial⟩⟩⟩⟩⟩⟩⟩⟩⟩⟩⟩⟩⟩⟩⟩⟩⟩⟩⟩⟩⟩⟩⟩⟩⟩⟩, ⟨⟨trivial, trivial⟩, trivial⟩⟩⟩⟩⟩, ⟨trivial, trivial⟩⟩⟩
theorem V30.cfgOk (B : Nat) : CfgOk (V30.cfg B) := cfgOk_of (by kernel_rfl) (by kernel_rfl)
theorem V30.sound {i0 i0_1 i0_2 : Int} {w : World} {R : Value → World → Prop} (h : V30.vc w.heap.size R i0 i0_1 i0_2 w) : Calls Try.prog 30 ⟨[.agg ⟨[.int .i64 i0, .int .i64 i0_1, .int .i64 i0_2]⟩]⟩ w fun e w' => ∃ v, e = .returned v ∧ R v w' :=
  calls_wpfP (c := V30.cfg w.heap.size) (fn := Try.f30) (x := V30.code) (V30.cuts w.heap.size R) V30.h (V30.cfgOk _) mixed Try.func30 (by kernel_rfl) (by kernel_rfl) (by kernel_rfl) rfl (V30.obl _ _) ((V30.vc_eq _ _ i0 i0_1 i0_2 _).symm ▸ h)

/-! function 31 -/
def V31.vc (B : Nat) (R : Value → World → Prop) (i0 i0_1 i0_2 : Int) (w : World) : Prop :=
  ∀ q1 : Nat, w.heap.size ≤ q1 →
CallK Try.prog 83 [.int .i64 i0] B w [q1] fun v w_1 => 
  ∃ (x10 x10_1 x10_2 : Int) (b10 : Bool), v = .tuple ⟨[.int .i64 x10, .int .i64 x10_1, .int .i64 x10_2, .bool b10]⟩ ∧
  Ret B w_1 (R (.int .i64 x10_2))
noncomputable def V31.cfg (B : Nat) : Cfg := ⟨Try.prog, ⟨16, B⟩, [], hasN [83], hasN []⟩
noncomputable def V31.code : Code := (Try.f31.body).getD .skip
noncomputable def V31.cuts (B : Nat) (R : Value → World → Prop) : Nat → Cut := nthC []
noncomputable def V31.h : H := .s (.z) (.s (.z) (.s (.z) (.z)))
theorem V31.vc_eq (B : Nat) (R : Value → World → Prop) (i0 i0_1 i0_2 : Int) (w : World) : wpf (V31.cfg B) (V31.cuts B R) V31.code V31.h [] (postOf Try.prog B (Try.f31.results.toList) R) (argE 0 [.agg ⟨[.int .i64 i0, .int .i64 i0_1, .int .i64 i0_2]⟩]) [] w = V31.vc B R i0 i0_1 i0_2 w := by kernel_rfl
theorem V31.obl (B : Nat) (R : Value → World → Prop) : oblP (V31.cfg B) (V31.cuts B R) V31.code V31.h [] (postOf Try.prog B (Try.f31.results.toList) R) := by
  have e : oblP (V31.cfg B) (V31.cuts B R) V31.code V31.h [] (postOf Try.prog B (Try.f31.results.toList) R) = (True ∧ (True ∧ (True ∧ True))) := by kernel_rfl
  rw [e]
  exact ⟨trivial, ⟨trivial, ⟨trivial, trivial⟩⟩⟩
theorem V31.cfgOk (B : Nat) : CfgOk (V31.cfg B) := cfgOk_of (by kernel_rfl) (by kernel_rfl)
theorem V31.sound {i0 i0_1 i0_2 : Int} {w : World} {R : Value → World → Prop} (h : V31.vc w.heap.size R i0 i0_1 i0_2 w) : Calls Try.prog 31 ⟨[.agg ⟨[.int .i64 i0, .int .i64 i0_1, .int .i64 i0_2]⟩]⟩ w fun e w' => ∃ v, e = .returned v ∧ R v w' :=
  calls_wpfP (c := V31.cfg w.heap.size) (fn := Try.f31) (x := V31.code) (V31.cuts w.heap.size R) V31.h (V31.cfgOk _) mixed Try.func31 (by kernel_rfl) (by kernel_rfl) (by kernel_rfl) rfl (V31.obl _ _) ((V31.vc_eq _ _ i0 i0_1 i0_2 _).symm ▸ h)

/-! function 32 -/
def V32.l0 (B : Nat) (R : Value → World → Prop) : Nat → Int → Option Addr → Nat → Nat → Int → Int → World → Prop
  | 0 => fun _ _ _ _ _ _ _ => False
  | k + 1 => fun n3 A13 A13l A13c x14 x15 w =>
    if (decide (x15 < x14)) = true
    then (∃ p17 : Addr, A13 = some p17 ∧ (0 : Int) ≤ x15 ∧ x15 < (A13l : Int) ∧
    ∃ x18 : Int, w.cell? ((p17.add (x15.toNat * 3)).add 0) = some (.int .i64 x18) ∧
    ∃ x18_1 : Int, w.cell? ((p17.add (x15.toNat * 3)).add 1) = some (.int .i64 x18_1) ∧
    ∃ x18_2 : Int, w.cell? ((p17.add (x15.toNat * 3)).add 2) = some (.int .i64 x18_2) ∧
    ∀ q5 : Nat, w.heap.size ≤ q5 →
    if (x18 == 19) = true
     then (Ret B w (R (.int .i64 (IntKind.wrap .i64 (n3 + 16)))))
     else ((V32.l0 B R k) n3 A13 A13l A13c x14 (IntKind.wrap .i64 (x15 + 1)) w))
    else (Ret B w (R (.int .i64 n3)))
def V32.vc (B : Nat) (R : Value → World → Prop) (f0 f0_1 f0_2 : Int) (f0_3 : Option Addr) (f0_3l f0_3c : Nat) (w : World) : Prop :=
  ∀ q1 : Nat, w.heap.size ≤ q1 →
∃ k_1, V32.l0 B R k_1 (IntKind.wrap .i64 (IntKind.wrap .i64 (7 + (if 8 < (if 0 > f0_1 then 0 else f0_1) then 8 else (if 0 > f0_1 then 0 else f0_1))) + 8)) f0_3 f0_3l f0_3c (f0_3l : Int) 0 w
noncomputable def V32.cfg (B : Nat) : Cfg := ⟨Try.prog, ⟨26, B⟩, [], hasN [], hasN []⟩
noncomputable def V32.code : Code := (Try.f32.body).getD .skip
noncomputable def V32.cuts (B : Nat) (R : Value → World → Prop) : Nat → Cut := nthC [⟨[(3, .one (.int .i64)), (13, .one (.slice)), (14, .one (.int .i64)), (15, .one (.int .i64))], [], fun fs vs bs w => V32.l0 B R (nthN fs 0) (iV (nthV vs 0)) (slA (nthV vs 1)) (slL (nthV vs 1)) (slC (nthV vs 1)) (iV (nthV vs 2)) (iV (nthV vs 3)) w⟩]
noncomputable def V32.h : H := .s (.z) (.s (.z) (.s (.s (.z) (.b (.l 0 (.s (.z) (.s (.c (.z) (.z)) (.s (.b (.s (.z) (.s (.z) (.c (.s (.z) (.z)) (.z))))) (.z))))))) (.s (.z) (.z))))
theorem V32.vc_eq (B : Nat) (R : Value → World → Prop) (f0 f0_1 f0_2 : Int) (f0_3 : Option Addr) (f0_3l f0_3c : Nat) (w : World) : wpf (V32.cfg B) (V32.cuts B R) V32.code V32.h [] (postOf Try.prog B (Try.f32.results.toList) R) (argE 0 [.agg ⟨[.int .i64 f0, .int .i64 f0_1, .int .i64 f0_2, .slice f0_3 f0_3l f0_3c]⟩]) [] w = V32.vc B R f0 f0_1 f0_2 f0_3 f0_3l f0_3c w := by kernel_rfl
theorem V32.obl (B : Nat) (R : Value → World → Prop) : oblP (V32.cfg B) (V32.cuts B R) V32.code V32.h [] (postOf Try.prog B (Try.f32.results.toList) R) := by
  have e : oblP (V32.cfg B) (V32.cuts B R) V32.code V32.h [] (postOf Try.prog B (Try.f32.results.toList) R) = (True ∧ (True ∧ ((True ∧ ((∀ (n3 : Int) (A13 : Option Addr) (A13l A13c : Nat) (x14 x15 : Int) (w : World), ¬ V32.l0 B R 0 n3 A13 A13l A13c x14 x15 w) ∧ (∀ k0, ∀ (n3 : Int) (A13 : Option Addr) (A13l A13c : Nat) (x14 x15 : Int) (w : World), V32.l0 B R (k0 + 1) n3 A13 A13l A13c x14 x15 w → V32.l0 B R (k0 + 1) n3 A13 A13l A13c x14 x15 w) ∧ ∀ k0 : Nat, (True ∧ ((True ∧ True) ∧ ((True ∧ (True ∧ ((True ∧ True) ∧ True))) ∧ True))))) ∧ (True ∧ True)))) := by kernel_rfl
  rw [e]
  exact ⟨trivial, ⟨trivial, ⟨⟨trivial, ⟨fun n3 A13 A13l A13c x14 x15 w h => h, fun _ n3 A13 A13l A13c x14 x15 w h => h, fun k0 => ⟨trivial, ⟨⟨trivial, trivial⟩, ⟨⟨trivial, ⟨trivial, ⟨⟨trivial, trivial⟩, trivial⟩⟩⟩, trivial⟩⟩⟩⟩⟩, ⟨trivial, trivial⟩⟩⟩⟩
theorem V32.cfgOk (B : Nat) : CfgOk (V32.cfg B) := cfgOk_of (by kernel_rfl) (by kernel_rfl)
theorem V32.sound {f0 f0_1 f0_2 : Int} {f0_3 : Option Addr} {f0_3l f0_3c : Nat} {w : World} {R : Value → World → Prop} (h : V32.vc w.heap.size R f0 f0_1 f0_2 f0_3 f0_3l f0_3c w) : Calls Try.prog 32 ⟨[.agg ⟨[.int .i64 f0, .int .i64 f0_1, .int .i64 f0_2, .slice f0_3 f0_3l f0_3c]⟩]⟩ w fun e w' => ∃ v, e = .returned v ∧ R v w' :=
  calls_wpfP (c := V32.cfg w.heap.size) (fn := Try.f32) (x := V32.code) (V32.cuts w.heap.size R) V32.h (V32.cfgOk _) mixed Try.func32 (by kernel_rfl) (by kernel_rfl) (by kernel_rfl) rfl (V32.obl _ _) ((V32.vc_eq _ _ f0 f0_1 f0_2 f0_3 f0_3l f0_3c _).symm ▸ h)

/-! function 33 -/
def V33.vc (B : Nat) (R : Value → World → Prop) (f0 f0_1 f0_2 : Int) (f0_3 : Option Addr) (f0_3l f0_3c : Nat) (w : World) : Prop :=
  ∀ q1 : Nat, w.heap.size ≤ q1 →
CallK Try.prog 84 [.agg ⟨[.int .i64 f0, .int .i64 f0_1, .int .i64 f0_2, .slice f0_3 f0_3l f0_3c]⟩] B w [q1] fun v w_1 => 
  ∃ b11 : Bool, v = .bool b11 ∧
  if b11 = true
  then (Ret B w_1 (R (.int .i64 (IntKind.wrap .i64 (IntKind.wrap .i64 (IntKind.wrap .i64 (7 + (if 8 < (if 0 > f0_1 then 0 else f0_1) then 8 else (if 0 > f0_1 then 0 else f0_1))) + 8) + 16)))))
  else (Ret B w_1 (R (.int .i64 (IntKind.wrap .i64 (IntKind.wrap .i64 (7 + (if 8 < (if 0 > f0_1 then 0 else f0_1) then 8 else (if 0 > f0_1 then 0 else f0_1))) + 8)))))
noncomputable def V33.cfg (B : Nat) : Cfg := ⟨Try.prog, ⟨15, B⟩, [], hasN [84], hasN []⟩
noncomputable def V33.code : Code := (Try.f33.body).getD .skip
noncomputable def V33.cuts (B : Nat) (R : Value → World → Prop) : Nat → Cut := nthC []
noncomputable def V33.h : H := .s (.z) (.s (.z) (.s (.s (.z) (.c (.z) (.z))) (.s (.z) (.z))))
theorem V33.vc_eq (B : Nat) (R : Value → World → Prop) (f0 f0_1 f0_2 : Int) (f0_3 : Option Addr) (f0_3l f0_3c : Nat) (w : World) : wpf (V33.cfg B) (V33.cuts B R) V33.code V33.h [] (postOf Try.prog B (Try.f33.results.toList) R) (argE 0 [.agg ⟨[.int .i64 f0, .int .i64 f0_1, .int .i64 f0_2, .slice f0_3 f0_3l f0_3c]⟩]) [] w = V33.vc B R f0 f0_1 f0_2 f0_3 f0_3l f0_3c w := by kernel_rfl
theorem V33.obl (B : Nat) (R : Value → World → Prop) : oblP (V33.cfg B) (V33.cuts B R) V33.code V33.h [] (postOf Try.prog B (Try.f33.results.toList) R) := by
  have e : oblP (V33.cfg B) (V33.cuts B R) V33.code V33.h [] (postOf Try.prog B (Try.f33.results.toList) R) = (True ∧ (True ∧ ((True ∧ (True ∧ True)) ∧ (True ∧ True)))) := by kernel_rfl
  rw [e]
  exact ⟨trivial, ⟨trivial, ⟨⟨trivial, ⟨trivial, trivial⟩⟩, ⟨trivial, trivial⟩⟩⟩⟩
theorem V33.cfgOk (B : Nat) : CfgOk (V33.cfg B) := cfgOk_of (by kernel_rfl) (by kernel_rfl)
theorem V33.sound {f0 f0_1 f0_2 : Int} {f0_3 : Option Addr} {f0_3l f0_3c : Nat} {w : World} {R : Value → World → Prop} (h : V33.vc w.heap.size R f0 f0_1 f0_2 f0_3 f0_3l f0_3c w) : Calls Try.prog 33 ⟨[.agg ⟨[.int .i64 f0, .int .i64 f0_1, .int .i64 f0_2, .slice f0_3 f0_3l f0_3c]⟩]⟩ w fun e w' => ∃ v, e = .returned v ∧ R v w' :=
  calls_wpfP (c := V33.cfg w.heap.size) (fn := Try.f33) (x := V33.code) (V33.cuts w.heap.size R) V33.h (V33.cfgOk _) mixed Try.func33 (by kernel_rfl) (by kernel_rfl) (by kernel_rfl) rfl (V33.obl _ _) ((V33.vc_eq _ _ f0 f0_1 f0_2 f0_3 f0_3l f0_3c _).symm ▸ h)

/-! function 34 -/
def V34.vc (B : Nat) (R : Value → World → Prop) (w : World) : Prop :=
  Expo B w [] fun w_1 => 
  let w_2 := w_1.alloc (.cells ⟨[.int .i64 18, .int .i64 0, .int .i64 0]⟩ 26);
  Expo B w_2 [] fun w_3 => 
  let w_4 := w_3.alloc (.cells ⟨[.int .i64 0, .int .i64 0, .int .i64 0, .slice (some ⟨w_1.heap.size, 0, none⟩) 1 1]⟩ 29);
  CallK Try.prog 37 [.agg ⟨[.slice (some ⟨w_3.heap.size, 0, none⟩) 1 1]⟩] B w_4 [] fun v w_5 => 
  ∃ x13 x13_1 x13_2 : Int, v = .tuple ⟨[.int .i64 x13, .int .i64 x13_1, .int .i64 x13_2]⟩ ∧
  Expo B w_5 [] fun w_6 => 
  let w_7 := w_6.alloc (.cells ⟨[.int .i64 1, .int .i64 1, .int .i64 0, .int .i64 18, .int .i64 0, .int .i64 0]⟩ 26);
  Expo B w_7 [] fun w_8 => 
  let w_9 := w_8.alloc (.cells ⟨[.int .i64 0, .int .i64 0, .int .i64 0, .slice (some ⟨w_6.heap.size, 0, none⟩) 2 2]⟩ 29);
  CallK Try.prog 37 [.agg ⟨[.slice (some ⟨w_8.heap.size, 0, none⟩) 1 1]⟩] B w_9 [] fun v_1 w_10 => 
  ∃ x24 x24_1 x24_2 : Int, v_1 = .tuple ⟨[.int .i64 x24, .int .i64 x24_1, .int .i64 x24_2]⟩ ∧
  if (x13 == 9) = true
  then (if (x13_1 == 0) = true
   then (if (x13_2 == 0) = true
    then (if (x24 == 0) = true
     then (CallK Try.prog 32 [.agg ⟨[.int .i64 0, .int .i64 0, .int .i64 0, .slice none 0 0]⟩] B w_10 [] fun v_2 w_11 => 
      ∃ x44 : Int, v_2 = .int .i64 x44 ∧
      Ret B w_11 (R (.bool (x44 == 15))))
     else (Ret B w_10 (R (.bool false))))
    else (Ret B w_10 (R (.bool false))))
   else (Ret B w_10 (R (.bool false))))
  else (Ret B w_10 (R (.bool false)))
noncomputable def V34.cfg (B : Nat) : Cfg := ⟨Try.prog, ⟨47, B⟩, [], hasN [32, 37], hasN []⟩
noncomputable def V34.code : Code := (Try.f34.body).getD .skip
noncomputable def V34.cuts (B : Nat) (R : Value → World → Prop) : Nat → Cut := nthC []
noncomputable def V34.h : H := .s (.z) (.s (.z) (.s (.z) (.s (.z) (.z))))
theorem V34.vc_eq (B : Nat) (R : Value → World → Prop)  (w : World) : wpf (V34.cfg B) (V34.cuts B R) V34.code V34.h [] (postOf Try.prog B (Try.f34.results.toList) R) (argE 0 []) [] w = V34.vc B R  w := by kernel_rfl
theorem V34.obl (B : Nat) (R : Value → World → Prop) : oblP (V34.cfg B) (V34.cuts B R) V34.code V34.h [] (postOf Try.prog B (Try.f34.results.toList) R) := by
  have e : oblP (V34.cfg B) (V34.cuts B R) V34.code V34.h [] (postOf Try.prog B (Try.f34.results.toList) R) = (True ∧ (True ∧ (True ∧ (True ∧ True)))) := by kernel_rfl
  rw [e]
  exact ⟨trivial, ⟨trivial, ⟨trivial, ⟨trivial, trivial⟩⟩⟩⟩
theorem V34.cfgOk (B : Nat) : CfgOk (V34.cfg B) := cfgOk_of (by kernel_rfl) (by kernel_rfl)
theorem V34.sound  {w : World} {R : Value → World → Prop} (h : V34.vc w.heap.size R  w) : Calls Try.prog 34 ⟨[]⟩ w fun e w' => ∃ v, e = .returned v ∧ R v w' :=
  calls_wpfP (c := V34.cfg w.heap.size) (fn := Try.f34) (x := V34.code) (V34.cuts w.heap.size R) V34.h (V34.cfgOk _) mixed Try.func34 (by kernel_rfl) (by kernel_rfl) (by kernel_rfl) rfl (V34.obl _ _) ((V34.vc_eq _ _  _).symm ▸ h)

/-! function 36 -/
def V36.vc (B : Nat) (R : Value → World → Prop) (p0 : Option Addr) (p0l p0c : Nat) (f1 : Int) (w : World) : Prop :=
  ∀ q2 : Nat, w.heap.size ≤ q2 →
CallK Try.prog 37 [.agg ⟨[.slice p0 p0l p0c]⟩] B w [q2] fun v w_1 => 
  ∃ x13 x13_1 x13_2 : Int, v = .tuple ⟨[.int .i64 x13, .int .i64 x13_1, .int .i64 x13_2]⟩ ∧
  CallK Try.prog 87 [.agg ⟨[.slice p0 p0l p0c]⟩] B w_1 [q2] fun v_1 w_2 => 
  ∃ x19 x19_1 x19_2 : Int, v_1 = .tuple ⟨[.int .i64 x19, .int .i64 x19_1, .int .i64 x19_2]⟩ ∧
  if (x13 == x19) = true
  then (if (x13_1 == x19_1) = true
   then (if (x13_2 == x19_2) = true
    then (CallK Try.prog 38 [.agg ⟨[.slice p0 p0l p0c]⟩, .int .i64 f1] B w_2 [q2] fun v_2 w_3 => 
     ∃ (A39 : Option Addr) (A39l A39c : Nat), v_2 = .slice A39 A39l A39c ∧
     CallK Try.prog 88 [.agg ⟨[.slice p0 p0l p0c]⟩, .int .i64 f1] B w_3 [q2] fun v_3 w_4 => 
     ∃ (A42 : Option Addr) (A42l A42c : Nat), v_3 = .slice A42 A42l A42c ∧
     CallK Try.prog 40 [.slice A39 A39l A39c, .slice A42 A42l A42c] B w_4 [q2] fun v_4 w_5 => 
     ∃ b43 : Bool, v_4 = .bool b43 ∧
     Ret B w_5 (R (.bool b43)))
    else (Ret B w_2 (R (.bool false))))
   else (Ret B w_2 (R (.bool false))))
  else (Ret B w_2 (R (.bool false)))
noncomputable def V36.cfg (B : Nat) : Cfg := ⟨Try.prog, ⟨45, B⟩, [], hasN [37, 38, 40, 87, 88], hasN []⟩
noncomputable def V36.code : Code := (Try.f36.body).getD .skip
noncomputable def V36.cuts (B : Nat) (R : Value → World → Prop) : Nat → Cut := nthC []
noncomputable def V36.h : H := .s (.z) (.s (.z) (.s (.z) (.s (.r [[0, 1, 2, 3, 4, 5, 6, 7, 8, 9, 10, 11, 12, 13, 14, 15, 17, 18, 16, 19, 20, 21, 22]]) (.z))))
theorem V36.vc_eq (B : Nat) (R : Value → World → Prop) (p0 : Option Addr) (p0l p0c : Nat) (f1 : Int) (w : World) : wpf (V36.cfg B) (V36.cuts B R) V36.code V36.h [] (postOf Try.prog B (Try.f36.results.toList) R) (argE 0 [.agg ⟨[.slice p0 p0l p0c]⟩, .int .i64 f1]) [] w = V36.vc B R p0 p0l p0c f1 w := by kernel_rfl
theorem V36.obl (B : Nat) (R : Value → World → Prop) : oblP (V36.cfg B) (V36.cuts B R) V36.code V36.h [] (postOf Try.prog B (Try.f36.results.toList) R) := by
  have e : oblP (V36.cfg B) (V36.cuts B R) V36.code V36.h [] (postOf Try.prog B (Try.f36.results.toList) R) = (True ∧ (True ∧ (True ∧ ((true = true) ∧ True)))) := by kernel_rfl
  rw [e]
  exact ⟨trivial, ⟨trivial, ⟨trivial, ⟨rfl, trivial⟩⟩⟩⟩
theorem V36.cfgOk (B : Nat) : CfgOk (V36.cfg B) := cfgOk_of (by kernel_rfl) (by kernel_rfl)
theorem V36.sound {p0 : Option Addr} {p0l p0c : Nat} {f1 : Int} {w : World} {R : Value → World → Prop} (h : V36.vc w.heap.size R p0 p0l p0c f1 w) : Calls Try.prog 36 ⟨[.agg ⟨[.slice p0 p0l p0c]⟩, .int .i64 f1]⟩ w fun e w' => ∃ v, e = .returned v ∧ R v w' :=
  calls_wpfP (c := V36.cfg w.heap.size) (fn := Try.f36) (x := V36.code) (V36.cuts w.heap.size R) V36.h (V36.cfgOk _) mixed Try.func36 (by kernel_rfl) (by kernel_rfl) (by kernel_rfl) rfl (V36.obl _ _) ((V36.vc_eq _ _ p0 p0l p0c f1 _).symm ▸ h)

/-! function 37 -/
def V37.l2 (B : Nat) (R : Value → World → Prop) (L1 : Option Addr → Nat → Nat → Int → Int → Nat → Option Addr → Nat → Nat → World → Prop) : Nat → Int → Option Addr → Nat → Nat → Int → Int → Option Addr → Nat → Nat → Int → Int → Nat → Int → Int → Int → Option Addr → Nat → Nat → Nat → Option Addr → Nat → Nat → World → Prop
  | 0 => fun _ _ _ _ _ _ _ _ _ _ _ _ _ _ _ _ _ _ _ _ _ _ _ => False
  | k + 1 => fun f7 A40 A40l A40c x41 x42 A48 A48l A48c x49 x50 q8 x8 x8_1 x8_2 x8_3 x8_3l x8_3c q1 p1 p1l p1c w =>
    if (decide (x50 < x49)) = true
    then (∃ p53 : Addr, A48 = some p53 ∧ (0 : Int) ≤ x50 ∧ x50 < (A48l : Int) ∧
    ∃ x54 : Int, w.cell? ((p53.add (x50.toNat * 3)).add 0) = some (.int .i64 x54) ∧
    ∃ x54_1 : Int, w.cell? ((p53.add (x50.toNat * 3)).add 1) = some (.int .i64 x54_1) ∧
    ∃ x54_2 : Int, w.cell? ((p53.add (x50.toNat * 3)).add 2) = some (.int .i64 x54_2) ∧
    ∀ q10 : Nat, w.heap.size ≤ q10 →
    CallK Try.prog 90 [.agg ⟨[.slice p1 p1l p1c]⟩, .agg ⟨[.int .i64 x8, .int .i64 x8_1, .int .i64 x8_2, .slice x8_3 x8_3l x8_3c]⟩, .agg ⟨[.int .i64 x54, .int .i64 x54_1, .int .i64 x54_2]⟩] B w [q10, q8, q1] fun v w_1 => 
     ∃ b58 : Bool, v = .bool b58 ∧
     if (!b58) = true
     then (Ret B w_1 (R (.tuple ⟨[.int .i64 6, .int .i64 f7, .int .i64 x50]⟩)))
     else ((V37.l2 B R L1 k) f7 A40 A40l A40c x41 x42 A48 A48l A48c x49 (IntKind.wrap .i64 (x50 + 1)) q8 x8 x8_1 x8_2 x8_3 x8_3l x8_3c q1 p1 p1l p1c w_1))
    else (L1 A40 A40l A40c x41 (IntKind.wrap .i64 (x42 + 1)) q1 p1 p1l p1c w)
def V37.l3 (B : Nat) (R : Value → World → Prop) : Nat → Option Addr → Nat → Nat → Int → Int → Nat → Option Addr → Nat → Nat → World → Prop
  | 0 => fun _ _ _ _ _ _ _ _ _ _ => False
  | k + 1 => fun A65 A65l A65c x66 x67 q1 p1 p1l p1c w =>
    if (decide (x67 < x66)) = true
    then (∃ p70 : Addr, A65 = some p70 ∧ (0 : Int) ≤ x67 ∧ x67 < (A65l : Int) ∧
    ∃ x71 : Int, w.cell? ((p70.add (x67.toNat * 4)).add 0) = some (.int .i64 x71) ∧
    ∃ x71_1 : Int, w.cell? ((p70.add (x67.toNat * 4)).add 1) = some (.int .i64 x71_1) ∧
    ∃ x71_2 : Int, w.cell? ((p70.add (x67.toNat * 4)).add 2) = some (.int .i64 x71_2) ∧
    ∃ (A71 : Option Addr) (A71l A71c : Nat), w.cell? ((p70.add (x67.toNat * 4)).add 3) = some (.slice A71 A71l A71c) ∧
    ∀ q12 : Nat, w.heap.size ≤ q12 →
    CallK Try.prog 91 [.agg ⟨[.slice p1 p1l p1c]⟩, .slice A71 A71l A71c] B w [q12, q1] fun v w_1 => 
     ∃ (A76 : Option Addr) (A76l A76c : Nat) (x76 : Int) (b76 : Bool), v = .tuple ⟨[.slice A76 A76l A76c, .int .i64 x76, .bool b76]⟩ ∧
     if (!b76) = true
     then (Ret B w_1 (R (.tuple ⟨[.int .i64 9, .int .i64 x67, .int .i64 x76]⟩)))
     else ((V37.l3 B R k) A65 A65l A65c x66 (IntKind.wrap .i64 (x67 + 1)) q1 p1 p1l p1c w_1))
    else (Ret B w (R (.tuple ⟨[.int .i64 0, .int .i64 0, .int .i64 0]⟩)))
def V37.l1 (B : Nat) (R : Value → World → Prop) : Nat → Option Addr → Nat → Nat → Int → Int → Nat → Option Addr → Nat → Nat → World → Prop
  | 0 => fun _ _ _ _ _ _ _ _ _ _ => False
  | k + 1 => fun A40 A40l A40c x41 x42 q1 p1 p1l p1c w =>
    if (decide (x42 < x41)) = true
    then (∃ p45 : Addr, A40 = some p45 ∧ (0 : Int) ≤ x42 ∧ x42 < (A40l : Int) ∧
    ∃ x46 : Int, w.cell? ((p45.add (x42.toNat * 4)).add 0) = some (.int .i64 x46) ∧
    ∃ x46_1 : Int, w.cell? ((p45.add (x42.toNat * 4)).add 1) = some (.int .i64 x46_1) ∧
    ∃ x46_2 : Int, w.cell? ((p45.add (x42.toNat * 4)).add 2) = some (.int .i64 x46_2) ∧
    ∃ (A46 : Option Addr) (A46l A46c : Nat), w.cell? ((p45.add (x42.toNat * 4)).add 3) = some (.slice A46 A46l A46c) ∧
    ∀ q8 : Nat, w.heap.size ≤ q8 →
    ∃ k_1, V37.l2 B R (V37.l1 B R k) k_1 x42 A40 A40l A40c x41 x42 A46 A46l A46c (A46l : Int) 0 q8 x46 x46_1 x46_2 A46 A46l A46c q1 p1 p1l p1c w)
    else (∃ k_1, V37.l3 B R k_1 p1 p1l p1c (p1l : Int) 0 q1 p1 p1l p1c w)
def V37.l0 (B : Nat) (R : Value → World → Prop) : Nat → Option Addr → Nat → Nat → Int → Int → Nat → Option Addr → Nat → Nat → World → Prop
  | 0 => fun _ _ _ _ _ _ _ _ _ _ => False
  | k + 1 => fun A27 A27l A27c x28 x29 q1 p1 p1l p1c w =>
    if (decide (x29 < x28)) = true
    then (∃ p32 : Addr, A27 = some p32 ∧ (0 : Int) ≤ x29 ∧ x29 < (A27l : Int) ∧
    ∃ x33 : Int, w.cell? ((p32.add (x29.toNat * 4)).add 0) = some (.int .i64 x33) ∧
    ∃ x33_1 : Int, w.cell? ((p32.add (x29.toNat * 4)).add 1) = some (.int .i64 x33_1) ∧
    ∃ x33_2 : Int, w.cell? ((p32.add (x29.toNat * 4)).add 2) = some (.int .i64 x33_2) ∧
    ∃ (A33 : Option Addr) (A33l A33c : Nat), w.cell? ((p32.add (x29.toNat * 4)).add 3) = some (.slice A33 A33l A33c) ∧
    ∀ q6 : Nat, w.heap.size ≤ q6 →
    CallK Try.prog 89 [.agg ⟨[.int .i64 x33, .int .i64 x33_1, .int .i64 x33_2, .slice A33 A33l A33c]⟩] B w [q6, q1] fun v w_1 => 
     ∃ b35 : Bool, v = .bool b35 ∧
     if (!b35) = true
     then (Ret B w_1 (R (.tuple ⟨[.int .i64 1, .int .i64 x29, .int .i64 0]⟩)))
     else ((V37.l0 B R k) A27 A27l A27c x28 (IntKind.wrap .i64 (x29 + 1)) q1 p1 p1l p1c w_1))
    else (∃ k_1, V37.l1 B R k_1 p1 p1l p1c (p1l : Int) 0 q1 p1 p1l p1c w)
def V37.vc (B : Nat) (R : Value → World → Prop) (p0 : Option Addr) (p0l p0c : Nat) (w : World) : Prop :=
  ∀ q1 : Nat, w.heap.size ≤ q1 →
if (decide ((p0l : Int) < 1)) = false
  then (if (decide ((p0l : Int) > 8)) = true
   then (Ret B w (R (.tuple ⟨[.int .i64 1, .int .i64 0, .int .i64 0]⟩)))
   else (∃ k_1, V37.l0 B R k_1 p0 p0l p0c (p0l : Int) 0 q1 p0 p0l p0c w))
  else (Ret B w (R (.tuple ⟨[.int .i64 1, .int .i64 0, .int .i64 0]⟩)))
noncomputable def V37.cfg (B : Nat) : Cfg := ⟨Try.prog, ⟨85, B⟩, [], hasN [89, 90, 91], hasN []⟩
noncomputable def V37.code : Code := (Try.f37.body).getD .skip
noncomputable def V37.cuts (B : Nat) (R : Value → World → Prop) : Nat → Cut := nthC [⟨[(27, .one (.slice)), (28, .one (.int .i64)), (29, .one (.int .i64))], [(1, 24, [.slice])], fun fs vs bs w => V37.l0 B R (nthN fs 0) (slA (nthV vs 0)) (slL (nthV vs 0)) (slC (nthV vs 0)) (iV (nthV vs 1)) (iV (nthV vs 2)) (nthB bs 0).blk (slA (nthV (nthB bs 0).cells 0)) (slL (nthV (nthB bs 0).cells 0)) (slC (nthV (nthB bs 0).cells 0)) w⟩,
  ⟨[(40, .one (.slice)), (41, .one (.int .i64)), (42, .one (.int .i64))], [(1, 24, [.slice])], fun fs vs bs w => V37.l1 B R (nthN fs 0) (slA (nthV vs 0)) (slL (nthV vs 0)) (slC (nthV vs 0)) (iV (nthV vs 1)) (iV (nthV vs 2)) (nthB bs 0).blk (slA (nthV (nthB bs 0).cells 0)) (slL (nthV (nthB bs 0).cells 0)) (slC (nthV (nthB bs 0).cells 0)) w⟩,
  ⟨[(7, .one (.int .i64)), (40, .one (.slice)), (41, .one (.int .i64)), (42, .one (.int .i64)), (48, .one (.slice)), (49, .one (.int .i64)), (50, .one (.int .i64))], [(8, 29, [.int .i64, .int .i64, .int .i64, .slice]), (1, 24, [.slice])], fun fs vs bs w => V37.l2 B R (V37.l1 B R (nthN fs 1)) (nthN fs 0) (iV (nthV vs 0)) (slA (nthV vs 1)) (slL (nthV vs 1)) (slC (nthV vs 1)) (iV (nthV vs 2)) (iV (nthV vs 3)) (slA (nthV vs 4)) (slL (nthV vs 4)) (slC (nthV vs 4)) (iV (nthV vs 5)) (iV (nthV vs 6)) (nthB bs 0).blk (iV (nthV (nthB bs 0).cells 0)) (iV (nthV (nthB bs 0).cells 1)) (iV (nthV (nthB bs 0).cells 2)) (slA (nthV (nthB bs 0).cells 3)) (slL (nthV (nthB bs 0).cells 3)) (slC (nthV (nthB bs 0).cells 3)) (nthB bs 1).blk (slA (nthV (nthB bs 1).cells 0)) (slL (nthV (nthB bs 1).cells 0)) (slC (nthV (nthB bs 1).cells 0)) w⟩,
  ⟨[(65, .one (.slice)), (66, .one (.int .i64)), (67, .one (.int .i64))], [(1, 24, [.slice])], fun fs vs bs w => V37.l3 B R (nthN fs 0) (slA (nthV vs 0)) (slL (nthV vs 0)) (slC (nthV vs 0)) (iV (nthV vs 1)) (iV (nthV vs 2)) (nthB bs 0).blk (slA (nthV (nthB bs 0).cells 0)) (slL (nthV (nthB bs 0).cells 0)) (slC (nthV (nthB bs 0).cells 0)) w⟩]
noncomputable def V37.h : H := .s (.z) (.s (.s (.z) (.c (.s (.z) (.z)) (.z))) (.s (.s (.z) (.b (.l 0 (.s (.z) (.s (.c (.z) (.z)) (.s (.b (.s (.z) (.s (.z) (.c (.s (.z) (.z)) (.z))))) (.z))))))) (.s (.s (.z) (.b (.l 1 (.s (.z) (.s (.c (.z) (.z)) (.s (.b (.s (.z) (.s (.z) (.b (.l 2 (.s (.z) (.s (.c (.z) (.z)) (.s (.b (.s (.z) (.s (.z) (.c (.s (.z) (.z)) (.z))))) (.z))))))))) (.z))))))) (.s (.s (.z) (.b (.l 3 (.s (.z) (.s (.c (.z) (.z)) (.s (.b (.s (.z) (.s (.z) (.s (.z) (.c (.s (.z) (.z)) (.z)))))) (.z))))))) (.s (.z) (.z))))))
theorem V37.vc_eq (B : Nat) (R : Value → World → Prop) (p0 : Option Addr) (p0l p0c : Nat) (w : World) : wpf (V37.cfg B) (V37.cuts B R) V37.code V37.h [] (postOf Try.prog B (Try.f37.results.toList) R) (argE 0 [.agg ⟨[.slice p0 p0l p0c]⟩]) [] w = V37.vc B R p0 p0l p0c w := by kernel_rfl
theorem V37.obl (B : Nat) (R : Value → World → Prop) : oblP (V37.cfg B) (V37.cuts B R) V37.code V37.h [] (postOf Try.prog B (Try.f37.results.toList) R) := by
  have e : oblP (V37.cfg B) (V37.cuts B R) V37.code V37.h [] (postOf Try.prog B (Try.f37.results.toList) R) = (True ∧ ((True ∧ ((True ∧ True) ∧ True)) ∧ ((True ∧ ((∀ (A27 : Option Addr) (A27l A27c : Nat) (x28 x29 : Int) (q1 : Nat) (p1 : Option Addr) (p1l p1c : Nat) (w : World), ¬ V37.l0 B R 0 A27 A27l A27c x28 x29 q1 p1 p1l p1c w) ∧ (∀ k0, ∀ (A27 : Option Addr) (A27l A27c : Nat) (x28 x29 : Int) (q1 : Nat) (p1 : Option Addr) (p1l p1c : Nat) (w : World), V37.l0 B R (k0 + 1) A27 A27l A27c x28 x29 q1 p1 p1l p1c w → V37.l0 B R (k0 + 1) A27 A27l A27c x28 x29 q1 p1 p1l p1c w) ∧ ∀ k0 : Nat, (True ∧ ((True ∧ True) ∧ ((True ∧ (True ∧ ((True ∧ True) ∧ True))) ∧ True))))) ∧ ((True ∧ ((∀ (A40 : Option Addr) (A40l A40c : Nat) (x41 x42 : Int) (q1 : Nat) (p1 : Option Addr) (p1l p1c : Nat) (w : World), ¬ V37.l1 B R 0 A40 A40l A40c x41 x42 q1 p1 p1l p1c w) ∧ (∀ k1, ∀ (A40 : Option Addr) (A40l A40c : Nat) (x41 x42 : Int) (q1 : Nat) (p1 : Option Addr) (p1l p1c : Nat) (w : World), V37.l1 B R (k1 + 1) A40 A40l A40c x41 x42 q1 p1 p1l p1c w → V37.l1 B R (k1 + 1) A40 A40l A40c x41 x42 q1 p1 p1l p1c w) ∧ ∀ k1 : Nat, (True ∧ ((True ∧ True) ∧ ((True ∧ (True ∧ ((∀ (f7 : Int) (A40 : Option Addr) (A40l A40c : Nat) (x41 x42 : Int) (A48 : Option Addr) (A48l A48c : Nat) (x49 x50 : Int) (q8 : Nat) (x8 x8_1 x8_2 : Int) (x8_3 : Option Addr) (x8_3l x8_3c q1 : Nat) (p1 : Option Addr) (p1l p1c : Nat) (w : World), ¬ V37.l2 B R (V37.l1 B R k1) 0 f7 A40 A40l A40c x41 x42 A48 A48l A48c x49 x50 q8 x8 x8_1 x8_2 x8_3 x8_3l x8_3c q1 p1 p1l p1c w) ∧ (∀ k2, ∀ (f7 : Int) (A40 : Option Addr) (A40l A40c : Nat) (x41 x42 : Int) (A48 : Option Addr) (A48l A48c : Nat) (x49 x50 : Int) (q8 : Nat) (x8 x8_1 x8_2 : Int) (x8_3 : Option Addr) (x8_3l x8_3c q1 : Nat) (p1 : Option Addr) (p1l p1c : Nat) (w : World), V37.l2 B R (V37.l1 B R k1) (k2 + 1) f7 A40 A40l A40c x41 x42 A48 A48l A48c x49 x50 q8 x8 x8_1 x8_2 x8_3 x8_3l x8_3c q1 p1 p1l p1c w → V37.l2 B R (V37.l1 B R k1) (k2 + 1) f7 A40 A40l A40c x41 x42 A48 A48l A48c x49 x50 q8 x8 x8_1 x8_2 x8_3 x8_3l x8_3c q1 p1 p1l p1c w) ∧ ∀ k2 : Nat, (True ∧ ((True ∧ True) ∧ ((True ∧ (True ∧ ((True ∧ True) ∧ True))) ∧ True)))))) ∧ True))))) ∧ ((True ∧ ((∀ (A65 : Option Addr) (A65l A65c : Nat) (x66 x67 : Int) (q1 : Nat) (p1 : Option Addr) (p1l p1c : Nat) (w : World), ¬ V37.l3 B R 0 A65 A65l A65c x66 x67 q1 p1 p1l p1c w) ∧ (∀ k3, ∀ (A65 : Option Addr) (A65l A65c : Nat) (x66 x67 : Int) (q1 : Nat) (p1 : Option Addr) (p1l p1c : Nat) (w : World), V37.l3 B R (k3 + 1) A65 A65l A65c x66 x67 q1 p1 p1l p1c w → V37.l3 B R (k3 + 1) A65 A65l A65c x66 x67 q1 p1 p1l p1c w) ∧ ∀ k3 : Nat, (True ∧ ((True ∧ True) ∧ ((True ∧ (True ∧ (True ∧ ((True ∧ True) ∧ True)))) ∧ True))))) ∧ (True ∧ True)))))) := by kernel_rfl
  rw [e]
  exact ⟨trivial, ⟨⟨trivial, ⟨⟨trivial, trivial⟩, trivial⟩⟩, ⟨⟨trivial, ⟨fun A27 A27l A27c x28 x29 q1 p1 p1l p1c w h => h, fun _ A27 A27l A27c x28 x29 q1 p1 p1l p1c w h => h, fun k0 => ⟨trivial, ⟨⟨trivial, trivial⟩, ⟨⟨trivial, ⟨trivial, ⟨⟨trivial, trivial⟩, trivial⟩⟩⟩, trivial⟩⟩⟩⟩⟩, ⟨⟨trivial, ⟨fun A40 A40l A40c x41 x42 q1 p1 p1l p1c w h => h, fun _ A40 A40l A40c x41 x42 q1 p1 p1l p1c w h => h, fun k1 => ⟨trivial, ⟨⟨trivial, trivial⟩, ⟨⟨trivial, ⟨trivial, ⟨fun f7 A40 A40l A40c x41 x42 A48 A48l A48c x49 x50 q8 x8 x8_1 x8_2 x8_3 x8_3l x8_3c q1 p1 p1l p1c w h => h, fun _ f7 A40 A40l A40c x41 x42 A48 A48l A48c x49 x50 q8 x8 x8_1 x8_2 x8_3 x8_3l x8_3c q1 p1 p1l p1c w h => h, fun k2 => ⟨trivial, ⟨⟨trivial, trivial⟩, ⟨⟨trivial, ⟨trivial, ⟨⟨trivial, trivial⟩, trivial⟩⟩⟩, trivial⟩⟩⟩⟩⟩⟩, trivial⟩⟩⟩⟩⟩, ⟨⟨trivial, ⟨fun A65 A65l A65c x66 x67 q1 p1 p1l p1c w h => h, fun _ A65 A65l A65c x66 x67 q1 p1 p1l p1c w h => h, fun k3 => ⟨trivial, ⟨⟨trivial, trivial⟩, ⟨⟨trivial, ⟨trivial, ⟨trivial, ⟨⟨trivial, trivial⟩, trivial⟩⟩⟩⟩, trivial⟩⟩⟩⟩⟩, ⟨trivial, trivial⟩⟩⟩⟩⟩⟩
theorem V37.cfgOk (B : Nat) : CfgOk (V37.cfg B) := cfgOk_of (by kernel_rfl) (by kernel_rfl)
theorem V37.sound {p0 : Option Addr} {p0l p0c : Nat} {w : World} {R : Value → World → Prop} (h : V37.vc w.heap.size R p0 p0l p0c w) : Calls Try.prog 37 ⟨[.agg ⟨[.slice p0 p0l p0c]⟩]⟩ w fun e w' => ∃ v, e = .returned v ∧ R v w' :=
  calls_wpfP (c := V37.cfg w.heap.size) (fn := Try.f37) (x := V37.code) (V37.cuts w.heap.size R) V37.h (V37.cfgOk _) mixed Try.func37 (by kernel_rfl) (by kernel_rfl) (by kernel_rfl) rfl (V37.obl _ _) ((V37.vc_eq _ _ p0 p0l p0c _).symm ▸ h)

/-! function 38 -/
def V38.vc (B : Nat) (R : Value → World → Prop) (p0 : Option Addr) (p0l p0c : Nat) (f1 : Int) (w : World) : Prop :=
  ∀ q2 : Nat, w.heap.size ≤ q2 →
CallK Try.prog 37 [.agg ⟨[.slice p0 p0l p0c]⟩] B w [q2] fun v w_1 => 
  ∃ x13 x13_1 x13_2 : Int, v = .tuple ⟨[.int .i64 x13, .int .i64 x13_1, .int .i64 x13_2]⟩ ∧
  if (x13 != 0) = false
  then (if (decide (f1 < 0)) = false
   then (if (decide (f1 ≥ (p0l : Int))) = true
    then (Ret B w_1 (R (.slice none 0 0)))
    else (∃ p35 : Addr, p0 = some p35 ∧ (0 : Int) ≤ f1 ∧ f1 < (p0l : Int) ∧
    ∃ (A37 : Option Addr) (A37l A37c : Nat), w_1.cell? ((p35.add (f1.toNat * 4)).add 3) = some (.slice A37 A37l A37c) ∧
    CallK Try.prog 91 [.agg ⟨[.slice p0 p0l p0c]⟩, .slice A37 A37l A37c] B w_1 [q2] fun v_1 w_2 => 
     ∃ (A38 : Option Addr) (A38l A38c : Nat) (x38 : Int) (b38 : Bool), v_1 = .tuple ⟨[.slice A38 A38l A38c, .int .i64 x38, .bool b38]⟩ ∧
     Ret B w_2 (R (.slice A38 A38l A38c))))
   else (Ret B w_1 (R (.slice none 0 0))))
  else (Ret B w_1 (R (.slice none 0 0)))
noncomputable def V38.cfg (B : Nat) : Cfg := ⟨Try.prog, ⟨43, B⟩, [], hasN [37, 91], hasN []⟩
noncomputable def V38.code : Code := (Try.f38.body).getD .skip
noncomputable def V38.cuts (B : Nat) (R : Value → World → Prop) : Nat → Cut := nthC []
noncomputable def V38.h : H := .s (.z) (.s (.s (.z) (.s (.z) (.c (.s (.z) (.z)) (.z)))) (.s (.r [[0, 1, 2, 3, 4, 5, 6, 7, 8, 9, 10, 11, 12, 13, 14]]) (.s (.z) (.z))))
theorem V38.vc_eq (B : Nat) (R : Value → World → Prop) (p0 : Option Addr) (p0l p0c : Nat) (f1 : Int) (w : World) : wpf (V38.cfg B) (V38.cuts B R) V38.code V38.h [] (postOf Try.prog B (Try.f38.results.toList) R) (argE 0 [.agg ⟨[.slice p0 p0l p0c]⟩, .int .i64 f1]) [] w = V38.vc B R p0 p0l p0c f1 w := by kernel_rfl
theorem V38.obl (B : Nat) (R : Value → World → Prop) : oblP (V38.cfg B) (V38.cuts B R) V38.code V38.h [] (postOf Try.prog B (Try.f38.results.toList) R) := by
  have e : oblP (V38.cfg B) (V38.cuts B R) V38.code V38.h [] (postOf Try.prog B (Try.f38.results.toList) R) = (True ∧ ((True ∧ (True ∧ ((True ∧ True) ∧ True))) ∧ ((true = true) ∧ (True ∧ True)))) := by kernel_rfl
  rw [e]
  exact ⟨trivial, ⟨⟨trivial, ⟨trivial, ⟨⟨trivial, trivial⟩, trivial⟩⟩⟩, ⟨rfl, ⟨trivial, trivial⟩⟩⟩⟩
theorem V38.cfgOk (B : Nat) : CfgOk (V38.cfg B) := cfgOk_of (by kernel_rfl) (by kernel_rfl)
theorem V38.sound {p0 : Option Addr} {p0l p0c : Nat} {f1 : Int} {w : World} {R : Value → World → Prop} (h : V38.vc w.heap.size R p0 p0l p0c f1 w) : Calls Try.prog 38 ⟨[.agg ⟨[.slice p0 p0l p0c]⟩, .int .i64 f1]⟩ w fun e w' => ∃ v, e = .returned v ∧ R v w' :=
  calls_wpfP (c := V38.cfg w.heap.size) (fn := Try.f38) (x := V38.code) (V38.cuts w.heap.size R) V38.h (V38.cfgOk _) mixed Try.func38 (by kernel_rfl) (by kernel_rfl) (by kernel_rfl) rfl (V38.obl _ _) ((V38.vc_eq _ _ p0 p0l p0c f1 _).symm ▸ h)

/-! function 40 -/
def V40.l0 (B : Nat) (R : Value → World → Prop) : Nat → Option Addr → Nat → Nat → Option Addr → Nat → Nat → Int → World → Prop
  | 0 => fun _ _ _ _ _ _ _ _ => False
  | k + 1 => fun a0 a0l a0c b1 b1l b1c i5 w =>
    if (decide (i5 < (a0l : Int))) = true
    then (∃ p19 : Addr, a0 = some p19 ∧ (0 : Int) ≤ i5 ∧ i5 < (a0l : Int) ∧
    ∃ x20 : Int, w.cell? (p19.add i5.toNat) = some (.int .i64 x20) ∧
    ∃ p23 : Addr, b1 = some p23 ∧ (0 : Int) ≤ i5 ∧ i5 < (b1l : Int) ∧
    ∃ x24 : Int, w.cell? (p23.add i5.toNat) = some (.int .i64 x24) ∧
    if (x20 != x24) = true
     then (Ret B w (R (.bool false)))
     else ((V40.l0 B R k) a0 a0l a0c b1 b1l b1c (IntKind.wrap .i64 (i5 + 1)) w))
    else (Ret B w (R (.bool true)))
def V40.vc (B : Nat) (R : Value → World → Prop) (a0 : Option Addr) (a0l a0c : Nat) (b1 : Option Addr) (b1l b1c : Nat) (w : World) : Prop :=
  if ((a0l : Int) != (b1l : Int)) = true
  then (Ret B w (R (.bool false)))
  else (∃ k_1, V40.l0 B R k_1 a0 a0l a0c b1 b1l b1c 0 w)
noncomputable def V40.cfg (B : Nat) : Cfg := ⟨Try.prog, ⟨26, B⟩, [], hasN [], hasN []⟩
noncomputable def V40.code : Code := (Try.f40.body).getD .skip
noncomputable def V40.cuts (B : Nat) (R : Value → World → Prop) : Nat → Cut := nthC [⟨[(0, .one (.slice)), (1, .one (.slice)), (5, .one (.int .i64))], [], fun fs vs bs w => V40.l0 B R (nthN fs 0) (slA (nthV vs 0)) (slL (nthV vs 0)) (slC (nthV vs 0)) (slA (nthV vs 1)) (slL (nthV vs 1)) (slC (nthV vs 1)) (iV (nthV vs 2)) w⟩]
noncomputable def V40.h : H := .s (.z) (.s (.s (.z) (.c (.s (.z) (.z)) (.z))) (.s (.s (.z) (.b (.l 0 (.s (.s (.z) (.c (.z) (.z))) (.s (.b (.s (.r [[0, 1, 2, 3, 4, 5, 6, 7, 8]]) (.c (.s (.z) (.z)) (.z)))) (.z)))))) (.s (.z) (.z))))
theorem V40.vc_eq (B : Nat) (R : Value → World → Prop) (a0 : Option Addr) (a0l a0c : Nat) (b1 : Option Addr) (b1l b1c : Nat) (w : World) : wpf (V40.cfg B) (V40.cuts B R) V40.code V40.h [] (postOf Try.prog B (Try.f40.results.toList) R) (argE 0 [.slice a0 a0l a0c, .slice b1 b1l b1c]) [] w = V40.vc B R a0 a0l a0c b1 b1l b1c w := by kernel_rfl
theorem V40.obl (B : Nat) (R : Value → World → Prop) : oblP (V40.cfg B) (V40.cuts B R) V40.code V40.h [] (postOf Try.prog B (Try.f40.results.toList) R) := by
  have e : oblP (V40.cfg B) (V40.cuts B R) V40.code V40.h [] (postOf Try.prog B (Try.f40.results.toList) R) = (True ∧ ((True ∧ ((True ∧ True) ∧ True)) ∧ ((True ∧ ((∀ (a0 : Option Addr) (a0l a0c : Nat) (b1 : Option Addr) (b1l b1c : Nat) (i5 : Int) (w : World), ¬ V40.l0 B R 0 a0 a0l a0c b1 b1l b1c i5 w) ∧ (∀ k0, ∀ (a0 : Option Addr) (a0l a0c : Nat) (b1 : Option Addr) (b1l b1c : Nat) (i5 : Int) (w : World), V40.l0 B R (k0 + 1) a0 a0l a0c b1 b1l b1c i5 w → V40.l0 B R (k0 + 1) a0 a0l a0c b1 b1l b1c i5 w) ∧ ∀ k0 : Nat, ((True ∧ (True ∧ True)) ∧ (((true = true) ∧ ((True ∧ True) ∧ True)) ∧ True)))) ∧ (True ∧ True)))) := by kernel_rfl
  rw [e]
  exact ⟨trivial, ⟨⟨trivial, ⟨⟨trivial, trivial⟩, trivial⟩⟩, ⟨⟨trivial, ⟨fun a0 a0l a0c b1 b1l b1c i5 w h => h, fun _ a0 a0l a0c b1 b1l b1c i5 w h => h, fun k0 => ⟨⟨trivial, ⟨trivial, trivial⟩⟩, ⟨⟨rfl, ⟨⟨trivial, trivial⟩, trivial⟩⟩, trivial⟩⟩⟩⟩, ⟨trivial, trivial⟩⟩⟩⟩
theorem V40.cfgOk (B : Nat) : CfgOk (V40.cfg B) := cfgOk_of (by kernel_rfl) (by kernel_rfl)
theorem V40.sound {a0 : Option Addr} {a0l a0c : Nat} {b1 : Option Addr} {b1l b1c : Nat} {w : World} {R : Value → World → Prop} (h : V40.vc w.heap.size R a0 a0l a0c b1 b1l b1c w) : Calls Try.prog 40 ⟨[.slice a0 a0l a0c, .slice b1 b1l b1c]⟩ w fun e w' => ∃ v, e = .returned v ∧ R v w' :=
  calls_wpfP (c := V40.cfg w.heap.size) (fn := Try.f40) (x := V40.code) (V40.cuts w.heap.size R) V40.h (V40.cfgOk _) mixed Try.func40 (by kernel_rfl) (by kernel_rfl) (by kernel_rfl) rfl (V40.obl _ _) ((V40.vc_eq _ _ a0 a0l a0c b1 b1l b1c _).symm ▸ h)

/-! function 82 -/
def V82.vc (B : Nat) (R : Value → World → Prop) (p0 : Option Addr) (p0l p0c : Nat) (f1 : Int) (w : World) : Prop :=
  ∀ q2 : Nat, w.heap.size ≤ q2 →
if (decide (f1 < 0)) = false
  then (if (decide (f1 ≥ (p0l : Int))) = true
   then (Ret B w (R (.int .i64 0)))
   else (∃ p17 : Addr, p0 = some p17 ∧ (0 : Int) ≤ f1 ∧ f1 < (p0l : Int) ∧
   ∃ x19 : Int, w.cell? ((p17.add (f1.toNat * 4)).add 0) = some (.int .i64 x19) ∧
   Ret B w (R (.int .i64 (if 0 > x19 then 0 else x19)))))
  else (Ret B w (R (.int .i64 0)))
noncomputable def V82.cfg (B : Nat) : Cfg := ⟨Try.prog, ⟨21, B⟩, [], hasN [], hasN []⟩
noncomputable def V82.code : Code := (Try.f82.body).getD .skip
noncomputable def V82.cuts (B : Nat) (R : Value → World → Prop) : Nat → Cut := nthC []
noncomputable def V82.h : H := .s (.z) (.s (.s (.z) (.c (.s (.z) (.z)) (.z))) (.s (.z) (.z)))
theorem V82.vc_eq (B : Nat) (R : Value → World → Prop) (p0 : Option Addr) (p0l p0c : Nat) (f1 : Int) (w : World) : wpf (V82.cfg B) (V82.cuts B R) V82.code V82.h [] (postOf Try.prog B (Try.f82.results.toList) R) (argE 0 [.agg ⟨[.slice p0 p0l p0c]⟩, .int .i64 f1]) [] w = V82.vc B R p0 p0l p0c f1 w := by kernel_rfl
theorem V82.obl (B : Nat) (R : Value → World → Prop) : oblP (V82.cfg B) (V82.cuts B R) V82.code V82.h [] (postOf Try.prog B (Try.f82.results.toList) R) := by
  have e : oblP (V82.cfg B) (V82.cuts B R) V82.code V82.h [] (postOf Try.prog B (Try.f82.results.toList) R) = (True ∧ ((True ∧ ((True ∧ True) ∧ True)) ∧ (True ∧ True))) := by kernel_rfl
  rw [e]
  exact ⟨trivial, ⟨⟨trivial, ⟨⟨trivial, trivial⟩, trivial⟩⟩, ⟨trivial, trivial⟩⟩⟩
theorem V82.cfgOk (B : Nat) : CfgOk (V82.cfg B) := cfgOk_of (by kernel_rfl) (by kernel_rfl)
theorem V82.sound {p0 : Option Addr} {p0l p0c : Nat} {f1 : Int} {w : World} {R : Value → World → Prop} (h : V82.vc w.heap.size R p0 p0l p0c f1 w) : Calls Try.prog 82 ⟨[.agg ⟨[.slice p0 p0l p0c]⟩, .int .i64 f1]⟩ w fun e w' => ∃ v, e = .returned v ∧ R v w' :=
  calls_wpfP (c := V82.cfg w.heap.size) (fn := Try.f82) (x := V82.code) (V82.cuts w.heap.size R) V82.h (V82.cfgOk _) mixed Try.func82 (by kernel_rfl) (by kernel_rfl) (by kernel_rfl) rfl (V82.obl _ _) ((V82.vc_eq _ _ p0 p0l p0c f1 _).symm ▸ h)

/-! function 83 -/
def V83.b3 (B : Nat) (R : Value → World → Prop) (x6 : Int) (b42 : Bool) (w : World) : Prop :=
  if b42 = true
  then (Ret B w (R (.tuple ⟨[.int .i64 6, .int .i64 0, .int .i64 0, .bool true]⟩)))
  else (if (x6 == 24) = true
   then (Ret B w (R (.tuple ⟨[.int .i64 7, .int .i64 0, .int .i64 0, .bool true]⟩)))
   else (if (x6 == 26) = true
    then (Ret B w (R (.tuple ⟨[.int .i64 0, .int .i64 0, .int .i64 0, .bool true]⟩)))
    else (Ret B w (R (.tuple ⟨[.int .i64 0, .int .i64 0, .int .i64 0, .bool false]⟩)))))
def V83.b2 (B : Nat) (R : Value → World → Prop) (x6 : Int) (b33 : Bool) (w : World) : Prop :=
  if b33 = true
  then (Ret B w (R (.tuple ⟨[.int .i64 0, .int .i64 1, .int .i64 0, .bool true]⟩)))
  else (if (x6 == 19) = true
   then (Ret B w (R (.tuple ⟨[.int .i64 5, .int .i64 (-1), .int .i64 0, .bool true]⟩)))
   else (if (x6 == 21) = true
    then (Ret B w (R (.tuple ⟨[.int .i64 0, .int .i64 0, .int .i64 2, .bool true]⟩)))
    else (if (x6 == 23) = true
     then (V83.b3 B R x6 (x6 == 23) w)
     else (V83.b3 B R x6 (x6 == 25) w))))
def V83.b1 (B : Nat) (R : Value → World → Prop) (x6 : Int) (b24 : Bool) (w : World) : Prop :=
  if b24 = true
  then (Ret B w (R (.tuple ⟨[.int .i64 0, .int .i64 1, .int .i64 1, .bool true]⟩)))
  else (if (x6 == 15) = true
   then (Ret B w (R (.tuple ⟨[.int .i64 4, .int .i64 0, .int .i64 0, .bool true]⟩)))
   else (if (x6 == 16) = true
    then (Ret B w (R (.tuple ⟨[.int .i64 4, .int .i64 1, .int .i64 0, .bool true]⟩)))
    else (if (x6 == 17) = true
     then (Ret B w (R (.tuple ⟨[.int .i64 5, .int .i64 (-1), .int .i64 1, .bool true]⟩)))
     else (if (x6 == 18) = true
      then (V83.b2 B R x6 (x6 == 18) w)
      else (if (x6 == 20) = true
       then (V83.b2 B R x6 (x6 == 20) w)
       else (if (x6 == 22) = true
        then (V83.b2 B R x6 (x6 == 22) w)
        else (V83.b2 B R x6 (x6 == 27) w)))))))
def V83.b0 (B : Nat) (R : Value → World → Prop) (x6 : Int) (b15 : Bool) (w : World) : Prop :=
  if b15 = true
  then (Ret B w (R (.tuple ⟨[.int .i64 0, .int .i64 2, .int .i64 1, .bool true]⟩)))
  else (if (x6 == 9) = true
   then (V83.b1 B R x6 (x6 == 9) w)
   else (V83.b1 B R x6 (x6 == 10) w))
def V83.vc (B : Nat) (R : Value → World → Prop) (op0 : Int) (w : World) : Prop :=
  if (op0 == 1) = true
  then (Ret B w (R (.tuple ⟨[.int .i64 1, .int .i64 0, .int .i64 1, .bool true]⟩)))
  else (if (op0 == 2) = true
   then (Ret B w (R (.tuple ⟨[.int .i64 2, .int .i64 0, .int .i64 1, .bool true]⟩)))
   else (if (op0 == 3) = true
    then (Ret B w (R (.tuple ⟨[.int .i64 3, .int .i64 0, .int .i64 1, .bool true]⟩)))
    else (if (op0 == 4) = true
     then (Ret B w (R (.tuple ⟨[.int .i64 3, .int .i64 1, .int .i64 0, .bool true]⟩)))
     else (if (op0 == 5) = true
      then (V83.b0 B R op0 (op0 == 5) w)
      else (if (op0 == 6) = true
       then (V83.b0 B R op0 (op0 == 6) w)
       else (if (op0 == 7) = true
        then (V83.b0 B R op0 (op0 == 7) w)
        else (if (op0 == 8) = true
         then (V83.b0 B R op0 (op0 == 8) w)
         else (if (op0 == 11) = true
          then (V83.b0 B R op0 (op0 == 11) w)
          else (if (op0 == 12) = true
           then (V83.b0 B R op0 (op0 == 12) w)
           else (if (op0 == 13) = true
            then (V83.b0 B R op0 (op0 == 13) w)
            else (V83.b0 B R op0 (op0 == 14) w)))))))))))
noncomputable def V83.cfg (B : Nat) : Cfg := ⟨Try.prog, ⟨49, B⟩, [], hasN [], hasN []⟩
noncomputable def V83.code : Code := (Try.f83.body).getD .skip
noncomputable def V83.cuts (B : Nat) (R : Value → World → Prop) : Nat → Cut := nthC [⟨[(6, .one (.int .i64)), (15, .one (.bool))], [], fun fs vs bs w => V83.b0 B R (iV (nthV vs 0)) (bV (nthV vs 1)) w⟩,
  ⟨[(6, .one (.int .i64)), (24, .one (.bool))], [], fun fs vs bs w => V83.b1 B R (iV (nthV vs 0)) (bV (nthV vs 1)) w⟩,
  ⟨[(6, .one (.int .i64)), (33, .one (.bool))], [], fun fs vs bs w => V83.b2 B R (iV (nthV vs 0)) (bV (nthV vs 1)) w⟩,
  ⟨[(6, .one (.int .i64)), (42, .one (.bool))], [], fun fs vs bs w => V83.b3 B R (iV (nthV vs 0)) (bV (nthV vs 1)) w⟩]
noncomputable def V83.h : H := .s (.z) (.s (.s (.z) (.b (.s (.z) (.c (.s (.z) (.z)) (.s (.z) (.c (.s (.z) (.z)) (.s (.z) (.c (.s (.z) (.z)) (.s (.z) (.c (.s (.z) (.z)) (.cut 0 (.s (.z) (.c (.z) (.s (.z) (.c (.z) (.s (.z) (.c (.z) (.s (.z) (.c (.z) (.s (.z) (.c (.z) (.s (.z) (.c (.z) (.s (.z) (.c (.z) (.z))))))))))))))) (.c (.s (.z) (.z)) (.cut 1 (.s (.z) (.c (.z) (.z))) (.c (.s (.z) (.z)) (.s (.z) (.c (.s (.z) (.z)) (.s (.z) (.c (.s (.z) (.z)) (.s (.z) (.c (.s (.z) (.z)) (.cut 2 (.s (.z) (.c (.z) (.s (.z) (.c (.z) (.s (.z) (.c (.z) (.z))))))) (.c (.s (.z) (.z)) (.s (.z) (.c (.s (.z) (.z)) (.s (.z) (.c (.s (.z) (.z)) (.cut 3 (.s (.z) (.c (.z) (.z))) (.c (.s (.z) (.z)) (.s (.z) (.c (.s (.z) (.z)) (.s (.z) (.c (.s (.z) (.z)) (.z))))))))))))))))))))))))))))))))) (.s (.z) (.z)))
theorem V83.vc_eq (B : Nat) (R : Value → World → Prop) (op0 : Int) (w : World) : wpf (V83.cfg B) (V83.cuts B R) V83.code V83.h [] (postOf Try.prog B (Try.f83.results.toList) R) (argE 0 [.int .i64 op0]) [] w = V83.vc B R op0 w := by kernel_rfl
theorem V83.obl (B : Nat) (R : Value → World → Prop) : oblP (V83.cfg B) (V83.cuts B R) V83.code V83.h [] (postOf Try.prog B (Try.f83.results.toList) R) := by
  have e : oblP (V83.cfg B) (V83.cuts B R) V83.code V83.h [] (postOf Try.prog B (Try.f83.results.toList) R) = (True ∧ ((True ∧ (True ∧ ((True ∧ True) ∧ (True ∧ ((True ∧ True) ∧ (True ∧ ((True ∧ True) ∧ (True ∧ ((True ∧ True) ∧ ((True ∧ (True ∧ (True ∧ (True ∧ (True ∧ (True ∧ (True ∧ (True ∧ (True ∧ (True ∧ (True ∧ (True ∧ (True ∧ (True ∧ True)))))))))))))) ∧ (∀ (x6 : Int) (b15 : Bool) (w : World), V83.b0 B R x6 b15 w → V83.b0 B R x6 b15 w) ∧ ((True ∧ True) ∧ ((True ∧ (True ∧ True)) ∧ (∀ (x6 : Int) (b24 : Bool) (w : World), V83.b1 B R x6 b24 w → V83.b1 B R x6 b24 w) ∧ ((True ∧ True) ∧ (True ∧ ((True ∧ True) ∧ (True ∧ ((True ∧ True) ∧ (True ∧ ((True ∧ True) ∧ ((True ∧ (True ∧ (True ∧ (True ∧ (True ∧ (True ∧ True)))))) ∧ (∀ (x6 : Int) (b33 : Bool) (w : World), V83.b2 B R x6 b33 w → V83.b2 B R x6 b33 w) ∧ ((True ∧ True) ∧ (True ∧ ((True ∧ True) ∧ (True ∧ ((True ∧ True) ∧ ((True ∧ (True ∧ True)) ∧ (∀ (x6 : Int) (b42 : Bool) (w : World), V83.b3 B R x6 b42 w → V83.b3 B R x6 b42 w) ∧ ((True ∧ True) ∧ (True ∧ ((True ∧ True) ∧ (True ∧ ((True ∧ True) ∧ True))))))))))))))))))))))))))))))) ∧ (True ∧ True))) := by kernel_rfl
  rw [e]
  exact ⟨trivial, ⟨⟨trivial, ⟨trivial, ⟨⟨trivial, trivial⟩, ⟨trivial, ⟨⟨trivial, trivial⟩, ⟨trivial, ⟨⟨trivial, trivial⟩, ⟨trivial, ⟨⟨trivial, trivial⟩, ⟨⟨trivial, ⟨trivial, ⟨trivial, ⟨trivial, ⟨trivial, ⟨trivial, ⟨trivial, ⟨trivial, ⟨trivial, ⟨trivial, ⟨trivial, ⟨trivial, ⟨trivial, ⟨trivial, trivial⟩⟩⟩⟩⟩⟩⟩⟩⟩⟩⟩⟩⟩⟩, fun x6 b15 w h => h, ⟨⟨trivial, trivial⟩, ⟨⟨trivial, ⟨trivial, trivial⟩⟩, fun x6 b24 w h => h, ⟨⟨trivial, trivial⟩, ⟨trivial, ⟨⟨trivial, trivial⟩, ⟨trivial, ⟨⟨trivial, trivial⟩, ⟨trivial, ⟨⟨trivial, trivial⟩, ⟨⟨trivial, ⟨trivial, ⟨trivial, ⟨trivial, ⟨trivial, ⟨trivial, trivial⟩⟩⟩⟩⟩⟩, fun x6 b33 w h => h, ⟨⟨trivial, trivial⟩, ⟨trivial, ⟨⟨trivial, trivial⟩, ⟨trivial, ⟨⟨trivial, trivial⟩, ⟨⟨trivial, ⟨trivial, trivial⟩⟩, fun x6 b42 w h => h, ⟨⟨trivial, trivial⟩, ⟨trivial, ⟨⟨trivial, trivial⟩, ⟨trivial, ⟨⟨trivial, trivial⟩, trivial⟩⟩⟩⟩⟩⟩⟩⟩⟩⟩⟩⟩⟩⟩⟩⟩⟩⟩⟩⟩⟩⟩⟩⟩⟩⟩⟩⟩⟩⟩⟩, ⟨trivial, trivial⟩⟩⟩
theorem V83.cfgOk (B : Nat) : CfgOk (V83.cfg B) := cfgOk_of (by kernel_rfl) (by kernel_rfl)
theorem V83.sound {op0 : Int} {w : World} {R : Value → World → Prop} (h : V83.vc w.heap.size R op0 w) : Calls Try.prog 83 ⟨[.int .i64 op0]⟩ w fun e w' => ∃ v, e = .returned v ∧ R v w' :=
  calls_wpfP (c := V83.cfg w.heap.size) (fn := Try.f83) (x := V83.code) (V83.cuts w.heap.size R) V83.h (V83.cfgOk _) mixed Try.func83 (by kernel_rfl) (by kernel_rfl) (by kernel_rfl) rfl (V83.obl _ _) ((V83.vc_eq _ _ op0 _).symm ▸ h)

/-! function 84 -/
def V84.l0 (B : Nat) (R : Value → World → Prop) : Nat → Int → Nat → Int → Int → Int → Option Addr → Nat → Nat → World → Prop
  | 0 => fun _ _ _ _ _ _ _ _ _ => False
  | k + 1 => fun i3 q1 f1 f1_1 f1_2 f1_3 f1_3l f1_3c w =>
    if (decide (i3 < (f1_3l : Int))) = true
    then (∃ p14 : Addr, f1_3 = some p14 ∧ (0 : Int) ≤ i3 ∧ i3 < (f1_3l : Int) ∧
    ∃ x16 : Int, w.cell? ((p14.add (i3.toNat * 3)).add 0) = some (.int .i64 x16) ∧
    if (x16 == 19) = true
     then (Ret B w (R (.bool true)))
     else ((V84.l0 B R k) (IntKind.wrap .i64 (i3 + 1)) q1 f1 f1_1 f1_2 f1_3 f1_3l f1_3c w))
    else (Ret B w (R (.bool false)))
def V84.vc (B : Nat) (R : Value → World → Prop) (f0 f0_1 f0_2 : Int) (f0_3 : Option Addr) (f0_3l f0_3c : Nat) (w : World) : Prop :=
  ∀ q1 : Nat, w.heap.size ≤ q1 →
∃ k_1, V84.l0 B R k_1 0 q1 f0 f0_1 f0_2 f0_3 f0_3l f0_3c w
noncomputable def V84.cfg (B : Nat) : Cfg := ⟨Try.prog, ⟨18, B⟩, [], hasN [], hasN []⟩
noncomputable def V84.code : Code := (Try.f84.body).getD .skip
noncomputable def V84.cuts (B : Nat) (R : Value → World → Prop) : Nat → Cut := nthC [⟨[(3, .one (.int .i64))], [(1, 29, [.int .i64, .int .i64, .int .i64, .slice])], fun fs vs bs w => V84.l0 B R (nthN fs 0) (iV (nthV vs 0)) (nthB bs 0).blk (iV (nthV (nthB bs 0).cells 0)) (iV (nthV (nthB bs 0).cells 1)) (iV (nthV (nthB bs 0).cells 2)) (slA (nthV (nthB bs 0).cells 3)) (slL (nthV (nthB bs 0).cells 3)) (slC (nthV (nthB bs 0).cells 3)) w⟩]
noncomputable def V84.h : H := .s (.z) (.s (.s (.z) (.b (.l 0 (.s (.s (.z) (.c (.z) (.z))) (.s (.b (.s (.z) (.c (.s (.z) (.z)) (.z)))) (.z)))))) (.s (.z) (.z)))
theorem V84.vc_eq (B : Nat) (R : Value → World → Prop) (f0 f0_1 f0_2 : Int) (f0_3 : Option Addr) (f0_3l f0_3c : Nat) (w : World) : wpf (V84.cfg B) (V84.cuts B R) V84.code V84.h [] (postOf Try.prog B (Try.f84.results.toList) R) (argE 0 [.agg ⟨[.int .i64 f0, .int .i64 f0_1, .int .i64 f0_2, .slice f0_3 f0_3l f0_3c]⟩]) [] w = V84.vc B R f0 f0_1 f0_2 f0_3 f0_3l f0_3c w := by kernel_rfl
theorem V84.obl (B : Nat) (R : Value → World → Prop) : oblP (V84.cfg B) (V84.cuts B R) V84.code V84.h [] (postOf Try.prog B (Try.f84.results.toList) R) := by
  have e : oblP (V84.cfg B) (V84.cuts B R) V84.code V84.h [] (postOf Try.prog B (Try.f84.results.toList) R) = (True ∧ ((True ∧ ((∀ (i3 : Int) (q1 : Nat) (f1 f1_1 f1_2 : Int) (f1_3 : Option Addr) (f1_3l f1_3c : Nat) (w : World), ¬ V84.l0 B R 0 i3 q1 f1 f1_1 f1_2 f1_3 f1_3l f1_3c w) ∧ (∀ k0, ∀ (i3 : Int) (q1 : Nat) (f1 f1_1 f1_2 : Int) (f1_3 : Option Addr) (f1_3l f1_3c : Nat) (w : World), V84.l0 B R (k0 + 1) i3 q1 f1 f1_1 f1_2 f1_3 f1_3l f1_3c w → V84.l0 B R (k0 + 1) i3 q1 f1 f1_1 f1_2 f1_3 f1_3l f1_3c w) ∧ ∀ k0 : Nat, ((True ∧ (True ∧ True)) ∧ ((True ∧ ((True ∧ True) ∧ True)) ∧ True)))) ∧ (True ∧ True))) := by kernel_rfl
  rw [e]
  exact ⟨trivial, ⟨⟨trivial, ⟨fun i3 q1 f1 f1_1 f1_2 f1_3 f1_3l f1_3c w h => h, fun _ i3 q1 f1 f1_1 f1_2 f1_3 f1_3l f1_3c w h => h, fun k0 => ⟨⟨trivial, ⟨trivial, trivial⟩⟩, ⟨⟨trivial, ⟨⟨trivial, trivial⟩, trivial⟩⟩, trivial⟩⟩⟩⟩, ⟨trivial, trivial⟩⟩⟩
theorem V84.cfgOk (B : Nat) : CfgOk (V84.cfg B) := cfgOk_of (by kernel_rfl) (by kernel_rfl)
theorem V84.sound {f0 f0_1 f0_2 : Int} {f0_3 : Option Addr} {f0_3l f0_3c : Nat} {w : World} {R : Value → World → Prop} (h : V84.vc w.heap.size R f0 f0_1 f0_2 f0_3 f0_3l f0_3c w) : Calls Try.prog 84 ⟨[.agg ⟨[.int .i64 f0, .int .i64 f0_1, .int .i64 f0_2, .slice f0_3 f0_3l f0_3c]⟩]⟩ w fun e w' => ∃ v, e = .returned v ∧ R v w' :=
  calls_wpfP (c := V84.cfg w.heap.size) (fn := Try.f84) (x := V84.code) (V84.cuts w.heap.size R) V84.h (V84.cfgOk _) mixed Try.func84 (by kernel_rfl) (by kernel_rfl) (by kernel_rfl) rfl (V84.obl _ _) ((V84.vc_eq _ _ f0 f0_1 f0_2 f0_3 f0_3l f0_3c _).symm ▸ h)

/-! function 87 -/
def V87.l2 (B : Nat) (R : Value → World → Prop) (L1 : Int → Nat → Option Addr → Nat → Nat → World → Prop) : Nat → Int → Int → Nat → Option Addr → Nat → Nat → World → Prop
  | 0 => fun _ _ _ _ _ _ _ => False
  | k + 1 => fun f6 i7 q1 p1 p1l p1c w =>
    ∃ p47 : Addr, p1 = some p47 ∧ (0 : Int) ≤ f6 ∧ f6 < (p1l : Int) ∧
∃ (A49 : Option Addr) (A49l A49c : Nat), w.cell? ((p47.add (f6.toNat * 4)).add 3) = some (.slice A49 A49l A49c) ∧
if (decide (i7 < (A49l : Int))) = true
    then (∃ p58 : Addr, p1 = some p58 ∧ (0 : Int) ≤ f6 ∧ f6 < (p1l : Int) ∧
    ∃ x59 : Int, w.cell? ((p58.add (f6.toNat * 4)).add 0) = some (.int .i64 x59) ∧
    ∃ x59_1 : Int, w.cell? ((p58.add (f6.toNat * 4)).add 1) = some (.int .i64 x59_1) ∧
    ∃ x59_2 : Int, w.cell? ((p58.add (f6.toNat * 4)).add 2) = some (.int .i64 x59_2) ∧
    ∃ (A59 : Option Addr) (A59l A59c : Nat), w.cell? ((p58.add (f6.toNat * 4)).add 3) = some (.slice A59 A59l A59c) ∧
    ∃ p63 : Addr, p1 = some p63 ∧ (0 : Int) ≤ f6 ∧ f6 < (p1l : Int) ∧
    ∃ (A65 : Option Addr) (A65l A65c : Nat), w.cell? ((p63.add (f6.toNat * 4)).add 3) = some (.slice A65 A65l A65c) ∧
    ∃ p67 : Addr, A65 = some p67 ∧ (0 : Int) ≤ i7 ∧ i7 < (A65l : Int) ∧
    ∃ x68 : Int, w.cell? ((p67.add (i7.toNat * 3)).add 0) = some (.int .i64 x68) ∧
    ∃ x68_1 : Int, w.cell? ((p67.add (i7.toNat * 3)).add 1) = some (.int .i64 x68_1) ∧
    ∃ x68_2 : Int, w.cell? ((p67.add (i7.toNat * 3)).add 2) = some (.int .i64 x68_2) ∧
    CallK Try.prog 119 [.agg ⟨[.slice p1 p1l p1c]⟩, .agg ⟨[.int .i64 x59, .int .i64 x59_1, .int .i64 x59_2, .slice A59 A59l A59c]⟩, .agg ⟨[.int .i64 x68, .int .i64 x68_1, .int .i64 x68_2]⟩] B w [q1] fun v w_1 => 
     ∃ b69 : Bool, v = .bool b69 ∧
     if (!b69) = true
     then (Ret B w_1 (R (.tuple ⟨[.int .i64 6, .int .i64 f6, .int .i64 i7]⟩)))
     else ((V87.l2 B R L1 k) f6 (IntKind.wrap .i64 (i7 + 1)) q1 p1 p1l p1c w_1))
    else (L1 (IntKind.wrap .i64 (f6 + 1)) q1 p1 p1l p1c w)
def V87.l3 (B : Nat) (R : Value → World → Prop) : Nat → Int → Nat → Option Addr → Nat → Nat → World → Prop
  | 0 => fun _ _ _ _ _ _ => False
  | k + 1 => fun f8 q1 p1 p1l p1c w =>
    if (decide (f8 < (p1l : Int))) = true
    then (∃ p85 : Addr, p1 = some p85 ∧ (0 : Int) ≤ f8 ∧ f8 < (p1l : Int) ∧
    ∃ x86 : Int, w.cell? ((p85.add (f8.toNat * 4)).add 0) = some (.int .i64 x86) ∧
    ∃ x86_1 : Int, w.cell? ((p85.add (f8.toNat * 4)).add 1) = some (.int .i64 x86_1) ∧
    ∃ x86_2 : Int, w.cell? ((p85.add (f8.toNat * 4)).add 2) = some (.int .i64 x86_2) ∧
    ∃ (A86 : Option Addr) (A86l A86c : Nat), w.cell? ((p85.add (f8.toNat * 4)).add 3) = some (.slice A86 A86l A86c) ∧
    CallK Try.prog 120 [.agg ⟨[.slice p1 p1l p1c]⟩, .agg ⟨[.int .i64 x86, .int .i64 x86_1, .int .i64 x86_2, .slice A86 A86l A86c]⟩] B w [q1] fun v w_1 => 
     ∃ (A87 : Option Addr) (A87l A87c : Nat) (x87 : Int), v = .tuple ⟨[.slice A87 A87l A87c, .int .i64 x87]⟩ ∧
     if (decide (x87 ≥ 0)) = true
     then (Ret B w_1 (R (.tuple ⟨[.int .i64 9, .int .i64 f8, .int .i64 x87]⟩)))
     else ((V87.l3 B R k) (IntKind.wrap .i64 (f8 + 1)) q1 p1 p1l p1c w_1))
    else (Ret B w (R (.tuple ⟨[.int .i64 0, .int .i64 0, .int .i64 0]⟩)))
def V87.l1 (B : Nat) (R : Value → World → Prop) : Nat → Int → Nat → Option Addr → Nat → Nat → World → Prop
  | 0 => fun _ _ _ _ _ _ => False
  | k + 1 => fun f6 q1 p1 p1l p1c w =>
    if (decide (f6 < (p1l : Int))) = true
    then (∃ k_1, V87.l2 B R (V87.l1 B R k) k_1 f6 0 q1 p1 p1l p1c w)
    else (∃ k_1, V87.l3 B R k_1 0 q1 p1 p1l p1c w)
def V87.l0 (B : Nat) (R : Value → World → Prop) : Nat → Int → Nat → Option Addr → Nat → Nat → World → Prop
  | 0 => fun _ _ _ _ _ _ => False
  | k + 1 => fun f5 q1 p1 p1l p1c w =>
    if (decide (f5 < (p1l : Int))) = true
    then (∃ p31 : Addr, p1 = some p31 ∧ (0 : Int) ≤ f5 ∧ f5 < (p1l : Int) ∧
    ∃ x32 : Int, w.cell? ((p31.add (f5.toNat * 4)).add 0) = some (.int .i64 x32) ∧
    ∃ x32_1 : Int, w.cell? ((p31.add (f5.toNat * 4)).add 1) = some (.int .i64 x32_1) ∧
    ∃ x32_2 : Int, w.cell? ((p31.add (f5.toNat * 4)).add 2) = some (.int .i64 x32_2) ∧
    ∃ (A32 : Option Addr) (A32l A32c : Nat), w.cell? ((p31.add (f5.toNat * 4)).add 3) = some (.slice A32 A32l A32c) ∧
    CallK Try.prog 118 [.agg ⟨[.int .i64 x32, .int .i64 x32_1, .int .i64 x32_2, .slice A32 A32l A32c]⟩] B w [q1] fun v w_1 => 
     ∃ b33 : Bool, v = .bool b33 ∧
     if (!b33) = true
     then (Ret B w_1 (R (.tuple ⟨[.int .i64 1, .int .i64 f5, .int .i64 0]⟩)))
     else ((V87.l0 B R k) (IntKind.wrap .i64 (f5 + 1)) q1 p1 p1l p1c w_1))
    else (∃ k_1, V87.l1 B R k_1 0 q1 p1 p1l p1c w)
def V87.vc (B : Nat) (R : Value → World → Prop) (p0 : Option Addr) (p0l p0c : Nat) (w : World) : Prop :=
  ∀ q1 : Nat, w.heap.size ≤ q1 →
if (decide ((p0l : Int) < 1)) = false
  then (if (decide ((p0l : Int) > 8)) = true
   then (Ret B w (R (.tuple ⟨[.int .i64 1, .int .i64 0, .int .i64 0]⟩)))
   else (∃ k_1, V87.l0 B R k_1 0 q1 p0 p0l p0c w))
  else (Ret B w (R (.tuple ⟨[.int .i64 1, .int .i64 0, .int .i64 0]⟩)))
noncomputable def V87.cfg (B : Nat) : Cfg := ⟨Try.prog, ⟨94, B⟩, [], hasN [118, 119, 120], hasN []⟩
noncomputable def V87.code : Code := (Try.f87.body).getD .skip
noncomputable def V87.cuts (B : Nat) (R : Value → World → Prop) : Nat → Cut := nthC [⟨[(5, .one (.int .i64))], [(1, 24, [.slice])], fun fs vs bs w => V87.l0 B R (nthN fs 0) (iV (nthV vs 0)) (nthB bs 0).blk (slA (nthV (nthB bs 0).cells 0)) (slL (nthV (nthB bs 0).cells 0)) (slC (nthV (nthB bs 0).cells 0)) w⟩,
  ⟨[(6, .one (.int .i64))], [(1, 24, [.slice])], fun fs vs bs w => V87.l1 B R (nthN fs 0) (iV (nthV vs 0)) (nthB bs 0).blk (slA (nthV (nthB bs 0).cells 0)) (slL (nthV (nthB bs 0).cells 0)) (slC (nthV (nthB bs 0).cells 0)) w⟩,
  ⟨[(6, .one (.int .i64)), (7, .one (.int .i64))], [(1, 24, [.slice])], fun fs vs bs w => V87.l2 B R (V87.l1 B R (nthN fs 1)) (nthN fs 0) (iV (nthV vs 0)) (iV (nthV vs 1)) (nthB bs 0).blk (slA (nthV (nthB bs 0).cells 0)) (slL (nthV (nthB bs 0).cells 0)) (slC (nthV (nthB bs 0).cells 0)) w⟩,
  ⟨[(8, .one (.int .i64))], [(1, 24, [.slice])], fun fs vs bs w => V87.l3 B R (nthN fs 0) (iV (nthV vs 0)) (nthB bs 0).blk (slA (nthV (nthB bs 0).cells 0)) (slL (nthV (nthB bs 0).cells 0)) (slC (nthV (nthB bs 0).cells 0)) w⟩]
noncomputable def V87.h : H := .s (.z) (.s (.s (.z) (.c (.s (.z) (.z)) (.z))) (.s (.s (.z) (.b (.l 0 (.s (.s (.z) (.c (.z) (.z))) (.s (.b (.s (.z) (.c (.s (.z) (.z)) (.z)))) (.z)))))) (.s (.s (.z) (.b (.l 1 (.s (.s (.z) (.c (.z) (.z))) (.s (.b (.s (.z) (.b (.l 2 (.s (.s (.z) (.c (.z) (.z))) (.s (.b (.s (.r [[0, 1, 2, 3, 4, 5, 6, 7, 8, 9, 10, 11, 12, 13, 14, 15, 16]]) (.c (.s (.z) (.z)) (.z)))) (.z))))))) (.z)))))) (.s (.s (.z) (.b (.l 3 (.s (.s (.z) (.c (.z) (.z))) (.s (.b (.s (.r [[0, 1, 2, 3, 4, 5, 6, 7, 8, 9, 10, 11]]) (.s (.z) (.c (.s (.z) (.z)) (.z))))) (.z)))))) (.s (.z) (.z))))))
theorem V87.vc_eq (B : Nat) (R : Value → World → Prop) (p0 : Option Addr) (p0l p0c : Nat) (w : World) : wpf (V87.cfg B) (V87.cuts B R) V87.code V87.h [] (postOf Try.prog B (Try.f87.results.toList) R) (argE 0 [.agg ⟨[.slice p0 p0l p0c]⟩]) [] w = V87.vc B R p0 p0l p0c w := by kernel_rfl
theorem V87.obl (B : Nat) (R : Value → World → Prop) : oblP (V87.cfg B) (V87.cuts B R) V87.code V87.h [] (postOf Try.prog B (Try.f87.results.toList) R) := by
  have e : oblP (V87.cfg B) (V87.cuts B R) V87.code V87.h [] (postOf Try.prog B (Try.f87.results.toList) R) = (True ∧ ((True ∧ ((True ∧ True) ∧ True)) ∧ ((True ∧ ((∀ (f5 : Int) (q1 : Nat) (p1 : Option Addr) (p1l p1c : Nat) (w : World), ¬ V87.l0 B R 0 f5 q1 p1 p1l p1c w) ∧ (∀ k0, ∀ (f5 : Int) (q1 : Nat) (p1 : Option Addr) (p1l p1c : Nat) (w : World), V87.l0 B R (k0 + 1) f5 q1 p1 p1l p1c w → V87.l0 B R (k0 + 1) f5 q1 p1 p1l p1c w) ∧ ∀ k0 : Nat, ((True ∧ (True ∧ True)) ∧ ((True ∧ ((True ∧ True) ∧ True)) ∧ True)))) ∧ ((True ∧ ((∀ (f6 : Int) (q1 : Nat) (p1 : Option Addr) (p1l p1c : Nat) (w : World), ¬ V87.l1 B R 0 f6 q1 p1 p1l p1c w) ∧ (∀ k1, ∀ (f6 : Int) (q1 : Nat) (p1 : Option Addr) (p1l p1c : Nat) (w : World), V87.l1 B R (k1 + 1) f6 q1 p1 p1l p1c w → V87.l1 B R (k1 + 1) f6 q1 p1 p1l p1c w) ∧ ∀ k1 : Nat, ((True ∧ (True ∧ True)) ∧ ((True ∧ ((∀ (f6 i7 : Int) (q1 : Nat) (p1 : Option Addr) (p1l p1c : Nat) (w : World), ¬ V87.l2 B R (V87.l1 B R k1) 0 f6 i7 q1 p1 p1l p1c w) ∧ (∀ k2, ∀ (f6 i7 : Int) (q1 : Nat) (p1 : Option Addr) (p1l p1c : Nat) (w : World), V87.l2 B R (V87.l1 B R k1) (k2 + 1) f6 i7 q1 p1 p1l p1c w → V87.l2 B R (V87.l1 B R k1) (k2 + 1) f6 i7 q1 p1 p1l p1c w) ∧ ∀ k2 : Nat, ((True ∧ (True ∧ True)) ∧ (((true = true) ∧ ((True ∧ True) ∧ True)) ∧ True)))) ∧ True)))) ∧ ((True ∧ ((∀ (f8 : Int) (q1 : Nat) (p1 : Option Addr) (p1l p1c : Nat) (w : World), ¬ V87.l3 B R 0 f8 q1 p1 p1l p1c w) ∧ (∀ k3, ∀ (f8 : Int) (q1 : Nat) (p1 : Option Addr) (p1l p1c : Nat) (w : World), V87.l3 B R (k3 + 1) f8 q1 p1 p1l p1c w → V87.l3 B R (k3 + 1) f8 q1 p1 p1l p1c w) ∧ ∀ k3 : Nat, ((True ∧ (True ∧ True)) ∧ (((true = true) ∧ (True ∧ ((True ∧ True) ∧ True))) ∧ True)))) ∧ (True ∧ True)))))) := by kernel_rfl
  rw [e]
  exact ⟨trivial, ⟨⟨trivial, ⟨⟨trivial, trivial⟩, trivial⟩⟩, ⟨⟨trivial, ⟨fun f5 q1 p1 p1l p1c w h => h, fun _ f5 q1 p1 p1l p1c w h => h, fun k0 => ⟨⟨trivial, ⟨trivial, trivial⟩⟩, ⟨⟨trivial, ⟨⟨trivial, trivial⟩, trivial⟩⟩, trivial⟩⟩⟩⟩, ⟨⟨trivial, ⟨fun f6 q1 p1 p1l p1c w h => h, fun _ f6 q1 p1 p1l p1c w h => h, fun k1 => ⟨⟨trivial, ⟨trivial, trivial⟩⟩, ⟨⟨trivial, ⟨fun f6 i7 q1 p1 p1l p1c w h => h, fun _ f6 i7 q1 p1 p1l p1c w h => h, fun k2 => ⟨⟨trivial, ⟨trivial, trivial⟩⟩, ⟨⟨rfl, ⟨⟨trivial, trivial⟩, trivial⟩⟩, trivial⟩⟩⟩⟩, trivial⟩⟩⟩⟩, ⟨⟨trivial, ⟨fun f8 q1 p1 p1l p1c w h => h, fun _ f8 q1 p1 p1l p1c w h => h, fun k3 => ⟨⟨trivial, ⟨trivial, trivial⟩⟩, ⟨⟨rfl, ⟨trivial, ⟨⟨trivial, trivial⟩, trivial⟩⟩⟩, trivial⟩⟩⟩⟩, ⟨trivial, trivial⟩⟩⟩⟩⟩⟩
theorem V87.cfgOk (B : Nat) : CfgOk (V87.cfg B) := cfgOk_of (by kernel_rfl) (by kernel_rfl)
theorem V87.sound {p0 : Option Addr} {p0l p0c : Nat} {w : World} {R : Value → World → Prop} (h : V87.vc w.heap.size R p0 p0l p0c w) : Calls Try.prog 87 ⟨[.agg ⟨[.slice p0 p0l p0c]⟩]⟩ w fun e w' => ∃ v, e = .returned v ∧ R v w' :=
  calls_wpfP (c := V87.cfg w.heap.size) (fn := Try.f87) (x := V87.code) (V87.cuts w.heap.size R) V87.h (V87.cfgOk _) mixed Try.func87 (by kernel_rfl) (by kernel_rfl) (by kernel_rfl) rfl (V87.obl _ _) ((V87.vc_eq _ _ p0 p0l p0c _).symm ▸ h)

/-! function 88 -/
def V88.vc (B : Nat) (R : Value → World → Prop) (p0 : Option Addr) (p0l p0c : Nat) (f1 : Int) (w : World) : Prop :=
  ∀ q2 : Nat, w.heap.size ≤ q2 →
CallK Try.prog 87 [.agg ⟨[.slice p0 p0l p0c]⟩] B w [q2] fun v w_1 => 
  ∃ x12 x12_1 x12_2 : Int, v = .tuple ⟨[.int .i64 x12, .int .i64 x12_1, .int .i64 x12_2]⟩ ∧
  if (x12 != 0) = false
  then (CallK Try.prog 121 [.int .i64 f1, .int .i64 (p0l : Int)] B w_1 [q2] fun v_1 w_2 => 
   ∃ b23 : Bool, v_1 = .bool b23 ∧
   if (!b23) = true
   then (Ret B w_2 (R (.slice none 0 0)))
   else (∃ p31 : Addr, p0 = some p31 ∧ (0 : Int) ≤ f1 ∧ f1 < (p0l : Int) ∧
   ∃ x32 : Int, w_2.cell? ((p31.add (f1.toNat * 4)).add 0) = some (.int .i64 x32) ∧
   ∃ x32_1 : Int, w_2.cell? ((p31.add (f1.toNat * 4)).add 1) = some (.int .i64 x32_1) ∧
   ∃ x32_2 : Int, w_2.cell? ((p31.add (f1.toNat * 4)).add 2) = some (.int .i64 x32_2) ∧
   ∃ (A32 : Option Addr) (A32l A32c : Nat), w_2.cell? ((p31.add (f1.toNat * 4)).add 3) = some (.slice A32 A32l A32c) ∧
   CallK Try.prog 120 [.agg ⟨[.slice p0 p0l p0c]⟩, .agg ⟨[.int .i64 x32, .int .i64 x32_1, .int .i64 x32_2, .slice A32 A32l A32c]⟩] B w_2 [q2] fun v_2 w_3 => 
    ∃ (A33 : Option Addr) (A33l A33c : Nat) (x33 : Int), v_2 = .tuple ⟨[.slice A33 A33l A33c, .int .i64 x33]⟩ ∧
    Ret B w_3 (R (.slice A33 A33l A33c))))
  else (Ret B w_1 (R (.slice none 0 0)))
noncomputable def V88.cfg (B : Nat) : Cfg := ⟨Try.prog, ⟨37, B⟩, [], hasN [87, 120, 121], hasN []⟩
noncomputable def V88.code : Code := (Try.f88.body).getD .skip
noncomputable def V88.cuts (B : Nat) (R : Value → World → Prop) : Nat → Cut := nthC []
noncomputable def V88.h : H := .s (.z) (.s (.z) (.s (.s (.z) (.c (.s (.z) (.z)) (.z))) (.s (.r [[0, 1, 2, 3, 4, 5, 6, 7, 8, 9, 10, 11]]) (.s (.z) (.z)))))
theorem V88.vc_eq (B : Nat) (R : Value → World → Prop) (p0 : Option Addr) (p0l p0c : Nat) (f1 : Int) (w : World) : wpf (V88.cfg B) (V88.cuts B R) V88.code V88.h [] (postOf Try.prog B (Try.f88.results.toList) R) (argE 0 [.agg ⟨[.slice p0 p0l p0c]⟩, .int .i64 f1]) [] w = V88.vc B R p0 p0l p0c f1 w := by kernel_rfl
theorem V88.obl (B : Nat) (R : Value → World → Prop) : oblP (V88.cfg B) (V88.cuts B R) V88.code V88.h [] (postOf Try.prog B (Try.f88.results.toList) R) := by
  have e : oblP (V88.cfg B) (V88.cuts B R) V88.code V88.h [] (postOf Try.prog B (Try.f88.results.toList) R) = (True ∧ (True ∧ ((True ∧ ((True ∧ True) ∧ True)) ∧ ((true = true) ∧ (True ∧ True))))) := by kernel_rfl
  rw [e]
  exact ⟨trivial, ⟨trivial, ⟨⟨trivial, ⟨⟨trivial, trivial⟩, trivial⟩⟩, ⟨rfl, ⟨trivial, trivial⟩⟩⟩⟩⟩
theorem V88.cfgOk (B : Nat) : CfgOk (V88.cfg B) := cfgOk_of (by kernel_rfl) (by kernel_rfl)
theorem V88.sound {p0 : Option Addr} {p0l p0c : Nat} {f1 : Int} {w : World} {R : Value → World → Prop} (h : V88.vc w.heap.size R p0 p0l p0c f1 w) : Calls Try.prog 88 ⟨[.agg ⟨[.slice p0 p0l p0c]⟩, .int .i64 f1]⟩ w fun e w' => ∃ v, e = .returned v ∧ R v w' :=
  calls_wpfP (c := V88.cfg w.heap.size) (fn := Try.f88) (x := V88.code) (V88.cuts w.heap.size R) V88.h (V88.cfgOk _) mixed Try.func88 (by kernel_rfl) (by kernel_rfl) (by kernel_rfl) rfl (V88.obl _ _) ((V88.vc_eq _ _ p0 p0l p0c f1 _).symm ▸ h)

/-! function 89 -/
def V89.b1 (B : Nat) (R : Value → World → Prop) (b12 : Bool) (q1 : Nat) (f1 f1_1 f1_2 : Int) (f1_3 : Option Addr) (f1_3l f1_3c : Nat) (w : World) : Prop :=
  if b12 = true
  then (Ret B w (R (.bool false)))
  else (if (decide (f1_2 < 0)) = false
   then (if (decide (f1_2 > IntKind.wrap .i64 (f1_1 - f1))) = true
    then (Ret B w (R (.bool false)))
    else (if (decide ((f1_3l : Int) ≥ 1)) = true
     then (Ret B w (R (.bool (decide ((f1_3l : Int) ≤ 64)))))
     else (Ret B w (R (.bool false)))))
   else (Ret B w (R (.bool false))))
def V89.b0 (B : Nat) (R : Value → World → Prop) (b3 : Bool) (q1 : Nat) (f1 f1_1 f1_2 : Int) (f1_3 : Option Addr) (f1_3l f1_3c : Nat) (w : World) : Prop :=
  if b3 = true
  then (Ret B w (R (.bool false)))
  else (if (decide (f1_1 < f1)) = false
   then (V89.b1 B R (decide (f1_1 > 8)) q1 f1 f1_1 f1_2 f1_3 f1_3l f1_3c w)
   else (V89.b1 B R true q1 f1 f1_1 f1_2 f1_3 f1_3l f1_3c w))
def V89.vc (B : Nat) (R : Value → World → Prop) (f0 f0_1 f0_2 : Int) (f0_3 : Option Addr) (f0_3l f0_3c : Nat) (w : World) : Prop :=
  ∀ q1 : Nat, w.heap.size ≤ q1 →
if (decide (f0 < 0)) = false
  then (V89.b0 B R (decide (f0 > 3)) q1 f0 f0_1 f0_2 f0_3 f0_3l f0_3c w)
  else (V89.b0 B R true q1 f0 f0_1 f0_2 f0_3 f0_3l f0_3c w)
noncomputable def V89.cfg (B : Nat) : Cfg := ⟨Try.prog, ⟨47, B⟩, [], hasN [], hasN []⟩
noncomputable def V89.code : Code := (Try.f89.body).getD .skip
noncomputable def V89.cuts (B : Nat) (R : Value → World → Prop) : Nat → Cut := nthC [⟨[(3, .one (.bool))], [(1, 29, [.int .i64, .int .i64, .int .i64, .slice])], fun fs vs bs w => V89.b0 B R (bV (nthV vs 0)) (nthB bs 0).blk (iV (nthV (nthB bs 0).cells 0)) (iV (nthV (nthB bs 0).cells 1)) (iV (nthV (nthB bs 0).cells 2)) (slA (nthV (nthB bs 0).cells 3)) (slL (nthV (nthB bs 0).cells 3)) (slC (nthV (nthB bs 0).cells 3)) w⟩,
  ⟨[(12, .one (.bool))], [(1, 29, [.int .i64, .int .i64, .int .i64, .slice])], fun fs vs bs w => V89.b1 B R (bV (nthV vs 0)) (nthB bs 0).blk (iV (nthV (nthB bs 0).cells 0)) (iV (nthV (nthB bs 0).cells 1)) (iV (nthV (nthB bs 0).cells 2)) (slA (nthV (nthB bs 0).cells 3)) (slL (nthV (nthB bs 0).cells 3)) (slC (nthV (nthB bs 0).cells 3)) w⟩]
noncomputable def V89.h : H := .s (.z) (.s (.b (.cut 0 (.z) (.c (.s (.z) (.z)) (.cut 1 (.z) (.c (.s (.z) (.z)) (.s (.z) (.c (.s (.z) (.z)) (.z)))))))) (.s (.z) (.z)))
theorem V89.vc_eq (B : Nat) (R : Value → World → Prop) (f0 f0_1 f0_2 : Int) (f0_3 : Option Addr) (f0_3l f0_3c : Nat) (w : World) : wpf (V89.cfg B) (V89.cuts B R) V89.code V89.h [] (postOf Try.prog B (Try.f89.results.toList) R) (argE 0 [.agg ⟨[.int .i64 f0, .int .i64 f0_1, .int .i64 f0_2, .slice f0_3 f0_3l f0_3c]⟩]) [] w = V89.vc B R f0 f0_1 f0_2 f0_3 f0_3l f0_3c w := by kernel_rfl
theorem V89.obl (B : Nat) (R : Value → World → Prop) : oblP (V89.cfg B) (V89.cuts B R) V89.code V89.h [] (postOf Try.prog B (Try.f89.results.toList) R) := by
  have e : oblP (V89.cfg B) (V89.cuts B R) V89.code V89.h [] (postOf Try.prog B (Try.f89.results.toList) R) = (True ∧ ((True ∧ (∀ (b3 : Bool) (q1 : Nat) (f1 f1_1 f1_2 : Int) (f1_3 : Option Addr) (f1_3l f1_3c : Nat) (w : World), V89.b0 B R b3 q1 f1 f1_1 f1_2 f1_3 f1_3l f1_3c w → V89.b0 B R b3 q1 f1 f1_1 f1_2 f1_3 f1_3l f1_3c w) ∧ ((True ∧ True) ∧ (True ∧ (∀ (b12 : Bool) (q1 : Nat) (f1 f1_1 f1_2 : Int) (f1_3 : Option Addr) (f1_3l f1_3c : Nat) (w : World), V89.b1 B R b12 q1 f1 f1_1 f1_2 f1_3 f1_3l f1_3c w → V89.b1 B R b12 q1 f1 f1_1 f1_2 f1_3 f1_3l f1_3c w) ∧ ((True ∧ True) ∧ (True ∧ ((True ∧ True) ∧ True)))))) ∧ (True ∧ True))) := by kernel_rfl
  rw [e]
  exact ⟨trivial, ⟨⟨trivial, fun b3 q1 f1 f1_1 f1_2 f1_3 f1_3l f1_3c w h => h, ⟨⟨trivial, trivial⟩, ⟨trivial, fun b12 q1 f1 f1_1 f1_2 f1_3 f1_3l f1_3c w h => h, ⟨⟨trivial, trivial⟩, ⟨trivial, ⟨⟨trivial, trivial⟩, trivial⟩⟩⟩⟩⟩⟩, ⟨trivial, trivial⟩⟩⟩
theorem V89.cfgOk (B : Nat) : CfgOk (V89.cfg B) := cfgOk_of (by kernel_rfl) (by kernel_rfl)
theorem V89.sound {f0 f0_1 f0_2 : Int} {f0_3 : Option Addr} {f0_3l f0_3c : Nat} {w : World} {R : Value → World → Prop} (h : V89.vc w.heap.size R f0 f0_1 f0_2 f0_3 f0_3l f0_3c w) : Calls Try.prog 89 ⟨[.agg ⟨[.int .i64 f0, .int .i64 f0_1, .int .i64 f0_2, .slice f0_3 f0_3l f0_3c]⟩]⟩ w fun e w' => ∃ v, e = .returned v ∧ R v w' :=
  calls_wpfP (c := V89.cfg w.heap.size) (fn := Try.f89) (x := V89.code) (V89.cuts w.heap.size R) V89.h (V89.cfgOk _) mixed Try.func89 (by kernel_rfl) (by kernel_rfl) (by kernel_rfl) rfl (V89.obl _ _) ((V89.vc_eq _ _ f0 f0_1 f0_2 f0_3 f0_3l f0_3c _).symm ▸ h)

/-! function 90 -/
def V90.b5 (B : Nat) (R : Value → World → Prop) (none7 : Bool) (q5 : Nat) (i5 i5_1 i5_2 : Int) (q3 : Nat) (p3 : Option Addr) (p3l p3c : Nat) (w : World) : Prop :=
  if none7 = true
  then (CallK Try.prog 28 [.agg ⟨[.slice p3 p3l p3c]⟩, .agg ⟨[.int .i64 i5, .int .i64 i5_1, .int .i64 i5_2]⟩] B w [q5, q3] fun v w_1 => 
   ∃ x126 : Int, v = .int .i64 x126 ∧
   if (decide (x126 > 0)) = true
   then (CallK Try.prog 30 [.agg ⟨[.int .i64 i5, .int .i64 i5_1, .int .i64 i5_2]⟩] B w_1 [q5, q3] fun v_1 w_2 => 
    ∃ x130 : Int, v_1 = .int .i64 x130 ∧
    Ret B w_2 (R (.bool (decide (x130 > 0)))))
   else (Ret B w_1 (R (.bool false))))
  else (Ret B w (R (.bool false)))
def V90.b4 (B : Nat) (R : Value → World → Prop) (none7 : Bool) (x17 : Int) (b87 : Bool) (q5 : Nat) (i5 i5_1 i5_2 : Int) (q4 : Nat) (f4 f4_1 f4_2 : Int) (f4_3 : Option Addr) (f4_3l f4_3c q3 : Nat) (p3 : Option Addr) (p3l p3c : Nat) (w : World) : Prop :=
  if b87 = true
  then (CallK Try.prog 122 [.int .i64 i5_1, .int .i64 f4_2] B w [q5, q4, q3] fun v w_1 => 
   ∃ b94 : Bool, v = .bool b94 ∧
   if b94 = true
   then (Ret B w_1 (R (.bool (i5_2 == 0))))
   else (Ret B w_1 (R (.bool false))))
  else (if (x17 == 24) = true
   then (CallK Try.prog 122 [.int .i64 i5_1, .int .i64 f4_2] B w [q5, q4, q3] fun v w_1 => 
    ∃ b106 : Bool, v = .bool b106 ∧
    if b106 = true
    then (CallK Try.prog 122 [.int .i64 i5_2, .int .i64 f4_2] B w_1 [q5, q4, q3] fun v_1 w_2 => 
     ∃ b112 : Bool, v_1 = .bool b112 ∧
     Ret B w_2 (R (.bool b112)))
    else (Ret B w_1 (R (.bool false))))
   else (if (x17 == 18) = true
    then (if (x17 == 18) = true
     then (Ret B w (R (.bool none7)))
     else (V90.b5 B R none7 q5 i5 i5_1 i5_2 q3 p3 p3l p3c w))
    else (if (x17 == 20) = true
     then (if (x17 == 20) = true
      then (Ret B w (R (.bool none7)))
      else (V90.b5 B R none7 q5 i5 i5_1 i5_2 q3 p3 p3l p3c w))
     else (if (x17 == 21) = true
      then (if (x17 == 21) = true
       then (Ret B w (R (.bool none7)))
       else (V90.b5 B R none7 q5 i5 i5_1 i5_2 q3 p3 p3l p3c w))
      else (if (x17 == 22) = true
       then (if (x17 == 22) = true
        then (Ret B w (R (.bool none7)))
        else (V90.b5 B R none7 q5 i5 i5_1 i5_2 q3 p3 p3l p3c w))
       else (if (x17 == 27) = true
        then (if (x17 == 27) = true
         then (Ret B w (R (.bool none7)))
         else (V90.b5 B R none7 q5 i5 i5_1 i5_2 q3 p3 p3l p3c w))
        else (if (x17 == 26) = true
         then (Ret B w (R (.bool none7)))
         else (V90.b5 B R none7 q5 i5 i5_1 i5_2 q3 p3 p3l p3c w))))))))
def V90.b3 (B : Nat) (R : Value → World → Prop) (none7 : Bool) (x17 : Int) (b73 : Bool) (q5 : Nat) (i5 i5_1 i5_2 : Int) (q4 : Nat) (f4 f4_1 f4_2 : Int) (f4_3 : Option Addr) (f4_3l f4_3c q3 : Nat) (p3 : Option Addr) (p3l p3c : Nat) (w : World) : Prop :=
  if b73 = true
  then (CallK Try.prog 122 [.int .i64 i5_1, .int .i64 (p3l : Int)] B w [q5, q4, q3] fun v w_1 => 
   ∃ b81 : Bool, v = .bool b81 ∧
   if b81 = true
   then (Ret B w_1 (R (.bool (i5_2 == 0))))
   else (Ret B w_1 (R (.bool false))))
  else (if (x17 == 23) = true
   then (V90.b4 B R none7 x17 (x17 == 23) q5 i5 i5_1 i5_2 q4 f4 f4_1 f4_2 f4_3 f4_3l f4_3c q3 p3 p3l p3c w)
   else (V90.b4 B R none7 x17 (x17 == 25) q5 i5 i5_1 i5_2 q4 f4 f4_1 f4_2 f4_3 f4_3l f4_3c q3 p3 p3l p3c w))
def V90.b2 (B : Nat) (R : Value → World → Prop) (none7 : Bool) (x17 : Int) (b59 : Bool) (q5 : Nat) (i5 i5_1 i5_2 : Int) (q4 : Nat) (f4 f4_1 f4_2 : Int) (f4_3 : Option Addr) (f4_3l f4_3c q3 : Nat) (p3 : Option Addr) (p3l p3c : Nat) (w : World) : Prop :=
  if b59 = true
  then (CallK Try.prog 122 [.int .i64 i5_1, .int .i64 (f4_3l : Int)] B w [q5, q4, q3] fun v w_1 => 
   ∃ b67 : Bool, v = .bool b67 ∧
   if b67 = true
   then (Ret B w_1 (R (.bool (i5_2 == 0))))
   else (Ret B w_1 (R (.bool false))))
  else (if (x17 == 17) = true
   then (V90.b3 B R none7 x17 (x17 == 17) q5 i5 i5_1 i5_2 q4 f4 f4_1 f4_2 f4_3 f4_3l f4_3c q3 p3 p3l p3c w)
   else (V90.b3 B R none7 x17 (x17 == 19) q5 i5 i5_1 i5_2 q4 f4 f4_1 f4_2 f4_3 f4_3l f4_3c q3 p3 p3l p3c w))
def V90.b1 (B : Nat) (R : Value → World → Prop) (none7 : Bool) (x17 : Int) (b43 : Bool) (q5 : Nat) (i5 i5_1 i5_2 : Int) (q4 : Nat) (f4 f4_1 f4_2 : Int) (f4_3 : Option Addr) (f4_3l f4_3c q3 : Nat) (p3 : Option Addr) (p3l p3c : Nat) (w : World) : Prop :=
  if b43 = true
  then (CallK Try.prog 122 [.int .i64 i5_1, .int .i64 (IntKind.wrap .i64 (f4_1 - f4_2))] B w [q5, q4, q3] fun v w_1 => 
   ∃ b53 : Bool, v = .bool b53 ∧
   if b53 = true
   then (Ret B w_1 (R (.bool (i5_2 == 0))))
   else (Ret B w_1 (R (.bool false))))
  else (if (x17 == 15) = true
   then (V90.b2 B R none7 x17 (x17 == 15) q5 i5 i5_1 i5_2 q4 f4 f4_1 f4_2 f4_3 f4_3l f4_3c q3 p3 p3l p3c w)
   else (V90.b2 B R none7 x17 (x17 == 16) q5 i5 i5_1 i5_2 q4 f4 f4_1 f4_2 f4_3 f4_3l f4_3c q3 p3 p3l p3c w))
def V90.b0 (B : Nat) (R : Value → World → Prop) (none7 : Bool) (q5 : Nat) (i5 i5_1 i5_2 : Int) (q4 : Nat) (f4 f4_1 f4_2 : Int) (f4_3 : Option Addr) (f4_3l f4_3c q3 : Nat) (p3 : Option Addr) (p3l p3c : Nat) (w : World) : Prop :=
  if (i5 == 1) = true
  then (if (decide (i5_1 ≥ (-2147483648))) = true
   then (if (decide (i5_1 ≤ 2147483648)) = true
    then (Ret B w (R (.bool (i5_2 == 0))))
    else (Ret B w (R (.bool false))))
   else (Ret B w (R (.bool false))))
  else (if (i5 == 2) = true
   then (CallK Try.prog 122 [.int .i64 i5_1, .int .i64 6] B w [q5, q4, q3] fun v w_1 => 
    ∃ b37 : Bool, v = .bool b37 ∧
    if b37 = true
    then (Ret B w_1 (R (.bool (i5_2 == 0))))
    else (Ret B w_1 (R (.bool false))))
   else (if (i5 == 3) = true
    then (V90.b1 B R none7 i5 (i5 == 3) q5 i5 i5_1 i5_2 q4 f4 f4_1 f4_2 f4_3 f4_3l f4_3c q3 p3 p3l p3c w)
    else (V90.b1 B R none7 i5 (i5 == 4) q5 i5 i5_1 i5_2 q4 f4 f4_1 f4_2 f4_3 f4_3l f4_3c q3 p3 p3l p3c w)))
def V90.vc (B : Nat) (R : Value → World → Prop) (p0 : Option Addr) (p0l p0c : Nat) (f1 f1_1 f1_2 : Int) (f1_3 : Option Addr) (f1_3l f1_3c : Nat) (i2 i2_1 i2_2 : Int) (w : World) : Prop :=
  ∀ q3 : Nat, w.heap.size ≤ q3 →
∀ q4 : Nat, w.heap.size ≤ q4 →
∀ q5 : Nat, w.heap.size ≤ q5 →
if (i2_1 == 0) = true
  then (V90.b0 B R (i2_2 == 0) q5 i2 i2_1 i2_2 q4 f1 f1_1 f1_2 f1_3 f1_3l f1_3c q3 p0 p0l p0c w)
  else (V90.b0 B R false q5 i2 i2_1 i2_2 q4 f1 f1_1 f1_2 f1_3 f1_3l f1_3c q3 p0 p0l p0c w)
noncomputable def V90.cfg (B : Nat) : Cfg := ⟨Try.prog, ⟨134, B⟩, [], hasN [28, 30, 122], hasN []⟩
noncomputable def V90.code : Code := (Try.f90.body).getD .skip
noncomputable def V90.cuts (B : Nat) (R : Value → World → Prop) : Nat → Cut := nthC [⟨[(7, .one (.bool))], [(5, 26, [.int .i64, .int .i64, .int .i64]), (4, 29, [.int .i64, .int .i64, .int .i64, .slice]), (3, 24, [.slice])], fun fs vs bs w => V90.b0 B R (bV (nthV vs 0)) (nthB bs 0).blk (iV (nthV (nthB bs 0).cells 0)) (iV (nthV (nthB bs 0).cells 1)) (iV (nthV (nthB bs 0).cells 2)) (nthB bs 1).blk (iV (nthV (nthB bs 1).cells 0)) (iV (nthV (nthB bs 1).cells 1)) (iV (nthV (nthB bs 1).cells 2)) (slA (nthV (nthB bs 1).cells 3)) (slL (nthV (nthB bs 1).cells 3)) (slC (nthV (nthB bs 1).cells 3)) (nthB bs 2).blk (slA (nthV (nthB bs 2).cells 0)) (slL (nthV (nthB bs 2).cells 0)) (slC (nthV (nthB bs 2).cells 0)) w⟩,
  ⟨[(7, .one (.bool)), (17, .one (.int .i64)), (43, .one (.bool))], [(5, 26, [.int .i64, .int .i64, .int .i64]), (4, 29, [.int .i64, .int .i64, .int .i64, .slice]), (3, 24, [.slice])], fun fs vs bs w => V90.b1 B R (bV (nthV vs 0)) (iV (nthV vs 1)) (bV (nthV vs 2)) (nthB bs 0).blk (iV (nthV (nthB bs 0).cells 0)) (iV (nthV (nthB bs 0).cells 1)) (iV (nthV (nthB bs 0).cells 2)) (nthB bs 1).blk (iV (nthV (nthB bs 1).cells 0)) (iV (nthV (nthB bs 1).cells 1)) (iV (nthV (nthB bs 1).cells 2)) (slA (nthV (nthB bs 1).cells 3)) (slL (nthV (nthB bs 1).cells 3)) (slC (nthV (nthB bs 1).cells 3)) (nthB bs 2).blk (slA (nthV (nthB bs 2).cells 0)) (slL (nthV (nthB bs 2).cells 0)) (slC (nthV (nthB bs 2).cells 0)) w⟩,
  ⟨[(7, .one (.bool)), (17, .one (.int .i64)), (59, .one (.bool))], [(5, 26, [.int .i64, .int .i64, .int .i64]), (4, 29, [.int .i64, .int .i64, .int .i64, .slice]), (3, 24, [.slice])], fun fs vs bs w => V90.b2 B R (bV (nthV vs 0)) (iV (nthV vs 1)) (bV (nthV vs 2)) (nthB bs 0).blk (iV (nthV (nthB bs 0).cells 0)) (iV (nthV (nthB bs 0).cells 1)) (iV (nthV (nthB bs 0).cells 2)) (nthB bs 1).blk (iV (nthV (nthB bs 1).cells 0)) (iV (nthV (nthB bs 1).cells 1)) (iV (nthV (nthB bs 1).cells 2)) (slA (nthV (nthB bs 1).cells 3)) (slL (nthV (nthB bs 1).cells 3)) (slC (nthV (nthB bs 1).cells 3)) (nthB bs 2).blk (slA (nthV (nthB bs 2).cells 0)) (slL (nthV (nthB bs 2).cells 0)) (slC (nthV (nthB bs 2).cells 0)) w⟩,
  ⟨[(7, .one (.bool)), (17, .one (.int .i64)), (73, .one (.bool))], [(5, 26, [.int .i64, .int .i64, .int .i64]), (4, 29, [.int .i64, .int .i64, .int .i64, .slice]), (3, 24, [.slice])], fun fs vs bs w => V90.b3 B R (bV (nthV vs 0)) (iV (nthV vs 1)) (bV (nthV vs 2)) (nthB bs 0).blk (iV (nthV (nthB bs 0).cells 0)) (iV (nthV (nthB bs 0).cells 1)) (iV (nthV (nthB bs 0).cells 2)) (nthB bs 1).blk (iV (nthV (nthB bs 1).cells 0)) (iV (nthV (nthB bs 1).cells 1)) (iV (nthV (nthB bs 1).cells 2)) (slA (nthV (nthB bs 1).cells 3)) (slL (nthV (nthB bs 1).cells 3)) (slC (nthV (nthB bs 1).cells 3)) (nthB bs 2).blk (slA (nthV (nthB bs 2).cells 0)) (slL (nthV (nthB bs 2).cells 0)) (slC (nthV (nthB bs 2).cells 0)) w⟩,
  ⟨[(7, .one (.bool)), (17, .one (.int .i64)), (87, .one (.bool))], [(5, 26, [.int .i64, .int .i64, .int .i64]), (4, 29, [.int .i64, .int .i64, .int .i64, .slice]), (3, 24, [.slice])], fun fs vs bs w => V90.b4 B R (bV (nthV vs 0)) (iV (nthV vs 1)) (bV (nthV vs 2)) (nthB bs 0).blk (iV (nthV (nthB bs 0).cells 0)) (iV (nthV (nthB bs 0).cells 1)) (iV (nthV (nthB bs 0).cells 2)) (nthB bs 1).blk (iV (nthV (nthB bs 1).cells 0)) (iV (nthV (nthB bs 1).cells 1)) (iV (nthV (nthB bs 1).cells 2)) (slA (nthV (nthB bs 1).cells 3)) (slL (nthV (nthB bs 1).cells 3)) (slC (nthV (nthB bs 1).cells 3)) (nthB bs 2).blk (slA (nthV (nthB bs 2).cells 0)) (slL (nthV (nthB bs 2).cells 0)) (slC (nthV (nthB bs 2).cells 0)) w⟩,
  ⟨[(7, .one (.bool))], [(5, 26, [.int .i64, .int .i64, .int .i64]), (3, 24, [.slice])], fun fs vs bs w => V90.b5 B R (bV (nthV vs 0)) (nthB bs 0).blk (iV (nthV (nthB bs 0).cells 0)) (iV (nthV (nthB bs 0).cells 1)) (iV (nthV (nthB bs 0).cells 2)) (nthB bs 1).blk (slA (nthV (nthB bs 1).cells 0)) (slL (nthV (nthB bs 1).cells 0)) (slC (nthV (nthB bs 1).cells 0)) w⟩]
noncomputable def V90.h : H := .s (.z) (.cut 0 (.z) (.cut 5 (.s (.z) (.b (.s (.z) (.c (.s (.z) (.z)) (.s (.z) (.c (.s (.z) (.z)) (.cut 1 (.s (.z) (.c (.z) (.z))) (.c (.s (.z) (.z)) (.cut 2 (.s (.z) (.c (.z) (.z))) (.c (.s (.z) (.z)) (.cut 3 (.s (.z) (.c (.z) (.z))) (.c (.s (.z) (.z)) (.cut 4 (.s (.z) (.c (.z) (.z))) (.c (.s (.z) (.z)) (.s (.z) (.c (.s (.z) (.z)) (.s (.s (.z) (.c (.z) (.s (.z) (.c (.z) (.s (.z) (.c (.z) (.s (.z) (.c (.z) (.s (.z) (.c (.z) (.z))))))))))) (.c (.s (.z) (.z)) (.z))))))))))))))))))) (.s (.z) (.z))))
theorem V90.vc_eq (B : Nat) (R : Value → World → Prop) (p0 : Option Addr) (p0l p0c : Nat) (f1 f1_1 f1_2 : Int) (f1_3 : Option Addr) (f1_3l f1_3c : Nat) (i2 i2_1 i2_2 : Int) (w : World) : wpf (V90.cfg B) (V90.cuts B R) V90.code V90.h [] (postOf Try.prog B (Try.f90.results.toList) R) (argE 0 [.agg ⟨[.slice p0 p0l p0c]⟩, .agg ⟨[.int .i64 f1, .int .i64 f1_1, .int .i64 f1_2, .slice f1_3 f1_3l f1_3c]⟩, .agg ⟨[.int .i64 i2, .int .i64 i2_1, .int .i64 i2_2]⟩]) [] w = V90.vc B R p0 p0l p0c f1 f1_1 f1_2 f1_3 f1_3l f1_3c i2 i2_1 i2_2 w := by kernel_rfl
theorem V90.obl (B : Nat) (R : Value → World → Prop) : oblP (V90.cfg B) (V90.cuts B R) V90.code V90.h [] (postOf Try.prog B (Try.f90.results.toList) R) := by
  have e : oblP (V90.cfg B) (V90.cuts B R) V90.code V90.h [] (postOf Try.prog B (Try.f90.results.toList) R) = (True ∧ (True ∧ (∀ (none7 : Bool) (q5 : Nat) (i5 i5_1 i5_2 : Int) (q4 : Nat) (f4 f4_1 f4_2 : Int) (f4_3 : Option Addr) (f4_3l f4_3c q3 : Nat) (p3 : Option Addr) (p3l p3c : Nat) (w : World), V90.b0 B R none7 q5 i5 i5_1 i5_2 q4 f4 f4_1 f4_2 f4_3 f4_3l f4_3c q3 p3 p3l p3c w → V90.b0 B R none7 q5 i5 i5_1 i5_2 q4 f4 f4_1 f4_2 f4_3 f4_3l f4_3c q3 p3 p3l p3c w) ∧ ((True ∧ (True ∧ ((True ∧ True) ∧ (True ∧ ((True ∧ True) ∧ ((True ∧ (True ∧ True)) ∧ (∀ (none7 : Bool) (x17 : Int) (b43 : Bool) (q5 : Nat) (i5 i5_1 i5_2 : Int) (q4 : Nat) (f4 f4_1 f4_2 : Int) (f4_3 : Option Addr) (f4_3l f4_3c q3 : Nat) (p3 : Option Addr) (p3l p3c : Nat) (w : World), V90.b1 B R none7 x17 b43 q5 i5 i5_1 i5_2 q4 f4 f4_1 f4_2 f4_3 f4_3l f4_3c q3 p3 p3l p3c w → V90.b1 B R none7 x17 b43 q5 i5 i5_1 i5_2 q4 f4 f4_1 f4_2 f4_3 f4_3l f4_3c q3 p3 p3l p3c w) ∧ ((True ∧ True) ∧ ((True ∧ (True ∧ True)) ∧ (∀ (none7 : Bool) (x17 : Int) (b59 : Bool) (q5 : Nat) (i5 i5_1 i5_2 : Int) (q4 : Nat) (f4 f4_1 f4_2 : Int) (f4_3 : Option Addr) (f4_3l f4_3c q3 : Nat) (p3 : Option Addr) (p3l p3c : Nat) (w : World), V90.b2 B R none7 x17 b59 q5 i5 i5_1 i5_2 q4 f4 f4_1 f4_2 f4_3 f4_3l f4_3c q3 p3 p3l p3c w → V90.b2 B R none7 x17 b59 q5 i5 i5_1 i5_2 q4 f4 f4_1 f4_2 f4_3 f4_3l f4_3c q3 p3 p3l p3c w) ∧ ((True ∧ True) ∧ ((True ∧ (True ∧ True)) ∧ (∀ (none7 : Bool) (x17 : Int) (b73 : Bool) (q5 : Nat) (i5 i5_1 i5_2 : Int) (q4 : Nat) (f4 f4_1 f4_2 : Int) (f4_3 : Option Addr) (f4_3l f4_3c q3 : Nat) (p3 : Option Addr) (p3l p3c : Nat) (w : World), V90.b3 B R none7 x17 b73 q5 i5 i5_1 i5_2 q4 f4 f4_1 f4_2 f4_3 f4_3l f4_3c q3 p3 p3l p3c w → V90.b3 B R none7 x17 b73 q5 i5 i5_1 i5_2 q4 f4 f4_1 f4_2 f4_3 f4_3l f4_3c q3 p3 p3l p3c w) ∧ ((True ∧ True) ∧ ((True ∧ (True ∧ True)) ∧ (∀ (none7 : Bool) (x17 : Int) (b87 : Bool) (q5 : Nat) (i5 i5_1 i5_2 : Int) (q4 : Nat) (f4 f4_1 f4_2 : Int) (f4_3 : Option Addr) (f4_3l f4_3c q3 : Nat) (p3 : Option Addr) (p3l p3c : Nat) (w : World), V90.b4 B R none7 x17 b87 q5 i5 i5_1 i5_2 q4 f4 f4_1 f4_2 f4_3 f4_3l f4_3c q3 p3 p3l p3c w → V90.b4 B R none7 x17 b87 q5 i5 i5_1 i5_2 q4 f4 f4_1 f4_2 f4_3 f4_3l f4_3c q3 p3 p3l p3c w) ∧ ((True ∧ True) ∧ (True ∧ ((True ∧ True) ∧ ((True ∧ (True ∧ (True ∧ (True ∧ (True ∧ (True ∧ (True ∧ (True ∧ (True ∧ (True ∧ True)))))))))) ∧ ((True ∧ True) ∧ True))))))))))))))))) ∧ (∀ (none7 : Bool) (q5 : Nat) (i5 i5_1 i5_2 : Int) (q3 : Nat) (p3 : Option Addr) (p3l p3c : Nat) (w : World), V90.b5 B R none7 q5 i5 i5_1 i5_2 q3 p3 p3l p3c w → V90.b5 B R none7 q5 i5 i5_1 i5_2 q3 p3 p3l p3c w) ∧ (True ∧ True)))) := by kernel_rfl
  rw [e]
  exact ⟨trivial, ⟨trivial, fun none7 q5 i5 i5_1 i5_2 q4 f4 f4_1 f4_2 f4_3 f4_3l f4_3c q3 p3 p3l p3c w h => h, ⟨⟨trivial, ⟨trivial, ⟨⟨trivial, trivial⟩, ⟨trivial, ⟨⟨trivial, trivial⟩, ⟨⟨trivial, ⟨trivial, trivial⟩⟩, fun none7 x17 b43 q5 i5 i5_1 i5_2 q4 f4 f4_1 f4_2 f4_3 f4_3l f4_3c q3 p3 p3l p3c w h => h, ⟨⟨trivial, trivial⟩, ⟨⟨trivial, ⟨trivial, trivial⟩⟩, fun none7 x17 b59 q5 i5 i5_1 i5_2 q4 f4 f4_1 f4_2 f4_3 f4_3l f4_3c q3 p3 p3l p3c w h => h, ⟨⟨trivial, trivial⟩, ⟨⟨trivial, ⟨trivial, trivial⟩⟩, fun none7 x17 b73 q5 i5 i5_1 i5_2 q4 f4 f4_1 f4_2 f4_3 f4_3l f4_3c q3 p3 p3l p3c w h => h, ⟨⟨trivial, trivial⟩, ⟨⟨trivial, ⟨trivial, trivial⟩⟩, fun none7 x17 b87 q5 i5 i5_1 i5_2 q4 f4 f4_1 f4_2 f4_3 f4_3l f4_3c q3 p3 p3l p3c w h => h, ⟨⟨trivial, trivial⟩, ⟨trivial, ⟨⟨trivial, trivial⟩, ⟨⟨trivial, ⟨trivial, ⟨trivial, ⟨trivial, ⟨trivial, ⟨trivial, ⟨trivial, ⟨trivial, ⟨trivial, ⟨trivial, trivial⟩⟩⟩⟩⟩⟩⟩⟩⟩⟩, ⟨⟨trivial, trivial⟩, trivial⟩⟩⟩⟩⟩⟩⟩⟩⟩⟩⟩⟩⟩⟩⟩⟩⟩, fun none7 q5 i5 i5_1 i5_2 q3 p3 p3l p3c w h => h, ⟨trivial, trivial⟩⟩⟩⟩
theorem V90.cfgOk (B : Nat) : CfgOk (V90.cfg B) := cfgOk_of (by kernel_rfl) (by kernel_rfl)
theorem V90.sound {p0 : Option Addr} {p0l p0c : Nat} {f1 f1_1 f1_2 : Int} {f1_3 : Option Addr} {f1_3l f1_3c : Nat} {i2 i2_1 i2_2 : Int} {w : World} {R : Value → World → Prop} (h : V90.vc w.heap.size R p0 p0l p0c f1 f1_1 f1_2 f1_3 f1_3l f1_3c i2 i2_1 i2_2 w) : Calls Try.prog 90 ⟨[.agg ⟨[.slice p0 p0l p0c]⟩, .agg ⟨[.int .i64 f1, .int .i64 f1_1, .int .i64 f1_2, .slice f1_3 f1_3l f1_3c]⟩, .agg ⟨[.int .i64 i2, .int .i64 i2_1, .int .i64 i2_2]⟩]⟩ w fun e w' => ∃ v, e = .returned v ∧ R v w' :=
  calls_wpfP (c := V90.cfg w.heap.size) (fn := Try.f90) (x := V90.code) (V90.cuts w.heap.size R) V90.h (V90.cfgOk _) mixed Try.func90 (by kernel_rfl) (by kernel_rfl) (by kernel_rfl) rfl (V90.obl _ _) ((V90.vc_eq _ _ p0 p0l p0c f1 f1_1 f1_2 f1_3 f1_3l f1_3c i2 i2_1 i2_2 _).symm ▸ h)

/-! function 91 -/
def V91.b4 (B : Nat) (R : Value → World → Prop) (L1 : Option Addr → Nat → Nat → Option Addr → Nat → Nat → Nat → Option Addr → Nat → Nat → World → Prop) (L2 : Option Addr → Nat → Nat → Option Addr → Nat → Nat → Bool → Option Addr → Nat → Nat → Int → Int → Nat → Option Addr → Nat → Nat → World → Prop) (L3 : Option Addr → Nat → Nat → Option Addr → Nat → Nat → Bool → Int → Int → Option Addr → Nat → Nat → Int → Int → Option Addr → Nat → Nat → Int → Int → Nat → Option Addr → Nat → Nat → World → Prop) (code1 : Option Addr) (code1l code1c : Nat) (d7 : Option Addr) (d7l d7c : Nat) (fresh9 : Bool) (at10 behind12 to14 : Int) (A27 : Option Addr) (A27l A27c : Nat) (x28 x29 : Int) (A65 : Option Addr) (A65l A65c : Nat) (x66 x67 : Int) (b71 : Bool) (q2 : Nat) (p2 : Option Addr) (p2l p2c : Nat) (w : World) : Prop :=
  if b71 = true
  then (Ret B w (R (.tuple ⟨[.slice none 0 0, .int .i64 at10, .bool false]⟩)))
  else (∃ p95 : Addr, d7 = some p95 ∧ (0 : Int) ≤ to14 ∧ to14 < (d7l : Int) ∧
  ∃ x96 : Int, w.cell? (p95.add to14.toNat) = some (.int .i64 x96) ∧
  if (decide (x96 < 0)) = true
   then (∃ p101 : Addr, d7 = some p101 ∧ (0 : Int) ≤ to14 ∧ to14 < (d7l : Int) ∧
   (∃ u, w.cell? ((p101.add to14.toNat).add 0) = some u) ∧ w.frozen? ((p101.add to14.toNat).add 0) = false ∧
   let w_1 := w.setCell ((p101.add to14.toNat).add 0) (.int .i64 behind12);
   L3 code1 code1l code1c d7 d7l d7c true at10 behind12 A27 A27l A27c x28 x29 A65 A65l A65c x66 (IntKind.wrap .i64 (x67 + 1)) q2 p2 p2l p2c w_1)
   else (L3 code1 code1l code1c d7 d7l d7c fresh9 at10 behind12 A27 A27l A27c x28 x29 A65 A65l A65c x66 (IntKind.wrap .i64 (x67 + 1)) q2 p2 p2l p2c w))
def V91.l3 (B : Nat) (R : Value → World → Prop) (L1 : Option Addr → Nat → Nat → Option Addr → Nat → Nat → Nat → Option Addr → Nat → Nat → World → Prop) (L2 : Option Addr → Nat → Nat → Option Addr → Nat → Nat → Bool → Option Addr → Nat → Nat → Int → Int → Nat → Option Addr → Nat → Nat → World → Prop) : Nat → Option Addr → Nat → Nat → Option Addr → Nat → Nat → Bool → Int → Int → Option Addr → Nat → Nat → Int → Int → Option Addr → Nat → Nat → Int → Int → Nat → Option Addr → Nat → Nat → World → Prop
  | 0 => fun _ _ _ _ _ _ _ _ _ _ _ _ _ _ _ _ _ _ _ _ _ _ _ _ => False
  | k + 1 => fun code1 code1l code1c d7 d7l d7c fresh9 at10 behind12 A27 A27l A27c x28 x29 A65 A65l A65c x66 x67 q2 p2 p2l p2c w =>
    if (decide (x67 < x66)) = true
    then (∃ p69 : Addr, A65 = some p69 ∧ (0 : Int) ≤ x67 ∧ x67 < (A65l : Int) ∧
    ∃ x70 : Int, w.cell? (p69.add x67.toNat) = some (.int .i64 x70) ∧
    if (decide (x70 ≥ (code1l : Int))) = false
     then (∃ p79 : Addr, d7 = some p79 ∧ (0 : Int) ≤ x70 ∧ x70 < (d7l : Int) ∧
     ∃ x80 : Int, w.cell? (p79.add x70.toNat) = some (.int .i64 x80) ∧
     if (decide (x80 ≥ 0)) = true
      then (∃ p85 : Addr, d7 = some p85 ∧ (0 : Int) ≤ x70 ∧ x70 < (d7l : Int) ∧
      ∃ x86 : Int, w.cell? (p85.add x70.toNat) = some (.int .i64 x86) ∧
      V91.b4 B R L1 L2 (V91.l3 B R L1 L2 k) code1 code1l code1c d7 d7l d7c fresh9 at10 behind12 x70 A27 A27l A27c x28 x29 A65 A65l A65c x66 x67 (x86 != behind12) q2 p2 p2l p2c w)
      else (V91.b4 B R L1 L2 (V91.l3 B R L1 L2 k) code1 code1l code1c d7 d7l d7c fresh9 at10 behind12 x70 A27 A27l A27c x28 x29 A65 A65l A65c x66 x67 false q2 p2 p2l p2c w))
     else (V91.b4 B R L1 L2 (V91.l3 B R L1 L2 k) code1 code1l code1c d7 d7l d7c fresh9 at10 behind12 x70 A27 A27l A27c x28 x29 A65 A65l A65c x66 x67 true q2 p2 p2l p2c w))
    else (L2 code1 code1l code1c d7 d7l d7c fresh9 A27 A27l A27c x28 (IntKind.wrap .i64 (x29 + 1)) q2 p2 p2l p2c w)
def V91.l2 (B : Nat) (R : Value → World → Prop) (L1 : Option Addr → Nat → Nat → Option Addr → Nat → Nat → Nat → Option Addr → Nat → Nat → World → Prop) : Nat → Option Addr → Nat → Nat → Option Addr → Nat → Nat → Bool → Option Addr → Nat → Nat → Int → Int → Nat → Option Addr → Nat → Nat → World → Prop
  | 0 => fun _ _ _ _ _ _ _ _ _ _ _ _ _ _ _ _ _ => False
  | k + 1 => fun code1 code1l code1c d7 d7l d7c fresh9 A27 A27l A27c x28 x29 q2 p2 p2l p2c w =>
    if (decide (x29 < x28)) = true
    then (∃ p32 : Addr, A27 = some p32 ∧ (0 : Int) ≤ x29 ∧ x29 < (A27l : Int) ∧
    ∃ x33 : Int, w.cell? ((p32.add (x29.toNat * 3)).add 0) = some (.int .i64 x33) ∧
    ∃ x33_1 : Int, w.cell? ((p32.add (x29.toNat * 3)).add 1) = some (.int .i64 x33_1) ∧
    ∃ x33_2 : Int, w.cell? ((p32.add (x29.toNat * 3)).add 2) = some (.int .i64 x33_2) ∧
    ∀ q11 : Nat, w.heap.size ≤ q11 →
    ∃ p36 : Addr, d7 = some p36 ∧ (0 : Int) ≤ x29 ∧ x29 < (d7l : Int) ∧
    ∃ x37 : Int, w.cell? (p36.add x29.toNat) = some (.int .i64 x37) ∧
    if (decide (x37 < 0)) = true
     then ((V91.l2 B R L1 k) code1 code1l code1c d7 d7l d7c fresh9 A27 A27l A27c x28 (IntKind.wrap .i64 (x29 + 1)) q2 p2 p2l p2c w)
     else (∃ p41 : Addr, d7 = some p41 ∧ (0 : Int) ≤ x29 ∧ x29 < (d7l : Int) ∧
     ∃ x42 : Int, w.cell? (p41.add x29.toNat) = some (.int .i64 x42) ∧
     CallK Try.prog 28 [.agg ⟨[.slice p2 p2l p2c]⟩, .agg ⟨[.int .i64 x33, .int .i64 x33_1, .int .i64 x33_2]⟩] B w [q11, q2] fun v w_1 => 
      ∃ x45 : Int, v = .int .i64 x45 ∧ w_1.cell? (p41.add x29.toNat) = some (.int .i64 x42) ∧
      CallK Try.prog 30 [.agg ⟨[.int .i64 x33, .int .i64 x33_1, .int .i64 x33_2]⟩] B w_1 [q11, q2] fun v_1 w_2 => 
      ∃ x48 : Int, v_1 = .int .i64 x48 ∧ w_2.cell? (p41.add x29.toNat) = some (.int .i64 x42) ∧
      ∃ p55 : Addr, d7 = some p55 ∧ (0 : Int) ≤ x29 ∧ x29 < (d7l : Int) ∧
      ∃ x56 : Int, w_2.cell? (p55.add x29.toNat) = some (.int .i64 x56) ∧
      CallK Try.prog 28 [.agg ⟨[.slice p2 p2l p2c]⟩, .agg ⟨[.int .i64 x33, .int .i64 x33_1, .int .i64 x33_2]⟩] B w_2 [q11, q2] fun v_2 w_3 => 
      ∃ x52 : Int, v_2 = .int .i64 x52 ∧ w_3.cell? (p55.add x29.toNat) = some (.int .i64 x56) ∧
      if (decide (x52 > x56)) = false
      then (if (decide (IntKind.wrap .i64 (IntKind.wrap .i64 (x42 - x45) + x48) > 8)) = true
       then (Ret B w_3 (R (.tuple ⟨[.slice none 0 0, .int .i64 x29, .bool false]⟩)))
       else (CallK Try.prog 123 [.int .i64 x29, .agg ⟨[.int .i64 x33, .int .i64 x33_1, .int .i64 x33_2]⟩] B w_3 [q11, q2] fun v_3 w_4 => 
        ∃ (A65 : Option Addr) (A65l A65c : Nat), v_3 = .slice A65 A65l A65c ∧
        ∃ k_1, V91.l3 B R L1 (V91.l2 B R L1 k) k_1 code1 code1l code1c d7 d7l d7c fresh9 x29 (IntKind.wrap .i64 (IntKind.wrap .i64 (x42 - x45) + x48)) A27 A27l A27c x28 x29 A65 A65l A65c (A65l : Int) 0 q2 p2 p2l p2c w_4))
      else (Ret B w_3 (R (.tuple ⟨[.slice none 0 0, .int .i64 x29, .bool false]⟩)))))
    else (if (!fresh9) = true
     then (Ret B w (R (.tuple ⟨[.slice d7 d7l d7c, .int .i64 0, .bool true]⟩)))
     else (L1 code1 code1l code1c d7 d7l d7c q2 p2 p2l p2c w))
def V91.l1 (B : Nat) (R : Value → World → Prop) : Nat → Option Addr → Nat → Nat → Option Addr → Nat → Nat → Nat → Option Addr → Nat → Nat → World → Prop
  | 0 => fun _ _ _ _ _ _ _ _ _ _ _ => False
  | k + 1 => fun code1 code1l code1c d7 d7l d7c q2 p2 p2l p2c w =>
    ∃ k_1, V91.l2 B R (V91.l1 B R k) k_1 code1 code1l code1c d7 d7l d7c false code1 code1l code1c (code1l : Int) 0 q2 p2 p2l p2c w
def V91.l0 (B : Nat) (R : Value → World → Prop) : Nat → Option Addr → Nat → Nat → Option Addr → Nat → Nat → Int → Nat → Option Addr → Nat → Nat → World → Prop
  | 0 => fun _ _ _ _ _ _ _ _ _ _ _ _ => False
  | k + 1 => fun code1 code1l code1c d7 d7l d7c at8 q2 p2 p2l p2c w =>
    if (decide (at8 < (d7l : Int))) = true
    then (∃ p26 : Addr, d7 = some p26 ∧ (0 : Int) ≤ at8 ∧ at8 < (d7l : Int) ∧
    (∃ u, w.cell? ((p26.add at8.toNat).add 0) = some u) ∧ w.frozen? ((p26.add at8.toNat).add 0) = false ∧
    let w_1 := w.setCell ((p26.add at8.toNat).add 0) (.int .i64 (-1));
    (V91.l0 B R k) code1 code1l code1c d7 d7l d7c (IntKind.wrap .i64 (at8 + 1)) q2 p2 p2l p2c w_1)
    else (∃ k_1, V91.l1 B R k_1 code1 code1l code1c d7 d7l d7c q2 p2 p2l p2c w)
def V91.vc (B : Nat) (R : Value → World → Prop) (p0 : Option Addr) (p0l p0c : Nat) (code1 : Option Addr) (code1l code1c : Nat) (w : World) : Prop :=
  ∀ q2 : Nat, w.heap.size ≤ q2 →
RunK Try.prog (Instr.makeSlice 42 (.int .i64 (code1l : Int)) (.int .i64 (code1l : Int))) B w [q2] fun v w_1 => 
  ∃ (A17 : Option Addr) (A17l A17c : Nat), v = .slice A17 A17l A17c ∧
  ∃ k_1, V91.l0 B R k_1 code1 code1l code1c A17 A17l A17c 1 q2 p0 p0l p0c w_1
noncomputable def V91.cfg (B : Nat) : Cfg := ⟨Try.prog, ⟨107, B⟩, [], hasN [28, 30, 123], hasN []⟩
noncomputable def V91.code : Code := (Try.f91.body).getD .skip
noncomputable def V91.cuts (B : Nat) (R : Value → World → Prop) : Nat → Cut := nthC [⟨[(1, .one (.slice)), (7, .one (.slice)), (8, .one (.int .i64))], [(2, 24, [.slice])], fun fs vs bs w => V91.l0 B R (nthN fs 0) (slA (nthV vs 0)) (slL (nthV vs 0)) (slC (nthV vs 0)) (slA (nthV vs 1)) (slL (nthV vs 1)) (slC (nthV vs 1)) (iV (nthV vs 2)) (nthB bs 0).blk (slA (nthV (nthB bs 0).cells 0)) (slL (nthV (nthB bs 0).cells 0)) (slC (nthV (nthB bs 0).cells 0)) w⟩,
  ⟨[(1, .one (.slice)), (7, .one (.slice))], [(2, 24, [.slice])], fun fs vs bs w => V91.l1 B R (nthN fs 0) (slA (nthV vs 0)) (slL (nthV vs 0)) (slC (nthV vs 0)) (slA (nthV vs 1)) (slL (nthV vs 1)) (slC (nthV vs 1)) (nthB bs 0).blk (slA (nthV (nthB bs 0).cells 0)) (slL (nthV (nthB bs 0).cells 0)) (slC (nthV (nthB bs 0).cells 0)) w⟩,
  ⟨[(1, .one (.slice)), (7, .one (.slice)), (9, .one (.bool)), (27, .one (.slice)), (28, .one (.int .i64)), (29, .one (.int .i64))], [(2, 24, [.slice])], fun fs vs bs w => V91.l2 B R (V91.l1 B R (nthN fs 1)) (nthN fs 0) (slA (nthV vs 0)) (slL (nthV vs 0)) (slC (nthV vs 0)) (slA (nthV vs 1)) (slL (nthV vs 1)) (slC (nthV vs 1)) (bV (nthV vs 2)) (slA (nthV vs 3)) (slL (nthV vs 3)) (slC (nthV vs 3)) (iV (nthV vs 4)) (iV (nthV vs 5)) (nthB bs 0).blk (slA (nthV (nthB bs 0).cells 0)) (slL (nthV (nthB bs 0).cells 0)) (slC (nthV (nthB bs 0).cells 0)) w⟩,
  ⟨[(1, .one (.slice)), (7, .one (.slice)), (9, .one (.bool)), (10, .one (.int .i64)), (12, .one (.int .i64)), (27, .one (.slice)), (28, .one (.int .i64)), (29, .one (.int .i64)), (65, .one (.slice)), (66, .one (.int .i64)), (67, .one (.int .i64))], [(2, 24, [.slice])], fun fs vs bs w => V91.l3 B R (V91.l1 B R (nthN fs 2)) (V91.l2 B R (V91.l1 B R (nthN fs 2)) (nthN fs 1)) (nthN fs 0) (slA (nthV vs 0)) (slL (nthV vs 0)) (slC (nthV vs 0)) (slA (nthV vs 1)) (slL (nthV vs 1)) (slC (nthV vs 1)) (bV (nthV vs 2)) (iV (nthV vs 3)) (iV (nthV vs 4)) (slA (nthV vs 5)) (slL (nthV vs 5)) (slC (nthV vs 5)) (iV (nthV vs 6)) (iV (nthV vs 7)) (slA (nthV vs 8)) (slL (nthV vs 8)) (slC (nthV vs 8)) (iV (nthV vs 9)) (iV (nthV vs 10)) (nthB bs 0).blk (slA (nthV (nthB bs 0).cells 0)) (slL (nthV (nthB bs 0).cells 0)) (slC (nthV (nthB bs 0).cells 0)) w⟩,
  ⟨[(1, .one (.slice)), (7, .one (.slice)), (9, .one (.bool)), (10, .one (.int .i64)), (12, .one (.int .i64)), (14, .one (.int .i64)), (27, .one (.slice)), (28, .one (.int .i64)), (29, .one (.int .i64)), (65, .one (.slice)), (66, .one (.int .i64)), (67, .one (.int .i64)), (71, .one (.bool))], [(2, 24, [.slice])], fun fs vs bs w => V91.b4 B R (V91.l1 B R (nthN fs 2)) (V91.l2 B R (V91.l1 B R (nthN fs 2)) (nthN fs 1)) (V91.l3 B R (V91.l1 B R (nthN fs 2)) (V91.l2 B R (V91.l1 B R (nthN fs 2)) (nthN fs 1)) (nthN fs 0)) (slA (nthV vs 0)) (slL (nthV vs 0)) (slC (nthV vs 0)) (slA (nthV vs 1)) (slL (nthV vs 1)) (slC (nthV vs 1)) (bV (nthV vs 2)) (iV (nthV vs 3)) (iV (nthV vs 4)) (iV (nthV vs 5)) (slA (nthV vs 6)) (slL (nthV vs 6)) (slC (nthV vs 6)) (iV (nthV vs 7)) (iV (nthV vs 8)) (slA (nthV vs 9)) (slL (nthV vs 9)) (slC (nthV vs 9)) (iV (nthV vs 10)) (iV (nthV vs 11)) (bV (nthV vs 12)) (nthB bs 0).blk (slA (nthV (nthB bs 0).cells 0)) (slL (nthV (nthB bs 0).cells 0)) (slC (nthV (nthB bs 0).cells 0)) w⟩]
noncomputable def V91.h : H := .s (.z) (.b (.s (.z) (.s (.s (.z) (.b (.l 0 (.s (.s (.z) (.c (.z) (.z))) (.s (.b (.z)) (.z)))))) (.s (.z) (.s (.b (.l 1 (.b (.s (.z) (.s (.s (.z) (.b (.l 2 (.s (.z) (.s (.c (.z) (.z)) (.s (.b (.s (.z) (.s (.s (.z) (.c (.z) (.z))) (.s (.r [[0, 1, 2, 3, 4, 5, 8, 6, 7, 9, 10, 11]]) (.s (.s (.r [[0, 1, 3, 4, 5, 6, 2, 7, 8, 9, 10, 11]]) (.c (.s (.z) (.z)) (.z))) (.s (.z) (.b (.l 3 (.s (.z) (.s (.c (.z) (.z)) (.s (.b (.s (.z) (.b (.cut 4 (.z) (.c (.s (.z) (.z)) (.s (.z) (.c (.z) (.z)))))))) (.z)))))))))))) (.z))))))) (.s (.z) (.c (.z) (.z)))))))) (.s (.z) (.z)))))))
theorem V91.vc_eq (B : Nat) (R : Value → World → Prop) (p0 : Option Addr) (p0l p0c : Nat) (code1 : Option Addr) (code1l code1c : Nat) (w : World) : wpf (V91.cfg B) (V91.cuts B R) V91.code V91.h [] (postOf Try.prog B (Try.f91.results.toList) R) (argE 0 [.agg ⟨[.slice p0 p0l p0c]⟩, .slice code1 code1l code1c]) [] w = V91.vc B R p0 p0l p0c code1 code1l code1c w := by kernel_rfl
theorem V91.obl (B : Nat) (R : Value → World → Prop) : oblP (V91.cfg B) (V91.cuts B R) V91.code V91.h [] (postOf Try.prog B (Try.f91.results.toList) R) := by
  have e : oblP (V91.cfg B) (V91.cuts B R) V91.code V91.h [] (postOf Try.prog B (Try.f91.results.toList) R) = (True ∧ (True ∧ ((True ∧ ((∀ (code1 : Option Addr) (code1l code1c : Nat) (d7 : Option Addr) (d7l d7c : Nat) (at8 : Int) (q2 : Nat) (p2 : Option Addr) (p2l p2c : Nat) (w : World), ¬ V91.l0 B R 0 code1 code1l code1c d7 d7l d7c at8 q2 p2 p2l p2c w) ∧ (∀ k0, ∀ (code1 : Option Addr) (code1l code1c : Nat) (d7 : Option Addr) (d7l d7c : Nat) (at8 : Int) (q2 : Nat) (p2 : Option Addr) (p2l p2c : Nat) (w : World), V91.l0 B R (k0 + 1) code1 code1l code1c d7 d7l d7c at8 q2 p2 p2l p2c w → V91.l0 B R (k0 + 1) code1 code1l code1c d7 d7l d7c at8 q2 p2 p2l p2c w) ∧ ∀ k0 : Nat, ((True ∧ (True ∧ True)) ∧ (True ∧ True)))) ∧ (True ∧ (((∀ (code1 : Option Addr) (code1l code1c : Nat) (d7 : Option Addr) (d7l d7c q2 : Nat) (p2 : Option Addr) (p2l p2c : Nat) (w : World), ¬ V91.l1 B R 0 code1 code1l code1c d7 d7l d7c q2 p2 p2l p2c w) ∧ (∀ k1, ∀ (code1 : Option Addr) (code1l code1c : Nat) (d7 : Option Addr) (d7l d7c q2 : Nat) (p2 : Option Addr) (p2l p2c : Nat) (w : World), V91.l1 B R (k1 + 1) code1 code1l code1c d7 d7l d7c q2 p2 p2l p2c w → V91.l1 B R (k1 + 1) code1 code1l code1c d7 d7l d7c q2 p2 p2l p2c w) ∧ ∀ k1 : Nat, (True ∧ ((True ∧ ((∀ (code1 : Option Addr) (code1l code1c : Nat) (d7 : Option Addr) (d7l d7c : Nat) (fresh9 : Bool) (A27 : Option Addr) (A27l A27c : Nat) (x28 x29 : Int) (q2 : Nat) (p2 : Option Addr) (p2l p2c : Nat) (w : World), ¬ V91.l2 B R (V91.l1 B R k1) 0 code1 code1l code1c d7 d7l d7c fresh9 A27 A27l A27c x28 x29 q2 p2 p2l p2c w) ∧ (∀ k2, ∀ (code1 : Option Addr) (code1l code1c : Nat) (d7 : Option Addr) (d7l d7c : Nat) (fresh9 : Bool) (A27 : Option Addr) (A27l A27c : Nat) (x28 x29 : Int) (q2 : Nat) (p2 : Option Addr) (p2l p2c : Nat) (w : World), V91.l2 B R (V91.l1 B R k1) (k2 + 1) code1 code1l code1c d7 d7l d7c fresh9 A27 A27l A27c x28 x29 q2 p2 p2l p2c w → V91.l2 B R (V91.l1 B R k1) (k2 + 1) code1 code1l code1c d7 d7l d7c fresh9 A27 A27l A27c x28 x29 q2 p2 p2l p2c w) ∧ ∀ k2 : Nat, (True ∧ ((True ∧ True) ∧ ((True ∧ ((True ∧ (True ∧ True)) ∧ ((true = true) ∧ (((true = true) ∧ ((True ∧ True) ∧ True)) ∧ (True ∧ ((∀ (code1 : Option Addr) (code1l code1c : Nat) (d7 : Option Addr) (d7l d7c : Nat) (fresh9 : Bool) (at10 behind12 : Int) (A27 : Option Addr) (A27l A27c : Nat) (x28 x29 : Int) (A65 : Option Addr) (A65l A65c : Nat) (x66 x67 : Int) (q2 : Nat) (p2 : Option Addr) (p2l p2c : Nat) (w : World), ¬ V91.l3 B R (V91.l1 B R k1) (V91.l2 B R (V91.l1 B R k1) k2) 0 code1 code1l code1c d7 d7l d7c fresh9 at10 behind12 A27 A27l A27c x28 x29 A65 A65l A65c x66 x67 q2 p2 p2l p2c w) ∧ (∀ k3, ∀ (code1 : Option Addr) (code1l code1c : Nat) (d7 : Option Addr) (d7l d7c : Nat) (fresh9 : Bool) (at10 behind12 : Int) (A27 : Option Addr) (A27l A27c : Nat) (x28 x29 : Int) (A65 : Option Addr) (A65l A65c : Nat) (x66 x67 : Int) (q2 : Nat) (p2 : Option Addr) (p2l p2c : Nat) (w : World), V91.l3 B R (V91.l1 B R k1) (V91.l2 B R (V91.l1 B R k1) k2) (k3 + 1) code1 code1l code1c d7 d7l d7c fresh9 at10 behind12 A27 A27l A27c x28 x29 A65 A65l A65c x66 x67 q2 p2 p2l p2c w → V91.l3 B R (V91.l1 B R k1) (V91.l2 B R (V91.l1 B R k1) k2) (k3 + 1) code1 code1l code1c d7 d7l d7c fresh9 at10 behind12 A27 A27l A27c x28 x29 A65 A65l A65c x66 x67 q2 p2 p2l p2c w) ∧ ∀ k3 : Nat, (True ∧ ((True ∧ True) ∧ ((True ∧ (True ∧ (∀ (code1 : Option Addr) (code1l code1c : Nat) (d7 : Option Addr) (d7l d7c : Nat) (fresh9 : Bool) (at10 behind12 to14 : Int) (A27 : Option Addr) (A27l A27c : Nat) (x28 x29 : Int) (A65 : Option Addr) (A65l A65c : Nat) (x66 x67 : Int) (b71 : Bool) (q2 : Nat) (p2 : Option Addr) (p2l p2c : Nat) (w : World), V91.b4 B R (V91.l1 B R k1) (V91.l2 B R (V91.l1 B R k1) k2) (V91.l3 B R (V91.l1 B R k1) (V91.l2 B R (V91.l1 B R k1) k2) k3) code1 code1l code1c d7 d7l d7c fresh9 at10 behind12 to14 A27 A27l A27c x28 x29 A65 A65l A65c x66 x67 b71 q2 p2 p2l p2c w → V91.b4 B R (V91.l1 B R k1) (V91.l2 B R (V91.l1 B R k1) k2) (V91.l3 B R (V91.l1 B R k1) (V91.l2 B R (V91.l1 B R k1) k2) k3) code1 code1l code1c d7 d7l d7c fresh9 at10 behind12 to14 A27 A27l A27c x28 x29 A65 A65l A65c x66 x67 b71 q2 p2 p2l p2c w) ∧ ((True ∧ True) ∧ (True ∧ (True ∧ True))))) ∧ True))))))))) ∧ True))))) ∧ (True ∧ (True ∧ True))))) ∧ (True ∧ True)))))) := by kernel_rfl
  rw [e]
  exact ⟨trivial, ⟨trivial, ⟨⟨trivial, ⟨fun code1 code1l code1c d7 d7l d7c at8 q2 p2 p2l p2c w h => h, fun _ code1 code1l code1c d7 d7l d7c at8 q2 p2 p2l p2c w h => h, fun k0 => ⟨⟨trivial, ⟨trivial, trivial⟩⟩, ⟨trivial, trivial⟩⟩⟩⟩, ⟨trivial, ⟨⟨fun code1 code1l code1c d7 d7l d7c q2 p2 p2l p2c w h => h, fun _ code1 code1l code1c d7 d7l d7c q2 p2 p2l p2c w h => h, fun k1 => ⟨trivial, ⟨⟨trivial, ⟨fun code1 code1l code1c d7 d7l d7c fresh9 A27 A27l A27c x28 x29 q2 p2 p2l p2c w h => h, fun _ code1 code1l code1c d7 d7l d7c fresh9 A27 A27l A27c x28 x29 q2 p2 p2l p2c w h => h, fun k2 => ⟨trivial, ⟨⟨trivial, trivial⟩, ⟨⟨trivial, ⟨⟨trivial, ⟨trivial, trivial⟩⟩, ⟨rfl, ⟨⟨rfl, ⟨⟨trivial, trivial⟩, trivial⟩⟩, ⟨trivial, ⟨fun code1 code1l code1c d7 d7l d7c fresh9 at10 behind12 A27 A27l A27c x28 x29 A65 A65l A65c x66 x67 q2 p2 p2l p2c w h => h, fun _ code1 code1l code1c d7 d7l d7c fresh9 at10 behind12 A27 A27l A27c x28 x29 A65 A65l A65c x66 x67 q2 p2 p2l p2c w h => h, fun k3 => ⟨trivial, ⟨⟨trivial, trivial⟩, ⟨⟨trivial, ⟨trivial, fun code1 code1l code1c d7 d7l d7c fresh9 at10 behind12 to14 A27 A27l A27c x28 x29 A65 A65l A65c x66 x67 b71 q2 p2 p2l p2c w h => h, ⟨⟨trivial, trivial⟩, ⟨trivial, ⟨trivial, trivial⟩⟩⟩⟩⟩, trivial⟩⟩⟩⟩⟩⟩⟩⟩⟩, trivial⟩⟩⟩⟩⟩, ⟨trivial, ⟨trivial, trivial⟩⟩⟩⟩⟩, ⟨trivial, trivial⟩⟩⟩⟩⟩⟩
theorem V91.cfgOk (B : Nat) : CfgOk (V91.cfg B) := cfgOk_of (by kernel_rfl) (by kernel_rfl)
theorem V91.sound {p0 : Option Addr} {p0l p0c : Nat} {code1 : Option Addr} {code1l code1c : Nat} {w : World} {R : Value → World → Prop} (h : V91.vc w.heap.size R p0 p0l p0c code1 code1l code1c w) : Calls Try.prog 91 ⟨[.agg ⟨[.slice p0 p0l p0c]⟩, .slice code1 code1l code1c]⟩ w fun e w' => ∃ v, e = .returned v ∧ R v w' :=
  calls_wpfP (c := V91.cfg w.heap.size) (fn := Try.f91) (x := V91.code) (V91.cuts w.heap.size R) V91.h (V91.cfgOk _) mixed Try.func91 (by kernel_rfl) (by kernel_rfl) (by kernel_rfl) rfl (V91.obl _ _) ((V91.vc_eq _ _ p0 p0l p0c code1 code1l code1c _).symm ▸ h)

/-! function 118 -/
def V118.vc (B : Nat) (R : Value → World → Prop) (f0 f0_1 f0_2 : Int) (f0_3 : Option Addr) (f0_3l f0_3c : Nat) (w : World) : Prop :=
  ∀ q1 : Nat, w.heap.size ≤ q1 →
if (decide (f0 ≥ 0)) = true
  then (if (decide (f0 ≤ 3)) = true
   then (if (decide (f0_1 ≥ f0)) = true
    then (if (decide (f0_1 ≤ 8)) = true
     then (if (decide (f0_2 ≥ 0)) = true
      then (if (decide (f0_2 ≤ IntKind.wrap .i64 (f0_1 - f0))) = true
       then (if (decide ((f0_3l : Int) ≥ 1)) = true
        then (Ret B w (R (.bool (decide ((f0_3l : Int) ≤ 64)))))
        else (Ret B w (R (.bool false))))
       else (Ret B w (R (.bool false))))
      else (Ret B w (R (.bool false))))
     else (Ret B w (R (.bool false))))
    else (Ret B w (R (.bool false))))
   else (Ret B w (R (.bool false))))
  else (Ret B w (R (.bool false)))
noncomputable def V118.cfg (B : Nat) : Cfg := ⟨Try.prog, ⟨50, B⟩, [], hasN [], hasN []⟩
noncomputable def V118.code : Code := (Try.f118.body).getD .skip
noncomputable def V118.cuts (B : Nat) (R : Value → World → Prop) : Nat → Cut := nthC []
noncomputable def V118.h : H := .s (.z) (.s (.z) (.z))
theorem V118.vc_eq (B : Nat) (R : Value → World → Prop) (f0 f0_1 f0_2 : Int) (f0_3 : Option Addr) (f0_3l f0_3c : Nat) (w : World) : wpf (V118.cfg B) (V118.cuts B R) V118.code V118.h [] (postOf Try.prog B (Try.f118.results.toList) R) (argE 0 [.agg ⟨[.int .i64 f0, .int .i64 f0_1, .int .i64 f0_2, .slice f0_3 f0_3l f0_3c]⟩]) [] w = V118.vc B R f0 f0_1 f0_2 f0_3 f0_3l f0_3c w := by kernel_rfl
theorem V118.obl (B : Nat) (R : Value → World → Prop) : oblP (V118.cfg B) (V118.cuts B R) V118.code V118.h [] (postOf Try.prog B (Try.f118.results.toList) R) := by
  have e : oblP (V118.cfg B) (V118.cuts B R) V118.code V118.h [] (postOf Try.prog B (Try.f118.results.toList) R) = (True ∧ (True ∧ True)) := by kernel_rfl
  rw [e]
  exact ⟨trivial, ⟨trivial, trivial⟩⟩
theorem V118.cfgOk (B : Nat) : CfgOk (V118.cfg B) := cfgOk_of (by kernel_rfl) (by kernel_rfl)
theorem V118.sound {f0 f0_1 f0_2 : Int} {f0_3 : Option Addr} {f0_3l f0_3c : Nat} {w : World} {R : Value → World → Prop} (h : V118.vc w.heap.size R f0 f0_1 f0_2 f0_3 f0_3l f0_3c w) : Calls Try.prog 118 ⟨[.agg ⟨[.int .i64 f0, .int .i64 f0_1, .int .i64 f0_2, .slice f0_3 f0_3l f0_3c]⟩]⟩ w fun e w' => ∃ v, e = .returned v ∧ R v w' :=
  calls_wpfP (c := V118.cfg w.heap.size) (fn := Try.f118) (x := V118.code) (V118.cuts w.heap.size R) V118.h (V118.cfgOk _) mixed Try.func118 (by kernel_rfl) (by kernel_rfl) (by kernel_rfl) rfl (V118.obl _ _) ((V118.vc_eq _ _ f0 f0_1 f0_2 f0_3 f0_3l f0_3c _).symm ▸ h)

/-! function 119 -/
def V119.b0 (B : Nat) (R : Value → World → Prop) (kind7 : Int) (q5 : Nat) (i5 i5_1 i5_2 : Int) (q4 : Nat) (f4 f4_1 f4_2 : Int) (f4_3 : Option Addr) (f4_3l f4_3c q3 : Nat) (p3 : Option Addr) (p3l p3c : Nat) (w : World) : Prop :=
  if (kind7 == 1) = true
  then (if (decide (i5_1 ≥ (-2147483648))) = true
   then (Ret B w (R (.bool (decide (i5_1 ≤ 2147483648)))))
   else (Ret B w (R (.bool false))))
  else (if (kind7 == 2) = true
   then (CallK Try.prog 121 [.int .i64 i5_1, .int .i64 6] B w [q5, q4, q3] fun v w_1 => 
    ∃ b45 : Bool, v = .bool b45 ∧
    Ret B w_1 (R (.bool b45)))
   else (if (kind7 == 3) = true
    then (CallK Try.prog 121 [.int .i64 i5_1, .int .i64 (IntKind.wrap .i64 (f4_1 - f4_2))] B w [q5, q4, q3] fun v w_1 => 
     ∃ b55 : Bool, v = .bool b55 ∧
     Ret B w_1 (R (.bool b55)))
    else (if (kind7 == 4) = true
     then (CallK Try.prog 121 [.int .i64 i5_1, .int .i64 (f4_3l : Int)] B w [q5, q4, q3] fun v w_1 => 
      ∃ b63 : Bool, v = .bool b63 ∧
      Ret B w_1 (R (.bool b63)))
     else (if (kind7 == 5) = true
      then (CallK Try.prog 121 [.int .i64 i5_1, .int .i64 (p3l : Int)] B w [q5, q4, q3] fun v w_1 => 
       ∃ b71 : Bool, v = .bool b71 ∧
       Ret B w_1 (R (.bool b71)))
      else (if (kind7 == 6) = true
       then (CallK Try.prog 121 [.int .i64 i5_1, .int .i64 f4_2] B w [q5, q4, q3] fun v w_1 => 
        ∃ b78 : Bool, v = .bool b78 ∧
        Ret B w_1 (R (.bool b78)))
       else (if (kind7 == 7) = true
        then (CallK Try.prog 121 [.int .i64 i5_1, .int .i64 f4_2] B w [q5, q4, q3] fun v w_1 => 
         ∃ b85 : Bool, v = .bool b85 ∧
         if b85 = true
         then (CallK Try.prog 121 [.int .i64 i5_2, .int .i64 f4_2] B w_1 [q5, q4, q3] fun v_1 w_2 => 
          ∃ b91 : Bool, v_1 = .bool b91 ∧
          Ret B w_2 (R (.bool b91)))
         else (Ret B w_1 (R (.bool false))))
        else (Ret B w (R (.bool (i5_1 == 0))))))))))
def V119.vc (B : Nat) (R : Value → World → Prop) (p0 : Option Addr) (p0l p0c : Nat) (f1 f1_1 f1_2 : Int) (f1_3 : Option Addr) (f1_3l f1_3c : Nat) (i2 i2_1 i2_2 : Int) (w : World) : Prop :=
  ∀ q3 : Nat, w.heap.size ≤ q3 →
∀ q4 : Nat, w.heap.size ≤ q4 →
∀ q5 : Nat, w.heap.size ≤ q5 →
CallK Try.prog 83 [.int .i64 i2] B w [q5, q4, q3] fun v w_1 => 
  ∃ (x14 x14_1 x14_2 : Int) (b14 : Bool), v = .tuple ⟨[.int .i64 x14, .int .i64 x14_1, .int .i64 x14_2, .bool b14]⟩ ∧
  if (!b14) = false
  then (if (x14 != 7) = true
   then (if (i2_2 != 0) = true
    then (Ret B w_1 (R (.bool false)))
    else (V119.b0 B R x14 q5 i2 i2_1 i2_2 q4 f1 f1_1 f1_2 f1_3 f1_3l f1_3c q3 p0 p0l p0c w_1))
   else (V119.b0 B R x14 q5 i2 i2_1 i2_2 q4 f1 f1_1 f1_2 f1_3 f1_3l f1_3c q3 p0 p0l p0c w_1))
  else (Ret B w_1 (R (.bool false)))
noncomputable def V119.cfg (B : Nat) : Cfg := ⟨Try.prog, ⟨96, B⟩, [], hasN [83, 121], hasN []⟩
noncomputable def V119.code : Code := (Try.f119.body).getD .skip
noncomputable def V119.cuts (B : Nat) (R : Value → World → Prop) : Nat → Cut := nthC [⟨[(7, .one (.int .i64))], [(5, 26, [.int .i64, .int .i64, .int .i64]), (4, 29, [.int .i64, .int .i64, .int .i64, .slice]), (3, 24, [.slice])], fun fs vs bs w => V119.b0 B R (iV (nthV vs 0)) (nthB bs 0).blk (iV (nthV (nthB bs 0).cells 0)) (iV (nthV (nthB bs 0).cells 1)) (iV (nthV (nthB bs 0).cells 2)) (nthB bs 1).blk (iV (nthV (nthB bs 1).cells 0)) (iV (nthV (nthB bs 1).cells 1)) (iV (nthV (nthB bs 1).cells 2)) (slA (nthV (nthB bs 1).cells 3)) (slL (nthV (nthB bs 1).cells 3)) (slC (nthV (nthB bs 1).cells 3)) (nthB bs 2).blk (slA (nthV (nthB bs 2).cells 0)) (slL (nthV (nthB bs 2).cells 0)) (slC (nthV (nthB bs 2).cells 0)) w⟩]
noncomputable def V119.h : H := .s (.z) (.s (.z) (.cut 0 (.s (.z) (.c (.s (.z) (.z)) (.z))) (.s (.s (.z) (.b (.s (.z) (.c (.s (.z) (.z)) (.s (.z) (.c (.s (.z) (.z)) (.s (.z) (.c (.s (.z) (.z)) (.s (.z) (.c (.s (.z) (.z)) (.s (.z) (.c (.s (.z) (.z)) (.s (.z) (.c (.s (.z) (.z)) (.s (.z) (.c (.s (.z) (.z)) (.z))))))))))))))))) (.s (.z) (.z)))))
theorem V119.vc_eq (B : Nat) (R : Value → World → Prop) (p0 : Option Addr) (p0l p0c : Nat) (f1 f1_1 f1_2 : Int) (f1_3 : Option Addr) (f1_3l f1_3c : Nat) (i2 i2_1 i2_2 : Int) (w : World) : wpf (V119.cfg B) (V119.cuts B R) V119.code V119.h [] (postOf Try.prog B (Try.f119.results.toList) R) (argE 0 [.agg ⟨[.slice p0 p0l p0c]⟩, .agg ⟨[.int .i64 f1, .int .i64 f1_1, .int .i64 f1_2, .slice f1_3 f1_3l f1_3c]⟩, .agg ⟨[.int .i64 i2, .int .i64 i2_1, .int .i64 i2_2]⟩]) [] w = V119.vc B R p0 p0l p0c f1 f1_1 f1_2 f1_3 f1_3l f1_3c i2 i2_1 i2_2 w := by kernel_rfl
theorem V119.obl (B : Nat) (R : Value → World → Prop) : oblP (V119.cfg B) (V119.cuts B R) V119.code V119.h [] (postOf Try.prog B (Try.f119.results.toList) R) := by
  have e : oblP (V119.cfg B) (V119.cuts B R) V119.code V119.h [] (postOf Try.prog B (Try.f119.results.toList) R) = (True ∧ (True ∧ ((True ∧ ((True ∧ True) ∧ True)) ∧ (∀ (kind7 : Int) (q5 : Nat) (i5 i5_1 i5_2 : Int) (q4 : Nat) (f4 f4_1 f4_2 : Int) (f4_3 : Option Addr) (f4_3l f4_3c q3 : Nat) (p3 : Option Addr) (p3l p3c : Nat) (w : World), V119.b0 B R kind7 q5 i5 i5_1 i5_2 q4 f4 f4_1 f4_2 f4_3 f4_3l f4_3c q3 p3 p3l p3c w → V119.b0 B R kind7 q5 i5 i5_1 i5_2 q4 f4 f4_1 f4_2 f4_3 f4_3l f4_3c q3 p3 p3l p3c w) ∧ ((True ∧ (True ∧ ((True ∧ True) ∧ (True ∧ ((True ∧ True) ∧ (True ∧ ((True ∧ True) ∧ (True ∧ ((True ∧ True) ∧ (True ∧ ((True ∧ True) ∧ (True ∧ ((True ∧ True) ∧ (True ∧ ((True ∧ True) ∧ True))))))))))))))) ∧ (True ∧ True))))) := by kernel_rfl
  rw [e]
  exact ⟨trivial, ⟨trivial, ⟨⟨trivial, ⟨⟨trivial, trivial⟩, trivial⟩⟩, fun kind7 q5 i5 i5_1 i5_2 q4 f4 f4_1 f4_2 f4_3 f4_3l f4_3c q3 p3 p3l p3c w h => h, ⟨⟨trivial, ⟨trivial, ⟨⟨trivial, trivial⟩, ⟨trivial, ⟨⟨trivial, trivial⟩, ⟨trivial, ⟨⟨trivial, trivial⟩, ⟨trivial, ⟨⟨trivial, trivial⟩, ⟨trivial, ⟨⟨trivial, trivial⟩, ⟨trivial, ⟨⟨trivial, trivial⟩, ⟨trivial, ⟨⟨trivial, trivial⟩, trivial⟩⟩⟩⟩⟩⟩⟩⟩⟩⟩⟩⟩⟩⟩⟩, ⟨trivial, trivial⟩⟩⟩⟩⟩
theorem V119.cfgOk (B : Nat) : CfgOk (V119.cfg B) := cfgOk_of (by kernel_rfl) (by kernel_rfl)
theorem V119.sound {p0 : Option Addr} {p0l p0c : Nat} {f1 f1_1 f1_2 : Int} {f1_3 : Option Addr} {f1_3l f1_3c : Nat} {i2 i2_1 i2_2 : Int} {w : World} {R : Value → World → Prop} (h : V119.vc w.heap.size R p0 p0l p0c f1 f1_1 f1_2 f1_3 f1_3l f1_3c i2 i2_1 i2_2 w) : Calls Try.prog 119 ⟨[.agg ⟨[.slice p0 p0l p0c]⟩, .agg ⟨[.int .i64 f1, .int .i64 f1_1, .int .i64 f1_2, .slice f1_3 f1_3l f1_3c]⟩, .agg ⟨[.int .i64 i2, .int .i64 i2_1, .int .i64 i2_2]⟩]⟩ w fun e w' => ∃ v, e = .returned v ∧ R v w' :=
  calls_wpfP (c := V119.cfg w.heap.size) (fn := Try.f119) (x := V119.code) (V119.cuts w.heap.size R) V119.h (V119.cfgOk _) mixed Try.func119 (by kernel_rfl) (by kernel_rfl) (by kernel_rfl) rfl (V119.obl _ _) ((V119.vc_eq _ _ p0 p0l p0c f1 f1_1 f1_2 f1_3 f1_3l f1_3c i2 i2_1 i2_2 _).symm ▸ h)

/-! function 120 -/
def V120.b6 (B : Nat) (R : Value → World → Prop) (L1 : Option Addr → Nat → Nat → Bool → Nat → Int → Int → Int → Option Addr → Nat → Nat → Nat → Option Addr → Nat → Nat → World → Prop) (L2 : Option Addr → Nat → Nat → Bool → Int → Nat → Int → Int → Int → Option Addr → Nat → Nat → Nat → Option Addr → Nat → Nat → World → Prop) (L5 : Option Addr → Nat → Nat → Bool → Int → Int → Option Addr → Nat → Nat → Int → Nat → Int → Int → Int → Option Addr → Nat → Nat → Nat → Option Addr → Nat → Nat → World → Prop) (d6 : Option Addr) (d6l d6c : Nat) (more8 : Bool) (i9 n11 : Int) (next12 : Option Addr) (next12l next12c : Nat) (k13 j14 : Int) (q3 : Nat) (f3 f3_1 f3_2 : Int) (f3_3 : Option Addr) (f3_3l f3_3c q2 : Nat) (p2 : Option Addr) (p2l p2c : Nat) (w : World) : Prop :=
  ∃ p121 : Addr, d6 = some p121 ∧ (0 : Int) ≤ j14 ∧ j14 < (d6l : Int) ∧
∃ x122 : Int, w.cell? (p121.add j14.toNat) = some (.int .i64 x122) ∧
if (decide (x122 < 0)) = true
  then (∃ p127 : Addr, d6 = some p127 ∧ (0 : Int) ≤ j14 ∧ j14 < (d6l : Int) ∧
  (∃ u, w.cell? ((p127.add j14.toNat).add 0) = some u) ∧ w.frozen? ((p127.add j14.toNat).add 0) = false ∧
  let w_1 := w.setCell ((p127.add j14.toNat).add 0) (.int .i64 n11);
  L5 d6 d6l d6c true i9 n11 next12 next12l next12c (IntKind.wrap .i64 (k13 + 1)) q3 f3 f3_1 f3_2 f3_3 f3_3l f3_3c q2 p2 p2l p2c w_1)
  else (L5 d6 d6l d6c more8 i9 n11 next12 next12l next12c (IntKind.wrap .i64 (k13 + 1)) q3 f3 f3_1 f3_2 f3_3 f3_3l f3_3c q2 p2 p2l p2c w)
def V120.l5 (B : Nat) (R : Value → World → Prop) (L1 : Option Addr → Nat → Nat → Bool → Nat → Int → Int → Int → Option Addr → Nat → Nat → Nat → Option Addr → Nat → Nat → World → Prop) (L2 : Option Addr → Nat → Nat → Bool → Int → Nat → Int → Int → Int → Option Addr → Nat → Nat → Nat → Option Addr → Nat → Nat → World → Prop) : Nat → Option Addr → Nat → Nat → Bool → Int → Int → Option Addr → Nat → Nat → Int → Nat → Int → Int → Int → Option Addr → Nat → Nat → Nat → Option Addr → Nat → Nat → World → Prop
  | 0 => fun _ _ _ _ _ _ _ _ _ _ _ _ _ _ _ _ _ _ _ _ _ _ => False
  | k + 1 => fun d6 d6l d6c more8 i9 n11 next12 next12l next12c k13 q3 f3 f3_1 f3_2 f3_3 f3_3l f3_3c q2 p2 p2l p2c w =>
    if (decide (k13 < (next12l : Int))) = true
    then (∃ p97 : Addr, next12 = some p97 ∧ (0 : Int) ≤ k13 ∧ k13 < (next12l : Int) ∧
    ∃ x98 : Int, w.cell? (p97.add k13.toNat) = some (.int .i64 x98) ∧
    if (decide (x98 ≥ (d6l : Int))) = false
     then (∃ p106 : Addr, d6 = some p106 ∧ (0 : Int) ≤ x98 ∧ x98 < (d6l : Int) ∧
     ∃ x107 : Int, w.cell? (p106.add x98.toNat) = some (.int .i64 x107) ∧
     if (decide (x107 ≥ 0)) = true
      then (∃ p112 : Addr, d6 = some p112 ∧ (0 : Int) ≤ x98 ∧ x98 < (d6l : Int) ∧
      ∃ x113 : Int, w.cell? (p112.add x98.toNat) = some (.int .i64 x113) ∧
      if (x113 != n11) = true
       then (Ret B w (R (.tuple ⟨[.slice none 0 0, .int .i64 i9]⟩)))
       else (V120.b6 B R L1 L2 (V120.l5 B R L1 L2 k) d6 d6l d6c more8 i9 n11 next12 next12l next12c k13 x98 q3 f3 f3_1 f3_2 f3_3 f3_3l f3_3c q2 p2 p2l p2c w))
      else (V120.b6 B R L1 L2 (V120.l5 B R L1 L2 k) d6 d6l d6c more8 i9 n11 next12 next12l next12c k13 x98 q3 f3 f3_1 f3_2 f3_3 f3_3l f3_3c q2 p2 p2l p2c w))
     else (Ret B w (R (.tuple ⟨[.slice none 0 0, .int .i64 i9]⟩))))
    else (L2 d6 d6l d6c more8 (IntKind.wrap .i64 (i9 + 1)) q3 f3 f3_1 f3_2 f3_3 f3_3l f3_3c q2 p2 p2l p2c w)
def V120.b4 (B : Nat) (R : Value → World → Prop) (L1 : Option Addr → Nat → Nat → Bool → Nat → Int → Int → Int → Option Addr → Nat → Nat → Nat → Option Addr → Nat → Nat → World → Prop) (L2 : Option Addr → Nat → Nat → Bool → Int → Nat → Int → Int → Int → Option Addr → Nat → Nat → Nat → Option Addr → Nat → Nat → World → Prop) (d6 : Option Addr) (d6l d6c : Nat) (more8 : Bool) (i9 n11 : Int) (next12 : Option Addr) (next12l next12c q3 : Nat) (f3 f3_1 f3_2 : Int) (f3_3 : Option Addr) (f3_3l f3_3c q2 : Nat) (p2 : Option Addr) (p2l p2c : Nat) (w : World) : Prop :=
  ∃ k_1, V120.l5 B R L1 L2 k_1 d6 d6l d6c more8 i9 n11 next12 next12l next12c 0 q3 f3 f3_1 f3_2 f3_3 f3_3l f3_3c q2 p2 p2l p2c w
def V120.b3 (B : Nat) (R : Value → World → Prop) (L1 : Option Addr → Nat → Nat → Bool → Nat → Int → Int → Int → Option Addr → Nat → Nat → Nat → Option Addr → Nat → Nat → World → Prop) (L2 : Option Addr → Nat → Nat → Bool → Int → Nat → Int → Int → Int → Option Addr → Nat → Nat → Nat → Option Addr → Nat → Nat → World → Prop) (d6 : Option Addr) (d6l d6c : Nat) (more8 : Bool) (i9 n11 : Int) (next12 : Option Addr) (next12l next12c : Nat) (x64 : Int) (b70 : Bool) (q10 : Nat) (x10 x10_1 x10_2 : Int) (q3 : Nat) (f3 f3_1 f3_2 : Int) (f3_3 : Option Addr) (f3_3l f3_3c q2 : Nat) (p2 : Option Addr) (p2l p2c : Nat) (w : World) : Prop :=
  if b70 = true
  then (V120.b4 B R L1 L2 d6 d6l d6c more8 i9 n11 next12 next12l next12c q3 f3 f3_1 f3_2 f3_3 f3_3l f3_3c q2 p2 p2l p2c w)
  else (if (x64 == 15) = true
   then (Expo B w [q10, q3, q2] fun w_1 => 
    Hide [q10, q3, q2] (w_1.alloc (.cells ⟨[.int .i64 x10_1]⟩ 3)) fun w_2 => 
    RunK Try.prog (Builtin.append_ #[42, 42] 42 ⟨[.slice next12 next12l next12c, .slice (some ⟨w_1.heap.size, 0, none⟩) 1 1]⟩) B w_2 [q10, q3, q2] fun v w_3 => 
    ∃ (A79 : Option Addr) (A79l A79c : Nat), v = .slice A79 A79l A79c ∧
    V120.b4 B R L1 L2 d6 d6l d6c more8 i9 n11 A79 A79l A79c q3 f3 f3_1 f3_2 f3_3 f3_3l f3_3c q2 p2 p2l p2c w_3)
   else (if (x64 == 16) = true
    then (Expo B w [q10, q3, q2] fun w_1 => 
     Hide [q10, q3, q2] (w_1.alloc (.cells ⟨[.int .i64 x10_1, .int .i64 (IntKind.wrap .i64 (i9 + 1))]⟩ 3)) fun w_2 => 
     RunK Try.prog (Builtin.append_ #[42, 42] 42 ⟨[.slice next12 next12l next12c, .slice (some ⟨w_1.heap.size, 0, none⟩) 2 2]⟩) B w_2 [q10, q3, q2] fun v w_3 => 
     ∃ (A88 : Option Addr) (A88l A88c : Nat), v = .slice A88 A88l A88c ∧
     V120.b4 B R L1 L2 d6 d6l d6c more8 i9 n11 A88 A88l A88c q3 f3 f3_1 f3_2 f3_3 f3_3l f3_3c q2 p2 p2l p2c w_3)
    else (Expo B w [q10, q3, q2] fun w_1 => 
     Hide [q10, q3, q2] (w_1.alloc (.cells ⟨[.int .i64 (IntKind.wrap .i64 (i9 + 1))]⟩ 3)) fun w_2 => 
     RunK Try.prog (Builtin.append_ #[42, 42] 42 ⟨[.slice next12 next12l next12c, .slice (some ⟨w_1.heap.size, 0, none⟩) 1 1]⟩) B w_2 [q10, q3, q2] fun v w_3 => 
     ∃ (A69 : Option Addr) (A69l A69c : Nat), v = .slice A69 A69l A69c ∧
     V120.b4 B R L1 L2 d6 d6l d6c more8 i9 n11 A69 A69l A69c q3 f3 f3_1 f3_2 f3_3 f3_3l f3_3c q2 p2 p2l p2c w_3)))
def V120.l2 (B : Nat) (R : Value → World → Prop) (L1 : Option Addr → Nat → Nat → Bool → Nat → Int → Int → Int → Option Addr → Nat → Nat → Nat → Option Addr → Nat → Nat → World → Prop) : Nat → Option Addr → Nat → Nat → Bool → Int → Nat → Int → Int → Int → Option Addr → Nat → Nat → Nat → Option Addr → Nat → Nat → World → Prop
  | 0 => fun _ _ _ _ _ _ _ _ _ _ _ _ _ _ _ _ _ => False
  | k + 1 => fun d6 d6l d6c more8 i9 q3 f3 f3_1 f3_2 f3_3 f3_3l f3_3c q2 p2 p2l p2c w =>
    if (decide (i9 < (d6l : Int))) = true
    then (∃ p37 : Addr, d6 = some p37 ∧ (0 : Int) ≤ i9 ∧ i9 < (d6l : Int) ∧
    ∃ x38 : Int, w.cell? (p37.add i9.toNat) = some (.int .i64 x38) ∧
    if (decide (x38 < 0)) = true
     then ((V120.l2 B R L1 k) d6 d6l d6c more8 (IntKind.wrap .i64 (i9 + 1)) q3 f3 f3_1 f3_2 f3_3 f3_3l f3_3c q2 p2 p2l p2c w)
     else (∃ p43 : Addr, f3_3 = some p43 ∧ (0 : Int) ≤ i9 ∧ i9 < (f3_3l : Int) ∧
     ∃ x44 : Int, w.cell? ((p43.add (i9.toNat * 3)).add 0) = some (.int .i64 x44) ∧
     ∃ x44_1 : Int, w.cell? ((p43.add (i9.toNat * 3)).add 1) = some (.int .i64 x44_1) ∧
     ∃ x44_2 : Int, w.cell? ((p43.add (i9.toNat * 3)).add 2) = some (.int .i64 x44_2) ∧
     ∀ q10 : Nat, w.heap.size ≤ q10 →
     ∃ p47 : Addr, d6 = some p47 ∧ (0 : Int) ≤ i9 ∧ i9 < (d6l : Int) ∧
     ∃ x48 : Int, w.cell? (p47.add i9.toNat) = some (.int .i64 x48) ∧
     CallK Try.prog 29 [.agg ⟨[.slice p2 p2l p2c]⟩, .agg ⟨[.int .i64 x44, .int .i64 x44_1, .int .i64 x44_2]⟩] B w [q10, q3, q2] fun v w_1 => 
      ∃ x51 : Int, v = .int .i64 x51 ∧ w_1.cell? (p47.add i9.toNat) = some (.int .i64 x48) ∧
      if (decide (IntKind.wrap .i64 (x48 - x51) < 0)) = true
      then (Ret B w_1 (R (.tuple ⟨[.slice none 0 0, .int .i64 i9]⟩)))
      else (CallK Try.prog 31 [.agg ⟨[.int .i64 x44, .int .i64 x44_1, .int .i64 x44_2]⟩] B w_1 [q10, q3, q2] fun v_1 w_2 => 
       ∃ x58 : Int, v_1 = .int .i64 x58 ∧
       if (decide (IntKind.wrap .i64 (IntKind.wrap .i64 (x48 - x51) + x58) > 8)) = true
       then (Ret B w_2 (R (.tuple ⟨[.slice none 0 0, .int .i64 i9]⟩)))
       else (if (x44 == 18) = true
        then (V120.b3 B R L1 (V120.l2 B R L1 k) d6 d6l d6c more8 i9 (IntKind.wrap .i64 (IntKind.wrap .i64 (x48 - x51) + x58)) none 0 0 x44 (x44 == 18) q10 x44 x44_1 x44_2 q3 f3 f3_1 f3_2 f3_3 f3_3l f3_3c q2 p2 p2l p2c w_2)
        else (V120.b3 B R L1 (V120.l2 B R L1 k) d6 d6l d6c more8 i9 (IntKind.wrap .i64 (IntKind.wrap .i64 (x48 - x51) + x58)) none 0 0 x44 (x44 == 20) q10 x44 x44_1 x44_2 q3 f3 f3_1 f3_2 f3_3 f3_3l f3_3c q2 p2 p2l p2c w_2)))))
    else (L1 d6 d6l d6c more8 q3 f3 f3_1 f3_2 f3_3 f3_3l f3_3c q2 p2 p2l p2c w)
def V120.l1 (B : Nat) (R : Value → World → Prop) : Nat → Option Addr → Nat → Nat → Bool → Nat → Int → Int → Int → Option Addr → Nat → Nat → Nat → Option Addr → Nat → Nat → World → Prop
  | 0 => fun _ _ _ _ _ _ _ _ _ _ _ _ _ _ _ _ => False
  | k + 1 => fun d6 d6l d6c more8 q3 f3 f3_1 f3_2 f3_3 f3_3l f3_3c q2 p2 p2l p2c w =>
    if more8 = true
    then (∃ k_1, V120.l2 B R (V120.l1 B R k) k_1 d6 d6l d6c false 0 q3 f3 f3_1 f3_2 f3_3 f3_3l f3_3c q2 p2 p2l p2c w)
    else (Ret B w (R (.tuple ⟨[.slice d6 d6l d6c, .int .i64 (-1)]⟩)))
def V120.l0 (B : Nat) (R : Value → World → Prop) : Nat → Option Addr → Nat → Nat → Int → Nat → Int → Int → Int → Option Addr → Nat → Nat → Nat → Option Addr → Nat → Nat → World → Prop
  | 0 => fun _ _ _ _ _ _ _ _ _ _ _ _ _ _ _ _ => False
  | k + 1 => fun d6 d6l d6c i7 q3 f3 f3_1 f3_2 f3_3 f3_3l f3_3c q2 p2 p2l p2c w =>
    if (decide (i7 < (d6l : Int))) = true
    then (∃ p27 : Addr, d6 = some p27 ∧ (0 : Int) ≤ i7 ∧ i7 < (d6l : Int) ∧
    (∃ u, w.cell? ((p27.add i7.toNat).add 0) = some u) ∧ w.frozen? ((p27.add i7.toNat).add 0) = false ∧
    let w_1 := w.setCell ((p27.add i7.toNat).add 0) (.int .i64 (-1));
    (V120.l0 B R k) d6 d6l d6c (IntKind.wrap .i64 (i7 + 1)) q3 f3 f3_1 f3_2 f3_3 f3_3l f3_3c q2 p2 p2l p2c w_1)
    else (∃ k_1, V120.l1 B R k_1 d6 d6l d6c true q3 f3 f3_1 f3_2 f3_3 f3_3l f3_3c q2 p2 p2l p2c w)
def V120.vc (B : Nat) (R : Value → World → Prop) (p0 : Option Addr) (p0l p0c : Nat) (f1 f1_1 f1_2 : Int) (f1_3 : Option Addr) (f1_3l f1_3c : Nat) (w : World) : Prop :=
  ∀ q2 : Nat, w.heap.size ≤ q2 →
∀ q3 : Nat, w.heap.size ≤ q3 →
RunK Try.prog (Instr.makeSlice 42 (.int .i64 (f1_3l : Int)) (.int .i64 (f1_3l : Int))) B w [q3, q2] fun v w_1 => 
  ∃ (A18 : Option Addr) (A18l A18c : Nat), v = .slice A18 A18l A18c ∧
  ∃ k_1, V120.l0 B R k_1 A18 A18l A18c 1 q3 f1 f1_1 f1_2 f1_3 f1_3l f1_3c q2 p0 p0l p0c w_1
noncomputable def V120.cfg (B : Nat) : Cfg := ⟨Try.prog, ⟨129, B⟩, [], hasN [29, 31], hasN []⟩
noncomputable def V120.code : Code := (Try.f120.body).getD .skip
noncomputable def V120.cuts (B : Nat) (R : Value → World → Prop) : Nat → Cut := nthC [⟨[(6, .one (.slice)), (7, .one (.int .i64))], [(3, 29, [.int .i64, .int .i64, .int .i64, .slice]), (2, 24, [.slice])], fun fs vs bs w => V120.l0 B R (nthN fs 0) (slA (nthV vs 0)) (slL (nthV vs 0)) (slC (nthV vs 0)) (iV (nthV vs 1)) (nthB bs 0).blk (iV (nthV (nthB bs 0).cells 0)) (iV (nthV (nthB bs 0).cells 1)) (iV (nthV (nthB bs 0).cells 2)) (slA (nthV (nthB bs 0).cells 3)) (slL (nthV (nthB bs 0).cells 3)) (slC (nthV (nthB bs 0).cells 3)) (nthB bs 1).blk (slA (nthV (nthB bs 1).cells 0)) (slL (nthV (nthB bs 1).cells 0)) (slC (nthV (nthB bs 1).cells 0)) w⟩,
  ⟨[(6, .one (.slice)), (8, .one (.bool))], [(3, 29, [.int .i64, .int .i64, .int .i64, .slice]), (2, 24, [.slice])], fun fs vs bs w => V120.l1 B R (nthN fs 0) (slA (nthV vs 0)) (slL (nthV vs 0)) (slC (nthV vs 0)) (bV (nthV vs 1)) (nthB bs 0).blk (iV (nthV (nthB bs 0).cells 0)) (iV (nthV (nthB bs 0).cells 1)) (iV (nthV (nthB bs 0).cells 2)) (slA (nthV (nthB bs 0).cells 3)) (slL (nthV (nthB bs 0).cells 3)) (slC (nthV (nthB bs 0).cells 3)) (nthB bs 1).blk (slA (nthV (nthB bs 1).cells 0)) (slL (nthV (nthB bs 1).cells 0)) (slC (nthV (nthB bs 1).cells 0)) w⟩,
  ⟨[(6, .one (.slice)), (8, .one (.bool)), (9, .one (.int .i64))], [(3, 29, [.int .i64, .int .i64, .int .i64, .slice]), (2, 24, [.slice])], fun fs vs bs w => V120.l2 B R (V120.l1 B R (nthN fs 1)) (nthN fs 0) (slA (nthV vs 0)) (slL (nthV vs 0)) (slC (nthV vs 0)) (bV (nthV vs 1)) (iV (nthV vs 2)) (nthB bs 0).blk (iV (nthV (nthB bs 0).cells 0)) (iV (nthV (nthB bs 0).cells 1)) (iV (nthV (nthB bs 0).cells 2)) (slA (nthV (nthB bs 0).cells 3)) (slL (nthV (nthB bs 0).cells 3)) (slC (nthV (nthB bs 0).cells 3)) (nthB bs 1).blk (slA (nthV (nthB bs 1).cells 0)) (slL (nthV (nthB bs 1).cells 0)) (slC (nthV (nthB bs 1).cells 0)) w⟩,
  ⟨[(6, .one (.slice)), (8, .one (.bool)), (9, .one (.int .i64)), (11, .one (.int .i64)), (12, .one (.slice)), (64, .one (.int .i64)), (70, .one (.bool))], [(10, 26, [.int .i64, .int .i64, .int .i64]), (3, 29, [.int .i64, .int .i64, .int .i64, .slice]), (2, 24, [.slice])], fun fs vs bs w => V120.b3 B R (V120.l1 B R (nthN fs 1)) (V120.l2 B R (V120.l1 B R (nthN fs 1)) (nthN fs 0)) (slA (nthV vs 0)) (slL (nthV vs 0)) (slC (nthV vs 0)) (bV (nthV vs 1)) (iV (nthV vs 2)) (iV (nthV vs 3)) (slA (nthV vs 4)) (slL (nthV vs 4)) (slC (nthV vs 4)) (iV (nthV vs 5)) (bV (nthV vs 6)) (nthB bs 0).blk (iV (nthV (nthB bs 0).cells 0)) (iV (nthV (nthB bs 0).cells 1)) (iV (nthV (nthB bs 0).cells 2)) (nthB bs 1).blk (iV (nthV (nthB bs 1).cells 0)) (iV (nthV (nthB bs 1).cells 1)) (iV (nthV (nthB bs 1).cells 2)) (slA (nthV (nthB bs 1).cells 3)) (slL (nthV (nthB bs 1).cells 3)) (slC (nthV (nthB bs 1).cells 3)) (nthB bs 2).blk (slA (nthV (nthB bs 2).cells 0)) (slL (nthV (nthB bs 2).cells 0)) (slC (nthV (nthB bs 2).cells 0)) w⟩,
  ⟨[(6, .one (.slice)), (8, .one (.bool)), (9, .one (.int .i64)), (11, .one (.int .i64)), (12, .one (.slice))], [(3, 29, [.int .i64, .int .i64, .int .i64, .slice]), (2, 24, [.slice])], fun fs vs bs w => V120.b4 B R (V120.l1 B R (nthN fs 1)) (V120.l2 B R (V120.l1 B R (nthN fs 1)) (nthN fs 0)) (slA (nthV vs 0)) (slL (nthV vs 0)) (slC (nthV vs 0)) (bV (nthV vs 1)) (iV (nthV vs 2)) (iV (nthV vs 3)) (slA (nthV vs 4)) (slL (nthV vs 4)) (slC (nthV vs 4)) (nthB bs 0).blk (iV (nthV (nthB bs 0).cells 0)) (iV (nthV (nthB bs 0).cells 1)) (iV (nthV (nthB bs 0).cells 2)) (slA (nthV (nthB bs 0).cells 3)) (slL (nthV (nthB bs 0).cells 3)) (slC (nthV (nthB bs 0).cells 3)) (nthB bs 1).blk (slA (nthV (nthB bs 1).cells 0)) (slL (nthV (nthB bs 1).cells 0)) (slC (nthV (nthB bs 1).cells 0)) w⟩,
  ⟨[(6, .one (.slice)), (8, .one (.bool)), (9, .one (.int .i64)), (11, .one (.int .i64)), (12, .one (.slice)), (13, .one (.int .i64))], [(3, 29, [.int .i64, .int .i64, .int .i64, .slice]), (2, 24, [.slice])], fun fs vs bs w => V120.l5 B R (V120.l1 B R (nthN fs 2)) (V120.l2 B R (V120.l1 B R (nthN fs 2)) (nthN fs 1)) (nthN fs 0) (slA (nthV vs 0)) (slL (nthV vs 0)) (slC (nthV vs 0)) (bV (nthV vs 1)) (iV (nthV vs 2)) (iV (nthV vs 3)) (slA (nthV vs 4)) (slL (nthV vs 4)) (slC (nthV vs 4)) (iV (nthV vs 5)) (nthB bs 0).blk (iV (nthV (nthB bs 0).cells 0)) (iV (nthV (nthB bs 0).cells 1)) (iV (nthV (nthB bs 0).cells 2)) (slA (nthV (nthB bs 0).cells 3)) (slL (nthV (nthB bs 0).cells 3)) (slC (nthV (nthB bs 0).cells 3)) (nthB bs 1).blk (slA (nthV (nthB bs 1).cells 0)) (slL (nthV (nthB bs 1).cells 0)) (slC (nthV (nthB bs 1).cells 0)) w⟩,
  ⟨[(6, .one (.slice)), (8, .one (.bool)), (9, .one (.int .i64)), (11, .one (.int .i64)), (12, .one (.slice)), (13, .one (.int .i64)), (14, .one (.int .i64))], [(3, 29, [.int .i64, .int .i64, .int .i64, .slice]), (2, 24, [.slice])], fun fs vs bs w => V120.b6 B R (V120.l1 B R (nthN fs 2)) (V120.l2 B R (V120.l1 B R (nthN fs 2)) (nthN fs 1)) (V120.l5 B R (V120.l1 B R (nthN fs 2)) (V120.l2 B R (V120.l1 B R (nthN fs 2)) (nthN fs 1)) (nthN fs 0)) (slA (nthV vs 0)) (slL (nthV vs 0)) (slC (nthV vs 0)) (bV (nthV vs 1)) (iV (nthV vs 2)) (iV (nthV vs 3)) (slA (nthV vs 4)) (slL (nthV vs 4)) (slC (nthV vs 4)) (iV (nthV vs 5)) (iV (nthV vs 6)) (nthB bs 0).blk (iV (nthV (nthB bs 0).cells 0)) (iV (nthV (nthB bs 0).cells 1)) (iV (nthV (nthB bs 0).cells 2)) (slA (nthV (nthB bs 0).cells 3)) (slL (nthV (nthB bs 0).cells 3)) (slC (nthV (nthB bs 0).cells 3)) (nthB bs 1).blk (slA (nthV (nthB bs 1).cells 0)) (slL (nthV (nthB bs 1).cells 0)) (slC (nthV (nthB bs 1).cells 0)) w⟩]
noncomputable def V120.h : H := .s (.z) (.s (.z) (.s (.s (.z) (.b (.l 0 (.s (.s (.z) (.c (.z) (.z))) (.s (.b (.z)) (.z)))))) (.s (.s (.z) (.b (.l 1 (.s (.s (.z) (.c (.z) (.z))) (.b (.s (.z) (.s (.z) (.b (.l 2 (.s (.s (.z) (.c (.z) (.z))) (.s (.b (.s (.s (.z) (.c (.z) (.z))) (.s (.z) (.s (.r [[0, 1, 2, 3, 4, 5, 6, 7, 8]]) (.s (.s (.z) (.c (.s (.z) (.z)) (.z))) (.s (.z) (.s (.s (.z) (.c (.s (.z) (.z)) (.z))) (.s (.z) (.cut 4 (.s (.z) (.b (.cut 3 (.s (.z) (.c (.z) (.z))) (.c (.z) (.s (.z) (.c (.z) (.s (.z) (.c (.z) (.z))))))))) (.s (.z) (.b (.l 5 (.s (.s (.z) (.c (.z) (.z))) (.s (.b (.s (.z) (.cut 6 (.s (.z) (.c (.s (.z) (.z)) (.z))) (.s (.z) (.c (.s (.z) (.z)) (.z)))))) (.z))))))))))))))) (.z)))))))))))) (.s (.z) (.z)))))
theorem V120.vc_eq (B : Nat) (R : Value → World → Prop) (p0 : Option Addr) (p0l p0c : Nat) (f1 f1_1 f1_2 : Int) (f1_3 : Option Addr) (f1_3l f1_3c : Nat) (w : World) : wpf (V120.cfg B) (V120.cuts B R) V120.code V120.h [] (postOf Try.prog B (Try.f120.results.toList) R) (argE 0 [.agg ⟨[.slice p0 p0l p0c]⟩, .agg ⟨[.int .i64 f1, .int .i64 f1_1, .int .i64 f1_2, .slice f1_3 f1_3l f1_3c]⟩]) [] w = V120.vc B R p0 p0l p0c f1 f1_1 f1_2 f1_3 f1_3l f1_3c w := by kernel_rfl
theorem V120.obl (B : Nat) (R : Value → World → Prop) : oblP (V120.cfg B) (V120.cuts B R) V120.code V120.h [] (postOf Try.prog B (Try.f120.results.toList) R) := by
  have e : oblP (V120.cfg B) (V120.cuts B R) V120.code V120.h [] (postOf Try.prog B (Try.f120.results.toList) R) = (True ∧ (True ∧ ((True ∧ ((∀ (d6 : Option Addr) (d6l d6c : Nat) (i7 : Int) (q3 : Nat) (f3 f3_1 f3_2 : Int) (f3_3 : Option Addr) (f3_3l f3_3c q2 : Nat) (p2 : Option Addr) (p2l p2c : Nat) (w : World), ¬ V120.l0 B R 0 d6 d6l d6c i7 q3 f3 f3_1 f3_2 f3_3 f3_3l f3_3c q2 p2 p2l p2c w) ∧ (∀ k0, ∀ (d6 : Option Addr) (d6l d6c : Nat) (i7 : Int) (q3 : Nat) (f3 f3_1 f3_2 : Int) (f3_3 : Option Addr) (f3_3l f3_3c q2 : Nat) (p2 : Option Addr) (p2l p2c : Nat) (w : World), V120.l0 B R (k0 + 1) d6 d6l d6c i7 q3 f3 f3_1 f3_2 f3_3 f3_3l f3_3c q2 p2 p2l p2c w → V120.l0 B R (k0 + 1) d6 d6l d6c i7 q3 f3 f3_1 f3_2 f3_3 f3_3l f3_3c q2 p2 p2l p2c w) ∧ ∀ k0 : Nat, ((True ∧ (True ∧ True)) ∧ (True ∧ True)))) ∧ ((True ∧ ((∀ (d6 : Option Addr) (d6l d6c : Nat) (more8 : Bool) (q3 : Nat) (f3 f3_1 f3_2 : Int) (f3_3 : Option Addr) (f3_3l f3_3c q2 : Nat) (p2 : Option Addr) (p2l p2c : Nat) (w : World), ¬ V120.l1 B R 0 d6 d6l d6c more8 q3 f3 f3_1 f3_2 f3_3 f3_3l f3_3c q2 p2 p2l p2c w) ∧ (∀ k1, ∀ (d6 : Option Addr) (d6l d6c : Nat) (more8 : Bool) (q3 : Nat) (f3 f3_1 f3_2 : Int) (f3_3 : Option Addr) (f3_3l f3_3c q2 : Nat) (p2 : Option Addr) (p2l p2c : Nat) (w : World), V120.l1 B R (k1 + 1) d6 d6l d6c more8 q3 f3 f3_1 f3_2 f3_3 f3_3l f3_3c q2 p2 p2l p2c w → V120.l1 B R (k1 + 1) d6 d6l d6c more8 q3 f3 f3_1 f3_2 f3_3 f3_3l f3_3c q2 p2 p2l p2c w) ∧ ∀ k1 : Nat, ((True ∧ (True ∧ True)) ∧ (True ∧ (True ∧ ((∀ (d6 : Option Addr) (d6l d6c : Nat) (more8 : Bool) (i9 : Int) (q3 : Nat) (f3 f3_1 f3_2 : Int) (f3_3 : Option Addr) (f3_3l f3_3c q2 : Nat) (p2 : Option Addr) (p2l p2c : Nat) (w : World), ¬ V120.l2 B R (V120.l1 B R k1) 0 d6 d6l d6c more8 i9 q3 f3 f3_1 f3_2 f3_3 f3_3l f3_3c q2 p2 p2l p2c w) ∧ (∀ k2, ∀ (d6 : Option Addr) (d6l d6c : Nat) (more8 : Bool) (i9 : Int) (q3 : Nat) (f3 f3_1 f3_2 : Int) (f3_3 : Option Addr) (f3_3l f3_3c q2 : Nat) (p2 : Option Addr) (p2l p2c : Nat) (w : World), V120.l2 B R (V120.l1 B R k1) (k2 + 1) d6 d6l d6c more8 i9 q3 f3 f3_1 f3_2 f3_3 f3_3l f3_3c q2 p2 p2l p2c w → V120.l2 B R (V120.l1 B R k1) (k2 + 1) d6 d6l d6c more8 i9 q3 f3 f3_1 f3_2 f3_3 f3_3l f3_3c q2 p2 p2l p2c w) ∧ ∀ k2 : Nat, ((True ∧ (True ∧ True)) ∧ (((True ∧ (True ∧ True)) ∧ (True ∧ ((true = true) ∧ ((True ∧ ((True ∧ True) ∧ True)) ∧ (True ∧ ((True ∧ ((True ∧ True) ∧ True)) ∧ (True ∧ ((True ∧ ((True ∧ (True ∧ True)) ∧ (∀ (d6 : Option Addr) (d6l d6c : Nat) (more8 : Bool) (i9 n11 : Int) (next12 : Option Addr) (next12l next12c : Nat) (x64 : Int) (b70 : Bool) (q10 : Nat) (x10 x10_1 x10_2 : Int) (q3 : Nat) (f3 f3_1 f3_2 : Int) (f3_3 : Option Addr) (f3_3l f3_3c q2 : Nat) (p2 : Option Addr) (p2l p2c : Nat) (w : World), V120.b3 B R (V120.l1 B R k1) (V120.l2 B R (V120.l1 B R k1) k2) d6 d6l d6c more8 i9 n11 next12 next12l next12c x64 b70 q10 x10 x10_1 x10_2 q3 f3 f3_1 f3_2 f3_3 f3_3l f3_3c q2 p2 p2l p2c w → V120.b3 B R (V120.l1 B R k1) (V120.l2 B R (V120.l1 B R k1) k2) d6 d6l d6c more8 i9 n11 next12 next12l next12c x64 b70 q10 x10 x10_1 x10_2 q3 f3 f3_1 f3_2 f3_3 f3_3l f3_3c q2 p2 p2l p2c w) ∧ (True ∧ (True ∧ (True ∧ (True ∧ (True ∧ True))))))) ∧ (∀ (d6 : Option Addr) (d6l d6c : Nat) (more8 : Bool) (i9 n11 : Int) (next12 : Option Addr) (next12l next12c q3 : Nat) (f3 f3_1 f3_2 : Int) (f3_3 : Option Addr) (f3_3l f3_3c q2 : Nat) (p2 : Option Addr) (p2l p2c : Nat) (w : World), V120.b4 B R (V120.l1 B R k1) (V120.l2 B R (V120.l1 B R k1) k2) d6 d6l d6c more8 i9 n11 next12 next12l next12c q3 f3 f3_1 f3_2 f3_3 f3_3l f3_3c q2 p2 p2l p2c w → V120.b4 B R (V120.l1 B R k1) (V120.l2 B R (V120.l1 B R k1) k2) d6 d6l d6c more8 i9 n11 next12 next12l next12c q3 f3 f3_1 f3_2 f3_3 f3_3l f3_3c q2 p2 p2l p2c w) ∧ (True ∧ ((∀ (d6 : Option Addr) (d6l d6c : Nat) (more8 : Bool) (i9 n11 : Int) (next12 : Option Addr) (next12l next12c : Nat) (k13 : Int) (q3 : Nat) (f3 f3_1 f3_2 : Int) (f3_3 : Option Addr) (f3_3l f3_3c q2 : Nat) (p2 : Option Addr) (p2l p2c : Nat) (w : World), ¬ V120.l5 B R (V120.l1 B R k1) (V120.l2 B R (V120.l1 B R k1) k2) 0 d6 d6l d6c more8 i9 n11 next12 next12l next12c k13 q3 f3 f3_1 f3_2 f3_3 f3_3l f3_3c q2 p2 p2l p2c w) ∧ (∀ k5, ∀ (d6 : Option Addr) (d6l d6c : Nat) (more8 : Bool) (i9 n11 : Int) (next12 : Option Addr) (next12l next12c : Nat) (k13 : Int) (q3 : Nat) (f3 f3_1 f3_2 : Int) (f3_3 : Option Addr) (f3_3l f3_3c q2 : Nat) (p2 : Option Addr) (p2l p2c : Nat) (w : World), V120.l5 B R (V120.l1 B R k1) (V120.l2 B R (V120.l1 B R k1) k2) (k5 + 1) d6 d6l d6c more8 i9 n11 next12 next12l next12c k13 q3 f3 f3_1 f3_2 f3_3 f3_3l f3_3c q2 p2 p2l p2c w → V120.l5 B R (V120.l1 B R k1) (V120.l2 B R (V120.l1 B R k1) k2) (k5 + 1) d6 d6l d6c more8 i9 n11 next12 next12l next12c k13 q3 f3 f3_1 f3_2 f3_3 f3_3l f3_3c q2 p2 p2l p2c w) ∧ ∀ k5 : Nat, ((True ∧ (True ∧ True)) ∧ ((True ∧ ((True ∧ ((True ∧ True) ∧ True)) ∧ (∀ (d6 : Option Addr) (d6l d6c : Nat) (more8 : Bool) (i9 n11 : Int) (next12 : Option Addr) (next12l next12c : Nat) (k13 j14 : Int) (q3 : Nat) (f3 f3_1 f3_2 : Int) (f3_3 : Option Addr) (f3_3l f3_3c q2 : Nat) (p2 : Option Addr) (p2l p2c : Nat) (w : World), V120.b6 B R (V120.l1 B R k1) (V120.l2 B R (V120.l1 B R k1) k2) (V120.l5 B R (V120.l1 B R k1) (V120.l2 B R (V120.l1 B R k1) k2) k5) d6 d6l d6c more8 i9 n11 next12 next12l next12c k13 j14 q3 f3 f3_1 f3_2 f3_3 f3_3l f3_3c q2 p2 p2l p2c w → V120.b6 B R (V120.l1 B R k1) (V120.l2 B R (V120.l1 B R k1) k2) (V120.l5 B R (V120.l1 B R k1) (V120.l2 B R (V120.l1 B R k1) k2) k5) d6 d6l d6c more8 i9 n11 next12 next12l next12c k13 j14 q3 f3 f3_1 f3_2 f3_3 f3_3l f3_3c q2 p2 p2l p2c w) ∧ (True ∧ ((True ∧ True) ∧ True)))) ∧ True)))))))))))) ∧ True)))))))) ∧ (True ∧ True))))) := by kernel_rfl
  rw [e]
  exact ⟨trivial, ⟨trivial, ⟨⟨trivial, ⟨fun d6 d6l d6c i7 q3 f3 f3_1 f3_2 f3_3 f3_3l f3_3c q2 p2 p2l p2c w h => h, fun _ d6 d6l d6c i7 q3 f3 f3_1 f3_2 f3_3 f3_3l f3_3c q2 p2 p2l p2c w h => h, fun k0 => ⟨⟨trivial, ⟨trivial, trivial⟩⟩, ⟨trivial, trivial⟩⟩⟩⟩, ⟨⟨trivial, ⟨fun d6 d6l d6c more8 q3 f3 f3_1 f3_2 f3_3 f3_3l f3_3c q2 p2 p2l p2c w h => h, fun _ d6 d6l d6c more8 q3 f3 f3_1 f3_2 f3_3 f3_3l f3_3c q2 p2 p2l p2c w h => h, fun k1 => ⟨⟨trivial, ⟨trivial, trivial⟩⟩, ⟨trivial, ⟨trivial, ⟨fun d6 d6l d6c more8 i9 q3 f3 f3_1 f3_2 f3_3 f3_3l f3_3c q2 p2 p2l p2c w h => h, fun _ d6 d6l d6c more8 i9 q3 f3 f3_1 f3_2 f3_3 f3_3l f3_3c q2 p2 p2l p2c w h => h, fun k2 => ⟨⟨trivial, ⟨trivial, trivial⟩⟩, ⟨⟨⟨trivial, ⟨trivial, trivial⟩⟩, ⟨trivial, ⟨rfl, ⟨⟨trivial, ⟨⟨trivial, trivial⟩, trivial⟩⟩, ⟨trivial, ⟨⟨trivial, ⟨⟨trivial, trivial⟩, trivial⟩⟩, ⟨trivial, ⟨⟨trivial, ⟨⟨trivial, ⟨trivial, trivial⟩⟩, fun d6 d6l d6c more8 i9 n11 next12 next12l next12c x64 b70 q10 x10 x10_1 x10_2 q3 f3 f3_1 f3_2 f3_3 f3_3l f3_3c q2 p2 p2l p2c w h => h, ⟨trivial, ⟨trivial, ⟨trivial, ⟨trivial, ⟨trivial, trivial⟩⟩⟩⟩⟩⟩⟩, fun d6 d6l d6c more8 i9 n11 next12 next12l next12c q3 f3 f3_1 f3_2 f3_3 f3_3l f3_3c q2 p2 p2l p2c w h => h, ⟨trivial, ⟨fun d6 d6l d6c more8 i9 n11 next12 next12l next12c k13 q3 f3 f3_1 f3_2 f3_3 f3_3l f3_3c q2 p2 p2l p2c w h => h, fun _ d6 d6l d6c more8 i9 n11 next12 next12l next12c k13 q3 f3 f3_1 f3_2 f3_3 f3_3l f3_3c q2 p2 p2l p2c w h => h, fun k5 => ⟨⟨trivial, ⟨trivial, trivial⟩⟩, ⟨⟨trivial, ⟨⟨trivial, ⟨⟨trivial, trivial⟩, trivial⟩⟩, fun d6 d6l d6c more8 i9 n11 next12 next12l next12c k13 j14 q3 f3 f3_1 f3_2 f3_3 f3_3l f3_3c q2 p2 p2l p2c w h => h, ⟨trivial, ⟨⟨trivial, trivial⟩, trivial⟩⟩⟩⟩, trivial⟩⟩⟩⟩⟩⟩⟩⟩⟩⟩⟩⟩, trivial⟩⟩⟩⟩⟩⟩⟩⟩, ⟨trivial, trivial⟩⟩⟩⟩⟩
theorem V120.cfgOk (B : Nat) : CfgOk (V120.cfg B) := cfgOk_of (by kernel_rfl) (by kernel_rfl)
theorem V120.sound {p0 : Option Addr} {p0l p0c : Nat} {f1 f1_1 f1_2 : Int} {f1_3 : Option Addr} {f1_3l f1_3c : Nat} {w : World} {R : Value → World → Prop} (h : V120.vc w.heap.size R p0 p0l p0c f1 f1_1 f1_2 f1_3 f1_3l f1_3c w) : Calls Try.prog 120 ⟨[.agg ⟨[.slice p0 p0l p0c]⟩, .agg ⟨[.int .i64 f1, .int .i64 f1_1, .int .i64 f1_2, .slice f1_3 f1_3l f1_3c]⟩]⟩ w fun e w' => ∃ v, e = .returned v ∧ R v w' :=
  calls_wpfP (c := V120.cfg w.heap.size) (fn := Try.f120) (x := V120.code) (V120.cuts w.heap.size R) V120.h (V120.cfgOk _) mixed Try.func120 (by kernel_rfl) (by kernel_rfl) (by kernel_rfl) rfl (V120.obl _ _) ((V120.vc_eq _ _ p0 p0l p0c f1 f1_1 f1_2 f1_3 f1_3l f1_3c _).symm ▸ h)

/-! function 121 -/
def V121.vc (B : Nat) (R : Value → World → Prop) (a0 n1 : Int) (w : World) : Prop :=
  if (decide (a0 ≥ 0)) = true
  then (Ret B w (R (.bool (decide (a0 < n1)))))
  else (Ret B w (R (.bool false)))
noncomputable def V121.cfg (B : Nat) : Cfg := ⟨Try.prog, ⟨12, B⟩, [], hasN [], hasN []⟩
noncomputable def V121.code : Code := (Try.f121.body).getD .skip
noncomputable def V121.cuts (B : Nat) (R : Value → World → Prop) : Nat → Cut := nthC []
noncomputable def V121.h : H := .s (.z) (.s (.z) (.z))
theorem V121.vc_eq (B : Nat) (R : Value → World → Prop) (a0 n1 : Int) (w : World) : wpf (V121.cfg B) (V121.cuts B R) V121.code V121.h [] (postOf Try.prog B (Try.f121.results.toList) R) (argE 0 [.int .i64 a0, .int .i64 n1]) [] w = V121.vc B R a0 n1 w := by kernel_rfl
theorem V121.obl (B : Nat) (R : Value → World → Prop) : oblP (V121.cfg B) (V121.cuts B R) V121.code V121.h [] (postOf Try.prog B (Try.f121.results.toList) R) := by
  have e : oblP (V121.cfg B) (V121.cuts B R) V121.code V121.h [] (postOf Try.prog B (Try.f121.results.toList) R) = (True ∧ (True ∧ True)) := by kernel_rfl
  rw [e]
  exact ⟨trivial, ⟨trivial, trivial⟩⟩
theorem V121.cfgOk (B : Nat) : CfgOk (V121.cfg B) := cfgOk_of (by kernel_rfl) (by kernel_rfl)
theorem V121.sound {a0 n1 : Int} {w : World} {R : Value → World → Prop} (h : V121.vc w.heap.size R a0 n1 w) : Calls Try.prog 121 ⟨[.int .i64 a0, .int .i64 n1]⟩ w fun e w' => ∃ v, e = .returned v ∧ R v w' :=
  calls_wpfP (c := V121.cfg w.heap.size) (fn := Try.f121) (x := V121.code) (V121.cuts w.heap.size R) V121.h (V121.cfgOk _) mixed Try.func121 (by kernel_rfl) (by kernel_rfl) (by kernel_rfl) rfl (V121.obl _ _) ((V121.vc_eq _ _ a0 n1 _).symm ▸ h)

/-! function 122 -/
def V122.vc (B : Nat) (R : Value → World → Prop) (n0 end1 : Int) (w : World) : Prop :=
  if (decide (n0 ≥ 0)) = true
  then (Ret B w (R (.bool (decide (n0 < end1)))))
  else (Ret B w (R (.bool false)))
noncomputable def V122.cfg (B : Nat) : Cfg := ⟨Try.prog, ⟨12, B⟩, [], hasN [], hasN []⟩
noncomputable def V122.code : Code := (Try.f122.body).getD .skip
noncomputable def V122.cuts (B : Nat) (R : Value → World → Prop) : Nat → Cut := nthC []
noncomputable def V122.h : H := .s (.z) (.s (.z) (.z))
theorem V122.vc_eq (B : Nat) (R : Value → World → Prop) (n0 end1 : Int) (w : World) : wpf (V122.cfg B) (V122.cuts B R) V122.code V122.h [] (postOf Try.prog B (Try.f122.results.toList) R) (argE 0 [.int .i64 n0, .int .i64 end1]) [] w = V122.vc B R n0 end1 w := by kernel_rfl
theorem V122.obl (B : Nat) (R : Value → World → Prop) : oblP (V122.cfg B) (V122.cuts B R) V122.code V122.h [] (postOf Try.prog B (Try.f122.results.toList) R) := by
  have e : oblP (V122.cfg B) (V122.cuts B R) V122.code V122.h [] (postOf Try.prog B (Try.f122.results.toList) R) = (True ∧ (True ∧ True)) := by kernel_rfl
  rw [e]
  exact ⟨trivial, ⟨trivial, trivial⟩⟩
theorem V122.cfgOk (B : Nat) : CfgOk (V122.cfg B) := cfgOk_of (by kernel_rfl) (by kernel_rfl)
theorem V122.sound {n0 end1 : Int} {w : World} {R : Value → World → Prop} (h : V122.vc w.heap.size R n0 end1 w) : Calls Try.prog 122 ⟨[.int .i64 n0, .int .i64 end1]⟩ w fun e w' => ∃ v, e = .returned v ∧ R v w' :=
  calls_wpfP (c := V122.cfg w.heap.size) (fn := Try.f122) (x := V122.code) (V122.cuts w.heap.size R) V122.h (V122.cfgOk _) mixed Try.func122 (by kernel_rfl) (by kernel_rfl) (by kernel_rfl) rfl (V122.obl _ _) ((V122.vc_eq _ _ n0 end1 _).symm ▸ h)

/-! function 123 -/
def V123.b0 (B : Nat) (R : Value → World → Prop) (at0 x6 : Int) (b7 : Bool) (q3 : Nat) (i3 i3_1 i3_2 : Int) (w : World) : Prop :=
  if b7 = true
  then (Ret B w (R (.slice none 0 0)))
  else (if (x6 == 15) = true
   then (Expo B w [q3] fun w_1 => 
    Hide [q3] (w_1.alloc (.cells ⟨[.int .i64 i3_1]⟩ 3)) fun w_2 => 
    Ret B w_2 (R (.slice (some ⟨w_1.heap.size, 0, none⟩) 1 1)))
   else (if (x6 == 16) = true
    then (Expo B w [q3] fun w_1 => 
     Hide [q3] (w_1.alloc (.cells ⟨[.int .i64 i3_1, .int .i64 (IntKind.wrap .i64 (at0 + 1))]⟩ 3)) fun w_2 => 
     Ret B w_2 (R (.slice (some ⟨w_1.heap.size, 0, none⟩) 2 2)))
    else (Expo B w [q3] fun w_1 => 
     Hide [q3] (w_1.alloc (.cells ⟨[.int .i64 (IntKind.wrap .i64 (at0 + 1))]⟩ 3)) fun w_2 => 
     Ret B w_2 (R (.slice (some ⟨w_1.heap.size, 0, none⟩) 1 1)))))
def V123.vc (B : Nat) (R : Value → World → Prop) (at0 i1 i1_1 i1_2 : Int) (w : World) : Prop :=
  ∀ q3 : Nat, w.heap.size ≤ q3 →
if (i1 == 18) = true
  then (V123.b0 B R at0 i1 (i1 == 18) q3 i1 i1_1 i1_2 w)
  else (V123.b0 B R at0 i1 (i1 == 20) q3 i1 i1_1 i1_2 w)
noncomputable def V123.cfg (B : Nat) : Cfg := ⟨Try.prog, ⟨25, B⟩, [], hasN [], hasN []⟩
noncomputable def V123.code : Code := (Try.f123.body).getD .skip
noncomputable def V123.cuts (B : Nat) (R : Value → World → Prop) : Nat → Cut := nthC [⟨[(0, .one (.int .i64)), (6, .one (.int .i64)), (7, .one (.bool))], [(3, 26, [.int .i64, .int .i64, .int .i64])], fun fs vs bs w => V123.b0 B R (iV (nthV vs 0)) (iV (nthV vs 1)) (bV (nthV vs 2)) (nthB bs 0).blk (iV (nthV (nthB bs 0).cells 0)) (iV (nthV (nthB bs 0).cells 1)) (iV (nthV (nthB bs 0).cells 2)) w⟩]
noncomputable def V123.h : H := .s (.z) (.s (.s (.z) (.b (.cut 0 (.s (.z) (.c (.z) (.z))) (.c (.s (.z) (.z)) (.s (.z) (.c (.s (.z) (.z)) (.s (.z) (.c (.s (.z) (.z)) (.z))))))))) (.s (.z) (.z)))
theorem V123.vc_eq (B : Nat) (R : Value → World → Prop) (at0 i1 i1_1 i1_2 : Int) (w : World) : wpf (V123.cfg B) (V123.cuts B R) V123.code V123.h [] (postOf Try.prog B (Try.f123.results.toList) R) (argE 0 [.int .i64 at0, .agg ⟨[.int .i64 i1, .int .i64 i1_1, .int .i64 i1_2]⟩]) [] w = V123.vc B R at0 i1 i1_1 i1_2 w := by kernel_rfl
theorem V123.obl (B : Nat) (R : Value → World → Prop) : oblP (V123.cfg B) (V123.cuts B R) V123.code V123.h [] (postOf Try.prog B (Try.f123.results.toList) R) := by
  have e : oblP (V123.cfg B) (V123.cuts B R) V123.code V123.h [] (postOf Try.prog B (Try.f123.results.toList) R) = (True ∧ ((True ∧ ((True ∧ (True ∧ True)) ∧ (∀ (at0 x6 : Int) (b7 : Bool) (q3 : Nat) (i3 i3_1 i3_2 : Int) (w : World), V123.b0 B R at0 x6 b7 q3 i3 i3_1 i3_2 w → V123.b0 B R at0 x6 b7 q3 i3 i3_1 i3_2 w) ∧ ((True ∧ True) ∧ (True ∧ ((True ∧ True) ∧ (True ∧ ((True ∧ True) ∧ True))))))) ∧ (True ∧ True))) := by kernel_rfl
  rw [e]
  exact ⟨trivial, ⟨⟨trivial, ⟨⟨trivial, ⟨trivial, trivial⟩⟩, fun at0 x6 b7 q3 i3 i3_1 i3_2 w h => h, ⟨⟨trivial, trivial⟩, ⟨trivial, ⟨⟨trivial, trivial⟩, ⟨trivial, ⟨⟨trivial, trivial⟩, trivial⟩⟩⟩⟩⟩⟩⟩, ⟨trivial, trivial⟩⟩⟩
theorem V123.cfgOk (B : Nat) : CfgOk (V123.cfg B) := cfgOk_of (by kernel_rfl) (by kernel_rfl)
theorem V123.sound {at0 i1 i1_1 i1_2 : Int} {w : World} {R : Value → World → Prop} (h : V123.vc w.heap.size R at0 i1 i1_1 i1_2 w) : Calls Try.prog 123 ⟨[.int .i64 at0, .agg ⟨[.int .i64 i1, .int .i64 i1_1, .int .i64 i1_2]⟩]⟩ w fun e w' => ∃ v, e = .returned v ∧ R v w' :=
  calls_wpfP (c := V123.cfg w.heap.size) (fn := Try.f123) (x := V123.code) (V123.cuts w.heap.size R) V123.h (V123.cfgOk _) mixed Try.func123 (by kernel_rfl) (by kernel_rfl) (by kernel_rfl) rfl (V123.obl _ _) ((V123.vc_eq _ _ at0 i1 i1_1 i1_2 _).symm ▸ h)
end Go.Proofs.Ytlccbaemcfjdoaa
