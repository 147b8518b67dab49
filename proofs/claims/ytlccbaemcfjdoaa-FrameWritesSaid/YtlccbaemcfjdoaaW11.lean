/-
  What the engine makes of the loaded functions 11: conditions under which a call returns as told, and proofs of that.
  Conditions: none. Printed by a program of this project.
-/
import Derived.Test.YtlccbaemcfjdoaaWD
set_option linter.unusedVariables false
set_option maxRecDepth 100000
namespace Go.Proofs.Ytlccbaemcfjdoaa

/-! function 11 -/
def V11.b1 (B : Nat) (R : Value → World → Prop) (at3 below4 : Int) (a14 : Addr) (m15 : Option Addr) (m15l m15c q17 : Nat) (x17 x17_1 x17_2 : Int) (x17_3 : Bool) (x17_4 : Int) (x17_5 : Option Addr) (x17_5l x17_5c : Nat) (x17_6 : Option Addr) (x17_6l x17_6c : Nat) (x17_7 : Option Addr) (x17_7l x17_7c q13 : Nat) (p13 : Option Addr) (p13l p13c : Nat) (w : World) : Prop :=
  CallK Try.prog 52 [.pointer (some a14), .agg ⟨[.slice p13 p13l p13c]⟩, .int .i64 at3, .int .i64 below4, .agg ⟨[.int .i64 x17, .int .i64 x17_1, .int .i64 x17_2, .bool x17_3, .int .u64 x17_4, .slice x17_5 x17_5l x17_5c, .slice x17_6 x17_6l x17_6c, .slice x17_7 x17_7l x17_7c]⟩] B w [q17, q13] fun v w_1 => 
  ∃ x56 : Int, v = .int .i64 x56 ∧
  CallK Try.prog 53 [.slice m15 m15l m15c, .agg ⟨[.slice p13 p13l p13c]⟩, .int .i64 at3, .int .i64 below4, .agg ⟨[.int .i64 x17, .int .i64 x17_1, .int .i64 x17_2, .bool x17_3, .int .u64 x17_4, .slice x17_5 x17_5l x17_5c, .slice x17_6 x17_6l x17_6c, .slice x17_7 x17_7l x17_7c]⟩] B w_1 [q17, q13] fun v_1 w_2 => 
  ∃ (A63 : Option Addr) (A63l A63c : Nat) (x63 : Int), v_1 = .tuple ⟨[.slice A63 A63l A63c, .int .i64 x63]⟩ ∧
  CallK Try.prog 54 [.pointer (some a14), .agg ⟨[.slice p13 p13l p13c]⟩, .int .i64 at3] B w_2 [q17, q13] fun v_2 w_3 => 
  ∃ (x70 x70_1 x70_2 : Int) (b70 : Bool) (x70_3 : Int) (A70 : Option Addr) (A70l A70c : Nat) (A70_1 : Option Addr) (A70_1l A70_1c : Nat) (A70_2 : Option Addr) (A70_2l A70_2c : Nat) (x70_4 x70_5 : Int), v_2 = .tuple ⟨[.agg ⟨[.int .i64 x70, .int .i64 x70_1, .int .i64 x70_2, .bool b70, .int .u64 x70_3, .slice A70 A70l A70c, .slice A70_1 A70_1l A70_1c, .slice A70_2 A70_2l A70_2c]⟩, .int .i64 x70_4, .int .i64 x70_5]⟩ ∧
  ∀ q21 : Nat, w_3.heap.size ≤ q21 →
  CallK Try.prog 55 [.slice A63 A63l A63c, .agg ⟨[.slice p13 p13l p13c]⟩, .int .i64 at3] B w_3 [q21, q17, q13] fun v_3 w_4 => 
  ∃ (x78 x78_1 x78_2 : Int) (b78 : Bool) (x78_3 : Int) (A78 : Option Addr) (A78l A78c : Nat) (A78_1 : Option Addr) (A78_1l A78_1c : Nat) (A78_2 : Option Addr) (A78_2l A78_2c : Nat) (x78_4 x78_5 : Int), v_3 = .tuple ⟨[.agg ⟨[.int .i64 x78, .int .i64 x78_1, .int .i64 x78_2, .bool b78, .int .u64 x78_3, .slice A78 A78l A78c, .slice A78_1 A78_1l A78_1c, .slice A78_2 A78_2l A78_2c]⟩, .int .i64 x78_4, .int .i64 x78_5]⟩ ∧
  ∀ q24 : Nat, w_4.heap.size ≤ q24 →
  if (x56 == x63) = true
  then (CallK Try.prog 56 [.agg ⟨[.int .i64 x70, .int .i64 x70_1, .int .i64 x70_2, .bool b70, .int .u64 x70_3, .slice A70 A70l A70c, .slice A70_1 A70_1l A70_1c, .slice A70_2 A70_2l A70_2c]⟩, .agg ⟨[.int .i64 x78, .int .i64 x78_1, .int .i64 x78_2, .bool b78, .int .u64 x78_3, .slice A78 A78l A78c, .slice A78_1 A78_1l A78_1c, .slice A78_2 A78_2l A78_2c]⟩] B w_4 [q24, q21, q17, q13] fun v_4 w_5 => 
   ∃ b88 : Bool, v_4 = .bool b88 ∧
   if b88 = true
   then (if (x70_4 == x78_4) = true
    then (if (x70_5 == x78_5) = true
     then (CallK Try.prog 46 [.pointer (some a14), .slice A63 A63l A63c] B w_5 [q24, q21, q17, q13] fun v_5 w_6 => 
      ∃ b103 : Bool, v_5 = .bool b103 ∧
      if b103 = true
      then (CallK Try.prog 47 [] B w_6 [q24, q21, q17, q13] fun v_6 w_7 => 
       ∃ b106 : Bool, v_6 = .bool b106 ∧
       Ret B w_7 (R (.bool b106)))
      else (Ret B w_6 (R (.bool false))))
     else (Ret B w_5 (R (.bool false))))
    else (Ret B w_5 (R (.bool false))))
   else (Ret B w_5 (R (.bool false))))
  else (Ret B w_4 (R (.bool false)))
def V11.b0 (B : Nat) (R : Value → World → Prop) (fs1 : Option Addr) (fs1l fs1c : Nat) (at3 below4 more5 : Int) (a14 : Addr) (m15 : Option Addr) (m15l m15c q13 : Nat) (p13 : Option Addr) (p13l p13c : Nat) (w : World) : Prop :=
  Expo B w [q13] fun w_1 => 
  Hide [q13] (w_1.alloc (.cells ⟨[.slice fs1 fs1l fs1c]⟩ 70)) fun w_2 => 
  CallK Try.prog 48 [.pointer (some (⟨w_1.heap.size, 0, none⟩)), .agg ⟨[.slice p13 p13l p13c]⟩] B w_2 [q13] fun v w_3 => 
  ∃ (x41 x41_1 x41_2 : Int) (b41 : Bool) (x41_3 : Int) (A41 : Option Addr) (A41l A41c : Nat) (A41_1 : Option Addr) (A41_1l A41_1c : Nat) (A41_2 : Option Addr) (A41_2l A41_2c : Nat), v = .agg ⟨[.int .i64 x41, .int .i64 x41_1, .int .i64 x41_2, .bool b41, .int .u64 x41_3, .slice A41 A41l A41c, .slice A41_1 A41_1l A41_1c, .slice A41_2 A41_2l A41_2c]⟩ ∧
  ∀ q17 : Nat, w_3.heap.size ≤ q17 →
  if (decide (more5 > 240)) = true
  then ((10 : Int) ≠ 0 ∧
  RunK Try.prog (Builtin.append_ #[50, 3] 50 ⟨[.slice A41_2 A41_2l A41_2c, .int .i64 (Int.tmod (IntKind.wrap .i64 more5) 10)]⟩) B w_3 [q17, q13] fun v_1 w_4 => 
   ∃ (A49 : Option Addr) (A49l A49c : Nat), v_1 = .slice A49 A49l A49c ∧
   V11.b1 B R at3 below4 a14 m15 m15l m15c q17 x41 x41_1 x41_2 b41 x41_3 A41 A41l A41c A41_1 A41_1l A41_1c A49 A49l A49c q13 p13 p13l p13c w_4)
  else (V11.b1 B R at3 below4 a14 m15 m15l m15c q17 x41 x41_1 x41_2 b41 x41_3 A41 A41l A41c A41_1 A41_1l A41_1c A41_2 A41_2l A41_2c q13 p13 p13l p13c w_3)
def V11.vc (B : Nat) (R : Value → World → Prop) (ns0 : Option Addr) (ns0l ns0c : Nat) (fs1 : Option Addr) (fs1l fs1c : Nat) (ws2 : Option Addr) (ws2l ws2c : Nat) (at3 below4 more5 : Int) (w : World) : Prop :=
  CallK Try.prog 35 [.slice ns0 ns0l ns0c] B w [] fun v w_1 => 
  ∃ (A28 : Option Addr) (A28l A28c : Nat), v = .agg ⟨[.slice A28 A28l A28c]⟩ ∧
  ∀ q13 : Nat, w_1.heap.size ≤ q13 →
  CallK Try.prog 41 [.int .i64 2, .slice ws2 ws2l ws2c] B w_1 [q13] fun v_1 w_2 => 
  ∃ (op31 A31 : Option Addr) (A31l A31c : Nat), v_1 = .tuple ⟨[.pointer op31, .slice A31 A31l A31c]⟩ ∧
  caseP op31
  (False)
  (fun p31 => V11.b0 B R fs1 fs1l fs1c at3 below4 more5 p31 A31 A31l A31c q13 A28 A28l A28c w_2)
noncomputable def V11.cfg (B : Nat) : Cfg := ⟨Try.prog, ⟨108, B⟩, [38], hasN [35, 41, 46, 47, 48, 52, 53, 54, 55, 56], hasN []⟩
noncomputable def V11.code : Code := (Try.f11.body).getD .skip
noncomputable def V11.cuts (B : Nat) (R : Value → World → Prop) : Nat → Cut := nthC [⟨[(1, .one (.slice)), (3, .one (.int .i64)), (4, .one (.int .i64)), (5, .one (.int .u8)), (14, .one (.ptr)), (15, .one (.slice))], [(13, 24, [.slice])], fun fs vs bs w => V11.b0 B R (slA (nthV vs 0)) (slL (nthV vs 0)) (slC (nthV vs 0)) (iV (nthV vs 1)) (iV (nthV vs 2)) (iV (nthV vs 3)) (pV (nthV vs 4)) (slA (nthV vs 5)) (slL (nthV vs 5)) (slC (nthV vs 5)) (nthB bs 0).blk (slA (nthV (nthB bs 0).cells 0)) (slL (nthV (nthB bs 0).cells 0)) (slC (nthV (nthB bs 0).cells 0)) w⟩,
  ⟨[(3, .one (.int .i64)), (4, .one (.int .i64)), (14, .one (.ptr)), (15, .one (.slice))], [(17, 67, [.int .i64, .int .i64, .int .i64, .bool, .int .u64, .slice, .slice, .slice]), (13, 24, [.slice])], fun fs vs bs w => V11.b1 B R (iV (nthV vs 0)) (iV (nthV vs 1)) (pV (nthV vs 2)) (slA (nthV vs 3)) (slL (nthV vs 3)) (slC (nthV vs 3)) (nthB bs 0).blk (iV (nthV (nthB bs 0).cells 0)) (iV (nthV (nthB bs 0).cells 1)) (iV (nthV (nthB bs 0).cells 2)) (bV (nthV (nthB bs 0).cells 3)) (iV (nthV (nthB bs 0).cells 4)) (slA (nthV (nthB bs 0).cells 5)) (slL (nthV (nthB bs 0).cells 5)) (slC (nthV (nthB bs 0).cells 5)) (slA (nthV (nthB bs 0).cells 6)) (slL (nthV (nthB bs 0).cells 6)) (slC (nthV (nthB bs 0).cells 6)) (slA (nthV (nthB bs 0).cells 7)) (slL (nthV (nthB bs 0).cells 7)) (slC (nthV (nthB bs 0).cells 7)) (nthB bs 1).blk (slA (nthV (nthB bs 1).cells 0)) (slL (nthV (nthB bs 1).cells 0)) (slC (nthV (nthB bs 1).cells 0)) w⟩]
noncomputable def V11.h : H := .s (.z) (.s (.z) (.cut 0 (.z) (.s (.s (.z) (.c (.s (.z) (.z)) (.z))) (.s (.z) (.s (.z) (.cut 1 (.s (.z) (.c (.z) (.z))) (.s (.z) (.s (.z) (.s (.z) (.s (.z) (.s (.z) (.z))))))))))))
theorem V11.vc_eq (B : Nat) (R : Value → World → Prop) (ns0 : Option Addr) (ns0l ns0c : Nat) (fs1 : Option Addr) (fs1l fs1c : Nat) (ws2 : Option Addr) (ws2l ws2c : Nat) (at3 below4 more5 : Int) (w : World) : wpf (V11.cfg B) (V11.cuts B R) V11.code V11.h [] (postOf Try.prog B (Try.f11.results.toList) R) (argE 0 [.slice ns0 ns0l ns0c, .slice fs1 fs1l fs1c, .slice ws2 ws2l ws2c, .int .i64 at3, .int .i64 below4, .int .u8 more5]) [] w = V11.vc B R ns0 ns0l ns0c fs1 fs1l fs1c ws2 ws2l ws2c at3 below4 more5 w := by kernel_rfl
theorem V11.obl (B : Nat) (R : Value → World → Prop) : oblP (V11.cfg B) (V11.cuts B R) V11.code V11.h [] (postOf Try.prog B (Try.f11.results.toList) R) := by
  have e : oblP (V11.cfg B) (V11.cuts B R) V11.code V11.h [] (postOf Try.prog B (Try.f11.results.toList) R) = (True ∧ (True ∧ (True ∧ (∀ (fs1 : Option Addr) (fs1l fs1c : Nat) (at3 below4 more5 : Int) (a14 : Addr) (m15 : Option Addr) (m15l m15c q13 : Nat) (p13 : Option Addr) (p13l p13c : Nat) (w : World), V11.b0 B R fs1 fs1l fs1c at3 below4 more5 a14 m15 m15l m15c q13 p13 p13l p13c w → V11.b0 B R fs1 fs1l fs1c at3 below4 more5 a14 m15 m15l m15c q13 p13 p13l p13c w) ∧ ((True ∧ ((True ∧ True) ∧ True)) ∧ (True ∧ (True ∧ ((True ∧ (True ∧ True)) ∧ (∀ (at3 below4 : Int) (a14 : Addr) (m15 : Option Addr) (m15l m15c q17 : Nat) (x17 x17_1 x17_2 : Int) (x17_3 : Bool) (x17_4 : Int) (x17_5 : Option Addr) (x17_5l x17_5c : Nat) (x17_6 : Option Addr) (x17_6l x17_6c : Nat) (x17_7 : Option Addr) (x17_7l x17_7c q13 : Nat) (p13 : Option Addr) (p13l p13c : Nat) (w : World), V11.b1 B R at3 below4 a14 m15 m15l m15c q17 x17 x17_1 x17_2 x17_3 x17_4 x17_5 x17_5l x17_5c x17_6 x17_6l x17_6c x17_7 x17_7l x17_7c q13 p13 p13l p13c w → V11.b1 B R at3 below4 a14 m15 m15l m15c q17 x17 x17_1 x17_2 x17_3 x17_4 x17_5 x17_5l x17_5c x17_6 x17_6l x17_6c x17_7 x17_7l x17_7c q13 p13 p13l p13c w) ∧ (True ∧ (True ∧ (True ∧ (True ∧ (True ∧ True)))))))))))) := by kernel_rfl
  rw [e]
  exact ⟨trivial, ⟨trivial, ⟨trivial, fun fs1 fs1l fs1c at3 below4 more5 a14 m15 m15l m15c q13 p13 p13l p13c w h => h, ⟨⟨trivial, ⟨⟨trivial, trivial⟩, trivial⟩⟩, ⟨trivial, ⟨trivial, ⟨⟨trivial, ⟨trivial, trivial⟩⟩, fun at3 below4 a14 m15 m15l m15c q17 x17 x17_1 x17_2 x17_3 x17_4 x17_5 x17_5l x17_5c x17_6 x17_6l x17_6c x17_7 x17_7l x17_7c q13 p13 p13l p13c w h => h, ⟨trivial, ⟨trivial, ⟨trivial, ⟨trivial, ⟨trivial, trivial⟩⟩⟩⟩⟩⟩⟩⟩⟩⟩⟩⟩
theorem V11.cfgOk (B : Nat) : CfgOk (V11.cfg B) := cfgOk_of (by kernel_rfl) (by kernel_rfl)
theorem V11.sound {ns0 : Option Addr} {ns0l ns0c : Nat} {fs1 : Option Addr} {fs1l fs1c : Nat} {ws2 : Option Addr} {ws2l ws2c : Nat} {at3 below4 more5 : Int} {w : World} {R : Value → World → Prop} (h : V11.vc w.heap.size R ns0 ns0l ns0c fs1 fs1l fs1c ws2 ws2l ws2c at3 below4 more5 w) : Calls Try.prog 11 ⟨[.slice ns0 ns0l ns0c, .slice fs1 fs1l fs1c, .slice ws2 ws2l ws2c, .int .i64 at3, .int .i64 below4, .int .u8 more5]⟩ w fun e w' => ∃ v, e = .returned v ∧ R v w' :=
  calls_wpfP (c := V11.cfg w.heap.size) (fn := Try.f11) (x := V11.code) (V11.cuts w.heap.size R) V11.h (V11.cfgOk _) mixed Try.func11 (by kernel_rfl) (by kernel_rfl) (by kernel_rfl) rfl (V11.obl _ _) ((V11.vc_eq _ _ ns0 ns0l ns0c fs1 fs1l fs1c ws2 ws2l ws2c at3 below4 more5 _).symm ▸ h)
end Go.Proofs.Ytlccbaemcfjdoaa
