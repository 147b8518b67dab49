/-
  What the engine makes of the loaded functions 15: conditions under which a call returns as told, and proofs of that.
  Conditions: none. Printed by a program of this project.
-/
import Derived.Test.YtlccbaemcfjdoaaWD
set_option linter.unusedVariables false
set_option maxRecDepth 100000
namespace Go.Proofs.Ytlccbaemcfjdoaa

/-! function 15 -/
def V15.b1 (B : Nat) (R : Value → World → Prop) (at3 : Int) (a19 : Addr) (m20 : Option Addr) (m20l m20c q11 : Nat) (x11 x11_1 x11_2 : Int) (x11_3 : Bool) (x11_4 : Int) (x11_5 : Option Addr) (x11_5l x11_5c : Nat) (x11_6 : Option Addr) (x11_6l x11_6c : Nat) (x11_7 : Option Addr) (x11_7l x11_7c q9 : Nat) (p9 : Option Addr) (p9l p9c : Nat) (w : World) : Prop :=
  ∀ q21 : Nat, w.heap.size ≤ q21 →
Expo B w [q21, q11, q9] fun w_1 => 
  Hide [q21, q11, q9] (w_1.alloc (.cells ⟨[]⟩ 51)) fun w_2 => 
  RunK Try.prog (Builtin.append_ #[50, 50] 50 ⟨[.slice (some ⟨w_1.heap.size, 0, none⟩) 0 0, .slice x11_6 x11_6l x11_6c]⟩) B w_2 [q21, q11, q9] fun v w_3 => 
  ∃ (A103 : Option Addr) (A103l A103c : Nat), v = .slice A103 A103l A103c ∧
  Expo B w_3 [q21, q11, q9] fun w_4 => 
  Hide [q21, q11, q9] (w_4.alloc (.cells ⟨[.int .u64 1]⟩ 51)) fun w_5 => 
  RunK Try.prog (Builtin.append_ #[50, 50] 50 ⟨[.slice A103 A103l A103c, .slice (some ⟨w_4.heap.size, 0, none⟩) 1 1]⟩) B w_5 [q21, q11, q9] fun v_1 w_6 => 
  ∃ (A105 : Option Addr) (A105l A105c : Nat), v_1 = .slice A105 A105l A105c ∧
  ∃ p111 : Addr, p9 = some p111 ∧ (0 : Int) ≤ x11 ∧ x11 < (p9l : Int) ∧
  ∃ x112 : Int, w_6.cell? ((p111.add (x11.toNat * 4)).add 0) = some (.int .i64 x112) ∧
  ∃ x112_1 : Int, w_6.cell? ((p111.add (x11.toNat * 4)).add 1) = some (.int .i64 x112_1) ∧
  ∃ x112_2 : Int, w_6.cell? ((p111.add (x11.toNat * 4)).add 2) = some (.int .i64 x112_2) ∧
  ∃ (A112 : Option Addr) (A112l A112c : Nat), w_6.cell? ((p111.add (x11.toNat * 4)).add 3) = some (.slice A112 A112l A112c) ∧
  CallK Try.prog 33 [.agg ⟨[.int .i64 x112, .int .i64 x112_1, .int .i64 x112_2, .slice A112 A112l A112c]⟩] B w_6 [q21, q11, q9] fun v_2 w_7 => 
  ∃ x113 : Int, v_2 = .int .i64 x113 ∧ (500 : Int) ≠ 0 ∧
  CallK Try.prog 52 [.pointer (some a19), .agg ⟨[.slice p9 p9l p9c]⟩, .int .i64 0, .int .i64 (-1), .agg ⟨[.int .i64 x11, .int .i64 x11_1, .int .i64 x11_2, .bool x11_3, .int .u64 x11_4, .slice x11_5 x11_5l x11_5c, .slice A105 A105l A105c, .slice x11_7 x11_7l x11_7c]⟩] B w_7 [q21, q11, q9] fun v_3 w_8 => 
  ∃ x123 : Int, v_3 = .int .i64 x123 ∧
  if (x123 == 1) = true
  then (CallK Try.prog 52 [.pointer (some a19), .agg ⟨[.slice p9 p9l p9c]⟩, .int .i64 0, .int .i64 (-2), .agg ⟨[.int .i64 x11, .int .i64 x11_1, .int .i64 x11_2, .bool x11_3, .int .u64 x11_4, .slice x11_5 x11_5l x11_5c, .slice x11_6 x11_6l x11_6c, .slice x11_7 x11_7l x11_7c]⟩] B w_8 [q21, q11, q9] fun v_4 w_9 => 
   ∃ x129 : Int, v_4 = .int .i64 x129 ∧
   if (x129 == 1) = true
   then (CallK Try.prog 52 [.pointer (some a19), .agg ⟨[.slice p9 p9l p9c]⟩, .int .i64 0, .int .i64 64, .agg ⟨[.int .i64 x11, .int .i64 x11_1, .int .i64 x11_2, .bool x11_3, .int .u64 x11_4, .slice x11_5 x11_5l x11_5c, .slice x11_6 x11_6l x11_6c, .slice x11_7 x11_7l x11_7c]⟩] B w_9 [q21, q11, q9] fun v_5 w_10 => 
    ∃ x136 : Int, v_5 = .int .i64 x136 ∧
    if (x136 == 1) = true
    then (CallK Try.prog 52 [.pointer (some a19), .agg ⟨[.slice p9 p9l p9c]⟩, .int .i64 (IntKind.wrap .i64 (IntKind.wrap .i64 (IntKind.wrap .i64 (64 - x113) + 1) + Int.tmod (if 0 > at3 then 0 else at3) 500)), .int .i64 (-1), .agg ⟨[.int .i64 x11, .int .i64 x11_1, .int .i64 x11_2, .bool x11_3, .int .u64 x11_4, .slice x11_5 x11_5l x11_5c, .slice x11_6 x11_6l x11_6c, .slice x11_7 x11_7l x11_7c]⟩] B w_10 [q21, q11, q9] fun v_6 w_11 => 
     ∃ x144 : Int, v_6 = .int .i64 x144 ∧
     if (x144 == 1) = true
     then (CallK Try.prog 44 [.pointer (some a19), .int .i64 58, .agg ⟨[.int .i64 0, .int .i64 0, .int .i64 0, .int .i64 0, .bool false, .int .u64 0, .int .i64 0, .int .i64 0]⟩] B w_11 [q21, q11, q9] fun v_7 w_12 => 
      ∃ x150 : Int, v_7 = .int .i64 x150 ∧
      if (x150 == 1) = true
      then (CallK Try.prog 44 [.pointer (some a19), .int .i64 0, .agg ⟨[.int .i64 0, .int .i64 0, .int .i64 0, .int .i64 3, .bool false, .int .u64 0, .int .i64 0, .int .i64 0]⟩] B w_12 [q21, q11, q9] fun v_8 w_13 => 
       ∃ x156 : Int, v_8 = .int .i64 x156 ∧
       if (x156 == 1) = true
       then (CallK Try.prog 44 [.pointer (some a19), .int .i64 0, .agg ⟨[.int .i64 0, .int .i64 (-1), .int .i64 0, .int .i64 0, .bool false, .int .u64 0, .int .i64 0, .int .i64 0]⟩] B w_13 [q21, q11, q9] fun v_9 w_14 => 
        ∃ x162 : Int, v_9 = .int .i64 x162 ∧
        if (x162 == 1) = true
        then (CallK Try.prog 46 [.pointer (some a19), .slice m20 m20l m20c] B w_14 [q21, q11, q9] fun v_10 w_15 => 
         ∃ b168 : Bool, v_10 = .bool b168 ∧
         if b168 = true
         then (CallK Try.prog 47 [] B w_15 [q21, q11, q9] fun v_11 w_16 => 
          ∃ b171 : Bool, v_11 = .bool b171 ∧
          Ret B w_16 (R (.bool b171)))
         else (Ret B w_15 (R (.bool false))))
        else (Ret B w_14 (R (.bool false))))
       else (Ret B w_13 (R (.bool false))))
      else (Ret B w_12 (R (.bool false))))
     else (Ret B w_11 (R (.bool false))))
    else (Ret B w_10 (R (.bool false))))
   else (Ret B w_9 (R (.bool false))))
  else (Ret B w_8 (R (.bool false)))
def V15.b0 (B : Nat) (R : Value → World → Prop) (ws2 : Option Addr) (ws2l ws2c : Nat) (at3 : Int) (q11 : Nat) (x11 x11_1 x11_2 : Int) (x11_3 : Bool) (x11_4 : Int) (x11_5 : Option Addr) (x11_5l x11_5c : Nat) (x11_6 : Option Addr) (x11_6l x11_6c : Nat) (x11_7 : Option Addr) (x11_7l x11_7c q9 : Nat) (p9 : Option Addr) (p9l p9c : Nat) (w : World) : Prop :=
  CallK Try.prog 42 [.pointer none, .int .i64 at3] B w [q11, q9] fun v w_1 => 
  ∃ (x35 x35_1 x35_2 x35_3 : Int) (b35 : Bool) (x35_4 x35_5 x35_6 x35_7 : Int), v = .tuple ⟨[.agg ⟨[.int .i64 x35, .int .i64 x35_1, .int .i64 x35_2, .int .i64 x35_3, .bool b35, .int .u64 x35_4, .int .i64 x35_5, .int .i64 x35_6]⟩, .int .i64 x35_7]⟩ ∧
  ∀ q12 : Nat, w_1.heap.size ≤ q12 →
  CallK Try.prog 54 [.pointer none, .agg ⟨[.slice p9 p9l p9c]⟩, .int .i64 at3] B w_1 [q12, q11, q9] fun v_1 w_2 => 
  ∃ (x41 x41_1 x41_2 : Int) (b41 : Bool) (x41_3 : Int) (A41 : Option Addr) (A41l A41c : Nat) (A41_1 : Option Addr) (A41_1l A41_1c : Nat) (A41_2 : Option Addr) (A41_2l A41_2c : Nat) (x41_4 x41_5 : Int), v_1 = .tuple ⟨[.agg ⟨[.int .i64 x41, .int .i64 x41_1, .int .i64 x41_2, .bool b41, .int .u64 x41_3, .slice A41 A41l A41c, .slice A41_1 A41_1l A41_1c, .slice A41_2 A41_2l A41_2c]⟩, .int .i64 x41_4, .int .i64 x41_5]⟩ ∧
  ∀ q14 : Nat, w_2.heap.size ≤ q14 →
  CallK Try.prog 59 [.pointer none, .agg ⟨[.slice p9 p9l p9c]⟩, .int .i64 at3] B w_2 [q14, q12, q11, q9] fun v_2 w_3 => 
  ∃ (A48 : Option Addr) (A48l A48c : Nat) (x48 : Int), v_2 = .tuple ⟨[.slice A48 A48l A48c, .int .i64 x48]⟩ ∧
  CallK Try.prog 44 [.pointer none, .int .i64 0, .agg ⟨[.int .i64 0, .int .i64 0, .int .i64 0, .int .i64 0, .bool false, .int .u64 0, .int .i64 0, .int .i64 0]⟩] B w_3 [q14, q12, q11, q9] fun v_3 w_4 => 
  ∃ x52 : Int, v_3 = .int .i64 x52 ∧
  if (x52 != 2) = false
  then (CallK Try.prog 52 [.pointer none, .agg ⟨[.slice p9 p9l p9c]⟩, .int .i64 0, .int .i64 (-1), .agg ⟨[.int .i64 x11, .int .i64 x11_1, .int .i64 x11_2, .bool x11_3, .int .u64 x11_4, .slice x11_5 x11_5l x11_5c, .slice x11_6 x11_6l x11_6c, .slice x11_7 x11_7l x11_7c]⟩] B w_4 [q14, q12, q11, q9] fun v_4 w_5 => 
   ∃ x57 : Int, v_4 = .int .i64 x57 ∧
   if (x57 != 2) = false
   then (if (!((x35 == 0) && ((x35_1 == 0) && ((x35_2 == 0) && ((x35_3 == 0) && ((b35 == false) && ((x35_4 == 0) && ((x35_5 == 0) && (x35_6 == 0))))))))) = false
    then (if (x35_7 != 2) = false
     then (CallK Try.prog 56 [.agg ⟨[.int .i64 x41, .int .i64 x41_1, .int .i64 x41_2, .bool b41, .int .u64 x41_3, .slice A41 A41l A41c, .slice A41_1 A41_1l A41_1c, .slice A41_2 A41_2l A41_2c]⟩, .agg ⟨[.int .i64 0, .int .i64 0, .int .i64 0, .bool false, .int .u64 0, .slice none 0 0, .slice none 0 0, .slice none 0 0]⟩] B w_5 [q14, q12, q11, q9] fun v_5 w_6 => 
      ∃ b72 : Bool, v_5 = .bool b72 ∧
      if (!b72) = false
      then (if (x41_4 != 0) = false
       then (if (x41_5 != 2) = false
        then (if ((A48l : Int) != 0) = false
         then (if (x48 != 2) = true
          then (Ret B w_6 (R (.bool false)))
          else (CallK Try.prog 41 [.int .i64 1, .slice ws2 ws2l ws2c] B w_6 [q14, q12, q11, q9] fun v_6 w_7 => 
           ∃ (op94 A94 : Option Addr) (A94l A94c : Nat), v_6 = .tuple ⟨[.pointer op94, .slice A94 A94l A94c]⟩ ∧
           caseP op94
           (False)
           (fun p94 => V15.b1 B R at3 p94 A94 A94l A94c q11 x11 x11_1 x11_2 x11_3 x11_4 x11_5 x11_5l x11_5c x11_6 x11_6l x11_6c x11_7 x11_7l x11_7c q9 p9 p9l p9c w_7)))
         else (Ret B w_6 (R (.bool false))))
        else (Ret B w_6 (R (.bool false))))
       else (Ret B w_6 (R (.bool false))))
      else (Ret B w_6 (R (.bool false))))
     else (Ret B w_5 (R (.bool false))))
    else (Ret B w_5 (R (.bool false))))
   else (Ret B w_5 (R (.bool false))))
  else (Ret B w_4 (R (.bool false)))
def V15.vc (B : Nat) (R : Value → World → Prop) (ns0 : Option Addr) (ns0l ns0c : Nat) (fs1 : Option Addr) (fs1l fs1c : Nat) (ws2 : Option Addr) (ws2l ws2c : Nat) (at3 : Int) (w : World) : Prop :=
  CallK Try.prog 35 [.slice ns0 ns0l ns0c] B w [] fun v w_1 => 
  ∃ (A24 : Option Addr) (A24l A24c : Nat), v = .agg ⟨[.slice A24 A24l A24c]⟩ ∧
  ∀ q9 : Nat, w_1.heap.size ≤ q9 →
  Expo B w_1 [q9] fun w_2 => 
  Hide [q9] (w_2.alloc (.cells ⟨[.slice fs1 fs1l fs1c]⟩ 70)) fun w_3 => 
  CallK Try.prog 48 [.pointer (some (⟨w_2.heap.size, 0, none⟩)), .agg ⟨[.slice A24 A24l A24c]⟩] B w_3 [q9] fun v_1 w_4 => 
  ∃ (x30 x30_1 x30_2 : Int) (b30 : Bool) (x30_3 : Int) (A30 : Option Addr) (A30l A30c : Nat) (A30_1 : Option Addr) (A30_1l A30_1c : Nat) (A30_2 : Option Addr) (A30_2l A30_2c : Nat), v_1 = .agg ⟨[.int .i64 x30, .int .i64 x30_1, .int .i64 x30_2, .bool b30, .int .u64 x30_3, .slice A30 A30l A30c, .slice A30_1 A30_1l A30_1c, .slice A30_2 A30_2l A30_2c]⟩ ∧
  ∀ q11 : Nat, w_4.heap.size ≤ q11 →
  if (at3 == (-1)) = true
  then (V15.b0 B R ws2 ws2l ws2c 0 q11 x30 x30_1 x30_2 b30 x30_3 A30 A30l A30c A30_1 A30_1l A30_1c A30_2 A30_2l A30_2c q9 A24 A24l A24c w_4)
  else (V15.b0 B R ws2 ws2l ws2c at3 q11 x30 x30_1 x30_2 b30 x30_3 A30 A30l A30c A30_1 A30_1l A30_1c A30_2 A30_2l A30_2c q9 A24 A24l A24c w_4)
noncomputable def V15.cfg (B : Nat) : Cfg := ⟨Try.prog, ⟨173, B⟩, [27], hasN [33, 35, 41, 42, 44, 46, 47, 48, 52, 54, 56, 59], hasN [53]⟩
noncomputable def V15.code : Code := (Try.f15.body).getD .skip
noncomputable def V15.cuts (B : Nat) (R : Value → World → Prop) : Nat → Cut := nthC [⟨[(2, .one (.slice)), (3, .one (.int .i64))], [(11, 67, [.int .i64, .int .i64, .int .i64, .bool, .int .u64, .slice, .slice, .slice]), (9, 24, [.slice])], fun fs vs bs w => V15.b0 B R (slA (nthV vs 0)) (slL (nthV vs 0)) (slC (nthV vs 0)) (iV (nthV vs 1)) (nthB bs 0).blk (iV (nthV (nthB bs 0).cells 0)) (iV (nthV (nthB bs 0).cells 1)) (iV (nthV (nthB bs 0).cells 2)) (bV (nthV (nthB bs 0).cells 3)) (iV (nthV (nthB bs 0).cells 4)) (slA (nthV (nthB bs 0).cells 5)) (slL (nthV (nthB bs 0).cells 5)) (slC (nthV (nthB bs 0).cells 5)) (slA (nthV (nthB bs 0).cells 6)) (slL (nthV (nthB bs 0).cells 6)) (slC (nthV (nthB bs 0).cells 6)) (slA (nthV (nthB bs 0).cells 7)) (slL (nthV (nthB bs 0).cells 7)) (slC (nthV (nthB bs 0).cells 7)) (nthB bs 1).blk (slA (nthV (nthB bs 1).cells 0)) (slL (nthV (nthB bs 1).cells 0)) (slC (nthV (nthB bs 1).cells 0)) w⟩,
  ⟨[(3, .one (.int .i64)), (19, .one (.ptr)), (20, .one (.slice))], [(11, 67, [.int .i64, .int .i64, .int .i64, .bool, .int .u64, .slice, .slice, .slice]), (9, 24, [.slice])], fun fs vs bs w => V15.b1 B R (iV (nthV vs 0)) (pV (nthV vs 1)) (slA (nthV vs 2)) (slL (nthV vs 2)) (slC (nthV vs 2)) (nthB bs 0).blk (iV (nthV (nthB bs 0).cells 0)) (iV (nthV (nthB bs 0).cells 1)) (iV (nthV (nthB bs 0).cells 2)) (bV (nthV (nthB bs 0).cells 3)) (iV (nthV (nthB bs 0).cells 4)) (slA (nthV (nthB bs 0).cells 5)) (slL (nthV (nthB bs 0).cells 5)) (slC (nthV (nthB bs 0).cells 5)) (slA (nthV (nthB bs 0).cells 6)) (slL (nthV (nthB bs 0).cells 6)) (slC (nthV (nthB bs 0).cells 6)) (slA (nthV (nthB bs 0).cells 7)) (slL (nthV (nthB bs 0).cells 7)) (slC (nthV (nthB bs 0).cells 7)) (nthB bs 1).blk (slA (nthV (nthB bs 1).cells 0)) (slL (nthV (nthB bs 1).cells 0)) (slC (nthV (nthB bs 1).cells 0)) w⟩]
noncomputable def V15.h : H := .s (.z) (.s (.z) (.s (.z) (.s (.z) (.cut 0 (.s (.z) (.c (.z) (.z))) (.s (.z) (.s (.z) (.s (.z) (.s (.s (.z) (.c (.s (.z) (.z)) (.z))) (.cut 1 (.z) (.s (.s (.z) (.c (.s (.z) (.z)) (.z))) (.s (.z) (.s (.z) (.s (.z) (.s (.z) (.z)))))))))))))))
theorem V15.vc_eq (B : Nat) (R : Value → World → Prop) (ns0 : Option Addr) (ns0l ns0c : Nat) (fs1 : Option Addr) (fs1l fs1c : Nat) (ws2 : Option Addr) (ws2l ws2c : Nat) (at3 : Int) (w : World) : wpf (V15.cfg B) (V15.cuts B R) V15.code V15.h [] (postOf Try.prog B (Try.f15.results.toList) R) (argE 0 [.slice ns0 ns0l ns0c, .slice fs1 fs1l fs1c, .slice ws2 ws2l ws2c, .int .i64 at3]) [] w = V15.vc B R ns0 ns0l ns0c fs1 fs1l fs1c ws2 ws2l ws2c at3 w := by kernel_rfl
theorem V15.obl (B : Nat) (R : Value → World → Prop) : oblP (V15.cfg B) (V15.cuts B R) V15.code V15.h [] (postOf Try.prog B (Try.f15.results.toList) R) := by
  have e : oblP (V15.cfg B) (V15.cuts B R) V15.code V15.h [] (postOf Try.prog B (Try.f15.results.toList) R) = (True ∧ (True ∧ (True ∧ (True ∧ ((True ∧ (True ∧ True)) ∧ (∀ (ws2 : Option Addr) (ws2l ws2c : Nat) (at3 : Int) (q11 : Nat) (x11 x11_1 x11_2 : Int) (x11_3 : Bool) (x11_4 : Int) (x11_5 : Option Addr) (x11_5l x11_5c : Nat) (x11_6 : Option Addr) (x11_6l x11_6c : Nat) (x11_7 : Option Addr) (x11_7l x11_7c q9 : Nat) (p9 : Option Addr) (p9l p9c : Nat) (w : World), V15.b0 B R ws2 ws2l ws2c at3 q11 x11 x11_1 x11_2 x11_3 x11_4 x11_5 x11_5l x11_5c x11_6 x11_6l x11_6c x11_7 x11_7l x11_7c q9 p9 p9l p9c w → V15.b0 B R ws2 ws2l ws2c at3 q11 x11 x11_1 x11_2 x11_3 x11_4 x11_5 x11_5l x11_5c x11_6 x11_6l x11_6c x11_7 x11_7l x11_7c q9 p9 p9l p9c w) ∧ (True ∧ (True ∧ (True ∧ ((True ∧ ((True ∧ True) ∧ True)) ∧ (True ∧ (∀ (at3 : Int) (a19 : Addr) (m20 : Option Addr) (m20l m20c q11 : Nat) (x11 x11_1 x11_2 : Int) (x11_3 : Bool) (x11_4 : Int) (x11_5 : Option Addr) (x11_5l x11_5c : Nat) (x11_6 : Option Addr) (x11_6l x11_6c : Nat) (x11_7 : Option Addr) (x11_7l x11_7c q9 : Nat) (p9 : Option Addr) (p9l p9c : Nat) (w : World), V15.b1 B R at3 a19 m20 m20l m20c q11 x11 x11_1 x11_2 x11_3 x11_4 x11_5 x11_5l x11_5c x11_6 x11_6l x11_6c x11_7 x11_7l x11_7c q9 p9 p9l p9c w → V15.b1 B R at3 a19 m20 m20l m20c q11 x11 x11_1 x11_2 x11_3 x11_4 x11_5 x11_5l x11_5c x11_6 x11_6l x11_6c x11_7 x11_7l x11_7c q9 p9 p9l p9c w) ∧ ((True ∧ ((True ∧ True) ∧ True)) ∧ (True ∧ (True ∧ (True ∧ (True ∧ True))))))))))))))) := by kernel_rfl
  rw [e]
  exact ⟨trivial, ⟨trivial, ⟨trivial, ⟨trivial, ⟨⟨trivial, ⟨trivial, trivial⟩⟩, fun ws2 ws2l ws2c at3 q11 x11 x11_1 x11_2 x11_3 x11_4 x11_5 x11_5l x11_5c x11_6 x11_6l x11_6c x11_7 x11_7l x11_7c q9 p9 p9l p9c w h => h, ⟨trivial, ⟨trivial, ⟨trivial, ⟨⟨trivial, ⟨⟨trivial, trivial⟩, trivial⟩⟩, ⟨trivial, fun at3 a19 m20 m20l m20c q11 x11 x11_1 x11_2 x11_3 x11_4 x11_5 x11_5l x11_5c x11_6 x11_6l x11_6c x11_7 x11_7l x11_7c q9 p9 p9l p9c w h => h, ⟨⟨trivial, ⟨⟨trivial, trivial⟩, trivial⟩⟩, ⟨trivial, ⟨trivial, ⟨trivial, ⟨trivial, trivial⟩⟩⟩⟩⟩⟩⟩⟩⟩⟩⟩⟩⟩⟩⟩
theorem V15.cfgOk (B : Nat) : CfgOk (V15.cfg B) := cfgOk_of (by kernel_rfl) (by kernel_rfl)
theorem V15.sound {ns0 : Option Addr} {ns0l ns0c : Nat} {fs1 : Option Addr} {fs1l fs1c : Nat} {ws2 : Option Addr} {ws2l ws2c : Nat} {at3 : Int} {w : World} {R : Value → World → Prop} (h : V15.vc w.heap.size R ns0 ns0l ns0c fs1 fs1l fs1c ws2 ws2l ws2c at3 w) : Calls Try.prog 15 ⟨[.slice ns0 ns0l ns0c, .slice fs1 fs1l fs1c, .slice ws2 ws2l ws2c, .int .i64 at3]⟩ w fun e w' => ∃ v, e = .returned v ∧ R v w' :=
  calls_wpfP (c := V15.cfg w.heap.size) (fn := Try.f15) (x := V15.code) (V15.cuts w.heap.size R) V15.h (V15.cfgOk _) mixed Try.func15 (by kernel_rfl) (by kernel_rfl) (by kernel_rfl) rfl (V15.obl _ _) ((V15.vc_eq _ _ ns0 ns0l ns0c fs1 fs1l fs1c ws2 ws2l ws2c at3 _).symm ▸ h)
end Go.Proofs.Ytlccbaemcfjdoaa
