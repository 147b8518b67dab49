/-
  What the engine makes of the loaded functions 9, 10, 11, 12, 13, 14, 15, 58, 59, 60, 61: conditions under which a call returns as told, and proofs of that.
  Conditions: none. Printed by a program of this project.
-/
import Derived.Test.YtlccbaemcfjdoaaWB
set_option linter.unusedVariables false
set_option maxRecDepth 100000
namespace Go.Proofs.Ytlccbaemcfjdoaa

/-! function 9 -/
def V9.b0 (B : Nat) (R : Value → World → Prop) (at1 : Int) (a7 : Addr) (m8 : Option Addr) (m8l m8c q5 : Nat) (h5 h5_1 h5_2 h5_3 : Int) (h5_4 : Bool) (h5_5 h5_6 h5_7 : Int) (w : World) : Prop :=
  CallK Try.prog 42 [.pointer (some a7), .int .i64 at1] B w [q5] fun v w_1 => 
  ∃ (x30 x30_1 x30_2 x30_3 : Int) (b30 : Bool) (x30_4 x30_5 x30_6 x30_7 : Int), v = .tuple ⟨[.agg ⟨[.int .i64 x30, .int .i64 x30_1, .int .i64 x30_2, .int .i64 x30_3, .bool b30, .int .u64 x30_4, .int .i64 x30_5, .int .i64 x30_6]⟩, .int .i64 x30_7]⟩ ∧
  ∀ q9 : Nat, w_1.heap.size ≤ q9 →
  CallK Try.prog 43 [.slice m8 m8l m8c, .int .i64 at1] B w_1 [q9, q5] fun v_1 w_2 => 
  ∃ (x36 x36_1 x36_2 x36_3 : Int) (b36 : Bool) (x36_4 x36_5 x36_6 x36_7 : Int), v_1 = .tuple ⟨[.agg ⟨[.int .i64 x36, .int .i64 x36_1, .int .i64 x36_2, .int .i64 x36_3, .bool b36, .int .u64 x36_4, .int .i64 x36_5, .int .i64 x36_6]⟩, .int .i64 x36_7]⟩ ∧
  ∀ q11 : Nat, w_2.heap.size ≤ q11 →
  CallK Try.prog 44 [.pointer (some a7), .int .i64 at1, .agg ⟨[.int .i64 h5, .int .i64 h5_1, .int .i64 h5_2, .int .i64 h5_3, .bool h5_4, .int .u64 h5_5, .int .i64 h5_6, .int .i64 h5_7]⟩] B w_2 [q11, q9, q5] fun v_2 w_3 => 
  ∃ x42 : Int, v_2 = .int .i64 x42 ∧
  CallK Try.prog 45 [.slice m8 m8l m8c, .int .i64 at1, .agg ⟨[.int .i64 h5, .int .i64 h5_1, .int .i64 h5_2, .int .i64 h5_3, .bool h5_4, .int .u64 h5_5, .int .i64 h5_6, .int .i64 h5_7]⟩] B w_3 [q11, q9, q5] fun v_3 w_4 => 
  ∃ (A47 : Option Addr) (A47l A47c : Nat) (x47 : Int), v_3 = .tuple ⟨[.slice A47 A47l A47c, .int .i64 x47]⟩ ∧
  CallK Try.prog 42 [.pointer (some a7), .int .i64 at1] B w_4 [q11, q9, q5] fun v_4 w_5 => 
  ∃ (x53 x53_1 x53_2 x53_3 : Int) (b53 : Bool) (x53_4 x53_5 x53_6 x53_7 : Int), v_4 = .tuple ⟨[.agg ⟨[.int .i64 x53, .int .i64 x53_1, .int .i64 x53_2, .int .i64 x53_3, .bool b53, .int .u64 x53_4, .int .i64 x53_5, .int .i64 x53_6]⟩, .int .i64 x53_7]⟩ ∧
  ∀ q16 : Nat, w_5.heap.size ≤ q16 →
  CallK Try.prog 43 [.slice A47 A47l A47c, .int .i64 at1] B w_5 [q16, q11, q9, q5] fun v_5 w_6 => 
  ∃ (x59 x59_1 x59_2 x59_3 : Int) (b59 : Bool) (x59_4 x59_5 x59_6 x59_7 : Int), v_5 = .tuple ⟨[.agg ⟨[.int .i64 x59, .int .i64 x59_1, .int .i64 x59_2, .int .i64 x59_3, .bool b59, .int .u64 x59_4, .int .i64 x59_5, .int .i64 x59_6]⟩, .int .i64 x59_7]⟩ ∧
  ∀ q18 : Nat, w_6.heap.size ≤ q18 →
  if ((x30 == x36) && ((x30_1 == x36_1) && ((x30_2 == x36_2) && ((x30_3 == x36_3) && ((b30 == b36) && ((x30_4 == x36_4) && ((x30_5 == x36_5) && (x30_6 == x36_6)))))))) = true
  then (if (x30_7 == x36_7) = true
   then (if (x42 == x47) = true
    then (if ((x53 == x59) && ((x53_1 == x59_1) && ((x53_2 == x59_2) && ((x53_3 == x59_3) && ((b53 == b59) && ((x53_4 == x59_4) && ((x53_5 == x59_5) && (x53_6 == x59_6)))))))) = true
     then (if (x53_7 == x59_7) = true
      then (CallK Try.prog 46 [.pointer (some a7), .slice A47 A47l A47c] B w_6 [q18, q16, q11, q9, q5] fun v_6 w_7 => 
       ∃ b88 : Bool, v_6 = .bool b88 ∧
       if b88 = true
       then (CallK Try.prog 47 [] B w_7 [q18, q16, q11, q9, q5] fun v_7 w_8 => 
        ∃ b91 : Bool, v_7 = .bool b91 ∧
        Ret B w_8 (R (.bool b91)))
       else (Ret B w_7 (R (.bool false))))
      else (Ret B w_6 (R (.bool false))))
     else (Ret B w_6 (R (.bool false))))
    else (Ret B w_6 (R (.bool false))))
   else (Ret B w_6 (R (.bool false))))
  else (Ret B w_6 (R (.bool false)))
def V9.vc (B : Nat) (R : Value → World → Prop) (ws0 : Option Addr) (ws0l ws0c : Nat) (at1 h2 h2_1 h2_2 h2_3 : Int) (h2_4 : Bool) (h2_5 h2_6 h2_7 : Int) (w : World) : Prop :=
  ∀ q5 : Nat, w.heap.size ≤ q5 →
CallK Try.prog 41 [.int .i64 1, .slice ws0 ws0l ws0c] B w [q5] fun v w_1 => 
  ∃ (op22 A22 : Option Addr) (A22l A22c : Nat), v = .tuple ⟨[.pointer op22, .slice A22 A22l A22c]⟩ ∧
  caseP op22
  (False)
  (fun p22 => V9.b0 B R at1 p22 A22 A22l A22c q5 h2 h2_1 h2_2 h2_3 h2_4 h2_5 h2_6 h2_7 w_1)
noncomputable def V9.cfg (B : Nat) : Cfg := ⟨Try.prog, ⟨93, B⟩, [], hasN [41, 42, 43, 44, 45, 46, 47], hasN [53]⟩
noncomputable def V9.code : Code := (Try.f9.body).getD .skip
noncomputable def V9.cuts (B : Nat) (R : Value → World → Prop) : Nat → Cut := nthC [⟨[(1, .one (.int .i64)), (7, .one (.ptr)), (8, .one (.slice))], [(5, 53, [.int .i64, .int .i64, .int .i64, .int .i64, .bool, .int .u64, .int .i64, .int .i64])], fun fs vs bs w => V9.b0 B R (iV (nthV vs 0)) (pV (nthV vs 1)) (slA (nthV vs 2)) (slL (nthV vs 2)) (slC (nthV vs 2)) (nthB bs 0).blk (iV (nthV (nthB bs 0).cells 0)) (iV (nthV (nthB bs 0).cells 1)) (iV (nthV (nthB bs 0).cells 2)) (iV (nthV (nthB bs 0).cells 3)) (bV (nthV (nthB bs 0).cells 4)) (iV (nthV (nthB bs 0).cells 5)) (iV (nthV (nthB bs 0).cells 6)) (iV (nthV (nthB bs 0).cells 7)) w⟩]
noncomputable def V9.h : H := .s (.z) (.cut 0 (.z) (.s (.s (.z) (.c (.s (.z) (.z)) (.z))) (.s (.z) (.s (.z) (.s (.z) (.s (.z) (.s (.z) (.s (.z) (.s (.z) (.z))))))))))
theorem V9.vc_eq (B : Nat) (R : Value → World → Prop) (ws0 : Option Addr) (ws0l ws0c : Nat) (at1 h2 h2_1 h2_2 h2_3 : Int) (h2_4 : Bool) (h2_5 h2_6 h2_7 : Int) (w : World) : wpf (V9.cfg B) (V9.cuts B R) V9.code V9.h [] (postOf Try.prog B (Try.f9.results.toList) R) (argE 0 [.slice ws0 ws0l ws0c, .int .i64 at1, .agg ⟨[.int .i64 h2, .int .i64 h2_1, .int .i64 h2_2, .int .i64 h2_3, .bool h2_4, .int .u64 h2_5, .int .i64 h2_6, .int .i64 h2_7]⟩]) [] w = V9.vc B R ws0 ws0l ws0c at1 h2 h2_1 h2_2 h2_3 h2_4 h2_5 h2_6 h2_7 w := by kernel_rfl
theorem V9.obl (B : Nat) (R : Value → World → Prop) : oblP (V9.cfg B) (V9.cuts B R) V9.code V9.h [] (postOf Try.prog B (Try.f9.results.toList) R) := by
  have e : oblP (V9.cfg B) (V9.cuts B R) V9.code V9.h [] (postOf Try.prog B (Try.f9.results.toList) R) = (True ∧ (True ∧ (∀ (at1 : Int) (a7 : Addr) (m8 : Option Addr) (m8l m8c q5 : Nat) (h5 h5_1 h5_2 h5_3 : Int) (h5_4 : Bool) (h5_5 h5_6 h5_7 : Int) (w : World), V9.b0 B R at1 a7 m8 m8l m8c q5 h5 h5_1 h5_2 h5_3 h5_4 h5_5 h5_6 h5_7 w → V9.b0 B R at1 a7 m8 m8l m8c q5 h5 h5_1 h5_2 h5_3 h5_4 h5_5 h5_6 h5_7 w) ∧ ((True ∧ ((True ∧ True) ∧ True)) ∧ (True ∧ (True ∧ (True ∧ (True ∧ (True ∧ (True ∧ (True ∧ True)))))))))) := by kernel_rfl
  rw [e]
  exact ⟨trivial, ⟨trivial, fun at1 a7 m8 m8l m8c q5 h5 h5_1 h5_2 h5_3 h5_4 h5_5 h5_6 h5_7 w h => h, ⟨⟨trivial, ⟨⟨trivial, trivial⟩, trivial⟩⟩, ⟨trivial, ⟨trivial, ⟨trivial, ⟨trivial, ⟨trivial, ⟨trivial, ⟨trivial, trivial⟩⟩⟩⟩⟩⟩⟩⟩⟩⟩
theorem V9.cfgOk (B : Nat) : CfgOk (V9.cfg B) := cfgOk_of (by kernel_rfl) (by kernel_rfl)
theorem V9.sound {ws0 : Option Addr} {ws0l ws0c : Nat} {at1 h2 h2_1 h2_2 h2_3 : Int} {h2_4 : Bool} {h2_5 h2_6 h2_7 : Int} {w : World} {R : Value → World → Prop} (h : V9.vc w.heap.size R ws0 ws0l ws0c at1 h2 h2_1 h2_2 h2_3 h2_4 h2_5 h2_6 h2_7 w) : Calls Try.prog 9 ⟨[.slice ws0 ws0l ws0c, .int .i64 at1, .agg ⟨[.int .i64 h2, .int .i64 h2_1, .int .i64 h2_2, .int .i64 h2_3, .bool h2_4, .int .u64 h2_5, .int .i64 h2_6, .int .i64 h2_7]⟩]⟩ w fun e w' => ∃ v, e = .returned v ∧ R v w' :=
  calls_wpfP (c := V9.cfg w.heap.size) (fn := Try.f9) (x := V9.code) (V9.cuts w.heap.size R) V9.h (V9.cfgOk _) mixed Try.func9 (by kernel_rfl) (by kernel_rfl) (by kernel_rfl) rfl (V9.obl _ _) ((V9.vc_eq _ _ ws0 ws0l ws0c at1 h2 h2_1 h2_2 h2_3 h2_4 h2_5 h2_6 h2_7 _).symm ▸ h)

/-! function 10 -/
def V10.b0 (B : Nat) (R : Value → World → Prop) (q11 : Nat) (y11 y11_1 y11_2 : Int) (y11_3 : Bool) (y11_4 : Int) (y11_5 : Option Addr) (y11_5l y11_5c : Nat) (y11_6 : Option Addr) (y11_6l y11_6c : Nat) (y11_7 : Option Addr) (y11_7l y11_7c q9 : Nat) (p9 : Option Addr) (p9l p9c : Nat) (w : World) : Prop :=
  CallK Try.prog 49 [.agg ⟨[.slice p9 p9l p9c]⟩, .agg ⟨[.int .i64 y11, .int .i64 y11_1, .int .i64 y11_2, .bool y11_3, .int .u64 y11_4, .slice y11_5 y11_5l y11_5c, .slice y11_6 y11_6l y11_6c, .slice y11_7 y11_7l y11_7c]⟩] B w [q11, q9] fun v w_1 => 
  ∃ b103 : Bool, v = .bool b103 ∧
  CallK Try.prog 50 [.agg ⟨[.slice p9 p9l p9c]⟩, .agg ⟨[.int .i64 y11, .int .i64 y11_1, .int .i64 y11_2, .bool y11_3, .int .u64 y11_4, .slice y11_5 y11_5l y11_5c, .slice y11_6 y11_6l y11_6c, .slice y11_7 y11_7l y11_7c]⟩] B w_1 [q11, q9] fun v_1 w_2 => 
  ∃ b106 : Bool, v_1 = .bool b106 ∧
  if (b103 == b106) = true
  then (CallK Try.prog 47 [] B w_2 [q11, q9] fun v_2 w_3 => 
   ∃ b109 : Bool, v_2 = .bool b109 ∧
   Ret B w_3 (R (.bool b109)))
  else (Ret B w_2 (R (.bool false)))
def V10.vc (B : Nat) (R : Value → World → Prop) (ns0 : Option Addr) (ns0l ns0c : Nat) (fs1 : Option Addr) (fs1l fs1c : Nat) (x2 x2_1 x2_2 : Int) (x2_3 : Bool) (x2_4 : Int) (x2_5 : Option Addr) (x2_5l x2_5c : Nat) (x2_6 : Option Addr) (x2_6l x2_6c : Nat) (x2_7 : Option Addr) (x2_7l x2_7c : Nat) (how3 : Int) (w : World) : Prop :=
  ∀ q6 : Nat, w.heap.size ≤ q6 →
if (decide (IntKind.wrap .i64 (IntKind.wrap .i64 ((x2_6l : Int) + (x2_7l : Int)) + (x2_5l : Int)) > 500)) = true
  then (CallK Try.prog 47 [] B w [q6] fun v w_1 => 
   ∃ b24 : Bool, v = .bool b24 ∧
   Ret B w_1 (R (.bool b24)))
  else (CallK Try.prog 35 [.slice ns0 ns0l ns0c] B w [q6] fun v w_1 => 
   ∃ (A26 : Option Addr) (A26l A26c : Nat), v = .agg ⟨[.slice A26 A26l A26c]⟩ ∧
   ∀ q9 : Nat, w_1.heap.size ≤ q9 →
   Expo B w_1 [q9, q6] fun w_2 => 
   Hide [q9, q6] (w_2.alloc (.cells ⟨[.slice fs1 fs1l fs1c]⟩ 70)) fun w_3 => 
   CallK Try.prog 48 [.pointer (some (⟨w_2.heap.size, 0, none⟩)), .agg ⟨[.slice A26 A26l A26c]⟩] B w_3 [q9, q6] fun v_1 w_4 => 
   ∃ (x32 x32_1 x32_2 : Int) (b32 : Bool) (x32_3 : Int) (A32 : Option Addr) (A32l A32c : Nat) (A32_1 : Option Addr) (A32_1l A32_1c : Nat) (A32_2 : Option Addr) (A32_2l A32_2c : Nat), v_1 = .agg ⟨[.int .i64 x32, .int .i64 x32_1, .int .i64 x32_2, .bool b32, .int .u64 x32_3, .slice A32 A32l A32c, .slice A32_1 A32_1l A32_1c, .slice A32_2 A32_2l A32_2c]⟩ ∧
   ∀ q11 : Nat, w_4.heap.size ≤ q11 →
   CallK Try.prog 49 [.agg ⟨[.slice A26 A26l A26c]⟩, .agg ⟨[.int .i64 x2, .int .i64 x2_1, .int .i64 x2_2, .bool x2_3, .int .u64 x2_4, .slice x2_5 x2_5l x2_5c, .slice x2_6 x2_6l x2_6c, .slice x2_7 x2_7l x2_7c]⟩] B w_4 [q11, q9, q6] fun v_2 w_5 => 
   ∃ b35 : Bool, v_2 = .bool b35 ∧
   CallK Try.prog 50 [.agg ⟨[.slice A26 A26l A26c]⟩, .agg ⟨[.int .i64 x2, .int .i64 x2_1, .int .i64 x2_2, .bool x2_3, .int .u64 x2_4, .slice x2_5 x2_5l x2_5c, .slice x2_6 x2_6l x2_6c, .slice x2_7 x2_7l x2_7c]⟩] B w_5 [q11, q9, q6] fun v_3 w_6 => 
   ∃ b38 : Bool, v_3 = .bool b38 ∧
   if (!(b35 == b38)) = false
   then (CallK Try.prog 49 [.agg ⟨[.slice A26 A26l A26c]⟩, .agg ⟨[.int .i64 x32, .int .i64 x32_1, .int .i64 x32_2, .bool b32, .int .u64 x32_3, .slice A32 A32l A32c, .slice A32_1 A32_1l A32_1c, .slice A32_2 A32_2l A32_2c]⟩] B w_6 [q11, q9, q6] fun v_4 w_7 => 
    ∃ b43 : Bool, v_4 = .bool b43 ∧
    if (!b43) = true
    then (Ret B w_7 (R (.bool false)))
    else ((8 : Int) ≠ 0 ∧
    if (Int.tmod how3 8 == 0) = true
     then (V10.b0 B R q11 x2 x32_1 x32_2 b32 x32_3 A32 A32l A32c A32_1 A32_1l A32_1c A32_2 A32_2l A32_2c q9 A26 A26l A26c w_7)
     else (if (Int.tmod how3 8 == 1) = true
      then (V10.b0 B R q11 x32 x2_1 x32_2 b32 x32_3 A32 A32l A32c A32_1 A32_1l A32_1c A32_2 A32_2l A32_2c q9 A26 A26l A26c w_7)
      else (if (Int.tmod how3 8 == 2) = true
       then (V10.b0 B R q11 x32 x32_1 x2_2 b32 x32_3 A32 A32l A32c A32_1 A32_1l A32_1c A32_2 A32_2l A32_2c q9 A26 A26l A26c w_7)
       else (if (Int.tmod how3 8 == 3) = true
        then (Expo B w_7 [q11, q9, q6] fun w_8 => 
         Hide [q11, q9, q6] (w_8.alloc (.cells ⟨[.int .u64 0]⟩ 51)) fun w_9 => 
         RunK Try.prog (Builtin.append_ #[50, 50] 50 ⟨[.slice A32_1 A32_1l A32_1c, .slice (some ⟨w_8.heap.size, 0, none⟩) 1 1]⟩) B w_9 [q11, q9, q6] fun v_5 w_10 => 
         ∃ (A71 : Option Addr) (A71l A71c : Nat), v_5 = .slice A71 A71l A71c ∧
         V10.b0 B R q11 x32 x32_1 x32_2 b32 x32_3 A32 A32l A32c A71 A71l A71c A32_2 A32_2l A32_2c q9 A26 A26l A26c w_10)
        else (if (Int.tmod how3 8 == 4) = true
         then (V10.b0 B R q11 x32 x32_1 x32_2 b32 x32_3 A32 A32l A32c A32_1 A32_1l A32_1c x2_7 x2_7l x2_7c q9 A26 A26l A26c w_7)
         else (if (Int.tmod how3 8 == 5) = true
          then (RunK Try.prog (Builtin.append_ #[65, 65] 65 ⟨[.slice A32 A32l A32c, .slice x2_5 x2_5l x2_5c]⟩) B w_7 [q11, q9, q6] fun v_5 w_8 => 
           ∃ (A84 : Option Addr) (A84l A84c : Nat), v_5 = .slice A84 A84l A84c ∧
           V10.b0 B R q11 x32 x32_1 x32_2 b32 x32_3 A84 A84l A84c A32_1 A32_1l A32_1c A32_2 A32_2l A32_2c q9 A26 A26l A26c w_8)
          else (if (Int.tmod how3 8 == 6) = true
           then (CallK Try.prog 51 [.pointer (some (⟨w_2.heap.size, 0, none⟩))] B w_7 [q11, q9, q6] fun v_5 w_8 => 
            ∃ x91 : Int, v_5 = .int .i64 x91 ∧ IntKind.wrap .i64 ((A26l : Int) + 1) ≠ 0 ∧
            Expo B w_8 [q11, q9, q6] fun w_9 => 
            Hide [q11, q9, q6] (w_9.alloc (.cells ⟨[.int .i64 (Int.tmod x91 (IntKind.wrap .i64 ((A26l : Int) + 1))), .slice none 0 0]⟩ 75)) fun w_10 => 
            RunK Try.prog (Builtin.append_ #[65, 65] 65 ⟨[.slice A32 A32l A32c, .slice (some ⟨w_9.heap.size, 0, none⟩) 1 1]⟩) B w_10 [q11, q9, q6] fun v_6 w_11 => 
            ∃ (A99 : Option Addr) (A99l A99c : Nat), v_6 = .slice A99 A99l A99c ∧
            V10.b0 B R q11 x32 x32_1 x32_2 b32 x32_3 A99 A99l A99c A32_1 A32_1l A32_1c A32_2 A32_2l A32_2c q9 A26 A26l A26c w_11)
           else (V10.b0 B R q11 x32 x32_1 x32_2 b32 x32_3 A32 A32l A32c x2_6 x2_6l x2_6c A32_2 A32_2l A32_2c q9 A26 A26l A26c w_7)))))))))
   else (Ret B w_6 (R (.bool false))))
noncomputable def V10.cfg (B : Nat) : Cfg := ⟨Try.prog, ⟨111, B⟩, [29], hasN [35, 47, 48, 49, 50, 51], hasN []⟩
noncomputable def V10.code : Code := (Try.f10.body).getD .skip
noncomputable def V10.cuts (B : Nat) (R : Value → World → Prop) : Nat → Cut := nthC [⟨[], [(11, 67, [.int .i64, .int .i64, .int .i64, .bool, .int .u64, .slice, .slice, .slice]), (9, 24, [.slice])], fun fs vs bs w => V10.b0 B R (nthB bs 0).blk (iV (nthV (nthB bs 0).cells 0)) (iV (nthV (nthB bs 0).cells 1)) (iV (nthV (nthB bs 0).cells 2)) (bV (nthV (nthB bs 0).cells 3)) (iV (nthV (nthB bs 0).cells 4)) (slA (nthV (nthB bs 0).cells 5)) (slL (nthV (nthB bs 0).cells 5)) (slC (nthV (nthB bs 0).cells 5)) (slA (nthV (nthB bs 0).cells 6)) (slL (nthV (nthB bs 0).cells 6)) (slC (nthV (nthB bs 0).cells 6)) (slA (nthV (nthB bs 0).cells 7)) (slL (nthV (nthB bs 0).cells 7)) (slC (nthV (nthB bs 0).cells 7)) (nthB bs 1).blk (slA (nthV (nthB bs 1).cells 0)) (slL (nthV (nthB bs 1).cells 0)) (slC (nthV (nthB bs 1).cells 0)) w⟩]
noncomputable def V10.h : H := .s (.z) (.s (.s (.z) (.c (.s (.z) (.z)) (.z))) (.s (.z) (.s (.z) (.s (.z) (.s (.s (.r [[0, 1, 3, 4, 2, 5, 6, 7, 8, 9, 10, 11, 12]]) (.c (.s (.z) (.z)) (.z))) (.cut 0 (.s (.z) (.b (.s (.z) (.c (.z) (.s (.z) (.c (.z) (.s (.z) (.c (.z) (.s (.z) (.c (.z) (.s (.z) (.c (.z) (.s (.z) (.c (.z) (.s (.z) (.c (.r [[0, 1, 2, 4, 5, 6, 7, 3, 8, 9, 10, 11, 12, 13]]) (.z))))))))))))))))) (.s (.r [[0, 1, 3, 4, 2, 5, 6, 7, 8, 9, 10]]) (.z))))))))
theorem V10.vc_eq (B : Nat) (R : Value → World → Prop) (ns0 : Option Addr) (ns0l ns0c : Nat) (fs1 : Option Addr) (fs1l fs1c : Nat) (x2 x2_1 x2_2 : Int) (x2_3 : Bool) (x2_4 : Int) (x2_5 : Option Addr) (x2_5l x2_5c : Nat) (x2_6 : Option Addr) (x2_6l x2_6c : Nat) (x2_7 : Option Addr) (x2_7l x2_7c : Nat) (how3 : Int) (w : World) : wpf (V10.cfg B) (V10.cuts B R) V10.code V10.h [] (postOf Try.prog B (Try.f10.results.toList) R) (argE 0 [.slice ns0 ns0l ns0c, .slice fs1 fs1l fs1c, .agg ⟨[.int .i64 x2, .int .i64 x2_1, .int .i64 x2_2, .bool x2_3, .int .u64 x2_4, .slice x2_5 x2_5l x2_5c, .slice x2_6 x2_6l x2_6c, .slice x2_7 x2_7l x2_7c]⟩, .int .u8 how3]) [] w = V10.vc B R ns0 ns0l ns0c fs1 fs1l fs1c x2 x2_1 x2_2 x2_3 x2_4 x2_5 x2_5l x2_5c x2_6 x2_6l x2_6c x2_7 x2_7l x2_7c how3 w := by kernel_rfl
theorem V10.obl (B : Nat) (R : Value → World → Prop) : oblP (V10.cfg B) (V10.cuts B R) V10.code V10.h [] (postOf Try.prog B (Try.f10.results.toList) R) := by
  have e : oblP (V10.cfg B) (V10.cuts B R) V10.code V10.h [] (postOf Try.prog B (Try.f10.results.toList) R) = (True ∧ ((True ∧ ((True ∧ True) ∧ True)) ∧ (True ∧ (True ∧ (True ∧ (((true = true) ∧ ((True ∧ True) ∧ True)) ∧ ((True ∧ (True ∧ (True ∧ (True ∧ (True ∧ (True ∧ (True ∧ (True ∧ (True ∧ (True ∧ (True ∧ (True ∧ (True ∧ (True ∧ ((true = true) ∧ True))))))))))))))) ∧ (∀ (q11 : Nat) (y11 y11_1 y11_2 : Int) (y11_3 : Bool) (y11_4 : Int) (y11_5 : Option Addr) (y11_5l y11_5c : Nat) (y11_6 : Option Addr) (y11_6l y11_6c : Nat) (y11_7 : Option Addr) (y11_7l y11_7c q9 : Nat) (p9 : Option Addr) (p9l p9c : Nat) (w : World), V10.b0 B R q11 y11 y11_1 y11_2 y11_3 y11_4 y11_5 y11_5l y11_5c y11_6 y11_6l y11_6c y11_7 y11_7l y11_7c q9 p9 p9l p9c w → V10.b0 B R q11 y11 y11_1 y11_2 y11_3 y11_4 y11_5 y11_5l y11_5c y11_6 y11_6l y11_6c y11_7 y11_7l y11_7c q9 p9 p9l p9c w) ∧ ((true = true) ∧ True)))))))) := by kernel_rfl
  rw [e]
  exact ⟨trivial, ⟨⟨trivial, ⟨⟨trivial, trivial⟩, trivial⟩⟩, ⟨trivial, ⟨trivial, ⟨trivial, ⟨⟨rfl, ⟨⟨trivial, trivial⟩, trivial⟩⟩, ⟨⟨trivial, ⟨trivial, ⟨trivial, ⟨trivial, ⟨trivial, ⟨trivial, ⟨trivial, ⟨trivial, ⟨trivial, ⟨trivial, ⟨trivial, ⟨trivial, ⟨trivial, ⟨trivial, ⟨rfl, trivial⟩⟩⟩⟩⟩⟩⟩⟩⟩⟩⟩⟩⟩⟩⟩, fun q11 y11 y11_1 y11_2 y11_3 y11_4 y11_5 y11_5l y11_5c y11_6 y11_6l y11_6c y11_7 y11_7l y11_7c q9 p9 p9l p9c w h => h, ⟨rfl, trivial⟩⟩⟩⟩⟩⟩⟩⟩
theorem V10.cfgOk (B : Nat) : CfgOk (V10.cfg B) := cfgOk_of (by kernel_rfl) (by kernel_rfl)
theorem V10.sound {ns0 : Option Addr} {ns0l ns0c : Nat} {fs1 : Option Addr} {fs1l fs1c : Nat} {x2 x2_1 x2_2 : Int} {x2_3 : Bool} {x2_4 : Int} {x2_5 : Option Addr} {x2_5l x2_5c : Nat} {x2_6 : Option Addr} {x2_6l x2_6c : Nat} {x2_7 : Option Addr} {x2_7l x2_7c : Nat} {how3 : Int} {w : World} {R : Value → World → Prop} (h : V10.vc w.heap.size R ns0 ns0l ns0c fs1 fs1l fs1c x2 x2_1 x2_2 x2_3 x2_4 x2_5 x2_5l x2_5c x2_6 x2_6l x2_6c x2_7 x2_7l x2_7c how3 w) : Calls Try.prog 10 ⟨[.slice ns0 ns0l ns0c, .slice fs1 fs1l fs1c, .agg ⟨[.int .i64 x2, .int .i64 x2_1, .int .i64 x2_2, .bool x2_3, .int .u64 x2_4, .slice x2_5 x2_5l x2_5c, .slice x2_6 x2_6l x2_6c, .slice x2_7 x2_7l x2_7c]⟩, .int .u8 how3]⟩ w fun e w' => ∃ v, e = .returned v ∧ R v w' :=
  calls_wpfP (c := V10.cfg w.heap.size) (fn := Try.f10) (x := V10.code) (V10.cuts w.heap.size R) V10.h (V10.cfgOk _) mixed Try.func10 (by kernel_rfl) (by kernel_rfl) (by kernel_rfl) rfl (V10.obl _ _) ((V10.vc_eq _ _ ns0 ns0l ns0c fs1 fs1l fs1c x2 x2_1 x2_2 x2_3 x2_4 x2_5 x2_5l x2_5c x2_6 x2_6l x2_6c x2_7 x2_7l x2_7c how3 _).symm ▸ h)

/-! function 11 -/
def V11.b1 (B : Nat) (R : Value → World → Prop) (at3 below4 : Int) (a14 : Addr) (m15 : Option Addr) (m15l m15c q17 : Nat) (x17 x17_1 x17_2 : Int) (x17_3 : Bool) (x17_4 : Int) (x17_5 : Option Addr) (x17_5l x17_5c : Nat) (x17_6 : Option Addr) (x17_6l x17_6c : Nat) (x17_7 : Option Addr) (x17_7l x17_7c q13 : Nat) (p13 : Option Addr) (p13l p13c : Nat) (w : World) : Prop :=
  CallK Try.prog 52 [.pointer (some a14), .agg ⟨[.slice p13 p13l p13c]⟩, .int .i64 at3, .int .i64 below4, .agg ⟨[.int .i64 x17, .int .i64 x17_1, .int .i64 x17_2, .bool x17_3, .int .u64 x17_4, .slice x17_5 x17_5l x17_5c, .slice x17_6 x17_6l x17_6c, .slice x17_7 x17_7l x17_7c]⟩] B w [q17, q13] fun v w_1 => 
  ∃ x56 : Int, v = .int .i64 x56 ∧
  CallK Try.prog 53 [.slice m15 m15l m15c, .agg ⟨[.slice p13 p13l p13c]⟩, .int .i64 at3, .int .i64 below4, .agg ⟨[.int .i64 x17, .int .i64 x17_1, .int .i64 x17_2, .bool x17_3, .int .u64 x17_4, .slice x17_5 x17_5l x17_5c, .slice x17_6 x17_6l x17_6c, .slice x17_7 x17_7l x17_7c]⟩] B w_1 [q17, q13] fun v_1 w_2 => 
  ∃ (A63 : Option Addr) (A63l A63c : Nat) (x63 : Int), v_1 = .tuple ⟨[.slice A63 A63l A63c, .int .i64 x63]⟩ ∧
  CallK Try.prog 54 [.pointer (some a14), .agg ⟨[.slice p13 p13l p13c]⟩, .int .i64 at3] B w_2 [q17, q13] fun v_2 w_3 => 
  ∃ (x70 x70_1 x70_2 : Int) (b70 : Bool) (x70_3 : Int) (A70 : Option Addr) (A70l A70c : Nat) (A70_1 : Option Addr) (A70_1l A70_1c : Nat) (A70_2 : Option Addr) (A70_2l A70_2c : Nat) (x70_4 x70_5 : Int), v_2 = .tuple ⟨[.agg ⟨[.int .i64 x70, .int .i64 x70_1, .int .i64 x70_2, .bool b70, .int .u64 x70_3, .slice A70 A70l A70c, .slice A70_1 A70_1l A70_1c, .slice A70_2 A70_2l A70_2c]⟩, .int .i64 x70_4, .int .i64 x70_5]⟩ ∧
  ∀ q21 : Nat, w_3.heap.size ≤ q21 →
  CallK Try.prog 55 [.slice A63 A63l A63c, .agg ⟨[.slice p13 p13l p13c]⟩, .int .i64 at3] B w_3 [q21, q17, q13] fun v_3 w_4 => 
  ∃ (x78 x78_1 x78_2 : Int) (b78 : Bool) (x78_3 : Int) (A78 : Option Addr) (A78l A78c : Nat) (A78_1 : Option Addr) (A78_1l A78_1c : Nat) (A78_2 : Option Addr) (A78_2l A78_2c : Nat) (x78_4 x78_5 : Int), v_3 = .tuple ⟨[.agg ⟨[.int .i64 x78, .int .i64 x78_1, .int .i64 x78_2, .bool b78, .int .u64 x78_3, .slice A78 A78l A78c, .slice A78_1 A78_1l A78_1c, .slice A78_2 A78_2l A78_2c]⟩, .int .i64 x78_4, .int .i64 x78_5]⟩ ∧
  ∀ q24 : Nat, w_4.heap.size ≤ q24 →
  if (x56 == x63) = true
  then (CallK Try.prog 56 [.agg ⟨[.int .i64 x70, .int .i64 x70_1, .int .i64 x70_2, .bool b70, .int .u64 x70_3, .slice A70 A70l A70c, .slice A70_1 A70_1l A70_1c, .slice A70_2 A70_2l A70_2c]⟩, .agg ⟨[.int .i64 x78, .int .i64 x78_1, .int .i64 x78_2, .bool b78, .int .u64 x78_3, .slice A78 A78l A78c, .slice A78_1 A78_1l A78_1c, .slice A78_2 A78_2l A78_2c]⟩] B w_4 [q24, q21, q17, q13] fun v_4 w_5 => 
   ∃ b88 : Bool, v_4 = .bool b88 ∧
   if b88 = true
   then (if (x70_4 == x78_4) = true
    then (if (x70_5 == x78_5) = true
     then (CallK Try.prog 46 [.pointer (some a14), .slice A63 A63l A63c] B w_5 [q24, q21, q17, q13] fun v_5 w_6 => 
      ∃ b103 : Bool, v_5 = .bool b103 ∧
      if b103 = true
      then (CallK Try.prog 47 [] B w_6 [q24, q21, q17, q13] fun v_6 w_7 => 
       ∃ b106 : Bool, v_6 = .bool b106 ∧
       Ret B w_7 (R (.bool b106)))
      else (Ret B w_6 (R (.bool false))))
     else (Ret B w_5 (R (.bool false))))
    else (Ret B w_5 (R (.bool false))))
   else (Ret B w_5 (R (.bool false))))
  else (Ret B w_4 (R (.bool false)))
def V11.b0 (B : Nat) (R : Value → World → Prop) (fs1 : Option Addr) (fs1l fs1c : Nat) (at3 below4 more5 : Int) (a14 : Addr) (m15 : Option Addr) (m15l m15c q13 : Nat) (p13 : Option Addr) (p13l p13c : Nat) (w : World) : Prop :=
  Expo B w [q13] fun w_1 => 
  Hide [q13] (w_1.alloc (.cells ⟨[.slice fs1 fs1l fs1c]⟩ 70)) fun w_2 => 
  CallK Try.prog 48 [.pointer (some (⟨w_1.heap.size, 0, none⟩)), .agg ⟨[.slice p13 p13l p13c]⟩] B w_2 [q13] fun v w_3 => 
  ∃ (x41 x41_1 x41_2 : Int) (b41 : Bool) (x41_3 : Int) (A41 : Option Addr) (A41l A41c : Nat) (A41_1 : Option Addr) (A41_1l A41_1c : Nat) (A41_2 : Option Addr) (A41_2l A41_2c : Nat), v = .agg ⟨[.int .i64 x41, .int .i64 x41_1, .int .i64 x41_2, .bool b41, .int .u64 x41_3, .slice A41 A41l A41c, .slice A41_1 A41_1l A41_1c, .slice A41_2 A41_2l A41_2c]⟩ ∧
  ∀ q17 : Nat, w_3.heap.size ≤ q17 →
  if (decide (more5 > 240)) = true
  then ((10 : Int) ≠ 0 ∧
  RunK Try.prog (Builtin.append_ #[50, 3] 50 ⟨[.slice A41_2 A41_2l A41_2c, .int .i64 (Int.tmod (IntKind.wrap .i64 more5) 10)]⟩) B w_3 [q17, q13] fun v_1 w_4 => 
   ∃ (A49 : Option Addr) (A49l A49c : Nat), v_1 = .slice A49 A49l A49c ∧
   V11.b1 B R at3 below4 a14 m15 m15l m15c q17 x41 x41_1 x41_2 b41 x41_3 A41 A41l A41c A41_1 A41_1l A41_1c A49 A49l A49c q13 p13 p13l p13c w_4)
  else (V11.b1 B R at3 below4 a14 m15 m15l m15c q17 x41 x41_1 x41_2 b41 x41_3 A41 A41l A41c A41_1 A41_1l A41_1c A41_2 A41_2l A41_2c q13 p13 p13l p13c w_3)
def V11.vc (B : Nat) (R : Value → World → Prop) (ns0 : Option Addr) (ns0l ns0c : Nat) (fs1 : Option Addr) (fs1l fs1c : Nat) (ws2 : Option Addr) (ws2l ws2c : Nat) (at3 below4 more5 : Int) (w : World) : Prop :=
  CallK Try.prog 35 [.slice ns0 ns0l ns0c] B w [] fun v w_1 => 
  ∃ (A28 : Option Addr) (A28l A28c : Nat), v = .agg ⟨[.slice A28 A28l A28c]⟩ ∧
  ∀ q13 : Nat, w_1.heap.size ≤ q13 →
  CallK Try.prog 41 [.int .i64 2, .slice ws2 ws2l ws2c] B w_1 [q13] fun v_1 w_2 => 
  ∃ (op31 A31 : Option Addr) (A31l A31c : Nat), v_1 = .tuple ⟨[.pointer op31, .slice A31 A31l A31c]⟩ ∧
  caseP op31
  (False)
  (fun p31 => V11.b0 B R fs1 fs1l fs1c at3 below4 more5 p31 A31 A31l A31c q13 A28 A28l A28c w_2)
noncomputable def V11.cfg (B : Nat) : Cfg := ⟨Try.prog, ⟨108, B⟩, [38], hasN [35, 41, 46, 47, 48, 52, 53, 54, 55, 56], hasN []⟩
noncomputable def V11.code : Code := (Try.f11.body).getD .skip
noncomputable def V11.cuts (B : Nat) (R : Value → World → Prop) : Nat → Cut := nthC [⟨[(1, .one (.slice)), (3, .one (.int .i64)), (4, .one (.int .i64)), (5, .one (.int .u8)), (14, .one (.ptr)), (15, .one (.slice))], [(13, 24, [.slice])], fun fs vs bs w => V11.b0 B R (slA (nthV vs 0)) (slL (nthV vs 0)) (slC (nthV vs 0)) (iV (nthV vs 1)) (iV (nthV vs 2)) (iV (nthV vs 3)) (pV (nthV vs 4)) (slA (nthV vs 5)) (slL (nthV vs 5)) (slC (nthV vs 5)) (nthB bs 0).blk (slA (nthV (nthB bs 0).cells 0)) (slL (nthV (nthB bs 0).cells 0)) (slC (nthV (nthB bs 0).cells 0)) w⟩,
  ⟨[(3, .one (.int .i64)), (4, .one (.int .i64)), (14, .one (.ptr)), (15, .one (.slice))], [(17, 67, [.int .i64, .int .i64, .int .i64, .bool, .int .u64, .slice, .slice, .slice]), (13, 24, [.slice])], fun fs vs bs w => V11.b1 B R (iV (nthV vs 0)) (iV (nthV vs 1)) (pV (nthV vs 2)) (slA (nthV vs 3)) (slL (nthV vs 3)) (slC (nthV vs 3)) (nthB bs 0).blk (iV (nthV (nthB bs 0).cells 0)) (iV (nthV (nthB bs 0).cells 1)) (iV (nthV (nthB bs 0).cells 2)) (bV (nthV (nthB bs 0).cells 3)) (iV (nthV (nthB bs 0).cells 4)) (slA (nthV (nthB bs 0).cells 5)) (slL (nthV (nthB bs 0).cells 5)) (slC (nthV (nthB bs 0).cells 5)) (slA (nthV (nthB bs 0).cells 6)) (slL (nthV (nthB bs 0).cells 6)) (slC (nthV (nthB bs 0).cells 6)) (slA (nthV (nthB bs 0).cells 7)) (slL (nthV (nthB bs 0).cells 7)) (slC (nthV (nthB bs 0).cells 7)) (nthB bs 1).blk (slA (nthV (nthB bs 1).cells 0)) (slL (nthV (nthB bs 1).cells 0)) (slC (nthV (nthB bs 1).cells 0)) w⟩]
noncomputable def V11.h : H := .s (.z) (.s (.z) (.cut 0 (.z) (.s (.s (.z) (.c (.s (.z) (.z)) (.z))) (.s (.z) (.s (.z) (.cut 1 (.s (.z) (.c (.z) (.z))) (.s (.z) (.s (.z) (.s (.z) (.s (.z) (.s (.z) (.z))))))))))))
theorem V11.vc_eq (B : Nat) (R : Value → World → Prop) (ns0 : Option Addr) (ns0l ns0c : Nat) (fs1 : Option Addr) (fs1l fs1c : Nat) (ws2 : Option Addr) (ws2l ws2c : Nat) (at3 below4 more5 : Int) (w : World) : wpf (V11.cfg B) (V11.cuts B R) V11.code V11.h [] (postOf Try.prog B (Try.f11.results.toList) R) (argE 0 [.slice ns0 ns0l ns0c, .slice fs1 fs1l fs1c, .slice ws2 ws2l ws2c, .int .i64 at3, .int .i64 below4, .int .u8 more5]) [] w = V11.vc B R ns0 ns0l ns0c fs1 fs1l fs1c ws2 ws2l ws2c at3 below4 more5 w := by kernel_rfl
theorem V11.obl (B : Nat) (R : Value → World → Prop) : oblP (V11.cfg B) (V11.cuts B R) V11.code V11.h [] (postOf Try.prog B (Try.f11.results.toList) R) := by
  have e : oblP (V11.cfg B) (V11.cuts B R) V11.code V11.h [] (postOf Try.prog B (Try.f11.results.toList) R) = (True ∧ (True ∧ (True ∧ (∀ (fs1 : Option Addr) (fs1l fs1c : Nat) (at3 below4 more5 : Int) (a14 : Addr) (m15 : Option Addr) (m15l m15c q13 : Nat) (p13 : Option Addr) (p13l p13c : Nat) (w : World), V11.b0 B R fs1 fs1l fs1c at3 below4 more5 a14 m15 m15l m15c q13 p13 p13l p13c w → V11.b0 B R fs1 fs1l fs1c at3 below4 more5 a14 m15 m15l m15c q13 p13 p13l p13c w) ∧ ((True ∧ ((True ∧ True) ∧ True)) ∧ (True ∧ (True ∧ ((True ∧ (True ∧ True)) ∧ (∀ (at3 below4 : Int) (a14 : Addr) (m15 : Option Addr) (m15l m15c q17 : Nat) (x17 x17_1 x17_2 : Int) (x17_3 : Bool) (x17_4 : Int) (x17_5 : Option Addr) (x17_5l x17_5c : Nat) (x17_6 : Option Addr) (x17_6l x17_6c : Nat) (x17_7 : Option Addr) (x17_7l x17_7c q13 : Nat) (p13 : Option Addr) (p13l p13c : Nat) (w : World), V11.b1 B R at3 below4 a14 m15 m15l m15c q17 x17 x17_1 x17_2 x17_3 x17_4 x17_5 x17_5l x17_5c x17_6 x17_6l x17_6c x17_7 x17_7l x17_7c q13 p13 p13l p13c w → V11.b1 B R at3 below4 a14 m15 m15l m15c q17 x17 x17_1 x17_2 x17_3 x17_4 x17_5 x17_5l x17_5c x17_6 x17_6l x17_6c x17_7 x17_7l x17_7c q13 p13 p13l p13c w) ∧ (True ∧ (True ∧ (True ∧ (True ∧ (True ∧ True)))))))))))) := by kernel_rfl
  rw [e]
  exact ⟨trivial, ⟨trivial, ⟨trivial, fun fs1 fs1l fs1c at3 below4 more5 a14 m15 m15l m15c q13 p13 p13l p13c w h => h, ⟨⟨trivial, ⟨⟨trivial, trivial⟩, trivial⟩⟩, ⟨trivial, ⟨trivial, ⟨⟨trivial, ⟨trivial, trivial⟩⟩, fun at3 below4 a14 m15 m15l m15c q17 x17 x17_1 x17_2 x17_3 x17_4 x17_5 x17_5l x17_5c x17_6 x17_6l x17_6c x17_7 x17_7l x17_7c q13 p13 p13l p13c w h => h, ⟨trivial, ⟨trivial, ⟨trivial, ⟨trivial, ⟨trivial, trivial⟩⟩⟩⟩⟩⟩⟩⟩⟩⟩⟩⟩
theorem V11.cfgOk (B : Nat) : CfgOk (V11.cfg B) := cfgOk_of (by kernel_rfl) (by kernel_rfl)
theorem V11.sound {ns0 : Option Addr} {ns0l ns0c : Nat} {fs1 : Option Addr} {fs1l fs1c : Nat} {ws2 : Option Addr} {ws2l ws2c : Nat} {at3 below4 more5 : Int} {w : World} {R : Value → World → Prop} (h : V11.vc w.heap.size R ns0 ns0l ns0c fs1 fs1l fs1c ws2 ws2l ws2c at3 below4 more5 w) : Calls Try.prog 11 ⟨[.slice ns0 ns0l ns0c, .slice fs1 fs1l fs1c, .slice ws2 ws2l ws2c, .int .i64 at3, .int .i64 below4, .int .u8 more5]⟩ w fun e w' => ∃ v, e = .returned v ∧ R v w' :=
  calls_wpfP (c := V11.cfg w.heap.size) (fn := Try.f11) (x := V11.code) (V11.cuts w.heap.size R) V11.h (V11.cfgOk _) mixed Try.func11 (by kernel_rfl) (by kernel_rfl) (by kernel_rfl) rfl (V11.obl _ _) ((V11.vc_eq _ _ ns0 ns0l ns0c fs1 fs1l fs1c ws2 ws2l ws2c at3 below4 more5 _).symm ▸ h)

/-! function 12 -/
def V12.l1 (B : Nat) (R : Value → World → Prop) : Nat → Addr → Option Addr → Nat → Nat → Int → Int → Int → World → Prop
  | 0 => fun _ _ _ _ _ _ _ _ => False
  | k + 1 => fun a12 m13 m13l m13c k16 w18 i23 w =>
    if (decide (i23 < (m13l : Int))) = true
    then (CallK Try.prog 57 [.pointer (some a12), .int .i64 i23] B w [] fun v w_1 => 
     ∃ x94 x94_1 : Int, v = .tuple ⟨[.int .u64 x94, .int .i64 x94_1]⟩ ∧
     if (decide (i23 < k16)) = false
     then (if (decide (i23 ≥ IntKind.wrap .i64 (k16 + w18))) = true
      then (∃ p111 : Addr, m13 = some p111 ∧ (0 : Int) ≤ i23 ∧ i23 < (m13l : Int) ∧
      ∃ x112 : Int, w_1.cell? (p111.add i23.toNat) = some (.int .u64 x112) ∧
      if (x94 != x112) = true
       then (Ret B w_1 (R (.bool false)))
       else ((V12.l1 B R k) a12 m13 m13l m13c k16 w18 (IntKind.wrap .i64 (i23 + 1)) w_1))
      else ((V12.l1 B R k) a12 m13 m13l m13c k16 w18 (IntKind.wrap .i64 (i23 + 1)) w_1))
     else (∃ p111 : Addr, m13 = some p111 ∧ (0 : Int) ≤ i23 ∧ i23 < (m13l : Int) ∧
     ∃ x112 : Int, w_1.cell? (p111.add i23.toNat) = some (.int .u64 x112) ∧
     if (x94 != x112) = true
      then (Ret B w_1 (R (.bool false)))
      else ((V12.l1 B R k) a12 m13 m13l m13c k16 w18 (IntKind.wrap .i64 (i23 + 1)) w_1)))
    else (CallK Try.prog 47 [] B w [] fun v w_1 => 
     ∃ b115 : Bool, v = .bool b115 ∧
     Ret B w_1 (R (.bool b115)))
def V12.b0 (B : Nat) (R : Value → World → Prop) (fs1 : Option Addr) (fs1l fs1c : Nat) (at3 below4 : Int) (a12 : Addr) (m13 : Option Addr) (m13l m13c q11 : Nat) (p11 : Option Addr) (p11l p11c : Nat) (w : World) : Prop :=
  Expo B w [q11] fun w_1 => 
  Hide [q11] (w_1.alloc (.cells ⟨[.slice fs1 fs1l fs1c]⟩ 70)) fun w_2 => 
  CallK Try.prog 48 [.pointer (some (⟨w_1.heap.size, 0, none⟩)), .agg ⟨[.slice p11 p11l p11c]⟩] B w_2 [q11] fun v w_3 => 
  ∃ (x40 x40_1 x40_2 : Int) (b40 : Bool) (x40_3 : Int) (A40 : Option Addr) (A40l A40c : Nat) (A40_1 : Option Addr) (A40_1l A40_1c : Nat) (A40_2 : Option Addr) (A40_2l A40_2c : Nat), v = .agg ⟨[.int .i64 x40, .int .i64 x40_1, .int .i64 x40_2, .bool b40, .int .u64 x40_3, .slice A40 A40l A40c, .slice A40_1 A40_1l A40_1c, .slice A40_2 A40_2l A40_2c]⟩ ∧
  ∀ q15 : Nat, w_3.heap.size ≤ q15 → (200 : Int) ≠ 0 ∧
  ∃ p51 : Addr, p11 = some p51 ∧ (0 : Int) ≤ x40 ∧ x40 < (p11l : Int) ∧
  ∃ x52 : Int, w_3.cell? ((p51.add (x40.toNat * 4)).add 0) = some (.int .i64 x52) ∧
  ∃ x52_1 : Int, w_3.cell? ((p51.add (x40.toNat * 4)).add 1) = some (.int .i64 x52_1) ∧
  ∃ x52_2 : Int, w_3.cell? ((p51.add (x40.toNat * 4)).add 2) = some (.int .i64 x52_2) ∧
  ∃ (A52 : Option Addr) (A52l A52c : Nat), w_3.cell? ((p51.add (x40.toNat * 4)).add 3) = some (.slice A52 A52l A52c) ∧
  CallK Try.prog 33 [.agg ⟨[.int .i64 x52, .int .i64 x52_1, .int .i64 x52_2, .slice A52 A52l A52c]⟩] B w_3 [q15, q11] fun v_1 w_4 => 
  ∃ x53 : Int, v_1 = .int .i64 x53 ∧
  CallK Try.prog 52 [.pointer (some a12), .agg ⟨[.slice p11 p11l p11c]⟩, .int .i64 (Int.tmod (IntKind.wrap .i64 at3) 200), .int .i64 (if (-1) > IntKind.wrap .i64 below4 then (-1) else IntKind.wrap .i64 below4), .agg ⟨[.int .i64 x40, .int .i64 x40_1, .int .i64 x40_2, .bool b40, .int .u64 x40_3, .slice A40 A40l A40c, .slice A40_1 A40_1l A40_1c, .slice A40_2 A40_2l A40_2c]⟩] B w_4 [q15, q11] fun v_2 w_5 => 
  ∃ x59 : Int, v_2 = .int .i64 x59 ∧
  CallK Try.prog 54 [.pointer (some a12), .agg ⟨[.slice p11 p11l p11c]⟩, .int .i64 (Int.tmod (IntKind.wrap .i64 at3) 200)] B w_5 [q15, q11] fun v_3 w_6 => 
  ∃ (x64 x64_1 x64_2 : Int) (b64 : Bool) (x64_3 : Int) (A64 : Option Addr) (A64l A64c : Nat) (A64_1 : Option Addr) (A64_1l A64_1c : Nat) (A64_2 : Option Addr) (A64_2l A64_2c : Nat) (x64_4 x64_5 : Int), v_3 = .tuple ⟨[.agg ⟨[.int .i64 x64, .int .i64 x64_1, .int .i64 x64_2, .bool b64, .int .u64 x64_3, .slice A64 A64l A64c, .slice A64_1 A64_1l A64_1c, .slice A64_2 A64_2l A64_2c]⟩, .int .i64 x64_4, .int .i64 x64_5]⟩ ∧
  ∀ q20 : Nat, w_6.heap.size ≤ q20 →
  if (x59 != 0) = false
  then (if (x64_5 != 0) = false
   then (if (x64_4 != (if (-1) > IntKind.wrap .i64 below4 then (-1) else IntKind.wrap .i64 below4)) = false
    then (CallK Try.prog 56 [.agg ⟨[.int .i64 x40, .int .i64 x40_1, .int .i64 x40_2, .bool b40, .int .u64 x40_3, .slice A40 A40l A40c, .slice A40_1 A40_1l A40_1c, .slice A40_2 A40_2l A40_2c]⟩, .agg ⟨[.int .i64 x64, .int .i64 x64_1, .int .i64 x64_2, .bool b64, .int .u64 x64_3, .slice A64 A64l A64c, .slice A64_1 A64_1l A64_1c, .slice A64_2 A64_2l A64_2c]⟩] B w_6 [q20, q15, q11] fun v_4 w_7 => 
     ∃ b82 : Bool, v_4 = .bool b82 ∧
     if (!b82) = true
     then (Ret B w_7 (R (.bool false)))
     else (∃ k_1, V12.l1 B R k_1 a12 m13 m13l m13c (Int.tmod (IntKind.wrap .i64 at3) 200) x53 0 w_7))
    else (Ret B w_6 (R (.bool false))))
   else (Ret B w_6 (R (.bool false))))
  else (Ret B w_6 (R (.bool false)))
def V12.vc (B : Nat) (R : Value → World → Prop) (ns0 : Option Addr) (ns0l ns0c : Nat) (fs1 : Option Addr) (fs1l fs1c : Nat) (ws2 : Option Addr) (ws2l ws2c : Nat) (at3 below4 : Int) (w : World) : Prop :=
  CallK Try.prog 35 [.slice ns0 ns0l ns0c] B w [] fun v w_1 => 
  ∃ (A27 : Option Addr) (A27l A27c : Nat), v = .agg ⟨[.slice A27 A27l A27c]⟩ ∧
  ∀ q11 : Nat, w_1.heap.size ≤ q11 →
  CallK Try.prog 41 [.int .i64 4, .slice ws2 ws2l ws2c] B w_1 [q11] fun v_1 w_2 => 
  ∃ (op30 A30 : Option Addr) (A30l A30c : Nat), v_1 = .tuple ⟨[.pointer op30, .slice A30 A30l A30c]⟩ ∧
  caseP op30
  (False)
  (fun p30 => V12.b0 B R fs1 fs1l fs1c at3 below4 p30 A30 A30l A30c q11 A27 A27l A27c w_2)
noncomputable def V12.cfg (B : Nat) : Cfg := ⟨Try.prog, ⟨116, B⟩, [37], hasN [33, 35, 41, 47, 48, 52, 54, 56, 57], hasN []⟩
noncomputable def V12.code : Code := (Try.f12.body).getD .skip
noncomputable def V12.cuts (B : Nat) (R : Value → World → Prop) : Nat → Cut := nthC [⟨[(1, .one (.slice)), (3, .one (.int .u8)), (4, .one (.int .i8)), (12, .one (.ptr)), (13, .one (.slice))], [(11, 24, [.slice])], fun fs vs bs w => V12.b0 B R (slA (nthV vs 0)) (slL (nthV vs 0)) (slC (nthV vs 0)) (iV (nthV vs 1)) (iV (nthV vs 2)) (pV (nthV vs 3)) (slA (nthV vs 4)) (slL (nthV vs 4)) (slC (nthV vs 4)) (nthB bs 0).blk (slA (nthV (nthB bs 0).cells 0)) (slL (nthV (nthB bs 0).cells 0)) (slC (nthV (nthB bs 0).cells 0)) w⟩,
  ⟨[(12, .one (.ptr)), (13, .one (.slice)), (16, .one (.int .i64)), (18, .one (.int .i64)), (23, .one (.int .i64))], [], fun fs vs bs w => V12.l1 B R (nthN fs 0) (pV (nthV vs 0)) (slA (nthV vs 1)) (slL (nthV vs 1)) (slC (nthV vs 1)) (iV (nthV vs 2)) (iV (nthV vs 3)) (iV (nthV vs 4)) w⟩]
noncomputable def V12.h : H := .s (.z) (.s (.z) (.cut 0 (.z) (.s (.s (.z) (.c (.s (.z) (.z)) (.z))) (.s (.z) (.s (.z) (.s (.z) (.s (.z) (.s (.z) (.s (.s (.z) (.c (.s (.z) (.z)) (.z))) (.s (.s (.z) (.b (.l 1 (.s (.s (.z) (.c (.z) (.z))) (.s (.b (.s (.z) (.s (.z) (.c (.s (.z) (.z)) (.z))))) (.z)))))) (.s (.z) (.z))))))))))))
theorem V12.vc_eq (B : Nat) (R : Value → World → Prop) (ns0 : Option Addr) (ns0l ns0c : Nat) (fs1 : Option Addr) (fs1l fs1c : Nat) (ws2 : Option Addr) (ws2l ws2c : Nat) (at3 below4 : Int) (w : World) : wpf (V12.cfg B) (V12.cuts B R) V12.code V12.h [] (postOf Try.prog B (Try.f12.results.toList) R) (argE 0 [.slice ns0 ns0l ns0c, .slice fs1 fs1l fs1c, .slice ws2 ws2l ws2c, .int .u8 at3, .int .i8 below4]) [] w = V12.vc B R ns0 ns0l ns0c fs1 fs1l fs1c ws2 ws2l ws2c at3 below4 w := by kernel_rfl
theorem V12.obl (B : Nat) (R : Value → World → Prop) : oblP (V12.cfg B) (V12.cuts B R) V12.code V12.h [] (postOf Try.prog B (Try.f12.results.toList) R) := by
  have e : oblP (V12.cfg B) (V12.cuts B R) V12.code V12.h [] (postOf Try.prog B (Try.f12.results.toList) R) = (True ∧ (True ∧ (True ∧ (∀ (fs1 : Option Addr) (fs1l fs1c : Nat) (at3 below4 : Int) (a12 : Addr) (m13 : Option Addr) (m13l m13c q11 : Nat) (p11 : Option Addr) (p11l p11c : Nat) (w : World), V12.b0 B R fs1 fs1l fs1c at3 below4 a12 m13 m13l m13c q11 p11 p11l p11c w → V12.b0 B R fs1 fs1l fs1c at3 below4 a12 m13 m13l m13c q11 p11 p11l p11c w) ∧ ((True ∧ ((True ∧ True) ∧ True)) ∧ (True ∧ (True ∧ (True ∧ (True ∧ (True ∧ ((True ∧ ((True ∧ True) ∧ True)) ∧ ((True ∧ ((∀ (a12 : Addr) (m13 : Option Addr) (m13l m13c : Nat) (k16 w18 i23 : Int) (w : World), ¬ V12.l1 B R 0 a12 m13 m13l m13c k16 w18 i23 w) ∧ (∀ k1, ∀ (a12 : Addr) (m13 : Option Addr) (m13l m13c : Nat) (k16 w18 i23 : Int) (w : World), V12.l1 B R (k1 + 1) a12 m13 m13l m13c k16 w18 i23 w → V12.l1 B R (k1 + 1) a12 m13 m13l m13c k16 w18 i23 w) ∧ ∀ k1 : Nat, ((True ∧ (True ∧ True)) ∧ ((True ∧ (True ∧ ((True ∧ True) ∧ True))) ∧ True)))) ∧ (True ∧ True)))))))))))) := by kernel_rfl
  rw [e]
  exact ⟨trivial, ⟨trivial, ⟨trivial, fun fs1 fs1l fs1c at3 below4 a12 m13 m13l m13c q11 p11 p11l p11c w h => h, ⟨⟨trivial, ⟨⟨trivial, trivial⟩, trivial⟩⟩, ⟨trivial, ⟨trivial, ⟨trivial, ⟨trivial, ⟨trivial, ⟨⟨trivial, ⟨⟨trivial, trivial⟩, trivial⟩⟩, ⟨⟨trivial, ⟨fun a12 m13 m13l m13c k16 w18 i23 w h => h, fun _ a12 m13 m13l m13c k16 w18 i23 w h => h, fun k1 => ⟨⟨trivial, ⟨trivial, trivial⟩⟩, ⟨⟨trivial, ⟨trivial, ⟨⟨trivial, trivial⟩, trivial⟩⟩⟩, trivial⟩⟩⟩⟩, ⟨trivial, trivial⟩⟩⟩⟩⟩⟩⟩⟩⟩⟩⟩⟩
theorem V12.cfgOk (B : Nat) : CfgOk (V12.cfg B) := cfgOk_of (by kernel_rfl) (by kernel_rfl)
theorem V12.sound {ns0 : Option Addr} {ns0l ns0c : Nat} {fs1 : Option Addr} {fs1l fs1c : Nat} {ws2 : Option Addr} {ws2l ws2c : Nat} {at3 below4 : Int} {w : World} {R : Value → World → Prop} (h : V12.vc w.heap.size R ns0 ns0l ns0c fs1 fs1l fs1c ws2 ws2l ws2c at3 below4 w) : Calls Try.prog 12 ⟨[.slice ns0 ns0l ns0c, .slice fs1 fs1l fs1c, .slice ws2 ws2l ws2c, .int .u8 at3, .int .i8 below4]⟩ w fun e w' => ∃ v, e = .returned v ∧ R v w' :=
  calls_wpfP (c := V12.cfg w.heap.size) (fn := Try.f12) (x := V12.code) (V12.cuts w.heap.size R) V12.h (V12.cfgOk _) mixed Try.func12 (by kernel_rfl) (by kernel_rfl) (by kernel_rfl) rfl (V12.obl _ _) ((V12.vc_eq _ _ ns0 ns0l ns0c fs1 fs1l fs1c ws2 ws2l ws2c at3 below4 _).symm ▸ h)

/-! function 13 -/
def V13.l3 (B : Nat) (R : Value → World → Prop) : Nat → Option Addr → Nat → Nat → Addr → Option Addr → Nat → Nat → Int → Int → Nat → Option Addr → Nat → Nat → World → Prop
  | 0 => fun _ _ _ _ _ _ _ _ _ _ _ _ _ _ => False
  | k + 1 => fun m12 m12l m12c a17 A95 A95l A95c x96 x97 q11 p11 p11l p11c w =>
    if (decide (x97 < x96)) = true
    then (∃ p99 : Addr, A95 = some p99 ∧ (0 : Int) ≤ x97 ∧ x97 < (A95l : Int) ∧
    ∃ x100 : Int, w.cell? (p99.add x97.toNat) = some (.int .i64 x100) ∧
    CallK Try.prog 54 [.pointer (some a17), .agg ⟨[.slice p11 p11l p11c]⟩, .int .i64 x100] B w [q11] fun v w_1 => 
     ∃ (x105 x105_1 x105_2 : Int) (b105 : Bool) (x105_3 : Int) (A105 : Option Addr) (A105l A105c : Nat) (A105_1 : Option Addr) (A105_1l A105_1c : Nat) (A105_2 : Option Addr) (A105_2l A105_2c : Nat) (x105_4 x105_5 : Int), v = .tuple ⟨[.agg ⟨[.int .i64 x105, .int .i64 x105_1, .int .i64 x105_2, .bool b105, .int .u64 x105_3, .slice A105 A105l A105c, .slice A105_1 A105_1l A105_1c, .slice A105_2 A105_2l A105_2c]⟩, .int .i64 x105_4, .int .i64 x105_5]⟩ ∧
     ∀ q21 : Nat, w_1.heap.size ≤ q21 →
     CallK Try.prog 55 [.slice m12 m12l m12c, .agg ⟨[.slice p11 p11l p11c]⟩, .int .i64 x100] B w_1 [q21, q11] fun v_1 w_2 => 
     ∃ (x113 x113_1 x113_2 : Int) (b113 : Bool) (x113_3 : Int) (A113 : Option Addr) (A113l A113c : Nat) (A113_1 : Option Addr) (A113_1l A113_1c : Nat) (A113_2 : Option Addr) (A113_2l A113_2c : Nat) (x113_4 x113_5 : Int), v_1 = .tuple ⟨[.agg ⟨[.int .i64 x113, .int .i64 x113_1, .int .i64 x113_2, .bool b113, .int .u64 x113_3, .slice A113 A113l A113c, .slice A113_1 A113_1l A113_1c, .slice A113_2 A113_2l A113_2c]⟩, .int .i64 x113_4, .int .i64 x113_5]⟩ ∧
     ∀ q24 : Nat, w_2.heap.size ≤ q24 →
     CallK Try.prog 59 [.pointer (some a17), .agg ⟨[.slice p11 p11l p11c]⟩, .int .i64 x100] B w_2 [q24, q21, q11] fun v_2 w_3 => 
     ∃ (A121 : Option Addr) (A121l A121c : Nat) (x121 : Int), v_2 = .tuple ⟨[.slice A121 A121l A121c, .int .i64 x121]⟩ ∧
     CallK Try.prog 60 [.slice m12 m12l m12c, .agg ⟨[.slice p11 p11l p11c]⟩, .int .i64 x100] B w_3 [q24, q21, q11] fun v_3 w_4 => 
     ∃ (A128 : Option Addr) (A128l A128c : Nat) (x128 : Int), v_3 = .tuple ⟨[.slice A128 A128l A128c, .int .i64 x128]⟩ ∧
     CallK Try.prog 56 [.agg ⟨[.int .i64 x105, .int .i64 x105_1, .int .i64 x105_2, .bool b105, .int .u64 x105_3, .slice A105 A105l A105c, .slice A105_1 A105_1l A105_1c, .slice A105_2 A105_2l A105_2c]⟩, .agg ⟨[.int .i64 x113, .int .i64 x113_1, .int .i64 x113_2, .bool b113, .int .u64 x113_3, .slice A113 A113l A113c, .slice A113_1 A113_1l A113_1c, .slice A113_2 A113_2l A113_2c]⟩] B w_4 [q24, q21, q11] fun v_4 w_5 => 
     ∃ b133 : Bool, v_4 = .bool b133 ∧
     if (!b133) = false
     then (if (x105_4 != x113_4) = false
      then (if (x105_5 != x113_5) = false
       then (CallK Try.prog 40 [.slice A121 A121l A121c, .slice A128 A128l A128c] B w_5 [q24, q21, q11] fun v_5 w_6 => 
        ∃ b148 : Bool, v_5 = .bool b148 ∧
        if (!b148) = false
        then (if (x121 != x128) = true
         then (Ret B w_6 (R (.bool false)))
         else ((V13.l3 B R k) m12 m12l m12c a17 A95 A95l A95c x96 (IntKind.wrap .i64 (x97 + 1)) q11 p11 p11l p11c w_6))
        else (Ret B w_6 (R (.bool false))))
       else (Ret B w_5 (R (.bool false))))
      else (Ret B w_5 (R (.bool false))))
     else (Ret B w_5 (R (.bool false))))
    else (CallK Try.prog 46 [.pointer (some a17), .slice m12 m12l m12c] B w [q11] fun v w_1 => 
     ∃ b159 : Bool, v = .bool b159 ∧
     if b159 = true
     then (CallK Try.prog 47 [] B w_1 [q11] fun v_1 w_2 => 
      ∃ b161 : Bool, v_1 = .bool b161 ∧
      Ret B w_2 (R (.bool b161)))
     else (Ret B w_1 (R (.bool false))))
def V13.b2 (B : Nat) (R : Value → World → Prop) (ws2 : Option Addr) (ws2l ws2c : Nat) (top4 : Int) (m12 : Option Addr) (m12l m12c : Nat) (at14 : Option Addr) (at14l at14c : Nat) (a17 : Addr) (q11 : Nat) (p11 : Option Addr) (p11l p11c : Nat) (w : World) : Prop :=
  (40 : Int) ≠ 0 ∧
Expo B w [q11] fun w_1 => 
  Hide [q11] (w_1.alloc (.cells ⟨[.int .i64 top4, .int .i64 (Int.tmod (ws2l : Int) 40), .int .i64 (-1)]⟩ 3)) fun w_2 => 
  RunK Try.prog (Builtin.append_ #[42, 42] 42 ⟨[.slice at14 at14l at14c, .slice (some ⟨w_1.heap.size, 0, none⟩) 3 3]⟩) B w_2 [q11] fun v w_3 => 
  ∃ (A95 : Option Addr) (A95l A95c : Nat), v = .slice A95 A95l A95c ∧
  ∃ k_1, V13.l3 B R k_1 m12 m12l m12c a17 A95 A95l A95c (A95l : Int) 0 q11 p11 p11l p11c w_3
def V13.b1 (B : Nat) (R : Value → World → Prop) (ws2 : Option Addr) (ws2l ws2c : Nat) (top4 : Int) (m12 : Option Addr) (m12l m12c : Nat) (at14 : Option Addr) (at14l at14c q11 : Nat) (p11 : Option Addr) (p11l p11c : Nat) (w : World) : Prop :=
  CallK Try.prog 41 [.int .i64 8, .slice m12 m12l m12c] B w [q11] fun v w_1 => 
  ∃ (op84 A84 : Option Addr) (A84l A84c : Nat), v = .tuple ⟨[.pointer op84, .slice A84 A84l A84c]⟩ ∧
  caseP op84
  (False)
  (fun p84 => V13.b2 B R ws2 ws2l ws2c top4 m12 m12l m12c at14 at14l at14c p84 q11 p11 p11l p11c w_1)
def V13.l0 (B : Nat) (R : Value → World → Prop) : Nat → Option Addr → Nat → Nat → Option Addr → Nat → Nat → Int → Option Addr → Nat → Nat → Option Addr → Nat → Nat → Int → Int → Nat → Option Addr → Nat → Nat → World → Prop
  | 0 => fun _ _ _ _ _ _ _ _ _ _ _ _ _ _ _ _ _ _ _ _ => False
  | k + 1 => fun ws2 ws2l ws2c turns3 turns3l turns3c top4 m12 m12l m12c at14 at14l at14c end15 i16 q11 p11 p11l p11c w =>
    if (decide (IntKind.wrap .i64 (i16 + 1) < (turns3l : Int))) = true
    then (if (decide (i16 < 20)) = true
     then (∃ p63 : Addr, turns3 = some p63 ∧ (0 : Int) ≤ i16 ∧ i16 < (turns3l : Int) ∧
     ∃ x64 : Int, w.cell? (p63.add i16.toNat) = some (.int .u8 x64) ∧ (if 1 > end15 then 1 else end15) ≠ 0 ∧
     ∃ p72 : Addr, turns3 = some p72 ∧ (0 : Int) ≤ IntKind.wrap .i64 (i16 + 1) ∧ IntKind.wrap .i64 (i16 + 1) < (turns3l : Int) ∧
     ∃ x73 : Int, w.cell? (p72.add ((IntKind.wrap .i64 (i16 + 1)).toNat)) = some (.int .u8 x73) ∧
     ∃ p77 : Addr, turns3 = some p77 ∧ (0 : Int) ≤ i16 ∧ i16 < (turns3l : Int) ∧
     ∃ x78 : Int, w.cell? (p77.add i16.toNat) = some (.int .u8 x78) ∧ (8 : Int) ≠ 0 ∧ (0 : Int) ≤ Int.tmod x78 8 ∧
     ∃ p81 : Addr, m12 = some p81 ∧ (0 : Int) ≤ Int.tmod (IntKind.wrap .i64 x64) (if 1 > end15 then 1 else end15) ∧ Int.tmod (IntKind.wrap .i64 x64) (if 1 > end15 then 1 else end15) < (m12l : Int) ∧
     (∃ u, w.cell? ((p81.add ((Int.tmod (IntKind.wrap .i64 x64) (if 1 > end15 then 1 else end15)).toNat)).add 0) = some u) ∧ w.frozen? ((p81.add ((Int.tmod (IntKind.wrap .i64 x64) (if 1 > end15 then 1 else end15)).toNat)).add 0) = false ∧
     let w_1 := w.setCell ((p81.add ((Int.tmod (IntKind.wrap .i64 x64) (if 1 > end15 then 1 else end15)).toNat)).add 0) (.int .u64 (Int.fdiv (IntKind.wrap .u64 x73) (2 ^ min ((Int.tmod x78 8).toNat) 64)));
     (V13.l0 B R k) ws2 ws2l ws2c turns3 turns3l turns3c top4 m12 m12l m12c at14 at14l at14c end15 (IntKind.wrap .i64 (i16 + 2)) q11 p11 p11l p11c w_1)
     else (V13.b1 B R ws2 ws2l ws2c top4 m12 m12l m12c at14 at14l at14c q11 p11 p11l p11c w))
    else (V13.b1 B R ws2 ws2l ws2c top4 m12 m12l m12c at14 at14l at14c q11 p11 p11l p11c w)
def V13.vc (B : Nat) (R : Value → World → Prop) (ns0 : Option Addr) (ns0l ns0c : Nat) (fs1 : Option Addr) (fs1l fs1c : Nat) (ws2 : Option Addr) (ws2l ws2c : Nat) (turns3 : Option Addr) (turns3l turns3c : Nat) (top4 : Int) (w : World) : Prop :=
  CallK Try.prog 35 [.slice ns0 ns0l ns0c] B w [] fun v w_1 => 
  ∃ (A32 : Option Addr) (A32l A32c : Nat), v = .agg ⟨[.slice A32 A32l A32c]⟩ ∧
  ∀ q11 : Nat, w_1.heap.size ≤ q11 →
  RunK Try.prog (Instr.makeSlice 50 (.int .i64 512) (.int .i64 512)) B w_1 [q11] fun v_1 w_2 => 
  ∃ (A33 : Option Addr) (A33l A33c : Nat), v_1 = .slice A33 A33l A33c ∧
  RunK Try.prog (Builtin.copy_ #[50, 50] 3 ⟨[.slice A33 A33l A33c, .slice ws2 ws2l ws2c]⟩) B w_2 [q11] fun v_2 w_3 => 
  ∃ x36 : Int, v_2 = .int .i64 x36 ∧ (40 : Int) ≠ 0 ∧
  CallK Try.prog 58 [.agg ⟨[.slice A32 A32l A32c]⟩, .slice fs1 fs1l fs1c, .int .i64 (Int.tmod (ws2l : Int) 40), .int .i64 512, .slice A33 A33l A33c] B w_3 [q11] fun v_3 w_4 => 
  ∃ (A44 : Option Addr) (A44l A44c : Nat) (A44_1 : Option Addr) (A44_1l A44_1c : Nat) (A44_2 : Option Addr) (A44_2l A44_2c : Nat) (x44 : Int), v_3 = .tuple ⟨[.slice A44 A44l A44c, .slice A44_1 A44_1l A44_1c, .slice A44_2 A44_2l A44_2c, .int .i64 x44]⟩ ∧
  ∃ k_1, V13.l0 B R k_1 ws2 ws2l ws2c turns3 turns3l turns3c top4 A44_2 A44_2l A44_2c A44_1 A44_1l A44_1c x44 0 q11 A32 A32l A32c w_4
noncomputable def V13.cfg (B : Nat) : Cfg := ⟨Try.prog, ⟨163, B⟩, [], hasN [35, 40, 41, 46, 47, 54, 55, 56, 58, 59, 60], hasN []⟩
noncomputable def V13.code : Code := (Try.f13.body).getD .skip
noncomputable def V13.cuts (B : Nat) (R : Value → World → Prop) : Nat → Cut := nthC [⟨[(2, .one (.slice)), (3, .one (.slice)), (4, .one (.int .i64)), (12, .one (.slice)), (14, .one (.slice)), (15, .one (.int .i64)), (16, .one (.int .i64))], [(11, 24, [.slice])], fun fs vs bs w => V13.l0 B R (nthN fs 0) (slA (nthV vs 0)) (slL (nthV vs 0)) (slC (nthV vs 0)) (slA (nthV vs 1)) (slL (nthV vs 1)) (slC (nthV vs 1)) (iV (nthV vs 2)) (slA (nthV vs 3)) (slL (nthV vs 3)) (slC (nthV vs 3)) (slA (nthV vs 4)) (slL (nthV vs 4)) (slC (nthV vs 4)) (iV (nthV vs 5)) (iV (nthV vs 6)) (nthB bs 0).blk (slA (nthV (nthB bs 0).cells 0)) (slL (nthV (nthB bs 0).cells 0)) (slC (nthV (nthB bs 0).cells 0)) w⟩,
  ⟨[(2, .one (.slice)), (4, .one (.int .i64)), (12, .one (.slice)), (14, .one (.slice))], [(11, 24, [.slice])], fun fs vs bs w => V13.b1 B R (slA (nthV vs 0)) (slL (nthV vs 0)) (slC (nthV vs 0)) (iV (nthV vs 1)) (slA (nthV vs 2)) (slL (nthV vs 2)) (slC (nthV vs 2)) (slA (nthV vs 3)) (slL (nthV vs 3)) (slC (nthV vs 3)) (nthB bs 0).blk (slA (nthV (nthB bs 0).cells 0)) (slL (nthV (nthB bs 0).cells 0)) (slC (nthV (nthB bs 0).cells 0)) w⟩,
  ⟨[(2, .one (.slice)), (4, .one (.int .i64)), (12, .one (.slice)), (14, .one (.slice)), (17, .one (.ptr))], [(11, 24, [.slice])], fun fs vs bs w => V13.b2 B R (slA (nthV vs 0)) (slL (nthV vs 0)) (slC (nthV vs 0)) (iV (nthV vs 1)) (slA (nthV vs 2)) (slL (nthV vs 2)) (slC (nthV vs 2)) (slA (nthV vs 3)) (slL (nthV vs 3)) (slC (nthV vs 3)) (pV (nthV vs 4)) (nthB bs 0).blk (slA (nthV (nthB bs 0).cells 0)) (slL (nthV (nthB bs 0).cells 0)) (slC (nthV (nthB bs 0).cells 0)) w⟩,
  ⟨[(12, .one (.slice)), (17, .one (.ptr)), (95, .one (.slice)), (96, .one (.int .i64)), (97, .one (.int .i64))], [(11, 24, [.slice])], fun fs vs bs w => V13.l3 B R (nthN fs 0) (slA (nthV vs 0)) (slL (nthV vs 0)) (slC (nthV vs 0)) (pV (nthV vs 1)) (slA (nthV vs 2)) (slL (nthV vs 2)) (slC (nthV vs 2)) (iV (nthV vs 3)) (iV (nthV vs 4)) (nthB bs 0).blk (slA (nthV (nthB bs 0).cells 0)) (slL (nthV (nthB bs 0).cells 0)) (slC (nthV (nthB bs 0).cells 0)) w⟩]
noncomputable def V13.h : H := .s (.z) (.s (.z) (.s (.z) (.s (.z) (.s (.z) (.cut 1 (.s (.z) (.b (.l 0 (.s (.s (.z) (.c (.z) (.z))) (.s (.b (.r [[0, 1, 2, 3, 4, 5, 6, 7, 8, 9, 10, 11, 12, 13, 14, 15, 16, 17, 18, 19, 20, 21, 22]])) (.z)))))) (.cut 2 (.z) (.s (.s (.z) (.c (.s (.z) (.z)) (.z))) (.s (.s (.z) (.b (.l 3 (.s (.z) (.s (.c (.z) (.z)) (.s (.b (.s (.z) (.s (.z) (.s (.z) (.s (.z) (.s (.z) (.s (.z) (.c (.s (.z) (.z)) (.z))))))))) (.z))))))) (.s (.z) (.z))))))))))
theorem V13.vc_eq (B : Nat) (R : Value → World → Prop) (ns0 : Option Addr) (ns0l ns0c : Nat) (fs1 : Option Addr) (fs1l fs1c : Nat) (ws2 : Option Addr) (ws2l ws2c : Nat) (turns3 : Option Addr) (turns3l turns3c : Nat) (top4 : Int) (w : World) : wpf (V13.cfg B) (V13.cuts B R) V13.code V13.h [] (postOf Try.prog B (Try.f13.results.toList) R) (argE 0 [.slice ns0 ns0l ns0c, .slice fs1 fs1l fs1c, .slice ws2 ws2l ws2c, .slice turns3 turns3l turns3c, .int .i64 top4]) [] w = V13.vc B R ns0 ns0l ns0c fs1 fs1l fs1c ws2 ws2l ws2c turns3 turns3l turns3c top4 w := by kernel_rfl
theorem V13.obl (B : Nat) (R : Value → World → Prop) : oblP (V13.cfg B) (V13.cuts B R) V13.code V13.h [] (postOf Try.prog B (Try.f13.results.toList) R) := by
  have e : oblP (V13.cfg B) (V13.cuts B R) V13.code V13.h [] (postOf Try.prog B (Try.f13.results.toList) R) = (True ∧ (True ∧ (True ∧ (True ∧ (True ∧ ((True ∧ ((∀ (ws2 : Option Addr) (ws2l ws2c : Nat) (turns3 : Option Addr) (turns3l turns3c : Nat) (top4 : Int) (m12 : Option Addr) (m12l m12c : Nat) (at14 : Option Addr) (at14l at14c : Nat) (end15 i16 : Int) (q11 : Nat) (p11 : Option Addr) (p11l p11c : Nat) (w : World), ¬ V13.l0 B R 0 ws2 ws2l ws2c turns3 turns3l turns3c top4 m12 m12l m12c at14 at14l at14c end15 i16 q11 p11 p11l p11c w) ∧ (∀ k0, ∀ (ws2 : Option Addr) (ws2l ws2c : Nat) (turns3 : Option Addr) (turns3l turns3c : Nat) (top4 : Int) (m12 : Option Addr) (m12l m12c : Nat) (at14 : Option Addr) (at14l at14c : Nat) (end15 i16 : Int) (q11 : Nat) (p11 : Option Addr) (p11l p11c : Nat) (w : World), V13.l0 B R (k0 + 1) ws2 ws2l ws2c turns3 turns3l turns3c top4 m12 m12l m12c at14 at14l at14c end15 i16 q11 p11 p11l p11c w → V13.l0 B R (k0 + 1) ws2 ws2l ws2c turns3 turns3l turns3c top4 m12 m12l m12c at14 at14l at14c end15 i16 q11 p11 p11l p11c w) ∧ ∀ k0 : Nat, ((True ∧ (True ∧ True)) ∧ ((true = true) ∧ True)))) ∧ (∀ (ws2 : Option Addr) (ws2l ws2c : Nat) (top4 : Int) (m12 : Option Addr) (m12l m12c : Nat) (at14 : Option Addr) (at14l at14c q11 : Nat) (p11 : Option Addr) (p11l p11c : Nat) (w : World), V13.b1 B R ws2 ws2l ws2c top4 m12 m12l m12c at14 at14l at14c q11 p11 p11l p11c w → V13.b1 B R ws2 ws2l ws2c top4 m12 m12l m12c at14 at14l at14c q11 p11 p11l p11c w) ∧ (True ∧ (∀ (ws2 : Option Addr) (ws2l ws2c : Nat) (top4 : Int) (m12 : Option Addr) (m12l m12c : Nat) (at14 : Option Addr) (at14l at14c : Nat) (a17 : Addr) (q11 : Nat) (p11 : Option Addr) (p11l p11c : Nat) (w : World), V13.b2 B R ws2 ws2l ws2c top4 m12 m12l m12c at14 at14l at14c a17 q11 p11 p11l p11c w → V13.b2 B R ws2 ws2l ws2c top4 m12 m12l m12c at14 at14l at14c a17 q11 p11 p11l p11c w) ∧ ((True ∧ ((True ∧ True) ∧ True)) ∧ ((True ∧ ((∀ (m12 : Option Addr) (m12l m12c : Nat) (a17 : Addr) (A95 : Option Addr) (A95l A95c : Nat) (x96 x97 : Int) (q11 : Nat) (p11 : Option Addr) (p11l p11c : Nat) (w : World), ¬ V13.l3 B R 0 m12 m12l m12c a17 A95 A95l A95c x96 x97 q11 p11 p11l p11c w) ∧ (∀ k3, ∀ (m12 : Option Addr) (m12l m12c : Nat) (a17 : Addr) (A95 : Option Addr) (A95l A95c : Nat) (x96 x97 : Int) (q11 : Nat) (p11 : Option Addr) (p11l p11c : Nat) (w : World), V13.l3 B R (k3 + 1) m12 m12l m12c a17 A95 A95l A95c x96 x97 q11 p11 p11l p11c w → V13.l3 B R (k3 + 1) m12 m12l m12c a17 A95 A95l A95c x96 x97 q11 p11 p11l p11c w) ∧ ∀ k3 : Nat, (True ∧ ((True ∧ True) ∧ ((True ∧ (True ∧ (True ∧ (True ∧ (True ∧ (True ∧ ((True ∧ True) ∧ True))))))) ∧ True))))) ∧ (True ∧ True)))))))))) := by kernel_rfl
  rw [e]
  exact ⟨trivial, ⟨trivial, ⟨trivial, ⟨trivial, ⟨trivial, ⟨⟨trivial, ⟨fun ws2 ws2l ws2c turns3 turns3l turns3c top4 m12 m12l m12c at14 at14l at14c end15 i16 q11 p11 p11l p11c w h => h, fun _ ws2 ws2l ws2c turns3 turns3l turns3c top4 m12 m12l m12c at14 at14l at14c end15 i16 q11 p11 p11l p11c w h => h, fun k0 => ⟨⟨trivial, ⟨trivial, trivial⟩⟩, ⟨rfl, trivial⟩⟩⟩⟩, fun ws2 ws2l ws2c top4 m12 m12l m12c at14 at14l at14c q11 p11 p11l p11c w h => h, ⟨trivial, fun ws2 ws2l ws2c top4 m12 m12l m12c at14 at14l at14c a17 q11 p11 p11l p11c w h => h, ⟨⟨trivial, ⟨⟨trivial, trivial⟩, trivial⟩⟩, ⟨⟨trivial, ⟨fun m12 m12l m12c a17 A95 A95l A95c x96 x97 q11 p11 p11l p11c w h => h, fun _ m12 m12l m12c a17 A95 A95l A95c x96 x97 q11 p11 p11l p11c w h => h, fun k3 => ⟨trivial, ⟨⟨trivial, trivial⟩, ⟨⟨trivial, ⟨trivial, ⟨trivial, ⟨trivial, ⟨trivial, ⟨trivial, ⟨⟨trivial, trivial⟩, trivial⟩⟩⟩⟩⟩⟩⟩, trivial⟩⟩⟩⟩⟩, ⟨trivial, trivial⟩⟩⟩⟩⟩⟩⟩⟩⟩⟩
theorem V13.cfgOk (B : Nat) : CfgOk (V13.cfg B) := cfgOk_of (by kernel_rfl) (by kernel_rfl)
theorem V13.sound {ns0 : Option Addr} {ns0l ns0c : Nat} {fs1 : Option Addr} {fs1l fs1c : Nat} {ws2 : Option Addr} {ws2l ws2c : Nat} {turns3 : Option Addr} {turns3l turns3c : Nat} {top4 : Int} {w : World} {R : Value → World → Prop} (h : V13.vc w.heap.size R ns0 ns0l ns0c fs1 fs1l fs1c ws2 ws2l ws2c turns3 turns3l turns3c top4 w) : Calls Try.prog 13 ⟨[.slice ns0 ns0l ns0c, .slice fs1 fs1l fs1c, .slice ws2 ws2l ws2c, .slice turns3 turns3l turns3c, .int .i64 top4]⟩ w fun e w' => ∃ v, e = .returned v ∧ R v w' :=
  calls_wpfP (c := V13.cfg w.heap.size) (fn := Try.f13) (x := V13.code) (V13.cuts w.heap.size R) V13.h (V13.cfgOk _) mixed Try.func13 (by kernel_rfl) (by kernel_rfl) (by kernel_rfl) rfl (V13.obl _ _) ((V13.vc_eq _ _ ns0 ns0l ns0c fs1 fs1l fs1c ws2 ws2l ws2c turns3 turns3l turns3c top4 _).symm ▸ h)

/-! function 14 -/
def V14.b3 (B : Nat) (R : Value → World → Prop) (L2 : Option Addr → Nat → Nat → Option Addr → Nat → Nat → Addr → Int → Nat → Option Addr → Nat → Nat → World → Prop) (l10 : Option Addr) (l10l l10c : Nat) (at11 : Option Addr) (at11l at11c : Nat) (a14 : Addr) (i20 f23 : Int) (q21 : Nat) (x21 x21_1 x21_2 : Int) (x21_3 : Bool) (x21_4 : Int) (x21_5 : Option Addr) (x21_5l x21_5c : Nat) (x21_6 : Option Addr) (x21_6l x21_6c : Nat) (x21_7 : Option Addr) (x21_7l x21_7c q9 : Nat) (p9 : Option Addr) (p9l p9c : Nat) (w : World) : Prop :=
  if (f23 != 0) = false
  then (∃ p110 : Addr, l10 = some p110 ∧ (0 : Int) ≤ i20 ∧ i20 < (l10l : Int) ∧
  ∃ x111 : Int, w.cell? ((p110.add (i20.toNat * 8)).add 0) = some (.int .i64 x111) ∧
  ∃ x111_1 : Int, w.cell? ((p110.add (i20.toNat * 8)).add 1) = some (.int .i64 x111_1) ∧
  ∃ x111_2 : Int, w.cell? ((p110.add (i20.toNat * 8)).add 2) = some (.int .i64 x111_2) ∧
  ∃ b111 : Bool, w.cell? ((p110.add (i20.toNat * 8)).add 3) = some (.bool b111) ∧
  ∃ x111_3 : Int, w.cell? ((p110.add (i20.toNat * 8)).add 4) = some (.int .u64 x111_3) ∧
  ∃ (A111 : Option Addr) (A111l A111c : Nat), w.cell? ((p110.add (i20.toNat * 8)).add 5) = some (.slice A111 A111l A111c) ∧
  ∃ (A111_1 : Option Addr) (A111_1l A111_1c : Nat), w.cell? ((p110.add (i20.toNat * 8)).add 6) = some (.slice A111_1 A111_1l A111_1c) ∧
  ∃ (A111_2 : Option Addr) (A111_2l A111_2c : Nat), w.cell? ((p110.add (i20.toNat * 8)).add 7) = some (.slice A111_2 A111_2l A111_2c) ∧
  CallK Try.prog 56 [.agg ⟨[.int .i64 x21, .int .i64 x21_1, .int .i64 x21_2, .bool x21_3, .int .u64 x21_4, .slice x21_5 x21_5l x21_5c, .slice x21_6 x21_6l x21_6c, .slice x21_7 x21_7l x21_7c]⟩, .agg ⟨[.int .i64 x111, .int .i64 x111_1, .int .i64 x111_2, .bool b111, .int .u64 x111_3, .slice A111 A111l A111c, .slice A111_1 A111_1l A111_1c, .slice A111_2 A111_2l A111_2c]⟩] B w [q21, q9] fun v w_1 => 
   ∃ b112 : Bool, v = .bool b112 ∧
   if (!b112) = true
   then (Ret B w_1 (R (.bool false)))
   else (L2 l10 l10l l10c at11 at11l at11c a14 (IntKind.wrap .i64 (i20 + 1)) q9 p9 p9l p9c w_1))
  else (Ret B w (R (.bool false)))
def V14.l2 (B : Nat) (R : Value → World → Prop) : Nat → Option Addr → Nat → Nat → Option Addr → Nat → Nat → Addr → Int → Nat → Option Addr → Nat → Nat → World → Prop
  | 0 => fun _ _ _ _ _ _ _ _ _ _ _ _ _ => False
  | k + 1 => fun l10 l10l l10c at11 at11l at11c a14 i20 q9 p9 p9l p9c w =>
    if (decide (i20 < (l10l : Int))) = true
    then ((∃ p98 : Addr, at11 = some p98 ∧ (0 : Int) ≤ i20 ∧ i20 < (at11l : Int) ∧
    ∃ x99 : Int, w.cell? (p98.add i20.toNat) = some (.int .i64 x99) ∧
    CallK Try.prog 54 [.pointer (some a14), .agg ⟨[.slice p9 p9l p9c]⟩, .int .i64 x99] B w [q9] fun v w_1 => 
      ∃ (x100 x100_1 x100_2 : Int) (b100 : Bool) (x100_3 : Int) (A100 : Option Addr) (A100l A100c : Nat) (A100_1 : Option Addr) (A100_1l A100_1c : Nat) (A100_2 : Option Addr) (A100_2l A100_2c : Nat) (x100_4 x100_5 : Int), v = .tuple ⟨[.agg ⟨[.int .i64 x100, .int .i64 x100_1, .int .i64 x100_2, .bool b100, .int .u64 x100_3, .slice A100 A100l A100c, .slice A100_1 A100_1l A100_1c, .slice A100_2 A100_2l A100_2c]⟩, .int .i64 x100_4, .int .i64 x100_5]⟩ ∧
      ∀ q21 : Nat, w_1.heap.size ≤ q21 →
      V14.b3 B R (V14.l2 B R k) l10 l10l l10c at11 at11l at11c a14 i20 x100_5 q21 x100 x100_1 x100_2 b100 x100_3 A100 A100l A100c A100_1 A100_1l A100_1c A100_2 A100_2l A100_2c q9 p9 p9l p9c w_1) ∧
      (∃ p98 : Addr, at11 = some p98 ∧ (0 : Int) ≤ i20 ∧ i20 < (at11l : Int) ∧
      ∃ x99 : Int, w.cell? (p98.add i20.toNat) = some (.int .i64 x99) ∧
      ∀ q21 : Nat, w.heap.size ≤ q21 → w.cell? (p98.add i20.toNat) = some (.int .i64 x99) ∧
      CallK Try.prog 54 [.pointer (some a14), .agg ⟨[.slice p9 p9l p9c]⟩, .int .i64 x99] B w [q21, q9] fun v w_1 => 
      ∃ (x100 x100_1 x100_2 : Int) (b100 : Bool) (x100_3 : Int) (A100 : Option Addr) (A100l A100c : Nat) (A100_1 : Option Addr) (A100_1l A100_1c : Nat) (A100_2 : Option Addr) (A100_2l A100_2c : Nat) (x100_4 x100_5 : Int), v = .tuple ⟨[.agg ⟨[.int .i64 x100, .int .i64 x100_1, .int .i64 x100_2, .bool b100, .int .u64 x100_3, .slice A100 A100l A100c, .slice A100_1 A100_1l A100_1c, .slice A100_2 A100_2l A100_2c]⟩, .int .i64 x100_4, .int .i64 x100_5]⟩ ∧
      V14.b3 B R (V14.l2 B R k) l10 l10l l10c at11 at11l at11c a14 i20 x100_5 q21 x100 x100_1 x100_2 b100 x100_3 A100 A100l A100c A100_1 A100_1l A100_1c A100_2 A100_2l A100_2c q9 p9 p9l p9c w_1))
    else (CallK Try.prog 47 [] B w [q9] fun v w_1 => 
     ∃ b115 : Bool, v = .bool b115 ∧
     Ret B w_1 (R (.bool b115)))
def V14.l1 (B : Nat) (R : Value → World → Prop) : Nat → Option Addr → Nat → Nat → Option Addr → Nat → Nat → Int → Addr → Int → Int → Nat → Option Addr → Nat → Nat → World → Prop
  | 0 => fun _ _ _ _ _ _ _ _ _ _ _ _ _ _ _ => False
  | k + 1 => fun l10 l10l l10c at11 at11l at11c end13 a14 below16 i17 q9 p9 p9l p9c w =>
    if (decide (i17 < (l10l : Int))) = true
    then (∃ p54 : Addr, at11 = some p54 ∧ (0 : Int) ≤ i17 ∧ i17 < (at11l : Int) ∧
    ∃ x55 : Int, w.cell? (p54.add i17.toNat) = some (.int .i64 x55) ∧
    ∃ p59 : Addr, l10 = some p59 ∧ (0 : Int) ≤ i17 ∧ i17 < (l10l : Int) ∧
    ∃ x60 : Int, w.cell? ((p59.add (i17.toNat * 8)).add 0) = some (.int .i64 x60) ∧
    ∃ x60_1 : Int, w.cell? ((p59.add (i17.toNat * 8)).add 1) = some (.int .i64 x60_1) ∧
    ∃ x60_2 : Int, w.cell? ((p59.add (i17.toNat * 8)).add 2) = some (.int .i64 x60_2) ∧
    ∃ b60 : Bool, w.cell? ((p59.add (i17.toNat * 8)).add 3) = some (.bool b60) ∧
    ∃ x60_3 : Int, w.cell? ((p59.add (i17.toNat * 8)).add 4) = some (.int .u64 x60_3) ∧
    ∃ (A60 : Option Addr) (A60l A60c : Nat), w.cell? ((p59.add (i17.toNat * 8)).add 5) = some (.slice A60 A60l A60c) ∧
    ∃ (A60_1 : Option Addr) (A60_1l A60_1c : Nat), w.cell? ((p59.add (i17.toNat * 8)).add 6) = some (.slice A60_1 A60_1l A60_1c) ∧
    ∃ (A60_2 : Option Addr) (A60_2l A60_2c : Nat), w.cell? ((p59.add (i17.toNat * 8)).add 7) = some (.slice A60_2 A60_2l A60_2c) ∧
    CallK Try.prog 52 [.pointer (some a14), .agg ⟨[.slice p9 p9l p9c]⟩, .int .i64 x55, .int .i64 below16, .agg ⟨[.int .i64 x60, .int .i64 x60_1, .int .i64 x60_2, .bool b60, .int .u64 x60_3, .slice A60 A60l A60c, .slice A60_1 A60_1l A60_1c, .slice A60_2 A60_2l A60_2c]⟩] B w [q9] fun v w_1 => 
     ∃ x61 : Int, v = .int .i64 x61 ∧
     if (x61 != 0) = true
     then (Ret B w_1 (R (.bool false)))
     else (∃ p65 : Addr, at11 = some p65 ∧ (0 : Int) ≤ i17 ∧ i17 < (at11l : Int) ∧
     ∃ x66 : Int, w_1.cell? (p65.add i17.toNat) = some (.int .i64 x66) ∧ (V14.l1 B R k) l10 l10l l10c at11 at11l at11c end13 a14 x66 (IntKind.wrap .i64 (i17 + 1)) q9 p9 p9l p9c w_1))
    else (CallK Try.prog 59 [.pointer (some a14), .agg ⟨[.slice p9 p9l p9c]⟩, .int .i64 below16] B w [q9] fun v w_1 => 
     ∃ (A71 : Option Addr) (A71l A71c : Nat) (x71 : Int), v = .tuple ⟨[.slice A71 A71l A71c, .int .i64 x71]⟩ ∧
     if (x71 != 0) = false
     then (CallK Try.prog 61 [.slice at11 at11l at11c] B w_1 [q9] fun v_1 w_2 => 
      ∃ (A79 : Option Addr) (A79l A79c : Nat), v_1 = .slice A79 A79l A79c ∧
      CallK Try.prog 40 [.slice A71 A71l A71c, .slice A79 A79l A79c] B w_2 [q9] fun v_2 w_3 => 
      ∃ b80 : Bool, v_2 = .bool b80 ∧
      if (!b80) = false
      then (if (decide (end13 > 512)) = true
       then (Ret B w_3 (R (.bool false)))
       else (∃ k_1, V14.l2 B R k_1 l10 l10l l10c at11 at11l at11c a14 0 q9 p9 p9l p9c w_3))
      else (Ret B w_3 (R (.bool false))))
     else (Ret B w_1 (R (.bool false))))
def V14.b0 (B : Nat) (R : Value → World → Prop) (l10 : Option Addr) (l10l l10c : Nat) (at11 : Option Addr) (at11l at11c : Nat) (end13 : Int) (a14 : Addr) (q9 : Nat) (p9 : Option Addr) (p9l p9c : Nat) (w : World) : Prop :=
  ∃ k_1, V14.l1 B R k_1 l10 l10l l10c at11 at11l at11c end13 a14 (-1) 0 q9 p9 p9l p9c w
def V14.vc (B : Nat) (R : Value → World → Prop) (ns0 : Option Addr) (ns0l ns0c : Nat) (fs1 : Option Addr) (fs1l fs1c : Nat) (ws2 : Option Addr) (ws2l ws2c : Nat) (lo3 : Int) (w : World) : Prop :=
  CallK Try.prog 35 [.slice ns0 ns0l ns0c] B w [] fun v w_1 => 
  ∃ (A25 : Option Addr) (A25l A25c : Nat), v = .agg ⟨[.slice A25 A25l A25c]⟩ ∧
  ∀ q9 : Nat, w_1.heap.size ≤ q9 →
  RunK Try.prog (Instr.makeSlice 50 (.int .i64 512) (.int .i64 512)) B w_1 [q9] fun v_1 w_2 => 
  ∃ (A31 : Option Addr) (A31l A31c : Nat), v_1 = .slice A31 A31l A31c ∧
  CallK Try.prog 58 [.agg ⟨[.slice A25 A25l A25c]⟩, .slice fs1 fs1l fs1c, .int .i64 (IntKind.wrap .i64 lo3), .int .i64 512, .slice A31 A31l A31c] B w_2 [q9] fun v_2 w_3 => 
  ∃ (A32 : Option Addr) (A32l A32c : Nat) (A32_1 : Option Addr) (A32_1l A32_1c : Nat) (A32_2 : Option Addr) (A32_2l A32_2c : Nat) (x32 : Int), v_2 = .tuple ⟨[.slice A32 A32l A32c, .slice A32_1 A32_1l A32_1c, .slice A32_2 A32_2l A32_2c, .int .i64 x32]⟩ ∧
  CallK Try.prog 41 [.int .i64 8, .slice ws2 ws2l ws2c] B w_3 [q9] fun v_3 w_4 => 
  ∃ (op39 A39 : Option Addr) (A39l A39c : Nat), v_3 = .tuple ⟨[.pointer op39, .slice A39 A39l A39c]⟩ ∧
  caseP op39
  (False)
  (fun p39 => V14.b0 B R A32 A32l A32c A32_1 A32_1l A32_1c x32 p39 q9 A25 A25l A25c w_4)
noncomputable def V14.cfg (B : Nat) : Cfg := ⟨Try.prog, ⟨116, B⟩, [], hasN [35, 40, 41, 47, 52, 54, 56, 58, 59, 61], hasN []⟩
noncomputable def V14.code : Code := (Try.f14.body).getD .skip
noncomputable def V14.cuts (B : Nat) (R : Value → World → Prop) : Nat → Cut := nthC [⟨[(10, .one (.slice)), (11, .one (.slice)), (13, .one (.int .i64)), (14, .one (.ptr))], [(9, 24, [.slice])], fun fs vs bs w => V14.b0 B R (slA (nthV vs 0)) (slL (nthV vs 0)) (slC (nthV vs 0)) (slA (nthV vs 1)) (slL (nthV vs 1)) (slC (nthV vs 1)) (iV (nthV vs 2)) (pV (nthV vs 3)) (nthB bs 0).blk (slA (nthV (nthB bs 0).cells 0)) (slL (nthV (nthB bs 0).cells 0)) (slC (nthV (nthB bs 0).cells 0)) w⟩,
  ⟨[(10, .one (.slice)), (11, .one (.slice)), (13, .one (.int .i64)), (14, .one (.ptr)), (16, .one (.int .i64)), (17, .one (.int .i64))], [(9, 24, [.slice])], fun fs vs bs w => V14.l1 B R (nthN fs 0) (slA (nthV vs 0)) (slL (nthV vs 0)) (slC (nthV vs 0)) (slA (nthV vs 1)) (slL (nthV vs 1)) (slC (nthV vs 1)) (iV (nthV vs 2)) (pV (nthV vs 3)) (iV (nthV vs 4)) (iV (nthV vs 5)) (nthB bs 0).blk (slA (nthV (nthB bs 0).cells 0)) (slL (nthV (nthB bs 0).cells 0)) (slC (nthV (nthB bs 0).cells 0)) w⟩,
  ⟨[(10, .one (.slice)), (11, .one (.slice)), (14, .one (.ptr)), (20, .one (.int .i64))], [(9, 24, [.slice])], fun fs vs bs w => V14.l2 B R (nthN fs 0) (slA (nthV vs 0)) (slL (nthV vs 0)) (slC (nthV vs 0)) (slA (nthV vs 1)) (slL (nthV vs 1)) (slC (nthV vs 1)) (pV (nthV vs 2)) (iV (nthV vs 3)) (nthB bs 0).blk (slA (nthV (nthB bs 0).cells 0)) (slL (nthV (nthB bs 0).cells 0)) (slC (nthV (nthB bs 0).cells 0)) w⟩,
  ⟨[(10, .one (.slice)), (11, .one (.slice)), (14, .one (.ptr)), (20, .one (.int .i64)), (23, .one (.int .i64))], [(21, 67, [.int .i64, .int .i64, .int .i64, .bool, .int .u64, .slice, .slice, .slice]), (9, 24, [.slice])], fun fs vs bs w => V14.b3 B R (V14.l2 B R (nthN fs 0)) (slA (nthV vs 0)) (slL (nthV vs 0)) (slC (nthV vs 0)) (slA (nthV vs 1)) (slL (nthV vs 1)) (slC (nthV vs 1)) (pV (nthV vs 2)) (iV (nthV vs 3)) (iV (nthV vs 4)) (nthB bs 0).blk (iV (nthV (nthB bs 0).cells 0)) (iV (nthV (nthB bs 0).cells 1)) (iV (nthV (nthB bs 0).cells 2)) (bV (nthV (nthB bs 0).cells 3)) (iV (nthV (nthB bs 0).cells 4)) (slA (nthV (nthB bs 0).cells 5)) (slL (nthV (nthB bs 0).cells 5)) (slC (nthV (nthB bs 0).cells 5)) (slA (nthV (nthB bs 0).cells 6)) (slL (nthV (nthB bs 0).cells 6)) (slC (nthV (nthB bs 0).cells 6)) (slA (nthV (nthB bs 0).cells 7)) (slL (nthV (nthB bs 0).cells 7)) (slC (nthV (nthB bs 0).cells 7)) (nthB bs 1).blk (slA (nthV (nthB bs 1).cells 0)) (slL (nthV (nthB bs 1).cells 0)) (slC (nthV (nthB bs 1).cells 0)) w⟩]
noncomputable def V14.h : H := .s (.z) (.s (.z) (.s (.r [[0, 1, 2, 3, 4, 5, 6, 7, 8, 9, 10, 11, 12, 13, 14]]) (.cut 0 (.z) (.s (.s (.z) (.c (.s (.z) (.z)) (.z))) (.s (.z) (.s (.s (.z) (.b (.l 1 (.s (.s (.z) (.c (.z) (.z))) (.s (.b (.s (.s (.r [[0, 1, 2, 3, 4, 5, 6, 7, 8, 9, 10, 11, 12]]) (.c (.s (.z) (.z)) (.z))) (.z))) (.z)))))) (.s (.z) (.s (.s (.z) (.c (.s (.z) (.z)) (.z))) (.s (.s (.z) (.b (.l 2 (.s (.s (.z) (.c (.z) (.z))) (.s (.b (.cut 3 (.r [[0, 1, 2, 3, 4, 5, 6, 7, 8, 9, 10, 11, 12, 13, 14], [0, 1, 2, 3, 4, 5, 11, 6, 7, 8, 9, 10, 12, 13, 14]]) (.s (.r [[0, 1, 2, 3, 4, 5, 6, 7, 8, 9, 10]]) (.c (.s (.z) (.z)) (.z))))) (.z)))))) (.s (.z) (.z)))))))))))
theorem V14.vc_eq (B : Nat) (R : Value → World → Prop) (ns0 : Option Addr) (ns0l ns0c : Nat) (fs1 : Option Addr) (fs1l fs1c : Nat) (ws2 : Option Addr) (ws2l ws2c : Nat) (lo3 : Int) (w : World) : wpf (V14.cfg B) (V14.cuts B R) V14.code V14.h [] (postOf Try.prog B (Try.f14.results.toList) R) (argE 0 [.slice ns0 ns0l ns0c, .slice fs1 fs1l fs1c, .slice ws2 ws2l ws2c, .int .u8 lo3]) [] w = V14.vc B R ns0 ns0l ns0c fs1 fs1l fs1c ws2 ws2l ws2c lo3 w := by kernel_rfl
theorem V14.obl (B : Nat) (R : Value → World → Prop) : oblP (V14.cfg B) (V14.cuts B R) V14.code V14.h [] (postOf Try.prog B (Try.f14.results.toList) R) := by
  have e : oblP (V14.cfg B) (V14.cuts B R) V14.code V14.h [] (postOf Try.prog B (Try.f14.results.toList) R) = (True ∧ (True ∧ ((true = true) ∧ (True ∧ (∀ (l10 : Option Addr) (l10l l10c : Nat) (at11 : Option Addr) (at11l at11c : Nat) (end13 : Int) (a14 : Addr) (q9 : Nat) (p9 : Option Addr) (p9l p9c : Nat) (w : World), V14.b0 B R l10 l10l l10c at11 at11l at11c end13 a14 q9 p9 p9l p9c w → V14.b0 B R l10 l10l l10c at11 at11l at11c end13 a14 q9 p9 p9l p9c w) ∧ ((True ∧ ((True ∧ True) ∧ True)) ∧ (True ∧ ((True ∧ ((∀ (l10 : Option Addr) (l10l l10c : Nat) (at11 : Option Addr) (at11l at11c : Nat) (end13 : Int) (a14 : Addr) (below16 i17 : Int) (q9 : Nat) (p9 : Option Addr) (p9l p9c : Nat) (w : World), ¬ V14.l1 B R 0 l10 l10l l10c at11 at11l at11c end13 a14 below16 i17 q9 p9 p9l p9c w) ∧ (∀ k1, ∀ (l10 : Option Addr) (l10l l10c : Nat) (at11 : Option Addr) (at11l at11c : Nat) (end13 : Int) (a14 : Addr) (below16 i17 : Int) (q9 : Nat) (p9 : Option Addr) (p9l p9c : Nat) (w : World), V14.l1 B R (k1 + 1) l10 l10l l10c at11 at11l at11c end13 a14 below16 i17 q9 p9 p9l p9c w → V14.l1 B R (k1 + 1) l10 l10l l10c at11 at11l at11c end13 a14 below16 i17 q9 p9 p9l p9c w) ∧ ∀ k1 : Nat, ((True ∧ (True ∧ True)) ∧ ((((true = true) ∧ ((True ∧ True) ∧ True)) ∧ True) ∧ True)))) ∧ (True ∧ ((True ∧ ((True ∧ True) ∧ True)) ∧ ((True ∧ ((∀ (l10 : Option Addr) (l10l l10c : Nat) (at11 : Option Addr) (at11l at11c : Nat) (a14 : Addr) (i20 : Int) (q9 : Nat) (p9 : Option Addr) (p9l p9c : Nat) (w : World), ¬ V14.l2 B R 0 l10 l10l l10c at11 at11l at11c a14 i20 q9 p9 p9l p9c w) ∧ (∀ k2, ∀ (l10 : Option Addr) (l10l l10c : Nat) (at11 : Option Addr) (at11l at11c : Nat) (a14 : Addr) (i20 : Int) (q9 : Nat) (p9 : Option Addr) (p9l p9c : Nat) (w : World), V14.l2 B R (k2 + 1) l10 l10l l10c at11 at11l at11c a14 i20 q9 p9 p9l p9c w → V14.l2 B R (k2 + 1) l10 l10l l10c at11 at11l at11c a14 i20 q9 p9 p9l p9c w) ∧ ∀ k2 : Nat, ((True ∧ (True ∧ True)) ∧ (((true = true) ∧ (∀ (l10 : Option Addr) (l10l l10c : Nat) (at11 : Option Addr) (at11l at11c : Nat) (a14 : Addr) (i20 f23 : Int) (q21 : Nat) (x21 x21_1 x21_2 : Int) (x21_3 : Bool) (x21_4 : Int) (x21_5 : Option Addr) (x21_5l x21_5c : Nat) (x21_6 : Option Addr) (x21_6l x21_6c : Nat) (x21_7 : Option Addr) (x21_7l x21_7c q9 : Nat) (p9 : Option Addr) (p9l p9c : Nat) (w : World), V14.b3 B R (V14.l2 B R k2) l10 l10l l10c at11 at11l at11c a14 i20 f23 q21 x21 x21_1 x21_2 x21_3 x21_4 x21_5 x21_5l x21_5c x21_6 x21_6l x21_6c x21_7 x21_7l x21_7c q9 p9 p9l p9c w → V14.b3 B R (V14.l2 B R k2) l10 l10l l10c at11 at11l at11c a14 i20 f23 q21 x21 x21_1 x21_2 x21_3 x21_4 x21_5 x21_5l x21_5c x21_6 x21_6l x21_6c x21_7 x21_7l x21_7c q9 p9 p9l p9c w) ∧ ((true = true) ∧ ((True ∧ True) ∧ True))) ∧ True)))) ∧ (True ∧ True))))))))))) := by kernel_rfl
  rw [e]
  exact ⟨trivial, ⟨trivial, ⟨rfl, ⟨trivial, fun l10 l10l l10c at11 at11l at11c end13 a14 q9 p9 p9l p9c w h => h, ⟨⟨trivial, ⟨⟨trivial, trivial⟩, trivial⟩⟩, ⟨trivial, ⟨⟨trivial, ⟨fun l10 l10l l10c at11 at11l at11c end13 a14 below16 i17 q9 p9 p9l p9c w h => h, fun _ l10 l10l l10c at11 at11l at11c end13 a14 below16 i17 q9 p9 p9l p9c w h => h, fun k1 => ⟨⟨trivial, ⟨trivial, trivial⟩⟩, ⟨⟨⟨rfl, ⟨⟨trivial, trivial⟩, trivial⟩⟩, trivial⟩, trivial⟩⟩⟩⟩, ⟨trivial, ⟨⟨trivial, ⟨⟨trivial, trivial⟩, trivial⟩⟩, ⟨⟨trivial, ⟨fun l10 l10l l10c at11 at11l at11c a14 i20 q9 p9 p9l p9c w h => h, fun _ l10 l10l l10c at11 at11l at11c a14 i20 q9 p9 p9l p9c w h => h, fun k2 => ⟨⟨trivial, ⟨trivial, trivial⟩⟩, ⟨⟨rfl, fun l10 l10l l10c at11 at11l at11c a14 i20 f23 q21 x21 x21_1 x21_2 x21_3 x21_4 x21_5 x21_5l x21_5c x21_6 x21_6l x21_6c x21_7 x21_7l x21_7c q9 p9 p9l p9c w h => h, ⟨rfl, ⟨⟨trivial, trivial⟩, trivial⟩⟩⟩, trivial⟩⟩⟩⟩, ⟨trivial, trivial⟩⟩⟩⟩⟩⟩⟩⟩⟩⟩⟩
theorem V14.cfgOk (B : Nat) : CfgOk (V14.cfg B) := cfgOk_of (by kernel_rfl) (by kernel_rfl)
theorem V14.sound {ns0 : Option Addr} {ns0l ns0c : Nat} {fs1 : Option Addr} {fs1l fs1c : Nat} {ws2 : Option Addr} {ws2l ws2c : Nat} {lo3 : Int} {w : World} {R : Value → World → Prop} (h : V14.vc w.heap.size R ns0 ns0l ns0c fs1 fs1l fs1c ws2 ws2l ws2c lo3 w) : Calls Try.prog 14 ⟨[.slice ns0 ns0l ns0c, .slice fs1 fs1l fs1c, .slice ws2 ws2l ws2c, .int .u8 lo3]⟩ w fun e w' => ∃ v, e = .returned v ∧ R v w' :=
  calls_wpfP (c := V14.cfg w.heap.size) (fn := Try.f14) (x := V14.code) (V14.cuts w.heap.size R) V14.h (V14.cfgOk _) mixed Try.func14 (by kernel_rfl) (by kernel_rfl) (by kernel_rfl) rfl (V14.obl _ _) ((V14.vc_eq _ _ ns0 ns0l ns0c fs1 fs1l fs1c ws2 ws2l ws2c lo3 _).symm ▸ h)

/-! function 15 -/
def V15.b1 (B : Nat) (R : Value → World → Prop) (at3 : Int) (a19 : Addr) (m20 : Option Addr) (m20l m20c q11 : Nat) (x11 x11_1 x11_2 : Int) (x11_3 : Bool) (x11_4 : Int) (x11_5 : Option Addr) (x11_5l x11_5c : Nat) (x11_6 : Option Addr) (x11_6l x11_6c : Nat) (x11_7 : Option Addr) (x11_7l x11_7c q9 : Nat) (p9 : Option Addr) (p9l p9c : Nat) (w : World) : Prop :=
  ∀ q21 : Nat, w.heap.size ≤ q21 →
Expo B w [q21, q11, q9] fun w_1 => 
  Hide [q21, q11, q9] (w_1.alloc (.cells ⟨[]⟩ 51)) fun w_2 => 
  RunK Try.prog (Builtin.append_ #[50, 50] 50 ⟨[.slice (some ⟨w_1.heap.size, 0, none⟩) 0 0, .slice x11_6 x11_6l x11_6c]⟩) B w_2 [q21, q11, q9] fun v w_3 => 
  ∃ (A103 : Option Addr) (A103l A103c : Nat), v = .slice A103 A103l A103c ∧
  Expo B w_3 [q21, q11, q9] fun w_4 => 
  Hide [q21, q11, q9] (w_4.alloc (.cells ⟨[.int .u64 1]⟩ 51)) fun w_5 => 
  RunK Try.prog (Builtin.append_ #[50, 50] 50 ⟨[.slice A103 A103l A103c, .slice (some ⟨w_4.heap.size, 0, none⟩) 1 1]⟩) B w_5 [q21, q11, q9] fun v_1 w_6 => 
  ∃ (A105 : Option Addr) (A105l A105c : Nat), v_1 = .slice A105 A105l A105c ∧
  ∃ p111 : Addr, p9 = some p111 ∧ (0 : Int) ≤ x11 ∧ x11 < (p9l : Int) ∧
  ∃ x112 : Int, w_6.cell? ((p111.add (x11.toNat * 4)).add 0) = some (.int .i64 x112) ∧
  ∃ x112_1 : Int, w_6.cell? ((p111.add (x11.toNat * 4)).add 1) = some (.int .i64 x112_1) ∧
  ∃ x112_2 : Int, w_6.cell? ((p111.add (x11.toNat * 4)).add 2) = some (.int .i64 x112_2) ∧
  ∃ (A112 : Option Addr) (A112l A112c : Nat), w_6.cell? ((p111.add (x11.toNat * 4)).add 3) = some (.slice A112 A112l A112c) ∧
  CallK Try.prog 33 [.agg ⟨[.int .i64 x112, .int .i64 x112_1, .int .i64 x112_2, .slice A112 A112l A112c]⟩] B w_6 [q21, q11, q9] fun v_2 w_7 => 
  ∃ x113 : Int, v_2 = .int .i64 x113 ∧ (500 : Int) ≠ 0 ∧
  CallK Try.prog 52 [.pointer (some a19), .agg ⟨[.slice p9 p9l p9c]⟩, .int .i64 0, .int .i64 (-1), .agg ⟨[.int .i64 x11, .int .i64 x11_1, .int .i64 x11_2, .bool x11_3, .int .u64 x11_4, .slice x11_5 x11_5l x11_5c, .slice A105 A105l A105c, .slice x11_7 x11_7l x11_7c]⟩] B w_7 [q21, q11, q9] fun v_3 w_8 => 
  ∃ x123 : Int, v_3 = .int .i64 x123 ∧
  if (x123 == 1) = true
  then (CallK Try.prog 52 [.pointer (some a19), .agg ⟨[.slice p9 p9l p9c]⟩, .int .i64 0, .int .i64 (-2), .agg ⟨[.int .i64 x11, .int .i64 x11_1, .int .i64 x11_2, .bool x11_3, .int .u64 x11_4, .slice x11_5 x11_5l x11_5c, .slice x11_6 x11_6l x11_6c, .slice x11_7 x11_7l x11_7c]⟩] B w_8 [q21, q11, q9] fun v_4 w_9 => 
   ∃ x129 : Int, v_4 = .int .i64 x129 ∧
   if (x129 == 1) = true
   then (CallK Try.prog 52 [.pointer (some a19), .agg ⟨[.slice p9 p9l p9c]⟩, .int .i64 0, .int .i64 64, .agg ⟨[.int .i64 x11, .int .i64 x11_1, .int .i64 x11_2, .bool x11_3, .int .u64 x11_4, .slice x11_5 x11_5l x11_5c, .slice x11_6 x11_6l x11_6c, .slice x11_7 x11_7l x11_7c]⟩] B w_9 [q21, q11, q9] fun v_5 w_10 => 
    ∃ x136 : Int, v_5 = .int .i64 x136 ∧
    if (x136 == 1) = true
    then (CallK Try.prog 52 [.pointer (some a19), .agg ⟨[.slice p9 p9l p9c]⟩, .int .i64 (IntKind.wrap .i64 (IntKind.wrap .i64 (IntKind.wrap .i64 (64 - x113) + 1) + Int.tmod (if 0 > at3 then 0 else at3) 500)), .int .i64 (-1), .agg ⟨[.int .i64 x11, .int .i64 x11_1, .int .i64 x11_2, .bool x11_3, .int .u64 x11_4, .slice x11_5 x11_5l x11_5c, .slice x11_6 x11_6l x11_6c, .slice x11_7 x11_7l x11_7c]⟩] B w_10 [q21, q11, q9] fun v_6 w_11 => 
     ∃ x144 : Int, v_6 = .int .i64 x144 ∧
     if (x144 == 1) = true
     then (CallK Try.prog 44 [.pointer (some a19), .int .i64 58, .agg ⟨[.int .i64 0, .int .i64 0, .int .i64 0, .int .i64 0, .bool false, .int .u64 0, .int .i64 0, .int .i64 0]⟩] B w_11 [q21, q11, q9] fun v_7 w_12 => 
      ∃ x150 : Int, v_7 = .int .i64 x150 ∧
      if (x150 == 1) = true
      then (CallK Try.prog 44 [.pointer (some a19), .int .i64 0, .agg ⟨[.int .i64 0, .int .i64 0, .int .i64 0, .int .i64 3, .bool false, .int .u64 0, .int .i64 0, .int .i64 0]⟩] B w_12 [q21, q11, q9] fun v_8 w_13 => 
       ∃ x156 : Int, v_8 = .int .i64 x156 ∧
       if (x156 == 1) = true
       then (CallK Try.prog 44 [.pointer (some a19), .int .i64 0, .agg ⟨[.int .i64 0, .int .i64 (-1), .int .i64 0, .int .i64 0, .bool false, .int .u64 0, .int .i64 0, .int .i64 0]⟩] B w_13 [q21, q11, q9] fun v_9 w_14 => 
        ∃ x162 : Int, v_9 = .int .i64 x162 ∧
        if (x162 == 1) = true
        then (CallK Try.prog 46 [.pointer (some a19), .slice m20 m20l m20c] B w_14 [q21, q11, q9] fun v_10 w_15 => 
         ∃ b168 : Bool, v_10 = .bool b168 ∧
         if b168 = true
         then (CallK Try.prog 47 [] B w_15 [q21, q11, q9] fun v_11 w_16 => 
          ∃ b171 : Bool, v_11 = .bool b171 ∧
          Ret B w_16 (R (.bool b171)))
         else (Ret B w_15 (R (.bool false))))
        else (Ret B w_14 (R (.bool false))))
       else (Ret B w_13 (R (.bool false))))
      else (Ret B w_12 (R (.bool false))))
     else (Ret B w_11 (R (.bool false))))
    else (Ret B w_10 (R (.bool false))))
   else (Ret B w_9 (R (.bool false))))
  else (Ret B w_8 (R (.bool false)))
def V15.b0 (B : Nat) (R : Value → World → Prop) (ws2 : Option Addr) (ws2l ws2c : Nat) (at3 : Int) (q11 : Nat) (x11 x11_1 x11_2 : Int) (x11_3 : Bool) (x11_4 : Int) (x11_5 : Option Addr) (x11_5l x11_5c : Nat) (x11_6 : Option Addr) (x11_6l x11_6c : Nat) (x11_7 : Option Addr) (x11_7l x11_7c q9 : Nat) (p9 : Option Addr) (p9l p9c : Nat) (w : World) : Prop :=
  CallK Try.prog 42 [.pointer none, .int .i64 at3] B w [q11, q9] fun v w_1 => 
  ∃ (x35 x35_1 x35_2 x35_3 : Int) (b35 : Bool) (x35_4 x35_5 x35_6 x35_7 : Int), v = .tuple ⟨[.agg ⟨[.int .i64 x35, .int .i64 x35_1, .int .i64 x35_2, .int .i64 x35_3, .bool b35, .int .u64 x35_4, .int .i64 x35_5, .int .i64 x35_6]⟩, .int .i64 x35_7]⟩ ∧
  ∀ q12 : Nat, w_1.heap.size ≤ q12 →
  CallK Try.prog 54 [.pointer none, .agg ⟨[.slice p9 p9l p9c]⟩, .int .i64 at3] B w_1 [q12, q11, q9] fun v_1 w_2 => 
  ∃ (x41 x41_1 x41_2 : Int) (b41 : Bool) (x41_3 : Int) (A41 : Option Addr) (A41l A41c : Nat) (A41_1 : Option Addr) (A41_1l A41_1c : Nat) (A41_2 : Option Addr) (A41_2l A41_2c : Nat) (x41_4 x41_5 : Int), v_1 = .tuple ⟨[.agg ⟨[.int .i64 x41, .int .i64 x41_1, .int .i64 x41_2, .bool b41, .int .u64 x41_3, .slice A41 A41l A41c, .slice A41_1 A41_1l A41_1c, .slice A41_2 A41_2l A41_2c]⟩, .int .i64 x41_4, .int .i64 x41_5]⟩ ∧
  ∀ q14 : Nat, w_2.heap.size ≤ q14 →
  CallK Try.prog 59 [.pointer none, .agg ⟨[.slice p9 p9l p9c]⟩, .int .i64 at3] B w_2 [q14, q12, q11, q9] fun v_2 w_3 => 
  ∃ (A48 : Option Addr) (A48l A48c : Nat) (x48 : Int), v_2 = .tuple ⟨[.slice A48 A48l A48c, .int .i64 x48]⟩ ∧
  CallK Try.prog 44 [.pointer none, .int .i64 0, .agg ⟨[.int .i64 0, .int .i64 0, .int .i64 0, .int .i64 0, .bool false, .int .u64 0, .int .i64 0, .int .i64 0]⟩] B w_3 [q14, q12, q11, q9] fun v_3 w_4 => 
  ∃ x52 : Int, v_3 = .int .i64 x52 ∧
  if (x52 != 2) = false
  then (CallK Try.prog 52 [.pointer none, .agg ⟨[.slice p9 p9l p9c]⟩, .int .i64 0, .int .i64 (-1), .agg ⟨[.int .i64 x11, .int .i64 x11_1, .int .i64 x11_2, .bool x11_3, .int .u64 x11_4, .slice x11_5 x11_5l x11_5c, .slice x11_6 x11_6l x11_6c, .slice x11_7 x11_7l x11_7c]⟩] B w_4 [q14, q12, q11, q9] fun v_4 w_5 => 
   ∃ x57 : Int, v_4 = .int .i64 x57 ∧
   if (x57 != 2) = false
   then (if (!((x35 == 0) && ((x35_1 == 0) && ((x35_2 == 0) && ((x35_3 == 0) && ((b35 == false) && ((x35_4 == 0) && ((x35_5 == 0) && (x35_6 == 0))))))))) = false
    then (if (x35_7 != 2) = false
     then (CallK Try.prog 56 [.agg ⟨[.int .i64 x41, .int .i64 x41_1, .int .i64 x41_2, .bool b41, .int .u64 x41_3, .slice A41 A41l A41c, .slice A41_1 A41_1l A41_1c, .slice A41_2 A41_2l A41_2c]⟩, .agg ⟨[.int .i64 0, .int .i64 0, .int .i64 0, .bool false, .int .u64 0, .slice none 0 0, .slice none 0 0, .slice none 0 0]⟩] B w_5 [q14, q12, q11, q9] fun v_5 w_6 => 
      ∃ b72 : Bool, v_5 = .bool b72 ∧
      if (!b72) = false
      then (if (x41_4 != 0) = false
       then (if (x41_5 != 2) = false
        then (if ((A48l : Int) != 0) = false
         then (if (x48 != 2) = true
          then (Ret B w_6 (R (.bool false)))
          else (CallK Try.prog 41 [.int .i64 1, .slice ws2 ws2l ws2c] B w_6 [q14, q12, q11, q9] fun v_6 w_7 => 
           ∃ (op94 A94 : Option Addr) (A94l A94c : Nat), v_6 = .tuple ⟨[.pointer op94, .slice A94 A94l A94c]⟩ ∧
           caseP op94
           (False)
           (fun p94 => V15.b1 B R at3 p94 A94 A94l A94c q11 x11 x11_1 x11_2 x11_3 x11_4 x11_5 x11_5l x11_5c x11_6 x11_6l x11_6c x11_7 x11_7l x11_7c q9 p9 p9l p9c w_7)))
         else (Ret B w_6 (R (.bool false))))
        else (Ret B w_6 (R (.bool false))))
       else (Ret B w_6 (R (.bool false))))
      else (Ret B w_6 (R (.bool false))))
     else (Ret B w_5 (R (.bool false))))
    else (Ret B w_5 (R (.bool false))))
   else (Ret B w_5 (R (.bool false))))
  else (Ret B w_4 (R (.bool false)))
def V15.vc (B : Nat) (R : Value → World → Prop) (ns0 : Option Addr) (ns0l ns0c : Nat) (fs1 : Option Addr) (fs1l fs1c : Nat) (ws2 : Option Addr) (ws2l ws2c : Nat) (at3 : Int) (w : World) : Prop :=
  CallK Try.prog 35 [.slice ns0 ns0l ns0c] B w [] fun v w_1 => 
  ∃ (A24 : Option Addr) (A24l A24c : Nat), v = .agg ⟨[.slice A24 A24l A24c]⟩ ∧
  ∀ q9 : Nat, w_1.heap.size ≤ q9 →
  Expo B w_1 [q9] fun w_2 => 
  Hide [q9] (w_2.alloc (.cells ⟨[.slice fs1 fs1l fs1c]⟩ 70)) fun w_3 => 
  CallK Try.prog 48 [.pointer (some (⟨w_2.heap.size, 0, none⟩)), .agg ⟨[.slice A24 A24l A24c]⟩] B w_3 [q9] fun v_1 w_4 => 
  ∃ (x30 x30_1 x30_2 : Int) (b30 : Bool) (x30_3 : Int) (A30 : Option Addr) (A30l A30c : Nat) (A30_1 : Option Addr) (A30_1l A30_1c : Nat) (A30_2 : Option Addr) (A30_2l A30_2c : Nat), v_1 = .agg ⟨[.int .i64 x30, .int .i64 x30_1, .int .i64 x30_2, .bool b30, .int .u64 x30_3, .slice A30 A30l A30c, .slice A30_1 A30_1l A30_1c, .slice A30_2 A30_2l A30_2c]⟩ ∧
  ∀ q11 : Nat, w_4.heap.size ≤ q11 →
  if (at3 == (-1)) = true
  then (V15.b0 B R ws2 ws2l ws2c 0 q11 x30 x30_1 x30_2 b30 x30_3 A30 A30l A30c A30_1 A30_1l A30_1c A30_2 A30_2l A30_2c q9 A24 A24l A24c w_4)
  else (V15.b0 B R ws2 ws2l ws2c at3 q11 x30 x30_1 x30_2 b30 x30_3 A30 A30l A30c A30_1 A30_1l A30_1c A30_2 A30_2l A30_2c q9 A24 A24l A24c w_4)
noncomputable def V15.cfg (B : Nat) : Cfg := ⟨Try.prog, ⟨173, B⟩, [27], hasN [33, 35, 41, 42, 44, 46, 47, 48, 52, 54, 56, 59], hasN [53]⟩
noncomputable def V15.code : Code := (Try.f15.body).getD .skip
noncomputable def V15.cuts (B : Nat) (R : Value → World → Prop) : Nat → Cut := nthC [⟨[(2, .one (.slice)), (3, .one (.int .i64))], [(11, 67, [.int .i64, .int .i64, .int .i64, .bool, .int .u64, .slice, .slice, .slice]), (9, 24, [.slice])], fun fs vs bs w => V15.b0 B R (slA (nthV vs 0)) (slL (nthV vs 0)) (slC (nthV vs 0)) (iV (nthV vs 1)) (nthB bs 0).blk (iV (nthV (nthB bs 0).cells 0)) (iV (nthV (nthB bs 0).cells 1)) (iV (nthV (nthB bs 0).cells 2)) (bV (nthV (nthB bs 0).cells 3)) (iV (nthV (nthB bs 0).cells 4)) (slA (nthV (nthB bs 0).cells 5)) (slL (nthV (nthB bs 0).cells 5)) (slC (nthV (nthB bs 0).cells 5)) (slA (nthV (nthB bs 0).cells 6)) (slL (nthV (nthB bs 0).cells 6)) (slC (nthV (nthB bs 0).cells 6)) (slA (nthV (nthB bs 0).cells 7)) (slL (nthV (nthB bs 0).cells 7)) (slC (nthV (nthB bs 0).cells 7)) (nthB bs 1).blk (slA (nthV (nthB bs 1).cells 0)) (slL (nthV (nthB bs 1).cells 0)) (slC (nthV (nthB bs 1).cells 0)) w⟩,
  ⟨[(3, .one (.int .i64)), (19, .one (.ptr)), (20, .one (.slice))], [(11, 67, [.int .i64, .int .i64, .int .i64, .bool, .int .u64, .slice, .slice, .slice]), (9, 24, [.slice])], fun fs vs bs w => V15.b1 B R (iV (nthV vs 0)) (pV (nthV vs 1)) (slA (nthV vs 2)) (slL (nthV vs 2)) (slC (nthV vs 2)) (nthB bs 0).blk (iV (nthV (nthB bs 0).cells 0)) (iV (nthV (nthB bs 0).cells 1)) (iV (nthV (nthB bs 0).cells 2)) (bV (nthV (nthB bs 0).cells 3)) (iV (nthV (nthB bs 0).cells 4)) (slA (nthV (nthB bs 0).cells 5)) (slL (nthV (nthB bs 0).cells 5)) (slC (nthV (nthB bs 0).cells 5)) (slA (nthV (nthB bs 0).cells 6)) (slL (nthV (nthB bs 0).cells 6)) (slC (nthV (nthB bs 0).cells 6)) (slA (nthV (nthB bs 0).cells 7)) (slL (nthV (nthB bs 0).cells 7)) (slC (nthV (nthB bs 0).cells 7)) (nthB bs 1).blk (slA (nthV (nthB bs 1).cells 0)) (slL (nthV (nthB bs 1).cells 0)) (slC (nthV (nthB bs 1).cells 0)) w⟩]
noncomputable def V15.h : H := .s (.z) (.s (.z) (.s (.z) (.s (.z) (.cut 0 (.s (.z) (.c (.z) (.z))) (.s (.z) (.s (.z) (.s (.z) (.s (.s (.z) (.c (.s (.z) (.z)) (.z))) (.cut 1 (.z) (.s (.s (.z) (.c (.s (.z) (.z)) (.z))) (.s (.z) (.s (.z) (.s (.z) (.s (.z) (.z)))))))))))))))
theorem V15.vc_eq (B : Nat) (R : Value → World → Prop) (ns0 : Option Addr) (ns0l ns0c : Nat) (fs1 : Option Addr) (fs1l fs1c : Nat) (ws2 : Option Addr) (ws2l ws2c : Nat) (at3 : Int) (w : World) : wpf (V15.cfg B) (V15.cuts B R) V15.code V15.h [] (postOf Try.prog B (Try.f15.results.toList) R) (argE 0 [.slice ns0 ns0l ns0c, .slice fs1 fs1l fs1c, .slice ws2 ws2l ws2c, .int .i64 at3]) [] w = V15.vc B R ns0 ns0l ns0c fs1 fs1l fs1c ws2 ws2l ws2c at3 w := by kernel_rfl
theorem V15.obl (B : Nat) (R : Value → World → Prop) : oblP (V15.cfg B) (V15.cuts B R) V15.code V15.h [] (postOf Try.prog B (Try.f15.results.toList) R) := by
  have e : oblP (V15.cfg B) (V15.cuts B R) V15.code V15.h [] (postOf Try.prog B (Try.f15.results.toList) R) = (True ∧ (True ∧ (True ∧ (True ∧ ((True ∧ (True ∧ True)) ∧ (∀ (ws2 : Option Addr) (ws2l ws2c : Nat) (at3 : Int) (q11 : Nat) (x11 x11_1 x11_2 : Int) (x11_3 : Bool) (x11_4 : Int) (x11_5 : Option Addr) (x11_5l x11_5c : Nat) (x11_6 : Option Addr) (x11_6l x11_6c : Nat) (x11_7 : Option Addr) (x11_7l x11_7c q9 : Nat) (p9 : Option Addr) (p9l p9c : Nat) (w : World), V15.b0 B R ws2 ws2l ws2c at3 q11 x11 x11_1 x11_2 x11_3 x11_4 x11_5 x11_5l x11_5c x11_6 x11_6l x11_6c x11_7 x11_7l x11_7c q9 p9 p9l p9c w → V15.b0 B R ws2 ws2l ws2c at3 q11 x11 x11_1 x11_2 x11_3 x11_4 x11_5 x11_5l x11_5c x11_6 x11_6l x11_6c x11_7 x11_7l x11_7c q9 p9 p9l p9c w) ∧ (True ∧ (True ∧ (True ∧ ((True ∧ ((True ∧ True) ∧ True)) ∧ (True ∧ (∀ (at3 : Int) (a19 : Addr) (m20 : Option Addr) (m20l m20c q11 : Nat) (x11 x11_1 x11_2 : Int) (x11_3 : Bool) (x11_4 : Int) (x11_5 : Option Addr) (x11_5l x11_5c : Nat) (x11_6 : Option Addr) (x11_6l x11_6c : Nat) (x11_7 : Option Addr) (x11_7l x11_7c q9 : Nat) (p9 : Option Addr) (p9l p9c : Nat) (w : World), V15.b1 B R at3 a19 m20 m20l m20c q11 x11 x11_1 x11_2 x11_3 x11_4 x11_5 x11_5l x11_5c x11_6 x11_6l x11_6c x11_7 x11_7l x11_7c q9 p9 p9l p9c w → V15.b1 B R at3 a19 m20 m20l m20c q11 x11 x11_1 x11_2 x11_3 x11_4 x11_5 x11_5l x11_5c x11_6 x11_6l x11_6c x11_7 x11_7l x11_7c q9 p9 p9l p9c w) ∧ ((True ∧ ((True ∧ True) ∧ True)) ∧ (True ∧ (True ∧ (True ∧ (True ∧ True))))))))))))))) := by kernel_rfl
  rw [e]
  exact ⟨trivial, ⟨trivial, ⟨trivial, ⟨trivial, ⟨⟨trivial, ⟨trivial, trivial⟩⟩, fun ws2 ws2l ws2c at3 q11 x11 x11_1 x11_2 x11_3 x11_4 x11_5 x11_5l x11_5c x11_6 x11_6l x11_6c x11_7 x11_7l x11_7c q9 p9 p9l p9c w h => h, ⟨trivial, ⟨trivial, ⟨trivial, ⟨⟨trivial, ⟨⟨trivial, trivial⟩, trivial⟩⟩, ⟨trivial, fun at3 a19 m20 m20l m20c q11 x11 x11_1 x11_2 x11_3 x11_4 x11_5 x11_5l x11_5c x11_6 x11_6l x11_6c x11_7 x11_7l x11_7c q9 p9 p9l p9c w h => h, ⟨⟨trivial, ⟨⟨trivial, trivial⟩, trivial⟩⟩, ⟨trivial, ⟨trivial, ⟨trivial, ⟨trivial, trivial⟩⟩⟩⟩⟩⟩⟩⟩⟩⟩⟩⟩⟩⟩⟩
theorem V15.cfgOk (B : Nat) : CfgOk (V15.cfg B) := cfgOk_of (by kernel_rfl) (by kernel_rfl)
theorem V15.sound {ns0 : Option Addr} {ns0l ns0c : Nat} {fs1 : Option Addr} {fs1l fs1c : Nat} {ws2 : Option Addr} {ws2l ws2c : Nat} {at3 : Int} {w : World} {R : Value → World → Prop} (h : V15.vc w.heap.size R ns0 ns0l ns0c fs1 fs1l fs1c ws2 ws2l ws2c at3 w) : Calls Try.prog 15 ⟨[.slice ns0 ns0l ns0c, .slice fs1 fs1l fs1c, .slice ws2 ws2l ws2c, .int .i64 at3]⟩ w fun e w' => ∃ v, e = .returned v ∧ R v w' :=
  calls_wpfP (c := V15.cfg w.heap.size) (fn := Try.f15) (x := V15.code) (V15.cuts w.heap.size R) V15.h (V15.cfgOk _) mixed Try.func15 (by kernel_rfl) (by kernel_rfl) (by kernel_rfl) rfl (V15.obl _ _) ((V15.vc_eq _ _ ns0 ns0l ns0c fs1 fs1l fs1c ws2 ws2l ws2c at3 _).symm ▸ h)

/-! function 58 -/
def V58.b1 (B : Nat) (R : Value → World → Prop) (m4 : Option Addr) (m4l m4c : Nat) (l15 : Option Addr) (l15l l15c : Nat) (at16 : Option Addr) (at16l at16c : Nat) (end18 : Int) (w : World) : Prop :=
  Ret B w (R (.tuple ⟨[.slice l15 l15l l15c, .slice at16 at16l at16c, .slice m4 m4l m4c, .int .i64 end18]⟩))
def V58.l0 (B : Nat) (R : Value → World → Prop) : Nat → Int → Option Addr → Nat → Nat → Addr → Option Addr → Nat → Nat → Option Addr → Nat → Nat → Int → Int → Int → Nat → Option Addr → Nat → Nat → World → Prop
  | 0 => fun _ _ _ _ _ _ _ _ _ _ _ _ _ _ _ _ _ _ _ => False
  | k + 1 => fun most3 m4 m4l m4c n14 l15 l15l l15c at16 at16l at16c below17 end18 i19 q5 p5 p5l p5c w =>
    if (decide (i19 > 0)) = true
    then (CallK Try.prog 48 [.pointer (some n14), .agg ⟨[.slice p5 p5l p5c]⟩] B w [q5] fun v w_1 => 
     ∃ (x35 x35_1 x35_2 : Int) (b35 : Bool) (x35_3 : Int) (A35 : Option Addr) (A35l A35c : Nat) (A35_1 : Option Addr) (A35_1l A35_1c : Nat) (A35_2 : Option Addr) (A35_2l A35_2c : Nat), v = .agg ⟨[.int .i64 x35, .int .i64 x35_1, .int .i64 x35_2, .bool b35, .int .u64 x35_3, .slice A35 A35l A35c, .slice A35_1 A35_1l A35_1c, .slice A35_2 A35_2l A35_2c]⟩ ∧
     ∀ q20 : Nat, w_1.heap.size ≤ q20 →
     ∃ p40 : Addr, p5 = some p40 ∧ (0 : Int) ≤ x35 ∧ x35 < (p5l : Int) ∧
     ∃ x41 : Int, w_1.cell? ((p40.add (x35.toNat * 4)).add 0) = some (.int .i64 x41) ∧
     ∃ x41_1 : Int, w_1.cell? ((p40.add (x35.toNat * 4)).add 1) = some (.int .i64 x41_1) ∧
     ∃ x41_2 : Int, w_1.cell? ((p40.add (x35.toNat * 4)).add 2) = some (.int .i64 x41_2) ∧
     ∃ (A41 : Option Addr) (A41l A41c : Nat), w_1.cell? ((p40.add (x35.toNat * 4)).add 3) = some (.slice A41 A41l A41c) ∧
     CallK Try.prog 33 [.agg ⟨[.int .i64 x41, .int .i64 x41_1, .int .i64 x41_2, .slice A41 A41l A41c]⟩] B w_1 [q20, q5] fun v_1 w_2 => 
     ∃ x42 : Int, v_1 = .int .i64 x42 ∧
     if (decide (x42 > IntKind.wrap .i64 (most3 - end18))) = true
     then (V58.b1 B R m4 m4l m4c l15 l15l l15c at16 at16l at16c end18 w_2)
     else (CallK Try.prog 53 [.slice m4 m4l m4c, .agg ⟨[.slice p5 p5l p5c]⟩, .int .i64 end18, .int .i64 below17, .agg ⟨[.int .i64 x35, .int .i64 x35_1, .int .i64 x35_2, .bool b35, .int .u64 x35_3, .slice A35 A35l A35c, .slice A35_1 A35_1l A35_1c, .slice A35_2 A35_2l A35_2c]⟩] B w_2 [q20, q5] fun v_2 w_3 => 
      ∃ (A54 : Option Addr) (A54l A54c : Nat) (x54 : Int), v_2 = .tuple ⟨[.slice A54 A54l A54c, .int .i64 x54]⟩ ∧
      Expo B w_3 [q20, q5] fun w_4 => 
      Hide [q20, q5] (w_4.alloc (.cells ⟨[.int .i64 x35, .int .i64 x35_1, .int .i64 x35_2, .bool b35, .int .u64 x35_3, .slice A35 A35l A35c, .slice A35_1 A35_1l A35_1c, .slice A35_2 A35_2l A35_2c]⟩ 67)) fun w_5 => 
      RunK Try.prog (Builtin.append_ #[88, 88] 88 ⟨[.slice l15 l15l l15c, .slice (some ⟨w_4.heap.size, 0, none⟩) 1 1]⟩) B w_5 [q20, q5] fun v_3 w_6 => 
      ∃ (A60 : Option Addr) (A60l A60c : Nat), v_3 = .slice A60 A60l A60c ∧
      Expo B w_6 [q20, q5] fun w_7 => 
      Hide [q20, q5] (w_7.alloc (.cells ⟨[.int .i64 end18]⟩ 3)) fun w_8 => 
      RunK Try.prog (Builtin.append_ #[42, 42] 42 ⟨[.slice at16 at16l at16c, .slice (some ⟨w_7.heap.size, 0, none⟩) 1 1]⟩) B w_8 [q20, q5] fun v_4 w_9 => 
      ∃ (A64 : Option Addr) (A64l A64c : Nat), v_4 = .slice A64 A64l A64c ∧ (V58.l0 B R k) most3 A54 A54l A54c n14 A60 A60l A60c A64 A64l A64c end18 (IntKind.wrap .i64 (end18 + x42)) (IntKind.wrap .i64 (i19 - 1)) q5 p5 p5l p5c w_9))
    else (V58.b1 B R m4 m4l m4c l15 l15l l15c at16 at16l at16c end18 w)
def V58.vc (B : Nat) (R : Value → World → Prop) (p0 : Option Addr) (p0l p0c : Nat) (fs1 : Option Addr) (fs1l fs1c : Nat) (lo2 most3 : Int) (m4 : Option Addr) (m4l m4c : Nat) (w : World) : Prop :=
  ∀ q5 : Nat, w.heap.size ≤ q5 →
Expo B w [q5] fun w_1 => 
  Hide [q5] (w_1.alloc (.cells ⟨[.slice fs1 fs1l fs1c]⟩ 70)) fun w_2 => 
  CallK Try.prog 51 [.pointer (some (⟨w_1.heap.size, 0, none⟩))] B w_2 [q5] fun v w_3 => 
  ∃ x27 : Int, v = .int .i64 x27 ∧ (12 : Int) ≠ 0 ∧
  ∃ k_1, V58.l0 B R k_1 most3 m4 m4l m4c (⟨w_1.heap.size, 0, none⟩) none 0 0 none 0 0 (-1) lo2 (Int.tmod x27 12) q5 p0 p0l p0c w_3
noncomputable def V58.cfg (B : Nat) : Cfg := ⟨Try.prog, ⟨73, B⟩, [24], hasN [33, 48, 51, 53], hasN []⟩
noncomputable def V58.code : Code := (Try.f58.body).getD .skip
noncomputable def V58.cuts (B : Nat) (R : Value → World → Prop) : Nat → Cut := nthC [⟨[(3, .one (.int .i64)), (4, .one (.slice)), (14, .one (.ptr)), (15, .one (.slice)), (16, .one (.slice)), (17, .one (.int .i64)), (18, .one (.int .i64)), (19, .one (.int .i64))], [(5, 24, [.slice])], fun fs vs bs w => V58.l0 B R (nthN fs 0) (iV (nthV vs 0)) (slA (nthV vs 1)) (slL (nthV vs 1)) (slC (nthV vs 1)) (pV (nthV vs 2)) (slA (nthV vs 3)) (slL (nthV vs 3)) (slC (nthV vs 3)) (slA (nthV vs 4)) (slL (nthV vs 4)) (slC (nthV vs 4)) (iV (nthV vs 5)) (iV (nthV vs 6)) (iV (nthV vs 7)) (nthB bs 0).blk (slA (nthV (nthB bs 0).cells 0)) (slL (nthV (nthB bs 0).cells 0)) (slC (nthV (nthB bs 0).cells 0)) w⟩,
  ⟨[(4, .one (.slice)), (15, .one (.slice)), (16, .one (.slice)), (18, .one (.int .i64))], [], fun fs vs bs w => V58.b1 B R (slA (nthV vs 0)) (slL (nthV vs 0)) (slC (nthV vs 0)) (slA (nthV vs 1)) (slL (nthV vs 1)) (slC (nthV vs 1)) (slA (nthV vs 2)) (slL (nthV vs 2)) (slC (nthV vs 2)) (iV (nthV vs 3)) w⟩]
noncomputable def V58.h : H := .s (.z) (.s (.z) (.s (.z) (.s (.z) (.s (.z) (.cut 1 (.s (.z) (.b (.l 0 (.s (.s (.z) (.c (.z) (.z))) (.s (.b (.s (.z) (.s (.z) (.s (.s (.z) (.c (.z) (.z))) (.s (.z) (.s (.z) (.z))))))) (.z)))))) (.s (.z) (.z)))))))
theorem V58.vc_eq (B : Nat) (R : Value → World → Prop) (p0 : Option Addr) (p0l p0c : Nat) (fs1 : Option Addr) (fs1l fs1c : Nat) (lo2 most3 : Int) (m4 : Option Addr) (m4l m4c : Nat) (w : World) : wpf (V58.cfg B) (V58.cuts B R) V58.code V58.h [] (postOf Try.prog B (Try.f58.results.toList) R) (argE 0 [.agg ⟨[.slice p0 p0l p0c]⟩, .slice fs1 fs1l fs1c, .int .i64 lo2, .int .i64 most3, .slice m4 m4l m4c]) [] w = V58.vc B R p0 p0l p0c fs1 fs1l fs1c lo2 most3 m4 m4l m4c w := by kernel_rfl
theorem V58.obl (B : Nat) (R : Value → World → Prop) : oblP (V58.cfg B) (V58.cuts B R) V58.code V58.h [] (postOf Try.prog B (Try.f58.results.toList) R) := by
  have e : oblP (V58.cfg B) (V58.cuts B R) V58.code V58.h [] (postOf Try.prog B (Try.f58.results.toList) R) = (True ∧ (True ∧ (True ∧ (True ∧ (True ∧ ((True ∧ ((∀ (most3 : Int) (m4 : Option Addr) (m4l m4c : Nat) (n14 : Addr) (l15 : Option Addr) (l15l l15c : Nat) (at16 : Option Addr) (at16l at16c : Nat) (below17 end18 i19 : Int) (q5 : Nat) (p5 : Option Addr) (p5l p5c : Nat) (w : World), ¬ V58.l0 B R 0 most3 m4 m4l m4c n14 l15 l15l l15c at16 at16l at16c below17 end18 i19 q5 p5 p5l p5c w) ∧ (∀ k0, ∀ (most3 : Int) (m4 : Option Addr) (m4l m4c : Nat) (n14 : Addr) (l15 : Option Addr) (l15l l15c : Nat) (at16 : Option Addr) (at16l at16c : Nat) (below17 end18 i19 : Int) (q5 : Nat) (p5 : Option Addr) (p5l p5c : Nat) (w : World), V58.l0 B R (k0 + 1) most3 m4 m4l m4c n14 l15 l15l l15c at16 at16l at16c below17 end18 i19 q5 p5 p5l p5c w → V58.l0 B R (k0 + 1) most3 m4 m4l m4c n14 l15 l15l l15c at16 at16l at16c below17 end18 i19 q5 p5 p5l p5c w) ∧ ∀ k0 : Nat, ((True ∧ (True ∧ True)) ∧ ((True ∧ (True ∧ ((True ∧ (True ∧ True)) ∧ (True ∧ (True ∧ True))))) ∧ True)))) ∧ (∀ (m4 : Option Addr) (m4l m4c : Nat) (l15 : Option Addr) (l15l l15c : Nat) (at16 : Option Addr) (at16l at16c : Nat) (end18 : Int) (w : World), V58.b1 B R m4 m4l m4c l15 l15l l15c at16 at16l at16c end18 w → V58.b1 B R m4 m4l m4c l15 l15l l15c at16 at16l at16c end18 w) ∧ (True ∧ True))))))) := by kernel_rfl
  rw [e]
  exact ⟨trivial, ⟨trivial, ⟨trivial, ⟨trivial, ⟨trivial, ⟨⟨trivial, ⟨fun most3 m4 m4l m4c n14 l15 l15l l15c at16 at16l at16c below17 end18 i19 q5 p5 p5l p5c w h => h, fun _ most3 m4 m4l m4c n14 l15 l15l l15c at16 at16l at16c below17 end18 i19 q5 p5 p5l p5c w h => h, fun k0 => ⟨⟨trivial, ⟨trivial, trivial⟩⟩, ⟨⟨trivial, ⟨trivial, ⟨⟨trivial, ⟨trivial, trivial⟩⟩, ⟨trivial, ⟨trivial, trivial⟩⟩⟩⟩⟩, trivial⟩⟩⟩⟩, fun m4 m4l m4c l15 l15l l15c at16 at16l at16c end18 w h => h, ⟨trivial, trivial⟩⟩⟩⟩⟩⟩⟩
theorem V58.cfgOk (B : Nat) : CfgOk (V58.cfg B) := cfgOk_of (by kernel_rfl) (by kernel_rfl)
theorem V58.sound {p0 : Option Addr} {p0l p0c : Nat} {fs1 : Option Addr} {fs1l fs1c : Nat} {lo2 most3 : Int} {m4 : Option Addr} {m4l m4c : Nat} {w : World} {R : Value → World → Prop} (h : V58.vc w.heap.size R p0 p0l p0c fs1 fs1l fs1c lo2 most3 m4 m4l m4c w) : Calls Try.prog 58 ⟨[.agg ⟨[.slice p0 p0l p0c]⟩, .slice fs1 fs1l fs1c, .int .i64 lo2, .int .i64 most3, .slice m4 m4l m4c]⟩ w fun e w' => ∃ v, e = .returned v ∧ R v w' :=
  calls_wpfP (c := V58.cfg w.heap.size) (fn := Try.f58) (x := V58.code) (V58.cuts w.heap.size R) V58.h (V58.cfgOk _) mixed Try.func58 (by kernel_rfl) (by kernel_rfl) (by kernel_rfl) rfl (V58.obl _ _) ((V58.vc_eq _ _ p0 p0l p0c fs1 fs1l fs1c lo2 most3 m4 m4l m4c _).symm ▸ h)

/-! function 59 -/
def V59.b1 (B : Nat) (R : Value → World → Prop) (L0 : Addr → Option Addr → Nat → Nat → Int → Int → Nat → Option Addr → Nat → Nat → World → Prop) (a0 : Addr) (out8 : Option Addr) (out8l out8c : Nat) (at9 under12 : Int) (q4 : Nat) (p4 : Option Addr) (p4l p4c : Nat) (w : World) : Prop :=
  Expo B w [q4] fun w_1 => 
  Hide [q4] (w_1.alloc (.cells ⟨[.int .i64 at9]⟩ 3)) fun w_2 => 
  RunK Try.prog (Builtin.append_ #[42, 42] 42 ⟨[.slice out8 out8l out8c, .slice (some ⟨w_1.heap.size, 0, none⟩) 1 1]⟩) B w_2 [q4] fun v w_3 => 
  ∃ (A53 : Option Addr) (A53l A53c : Nat), v = .slice A53 A53l A53c ∧ L0 a0 A53 A53l A53c under12 at9 q4 p4 p4l p4c w_3
def V59.l0 (B : Nat) (R : Value → World → Prop) : Nat → Addr → Option Addr → Nat → Nat → Int → Int → Nat → Option Addr → Nat → Nat → World → Prop
  | 0 => fun _ _ _ _ _ _ _ _ _ _ _ => False
  | k + 1 => fun a0 out8 out8l out8c at9 end10 q4 p4 p4l p4c w =>
    if (at9 != (-1)) = true
    then (CallK Try.prog 54 [.pointer (some a0), .agg ⟨[.slice p4 p4l p4c]⟩, .int .i64 at9] B w [q4] fun v w_1 => 
     ∃ (x25 x25_1 x25_2 : Int) (b25 : Bool) (x25_3 : Int) (A25 : Option Addr) (A25l A25c : Nat) (A25_1 : Option Addr) (A25_1l A25_1c : Nat) (A25_2 : Option Addr) (A25_2l A25_2c : Nat) (x25_4 x25_5 : Int), v = .tuple ⟨[.agg ⟨[.int .i64 x25, .int .i64 x25_1, .int .i64 x25_2, .bool b25, .int .u64 x25_3, .slice A25 A25l A25c, .slice A25_1 A25_1l A25_1c, .slice A25_2 A25_2l A25_2c]⟩, .int .i64 x25_4, .int .i64 x25_5]⟩ ∧
     ∀ q11 : Nat, w_1.heap.size ≤ q11 →
     if (x25_5 != 0) = true
     then (Ret B w_1 (R (.tuple ⟨[.slice none 0 0, .int .i64 x25_5]⟩)))
     else (if (decide ((out8l : Int) > 0)) = true
      then (∃ p43 : Addr, p4 = some p43 ∧ (0 : Int) ≤ x25 ∧ x25 < (p4l : Int) ∧
      ∃ x44 : Int, w_1.cell? ((p43.add (x25.toNat * 4)).add 0) = some (.int .i64 x44) ∧
      ∃ x44_1 : Int, w_1.cell? ((p43.add (x25.toNat * 4)).add 1) = some (.int .i64 x44_1) ∧
      ∃ x44_2 : Int, w_1.cell? ((p43.add (x25.toNat * 4)).add 2) = some (.int .i64 x44_2) ∧
      ∃ (A44 : Option Addr) (A44l A44c : Nat), w_1.cell? ((p43.add (x25.toNat * 4)).add 3) = some (.slice A44 A44l A44c) ∧
      CallK Try.prog 32 [.agg ⟨[.int .i64 x44, .int .i64 x44_1, .int .i64 x44_2, .slice A44 A44l A44c]⟩] B w_1 [q11, q4] fun v_1 w_2 => 
       ∃ x45 : Int, v_1 = .int .i64 x45 ∧
       if (decide (IntKind.wrap .i64 (at9 + x45) > end10)) = true
       then (Ret B w_2 (R (.tuple ⟨[.slice none 0 0, .int .i64 6]⟩)))
       else (V59.b1 B R (V59.l0 B R k) a0 out8 out8l out8c at9 x25_4 q4 p4 p4l p4c w_2))
      else (V59.b1 B R (V59.l0 B R k) a0 out8 out8l out8c at9 x25_4 q4 p4 p4l p4c w_1)))
    else (Ret B w (R (.tuple ⟨[.slice out8 out8l out8c, .int .i64 0]⟩)))
def V59.vc (B : Nat) (R : Value → World → Prop) (a0 : Addr) (p1 : Option Addr) (p1l p1c : Nat) (top2 : Int) (w : World) : Prop :=
  ∀ q4 : Nat, w.heap.size ≤ q4 →
CallK Try.prog 93 [.pointer (some a0)] B w [q4] fun v w_1 => 
  ∃ x18 : Int, v = .int .i64 x18 ∧
  ∃ k_1, V59.l0 B R k_1 a0 none 0 0 top2 x18 q4 p1 p1l p1c w_1
noncomputable def V59.cfg (B : Nat) : Cfg := ⟨Try.prog, ⟨57, B⟩, [], hasN [32, 54, 93], hasN []⟩
noncomputable def V59.code : Code := (Try.f59.body).getD .skip
noncomputable def V59.cuts (B : Nat) (R : Value → World → Prop) : Nat → Cut := nthC [⟨[(0, .one (.ptr)), (8, .one (.slice)), (9, .one (.int .i64)), (10, .one (.int .i64))], [(4, 24, [.slice])], fun fs vs bs w => V59.l0 B R (nthN fs 0) (pV (nthV vs 0)) (slA (nthV vs 1)) (slL (nthV vs 1)) (slC (nthV vs 1)) (iV (nthV vs 2)) (iV (nthV vs 3)) (nthB bs 0).blk (slA (nthV (nthB bs 0).cells 0)) (slL (nthV (nthB bs 0).cells 0)) (slC (nthV (nthB bs 0).cells 0)) w⟩,
  ⟨[(0, .one (.ptr)), (8, .one (.slice)), (9, .one (.int .i64)), (12, .one (.int .i64))], [(4, 24, [.slice])], fun fs vs bs w => V59.b1 B R (V59.l0 B R (nthN fs 0)) (pV (nthV vs 0)) (slA (nthV vs 1)) (slL (nthV vs 1)) (slC (nthV vs 1)) (iV (nthV vs 2)) (iV (nthV vs 3)) (nthB bs 0).blk (slA (nthV (nthB bs 0).cells 0)) (slL (nthV (nthB bs 0).cells 0)) (slC (nthV (nthB bs 0).cells 0)) w⟩]
noncomputable def V59.h : H := .s (.z) (.s (.s (.z) (.c (.s (.z) (.z)) (.z))) (.s (.z) (.s (.s (.z) (.b (.l 0 (.s (.s (.z) (.c (.z) (.z))) (.b (.s (.z) (.cut 1 (.b (.s (.z) (.c (.s (.z) (.z)) (.s (.z) (.c (.s (.z) (.z)) (.z)))))) (.s (.z) (.z))))))))) (.s (.z) (.z)))))
theorem V59.vc_eq (B : Nat) (R : Value → World → Prop) (a0 : Addr) (p1 : Option Addr) (p1l p1c : Nat) (top2 : Int) (w : World) : wpf (V59.cfg B) (V59.cuts B R) V59.code V59.h [] (postOf Try.prog B (Try.f59.results.toList) R) (argE 0 [.pointer (some a0), .agg ⟨[.slice p1 p1l p1c]⟩, .int .i64 top2]) [] w = V59.vc B R a0 p1 p1l p1c top2 w := by kernel_rfl
theorem V59.obl (B : Nat) (R : Value → World → Prop) : oblP (V59.cfg B) (V59.cuts B R) V59.code V59.h [] (postOf Try.prog B (Try.f59.results.toList) R) := by
  have e : oblP (V59.cfg B) (V59.cuts B R) V59.code V59.h [] (postOf Try.prog B (Try.f59.results.toList) R) = (True ∧ ((True ∧ ((True ∧ True) ∧ True)) ∧ (True ∧ ((True ∧ ((∀ (a0 : Addr) (out8 : Option Addr) (out8l out8c : Nat) (at9 end10 : Int) (q4 : Nat) (p4 : Option Addr) (p4l p4c : Nat) (w : World), ¬ V59.l0 B R 0 a0 out8 out8l out8c at9 end10 q4 p4 p4l p4c w) ∧ (∀ k0, ∀ (a0 : Addr) (out8 : Option Addr) (out8l out8c : Nat) (at9 end10 : Int) (q4 : Nat) (p4 : Option Addr) (p4l p4c : Nat) (w : World), V59.l0 B R (k0 + 1) a0 out8 out8l out8c at9 end10 q4 p4 p4l p4c w → V59.l0 B R (k0 + 1) a0 out8 out8l out8c at9 end10 q4 p4 p4l p4c w) ∧ ∀ k0 : Nat, ((True ∧ (True ∧ True)) ∧ (True ∧ ((True ∧ ((True ∧ True) ∧ (True ∧ ((True ∧ True) ∧ True)))) ∧ (∀ (a0 : Addr) (out8 : Option Addr) (out8l out8c : Nat) (at9 under12 : Int) (q4 : Nat) (p4 : Option Addr) (p4l p4c : Nat) (w : World), V59.b1 B R (V59.l0 B R k0) a0 out8 out8l out8c at9 under12 q4 p4 p4l p4c w → V59.b1 B R (V59.l0 B R k0) a0 out8 out8l out8c at9 under12 q4 p4 p4l p4c w) ∧ (True ∧ True)))))) ∧ (True ∧ True))))) := by kernel_rfl
  rw [e]
  exact ⟨trivial, ⟨⟨trivial, ⟨⟨trivial, trivial⟩, trivial⟩⟩, ⟨trivial, ⟨⟨trivial, ⟨fun a0 out8 out8l out8c at9 end10 q4 p4 p4l p4c w h => h, fun _ a0 out8 out8l out8c at9 end10 q4 p4 p4l p4c w h => h, fun k0 => ⟨⟨trivial, ⟨trivial, trivial⟩⟩, ⟨trivial, ⟨⟨trivial, ⟨⟨trivial, trivial⟩, ⟨trivial, ⟨⟨trivial, trivial⟩, trivial⟩⟩⟩⟩, fun a0 out8 out8l out8c at9 under12 q4 p4 p4l p4c w h => h, ⟨trivial, trivial⟩⟩⟩⟩⟩⟩, ⟨trivial, trivial⟩⟩⟩⟩⟩
theorem V59.cfgOk (B : Nat) : CfgOk (V59.cfg B) := cfgOk_of (by kernel_rfl) (by kernel_rfl)
theorem V59.sound {a0 : Addr} {p1 : Option Addr} {p1l p1c : Nat} {top2 : Int} {w : World} {R : Value → World → Prop} (h : V59.vc w.heap.size R a0 p1 p1l p1c top2 w) : Calls Try.prog 59 ⟨[.pointer (some a0), .agg ⟨[.slice p1 p1l p1c]⟩, .int .i64 top2]⟩ w fun e w' => ∃ v, e = .returned v ∧ R v w' :=
  calls_wpfP (c := V59.cfg w.heap.size) (fn := Try.f59) (x := V59.code) (V59.cuts w.heap.size R) V59.h (V59.cfgOk _) mixed Try.func59 (by kernel_rfl) (by kernel_rfl) (by kernel_rfl) rfl (V59.obl _ _) ((V59.vc_eq _ _ a0 p1 p1l p1c top2 _).symm ▸ h)

/-! function 60 -/
def V60.l0 (B : Nat) (R : Value → World → Prop) : Nat → Option Addr → Nat → Nat → Option Addr → Nat → Nat → Int → Nat → Option Addr → Nat → Nat → World → Prop
  | 0 => fun _ _ _ _ _ _ _ _ _ _ _ _ => False
  | k + 1 => fun mem0 mem0l mem0c out8 out8l out8c at9 q4 p4 p4l p4c w =>
    if (at9 != (-1)) = true
    then (CallK Try.prog 55 [.slice mem0 mem0l mem0c, .agg ⟨[.slice p4 p4l p4c]⟩, .int .i64 at9] B w [q4] fun v w_1 => 
     ∃ (x23 x23_1 x23_2 : Int) (b23 : Bool) (x23_3 : Int) (A23 : Option Addr) (A23l A23c : Nat) (A23_1 : Option Addr) (A23_1l A23_1c : Nat) (A23_2 : Option Addr) (A23_2l A23_2c : Nat) (x23_4 x23_5 : Int), v = .tuple ⟨[.agg ⟨[.int .i64 x23, .int .i64 x23_1, .int .i64 x23_2, .bool b23, .int .u64 x23_3, .slice A23 A23l A23c, .slice A23_1 A23_1l A23_1c, .slice A23_2 A23_2l A23_2c]⟩, .int .i64 x23_4, .int .i64 x23_5]⟩ ∧
     ∀ q10 : Nat, w_1.heap.size ≤ q10 →
     if (x23_5 != 0) = true
     then (Ret B w_1 (R (.tuple ⟨[.slice none 0 0, .int .i64 x23_5]⟩)))
     else (Expo B w_1 [q10, q4] fun w_2 => 
      Hide [q10, q4] (w_2.alloc (.cells ⟨[.int .i64 at9]⟩ 3)) fun w_3 => 
      RunK Try.prog (Builtin.append_ #[42, 42] 42 ⟨[.slice out8 out8l out8c, .slice (some ⟨w_2.heap.size, 0, none⟩) 1 1]⟩) B w_3 [q10, q4] fun v_1 w_4 => 
      ∃ (A33 : Option Addr) (A33l A33c : Nat), v_1 = .slice A33 A33l A33c ∧
      if (decide (x23_4 ≥ 0)) = true
      then (CallK Try.prog 55 [.slice mem0 mem0l mem0c, .agg ⟨[.slice p4 p4l p4c]⟩, .int .i64 x23_4] B w_4 [q10, q4] fun v_2 w_5 => 
       ∃ (x40 x40_1 x40_2 : Int) (b40 : Bool) (x40_3 : Int) (A40 : Option Addr) (A40l A40c : Nat) (A40_1 : Option Addr) (A40_1l A40_1c : Nat) (A40_2 : Option Addr) (A40_2l A40_2c : Nat) (x40_4 x40_5 : Int), v_2 = .tuple ⟨[.agg ⟨[.int .i64 x40, .int .i64 x40_1, .int .i64 x40_2, .bool b40, .int .u64 x40_3, .slice A40 A40l A40c, .slice A40_1 A40_1l A40_1c, .slice A40_2 A40_2l A40_2c]⟩, .int .i64 x40_4, .int .i64 x40_5]⟩ ∧
       ∀ q13 : Nat, w_5.heap.size ≤ q13 →
       if (x40_5 != 0) = true
       then (Ret B w_5 (R (.tuple ⟨[.slice none 0 0, .int .i64 x40_5]⟩)))
       else (∃ p52 : Addr, p4 = some p52 ∧ (0 : Int) ≤ x40 ∧ x40 < (p4l : Int) ∧
       ∃ x53 : Int, w_5.cell? ((p52.add (x40.toNat * 4)).add 0) = some (.int .i64 x53) ∧
       ∃ x53_1 : Int, w_5.cell? ((p52.add (x40.toNat * 4)).add 1) = some (.int .i64 x53_1) ∧
       ∃ x53_2 : Int, w_5.cell? ((p52.add (x40.toNat * 4)).add 2) = some (.int .i64 x53_2) ∧
       ∃ (A53 : Option Addr) (A53l A53c : Nat), w_5.cell? ((p52.add (x40.toNat * 4)).add 3) = some (.slice A53 A53l A53c) ∧
       CallK Try.prog 33 [.agg ⟨[.int .i64 x53, .int .i64 x53_1, .int .i64 x53_2, .slice A53 A53l A53c]⟩] B w_5 [q13, q10, q4] fun v_3 w_6 => 
        ∃ x54 : Int, v_3 = .int .i64 x54 ∧
        if (decide (IntKind.wrap .i64 (x23_4 + x54) > at9)) = true
        then (Ret B w_6 (R (.tuple ⟨[.slice none 0 0, .int .i64 6]⟩)))
        else ((V60.l0 B R k) mem0 mem0l mem0c A33 A33l A33c x23_4 q4 p4 p4l p4c w_6)))
      else ((V60.l0 B R k) mem0 mem0l mem0c A33 A33l A33c x23_4 q4 p4 p4l p4c w_4)))
    else (Ret B w (R (.tuple ⟨[.slice out8 out8l out8c, .int .i64 0]⟩)))
def V60.vc (B : Nat) (R : Value → World → Prop) (mem0 : Option Addr) (mem0l mem0c : Nat) (p1 : Option Addr) (p1l p1c : Nat) (top2 : Int) (w : World) : Prop :=
  ∀ q4 : Nat, w.heap.size ≤ q4 →
∃ k_1, V60.l0 B R k_1 mem0 mem0l mem0c none 0 0 top2 q4 p1 p1l p1c w
noncomputable def V60.cfg (B : Nat) : Cfg := ⟨Try.prog, ⟨60, B⟩, [], hasN [33, 55], hasN []⟩
noncomputable def V60.code : Code := (Try.f60.body).getD .skip
noncomputable def V60.cuts (B : Nat) (R : Value → World → Prop) : Nat → Cut := nthC [⟨[(0, .one (.slice)), (8, .one (.slice)), (9, .one (.int .i64))], [(4, 24, [.slice])], fun fs vs bs w => V60.l0 B R (nthN fs 0) (slA (nthV vs 0)) (slL (nthV vs 0)) (slC (nthV vs 0)) (slA (nthV vs 1)) (slL (nthV vs 1)) (slC (nthV vs 1)) (iV (nthV vs 2)) (nthB bs 0).blk (slA (nthV (nthB bs 0).cells 0)) (slL (nthV (nthB bs 0).cells 0)) (slC (nthV (nthB bs 0).cells 0)) w⟩]
noncomputable def V60.h : H := .s (.z) (.s (.z) (.s (.s (.z) (.b (.l 0 (.s (.s (.z) (.c (.z) (.z))) (.b (.s (.z) (.s (.s (.z) (.c (.s (.z) (.z)) (.z))) (.s (.z) (.s (.s (.z) (.c (.s (.z) (.s (.s (.z) (.c (.s (.z) (.z)) (.z))) (.s (.z) (.c (.s (.z) (.z)) (.z))))) (.z))) (.z)))))))))) (.s (.z) (.z))))
theorem V60.vc_eq (B : Nat) (R : Value → World → Prop) (mem0 : Option Addr) (mem0l mem0c : Nat) (p1 : Option Addr) (p1l p1c : Nat) (top2 : Int) (w : World) : wpf (V60.cfg B) (V60.cuts B R) V60.code V60.h [] (postOf Try.prog B (Try.f60.results.toList) R) (argE 0 [.slice mem0 mem0l mem0c, .agg ⟨[.slice p1 p1l p1c]⟩, .int .i64 top2]) [] w = V60.vc B R mem0 mem0l mem0c p1 p1l p1c top2 w := by kernel_rfl
theorem V60.obl (B : Nat) (R : Value → World → Prop) : oblP (V60.cfg B) (V60.cuts B R) V60.code V60.h [] (postOf Try.prog B (Try.f60.results.toList) R) := by
  have e : oblP (V60.cfg B) (V60.cuts B R) V60.code V60.h [] (postOf Try.prog B (Try.f60.results.toList) R) = (True ∧ (True ∧ ((True ∧ ((∀ (mem0 : Option Addr) (mem0l mem0c : Nat) (out8 : Option Addr) (out8l out8c : Nat) (at9 : Int) (q4 : Nat) (p4 : Option Addr) (p4l p4c : Nat) (w : World), ¬ V60.l0 B R 0 mem0 mem0l mem0c out8 out8l out8c at9 q4 p4 p4l p4c w) ∧ (∀ k0, ∀ (mem0 : Option Addr) (mem0l mem0c : Nat) (out8 : Option Addr) (out8l out8c : Nat) (at9 : Int) (q4 : Nat) (p4 : Option Addr) (p4l p4c : Nat) (w : World), V60.l0 B R (k0 + 1) mem0 mem0l mem0c out8 out8l out8c at9 q4 p4 p4l p4c w → V60.l0 B R (k0 + 1) mem0 mem0l mem0c out8 out8l out8c at9 q4 p4 p4l p4c w) ∧ ∀ k0 : Nat, ((True ∧ (True ∧ True)) ∧ (True ∧ ((True ∧ ((True ∧ True) ∧ True)) ∧ (True ∧ ((True ∧ ((True ∧ ((True ∧ ((True ∧ True) ∧ True)) ∧ (True ∧ ((True ∧ True) ∧ True)))) ∧ True)) ∧ True))))))) ∧ (True ∧ True)))) := by kernel_rfl
  rw [e]
  exact ⟨trivial, ⟨trivial, ⟨⟨trivial, ⟨fun mem0 mem0l mem0c out8 out8l out8c at9 q4 p4 p4l p4c w h => h, fun _ mem0 mem0l mem0c out8 out8l out8c at9 q4 p4 p4l p4c w h => h, fun k0 => ⟨⟨trivial, ⟨trivial, trivial⟩⟩, ⟨trivial, ⟨⟨trivial, ⟨⟨trivial, trivial⟩, trivial⟩⟩, ⟨trivial, ⟨⟨trivial, ⟨⟨trivial, ⟨⟨trivial, ⟨⟨trivial, trivial⟩, trivial⟩⟩, ⟨trivial, ⟨⟨trivial, trivial⟩, trivial⟩⟩⟩⟩, trivial⟩⟩, trivial⟩⟩⟩⟩⟩⟩⟩, ⟨trivial, trivial⟩⟩⟩⟩
theorem V60.cfgOk (B : Nat) : CfgOk (V60.cfg B) := cfgOk_of (by kernel_rfl) (by kernel_rfl)
theorem V60.sound {mem0 : Option Addr} {mem0l mem0c : Nat} {p1 : Option Addr} {p1l p1c : Nat} {top2 : Int} {w : World} {R : Value → World → Prop} (h : V60.vc w.heap.size R mem0 mem0l mem0c p1 p1l p1c top2 w) : Calls Try.prog 60 ⟨[.slice mem0 mem0l mem0c, .agg ⟨[.slice p1 p1l p1c]⟩, .int .i64 top2]⟩ w fun e w' => ∃ v, e = .returned v ∧ R v w' :=
  calls_wpfP (c := V60.cfg w.heap.size) (fn := Try.f60) (x := V60.code) (V60.cuts w.heap.size R) V60.h (V60.cfgOk _) mixed Try.func60 (by kernel_rfl) (by kernel_rfl) (by kernel_rfl) rfl (V60.obl _ _) ((V60.vc_eq _ _ mem0 mem0l mem0c p1 p1l p1c top2 _).symm ▸ h)

/-! function 61 -/
def V61.l0 (B : Nat) (R : Value → World → Prop) : Nat → Option Addr → Nat → Nat → Option Addr → Nat → Nat → Int → World → Prop
  | 0 => fun _ _ _ _ _ _ _ _ => False
  | k + 1 => fun l0 l0l l0c out3 out3l out3c i4 w =>
    if (decide (i4 ≥ 0)) = true
    then (∃ p15 : Addr, l0 = some p15 ∧ (0 : Int) ≤ i4 ∧ i4 < (l0l : Int) ∧
    ∃ x16 : Int, w.cell? (p15.add i4.toNat) = some (.int .i64 x16) ∧
    Expo B w [] fun w_1 => 
     let w_2 := w_1.alloc (.cells ⟨[.int .i64 x16]⟩ 3);
     RunK Try.prog (Builtin.append_ #[42, 42] 42 ⟨[.slice out3 out3l out3c, .slice (some ⟨w_1.heap.size, 0, none⟩) 1 1]⟩) B w_2 [] fun v w_3 => 
     ∃ (A18 : Option Addr) (A18l A18c : Nat), v = .slice A18 A18l A18c ∧ (V61.l0 B R k) l0 l0l l0c A18 A18l A18c (IntKind.wrap .i64 (i4 - 1)) w_3)
    else (Ret B w (R (.slice out3 out3l out3c)))
def V61.vc (B : Nat) (R : Value → World → Prop) (l0 : Option Addr) (l0l l0c : Nat) (w : World) : Prop :=
  ∃ k_1, V61.l0 B R k_1 l0 l0l l0c none 0 0 (IntKind.wrap .i64 ((l0l : Int) - 1)) w
noncomputable def V61.cfg (B : Nat) : Cfg := ⟨Try.prog, ⟨20, B⟩, [], hasN [], hasN []⟩
noncomputable def V61.code : Code := (Try.f61.body).getD .skip
noncomputable def V61.cuts (B : Nat) (R : Value → World → Prop) : Nat → Cut := nthC [⟨[(0, .one (.slice)), (3, .one (.slice)), (4, .one (.int .i64))], [], fun fs vs bs w => V61.l0 B R (nthN fs 0) (slA (nthV vs 0)) (slL (nthV vs 0)) (slC (nthV vs 0)) (slA (nthV vs 1)) (slL (nthV vs 1)) (slC (nthV vs 1)) (iV (nthV vs 2)) w⟩]
noncomputable def V61.h : H := .s (.z) (.s (.z) (.s (.s (.z) (.b (.l 0 (.s (.s (.z) (.c (.z) (.z))) (.s (.b (.z)) (.z)))))) (.s (.z) (.z))))
theorem V61.vc_eq (B : Nat) (R : Value → World → Prop) (l0 : Option Addr) (l0l l0c : Nat) (w : World) : wpf (V61.cfg B) (V61.cuts B R) V61.code V61.h [] (postOf Try.prog B (Try.f61.results.toList) R) (argE 0 [.slice l0 l0l l0c]) [] w = V61.vc B R l0 l0l l0c w := by kernel_rfl
theorem V61.obl (B : Nat) (R : Value → World → Prop) : oblP (V61.cfg B) (V61.cuts B R) V61.code V61.h [] (postOf Try.prog B (Try.f61.results.toList) R) := by
  have e : oblP (V61.cfg B) (V61.cuts B R) V61.code V61.h [] (postOf Try.prog B (Try.f61.results.toList) R) = (True ∧ (True ∧ ((True ∧ ((∀ (l0 : Option Addr) (l0l l0c : Nat) (out3 : Option Addr) (out3l out3c : Nat) (i4 : Int) (w : World), ¬ V61.l0 B R 0 l0 l0l l0c out3 out3l out3c i4 w) ∧ (∀ k0, ∀ (l0 : Option Addr) (l0l l0c : Nat) (out3 : Option Addr) (out3l out3c : Nat) (i4 : Int) (w : World), V61.l0 B R (k0 + 1) l0 l0l l0c out3 out3l out3c i4 w → V61.l0 B R (k0 + 1) l0 l0l l0c out3 out3l out3c i4 w) ∧ ∀ k0 : Nat, ((True ∧ (True ∧ True)) ∧ (True ∧ True)))) ∧ (True ∧ True)))) := by kernel_rfl
  rw [e]
  exact ⟨trivial, ⟨trivial, ⟨⟨trivial, ⟨fun l0 l0l l0c out3 out3l out3c i4 w h => h, fun _ l0 l0l l0c out3 out3l out3c i4 w h => h, fun k0 => ⟨⟨trivial, ⟨trivial, trivial⟩⟩, ⟨trivial, trivial⟩⟩⟩⟩, ⟨trivial, trivial⟩⟩⟩⟩
theorem V61.cfgOk (B : Nat) : CfgOk (V61.cfg B) := cfgOk_of (by kernel_rfl) (by kernel_rfl)
theorem V61.sound {l0 : Option Addr} {l0l l0c : Nat} {w : World} {R : Value → World → Prop} (h : V61.vc w.heap.size R l0 l0l l0c w) : Calls Try.prog 61 ⟨[.slice l0 l0l l0c]⟩ w fun e w' => ∃ v, e = .returned v ∧ R v w' :=
  calls_wpfP (c := V61.cfg w.heap.size) (fn := Try.f61) (x := V61.code) (V61.cuts w.heap.size R) V61.h (V61.cfgOk _) mixed Try.func61 (by kernel_rfl) (by kernel_rfl) (by kernel_rfl) rfl (V61.obl _ _) ((V61.vc_eq _ _ l0 l0l l0c _).symm ▸ h)
end Go.Proofs.Ytlccbaemcfjdoaa
