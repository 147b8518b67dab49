/-
  What the engine makes of the loaded functions 12: conditions under which a call returns as told, and proofs of that.
  Conditions: none. Printed by a program of this project.
-/
import Derived.Test.YtlccbaemcfjdoaaWD
set_option linter.unusedVariables false
set_option maxRecDepth 100000
namespace Go.Proofs.Ytlccbaemcfjdoaa

/-! function 12 -/
def V12.l1 (B : Nat) (R : Value → World → Prop) : Nat → Addr → Option Addr → Nat → Nat → Int → Int → Int → World → Prop
  | 0 => fun _ _ _ _ _ _ _ _ => False
  | k + 1 => fun a12 m13 m13l m13c k16 w18 i23 w =>
    if (decide (i23 < (m13l : Int))) = true
    then (CallK Try.prog 57 [.pointer (some a12), .int .i64 i23] B w [] fun v w_1 => 
     ∃ x94 x94_1 : Int, v = .tuple ⟨[.int .u64 x94, .int .i64 x94_1]⟩ ∧
     if (decide (i23 < k16)) = false
     then (if (decide (i23 ≥ IntKind.wrap .i64 (k16 + w18))) = true
      then (∃ p111 : Addr, m13 = some p111 ∧ (0 : Int) ≤ i23 ∧ i23 < (m13l : Int) ∧
      ∃ x112 : Int, w_1.cell? (p111.add i23.toNat) = some (.int .u64 x112) ∧
      if (x94 != x112) = true
       then (Ret B w_1 (R (.bool false)))
       else ((V12.l1 B R k) a12 m13 m13l m13c k16 w18 (IntKind.wrap .i64 (i23 + 1)) w_1))
      else ((V12.l1 B R k) a12 m13 m13l m13c k16 w18 (IntKind.wrap .i64 (i23 + 1)) w_1))
     else (∃ p111 : Addr, m13 = some p111 ∧ (0 : Int) ≤ i23 ∧ i23 < (m13l : Int) ∧
     ∃ x112 : Int, w_1.cell? (p111.add i23.toNat) = some (.int .u64 x112) ∧
     if (x94 != x112) = true
      then (Ret B w_1 (R (.bool false)))
      else ((V12.l1 B R k) a12 m13 m13l m13c k16 w18 (IntKind.wrap .i64 (i23 + 1)) w_1)))
    else (CallK Try.prog 47 [] B w [] fun v w_1 => 
     ∃ b115 : Bool, v = .bool b115 ∧
     Ret B w_1 (R (.bool b115)))
def V12.b0 (B : Nat) (R : Value → World → Prop) (fs1 : Option Addr) (fs1l fs1c : Nat) (at3 below4 : Int) (a12 : Addr) (m13 : Option Addr) (m13l m13c q11 : Nat) (p11 : Option Addr) (p11l p11c : Nat) (w : World) : Prop :=
  Expo B w [q11] fun w_1 => 
  Hide [q11] (w_1.alloc (.cells ⟨[.slice fs1 fs1l fs1c]⟩ 70)) fun w_2 => 
  CallK Try.prog 48 [.pointer (some (⟨w_1.heap.size, 0, none⟩)), .agg ⟨[.slice p11 p11l p11c]⟩] B w_2 [q11] fun v w_3 => 
  ∃ (x40 x40_1 x40_2 : Int) (b40 : Bool) (x40_3 : Int) (A40 : Option Addr) (A40l A40c : Nat) (A40_1 : Option Addr) (A40_1l A40_1c : Nat) (A40_2 : Option Addr) (A40_2l A40_2c : Nat), v = .agg ⟨[.int .i64 x40, .int .i64 x40_1, .int .i64 x40_2, .bool b40, .int .u64 x40_3, .slice A40 A40l A40c, .slice A40_1 A40_1l A40_1c, .slice A40_2 A40_2l A40_2c]⟩ ∧
  ∀ q15 : Nat, w_3.heap.size ≤ q15 → (200 : Int) ≠ 0 ∧
  ∃ p51 : Addr, p11 = some p51 ∧ (0 : Int) ≤ x40 ∧ x40 < (p11l : Int) ∧
  ∃ x52 : Int, w_3.cell? ((p51.add (x40.toNat * 4)).add 0) = some (.int .i64 x52) ∧
  ∃ x52_1 : Int, w_3.cell? ((p51.add (x40.toNat * 4)).add 1) = some (.int .i64 x52_1) ∧
  ∃ x52_2 : Int, w_3.cell? ((p51.add (x40.toNat * 4)).add 2) = some (.int .i64 x52_2) ∧
  ∃ (A52 : Option Addr) (A52l A52c : Nat), w_3.cell? ((p51.add (x40.toNat * 4)).add 3) = some (.slice A52 A52l A52c) ∧
  CallK Try.prog 33 [.agg ⟨[.int .i64 x52, .int .i64 x52_1, .int .i64 x52_2, .slice A52 A52l A52c]⟩] B w_3 [q15, q11] fun v_1 w_4 => 
  ∃ x53 : Int, v_1 = .int .i64 x53 ∧
  CallK Try.prog 52 [.pointer (some a12), .agg ⟨[.slice p11 p11l p11c]⟩, .int .i64 (Int.tmod (IntKind.wrap .i64 at3) 200), .int .i64 (if (-1) > IntKind.wrap .i64 below4 then (-1) else IntKind.wrap .i64 below4), .agg ⟨[.int .i64 x40, .int .i64 x40_1, .int .i64 x40_2, .bool b40, .int .u64 x40_3, .slice A40 A40l A40c, .slice A40_1 A40_1l A40_1c, .slice A40_2 A40_2l A40_2c]⟩] B w_4 [q15, q11] fun v_2 w_5 => 
  ∃ x59 : Int, v_2 = .int .i64 x59 ∧
  CallK Try.prog 54 [.pointer (some a12), .agg ⟨[.slice p11 p11l p11c]⟩, .int .i64 (Int.tmod (IntKind.wrap .i64 at3) 200)] B w_5 [q15, q11] fun v_3 w_6 => 
  ∃ (x64 x64_1 x64_2 : Int) (b64 : Bool) (x64_3 : Int) (A64 : Option Addr) (A64l A64c : Nat) (A64_1 : Option Addr) (A64_1l A64_1c : Nat) (A64_2 : Option Addr) (A64_2l A64_2c : Nat) (x64_4 x64_5 : Int), v_3 = .tuple ⟨[.agg ⟨[.int .i64 x64, .int .i64 x64_1, .int .i64 x64_2, .bool b64, .int .u64 x64_3, .slice A64 A64l A64c, .slice A64_1 A64_1l A64_1c, .slice A64_2 A64_2l A64_2c]⟩, .int .i64 x64_4, .int .i64 x64_5]⟩ ∧
  ∀ q20 : Nat, w_6.heap.size ≤ q20 →
  if (x59 != 0) = false
  then (if (x64_5 != 0) = false
   then (if (x64_4 != (if (-1) > IntKind.wrap .i64 below4 then (-1) else IntKind.wrap .i64 below4)) = false
    then (CallK Try.prog 56 [.agg ⟨[.int .i64 x40, .int .i64 x40_1, .int .i64 x40_2, .bool b40, .int .u64 x40_3, .slice A40 A40l A40c, .slice A40_1 A40_1l A40_1c, .slice A40_2 A40_2l A40_2c]⟩, .agg ⟨[.int .i64 x64, .int .i64 x64_1, .int .i64 x64_2, .bool b64, .int .u64 x64_3, .slice A64 A64l A64c, .slice A64_1 A64_1l A64_1c, .slice A64_2 A64_2l A64_2c]⟩] B w_6 [q20, q15, q11] fun v_4 w_7 => 
     ∃ b82 : Bool, v_4 = .bool b82 ∧
     if (!b82) = true
     then (Ret B w_7 (R (.bool false)))
     else (∃ k_1, V12.l1 B R k_1 a12 m13 m13l m13c (Int.tmod (IntKind.wrap .i64 at3) 200) x53 0 w_7))
    else (Ret B w_6 (R (.bool false))))
   else (Ret B w_6 (R (.bool false))))
  else (Ret B w_6 (R (.bool false)))
def V12.vc (B : Nat) (R : Value → World → Prop) (ns0 : Option Addr) (ns0l ns0c : Nat) (fs1 : Option Addr) (fs1l fs1c : Nat) (ws2 : Option Addr) (ws2l ws2c : Nat) (at3 below4 : Int) (w : World) : Prop :=
  CallK Try.prog 35 [.slice ns0 ns0l ns0c] B w [] fun v w_1 => 
  ∃ (A27 : Option Addr) (A27l A27c : Nat), v = .agg ⟨[.slice A27 A27l A27c]⟩ ∧
  ∀ q11 : Nat, w_1.heap.size ≤ q11 →
  CallK Try.prog 41 [.int .i64 4, .slice ws2 ws2l ws2c] B w_1 [q11] fun v_1 w_2 => 
  ∃ (op30 A30 : Option Addr) (A30l A30c : Nat), v_1 = .tuple ⟨[.pointer op30, .slice A30 A30l A30c]⟩ ∧
  caseP op30
  (False)
  (fun p30 => V12.b0 B R fs1 fs1l fs1c at3 below4 p30 A30 A30l A30c q11 A27 A27l A27c w_2)
noncomputable def V12.cfg (B : Nat) : Cfg := ⟨Try.prog, ⟨116, B⟩, [37], hasN [33, 35, 41, 47, 48, 52, 54, 56, 57], hasN []⟩
noncomputable def V12.code : Code := (Try.f12.body).getD .skip
noncomputable def V12.cuts (B : Nat) (R : Value → World → Prop) : Nat → Cut := nthC [⟨[(1, .one (.slice)), (3, .one (.int .u8)), (4, .one (.int .i8)), (12, .one (.ptr)), (13, .one (.slice))], [(11, 24, [.slice])], fun fs vs bs w => V12.b0 B R (slA (nthV vs 0)) (slL (nthV vs 0)) (slC (nthV vs 0)) (iV (nthV vs 1)) (iV (nthV vs 2)) (pV (nthV vs 3)) (slA (nthV vs 4)) (slL (nthV vs 4)) (slC (nthV vs 4)) (nthB bs 0).blk (slA (nthV (nthB bs 0).cells 0)) (slL (nthV (nthB bs 0).cells 0)) (slC (nthV (nthB bs 0).cells 0)) w⟩,
  ⟨[(12, .one (.ptr)), (13, .one (.slice)), (16, .one (.int .i64)), (18, .one (.int .i64)), (23, .one (.int .i64))], [], fun fs vs bs w => V12.l1 B R (nthN fs 0) (pV (nthV vs 0)) (slA (nthV vs 1)) (slL (nthV vs 1)) (slC (nthV vs 1)) (iV (nthV vs 2)) (iV (nthV vs 3)) (iV (nthV vs 4)) w⟩]
noncomputable def V12.h : H := .s (.z) (.s (.z) (.cut 0 (.z) (.s (.s (.z) (.c (.s (.z) (.z)) (.z))) (.s (.z) (.s (.z) (.s (.z) (.s (.z) (.s (.z) (.s (.s (.z) (.c (.s (.z) (.z)) (.z))) (.s (.s (.z) (.b (.l 1 (.s (.s (.z) (.c (.z) (.z))) (.s (.b (.s (.z) (.s (.z) (.c (.s (.z) (.z)) (.z))))) (.z)))))) (.s (.z) (.z))))))))))))
theorem V12.vc_eq (B : Nat) (R : Value → World → Prop) (ns0 : Option Addr) (ns0l ns0c : Nat) (fs1 : Option Addr) (fs1l fs1c : Nat) (ws2 : Option Addr) (ws2l ws2c : Nat) (at3 below4 : Int) (w : World) : wpf (V12.cfg B) (V12.cuts B R) V12.code V12.h [] (postOf Try.prog B (Try.f12.results.toList) R) (argE 0 [.slice ns0 ns0l ns0c, .slice fs1 fs1l fs1c, .slice ws2 ws2l ws2c, .int .u8 at3, .int .i8 below4]) [] w = V12.vc B R ns0 ns0l ns0c fs1 fs1l fs1c ws2 ws2l ws2c at3 below4 w := by kernel_rfl
theorem V12.obl (B : Nat) (R : Value → World → Prop) : oblP (V12.cfg B) (V12.cuts B R) V12.code V12.h [] (postOf Try.prog B (Try.f12.results.toList) R) := by
  have e : oblP (V12.cfg B) (V12.cuts B R) V12.code V12.h [] (postOf Try.prog B (Try.f12.results.toList) R) = (True ∧ (True ∧ (True ∧ (∀ (fs1 : Option Addr) (fs1l fs1c : Nat) (at3 below4 : Int) (a12 : Addr) (m13 : Option Addr) (m13l m13c q11 : Nat) (p11 : Option Addr) (p11l p11c : Nat) (w : World), V12.b0 B R fs1 fs1l fs1c at3 below4 a12 m13 m13l m13c q11 p11 p11l p11c w → V12.b0 B R fs1 fs1l fs1c at3 below4 a12 m13 m13l m13c q11 p11 p11l p11c w) ∧ ((True ∧ ((True ∧ True) ∧ True)) ∧ (True ∧ (True ∧ (True ∧ (True ∧ (True ∧ ((True ∧ ((True ∧ True) ∧ True)) ∧ ((True ∧ ((∀ (a12 : Addr) (m13 : Option Addr) (m13l m13c : Nat) (k16 w18 i23 : Int) (w : World), ¬ V12.l1 B R 0 a12 m13 m13l m13c k16 w18 i23 w) ∧ (∀ k1, ∀ (a12 : Addr) (m13 : Option Addr) (m13l m13c : Nat) (k16 w18 i23 : Int) (w : World), V12.l1 B R (k1 + 1) a12 m13 m13l m13c k16 w18 i23 w → V12.l1 B R (k1 + 1) a12 m13 m13l m13c k16 w18 i23 w) ∧ ∀ k1 : Nat, ((True ∧ (True ∧ True)) ∧ ((True ∧ (True ∧ ((True ∧ True) ∧ True))) ∧ True)))) ∧ (True ∧ True)))))))))))) := by kernel_rfl
  rw [e]
  exact ⟨trivial, ⟨trivial, ⟨trivial, fun fs1 fs1l fs1c at3 below4 a12 m13 m13l m13c q11 p11 p11l p11c w h => h, ⟨⟨trivial, ⟨⟨trivial, trivial⟩, trivial⟩⟩, ⟨trivial, ⟨trivial, ⟨trivial, ⟨trivial, ⟨trivial, ⟨⟨trivial, ⟨⟨trivial, trivial⟩, trivial⟩⟩, ⟨⟨trivial, ⟨fun a12 m13 m13l m13c k16 w18 i23 w h => h, fun _ a12 m13 m13l m13c k16 w18 i23 w h => h, fun k1 => ⟨⟨trivial, ⟨trivial, trivial⟩⟩, ⟨⟨trivial, ⟨trivial, ⟨⟨trivial, trivial⟩, trivial⟩⟩⟩, trivial⟩⟩⟩⟩, ⟨trivial, trivial⟩⟩⟩⟩⟩⟩⟩⟩⟩⟩⟩⟩
theorem V12.cfgOk (B : Nat) : CfgOk (V12.cfg B) := cfgOk_of (by kernel_rfl) (by kernel_rfl)
theorem V12.sound {ns0 : Option Addr} {ns0l ns0c : Nat} {fs1 : Option Addr} {fs1l fs1c : Nat} {ws2 : Option Addr} {ws2l ws2c : Nat} {at3 below4 : Int} {w : World} {R : Value → World → Prop} (h : V12.vc w.heap.size R ns0 ns0l ns0c fs1 fs1l fs1c ws2 ws2l ws2c at3 below4 w) : Calls Try.prog 12 ⟨[.slice ns0 ns0l ns0c, .slice fs1 fs1l fs1c, .slice ws2 ws2l ws2c, .int .u8 at3, .int .i8 below4]⟩ w fun e w' => ∃ v, e = .returned v ∧ R v w' :=
  calls_wpfP (c := V12.cfg w.heap.size) (fn := Try.f12) (x := V12.code) (V12.cuts w.heap.size R) V12.h (V12.cfgOk _) mixed Try.func12 (by kernel_rfl) (by kernel_rfl) (by kernel_rfl) rfl (V12.obl _ _) ((V12.vc_eq _ _ ns0 ns0l ns0c fs1 fs1l fs1c ws2 ws2l ws2c at3 below4 _).symm ▸ h)
end Go.Proofs.Ytlccbaemcfjdoaa
