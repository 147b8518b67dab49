/-
  What the engine makes of the loaded functions 9: conditions under which a call returns as told, and proofs of that.
  Conditions: none. Printed by a program of this project.
-/
import Derived.Test.YtlccbaemcfjdoaaWD
set_option linter.unusedVariables false
set_option maxRecDepth 100000
namespace Go.Proofs.Ytlccbaemcfjdoaa

/-! function 9 -/
def V9.b0 (B : Nat) (R : Value → World → Prop) (at1 : Int) (a7 : Addr) (m8 : Option Addr) (m8l m8c q5 : Nat) (h5 h5_1 h5_2 h5_3 : Int) (h5_4 : Bool) (h5_5 h5_6 h5_7 : Int) (w : World) : Prop :=
  CallK Try.prog 42 [.pointer (some a7), .int .i64 at1] B w [q5] fun v w_1 => 
  ∃ (x30 x30_1 x30_2 x30_3 : Int) (b30 : Bool) (x30_4 x30_5 x30_6 x30_7 : Int), v = .tuple ⟨[.agg ⟨[.int .i64 x30, .int .i64 x30_1, .int .i64 x30_2, .int .i64 x30_3, .bool b30, .int .u64 x30_4, .int .i64 x30_5, .int .i64 x30_6]⟩, .int .i64 x30_7]⟩ ∧
  ∀ q9 : Nat, w_1.heap.size ≤ q9 →
  CallK Try.prog 43 [.slice m8 m8l m8c, .int .i64 at1] B w_1 [q9, q5] fun v_1 w_2 => 
  ∃ (x36 x36_1 x36_2 x36_3 : Int) (b36 : Bool) (x36_4 x36_5 x36_6 x36_7 : Int), v_1 = .tuple ⟨[.agg ⟨[.int .i64 x36, .int .i64 x36_1, .int .i64 x36_2, .int .i64 x36_3, .bool b36, .int .u64 x36_4, .int .i64 x36_5, .int .i64 x36_6]⟩, .int .i64 x36_7]⟩ ∧
  ∀ q11 : Nat, w_2.heap.size ≤ q11 →
  CallK Try.prog 44 [.pointer (some a7), .int .i64 at1, .agg ⟨[.int .i64 h5, .int .i64 h5_1, .int .i64 h5_2, .int .i64 h5_3, .bool h5_4, .int .u64 h5_5, .int .i64 h5_6, .int .i64 h5_7]⟩] B w_2 [q11, q9, q5] fun v_2 w_3 => 
  ∃ x42 : Int, v_2 = .int .i64 x42 ∧
  CallK Try.prog 45 [.slice m8 m8l m8c, .int .i64 at1, .agg ⟨[.int .i64 h5, .int .i64 h5_1, .int .i64 h5_2, .int .i64 h5_3, .bool h5_4, .int .u64 h5_5, .int .i64 h5_6, .int .i64 h5_7]⟩] B w_3 [q11, q9, q5] fun v_3 w_4 => 
  ∃ (A47 : Option Addr) (A47l A47c : Nat) (x47 : Int), v_3 = .tuple ⟨[.slice A47 A47l A47c, .int .i64 x47]⟩ ∧
  CallK Try.prog 42 [.pointer (some a7), .int .i64 at1] B w_4 [q11, q9, q5] fun v_4 w_5 => 
  ∃ (x53 x53_1 x53_2 x53_3 : Int) (b53 : Bool) (x53_4 x53_5 x53_6 x53_7 : Int), v_4 = .tuple ⟨[.agg ⟨[.int .i64 x53, .int .i64 x53_1, .int .i64 x53_2, .int .i64 x53_3, .bool b53, .int .u64 x53_4, .int .i64 x53_5, .int .i64 x53_6]⟩, .int .i64 x53_7]⟩ ∧
  ∀ q16 : Nat, w_5.heap.size ≤ q16 →
  CallK Try.prog 43 [.slice A47 A47l A47c, .int .i64 at1] B w_5 [q16, q11, q9, q5] fun v_5 w_6 => 
  ∃ (x59 x59_1 x59_2 x59_3 : Int) (b59 : Bool) (x59_4 x59_5 x59_6 x59_7 : Int), v_5 = .tuple ⟨[.agg ⟨[.int .i64 x59, .int .i64 x59_1, .int .i64 x59_2, .int .i64 x59_3, .bool b59, .int .u64 x59_4, .int .i64 x59_5, .int .i64 x59_6]⟩, .int .i64 x59_7]⟩ ∧
  ∀ q18 : Nat, w_6.heap.size ≤ q18 →
  if ((x30 == x36) && ((x30_1 == x36_1) && ((x30_2 == x36_2) && ((x30_3 == x36_3) && ((b30 == b36) && ((x30_4 == x36_4) && ((x30_5 == x36_5) && (x30_6 == x36_6)))))))) = true
  then (if (x30_7 == x36_7) = true
   then (if (x42 == x47) = true
    then (if ((x53 == x59) && ((x53_1 == x59_1) && ((x53_2 == x59_2) && ((x53_3 == x59_3) && ((b53 == b59) && ((x53_4 == x59_4) && ((x53_5 == x59_5) && (x53_6 == x59_6)))))))) = true
     then (if (x53_7 == x59_7) = true
      then (CallK Try.prog 46 [.pointer (some a7), .slice A47 A47l A47c] B w_6 [q18, q16, q11, q9, q5] fun v_6 w_7 => 
       ∃ b88 : Bool, v_6 = .bool b88 ∧
       if b88 = true
       then (CallK Try.prog 47 [] B w_7 [q18, q16, q11, q9, q5] fun v_7 w_8 => 
        ∃ b91 : Bool, v_7 = .bool b91 ∧
        Ret B w_8 (R (.bool b91)))
       else (Ret B w_7 (R (.bool false))))
      else (Ret B w_6 (R (.bool false))))
     else (Ret B w_6 (R (.bool false))))
    else (Ret B w_6 (R (.bool false))))
   else (Ret B w_6 (R (.bool false))))
  else (Ret B w_6 (R (.bool false)))
def V9.vc (B : Nat) (R : Value → World → Prop) (ws0 : Option Addr) (ws0l ws0c : Nat) (at1 h2 h2_1 h2_2 h2_3 : Int) (h2_4 : Bool) (h2_5 h2_6 h2_7 : Int) (w : World) : Prop :=
  ∀ q5 : Nat, w.heap.size ≤ q5 →
CallK Try.prog 41 [.int .i64 1, .slice ws0 ws0l ws0c] B w [q5] fun v w_1 => 
  ∃ (op22 A22 : Option Addr) (A22l A22c : Nat), v = .tuple ⟨[.pointer op22, .slice A22 A22l A22c]⟩ ∧
  caseP op22
  (False)
  (fun p22 => V9.b0 B R at1 p22 A22 A22l A22c q5 h2 h2_1 h2_2 h2_3 h2_4 h2_5 h2_6 h2_7 w_1)
noncomputable def V9.cfg (B : Nat) : Cfg := ⟨Try.prog, ⟨93, B⟩, [], hasN [41, 42, 43, 44, 45, 46, 47], hasN [53]⟩
noncomputable def V9.code : Code := (Try.f9.body).getD .skip
noncomputable def V9.cuts (B : Nat) (R : Value → World → Prop) : Nat → Cut := nthC [⟨[(1, .one (.int .i64)), (7, .one (.ptr)), (8, .one (.slice))], [(5, 53, [.int .i64, .int .i64, .int .i64, .int .i64, .bool, .int .u64, .int .i64, .int .i64])], fun fs vs bs w => V9.b0 B R (iV (nthV vs 0)) (pV (nthV vs 1)) (slA (nthV vs 2)) (slL (nthV vs 2)) (slC (nthV vs 2)) (nthB bs 0).blk (iV (nthV (nthB bs 0).cells 0)) (iV (nthV (nthB bs 0).cells 1)) (iV (nthV (nthB bs 0).cells 2)) (iV (nthV (nthB bs 0).cells 3)) (bV (nthV (nthB bs 0).cells 4)) (iV (nthV (nthB bs 0).cells 5)) (iV (nthV (nthB bs 0).cells 6)) (iV (nthV (nthB bs 0).cells 7)) w⟩]
noncomputable def V9.h : H := .s (.z) (.cut 0 (.z) (.s (.s (.z) (.c (.s (.z) (.z)) (.z))) (.s (.z) (.s (.z) (.s (.z) (.s (.z) (.s (.z) (.s (.z) (.s (.z) (.z))))))))))
theorem V9.vc_eq (B : Nat) (R : Value → World → Prop) (ws0 : Option Addr) (ws0l ws0c : Nat) (at1 h2 h2_1 h2_2 h2_3 : Int) (h2_4 : Bool) (h2_5 h2_6 h2_7 : Int) (w : World) : wpf (V9.cfg B) (V9.cuts B R) V9.code V9.h [] (postOf Try.prog B (Try.f9.results.toList) R) (argE 0 [.slice ws0 ws0l ws0c, .int .i64 at1, .agg ⟨[.int .i64 h2, .int .i64 h2_1, .int .i64 h2_2, .int .i64 h2_3, .bool h2_4, .int .u64 h2_5, .int .i64 h2_6, .int .i64 h2_7]⟩]) [] w = V9.vc B R ws0 ws0l ws0c at1 h2 h2_1 h2_2 h2_3 h2_4 h2_5 h2_6 h2_7 w := by kernel_rfl
theorem V9.obl (B : Nat) (R : Value → World → Prop) : oblP (V9.cfg B) (V9.cuts B R) V9.code V9.h [] (postOf Try.prog B (Try.f9.results.toList) R) := by
  have e : oblP (V9.cfg B) (V9.cuts B R) V9.code V9.h [] (postOf Try.prog B (Try.f9.results.toList) R) = (True ∧ (True ∧ (∀ (at1 : Int) (a7 : Addr) (m8 : Option Addr) (m8l m8c q5 : Nat) (h5 h5_1 h5_2 h5_3 : Int) (h5_4 : Bool) (h5_5 h5_6 h5_7 : Int) (w : World), V9.b0 B R at1 a7 m8 m8l m8c q5 h5 h5_1 h5_2 h5_3 h5_4 h5_5 h5_6 h5_7 w → V9.b0 B R at1 a7 m8 m8l m8c q5 h5 h5_1 h5_2 h5_3 h5_4 h5_5 h5_6 h5_7 w) ∧ ((True ∧ ((True ∧ True) ∧ True)) ∧ (True ∧ (True ∧ (True ∧ (True ∧ (True ∧ (True ∧ (True ∧ True)))))))))) := by kernel_rfl
  rw [e]
  exact ⟨trivial, ⟨trivial, fun at1 a7 m8 m8l m8c q5 h5 h5_1 h5_2 h5_3 h5_4 h5_5 h5_6 h5_7 w h => h, ⟨⟨trivial, ⟨⟨trivial, trivial⟩, trivial⟩⟩, ⟨trivial, ⟨trivial, ⟨trivial, ⟨trivial, ⟨trivial, ⟨trivial, ⟨trivial, trivial⟩⟩⟩⟩⟩⟩⟩⟩⟩⟩
theorem V9.cfgOk (B : Nat) : CfgOk (V9.cfg B) := cfgOk_of (by kernel_rfl) (by kernel_rfl)
theorem V9.sound {ws0 : Option Addr} {ws0l ws0c : Nat} {at1 h2 h2_1 h2_2 h2_3 : Int} {h2_4 : Bool} {h2_5 h2_6 h2_7 : Int} {w : World} {R : Value → World → Prop} (h : V9.vc w.heap.size R ws0 ws0l ws0c at1 h2 h2_1 h2_2 h2_3 h2_4 h2_5 h2_6 h2_7 w) : Calls Try.prog 9 ⟨[.slice ws0 ws0l ws0c, .int .i64 at1, .agg ⟨[.int .i64 h2, .int .i64 h2_1, .int .i64 h2_2, .int .i64 h2_3, .bool h2_4, .int .u64 h2_5, .int .i64 h2_6, .int .i64 h2_7]⟩]⟩ w fun e w' => ∃ v, e = .returned v ∧ R v w' :=
  calls_wpfP (c := V9.cfg w.heap.size) (fn := Try.f9) (x := V9.code) (V9.cuts w.heap.size R) V9.h (V9.cfgOk _) mixed Try.func9 (by kernel_rfl) (by kernel_rfl) (by kernel_rfl) rfl (V9.obl _ _) ((V9.vc_eq _ _ ws0 ws0l ws0c at1 h2 h2_1 h2_2 h2_3 h2_4 h2_5 h2_6 h2_7 _).symm ▸ h)
end Go.Proofs.Ytlccbaemcfjdoaa
