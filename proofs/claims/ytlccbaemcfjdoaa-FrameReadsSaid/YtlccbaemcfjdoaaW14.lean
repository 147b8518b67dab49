/-
  What the engine makes of the loaded functions 14: conditions under which a call returns as told, and proofs of that.
  Conditions: none. Printed by a program of this project.
-/
import Derived.Test.YtlccbaemcfjdoaaWD
set_option linter.unusedVariables false
set_option maxRecDepth 100000
namespace Go.Proofs.Ytlccbaemcfjdoaa

/-! function 14 -/
def V14.b3 (B : Nat) (R : Value → World → Prop) (L2 : Option Addr → Nat → Nat → Option Addr → Nat → Nat → Addr → Int → Nat → Option Addr → Nat → Nat → World → Prop) (l10 : Option Addr) (l10l l10c : Nat) (at11 : Option Addr) (at11l at11c : Nat) (a14 : Addr) (i20 f23 : Int) (q21 : Nat) (x21 x21_1 x21_2 : Int) (x21_3 : Bool) (x21_4 : Int) (x21_5 : Option Addr) (x21_5l x21_5c : Nat) (x21_6 : Option Addr) (x21_6l x21_6c : Nat) (x21_7 : Option Addr) (x21_7l x21_7c q9 : Nat) (p9 : Option Addr) (p9l p9c : Nat) (w : World) : Prop :=
  if (f23 != 0) = false
  then (∃ p110 : Addr, l10 = some p110 ∧ (0 : Int) ≤ i20 ∧ i20 < (l10l : Int) ∧
  ∃ x111 : Int, w.cell? ((p110.add (i20.toNat * 8)).add 0) = some (.int .i64 x111) ∧
  ∃ x111_1 : Int, w.cell? ((p110.add (i20.toNat * 8)).add 1) = some (.int .i64 x111_1) ∧
  ∃ x111_2 : Int, w.cell? ((p110.add (i20.toNat * 8)).add 2) = some (.int .i64 x111_2) ∧
  ∃ b111 : Bool, w.cell? ((p110.add (i20.toNat * 8)).add 3) = some (.bool b111) ∧
  ∃ x111_3 : Int, w.cell? ((p110.add (i20.toNat * 8)).add 4) = some (.int .u64 x111_3) ∧
  ∃ (A111 : Option Addr) (A111l A111c : Nat), w.cell? ((p110.add (i20.toNat * 8)).add 5) = some (.slice A111 A111l A111c) ∧
  ∃ (A111_1 : Option Addr) (A111_1l A111_1c : Nat), w.cell? ((p110.add (i20.toNat * 8)).add 6) = some (.slice A111_1 A111_1l A111_1c) ∧
  ∃ (A111_2 : Option Addr) (A111_2l A111_2c : Nat), w.cell? ((p110.add (i20.toNat * 8)).add 7) = some (.slice A111_2 A111_2l A111_2c) ∧
  CallK Try.prog 56 [.agg ⟨[.int .i64 x21, .int .i64 x21_1, .int .i64 x21_2, .bool x21_3, .int .u64 x21_4, .slice x21_5 x21_5l x21_5c, .slice x21_6 x21_6l x21_6c, .slice x21_7 x21_7l x21_7c]⟩, .agg ⟨[.int .i64 x111, .int .i64 x111_1, .int .i64 x111_2, .bool b111, .int .u64 x111_3, .slice A111 A111l A111c, .slice A111_1 A111_1l A111_1c, .slice A111_2 A111_2l A111_2c]⟩] B w [q21, q9] fun v w_1 => 
   ∃ b112 : Bool, v = .bool b112 ∧
   if (!b112) = true
   then (Ret B w_1 (R (.bool false)))
   else (L2 l10 l10l l10c at11 at11l at11c a14 (IntKind.wrap .i64 (i20 + 1)) q9 p9 p9l p9c w_1))
  else (Ret B w (R (.bool false)))
def V14.l2 (B : Nat) (R : Value → World → Prop) : Nat → Option Addr → Nat → Nat → Option Addr → Nat → Nat → Addr → Int → Nat → Option Addr → Nat → Nat → World → Prop
  | 0 => fun _ _ _ _ _ _ _ _ _ _ _ _ _ => False
  | k + 1 => fun l10 l10l l10c at11 at11l at11c a14 i20 q9 p9 p9l p9c w =>
    if (decide (i20 < (l10l : Int))) = true
    then ((∃ p98 : Addr, at11 = some p98 ∧ (0 : Int) ≤ i20 ∧ i20 < (at11l : Int) ∧
    ∃ x99 : Int, w.cell? (p98.add i20.toNat) = some (.int .i64 x99) ∧
    CallK Try.prog 54 [.pointer (some a14), .agg ⟨[.slice p9 p9l p9c]⟩, .int .i64 x99] B w [q9] fun v w_1 => 
      ∃ (x100 x100_1 x100_2 : Int) (b100 : Bool) (x100_3 : Int) (A100 : Option Addr) (A100l A100c : Nat) (A100_1 : Option Addr) (A100_1l A100_1c : Nat) (A100_2 : Option Addr) (A100_2l A100_2c : Nat) (x100_4 x100_5 : Int), v = .tuple ⟨[.agg ⟨[.int .i64 x100, .int .i64 x100_1, .int .i64 x100_2, .bool b100, .int .u64 x100_3, .slice A100 A100l A100c, .slice A100_1 A100_1l A100_1c, .slice A100_2 A100_2l A100_2c]⟩, .int .i64 x100_4, .int .i64 x100_5]⟩ ∧
      ∀ q21 : Nat, w_1.heap.size ≤ q21 →
      V14.b3 B R (V14.l2 B R k) l10 l10l l10c at11 at11l at11c a14 i20 x100_5 q21 x100 x100_1 x100_2 b100 x100_3 A100 A100l A100c A100_1 A100_1l A100_1c A100_2 A100_2l A100_2c q9 p9 p9l p9c w_1) ∧
      (∃ p98 : Addr, at11 = some p98 ∧ (0 : Int) ≤ i20 ∧ i20 < (at11l : Int) ∧
      ∃ x99 : Int, w.cell? (p98.add i20.toNat) = some (.int .i64 x99) ∧
      ∀ q21 : Nat, w.heap.size ≤ q21 → w.cell? (p98.add i20.toNat) = some (.int .i64 x99) ∧
      CallK Try.prog 54 [.pointer (some a14), .agg ⟨[.slice p9 p9l p9c]⟩, .int .i64 x99] B w [q21, q9] fun v w_1 => 
      ∃ (x100 x100_1 x100_2 : Int) (b100 : Bool) (x100_3 : Int) (A100 : Option Addr) (A100l A100c : Nat) (A100_1 : Option Addr) (A100_1l A100_1c : Nat) (A100_2 : Option Addr) (A100_2l A100_2c : Nat) (x100_4 x100_5 : Int), v = .tuple ⟨[.agg ⟨[.int .i64 x100, .int .i64 x100_1, .int .i64 x100_2, .bool b100, .int .u64 x100_3, .slice A100 A100l A100c, .slice A100_1 A100_1l A100_1c, .slice A100_2 A100_2l A100_2c]⟩, .int .i64 x100_4, .int .i64 x100_5]⟩ ∧
      V14.b3 B R (V14.l2 B R k) l10 l10l l10c at11 at11l at11c a14 i20 x100_5 q21 x100 x100_1 x100_2 b100 x100_3 A100 A100l A100c A100_1 A100_1l A100_1c A100_2 A100_2l A100_2c q9 p9 p9l p9c w_1))
    else (CallK Try.prog 47 [] B w [q9] fun v w_1 => 
     ∃ b115 : Bool, v = .bool b115 ∧
     Ret B w_1 (R (.bool b115)))
def V14.l1 (B : Nat) (R : Value → World → Prop) : Nat → Option Addr → Nat → Nat → Option Addr → Nat → Nat → Int → Addr → Int → Int → Nat → Option Addr → Nat → Nat → World → Prop
  | 0 => fun _ _ _ _ _ _ _ _ _ _ _ _ _ _ _ => False
  | k + 1 => fun l10 l10l l10c at11 at11l at11c end13 a14 below16 i17 q9 p9 p9l p9c w =>
    if (decide (i17 < (l10l : Int))) = true
    then (∃ p54 : Addr, at11 = some p54 ∧ (0 : Int) ≤ i17 ∧ i17 < (at11l : Int) ∧
    ∃ x55 : Int, w.cell? (p54.add i17.toNat) = some (.int .i64 x55) ∧
    ∃ p59 : Addr, l10 = some p59 ∧ (0 : Int) ≤ i17 ∧ i17 < (l10l : Int) ∧
    ∃ x60 : Int, w.cell? ((p59.add (i17.toNat * 8)).add 0) = some (.int .i64 x60) ∧
    ∃ x60_1 : Int, w.cell? ((p59.add (i17.toNat * 8)).add 1) = some (.int .i64 x60_1) ∧
    ∃ x60_2 : Int, w.cell? ((p59.add (i17.toNat * 8)).add 2) = some (.int .i64 x60_2) ∧
    ∃ b60 : Bool, w.cell? ((p59.add (i17.toNat * 8)).add 3) = some (.bool b60) ∧
    ∃ x60_3 : Int, w.cell? ((p59.add (i17.toNat * 8)).add 4) = some (.int .u64 x60_3) ∧
    ∃ (A60 : Option Addr) (A60l A60c : Nat), w.cell? ((p59.add (i17.toNat * 8)).add 5) = some (.slice A60 A60l A60c) ∧
    ∃ (A60_1 : Option Addr) (A60_1l A60_1c : Nat), w.cell? ((p59.add (i17.toNat * 8)).add 6) = some (.slice A60_1 A60_1l A60_1c) ∧
    ∃ (A60_2 : Option Addr) (A60_2l A60_2c : Nat), w.cell? ((p59.add (i17.toNat * 8)).add 7) = some (.slice A60_2 A60_2l A60_2c) ∧
    CallK Try.prog 52 [.pointer (some a14), .agg ⟨[.slice p9 p9l p9c]⟩, .int .i64 x55, .int .i64 below16, .agg ⟨[.int .i64 x60, .int .i64 x60_1, .int .i64 x60_2, .bool b60, .int .u64 x60_3, .slice A60 A60l A60c, .slice A60_1 A60_1l A60_1c, .slice A60_2 A60_2l A60_2c]⟩] B w [q9] fun v w_1 => 
     ∃ x61 : Int, v = .int .i64 x61 ∧
     if (x61 != 0) = true
     then (Ret B w_1 (R (.bool false)))
     else (∃ p65 : Addr, at11 = some p65 ∧ (0 : Int) ≤ i17 ∧ i17 < (at11l : Int) ∧
     ∃ x66 : Int, w_1.cell? (p65.add i17.toNat) = some (.int .i64 x66) ∧ (V14.l1 B R k) l10 l10l l10c at11 at11l at11c end13 a14 x66 (IntKind.wrap .i64 (i17 + 1)) q9 p9 p9l p9c w_1))
    else (CallK Try.prog 59 [.pointer (some a14), .agg ⟨[.slice p9 p9l p9c]⟩, .int .i64 below16] B w [q9] fun v w_1 => 
     ∃ (A71 : Option Addr) (A71l A71c : Nat) (x71 : Int), v = .tuple ⟨[.slice A71 A71l A71c, .int .i64 x71]⟩ ∧
     if (x71 != 0) = false
     then (CallK Try.prog 61 [.slice at11 at11l at11c] B w_1 [q9] fun v_1 w_2 => 
      ∃ (A79 : Option Addr) (A79l A79c : Nat), v_1 = .slice A79 A79l A79c ∧
      CallK Try.prog 40 [.slice A71 A71l A71c, .slice A79 A79l A79c] B w_2 [q9] fun v_2 w_3 => 
      ∃ b80 : Bool, v_2 = .bool b80 ∧
      if (!b80) = false
      then (if (decide (end13 > 512)) = true
       then (Ret B w_3 (R (.bool false)))
       else (∃ k_1, V14.l2 B R k_1 l10 l10l l10c at11 at11l at11c a14 0 q9 p9 p9l p9c w_3))
      else (Ret B w_3 (R (.bool false))))
     else (Ret B w_1 (R (.bool false))))
def V14.b0 (B : Nat) (R : Value → World → Prop) (l10 : Option Addr) (l10l l10c : Nat) (at11 : Option Addr) (at11l at11c : Nat) (end13 : Int) (a14 : Addr) (q9 : Nat) (p9 : Option Addr) (p9l p9c : Nat) (w : World) : Prop :=
  ∃ k_1, V14.l1 B R k_1 l10 l10l l10c at11 at11l at11c end13 a14 (-1) 0 q9 p9 p9l p9c w
def V14.vc (B : Nat) (R : Value → World → Prop) (ns0 : Option Addr) (ns0l ns0c : Nat) (fs1 : Option Addr) (fs1l fs1c : Nat) (ws2 : Option Addr) (ws2l ws2c : Nat) (lo3 : Int) (w : World) : Prop :=
  CallK Try.prog 35 [.slice ns0 ns0l ns0c] B w [] fun v w_1 => 
  ∃ (A25 : Option Addr) (A25l A25c : Nat), v = .agg ⟨[.slice A25 A25l A25c]⟩ ∧
  ∀ q9 : Nat, w_1.heap.size ≤ q9 →
  RunK Try.prog (Instr.makeSlice 50 (.int .i64 512) (.int .i64 512)) B w_1 [q9] fun v_1 w_2 => 
  ∃ (A31 : Option Addr) (A31l A31c : Nat), v_1 = .slice A31 A31l A31c ∧
  CallK Try.prog 58 [.agg ⟨[.slice A25 A25l A25c]⟩, .slice fs1 fs1l fs1c, .int .i64 (IntKind.wrap .i64 lo3), .int .i64 512, .slice A31 A31l A31c] B w_2 [q9] fun v_2 w_3 => 
  ∃ (A32 : Option Addr) (A32l A32c : Nat) (A32_1 : Option Addr) (A32_1l A32_1c : Nat) (A32_2 : Option Addr) (A32_2l A32_2c : Nat) (x32 : Int), v_2 = .tuple ⟨[.slice A32 A32l A32c, .slice A32_1 A32_1l A32_1c, .slice A32_2 A32_2l A32_2c, .int .i64 x32]⟩ ∧
  CallK Try.prog 41 [.int .i64 8, .slice ws2 ws2l ws2c] B w_3 [q9] fun v_3 w_4 => 
  ∃ (op39 A39 : Option Addr) (A39l A39c : Nat), v_3 = .tuple ⟨[.pointer op39, .slice A39 A39l A39c]⟩ ∧
  caseP op39
  (False)
  (fun p39 => V14.b0 B R A32 A32l A32c A32_1 A32_1l A32_1c x32 p39 q9 A25 A25l A25c w_4)
noncomputable def V14.cfg (B : Nat) : Cfg := ⟨Try.prog, ⟨116, B⟩, [], hasN [35, 40, 41, 47, 52, 54, 56, 58, 59, 61], hasN []⟩
noncomputable def V14.code : Code := (Try.f14.body).getD .skip
noncomputable def V14.cuts (B : Nat) (R : Value → World → Prop) : Nat → Cut := nthC [⟨[(10, .one (.slice)), (11, .one (.slice)), (13, .one (.int .i64)), (14, .one (.ptr))], [(9, 24, [.slice])], fun fs vs bs w => V14.b0 B R (slA (nthV vs 0)) (slL (nthV vs 0)) (slC (nthV vs 0)) (slA (nthV vs 1)) (slL (nthV vs 1)) (slC (nthV vs 1)) (iV (nthV vs 2)) (pV (nthV vs 3)) (nthB bs 0).blk (slA (nthV (nthB bs 0).cells 0)) (slL (nthV (nthB bs 0).cells 0)) (slC (nthV (nthB bs 0).cells 0)) w⟩,
  ⟨[(10, .one (.slice)), (11, .one (.slice)), (13, .one (.int .i64)), (14, .one (.ptr)), (16, .one (.int .i64)), (17, .one (.int .i64))], [(9, 24, [.slice])], fun fs vs bs w => V14.l1 B R (nthN fs 0) (slA (nthV vs 0)) (slL (nthV vs 0)) (slC (nthV vs 0)) (slA (nthV vs 1)) (slL (nthV vs 1)) (slC (nthV vs 1)) (iV (nthV vs 2)) (pV (nthV vs 3)) (iV (nthV vs 4)) (iV (nthV vs 5)) (nthB bs 0).blk (slA (nthV (nthB bs 0).cells 0)) (slL (nthV (nthB bs 0).cells 0)) (slC (nthV (nthB bs 0).cells 0)) w⟩,
  ⟨[(10, .one (.slice)), (11, .one (.slice)), (14, .one (.ptr)), (20, .one (.int .i64))], [(9, 24, [.slice])], fun fs vs bs w => V14.l2 B R (nthN fs 0) (slA (nthV vs 0)) (slL (nthV vs 0)) (slC (nthV vs 0)) (slA (nthV vs 1)) (slL (nthV vs 1)) (slC (nthV vs 1)) (pV (nthV vs 2)) (iV (nthV vs 3)) (nthB bs 0).blk (slA (nthV (nthB bs 0).cells 0)) (slL (nthV (nthB bs 0).cells 0)) (slC (nthV (nthB bs 0).cells 0)) w⟩,
  ⟨[(10, .one (.slice)), (11, .one (.slice)), (14, .one (.ptr)), (20, .one (.int .i64)), (23, .one (.int .i64))], [(21, 67, [.int .i64, .int .i64, .int .i64, .bool, .int .u64, .slice, .slice, .slice]), (9, 24, [.slice])], fun fs vs bs w => V14.b3 B R (V14.l2 B R (nthN fs 0)) (slA (nthV vs 0)) (slL (nthV vs 0)) (slC (nthV vs 0)) (slA (nthV vs 1)) (slL (nthV vs 1)) (slC (nthV vs 1)) (pV (nthV vs 2)) (iV (nthV vs 3)) (iV (nthV vs 4)) (nthB bs 0).blk (iV (nthV (nthB bs 0).cells 0)) (iV (nthV (nthB bs 0).cells 1)) (iV (nthV (nthB bs 0).cells 2)) (bV (nthV (nthB bs 0).cells 3)) (iV (nthV (nthB bs 0).cells 4)) (slA (nthV (nthB bs 0).cells 5)) (slL (nthV (nthB bs 0).cells 5)) (slC (nthV (nthB bs 0).cells 5)) (slA (nthV (nthB bs 0).cells 6)) (slL (nthV (nthB bs 0).cells 6)) (slC (nthV (nthB bs 0).cells 6)) (slA (nthV (nthB bs 0).cells 7)) (slL (nthV (nthB bs 0).cells 7)) (slC (nthV (nthB bs 0).cells 7)) (nthB bs 1).blk (slA (nthV (nthB bs 1).cells 0)) (slL (nthV (nthB bs 1).cells 0)) (slC (nthV (nthB bs 1).cells 0)) w⟩]
noncomputable def V14.h : H := .s (.z) (.s (.z) (.s (.r [[0, 1, 2, 3, 4, 5, 6, 7, 8, 9, 10, 11, 12, 13, 14]]) (.cut 0 (.z) (.s (.s (.z) (.c (.s (.z) (.z)) (.z))) (.s (.z) (.s (.s (.z) (.b (.l 1 (.s (.s (.z) (.c (.z) (.z))) (.s (.b (.s (.s (.r [[0, 1, 2, 3, 4, 5, 6, 7, 8, 9, 10, 11, 12]]) (.c (.s (.z) (.z)) (.z))) (.z))) (.z)))))) (.s (.z) (.s (.s (.z) (.c (.s (.z) (.z)) (.z))) (.s (.s (.z) (.b (.l 2 (.s (.s (.z) (.c (.z) (.z))) (.s (.b (.cut 3 (.r [[0, 1, 2, 3, 4, 5, 6, 7, 8, 9, 10, 11, 12, 13, 14], [0, 1, 2, 3, 4, 5, 11, 6, 7, 8, 9, 10, 12, 13, 14]]) (.s (.r [[0, 1, 2, 3, 4, 5, 6, 7, 8, 9, 10]]) (.c (.s (.z) (.z)) (.z))))) (.z)))))) (.s (.z) (.z)))))))))))
theorem V14.vc_eq (B : Nat) (R : Value → World → Prop) (ns0 : Option Addr) (ns0l ns0c : Nat) (fs1 : Option Addr) (fs1l fs1c : Nat) (ws2 : Option Addr) (ws2l ws2c : Nat) (lo3 : Int) (w : World) : wpf (V14.cfg B) (V14.cuts B R) V14.code V14.h [] (postOf Try.prog B (Try.f14.results.toList) R) (argE 0 [.slice ns0 ns0l ns0c, .slice fs1 fs1l fs1c, .slice ws2 ws2l ws2c, .int .u8 lo3]) [] w = V14.vc B R ns0 ns0l ns0c fs1 fs1l fs1c ws2 ws2l ws2c lo3 w := by kernel_rfl
theorem V14.obl (B : Nat) (R : Value → World → Prop) : oblP (V14.cfg B) (V14.cuts B R) V14.code V14.h [] (postOf Try.prog B (Try.f14.results.toList) R) := by
  have e : oblP (V14.cfg B) (V14.cuts B R) V14.code V14.h [] (postOf Try.prog B (Try.f14.results.toList) R) = (True ∧ (True ∧ ((true = true) ∧ (True ∧ (∀ (l10 : Option Addr) (l10l l10c : Nat) (at11 : Option Addr) (at11l at11c : Nat) (end13 : Int) (a14 : Addr) (q9 : Nat) (p9 : Option Addr) (p9l p9c : Nat) (w : World), V14.b0 B R l10 l10l l10c at11 at11l at11c end13 a14 q9 p9 p9l p9c w → V14.b0 B R l10 l10l l10c at11 at11l at11c end13 a14 q9 p9 p9l p9c w) ∧ ((True ∧ ((True ∧ True) ∧ True)) ∧ (True ∧ ((True ∧ ((∀ (l10 : Option Addr) (l10l l10c : Nat) (at11 : Option Addr) (at11l at11c : Nat) (end13 : Int) (a14 : Addr) (below16 i17 : Int) (q9 : Nat) (p9 : Option Addr) (p9l p9c : Nat) (w : World), ¬ V14.l1 B R 0 l10 l10l l10c at11 at11l at11c end13 a14 below16 i17 q9 p9 p9l p9c w) ∧ (∀ k1, ∀ (l10 : Option Addr) (l10l l10c : Nat) (at11 : Option Addr) (at11l at11c : Nat) (end13 : Int) (a14 : Addr) (below16 i17 : Int) (q9 : Nat) (p9 : Option Addr) (p9l p9c : Nat) (w : World), V14.l1 B R (k1 + 1) l10 l10l l10c at11 at11l at11c end13 a14 below16 i17 q9 p9 p9l p9c w → V14.l1 B R (k1 + 1) l10 l10l l10c at11 at11l at11c end13 a14 below16 i17 q9 p9 p9l p9c w) ∧ ∀ k1 : Nat, ((True ∧ (True ∧ True)) ∧ ((((true = true) ∧ ((True ∧ True) ∧ True)) ∧ True) ∧ True)))) ∧ (True ∧ ((True ∧ ((True ∧ True) ∧ True)) ∧ ((True ∧ ((∀ (l10 : Option Addr) (l10l l10c : Nat) (at11 : Option Addr) (at11l at11c : Nat) (a14 : Addr) (i20 : Int) (q9 : Nat) (p9 : Option Addr) (p9l p9c : Nat) (w : World), ¬ V14.l2 B R 0 l10 l10l l10c at11 at11l at11c a14 i20 q9 p9 p9l p9c w) ∧ (∀ k2, ∀ (l10 : Option Addr) (l10l l10c : Nat) (at11 : Option Addr) (at11l at11c : Nat) (a14 : Addr) (i20 : Int) (q9 : Nat) (p9 : Option Addr) (p9l p9c : Nat) (w : World), V14.l2 B R (k2 + 1) l10 l10l l10c at11 at11l at11c a14 i20 q9 p9 p9l p9c w → V14.l2 B R (k2 + 1) l10 l10l l10c at11 at11l at11c a14 i20 q9 p9 p9l p9c w) ∧ ∀ k2 : Nat, ((True ∧ (True ∧ True)) ∧ (((true = true) ∧ (∀ (l10 : Option Addr) (l10l l10c : Nat) (at11 : Option Addr) (at11l at11c : Nat) (a14 : Addr) (i20 f23 : Int) (q21 : Nat) (x21 x21_1 x21_2 : Int) (x21_3 : Bool) (x21_4 : Int) (x21_5 : Option Addr) (x21_5l x21_5c : Nat) (x21_6 : Option Addr) (x21_6l x21_6c : Nat) (x21_7 : Option Addr) (x21_7l x21_7c q9 : Nat) (p9 : Option Addr) (p9l p9c : Nat) (w : World), V14.b3 B R (V14.l2 B R k2) l10 l10l l10c at11 at11l at11c a14 i20 f23 q21 x21 x21_1 x21_2 x21_3 x21_4 x21_5 x21_5l x21_5c x21_6 x21_6l x21_6c x21_7 x21_7l x21_7c q9 p9 p9l p9c w → V14.b3 B R (V14.l2 B R k2) l10 l10l l10c at11 at11l at11c a14 i20 f23 q21 x21 x21_1 x21_2 x21_3 x21_4 x21_5 x21_5l x21_5c x21_6 x21_6l x21_6c x21_7 x21_7l x21_7c q9 p9 p9l p9c w) ∧ ((true = true) ∧ ((True ∧ True) ∧ True))) ∧ True)))) ∧ (True ∧ True))))))))))) := by kernel_rfl
  rw [e]
  exact ⟨trivial, ⟨trivial, ⟨rfl, ⟨trivial, fun l10 l10l l10c at11 at11l at11c end13 a14 q9 p9 p9l p9c w h => h, ⟨⟨trivial, ⟨⟨trivial, trivial⟩, trivial⟩⟩, ⟨trivial, ⟨⟨trivial, ⟨fun l10 l10l l10c at11 at11l at11c end13 a14 below16 i17 q9 p9 p9l p9c w h => h, fun _ l10 l10l l10c at11 at11l at11c end13 a14 below16 i17 q9 p9 p9l p9c w h => h, fun k1 => ⟨⟨trivial, ⟨trivial, trivial⟩⟩, ⟨⟨⟨rfl, ⟨⟨trivial, trivial⟩, trivial⟩⟩, trivial⟩, trivial⟩⟩⟩⟩, ⟨trivial, ⟨⟨trivial, ⟨⟨trivial, trivial⟩, trivial⟩⟩, ⟨⟨trivial, ⟨fun l10 l10l l10c at11 at11l at11c a14 i20 q9 p9 p9l p9c w h => h, fun _ l10 l10l l10c at11 at11l at11c a14 i20 q9 p9 p9l p9c w h => h, fun k2 => ⟨⟨trivial, ⟨trivial, trivial⟩⟩, ⟨⟨rfl, fun l10 l10l l10c at11 at11l at11c a14 i20 f23 q21 x21 x21_1 x21_2 x21_3 x21_4 x21_5 x21_5l x21_5c x21_6 x21_6l x21_6c x21_7 x21_7l x21_7c q9 p9 p9l p9c w h => h, ⟨rfl, ⟨⟨trivial, trivial⟩, trivial⟩⟩⟩, trivial⟩⟩⟩⟩, ⟨trivial, trivial⟩⟩⟩⟩⟩⟩⟩⟩⟩⟩⟩
theorem V14.cfgOk (B : Nat) : CfgOk (V14.cfg B) := cfgOk_of (by kernel_rfl) (by kernel_rfl)
theorem V14.sound {ns0 : Option Addr} {ns0l ns0c : Nat} {fs1 : Option Addr} {fs1l fs1c : Nat} {ws2 : Option Addr} {ws2l ws2c : Nat} {lo3 : Int} {w : World} {R : Value → World → Prop} (h : V14.vc w.heap.size R ns0 ns0l ns0c fs1 fs1l fs1c ws2 ws2l ws2c lo3 w) : Calls Try.prog 14 ⟨[.slice ns0 ns0l ns0c, .slice fs1 fs1l fs1c, .slice ws2 ws2l ws2c, .int .u8 lo3]⟩ w fun e w' => ∃ v, e = .returned v ∧ R v w' :=
  calls_wpfP (c := V14.cfg w.heap.size) (fn := Try.f14) (x := V14.code) (V14.cuts w.heap.size R) V14.h (V14.cfgOk _) mixed Try.func14 (by kernel_rfl) (by kernel_rfl) (by kernel_rfl) rfl (V14.obl _ _) ((V14.vc_eq _ _ ns0 ns0l ns0c fs1 fs1l fs1c ws2 ws2l ws2c lo3 _).symm ▸ h)
end Go.Proofs.Ytlccbaemcfjdoaa
