/-
  What the engine makes of the loaded functions 13: conditions under which a call returns as told, and proofs of that.
  Conditions: none. Printed by a program of this project.
-/
import Derived.Test.YtlccbaemcfjdoaaWD
set_option linter.unusedVariables false
set_option maxRecDepth 100000
namespace Go.Proofs.Ytlccbaemcfjdoaa

/-! function 13 -/
def V13.l3 (B : Nat) (R : Value → World → Prop) : Nat → Option Addr → Nat → Nat → Addr → Option Addr → Nat → Nat → Int → Int → Nat → Option Addr → Nat → Nat → World → Prop
  | 0 => fun _ _ _ _ _ _ _ _ _ _ _ _ _ _ => False
  | k + 1 => fun m12 m12l m12c a17 A95 A95l A95c x96 x97 q11 p11 p11l p11c w =>
    if (decide (x97 < x96)) = true
    then (∃ p99 : Addr, A95 = some p99 ∧ (0 : Int) ≤ x97 ∧ x97 < (A95l : Int) ∧
    ∃ x100 : Int, w.cell? (p99.add x97.toNat) = some (.int .i64 x100) ∧
    CallK Try.prog 54 [.pointer (some a17), .agg ⟨[.slice p11 p11l p11c]⟩, .int .i64 x100] B w [q11] fun v w_1 => 
     ∃ (x105 x105_1 x105_2 : Int) (b105 : Bool) (x105_3 : Int) (A105 : Option Addr) (A105l A105c : Nat) (A105_1 : Option Addr) (A105_1l A105_1c : Nat) (A105_2 : Option Addr) (A105_2l A105_2c : Nat) (x105_4 x105_5 : Int), v = .tuple ⟨[.agg ⟨[.int .i64 x105, .int .i64 x105_1, .int .i64 x105_2, .bool b105, .int .u64 x105_3, .slice A105 A105l A105c, .slice A105_1 A105_1l A105_1c, .slice A105_2 A105_2l A105_2c]⟩, .int .i64 x105_4, .int .i64 x105_5]⟩ ∧
     ∀ q21 : Nat, w_1.heap.size ≤ q21 →
     CallK Try.prog 55 [.slice m12 m12l m12c, .agg ⟨[.slice p11 p11l p11c]⟩, .int .i64 x100] B w_1 [q21, q11] fun v_1 w_2 => 
     ∃ (x113 x113_1 x113_2 : Int) (b113 : Bool) (x113_3 : Int) (A113 : Option Addr) (A113l A113c : Nat) (A113_1 : Option Addr) (A113_1l A113_1c : Nat) (A113_2 : Option Addr) (A113_2l A113_2c : Nat) (x113_4 x113_5 : Int), v_1 = .tuple ⟨[.agg ⟨[.int .i64 x113, .int .i64 x113_1, .int .i64 x113_2, .bool b113, .int .u64 x113_3, .slice A113 A113l A113c, .slice A113_1 A113_1l A113_1c, .slice A113_2 A113_2l A113_2c]⟩, .int .i64 x113_4, .int .i64 x113_5]⟩ ∧
     ∀ q24 : Nat, w_2.heap.size ≤ q24 →
     CallK Try.prog 59 [.pointer (some a17), .agg ⟨[.slice p11 p11l p11c]⟩, .int .i64 x100] B w_2 [q24, q21, q11] fun v_2 w_3 => 
     ∃ (A121 : Option Addr) (A121l A121c : Nat) (x121 : Int), v_2 = .tuple ⟨[.slice A121 A121l A121c, .int .i64 x121]⟩ ∧
     CallK Try.prog 60 [.slice m12 m12l m12c, .agg ⟨[.slice p11 p11l p11c]⟩, .int .i64 x100] B w_3 [q24, q21, q11] fun v_3 w_4 => 
     ∃ (A128 : Option Addr) (A128l A128c : Nat) (x128 : Int), v_3 = .tuple ⟨[.slice A128 A128l A128c, .int .i64 x128]⟩ ∧
     CallK Try.prog 56 [.agg ⟨[.int .i64 x105, .int .i64 x105_1, .int .i64 x105_2, .bool b105, .int .u64 x105_3, .slice A105 A105l A105c, .slice A105_1 A105_1l A105_1c, .slice A105_2 A105_2l A105_2c]⟩, .agg ⟨[.int .i64 x113, .int .i64 x113_1, .int .i64 x113_2, .bool b113, .int .u64 x113_3, .slice A113 A113l A113c, .slice A113_1 A113_1l A113_1c, .slice A113_2 A113_2l A113_2c]⟩] B w_4 [q24, q21, q11] fun v_4 w_5 => 
     ∃ b133 : Bool, v_4 = .bool b133 ∧
     if (!b133) = false
     then (if (x105_4 != x113_4) = false
      then (if (x105_5 != x113_5) = false
       then (CallK Try.prog 40 [.slice A121 A121l A121c, .slice A128 A128l A128c] B w_5 [q24, q21, q11] fun v_5 w_6 => 
        ∃ b148 : Bool, v_5 = .bool b148 ∧
        if (!b148) = false
        then (if (x121 != x128) = true
         then (Ret B w_6 (R (.bool false)))
         else ((V13.l3 B R k) m12 m12l m12c a17 A95 A95l A95c x96 (IntKind.wrap .i64 (x97 + 1)) q11 p11 p11l p11c w_6))
        else (Ret B w_6 (R (.bool false))))
       else (Ret B w_5 (R (.bool false))))
      else (Ret B w_5 (R (.bool false))))
     else (Ret B w_5 (R (.bool false))))
    else (CallK Try.prog 46 [.pointer (some a17), .slice m12 m12l m12c] B w [q11] fun v w_1 => 
     ∃ b159 : Bool, v = .bool b159 ∧
     if b159 = true
     then (CallK Try.prog 47 [] B w_1 [q11] fun v_1 w_2 => 
      ∃ b161 : Bool, v_1 = .bool b161 ∧
      Ret B w_2 (R (.bool b161)))
     else (Ret B w_1 (R (.bool false))))
def V13.b2 (B : Nat) (R : Value → World → Prop) (ws2 : Option Addr) (ws2l ws2c : Nat) (top4 : Int) (m12 : Option Addr) (m12l m12c : Nat) (at14 : Option Addr) (at14l at14c : Nat) (a17 : Addr) (q11 : Nat) (p11 : Option Addr) (p11l p11c : Nat) (w : World) : Prop :=
  (40 : Int) ≠ 0 ∧
Expo B w [q11] fun w_1 => 
  Hide [q11] (w_1.alloc (.cells ⟨[.int .i64 top4, .int .i64 (Int.tmod (ws2l : Int) 40), .int .i64 (-1)]⟩ 3)) fun w_2 => 
  RunK Try.prog (Builtin.append_ #[42, 42] 42 ⟨[.slice at14 at14l at14c, .slice (some ⟨w_1.heap.size, 0, none⟩) 3 3]⟩) B w_2 [q11] fun v w_3 => 
  ∃ (A95 : Option Addr) (A95l A95c : Nat), v = .slice A95 A95l A95c ∧
  ∃ k_1, V13.l3 B R k_1 m12 m12l m12c a17 A95 A95l A95c (A95l : Int) 0 q11 p11 p11l p11c w_3
def V13.b1 (B : Nat) (R : Value → World → Prop) (ws2 : Option Addr) (ws2l ws2c : Nat) (top4 : Int) (m12 : Option Addr) (m12l m12c : Nat) (at14 : Option Addr) (at14l at14c q11 : Nat) (p11 : Option Addr) (p11l p11c : Nat) (w : World) : Prop :=
  CallK Try.prog 41 [.int .i64 8, .slice m12 m12l m12c] B w [q11] fun v w_1 => 
  ∃ (op84 A84 : Option Addr) (A84l A84c : Nat), v = .tuple ⟨[.pointer op84, .slice A84 A84l A84c]⟩ ∧
  caseP op84
  (False)
  (fun p84 => V13.b2 B R ws2 ws2l ws2c top4 m12 m12l m12c at14 at14l at14c p84 q11 p11 p11l p11c w_1)
def V13.l0 (B : Nat) (R : Value → World → Prop) : Nat → Option Addr → Nat → Nat → Option Addr → Nat → Nat → Int → Option Addr → Nat → Nat → Option Addr → Nat → Nat → Int → Int → Nat → Option Addr → Nat → Nat → World → Prop
  | 0 => fun _ _ _ _ _ _ _ _ _ _ _ _ _ _ _ _ _ _ _ _ => False
  | k + 1 => fun ws2 ws2l ws2c turns3 turns3l turns3c top4 m12 m12l m12c at14 at14l at14c end15 i16 q11 p11 p11l p11c w =>
    if (decide (IntKind.wrap .i64 (i16 + 1) < (turns3l : Int))) = true
    then (if (decide (i16 < 20)) = true
     then (∃ p63 : Addr, turns3 = some p63 ∧ (0 : Int) ≤ i16 ∧ i16 < (turns3l : Int) ∧
     ∃ x64 : Int, w.cell? (p63.add i16.toNat) = some (.int .u8 x64) ∧ (if 1 > end15 then 1 else end15) ≠ 0 ∧
     ∃ p72 : Addr, turns3 = some p72 ∧ (0 : Int) ≤ IntKind.wrap .i64 (i16 + 1) ∧ IntKind.wrap .i64 (i16 + 1) < (turns3l : Int) ∧
     ∃ x73 : Int, w.cell? (p72.add ((IntKind.wrap .i64 (i16 + 1)).toNat)) = some (.int .u8 x73) ∧
     ∃ p77 : Addr, turns3 = some p77 ∧ (0 : Int) ≤ i16 ∧ i16 < (turns3l : Int) ∧
     ∃ x78 : Int, w.cell? (p77.add i16.toNat) = some (.int .u8 x78) ∧ (8 : Int) ≠ 0 ∧ (0 : Int) ≤ Int.tmod x78 8 ∧
     ∃ p81 : Addr, m12 = some p81 ∧ (0 : Int) ≤ Int.tmod (IntKind.wrap .i64 x64) (if 1 > end15 then 1 else end15) ∧ Int.tmod (IntKind.wrap .i64 x64) (if 1 > end15 then 1 else end15) < (m12l : Int) ∧
     (∃ u, w.cell? ((p81.add ((Int.tmod (IntKind.wrap .i64 x64) (if 1 > end15 then 1 else end15)).toNat)).add 0) = some u) ∧ w.frozen? ((p81.add ((Int.tmod (IntKind.wrap .i64 x64) (if 1 > end15 then 1 else end15)).toNat)).add 0) = false ∧
     let w_1 := w.setCell ((p81.add ((Int.tmod (IntKind.wrap .i64 x64) (if 1 > end15 then 1 else end15)).toNat)).add 0) (.int .u64 (Int.fdiv (IntKind.wrap .u64 x73) (2 ^ min ((Int.tmod x78 8).toNat) 64)));
     (V13.l0 B R k) ws2 ws2l ws2c turns3 turns3l turns3c top4 m12 m12l m12c at14 at14l at14c end15 (IntKind.wrap .i64 (i16 + 2)) q11 p11 p11l p11c w_1)
     else (V13.b1 B R ws2 ws2l ws2c top4 m12 m12l m12c at14 at14l at14c q11 p11 p11l p11c w))
    else (V13.b1 B R ws2 ws2l ws2c top4 m12 m12l m12c at14 at14l at14c q11 p11 p11l p11c w)
def V13.vc (B : Nat) (R : Value → World → Prop) (ns0 : Option Addr) (ns0l ns0c : Nat) (fs1 : Option Addr) (fs1l fs1c : Nat) (ws2 : Option Addr) (ws2l ws2c : Nat) (turns3 : Option Addr) (turns3l turns3c : Nat) (top4 : Int) (w : World) : Prop :=
  CallK Try.prog 35 [.slice ns0 ns0l ns0c] B w [] fun v w_1 => 
  ∃ (A32 : Option Addr) (A32l A32c : Nat), v = .agg ⟨[.slice A32 A32l A32c]⟩ ∧
  ∀ q11 : Nat, w_1.heap.size ≤ q11 →
  RunK Try.prog (Instr.makeSlice 50 (.int .i64 512) (.int .i64 512)) B w_1 [q11] fun v_1 w_2 => 
  ∃ (A33 : Option Addr) (A33l A33c : Nat), v_1 = .slice A33 A33l A33c ∧
  RunK Try.prog (Builtin.copy_ #[50, 50] 3 ⟨[.slice A33 A33l A33c, .slice ws2 ws2l ws2c]⟩) B w_2 [q11] fun v_2 w_3 => 
  ∃ x36 : Int, v_2 = .int .i64 x36 ∧ (40 : Int) ≠ 0 ∧
  CallK Try.prog 58 [.agg ⟨[.slice A32 A32l A32c]⟩, .slice fs1 fs1l fs1c, .int .i64 (Int.tmod (ws2l : Int) 40), .int .i64 512, .slice A33 A33l A33c] B w_3 [q11] fun v_3 w_4 => 
  ∃ (A44 : Option Addr) (A44l A44c : Nat) (A44_1 : Option Addr) (A44_1l A44_1c : Nat) (A44_2 : Option Addr) (A44_2l A44_2c : Nat) (x44 : Int), v_3 = .tuple ⟨[.slice A44 A44l A44c, .slice A44_1 A44_1l A44_1c, .slice A44_2 A44_2l A44_2c, .int .i64 x44]⟩ ∧
  ∃ k_1, V13.l0 B R k_1 ws2 ws2l ws2c turns3 turns3l turns3c top4 A44_2 A44_2l A44_2c A44_1 A44_1l A44_1c x44 0 q11 A32 A32l A32c w_4
noncomputable def V13.cfg (B : Nat) : Cfg := ⟨Try.prog, ⟨163, B⟩, [], hasN [35, 40, 41, 46, 47, 54, 55, 56, 58, 59, 60], hasN []⟩
noncomputable def V13.code : Code := (Try.f13.body).getD .skip
noncomputable def V13.cuts (B : Nat) (R : Value → World → Prop) : Nat → Cut := nthC [⟨[(2, .one (.slice)), (3, .one (.slice)), (4, .one (.int .i64)), (12, .one (.slice)), (14, .one (.slice)), (15, .one (.int .i64)), (16, .one (.int .i64))], [(11, 24, [.slice])], fun fs vs bs w => V13.l0 B R (nthN fs 0) (slA (nthV vs 0)) (slL (nthV vs 0)) (slC (nthV vs 0)) (slA (nthV vs 1)) (slL (nthV vs 1)) (slC (nthV vs 1)) (iV (nthV vs 2)) (slA (nthV vs 3)) (slL (nthV vs 3)) (slC (nthV vs 3)) (slA (nthV vs 4)) (slL (nthV vs 4)) (slC (nthV vs 4)) (iV (nthV vs 5)) (iV (nthV vs 6)) (nthB bs 0).blk (slA (nthV (nthB bs 0).cells 0)) (slL (nthV (nthB bs 0).cells 0)) (slC (nthV (nthB bs 0).cells 0)) w⟩,
  ⟨[(2, .one (.slice)), (4, .one (.int .i64)), (12, .one (.slice)), (14, .one (.slice))], [(11, 24, [.slice])], fun fs vs bs w => V13.b1 B R (slA (nthV vs 0)) (slL (nthV vs 0)) (slC (nthV vs 0)) (iV (nthV vs 1)) (slA (nthV vs 2)) (slL (nthV vs 2)) (slC (nthV vs 2)) (slA (nthV vs 3)) (slL (nthV vs 3)) (slC (nthV vs 3)) (nthB bs 0).blk (slA (nthV (nthB bs 0).cells 0)) (slL (nthV (nthB bs 0).cells 0)) (slC (nthV (nthB bs 0).cells 0)) w⟩,
  ⟨[(2, .one (.slice)), (4, .one (.int .i64)), (12, .one (.slice)), (14, .one (.slice)), (17, .one (.ptr))], [(11, 24, [.slice])], fun fs vs bs w => V13.b2 B R (slA (nthV vs 0)) (slL (nthV vs 0)) (slC (nthV vs 0)) (iV (nthV vs 1)) (slA (nthV vs 2)) (slL (nthV vs 2)) (slC (nthV vs 2)) (slA (nthV vs 3)) (slL (nthV vs 3)) (slC (nthV vs 3)) (pV (nthV vs 4)) (nthB bs 0).blk (slA (nthV (nthB bs 0).cells 0)) (slL (nthV (nthB bs 0).cells 0)) (slC (nthV (nthB bs 0).cells 0)) w⟩,
  ⟨[(12, .one (.slice)), (17, .one (.ptr)), (95, .one (.slice)), (96, .one (.int .i64)), (97, .one (.int .i64))], [(11, 24, [.slice])], fun fs vs bs w => V13.l3 B R (nthN fs 0) (slA (nthV vs 0)) (slL (nthV vs 0)) (slC (nthV vs 0)) (pV (nthV vs 1)) (slA (nthV vs 2)) (slL (nthV vs 2)) (slC (nthV vs 2)) (iV (nthV vs 3)) (iV (nthV vs 4)) (nthB bs 0).blk (slA (nthV (nthB bs 0).cells 0)) (slL (nthV (nthB bs 0).cells 0)) (slC (nthV (nthB bs 0).cells 0)) w⟩]
noncomputable def V13.h : H := .s (.z) (.s (.z) (.s (.z) (.s (.z) (.s (.z) (.cut 1 (.s (.z) (.b (.l 0 (.s (.s (.z) (.c (.z) (.z))) (.s (.b (.r [[0, 1, 2, 3, 4, 5, 6, 7, 8, 9, 10, 11, 12, 13, 14, 15, 16, 17, 18, 19, 20, 21, 22]])) (.z)))))) (.cut 2 (.z) (.s (.s (.z) (.c (.s (.z) (.z)) (.z))) (.s (.s (.z) (.b (.l 3 (.s (.z) (.s (.c (.z) (.z)) (.s (.b (.s (.z) (.s (.z) (.s (.z) (.s (.z) (.s (.z) (.s (.z) (.c (.s (.z) (.z)) (.z))))))))) (.z))))))) (.s (.z) (.z))))))))))
theorem V13.vc_eq (B : Nat) (R : Value → World → Prop) (ns0 : Option Addr) (ns0l ns0c : Nat) (fs1 : Option Addr) (fs1l fs1c : Nat) (ws2 : Option Addr) (ws2l ws2c : Nat) (turns3 : Option Addr) (turns3l turns3c : Nat) (top4 : Int) (w : World) : wpf (V13.cfg B) (V13.cuts B R) V13.code V13.h [] (postOf Try.prog B (Try.f13.results.toList) R) (argE 0 [.slice ns0 ns0l ns0c, .slice fs1 fs1l fs1c, .slice ws2 ws2l ws2c, .slice turns3 turns3l turns3c, .int .i64 top4]) [] w = V13.vc B R ns0 ns0l ns0c fs1 fs1l fs1c ws2 ws2l ws2c turns3 turns3l turns3c top4 w := by kernel_rfl
theorem V13.obl (B : Nat) (R : Value → World → Prop) : oblP (V13.cfg B) (V13.cuts B R) V13.code V13.h [] (postOf Try.prog B (Try.f13.results.toList) R) := by
  have e : oblP (V13.cfg B) (V13.cuts B R) V13.code V13.h [] (postOf Try.prog B (Try.f13.results.toList) R) = (True ∧ (True ∧ (True ∧ (True ∧ (True ∧ ((True ∧ ((∀ (ws2 : Option Addr) (ws2l ws2c : Nat) (turns3 : Option Addr) (turns3l turns3c : Nat) (top4 : Int) (m12 : Option Addr) (m12l m12c : Nat) (at14 : Option Addr) (at14l at14c : Nat) (end15 i16 : Int) (q11 : Nat) (p11 : Option Addr) (p11l p11c : Nat) (w : World), ¬ V13.l0 B R 0 ws2 ws2l ws2c turns3 turns3l turns3c top4 m12 m12l m12c at14 at14l at14c end15 i16 q11 p11 p11l p11c w) ∧ (∀ k0, ∀ (ws2 : Option Addr) (ws2l ws2c : Nat) (turns3 : Option Addr) (turns3l turns3c : Nat) (top4 : Int) (m12 : Option Addr) (m12l m12c : Nat) (at14 : Option Addr) (at14l at14c : Nat) (end15 i16 : Int) (q11 : Nat) (p11 : Option Addr) (p11l p11c : Nat) (w : World), V13.l0 B R (k0 + 1) ws2 ws2l ws2c turns3 turns3l turns3c top4 m12 m12l m12c at14 at14l at14c end15 i16 q11 p11 p11l p11c w → V13.l0 B R (k0 + 1) ws2 ws2l ws2c turns3 turns3l turns3c top4 m12 m12l m12c at14 at14l at14c end15 i16 q11 p11 p11l p11c w) ∧ ∀ k0 : Nat, ((True ∧ (True ∧ True)) ∧ ((true = true) ∧ True)))) ∧ (∀ (ws2 : Option Addr) (ws2l ws2c : Nat) (top4 : Int) (m12 : Option Addr) (m12l m12c : Nat) (at14 : Option Addr) (at14l at14c q11 : Nat) (p11 : Option Addr) (p11l p11c : Nat) (w : World), V13.b1 B R ws2 ws2l ws2c top4 m12 m12l m12c at14 at14l at14c q11 p11 p11l p11c w → V13.b1 B R ws2 ws2l ws2c top4 m12 m12l m12c at14 at14l at14c q11 p11 p11l p11c w) ∧ (True ∧ (∀ (ws2 : Option Addr) (ws2l ws2c : Nat) (top4 : Int) (m12 : Option Addr) (m12l m12c : Nat) (at14 : Option Addr) (at14l at14c : Nat) (a17 : Addr) (q11 : Nat) (p11 : Option Addr) (p11l p11c : Nat) (w : World), V13.b2 B R ws2 ws2l ws2c top4 m12 m12l m12c at14 at14l at14c a17 q11 p11 p11l p11c w → V13.b2 B R ws2 ws2l ws2c top4 m12 m12l m12c at14 at14l at14c a17 q11 p11 p11l p11c w) ∧ ((True ∧ ((True ∧ True) ∧ True)) ∧ ((True ∧ ((∀ (m12 : Option Addr) (m12l m12c : Nat) (a17 : Addr) (A95 : Option Addr) (A95l A95c : Nat) (x96 x97 : Int) (q11 : Nat) (p11 : Option Addr) (p11l p11c : Nat) (w : World), ¬ V13.l3 B R 0 m12 m12l m12c a17 A95 A95l A95c x96 x97 q11 p11 p11l p11c w) ∧ (∀ k3, ∀ (m12 : Option Addr) (m12l m12c : Nat) (a17 : Addr) (A95 : Option Addr) (A95l A95c : Nat) (x96 x97 : Int) (q11 : Nat) (p11 : Option Addr) (p11l p11c : Nat) (w : World), V13.l3 B R (k3 + 1) m12 m12l m12c a17 A95 A95l A95c x96 x97 q11 p11 p11l p11c w → V13.l3 B R (k3 + 1) m12 m12l m12c a17 A95 A95l A95c x96 x97 q11 p11 p11l p11c w) ∧ ∀ k3 : Nat, (True ∧ ((True ∧ True) ∧ ((True ∧ (True ∧ (True ∧ (True ∧ (True ∧ (True ∧ ((True ∧ True) ∧ True))))))) ∧ True))))) ∧ (True ∧ True)))))))))) := by kernel_rfl
  rw [e]
  exact ⟨trivial, ⟨trivial, ⟨trivial, ⟨trivial, ⟨trivial, ⟨⟨trivial, ⟨fun ws2 ws2l ws2c turns3 turns3l turns3c top4 m12 m12l m12c at14 at14l at14c end15 i16 q11 p11 p11l p11c w h => h, fun _ ws2 ws2l ws2c turns3 turns3l turns3c top4 m12 m12l m12c at14 at14l at14c end15 i16 q11 p11 p11l p11c w h => h, fun k0 => ⟨⟨trivial, ⟨trivial, trivial⟩⟩, ⟨rfl, trivial⟩⟩⟩⟩, fun ws2 ws2l ws2c top4 m12 m12l m12c at14 at14l at14c q11 p11 p11l p11c w h => h, ⟨trivial, fun ws2 ws2l ws2c top4 m12 m12l m12c at14 at14l at14c a17 q11 p11 p11l p11c w h => h, ⟨⟨trivial, ⟨⟨trivial, trivial⟩, trivial⟩⟩, ⟨⟨trivial, ⟨fun m12 m12l m12c a17 A95 A95l A95c x96 x97 q11 p11 p11l p11c w h => h, fun _ m12 m12l m12c a17 A95 A95l A95c x96 x97 q11 p11 p11l p11c w h => h, fun k3 => ⟨trivial, ⟨⟨trivial, trivial⟩, ⟨⟨trivial, ⟨trivial, ⟨trivial, ⟨trivial, ⟨trivial, ⟨trivial, ⟨⟨trivial, trivial⟩, trivial⟩⟩⟩⟩⟩⟩⟩, trivial⟩⟩⟩⟩⟩, ⟨trivial, trivial⟩⟩⟩⟩⟩⟩⟩⟩⟩⟩
theorem V13.cfgOk (B : Nat) : CfgOk (V13.cfg B) := cfgOk_of (by kernel_rfl) (by kernel_rfl)
theorem V13.sound {ns0 : Option Addr} {ns0l ns0c : Nat} {fs1 : Option Addr} {fs1l fs1c : Nat} {ws2 : Option Addr} {ws2l ws2c : Nat} {turns3 : Option Addr} {turns3l turns3c : Nat} {top4 : Int} {w : World} {R : Value → World → Prop} (h : V13.vc w.heap.size R ns0 ns0l ns0c fs1 fs1l fs1c ws2 ws2l ws2c turns3 turns3l turns3c top4 w) : Calls Try.prog 13 ⟨[.slice ns0 ns0l ns0c, .slice fs1 fs1l fs1c, .slice ws2 ws2l ws2c, .slice turns3 turns3l turns3c, .int .i64 top4]⟩ w fun e w' => ∃ v, e = .returned v ∧ R v w' :=
  calls_wpfP (c := V13.cfg w.heap.size) (fn := Try.f13) (x := V13.code) (V13.cuts w.heap.size R) V13.h (V13.cfgOk _) mixed Try.func13 (by kernel_rfl) (by kernel_rfl) (by kernel_rfl) rfl (V13.obl _ _) ((V13.vc_eq _ _ ns0 ns0l ns0c fs1 fs1l fs1c ws2 ws2l ws2c turns3 turns3l turns3c top4 _).symm ▸ h)
end Go.Proofs.Ytlccbaemcfjdoaa
