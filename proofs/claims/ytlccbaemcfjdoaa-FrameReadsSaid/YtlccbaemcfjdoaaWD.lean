/-
  What the engine makes of the loaded functions 58, 59, 60, 61: conditions under which a call returns as told, and proofs of that.
  Conditions: none. Printed by a program of this project.
-/
import Derived.Test.YtlccbaemcfjdoaaWE
set_option linter.unusedVariables false
set_option maxRecDepth 100000
namespace Go.Proofs.Ytlccbaemcfjdoaa

/-! function 58 -/
def V58.b1 (B : Nat) (R : Value → World → Prop) (m4 : Option Addr) (m4l m4c : Nat) (l15 : Option Addr) (l15l l15c : Nat) (at16 : Option Addr) (at16l at16c : Nat) (end18 : Int) (w : World) : Prop :=
  Ret B w (R (.tuple ⟨[.slice l15 l15l l15c, .slice at16 at16l at16c, .slice m4 m4l m4c, .int .i64 end18]⟩))
def V58.l0 (B : Nat) (R : Value → World → Prop) : Nat → Int → Option Addr → Nat → Nat → Addr → Option Addr → Nat → Nat → Option Addr → Nat → Nat → Int → Int → Int → Nat → Option Addr → Nat → Nat → World → Prop
  | 0 => fun _ _ _ _ _ _ _ _ _ _ _ _ _ _ _ _ _ _ _ => False
  | k + 1 => fun most3 m4 m4l m4c n14 l15 l15l l15c at16 at16l at16c below17 end18 i19 q5 p5 p5l p5c w =>
    if (decide (i19 > 0)) = true
    then (CallK Try.prog 48 [.pointer (some n14), .agg ⟨[.slice p5 p5l p5c]⟩] B w [q5] fun v w_1 => 
     ∃ (x35 x35_1 x35_2 : Int) (b35 : Bool) (x35_3 : Int) (A35 : Option Addr) (A35l A35c : Nat) (A35_1 : Option Addr) (A35_1l A35_1c : Nat) (A35_2 : Option Addr) (A35_2l A35_2c : Nat), v = .agg ⟨[.int .i64 x35, .int .i64 x35_1, .int .i64 x35_2, .bool b35, .int .u64 x35_3, .slice A35 A35l A35c, .slice A35_1 A35_1l A35_1c, .slice A35_2 A35_2l A35_2c]⟩ ∧
     ∀ q20 : Nat, w_1.heap.size ≤ q20 →
     ∃ p40 : Addr, p5 = some p40 ∧ (0 : Int) ≤ x35 ∧ x35 < (p5l : Int) ∧
     ∃ x41 : Int, w_1.cell? ((p40.add (x35.toNat * 4)).add 0) = some (.int .i64 x41) ∧
     ∃ x41_1 : Int, w_1.cell? ((p40.add (x35.toNat * 4)).add 1) = some (.int .i64 x41_1) ∧
     ∃ x41_2 : Int, w_1.cell? ((p40.add (x35.toNat * 4)).add 2) = some (.int .i64 x41_2) ∧
     ∃ (A41 : Option Addr) (A41l A41c : Nat), w_1.cell? ((p40.add (x35.toNat * 4)).add 3) = some (.slice A41 A41l A41c) ∧
     CallK Try.prog 33 [.agg ⟨[.int .i64 x41, .int .i64 x41_1, .int .i64 x41_2, .slice A41 A41l A41c]⟩] B w_1 [q20, q5] fun v_1 w_2 => 
     ∃ x42 : Int, v_1 = .int .i64 x42 ∧
     if (decide (x42 > IntKind.wrap .i64 (most3 - end18))) = true
     then (V58.b1 B R m4 m4l m4c l15 l15l l15c at16 at16l at16c end18 w_2)
     else (CallK Try.prog 53 [.slice m4 m4l m4c, .agg ⟨[.slice p5 p5l p5c]⟩, .int .i64 end18, .int .i64 below17, .agg ⟨[.int .i64 x35, .int .i64 x35_1, .int .i64 x35_2, .bool b35, .int .u64 x35_3, .slice A35 A35l A35c, .slice A35_1 A35_1l A35_1c, .slice A35_2 A35_2l A35_2c]⟩] B w_2 [q20, q5] fun v_2 w_3 => 
      ∃ (A54 : Option Addr) (A54l A54c : Nat) (x54 : Int), v_2 = .tuple ⟨[.slice A54 A54l A54c, .int .i64 x54]⟩ ∧
      Expo B w_3 [q20, q5] fun w_4 => 
      Hide [q20, q5] (w_4.alloc (.cells ⟨[.int .i64 x35, .int .i64 x35_1, .int .i64 x35_2, .bool b35, .int .u64 x35_3, .slice A35 A35l A35c, .slice A35_1 A35_1l A35_1c, .slice A35_2 A35_2l A35_2c]⟩ 67)) fun w_5 => 
      RunK Try.prog (Builtin.append_ #[88, 88] 88 ⟨[.slice l15 l15l l15c, .slice (some ⟨w_4.heap.size, 0, none⟩) 1 1]⟩) B w_5 [q20, q5] fun v_3 w_6 => 
      ∃ (A60 : Option Addr) (A60l A60c : Nat), v_3 = .slice A60 A60l A60c ∧
      Expo B w_6 [q20, q5] fun w_7 => 
      Hide [q20, q5] (w_7.alloc (.cells ⟨[.int .i64 end18]⟩ 3)) fun w_8 => 
      RunK Try.prog (Builtin.append_ #[42, 42] 42 ⟨[.slice at16 at16l at16c, .slice (some ⟨w_7.heap.size, 0, none⟩) 1 1]⟩) B w_8 [q20, q5] fun v_4 w_9 => 
      ∃ (A64 : Option Addr) (A64l A64c : Nat), v_4 = .slice A64 A64l A64c ∧ (V58.l0 B R k) most3 A54 A54l A54c n14 A60 A60l A60c A64 A64l A64c end18 (IntKind.wrap .i64 (end18 + x42)) (IntKind.wrap .i64 (i19 - 1)) q5 p5 p5l p5c w_9))
    else (V58.b1 B R m4 m4l m4c l15 l15l l15c at16 at16l at16c end18 w)
def V58.vc (B : Nat) (R : Value → World → Prop) (p0 : Option Addr) (p0l p0c : Nat) (fs1 : Option Addr) (fs1l fs1c : Nat) (lo2 most3 : Int) (m4 : Option Addr) (m4l m4c : Nat) (w : World) : Prop :=
  ∀ q5 : Nat, w.heap.size ≤ q5 →
Expo B w [q5] fun w_1 => 
  Hide [q5] (w_1.alloc (.cells ⟨[.slice fs1 fs1l fs1c]⟩ 70)) fun w_2 => 
  CallK Try.prog 51 [.pointer (some (⟨w_1.heap.size, 0, none⟩))] B w_2 [q5] fun v w_3 => 
  ∃ x27 : Int, v = .int .i64 x27 ∧ (12 : Int) ≠ 0 ∧
  ∃ k_1, V58.l0 B R k_1 most3 m4 m4l m4c (⟨w_1.heap.size, 0, none⟩) none 0 0 none 0 0 (-1) lo2 (Int.tmod x27 12) q5 p0 p0l p0c w_3
noncomputable def V58.cfg (B : Nat) : Cfg := ⟨Try.prog, ⟨73, B⟩, [24], hasN [33, 48, 51, 53], hasN []⟩
noncomputable def V58.code : Code := (Try.f58.body).getD .skip
noncomputable def V58.cuts (B : Nat) (R : Value → World → Prop) : Nat → Cut := nthC [⟨[(3, .one (.int .i64)), (4, .one (.slice)), (14, .one (.ptr)), (15, .one (.slice)), (16, .one (.slice)), (17, .one (.int .i64)), (18, .one (.int .i64)), (19, .one (.int .i64))], [(5, 24, [.slice])], fun fs vs bs w => V58.l0 B R (nthN fs 0) (iV (nthV vs 0)) (slA (nthV vs 1)) (slL (nthV vs 1)) (slC (nthV vs 1)) (pV (nthV vs 2)) (slA (nthV vs 3)) (slL (nthV vs 3)) (slC (nthV vs 3)) (slA (nthV vs 4)) (slL (nthV vs 4)) (slC (nthV vs 4)) (iV (nthV vs 5)) (iV (nthV vs 6)) (iV (nthV vs 7)) (nthB bs 0).blk (slA (nthV (nthB bs 0).cells 0)) (slL (nthV (nthB bs 0).cells 0)) (slC (nthV (nthB bs 0).cells 0)) w⟩,
  ⟨[(4, .one (.slice)), (15, .one (.slice)), (16, .one (.slice)), (18, .one (.int .i64))], [], fun fs vs bs w => V58.b1 B R (slA (nthV vs 0)) (slL (nthV vs 0)) (slC (nthV vs 0)) (slA (nthV vs 1)) (slL (nthV vs 1)) (slC (nthV vs 1)) (slA (nthV vs 2)) (slL (nthV vs 2)) (slC (nthV vs 2)) (iV (nthV vs 3)) w⟩]
noncomputable def V58.h : H := .s (.z) (.s (.z) (.s (.z) (.s (.z) (.s (.z) (.cut 1 (.s (.z) (.b (.l 0 (.s (.s (.z) (.c (.z) (.z))) (.s (.b (.s (.z) (.s (.z) (.s (.s (.z) (.c (.z) (.z))) (.s (.z) (.s (.z) (.z))))))) (.z)))))) (.s (.z) (.z)))))))
theorem V58.vc_eq (B : Nat) (R : Value → World → Prop) (p0 : Option Addr) (p0l p0c : Nat) (fs1 : Option Addr) (fs1l fs1c : Nat) (lo2 most3 : Int) (m4 : Option Addr) (m4l m4c : Nat) (w : World) : wpf (V58.cfg B) (V58.cuts B R) V58.code V58.h [] (postOf Try.prog B (Try.f58.results.toList) R) (argE 0 [.agg ⟨[.slice p0 p0l p0c]⟩, .slice fs1 fs1l fs1c, .int .i64 lo2, .int .i64 most3, .slice m4 m4l m4c]) [] w = V58.vc B R p0 p0l p0c fs1 fs1l fs1c lo2 most3 m4 m4l m4c w := by kernel_rfl
theorem V58.obl (B : Nat) (R : Value → World → Prop) : oblP (V58.cfg B) (V58.cuts B R) V58.code V58.h [] (postOf Try.prog B (Try.f58.results.toList) R) := by
  have e : oblP (V58.cfg B) (V58.cuts B R) V58.code V58.h [] (postOf Try.prog B (Try.f58.results.toList) R) = (True ∧ (True ∧ (True ∧ (True ∧ (True ∧ ((True ∧ ((∀ (most3 : Int) (m4 : Option Addr) (m4l m4c : Nat) (n14 : Addr) (l15 : Option Addr) (l15l l15c : Nat) (at16 : Option Addr) (at16l at16c : Nat) (below17 end18 i19 : Int) (q5 : Nat) (p5 : Option Addr) (p5l p5c : Nat) (w : World), ¬ V58.l0 B R 0 most3 m4 m4l m4c n14 l15 l15l l15c at16 at16l at16c below17 end18 i19 q5 p5 p5l p5c w) ∧ (∀ k0, ∀ (most3 : Int) (m4 : Option Addr) (m4l m4c : Nat) (n14 : Addr) (l15 : Option Addr) (l15l l15c : Nat) (at16 : Option Addr) (at16l at16c : Nat) (below17 end18 i19 : Int) (q5 : Nat) (p5 : Option Addr) (p5l p5c : Nat) (w : World), V58.l0 B R (k0 + 1) most3 m4 m4l m4c n14 l15 l15l l15c at16 at16l at16c below17 end18 i19 q5 p5 p5l p5c w → V58.l0 B R (k0 + 1) most3 m4 m4l m4c n14 l15 l15l l15c at16 at16l at16c below17 end18 i19 q5 p5 p5l p5c w) ∧ ∀ k0 : Nat, ((True ∧ (True ∧ True)) ∧ ((True ∧ (True ∧ ((True ∧ (True ∧ True)) ∧ (True ∧ (True ∧ True))))) ∧ True)))) ∧ (∀ (m4 : Option Addr) (m4l m4c : Nat) (l15 : Option Addr) (l15l l15c : Nat) (at16 : Option Addr) (at16l at16c : Nat) (end18 : Int) (w : World), V58.b1 B R m4 m4l m4c l15 l15l l15c at16 at16l at16c end18 w → V58.b1 B R m4 m4l m4c l15 l15l l15c at16 at16l at16c end18 w) ∧ (True ∧ True))))))) := by kernel_rfl
  rw [e]
  exact ⟨trivial, ⟨trivial, ⟨trivial, ⟨trivial, ⟨trivial, ⟨⟨trivial, ⟨fun most3 m4 m4l m4c n14 l15 l15l l15c at16 at16l at16c below17 end18 i19 q5 p5 p5l p5c w h => h, fun _ most3 m4 m4l m4c n14 l15 l15l l15c at16 at16l at16c below17 end18 i19 q5 p5 p5l p5c w h => h, fun k0 => ⟨⟨trivial, ⟨trivial, trivial⟩⟩, ⟨⟨trivial, ⟨trivial, ⟨⟨trivial, ⟨trivial, trivial⟩⟩, ⟨trivial, ⟨trivial, trivial⟩⟩⟩⟩⟩, trivial⟩⟩⟩⟩, fun m4 m4l m4c l15 l15l l15c at16 at16l at16c end18 w h => h, ⟨trivial, trivial⟩⟩⟩⟩⟩⟩⟩
theorem V58.cfgOk (B : Nat) : CfgOk (V58.cfg B) := cfgOk_of (by kernel_rfl) (by kernel_rfl)
theorem V58.sound {p0 : Option Addr} {p0l p0c : Nat} {fs1 : Option Addr} {fs1l fs1c : Nat} {lo2 most3 : Int} {m4 : Option Addr} {m4l m4c : Nat} {w : World} {R : Value → World → Prop} (h : V58.vc w.heap.size R p0 p0l p0c fs1 fs1l fs1c lo2 most3 m4 m4l m4c w) : Calls Try.prog 58 ⟨[.agg ⟨[.slice p0 p0l p0c]⟩, .slice fs1 fs1l fs1c, .int .i64 lo2, .int .i64 most3, .slice m4 m4l m4c]⟩ w fun e w' => ∃ v, e = .returned v ∧ R v w' :=
  calls_wpfP (c := V58.cfg w.heap.size) (fn := Try.f58) (x := V58.code) (V58.cuts w.heap.size R) V58.h (V58.cfgOk _) mixed Try.func58 (by kernel_rfl) (by kernel_rfl) (by kernel_rfl) rfl (V58.obl _ _) ((V58.vc_eq _ _ p0 p0l p0c fs1 fs1l fs1c lo2 most3 m4 m4l m4c _).symm ▸ h)

/-! function 59 -/
def V59.b1 (B : Nat) (R : Value → World → Prop) (L0 : Addr → Option Addr → Nat → Nat → Int → Int → Nat → Option Addr → Nat → Nat → World → Prop) (a0 : Addr) (out8 : Option Addr) (out8l out8c : Nat) (at9 under12 : Int) (q4 : Nat) (p4 : Option Addr) (p4l p4c : Nat) (w : World) : Prop :=
  Expo B w [q4] fun w_1 => 
  Hide [q4] (w_1.alloc (.cells ⟨[.int .i64 at9]⟩ 3)) fun w_2 => 
  RunK Try.prog (Builtin.append_ #[42, 42] 42 ⟨[.slice out8 out8l out8c, .slice (some ⟨w_1.heap.size, 0, none⟩) 1 1]⟩) B w_2 [q4] fun v w_3 => 
  ∃ (A53 : Option Addr) (A53l A53c : Nat), v = .slice A53 A53l A53c ∧ L0 a0 A53 A53l A53c under12 at9 q4 p4 p4l p4c w_3
def V59.l0 (B : Nat) (R : Value → World → Prop) : Nat → Addr → Option Addr → Nat → Nat → Int → Int → Nat → Option Addr → Nat → Nat → World → Prop
  | 0 => fun _ _ _ _ _ _ _ _ _ _ _ => False
  | k + 1 => fun a0 out8 out8l out8c at9 end10 q4 p4 p4l p4c w =>
    if (at9 != (-1)) = true
    then (CallK Try.prog 54 [.pointer (some a0), .agg ⟨[.slice p4 p4l p4c]⟩, .int .i64 at9] B w [q4] fun v w_1 => 
     ∃ (x25 x25_1 x25_2 : Int) (b25 : Bool) (x25_3 : Int) (A25 : Option Addr) (A25l A25c : Nat) (A25_1 : Option Addr) (A25_1l A25_1c : Nat) (A25_2 : Option Addr) (A25_2l A25_2c : Nat) (x25_4 x25_5 : Int), v = .tuple ⟨[.agg ⟨[.int .i64 x25, .int .i64 x25_1, .int .i64 x25_2, .bool b25, .int .u64 x25_3, .slice A25 A25l A25c, .slice A25_1 A25_1l A25_1c, .slice A25_2 A25_2l A25_2c]⟩, .int .i64 x25_4, .int .i64 x25_5]⟩ ∧
     ∀ q11 : Nat, w_1.heap.size ≤ q11 →
     if (x25_5 != 0) = true
     then (Ret B w_1 (R (.tuple ⟨[.slice none 0 0, .int .i64 x25_5]⟩)))
     else (if (decide ((out8l : Int) > 0)) = true
      then (∃ p43 : Addr, p4 = some p43 ∧ (0 : Int) ≤ x25 ∧ x25 < (p4l : Int) ∧
      ∃ x44 : Int, w_1.cell? ((p43.add (x25.toNat * 4)).add 0) = some (.int .i64 x44) ∧
      ∃ x44_1 : Int, w_1.cell? ((p43.add (x25.toNat * 4)).add 1) = some (.int .i64 x44_1) ∧
      ∃ x44_2 : Int, w_1.cell? ((p43.add (x25.toNat * 4)).add 2) = some (.int .i64 x44_2) ∧
      ∃ (A44 : Option Addr) (A44l A44c : Nat), w_1.cell? ((p43.add (x25.toNat * 4)).add 3) = some (.slice A44 A44l A44c) ∧
      CallK Try.prog 32 [.agg ⟨[.int .i64 x44, .int .i64 x44_1, .int .i64 x44_2, .slice A44 A44l A44c]⟩] B w_1 [q11, q4] fun v_1 w_2 => 
       ∃ x45 : Int, v_1 = .int .i64 x45 ∧
       if (decide (IntKind.wrap .i64 (at9 + x45) > end10)) = true
       then (Ret B w_2 (R (.tuple ⟨[.slice none 0 0, .int .i64 6]⟩)))
       else (V59.b1 B R (V59.l0 B R k) a0 out8 out8l out8c at9 x25_4 q4 p4 p4l p4c w_2))
      else (V59.b1 B R (V59.l0 B R k) a0 out8 out8l out8c at9 x25_4 q4 p4 p4l p4c w_1)))
    else (Ret B w (R (.tuple ⟨[.slice out8 out8l out8c, .int .i64 0]⟩)))
def V59.vc (B : Nat) (R : Value → World → Prop) (a0 : Addr) (p1 : Option Addr) (p1l p1c : Nat) (top2 : Int) (w : World) : Prop :=
  ∀ q4 : Nat, w.heap.size ≤ q4 →
CallK Try.prog 93 [.pointer (some a0)] B w [q4] fun v w_1 => 
  ∃ x18 : Int, v = .int .i64 x18 ∧
  ∃ k_1, V59.l0 B R k_1 a0 none 0 0 top2 x18 q4 p1 p1l p1c w_1
noncomputable def V59.cfg (B : Nat) : Cfg := ⟨Try.prog, ⟨57, B⟩, [], hasN [32, 54, 93], hasN []⟩
noncomputable def V59.code : Code := (Try.f59.body).getD .skip
noncomputable def V59.cuts (B : Nat) (R : Value → World → Prop) : Nat → Cut := nthC [⟨[(0, .one (.ptr)), (8, .one (.slice)), (9, .one (.int .i64)), (10, .one (.int .i64))], [(4, 24, [.slice])], fun fs vs bs w => V59.l0 B R (nthN fs 0) (pV (nthV vs 0)) (slA (nthV vs 1)) (slL (nthV vs 1)) (slC (nthV vs 1)) (iV (nthV vs 2)) (iV (nthV vs 3)) (nthB bs 0).blk (slA (nthV (nthB bs 0).cells 0)) (slL (nthV (nthB bs 0).cells 0)) (slC (nthV (nthB bs 0).cells 0)) w⟩,
  ⟨[(0, .one (.ptr)), (8, .one (.slice)), (9, .one (.int .i64)), (12, .one (.int .i64))], [(4, 24, [.slice])], fun fs vs bs w => V59.b1 B R (V59.l0 B R (nthN fs 0)) (pV (nthV vs 0)) (slA (nthV vs 1)) (slL (nthV vs 1)) (slC (nthV vs 1)) (iV (nthV vs 2)) (iV (nthV vs 3)) (nthB bs 0).blk (slA (nthV (nthB bs 0).cells 0)) (slL (nthV (nthB bs 0).cells 0)) (slC (nthV (nthB bs 0).cells 0)) w⟩]
noncomputable def V59.h : H := .s (.z) (.s (.s (.z) (.c (.s (.z) (.z)) (.z))) (.s (.z) (.s (.s (.z) (.b (.l 0 (.s (.s (.z) (.c (.z) (.z))) (.b (.s (.z) (.cut 1 (.b (.s (.z) (.c (.s (.z) (.z)) (.s (.z) (.c (.s (.z) (.z)) (.z)))))) (.s (.z) (.z))))))))) (.s (.z) (.z)))))
theorem V59.vc_eq (B : Nat) (R : Value → World → Prop) (a0 : Addr) (p1 : Option Addr) (p1l p1c : Nat) (top2 : Int) (w : World) : wpf (V59.cfg B) (V59.cuts B R) V59.code V59.h [] (postOf Try.prog B (Try.f59.results.toList) R) (argE 0 [.pointer (some a0), .agg ⟨[.slice p1 p1l p1c]⟩, .int .i64 top2]) [] w = V59.vc B R a0 p1 p1l p1c top2 w := by kernel_rfl
theorem V59.obl (B : Nat) (R : Value → World → Prop) : oblP (V59.cfg B) (V59.cuts B R) V59.code V59.h [] (postOf Try.prog B (Try.f59.results.toList) R) := by
  have e : oblP (V59.cfg B) (V59.cuts B R) V59.code V59.h [] (postOf Try.prog B (Try.f59.results.toList) R) = (True ∧ ((True ∧ ((True ∧ True) ∧ True)) ∧ (True ∧ ((True ∧ ((∀ (a0 : Addr) (out8 : Option Addr) (out8l out8c : Nat) (at9 end10 : Int) (q4 : Nat) (p4 : Option Addr) (p4l p4c : Nat) (w : World), ¬ V59.l0 B R 0 a0 out8 out8l out8c at9 end10 q4 p4 p4l p4c w) ∧ (∀ k0, ∀ (a0 : Addr) (out8 : Option Addr) (out8l out8c : Nat) (at9 end10 : Int) (q4 : Nat) (p4 : Option Addr) (p4l p4c : Nat) (w : World), V59.l0 B R (k0 + 1) a0 out8 out8l out8c at9 end10 q4 p4 p4l p4c w → V59.l0 B R (k0 + 1) a0 out8 out8l out8c at9 end10 q4 p4 p4l p4c w) ∧ ∀ k0 : Nat, ((True ∧ (True ∧ True)) ∧ (True ∧ ((True ∧ ((True ∧ True) ∧ (True ∧ ((True ∧ True) ∧ True)))) ∧ (∀ (a0 : Addr) (out8 : Option Addr) (out8l out8c : Nat) (at9 under12 : Int) (q4 : Nat) (p4 : Option Addr) (p4l p4c : Nat) (w : World), V59.b1 B R (V59.l0 B R k0) a0 out8 out8l out8c at9 under12 q4 p4 p4l p4c w → V59.b1 B R (V59.l0 B R k0) a0 out8 out8l out8c at9 under12 q4 p4 p4l p4c w) ∧ (True ∧ True)))))) ∧ (True ∧ True))))) := by kernel_rfl
  rw [e]
  exact ⟨trivial, ⟨⟨trivial, ⟨⟨trivial, trivial⟩, trivial⟩⟩, ⟨trivial, ⟨⟨trivial, ⟨fun a0 out8 out8l out8c at9 end10 q4 p4 p4l p4c w h => h, fun _ a0 out8 out8l out8c at9 end10 q4 p4 p4l p4c w h => h, fun k0 => ⟨⟨trivial, ⟨trivial, trivial⟩⟩, ⟨trivial, ⟨⟨trivial, ⟨⟨trivial, trivial⟩, ⟨trivial, ⟨⟨trivial, trivial⟩, trivial⟩⟩⟩⟩, fun a0 out8 out8l out8c at9 under12 q4 p4 p4l p4c w h => h, ⟨trivial, trivial⟩⟩⟩⟩⟩⟩, ⟨trivial, trivial⟩⟩⟩⟩⟩
theorem V59.cfgOk (B : Nat) : CfgOk (V59.cfg B) := cfgOk_of (by kernel_rfl) (by kernel_rfl)
theorem V59.sound {a0 : Addr} {p1 : Option Addr} {p1l p1c : Nat} {top2 : Int} {w : World} {R : Value → World → Prop} (h : V59.vc w.heap.size R a0 p1 p1l p1c top2 w) : Calls Try.prog 59 ⟨[.pointer (some a0), .agg ⟨[.slice p1 p1l p1c]⟩, .int .i64 top2]⟩ w fun e w' => ∃ v, e = .returned v ∧ R v w' :=
  calls_wpfP (c := V59.cfg w.heap.size) (fn := Try.f59) (x := V59.code) (V59.cuts w.heap.size R) V59.h (V59.cfgOk _) mixed Try.func59 (by kernel_rfl) (by kernel_rfl) (by kernel_rfl) rfl (V59.obl _ _) ((V59.vc_eq _ _ a0 p1 p1l p1c top2 _).symm ▸ h)

/-! function 60 -/
def V60.l0 (B : Nat) (R : Value → World → Prop) : Nat → Option Addr → Nat → Nat → Option Addr → Nat → Nat → Int → Nat → Option Addr → Nat → Nat → World → Prop
  | 0 => fun _ _ _ _ _ _ _ _ _ _ _ _ => False
  | k + 1 => fun mem0 mem0l mem0c out8 out8l out8c at9 q4 p4 p4l p4c w =>
    if (at9 != (-1)) = true
    then (CallK Try.prog 55 [.slice mem0 mem0l mem0c, .agg ⟨[.slice p4 p4l p4c]⟩, .int .i64 at9] B w [q4] fun v w_1 => 
     ∃ (x23 x23_1 x23_2 : Int) (b23 : Bool) (x23_3 : Int) (A23 : Option Addr) (A23l A23c : Nat) (A23_1 : Option Addr) (A23_1l A23_1c : Nat) (A23_2 : Option Addr) (A23_2l A23_2c : Nat) (x23_4 x23_5 : Int), v = .tuple ⟨[.agg ⟨[.int .i64 x23, .int .i64 x23_1, .int .i64 x23_2, .bool b23, .int .u64 x23_3, .slice A23 A23l A23c, .slice A23_1 A23_1l A23_1c, .slice A23_2 A23_2l A23_2c]⟩, .int .i64 x23_4, .int .i64 x23_5]⟩ ∧
     ∀ q10 : Nat, w_1.heap.size ≤ q10 →
     if (x23_5 != 0) = true
     then (Ret B w_1 (R (.tuple ⟨[.slice none 0 0, .int .i64 x23_5]⟩)))
     else (Expo B w_1 [q10, q4] fun w_2 => 
      Hide [q10, q4] (w_2.alloc (.cells ⟨[.int .i64 at9]⟩ 3)) fun w_3 => 
      RunK Try.prog (Builtin.append_ #[42, 42] 42 ⟨[.slice out8 out8l out8c, .slice (some ⟨w_2.heap.size, 0, none⟩) 1 1]⟩) B w_3 [q10, q4] fun v_1 w_4 => 
      ∃ (A33 : Option Addr) (A33l A33c : Nat), v_1 = .slice A33 A33l A33c ∧
      if (decide (x23_4 ≥ 0)) = true
      then (CallK Try.prog 55 [.slice mem0 mem0l mem0c, .agg ⟨[.slice p4 p4l p4c]⟩, .int .i64 x23_4] B w_4 [q10, q4] fun v_2 w_5 => 
       ∃ (x40 x40_1 x40_2 : Int) (b40 : Bool) (x40_3 : Int) (A40 : Option Addr) (A40l A40c : Nat) (A40_1 : Option Addr) (A40_1l A40_1c : Nat) (A40_2 : Option Addr) (A40_2l A40_2c : Nat) (x40_4 x40_5 : Int), v_2 = .tuple ⟨[.agg ⟨[.int .i64 x40, .int .i64 x40_1, .int .i64 x40_2, .bool b40, .int .u64 x40_3, .slice A40 A40l A40c, .slice A40_1 A40_1l A40_1c, .slice A40_2 A40_2l A40_2c]⟩, .int .i64 x40_4, .int .i64 x40_5]⟩ ∧
       ∀ q13 : Nat, w_5.heap.size ≤ q13 →
       if (x40_5 != 0) = true
       then (Ret B w_5 (R (.tuple ⟨[.slice none 0 0, .int .i64 x40_5]⟩)))
       else (∃ p52 : Addr, p4 = some p52 ∧ (0 : Int) ≤ x40 ∧ x40 < (p4l : Int) ∧
       ∃ x53 : Int, w_5.cell? ((p52.add (x40.toNat * 4)).add 0) = some (.int .i64 x53) ∧
       ∃ x53_1 : Int, w_5.cell? ((p52.add (x40.toNat * 4)).add 1) = some (.int .i64 x53_1) ∧
       ∃ x53_2 : Int, w_5.cell? ((p52.add (x40.toNat * 4)).add 2) = some (.int .i64 x53_2) ∧
       ∃ (A53 : Option Addr) (A53l A53c : Nat), w_5.cell? ((p52.add (x40.toNat * 4)).add 3) = some (.slice A53 A53l A53c) ∧
       CallK Try.prog 33 [.agg ⟨[.int .i64 x53, .int .i64 x53_1, .int .i64 x53_2, .slice A53 A53l A53c]⟩] B w_5 [q13, q10, q4] fun v_3 w_6 => 
        ∃ x54 : Int, v_3 = .int .i64 x54 ∧
        if (decide (IntKind.wrap .i64 (x23_4 + x54) > at9)) = true
        then (Ret B w_6 (R (.tuple ⟨[.slice none 0 0, .int .i64 6]⟩)))
        else ((V60.l0 B R k) mem0 mem0l mem0c A33 A33l A33c x23_4 q4 p4 p4l p4c w_6)))
      else ((V60.l0 B R k) mem0 mem0l mem0c A33 A33l A33c x23_4 q4 p4 p4l p4c w_4)))
    else (Ret B w (R (.tuple ⟨[.slice out8 out8l out8c, .int .i64 0]⟩)))
def V60.vc (B : Nat) (R : Value → World → Prop) (mem0 : Option Addr) (mem0l mem0c : Nat) (p1 : Option Addr) (p1l p1c : Nat) (top2 : Int) (w : World) : Prop :=
  ∀ q4 : Nat, w.heap.size ≤ q4 →
∃ k_1, V60.l0 B R k_1 mem0 mem0l mem0c none 0 0 top2 q4 p1 p1l p1c w
noncomputable def V60.cfg (B : Nat) : Cfg := ⟨Try.prog, ⟨60, B⟩, [], hasN [33, 55], hasN []⟩
noncomputable def V60.code : Code := (Try.f60.body).getD .skip
noncomputable def V60.cuts (B : Nat) (R : Value → World → Prop) : Nat → Cut := nthC [⟨[(0, .one (.slice)), (8, .one (.slice)), (9, .one (.int .i64))], [(4, 24, [.slice])], fun fs vs bs w => V60.l0 B R (nthN fs 0) (slA (nthV vs 0)) (slL (nthV vs 0)) (slC (nthV vs 0)) (slA (nthV vs 1)) (slL (nthV vs 1)) (slC (nthV vs 1)) (iV (nthV vs 2)) (nthB bs 0).blk (slA (nthV (nthB bs 0).cells 0)) (slL (nthV (nthB bs 0).cells 0)) (slC (nthV (nthB bs 0).cells 0)) w⟩]
noncomputable def V60.h : H := .s (.z) (.s (.z) (.s (.s (.z) (.b (.l 0 (.s (.s (.z) (.c (.z) (.z))) (.b (.s (.z) (.s (.s (.z) (.c (.s (.z) (.z)) (.z))) (.s (.z) (.s (.s (.z) (.c (.s (.z) (.s (.s (.z) (.c (.s (.z) (.z)) (.z))) (.s (.z) (.c (.s (.z) (.z)) (.z))))) (.z))) (.z)))))))))) (.s (.z) (.z))))
theorem V60.vc_eq (B : Nat) (R : Value → World → Prop) (mem0 : Option Addr) (mem0l mem0c : Nat) (p1 : Option Addr) (p1l p1c : Nat) (top2 : Int) (w : World) : wpf (V60.cfg B) (V60.cuts B R) V60.code V60.h [] (postOf Try.prog B (Try.f60.results.toList) R) (argE 0 [.slice mem0 mem0l mem0c, .agg ⟨[.slice p1 p1l p1c]⟩, .int .i64 top2]) [] w = V60.vc B R mem0 mem0l mem0c p1 p1l p1c top2 w := by kernel_rfl
theorem V60.obl (B : Nat) (R : Value → World → Prop) : oblP (V60.cfg B) (V60.cuts B R) V60.code V60.h [] (postOf Try.prog B (Try.f60.results.toList) R) := by
  have e : oblP (V60.cfg B) (V60.cuts B R) V60.code V60.h [] (postOf Try.prog B (Try.f60.results.toList) R) = (True ∧ (True ∧ ((True ∧ ((∀ (mem0 : Option Addr) (mem0l mem0c : Nat) (out8 : Option Addr) (out8l out8c : Nat) (at9 : Int) (q4 : Nat) (p4 : Option Addr) (p4l p4c : Nat) (w : World), ¬ V60.l0 B R 0 mem0 mem0l mem0c out8 out8l out8c at9 q4 p4 p4l p4c w) ∧ (∀ k0, ∀ (mem0 : Option Addr) (mem0l mem0c : Nat) (out8 : Option Addr) (out8l out8c : Nat) (at9 : Int) (q4 : Nat) (p4 : Option Addr) (p4l p4c : Nat) (w : World), V60.l0 B R (k0 + 1) mem0 mem0l mem0c out8 out8l out8c at9 q4 p4 p4l p4c w → V60.l0 B R (k0 + 1) mem0 mem0l mem0c out8 out8l out8c at9 q4 p4 p4l p4c w) ∧ ∀ k0 : Nat, ((True ∧ (True ∧ True)) ∧ (True ∧ ((True ∧ ((True ∧ True) ∧ True)) ∧ (True ∧ ((True ∧ ((True ∧ ((True ∧ ((True ∧ True) ∧ True)) ∧ (True ∧ ((True ∧ True) ∧ True)))) ∧ True)) ∧ True))))))) ∧ (True ∧ True)))) := by kernel_rfl
  rw [e]
  exact ⟨trivial, ⟨trivial, ⟨⟨trivial, ⟨fun mem0 mem0l mem0c out8 out8l out8c at9 q4 p4 p4l p4c w h => h, fun _ mem0 mem0l mem0c out8 out8l out8c at9 q4 p4 p4l p4c w h => h, fun k0 => ⟨⟨trivial, ⟨trivial, trivial⟩⟩, ⟨trivial, ⟨⟨trivial, ⟨⟨trivial, trivial⟩, trivial⟩⟩, ⟨trivial, ⟨⟨trivial, ⟨⟨trivial, ⟨⟨trivial, ⟨⟨trivial, trivial⟩, trivial⟩⟩, ⟨trivial, ⟨⟨trivial, trivial⟩, trivial⟩⟩⟩⟩, trivial⟩⟩, trivial⟩⟩⟩⟩⟩⟩⟩, ⟨trivial, trivial⟩⟩⟩⟩
theorem V60.cfgOk (B : Nat) : CfgOk (V60.cfg B) := cfgOk_of (by kernel_rfl) (by kernel_rfl)
theorem V60.sound {mem0 : Option Addr} {mem0l mem0c : Nat} {p1 : Option Addr} {p1l p1c : Nat} {top2 : Int} {w : World} {R : Value → World → Prop} (h : V60.vc w.heap.size R mem0 mem0l mem0c p1 p1l p1c top2 w) : Calls Try.prog 60 ⟨[.slice mem0 mem0l mem0c, .agg ⟨[.slice p1 p1l p1c]⟩, .int .i64 top2]⟩ w fun e w' => ∃ v, e = .returned v ∧ R v w' :=
  calls_wpfP (c := V60.cfg w.heap.size) (fn := Try.f60) (x := V60.code) (V60.cuts w.heap.size R) V60.h (V60.cfgOk _) mixed Try.func60 (by kernel_rfl) (by kernel_rfl) (by kernel_rfl) rfl (V60.obl _ _) ((V60.vc_eq _ _ mem0 mem0l mem0c p1 p1l p1c top2 _).symm ▸ h)

/-! function 61 -/
def V61.l0 (B : Nat) (R : Value → World → Prop) : Nat → Option Addr → Nat → Nat → Option Addr → Nat → Nat → Int → World → Prop
  | 0 => fun _ _ _ _ _ _ _ _ => False
  | k + 1 => fun l0 l0l l0c out3 out3l out3c i4 w =>
    if (decide (i4 ≥ 0)) = true
    then (∃ p15 : Addr, l0 = some p15 ∧ (0 : Int) ≤ i4 ∧ i4 < (l0l : Int) ∧
    ∃ x16 : Int, w.cell? (p15.add i4.toNat) = some (.int .i64 x16) ∧
    Expo B w [] fun w_1 => 
     let w_2 := w_1.alloc (.cells ⟨[.int .i64 x16]⟩ 3);
     RunK Try.prog (Builtin.append_ #[42, 42] 42 ⟨[.slice out3 out3l out3c, .slice (some ⟨w_1.heap.size, 0, none⟩) 1 1]⟩) B w_2 [] fun v w_3 => 
     ∃ (A18 : Option Addr) (A18l A18c : Nat), v = .slice A18 A18l A18c ∧ (V61.l0 B R k) l0 l0l l0c A18 A18l A18c (IntKind.wrap .i64 (i4 - 1)) w_3)
    else (Ret B w (R (.slice out3 out3l out3c)))
def V61.vc (B : Nat) (R : Value → World → Prop) (l0 : Option Addr) (l0l l0c : Nat) (w : World) : Prop :=
  ∃ k_1, V61.l0 B R k_1 l0 l0l l0c none 0 0 (IntKind.wrap .i64 ((l0l : Int) - 1)) w
noncomputable def V61.cfg (B : Nat) : Cfg := ⟨Try.prog, ⟨20, B⟩, [], hasN [], hasN []⟩
noncomputable def V61.code : Code := (Try.f61.body).getD .skip
noncomputable def V61.cuts (B : Nat) (R : Value → World → Prop) : Nat → Cut := nthC [⟨[(0, .one (.slice)), (3, .one (.slice)), (4, .one (.int .i64))], [], fun fs vs bs w => V61.l0 B R (nthN fs 0) (slA (nthV vs 0)) (slL (nthV vs 0)) (slC (nthV vs 0)) (slA (nthV vs 1)) (slL (nthV vs 1)) (slC (nthV vs 1)) (iV (nthV vs 2)) w⟩]
noncomputable def V61.h : H := .s (.z) (.s (.z) (.s (.s (.z) (.b (.l 0 (.s (.s (.z) (.c (.z) (.z))) (.s (.b (.z)) (.z)))))) (.s (.z) (.z))))
theorem V61.vc_eq (B : Nat) (R : Value → World → Prop) (l0 : Option Addr) (l0l l0c : Nat) (w : World) : wpf (V61.cfg B) (V61.cuts B R) V61.code V61.h [] (postOf Try.prog B (Try.f61.results.toList) R) (argE 0 [.slice l0 l0l l0c]) [] w = V61.vc B R l0 l0l l0c w := by kernel_rfl
theorem V61.obl (B : Nat) (R : Value → World → Prop) : oblP (V61.cfg B) (V61.cuts B R) V61.code V61.h [] (postOf Try.prog B (Try.f61.results.toList) R) := by
  have e : oblP (V61.cfg B) (V61.cuts B R) V61.code V61.h [] (postOf Try.prog B (Try.f61.results.toList) R) = (True ∧ (True ∧ ((True ∧ ((∀ (l0 : Option Addr) (l0l l0c : Nat) (out3 : Option Addr) (out3l out3c : Nat) (i4 : Int) (w : World), ¬ V61.l0 B R 0 l0 l0l l0c out3 out3l out3c i4 w) ∧ (∀ k0, ∀ (l0 : Option Addr) (l0l l0c : Nat) (out3 : Option Addr) (out3l out3c : Nat) (i4 : Int) (w : World), V61.l0 B R (k0 + 1) l0 l0l l0c out3 out3l out3c i4 w → V61.l0 B R (k0 + 1) l0 l0l l0c out3 out3l out3c i4 w) ∧ ∀ k0 : Nat, ((True ∧ (True ∧ True)) ∧ (True ∧ True)))) ∧ (True ∧ True)))) := by kernel_rfl
  rw [e]
  exact ⟨trivial, ⟨trivial, ⟨⟨trivial, ⟨fun l0 l0l l0c out3 out3l out3c i4 w h => h, fun _ l0 l0l l0c out3 out3l out3c i4 w h => h, fun k0 => ⟨⟨trivial, ⟨trivial, trivial⟩⟩, ⟨trivial, trivial⟩⟩⟩⟩, ⟨trivial, trivial⟩⟩⟩⟩
theorem V61.cfgOk (B : Nat) : CfgOk (V61.cfg B) := cfgOk_of (by kernel_rfl) (by kernel_rfl)
theorem V61.sound {l0 : Option Addr} {l0l l0c : Nat} {w : World} {R : Value → World → Prop} (h : V61.vc w.heap.size R l0 l0l l0c w) : Calls Try.prog 61 ⟨[.slice l0 l0l l0c]⟩ w fun e w' => ∃ v, e = .returned v ∧ R v w' :=
  calls_wpfP (c := V61.cfg w.heap.size) (fn := Try.f61) (x := V61.code) (V61.cuts w.heap.size R) V61.h (V61.cfgOk _) mixed Try.func61 (by kernel_rfl) (by kernel_rfl) (by kernel_rfl) rfl (V61.obl _ _) ((V61.vc_eq _ _ l0 l0l l0c _).symm ▸ h)
end Go.Proofs.Ytlccbaemcfjdoaa
