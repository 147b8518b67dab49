/-
  What the engine makes of the loaded functions 35, 85, 86, 115, 116, 117, 127, 128: conditions under which a call returns as told, and proofs of that.
  Conditions: none. Printed by a program of this project.
-/
import Derived.Test.YtlccbaemcfjdoaaVA
set_option linter.unusedVariables false
set_option maxRecDepth 100000
namespace Go.Proofs.Ytlccbaemcfjdoaa

/-! function 35 -/
def V35.b1 (B : Nat) (R : Value → World → Prop) (L0 : Addr → Int → Int → Nat → Option Addr → Nat → Nat → World → Prop) (m3 : Addr) (n4 i5 : Int) (q6 : Nat) (f6 f6_1 f6_2 : Int) (f6_3 : Option Addr) (f6_3l f6_3c q2 : Nat) (A2 : Option Addr) (A2l A2c : Nat) (w : World) : Prop :=
  CallK Try.prog 85 [.pointer (some m3)] B w [q6, q2] fun v w_1 => 
  ∃ x29 : Int, v = .int .i64 x29 ∧ (5 : Int) ≠ 0 ∧ (5 : Int) ≠ 0 ∧ (5 : Int) ≠ 0 ∧ (4 : Int) ≠ 0 ∧
  ∃ (A48 : Option Addr) (A48l A48c : Nat), w_1.cell? ((m3.add 1).add 0) = some (.slice A48 A48l A48c) ∧
  Expo B w_1 [q6, q2] fun w_2 => 
  Hide [q6, q2] (w_2.alloc (.cells ⟨[.int .i64 f6, .int .i64 (IntKind.wrap .i64 (f6 + Int.tmod x29 5)), .int .i64 (if Int.tmod (IntKind.wrap .i64 (Int.tdiv x29 5)) 4 < Int.tmod x29 5 then Int.tmod (IntKind.wrap .i64 (Int.tdiv x29 5)) 4 else Int.tmod x29 5), .slice f6_3 f6_3l f6_3c]⟩ 29)) fun w_3 => 
  w_3.cell? ((m3.add 1).add 0) = some (.slice A48 A48l A48c) ∧
  RunK Try.prog (Builtin.append_ #[22, 22] 22 ⟨[.slice A48 A48l A48c, .slice (some ⟨w_2.heap.size, 0, none⟩) 1 1]⟩) B w_3 [q6, q2] fun v_1 w_4 => 
  ∃ (A51 : Option Addr) (A51l A51c : Nat), v_1 = .slice A51 A51l A51c ∧
  (∃ u, w_4.cell? (((m3.add 1).add 0).add 0) = some u) ∧ w_4.frozen? (((m3.add 1).add 0).add 0) = false ∧
  let w_5 := w_4.setCell (((m3.add 1).add 0).add 0) (.slice A51 A51l A51c);
  L0 m3 n4 (IntKind.wrap .i64 (i5 + 1)) q2 A2 A2l A2c w_5
def V35.l2 (B : Nat) (R : Value → World → Prop) : Nat → Addr → Int → Int → Nat → Option Addr → Nat → Nat → World → Prop
  | 0 => fun _ _ _ _ _ _ _ _ => False
  | k + 1 => fun m3 n4 i8 q2 A2 A2l A2c w =>
    if (decide (i8 < n4)) = true
    then ((∃ u, w.cell? ((m3.add 2).add 0) = some u) ∧ w.frozen? ((m3.add 2).add 0) = false ∧
    let w_1 := w.setCell ((m3.add 2).add 0) (.int .i64 i8);
    CallK Try.prog 86 [.pointer (some m3)] B w_1 [q2] fun v w_2 => 
     v = .tuple ⟨[]⟩ ∧ (V35.l2 B R k) m3 n4 (IntKind.wrap .i64 (i8 + 1)) q2 A2 A2l A2c w_2)
    else (∃ (A69 : Option Addr) (A69l A69c : Nat), w.cell? ((m3.add 1).add 0) = some (.slice A69 A69l A69c) ∧
    Ret B w (R (.agg ⟨[.slice A69 A69l A69c]⟩)))
def V35.l0 (B : Nat) (R : Value → World → Prop) : Nat → Addr → Int → Int → Nat → Option Addr → Nat → Nat → World → Prop
  | 0 => fun _ _ _ _ _ _ _ _ => False
  | k + 1 => fun m3 n4 i5 q2 A2 A2l A2c w =>
    if (decide (i5 < n4)) = true
    then (∀ q6 : Nat, w.heap.size ≤ q6 →
    if (decide (i5 > 0)) = true
     then (CallK Try.prog 85 [.pointer (some m3)] B w [q6, q2] fun v w_1 => 
      ∃ x25 : Int, v = .int .i64 x25 ∧ (4 : Int) ≠ 0 ∧
      V35.b1 B R (V35.l0 B R k) m3 n4 i5 q6 (Int.tmod x25 4) 0 0 none 0 0 q2 A2 A2l A2c w_1)
     else (V35.b1 B R (V35.l0 B R k) m3 n4 i5 q6 0 0 0 none 0 0 q2 A2 A2l A2c w))
    else (∃ k_1, V35.l2 B R k_1 m3 n4 0 q2 A2 A2l A2c w)
def V35.vc (B : Nat) (R : Value → World → Prop) (ns0 : Option Addr) (ns0l ns0c : Nat) (w : World) : Prop :=
  ∀ q2 : Nat, w.heap.size ≤ q2 →
Expo B w [q2] fun w_1 => 
  Hide [q2] (w_1.alloc (.cells ⟨[.slice ns0 ns0l ns0c, .slice none 0 0, .int .i64 0, .slice none 0 0, .int .i64 0]⟩ 142)) fun w_2 => 
  CallK Try.prog 85 [.pointer (some (⟨w_1.heap.size, 0, none⟩))] B w_2 [q2] fun v w_3 => 
  ∃ x13 : Int, v = .int .i64 x13 ∧ (5 : Int) ≠ 0 ∧
  ∃ k_1, V35.l0 B R k_1 (⟨w_1.heap.size, 0, none⟩) (IntKind.wrap .i64 (1 + Int.tmod x13 5)) 0 q2 none 0 0 w_3
noncomputable def V35.cfg (B : Nat) : Cfg := ⟨Try.prog, ⟨70, B⟩, [11], hasN [85, 86], hasN []⟩
noncomputable def V35.code : Code := (Try.f35.body).getD .skip
noncomputable def V35.cuts (B : Nat) (R : Value → World → Prop) : Nat → Cut := nthC [⟨[(3, .one (.ptr)), (4, .one (.int .i64)), (5, .one (.int .i64))], [(2, 24, [.slice])], fun fs vs bs w => V35.l0 B R (nthN fs 0) (pV (nthV vs 0)) (iV (nthV vs 1)) (iV (nthV vs 2)) (nthB bs 0).blk (slA (nthV (nthB bs 0).cells 0)) (slL (nthV (nthB bs 0).cells 0)) (slC (nthV (nthB bs 0).cells 0)) w⟩,
  ⟨[(3, .one (.ptr)), (4, .one (.int .i64)), (5, .one (.int .i64))], [(6, 29, [.int .i64, .int .i64, .int .i64, .slice]), (2, 24, [.slice])], fun fs vs bs w => V35.b1 B R (V35.l0 B R (nthN fs 0)) (pV (nthV vs 0)) (iV (nthV vs 1)) (iV (nthV vs 2)) (nthB bs 0).blk (iV (nthV (nthB bs 0).cells 0)) (iV (nthV (nthB bs 0).cells 1)) (iV (nthV (nthB bs 0).cells 2)) (slA (nthV (nthB bs 0).cells 3)) (slL (nthV (nthB bs 0).cells 3)) (slC (nthV (nthB bs 0).cells 3)) (nthB bs 1).blk (slA (nthV (nthB bs 1).cells 0)) (slL (nthV (nthB bs 1).cells 0)) (slC (nthV (nthB bs 1).cells 0)) w⟩,
  ⟨[(3, .one (.ptr)), (4, .one (.int .i64)), (8, .one (.int .i64))], [(2, 24, [.slice])], fun fs vs bs w => V35.l2 B R (nthN fs 0) (pV (nthV vs 0)) (iV (nthV vs 1)) (iV (nthV vs 2)) (nthB bs 0).blk (slA (nthV (nthB bs 0).cells 0)) (slL (nthV (nthB bs 0).cells 0)) (slC (nthV (nthB bs 0).cells 0)) w⟩]
noncomputable def V35.h : H := .s (.z) (.s (.z) (.s (.z) (.s (.s (.z) (.b (.l 0 (.s (.s (.z) (.c (.z) (.z))) (.s (.b (.s (.z) (.cut 1 (.s (.z) (.c (.z) (.z))) (.s (.z) (.s (.z) (.s (.z) (.r [[0, 1, 2, 3, 4, 5, 6, 7, 8, 9, 10, 11, 12]]))))))) (.z)))))) (.s (.s (.z) (.b (.l 2 (.s (.s (.z) (.c (.z) (.z))) (.s (.b (.s (.z) (.z))) (.z)))))) (.s (.z) (.z))))))
theorem V35.vc_eq (B : Nat) (R : Value → World → Prop) (ns0 : Option Addr) (ns0l ns0c : Nat) (w : World) : wpf (V35.cfg B) (V35.cuts B R) V35.code V35.h [] (postOf Try.prog B (Try.f35.results.toList) R) (argE 0 [.slice ns0 ns0l ns0c]) [] w = V35.vc B R ns0 ns0l ns0c w := by kernel_rfl
theorem V35.obl (B : Nat) (R : Value → World → Prop) : oblP (V35.cfg B) (V35.cuts B R) V35.code V35.h [] (postOf Try.prog B (Try.f35.results.toList) R) := by
  have e : oblP (V35.cfg B) (V35.cuts B R) V35.code V35.h [] (postOf Try.prog B (Try.f35.results.toList) R) = (True ∧ (True ∧ (True ∧ ((True ∧ ((∀ (m3 : Addr) (n4 i5 : Int) (q2 : Nat) (A2 : Option Addr) (A2l A2c : Nat) (w : World), ¬ V35.l0 B R 0 m3 n4 i5 q2 A2 A2l A2c w) ∧ (∀ k0, ∀ (m3 : Addr) (n4 i5 : Int) (q2 : Nat) (A2 : Option Addr) (A2l A2c : Nat) (w : World), V35.l0 B R (k0 + 1) m3 n4 i5 q2 A2 A2l A2c w → V35.l0 B R (k0 + 1) m3 n4 i5 q2 A2 A2l A2c w) ∧ ∀ k0 : Nat, ((True ∧ (True ∧ True)) ∧ ((True ∧ ((True ∧ (True ∧ True)) ∧ (∀ (m3 : Addr) (n4 i5 : Int) (q6 : Nat) (f6 f6_1 f6_2 : Int) (f6_3 : Option Addr) (f6_3l f6_3c q2 : Nat) (A2 : Option Addr) (A2l A2c : Nat) (w : World), V35.b1 B R (V35.l0 B R k0) m3 n4 i5 q6 f6 f6_1 f6_2 f6_3 f6_3l f6_3c q2 A2 A2l A2c w → V35.b1 B R (V35.l0 B R k0) m3 n4 i5 q6 f6 f6_1 f6_2 f6_3 f6_3l f6_3c q2 A2 A2l A2c w) ∧ (True ∧ (True ∧ (True ∧ (true = true)))))) ∧ True)))) ∧ ((True ∧ ((∀ (m3 : Addr) (n4 i8 : Int) (q2 : Nat) (A2 : Option Addr) (A2l A2c : Nat) (w : World), ¬ V35.l2 B R 0 m3 n4 i8 q2 A2 A2l A2c w) ∧ (∀ k2, ∀ (m3 : Addr) (n4 i8 : Int) (q2 : Nat) (A2 : Option Addr) (A2l A2c : Nat) (w : World), V35.l2 B R (k2 + 1) m3 n4 i8 q2 A2 A2l A2c w → V35.l2 B R (k2 + 1) m3 n4 i8 q2 A2 A2l A2c w) ∧ ∀ k2 : Nat, ((True ∧ (True ∧ True)) ∧ ((True ∧ True) ∧ True)))) ∧ (True ∧ True)))))) := by kernel_rfl
  rw [e]
  exact ⟨trivial, ⟨trivial, ⟨trivial, ⟨⟨trivial, ⟨fun m3 n4 i5 q2 A2 A2l A2c w h => h, fun _ m3 n4 i5 q2 A2 A2l A2c w h => h, fun k0 => ⟨⟨trivial, ⟨trivial, trivial⟩⟩, ⟨⟨trivial, ⟨⟨trivial, ⟨trivial, trivial⟩⟩, fun m3 n4 i5 q6 f6 f6_1 f6_2 f6_3 f6_3l f6_3c q2 A2 A2l A2c w h => h, ⟨trivial, ⟨trivial, ⟨trivial, rfl⟩⟩⟩⟩⟩, trivial⟩⟩⟩⟩, ⟨⟨trivial, ⟨fun m3 n4 i8 q2 A2 A2l A2c w h => h, fun _ m3 n4 i8 q2 A2 A2l A2c w h => h, fun k2 => ⟨⟨trivial, ⟨trivial, trivial⟩⟩, ⟨⟨trivial, trivial⟩, trivial⟩⟩⟩⟩, ⟨trivial, trivial⟩⟩⟩⟩⟩⟩
theorem V35.cfgOk (B : Nat) : CfgOk (V35.cfg B) := cfgOk_of (by kernel_rfl) (by kernel_rfl)
theorem V35.sound {ns0 : Option Addr} {ns0l ns0c : Nat} {w : World} {R : Value → World → Prop} (h : V35.vc w.heap.size R ns0 ns0l ns0c w) : Calls Try.prog 35 ⟨[.slice ns0 ns0l ns0c]⟩ w fun e w' => ∃ v, e = .returned v ∧ R v w' :=
  calls_wpfP (c := V35.cfg w.heap.size) (fn := Try.f35) (x := V35.code) (V35.cuts w.heap.size R) V35.h (V35.cfgOk _) mixed Try.func35 (by kernel_rfl) (by kernel_rfl) (by kernel_rfl) rfl (V35.obl _ _) ((V35.vc_eq _ _ ns0 ns0l ns0c _).symm ▸ h)

/-! function 85 -/
def V85.vc (B : Nat) (R : Value → World → Prop) (m0 : Addr) (w : World) : Prop :=
  ∃ (A7 : Option Addr) (A7l A7c : Nat), w.cell? (m0.add 0) = some (.slice A7 A7l A7c) ∧
if ((A7l : Int) == 0) = true
  then (Ret B w (R (.int .i64 0)))
  else (∃ (A13 : Option Addr) (A13l A13c : Nat), w.cell? (m0.add 0) = some (.slice A13 A13l A13c) ∧
  ∃ p14 : Addr, A13 = some p14 ∧ (0 : Int) ≤ 0 ∧ (0 : Int) < (A13l : Int) ∧
  ∃ x15 : Int, w.cell? (p14.add 0) = some (.int .u8 x15) ∧
  ∃ (A21 : Option Addr) (A21l A21c : Nat), w.cell? (m0.add 0) = some (.slice A21 A21l A21c) ∧ (0 : Int) ≤ 1 ∧ (1 : Int) ≤ (A21l : Int) ∧
  (∃ u, w.cell? ((m0.add 0).add 0) = some u) ∧ w.frozen? ((m0.add 0).add 0) = false ∧
  let w_1 := w.setCell ((m0.add 0).add 0) (.slice (if A21c = 1 then A21 else Option.map (fun a => a.add 1) A21) (A21l - 1) (A21c - 1));
  Ret B w_1 (R (.int .i64 (IntKind.wrap .i64 x15))))
noncomputable def V85.cfg (B : Nat) : Cfg := ⟨Try.prog, ⟨26, B⟩, [], hasN [], hasN []⟩
noncomputable def V85.code : Code := (Try.f85.body).getD .skip
noncomputable def V85.cuts (B : Nat) (R : Value → World → Prop) : Nat → Cut := nthC []
noncomputable def V85.h : H := .s (.z) (.s (.s (.z) (.c (.s (.z) (.z)) (.z))) (.s (.z) (.s (.z) (.s (.z) (.z)))))
theorem V85.vc_eq (B : Nat) (R : Value → World → Prop) (m0 : Addr) (w : World) : wpf (V85.cfg B) (V85.cuts B R) V85.code V85.h [] (postOf Try.prog B (Try.f85.results.toList) R) (argE 0 [.pointer (some m0)]) [] w = V85.vc B R m0 w := by kernel_rfl
theorem V85.obl (B : Nat) (R : Value → World → Prop) : oblP (V85.cfg B) (V85.cuts B R) V85.code V85.h [] (postOf Try.prog B (Try.f85.results.toList) R) := by
  have e : oblP (V85.cfg B) (V85.cuts B R) V85.code V85.h [] (postOf Try.prog B (Try.f85.results.toList) R) = (True ∧ ((True ∧ ((True ∧ True) ∧ True)) ∧ (True ∧ (True ∧ (True ∧ True))))) := by kernel_rfl
  rw [e]
  exact ⟨trivial, ⟨⟨trivial, ⟨⟨trivial, trivial⟩, trivial⟩⟩, ⟨trivial, ⟨trivial, ⟨trivial, trivial⟩⟩⟩⟩⟩
theorem V85.cfgOk (B : Nat) : CfgOk (V85.cfg B) := cfgOk_of (by kernel_rfl) (by kernel_rfl)
theorem V85.sound {m0 : Addr} {w : World} {R : Value → World → Prop} (h : V85.vc w.heap.size R m0 w) : Calls Try.prog 85 ⟨[.pointer (some m0)]⟩ w fun e w' => ∃ v, e = .returned v ∧ R v w' :=
  calls_wpfP (c := V85.cfg w.heap.size) (fn := Try.f85) (x := V85.code) (V85.cuts w.heap.size R) V85.h (V85.cfgOk _) mixed Try.func85 (by kernel_rfl) (by kernel_rfl) (by kernel_rfl) rfl (V85.obl _ _) ((V85.vc_eq _ _ m0 _).symm ▸ h)

/-! function 86 -/
def V86.b2 (B : Nat) (R : Value → World → Prop) (m0 : Addr) (w : World) : Prop :=
  ∃ x76 : Int, w.cell? (m0.add 4) = some (.int .i64 x76) ∧
if (x76 == 0) = true
  then (CallK Try.prog 115 [.pointer (some m0), .int .i64 1, .int .i64 7, .int .i64 0] B w [] fun v w_1 => 
   v = .tuple ⟨[]⟩ ∧
   CallK Try.prog 115 [.pointer (some m0), .int .i64 18, .int .i64 0, .int .i64 0] B w_1 [] fun v_1 w_2 => 
   v_1 = .tuple ⟨[]⟩ ∧
   Ret B w_2 (R (.tuple ⟨[]⟩)))
  else (CallK Try.prog 115 [.pointer (some m0), .int .i64 18, .int .i64 0, .int .i64 0] B w [] fun v w_1 => 
   v = .tuple ⟨[]⟩ ∧
   Ret B w_1 (R (.tuple ⟨[]⟩)))
def V86.l1 (B : Nat) (R : Value → World → Prop) : Nat → Addr → Int → Int → World → Prop
  | 0 => fun _ _ _ _ => False
  | k + 1 => fun m0 n2 i3 w =>
    if (decide (i3 < n2)) = true
    then (CallK Try.prog 116 [.pointer (some m0)] B w [] fun v w_1 => 
     ∃ x48 : Int, v = .int .i64 x48 ∧
     if (decide (x48 < 54)) = true
     then (CallK Try.prog 85 [.pointer (some m0)] B w_1 [] fun v_1 w_2 => 
      ∃ x54 : Int, v_1 = .int .i64 x54 ∧ (20 : Int) ≠ 0 ∧
      CallK Try.prog 85 [.pointer (some m0)] B w_2 [] fun v_2 w_3 => 
      ∃ x57 : Int, v_2 = .int .i64 x57 ∧
      CallK Try.prog 117 [.pointer (some m0), .int .i64 (Int.tmod x54 20), .int .i64 x57] B w_3 [] fun v_3 w_4 => 
      ∃ b61 : Bool, v_3 = .bool b61 ∧
      if b61 = true
      then ((V86.l1 B R k) m0 n2 (IntKind.wrap .i64 (i3 + 1)) w_4)
      else (∃ x65 : Int, w_4.cell? (m0.add 4) = some (.int .i64 x65) ∧
      if (decide (x65 < 8)) = true
       then ((9 : Int) ≠ 0 ∧
       CallK Try.prog 115 [.pointer (some m0), .int .i64 1, .int .i64 (Int.tmod x57 9), .int .i64 0] B w_4 [] fun v_4 w_5 => 
        v_4 = .tuple ⟨[]⟩ ∧ (V86.l1 B R k) m0 n2 (IntKind.wrap .i64 (i3 + 1)) w_5)
       else (CallK Try.prog 115 [.pointer (some m0), .int .i64 27, .int .i64 0, .int .i64 0] B w_4 [] fun v_4 w_5 => 
        v_4 = .tuple ⟨[]⟩ ∧ (V86.l1 B R k) m0 n2 (IntKind.wrap .i64 (i3 + 1)) w_5)))
     else (V86.b2 B R m0 w_1))
    else (V86.b2 B R m0 w)
def V86.b0 (B : Nat) (R : Value → World → Prop) (m0 : Addr) (w : World) : Prop :=
  CallK Try.prog 85 [.pointer (some m0)] B w [] fun v w_1 => 
  ∃ x41 : Int, v = .int .i64 x41 ∧ (16 : Int) ≠ 0 ∧
  ∃ k_1, V86.l1 B R k_1 m0 (Int.tmod x41 16) 0 w_1
def V86.vc (B : Nat) (R : Value → World → Prop) (m0 : Addr) (w : World) : Prop :=
  (∃ u, w.cell? ((m0.add 3).add 0) = some u) ∧ w.frozen? ((m0.add 3).add 0) = false ∧
let w_1 := w.setCell ((m0.add 3).add 0) (.slice none 0 0);
(∃ u_1, w_1.cell? ((m0.add 4).add 0) = some u_1) ∧ w_1.frozen? ((m0.add 4).add 0) = false ∧
let w_2 := w_1.setCell ((m0.add 4).add 0) (.int .i64 0);
∃ (A16 : Option Addr) (A16l A16c : Nat), w_2.cell? ((m0.add 1).add 0) = some (.slice A16 A16l A16c) ∧
∃ x20 : Int, w_2.cell? (m0.add 2) = some (.int .i64 x20) ∧
∃ p21 : Addr, A16 = some p21 ∧ (0 : Int) ≤ x20 ∧ x20 < (A16l : Int) ∧
∃ x23 : Int, w_2.cell? ((p21.add (x20.toNat * 4)).add 0) = some (.int .i64 x23) ∧
if (decide (x23 > 0)) = true
  then (CallK Try.prog 115 [.pointer (some m0), .int .i64 3, .int .i64 0, .int .i64 0] B w_2 [] fun v w_3 => 
   v = .tuple ⟨[]⟩ ∧
   CallK Try.prog 115 [.pointer (some m0), .int .i64 16, .int .i64 4, .int .i64 0] B w_3 [] fun v_1 w_4 => 
   v_1 = .tuple ⟨[]⟩ ∧
   ∃ x33 : Int, w_4.cell? (m0.add 2) = some (.int .i64 x33) ∧
   CallK Try.prog 115 [.pointer (some m0), .int .i64 1, .int .i64 x33, .int .i64 0] B w_4 [] fun v_2 w_5 => 
   v_2 = .tuple ⟨[]⟩ ∧
   CallK Try.prog 115 [.pointer (some m0), .int .i64 18, .int .i64 0, .int .i64 0] B w_5 [] fun v_3 w_6 => 
   v_3 = .tuple ⟨[]⟩ ∧
   (∃ u_2, w_6.cell? ((m0.add 4).add 0) = some u_2) ∧ w_6.frozen? ((m0.add 4).add 0) = false ∧
   let w_7 := w_6.setCell ((m0.add 4).add 0) (.int .i64 0);
   V86.b0 B R m0 w_7)
  else (V86.b0 B R m0 w_2)
noncomputable def V86.cfg (B : Nat) : Cfg := ⟨Try.prog, ⟨82, B⟩, [], hasN [85, 115, 116, 117], hasN []⟩
noncomputable def V86.code : Code := (Try.f86.body).getD .skip
noncomputable def V86.cuts (B : Nat) (R : Value → World → Prop) : Nat → Cut := nthC [⟨[(0, .one (.ptr))], [], fun fs vs bs w => V86.b0 B R (pV (nthV vs 0)) w⟩,
  ⟨[(0, .one (.ptr)), (2, .one (.int .i64)), (3, .one (.int .i64))], [], fun fs vs bs w => V86.l1 B R (nthN fs 0) (pV (nthV vs 0)) (iV (nthV vs 1)) (iV (nthV vs 2)) w⟩,
  ⟨[(0, .one (.ptr))], [], fun fs vs bs w => V86.b2 B R (pV (nthV vs 0)) w⟩]
noncomputable def V86.h : H := .s (.z) (.cut 0 (.s (.r [[0, 1, 2, 3, 4, 5, 6, 7, 8, 9, 10, 11, 12]]) (.c (.s (.z) (.s (.z) (.s (.z) (.s (.z) (.z))))) (.z))) (.s (.z) (.cut 2 (.s (.z) (.b (.l 1 (.s (.s (.z) (.c (.z) (.z))) (.s (.b (.s (.z) (.s (.s (.z) (.c (.z) (.z))) (.s (.z) (.c (.z) (.z)))))) (.z)))))) (.s (.s (.z) (.c (.z) (.z))) (.z)))))
theorem V86.vc_eq (B : Nat) (R : Value → World → Prop) (m0 : Addr) (w : World) : wpf (V86.cfg B) (V86.cuts B R) V86.code V86.h [] (postOf Try.prog B (Try.f86.results.toList) R) (argE 0 [.pointer (some m0)]) [] w = V86.vc B R m0 w := by kernel_rfl
theorem V86.obl (B : Nat) (R : Value → World → Prop) : oblP (V86.cfg B) (V86.cuts B R) V86.code V86.h [] (postOf Try.prog B (Try.f86.results.toList) R) := by
  have e : oblP (V86.cfg B) (V86.cuts B R) V86.code V86.h [] (postOf Try.prog B (Try.f86.results.toList) R) = (True ∧ (((true = true) ∧ ((True ∧ (True ∧ (True ∧ (True ∧ True)))) ∧ True)) ∧ (∀ (m0 : Addr) (w : World), V86.b0 B R m0 w → V86.b0 B R m0 w) ∧ (True ∧ ((True ∧ ((∀ (m0 : Addr) (n2 i3 : Int) (w : World), ¬ V86.l1 B R 0 m0 n2 i3 w) ∧ (∀ k1, ∀ (m0 : Addr) (n2 i3 : Int) (w : World), V86.l1 B R (k1 + 1) m0 n2 i3 w → V86.l1 B R (k1 + 1) m0 n2 i3 w) ∧ ∀ k1 : Nat, ((True ∧ (True ∧ True)) ∧ ((True ∧ ((True ∧ (True ∧ True)) ∧ (True ∧ (True ∧ True)))) ∧ True)))) ∧ (∀ (m0 : Addr) (w : World), V86.b2 B R m0 w → V86.b2 B R m0 w) ∧ ((True ∧ (True ∧ True)) ∧ True))))) := by kernel_rfl
  rw [e]
  exact ⟨trivial, ⟨⟨rfl, ⟨⟨trivial, ⟨trivial, ⟨trivial, ⟨trivial, trivial⟩⟩⟩⟩, trivial⟩⟩, fun m0 w h => h, ⟨trivial, ⟨⟨trivial, ⟨fun m0 n2 i3 w h => h, fun _ m0 n2 i3 w h => h, fun k1 => ⟨⟨trivial, ⟨trivial, trivial⟩⟩, ⟨⟨trivial, ⟨⟨trivial, ⟨trivial, trivial⟩⟩, ⟨trivial, ⟨trivial, trivial⟩⟩⟩⟩, trivial⟩⟩⟩⟩, fun m0 w h => h, ⟨⟨trivial, ⟨trivial, trivial⟩⟩, trivial⟩⟩⟩⟩⟩
theorem V86.cfgOk (B : Nat) : CfgOk (V86.cfg B) := cfgOk_of (by kernel_rfl) (by kernel_rfl)
theorem V86.sound {m0 : Addr} {w : World} {R : Value → World → Prop} (h : V86.vc w.heap.size R m0 w) : Calls Try.prog 86 ⟨[.pointer (some m0)]⟩ w fun e w' => ∃ v, e = .returned v ∧ R v w' :=
  calls_wpfP (c := V86.cfg w.heap.size) (fn := Try.f86) (x := V86.code) (V86.cuts w.heap.size R) V86.h (V86.cfgOk _) mixed Try.func86 (by kernel_rfl) (by kernel_rfl) (by kernel_rfl) rfl (V86.obl _ _) ((V86.vc_eq _ _ m0 _).symm ▸ h)

/-! function 115 -/
def V115.vc (B : Nat) (R : Value → World → Prop) (m0 : Addr) (op1 a2 b3 : Int) (w : World) : Prop :=
  ∀ q8 : Nat, w.heap.size ≤ q8 →
∃ (A17 : Option Addr) (A17l A17c : Nat), w.cell? ((m0.add 1).add 0) = some (.slice A17 A17l A17c) ∧
∃ x21 : Int, w.cell? (m0.add 2) = some (.int .i64 x21) ∧
∃ (A26 : Option Addr) (A26l A26c : Nat), w.cell? ((m0.add 1).add 0) = some (.slice A26 A26l A26c) ∧
∃ x30 : Int, w.cell? (m0.add 2) = some (.int .i64 x30) ∧
∃ p31 : Addr, A26 = some p31 ∧ (0 : Int) ≤ x30 ∧ x30 < (A26l : Int) ∧
∃ (A33 : Option Addr) (A33l A33c : Nat), w.cell? ((p31.add (x30.toNat * 4)).add 3) = some (.slice A33 A33l A33c) ∧
Expo B w [q8] fun w_1 => 
  Hide [q8] (w_1.alloc (.cells ⟨[.int .i64 op1, .int .i64 a2, .int .i64 b3]⟩ 26)) fun w_2 => 
  w_2.cell? ((p31.add (x30.toNat * 4)).add 3) = some (.slice A33 A33l A33c) ∧ w_2.cell? (m0.add 2) = some (.int .i64 x30) ∧ w_2.cell? ((m0.add 1).add 0) = some (.slice A26 A26l A26c) ∧ w_2.cell? (m0.add 2) = some (.int .i64 x21) ∧ w_2.cell? ((m0.add 1).add 0) = some (.slice A17 A17l A17c) ∧
  RunK Try.prog (Builtin.append_ #[27, 27] 27 ⟨[.slice A33 A33l A33c, .slice (some ⟨w_1.heap.size, 0, none⟩) 1 1]⟩) B w_2 [q8] fun v w_3 => 
  ∃ (A36 : Option Addr) (A36l A36c : Nat), v = .slice A36 A36l A36c ∧ w_3.cell? (m0.add 2) = some (.int .i64 x21) ∧ w_3.cell? ((m0.add 1).add 0) = some (.slice A17 A17l A17c) ∧
  ∃ p37 : Addr, A17 = some p37 ∧ (0 : Int) ≤ x21 ∧ x21 < (A17l : Int) ∧
  (∃ u, w_3.cell? (((p37.add (x21.toNat * 4)).add 3).add 0) = some u) ∧ w_3.frozen? (((p37.add (x21.toNat * 4)).add 3).add 0) = false ∧
  let w_4 := w_3.setCell (((p37.add (x21.toNat * 4)).add 3).add 0) (.slice A36 A36l A36c);
  ∃ (A43 : Option Addr) (A43l A43c : Nat), w_4.cell? (m0.add 3) = some (.slice A43 A43l A43c) ∧
  ∃ x47 : Int, w_4.cell? (m0.add 4) = some (.int .i64 x47) ∧
  Expo B w_4 [q8] fun w_5 => 
  Hide [q8] (w_5.alloc (.cells ⟨[.int .i64 x47]⟩ 3)) fun w_6 => 
  w_6.cell? (m0.add 3) = some (.slice A43 A43l A43c) ∧
  RunK Try.prog (Builtin.append_ #[42, 42] 42 ⟨[.slice A43 A43l A43c, .slice (some ⟨w_5.heap.size, 0, none⟩) 1 1]⟩) B w_6 [q8] fun v_1 w_7 => 
  ∃ (A49 : Option Addr) (A49l A49c : Nat), v_1 = .slice A49 A49l A49c ∧
  (∃ u_1, w_7.cell? ((m0.add 3).add 0) = some u_1) ∧ w_7.frozen? ((m0.add 3).add 0) = false ∧
  let w_8 := w_7.setCell ((m0.add 3).add 0) (.slice A49 A49l A49c);
  ∃ x56 : Int, w_8.cell? (m0.add 4) = some (.int .i64 x56) ∧
  ∃ (A60 : Option Addr) (A60l A60c : Nat), w_8.cell? ((m0.add 1).add 0) = some (.slice A60 A60l A60c) ∧
  CallK Try.prog 29 [.agg ⟨[.slice A60 A60l A60c]⟩, .agg ⟨[.int .i64 op1, .int .i64 a2, .int .i64 b3]⟩] B w_8 [q8] fun v_2 w_9 => 
  ∃ x62 : Int, v_2 = .int .i64 x62 ∧ w_9.cell? (m0.add 4) = some (.int .i64 x56) ∧
  CallK Try.prog 31 [.agg ⟨[.int .i64 op1, .int .i64 a2, .int .i64 b3]⟩] B w_9 [q8] fun v_3 w_10 => 
  ∃ x65 : Int, v_3 = .int .i64 x65 ∧ w_10.cell? (m0.add 4) = some (.int .i64 x56) ∧
  (∃ u_2, w_10.cell? ((m0.add 4).add 0) = some u_2) ∧ w_10.frozen? ((m0.add 4).add 0) = false ∧
  let w_11 := w_10.setCell ((m0.add 4).add 0) (.int .i64 (IntKind.wrap .i64 (IntKind.wrap .i64 (x56 - x62) + x65)));
  Ret B w_11 (R (.tuple ⟨[]⟩))
noncomputable def V115.cfg (B : Nat) : Cfg := ⟨Try.prog, ⟨69, B⟩, [], hasN [29, 31], hasN []⟩
noncomputable def V115.code : Code := (Try.f115.body).getD .skip
noncomputable def V115.cuts (B : Nat) (R : Value → World → Prop) : Nat → Cut := nthC []
noncomputable def V115.h : H := .s (.z) (.s (.r [[0, 1, 2, 3, 4, 5, 6, 7, 8, 9, 10, 11, 12, 13, 14, 15, 16, 17, 18, 19, 20, 21, 22, 23, 24, 25, 26]]) (.s (.r [[0, 1, 2, 3, 4, 5, 6, 7, 8, 9, 10, 11, 12, 13]]) (.r [[0, 1, 2, 3, 4, 5, 6, 7, 8, 9, 12, 10, 11, 13, 14, 15, 16, 17]])))
theorem V115.vc_eq (B : Nat) (R : Value → World → Prop) (m0 : Addr) (op1 a2 b3 : Int) (w : World) : wpf (V115.cfg B) (V115.cuts B R) V115.code V115.h [] (postOf Try.prog B (Try.f115.results.toList) R) (argE 0 [.pointer (some m0), .int .i64 op1, .int .i64 a2, .int .i64 b3]) [] w = V115.vc B R m0 op1 a2 b3 w := by kernel_rfl
theorem V115.obl (B : Nat) (R : Value → World → Prop) : oblP (V115.cfg B) (V115.cuts B R) V115.code V115.h [] (postOf Try.prog B (Try.f115.results.toList) R) := by
  have e : oblP (V115.cfg B) (V115.cuts B R) V115.code V115.h [] (postOf Try.prog B (Try.f115.results.toList) R) = (True ∧ ((true = true) ∧ ((true = true) ∧ (true = true)))) := by kernel_rfl
  rw [e]
  exact ⟨trivial, ⟨rfl, ⟨rfl, rfl⟩⟩⟩
theorem V115.cfgOk (B : Nat) : CfgOk (V115.cfg B) := cfgOk_of (by kernel_rfl) (by kernel_rfl)
theorem V115.sound {m0 : Addr} {op1 a2 b3 : Int} {w : World} {R : Value → World → Prop} (h : V115.vc w.heap.size R m0 op1 a2 b3 w) : Calls Try.prog 115 ⟨[.pointer (some m0), .int .i64 op1, .int .i64 a2, .int .i64 b3]⟩ w fun e w' => ∃ v, e = .returned v ∧ R v w' :=
  calls_wpfP (c := V115.cfg w.heap.size) (fn := Try.f115) (x := V115.code) (V115.cuts w.heap.size R) V115.h (V115.cfgOk _) mixed Try.func115 (by kernel_rfl) (by kernel_rfl) (by kernel_rfl) rfl (V115.obl _ _) ((V115.vc_eq _ _ m0 op1 a2 b3 _).symm ▸ h)

/-! function 116 -/
def V116.vc (B : Nat) (R : Value → World → Prop) (m0 : Addr) (w : World) : Prop :=
  ∃ (A6 : Option Addr) (A6l A6c : Nat), w.cell? (m0.add 3) = some (.slice A6 A6l A6c) ∧
Ret B w (R (.int .i64 (A6l : Int)))
noncomputable def V116.cfg (B : Nat) : Cfg := ⟨Try.prog, ⟨8, B⟩, [], hasN [], hasN []⟩
noncomputable def V116.code : Code := (Try.f116.body).getD .skip
noncomputable def V116.cuts (B : Nat) (R : Value → World → Prop) : Nat → Cut := nthC []
noncomputable def V116.h : H := .s (.z) (.s (.z) (.z))
theorem V116.vc_eq (B : Nat) (R : Value → World → Prop) (m0 : Addr) (w : World) : wpf (V116.cfg B) (V116.cuts B R) V116.code V116.h [] (postOf Try.prog B (Try.f116.results.toList) R) (argE 0 [.pointer (some m0)]) [] w = V116.vc B R m0 w := by kernel_rfl
theorem V116.obl (B : Nat) (R : Value → World → Prop) : oblP (V116.cfg B) (V116.cuts B R) V116.code V116.h [] (postOf Try.prog B (Try.f116.results.toList) R) := by
  have e : oblP (V116.cfg B) (V116.cuts B R) V116.code V116.h [] (postOf Try.prog B (Try.f116.results.toList) R) = (True ∧ (True ∧ True)) := by kernel_rfl
  rw [e]
  exact ⟨trivial, ⟨trivial, trivial⟩⟩
theorem V116.cfgOk (B : Nat) : CfgOk (V116.cfg B) := cfgOk_of (by kernel_rfl) (by kernel_rfl)
theorem V116.sound {m0 : Addr} {w : World} {R : Value → World → Prop} (h : V116.vc w.heap.size R m0 w) : Calls Try.prog 116 ⟨[.pointer (some m0)]⟩ w fun e w' => ∃ v, e = .returned v ∧ R v w' :=
  calls_wpfP (c := V116.cfg w.heap.size) (fn := Try.f116) (x := V116.code) (V116.cuts w.heap.size R) V116.h (V116.cfgOk _) mixed Try.func116 (by kernel_rfl) (by kernel_rfl) (by kernel_rfl) rfl (V116.obl _ _) ((V116.vc_eq _ _ m0 _).symm ▸ h)

/-! function 117 -/
def V117.b7 (B : Nat) (R : Value → World → Prop) (m0 : Addr) (kind1 b2 g7 k8 : Int) (b209 : Bool) (w : World) : Prop :=
  if b209 = true
  then (CallK Try.prog 127 [.pointer (some m0), .int .i64 k8, .int .i64 b2] B w [] fun v w_1 => 
   v = .tuple ⟨[]⟩ ∧
   CallK Try.prog 115 [.pointer (some m0), .int .i64 19, .int .i64 g7, .int .i64 0] B w_1 [] fun v_1 w_2 => 
   v_1 = .tuple ⟨[]⟩ ∧
   Ret B w_2 (R (.bool true)))
  else (CallK Try.prog 128 [.pointer (some m0), .int .i64 kind1, .int .i64 b2] B w [] fun v w_1 => 
   ∃ b30 : Bool, v = .bool b30 ∧
   Ret B w_1 (R (.bool b30)))
def V117.b6 (B : Nat) (R : Value → World → Prop) (m0 : Addr) (kind1 b2 g7 k8 : Int) (b163 : Bool) (w : World) : Prop :=
  if b163 = true
  then (CallK Try.prog 115 [.pointer (some m0), .int .i64 3, .int .i64 0, .int .i64 0] B w [] fun v w_1 => 
   v = .tuple ⟨[]⟩ ∧
   CallK Try.prog 115 [.pointer (some m0), .int .i64 1, .int .i64 1, .int .i64 0] B w_1 [] fun v_1 w_2 => 
   v_1 = .tuple ⟨[]⟩ ∧
   CallK Try.prog 115 [.pointer (some m0), .int .i64 6, .int .i64 0, .int .i64 0] B w_2 [] fun v_2 w_3 => 
   v_2 = .tuple ⟨[]⟩ ∧
   CallK Try.prog 127 [.pointer (some m0), .int .i64 (IntKind.wrap .i64 (k8 - 1)), .int .i64 b2] B w_3 [] fun v_3 w_4 => 
   v_3 = .tuple ⟨[]⟩ ∧
   CallK Try.prog 115 [.pointer (some m0), .int .i64 17, .int .i64 g7, .int .i64 0] B w_4 [] fun v_4 w_5 => 
   v_4 = .tuple ⟨[]⟩ ∧
   Ret B w_5 (R (.bool true)))
  else (if (kind1 == 19) = true
   then (∃ x216 : Int, w.cell? (m0.add 4) = some (.int .i64 x216) ∧
   V117.b7 B R m0 kind1 b2 g7 k8 (decide (IntKind.wrap .i64 (x216 + k8) ≤ 8)) w)
   else (V117.b7 B R m0 kind1 b2 g7 k8 false w))
def V117.b5 (B : Nat) (R : Value → World → Prop) (m0 : Addr) (kind1 b2 g7 k8 : Int) (b137 : Bool) (w : World) : Prop :=
  if b137 = true
  then (CallK Try.prog 127 [.pointer (some m0), .int .i64 k8, .int .i64 b2] B w [] fun v w_1 => 
   v = .tuple ⟨[]⟩ ∧
   CallK Try.prog 115 [.pointer (some m0), .int .i64 17, .int .i64 g7, .int .i64 0] B w_1 [] fun v_1 w_2 => 
   v_1 = .tuple ⟨[]⟩ ∧
   Ret B w_2 (R (.bool true)))
  else (if (kind1 == 18) = true
   then (if (decide (k8 > 0)) = true
    then (∃ x174 : Int, w.cell? (m0.add 4) = some (.int .i64 x174) ∧
    if (decide (IntKind.wrap .i64 (x174 + (if 2 > k8 then 2 else k8)) ≤ 8)) = true
     then (∃ (A185 : Option Addr) (A185l A185c : Nat), w.cell? ((m0.add 1).add 0) = some (.slice A185 A185l A185c) ∧
     ∃ x189 : Int, w.cell? (m0.add 2) = some (.int .i64 x189) ∧
     ∃ p190 : Addr, A185 = some p190 ∧ (0 : Int) ≤ x189 ∧ x189 < (A185l : Int) ∧
     ∃ x192 : Int, w.cell? ((p190.add (x189.toNat * 4)).add 0) = some (.int .i64 x192) ∧
     V117.b6 B R m0 kind1 b2 g7 k8 (decide (x192 > 0)) w)
     else (V117.b6 B R m0 kind1 b2 g7 k8 false w))
    else (V117.b6 B R m0 kind1 b2 g7 k8 false w))
   else (V117.b6 B R m0 kind1 b2 g7 k8 false w))
def V117.b4 (B : Nat) (R : Value → World → Prop) (m0 : Addr) (kind1 b2 g7 k8 : Int) (b104 : Bool) (w : World) : Prop :=
  if b104 = true
  then ((3 : Int) ≠ 0 ∧
  CallK Try.prog 115 [.pointer (some m0), .int .i64 1, .int .i64 (Int.tmod b2 3), .int .i64 0] B w [] fun v w_1 => 
   v = .tuple ⟨[]⟩ ∧
   CallK Try.prog 116 [.pointer (some m0)] B w_1 [] fun v_1 w_2 => 
   ∃ x124 : Int, v_1 = .int .i64 x124 ∧
   CallK Try.prog 115 [.pointer (some m0), .int .i64 16, .int .i64 (IntKind.wrap .i64 (x124 + 3)), .int .i64 0] B w_2 [] fun v_2 w_3 => 
   v_2 = .tuple ⟨[]⟩ ∧
   CallK Try.prog 115 [.pointer (some m0), .int .i64 1, .int .i64 b2, .int .i64 0] B w_3 [] fun v_3 w_4 => 
   v_3 = .tuple ⟨[]⟩ ∧
   Expo B w_4 [] fun w_5 => 
   let w_6 := w_5.alloc (.cells ⟨[.int .i64 20, .int .i64 18]⟩ 3);
   ∃ p134 : Addr, (some ⟨w_5.heap.size, 0, none⟩) = some p134 ∧ (0 : Int) ≤ IntKind.wrap .i64 (kind1 - 15) ∧ IntKind.wrap .i64 (kind1 - 15) < ((2 : Nat) : Int) ∧
   ∃ x135 : Int, w_6.cell? (p134.add ((IntKind.wrap .i64 (kind1 - 15)).toNat)) = some (.int .i64 x135) ∧
   CallK Try.prog 115 [.pointer (some m0), .int .i64 x135, .int .i64 0, .int .i64 0] B w_6 [] fun v_4 w_7 => 
   v_4 = .tuple ⟨[]⟩ ∧
   Ret B w_7 (R (.bool true)))
  else (if (kind1 == 17) = true
   then (∃ x144 : Int, w.cell? (m0.add 4) = some (.int .i64 x144) ∧
   if (decide (IntKind.wrap .i64 (x144 + k8) ≤ 8)) = true
    then (∃ x153 : Int, w.cell? (m0.add 4) = some (.int .i64 x153) ∧
    V117.b5 B R m0 kind1 b2 g7 k8 (decide (x153 < 8)) w)
    else (V117.b5 B R m0 kind1 b2 g7 k8 false w))
   else (V117.b5 B R m0 kind1 b2 g7 k8 false w))
def V117.l3 (B : Nat) (R : Value → World → Prop) : Nat → Addr → Int → World → Prop
  | 0 => fun _ _ _ => False
  | k + 1 => fun m0 j9 w =>
    if (decide (j9 ≥ 0)) = true
    then (∃ (A91 : Option Addr) (A91l A91c : Nat), w.cell? (m0.add 3) = some (.slice A91 A91l A91c) ∧
    ∃ p93 : Addr, A91 = some p93 ∧ (0 : Int) ≤ j9 ∧ j9 < (A91l : Int) ∧
    ∃ x94 : Int, w.cell? (p93.add j9.toNat) = some (.int .i64 x94) ∧
    ∃ x98 : Int, w.cell? (m0.add 4) = some (.int .i64 x98) ∧
    if (x94 == IntKind.wrap .i64 (x98 - 1)) = true
     then (CallK Try.prog 115 [.pointer (some m0), .int .i64 16, .int .i64 j9, .int .i64 0] B w [] fun v w_1 => 
      v = .tuple ⟨[]⟩ ∧
      Ret B w_1 (R (.bool true)))
     else ((V117.l3 B R k) m0 (IntKind.wrap .i64 (j9 - 1)) w))
    else (Ret B w (R (.bool false)))
def V117.b2 (B : Nat) (R : Value → World → Prop) (m0 : Addr) (kind1 b2 g7 k8 : Int) (b68 : Bool) (w : World) : Prop :=
  if b68 = true
  then (CallK Try.prog 116 [.pointer (some m0)] B w [] fun v w_1 => 
   ∃ x79 : Int, v = .int .i64 x79 ∧ (7 : Int) ≠ 0 ∧
   ∃ k_1, V117.l3 B R k_1 m0 (IntKind.wrap .i64 (IntKind.wrap .i64 (x79 - 1) - Int.tmod b2 7)) w_1)
  else (if (kind1 == 15) = false
   then (if (kind1 == 16) = true
    then (∃ x115 : Int, w.cell? (m0.add 4) = some (.int .i64 x115) ∧
    V117.b4 B R m0 kind1 b2 g7 k8 (decide (x115 < 8)) w)
    else (V117.b4 B R m0 kind1 b2 g7 k8 false w))
   else (∃ x115 : Int, w.cell? (m0.add 4) = some (.int .i64 x115) ∧
   V117.b4 B R m0 kind1 b2 g7 k8 (decide (x115 < 8)) w))
def V117.b1 (B : Nat) (R : Value → World → Prop) (m0 : Addr) (kind1 b2 g7 k8 : Int) (b54 : Bool) (w : World) : Prop :=
  if b54 = true
  then (CallK Try.prog 115 [.pointer (some m0), .int .i64 19, .int .i64 g7, .int .i64 0] B w [] fun v w_1 => 
   v = .tuple ⟨[]⟩ ∧
   Ret B w_1 (R (.bool true)))
  else (if (kind1 == 14) = true
   then (∃ x75 : Int, w.cell? (m0.add 4) = some (.int .i64 x75) ∧
   V117.b2 B R m0 kind1 b2 g7 k8 (decide (x75 > 0)) w)
   else (V117.b2 B R m0 kind1 b2 g7 k8 false w))
def V117.b0 (B : Nat) (R : Value → World → Prop) (m0 : Addr) (kind1 b2 g7 k8 : Int) (b31 : Bool) (w : World) : Prop :=
  if b31 = true
  then (CallK Try.prog 115 [.pointer (some m0), .int .i64 17, .int .i64 g7, .int .i64 0] B w [] fun v w_1 => 
   v = .tuple ⟨[]⟩ ∧
   Ret B w_1 (R (.bool true)))
  else (if (kind1 == 10) = true
   then (∃ x61 : Int, w.cell? (m0.add 4) = some (.int .i64 x61) ∧
   V117.b1 B R m0 kind1 b2 g7 k8 (decide (x61 ≥ k8)) w)
   else (V117.b1 B R m0 kind1 b2 g7 k8 false w))
def V117.vc (B : Nat) (R : Value → World → Prop) (m0 : Addr) (kind1 b2 : Int) (w : World) : Prop :=
  ∃ (A15 : Option Addr) (A15l A15c : Nat), w.cell? ((m0.add 1).add 0) = some (.slice A15 A15l A15c) ∧ (A15l : Int) ≠ 0 ∧
∃ (A22 : Option Addr) (A22l A22c : Nat), w.cell? ((m0.add 1).add 0) = some (.slice A22 A22l A22c) ∧
∃ p24 : Addr, A22 = some p24 ∧ (0 : Int) ≤ Int.tmod b2 (A15l : Int) ∧ Int.tmod b2 (A15l : Int) < (A22l : Int) ∧
∃ x26 : Int, w.cell? ((p24.add ((Int.tmod b2 (A15l : Int)).toNat * 4)).add 0) = some (.int .i64 x26) ∧
if (kind1 == 9) = true
  then (∃ x38 : Int, w.cell? (m0.add 4) = some (.int .i64 x38) ∧
  if (decide (x38 ≥ x26)) = true
   then (∃ x46 : Int, w.cell? (m0.add 4) = some (.int .i64 x46) ∧
   V117.b0 B R m0 kind1 b2 (Int.tmod b2 (A15l : Int)) x26 (decide (IntKind.wrap .i64 (x46 - x26) < 8)) w)
   else (V117.b0 B R m0 kind1 b2 (Int.tmod b2 (A15l : Int)) x26 false w))
  else (V117.b0 B R m0 kind1 b2 (Int.tmod b2 (A15l : Int)) x26 false w)
noncomputable def V117.cfg (B : Nat) : Cfg := ⟨Try.prog, ⟨228, B⟩, [], hasN [115, 116, 127, 128], hasN []⟩
noncomputable def V117.code : Code := (Try.f117.body).getD .skip
noncomputable def V117.cuts (B : Nat) (R : Value → World → Prop) : Nat → Cut := nthC [⟨[(0, .one (.ptr)), (1, .one (.int .i64)), (2, .one (.int .i64)), (7, .one (.int .i64)), (8, .one (.int .i64)), (31, .one (.bool))], [], fun fs vs bs w => V117.b0 B R (pV (nthV vs 0)) (iV (nthV vs 1)) (iV (nthV vs 2)) (iV (nthV vs 3)) (iV (nthV vs 4)) (bV (nthV vs 5)) w⟩,
  ⟨[(0, .one (.ptr)), (1, .one (.int .i64)), (2, .one (.int .i64)), (7, .one (.int .i64)), (8, .one (.int .i64)), (54, .one (.bool))], [], fun fs vs bs w => V117.b1 B R (pV (nthV vs 0)) (iV (nthV vs 1)) (iV (nthV vs 2)) (iV (nthV vs 3)) (iV (nthV vs 4)) (bV (nthV vs 5)) w⟩,
  ⟨[(0, .one (.ptr)), (1, .one (.int .i64)), (2, .one (.int .i64)), (7, .one (.int .i64)), (8, .one (.int .i64)), (68, .one (.bool))], [], fun fs vs bs w => V117.b2 B R (pV (nthV vs 0)) (iV (nthV vs 1)) (iV (nthV vs 2)) (iV (nthV vs 3)) (iV (nthV vs 4)) (bV (nthV vs 5)) w⟩,
  ⟨[(0, .one (.ptr)), (9, .one (.int .i64))], [], fun fs vs bs w => V117.l3 B R (nthN fs 0) (pV (nthV vs 0)) (iV (nthV vs 1)) w⟩,
  ⟨[(0, .one (.ptr)), (1, .one (.int .i64)), (2, .one (.int .i64)), (7, .one (.int .i64)), (8, .one (.int .i64)), (104, .one (.bool))], [], fun fs vs bs w => V117.b4 B R (pV (nthV vs 0)) (iV (nthV vs 1)) (iV (nthV vs 2)) (iV (nthV vs 3)) (iV (nthV vs 4)) (bV (nthV vs 5)) w⟩,
  ⟨[(0, .one (.ptr)), (1, .one (.int .i64)), (2, .one (.int .i64)), (7, .one (.int .i64)), (8, .one (.int .i64)), (137, .one (.bool))], [], fun fs vs bs w => V117.b5 B R (pV (nthV vs 0)) (iV (nthV vs 1)) (iV (nthV vs 2)) (iV (nthV vs 3)) (iV (nthV vs 4)) (bV (nthV vs 5)) w⟩,
  ⟨[(0, .one (.ptr)), (1, .one (.int .i64)), (2, .one (.int .i64)), (7, .one (.int .i64)), (8, .one (.int .i64)), (163, .one (.bool))], [], fun fs vs bs w => V117.b6 B R (pV (nthV vs 0)) (iV (nthV vs 1)) (iV (nthV vs 2)) (iV (nthV vs 3)) (iV (nthV vs 4)) (bV (nthV vs 5)) w⟩,
  ⟨[(0, .one (.ptr)), (1, .one (.int .i64)), (2, .one (.int .i64)), (7, .one (.int .i64)), (8, .one (.int .i64)), (209, .one (.bool))], [], fun fs vs bs w => V117.b7 B R (pV (nthV vs 0)) (iV (nthV vs 1)) (iV (nthV vs 2)) (iV (nthV vs 3)) (iV (nthV vs 4)) (bV (nthV vs 5)) w⟩]
noncomputable def V117.h : H := .s (.z) (.s (.z) (.s (.z) (.s (.b (.cut 0 (.z) (.c (.z) (.cut 1 (.z) (.c (.z) (.cut 2 (.z) (.c (.s (.s (.z) (.b (.l 3 (.s (.s (.z) (.c (.z) (.z))) (.s (.b (.s (.r [[0, 1, 2, 3, 4, 5, 6, 7, 8, 9, 10, 11, 12]]) (.c (.s (.z) (.s (.z) (.z))) (.z)))) (.z)))))) (.s (.z) (.z))) (.cut 4 (.z) (.c (.s (.z) (.s (.z) (.s (.z) (.z)))) (.cut 5 (.z) (.c (.s (.z) (.z)) (.cut 6 (.r [[0, 1, 2, 3, 4, 5, 6, 7, 8, 9, 10, 11, 12, 13, 14, 15, 16, 17, 18, 19, 20, 21, 22, 23, 24, 25, 26, 27, 28, 29, 30, 31]]) (.c (.s (.z) (.s (.z) (.s (.z) (.s (.z) (.z))))) (.cut 7 (.z) (.c (.s (.z) (.z)) (.s (.z) (.z))))))))))))))))) (.s (.z) (.z)))))
theorem V117.vc_eq (B : Nat) (R : Value → World → Prop) (m0 : Addr) (kind1 b2 : Int) (w : World) : wpf (V117.cfg B) (V117.cuts B R) V117.code V117.h [] (postOf Try.prog B (Try.f117.results.toList) R) (argE 0 [.pointer (some m0), .int .i64 kind1, .int .i64 b2]) [] w = V117.vc B R m0 kind1 b2 w := by kernel_rfl
theorem V117.obl (B : Nat) (R : Value → World → Prop) : oblP (V117.cfg B) (V117.cuts B R) V117.code V117.h [] (postOf Try.prog B (Try.f117.results.toList) R) := by
  have e : oblP (V117.cfg B) (V117.cuts B R) V117.code V117.h [] (postOf Try.prog B (Try.f117.results.toList) R) = (True ∧ (True ∧ (True ∧ ((True ∧ (∀ (m0 : Addr) (kind1 b2 g7 k8 : Int) (b31 : Bool) (w : World), V117.b0 B R m0 kind1 b2 g7 k8 b31 w → V117.b0 B R m0 kind1 b2 g7 k8 b31 w) ∧ (True ∧ (True ∧ (∀ (m0 : Addr) (kind1 b2 g7 k8 : Int) (b54 : Bool) (w : World), V117.b1 B R m0 kind1 b2 g7 k8 b54 w → V117.b1 B R m0 kind1 b2 g7 k8 b54 w) ∧ (True ∧ (True ∧ (∀ (m0 : Addr) (kind1 b2 g7 k8 : Int) (b68 : Bool) (w : World), V117.b2 B R m0 kind1 b2 g7 k8 b68 w → V117.b2 B R m0 kind1 b2 g7 k8 b68 w) ∧ (((True ∧ ((∀ (m0 : Addr) (j9 : Int) (w : World), ¬ V117.l3 B R 0 m0 j9 w) ∧ (∀ k3, ∀ (m0 : Addr) (j9 : Int) (w : World), V117.l3 B R (k3 + 1) m0 j9 w → V117.l3 B R (k3 + 1) m0 j9 w) ∧ ∀ k3 : Nat, ((True ∧ (True ∧ True)) ∧ (((true = true) ∧ ((True ∧ (True ∧ True)) ∧ True)) ∧ True)))) ∧ (True ∧ True)) ∧ (True ∧ (∀ (m0 : Addr) (kind1 b2 g7 k8 : Int) (b104 : Bool) (w : World), V117.b4 B R m0 kind1 b2 g7 k8 b104 w → V117.b4 B R m0 kind1 b2 g7 k8 b104 w) ∧ ((True ∧ (True ∧ (True ∧ True))) ∧ (True ∧ (∀ (m0 : Addr) (kind1 b2 g7 k8 : Int) (b137 : Bool) (w : World), V117.b5 B R m0 kind1 b2 g7 k8 b137 w → V117.b5 B R m0 kind1 b2 g7 k8 b137 w) ∧ ((True ∧ True) ∧ ((true = true) ∧ (∀ (m0 : Addr) (kind1 b2 g7 k8 : Int) (b163 : Bool) (w : World), V117.b6 B R m0 kind1 b2 g7 k8 b163 w → V117.b6 B R m0 kind1 b2 g7 k8 b163 w) ∧ ((True ∧ (True ∧ (True ∧ (True ∧ True)))) ∧ (True ∧ (∀ (m0 : Addr) (kind1 b2 g7 k8 : Int) (b209 : Bool) (w : World), V117.b7 B R m0 kind1 b2 g7 k8 b209 w → V117.b7 B R m0 kind1 b2 g7 k8 b209 w) ∧ ((True ∧ True) ∧ (True ∧ True))))))))))))))) ∧ (True ∧ True))))) := by kernel_rfl
  rw [e]
  exact ⟨trivial, ⟨trivial, ⟨trivial, ⟨⟨trivial, fun m0 kind1 b2 g7 k8 b31 w h => h, ⟨trivial, ⟨trivial, fun m0 kind1 b2 g7 k8 b54 w h => h, ⟨trivial, ⟨trivial, fun m0 kind1 b2 g7 k8 b68 w h => h, ⟨⟨⟨trivial, ⟨fun m0 j9 w h => h, fun _ m0 j9 w h => h, fun k3 => ⟨⟨trivial, ⟨trivial, trivial⟩⟩, ⟨⟨rfl, ⟨⟨trivial, ⟨trivial, trivial⟩⟩, trivial⟩⟩, trivial⟩⟩⟩⟩, ⟨trivial, trivial⟩⟩, ⟨trivial, fun m0 kind1 b2 g7 k8 b104 w h => h, ⟨⟨trivial, ⟨trivial, ⟨trivial, trivial⟩⟩⟩, ⟨trivial, fun m0 kind1 b2 g7 k8 b137 w h => h, ⟨⟨trivial, trivial⟩, ⟨rfl, fun m0 kind1 b2 g7 k8 b163 w h => h, ⟨⟨trivial, ⟨trivial, ⟨trivial, ⟨trivial, trivial⟩⟩⟩⟩, ⟨trivial, fun m0 kind1 b2 g7 k8 b209 w h => h, ⟨⟨trivial, trivial⟩, ⟨trivial, trivial⟩⟩⟩⟩⟩⟩⟩⟩⟩⟩⟩⟩⟩⟩⟩, ⟨trivial, trivial⟩⟩⟩⟩⟩
theorem V117.cfgOk (B : Nat) : CfgOk (V117.cfg B) := cfgOk_of (by kernel_rfl) (by kernel_rfl)
theorem V117.sound {m0 : Addr} {kind1 b2 : Int} {w : World} {R : Value → World → Prop} (h : V117.vc w.heap.size R m0 kind1 b2 w) : Calls Try.prog 117 ⟨[.pointer (some m0), .int .i64 kind1, .int .i64 b2]⟩ w fun e w' => ∃ v, e = .returned v ∧ R v w' :=
  calls_wpfP (c := V117.cfg w.heap.size) (fn := Try.f117) (x := V117.code) (V117.cuts w.heap.size R) V117.h (V117.cfgOk _) mixed Try.func117 (by kernel_rfl) (by kernel_rfl) (by kernel_rfl) rfl (V117.obl _ _) ((V117.vc_eq _ _ m0 kind1 b2 _).symm ▸ h)

/-! function 127 -/
def V127.l0 (B : Nat) (R : Value → World → Prop) : Nat → Addr → Int → Int → Int → World → Prop
  | 0 => fun _ _ _ _ _ => False
  | k + 1 => fun m0 n1 b2 i6 w =>
    if (decide (i6 < n1)) = true
    then ((12 : Int) ≠ 0 ∧
    CallK Try.prog 115 [.pointer (some m0), .int .i64 1, .int .i64 (Int.tmod (IntKind.wrap .i64 (b2 + i6)) 12), .int .i64 0] B w [] fun v w_1 => 
     v = .tuple ⟨[]⟩ ∧ (V127.l0 B R k) m0 n1 b2 (IntKind.wrap .i64 (i6 + 1)) w_1)
    else (Ret B w (R (.tuple ⟨[]⟩)))
def V127.vc (B : Nat) (R : Value → World → Prop) (m0 : Addr) (n1 b2 : Int) (w : World) : Prop :=
  ∃ k_1, V127.l0 B R k_1 m0 n1 b2 0 w
noncomputable def V127.cfg (B : Nat) : Cfg := ⟨Try.prog, ⟨18, B⟩, [], hasN [115], hasN []⟩
noncomputable def V127.code : Code := (Try.f127.body).getD .skip
noncomputable def V127.cuts (B : Nat) (R : Value → World → Prop) : Nat → Cut := nthC [⟨[(0, .one (.ptr)), (1, .one (.int .i64)), (2, .one (.int .i64)), (6, .one (.int .i64))], [], fun fs vs bs w => V127.l0 B R (nthN fs 0) (pV (nthV vs 0)) (iV (nthV vs 1)) (iV (nthV vs 2)) (iV (nthV vs 3)) w⟩]
noncomputable def V127.h : H := .s (.z) (.b (.l 0 (.s (.s (.z) (.c (.z) (.z))) (.s (.b (.z)) (.z)))))
theorem V127.vc_eq (B : Nat) (R : Value → World → Prop) (m0 : Addr) (n1 b2 : Int) (w : World) : wpf (V127.cfg B) (V127.cuts B R) V127.code V127.h [] (postOf Try.prog B (Try.f127.results.toList) R) (argE 0 [.pointer (some m0), .int .i64 n1, .int .i64 b2]) [] w = V127.vc B R m0 n1 b2 w := by kernel_rfl
theorem V127.obl (B : Nat) (R : Value → World → Prop) : oblP (V127.cfg B) (V127.cuts B R) V127.code V127.h [] (postOf Try.prog B (Try.f127.results.toList) R) := by
  have e : oblP (V127.cfg B) (V127.cuts B R) V127.code V127.h [] (postOf Try.prog B (Try.f127.results.toList) R) = (True ∧ ((∀ (m0 : Addr) (n1 b2 i6 : Int) (w : World), ¬ V127.l0 B R 0 m0 n1 b2 i6 w) ∧ (∀ k0, ∀ (m0 : Addr) (n1 b2 i6 : Int) (w : World), V127.l0 B R (k0 + 1) m0 n1 b2 i6 w → V127.l0 B R (k0 + 1) m0 n1 b2 i6 w) ∧ ∀ k0 : Nat, ((True ∧ (True ∧ True)) ∧ (True ∧ True)))) := by kernel_rfl
  rw [e]
  exact ⟨trivial, ⟨fun m0 n1 b2 i6 w h => h, fun _ m0 n1 b2 i6 w h => h, fun k0 => ⟨⟨trivial, ⟨trivial, trivial⟩⟩, ⟨trivial, trivial⟩⟩⟩⟩
theorem V127.cfgOk (B : Nat) : CfgOk (V127.cfg B) := cfgOk_of (by kernel_rfl) (by kernel_rfl)
theorem V127.sound {m0 : Addr} {n1 b2 : Int} {w : World} {R : Value → World → Prop} (h : V127.vc w.heap.size R m0 n1 b2 w) : Calls Try.prog 127 ⟨[.pointer (some m0), .int .i64 n1, .int .i64 b2]⟩ w fun e w' => ∃ v, e = .returned v ∧ R v w' :=
  calls_wpfP (c := V127.cfg w.heap.size) (fn := Try.f127) (x := V127.code) (V127.cuts w.heap.size R) V127.h (V127.cfgOk _) mixed Try.func127 (by kernel_rfl) (by kernel_rfl) (by kernel_rfl) rfl (V127.obl _ _) ((V127.vc_eq _ _ m0 n1 b2 _).symm ▸ h)

/-! function 128 -/
def V128.b10 (B : Nat) (R : Value → World → Prop) (m0 : Addr) (kind1 : Int) (b209 : Bool) (w : World) : Prop :=
  if b209 = true
  then (CallK Try.prog 115 [.pointer (some m0), .int .i64 26, .int .i64 0, .int .i64 0] B w [] fun v w_1 => 
   v = .tuple ⟨[]⟩ ∧
   Ret B w_1 (R (.bool true)))
  else (if (kind1 == 13) = true
   then (CallK Try.prog 116 [.pointer (some m0)] B w [] fun v w_1 => 
    ∃ x224 : Int, v = .int .i64 x224 ∧
    CallK Try.prog 115 [.pointer (some m0), .int .i64 15, .int .i64 (IntKind.wrap .i64 (x224 + 1)), .int .i64 0] B w_1 [] fun v_1 w_2 => 
    v_1 = .tuple ⟨[]⟩ ∧
    Ret B w_2 (R (.bool true)))
   else (Ret B w (R (.bool false))))
def V128.b9 (B : Nat) (R : Value → World → Prop) (m0 : Addr) (kind1 b2 : Int) (b169 : Bool) (q7 : Nat) (f7 f7_1 f7_2 : Int) (f7_3 : Option Addr) (f7_3l f7_3c : Nat) (w : World) : Prop :=
  if b169 = true
  then ((5 : Int) ≠ 0 ∧
  if (Int.tmod b2 5 == 0) = true
   then ((5 : Int) ≠ 0 ∧ f7_2 ≠ 0 ∧
   CallK Try.prog 115 [.pointer (some m0), .int .i64 25, .int .i64 (Int.tmod (IntKind.wrap .i64 (Int.tdiv b2 5)) f7_2), .int .i64 0] B w [q7] fun v w_1 => 
    v = .tuple ⟨[]⟩ ∧
    Ret B w_1 (R (.bool true)))
   else (if (Int.tmod b2 5 == 1) = true
    then ((5 : Int) ≠ 0 ∧ f7_2 ≠ 0 ∧ (7 : Int) ≠ 0 ∧ f7_2 ≠ 0 ∧
    CallK Try.prog 115 [.pointer (some m0), .int .i64 24, .int .i64 (Int.tmod (IntKind.wrap .i64 (Int.tdiv b2 5)) f7_2), .int .i64 (Int.tmod (IntKind.wrap .i64 (Int.tdiv b2 7)) f7_2)] B w [q7] fun v w_1 => 
     v = .tuple ⟨[]⟩ ∧
     Ret B w_1 (R (.bool true)))
    else ((5 : Int) ≠ 0 ∧ f7_2 ≠ 0 ∧
    CallK Try.prog 115 [.pointer (some m0), .int .i64 23, .int .i64 (Int.tmod (IntKind.wrap .i64 (Int.tdiv b2 5)) f7_2), .int .i64 0] B w [q7] fun v w_1 => 
     v = .tuple ⟨[]⟩ ∧
     Ret B w_1 (R (.bool true)))))
  else (if (kind1 == 13) = true
   then ((3 : Int) ≠ 0 ∧
   V128.b10 B R m0 kind1 (Int.tmod b2 3 == 0) w)
   else (V128.b10 B R m0 kind1 false w))
def V128.b8 (B : Nat) (R : Value → World → Prop) (m0 : Addr) (kind1 b2 : Int) (b156 : Bool) (q7 : Nat) (f7 f7_1 f7_2 : Int) (f7_3 : Option Addr) (f7_3l f7_3c : Nat) (w : World) : Prop :=
  if b156 = true
  then (CallK Try.prog 115 [.pointer (some m0), .int .i64 21, .int .i64 0, .int .i64 0] B w [q7] fun v w_1 => 
   v = .tuple ⟨[]⟩ ∧
   Ret B w_1 (R (.bool true)))
  else (if (kind1 == 12) = true
   then (V128.b9 B R m0 kind1 b2 (decide (f7_2 > 0)) q7 f7 f7_1 f7_2 f7_3 f7_3l f7_3c w)
   else (V128.b9 B R m0 kind1 b2 false q7 f7 f7_1 f7_2 f7_3 f7_3l f7_3c w))
def V128.b7 (B : Nat) (R : Value → World → Prop) (m0 : Addr) (kind1 b2 : Int) (b139 : Bool) (q7 : Nat) (f7 f7_1 f7_2 : Int) (f7_3 : Option Addr) (f7_3l f7_3c : Nat) (w : World) : Prop :=
  if b139 = true
  then (Expo B w [q7] fun w_1 => 
   Hide [q7] (w_1.alloc (.cells ⟨[.int .i64 27, .int .i64 22]⟩ 3)) fun w_2 => 
   (2 : Int) ≠ 0 ∧
   ∃ p153 : Addr, (some ⟨w_1.heap.size, 0, none⟩) = some p153 ∧ (0 : Int) ≤ Int.tmod b2 2 ∧ Int.tmod b2 2 < ((2 : Nat) : Int) ∧
   ∃ x154 : Int, w_2.cell? (p153.add ((Int.tmod b2 2).toNat)) = some (.int .i64 x154) ∧
   CallK Try.prog 115 [.pointer (some m0), .int .i64 x154, .int .i64 0, .int .i64 0] B w_2 [q7] fun v w_3 => 
   v = .tuple ⟨[]⟩ ∧
   Ret B w_3 (R (.bool true)))
  else (if (kind1 == 11) = true
   then (∃ x163 : Int, w.cell? (m0.add 4) = some (.int .i64 x163) ∧
   V128.b8 B R m0 kind1 b2 (decide (IntKind.wrap .i64 (x163 + 2) ≤ 8)) q7 f7 f7_1 f7_2 f7_3 f7_3l f7_3c w)
   else (V128.b8 B R m0 kind1 b2 false q7 f7 f7_1 f7_2 f7_3 f7_3l f7_3c w))
def V128.b6 (B : Nat) (R : Value → World → Prop) (m0 : Addr) (kind1 b2 : Int) (b127 : Bool) (q7 : Nat) (f7 f7_1 f7_2 : Int) (f7_3 : Option Addr) (f7_3l f7_3c : Nat) (w : World) : Prop :=
  if b127 = true
  then (CallK Try.prog 115 [.pointer (some m0), .int .i64 22, .int .i64 0, .int .i64 0] B w [q7] fun v w_1 => 
   v = .tuple ⟨[]⟩ ∧
   Ret B w_1 (R (.bool true)))
  else (if (kind1 == 8) = true
   then (∃ x146 : Int, w.cell? (m0.add 4) = some (.int .i64 x146) ∧
   V128.b7 B R m0 kind1 b2 (decide (x146 > 0)) q7 f7 f7_1 f7_2 f7_3 f7_3l f7_3c w)
   else (V128.b7 B R m0 kind1 b2 false q7 f7 f7_1 f7_2 f7_3 f7_3l f7_3c w))
def V128.b5 (B : Nat) (R : Value → World → Prop) (m0 : Addr) (kind1 b2 : Int) (b112 : Bool) (q7 : Nat) (f7 f7_1 f7_2 : Int) (f7_3 : Option Addr) (f7_3l f7_3c : Nat) (w : World) : Prop :=
  if b112 = true
  then ((2 : Int) ≠ 0 ∧
  CallK Try.prog 115 [.pointer (some m0), .int .i64 (IntKind.wrap .i64 (9 + Int.tmod b2 2)), .int .i64 0, .int .i64 0] B w [q7] fun v w_1 => 
   v = .tuple ⟨[]⟩ ∧
   Ret B w_1 (R (.bool true)))
  else (if (kind1 == 7) = true
   then (∃ x134 : Int, w.cell? (m0.add 4) = some (.int .i64 x134) ∧
   V128.b6 B R m0 kind1 b2 (decide (x134 > 0)) q7 f7 f7_1 f7_2 f7_3 f7_3l f7_3c w)
   else (V128.b6 B R m0 kind1 b2 false q7 f7 f7_1 f7_2 f7_3 f7_3l f7_3c w))
def V128.b4 (B : Nat) (R : Value → World → Prop) (m0 : Addr) (kind1 b2 : Int) (b91 : Bool) (q7 : Nat) (f7 f7_1 f7_2 : Int) (f7_3 : Option Addr) (f7_3l f7_3c : Nat) (w : World) : Prop :=
  if b91 = true
  then (Expo B w [q7] fun w_1 => 
   Hide [q7] (w_1.alloc (.cells ⟨[.int .i64 5, .int .i64 6, .int .i64 7, .int .i64 8, .int .i64 11, .int .i64 12, .int .i64 13, .int .i64 14]⟩ 3)) fun w_2 => 
   (8 : Int) ≠ 0 ∧
   ∃ p109 : Addr, (some ⟨w_1.heap.size, 0, none⟩) = some p109 ∧ (0 : Int) ≤ Int.tmod b2 8 ∧ Int.tmod b2 8 < ((8 : Nat) : Int) ∧
   ∃ x110 : Int, w_2.cell? (p109.add ((Int.tmod b2 8).toNat)) = some (.int .i64 x110) ∧
   CallK Try.prog 115 [.pointer (some m0), .int .i64 x110, .int .i64 0, .int .i64 0] B w_2 [q7] fun v w_3 => 
   v = .tuple ⟨[]⟩ ∧
   Ret B w_3 (R (.bool true)))
  else (if (kind1 == 6) = true
   then (∃ x119 : Int, w.cell? (m0.add 4) = some (.int .i64 x119) ∧
   V128.b5 B R m0 kind1 b2 (decide (x119 > 0)) q7 f7 f7_1 f7_2 f7_3 f7_3l f7_3c w)
   else (V128.b5 B R m0 kind1 b2 false q7 f7 f7_1 f7_2 f7_3 f7_3l f7_3c w))
def V128.b3 (B : Nat) (R : Value → World → Prop) (m0 : Addr) (kind1 b2 numbers8 : Int) (b72 : Bool) (q7 : Nat) (f7 f7_1 f7_2 : Int) (f7_3 : Option Addr) (f7_3l f7_3c : Nat) (w : World) : Prop :=
  if b72 = true
  then (numbers8 ≠ 0 ∧
  CallK Try.prog 115 [.pointer (some m0), .int .i64 4, .int .i64 (Int.tmod b2 numbers8), .int .i64 0] B w [q7] fun v w_1 => 
   v = .tuple ⟨[]⟩ ∧
   Ret B w_1 (R (.bool true)))
  else (if (kind1 == 4) = false
   then (if (kind1 == 5) = true
    then (∃ x102 : Int, w.cell? (m0.add 4) = some (.int .i64 x102) ∧
    V128.b4 B R m0 kind1 b2 (decide (x102 > 1)) q7 f7 f7_1 f7_2 f7_3 f7_3l f7_3c w)
    else (V128.b4 B R m0 kind1 b2 false q7 f7 f7_1 f7_2 f7_3 f7_3l f7_3c w))
   else (∃ x102 : Int, w.cell? (m0.add 4) = some (.int .i64 x102) ∧
   V128.b4 B R m0 kind1 b2 (decide (x102 > 1)) q7 f7 f7_1 f7_2 f7_3 f7_3l f7_3c w))
def V128.b2 (B : Nat) (R : Value → World → Prop) (m0 : Addr) (kind1 b2 numbers8 : Int) (b53 : Bool) (q7 : Nat) (f7 f7_1 f7_2 : Int) (f7_3 : Option Addr) (f7_3l f7_3c : Nat) (w : World) : Prop :=
  if b53 = true
  then (numbers8 ≠ 0 ∧
  CallK Try.prog 115 [.pointer (some m0), .int .i64 3, .int .i64 (Int.tmod b2 numbers8), .int .i64 0] B w [q7] fun v w_1 => 
   v = .tuple ⟨[]⟩ ∧
   Ret B w_1 (R (.bool true)))
  else (if (kind1 == 3) = true
   then (∃ x79 : Int, w.cell? (m0.add 4) = some (.int .i64 x79) ∧
   if (decide (x79 > 0)) = true
    then (V128.b3 B R m0 kind1 b2 numbers8 (decide (numbers8 > 0)) q7 f7 f7_1 f7_2 f7_3 f7_3l f7_3c w)
    else (V128.b3 B R m0 kind1 b2 numbers8 false q7 f7 f7_1 f7_2 f7_3 f7_3l f7_3c w))
   else (V128.b3 B R m0 kind1 b2 numbers8 false q7 f7 f7_1 f7_2 f7_3 f7_3l f7_3c w))
def V128.b1 (B : Nat) (R : Value → World → Prop) (m0 : Addr) (kind1 b2 numbers8 : Int) (b39 : Bool) (q7 : Nat) (f7 f7_1 f7_2 : Int) (f7_3 : Option Addr) (f7_3l f7_3c : Nat) (w : World) : Prop :=
  if b39 = true
  then ((6 : Int) ≠ 0 ∧
  CallK Try.prog 115 [.pointer (some m0), .int .i64 2, .int .i64 (Int.tmod b2 6), .int .i64 0] B w [q7] fun v w_1 => 
   v = .tuple ⟨[]⟩ ∧
   Ret B w_1 (R (.bool true)))
  else (if (kind1 == 2) = true
   then (∃ x60 : Int, w.cell? (m0.add 4) = some (.int .i64 x60) ∧
   if (decide (x60 < 8)) = true
    then (V128.b2 B R m0 kind1 b2 numbers8 (decide (numbers8 > 0)) q7 f7 f7_1 f7_2 f7_3 f7_3l f7_3c w)
    else (V128.b2 B R m0 kind1 b2 numbers8 false q7 f7 f7_1 f7_2 f7_3 f7_3l f7_3c w))
   else (V128.b2 B R m0 kind1 b2 numbers8 false q7 f7 f7_1 f7_2 f7_3 f7_3l f7_3c w))
def V128.b0 (B : Nat) (R : Value → World → Prop) (m0 : Addr) (kind1 b2 numbers8 : Int) (b25 : Bool) (q7 : Nat) (f7 f7_1 f7_2 : Int) (f7_3 : Option Addr) (f7_3l f7_3c : Nat) (w : World) : Prop :=
  if b25 = true
  then (CallK Try.prog 115 [.pointer (some m0), .int .i64 1, .int .i64 (IntKind.wrap .i64 (b2 - 100)), .int .i64 0] B w [q7] fun v w_1 => 
   v = .tuple ⟨[]⟩ ∧
   Ret B w_1 (R (.bool true)))
  else (if (kind1 == 1) = true
   then (∃ x46 : Int, w.cell? (m0.add 4) = some (.int .i64 x46) ∧
   V128.b1 B R m0 kind1 b2 numbers8 (decide (x46 < 8)) q7 f7 f7_1 f7_2 f7_3 f7_3l f7_3c w)
   else (V128.b1 B R m0 kind1 b2 numbers8 false q7 f7 f7_1 f7_2 f7_3 f7_3l f7_3c w))
def V128.vc (B : Nat) (R : Value → World → Prop) (m0 : Addr) (kind1 b2 : Int) (w : World) : Prop :=
  ∃ (A13 : Option Addr) (A13l A13c : Nat), w.cell? ((m0.add 1).add 0) = some (.slice A13 A13l A13c) ∧
∃ x17 : Int, w.cell? (m0.add 2) = some (.int .i64 x17) ∧
∃ p18 : Addr, A13 = some p18 ∧ (0 : Int) ≤ x17 ∧ x17 < (A13l : Int) ∧
∃ x19 : Int, w.cell? ((p18.add (x17.toNat * 4)).add 0) = some (.int .i64 x19) ∧
∃ x19_1 : Int, w.cell? ((p18.add (x17.toNat * 4)).add 1) = some (.int .i64 x19_1) ∧
∃ x19_2 : Int, w.cell? ((p18.add (x17.toNat * 4)).add 2) = some (.int .i64 x19_2) ∧
∃ (A19 : Option Addr) (A19l A19c : Nat), w.cell? ((p18.add (x17.toNat * 4)).add 3) = some (.slice A19 A19l A19c) ∧
∀ q7 : Nat, w.heap.size ≤ q7 → w.cell? ((p18.add (x17.toNat * 4)).add 0) = some (.int .i64 x19) ∧ w.cell? ((p18.add (x17.toNat * 4)).add 1) = some (.int .i64 x19_1) ∧ w.cell? ((p18.add (x17.toNat * 4)).add 2) = some (.int .i64 x19_2) ∧ w.cell? ((p18.add (x17.toNat * 4)).add 3) = some (.slice A19 A19l A19c) ∧ w.cell? (m0.add 2) = some (.int .i64 x17) ∧ w.cell? ((m0.add 1).add 0) = some (.slice A13 A13l A13c) ∧
if (kind1 == 0) = true
  then (∃ x32 : Int, w.cell? (m0.add 4) = some (.int .i64 x32) ∧
  V128.b0 B R m0 kind1 b2 (IntKind.wrap .i64 (x19_1 - x19_2)) (decide (x32 < 8)) q7 x19 x19_1 x19_2 A19 A19l A19c w)
  else (V128.b0 B R m0 kind1 b2 (IntKind.wrap .i64 (x19_1 - x19_2)) false q7 x19 x19_1 x19_2 A19 A19l A19c w)
noncomputable def V128.cfg (B : Nat) : Cfg := ⟨Try.prog, ⟨227, B⟩, [], hasN [115, 116], hasN []⟩
noncomputable def V128.code : Code := (Try.f128.body).getD .skip
noncomputable def V128.cuts (B : Nat) (R : Value → World → Prop) : Nat → Cut := nthC [⟨[(0, .one (.ptr)), (1, .one (.int .i64)), (2, .one (.int .i64)), (8, .one (.int .i64)), (25, .one (.bool))], [(7, 29, [.int .i64, .int .i64, .int .i64, .slice])], fun fs vs bs w => V128.b0 B R (pV (nthV vs 0)) (iV (nthV vs 1)) (iV (nthV vs 2)) (iV (nthV vs 3)) (bV (nthV vs 4)) (nthB bs 0).blk (iV (nthV (nthB bs 0).cells 0)) (iV (nthV (nthB bs 0).cells 1)) (iV (nthV (nthB bs 0).cells 2)) (slA (nthV (nthB bs 0).cells 3)) (slL (nthV (nthB bs 0).cells 3)) (slC (nthV (nthB bs 0).cells 3)) w⟩,
  ⟨[(0, .one (.ptr)), (1, .one (.int .i64)), (2, .one (.int .i64)), (8, .one (.int .i64)), (39, .one (.bool))], [(7, 29, [.int .i64, .int .i64, .int .i64, .slice])], fun fs vs bs w => V128.b1 B R (pV (nthV vs 0)) (iV (nthV vs 1)) (iV (nthV vs 2)) (iV (nthV vs 3)) (bV (nthV vs 4)) (nthB bs 0).blk (iV (nthV (nthB bs 0).cells 0)) (iV (nthV (nthB bs 0).cells 1)) (iV (nthV (nthB bs 0).cells 2)) (slA (nthV (nthB bs 0).cells 3)) (slL (nthV (nthB bs 0).cells 3)) (slC (nthV (nthB bs 0).cells 3)) w⟩,
  ⟨[(0, .one (.ptr)), (1, .one (.int .i64)), (2, .one (.int .i64)), (8, .one (.int .i64)), (53, .one (.bool))], [(7, 29, [.int .i64, .int .i64, .int .i64, .slice])], fun fs vs bs w => V128.b2 B R (pV (nthV vs 0)) (iV (nthV vs 1)) (iV (nthV vs 2)) (iV (nthV vs 3)) (bV (nthV vs 4)) (nthB bs 0).blk (iV (nthV (nthB bs 0).cells 0)) (iV (nthV (nthB bs 0).cells 1)) (iV (nthV (nthB bs 0).cells 2)) (slA (nthV (nthB bs 0).cells 3)) (slL (nthV (nthB bs 0).cells 3)) (slC (nthV (nthB bs 0).cells 3)) w⟩,
  ⟨[(0, .one (.ptr)), (1, .one (.int .i64)), (2, .one (.int .i64)), (8, .one (.int .i64)), (72, .one (.bool))], [(7, 29, [.int .i64, .int .i64, .int .i64, .slice])], fun fs vs bs w => V128.b3 B R (pV (nthV vs 0)) (iV (nthV vs 1)) (iV (nthV vs 2)) (iV (nthV vs 3)) (bV (nthV vs 4)) (nthB bs 0).blk (iV (nthV (nthB bs 0).cells 0)) (iV (nthV (nthB bs 0).cells 1)) (iV (nthV (nthB bs 0).cells 2)) (slA (nthV (nthB bs 0).cells 3)) (slL (nthV (nthB bs 0).cells 3)) (slC (nthV (nthB bs 0).cells 3)) w⟩,
  ⟨[(0, .one (.ptr)), (1, .one (.int .i64)), (2, .one (.int .i64)), (91, .one (.bool))], [(7, 29, [.int .i64, .int .i64, .int .i64, .slice])], fun fs vs bs w => V128.b4 B R (pV (nthV vs 0)) (iV (nthV vs 1)) (iV (nthV vs 2)) (bV (nthV vs 3)) (nthB bs 0).blk (iV (nthV (nthB bs 0).cells 0)) (iV (nthV (nthB bs 0).cells 1)) (iV (nthV (nthB bs 0).cells 2)) (slA (nthV (nthB bs 0).cells 3)) (slL (nthV (nthB bs 0).cells 3)) (slC (nthV (nthB bs 0).cells 3)) w⟩,
  ⟨[(0, .one (.ptr)), (1, .one (.int .i64)), (2, .one (.int .i64)), (112, .one (.bool))], [(7, 29, [.int .i64, .int .i64, .int .i64, .slice])], fun fs vs bs w => V128.b5 B R (pV (nthV vs 0)) (iV (nthV vs 1)) (iV (nthV vs 2)) (bV (nthV vs 3)) (nthB bs 0).blk (iV (nthV (nthB bs 0).cells 0)) (iV (nthV (nthB bs 0).cells 1)) (iV (nthV (nthB bs 0).cells 2)) (slA (nthV (nthB bs 0).cells 3)) (slL (nthV (nthB bs 0).cells 3)) (slC (nthV (nthB bs 0).cells 3)) w⟩,
  ⟨[(0, .one (.ptr)), (1, .one (.int .i64)), (2, .one (.int .i64)), (127, .one (.bool))], [(7, 29, [.int .i64, .int .i64, .int .i64, .slice])], fun fs vs bs w => V128.b6 B R (pV (nthV vs 0)) (iV (nthV vs 1)) (iV (nthV vs 2)) (bV (nthV vs 3)) (nthB bs 0).blk (iV (nthV (nthB bs 0).cells 0)) (iV (nthV (nthB bs 0).cells 1)) (iV (nthV (nthB bs 0).cells 2)) (slA (nthV (nthB bs 0).cells 3)) (slL (nthV (nthB bs 0).cells 3)) (slC (nthV (nthB bs 0).cells 3)) w⟩,
  ⟨[(0, .one (.ptr)), (1, .one (.int .i64)), (2, .one (.int .i64)), (139, .one (.bool))], [(7, 29, [.int .i64, .int .i64, .int .i64, .slice])], fun fs vs bs w => V128.b7 B R (pV (nthV vs 0)) (iV (nthV vs 1)) (iV (nthV vs 2)) (bV (nthV vs 3)) (nthB bs 0).blk (iV (nthV (nthB bs 0).cells 0)) (iV (nthV (nthB bs 0).cells 1)) (iV (nthV (nthB bs 0).cells 2)) (slA (nthV (nthB bs 0).cells 3)) (slL (nthV (nthB bs 0).cells 3)) (slC (nthV (nthB bs 0).cells 3)) w⟩,
  ⟨[(0, .one (.ptr)), (1, .one (.int .i64)), (2, .one (.int .i64)), (156, .one (.bool))], [(7, 29, [.int .i64, .int .i64, .int .i64, .slice])], fun fs vs bs w => V128.b8 B R (pV (nthV vs 0)) (iV (nthV vs 1)) (iV (nthV vs 2)) (bV (nthV vs 3)) (nthB bs 0).blk (iV (nthV (nthB bs 0).cells 0)) (iV (nthV (nthB bs 0).cells 1)) (iV (nthV (nthB bs 0).cells 2)) (slA (nthV (nthB bs 0).cells 3)) (slL (nthV (nthB bs 0).cells 3)) (slC (nthV (nthB bs 0).cells 3)) w⟩,
  ⟨[(0, .one (.ptr)), (1, .one (.int .i64)), (2, .one (.int .i64)), (169, .one (.bool))], [(7, 29, [.int .i64, .int .i64, .int .i64, .slice])], fun fs vs bs w => V128.b9 B R (pV (nthV vs 0)) (iV (nthV vs 1)) (iV (nthV vs 2)) (bV (nthV vs 3)) (nthB bs 0).blk (iV (nthV (nthB bs 0).cells 0)) (iV (nthV (nthB bs 0).cells 1)) (iV (nthV (nthB bs 0).cells 2)) (slA (nthV (nthB bs 0).cells 3)) (slL (nthV (nthB bs 0).cells 3)) (slC (nthV (nthB bs 0).cells 3)) w⟩,
  ⟨[(0, .one (.ptr)), (1, .one (.int .i64)), (209, .one (.bool))], [], fun fs vs bs w => V128.b10 B R (pV (nthV vs 0)) (iV (nthV vs 1)) (bV (nthV vs 2)) w⟩]
noncomputable def V128.h : H := .s (.z) (.s (.r [[0, 1, 2, 3, 4, 5, 6, 7, 8, 9, 10, 11, 12]]) (.s (.z) (.s (.b (.cut 0 (.z) (.c (.z) (.cut 1 (.z) (.c (.z) (.cut 2 (.z) (.c (.z) (.cut 3 (.z) (.c (.z) (.cut 4 (.z) (.c (.z) (.cut 5 (.z) (.c (.z) (.cut 6 (.z) (.c (.z) (.cut 7 (.z) (.c (.z) (.cut 8 (.z) (.c (.z) (.cut 9 (.z) (.c (.s (.z) (.b (.s (.z) (.c (.z) (.s (.z) (.c (.r [[0, 1, 2, 3, 4, 5, 6, 7, 8, 9, 10, 11]]) (.z))))))) (.cut 10 (.z) (.c (.z) (.s (.z) (.c (.z) (.s (.z) (.z))))))))))))))))))))))))))) (.s (.z) (.z)))))
theorem V128.vc_eq (B : Nat) (R : Value → World → Prop) (m0 : Addr) (kind1 b2 : Int) (w : World) : wpf (V128.cfg B) (V128.cuts B R) V128.code V128.h [] (postOf Try.prog B (Try.f128.results.toList) R) (argE 0 [.pointer (some m0), .int .i64 kind1, .int .i64 b2]) [] w = V128.vc B R m0 kind1 b2 w := by kernel_rfl
theorem V128.obl (B : Nat) (R : Value → World → Prop) : oblP (V128.cfg B) (V128.cuts B R) V128.code V128.h [] (postOf Try.prog B (Try.f128.results.toList) R) := by
  have e : oblP (V128.cfg B) (V128.cuts B R) V128.code V128.h [] (postOf Try.prog B (Try.f128.results.toList) R) = (True ∧ ((true = true) ∧ (True ∧ ((True ∧ (∀ (m0 : Addr) (kind1 b2 numbers8 : Int) (b25 : Bool) (q7 : Nat) (f7 f7_1 f7_2 : Int) (f7_3 : Option Addr) (f7_3l f7_3c : Nat) (w : World), V128.b0 B R m0 kind1 b2 numbers8 b25 q7 f7 f7_1 f7_2 f7_3 f7_3l f7_3c w → V128.b0 B R m0 kind1 b2 numbers8 b25 q7 f7 f7_1 f7_2 f7_3 f7_3l f7_3c w) ∧ (True ∧ (True ∧ (∀ (m0 : Addr) (kind1 b2 numbers8 : Int) (b39 : Bool) (q7 : Nat) (f7 f7_1 f7_2 : Int) (f7_3 : Option Addr) (f7_3l f7_3c : Nat) (w : World), V128.b1 B R m0 kind1 b2 numbers8 b39 q7 f7 f7_1 f7_2 f7_3 f7_3l f7_3c w → V128.b1 B R m0 kind1 b2 numbers8 b39 q7 f7 f7_1 f7_2 f7_3 f7_3l f7_3c w) ∧ (True ∧ (True ∧ (∀ (m0 : Addr) (kind1 b2 numbers8 : Int) (b53 : Bool) (q7 : Nat) (f7 f7_1 f7_2 : Int) (f7_3 : Option Addr) (f7_3l f7_3c : Nat) (w : World), V128.b2 B R m0 kind1 b2 numbers8 b53 q7 f7 f7_1 f7_2 f7_3 f7_3l f7_3c w → V128.b2 B R m0 kind1 b2 numbers8 b53 q7 f7 f7_1 f7_2 f7_3 f7_3l f7_3c w) ∧ (True ∧ (True ∧ (∀ (m0 : Addr) (kind1 b2 numbers8 : Int) (b72 : Bool) (q7 : Nat) (f7 f7_1 f7_2 : Int) (f7_3 : Option Addr) (f7_3l f7_3c : Nat) (w : World), V128.b3 B R m0 kind1 b2 numbers8 b72 q7 f7 f7_1 f7_2 f7_3 f7_3l f7_3c w → V128.b3 B R m0 kind1 b2 numbers8 b72 q7 f7 f7_1 f7_2 f7_3 f7_3l f7_3c w) ∧ (True ∧ (True ∧ (∀ (m0 : Addr) (kind1 b2 : Int) (b91 : Bool) (q7 : Nat) (f7 f7_1 f7_2 : Int) (f7_3 : Option Addr) (f7_3l f7_3c : Nat) (w : World), V128.b4 B R m0 kind1 b2 b91 q7 f7 f7_1 f7_2 f7_3 f7_3l f7_3c w → V128.b4 B R m0 kind1 b2 b91 q7 f7 f7_1 f7_2 f7_3 f7_3l f7_3c w) ∧ (True ∧ (True ∧ (∀ (m0 : Addr) (kind1 b2 : Int) (b112 : Bool) (q7 : Nat) (f7 f7_1 f7_2 : Int) (f7_3 : Option Addr) (f7_3l f7_3c : Nat) (w : World), V128.b5 B R m0 kind1 b2 b112 q7 f7 f7_1 f7_2 f7_3 f7_3l f7_3c w → V128.b5 B R m0 kind1 b2 b112 q7 f7 f7_1 f7_2 f7_3 f7_3l f7_3c w) ∧ (True ∧ (True ∧ (∀ (m0 : Addr) (kind1 b2 : Int) (b127 : Bool) (q7 : Nat) (f7 f7_1 f7_2 : Int) (f7_3 : Option Addr) (f7_3l f7_3c : Nat) (w : World), V128.b6 B R m0 kind1 b2 b127 q7 f7 f7_1 f7_2 f7_3 f7_3l f7_3c w → V128.b6 B R m0 kind1 b2 b127 q7 f7 f7_1 f7_2 f7_3 f7_3l f7_3c w) ∧ (True ∧ (True ∧ (∀ (m0 : Addr) (kind1 b2 : Int) (b139 : Bool) (q7 : Nat) (f7 f7_1 f7_2 : Int) (f7_3 : Option Addr) (f7_3l f7_3c : Nat) (w : World), V128.b7 B R m0 kind1 b2 b139 q7 f7 f7_1 f7_2 f7_3 f7_3l f7_3c w → V128.b7 B R m0 kind1 b2 b139 q7 f7 f7_1 f7_2 f7_3 f7_3l f7_3c w) ∧ (True ∧ (True ∧ (∀ (m0 : Addr) (kind1 b2 : Int) (b156 : Bool) (q7 : Nat) (f7 f7_1 f7_2 : Int) (f7_3 : Option Addr) (f7_3l f7_3c : Nat) (w : World), V128.b8 B R m0 kind1 b2 b156 q7 f7 f7_1 f7_2 f7_3 f7_3l f7_3c w → V128.b8 B R m0 kind1 b2 b156 q7 f7 f7_1 f7_2 f7_3 f7_3l f7_3c w) ∧ (True ∧ (True ∧ (∀ (m0 : Addr) (kind1 b2 : Int) (b169 : Bool) (q7 : Nat) (f7 f7_1 f7_2 : Int) (f7_3 : Option Addr) (f7_3l f7_3c : Nat) (w : World), V128.b9 B R m0 kind1 b2 b169 q7 f7 f7_1 f7_2 f7_3 f7_3l f7_3c w → V128.b9 B R m0 kind1 b2 b169 q7 f7 f7_1 f7_2 f7_3 f7_3l f7_3c w) ∧ ((True ∧ (True ∧ (True ∧ (True ∧ ((true = true) ∧ True))))) ∧ (True ∧ (∀ (m0 : Addr) (kind1 : Int) (b209 : Bool) (w : World), V128.b10 B R m0 kind1 b209 w → V128.b10 B R m0 kind1 b209 w) ∧ (True ∧ (True ∧ (True ∧ (True ∧ True))))))))))))))))))))))))) ∧ (True ∧ True))))) := by kernel_rfl
  rw [e]
  exact ⟨trivial, ⟨rfl, ⟨trivial, ⟨⟨trivial, fun m0 kind1 b2 numbers8 b25 q7 f7 f7_1 f7_2 f7_3 f7_3l f7_3c w h => h, ⟨trivial, ⟨trivial, fun m0 kind1 b2 numbers8 b39 q7 f7 f7_1 f7_2 f7_3 f7_3l f7_3c w h => h, ⟨trivial, ⟨trivial, fun m0 kind1 b2 numbers8 b53 q7 f7 f7_1 f7_2 f7_3 f7_3l f7_3c w h => h, ⟨trivial, ⟨trivial, fun m0 kind1 b2 numbers8 b72 q7 f7 f7_1 f7_2 f7_3 f7_3l f7_3c w h => h, ⟨trivial, ⟨trivial, fun m0 kind1 b2 b91 q7 f7 f7_1 f7_2 f7_3 f7_3l f7_3c w h => h, ⟨trivial, ⟨trivial, fun m0 kind1 b2 b112 q7 f7 f7_1 f7_2 f7_3 f7_3l f7_3c w h => h, ⟨trivial, ⟨trivial, fun m0 kind1 b2 b127 q7 f7 f7_1 f7_2 f7_3 f7_3l f7_3c w h => h, ⟨trivial, ⟨trivial, fun m0 kind1 b2 b139 q7 f7 f7_1 f7_2 f7_3 f7_3l f7_3c w h => h, ⟨trivial, ⟨trivial, fun m0 kind1 b2 b156 q7 f7 f7_1 f7_2 f7_3 f7_3l f7_3c w h => h, ⟨trivial, ⟨trivial, fun m0 kind1 b2 b169 q7 f7 f7_1 f7_2 f7_3 f7_3l f7_3c w h => h, ⟨⟨trivial, ⟨trivial, ⟨trivial, ⟨trivial, ⟨rfl, trivial⟩⟩⟩⟩⟩, ⟨trivial, fun m0 kind1 b209 w h => h, ⟨trivial, ⟨trivial, ⟨trivial, ⟨trivial, trivial⟩⟩⟩⟩⟩⟩⟩⟩⟩⟩⟩⟩⟩⟩⟩⟩⟩⟩⟩⟩⟩⟩⟩⟩⟩, ⟨trivial, trivial⟩⟩⟩⟩⟩
theorem V128.cfgOk (B : Nat) : CfgOk (V128.cfg B) := cfgOk_of (by kernel_rfl) (by kernel_rfl)
theorem V128.sound {m0 : Addr} {kind1 b2 : Int} {w : World} {R : Value → World → Prop} (h : V128.vc w.heap.size R m0 kind1 b2 w) : Calls Try.prog 128 ⟨[.pointer (some m0), .int .i64 kind1, .int .i64 b2]⟩ w fun e w' => ∃ v, e = .returned v ∧ R v w' :=
  calls_wpfP (c := V128.cfg w.heap.size) (fn := Try.f128) (x := V128.code) (V128.cuts w.heap.size R) V128.h (V128.cfgOk _) mixed Try.func128 (by kernel_rfl) (by kernel_rfl) (by kernel_rfl) rfl (V128.obl _ _) ((V128.vc_eq _ _ m0 kind1 b2 _).symm ▸ h)
end Go.Proofs.Ytlccbaemcfjdoaa
