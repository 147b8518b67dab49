/-
  What the engine makes of the loaded functions 41, 46, 57, 68, 70, 92, 93, 94, 95, 102, 103, 104, 105, 124: conditions under which a call returns as told, and proofs of that.
  Conditions: none. Printed by a program of this project.
-/
import Derived.Test.YtlccbaemcfjdoaaEngC
import Derived.Test.YtlccbaemcfjdoaaProg
set_option linter.unusedVariables false
set_option maxRecDepth 100000
namespace Go.Proofs.Ytlccbaemcfjdoaa
theorem mixed : Try.prog.follows .mixedOrders = true := by kernel_rfl

/-! function 41 -/
def V41.l1 (B : Nat) (R : Value → World → Prop) : Nat → Option Addr → Nat → Nat → Addr → Option Addr → Nat → Nat → Int → World → Prop
  | 0 => fun _ _ _ _ _ _ _ _ _ => False
  | k + 1 => fun ws1 ws1l ws1c a6 m7 m7l m7c i8 w =>
    if (decide (i8 < (ws1l : Int))) = true
    then (if (decide (i8 < (m7l : Int))) = true
     then (∃ p39 : Addr, ws1 = some p39 ∧ (0 : Int) ≤ i8 ∧ i8 < (ws1l : Int) ∧
     ∃ x40 : Int, w.cell? (p39.add i8.toNat) = some (.int .u64 x40) ∧
     ∃ p41 : Addr, m7 = some p41 ∧ (0 : Int) ≤ i8 ∧ i8 < (m7l : Int) ∧
     (∃ u, w.cell? ((p41.add i8.toNat).add 0) = some u) ∧ w.frozen? ((p41.add i8.toNat).add 0) = false ∧
     let w_1 := w.setCell ((p41.add i8.toNat).add 0) (.int .u64 x40);
     ∃ p46 : Addr, ws1 = some p46 ∧ (0 : Int) ≤ i8 ∧ i8 < (ws1l : Int) ∧
     ∃ x47 : Int, w_1.cell? (p46.add i8.toNat) = some (.int .u64 x47) ∧
     CallK Try.prog 70 [.pointer (some a6), .int .i64 i8, .int .u64 x47] B w_1 [] fun v w_2 => 
      ∃ x48 : Int, v = .int .i64 x48 ∧
      if (x48 != 0) = true
      then (Ret B w_2 (R (.tuple ⟨[.pointer none, .slice none 0 0]⟩)))
      else ((V41.l1 B R k) ws1 ws1l ws1c a6 m7 m7l m7c (IntKind.wrap .i64 (i8 + 1)) w_2))
     else (Ret B w (R (.tuple ⟨[.pointer (some a6), .slice m7 m7l m7c]⟩))))
    else (Ret B w (R (.tuple ⟨[.pointer (some a6), .slice m7 m7l m7c]⟩)))
def V41.b0 (B : Nat) (R : Value → World → Prop) (pages0 : Int) (ws1 : Option Addr) (ws1l ws1c : Nat) (a6 : Addr) (w : World) : Prop :=
  CallK Try.prog 93 [.pointer (some a6)] B w [] fun v w_1 => 
  ∃ x15 : Int, v = .int .i64 x15 ∧
  if (x15 != IntKind.wrap .i64 (pages0 * 64)) = true
  then (Ret B w_1 (R (.tuple ⟨[.pointer none, .slice none 0 0]⟩)))
  else (RunK Try.prog (Instr.makeSlice 50 (.int .i64 (IntKind.wrap .i64 (pages0 * 64))) (.int .i64 (IntKind.wrap .i64 (pages0 * 64)))) B w_1 [] fun v_1 w_2 => 
   ∃ (A22 : Option Addr) (A22l A22c : Nat), v_1 = .slice A22 A22l A22c ∧
   ∃ k_1, V41.l1 B R k_1 ws1 ws1l ws1c a6 A22 A22l A22c 0 w_2)
def V41.vc (B : Nat) (R : Value → World → Prop) (pages0 : Int) (ws1 : Option Addr) (ws1l ws1c : Nat) (w : World) : Prop :=
  CallK Try.prog 92 [.int .i64 pages0] B w [] fun v w_1 => 
  ∃ op10 : Option Addr, v = .pointer op10 ∧
  caseP op10
  (False)
  (fun p10 => V41.b0 B R pages0 ws1 ws1l ws1c p10 w_1)
noncomputable def V41.cfg (B : Nat) : Cfg := ⟨Try.prog, ⟨52, B⟩, [], hasN [70, 92, 93], hasN []⟩
noncomputable def V41.code : Code := (Try.f41.body).getD .skip
noncomputable def V41.cuts (B : Nat) (R : Value → World → Prop) : Nat → Cut := nthC [⟨[(0, .one (.int .i64)), (1, .one (.slice)), (6, .one (.ptr))], [], fun fs vs bs w => V41.b0 B R (iV (nthV vs 0)) (slA (nthV vs 1)) (slL (nthV vs 1)) (slC (nthV vs 1)) (pV (nthV vs 2)) w⟩,
  ⟨[(1, .one (.slice)), (6, .one (.ptr)), (7, .one (.slice)), (8, .one (.int .i64))], [], fun fs vs bs w => V41.l1 B R (nthN fs 0) (slA (nthV vs 0)) (slL (nthV vs 0)) (slC (nthV vs 0)) (pV (nthV vs 1)) (slA (nthV vs 2)) (slL (nthV vs 2)) (slC (nthV vs 2)) (iV (nthV vs 3)) w⟩]
noncomputable def V41.h : H := .s (.z) (.cut 0 (.z) (.s (.s (.z) (.c (.s (.z) (.z)) (.z))) (.s (.z) (.s (.s (.z) (.b (.l 1 (.s (.s (.z) (.c (.z) (.z))) (.s (.b (.s (.z) (.s (.z) (.c (.s (.z) (.z)) (.z))))) (.z)))))) (.s (.z) (.z))))))
theorem V41.vc_eq (B : Nat) (R : Value → World → Prop) (pages0 : Int) (ws1 : Option Addr) (ws1l ws1c : Nat) (w : World) : wpf (V41.cfg B) (V41.cuts B R) V41.code V41.h [] (postOf Try.prog B (Try.f41.results.toList) R) (argE 0 [.int .i64 pages0, .slice ws1 ws1l ws1c]) [] w = V41.vc B R pages0 ws1 ws1l ws1c w := by kernel_rfl
theorem V41.obl (B : Nat) (R : Value → World → Prop) : oblP (V41.cfg B) (V41.cuts B R) V41.code V41.h [] (postOf Try.prog B (Try.f41.results.toList) R) := by
  have e : oblP (V41.cfg B) (V41.cuts B R) V41.code V41.h [] (postOf Try.prog B (Try.f41.results.toList) R) = (True ∧ (True ∧ (∀ (pages0 : Int) (ws1 : Option Addr) (ws1l ws1c : Nat) (a6 : Addr) (w : World), V41.b0 B R pages0 ws1 ws1l ws1c a6 w → V41.b0 B R pages0 ws1 ws1l ws1c a6 w) ∧ ((True ∧ ((True ∧ True) ∧ True)) ∧ (True ∧ ((True ∧ ((∀ (ws1 : Option Addr) (ws1l ws1c : Nat) (a6 : Addr) (m7 : Option Addr) (m7l m7c : Nat) (i8 : Int) (w : World), ¬ V41.l1 B R 0 ws1 ws1l ws1c a6 m7 m7l m7c i8 w) ∧ (∀ k1, ∀ (ws1 : Option Addr) (ws1l ws1c : Nat) (a6 : Addr) (m7 : Option Addr) (m7l m7c : Nat) (i8 : Int) (w : World), V41.l1 B R (k1 + 1) ws1 ws1l ws1c a6 m7 m7l m7c i8 w → V41.l1 B R (k1 + 1) ws1 ws1l ws1c a6 m7 m7l m7c i8 w) ∧ ∀ k1 : Nat, ((True ∧ (True ∧ True)) ∧ ((True ∧ (True ∧ ((True ∧ True) ∧ True))) ∧ True)))) ∧ (True ∧ True)))))) := by kernel_rfl
  rw [e]
  exact ⟨trivial, ⟨trivial, fun pages0 ws1 ws1l ws1c a6 w h => h, ⟨⟨trivial, ⟨⟨trivial, trivial⟩, trivial⟩⟩, ⟨trivial, ⟨⟨trivial, ⟨fun ws1 ws1l ws1c a6 m7 m7l m7c i8 w h => h, fun _ ws1 ws1l ws1c a6 m7 m7l m7c i8 w h => h, fun k1 => ⟨⟨trivial, ⟨trivial, trivial⟩⟩, ⟨⟨trivial, ⟨trivial, ⟨⟨trivial, trivial⟩, trivial⟩⟩⟩, trivial⟩⟩⟩⟩, ⟨trivial, trivial⟩⟩⟩⟩⟩⟩
theorem V41.cfgOk (B : Nat) : CfgOk (V41.cfg B) := cfgOk_of (by kernel_rfl) (by kernel_rfl)
theorem V41.sound {pages0 : Int} {ws1 : Option Addr} {ws1l ws1c : Nat} {w : World} {R : Value → World → Prop} (h : V41.vc w.heap.size R pages0 ws1 ws1l ws1c w) : Calls Try.prog 41 ⟨[.int .i64 pages0, .slice ws1 ws1l ws1c]⟩ w fun e w' => ∃ v, e = .returned v ∧ R v w' :=
  calls_wpfP (c := V41.cfg w.heap.size) (fn := Try.f41) (x := V41.code) (V41.cuts w.heap.size R) V41.h (V41.cfgOk _) mixed Try.func41 (by kernel_rfl) (by kernel_rfl) (by kernel_rfl) rfl (V41.obl _ _) ((V41.vc_eq _ _ pages0 ws1 ws1l ws1c _).symm ▸ h)

/-! function 46 -/
def V46.vc (B : Nat) (R : Value → World → Prop) (a0 : Addr) (m1 : Option Addr) (m1l m1c : Nat) (w : World) : Prop :=
  CallK Try.prog 94 [.pointer (some a0), .int .i64 0, .int .i64 (m1l : Int)] B w [] fun v w_1 => 
  ∃ (A11 : Option Addr) (A11l A11c : Nat) (x11 : Int), v = .tuple ⟨[.slice A11 A11l A11c, .int .i64 x11]⟩ ∧
  CallK Try.prog 93 [.pointer (some a0)] B w_1 [] fun v_1 w_2 => 
  ∃ x15 : Int, v_1 = .int .i64 x15 ∧
  if (x15 == (m1l : Int)) = true
  then (if (x11 == 0) = true
   then (CallK Try.prog 68 [.slice A11 A11l A11c, .slice m1 m1l m1c] B w_2 [] fun v_2 w_3 => 
    ∃ b26 : Bool, v_2 = .bool b26 ∧
    Ret B w_3 (R (.bool b26)))
   else (Ret B w_2 (R (.bool false))))
  else (Ret B w_2 (R (.bool false)))
noncomputable def V46.cfg (B : Nat) : Cfg := ⟨Try.prog, ⟨28, B⟩, [], hasN [68, 93, 94], hasN []⟩
noncomputable def V46.code : Code := (Try.f46.body).getD .skip
noncomputable def V46.cuts (B : Nat) (R : Value → World → Prop) : Nat → Cut := nthC []
noncomputable def V46.h : H := .s (.z) (.s (.z) (.s (.z) (.z)))
theorem V46.vc_eq (B : Nat) (R : Value → World → Prop) (a0 : Addr) (m1 : Option Addr) (m1l m1c : Nat) (w : World) : wpf (V46.cfg B) (V46.cuts B R) V46.code V46.h [] (postOf Try.prog B (Try.f46.results.toList) R) (argE 0 [.pointer (some a0), .slice m1 m1l m1c]) [] w = V46.vc B R a0 m1 m1l m1c w := by kernel_rfl
theorem V46.obl (B : Nat) (R : Value → World → Prop) : oblP (V46.cfg B) (V46.cuts B R) V46.code V46.h [] (postOf Try.prog B (Try.f46.results.toList) R) := by
  have e : oblP (V46.cfg B) (V46.cuts B R) V46.code V46.h [] (postOf Try.prog B (Try.f46.results.toList) R) = (True ∧ (True ∧ (True ∧ True))) := by kernel_rfl
  rw [e]
  exact ⟨trivial, ⟨trivial, ⟨trivial, trivial⟩⟩⟩
theorem V46.cfgOk (B : Nat) : CfgOk (V46.cfg B) := cfgOk_of (by kernel_rfl) (by kernel_rfl)
theorem V46.sound {a0 : Addr} {m1 : Option Addr} {m1l m1c : Nat} {w : World} {R : Value → World → Prop} (h : V46.vc w.heap.size R a0 m1 m1l m1c w) : Calls Try.prog 46 ⟨[.pointer (some a0), .slice m1 m1l m1c]⟩ w fun e w' => ∃ v, e = .returned v ∧ R v w' :=
  calls_wpfP (c := V46.cfg w.heap.size) (fn := Try.f46) (x := V46.code) (V46.cuts w.heap.size R) V46.h (V46.cfgOk _) mixed Try.func46 (by kernel_rfl) (by kernel_rfl) (by kernel_rfl) rfl (V46.obl _ _) ((V46.vc_eq _ _ a0 m1 m1l m1c _).symm ▸ h)

/-! function 57 -/
def V57.vc (B : Nat) (R : Value → World → Prop) (a0 : Addr) (at1 : Int) (w : World) : Prop :=
  CallK Try.prog 105 [.pointer (some a0), .int .i64 at1, .int .i64 1] B w [] fun v w_1 => 
  ∃ (A11 : Option Addr) (A11l A11c : Nat) (x11 : Int), v = .tuple ⟨[.slice A11 A11l A11c, .int .i64 x11]⟩ ∧
  if (x11 != 0) = true
  then (Ret B w_1 (R (.tuple ⟨[.int .u64 0, .int .i64 x11]⟩)))
  else (∃ p18 : Addr, A11 = some p18 ∧ (0 : Int) ≤ 0 ∧ (0 : Int) < (A11l : Int) ∧
  ∃ x19 : Int, w_1.cell? (p18.add 0) = some (.int .u64 x19) ∧
  Ret B w_1 (R (.tuple ⟨[.int .u64 x19, .int .i64 0]⟩)))
noncomputable def V57.cfg (B : Nat) : Cfg := ⟨Try.prog, ⟨20, B⟩, [], hasN [105], hasN []⟩
noncomputable def V57.code : Code := (Try.f57.body).getD .skip
noncomputable def V57.cuts (B : Nat) (R : Value → World → Prop) : Nat → Cut := nthC []
noncomputable def V57.h : H := .s (.z) (.s (.z) (.s (.s (.z) (.c (.s (.z) (.z)) (.z))) (.s (.z) (.z))))
theorem V57.vc_eq (B : Nat) (R : Value → World → Prop) (a0 : Addr) (at1 : Int) (w : World) : wpf (V57.cfg B) (V57.cuts B R) V57.code V57.h [] (postOf Try.prog B (Try.f57.results.toList) R) (argE 0 [.pointer (some a0), .int .i64 at1]) [] w = V57.vc B R a0 at1 w := by kernel_rfl
theorem V57.obl (B : Nat) (R : Value → World → Prop) : oblP (V57.cfg B) (V57.cuts B R) V57.code V57.h [] (postOf Try.prog B (Try.f57.results.toList) R) := by
  have e : oblP (V57.cfg B) (V57.cuts B R) V57.code V57.h [] (postOf Try.prog B (Try.f57.results.toList) R) = (True ∧ (True ∧ ((True ∧ ((True ∧ True) ∧ True)) ∧ (True ∧ True)))) := by kernel_rfl
  rw [e]
  exact ⟨trivial, ⟨trivial, ⟨⟨trivial, ⟨⟨trivial, trivial⟩, trivial⟩⟩, ⟨trivial, trivial⟩⟩⟩⟩
theorem V57.cfgOk (B : Nat) : CfgOk (V57.cfg B) := cfgOk_of (by kernel_rfl) (by kernel_rfl)
theorem V57.sound {a0 : Addr} {at1 : Int} {w : World} {R : Value → World → Prop} (h : V57.vc w.heap.size R a0 at1 w) : Calls Try.prog 57 ⟨[.pointer (some a0), .int .i64 at1]⟩ w fun e w' => ∃ v, e = .returned v ∧ R v w' :=
  calls_wpfP (c := V57.cfg w.heap.size) (fn := Try.f57) (x := V57.code) (V57.cuts w.heap.size R) V57.h (V57.cfgOk _) mixed Try.func57 (by kernel_rfl) (by kernel_rfl) (by kernel_rfl) rfl (V57.obl _ _) ((V57.vc_eq _ _ a0 at1 _).symm ▸ h)

/-! function 68 -/
def V68.l0 (B : Nat) (R : Value → World → Prop) : Nat → Option Addr → Nat → Nat → Option Addr → Nat → Nat → Int → World → Prop
  | 0 => fun _ _ _ _ _ _ _ _ => False
  | k + 1 => fun a0 a0l a0c b1 b1l b1c i5 w =>
    if (decide (i5 < (a0l : Int))) = true
    then (∃ p19 : Addr, a0 = some p19 ∧ (0 : Int) ≤ i5 ∧ i5 < (a0l : Int) ∧
    ∃ x20 : Int, w.cell? (p19.add i5.toNat) = some (.int .u64 x20) ∧
    ∃ p23 : Addr, b1 = some p23 ∧ (0 : Int) ≤ i5 ∧ i5 < (b1l : Int) ∧
    ∃ x24 : Int, w.cell? (p23.add i5.toNat) = some (.int .u64 x24) ∧
    if (x20 != x24) = true
     then (Ret B w (R (.bool false)))
     else ((V68.l0 B R k) a0 a0l a0c b1 b1l b1c (IntKind.wrap .i64 (i5 + 1)) w))
    else (Ret B w (R (.bool true)))
def V68.vc (B : Nat) (R : Value → World → Prop) (a0 : Option Addr) (a0l a0c : Nat) (b1 : Option Addr) (b1l b1c : Nat) (w : World) : Prop :=
  if ((a0l : Int) != (b1l : Int)) = true
  then (Ret B w (R (.bool false)))
  else (∃ k_1, V68.l0 B R k_1 a0 a0l a0c b1 b1l b1c 0 w)
noncomputable def V68.cfg (B : Nat) : Cfg := ⟨Try.prog, ⟨26, B⟩, [], hasN [], hasN []⟩
noncomputable def V68.code : Code := (Try.f68.body).getD .skip
noncomputable def V68.cuts (B : Nat) (R : Value → World → Prop) : Nat → Cut := nthC [⟨[(0, .one (.slice)), (1, .one (.slice)), (5, .one (.int .i64))], [], fun fs vs bs w => V68.l0 B R (nthN fs 0) (slA (nthV vs 0)) (slL (nthV vs 0)) (slC (nthV vs 0)) (slA (nthV vs 1)) (slL (nthV vs 1)) (slC (nthV vs 1)) (iV (nthV vs 2)) w⟩]
noncomputable def V68.h : H := .s (.z) (.s (.s (.z) (.c (.s (.z) (.z)) (.z))) (.s (.s (.z) (.b (.l 0 (.s (.s (.z) (.c (.z) (.z))) (.s (.b (.s (.r [[0, 1, 2, 3, 4, 5, 6, 7, 8]]) (.c (.s (.z) (.z)) (.z)))) (.z)))))) (.s (.z) (.z))))
theorem V68.vc_eq (B : Nat) (R : Value → World → Prop) (a0 : Option Addr) (a0l a0c : Nat) (b1 : Option Addr) (b1l b1c : Nat) (w : World) : wpf (V68.cfg B) (V68.cuts B R) V68.code V68.h [] (postOf Try.prog B (Try.f68.results.toList) R) (argE 0 [.slice a0 a0l a0c, .slice b1 b1l b1c]) [] w = V68.vc B R a0 a0l a0c b1 b1l b1c w := by kernel_rfl
theorem V68.obl (B : Nat) (R : Value → World → Prop) : oblP (V68.cfg B) (V68.cuts B R) V68.code V68.h [] (postOf Try.prog B (Try.f68.results.toList) R) := by
  have e : oblP (V68.cfg B) (V68.cuts B R) V68.code V68.h [] (postOf Try.prog B (Try.f68.results.toList) R) = (True ∧ ((True ∧ ((True ∧ True) ∧ True)) ∧ ((True ∧ ((∀ (a0 : Option Addr) (a0l a0c : Nat) (b1 : Option Addr) (b1l b1c : Nat) (i5 : Int) (w : World), ¬ V68.l0 B R 0 a0 a0l a0c b1 b1l b1c i5 w) ∧ (∀ k0, ∀ (a0 : Option Addr) (a0l a0c : Nat) (b1 : Option Addr) (b1l b1c : Nat) (i5 : Int) (w : World), V68.l0 B R (k0 + 1) a0 a0l a0c b1 b1l b1c i5 w → V68.l0 B R (k0 + 1) a0 a0l a0c b1 b1l b1c i5 w) ∧ ∀ k0 : Nat, ((True ∧ (True ∧ True)) ∧ (((true = true) ∧ ((True ∧ True) ∧ True)) ∧ True)))) ∧ (True ∧ True)))) := by kernel_rfl
  rw [e]
  exact ⟨trivial, ⟨⟨trivial, ⟨⟨trivial, trivial⟩, trivial⟩⟩, ⟨⟨trivial, ⟨fun a0 a0l a0c b1 b1l b1c i5 w h => h, fun _ a0 a0l a0c b1 b1l b1c i5 w h => h, fun k0 => ⟨⟨trivial, ⟨trivial, trivial⟩⟩, ⟨⟨rfl, ⟨⟨trivial, trivial⟩, trivial⟩⟩, trivial⟩⟩⟩⟩, ⟨trivial, trivial⟩⟩⟩⟩
theorem V68.cfgOk (B : Nat) : CfgOk (V68.cfg B) := cfgOk_of (by kernel_rfl) (by kernel_rfl)
theorem V68.sound {a0 : Option Addr} {a0l a0c : Nat} {b1 : Option Addr} {b1l b1c : Nat} {w : World} {R : Value → World → Prop} (h : V68.vc w.heap.size R a0 a0l a0c b1 b1l b1c w) : Calls Try.prog 68 ⟨[.slice a0 a0l a0c, .slice b1 b1l b1c]⟩ w fun e w' => ∃ v, e = .returned v ∧ R v w' :=
  calls_wpfP (c := V68.cfg w.heap.size) (fn := Try.f68) (x := V68.code) (V68.cuts w.heap.size R) V68.h (V68.cfgOk _) mixed Try.func68 (by kernel_rfl) (by kernel_rfl) (by kernel_rfl) rfl (V68.obl _ _) ((V68.vc_eq _ _ a0 a0l a0c b1 b1l b1c _).symm ▸ h)

/-! function 70 -/
def V70.vc (B : Nat) (R : Value → World → Prop) (a0 : Addr) (at1 w2 : Int) (w : World) : Prop :=
  CallK Try.prog 102 [.pointer (some a0), .int .i64 at1, .int .i64 1, .int .u64 w2] B w [] fun v w_1 => 
  ∃ x10 : Int, v = .int .i64 x10 ∧
  Ret B w_1 (R (.int .i64 x10))
noncomputable def V70.cfg (B : Nat) : Cfg := ⟨Try.prog, ⟨11, B⟩, [], hasN [102], hasN []⟩
noncomputable def V70.code : Code := (Try.f70.body).getD .skip
noncomputable def V70.cuts (B : Nat) (R : Value → World → Prop) : Nat → Cut := nthC []
noncomputable def V70.h : H := .s (.z) (.s (.z) (.z))
theorem V70.vc_eq (B : Nat) (R : Value → World → Prop) (a0 : Addr) (at1 w2 : Int) (w : World) : wpf (V70.cfg B) (V70.cuts B R) V70.code V70.h [] (postOf Try.prog B (Try.f70.results.toList) R) (argE 0 [.pointer (some a0), .int .i64 at1, .int .u64 w2]) [] w = V70.vc B R a0 at1 w2 w := by kernel_rfl
theorem V70.obl (B : Nat) (R : Value → World → Prop) : oblP (V70.cfg B) (V70.cuts B R) V70.code V70.h [] (postOf Try.prog B (Try.f70.results.toList) R) := by
  have e : oblP (V70.cfg B) (V70.cuts B R) V70.code V70.h [] (postOf Try.prog B (Try.f70.results.toList) R) = (True ∧ (True ∧ True)) := by kernel_rfl
  rw [e]
  exact ⟨trivial, ⟨trivial, trivial⟩⟩
theorem V70.cfgOk (B : Nat) : CfgOk (V70.cfg B) := cfgOk_of (by kernel_rfl) (by kernel_rfl)
theorem V70.sound {a0 : Addr} {at1 w2 : Int} {w : World} {R : Value → World → Prop} (h : V70.vc w.heap.size R a0 at1 w2 w) : Calls Try.prog 70 ⟨[.pointer (some a0), .int .i64 at1, .int .u64 w2]⟩ w fun e w' => ∃ v, e = .returned v ∧ R v w' :=
  calls_wpfP (c := V70.cfg w.heap.size) (fn := Try.f70) (x := V70.code) (V70.cuts w.heap.size R) V70.h (V70.cfgOk _) mixed Try.func70 (by kernel_rfl) (by kernel_rfl) (by kernel_rfl) rfl (V70.obl _ _) ((V70.vc_eq _ _ a0 at1 w2 _).symm ▸ h)

/-! function 92 -/
def V92.vc (B : Nat) (R : Value → World → Prop) (pages0 : Int) (w : World) : Prop :=
  if (decide (pages0 < 1)) = false
  then (if (decide (pages0 > 256)) = true
   then (Ret B w (R (.pointer none)))
   else (RunK Try.prog (Instr.makeSlice 50 (.int .i64 (IntKind.wrap .i64 (pages0 * 64))) (.int .i64 (IntKind.wrap .i64 (pages0 * 64)))) B w [] fun v w_1 => 
    ∃ (A11 : Option Addr) (A11l A11c : Nat), v = .slice A11 A11l A11c ∧
    Expo B w_1 [] fun w_2 => 
    let w_3 := w_2.alloc (.cells ⟨[.slice A11 A11l A11c]⟩ 178);
    Ret B w_3 (R (.pointer (some (⟨w_2.heap.size, 0, none⟩))))))
  else (Ret B w (R (.pointer none)))
noncomputable def V92.cfg (B : Nat) : Cfg := ⟨Try.prog, ⟨14, B⟩, [13], hasN [], hasN []⟩
noncomputable def V92.code : Code := (Try.f92.body).getD .skip
noncomputable def V92.cuts (B : Nat) (R : Value → World → Prop) : Nat → Cut := nthC []
noncomputable def V92.h : H := .s (.z) (.s (.s (.z) (.c (.s (.z) (.z)) (.z))) (.s (.z) (.z)))
theorem V92.vc_eq (B : Nat) (R : Value → World → Prop) (pages0 : Int) (w : World) : wpf (V92.cfg B) (V92.cuts B R) V92.code V92.h [] (postOf Try.prog B (Try.f92.results.toList) R) (argE 0 [.int .i64 pages0]) [] w = V92.vc B R pages0 w := by kernel_rfl
theorem V92.obl (B : Nat) (R : Value → World → Prop) : oblP (V92.cfg B) (V92.cuts B R) V92.code V92.h [] (postOf Try.prog B (Try.f92.results.toList) R) := by
  have e : oblP (V92.cfg B) (V92.cuts B R) V92.code V92.h [] (postOf Try.prog B (Try.f92.results.toList) R) = (True ∧ ((True ∧ ((True ∧ True) ∧ True)) ∧ (True ∧ True))) := by kernel_rfl
  rw [e]
  exact ⟨trivial, ⟨⟨trivial, ⟨⟨trivial, trivial⟩, trivial⟩⟩, ⟨trivial, trivial⟩⟩⟩
theorem V92.cfgOk (B : Nat) : CfgOk (V92.cfg B) := cfgOk_of (by kernel_rfl) (by kernel_rfl)
theorem V92.sound {pages0 : Int} {w : World} {R : Value → World → Prop} (h : V92.vc w.heap.size R pages0 w) : Calls Try.prog 92 ⟨[.int .i64 pages0]⟩ w fun e w' => ∃ v, e = .returned v ∧ R v w' :=
  calls_wpfP (c := V92.cfg w.heap.size) (fn := Try.f92) (x := V92.code) (V92.cuts w.heap.size R) V92.h (V92.cfgOk _) mixed Try.func92 (by kernel_rfl) (by kernel_rfl) (by kernel_rfl) rfl (V92.obl _ _) ((V92.vc_eq _ _ pages0 _).symm ▸ h)

/-! function 93 -/
def V93.vc (B : Nat) (R : Value → World → Prop) (a0 : Addr) (w : World) : Prop :=
  ∃ (A8 : Option Addr) (A8l A8c : Nat), w.cell? (a0.add 0) = some (.slice A8 A8l A8c) ∧
Ret B w (R (.int .i64 (A8l : Int)))
noncomputable def V93.cfg (B : Nat) : Cfg := ⟨Try.prog, ⟨10, B⟩, [], hasN [], hasN []⟩
noncomputable def V93.code : Code := (Try.f93.body).getD .skip
noncomputable def V93.cuts (B : Nat) (R : Value → World → Prop) : Nat → Cut := nthC []
noncomputable def V93.h : H := .s (.z) (.s (.s (.z) (.c (.s (.z) (.z)) (.z))) (.s (.z) (.z)))
theorem V93.vc_eq (B : Nat) (R : Value → World → Prop) (a0 : Addr) (w : World) : wpf (V93.cfg B) (V93.cuts B R) V93.code V93.h [] (postOf Try.prog B (Try.f93.results.toList) R) (argE 0 [.pointer (some a0)]) [] w = V93.vc B R a0 w := by kernel_rfl
theorem V93.obl (B : Nat) (R : Value → World → Prop) : oblP (V93.cfg B) (V93.cuts B R) V93.code V93.h [] (postOf Try.prog B (Try.f93.results.toList) R) := by
  have e : oblP (V93.cfg B) (V93.cuts B R) V93.code V93.h [] (postOf Try.prog B (Try.f93.results.toList) R) = (True ∧ ((True ∧ ((True ∧ True) ∧ True)) ∧ (True ∧ True))) := by kernel_rfl
  rw [e]
  exact ⟨trivial, ⟨⟨trivial, ⟨⟨trivial, trivial⟩, trivial⟩⟩, ⟨trivial, trivial⟩⟩⟩
theorem V93.cfgOk (B : Nat) : CfgOk (V93.cfg B) := cfgOk_of (by kernel_rfl) (by kernel_rfl)
theorem V93.sound {a0 : Addr} {w : World} {R : Value → World → Prop} (h : V93.vc w.heap.size R a0 w) : Calls Try.prog 93 ⟨[.pointer (some a0)]⟩ w fun e w' => ∃ v, e = .returned v ∧ R v w' :=
  calls_wpfP (c := V93.cfg w.heap.size) (fn := Try.f93) (x := V93.code) (V93.cuts w.heap.size R) V93.h (V93.cfgOk _) mixed Try.func93 (by kernel_rfl) (by kernel_rfl) (by kernel_rfl) rfl (V93.obl _ _) ((V93.vc_eq _ _ a0 _).symm ▸ h)

/-! function 94 -/
def V94.vc (B : Nat) (R : Value → World → Prop) (a0 : Addr) (at1 n2 : Int) (w : World) : Prop :=
  CallK Try.prog 105 [.pointer (some a0), .int .i64 at1, .int .i64 n2] B w [] fun v w_1 => 
  ∃ (A14 : Option Addr) (A14l A14c : Nat) (x14 : Int), v = .tuple ⟨[.slice A14 A14l A14c, .int .i64 x14]⟩ ∧
  CallK Try.prog 124 [.slice A14 A14l A14c] B w_1 [] fun v_1 w_2 => 
  ∃ (A18 : Option Addr) (A18l A18c : Nat), v_1 = .slice A18 A18l A18c ∧
  Ret B w_2 (R (.tuple ⟨[.slice A18 A18l A18c, .int .i64 x14]⟩))
noncomputable def V94.cfg (B : Nat) : Cfg := ⟨Try.prog, ⟨20, B⟩, [], hasN [105, 124], hasN []⟩
noncomputable def V94.code : Code := (Try.f94.body).getD .skip
noncomputable def V94.cuts (B : Nat) (R : Value → World → Prop) : Nat → Cut := nthC []
noncomputable def V94.h : H := .s (.z) (.s (.z) (.s (.z) (.z)))
theorem V94.vc_eq (B : Nat) (R : Value → World → Prop) (a0 : Addr) (at1 n2 : Int) (w : World) : wpf (V94.cfg B) (V94.cuts B R) V94.code V94.h [] (postOf Try.prog B (Try.f94.results.toList) R) (argE 0 [.pointer (some a0), .int .i64 at1, .int .i64 n2]) [] w = V94.vc B R a0 at1 n2 w := by kernel_rfl
theorem V94.obl (B : Nat) (R : Value → World → Prop) : oblP (V94.cfg B) (V94.cuts B R) V94.code V94.h [] (postOf Try.prog B (Try.f94.results.toList) R) := by
  have e : oblP (V94.cfg B) (V94.cuts B R) V94.code V94.h [] (postOf Try.prog B (Try.f94.results.toList) R) = (True ∧ (True ∧ (True ∧ True))) := by kernel_rfl
  rw [e]
  exact ⟨trivial, ⟨trivial, ⟨trivial, trivial⟩⟩⟩
theorem V94.cfgOk (B : Nat) : CfgOk (V94.cfg B) := cfgOk_of (by kernel_rfl) (by kernel_rfl)
theorem V94.sound {a0 : Addr} {at1 n2 : Int} {w : World} {R : Value → World → Prop} (h : V94.vc w.heap.size R a0 at1 n2 w) : Calls Try.prog 94 ⟨[.pointer (some a0), .int .i64 at1, .int .i64 n2]⟩ w fun e w' => ∃ v, e = .returned v ∧ R v w' :=
  calls_wpfP (c := V94.cfg w.heap.size) (fn := Try.f94) (x := V94.code) (V94.cuts w.heap.size R) V94.h (V94.cfgOk _) mixed Try.func94 (by kernel_rfl) (by kernel_rfl) (by kernel_rfl) rfl (V94.obl _ _) ((V94.vc_eq _ _ a0 at1 n2 _).symm ▸ h)

/-! function 95 -/
def V95.vc (B : Nat) (R : Value → World → Prop) (mem0 : Option Addr) (mem0l mem0c : Nat) (at1 n2 : Int) (w : World) : Prop :=
  if (decide (at1 ≥ 0)) = true
  then (if (decide (at1 ≤ (mem0l : Int))) = true
   then (Ret B w (R (.bool (decide (n2 ≤ IntKind.wrap .i64 ((mem0l : Int) - at1))))))
   else (Ret B w (R (.bool false))))
  else (Ret B w (R (.bool false)))
noncomputable def V95.cfg (B : Nat) : Cfg := ⟨Try.prog, ⟨23, B⟩, [], hasN [], hasN []⟩
noncomputable def V95.code : Code := (Try.f95.body).getD .skip
noncomputable def V95.cuts (B : Nat) (R : Value → World → Prop) : Nat → Cut := nthC []
noncomputable def V95.h : H := .s (.z) (.s (.z) (.z))
theorem V95.vc_eq (B : Nat) (R : Value → World → Prop) (mem0 : Option Addr) (mem0l mem0c : Nat) (at1 n2 : Int) (w : World) : wpf (V95.cfg B) (V95.cuts B R) V95.code V95.h [] (postOf Try.prog B (Try.f95.results.toList) R) (argE 0 [.slice mem0 mem0l mem0c, .int .i64 at1, .int .i64 n2]) [] w = V95.vc B R mem0 mem0l mem0c at1 n2 w := by kernel_rfl
theorem V95.obl (B : Nat) (R : Value → World → Prop) : oblP (V95.cfg B) (V95.cuts B R) V95.code V95.h [] (postOf Try.prog B (Try.f95.results.toList) R) := by
  have e : oblP (V95.cfg B) (V95.cuts B R) V95.code V95.h [] (postOf Try.prog B (Try.f95.results.toList) R) = (True ∧ (True ∧ True)) := by kernel_rfl
  rw [e]
  exact ⟨trivial, ⟨trivial, trivial⟩⟩
theorem V95.cfgOk (B : Nat) : CfgOk (V95.cfg B) := cfgOk_of (by kernel_rfl) (by kernel_rfl)
theorem V95.sound {mem0 : Option Addr} {mem0l mem0c : Nat} {at1 n2 : Int} {w : World} {R : Value → World → Prop} (h : V95.vc w.heap.size R mem0 mem0l mem0c at1 n2 w) : Calls Try.prog 95 ⟨[.slice mem0 mem0l mem0c, .int .i64 at1, .int .i64 n2]⟩ w fun e w' => ∃ v, e = .returned v ∧ R v w' :=
  calls_wpfP (c := V95.cfg w.heap.size) (fn := Try.f95) (x := V95.code) (V95.cuts w.heap.size R) V95.h (V95.cfgOk _) mixed Try.func95 (by kernel_rfl) (by kernel_rfl) (by kernel_rfl) rfl (V95.obl _ _) ((V95.vc_eq _ _ mem0 mem0l mem0c at1 n2 _).symm ▸ h)

/-! function 102 -/
def V102.l0 (B : Nat) (R : Value → World → Prop) : Nat → Int → Option Addr → Nat → Nat → Int → Int → Int → World → Prop
  | 0 => fun _ _ _ _ _ _ _ _ => False
  | k + 1 => fun w3 p9 p9l p9c e10 x20 x21 w =>
    if (decide (x21 < x20)) = true
    then (∃ p27 : Addr, p9 = some p27 ∧ (0 : Int) ≤ x21 ∧ x21 < (p9l : Int) ∧
    (∃ u, w.cell? ((p27.add x21.toNat).add 0) = some u) ∧ w.frozen? ((p27.add x21.toNat).add 0) = false ∧
    let w_1 := w.setCell ((p27.add x21.toNat).add 0) (.int .u64 w3);
    (V102.l0 B R k) w3 p9 p9l p9c e10 x20 (IntKind.wrap .i64 (x21 + 1)) w_1)
    else (Ret B w (R (.int .i64 e10)))
def V102.vc (B : Nat) (R : Value → World → Prop) (a0 : Addr) (at1 n2 w3 : Int) (w : World) : Prop :=
  CallK Try.prog 105 [.pointer (some a0), .int .i64 at1, .int .i64 n2] B w [] fun v w_1 => 
  ∃ (A16 : Option Addr) (A16l A16c : Nat) (x16 : Int), v = .tuple ⟨[.slice A16 A16l A16c, .int .i64 x16]⟩ ∧
  ∃ k_1, V102.l0 B R k_1 w3 A16 A16l A16c x16 (A16l : Int) 0 w_1
noncomputable def V102.cfg (B : Nat) : Cfg := ⟨Try.prog, ⟨30, B⟩, [], hasN [105], hasN []⟩
noncomputable def V102.code : Code := (Try.f102.body).getD .skip
noncomputable def V102.cuts (B : Nat) (R : Value → World → Prop) : Nat → Cut := nthC [⟨[(3, .one (.int .u64)), (9, .one (.slice)), (10, .one (.int .i64)), (20, .one (.int .i64)), (21, .one (.int .i64))], [], fun fs vs bs w => V102.l0 B R (nthN fs 0) (iV (nthV vs 0)) (slA (nthV vs 1)) (slL (nthV vs 1)) (slC (nthV vs 1)) (iV (nthV vs 2)) (iV (nthV vs 3)) (iV (nthV vs 4)) w⟩]
noncomputable def V102.h : H := .s (.z) (.s (.z) (.s (.s (.z) (.b (.l 0 (.s (.z) (.s (.c (.z) (.z)) (.s (.b (.s (.z) (.z))) (.z))))))) (.s (.z) (.z))))
theorem V102.vc_eq (B : Nat) (R : Value → World → Prop) (a0 : Addr) (at1 n2 w3 : Int) (w : World) : wpf (V102.cfg B) (V102.cuts B R) V102.code V102.h [] (postOf Try.prog B (Try.f102.results.toList) R) (argE 0 [.pointer (some a0), .int .i64 at1, .int .i64 n2, .int .u64 w3]) [] w = V102.vc B R a0 at1 n2 w3 w := by kernel_rfl
theorem V102.obl (B : Nat) (R : Value → World → Prop) : oblP (V102.cfg B) (V102.cuts B R) V102.code V102.h [] (postOf Try.prog B (Try.f102.results.toList) R) := by
  have e : oblP (V102.cfg B) (V102.cuts B R) V102.code V102.h [] (postOf Try.prog B (Try.f102.results.toList) R) = (True ∧ (True ∧ ((True ∧ ((∀ (w3 : Int) (p9 : Option Addr) (p9l p9c : Nat) (e10 x20 x21 : Int) (w : World), ¬ V102.l0 B R 0 w3 p9 p9l p9c e10 x20 x21 w) ∧ (∀ k0, ∀ (w3 : Int) (p9 : Option Addr) (p9l p9c : Nat) (e10 x20 x21 : Int) (w : World), V102.l0 B R (k0 + 1) w3 p9 p9l p9c e10 x20 x21 w → V102.l0 B R (k0 + 1) w3 p9 p9l p9c e10 x20 x21 w) ∧ ∀ k0 : Nat, (True ∧ ((True ∧ True) ∧ ((True ∧ True) ∧ True))))) ∧ (True ∧ True)))) := by kernel_rfl
  rw [e]
  exact ⟨trivial, ⟨trivial, ⟨⟨trivial, ⟨fun w3 p9 p9l p9c e10 x20 x21 w h => h, fun _ w3 p9 p9l p9c e10 x20 x21 w h => h, fun k0 => ⟨trivial, ⟨⟨trivial, trivial⟩, ⟨⟨trivial, trivial⟩, trivial⟩⟩⟩⟩⟩, ⟨trivial, trivial⟩⟩⟩⟩
theorem V102.cfgOk (B : Nat) : CfgOk (V102.cfg B) := cfgOk_of (by kernel_rfl) (by kernel_rfl)
theorem V102.sound {a0 : Addr} {at1 n2 w3 : Int} {w : World} {R : Value → World → Prop} (h : V102.vc w.heap.size R a0 at1 n2 w3 w) : Calls Try.prog 102 ⟨[.pointer (some a0), .int .i64 at1, .int .i64 n2, .int .u64 w3]⟩ w fun e w' => ∃ v, e = .returned v ∧ R v w' :=
  calls_wpfP (c := V102.cfg w.heap.size) (fn := Try.f102) (x := V102.code) (V102.cuts w.heap.size R) V102.h (V102.cfgOk _) mixed Try.func102 (by kernel_rfl) (by kernel_rfl) (by kernel_rfl) rfl (V102.obl _ _) ((V102.vc_eq _ _ a0 at1 n2 w3 _).symm ▸ h)

/-! function 103 -/
def V103.l0 (B : Nat) (R : Value → World → Prop) : Nat → Addr → Int → Option Addr → Nat → Nat → Int → Int → World → Prop
  | 0 => fun _ _ _ _ _ _ _ _ => False
  | k + 1 => fun a0 at1 A8 A8l A8c x9 x10 w =>
    if (decide (x10 < x9)) = true
    then (∃ p13 : Addr, A8 = some p13 ∧ (0 : Int) ≤ x10 ∧ x10 < (A8l : Int) ∧
    ∃ x14 : Int, w.cell? (p13.add x10.toNat) = some (.int .u64 x14) ∧
    CallK Try.prog 70 [.pointer (some a0), .int .i64 (IntKind.wrap .i64 (at1 + x10)), .int .u64 x14] B w [] fun v w_1 => 
     ∃ x20 : Int, v = .int .i64 x20 ∧ (V103.l0 B R k) a0 at1 A8 A8l A8c x9 (IntKind.wrap .i64 (x10 + 1)) w_1)
    else (Ret B w (R (.tuple ⟨[]⟩)))
def V103.vc (B : Nat) (R : Value → World → Prop) (a0 : Addr) (at1 : Int) (l2 : Option Addr) (l2l l2c : Nat) (w : World) : Prop :=
  ∃ k_1, V103.l0 B R k_1 a0 at1 l2 l2l l2c (l2l : Int) 0 w
noncomputable def V103.cfg (B : Nat) : Cfg := ⟨Try.prog, ⟨22, B⟩, [], hasN [70], hasN []⟩
noncomputable def V103.code : Code := (Try.f103.body).getD .skip
noncomputable def V103.cuts (B : Nat) (R : Value → World → Prop) : Nat → Cut := nthC [⟨[(0, .one (.ptr)), (1, .one (.int .i64)), (8, .one (.slice)), (9, .one (.int .i64)), (10, .one (.int .i64))], [], fun fs vs bs w => V103.l0 B R (nthN fs 0) (pV (nthV vs 0)) (iV (nthV vs 1)) (slA (nthV vs 2)) (slL (nthV vs 2)) (slC (nthV vs 2)) (iV (nthV vs 3)) (iV (nthV vs 4)) w⟩]
noncomputable def V103.h : H := .s (.z) (.b (.l 0 (.s (.z) (.s (.c (.z) (.z)) (.s (.b (.s (.z) (.z))) (.z))))))
theorem V103.vc_eq (B : Nat) (R : Value → World → Prop) (a0 : Addr) (at1 : Int) (l2 : Option Addr) (l2l l2c : Nat) (w : World) : wpf (V103.cfg B) (V103.cuts B R) V103.code V103.h [] (postOf Try.prog B (Try.f103.results.toList) R) (argE 0 [.pointer (some a0), .int .i64 at1, .slice l2 l2l l2c]) [] w = V103.vc B R a0 at1 l2 l2l l2c w := by kernel_rfl
theorem V103.obl (B : Nat) (R : Value → World → Prop) : oblP (V103.cfg B) (V103.cuts B R) V103.code V103.h [] (postOf Try.prog B (Try.f103.results.toList) R) := by
  have e : oblP (V103.cfg B) (V103.cuts B R) V103.code V103.h [] (postOf Try.prog B (Try.f103.results.toList) R) = (True ∧ ((∀ (a0 : Addr) (at1 : Int) (A8 : Option Addr) (A8l A8c : Nat) (x9 x10 : Int) (w : World), ¬ V103.l0 B R 0 a0 at1 A8 A8l A8c x9 x10 w) ∧ (∀ k0, ∀ (a0 : Addr) (at1 : Int) (A8 : Option Addr) (A8l A8c : Nat) (x9 x10 : Int) (w : World), V103.l0 B R (k0 + 1) a0 at1 A8 A8l A8c x9 x10 w → V103.l0 B R (k0 + 1) a0 at1 A8 A8l A8c x9 x10 w) ∧ ∀ k0 : Nat, (True ∧ ((True ∧ True) ∧ ((True ∧ True) ∧ True))))) := by kernel_rfl
  rw [e]
  exact ⟨trivial, ⟨fun a0 at1 A8 A8l A8c x9 x10 w h => h, fun _ a0 at1 A8 A8l A8c x9 x10 w h => h, fun k0 => ⟨trivial, ⟨⟨trivial, trivial⟩, ⟨⟨trivial, trivial⟩, trivial⟩⟩⟩⟩⟩
theorem V103.cfgOk (B : Nat) : CfgOk (V103.cfg B) := cfgOk_of (by kernel_rfl) (by kernel_rfl)
theorem V103.sound {a0 : Addr} {at1 : Int} {l2 : Option Addr} {l2l l2c : Nat} {w : World} {R : Value → World → Prop} (h : V103.vc w.heap.size R a0 at1 l2 l2l l2c w) : Calls Try.prog 103 ⟨[.pointer (some a0), .int .i64 at1, .slice l2 l2l l2c]⟩ w fun e w' => ∃ v, e = .returned v ∧ R v w' :=
  calls_wpfP (c := V103.cfg w.heap.size) (fn := Try.f103) (x := V103.code) (V103.cuts w.heap.size R) V103.h (V103.cfgOk _) mixed Try.func103 (by kernel_rfl) (by kernel_rfl) (by kernel_rfl) rfl (V103.obl _ _) ((V103.vc_eq _ _ a0 at1 l2 l2l l2c _).symm ▸ h)

/-! function 104 -/
def V104.vc (B : Nat) (R : Value → World → Prop) (l0 : Option Addr) (l0l l0c : Nat) (w : World) : Prop :=
  Expo B w [] fun w_1 => 
  let w_2 := w_1.alloc (.cells ⟨[]⟩ 51);
  RunK Try.prog (Builtin.append_ #[50, 50] 50 ⟨[.slice (some ⟨w_1.heap.size, 0, none⟩) 0 0, .slice l0 l0l l0c]⟩) B w_2 [] fun v w_3 => 
  ∃ (A5 : Option Addr) (A5l A5c : Nat), v = .slice A5 A5l A5c ∧
  Ret B w_3 (R (.slice A5 A5l A5c))
noncomputable def V104.cfg (B : Nat) : Cfg := ⟨Try.prog, ⟨6, B⟩, [], hasN [], hasN []⟩
noncomputable def V104.code : Code := (Try.f104.body).getD .skip
noncomputable def V104.cuts (B : Nat) (R : Value → World → Prop) : Nat → Cut := nthC []
noncomputable def V104.h : H := .s (.z) (.s (.z) (.z))
theorem V104.vc_eq (B : Nat) (R : Value → World → Prop) (l0 : Option Addr) (l0l l0c : Nat) (w : World) : wpf (V104.cfg B) (V104.cuts B R) V104.code V104.h [] (postOf Try.prog B (Try.f104.results.toList) R) (argE 0 [.slice l0 l0l l0c]) [] w = V104.vc B R l0 l0l l0c w := by kernel_rfl
theorem V104.obl (B : Nat) (R : Value → World → Prop) : oblP (V104.cfg B) (V104.cuts B R) V104.code V104.h [] (postOf Try.prog B (Try.f104.results.toList) R) := by
  have e : oblP (V104.cfg B) (V104.cuts B R) V104.code V104.h [] (postOf Try.prog B (Try.f104.results.toList) R) = (True ∧ (True ∧ True)) := by kernel_rfl
  rw [e]
  exact ⟨trivial, ⟨trivial, trivial⟩⟩
theorem V104.cfgOk (B : Nat) : CfgOk (V104.cfg B) := cfgOk_of (by kernel_rfl) (by kernel_rfl)
theorem V104.sound {l0 : Option Addr} {l0l l0c : Nat} {w : World} {R : Value → World → Prop} (h : V104.vc w.heap.size R l0 l0l l0c w) : Calls Try.prog 104 ⟨[.slice l0 l0l l0c]⟩ w fun e w' => ∃ v, e = .returned v ∧ R v w' :=
  calls_wpfP (c := V104.cfg w.heap.size) (fn := Try.f104) (x := V104.code) (V104.cuts w.heap.size R) V104.h (V104.cfgOk _) mixed Try.func104 (by kernel_rfl) (by kernel_rfl) (by kernel_rfl) rfl (V104.obl _ _) ((V104.vc_eq _ _ l0 l0l l0c _).symm ▸ h)

/-! function 105 -/
def V105.vc (B : Nat) (R : Value → World → Prop) (a0 : Addr) (at1 n2 : Int) (w : World) : Prop :=
  if (decide (at1 < 0)) = false
  then (if (decide (n2 < 0)) = false
   then (∃ (A23 : Option Addr) (A23l A23c : Nat), w.cell? (a0.add 0) = some (.slice A23 A23l A23c) ∧
   if (decide (at1 > (A23l : Int))) = false
    then (∃ (A32 : Option Addr) (A32l A32c : Nat), w.cell? (a0.add 0) = some (.slice A32 A32l A32c) ∧
    if (decide (n2 > IntKind.wrap .i64 ((A32l : Int) - at1))) = true
     then (Ret B w (R (.tuple ⟨[.slice none 0 0, .int .i64 1]⟩)))
     else (∃ (A41 : Option Addr) (A41l A41c : Nat), w.cell? (a0.add 0) = some (.slice A41 A41l A41c) ∧ (0 : Int) ≤ IntKind.wrap .i64 (at1 + n2) ∧ IntKind.wrap .i64 (at1 + n2) ≤ (A41c : Int) ∧ (0 : Int) ≤ at1 ∧ at1 ≤ (((IntKind.wrap .i64 (at1 + n2)).toNat : Nat) : Int) ∧
     Ret B w (R (.tuple ⟨[.slice (if A41c = at1.toNat then A41 else Option.map (fun a => a.add at1.toNat) A41) (((IntKind.wrap .i64 (at1 + n2)).toNat) - at1.toNat) (A41c - at1.toNat), .int .i64 0]⟩))))
    else (Ret B w (R (.tuple ⟨[.slice none 0 0, .int .i64 1]⟩))))
   else (Ret B w (R (.tuple ⟨[.slice none 0 0, .int .i64 1]⟩))))
  else (Ret B w (R (.tuple ⟨[.slice none 0 0, .int .i64 1]⟩)))
noncomputable def V105.cfg (B : Nat) : Cfg := ⟨Try.prog, ⟨47, B⟩, [], hasN [], hasN []⟩
noncomputable def V105.code : Code := (Try.f105.body).getD .skip
noncomputable def V105.cuts (B : Nat) (R : Value → World → Prop) : Nat → Cut := nthC []
noncomputable def V105.h : H := .s (.z) (.s (.b (.s (.z) (.c (.s (.z) (.z)) (.s (.z) (.c (.s (.z) (.z)) (.z)))))) (.s (.z) (.z)))
theorem V105.vc_eq (B : Nat) (R : Value → World → Prop) (a0 : Addr) (at1 n2 : Int) (w : World) : wpf (V105.cfg B) (V105.cuts B R) V105.code V105.h [] (postOf Try.prog B (Try.f105.results.toList) R) (argE 0 [.pointer (some a0), .int .i64 at1, .int .i64 n2]) [] w = V105.vc B R a0 at1 n2 w := by kernel_rfl
theorem V105.obl (B : Nat) (R : Value → World → Prop) : oblP (V105.cfg B) (V105.cuts B R) V105.code V105.h [] (postOf Try.prog B (Try.f105.results.toList) R) := by
  have e : oblP (V105.cfg B) (V105.cuts B R) V105.code V105.h [] (postOf Try.prog B (Try.f105.results.toList) R) = (True ∧ ((True ∧ ((True ∧ True) ∧ (True ∧ ((True ∧ True) ∧ True)))) ∧ (True ∧ True))) := by kernel_rfl
  rw [e]
  exact ⟨trivial, ⟨⟨trivial, ⟨⟨trivial, trivial⟩, ⟨trivial, ⟨⟨trivial, trivial⟩, trivial⟩⟩⟩⟩, ⟨trivial, trivial⟩⟩⟩
theorem V105.cfgOk (B : Nat) : CfgOk (V105.cfg B) := cfgOk_of (by kernel_rfl) (by kernel_rfl)
theorem V105.sound {a0 : Addr} {at1 n2 : Int} {w : World} {R : Value → World → Prop} (h : V105.vc w.heap.size R a0 at1 n2 w) : Calls Try.prog 105 ⟨[.pointer (some a0), .int .i64 at1, .int .i64 n2]⟩ w fun e w' => ∃ v, e = .returned v ∧ R v w' :=
  calls_wpfP (c := V105.cfg w.heap.size) (fn := Try.f105) (x := V105.code) (V105.cuts w.heap.size R) V105.h (V105.cfgOk _) mixed Try.func105 (by kernel_rfl) (by kernel_rfl) (by kernel_rfl) rfl (V105.obl _ _) ((V105.vc_eq _ _ a0 at1 n2 _).symm ▸ h)

/-! function 124 -/
def V124.vc (B : Nat) (R : Value → World → Prop) (s0 : Option Addr) (s0l s0c : Nat) (w : World) : Prop :=
  if (Option.isNone s0) = true
  then (Ret B w (R (.slice none 0 0)))
  else (Expo B w [] fun w_1 => 
   let w_2 := w_1.alloc (.cells ⟨[]⟩ 51);
   RunK Try.prog (Builtin.append_ #[50, 50] 50 ⟨[.slice (some ⟨w_1.heap.size, 0, none⟩) 0 0, .slice s0 s0l s0c]⟩) B w_2 [] fun v w_3 => 
   ∃ (A7 : Option Addr) (A7l A7c : Nat), v = .slice A7 A7l A7c ∧
   Ret B w_3 (R (.slice A7 A7l A7c)))
noncomputable def V124.cfg (B : Nat) : Cfg := ⟨Try.prog, ⟨8, B⟩, [], hasN [], hasN []⟩
noncomputable def V124.code : Code := (Try.f124.body).getD .skip
noncomputable def V124.cuts (B : Nat) (R : Value → World → Prop) : Nat → Cut := nthC []
noncomputable def V124.h : H := .s (.z) (.s (.s (.z) (.c (.s (.z) (.z)) (.z))) (.s (.z) (.z)))
theorem V124.vc_eq (B : Nat) (R : Value → World → Prop) (s0 : Option Addr) (s0l s0c : Nat) (w : World) : wpf (V124.cfg B) (V124.cuts B R) V124.code V124.h [] (postOf Try.prog B (Try.f124.results.toList) R) (argE 0 [.slice s0 s0l s0c]) [] w = V124.vc B R s0 s0l s0c w := by kernel_rfl
theorem V124.obl (B : Nat) (R : Value → World → Prop) : oblP (V124.cfg B) (V124.cuts B R) V124.code V124.h [] (postOf Try.prog B (Try.f124.results.toList) R) := by
  have e : oblP (V124.cfg B) (V124.cuts B R) V124.code V124.h [] (postOf Try.prog B (Try.f124.results.toList) R) = (True ∧ ((True ∧ ((True ∧ True) ∧ True)) ∧ (True ∧ True))) := by kernel_rfl
  rw [e]
  exact ⟨trivial, ⟨⟨trivial, ⟨⟨trivial, trivial⟩, trivial⟩⟩, ⟨trivial, trivial⟩⟩⟩
theorem V124.cfgOk (B : Nat) : CfgOk (V124.cfg B) := cfgOk_of (by kernel_rfl) (by kernel_rfl)
theorem V124.sound {s0 : Option Addr} {s0l s0c : Nat} {w : World} {R : Value → World → Prop} (h : V124.vc w.heap.size R s0 s0l s0c w) : Calls Try.prog 124 ⟨[.slice s0 s0l s0c]⟩ w fun e w' => ∃ v, e = .returned v ∧ R v w' :=
  calls_wpfP (c := V124.cfg w.heap.size) (fn := Try.f124) (x := V124.code) (V124.cuts w.heap.size R) V124.h (V124.cfgOk _) mixed Try.func124 (by kernel_rfl) (by kernel_rfl) (by kernel_rfl) rfl (V124.obl _ _) ((V124.vc_eq _ _ s0 s0l s0c _).symm ▸ h)
end Go.Proofs.Ytlccbaemcfjdoaa
