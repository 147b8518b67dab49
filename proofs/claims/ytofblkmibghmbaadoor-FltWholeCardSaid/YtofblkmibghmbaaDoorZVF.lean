/-
  What the engine makes of the loaded functions 20, 22, 23, 24, 25, 26, 27, 28, 29, 30, 31, 32, 33, 35, 36, 38, 39, 40, 41, 42, 43, 44, 45, 46, 47, 48, 49, 50, 51, 52, 53, 73, 74, 75, 76, 77, 82, 83, 86, 87, 85, 85: conditions under which a call returns as told, and proofs of that.
  Conditions: none. Printed by a program of this project.
-/
import Derived.Test.YtofblkmibghmbaaDoorZVE
set_option linter.unusedVariables false
set_option maxRecDepth 100000
namespace Go.Proofs.YtofblkmibghmbaaDoor
def V22.vc (B : Nat) (R : Value → World → Prop) (a : Int) (w : World) : Prop :=
  CallK Tryd.prog 24 [.int .u64 a] B w [] fun v c => 
  ∃ d : Nat, v = .float .f64 d ∧
  CallK Tryd.prog 23 [.float .f64 (Op.negFloat .f64 d)] B c [] fun f g => 
  ∃ i : Int, f = .int .u64 i ∧
  Ret B g (R (.int .u64 i))
noncomputable def V22.cfg (B : Nat) : Cfg := ⟨Tryd.prog, ⟨7, B⟩, [], hasN [23, 24], hasN [], look []⟩
noncomputable def V22.code : Code := (Tryd.f22.body).getD .skip
noncomputable def V22.cuts (B : Nat) (R : Value → World → Prop) : Nat → Cut := nthC []
noncomputable def V22.h : H := .s (.z) (.s (.z) (.z))
theorem V22.vc_eq (B : Nat) (R : Value → World → Prop) (a : Int) (w : World) : wpf (V22.cfg B) (V22.cuts B R) V22.code V22.h [] (postOf Tryd.prog B (Tryd.f22.results.toList) R) (argE 0 [.int .u64 a]) [] w = V22.vc B R a w := by kernel_rfl
theorem V22.obl (B : Nat) (R : Value → World → Prop) : oblP (V22.cfg B) (V22.cuts B R) V22.code V22.h [] (postOf Tryd.prog B (Tryd.f22.results.toList) R) := by
  have e : oblP (V22.cfg B) (V22.cuts B R) V22.code V22.h [] (postOf Tryd.prog B (Tryd.f22.results.toList) R) = (True ∧ (True ∧ True)) := by kernel_rfl
  rw [e]
  exact ⟨trivial, ⟨trivial, trivial⟩⟩
theorem V22.cfgOk (B : Nat) : CfgOk (V22.cfg B) := cfgOk_of (by kernel_rfl) (by kernel_rfl) extNil
theorem V22.sound {a : Int} {w : World} {R : Value → World → Prop} (h : V22.vc w.heap.size R a w) : Calls Tryd.prog 22 ⟨[.int .u64 a]⟩ w fun e w' => ∃ v, e = .returned v ∧ R v w' :=
  calls_wpfP (c := V22.cfg w.heap.size) (fn := Tryd.f22) (x := V22.code) (V22.cuts w.heap.size R) V22.h (V22.cfgOk _) mixed Tryd.func22 (by kernel_rfl) (by kernel_rfl) (by kernel_rfl) rfl (V22.obl _ _) ((V22.vc_eq _ _ a _).symm ▸ h)
def V23.vc (B : Nat) (R : Value → World → Prop) (a : Nat) (w : World) : Prop :=
  CallK Tryd.prog 73 [.float .f64 a] B w [] fun v c => 
  ∃ d : Bool, v = .bool d ∧
  if d = true
  then (Ret B c (R (.int .u64 9221120237041090560)))
  else (RunK Tryd.prog (V80.ext [.float .f64 a]) B c [] fun f g => 
   ∃ i : Int, f = .int .u64 i ∧
   Ret B g (R (.int .u64 i)))
noncomputable def V23.cfg (B : Nat) : Cfg := ⟨Tryd.prog, ⟨7, B⟩, [], hasN [73], hasN [], look [(80, V80.ext)]⟩
noncomputable def V23.code : Code := (Tryd.f23.body).getD .skip
noncomputable def V23.cuts (B : Nat) (R : Value → World → Prop) : Nat → Cut := nthC []
noncomputable def V23.h : H := .s (.z) (.s (.s (.z) (.c (.s (.z) (.z)) (.z))) (.s (.z) (.z)))
theorem V23.vc_eq (B : Nat) (R : Value → World → Prop) (a : Nat) (w : World) : wpf (V23.cfg B) (V23.cuts B R) V23.code V23.h [] (postOf Tryd.prog B (Tryd.f23.results.toList) R) (argE 0 [.float .f64 a]) [] w = V23.vc B R a w := by kernel_rfl
theorem V23.obl (B : Nat) (R : Value → World → Prop) : oblP (V23.cfg B) (V23.cuts B R) V23.code V23.h [] (postOf Tryd.prog B (Tryd.f23.results.toList) R) := by
  have e : oblP (V23.cfg B) (V23.cuts B R) V23.code V23.h [] (postOf Tryd.prog B (Tryd.f23.results.toList) R) = (True ∧ ((True ∧ ((True ∧ True) ∧ True)) ∧ (True ∧ True))) := by kernel_rfl
  rw [e]
  exact ⟨trivial, ⟨⟨trivial, ⟨⟨trivial, trivial⟩, trivial⟩⟩, ⟨trivial, trivial⟩⟩⟩
theorem V23.cfgOk (B : Nat) : CfgOk (V23.cfg B) := cfgOk_of (by kernel_rfl) (by kernel_rfl) (extCons V80.extOk extNil)
theorem V23.sound {a : Nat} {w : World} {R : Value → World → Prop} (h : V23.vc w.heap.size R a w) : Calls Tryd.prog 23 ⟨[.float .f64 a]⟩ w fun e w' => ∃ v, e = .returned v ∧ R v w' :=
  calls_wpfP (c := V23.cfg w.heap.size) (fn := Tryd.f23) (x := V23.code) (V23.cuts w.heap.size R) V23.h (V23.cfgOk _) mixed Tryd.func23 (by kernel_rfl) (by kernel_rfl) (by kernel_rfl) rfl (V23.obl _ _) ((V23.vc_eq _ _ a _).symm ▸ h)
def V24.vc (B : Nat) (R : Value → World → Prop) (a : Int) (w : World) : Prop :=
  RunK Tryd.prog (V81.ext [.int .u64 a]) B w [] fun v c => 
  ∃ d : Nat, v = .float .f64 d ∧
  Ret B c (R (.float .f64 d))
noncomputable def V24.cfg (B : Nat) : Cfg := ⟨Tryd.prog, ⟨5, B⟩, [], hasN [], hasN [], look [(81, V81.ext)]⟩
noncomputable def V24.code : Code := (Tryd.f24.body).getD .skip
noncomputable def V24.cuts (B : Nat) (R : Value → World → Prop) : Nat → Cut := nthC []
noncomputable def V24.h : H := .s (.z) (.s (.z) (.z))
theorem V24.vc_eq (B : Nat) (R : Value → World → Prop) (a : Int) (w : World) : wpf (V24.cfg B) (V24.cuts B R) V24.code V24.h [] (postOf Tryd.prog B (Tryd.f24.results.toList) R) (argE 0 [.int .u64 a]) [] w = V24.vc B R a w := by kernel_rfl
theorem V24.obl (B : Nat) (R : Value → World → Prop) : oblP (V24.cfg B) (V24.cuts B R) V24.code V24.h [] (postOf Tryd.prog B (Tryd.f24.results.toList) R) := by
  have e : oblP (V24.cfg B) (V24.cuts B R) V24.code V24.h [] (postOf Tryd.prog B (Tryd.f24.results.toList) R) = (True ∧ (True ∧ True)) := by kernel_rfl
  rw [e]
  exact ⟨trivial, ⟨trivial, trivial⟩⟩
theorem V24.cfgOk (B : Nat) : CfgOk (V24.cfg B) := cfgOk_of (by kernel_rfl) (by kernel_rfl) (extCons V81.extOk extNil)
theorem V24.sound {a : Int} {w : World} {R : Value → World → Prop} (h : V24.vc w.heap.size R a w) : Calls Tryd.prog 24 ⟨[.int .u64 a]⟩ w fun e w' => ∃ v, e = .returned v ∧ R v w' :=
  calls_wpfP (c := V24.cfg w.heap.size) (fn := Tryd.f24) (x := V24.code) (V24.cuts w.heap.size R) V24.h (V24.cfgOk _) mixed Tryd.func24 (by kernel_rfl) (by kernel_rfl) (by kernel_rfl) rfl (V24.obl _ _) ((V24.vc_eq _ _ a _).symm ▸ h)
def V25.vc (B : Nat) (R : Value → World → Prop) (a c : Int) (w : World) : Prop :=
  CallK Tryd.prog 24 [.int .u64 a] B w [] fun v d => 
  ∃ f : Nat, v = .float .f64 f ∧
  CallK Tryd.prog 24 [.int .u64 c] B d [] fun g i => 
  ∃ j : Nat, g = .float .f64 j ∧
  RunK Tryd.prog (Go.binOp .sub 29 (.float .f64 f) (.float .f64 j)) B i [] fun l m => 
  ∃ n : Nat, l = .float .f64 n ∧
  CallK Tryd.prog 23 [.float .f64 n] B m [] fun o p => 
  ∃ q : Int, o = .int .u64 q ∧
  Ret B p (R (.int .u64 q))
noncomputable def V25.cfg (B : Nat) : Cfg := ⟨Tryd.prog, ⟨11, B⟩, [], hasN [23, 24], hasN [], look []⟩
noncomputable def V25.code : Code := (Tryd.f25.body).getD .skip
noncomputable def V25.cuts (B : Nat) (R : Value → World → Prop) : Nat → Cut := nthC []
noncomputable def V25.h : H := .s (.z) (.s (.z) (.z))
theorem V25.vc_eq (B : Nat) (R : Value → World → Prop) (a c : Int) (w : World) : wpf (V25.cfg B) (V25.cuts B R) V25.code V25.h [] (postOf Tryd.prog B (Tryd.f25.results.toList) R) (argE 0 [.int .u64 a, .int .u64 c]) [] w = V25.vc B R a c w := by kernel_rfl
theorem V25.obl (B : Nat) (R : Value → World → Prop) : oblP (V25.cfg B) (V25.cuts B R) V25.code V25.h [] (postOf Tryd.prog B (Tryd.f25.results.toList) R) := by
  have e : oblP (V25.cfg B) (V25.cuts B R) V25.code V25.h [] (postOf Tryd.prog B (Tryd.f25.results.toList) R) = (True ∧ (True ∧ True)) := by kernel_rfl
  rw [e]
  exact ⟨trivial, ⟨trivial, trivial⟩⟩
theorem V25.cfgOk (B : Nat) : CfgOk (V25.cfg B) := cfgOk_of (by kernel_rfl) (by kernel_rfl) extNil
theorem V25.sound {a d : Int} {w : World} {R : Value → World → Prop} (h : V25.vc w.heap.size R a d w) : Calls Tryd.prog 25 ⟨[.int .u64 a, .int .u64 d]⟩ w fun e w' => ∃ v, e = .returned v ∧ R v w' :=
  calls_wpfP (c := V25.cfg w.heap.size) (fn := Tryd.f25) (x := V25.code) (V25.cuts w.heap.size R) V25.h (V25.cfgOk _) mixed Tryd.func25 (by kernel_rfl) (by kernel_rfl) (by kernel_rfl) rfl (V25.obl _ _) ((V25.vc_eq _ _ a d _).symm ▸ h)
def V26.vc (B : Nat) (R : Value → World → Prop) (a c : Int) (w : World) : Prop :=
  CallK Tryd.prog 24 [.int .u64 a] B w [] fun v d => 
  ∃ f : Nat, v = .float .f64 f ∧
  CallK Tryd.prog 24 [.int .u64 c] B d [] fun g i => 
  ∃ j : Nat, g = .float .f64 j ∧
  RunK Tryd.prog (Go.binOp .add 29 (.float .f64 f) (.float .f64 j)) B i [] fun l m => 
  ∃ n : Nat, l = .float .f64 n ∧
  CallK Tryd.prog 23 [.float .f64 n] B m [] fun o p => 
  ∃ q : Int, o = .int .u64 q ∧
  Ret B p (R (.int .u64 q))
noncomputable def V26.cfg (B : Nat) : Cfg := ⟨Tryd.prog, ⟨11, B⟩, [], hasN [23, 24], hasN [], look []⟩
noncomputable def V26.code : Code := (Tryd.f26.body).getD .skip
noncomputable def V26.cuts (B : Nat) (R : Value → World → Prop) : Nat → Cut := nthC []
noncomputable def V26.h : H := .s (.z) (.s (.z) (.z))
theorem V26.vc_eq (B : Nat) (R : Value → World → Prop) (a c : Int) (w : World) : wpf (V26.cfg B) (V26.cuts B R) V26.code V26.h [] (postOf Tryd.prog B (Tryd.f26.results.toList) R) (argE 0 [.int .u64 a, .int .u64 c]) [] w = V26.vc B R a c w := by kernel_rfl
theorem V26.obl (B : Nat) (R : Value → World → Prop) : oblP (V26.cfg B) (V26.cuts B R) V26.code V26.h [] (postOf Tryd.prog B (Tryd.f26.results.toList) R) := by
  have e : oblP (V26.cfg B) (V26.cuts B R) V26.code V26.h [] (postOf Tryd.prog B (Tryd.f26.results.toList) R) = (True ∧ (True ∧ True)) := by kernel_rfl
  rw [e]
  exact ⟨trivial, ⟨trivial, trivial⟩⟩
theorem V26.cfgOk (B : Nat) : CfgOk (V26.cfg B) := cfgOk_of (by kernel_rfl) (by kernel_rfl) extNil
theorem V26.sound {a d : Int} {w : World} {R : Value → World → Prop} (h : V26.vc w.heap.size R a d w) : Calls Tryd.prog 26 ⟨[.int .u64 a, .int .u64 d]⟩ w fun e w' => ∃ v, e = .returned v ∧ R v w' :=
  calls_wpfP (c := V26.cfg w.heap.size) (fn := Tryd.f26) (x := V26.code) (V26.cuts w.heap.size R) V26.h (V26.cfgOk _) mixed Tryd.func26 (by kernel_rfl) (by kernel_rfl) (by kernel_rfl) rfl (V26.obl _ _) ((V26.vc_eq _ _ a d _).symm ▸ h)
def V27.vc (B : Nat) (R : Value → World → Prop) (a c : Int) (w : World) : Prop :=
  CallK Tryd.prog 24 [.int .u64 a] B w [] fun v d => 
  ∃ f : Nat, v = .float .f64 f ∧
  CallK Tryd.prog 24 [.int .u64 c] B d [] fun g i => 
  ∃ j : Nat, g = .float .f64 j ∧
  RunK Tryd.prog (Go.binOp .mul 29 (.float .f64 f) (.float .f64 j)) B i [] fun l m => 
  ∃ n : Nat, l = .float .f64 n ∧
  CallK Tryd.prog 23 [.float .f64 n] B m [] fun o p => 
  ∃ q : Int, o = .int .u64 q ∧
  Ret B p (R (.int .u64 q))
noncomputable def V27.cfg (B : Nat) : Cfg := ⟨Tryd.prog, ⟨11, B⟩, [], hasN [23, 24], hasN [], look []⟩
noncomputable def V27.code : Code := (Tryd.f27.body).getD .skip
noncomputable def V27.cuts (B : Nat) (R : Value → World → Prop) : Nat → Cut := nthC []
noncomputable def V27.h : H := .s (.z) (.s (.z) (.z))
theorem V27.vc_eq (B : Nat) (R : Value → World → Prop) (a c : Int) (w : World) : wpf (V27.cfg B) (V27.cuts B R) V27.code V27.h [] (postOf Tryd.prog B (Tryd.f27.results.toList) R) (argE 0 [.int .u64 a, .int .u64 c]) [] w = V27.vc B R a c w := by kernel_rfl
theorem V27.obl (B : Nat) (R : Value → World → Prop) : oblP (V27.cfg B) (V27.cuts B R) V27.code V27.h [] (postOf Tryd.prog B (Tryd.f27.results.toList) R) := by
  have e : oblP (V27.cfg B) (V27.cuts B R) V27.code V27.h [] (postOf Tryd.prog B (Tryd.f27.results.toList) R) = (True ∧ (True ∧ True)) := by kernel_rfl
  rw [e]
  exact ⟨trivial, ⟨trivial, trivial⟩⟩
theorem V27.cfgOk (B : Nat) : CfgOk (V27.cfg B) := cfgOk_of (by kernel_rfl) (by kernel_rfl) extNil
theorem V27.sound {a d : Int} {w : World} {R : Value → World → Prop} (h : V27.vc w.heap.size R a d w) : Calls Tryd.prog 27 ⟨[.int .u64 a, .int .u64 d]⟩ w fun e w' => ∃ v, e = .returned v ∧ R v w' :=
  calls_wpfP (c := V27.cfg w.heap.size) (fn := Tryd.f27) (x := V27.code) (V27.cuts w.heap.size R) V27.h (V27.cfgOk _) mixed Tryd.func27 (by kernel_rfl) (by kernel_rfl) (by kernel_rfl) rfl (V27.obl _ _) ((V27.vc_eq _ _ a d _).symm ▸ h)
def V28.vc (B : Nat) (R : Value → World → Prop) (a : Int) (w : World) : Prop :=
  CallK Tryd.prog 24 [.int .u64 a] B w [] fun v c => 
  ∃ d : Nat, v = .float .f64 d ∧
  Ret B c (R (.bool (FloatKind.f64.format.order d 0 != some .eq)))
noncomputable def V28.cfg (B : Nat) : Cfg := ⟨Tryd.prog, ⟨6, B⟩, [], hasN [24], hasN [], look []⟩
noncomputable def V28.code : Code := (Tryd.f28.body).getD .skip
noncomputable def V28.cuts (B : Nat) (R : Value → World → Prop) : Nat → Cut := nthC []
noncomputable def V28.h : H := .s (.z) (.s (.z) (.z))
theorem V28.vc_eq (B : Nat) (R : Value → World → Prop) (a : Int) (w : World) : wpf (V28.cfg B) (V28.cuts B R) V28.code V28.h [] (postOf Tryd.prog B (Tryd.f28.results.toList) R) (argE 0 [.int .u64 a]) [] w = V28.vc B R a w := by kernel_rfl
theorem V28.obl (B : Nat) (R : Value → World → Prop) : oblP (V28.cfg B) (V28.cuts B R) V28.code V28.h [] (postOf Tryd.prog B (Tryd.f28.results.toList) R) := by
  have e : oblP (V28.cfg B) (V28.cuts B R) V28.code V28.h [] (postOf Tryd.prog B (Tryd.f28.results.toList) R) = (True ∧ (True ∧ True)) := by kernel_rfl
  rw [e]
  exact ⟨trivial, ⟨trivial, trivial⟩⟩
theorem V28.cfgOk (B : Nat) : CfgOk (V28.cfg B) := cfgOk_of (by kernel_rfl) (by kernel_rfl) extNil
theorem V28.sound {a : Int} {w : World} {R : Value → World → Prop} (h : V28.vc w.heap.size R a w) : Calls Tryd.prog 28 ⟨[.int .u64 a]⟩ w fun e w' => ∃ v, e = .returned v ∧ R v w' :=
  calls_wpfP (c := V28.cfg w.heap.size) (fn := Tryd.f28) (x := V28.code) (V28.cuts w.heap.size R) V28.h (V28.cfgOk _) mixed Tryd.func28 (by kernel_rfl) (by kernel_rfl) (by kernel_rfl) rfl (V28.obl _ _) ((V28.vc_eq _ _ a _).symm ▸ h)
def V29.vc (B : Nat) (R : Value → World → Prop) (a c : Int) (w : World) : Prop :=
  CallK Tryd.prog 24 [.int .u64 a] B w [] fun v d => 
  ∃ f : Nat, v = .float .f64 f ∧
  CallK Tryd.prog 24 [.int .u64 c] B d [] fun g i => 
  ∃ j : Nat, g = .float .f64 j ∧
  Ret B i (R (.bool (FloatKind.f64.format.order f j == some .eq)))
noncomputable def V29.cfg (B : Nat) : Cfg := ⟨Tryd.prog, ⟨10, B⟩, [], hasN [24], hasN [], look []⟩
noncomputable def V29.code : Code := (Tryd.f29.body).getD .skip
noncomputable def V29.cuts (B : Nat) (R : Value → World → Prop) : Nat → Cut := nthC []
noncomputable def V29.h : H := .s (.z) (.s (.z) (.z))
theorem V29.vc_eq (B : Nat) (R : Value → World → Prop) (a c : Int) (w : World) : wpf (V29.cfg B) (V29.cuts B R) V29.code V29.h [] (postOf Tryd.prog B (Tryd.f29.results.toList) R) (argE 0 [.int .u64 a, .int .u64 c]) [] w = V29.vc B R a c w := by kernel_rfl
theorem V29.obl (B : Nat) (R : Value → World → Prop) : oblP (V29.cfg B) (V29.cuts B R) V29.code V29.h [] (postOf Tryd.prog B (Tryd.f29.results.toList) R) := by
  have e : oblP (V29.cfg B) (V29.cuts B R) V29.code V29.h [] (postOf Tryd.prog B (Tryd.f29.results.toList) R) = (True ∧ (True ∧ True)) := by kernel_rfl
  rw [e]
  exact ⟨trivial, ⟨trivial, trivial⟩⟩
theorem V29.cfgOk (B : Nat) : CfgOk (V29.cfg B) := cfgOk_of (by kernel_rfl) (by kernel_rfl) extNil
theorem V29.sound {a d : Int} {w : World} {R : Value → World → Prop} (h : V29.vc w.heap.size R a d w) : Calls Tryd.prog 29 ⟨[.int .u64 a, .int .u64 d]⟩ w fun e w' => ∃ v, e = .returned v ∧ R v w' :=
  calls_wpfP (c := V29.cfg w.heap.size) (fn := Tryd.f29) (x := V29.code) (V29.cuts w.heap.size R) V29.h (V29.cfgOk _) mixed Tryd.func29 (by kernel_rfl) (by kernel_rfl) (by kernel_rfl) rfl (V29.obl _ _) ((V29.vc_eq _ _ a d _).symm ▸ h)
def V32.vc (B : Nat) (R : Value → World → Prop) (a : Int) (w : World) : Prop :=
  CallK Tryd.prog 23 [.float .f64 (FloatKind.nearest .f64 a)] B w [] fun v c => 
  ∃ d : Int, v = .int .u64 d ∧
  Ret B c (R (.int .u64 d))
noncomputable def V32.cfg (B : Nat) : Cfg := ⟨Tryd.prog, ⟨6, B⟩, [], hasN [23], hasN [], look []⟩
noncomputable def V32.code : Code := (Tryd.f32.body).getD .skip
noncomputable def V32.cuts (B : Nat) (R : Value → World → Prop) : Nat → Cut := nthC []
noncomputable def V32.h : H := .s (.z) (.s (.z) (.z))
theorem V32.vc_eq (B : Nat) (R : Value → World → Prop) (a : Int) (w : World) : wpf (V32.cfg B) (V32.cuts B R) V32.code V32.h [] (postOf Tryd.prog B (Tryd.f32.results.toList) R) (argE 0 [.int .i64 a]) [] w = V32.vc B R a w := by kernel_rfl
theorem V32.obl (B : Nat) (R : Value → World → Prop) : oblP (V32.cfg B) (V32.cuts B R) V32.code V32.h [] (postOf Tryd.prog B (Tryd.f32.results.toList) R) := by
  have e : oblP (V32.cfg B) (V32.cuts B R) V32.code V32.h [] (postOf Tryd.prog B (Tryd.f32.results.toList) R) = (True ∧ (True ∧ True)) := by kernel_rfl
  rw [e]
  exact ⟨trivial, ⟨trivial, trivial⟩⟩
theorem V32.cfgOk (B : Nat) : CfgOk (V32.cfg B) := cfgOk_of (by kernel_rfl) (by kernel_rfl) extNil
theorem V32.sound {a : Int} {w : World} {R : Value → World → Prop} (h : V32.vc w.heap.size R a w) : Calls Tryd.prog 32 ⟨[.int .i64 a]⟩ w fun e w' => ∃ v, e = .returned v ∧ R v w' :=
  calls_wpfP (c := V32.cfg w.heap.size) (fn := Tryd.f32) (x := V32.code) (V32.cuts w.heap.size R) V32.h (V32.cfgOk _) mixed Tryd.func32 (by kernel_rfl) (by kernel_rfl) (by kernel_rfl) rfl (V32.obl _ _) ((V32.vc_eq _ _ a _).symm ▸ h)
def V35.vc (B : Nat) (R : Value → World → Prop) (a : Int) (w : World) : Prop :=
  CallK Tryd.prog 24 [.int .u64 a] B w [] fun v c => 
  ∃ d : Nat, v = .float .f64 d ∧
  CallK Tryd.prog 83 [.float .f64 d] B c [] fun f g => 
  ∃ i : Nat, f = .float .f64 i ∧
  CallK Tryd.prog 23 [.float .f64 i] B g [] fun j l => 
  ∃ m : Int, j = .int .u64 m ∧
  Ret B l (R (.int .u64 m))
noncomputable def V35.cfg (B : Nat) : Cfg := ⟨Tryd.prog, ⟨7, B⟩, [], hasN [23, 24, 83], hasN [], look []⟩
noncomputable def V35.code : Code := (Tryd.f35.body).getD .skip
noncomputable def V35.cuts (B : Nat) (R : Value → World → Prop) : Nat → Cut := nthC []
noncomputable def V35.h : H := .s (.z) (.s (.z) (.z))
theorem V35.vc_eq (B : Nat) (R : Value → World → Prop) (a : Int) (w : World) : wpf (V35.cfg B) (V35.cuts B R) V35.code V35.h [] (postOf Tryd.prog B (Tryd.f35.results.toList) R) (argE 0 [.int .u64 a]) [] w = V35.vc B R a w := by kernel_rfl
theorem V35.obl (B : Nat) (R : Value → World → Prop) : oblP (V35.cfg B) (V35.cuts B R) V35.code V35.h [] (postOf Tryd.prog B (Tryd.f35.results.toList) R) := by
  have e : oblP (V35.cfg B) (V35.cuts B R) V35.code V35.h [] (postOf Tryd.prog B (Tryd.f35.results.toList) R) = (True ∧ (True ∧ True)) := by kernel_rfl
  rw [e]
  exact ⟨trivial, ⟨trivial, trivial⟩⟩
theorem V35.cfgOk (B : Nat) : CfgOk (V35.cfg B) := cfgOk_of (by kernel_rfl) (by kernel_rfl) extNil
theorem V35.sound {a : Int} {w : World} {R : Value → World → Prop} (h : V35.vc w.heap.size R a w) : Calls Tryd.prog 35 ⟨[.int .u64 a]⟩ w fun e w' => ∃ v, e = .returned v ∧ R v w' :=
  calls_wpfP (c := V35.cfg w.heap.size) (fn := Tryd.f35) (x := V35.code) (V35.cuts w.heap.size R) V35.h (V35.cfgOk _) mixed Tryd.func35 (by kernel_rfl) (by kernel_rfl) (by kernel_rfl) rfl (V35.obl _ _) ((V35.vc_eq _ _ a _).symm ▸ h)
def V36.vc (B : Nat) (R : Value → World → Prop) (a c : Int) (w : World) : Prop :=
  CallK Tryd.prog 24 [.int .u64 a] B w [] fun v d => 
  ∃ f : Nat, v = .float .f64 f ∧
  CallK Tryd.prog 24 [.int .u64 c] B d [] fun g i => 
  ∃ j : Nat, g = .float .f64 j ∧
  Ret B i (R (.bool (FloatKind.f64.format.order f j == some .lt)))
noncomputable def V36.cfg (B : Nat) : Cfg := ⟨Tryd.prog, ⟨10, B⟩, [], hasN [24], hasN [], look []⟩
noncomputable def V36.code : Code := (Tryd.f36.body).getD .skip
noncomputable def V36.cuts (B : Nat) (R : Value → World → Prop) : Nat → Cut := nthC []
noncomputable def V36.h : H := .s (.z) (.s (.z) (.z))
theorem V36.vc_eq (B : Nat) (R : Value → World → Prop) (a c : Int) (w : World) : wpf (V36.cfg B) (V36.cuts B R) V36.code V36.h [] (postOf Tryd.prog B (Tryd.f36.results.toList) R) (argE 0 [.int .u64 a, .int .u64 c]) [] w = V36.vc B R a c w := by kernel_rfl
theorem V36.obl (B : Nat) (R : Value → World → Prop) : oblP (V36.cfg B) (V36.cuts B R) V36.code V36.h [] (postOf Tryd.prog B (Tryd.f36.results.toList) R) := by
  have e : oblP (V36.cfg B) (V36.cuts B R) V36.code V36.h [] (postOf Tryd.prog B (Tryd.f36.results.toList) R) = (True ∧ (True ∧ True)) := by kernel_rfl
  rw [e]
  exact ⟨trivial, ⟨trivial, trivial⟩⟩
theorem V36.cfgOk (B : Nat) : CfgOk (V36.cfg B) := cfgOk_of (by kernel_rfl) (by kernel_rfl) extNil
theorem V36.sound {a d : Int} {w : World} {R : Value → World → Prop} (h : V36.vc w.heap.size R a d w) : Calls Tryd.prog 36 ⟨[.int .u64 a, .int .u64 d]⟩ w fun e w' => ∃ v, e = .returned v ∧ R v w' :=
  calls_wpfP (c := V36.cfg w.heap.size) (fn := Tryd.f36) (x := V36.code) (V36.cuts w.heap.size R) V36.h (V36.cfgOk _) mixed Tryd.func36 (by kernel_rfl) (by kernel_rfl) (by kernel_rfl) rfl (V36.obl _ _) ((V36.vc_eq _ _ a d _).symm ▸ h)
def V41.vc (B : Nat) (R : Value → World → Prop) (a c : Int) (w : World) : Prop :=
  CallK Tryd.prog 24 [.int .u64 a] B w [] fun v d => 
  ∃ f : Nat, v = .float .f64 f ∧
  CallK Tryd.prog 24 [.int .u64 c] B d [] fun g i => 
  ∃ j : Nat, g = .float .f64 j ∧
  RunK Tryd.prog (Go.binOp .quo 29 (.float .f64 f) (.float .f64 j)) B i [] fun l m => 
  ∃ n : Nat, l = .float .f64 n ∧
  CallK Tryd.prog 23 [.float .f64 n] B m [] fun o p => 
  ∃ q : Int, o = .int .u64 q ∧
  Ret B p (R (.int .u64 q))
noncomputable def V41.cfg (B : Nat) : Cfg := ⟨Tryd.prog, ⟨11, B⟩, [], hasN [23, 24], hasN [], look []⟩
noncomputable def V41.code : Code := (Tryd.f41.body).getD .skip
noncomputable def V41.cuts (B : Nat) (R : Value → World → Prop) : Nat → Cut := nthC []
noncomputable def V41.h : H := .s (.z) (.s (.z) (.z))
theorem V41.vc_eq (B : Nat) (R : Value → World → Prop) (a c : Int) (w : World) : wpf (V41.cfg B) (V41.cuts B R) V41.code V41.h [] (postOf Tryd.prog B (Tryd.f41.results.toList) R) (argE 0 [.int .u64 a, .int .u64 c]) [] w = V41.vc B R a c w := by kernel_rfl
theorem V41.obl (B : Nat) (R : Value → World → Prop) : oblP (V41.cfg B) (V41.cuts B R) V41.code V41.h [] (postOf Tryd.prog B (Tryd.f41.results.toList) R) := by
  have e : oblP (V41.cfg B) (V41.cuts B R) V41.code V41.h [] (postOf Tryd.prog B (Tryd.f41.results.toList) R) = (True ∧ (True ∧ True)) := by kernel_rfl
  rw [e]
  exact ⟨trivial, ⟨trivial, trivial⟩⟩
theorem V41.cfgOk (B : Nat) : CfgOk (V41.cfg B) := cfgOk_of (by kernel_rfl) (by kernel_rfl) extNil
theorem V41.sound {a d : Int} {w : World} {R : Value → World → Prop} (h : V41.vc w.heap.size R a d w) : Calls Tryd.prog 41 ⟨[.int .u64 a, .int .u64 d]⟩ w fun e w' => ∃ v, e = .returned v ∧ R v w' :=
  calls_wpfP (c := V41.cfg w.heap.size) (fn := Tryd.f41) (x := V41.code) (V41.cuts w.heap.size R) V41.h (V41.cfgOk _) mixed Tryd.func41 (by kernel_rfl) (by kernel_rfl) (by kernel_rfl) rfl (V41.obl _ _) ((V41.vc_eq _ _ a d _).symm ▸ h)
def V73.vc (B : Nat) (R : Value → World → Prop) (a : Nat) (w : World) : Prop :=
  Ret B w (R (.bool (FloatKind.f64.format.order a a != some .eq)))
noncomputable def V73.cfg (B : Nat) : Cfg := ⟨Tryd.prog, ⟨6, B⟩, [], hasN [], hasN [], look []⟩
noncomputable def V73.code : Code := (Tryd.f73.body).getD .skip
noncomputable def V73.cuts (B : Nat) (R : Value → World → Prop) : Nat → Cut := nthC []
noncomputable def V73.h : H := .s (.z) (.s (.z) (.z))
theorem V73.vc_eq (B : Nat) (R : Value → World → Prop) (a : Nat) (w : World) : wpf (V73.cfg B) (V73.cuts B R) V73.code V73.h [] (postOf Tryd.prog B (Tryd.f73.results.toList) R) (argE 0 [.float .f64 a]) [] w = V73.vc B R a w := by kernel_rfl
theorem V73.obl (B : Nat) (R : Value → World → Prop) : oblP (V73.cfg B) (V73.cuts B R) V73.code V73.h [] (postOf Tryd.prog B (Tryd.f73.results.toList) R) := by
  have e : oblP (V73.cfg B) (V73.cuts B R) V73.code V73.h [] (postOf Tryd.prog B (Tryd.f73.results.toList) R) = (True ∧ (True ∧ True)) := by kernel_rfl
  rw [e]
  exact ⟨trivial, ⟨trivial, trivial⟩⟩
theorem V73.cfgOk (B : Nat) : CfgOk (V73.cfg B) := cfgOk_of (by kernel_rfl) (by kernel_rfl) extNil
theorem V73.sound {a : Nat} {w : World} {R : Value → World → Prop} (h : V73.vc w.heap.size R a w) : Calls Tryd.prog 73 ⟨[.float .f64 a]⟩ w fun e w' => ∃ v, e = .returned v ∧ R v w' :=
  calls_wpfP (c := V73.cfg w.heap.size) (fn := Tryd.f73) (x := V73.code) (V73.cuts w.heap.size R) V73.h (V73.cfgOk _) mixed Tryd.func73 (by kernel_rfl) (by kernel_rfl) (by kernel_rfl) rfl (V73.obl _ _) ((V73.vc_eq _ _ a _).symm ▸ h)
def V74.vc (B : Nat) (R : Value → World → Prop) (a : Nat) (c : Int) (w : World) : Prop :=
  if (c == 0) = true
  then (CallK Tryd.prog 77 [.float .f64 a] B w [] fun v d => 
   ∃ f : Nat, v = .float .f64 f ∧
   Ret B d (R (.bool (FloatKind.f64.format.order f 9218868437227405311 == some .gt))))
  else (if (decide (c < 0)) = true
   then (Ret B w (R (.bool (FloatKind.f64.format.order (Op.negFloat .f64 a) 9218868437227405311 == some .gt))))
   else (Ret B w (R (.bool (FloatKind.f64.format.order a 9218868437227405311 == some .gt)))))
noncomputable def V74.cfg (B : Nat) : Cfg := ⟨Tryd.prog, ⟨15, B⟩, [], hasN [77], hasN [], look []⟩
noncomputable def V74.code : Code := (Tryd.f74.body).getD .skip
noncomputable def V74.cuts (B : Nat) (R : Value → World → Prop) : Nat → Cut := nthC []
noncomputable def V74.h : H := .s (.z) (.s (.s (.z) (.c (.z) (.s (.z) (.c (.z) (.z))))) (.s (.z) (.z)))
theorem V74.vc_eq (B : Nat) (R : Value → World → Prop) (a : Nat) (c : Int) (w : World) : wpf (V74.cfg B) (V74.cuts B R) V74.code V74.h [] (postOf Tryd.prog B (Tryd.f74.results.toList) R) (argE 0 [.float .f64 a, .int .i64 c]) [] w = V74.vc B R a c w := by kernel_rfl
theorem V74.obl (B : Nat) (R : Value → World → Prop) : oblP (V74.cfg B) (V74.cuts B R) V74.code V74.h [] (postOf Tryd.prog B (Tryd.f74.results.toList) R) := by
  have e : oblP (V74.cfg B) (V74.cuts B R) V74.code V74.h [] (postOf Tryd.prog B (Tryd.f74.results.toList) R) = (True ∧ ((True ∧ (True ∧ (True ∧ (True ∧ True)))) ∧ (True ∧ True))) := by kernel_rfl
  rw [e]
  exact ⟨trivial, ⟨⟨trivial, ⟨trivial, ⟨trivial, ⟨trivial, trivial⟩⟩⟩⟩, ⟨trivial, trivial⟩⟩⟩
theorem V74.cfgOk (B : Nat) : CfgOk (V74.cfg B) := cfgOk_of (by kernel_rfl) (by kernel_rfl) extNil
theorem V74.sound {a : Nat} {d : Int} {w : World} {R : Value → World → Prop} (h : V74.vc w.heap.size R a d w) : Calls Tryd.prog 74 ⟨[.float .f64 a, .int .i64 d]⟩ w fun e w' => ∃ v, e = .returned v ∧ R v w' :=
  calls_wpfP (c := V74.cfg w.heap.size) (fn := Tryd.f74) (x := V74.code) (V74.cuts w.heap.size R) V74.h (V74.cfgOk _) mixed Tryd.func74 (by kernel_rfl) (by kernel_rfl) (by kernel_rfl) rfl (V74.obl _ _) ((V74.vc_eq _ _ a d _).symm ▸ h)
def V75.vc (B : Nat) (R : Value → World → Prop) (a : Nat) (w : World) : Prop :=
  RunK Tryd.prog (V80.ext [.float .f64 a]) B w [] fun v c => 
  ∃ d : Int, v = .int .u64 d ∧
  Ret B c (R (.bool (decide (IntKind.wrap .i64 d < 0))))
noncomputable def V75.cfg (B : Nat) : Cfg := ⟨Tryd.prog, ⟨7, B⟩, [], hasN [], hasN [], look [(80, V80.ext)]⟩
noncomputable def V75.code : Code := (Tryd.f75.body).getD .skip
noncomputable def V75.cuts (B : Nat) (R : Value → World → Prop) : Nat → Cut := nthC []
noncomputable def V75.h : H := .s (.z) (.s (.z) (.z))
theorem V75.vc_eq (B : Nat) (R : Value → World → Prop) (a : Nat) (w : World) : wpf (V75.cfg B) (V75.cuts B R) V75.code V75.h [] (postOf Tryd.prog B (Tryd.f75.results.toList) R) (argE 0 [.float .f64 a]) [] w = V75.vc B R a w := by kernel_rfl
theorem V75.obl (B : Nat) (R : Value → World → Prop) : oblP (V75.cfg B) (V75.cuts B R) V75.code V75.h [] (postOf Tryd.prog B (Tryd.f75.results.toList) R) := by
  have e : oblP (V75.cfg B) (V75.cuts B R) V75.code V75.h [] (postOf Tryd.prog B (Tryd.f75.results.toList) R) = (True ∧ (True ∧ True)) := by kernel_rfl
  rw [e]
  exact ⟨trivial, ⟨trivial, trivial⟩⟩
theorem V75.cfgOk (B : Nat) : CfgOk (V75.cfg B) := cfgOk_of (by kernel_rfl) (by kernel_rfl) (extCons V80.extOk extNil)
theorem V75.sound {a : Nat} {w : World} {R : Value → World → Prop} (h : V75.vc w.heap.size R a w) : Calls Tryd.prog 75 ⟨[.float .f64 a]⟩ w fun e w' => ∃ v, e = .returned v ∧ R v w' :=
  calls_wpfP (c := V75.cfg w.heap.size) (fn := Tryd.f75) (x := V75.code) (V75.cuts w.heap.size R) V75.h (V75.cfgOk _) mixed Tryd.func75 (by kernel_rfl) (by kernel_rfl) (by kernel_rfl) rfl (V75.obl _ _) ((V75.vc_eq _ _ a _).symm ▸ h)
def V76.vc (B : Nat) (R : Value → World → Prop) (a : Nat) (w : World) : Prop :=
  RunK Tryd.prog (V106.ext [.float .f64 a]) B w [] fun v c => 
  ∃ d : Nat, v = .float .f64 d ∧
  Ret B c (R (.float .f64 d))
noncomputable def V76.cfg (B : Nat) : Cfg := ⟨Tryd.prog, ⟨7, B⟩, [], hasN [], hasN [], look [(106, V106.ext)]⟩
noncomputable def V76.code : Code := (Tryd.f76.body).getD .skip
noncomputable def V76.cuts (B : Nat) (R : Value → World → Prop) : Nat → Cut := nthC []
noncomputable def V76.h : H := .s (.z) (.s (.c (.s (.z) (.z)) (.z)) (.s (.z) (.z)))
theorem V76.vc_eq (B : Nat) (R : Value → World → Prop) (a : Nat) (w : World) : wpf (V76.cfg B) (V76.cuts B R) V76.code V76.h [] (postOf Tryd.prog B (Tryd.f76.results.toList) R) (argE 0 [.float .f64 a]) [] w = V76.vc B R a w := by kernel_rfl
theorem V76.obl (B : Nat) (R : Value → World → Prop) : oblP (V76.cfg B) (V76.cuts B R) V76.code V76.h [] (postOf Tryd.prog B (Tryd.f76.results.toList) R) := by
  have e : oblP (V76.cfg B) (V76.cuts B R) V76.code V76.h [] (postOf Tryd.prog B (Tryd.f76.results.toList) R) = (True ∧ (((True ∧ True) ∧ True) ∧ (True ∧ True))) := by kernel_rfl
  rw [e]
  exact ⟨trivial, ⟨⟨⟨trivial, trivial⟩, trivial⟩, ⟨trivial, trivial⟩⟩⟩
theorem V76.cfgOk (B : Nat) : CfgOk (V76.cfg B) := cfgOk_of (by kernel_rfl) (by kernel_rfl) (extCons V106.extOk extNil)
theorem V76.sound {a : Nat} {w : World} {R : Value → World → Prop} (h : V76.vc w.heap.size R a w) : Calls Tryd.prog 76 ⟨[.float .f64 a]⟩ w fun e w' => ∃ v, e = .returned v ∧ R v w' :=
  calls_wpfP (c := V76.cfg w.heap.size) (fn := Tryd.f76) (x := V76.code) (V76.cuts w.heap.size R) V76.h (V76.cfgOk _) mixed Tryd.func76 (by kernel_rfl) (by kernel_rfl) (by kernel_rfl) rfl (V76.obl _ _) ((V76.vc_eq _ _ a _).symm ▸ h)
def V77.vc (B : Nat) (R : Value → World → Prop) (a : Nat) (w : World) : Prop :=
  RunK Tryd.prog (V80.ext [.float .f64 a]) B w [] fun v c => 
  ∃ d : Int, v = .int .u64 d ∧
  RunK Tryd.prog (V81.ext [.int .u64 (IntKind.wrap .u64 (((BitVec.ofInt 64 d &&& ~~~ BitVec.ofInt 64 9223372036854775808).toNat : Nat) : Int))]) B c [] fun f g => 
  ∃ i : Nat, f = .float .f64 i ∧
  Ret B g (R (.float .f64 i))
noncomputable def V77.cfg (B : Nat) : Cfg := ⟨Tryd.prog, ⟨7, B⟩, [], hasN [], hasN [], look [(80, V80.ext), (81, V81.ext)]⟩
noncomputable def V77.code : Code := (Tryd.f77.body).getD .skip
noncomputable def V77.cuts (B : Nat) (R : Value → World → Prop) : Nat → Cut := nthC []
noncomputable def V77.h : H := .s (.z) (.s (.z) (.z))
theorem V77.vc_eq (B : Nat) (R : Value → World → Prop) (a : Nat) (w : World) : wpf (V77.cfg B) (V77.cuts B R) V77.code V77.h [] (postOf Tryd.prog B (Tryd.f77.results.toList) R) (argE 0 [.float .f64 a]) [] w = V77.vc B R a w := by kernel_rfl
theorem V77.obl (B : Nat) (R : Value → World → Prop) : oblP (V77.cfg B) (V77.cuts B R) V77.code V77.h [] (postOf Tryd.prog B (Tryd.f77.results.toList) R) := by
  have e : oblP (V77.cfg B) (V77.cuts B R) V77.code V77.h [] (postOf Tryd.prog B (Tryd.f77.results.toList) R) = (True ∧ (True ∧ True)) := by kernel_rfl
  rw [e]
  exact ⟨trivial, ⟨trivial, trivial⟩⟩
theorem V77.cfgOk (B : Nat) : CfgOk (V77.cfg B) := cfgOk_of (by kernel_rfl) (by kernel_rfl) (extCons V80.extOk (extCons V81.extOk extNil))
theorem V77.sound {a : Nat} {w : World} {R : Value → World → Prop} (h : V77.vc w.heap.size R a w) : Calls Tryd.prog 77 ⟨[.float .f64 a]⟩ w fun e w' => ∃ v, e = .returned v ∧ R v w' :=
  calls_wpfP (c := V77.cfg w.heap.size) (fn := Tryd.f77) (x := V77.code) (V77.cuts w.heap.size R) V77.h (V77.cfgOk _) mixed Tryd.func77 (by kernel_rfl) (by kernel_rfl) (by kernel_rfl) rfl (V77.obl _ _) ((V77.vc_eq _ _ a _).symm ▸ h)
def V83.vc (B : Nat) (R : Value → World → Prop) (a : Nat) (w : World) : Prop :=
  RunK Tryd.prog (V110.ext [.float .f64 a]) B w [] fun v c => 
  ∃ d : Nat, v = .float .f64 d ∧
  Ret B c (R (.float .f64 d))
noncomputable def V83.cfg (B : Nat) : Cfg := ⟨Tryd.prog, ⟨7, B⟩, [], hasN [], hasN [], look [(110, V110.ext)]⟩
noncomputable def V83.code : Code := (Tryd.f83.body).getD .skip
noncomputable def V83.cuts (B : Nat) (R : Value → World → Prop) : Nat → Cut := nthC []
noncomputable def V83.h : H := .s (.z) (.s (.c (.s (.z) (.z)) (.z)) (.s (.z) (.z)))
theorem V83.vc_eq (B : Nat) (R : Value → World → Prop) (a : Nat) (w : World) : wpf (V83.cfg B) (V83.cuts B R) V83.code V83.h [] (postOf Tryd.prog B (Tryd.f83.results.toList) R) (argE 0 [.float .f64 a]) [] w = V83.vc B R a w := by kernel_rfl
theorem V83.obl (B : Nat) (R : Value → World → Prop) : oblP (V83.cfg B) (V83.cuts B R) V83.code V83.h [] (postOf Tryd.prog B (Tryd.f83.results.toList) R) := by
  have e : oblP (V83.cfg B) (V83.cuts B R) V83.code V83.h [] (postOf Tryd.prog B (Tryd.f83.results.toList) R) = (True ∧ (((True ∧ True) ∧ True) ∧ (True ∧ True))) := by kernel_rfl
  rw [e]
  exact ⟨trivial, ⟨⟨⟨trivial, trivial⟩, trivial⟩, ⟨trivial, trivial⟩⟩⟩
theorem V83.cfgOk (B : Nat) : CfgOk (V83.cfg B) := cfgOk_of (by kernel_rfl) (by kernel_rfl) (extCons V110.extOk extNil)
theorem V83.sound {a : Nat} {w : World} {R : Value → World → Prop} (h : V83.vc w.heap.size R a w) : Calls Tryd.prog 83 ⟨[.float .f64 a]⟩ w fun e w' => ∃ v, e = .returned v ∧ R v w' :=
  calls_wpfP (c := V83.cfg w.heap.size) (fn := Tryd.f83) (x := V83.code) (V83.cuts w.heap.size R) V83.h (V83.cfgOk _) mixed Tryd.func83 (by kernel_rfl) (by kernel_rfl) (by kernel_rfl) rfl (V83.obl _ _) ((V83.vc_eq _ _ a _).symm ▸ h)
end Go.Proofs.YtofblkmibghmbaaDoor
