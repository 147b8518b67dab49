import Derived.Test.YtidcpndlloppdaaZFE
/-
 What the engine makes of the loaded functions 66, 32, 36, 90, 89, 91, 68, 96, 10, 67, 95, 92, 93, 17, 50, 103, 111, 110, 109, 88, 101, 102, 100, 100: conditions under which a call returns as told, and proofs of that.
 Conditions: none. Printed by a program of this project.
-/
set_option linter.unusedVariables false
set_option maxRecDepth 100000
namespace Go.Proofs.Ytidcpndlloppdaa
def V66.vc (B : Nat) (R : Value → World → Prop) (a : Int) (w : World) : Prop :=
 CallK Try.prog 36 [.int .u64 a] B w [] fun v c => 
 ∃ d : Nat, v = .float .f64 d ∧
 CallK Try.prog 32 [.float .f64 (Op.negFloat .f64 d)] B c [] fun f g => 
 ∃ i : Int, f = .int .u64 i ∧
 Ret B g (R (.int .u64 i))
noncomputable def V66.cfg (B : Nat) : Cfg := ⟨Try.prog, ⟨7, B⟩, [], hasN [32, 36], hasN [], look []⟩
noncomputable def V66.code : Code := (Try.f66.body).getD .skip
noncomputable def V66.cuts (B : Nat) (R : Value → World → Prop) : Nat → Cut := nthC []
noncomputable def V66.h : H := .s (.z) (.s (.z) (.z))
theorem V66.vc_eq (B : Nat) (R : Value → World → Prop) (a : Int) (w : World) : wpf (V66.cfg B) (V66.cuts B R) V66.code V66.h [] (postOf Try.prog B (Try.f66.results.toList) R) (argE 0 [.int .u64 a]) [] w = V66.vc B R a w := by kernel_rfl
theorem V66.obl (B : Nat) (R : Value → World → Prop) : oblP (V66.cfg B) (V66.cuts B R) V66.code V66.h [] (postOf Try.prog B (Try.f66.results.toList) R) := by
 have e : oblP (V66.cfg B) (V66.cuts B R) V66.code V66.h [] (postOf Try.prog B (Try.f66.results.toList) R) = (True ∧ (True ∧ True)) := by kernel_rfl
 exact e.mpr (⟨trivial, ⟨trivial, trivial⟩⟩)
theorem V66.cfgOk (B : Nat) : CfgOk (V66.cfg B) := cfgOk_of (by kernel_rfl) (by kernel_rfl) extNil
theorem V66.sound {a : Int} {w : World} {R : Value → World → Prop} (h : V66.vc w.heap.size R a w) : Calls Try.prog 66 ⟨[.int .u64 a]⟩ w fun e w' => ∃ v, e = .returned v ∧ R v w' :=
 calls_wpfP (c := V66.cfg w.heap.size) (fn := Try.f66) (x := V66.code) (V66.cuts w.heap.size R) V66.h (V66.cfgOk _) mixed Try.func66 (by kernel_rfl) (by kernel_rfl) (by kernel_rfl) rfl (V66.obl _ _) ((V66.vc_eq _ _ a _).symm ▸ h)
def V32.vc (B : Nat) (R : Value → World → Prop) (a : Nat) (w : World) : Prop :=
 CallK Try.prog 50 [.float .f64 a] B w [] fun v c => 
 ∃ d : Bool, v = .bool d ∧
 if d = true
 then (Ret B c (R (.int .u64 9221120237041090560)))
 else (RunK Try.prog (V51.ext [.float .f64 a]) B c [] fun f g => 
 ∃ i : Int, f = .int .u64 i ∧
 Ret B g (R (.int .u64 i)))
noncomputable def V32.cfg (B : Nat) : Cfg := ⟨Try.prog, ⟨7, B⟩, [], hasN [50], hasN [], look [(51, V51.ext)]⟩
noncomputable def V32.code : Code := (Try.f32.body).getD .skip
noncomputable def V32.cuts (B : Nat) (R : Value → World → Prop) : Nat → Cut := nthC []
noncomputable def V32.h : H := .s (.z) (.s (.s (.z) (.c (.s (.z) (.z)) (.z))) (.s (.z) (.z)))
theorem V32.vc_eq (B : Nat) (R : Value → World → Prop) (a : Nat) (w : World) : wpf (V32.cfg B) (V32.cuts B R) V32.code V32.h [] (postOf Try.prog B (Try.f32.results.toList) R) (argE 0 [.float .f64 a]) [] w = V32.vc B R a w := by kernel_rfl
theorem V32.obl (B : Nat) (R : Value → World → Prop) : oblP (V32.cfg B) (V32.cuts B R) V32.code V32.h [] (postOf Try.prog B (Try.f32.results.toList) R) := by
 have e : oblP (V32.cfg B) (V32.cuts B R) V32.code V32.h [] (postOf Try.prog B (Try.f32.results.toList) R) = (True ∧ ((True ∧ ((True ∧ True) ∧ True)) ∧ (True ∧ True))) := by kernel_rfl
 exact e.mpr (⟨trivial, ⟨⟨trivial, ⟨⟨trivial, trivial⟩, trivial⟩⟩, ⟨trivial, trivial⟩⟩⟩)
theorem V32.cfgOk (B : Nat) : CfgOk (V32.cfg B) := cfgOk_of (by kernel_rfl) (by kernel_rfl) (extCons V51.extOk extNil)
theorem V32.sound {a : Nat} {w : World} {R : Value → World → Prop} (h : V32.vc w.heap.size R a w) : Calls Try.prog 32 ⟨[.float .f64 a]⟩ w fun e w' => ∃ v, e = .returned v ∧ R v w' :=
 calls_wpfP (c := V32.cfg w.heap.size) (fn := Try.f32) (x := V32.code) (V32.cuts w.heap.size R) V32.h (V32.cfgOk _) mixed Try.func32 (by kernel_rfl) (by kernel_rfl) (by kernel_rfl) rfl (V32.obl _ _) ((V32.vc_eq _ _ a _).symm ▸ h)
def V36.vc (B : Nat) (R : Value → World → Prop) (a : Int) (w : World) : Prop :=
 RunK Try.prog (V55.ext [.int .u64 a]) B w [] fun v c => 
 ∃ d : Nat, v = .float .f64 d ∧
 Ret B c (R (.float .f64 d))
noncomputable def V36.cfg (B : Nat) : Cfg := ⟨Try.prog, ⟨5, B⟩, [], hasN [], hasN [], look [(55, V55.ext)]⟩
noncomputable def V36.code : Code := (Try.f36.body).getD .skip
noncomputable def V36.cuts (B : Nat) (R : Value → World → Prop) : Nat → Cut := nthC []
noncomputable def V36.h : H := .s (.z) (.s (.z) (.z))
theorem V36.vc_eq (B : Nat) (R : Value → World → Prop) (a : Int) (w : World) : wpf (V36.cfg B) (V36.cuts B R) V36.code V36.h [] (postOf Try.prog B (Try.f36.results.toList) R) (argE 0 [.int .u64 a]) [] w = V36.vc B R a w := by kernel_rfl
theorem V36.obl (B : Nat) (R : Value → World → Prop) : oblP (V36.cfg B) (V36.cuts B R) V36.code V36.h [] (postOf Try.prog B (Try.f36.results.toList) R) := by
 have e : oblP (V36.cfg B) (V36.cuts B R) V36.code V36.h [] (postOf Try.prog B (Try.f36.results.toList) R) = (True ∧ (True ∧ True)) := by kernel_rfl
 exact e.mpr (⟨trivial, ⟨trivial, trivial⟩⟩)
theorem V36.cfgOk (B : Nat) : CfgOk (V36.cfg B) := cfgOk_of (by kernel_rfl) (by kernel_rfl) (extCons V55.extOk extNil)
theorem V36.sound {a : Int} {w : World} {R : Value → World → Prop} (h : V36.vc w.heap.size R a w) : Calls Try.prog 36 ⟨[.int .u64 a]⟩ w fun e w' => ∃ v, e = .returned v ∧ R v w' :=
 calls_wpfP (c := V36.cfg w.heap.size) (fn := Try.f36) (x := V36.code) (V36.cuts w.heap.size R) V36.h (V36.cfgOk _) mixed Try.func36 (by kernel_rfl) (by kernel_rfl) (by kernel_rfl) rfl (V36.obl _ _) ((V36.vc_eq _ _ a _).symm ▸ h)
def V90.vc (B : Nat) (R : Value → World → Prop) (a c : Int) (w : World) : Prop :=
 CallK Try.prog 36 [.int .u64 a] B w [] fun v d => 
 ∃ f : Nat, v = .float .f64 f ∧
 CallK Try.prog 36 [.int .u64 c] B d [] fun g i => 
 ∃ j : Nat, g = .float .f64 j ∧
 RunK Try.prog (Go.binOp .sub 72 (.float .f64 f) (.float .f64 j)) B i [] fun l m => 
 ∃ n : Nat, l = .float .f64 n ∧
 CallK Try.prog 32 [.float .f64 n] B m [] fun o p => 
 ∃ q : Int, o = .int .u64 q ∧
 Ret B p (R (.int .u64 q))
noncomputable def V90.cfg (B : Nat) : Cfg := ⟨Try.prog, ⟨11, B⟩, [], hasN [32, 36], hasN [], look []⟩
noncomputable def V90.code : Code := (Try.f90.body).getD .skip
noncomputable def V90.cuts (B : Nat) (R : Value → World → Prop) : Nat → Cut := nthC []
noncomputable def V90.h : H := .s (.z) (.s (.z) (.z))
theorem V90.vc_eq (B : Nat) (R : Value → World → Prop) (a c : Int) (w : World) : wpf (V90.cfg B) (V90.cuts B R) V90.code V90.h [] (postOf Try.prog B (Try.f90.results.toList) R) (argE 0 [.int .u64 a, .int .u64 c]) [] w = V90.vc B R a c w := by kernel_rfl
theorem V90.obl (B : Nat) (R : Value → World → Prop) : oblP (V90.cfg B) (V90.cuts B R) V90.code V90.h [] (postOf Try.prog B (Try.f90.results.toList) R) := by
 have e : oblP (V90.cfg B) (V90.cuts B R) V90.code V90.h [] (postOf Try.prog B (Try.f90.results.toList) R) = (True ∧ (True ∧ True)) := by kernel_rfl
 exact e.mpr (⟨trivial, ⟨trivial, trivial⟩⟩)
theorem V90.cfgOk (B : Nat) : CfgOk (V90.cfg B) := cfgOk_of (by kernel_rfl) (by kernel_rfl) extNil
theorem V90.sound {a d : Int} {w : World} {R : Value → World → Prop} (h : V90.vc w.heap.size R a d w) : Calls Try.prog 90 ⟨[.int .u64 a, .int .u64 d]⟩ w fun e w' => ∃ v, e = .returned v ∧ R v w' :=
 calls_wpfP (c := V90.cfg w.heap.size) (fn := Try.f90) (x := V90.code) (V90.cuts w.heap.size R) V90.h (V90.cfgOk _) mixed Try.func90 (by kernel_rfl) (by kernel_rfl) (by kernel_rfl) rfl (V90.obl _ _) ((V90.vc_eq _ _ a d _).symm ▸ h)
def V89.vc (B : Nat) (R : Value → World → Prop) (a c : Int) (w : World) : Prop :=
 CallK Try.prog 36 [.int .u64 a] B w [] fun v d => 
 ∃ f : Nat, v = .float .f64 f ∧
 CallK Try.prog 36 [.int .u64 c] B d [] fun g i => 
 ∃ j : Nat, g = .float .f64 j ∧
 RunK Try.prog (Go.binOp .add 72 (.float .f64 f) (.float .f64 j)) B i [] fun l m => 
 ∃ n : Nat, l = .float .f64 n ∧
 CallK Try.prog 32 [.float .f64 n] B m [] fun o p => 
 ∃ q : Int, o = .int .u64 q ∧
 Ret B p (R (.int .u64 q))
noncomputable def V89.cfg (B : Nat) : Cfg := ⟨Try.prog, ⟨11, B⟩, [], hasN [32, 36], hasN [], look []⟩
noncomputable def V89.code : Code := (Try.f89.body).getD .skip
noncomputable def V89.cuts (B : Nat) (R : Value → World → Prop) : Nat → Cut := nthC []
noncomputable def V89.h : H := .s (.z) (.s (.z) (.z))
theorem V89.vc_eq (B : Nat) (R : Value → World → Prop) (a c : Int) (w : World) : wpf (V89.cfg B) (V89.cuts B R) V89.code V89.h [] (postOf Try.prog B (Try.f89.results.toList) R) (argE 0 [.int .u64 a, .int .u64 c]) [] w = V89.vc B R a c w := by kernel_rfl
theorem V89.obl (B : Nat) (R : Value → World → Prop) : oblP (V89.cfg B) (V89.cuts B R) V89.code V89.h [] (postOf Try.prog B (Try.f89.results.toList) R) := by
 have e : oblP (V89.cfg B) (V89.cuts B R) V89.code V89.h [] (postOf Try.prog B (Try.f89.results.toList) R) = (True ∧ (True ∧ True)) := by kernel_rfl
 exact e.mpr (⟨trivial, ⟨trivial, trivial⟩⟩)
theorem V89.cfgOk (B : Nat) : CfgOk (V89.cfg B) := cfgOk_of (by kernel_rfl) (by kernel_rfl) extNil
theorem V89.sound {a d : Int} {w : World} {R : Value → World → Prop} (h : V89.vc w.heap.size R a d w) : Calls Try.prog 89 ⟨[.int .u64 a, .int .u64 d]⟩ w fun e w' => ∃ v, e = .returned v ∧ R v w' :=
 calls_wpfP (c := V89.cfg w.heap.size) (fn := Try.f89) (x := V89.code) (V89.cuts w.heap.size R) V89.h (V89.cfgOk _) mixed Try.func89 (by kernel_rfl) (by kernel_rfl) (by kernel_rfl) rfl (V89.obl _ _) ((V89.vc_eq _ _ a d _).symm ▸ h)
def V91.vc (B : Nat) (R : Value → World → Prop) (a c : Int) (w : World) : Prop :=
 CallK Try.prog 36 [.int .u64 a] B w [] fun v d => 
 ∃ f : Nat, v = .float .f64 f ∧
 CallK Try.prog 36 [.int .u64 c] B d [] fun g i => 
 ∃ j : Nat, g = .float .f64 j ∧
 RunK Try.prog (Go.binOp .mul 72 (.float .f64 f) (.float .f64 j)) B i [] fun l m => 
 ∃ n : Nat, l = .float .f64 n ∧
 CallK Try.prog 32 [.float .f64 n] B m [] fun o p => 
 ∃ q : Int, o = .int .u64 q ∧
 Ret B p (R (.int .u64 q))
noncomputable def V91.cfg (B : Nat) : Cfg := ⟨Try.prog, ⟨11, B⟩, [], hasN [32, 36], hasN [], look []⟩
noncomputable def V91.code : Code := (Try.f91.body).getD .skip
noncomputable def V91.cuts (B : Nat) (R : Value → World → Prop) : Nat → Cut := nthC []
noncomputable def V91.h : H := .s (.z) (.s (.z) (.z))
theorem V91.vc_eq (B : Nat) (R : Value → World → Prop) (a c : Int) (w : World) : wpf (V91.cfg B) (V91.cuts B R) V91.code V91.h [] (postOf Try.prog B (Try.f91.results.toList) R) (argE 0 [.int .u64 a, .int .u64 c]) [] w = V91.vc B R a c w := by kernel_rfl
theorem V91.obl (B : Nat) (R : Value → World → Prop) : oblP (V91.cfg B) (V91.cuts B R) V91.code V91.h [] (postOf Try.prog B (Try.f91.results.toList) R) := by
 have e : oblP (V91.cfg B) (V91.cuts B R) V91.code V91.h [] (postOf Try.prog B (Try.f91.results.toList) R) = (True ∧ (True ∧ True)) := by kernel_rfl
 exact e.mpr (⟨trivial, ⟨trivial, trivial⟩⟩)
theorem V91.cfgOk (B : Nat) : CfgOk (V91.cfg B) := cfgOk_of (by kernel_rfl) (by kernel_rfl) extNil
theorem V91.sound {a d : Int} {w : World} {R : Value → World → Prop} (h : V91.vc w.heap.size R a d w) : Calls Try.prog 91 ⟨[.int .u64 a, .int .u64 d]⟩ w fun e w' => ∃ v, e = .returned v ∧ R v w' :=
 calls_wpfP (c := V91.cfg w.heap.size) (fn := Try.f91) (x := V91.code) (V91.cuts w.heap.size R) V91.h (V91.cfgOk _) mixed Try.func91 (by kernel_rfl) (by kernel_rfl) (by kernel_rfl) rfl (V91.obl _ _) ((V91.vc_eq _ _ a d _).symm ▸ h)
def V68.vc (B : Nat) (R : Value → World → Prop) (a : Int) (w : World) : Prop :=
 CallK Try.prog 36 [.int .u64 a] B w [] fun v c => 
 ∃ d : Nat, v = .float .f64 d ∧
 Ret B c (R (.bool (FloatKind.f64.format.order d 0 != some .eq)))
noncomputable def V68.cfg (B : Nat) : Cfg := ⟨Try.prog, ⟨6, B⟩, [], hasN [36], hasN [], look []⟩
noncomputable def V68.code : Code := (Try.f68.body).getD .skip
noncomputable def V68.cuts (B : Nat) (R : Value → World → Prop) : Nat → Cut := nthC []
noncomputable def V68.h : H := .s (.z) (.s (.z) (.z))
theorem V68.vc_eq (B : Nat) (R : Value → World → Prop) (a : Int) (w : World) : wpf (V68.cfg B) (V68.cuts B R) V68.code V68.h [] (postOf Try.prog B (Try.f68.results.toList) R) (argE 0 [.int .u64 a]) [] w = V68.vc B R a w := by kernel_rfl
theorem V68.obl (B : Nat) (R : Value → World → Prop) : oblP (V68.cfg B) (V68.cuts B R) V68.code V68.h [] (postOf Try.prog B (Try.f68.results.toList) R) := by
 have e : oblP (V68.cfg B) (V68.cuts B R) V68.code V68.h [] (postOf Try.prog B (Try.f68.results.toList) R) = (True ∧ (True ∧ True)) := by kernel_rfl
 exact e.mpr (⟨trivial, ⟨trivial, trivial⟩⟩)
theorem V68.cfgOk (B : Nat) : CfgOk (V68.cfg B) := cfgOk_of (by kernel_rfl) (by kernel_rfl) extNil
theorem V68.sound {a : Int} {w : World} {R : Value → World → Prop} (h : V68.vc w.heap.size R a w) : Calls Try.prog 68 ⟨[.int .u64 a]⟩ w fun e w' => ∃ v, e = .returned v ∧ R v w' :=
 calls_wpfP (c := V68.cfg w.heap.size) (fn := Try.f68) (x := V68.code) (V68.cuts w.heap.size R) V68.h (V68.cfgOk _) mixed Try.func68 (by kernel_rfl) (by kernel_rfl) (by kernel_rfl) rfl (V68.obl _ _) ((V68.vc_eq _ _ a _).symm ▸ h)
def V96.vc (B : Nat) (R : Value → World → Prop) (a c : Int) (w : World) : Prop :=
 CallK Try.prog 36 [.int .u64 a] B w [] fun v d => 
 ∃ f : Nat, v = .float .f64 f ∧
 CallK Try.prog 36 [.int .u64 c] B d [] fun g i => 
 ∃ j : Nat, g = .float .f64 j ∧
 Ret B i (R (.bool (FloatKind.f64.format.order f j == some .eq)))
noncomputable def V96.cfg (B : Nat) : Cfg := ⟨Try.prog, ⟨10, B⟩, [], hasN [36], hasN [], look []⟩
noncomputable def V96.code : Code := (Try.f96.body).getD .skip
noncomputable def V96.cuts (B : Nat) (R : Value → World → Prop) : Nat → Cut := nthC []
noncomputable def V96.h : H := .s (.z) (.s (.z) (.z))
theorem V96.vc_eq (B : Nat) (R : Value → World → Prop) (a c : Int) (w : World) : wpf (V96.cfg B) (V96.cuts B R) V96.code V96.h [] (postOf Try.prog B (Try.f96.results.toList) R) (argE 0 [.int .u64 a, .int .u64 c]) [] w = V96.vc B R a c w := by kernel_rfl
theorem V96.obl (B : Nat) (R : Value → World → Prop) : oblP (V96.cfg B) (V96.cuts B R) V96.code V96.h [] (postOf Try.prog B (Try.f96.results.toList) R) := by
 have e : oblP (V96.cfg B) (V96.cuts B R) V96.code V96.h [] (postOf Try.prog B (Try.f96.results.toList) R) = (True ∧ (True ∧ True)) := by kernel_rfl
 exact e.mpr (⟨trivial, ⟨trivial, trivial⟩⟩)
theorem V96.cfgOk (B : Nat) : CfgOk (V96.cfg B) := cfgOk_of (by kernel_rfl) (by kernel_rfl) extNil
theorem V96.sound {a d : Int} {w : World} {R : Value → World → Prop} (h : V96.vc w.heap.size R a d w) : Calls Try.prog 96 ⟨[.int .u64 a, .int .u64 d]⟩ w fun e w' => ∃ v, e = .returned v ∧ R v w' :=
 calls_wpfP (c := V96.cfg w.heap.size) (fn := Try.f96) (x := V96.code) (V96.cuts w.heap.size R) V96.h (V96.cfgOk _) mixed Try.func96 (by kernel_rfl) (by kernel_rfl) (by kernel_rfl) rfl (V96.obl _ _) ((V96.vc_eq _ _ a d _).symm ▸ h)
def V10.vc (B : Nat) (R : Value → World → Prop) (a : Int) (w : World) : Prop :=
 CallK Try.prog 32 [.float .f64 (FloatKind.nearest .f64 a)] B w [] fun v c => 
 ∃ d : Int, v = .int .u64 d ∧
 Ret B c (R (.int .u64 d))
noncomputable def V10.cfg (B : Nat) : Cfg := ⟨Try.prog, ⟨6, B⟩, [], hasN [32], hasN [], look []⟩
noncomputable def V10.code : Code := (Try.f10.body).getD .skip
noncomputable def V10.cuts (B : Nat) (R : Value → World → Prop) : Nat → Cut := nthC []
noncomputable def V10.h : H := .s (.z) (.s (.z) (.z))
theorem V10.vc_eq (B : Nat) (R : Value → World → Prop) (a : Int) (w : World) : wpf (V10.cfg B) (V10.cuts B R) V10.code V10.h [] (postOf Try.prog B (Try.f10.results.toList) R) (argE 0 [.int .i64 a]) [] w = V10.vc B R a w := by kernel_rfl
theorem V10.obl (B : Nat) (R : Value → World → Prop) : oblP (V10.cfg B) (V10.cuts B R) V10.code V10.h [] (postOf Try.prog B (Try.f10.results.toList) R) := by
 have e : oblP (V10.cfg B) (V10.cuts B R) V10.code V10.h [] (postOf Try.prog B (Try.f10.results.toList) R) = (True ∧ (True ∧ True)) := by kernel_rfl
 exact e.mpr (⟨trivial, ⟨trivial, trivial⟩⟩)
theorem V10.cfgOk (B : Nat) : CfgOk (V10.cfg B) := cfgOk_of (by kernel_rfl) (by kernel_rfl) extNil
theorem V10.sound {a : Int} {w : World} {R : Value → World → Prop} (h : V10.vc w.heap.size R a w) : Calls Try.prog 10 ⟨[.int .i64 a]⟩ w fun e w' => ∃ v, e = .returned v ∧ R v w' :=
 calls_wpfP (c := V10.cfg w.heap.size) (fn := Try.f10) (x := V10.code) (V10.cuts w.heap.size R) V10.h (V10.cfgOk _) mixed Try.func10 (by kernel_rfl) (by kernel_rfl) (by kernel_rfl) rfl (V10.obl _ _) ((V10.vc_eq _ _ a _).symm ▸ h)
def V67.vc (B : Nat) (R : Value → World → Prop) (a : Int) (w : World) : Prop :=
 CallK Try.prog 36 [.int .u64 a] B w [] fun v c => 
 ∃ d : Nat, v = .float .f64 d ∧
 CallK Try.prog 88 [.float .f64 d] B c [] fun f g => 
 ∃ i : Nat, f = .float .f64 i ∧
 CallK Try.prog 32 [.float .f64 i] B g [] fun j l => 
 ∃ m : Int, j = .int .u64 m ∧
 Ret B l (R (.int .u64 m))
noncomputable def V67.cfg (B : Nat) : Cfg := ⟨Try.prog, ⟨7, B⟩, [], hasN [32, 36, 88], hasN [], look []⟩
noncomputable def V67.code : Code := (Try.f67.body).getD .skip
noncomputable def V67.cuts (B : Nat) (R : Value → World → Prop) : Nat → Cut := nthC []
noncomputable def V67.h : H := .s (.z) (.s (.z) (.z))
theorem V67.vc_eq (B : Nat) (R : Value → World → Prop) (a : Int) (w : World) : wpf (V67.cfg B) (V67.cuts B R) V67.code V67.h [] (postOf Try.prog B (Try.f67.results.toList) R) (argE 0 [.int .u64 a]) [] w = V67.vc B R a w := by kernel_rfl
theorem V67.obl (B : Nat) (R : Value → World → Prop) : oblP (V67.cfg B) (V67.cuts B R) V67.code V67.h [] (postOf Try.prog B (Try.f67.results.toList) R) := by
 have e : oblP (V67.cfg B) (V67.cuts B R) V67.code V67.h [] (postOf Try.prog B (Try.f67.results.toList) R) = (True ∧ (True ∧ True)) := by kernel_rfl
 exact e.mpr (⟨trivial, ⟨trivial, trivial⟩⟩)
theorem V67.cfgOk (B : Nat) : CfgOk (V67.cfg B) := cfgOk_of (by kernel_rfl) (by kernel_rfl) extNil
theorem V67.sound {a : Int} {w : World} {R : Value → World → Prop} (h : V67.vc w.heap.size R a w) : Calls Try.prog 67 ⟨[.int .u64 a]⟩ w fun e w' => ∃ v, e = .returned v ∧ R v w' :=
 calls_wpfP (c := V67.cfg w.heap.size) (fn := Try.f67) (x := V67.code) (V67.cuts w.heap.size R) V67.h (V67.cfgOk _) mixed Try.func67 (by kernel_rfl) (by kernel_rfl) (by kernel_rfl) rfl (V67.obl _ _) ((V67.vc_eq _ _ a _).symm ▸ h)
def V95.vc (B : Nat) (R : Value → World → Prop) (a c : Int) (w : World) : Prop :=
 CallK Try.prog 36 [.int .u64 a] B w [] fun v d => 
 ∃ f : Nat, v = .float .f64 f ∧
 CallK Try.prog 36 [.int .u64 c] B d [] fun g i => 
 ∃ j : Nat, g = .float .f64 j ∧
 Ret B i (R (.bool (FloatKind.f64.format.order f j == some .lt)))
noncomputable def V95.cfg (B : Nat) : Cfg := ⟨Try.prog, ⟨10, B⟩, [], hasN [36], hasN [], look []⟩
noncomputable def V95.code : Code := (Try.f95.body).getD .skip
noncomputable def V95.cuts (B : Nat) (R : Value → World → Prop) : Nat → Cut := nthC []
noncomputable def V95.h : H := .s (.z) (.s (.z) (.z))
theorem V95.vc_eq (B : Nat) (R : Value → World → Prop) (a c : Int) (w : World) : wpf (V95.cfg B) (V95.cuts B R) V95.code V95.h [] (postOf Try.prog B (Try.f95.results.toList) R) (argE 0 [.int .u64 a, .int .u64 c]) [] w = V95.vc B R a c w := by kernel_rfl
theorem V95.obl (B : Nat) (R : Value → World → Prop) : oblP (V95.cfg B) (V95.cuts B R) V95.code V95.h [] (postOf Try.prog B (Try.f95.results.toList) R) := by
 have e : oblP (V95.cfg B) (V95.cuts B R) V95.code V95.h [] (postOf Try.prog B (Try.f95.results.toList) R) = (True ∧ (True ∧ True)) := by kernel_rfl
 exact e.mpr (⟨trivial, ⟨trivial, trivial⟩⟩)
theorem V95.cfgOk (B : Nat) : CfgOk (V95.cfg B) := cfgOk_of (by kernel_rfl) (by kernel_rfl) extNil
theorem V95.sound {a d : Int} {w : World} {R : Value → World → Prop} (h : V95.vc w.heap.size R a d w) : Calls Try.prog 95 ⟨[.int .u64 a, .int .u64 d]⟩ w fun e w' => ∃ v, e = .returned v ∧ R v w' :=
 calls_wpfP (c := V95.cfg w.heap.size) (fn := Try.f95) (x := V95.code) (V95.cuts w.heap.size R) V95.h (V95.cfgOk _) mixed Try.func95 (by kernel_rfl) (by kernel_rfl) (by kernel_rfl) rfl (V95.obl _ _) ((V95.vc_eq _ _ a d _).symm ▸ h)
def V92.vc (B : Nat) (R : Value → World → Prop) (a c : Int) (w : World) : Prop :=
 CallK Try.prog 100 [.int .u64 a, .int .u64 c, .func (.func 101) #[] #[]] B w [] fun v d => 
 ∃ f : Int, v = .int .u64 f ∧
 Ret B d (R (.int .u64 f))
noncomputable def V92.cfg (B : Nat) : Cfg := ⟨Try.prog, ⟨8, B⟩, [], hasN [100], hasN [], look []⟩
noncomputable def V92.code : Code := (Try.f92.body).getD .skip
noncomputable def V92.cuts (B : Nat) (R : Value → World → Prop) : Nat → Cut := nthC []
noncomputable def V92.h : H := .s (.z) (.s (.z) (.z))
theorem V92.vc_eq (B : Nat) (R : Value → World → Prop) (a c : Int) (w : World) : wpf (V92.cfg B) (V92.cuts B R) V92.code V92.h [] (postOf Try.prog B (Try.f92.results.toList) R) (argE 0 [.int .u64 a, .int .u64 c]) [] w = V92.vc B R a c w := by kernel_rfl
theorem V92.obl (B : Nat) (R : Value → World → Prop) : oblP (V92.cfg B) (V92.cuts B R) V92.code V92.h [] (postOf Try.prog B (Try.f92.results.toList) R) := by
 have e : oblP (V92.cfg B) (V92.cuts B R) V92.code V92.h [] (postOf Try.prog B (Try.f92.results.toList) R) = (True ∧ (True ∧ True)) := by kernel_rfl
 exact e.mpr (⟨trivial, ⟨trivial, trivial⟩⟩)
theorem V92.cfgOk (B : Nat) : CfgOk (V92.cfg B) := cfgOk_of (by kernel_rfl) (by kernel_rfl) extNil
theorem V92.sound {a d : Int} {w : World} {R : Value → World → Prop} (h : V92.vc w.heap.size R a d w) : Calls Try.prog 92 ⟨[.int .u64 a, .int .u64 d]⟩ w fun e w' => ∃ v, e = .returned v ∧ R v w' :=
 calls_wpfP (c := V92.cfg w.heap.size) (fn := Try.f92) (x := V92.code) (V92.cuts w.heap.size R) V92.h (V92.cfgOk _) mixed Try.func92 (by kernel_rfl) (by kernel_rfl) (by kernel_rfl) rfl (V92.obl _ _) ((V92.vc_eq _ _ a d _).symm ▸ h)
def V93.vc (B : Nat) (R : Value → World → Prop) (a c : Int) (w : World) : Prop :=
 CallK Try.prog 100 [.int .u64 a, .int .u64 c, .func (.func 102) #[] #[]] B w [] fun v d => 
 ∃ f : Int, v = .int .u64 f ∧
 Ret B d (R (.int .u64 f))
noncomputable def V93.cfg (B : Nat) : Cfg := ⟨Try.prog, ⟨8, B⟩, [], hasN [100], hasN [], look []⟩
noncomputable def V93.code : Code := (Try.f93.body).getD .skip
noncomputable def V93.cuts (B : Nat) (R : Value → World → Prop) : Nat → Cut := nthC []
noncomputable def V93.h : H := .s (.z) (.s (.z) (.z))
theorem V93.vc_eq (B : Nat) (R : Value → World → Prop) (a c : Int) (w : World) : wpf (V93.cfg B) (V93.cuts B R) V93.code V93.h [] (postOf Try.prog B (Try.f93.results.toList) R) (argE 0 [.int .u64 a, .int .u64 c]) [] w = V93.vc B R a c w := by kernel_rfl
theorem V93.obl (B : Nat) (R : Value → World → Prop) : oblP (V93.cfg B) (V93.cuts B R) V93.code V93.h [] (postOf Try.prog B (Try.f93.results.toList) R) := by
 have e : oblP (V93.cfg B) (V93.cuts B R) V93.code V93.h [] (postOf Try.prog B (Try.f93.results.toList) R) = (True ∧ (True ∧ True)) := by kernel_rfl
 exact e.mpr (⟨trivial, ⟨trivial, trivial⟩⟩)
theorem V93.cfgOk (B : Nat) : CfgOk (V93.cfg B) := cfgOk_of (by kernel_rfl) (by kernel_rfl) extNil
theorem V93.sound {a d : Int} {w : World} {R : Value → World → Prop} (h : V93.vc w.heap.size R a d w) : Calls Try.prog 93 ⟨[.int .u64 a, .int .u64 d]⟩ w fun e w' => ∃ v, e = .returned v ∧ R v w' :=
 calls_wpfP (c := V93.cfg w.heap.size) (fn := Try.f93) (x := V93.code) (V93.cuts w.heap.size R) V93.h (V93.cfgOk _) mixed Try.func93 (by kernel_rfl) (by kernel_rfl) (by kernel_rfl) rfl (V93.obl _ _) ((V93.vc_eq _ _ a d _).symm ▸ h)
def V17.vc (B : Nat) (R : Value → World → Prop) (a c : Int) (w : World) : Prop :=
 CallK Try.prog 36 [.int .u64 a] B w [] fun v d => 
 ∃ f : Nat, v = .float .f64 f ∧
 CallK Try.prog 36 [.int .u64 c] B d [] fun g i => 
 ∃ j : Nat, g = .float .f64 j ∧
 RunK Try.prog (Go.binOp .quo 72 (.float .f64 f) (.float .f64 j)) B i [] fun l m => 
 ∃ n : Nat, l = .float .f64 n ∧
 CallK Try.prog 32 [.float .f64 n] B m [] fun o p => 
 ∃ q : Int, o = .int .u64 q ∧
 Ret B p (R (.int .u64 q))
noncomputable def V17.cfg (B : Nat) : Cfg := ⟨Try.prog, ⟨11, B⟩, [], hasN [32, 36], hasN [], look []⟩
noncomputable def V17.code : Code := (Try.f17.body).getD .skip
noncomputable def V17.cuts (B : Nat) (R : Value → World → Prop) : Nat → Cut := nthC []
noncomputable def V17.h : H := .s (.z) (.s (.z) (.z))
theorem V17.vc_eq (B : Nat) (R : Value → World → Prop) (a c : Int) (w : World) : wpf (V17.cfg B) (V17.cuts B R) V17.code V17.h [] (postOf Try.prog B (Try.f17.results.toList) R) (argE 0 [.int .u64 a, .int .u64 c]) [] w = V17.vc B R a c w := by kernel_rfl
theorem V17.obl (B : Nat) (R : Value → World → Prop) : oblP (V17.cfg B) (V17.cuts B R) V17.code V17.h [] (postOf Try.prog B (Try.f17.results.toList) R) := by
 have e : oblP (V17.cfg B) (V17.cuts B R) V17.code V17.h [] (postOf Try.prog B (Try.f17.results.toList) R) = (True ∧ (True ∧ True)) := by kernel_rfl
 exact e.mpr (⟨trivial, ⟨trivial, trivial⟩⟩)
theorem V17.cfgOk (B : Nat) : CfgOk (V17.cfg B) := cfgOk_of (by kernel_rfl) (by kernel_rfl) extNil
theorem V17.sound {a d : Int} {w : World} {R : Value → World → Prop} (h : V17.vc w.heap.size R a d w) : Calls Try.prog 17 ⟨[.int .u64 a, .int .u64 d]⟩ w fun e w' => ∃ v, e = .returned v ∧ R v w' :=
 calls_wpfP (c := V17.cfg w.heap.size) (fn := Try.f17) (x := V17.code) (V17.cuts w.heap.size R) V17.h (V17.cfgOk _) mixed Try.func17 (by kernel_rfl) (by kernel_rfl) (by kernel_rfl) rfl (V17.obl _ _) ((V17.vc_eq _ _ a d _).symm ▸ h)
def V50.vc (B : Nat) (R : Value → World → Prop) (a : Nat) (w : World) : Prop :=
 Ret B w (R (.bool (FloatKind.f64.format.order a a != some .eq)))
noncomputable def V50.cfg (B : Nat) : Cfg := ⟨Try.prog, ⟨6, B⟩, [], hasN [], hasN [], look []⟩
noncomputable def V50.code : Code := (Try.f50.body).getD .skip
noncomputable def V50.cuts (B : Nat) (R : Value → World → Prop) : Nat → Cut := nthC []
noncomputable def V50.h : H := .s (.z) (.s (.z) (.z))
theorem V50.vc_eq (B : Nat) (R : Value → World → Prop) (a : Nat) (w : World) : wpf (V50.cfg B) (V50.cuts B R) V50.code V50.h [] (postOf Try.prog B (Try.f50.results.toList) R) (argE 0 [.float .f64 a]) [] w = V50.vc B R a w := by kernel_rfl
theorem V50.obl (B : Nat) (R : Value → World → Prop) : oblP (V50.cfg B) (V50.cuts B R) V50.code V50.h [] (postOf Try.prog B (Try.f50.results.toList) R) := by
 have e : oblP (V50.cfg B) (V50.cuts B R) V50.code V50.h [] (postOf Try.prog B (Try.f50.results.toList) R) = (True ∧ (True ∧ True)) := by kernel_rfl
 exact e.mpr (⟨trivial, ⟨trivial, trivial⟩⟩)
theorem V50.cfgOk (B : Nat) : CfgOk (V50.cfg B) := cfgOk_of (by kernel_rfl) (by kernel_rfl) extNil
theorem V50.sound {a : Nat} {w : World} {R : Value → World → Prop} (h : V50.vc w.heap.size R a w) : Calls Try.prog 50 ⟨[.float .f64 a]⟩ w fun e w' => ∃ v, e = .returned v ∧ R v w' :=
 calls_wpfP (c := V50.cfg w.heap.size) (fn := Try.f50) (x := V50.code) (V50.cuts w.heap.size R) V50.h (V50.cfgOk _) mixed Try.func50 (by kernel_rfl) (by kernel_rfl) (by kernel_rfl) rfl (V50.obl _ _) ((V50.vc_eq _ _ a _).symm ▸ h)
def V88.vc (B : Nat) (R : Value → World → Prop) (a : Nat) (w : World) : Prop :=
 RunK Try.prog (V98.ext [.float .f64 a]) B w [] fun v c => 
 ∃ d : Nat, v = .float .f64 d ∧
 Ret B c (R (.float .f64 d))
noncomputable def V88.cfg (B : Nat) : Cfg := ⟨Try.prog, ⟨7, B⟩, [], hasN [], hasN [], look [(98, V98.ext)]⟩
noncomputable def V88.code : Code := (Try.f88.body).getD .skip
noncomputable def V88.cuts (B : Nat) (R : Value → World → Prop) : Nat → Cut := nthC []
noncomputable def V88.h : H := .s (.z) (.s (.c (.s (.z) (.z)) (.z)) (.s (.z) (.z)))
theorem V88.vc_eq (B : Nat) (R : Value → World → Prop) (a : Nat) (w : World) : wpf (V88.cfg B) (V88.cuts B R) V88.code V88.h [] (postOf Try.prog B (Try.f88.results.toList) R) (argE 0 [.float .f64 a]) [] w = V88.vc B R a w := by kernel_rfl
theorem V88.obl (B : Nat) (R : Value → World → Prop) : oblP (V88.cfg B) (V88.cuts B R) V88.code V88.h [] (postOf Try.prog B (Try.f88.results.toList) R) := by
 have e : oblP (V88.cfg B) (V88.cuts B R) V88.code V88.h [] (postOf Try.prog B (Try.f88.results.toList) R) = (True ∧ (((True ∧ True) ∧ True) ∧ (True ∧ True))) := by kernel_rfl
 exact e.mpr (⟨trivial, ⟨⟨⟨trivial, trivial⟩, trivial⟩, ⟨trivial, trivial⟩⟩⟩)
theorem V88.cfgOk (B : Nat) : CfgOk (V88.cfg B) := cfgOk_of (by kernel_rfl) (by kernel_rfl) (extCons V98.extOk extNil)
theorem V88.sound {a : Nat} {w : World} {R : Value → World → Prop} (h : V88.vc w.heap.size R a w) : Calls Try.prog 88 ⟨[.float .f64 a]⟩ w fun e w' => ∃ v, e = .returned v ∧ R v w' :=
 calls_wpfP (c := V88.cfg w.heap.size) (fn := Try.f88) (x := V88.code) (V88.cuts w.heap.size R) V88.h (V88.cfgOk _) mixed Try.func88 (by kernel_rfl) (by kernel_rfl) (by kernel_rfl) rfl (V88.obl _ _) ((V88.vc_eq _ _ a _).symm ▸ h)
def V101.vc (B : Nat) (R : Value → World → Prop) (a c : Nat) (w : World) : Prop :=
 RunK Try.prog (V105.ext [.float .f64 a, .float .f64 c]) B w [] fun v d => 
 ∃ f : Nat, v = .float .f64 f ∧
 Ret B d (R (.float .f64 f))
noncomputable def V101.cfg (B : Nat) : Cfg := ⟨Try.prog, ⟨11, B⟩, [], hasN [], hasN [], look [(105, V105.ext)]⟩
noncomputable def V101.code : Code := (Try.f101.body).getD .skip
noncomputable def V101.cuts (B : Nat) (R : Value → World → Prop) : Nat → Cut := nthC []
noncomputable def V101.h : H := .s (.z) (.s (.c (.s (.z) (.z)) (.z)) (.s (.z) (.z)))
theorem V101.vc_eq (B : Nat) (R : Value → World → Prop) (a c : Nat) (w : World) : wpf (V101.cfg B) (V101.cuts B R) V101.code V101.h [] (postOf Try.prog B (Try.f101.results.toList) R) (argE 0 [.float .f64 a, .float .f64 c]) [] w = V101.vc B R a c w := by kernel_rfl
theorem V101.obl (B : Nat) (R : Value → World → Prop) : oblP (V101.cfg B) (V101.cuts B R) V101.code V101.h [] (postOf Try.prog B (Try.f101.results.toList) R) := by
 have e : oblP (V101.cfg B) (V101.cuts B R) V101.code V101.h [] (postOf Try.prog B (Try.f101.results.toList) R) = (True ∧ (((True ∧ True) ∧ True) ∧ (True ∧ True))) := by kernel_rfl
 exact e.mpr (⟨trivial, ⟨⟨⟨trivial, trivial⟩, trivial⟩, ⟨trivial, trivial⟩⟩⟩)
theorem V101.cfgOk (B : Nat) : CfgOk (V101.cfg B) := cfgOk_of (by kernel_rfl) (by kernel_rfl) (extCons V105.extOk extNil)
theorem V101.sound {a d : Nat} {w : World} {R : Value → World → Prop} (h : V101.vc w.heap.size R a d w) : Calls Try.prog 101 ⟨[.float .f64 a, .float .f64 d]⟩ w fun e w' => ∃ v, e = .returned v ∧ R v w' :=
 calls_wpfP (c := V101.cfg w.heap.size) (fn := Try.f101) (x := V101.code) (V101.cuts w.heap.size R) V101.h (V101.cfgOk _) mixed Try.func101 (by kernel_rfl) (by kernel_rfl) (by kernel_rfl) rfl (V101.obl _ _) ((V101.vc_eq _ _ a d _).symm ▸ h)
def V102.vc (B : Nat) (R : Value → World → Prop) (a c : Nat) (w : World) : Prop :=
 RunK Try.prog (V107.ext [.float .f64 a, .float .f64 c]) B w [] fun v d => 
 ∃ f : Nat, v = .float .f64 f ∧
 Ret B d (R (.float .f64 f))
noncomputable def V102.cfg (B : Nat) : Cfg := ⟨Try.prog, ⟨11, B⟩, [], hasN [], hasN [], look [(107, V107.ext)]⟩
noncomputable def V102.code : Code := (Try.f102.body).getD .skip
noncomputable def V102.cuts (B : Nat) (R : Value → World → Prop) : Nat → Cut := nthC []
noncomputable def V102.h : H := .s (.z) (.s (.c (.s (.z) (.z)) (.z)) (.s (.z) (.z)))
theorem V102.vc_eq (B : Nat) (R : Value → World → Prop) (a c : Nat) (w : World) : wpf (V102.cfg B) (V102.cuts B R) V102.code V102.h [] (postOf Try.prog B (Try.f102.results.toList) R) (argE 0 [.float .f64 a, .float .f64 c]) [] w = V102.vc B R a c w := by kernel_rfl
theorem V102.obl (B : Nat) (R : Value → World → Prop) : oblP (V102.cfg B) (V102.cuts B R) V102.code V102.h [] (postOf Try.prog B (Try.f102.results.toList) R) := by
 have e : oblP (V102.cfg B) (V102.cuts B R) V102.code V102.h [] (postOf Try.prog B (Try.f102.results.toList) R) = (True ∧ (((True ∧ True) ∧ True) ∧ (True ∧ True))) := by kernel_rfl
 exact e.mpr (⟨trivial, ⟨⟨⟨trivial, trivial⟩, trivial⟩, ⟨trivial, trivial⟩⟩⟩)
theorem V102.cfgOk (B : Nat) : CfgOk (V102.cfg B) := cfgOk_of (by kernel_rfl) (by kernel_rfl) (extCons V107.extOk extNil)
theorem V102.sound {a d : Nat} {w : World} {R : Value → World → Prop} (h : V102.vc w.heap.size R a d w) : Calls Try.prog 102 ⟨[.float .f64 a, .float .f64 d]⟩ w fun e w' => ∃ v, e = .returned v ∧ R v w' :=
 calls_wpfP (c := V102.cfg w.heap.size) (fn := Try.f102) (x := V102.code) (V102.cuts w.heap.size R) V102.h (V102.cfgOk _) mixed Try.func102 (by kernel_rfl) (by kernel_rfl) (by kernel_rfl) rfl (V102.obl _ _) ((V102.vc_eq _ _ a d _).symm ▸ h)
def V100a.vc (B : Nat) (R : Value → World → Prop) (a c : Int) (w : World) : Prop :=
 CallK Try.prog 36 [.int .u64 a] B w [] fun v d => 
 ∃ f : Nat, v = .float .f64 f ∧
 CallK Try.prog 36 [.int .u64 c] B d [] fun g i => 
 ∃ j : Nat, g = .float .f64 j ∧
 CallK Try.prog 50 [.float .f64 f] B i [] fun l m => 
 ∃ n : Bool, l = .bool n ∧
 if n = false
 then (CallK Try.prog 50 [.float .f64 j] B m [] fun o p => 
 ∃ q : Bool, o = .bool q ∧
 if q = true
 then (Ret B p (R (.int .u64 9221120237041090560)))
 else (CallK Try.prog 101 [.float .f64 f, .float .f64 j] B p [] fun r s => 
 ∃ t : Nat, r = .float .f64 t ∧
 CallK Try.prog 32 [.float .f64 t] B s [] fun u x => 
 ∃ y : Int, u = .int .u64 y ∧
 Ret B x (R (.int .u64 y))))
 else (Ret B m (R (.int .u64 9221120237041090560)))
noncomputable def V100a.cfg (B : Nat) : Cfg := ⟨Try.prog, ⟨24, B⟩, [], hasN [32, 36, 50, 101], hasN [], look []⟩
noncomputable def V100a.code : Code := (Try.f100.body).getD .skip
noncomputable def V100a.cuts (B : Nat) (R : Value → World → Prop) : Nat → Cut := nthC []
noncomputable def V100a.h : H := .s (.z) (.s (.z) (.s (.s (.z) (.c (.s (.z) (.z)) (.z))) (.s (.z) (.z))))
theorem V100a.vc_eq (B : Nat) (R : Value → World → Prop) (a c : Int) (w : World) : wpf (V100a.cfg B) (V100a.cuts B R) V100a.code V100a.h [] (postOf Try.prog B (Try.f100.results.toList) R) (argE 0 [.int .u64 a, .int .u64 c, .func (.func 101) #[] #[]]) [] w = V100a.vc B R a c w := by kernel_rfl
theorem V100a.obl (B : Nat) (R : Value → World → Prop) : oblP (V100a.cfg B) (V100a.cuts B R) V100a.code V100a.h [] (postOf Try.prog B (Try.f100.results.toList) R) := by
 have e : oblP (V100a.cfg B) (V100a.cuts B R) V100a.code V100a.h [] (postOf Try.prog B (Try.f100.results.toList) R) = (True ∧ (True ∧ ((True ∧ ((True ∧ True) ∧ True)) ∧ (True ∧ True)))) := by kernel_rfl
 exact e.mpr (⟨trivial, ⟨trivial, ⟨⟨trivial, ⟨⟨trivial, trivial⟩, trivial⟩⟩, ⟨trivial, trivial⟩⟩⟩⟩)
theorem V100a.cfgOk (B : Nat) : CfgOk (V100a.cfg B) := cfgOk_of (by kernel_rfl) (by kernel_rfl) extNil
theorem V100a.sound {a d : Int} {w : World} {R : Value → World → Prop} (h : V100a.vc w.heap.size R a d w) : Calls Try.prog 100 ⟨[.int .u64 a, .int .u64 d, .func (.func 101) #[] #[]]⟩ w fun e w' => ∃ v, e = .returned v ∧ R v w' :=
 calls_wpfP (c := V100a.cfg w.heap.size) (fn := Try.f100) (x := V100a.code) (V100a.cuts w.heap.size R) V100a.h (V100a.cfgOk _) mixed Try.func100 (by kernel_rfl) (by kernel_rfl) (by kernel_rfl) rfl (V100a.obl _ _) ((V100a.vc_eq _ _ a d _).symm ▸ h)
def V100b.vc (B : Nat) (R : Value → World → Prop) (a c : Int) (w : World) : Prop :=
 CallK Try.prog 36 [.int .u64 a] B w [] fun v d => 
 ∃ f : Nat, v = .float .f64 f ∧
 CallK Try.prog 36 [.int .u64 c] B d [] fun g i => 
 ∃ j : Nat, g = .float .f64 j ∧
 CallK Try.prog 50 [.float .f64 f] B i [] fun l m => 
 ∃ n : Bool, l = .bool n ∧
 if n = false
 then (CallK Try.prog 50 [.float .f64 j] B m [] fun o p => 
 ∃ q : Bool, o = .bool q ∧
 if q = true
 then (Ret B p (R (.int .u64 9221120237041090560)))
 else (CallK Try.prog 102 [.float .f64 f, .float .f64 j] B p [] fun r s => 
 ∃ t : Nat, r = .float .f64 t ∧
 CallK Try.prog 32 [.float .f64 t] B s [] fun u x => 
 ∃ y : Int, u = .int .u64 y ∧
 Ret B x (R (.int .u64 y))))
 else (Ret B m (R (.int .u64 9221120237041090560)))
noncomputable def V100b.cfg (B : Nat) : Cfg := ⟨Try.prog, ⟨24, B⟩, [], hasN [32, 36, 50, 102], hasN [], look []⟩
noncomputable def V100b.code : Code := (Try.f100.body).getD .skip
noncomputable def V100b.cuts (B : Nat) (R : Value → World → Prop) : Nat → Cut := nthC []
noncomputable def V100b.h : H := .s (.z) (.s (.z) (.s (.s (.z) (.c (.s (.z) (.z)) (.z))) (.s (.z) (.z))))
theorem V100b.vc_eq (B : Nat) (R : Value → World → Prop) (a c : Int) (w : World) : wpf (V100b.cfg B) (V100b.cuts B R) V100b.code V100b.h [] (postOf Try.prog B (Try.f100.results.toList) R) (argE 0 [.int .u64 a, .int .u64 c, .func (.func 102) #[] #[]]) [] w = V100b.vc B R a c w := by kernel_rfl
theorem V100b.obl (B : Nat) (R : Value → World → Prop) : oblP (V100b.cfg B) (V100b.cuts B R) V100b.code V100b.h [] (postOf Try.prog B (Try.f100.results.toList) R) := by
 have e : oblP (V100b.cfg B) (V100b.cuts B R) V100b.code V100b.h [] (postOf Try.prog B (Try.f100.results.toList) R) = (True ∧ (True ∧ ((True ∧ ((True ∧ True) ∧ True)) ∧ (True ∧ True)))) := by kernel_rfl
 exact e.mpr (⟨trivial, ⟨trivial, ⟨⟨trivial, ⟨⟨trivial, trivial⟩, trivial⟩⟩, ⟨trivial, trivial⟩⟩⟩⟩)
theorem V100b.cfgOk (B : Nat) : CfgOk (V100b.cfg B) := cfgOk_of (by kernel_rfl) (by kernel_rfl) extNil
theorem V100b.sound {a d : Int} {w : World} {R : Value → World → Prop} (h : V100b.vc w.heap.size R a d w) : Calls Try.prog 100 ⟨[.int .u64 a, .int .u64 d, .func (.func 102) #[] #[]]⟩ w fun e w' => ∃ v, e = .returned v ∧ R v w' :=
 calls_wpfP (c := V100b.cfg w.heap.size) (fn := Try.f100) (x := V100b.code) (V100b.cuts w.heap.size R) V100b.h (V100b.cfgOk _) mixed Try.func100 (by kernel_rfl) (by kernel_rfl) (by kernel_rfl) rfl (V100b.obl _ _) ((V100b.vc_eq _ _ a d _).symm ▸ h)
end Go.Proofs.Ytidcpndlloppdaa
