import Derived.Test.YtidcpndlloppdaaGreatDoorZFE
/-
  What the engine makes of the loaded functions 94, 34, 51, 125, 124, 126, 96, 132, 100, 103, 19, 67, 95, 131, 128, 129, 127, 104, 105, 106, 107, 69, 70, 108, 109, 110, 111, 71, 135, 52, 53, 54, 55, 56, 101, 102, 142, 143, 141, 141: conditions under which a call returns as told, and proofs of that.
  Conditions: none. Printed by a program of this project.
-/
set_option linter.unusedVariables false
set_option maxRecDepth 100000
namespace Go.Proofs.YtidcpndlloppdaaGreatDoor
def V94.vc (B : Nat) (R : Value → World → Prop) (a : Int) (w : World) : Prop :=
  CallK Tryz.prog 51 [.int .u64 a] B w [] fun v c => 
  ∃ d : Nat, v = .float .f64 d ∧
  CallK Tryz.prog 34 [.float .f64 (Op.negFloat .f64 d)] B c [] fun f g => 
  ∃ i : Int, f = .int .u64 i ∧
  Ret B g (R (.int .u64 i))
noncomputable def V94.cfg (B : Nat) : Cfg := ⟨Tryz.prog, ⟨7, B⟩, [], hasN [34, 51], hasN [], look []⟩
noncomputable def V94.code : Code := (Tryz.f94.body).getD .skip
noncomputable def V94.cuts (B : Nat) (R : Value → World → Prop) : Nat → Cut := nthC []
noncomputable def V94.h : H := .s (.z) (.s (.z) (.z))
theorem V94.vc_eq (B : Nat) (R : Value → World → Prop) (a : Int) (w : World) : wpf (V94.cfg B) (V94.cuts B R) V94.code V94.h [] (postOf Tryz.prog B (Tryz.f94.results.toList) R) (argE 0 [.int .u64 a]) [] w = V94.vc B R a w := by kernel_rfl
theorem V94.obl (B : Nat) (R : Value → World → Prop) : oblP (V94.cfg B) (V94.cuts B R) V94.code V94.h [] (postOf Tryz.prog B (Tryz.f94.results.toList) R) := by
  have e : oblP (V94.cfg B) (V94.cuts B R) V94.code V94.h [] (postOf Tryz.prog B (Tryz.f94.results.toList) R) = (True ∧ (True ∧ True)) := by kernel_rfl
  exact e.mpr (⟨trivial, ⟨trivial, trivial⟩⟩)
theorem V94.cfgOk (B : Nat) : CfgOk (V94.cfg B) := cfgOk_of (by kernel_rfl) (by kernel_rfl) extNil
theorem V94.sound {a : Int} {w : World} {R : Value → World → Prop} (h : V94.vc w.heap.size R a w) : Calls Tryz.prog 94 ⟨[.int .u64 a]⟩ w fun e w' => ∃ v, e = .returned v ∧ R v w' :=
  calls_wpfP (c := V94.cfg w.heap.size) (fn := Tryz.f94) (x := V94.code) (V94.cuts w.heap.size R) V94.h (V94.cfgOk _) mixed Tryz.func94 (by kernel_rfl) (by kernel_rfl) (by kernel_rfl) rfl (V94.obl _ _) ((V94.vc_eq _ _ a _).symm ▸ h)
def V34.vc (B : Nat) (R : Value → World → Prop) (a : Nat) (w : World) : Prop :=
  CallK Tryz.prog 52 [.float .f64 a] B w [] fun v c => 
  ∃ d : Bool, v = .bool d ∧
  if d = true
  then (Ret B c (R (.int .u64 9221120237041090560)))
  else (RunK Tryz.prog (V59.ext [.float .f64 a]) B c [] fun f g => 
   ∃ i : Int, f = .int .u64 i ∧
   Ret B g (R (.int .u64 i)))
noncomputable def V34.cfg (B : Nat) : Cfg := ⟨Tryz.prog, ⟨7, B⟩, [], hasN [52], hasN [], look [(59, V59.ext)]⟩
noncomputable def V34.code : Code := (Tryz.f34.body).getD .skip
noncomputable def V34.cuts (B : Nat) (R : Value → World → Prop) : Nat → Cut := nthC []
noncomputable def V34.h : H := .s (.z) (.s (.s (.z) (.c (.s (.z) (.z)) (.z))) (.s (.z) (.z)))
theorem V34.vc_eq (B : Nat) (R : Value → World → Prop) (a : Nat) (w : World) : wpf (V34.cfg B) (V34.cuts B R) V34.code V34.h [] (postOf Tryz.prog B (Tryz.f34.results.toList) R) (argE 0 [.float .f64 a]) [] w = V34.vc B R a w := by kernel_rfl
theorem V34.obl (B : Nat) (R : Value → World → Prop) : oblP (V34.cfg B) (V34.cuts B R) V34.code V34.h [] (postOf Tryz.prog B (Tryz.f34.results.toList) R) := by
  have e : oblP (V34.cfg B) (V34.cuts B R) V34.code V34.h [] (postOf Tryz.prog B (Tryz.f34.results.toList) R) = (True ∧ ((True ∧ ((True ∧ True) ∧ True)) ∧ (True ∧ True))) := by kernel_rfl
  exact e.mpr (⟨trivial, ⟨⟨trivial, ⟨⟨trivial, trivial⟩, trivial⟩⟩, ⟨trivial, trivial⟩⟩⟩)
theorem V34.cfgOk (B : Nat) : CfgOk (V34.cfg B) := cfgOk_of (by kernel_rfl) (by kernel_rfl) (extCons V59.extOk extNil)
theorem V34.sound {a : Nat} {w : World} {R : Value → World → Prop} (h : V34.vc w.heap.size R a w) : Calls Tryz.prog 34 ⟨[.float .f64 a]⟩ w fun e w' => ∃ v, e = .returned v ∧ R v w' :=
  calls_wpfP (c := V34.cfg w.heap.size) (fn := Tryz.f34) (x := V34.code) (V34.cuts w.heap.size R) V34.h (V34.cfgOk _) mixed Tryz.func34 (by kernel_rfl) (by kernel_rfl) (by kernel_rfl) rfl (V34.obl _ _) ((V34.vc_eq _ _ a _).symm ▸ h)
def V51.vc (B : Nat) (R : Value → World → Prop) (a : Int) (w : World) : Prop :=
  RunK Tryz.prog (V77.ext [.int .u64 a]) B w [] fun v c => 
  ∃ d : Nat, v = .float .f64 d ∧
  Ret B c (R (.float .f64 d))
noncomputable def V51.cfg (B : Nat) : Cfg := ⟨Tryz.prog, ⟨5, B⟩, [], hasN [], hasN [], look [(77, V77.ext)]⟩
noncomputable def V51.code : Code := (Tryz.f51.body).getD .skip
noncomputable def V51.cuts (B : Nat) (R : Value → World → Prop) : Nat → Cut := nthC []
noncomputable def V51.h : H := .s (.z) (.s (.z) (.z))
theorem V51.vc_eq (B : Nat) (R : Value → World → Prop) (a : Int) (w : World) : wpf (V51.cfg B) (V51.cuts B R) V51.code V51.h [] (postOf Tryz.prog B (Tryz.f51.results.toList) R) (argE 0 [.int .u64 a]) [] w = V51.vc B R a w := by kernel_rfl
theorem V51.obl (B : Nat) (R : Value → World → Prop) : oblP (V51.cfg B) (V51.cuts B R) V51.code V51.h [] (postOf Tryz.prog B (Tryz.f51.results.toList) R) := by
  have e : oblP (V51.cfg B) (V51.cuts B R) V51.code V51.h [] (postOf Tryz.prog B (Tryz.f51.results.toList) R) = (True ∧ (True ∧ True)) := by kernel_rfl
  exact e.mpr (⟨trivial, ⟨trivial, trivial⟩⟩)
theorem V51.cfgOk (B : Nat) : CfgOk (V51.cfg B) := cfgOk_of (by kernel_rfl) (by kernel_rfl) (extCons V77.extOk extNil)
theorem V51.sound {a : Int} {w : World} {R : Value → World → Prop} (h : V51.vc w.heap.size R a w) : Calls Tryz.prog 51 ⟨[.int .u64 a]⟩ w fun e w' => ∃ v, e = .returned v ∧ R v w' :=
  calls_wpfP (c := V51.cfg w.heap.size) (fn := Tryz.f51) (x := V51.code) (V51.cuts w.heap.size R) V51.h (V51.cfgOk _) mixed Tryz.func51 (by kernel_rfl) (by kernel_rfl) (by kernel_rfl) rfl (V51.obl _ _) ((V51.vc_eq _ _ a _).symm ▸ h)
def V125.vc (B : Nat) (R : Value → World → Prop) (a c : Int) (w : World) : Prop :=
  CallK Tryz.prog 51 [.int .u64 a] B w [] fun v d => 
  ∃ f : Nat, v = .float .f64 f ∧
  CallK Tryz.prog 51 [.int .u64 c] B d [] fun g i => 
  ∃ j : Nat, g = .float .f64 j ∧
  RunK Tryz.prog (Go.binOp .sub 82 (.float .f64 f) (.float .f64 j)) B i [] fun l m => 
  ∃ n : Nat, l = .float .f64 n ∧
  CallK Tryz.prog 34 [.float .f64 n] B m [] fun o p => 
  ∃ q : Int, o = .int .u64 q ∧
  Ret B p (R (.int .u64 q))
noncomputable def V125.cfg (B : Nat) : Cfg := ⟨Tryz.prog, ⟨11, B⟩, [], hasN [34, 51], hasN [], look []⟩
noncomputable def V125.code : Code := (Tryz.f125.body).getD .skip
noncomputable def V125.cuts (B : Nat) (R : Value → World → Prop) : Nat → Cut := nthC []
noncomputable def V125.h : H := .s (.z) (.s (.z) (.z))
theorem V125.vc_eq (B : Nat) (R : Value → World → Prop) (a c : Int) (w : World) : wpf (V125.cfg B) (V125.cuts B R) V125.code V125.h [] (postOf Tryz.prog B (Tryz.f125.results.toList) R) (argE 0 [.int .u64 a, .int .u64 c]) [] w = V125.vc B R a c w := by kernel_rfl
theorem V125.obl (B : Nat) (R : Value → World → Prop) : oblP (V125.cfg B) (V125.cuts B R) V125.code V125.h [] (postOf Tryz.prog B (Tryz.f125.results.toList) R) := by
  have e : oblP (V125.cfg B) (V125.cuts B R) V125.code V125.h [] (postOf Tryz.prog B (Tryz.f125.results.toList) R) = (True ∧ (True ∧ True)) := by kernel_rfl
  exact e.mpr (⟨trivial, ⟨trivial, trivial⟩⟩)
theorem V125.cfgOk (B : Nat) : CfgOk (V125.cfg B) := cfgOk_of (by kernel_rfl) (by kernel_rfl) extNil
theorem V125.sound {a d : Int} {w : World} {R : Value → World → Prop} (h : V125.vc w.heap.size R a d w) : Calls Tryz.prog 125 ⟨[.int .u64 a, .int .u64 d]⟩ w fun e w' => ∃ v, e = .returned v ∧ R v w' :=
  calls_wpfP (c := V125.cfg w.heap.size) (fn := Tryz.f125) (x := V125.code) (V125.cuts w.heap.size R) V125.h (V125.cfgOk _) mixed Tryz.func125 (by kernel_rfl) (by kernel_rfl) (by kernel_rfl) rfl (V125.obl _ _) ((V125.vc_eq _ _ a d _).symm ▸ h)
def V124.vc (B : Nat) (R : Value → World → Prop) (a c : Int) (w : World) : Prop :=
  CallK Tryz.prog 51 [.int .u64 a] B w [] fun v d => 
  ∃ f : Nat, v = .float .f64 f ∧
  CallK Tryz.prog 51 [.int .u64 c] B d [] fun g i => 
  ∃ j : Nat, g = .float .f64 j ∧
  RunK Tryz.prog (Go.binOp .add 82 (.float .f64 f) (.float .f64 j)) B i [] fun l m => 
  ∃ n : Nat, l = .float .f64 n ∧
  CallK Tryz.prog 34 [.float .f64 n] B m [] fun o p => 
  ∃ q : Int, o = .int .u64 q ∧
  Ret B p (R (.int .u64 q))
noncomputable def V124.cfg (B : Nat) : Cfg := ⟨Tryz.prog, ⟨11, B⟩, [], hasN [34, 51], hasN [], look []⟩
noncomputable def V124.code : Code := (Tryz.f124.body).getD .skip
noncomputable def V124.cuts (B : Nat) (R : Value → World → Prop) : Nat → Cut := nthC []
noncomputable def V124.h : H := .s (.z) (.s (.z) (.z))
theorem V124.vc_eq (B : Nat) (R : Value → World → Prop) (a c : Int) (w : World) : wpf (V124.cfg B) (V124.cuts B R) V124.code V124.h [] (postOf Tryz.prog B (Tryz.f124.results.toList) R) (argE 0 [.int .u64 a, .int .u64 c]) [] w = V124.vc B R a c w := by kernel_rfl
theorem V124.obl (B : Nat) (R : Value → World → Prop) : oblP (V124.cfg B) (V124.cuts B R) V124.code V124.h [] (postOf Tryz.prog B (Tryz.f124.results.toList) R) := by
  have e : oblP (V124.cfg B) (V124.cuts B R) V124.code V124.h [] (postOf Tryz.prog B (Tryz.f124.results.toList) R) = (True ∧ (True ∧ True)) := by kernel_rfl
  exact e.mpr (⟨trivial, ⟨trivial, trivial⟩⟩)
theorem V124.cfgOk (B : Nat) : CfgOk (V124.cfg B) := cfgOk_of (by kernel_rfl) (by kernel_rfl) extNil
theorem V124.sound {a d : Int} {w : World} {R : Value → World → Prop} (h : V124.vc w.heap.size R a d w) : Calls Tryz.prog 124 ⟨[.int .u64 a, .int .u64 d]⟩ w fun e w' => ∃ v, e = .returned v ∧ R v w' :=
  calls_wpfP (c := V124.cfg w.heap.size) (fn := Tryz.f124) (x := V124.code) (V124.cuts w.heap.size R) V124.h (V124.cfgOk _) mixed Tryz.func124 (by kernel_rfl) (by kernel_rfl) (by kernel_rfl) rfl (V124.obl _ _) ((V124.vc_eq _ _ a d _).symm ▸ h)
def V126.vc (B : Nat) (R : Value → World → Prop) (a c : Int) (w : World) : Prop :=
  CallK Tryz.prog 51 [.int .u64 a] B w [] fun v d => 
  ∃ f : Nat, v = .float .f64 f ∧
  CallK Tryz.prog 51 [.int .u64 c] B d [] fun g i => 
  ∃ j : Nat, g = .float .f64 j ∧
  RunK Tryz.prog (Go.binOp .mul 82 (.float .f64 f) (.float .f64 j)) B i [] fun l m => 
  ∃ n : Nat, l = .float .f64 n ∧
  CallK Tryz.prog 34 [.float .f64 n] B m [] fun o p => 
  ∃ q : Int, o = .int .u64 q ∧
  Ret B p (R (.int .u64 q))
noncomputable def V126.cfg (B : Nat) : Cfg := ⟨Tryz.prog, ⟨11, B⟩, [], hasN [34, 51], hasN [], look []⟩
noncomputable def V126.code : Code := (Tryz.f126.body).getD .skip
noncomputable def V126.cuts (B : Nat) (R : Value → World → Prop) : Nat → Cut := nthC []
noncomputable def V126.h : H := .s (.z) (.s (.z) (.z))
theorem V126.vc_eq (B : Nat) (R : Value → World → Prop) (a c : Int) (w : World) : wpf (V126.cfg B) (V126.cuts B R) V126.code V126.h [] (postOf Tryz.prog B (Tryz.f126.results.toList) R) (argE 0 [.int .u64 a, .int .u64 c]) [] w = V126.vc B R a c w := by kernel_rfl
theorem V126.obl (B : Nat) (R : Value → World → Prop) : oblP (V126.cfg B) (V126.cuts B R) V126.code V126.h [] (postOf Tryz.prog B (Tryz.f126.results.toList) R) := by
  have e : oblP (V126.cfg B) (V126.cuts B R) V126.code V126.h [] (postOf Tryz.prog B (Tryz.f126.results.toList) R) = (True ∧ (True ∧ True)) := by kernel_rfl
  exact e.mpr (⟨trivial, ⟨trivial, trivial⟩⟩)
theorem V126.cfgOk (B : Nat) : CfgOk (V126.cfg B) := cfgOk_of (by kernel_rfl) (by kernel_rfl) extNil
theorem V126.sound {a d : Int} {w : World} {R : Value → World → Prop} (h : V126.vc w.heap.size R a d w) : Calls Tryz.prog 126 ⟨[.int .u64 a, .int .u64 d]⟩ w fun e w' => ∃ v, e = .returned v ∧ R v w' :=
  calls_wpfP (c := V126.cfg w.heap.size) (fn := Tryz.f126) (x := V126.code) (V126.cuts w.heap.size R) V126.h (V126.cfgOk _) mixed Tryz.func126 (by kernel_rfl) (by kernel_rfl) (by kernel_rfl) rfl (V126.obl _ _) ((V126.vc_eq _ _ a d _).symm ▸ h)
def V96.vc (B : Nat) (R : Value → World → Prop) (a : Int) (w : World) : Prop :=
  CallK Tryz.prog 51 [.int .u64 a] B w [] fun v c => 
  ∃ d : Nat, v = .float .f64 d ∧
  Ret B c (R (.bool (FloatKind.f64.format.order d 0 != some .eq)))
noncomputable def V96.cfg (B : Nat) : Cfg := ⟨Tryz.prog, ⟨6, B⟩, [], hasN [51], hasN [], look []⟩
noncomputable def V96.code : Code := (Tryz.f96.body).getD .skip
noncomputable def V96.cuts (B : Nat) (R : Value → World → Prop) : Nat → Cut := nthC []
noncomputable def V96.h : H := .s (.z) (.s (.z) (.z))
theorem V96.vc_eq (B : Nat) (R : Value → World → Prop) (a : Int) (w : World) : wpf (V96.cfg B) (V96.cuts B R) V96.code V96.h [] (postOf Tryz.prog B (Tryz.f96.results.toList) R) (argE 0 [.int .u64 a]) [] w = V96.vc B R a w := by kernel_rfl
theorem V96.obl (B : Nat) (R : Value → World → Prop) : oblP (V96.cfg B) (V96.cuts B R) V96.code V96.h [] (postOf Tryz.prog B (Tryz.f96.results.toList) R) := by
  have e : oblP (V96.cfg B) (V96.cuts B R) V96.code V96.h [] (postOf Tryz.prog B (Tryz.f96.results.toList) R) = (True ∧ (True ∧ True)) := by kernel_rfl
  exact e.mpr (⟨trivial, ⟨trivial, trivial⟩⟩)
theorem V96.cfgOk (B : Nat) : CfgOk (V96.cfg B) := cfgOk_of (by kernel_rfl) (by kernel_rfl) extNil
theorem V96.sound {a : Int} {w : World} {R : Value → World → Prop} (h : V96.vc w.heap.size R a w) : Calls Tryz.prog 96 ⟨[.int .u64 a]⟩ w fun e w' => ∃ v, e = .returned v ∧ R v w' :=
  calls_wpfP (c := V96.cfg w.heap.size) (fn := Tryz.f96) (x := V96.code) (V96.cuts w.heap.size R) V96.h (V96.cfgOk _) mixed Tryz.func96 (by kernel_rfl) (by kernel_rfl) (by kernel_rfl) rfl (V96.obl _ _) ((V96.vc_eq _ _ a _).symm ▸ h)
def V132.vc (B : Nat) (R : Value → World → Prop) (a c : Int) (w : World) : Prop :=
  CallK Tryz.prog 51 [.int .u64 a] B w [] fun v d => 
  ∃ f : Nat, v = .float .f64 f ∧
  CallK Tryz.prog 51 [.int .u64 c] B d [] fun g i => 
  ∃ j : Nat, g = .float .f64 j ∧
  Ret B i (R (.bool (FloatKind.f64.format.order f j == some .eq)))
noncomputable def V132.cfg (B : Nat) : Cfg := ⟨Tryz.prog, ⟨10, B⟩, [], hasN [51], hasN [], look []⟩
noncomputable def V132.code : Code := (Tryz.f132.body).getD .skip
noncomputable def V132.cuts (B : Nat) (R : Value → World → Prop) : Nat → Cut := nthC []
noncomputable def V132.h : H := .s (.z) (.s (.z) (.z))
theorem V132.vc_eq (B : Nat) (R : Value → World → Prop) (a c : Int) (w : World) : wpf (V132.cfg B) (V132.cuts B R) V132.code V132.h [] (postOf Tryz.prog B (Tryz.f132.results.toList) R) (argE 0 [.int .u64 a, .int .u64 c]) [] w = V132.vc B R a c w := by kernel_rfl
theorem V132.obl (B : Nat) (R : Value → World → Prop) : oblP (V132.cfg B) (V132.cuts B R) V132.code V132.h [] (postOf Tryz.prog B (Tryz.f132.results.toList) R) := by
  have e : oblP (V132.cfg B) (V132.cuts B R) V132.code V132.h [] (postOf Tryz.prog B (Tryz.f132.results.toList) R) = (True ∧ (True ∧ True)) := by kernel_rfl
  exact e.mpr (⟨trivial, ⟨trivial, trivial⟩⟩)
theorem V132.cfgOk (B : Nat) : CfgOk (V132.cfg B) := cfgOk_of (by kernel_rfl) (by kernel_rfl) extNil
theorem V132.sound {a d : Int} {w : World} {R : Value → World → Prop} (h : V132.vc w.heap.size R a d w) : Calls Tryz.prog 132 ⟨[.int .u64 a, .int .u64 d]⟩ w fun e w' => ∃ v, e = .returned v ∧ R v w' :=
  calls_wpfP (c := V132.cfg w.heap.size) (fn := Tryz.f132) (x := V132.code) (V132.cuts w.heap.size R) V132.h (V132.cfgOk _) mixed Tryz.func132 (by kernel_rfl) (by kernel_rfl) (by kernel_rfl) rfl (V132.obl _ _) ((V132.vc_eq _ _ a d _).symm ▸ h)
def V19.vc (B : Nat) (R : Value → World → Prop) (a : Int) (w : World) : Prop :=
  CallK Tryz.prog 34 [.float .f64 (FloatKind.nearest .f64 a)] B w [] fun v c => 
  ∃ d : Int, v = .int .u64 d ∧
  Ret B c (R (.int .u64 d))
noncomputable def V19.cfg (B : Nat) : Cfg := ⟨Tryz.prog, ⟨6, B⟩, [], hasN [34], hasN [], look []⟩
noncomputable def V19.code : Code := (Tryz.f19.body).getD .skip
noncomputable def V19.cuts (B : Nat) (R : Value → World → Prop) : Nat → Cut := nthC []
noncomputable def V19.h : H := .s (.z) (.s (.z) (.z))
theorem V19.vc_eq (B : Nat) (R : Value → World → Prop) (a : Int) (w : World) : wpf (V19.cfg B) (V19.cuts B R) V19.code V19.h [] (postOf Tryz.prog B (Tryz.f19.results.toList) R) (argE 0 [.int .i64 a]) [] w = V19.vc B R a w := by kernel_rfl
theorem V19.obl (B : Nat) (R : Value → World → Prop) : oblP (V19.cfg B) (V19.cuts B R) V19.code V19.h [] (postOf Tryz.prog B (Tryz.f19.results.toList) R) := by
  have e : oblP (V19.cfg B) (V19.cuts B R) V19.code V19.h [] (postOf Tryz.prog B (Tryz.f19.results.toList) R) = (True ∧ (True ∧ True)) := by kernel_rfl
  exact e.mpr (⟨trivial, ⟨trivial, trivial⟩⟩)
theorem V19.cfgOk (B : Nat) : CfgOk (V19.cfg B) := cfgOk_of (by kernel_rfl) (by kernel_rfl) extNil
theorem V19.sound {a : Int} {w : World} {R : Value → World → Prop} (h : V19.vc w.heap.size R a w) : Calls Tryz.prog 19 ⟨[.int .i64 a]⟩ w fun e w' => ∃ v, e = .returned v ∧ R v w' :=
  calls_wpfP (c := V19.cfg w.heap.size) (fn := Tryz.f19) (x := V19.code) (V19.cuts w.heap.size R) V19.h (V19.cfgOk _) mixed Tryz.func19 (by kernel_rfl) (by kernel_rfl) (by kernel_rfl) rfl (V19.obl _ _) ((V19.vc_eq _ _ a _).symm ▸ h)
def V95.vc (B : Nat) (R : Value → World → Prop) (a : Int) (w : World) : Prop :=
  CallK Tryz.prog 51 [.int .u64 a] B w [] fun v c => 
  ∃ d : Nat, v = .float .f64 d ∧
  CallK Tryz.prog 102 [.float .f64 d] B c [] fun f g => 
  ∃ i : Nat, f = .float .f64 i ∧
  CallK Tryz.prog 34 [.float .f64 i] B g [] fun j l => 
  ∃ m : Int, j = .int .u64 m ∧
  Ret B l (R (.int .u64 m))
noncomputable def V95.cfg (B : Nat) : Cfg := ⟨Tryz.prog, ⟨7, B⟩, [], hasN [34, 51, 102], hasN [], look []⟩
noncomputable def V95.code : Code := (Tryz.f95.body).getD .skip
noncomputable def V95.cuts (B : Nat) (R : Value → World → Prop) : Nat → Cut := nthC []
noncomputable def V95.h : H := .s (.z) (.s (.z) (.z))
theorem V95.vc_eq (B : Nat) (R : Value → World → Prop) (a : Int) (w : World) : wpf (V95.cfg B) (V95.cuts B R) V95.code V95.h [] (postOf Tryz.prog B (Tryz.f95.results.toList) R) (argE 0 [.int .u64 a]) [] w = V95.vc B R a w := by kernel_rfl
theorem V95.obl (B : Nat) (R : Value → World → Prop) : oblP (V95.cfg B) (V95.cuts B R) V95.code V95.h [] (postOf Tryz.prog B (Tryz.f95.results.toList) R) := by
  have e : oblP (V95.cfg B) (V95.cuts B R) V95.code V95.h [] (postOf Tryz.prog B (Tryz.f95.results.toList) R) = (True ∧ (True ∧ True)) := by kernel_rfl
  exact e.mpr (⟨trivial, ⟨trivial, trivial⟩⟩)
theorem V95.cfgOk (B : Nat) : CfgOk (V95.cfg B) := cfgOk_of (by kernel_rfl) (by kernel_rfl) extNil
theorem V95.sound {a : Int} {w : World} {R : Value → World → Prop} (h : V95.vc w.heap.size R a w) : Calls Tryz.prog 95 ⟨[.int .u64 a]⟩ w fun e w' => ∃ v, e = .returned v ∧ R v w' :=
  calls_wpfP (c := V95.cfg w.heap.size) (fn := Tryz.f95) (x := V95.code) (V95.cuts w.heap.size R) V95.h (V95.cfgOk _) mixed Tryz.func95 (by kernel_rfl) (by kernel_rfl) (by kernel_rfl) rfl (V95.obl _ _) ((V95.vc_eq _ _ a _).symm ▸ h)
def V131.vc (B : Nat) (R : Value → World → Prop) (a c : Int) (w : World) : Prop :=
  CallK Tryz.prog 51 [.int .u64 a] B w [] fun v d => 
  ∃ f : Nat, v = .float .f64 f ∧
  CallK Tryz.prog 51 [.int .u64 c] B d [] fun g i => 
  ∃ j : Nat, g = .float .f64 j ∧
  Ret B i (R (.bool (FloatKind.f64.format.order f j == some .lt)))
noncomputable def V131.cfg (B : Nat) : Cfg := ⟨Tryz.prog, ⟨10, B⟩, [], hasN [51], hasN [], look []⟩
noncomputable def V131.code : Code := (Tryz.f131.body).getD .skip
noncomputable def V131.cuts (B : Nat) (R : Value → World → Prop) : Nat → Cut := nthC []
noncomputable def V131.h : H := .s (.z) (.s (.z) (.z))
theorem V131.vc_eq (B : Nat) (R : Value → World → Prop) (a c : Int) (w : World) : wpf (V131.cfg B) (V131.cuts B R) V131.code V131.h [] (postOf Tryz.prog B (Tryz.f131.results.toList) R) (argE 0 [.int .u64 a, .int .u64 c]) [] w = V131.vc B R a c w := by kernel_rfl
theorem V131.obl (B : Nat) (R : Value → World → Prop) : oblP (V131.cfg B) (V131.cuts B R) V131.code V131.h [] (postOf Tryz.prog B (Tryz.f131.results.toList) R) := by
  have e : oblP (V131.cfg B) (V131.cuts B R) V131.code V131.h [] (postOf Tryz.prog B (Tryz.f131.results.toList) R) = (True ∧ (True ∧ True)) := by kernel_rfl
  exact e.mpr (⟨trivial, ⟨trivial, trivial⟩⟩)
theorem V131.cfgOk (B : Nat) : CfgOk (V131.cfg B) := cfgOk_of (by kernel_rfl) (by kernel_rfl) extNil
theorem V131.sound {a d : Int} {w : World} {R : Value → World → Prop} (h : V131.vc w.heap.size R a d w) : Calls Tryz.prog 131 ⟨[.int .u64 a, .int .u64 d]⟩ w fun e w' => ∃ v, e = .returned v ∧ R v w' :=
  calls_wpfP (c := V131.cfg w.heap.size) (fn := Tryz.f131) (x := V131.code) (V131.cuts w.heap.size R) V131.h (V131.cfgOk _) mixed Tryz.func131 (by kernel_rfl) (by kernel_rfl) (by kernel_rfl) rfl (V131.obl _ _) ((V131.vc_eq _ _ a d _).symm ▸ h)
def V128.vc (B : Nat) (R : Value → World → Prop) (a c : Int) (w : World) : Prop :=
  CallK Tryz.prog 141 [.int .u64 a, .int .u64 c, .func (.func 142) #[] #[]] B w [] fun v d => 
  ∃ f : Int, v = .int .u64 f ∧
  Ret B d (R (.int .u64 f))
noncomputable def V128.cfg (B : Nat) : Cfg := ⟨Tryz.prog, ⟨8, B⟩, [], hasN [141], hasN [], look []⟩
noncomputable def V128.code : Code := (Tryz.f128.body).getD .skip
noncomputable def V128.cuts (B : Nat) (R : Value → World → Prop) : Nat → Cut := nthC []
noncomputable def V128.h : H := .s (.z) (.s (.z) (.z))
theorem V128.vc_eq (B : Nat) (R : Value → World → Prop) (a c : Int) (w : World) : wpf (V128.cfg B) (V128.cuts B R) V128.code V128.h [] (postOf Tryz.prog B (Tryz.f128.results.toList) R) (argE 0 [.int .u64 a, .int .u64 c]) [] w = V128.vc B R a c w := by kernel_rfl
theorem V128.obl (B : Nat) (R : Value → World → Prop) : oblP (V128.cfg B) (V128.cuts B R) V128.code V128.h [] (postOf Tryz.prog B (Tryz.f128.results.toList) R) := by
  have e : oblP (V128.cfg B) (V128.cuts B R) V128.code V128.h [] (postOf Tryz.prog B (Tryz.f128.results.toList) R) = (True ∧ (True ∧ True)) := by kernel_rfl
  exact e.mpr (⟨trivial, ⟨trivial, trivial⟩⟩)
theorem V128.cfgOk (B : Nat) : CfgOk (V128.cfg B) := cfgOk_of (by kernel_rfl) (by kernel_rfl) extNil
theorem V128.sound {a d : Int} {w : World} {R : Value → World → Prop} (h : V128.vc w.heap.size R a d w) : Calls Tryz.prog 128 ⟨[.int .u64 a, .int .u64 d]⟩ w fun e w' => ∃ v, e = .returned v ∧ R v w' :=
  calls_wpfP (c := V128.cfg w.heap.size) (fn := Tryz.f128) (x := V128.code) (V128.cuts w.heap.size R) V128.h (V128.cfgOk _) mixed Tryz.func128 (by kernel_rfl) (by kernel_rfl) (by kernel_rfl) rfl (V128.obl _ _) ((V128.vc_eq _ _ a d _).symm ▸ h)
def V129.vc (B : Nat) (R : Value → World → Prop) (a c : Int) (w : World) : Prop :=
  CallK Tryz.prog 141 [.int .u64 a, .int .u64 c, .func (.func 143) #[] #[]] B w [] fun v d => 
  ∃ f : Int, v = .int .u64 f ∧
  Ret B d (R (.int .u64 f))
noncomputable def V129.cfg (B : Nat) : Cfg := ⟨Tryz.prog, ⟨8, B⟩, [], hasN [141], hasN [], look []⟩
noncomputable def V129.code : Code := (Tryz.f129.body).getD .skip
noncomputable def V129.cuts (B : Nat) (R : Value → World → Prop) : Nat → Cut := nthC []
noncomputable def V129.h : H := .s (.z) (.s (.z) (.z))
theorem V129.vc_eq (B : Nat) (R : Value → World → Prop) (a c : Int) (w : World) : wpf (V129.cfg B) (V129.cuts B R) V129.code V129.h [] (postOf Tryz.prog B (Tryz.f129.results.toList) R) (argE 0 [.int .u64 a, .int .u64 c]) [] w = V129.vc B R a c w := by kernel_rfl
theorem V129.obl (B : Nat) (R : Value → World → Prop) : oblP (V129.cfg B) (V129.cuts B R) V129.code V129.h [] (postOf Tryz.prog B (Tryz.f129.results.toList) R) := by
  have e : oblP (V129.cfg B) (V129.cuts B R) V129.code V129.h [] (postOf Tryz.prog B (Tryz.f129.results.toList) R) = (True ∧ (True ∧ True)) := by kernel_rfl
  exact e.mpr (⟨trivial, ⟨trivial, trivial⟩⟩)
theorem V129.cfgOk (B : Nat) : CfgOk (V129.cfg B) := cfgOk_of (by kernel_rfl) (by kernel_rfl) extNil
theorem V129.sound {a d : Int} {w : World} {R : Value → World → Prop} (h : V129.vc w.heap.size R a d w) : Calls Tryz.prog 129 ⟨[.int .u64 a, .int .u64 d]⟩ w fun e w' => ∃ v, e = .returned v ∧ R v w' :=
  calls_wpfP (c := V129.cfg w.heap.size) (fn := Tryz.f129) (x := V129.code) (V129.cuts w.heap.size R) V129.h (V129.cfgOk _) mixed Tryz.func129 (by kernel_rfl) (by kernel_rfl) (by kernel_rfl) rfl (V129.obl _ _) ((V129.vc_eq _ _ a d _).symm ▸ h)
def V127.vc (B : Nat) (R : Value → World → Prop) (a c : Int) (w : World) : Prop :=
  CallK Tryz.prog 51 [.int .u64 a] B w [] fun v d => 
  ∃ f : Nat, v = .float .f64 f ∧
  CallK Tryz.prog 51 [.int .u64 c] B d [] fun g i => 
  ∃ j : Nat, g = .float .f64 j ∧
  RunK Tryz.prog (Go.binOp .quo 82 (.float .f64 f) (.float .f64 j)) B i [] fun l m => 
  ∃ n : Nat, l = .float .f64 n ∧
  CallK Tryz.prog 34 [.float .f64 n] B m [] fun o p => 
  ∃ q : Int, o = .int .u64 q ∧
  Ret B p (R (.int .u64 q))
noncomputable def V127.cfg (B : Nat) : Cfg := ⟨Tryz.prog, ⟨11, B⟩, [], hasN [34, 51], hasN [], look []⟩
noncomputable def V127.code : Code := (Tryz.f127.body).getD .skip
noncomputable def V127.cuts (B : Nat) (R : Value → World → Prop) : Nat → Cut := nthC []
noncomputable def V127.h : H := .s (.z) (.s (.z) (.z))
theorem V127.vc_eq (B : Nat) (R : Value → World → Prop) (a c : Int) (w : World) : wpf (V127.cfg B) (V127.cuts B R) V127.code V127.h [] (postOf Tryz.prog B (Tryz.f127.results.toList) R) (argE 0 [.int .u64 a, .int .u64 c]) [] w = V127.vc B R a c w := by kernel_rfl
theorem V127.obl (B : Nat) (R : Value → World → Prop) : oblP (V127.cfg B) (V127.cuts B R) V127.code V127.h [] (postOf Tryz.prog B (Tryz.f127.results.toList) R) := by
  have e : oblP (V127.cfg B) (V127.cuts B R) V127.code V127.h [] (postOf Tryz.prog B (Tryz.f127.results.toList) R) = (True ∧ (True ∧ True)) := by kernel_rfl
  exact e.mpr (⟨trivial, ⟨trivial, trivial⟩⟩)
theorem V127.cfgOk (B : Nat) : CfgOk (V127.cfg B) := cfgOk_of (by kernel_rfl) (by kernel_rfl) extNil
theorem V127.sound {a d : Int} {w : World} {R : Value → World → Prop} (h : V127.vc w.heap.size R a d w) : Calls Tryz.prog 127 ⟨[.int .u64 a, .int .u64 d]⟩ w fun e w' => ∃ v, e = .returned v ∧ R v w' :=
  calls_wpfP (c := V127.cfg w.heap.size) (fn := Tryz.f127) (x := V127.code) (V127.cuts w.heap.size R) V127.h (V127.cfgOk _) mixed Tryz.func127 (by kernel_rfl) (by kernel_rfl) (by kernel_rfl) rfl (V127.obl _ _) ((V127.vc_eq _ _ a d _).symm ▸ h)
def V52.vc (B : Nat) (R : Value → World → Prop) (a : Nat) (w : World) : Prop :=
  Ret B w (R (.bool (FloatKind.f64.format.order a a != some .eq)))
noncomputable def V52.cfg (B : Nat) : Cfg := ⟨Tryz.prog, ⟨6, B⟩, [], hasN [], hasN [], look []⟩
noncomputable def V52.code : Code := (Tryz.f52.body).getD .skip
noncomputable def V52.cuts (B : Nat) (R : Value → World → Prop) : Nat → Cut := nthC []
noncomputable def V52.h : H := .s (.z) (.s (.z) (.z))
theorem V52.vc_eq (B : Nat) (R : Value → World → Prop) (a : Nat) (w : World) : wpf (V52.cfg B) (V52.cuts B R) V52.code V52.h [] (postOf Tryz.prog B (Tryz.f52.results.toList) R) (argE 0 [.float .f64 a]) [] w = V52.vc B R a w := by kernel_rfl
theorem V52.obl (B : Nat) (R : Value → World → Prop) : oblP (V52.cfg B) (V52.cuts B R) V52.code V52.h [] (postOf Tryz.prog B (Tryz.f52.results.toList) R) := by
  have e : oblP (V52.cfg B) (V52.cuts B R) V52.code V52.h [] (postOf Tryz.prog B (Tryz.f52.results.toList) R) = (True ∧ (True ∧ True)) := by kernel_rfl
  exact e.mpr (⟨trivial, ⟨trivial, trivial⟩⟩)
theorem V52.cfgOk (B : Nat) : CfgOk (V52.cfg B) := cfgOk_of (by kernel_rfl) (by kernel_rfl) extNil
theorem V52.sound {a : Nat} {w : World} {R : Value → World → Prop} (h : V52.vc w.heap.size R a w) : Calls Tryz.prog 52 ⟨[.float .f64 a]⟩ w fun e w' => ∃ v, e = .returned v ∧ R v w' :=
  calls_wpfP (c := V52.cfg w.heap.size) (fn := Tryz.f52) (x := V52.code) (V52.cuts w.heap.size R) V52.h (V52.cfgOk _) mixed Tryz.func52 (by kernel_rfl) (by kernel_rfl) (by kernel_rfl) rfl (V52.obl _ _) ((V52.vc_eq _ _ a _).symm ▸ h)
def V53.vc (B : Nat) (R : Value → World → Prop) (a : Nat) (c : Int) (w : World) : Prop :=
  if (c == 0) = true
  then (CallK Tryz.prog 56 [.float .f64 a] B w [] fun v d => 
   ∃ f : Nat, v = .float .f64 f ∧
   Ret B d (R (.bool (FloatKind.f64.format.order f 9218868437227405311 == some .gt))))
  else (if (decide (c < 0)) = true
   then (Ret B w (R (.bool (FloatKind.f64.format.order (Op.negFloat .f64 a) 9218868437227405311 == some .gt))))
   else (Ret B w (R (.bool (FloatKind.f64.format.order a 9218868437227405311 == some .gt)))))
noncomputable def V53.cfg (B : Nat) : Cfg := ⟨Tryz.prog, ⟨15, B⟩, [], hasN [56], hasN [], look []⟩
noncomputable def V53.code : Code := (Tryz.f53.body).getD .skip
noncomputable def V53.cuts (B : Nat) (R : Value → World → Prop) : Nat → Cut := nthC []
noncomputable def V53.h : H := .s (.z) (.s (.s (.z) (.c (.z) (.s (.z) (.c (.z) (.z))))) (.s (.z) (.z)))
theorem V53.vc_eq (B : Nat) (R : Value → World → Prop) (a : Nat) (c : Int) (w : World) : wpf (V53.cfg B) (V53.cuts B R) V53.code V53.h [] (postOf Tryz.prog B (Tryz.f53.results.toList) R) (argE 0 [.float .f64 a, .int .i64 c]) [] w = V53.vc B R a c w := by kernel_rfl
theorem V53.obl (B : Nat) (R : Value → World → Prop) : oblP (V53.cfg B) (V53.cuts B R) V53.code V53.h [] (postOf Tryz.prog B (Tryz.f53.results.toList) R) := by
  have e : oblP (V53.cfg B) (V53.cuts B R) V53.code V53.h [] (postOf Tryz.prog B (Tryz.f53.results.toList) R) = (True ∧ ((True ∧ (True ∧ (True ∧ (True ∧ True)))) ∧ (True ∧ True))) := by kernel_rfl
  exact e.mpr (⟨trivial, ⟨⟨trivial, ⟨trivial, ⟨trivial, ⟨trivial, trivial⟩⟩⟩⟩, ⟨trivial, trivial⟩⟩⟩)
theorem V53.cfgOk (B : Nat) : CfgOk (V53.cfg B) := cfgOk_of (by kernel_rfl) (by kernel_rfl) extNil
theorem V53.sound {a : Nat} {d : Int} {w : World} {R : Value → World → Prop} (h : V53.vc w.heap.size R a d w) : Calls Tryz.prog 53 ⟨[.float .f64 a, .int .i64 d]⟩ w fun e w' => ∃ v, e = .returned v ∧ R v w' :=
  calls_wpfP (c := V53.cfg w.heap.size) (fn := Tryz.f53) (x := V53.code) (V53.cuts w.heap.size R) V53.h (V53.cfgOk _) mixed Tryz.func53 (by kernel_rfl) (by kernel_rfl) (by kernel_rfl) rfl (V53.obl _ _) ((V53.vc_eq _ _ a d _).symm ▸ h)
def V54.vc (B : Nat) (R : Value → World → Prop) (a : Nat) (w : World) : Prop :=
  RunK Tryz.prog (V59.ext [.float .f64 a]) B w [] fun v c => 
  ∃ d : Int, v = .int .u64 d ∧
  Ret B c (R (.bool (decide (IntKind.wrap .i64 d < 0))))
noncomputable def V54.cfg (B : Nat) : Cfg := ⟨Tryz.prog, ⟨7, B⟩, [], hasN [], hasN [], look [(59, V59.ext)]⟩
noncomputable def V54.code : Code := (Tryz.f54.body).getD .skip
noncomputable def V54.cuts (B : Nat) (R : Value → World → Prop) : Nat → Cut := nthC []
noncomputable def V54.h : H := .s (.z) (.s (.z) (.z))
theorem V54.vc_eq (B : Nat) (R : Value → World → Prop) (a : Nat) (w : World) : wpf (V54.cfg B) (V54.cuts B R) V54.code V54.h [] (postOf Tryz.prog B (Tryz.f54.results.toList) R) (argE 0 [.float .f64 a]) [] w = V54.vc B R a w := by kernel_rfl
theorem V54.obl (B : Nat) (R : Value → World → Prop) : oblP (V54.cfg B) (V54.cuts B R) V54.code V54.h [] (postOf Tryz.prog B (Tryz.f54.results.toList) R) := by
  have e : oblP (V54.cfg B) (V54.cuts B R) V54.code V54.h [] (postOf Tryz.prog B (Tryz.f54.results.toList) R) = (True ∧ (True ∧ True)) := by kernel_rfl
  exact e.mpr (⟨trivial, ⟨trivial, trivial⟩⟩)
theorem V54.cfgOk (B : Nat) : CfgOk (V54.cfg B) := cfgOk_of (by kernel_rfl) (by kernel_rfl) (extCons V59.extOk extNil)
theorem V54.sound {a : Nat} {w : World} {R : Value → World → Prop} (h : V54.vc w.heap.size R a w) : Calls Tryz.prog 54 ⟨[.float .f64 a]⟩ w fun e w' => ∃ v, e = .returned v ∧ R v w' :=
  calls_wpfP (c := V54.cfg w.heap.size) (fn := Tryz.f54) (x := V54.code) (V54.cuts w.heap.size R) V54.h (V54.cfgOk _) mixed Tryz.func54 (by kernel_rfl) (by kernel_rfl) (by kernel_rfl) rfl (V54.obl _ _) ((V54.vc_eq _ _ a _).symm ▸ h)
def V55.vc (B : Nat) (R : Value → World → Prop) (a : Nat) (w : World) : Prop :=
  RunK Tryz.prog (V78.ext [.float .f64 a]) B w [] fun v c => 
  ∃ d : Nat, v = .float .f64 d ∧
  Ret B c (R (.float .f64 d))
noncomputable def V55.cfg (B : Nat) : Cfg := ⟨Tryz.prog, ⟨7, B⟩, [], hasN [], hasN [], look [(78, V78.ext)]⟩
noncomputable def V55.code : Code := (Tryz.f55.body).getD .skip
noncomputable def V55.cuts (B : Nat) (R : Value → World → Prop) : Nat → Cut := nthC []
noncomputable def V55.h : H := .s (.z) (.s (.c (.s (.z) (.z)) (.z)) (.s (.z) (.z)))
theorem V55.vc_eq (B : Nat) (R : Value → World → Prop) (a : Nat) (w : World) : wpf (V55.cfg B) (V55.cuts B R) V55.code V55.h [] (postOf Tryz.prog B (Tryz.f55.results.toList) R) (argE 0 [.float .f64 a]) [] w = V55.vc B R a w := by kernel_rfl
theorem V55.obl (B : Nat) (R : Value → World → Prop) : oblP (V55.cfg B) (V55.cuts B R) V55.code V55.h [] (postOf Tryz.prog B (Tryz.f55.results.toList) R) := by
  have e : oblP (V55.cfg B) (V55.cuts B R) V55.code V55.h [] (postOf Tryz.prog B (Tryz.f55.results.toList) R) = (True ∧ (((True ∧ True) ∧ True) ∧ (True ∧ True))) := by kernel_rfl
  exact e.mpr (⟨trivial, ⟨⟨⟨trivial, trivial⟩, trivial⟩, ⟨trivial, trivial⟩⟩⟩)
theorem V55.cfgOk (B : Nat) : CfgOk (V55.cfg B) := cfgOk_of (by kernel_rfl) (by kernel_rfl) (extCons V78.extOk extNil)
theorem V55.sound {a : Nat} {w : World} {R : Value → World → Prop} (h : V55.vc w.heap.size R a w) : Calls Tryz.prog 55 ⟨[.float .f64 a]⟩ w fun e w' => ∃ v, e = .returned v ∧ R v w' :=
  calls_wpfP (c := V55.cfg w.heap.size) (fn := Tryz.f55) (x := V55.code) (V55.cuts w.heap.size R) V55.h (V55.cfgOk _) mixed Tryz.func55 (by kernel_rfl) (by kernel_rfl) (by kernel_rfl) rfl (V55.obl _ _) ((V55.vc_eq _ _ a _).symm ▸ h)
def V56.vc (B : Nat) (R : Value → World → Prop) (a : Nat) (w : World) : Prop :=
  RunK Tryz.prog (V59.ext [.float .f64 a]) B w [] fun v c => 
  ∃ d : Int, v = .int .u64 d ∧
  RunK Tryz.prog (V77.ext [.int .u64 (IntKind.wrap .u64 (((BitVec.ofInt 64 d &&& ~~~ BitVec.ofInt 64 9223372036854775808).toNat : Nat) : Int))]) B c [] fun f g => 
  ∃ i : Nat, f = .float .f64 i ∧
  Ret B g (R (.float .f64 i))
noncomputable def V56.cfg (B : Nat) : Cfg := ⟨Tryz.prog, ⟨7, B⟩, [], hasN [], hasN [], look [(59, V59.ext), (77, V77.ext)]⟩
noncomputable def V56.code : Code := (Tryz.f56.body).getD .skip
noncomputable def V56.cuts (B : Nat) (R : Value → World → Prop) : Nat → Cut := nthC []
noncomputable def V56.h : H := .s (.z) (.s (.z) (.z))
theorem V56.vc_eq (B : Nat) (R : Value → World → Prop) (a : Nat) (w : World) : wpf (V56.cfg B) (V56.cuts B R) V56.code V56.h [] (postOf Tryz.prog B (Tryz.f56.results.toList) R) (argE 0 [.float .f64 a]) [] w = V56.vc B R a w := by kernel_rfl
theorem V56.obl (B : Nat) (R : Value → World → Prop) : oblP (V56.cfg B) (V56.cuts B R) V56.code V56.h [] (postOf Tryz.prog B (Tryz.f56.results.toList) R) := by
  have e : oblP (V56.cfg B) (V56.cuts B R) V56.code V56.h [] (postOf Tryz.prog B (Tryz.f56.results.toList) R) = (True ∧ (True ∧ True)) := by kernel_rfl
  exact e.mpr (⟨trivial, ⟨trivial, trivial⟩⟩)
theorem V56.cfgOk (B : Nat) : CfgOk (V56.cfg B) := cfgOk_of (by kernel_rfl) (by kernel_rfl) (extCons V59.extOk (extCons V77.extOk extNil))
theorem V56.sound {a : Nat} {w : World} {R : Value → World → Prop} (h : V56.vc w.heap.size R a w) : Calls Tryz.prog 56 ⟨[.float .f64 a]⟩ w fun e w' => ∃ v, e = .returned v ∧ R v w' :=
  calls_wpfP (c := V56.cfg w.heap.size) (fn := Tryz.f56) (x := V56.code) (V56.cuts w.heap.size R) V56.h (V56.cfgOk _) mixed Tryz.func56 (by kernel_rfl) (by kernel_rfl) (by kernel_rfl) rfl (V56.obl _ _) ((V56.vc_eq _ _ a _).symm ▸ h)
def V102.vc (B : Nat) (R : Value → World → Prop) (a : Nat) (w : World) : Prop :=
  RunK Tryz.prog (V133.ext [.float .f64 a]) B w [] fun v c => 
  ∃ d : Nat, v = .float .f64 d ∧
  Ret B c (R (.float .f64 d))
noncomputable def V102.cfg (B : Nat) : Cfg := ⟨Tryz.prog, ⟨7, B⟩, [], hasN [], hasN [], look [(133, V133.ext)]⟩
noncomputable def V102.code : Code := (Tryz.f102.body).getD .skip
noncomputable def V102.cuts (B : Nat) (R : Value → World → Prop) : Nat → Cut := nthC []
noncomputable def V102.h : H := .s (.z) (.s (.c (.s (.z) (.z)) (.z)) (.s (.z) (.z)))
theorem V102.vc_eq (B : Nat) (R : Value → World → Prop) (a : Nat) (w : World) : wpf (V102.cfg B) (V102.cuts B R) V102.code V102.h [] (postOf Tryz.prog B (Tryz.f102.results.toList) R) (argE 0 [.float .f64 a]) [] w = V102.vc B R a w := by kernel_rfl
theorem V102.obl (B : Nat) (R : Value → World → Prop) : oblP (V102.cfg B) (V102.cuts B R) V102.code V102.h [] (postOf Tryz.prog B (Tryz.f102.results.toList) R) := by
  have e : oblP (V102.cfg B) (V102.cuts B R) V102.code V102.h [] (postOf Tryz.prog B (Tryz.f102.results.toList) R) = (True ∧ (((True ∧ True) ∧ True) ∧ (True ∧ True))) := by kernel_rfl
  exact e.mpr (⟨trivial, ⟨⟨⟨trivial, trivial⟩, trivial⟩, ⟨trivial, trivial⟩⟩⟩)
theorem V102.cfgOk (B : Nat) : CfgOk (V102.cfg B) := cfgOk_of (by kernel_rfl) (by kernel_rfl) (extCons V133.extOk extNil)
theorem V102.sound {a : Nat} {w : World} {R : Value → World → Prop} (h : V102.vc w.heap.size R a w) : Calls Tryz.prog 102 ⟨[.float .f64 a]⟩ w fun e w' => ∃ v, e = .returned v ∧ R v w' :=
  calls_wpfP (c := V102.cfg w.heap.size) (fn := Tryz.f102) (x := V102.code) (V102.cuts w.heap.size R) V102.h (V102.cfgOk _) mixed Tryz.func102 (by kernel_rfl) (by kernel_rfl) (by kernel_rfl) rfl (V102.obl _ _) ((V102.vc_eq _ _ a _).symm ▸ h)
def V142.vc (B : Nat) (R : Value → World → Prop) (a c : Nat) (w : World) : Prop :=
  RunK Tryz.prog (V147.ext [.float .f64 a, .float .f64 c]) B w [] fun v d => 
  ∃ f : Nat, v = .float .f64 f ∧
  Ret B d (R (.float .f64 f))
noncomputable def V142.cfg (B : Nat) : Cfg := ⟨Tryz.prog, ⟨11, B⟩, [], hasN [], hasN [], look [(147, V147.ext)]⟩
noncomputable def V142.code : Code := (Tryz.f142.body).getD .skip
noncomputable def V142.cuts (B : Nat) (R : Value → World → Prop) : Nat → Cut := nthC []
noncomputable def V142.h : H := .s (.z) (.s (.c (.s (.z) (.z)) (.z)) (.s (.z) (.z)))
theorem V142.vc_eq (B : Nat) (R : Value → World → Prop) (a c : Nat) (w : World) : wpf (V142.cfg B) (V142.cuts B R) V142.code V142.h [] (postOf Tryz.prog B (Tryz.f142.results.toList) R) (argE 0 [.float .f64 a, .float .f64 c]) [] w = V142.vc B R a c w := by kernel_rfl
theorem V142.obl (B : Nat) (R : Value → World → Prop) : oblP (V142.cfg B) (V142.cuts B R) V142.code V142.h [] (postOf Tryz.prog B (Tryz.f142.results.toList) R) := by
  have e : oblP (V142.cfg B) (V142.cuts B R) V142.code V142.h [] (postOf Tryz.prog B (Tryz.f142.results.toList) R) = (True ∧ (((True ∧ True) ∧ True) ∧ (True ∧ True))) := by kernel_rfl
  exact e.mpr (⟨trivial, ⟨⟨⟨trivial, trivial⟩, trivial⟩, ⟨trivial, trivial⟩⟩⟩)
theorem V142.cfgOk (B : Nat) : CfgOk (V142.cfg B) := cfgOk_of (by kernel_rfl) (by kernel_rfl) (extCons V147.extOk extNil)
theorem V142.sound {a d : Nat} {w : World} {R : Value → World → Prop} (h : V142.vc w.heap.size R a d w) : Calls Tryz.prog 142 ⟨[.float .f64 a, .float .f64 d]⟩ w fun e w' => ∃ v, e = .returned v ∧ R v w' :=
  calls_wpfP (c := V142.cfg w.heap.size) (fn := Tryz.f142) (x := V142.code) (V142.cuts w.heap.size R) V142.h (V142.cfgOk _) mixed Tryz.func142 (by kernel_rfl) (by kernel_rfl) (by kernel_rfl) rfl (V142.obl _ _) ((V142.vc_eq _ _ a d _).symm ▸ h)
def V143.vc (B : Nat) (R : Value → World → Prop) (a c : Nat) (w : World) : Prop :=
  RunK Tryz.prog (V149.ext [.float .f64 a, .float .f64 c]) B w [] fun v d => 
  ∃ f : Nat, v = .float .f64 f ∧
  Ret B d (R (.float .f64 f))
noncomputable def V143.cfg (B : Nat) : Cfg := ⟨Tryz.prog, ⟨11, B⟩, [], hasN [], hasN [], look [(149, V149.ext)]⟩
noncomputable def V143.code : Code := (Tryz.f143.body).getD .skip
noncomputable def V143.cuts (B : Nat) (R : Value → World → Prop) : Nat → Cut := nthC []
noncomputable def V143.h : H := .s (.z) (.s (.c (.s (.z) (.z)) (.z)) (.s (.z) (.z)))
theorem V143.vc_eq (B : Nat) (R : Value → World → Prop) (a c : Nat) (w : World) : wpf (V143.cfg B) (V143.cuts B R) V143.code V143.h [] (postOf Tryz.prog B (Tryz.f143.results.toList) R) (argE 0 [.float .f64 a, .float .f64 c]) [] w = V143.vc B R a c w := by kernel_rfl
theorem V143.obl (B : Nat) (R : Value → World → Prop) : oblP (V143.cfg B) (V143.cuts B R) V143.code V143.h [] (postOf Tryz.prog B (Tryz.f143.results.toList) R) := by
  have e : oblP (V143.cfg B) (V143.cuts B R) V143.code V143.h [] (postOf Tryz.prog B (Tryz.f143.results.toList) R) = (True ∧ (((True ∧ True) ∧ True) ∧ (True ∧ True))) := by kernel_rfl
  exact e.mpr (⟨trivial, ⟨⟨⟨trivial, trivial⟩, trivial⟩, ⟨trivial, trivial⟩⟩⟩)
theorem V143.cfgOk (B : Nat) : CfgOk (V143.cfg B) := cfgOk_of (by kernel_rfl) (by kernel_rfl) (extCons V149.extOk extNil)
theorem V143.sound {a d : Nat} {w : World} {R : Value → World → Prop} (h : V143.vc w.heap.size R a d w) : Calls Tryz.prog 143 ⟨[.float .f64 a, .float .f64 d]⟩ w fun e w' => ∃ v, e = .returned v ∧ R v w' :=
  calls_wpfP (c := V143.cfg w.heap.size) (fn := Tryz.f143) (x := V143.code) (V143.cuts w.heap.size R) V143.h (V143.cfgOk _) mixed Tryz.func143 (by kernel_rfl) (by kernel_rfl) (by kernel_rfl) rfl (V143.obl _ _) ((V143.vc_eq _ _ a d _).symm ▸ h)
def V141a.vc (B : Nat) (R : Value → World → Prop) (a c : Int) (w : World) : Prop :=
  CallK Tryz.prog 51 [.int .u64 a] B w [] fun v d => 
  ∃ f : Nat, v = .float .f64 f ∧
  CallK Tryz.prog 51 [.int .u64 c] B d [] fun g i => 
  ∃ j : Nat, g = .float .f64 j ∧
  CallK Tryz.prog 52 [.float .f64 f] B i [] fun l m => 
  ∃ n : Bool, l = .bool n ∧
  if n = false
  then (CallK Tryz.prog 52 [.float .f64 j] B m [] fun o p => 
   ∃ q : Bool, o = .bool q ∧
   if q = true
   then (Ret B p (R (.int .u64 9221120237041090560)))
   else (CallK Tryz.prog 142 [.float .f64 f, .float .f64 j] B p [] fun r s => 
    ∃ t : Nat, r = .float .f64 t ∧
    CallK Tryz.prog 34 [.float .f64 t] B s [] fun u x => 
    ∃ y : Int, u = .int .u64 y ∧
    Ret B x (R (.int .u64 y))))
  else (Ret B m (R (.int .u64 9221120237041090560)))
noncomputable def V141a.cfg (B : Nat) : Cfg := ⟨Tryz.prog, ⟨24, B⟩, [], hasN [34, 51, 52, 142], hasN [], look []⟩
noncomputable def V141a.code : Code := (Tryz.f141.body).getD .skip
noncomputable def V141a.cuts (B : Nat) (R : Value → World → Prop) : Nat → Cut := nthC []
noncomputable def V141a.h : H := .s (.z) (.s (.z) (.s (.s (.z) (.c (.s (.z) (.z)) (.z))) (.s (.z) (.z))))
theorem V141a.vc_eq (B : Nat) (R : Value → World → Prop) (a c : Int) (w : World) : wpf (V141a.cfg B) (V141a.cuts B R) V141a.code V141a.h [] (postOf Tryz.prog B (Tryz.f141.results.toList) R) (argE 0 [.int .u64 a, .int .u64 c, .func (.func 142) #[] #[]]) [] w = V141a.vc B R a c w := by kernel_rfl
theorem V141a.obl (B : Nat) (R : Value → World → Prop) : oblP (V141a.cfg B) (V141a.cuts B R) V141a.code V141a.h [] (postOf Tryz.prog B (Tryz.f141.results.toList) R) := by
  have e : oblP (V141a.cfg B) (V141a.cuts B R) V141a.code V141a.h [] (postOf Tryz.prog B (Tryz.f141.results.toList) R) = (True ∧ (True ∧ ((True ∧ ((True ∧ True) ∧ True)) ∧ (True ∧ True)))) := by kernel_rfl
  exact e.mpr (⟨trivial, ⟨trivial, ⟨⟨trivial, ⟨⟨trivial, trivial⟩, trivial⟩⟩, ⟨trivial, trivial⟩⟩⟩⟩)
theorem V141a.cfgOk (B : Nat) : CfgOk (V141a.cfg B) := cfgOk_of (by kernel_rfl) (by kernel_rfl) extNil
theorem V141a.sound {a d : Int} {w : World} {R : Value → World → Prop} (h : V141a.vc w.heap.size R a d w) : Calls Tryz.prog 141 ⟨[.int .u64 a, .int .u64 d, .func (.func 142) #[] #[]]⟩ w fun e w' => ∃ v, e = .returned v ∧ R v w' :=
  calls_wpfP (c := V141a.cfg w.heap.size) (fn := Tryz.f141) (x := V141a.code) (V141a.cuts w.heap.size R) V141a.h (V141a.cfgOk _) mixed Tryz.func141 (by kernel_rfl) (by kernel_rfl) (by kernel_rfl) rfl (V141a.obl _ _) ((V141a.vc_eq _ _ a d _).symm ▸ h)
def V141b.vc (B : Nat) (R : Value → World → Prop) (a c : Int) (w : World) : Prop :=
  CallK Tryz.prog 51 [.int .u64 a] B w [] fun v d => 
  ∃ f : Nat, v = .float .f64 f ∧
  CallK Tryz.prog 51 [.int .u64 c] B d [] fun g i => 
  ∃ j : Nat, g = .float .f64 j ∧
  CallK Tryz.prog 52 [.float .f64 f] B i [] fun l m => 
  ∃ n : Bool, l = .bool n ∧
  if n = false
  then (CallK Tryz.prog 52 [.float .f64 j] B m [] fun o p => 
   ∃ q : Bool, o = .bool q ∧
   if q = true
   then (Ret B p (R (.int .u64 9221120237041090560)))
   else (CallK Tryz.prog 143 [.float .f64 f, .float .f64 j] B p [] fun r s => 
    ∃ t : Nat, r = .float .f64 t ∧
    CallK Tryz.prog 34 [.float .f64 t] B s [] fun u x => 
    ∃ y : Int, u = .int .u64 y ∧
    Ret B x (R (.int .u64 y))))
  else (Ret B m (R (.int .u64 9221120237041090560)))
noncomputable def V141b.cfg (B : Nat) : Cfg := ⟨Tryz.prog, ⟨24, B⟩, [], hasN [34, 51, 52, 143], hasN [], look []⟩
noncomputable def V141b.code : Code := (Tryz.f141.body).getD .skip
noncomputable def V141b.cuts (B : Nat) (R : Value → World → Prop) : Nat → Cut := nthC []
noncomputable def V141b.h : H := .s (.z) (.s (.z) (.s (.s (.z) (.c (.s (.z) (.z)) (.z))) (.s (.z) (.z))))
theorem V141b.vc_eq (B : Nat) (R : Value → World → Prop) (a c : Int) (w : World) : wpf (V141b.cfg B) (V141b.cuts B R) V141b.code V141b.h [] (postOf Tryz.prog B (Tryz.f141.results.toList) R) (argE 0 [.int .u64 a, .int .u64 c, .func (.func 143) #[] #[]]) [] w = V141b.vc B R a c w := by kernel_rfl
theorem V141b.obl (B : Nat) (R : Value → World → Prop) : oblP (V141b.cfg B) (V141b.cuts B R) V141b.code V141b.h [] (postOf Tryz.prog B (Tryz.f141.results.toList) R) := by
  have e : oblP (V141b.cfg B) (V141b.cuts B R) V141b.code V141b.h [] (postOf Tryz.prog B (Tryz.f141.results.toList) R) = (True ∧ (True ∧ ((True ∧ ((True ∧ True) ∧ True)) ∧ (True ∧ True)))) := by kernel_rfl
  exact e.mpr (⟨trivial, ⟨trivial, ⟨⟨trivial, ⟨⟨trivial, trivial⟩, trivial⟩⟩, ⟨trivial, trivial⟩⟩⟩⟩)
theorem V141b.cfgOk (B : Nat) : CfgOk (V141b.cfg B) := cfgOk_of (by kernel_rfl) (by kernel_rfl) extNil
theorem V141b.sound {a d : Int} {w : World} {R : Value → World → Prop} (h : V141b.vc w.heap.size R a d w) : Calls Tryz.prog 141 ⟨[.int .u64 a, .int .u64 d, .func (.func 143) #[] #[]]⟩ w fun e w' => ∃ v, e = .returned v ∧ R v w' :=
  calls_wpfP (c := V141b.cfg w.heap.size) (fn := Tryz.f141) (x := V141b.code) (V141b.cuts w.heap.size R) V141b.h (V141b.cfgOk _) mixed Tryz.func141 (by kernel_rfl) (by kernel_rfl) (by kernel_rfl) rfl (V141b.obl _ _) ((V141b.vc_eq _ _ a d _).symm ▸ h)
end Go.Proofs.YtidcpndlloppdaaGreatDoor
