import Derived.Test.YtidcpndlloppdaaGreatDoorZFE
/-
 What the engine makes of the loaded functions 94, 34, 51, 125, 124, 126, 96, 132, 100, 103, 19, 67, 95, 131, 128, 129, 127, 104, 105, 106, 107, 69, 70, 108, 109, 110, 111, 71, 135, 52, 53, 54, 55, 56, 101, 102, 142, 143, 141, 141: conditions under which a call returns as told, and proofs of that.
 Conditions: none. Printed by a program of this project.
-/
set_option linter.unusedVariables false
set_option maxRecDepth 100000
namespace Go.Proofs.YtidcpndlloppdaaGreatDoor
def V94.vc (B : Nat) (R : Value → World → Prop) (a : Int) (w : World) : Prop :=
 CallK Tryz.prog 51 [.int .u64 a] B w [] fun v c => 
 ∃ d : Nat, v = .float .f64 d ∧
 CallK Tryz.prog 34 [.float .f64 (Op.negFloat .f64 d)] B c [] fun f g => 
 ∃ i : Int, f = .int .u64 i ∧
 Ret B g (R (.int .u64 i))
noncomputable def V94.cfg (B : Nat) : Cfg := ⟨Tryz.prog, ⟨7, B⟩, [], hasN [34, 51], hasN [], look []⟩
noncomputable def V94.code : Code := (Tryz.f94.body).getD .skip
noncomputable def V94.cuts (B : Nat) (R : Value → World → Prop) : Nat → Cut := nthC []
noncomputable def V94.h : H := .s (.z) (.s (.z) (.z))
theorem V94.vc_eq (B : Nat) (R : Value → World → Prop) (a : Int) (w : World) : wpf (V94.cfg B) (V94.cuts B R) V94.code V94.h [] (postOf Tryz.prog B (Tryz.f94.results.toList) R) (argE 0 [.int .u64 a]) [] w = V94.vc B R a w := by kernel_rfl
theorem V94.obl (B : Nat) (R : Value → World → Prop) : oblP (V94.cfg B) (V94.cuts B R) V94.code V94.h [] (postOf Tryz.prog B (Tryz.f94.results.toList) R) := by
 have e : oblP (V94.cfg B) (V94.cuts B R) V94.code V94.h [] (postOf Tryz.prog B (Tryz.f94.results.toList) R) = (True ∧ (True ∧ True)) := by kernel_rfl
 exact e.mpr (⟨trivial, ⟨trivial, trivial⟩⟩)
theorem V94.cfgOk (B : Nat) : CfgOk (V94.cfg B) := cfgOk_of (by kernel_rfl) (by kernel_rfl) extNil
theorem V94.sound {a : Int} {w : World} {R : Value → World → Prop} (h : V94.vc w.heap.size R a w) : Calls Tryz.prog 94 ⟨[.int .u64 a]⟩ w fun e w' => ∃ v, e = .returned v ∧ R v w' :=
 calls_wpfP (c := V94.cfg w.heap.size) (fn := Tryz.f94) (x := V94.code) (V94.cuts w.heap.size R) V94.h (V94.cfgOk _) mixed Tryz.func94 (by kernel_rfl) (by kernel_rfl) (by kernel_rfl) rfl (V94.obl _ _) ((V94.vc_eq _ _ a _).symm ▸ h)
def V34.vc (B : Nat) (R : Value → World → Prop) (a : Nat) (w : World) : Prop :=
 CallK Tryz.prog 52 [.float .f64 a] B w [] fun v c => 
 ∃ d : Bool, v = .bool d ∧
 if d = true
 then (Ret B c (R (.int .u64 9221120237041090560)))
 else (RunK Tryz.prog (V59.ext [.float .f64 a]) B c [] fun f g => 
 ∃ i : Int, f = .int .u64 i ∧
 Ret B g (R (.int .u64 i)))
noncomputable def V34.cfg (B : Nat) : Cfg := ⟨Tryz.prog, ⟨7, B⟩, [], hasN [52], hasN [], look [(59, V59.ext)]⟩
noncomputable def V34.code : Code := (Tryz.f34.body).getD .skip
noncomputable def V34.cuts (B : Nat) (R : Value → World → Prop) : Nat → Cut := nthC []
noncomputable def V34.h : H := .s (.z) (.s (.s (.z) (.c (.s (.z) (.z)) (.z))) (.s (.z) (.z)))
theorem V34.vc_eq (B : Nat) (R : Value → World → Prop) (a : Nat) (w : World) : wpf (V34.cfg B) (V34.cuts B R) V34.code V34.h [] (postOf Tryz.prog B (Tryz.f34.results.toList) R) (argE 0 [.float .f64 a]) [] w = V34.vc B R a w := by kernel_rfl
theorem V34.obl (B : Nat) (R : Value → World → Prop) : oblP (V34.cfg B) (V34.cuts B R) V34.code V34.h [] (postOf Tryz.prog B (Tryz.f34.results.toList) R) := by
 have e : oblP (V34.cfg B) (V34.cuts B R) V34.code V34.h [] (postOf Tryz.prog B (Tryz.f34.results.toList) R) = (True ∧ ((True ∧ ((True ∧ True) ∧ True)) ∧ (True ∧ True))) := by kernel_rfl
 exact e.mpr (⟨trivial, ⟨⟨trivial, ⟨⟨trivial, trivial⟩, trivial⟩⟩, ⟨trivial, trivial⟩⟩⟩)
theorem V34.cfgOk (B : Nat) : CfgOk (V34.cfg B) := cfgOk_of (by kernel_rfl) (by kernel_rfl) (extCons V59.extOk extNil)
theorem V34.sound {a : Nat} {w : World} {R : Value → World → Prop} (h : V34.vc w.heap.size R a w) : Calls Tryz.prog 34 ⟨[.float .f64 a]⟩ w fun e w' => ∃ v, e = .returned v ∧ R v w' :=
 calls_wpfP (c := V34.cfg w.heap.size) (fn := Tryz.f34) (x := V34.code) (V34.cuts w.heap.size R) V34.h (V34.cfgOk _) mixed Tryz.func34 (by kernel_rfl) (by kernel_rfl) (by kernel_rfl) rfl (V34.obl _ _) ((V34.vc_eq _ _ a _).symm ▸ h)
def V51.vc (B : Nat) (R : Value → World → Prop) (a : Int) (w : World) : Prop :=
 RunK Tryz.prog (V77.ext [.int .u64 a]) B w [] fun v c => 
 ∃ d : Nat, v = .float .f64 d ∧
 Ret B c (R (.float .f64 d))
noncomputable def V51.cfg (B : Nat) : Cfg := ⟨Tryz.prog, ⟨5, B⟩, [], hasN [], hasN [], look [(77, V77.ext)]⟩
noncomputable def V51.code : Code := (Tryz.f51.body).getD .skip
noncomputable def V51.cuts (B : Nat) (R : Value → World → Prop) : Nat → Cut := nthC []
noncomputable def V51.h : H := .s (.z) (.s (.z) (.z))
theorem V51.vc_eq (B : Nat) (R : Value → World → Prop) (a : Int) (w : World) : wpf (V51.cfg B) (V51.cuts B R) V51.code V51.h [] (postOf Tryz.prog B (Tryz.f51.results.toList) R) (argE 0 [.int .u64 a]) [] w = V51.vc B R a w := by kernel_rfl
theorem V51.obl (B : Nat) (R : Value → World → Prop) : oblP (V51.cfg B) (V51.cuts B R) V51.code V51.h [] (postOf Tryz.prog B (Tryz.f51.results.toList) R) := by
 have e : oblP (V51.cfg B) (V51.cuts B R) V51.code V51.h [] (postOf Tryz.prog B (Tryz.f51.results.toList) R) = (True ∧ (True ∧ True)) := by kernel_rfl
 exact e.mpr (⟨trivial, ⟨trivial, trivial⟩⟩)
theorem V51.cfgOk (B : Nat) : CfgOk (V51.cfg B) := cfgOk_of (by kernel_rfl) (by kernel_rfl) (extCons V77.extOk extNil)
theorem V51.sound {a : Int} {w : World} {R : Value → World → Prop} (h : V51.vc w.heap.size R a w) : Calls Tryz.prog 51 ⟨[.int .u64 a]⟩ w fun e w' => ∃ v, e = .returned v ∧ R v w' :=
 calls_wpfP (c := V51.cfg w.heap.size) (fn := Tryz.f51) (x := V51.code) (V51.cuts w.heap.size R) V51.h (V51.cfgOk _) mixed Tryz.func51 (by kernel_rfl) (by kernel_rfl) (by kernel_rfl) rfl (V51.obl _ _) ((V51.vc_eq _ _ a _).symm ▸ h)
def V125.vc (B : Nat) (R : Value → World → Prop) (a c : Int) (w : World) : Prop :=
 CallK Tryz.prog 51 [.int .u64 a] B w [] fun v d => 
 ∃ f : Nat, v = .float .f64 f ∧
 CallK Tryz.prog 51 [.int .u64 c] B d [] fun g i => 
 ∃ j : Nat, g = .float .f64 j ∧
 RunK Tryz.prog (Go.binOp .sub 82 (.float .f64 f) (.float .f64 j)) B i [] fun l m => 
 ∃ n : Nat, l = .float .f64 n ∧
 CallK Tryz.prog 34 [.float .f64 n] B m [] fun o p => 
 ∃ q : Int, o = .int .u64 q ∧
 Ret B p (R (.int .u64 q))
noncomputable def V125.cfg (B : Nat) : Cfg := ⟨Tryz.prog, ⟨11, B⟩, [], hasN [34, 51], hasN [], look []⟩
noncomputable def V125.code : Code := (Tryz.f125.body).getD .skip
noncomputable def V125.cuts (B : Nat) (R : Value → World → Prop) : Nat → Cut := nthC []
noncomputable def V125.h : H := .s (.z) (.s (.z) (.z))
theorem V125.vc_eq (B : Nat) (R : Value → World → Prop) (a c : Int) (w : World) : wpf (V125.cfg B) (V125.cuts B R) V125.code V125.h [] (postOf Tryz.prog B (Tryz.f125.results.toList) R) (argE 0 [.int .u64 a, .int .u64 c]) [] w = V125.vc B R a c w := by kernel_rfl
theorem V125.obl (B : Nat) (R : Value → World → Prop) : oblP (V125.cfg B) (V125.cuts B R) V125.code V125.h [] (postOf Tryz.prog B (Tryz.f125.results.toList) R) := by
 have e : oblP (V125.cfg B) (V125.cuts B R) V125.code V125.h [] (postOf Tryz.prog B (Tryz.f125.results.toList) R) = (True ∧ (True ∧ True)) := by kernel_rfl
 exact e.mpr (⟨trivial, ⟨trivial, trivial⟩⟩)
theorem V125.cfgOk (B : Nat) : CfgOk (V125.cfg B) := cfgOk_of (by kernel_rfl) (by kernel_rfl) extNil
theorem V125.sound {a d : Int} {w : World} {R : Value → World → Prop} (h : V125.vc w.heap.size R a d w) : Calls Tryz.prog 125 ⟨[.int .u64 a, .int .u64 d]⟩ w fun e w' => ∃ v, e = .returned v ∧ R v w' :=
 calls_wpfP (c := V125.cfg w.heap.size) (fn := Tryz.f125) (x := V125.code) (V125.cuts w.heap.size R) V125.h (V125.cfgOk _) mixed Tryz.func125 (by kernel_rfl) (by kernel_rfl) (by kernel_rfl) rfl (V125.obl _ _) ((V125.vc_eq _ _ a d _).symm ▸ h)
def V124.vc (B : Nat) (R : Value → World → Prop) (a c : Int) (w : World) : Prop :=
 CallK Tryz.prog 51 [.int .u64 a] B w [] fun v d => 
 ∃ f : Nat, v = .float .f64 f ∧
 CallK Tryz.prog 51 [.int .u64 c] B d [] fun g i => 
 ∃ j : Nat, g = .float .f64 j ∧
 RunK Tryz.prog (Go.binOp .add 82 (.float .f64 f) (.float .f64 j)) B i [] fun l m => 
 ∃ n : Nat, l = .float .f64 n ∧
 CallK Tryz.prog 34 [.float .f64 n] B m [] fun o p => 
 ∃ q : Int, o = .int .u64 q ∧
 Ret B p (R (.int .u64 q))
noncomputable def V124.cfg (B : Nat) : Cfg := ⟨Tryz.prog, ⟨11, B⟩, [], hasN [34, 51], hasN [], look []⟩
noncomputable def V124.code : Code := (Tryz.f124.body).getD .skip
noncomputable def V124.cuts (B : Nat) (R : Value → World → Prop) : Nat → Cut := nthC []
noncomputable def V124.h : H := .s (.z) (.s (.z) (.z))
theorem V124.vc_eq (B : Nat) (R : Value → World → Prop) (a c : Int) (w : World) : wpf (V124.cfg B) (V124.cuts B R) V124.code V124.h [] (postOf Tryz.prog B (Tryz.f124.results.toList) R) (argE 0 [.int .u64 a, .int .u64 c]) [] w = V124.vc B R a c w := by kernel_rfl
theorem V124.obl (B : Nat) (R : Value → World → Prop) : oblP (V124.cfg B) (V124.cuts B R) V124.code V124.h [] (postOf Tryz.prog B (Tryz.f124.results.toList) R) := by
 have e : oblP (V124.cfg B) (V124.cuts B R) V124.code V124.h [] (postOf Tryz.prog B (Tryz.f124.results.toList) R) = (True ∧ (True ∧ True)) := by kernel_rfl
 exact e.mpr (⟨trivial, ⟨trivial, trivial⟩⟩)
theorem V124.cfgOk (B : Nat) : CfgOk (V124.cfg B) := cfgOk_of (by kernel_rfl) (by kernel_rfl) extNil
theorem V124.sound {a d : Int} {w : World} {R : Value → World → Prop} (h : V124.vc w.heap.size R a d w) : Calls Tryz.prog 124 ⟨[.int .u64 a, .int .u64 d]⟩ w fun e w' => ∃ v, e = .returned v ∧ R v w' :=
 calls_wpfP (c := V124.cfg w.heap.size) (fn := Tryz.f124) (x := V124.code) (V124.cuts w.heap.size R) V124.h (V124.cfgOk _) mixed Tryz.func124 (by kernel_rfl) (by kernel_rfl) (by kernel_rfl) rfl (V124.obl _ _) ((V124.vc_eq _ _ a d _).symm ▸ h)
def V126.vc (B : Nat) (R : Value → World → Prop) (a c : Int) (w : World) : Prop :=
 CallK Tryz.prog 51 [.int .u64 a] B w [] fun v d => 
 ∃ f : Nat, v = .float .f64 f ∧
 CallK Tryz.prog 51 [.int .u64 c] B d [] fun g i => 
 ∃ j : Nat, g = .float .f64 j ∧
 RunK Tryz.prog (Go.binOp .mul 82 (.float .f64 f) (.float .f64 j)) B i [] fun l m => 
 ∃ n : Nat, l = .float .f64 n ∧
 CallK Tryz.prog 34 [.float .f64 n] B m [] fun o p => 
 ∃ q : Int, o = .int .u64 q ∧
 Ret B p (R (.int .u64 q))
noncomputable def V126.cfg (B : Nat) : Cfg := ⟨Tryz.prog, ⟨11, B⟩, [], hasN [34, 51], hasN [], look []⟩
noncomputable def V126.code : Code := (Tryz.f126.body).getD .skip
noncomputable def V126.cuts (B : Nat) (R : Value → World → Prop) : Nat → Cut := nthC []
noncomputable def V126.h : H := .s (.z) (.s (.z) (.z))
theorem V126.vc_eq (B : Nat) (R : Value → World → Prop) (a c : Int) (w : World) : wpf (V126.cfg B) (V126.cuts B R) V126.code V126.h [] (postOf Tryz.prog B (Tryz.f126.results.toList) R) (argE 0 [.int .u64 a, .int .u64 c]) [] w = V126.vc B R a c w := by kernel_rfl
theorem V126.obl (B : Nat) (R : Value → World → Prop) : oblP (V126.cfg B) (V126.cuts B R) V126.code V126.h [] (postOf Tryz.prog B (Tryz.f126.results.toList) R) := by
 have e : oblP (V126.cfg B) (V126.cuts B R) V126.code V126.h [] (postOf Tryz.prog B (Tryz.f126.results.toList) R) = (True ∧ (True ∧ True)) := by kernel_rfl
 exact e.mpr (⟨trivial, ⟨trivial, trivial⟩⟩)
theorem V126.cfgOk (B : Nat) : CfgOk (V126.cfg B) := cfgOk_of (by kernel_rfl) (by kernel_rfl) extNil
theorem V126.sound {a d : Int} {w : World} {R : Value → World → Prop} (h : V126.vc w.heap.size R a d w) : Calls Tryz.prog 126 ⟨[.int .u64 a, .int .u64 d]⟩ w fun e w' => ∃ v, e = .returned v ∧ R v w' :=
 calls_wpfP (c := V126.cfg w.heap.size) (fn := Tryz.f126) (x := V126.code) (V126.cuts w.heap.size R) V126.h (V126.cfgOk _) mixed Tryz.func126 (by kernel_rfl) (by kernel_rfl) (by kernel_rfl) rfl (V126.obl _ _) ((V126.vc_eq _ _ a d _).symm ▸ h)
def V96.vc (B : Nat) (R : Value → World → Prop) (a : Int) (w : World) : Prop :=
 CallK Tryz.prog 51 [.int .u64 a] B w [] fun v c => 
 ∃ d : Nat, v = .float .f64 d ∧
 Ret B c (R (.bool (FloatKind.f64.format.order d 0 != some .eq)))
noncomputable def V96.cfg (B : Nat) : Cfg := ⟨Tryz.prog, ⟨6, B⟩, [], hasN [51], hasN [], look []⟩
noncomputable def V96.code : Code := (Tryz.f96.body).getD .skip
noncomputable def V96.cuts (B : Nat) (R : Value → World → Prop) : Nat → Cut := nthC []
noncomputable def V96.h : H := .s (.z) (.s (.z) (.z))
theorem V96.vc_eq (B : Nat) (R : Value → World → Prop) (a : Int) (w : World) : wpf (V96.cfg B) (V96.cuts B R) V96.code V96.h [] (postOf Tryz.prog B (Tryz.f96.results.toList) R) (argE 0 [.int .u64 a]) [] w = V96.vc B R a w := by kernel_rfl
theorem V96.obl (B : Nat) (R : Value → World → Prop) : oblP (V96.cfg B) (V96.cuts B R) V96.code V96.h [] (postOf Tryz.prog B (Tryz.f96.results.toList) R) := by
 have e : oblP (V96.cfg B) (V96.cuts B R) V96.code V96.h [] (postOf Tryz.prog B (Tryz.f96.results.toList) R) = (True ∧ (True ∧ True)) := by kernel_rfl
 exact e.mpr (⟨trivial, ⟨trivial, trivial⟩⟩)
theorem V96.cfgOk (B : Nat) : CfgOk (V96.cfg B) := cfgOk_of (by kernel_rfl) (by kernel_rfl) extNil
theorem V96.sound {a : Int} {w : World} {R : Value → World → Prop} (h : V96.vc w.heap.size R a w) : Calls Tryz.prog 96 ⟨[.int .u64 a]⟩ w fun e w' => ∃ v, e = .returned v ∧ R v w' :=
 calls_wpfP (c := V96.cfg w.heap.size) (fn := Tryz.f96) (x := V96.code) (V96.cuts w.heap.size R) V96.h (V96.cfgOk _) mixed Tryz.func96 (by kernel_rfl) (by kernel_rfl) (by kernel_rfl) rfl (V96.obl _ _) ((V96.vc_eq _ _ a _).symm ▸ h)
def V132.vc (B : Nat) (R : Value → World → Prop) (a c : Int) (w : World) : Prop :=
 CallK Tryz.prog 51 [.int .u64 a] B w [] fun v d => 
 ∃ f : Nat, v = .float .f64 f ∧
 CallK Tryz.prog 51 [.int .u64 c] B d [] fun g i => 
 ∃ j : Nat, g = .float .f64 j ∧
 Ret B i (R (.bool (FloatKind.f64.format.order f j == some .eq)))
noncomputable def V132.cfg (B : Nat) : Cfg := ⟨Tryz.prog, ⟨10, B⟩, [], hasN [51], hasN [], look []⟩
noncomputable def V132.code : Code := (Tryz.f132.body).getD .skip
noncomputable def V132.cuts (B : Nat) (R : Value → World → Prop) : Nat → Cut := nthC []
noncomputable def V132.h : H := .s (.z) (.s (.z) (.z))
theorem V132.vc_eq (B : Nat) (R : Value → World → Prop) (a c : Int) (w : World) : wpf (V132.cfg B) (V132.cuts B R) V132.code V132.h [] (postOf Tryz.prog B (Tryz.f132.results.toList) R) (argE 0 [.int .u64 a, .int .u64 c]) [] w = V132.vc B R a c w := by kernel_rfl
theorem V132.obl (B : Nat) (R : Value → World → Prop) : oblP (V132.cfg B) (V132.cuts B R) V132.code V132.h [] (postOf Tryz.prog B (Tryz.f132.results.toList) R) := by
 have e : oblP (V132.cfg B) (V132.cuts B R) V132.code V132.h [] (postOf Tryz.prog B (Tryz.f132.results.toList) R) = (True ∧ (True ∧ True)) := by kernel_rfl
 exact e.mpr (⟨trivial, ⟨trivial, trivial⟩⟩)
theorem V132.cfgOk (B : Nat) : CfgOk (V132.cfg B) := cfgOk_of (by kernel_rfl) (by kernel_rfl) extNil
theorem V132.sound {a d : Int} {w : World} {R : Value → World → Prop} (h : V132.vc w.heap.size R a d w) : Calls Tryz.prog 132 ⟨[.int .u64 a, .int .u64 d]⟩ w fun e w' => ∃ v, e = .returned v ∧ R v w' :=
 calls_wpfP (c := V132.cfg w.heap.size) (fn := Tryz.f132) (x := V132.code) (V132.cuts w.heap.size R) V132.h (V132.cfgOk _) mixed Tryz.func132 (by kernel_rfl) (by kernel_rfl) (by kernel_rfl) rfl (V132.obl _ _) ((V132.vc_eq _ _ a d _).symm ▸ h)
def V100.vc (B : Nat) (R : Value → World → Prop) (a : Nat) (w : World) : Prop :=
 if (FloatKind.f64.format.order a a != some .eq) = true
 then (Ret B w (R (.int .u64 9221120237041090560)))
 else (RunK Tryz.prog (V59.ext [.float .f64 a]) B w [] fun v c => 
 ∃ d : Int, v = .int .u64 d ∧
 Ret B c (R (.int .u64 d)))
noncomputable def V100.cfg (B : Nat) : Cfg := ⟨Tryz.prog, ⟨8, B⟩, [], hasN [], hasN [], look [(59, V59.ext)]⟩
noncomputable def V100.code : Code := (Tryz.f100.body).getD .skip
noncomputable def V100.cuts (B : Nat) (R : Value → World → Prop) : Nat → Cut := nthC []
noncomputable def V100.h : H := .s (.z) (.s (.s (.z) (.c (.s (.z) (.z)) (.z))) (.s (.z) (.z)))
theorem V100.vc_eq (B : Nat) (R : Value → World → Prop) (a : Nat) (w : World) : wpf (V100.cfg B) (V100.cuts B R) V100.code V100.h [] (postOf Tryz.prog B (Tryz.f100.results.toList) R) (argE 0 [.float .f64 a]) [] w = V100.vc B R a w := by kernel_rfl
theorem V100.obl (B : Nat) (R : Value → World → Prop) : oblP (V100.cfg B) (V100.cuts B R) V100.code V100.h [] (postOf Tryz.prog B (Tryz.f100.results.toList) R) := by
 have e : oblP (V100.cfg B) (V100.cuts B R) V100.code V100.h [] (postOf Tryz.prog B (Tryz.f100.results.toList) R) = (True ∧ ((True ∧ ((True ∧ True) ∧ True)) ∧ (True ∧ True))) := by kernel_rfl
 exact e.mpr (⟨trivial, ⟨⟨trivial, ⟨⟨trivial, trivial⟩, trivial⟩⟩, ⟨trivial, trivial⟩⟩⟩)
theorem V100.cfgOk (B : Nat) : CfgOk (V100.cfg B) := cfgOk_of (by kernel_rfl) (by kernel_rfl) (extCons V59.extOk extNil)
theorem V100.sound {a : Nat} {w : World} {R : Value → World → Prop} (h : V100.vc w.heap.size R a w) : Calls Tryz.prog 100 ⟨[.float .f64 a]⟩ w fun e w' => ∃ v, e = .returned v ∧ R v w' :=
 calls_wpfP (c := V100.cfg w.heap.size) (fn := Tryz.f100) (x := V100.code) (V100.cuts w.heap.size R) V100.h (V100.cfgOk _) mixed Tryz.func100 (by kernel_rfl) (by kernel_rfl) (by kernel_rfl) rfl (V100.obl _ _) ((V100.vc_eq _ _ a _).symm ▸ h)
def V103.vc (B : Nat) (R : Value → World → Prop) (a : Int) (w : World) : Prop :=
 RunK Tryz.prog (V77.ext [.int .u64 a]) B w [] fun v c => 
 ∃ d : Nat, v = .float .f64 d ∧
 Ret B c (R (.float .f64 d))
noncomputable def V103.cfg (B : Nat) : Cfg := ⟨Tryz.prog, ⟨5, B⟩, [], hasN [], hasN [], look [(77, V77.ext)]⟩
noncomputable def V103.code : Code := (Tryz.f103.body).getD .skip
noncomputable def V103.cuts (B : Nat) (R : Value → World → Prop) : Nat → Cut := nthC []
noncomputable def V103.h : H := .s (.z) (.s (.z) (.z))
theorem V103.vc_eq (B : Nat) (R : Value → World → Prop) (a : Int) (w : World) : wpf (V103.cfg B) (V103.cuts B R) V103.code V103.h [] (postOf Tryz.prog B (Tryz.f103.results.toList) R) (argE 0 [.int .u64 a]) [] w = V103.vc B R a w := by kernel_rfl
theorem V103.obl (B : Nat) (R : Value → World → Prop) : oblP (V103.cfg B) (V103.cuts B R) V103.code V103.h [] (postOf Tryz.prog B (Tryz.f103.results.toList) R) := by
 have e : oblP (V103.cfg B) (V103.cuts B R) V103.code V103.h [] (postOf Tryz.prog B (Tryz.f103.results.toList) R) = (True ∧ (True ∧ True)) := by kernel_rfl
 exact e.mpr (⟨trivial, ⟨trivial, trivial⟩⟩)
theorem V103.cfgOk (B : Nat) : CfgOk (V103.cfg B) := cfgOk_of (by kernel_rfl) (by kernel_rfl) (extCons V77.extOk extNil)
theorem V103.sound {a : Int} {w : World} {R : Value → World → Prop} (h : V103.vc w.heap.size R a w) : Calls Tryz.prog 103 ⟨[.int .u64 a]⟩ w fun e w' => ∃ v, e = .returned v ∧ R v w' :=
 calls_wpfP (c := V103.cfg w.heap.size) (fn := Tryz.f103) (x := V103.code) (V103.cuts w.heap.size R) V103.h (V103.cfgOk _) mixed Tryz.func103 (by kernel_rfl) (by kernel_rfl) (by kernel_rfl) rfl (V103.obl _ _) ((V103.vc_eq _ _ a _).symm ▸ h)
def V19.vc (B : Nat) (R : Value → World → Prop) (a : Int) (w : World) : Prop :=
 CallK Tryz.prog 34 [.float .f64 (FloatKind.nearest .f64 a)] B w [] fun v c => 
 ∃ d : Int, v = .int .u64 d ∧
 Ret B c (R (.int .u64 d))
noncomputable def V19.cfg (B : Nat) : Cfg := ⟨Tryz.prog, ⟨6, B⟩, [], hasN [34], hasN [], look []⟩
noncomputable def V19.code : Code := (Tryz.f19.body).getD .skip
noncomputable def V19.cuts (B : Nat) (R : Value → World → Prop) : Nat → Cut := nthC []
noncomputable def V19.h : H := .s (.z) (.s (.z) (.z))
theorem V19.vc_eq (B : Nat) (R : Value → World → Prop) (a : Int) (w : World) : wpf (V19.cfg B) (V19.cuts B R) V19.code V19.h [] (postOf Tryz.prog B (Tryz.f19.results.toList) R) (argE 0 [.int .i64 a]) [] w = V19.vc B R a w := by kernel_rfl
theorem V19.obl (B : Nat) (R : Value → World → Prop) : oblP (V19.cfg B) (V19.cuts B R) V19.code V19.h [] (postOf Tryz.prog B (Tryz.f19.results.toList) R) := by
 have e : oblP (V19.cfg B) (V19.cuts B R) V19.code V19.h [] (postOf Tryz.prog B (Tryz.f19.results.toList) R) = (True ∧ (True ∧ True)) := by kernel_rfl
 exact e.mpr (⟨trivial, ⟨trivial, trivial⟩⟩)
theorem V19.cfgOk (B : Nat) : CfgOk (V19.cfg B) := cfgOk_of (by kernel_rfl) (by kernel_rfl) extNil
theorem V19.sound {a : Int} {w : World} {R : Value → World → Prop} (h : V19.vc w.heap.size R a w) : Calls Tryz.prog 19 ⟨[.int .i64 a]⟩ w fun e w' => ∃ v, e = .returned v ∧ R v w' :=
 calls_wpfP (c := V19.cfg w.heap.size) (fn := Tryz.f19) (x := V19.code) (V19.cuts w.heap.size R) V19.h (V19.cfgOk _) mixed Tryz.func19 (by kernel_rfl) (by kernel_rfl) (by kernel_rfl) rfl (V19.obl _ _) ((V19.vc_eq _ _ a _).symm ▸ h)
def V67.vc (B : Nat) (R : Value → World → Prop) (a : Int) (w : World) : Prop :=
 CallK Tryz.prog 100 [.float .f64 (FloatKind.nearest .f64 a)] B w [] fun v c => 
 ∃ d : Int, v = .int .u64 d ∧
 Ret B c (R (.int .u64 d))
noncomputable def V67.cfg (B : Nat) : Cfg := ⟨Tryz.prog, ⟨6, B⟩, [], hasN [100], hasN [], look []⟩
noncomputable def V67.code : Code := (Tryz.f67.body).getD .skip
noncomputable def V67.cuts (B : Nat) (R : Value → World → Prop) : Nat → Cut := nthC []
noncomputable def V67.h : H := .s (.z) (.s (.z) (.z))
theorem V67.vc_eq (B : Nat) (R : Value → World → Prop) (a : Int) (w : World) : wpf (V67.cfg B) (V67.cuts B R) V67.code V67.h [] (postOf Tryz.prog B (Tryz.f67.results.toList) R) (argE 0 [.int .i64 a]) [] w = V67.vc B R a w := by kernel_rfl
theorem V67.obl (B : Nat) (R : Value → World → Prop) : oblP (V67.cfg B) (V67.cuts B R) V67.code V67.h [] (postOf Tryz.prog B (Tryz.f67.results.toList) R) := by
 have e : oblP (V67.cfg B) (V67.cuts B R) V67.code V67.h [] (postOf Tryz.prog B (Tryz.f67.results.toList) R) = (True ∧ (True ∧ True)) := by kernel_rfl
 exact e.mpr (⟨trivial, ⟨trivial, trivial⟩⟩)
theorem V67.cfgOk (B : Nat) : CfgOk (V67.cfg B) := cfgOk_of (by kernel_rfl) (by kernel_rfl) extNil
theorem V67.sound {a : Int} {w : World} {R : Value → World → Prop} (h : V67.vc w.heap.size R a w) : Calls Tryz.prog 67 ⟨[.int .i64 a]⟩ w fun e w' => ∃ v, e = .returned v ∧ R v w' :=
 calls_wpfP (c := V67.cfg w.heap.size) (fn := Tryz.f67) (x := V67.code) (V67.cuts w.heap.size R) V67.h (V67.cfgOk _) mixed Tryz.func67 (by kernel_rfl) (by kernel_rfl) (by kernel_rfl) rfl (V67.obl _ _) ((V67.vc_eq _ _ a _).symm ▸ h)
def V95.vc (B : Nat) (R : Value → World → Prop) (a : Int) (w : World) : Prop :=
 CallK Tryz.prog 51 [.int .u64 a] B w [] fun v c => 
 ∃ d : Nat, v = .float .f64 d ∧
 CallK Tryz.prog 102 [.float .f64 d] B c [] fun f g => 
 ∃ i : Nat, f = .float .f64 i ∧
 CallK Tryz.prog 34 [.float .f64 i] B g [] fun j l => 
 ∃ m : Int, j = .int .u64 m ∧
 Ret B l (R (.int .u64 m))
noncomputable def V95.cfg (B : Nat) : Cfg := ⟨Tryz.prog, ⟨7, B⟩, [], hasN [34, 51, 102], hasN [], look []⟩
noncomputable def V95.code : Code := (Tryz.f95.body).getD .skip
noncomputable def V95.cuts (B : Nat) (R : Value → World → Prop) : Nat → Cut := nthC []
noncomputable def V95.h : H := .s (.z) (.s (.z) (.z))
theorem V95.vc_eq (B : Nat) (R : Value → World → Prop) (a : Int) (w : World) : wpf (V95.cfg B) (V95.cuts B R) V95.code V95.h [] (postOf Tryz.prog B (Tryz.f95.results.toList) R) (argE 0 [.int .u64 a]) [] w = V95.vc B R a w := by kernel_rfl
theorem V95.obl (B : Nat) (R : Value → World → Prop) : oblP (V95.cfg B) (V95.cuts B R) V95.code V95.h [] (postOf Tryz.prog B (Tryz.f95.results.toList) R) := by
 have e : oblP (V95.cfg B) (V95.cuts B R) V95.code V95.h [] (postOf Tryz.prog B (Tryz.f95.results.toList) R) = (True ∧ (True ∧ True)) := by kernel_rfl
 exact e.mpr (⟨trivial, ⟨trivial, trivial⟩⟩)
theorem V95.cfgOk (B : Nat) : CfgOk (V95.cfg B) := cfgOk_of (by kernel_rfl) (by kernel_rfl) extNil
theorem V95.sound {a : Int} {w : World} {R : Value → World → Prop} (h : V95.vc w.heap.size R a w) : Calls Tryz.prog 95 ⟨[.int .u64 a]⟩ w fun e w' => ∃ v, e = .returned v ∧ R v w' :=
 calls_wpfP (c := V95.cfg w.heap.size) (fn := Tryz.f95) (x := V95.code) (V95.cuts w.heap.size R) V95.h (V95.cfgOk _) mixed Tryz.func95 (by kernel_rfl) (by kernel_rfl) (by kernel_rfl) rfl (V95.obl _ _) ((V95.vc_eq _ _ a _).symm ▸ h)
def V131.vc (B : Nat) (R : Value → World → Prop) (a c : Int) (w : World) : Prop :=
 CallK Tryz.prog 51 [.int .u64 a] B w [] fun v d => 
 ∃ f : Nat, v = .float .f64 f ∧
 CallK Tryz.prog 51 [.int .u64 c] B d [] fun g i => 
 ∃ j : Nat, g = .float .f64 j ∧
 Ret B i (R (.bool (FloatKind.f64.format.order f j == some .lt)))
noncomputable def V131.cfg (B : Nat) : Cfg := ⟨Tryz.prog, ⟨10, B⟩, [], hasN [51], hasN [], look []⟩
noncomputable def V131.code : Code := (Tryz.f131.body).getD .skip
noncomputable def V131.cuts (B : Nat) (R : Value → World → Prop) : Nat → Cut := nthC []
noncomputable def V131.h : H := .s (.z) (.s (.z) (.z))
theorem V131.vc_eq (B : Nat) (R : Value → World → Prop) (a c : Int) (w : World) : wpf (V131.cfg B) (V131.cuts B R) V131.code V131.h [] (postOf Tryz.prog B (Tryz.f131.results.toList) R) (argE 0 [.int .u64 a, .int .u64 c]) [] w = V131.vc B R a c w := by kernel_rfl
theorem V131.obl (B : Nat) (R : Value → World → Prop) : oblP (V131.cfg B) (V131.cuts B R) V131.code V131.h [] (postOf Tryz.prog B (Tryz.f131.results.toList) R) := by
 have e : oblP (V131.cfg B) (V131.cuts B R) V131.code V131.h [] (postOf Tryz.prog B (Tryz.f131.results.toList) R) = (True ∧ (True ∧ True)) := by kernel_rfl
 exact e.mpr (⟨trivial, ⟨trivial, trivial⟩⟩)
theorem V131.cfgOk (B : Nat) : CfgOk (V131.cfg B) := cfgOk_of (by kernel_rfl) (by kernel_rfl) extNil
theorem V131.sound {a d : Int} {w : World} {R : Value → World → Prop} (h : V131.vc w.heap.size R a d w) : Calls Tryz.prog 131 ⟨[.int .u64 a, .int .u64 d]⟩ w fun e w' => ∃ v, e = .returned v ∧ R v w' :=
 calls_wpfP (c := V131.cfg w.heap.size) (fn := Tryz.f131) (x := V131.code) (V131.cuts w.heap.size R) V131.h (V131.cfgOk _) mixed Tryz.func131 (by kernel_rfl) (by kernel_rfl) (by kernel_rfl) rfl (V131.obl _ _) ((V131.vc_eq _ _ a d _).symm ▸ h)
def V128.vc (B : Nat) (R : Value → World → Prop) (a c : Int) (w : World) : Prop :=
 CallK Tryz.prog 141 [.int .u64 a, .int .u64 c, .func (.func 142) #[] #[]] B w [] fun v d => 
 ∃ f : Int, v = .int .u64 f ∧
 Ret B d (R (.int .u64 f))
noncomputable def V128.cfg (B : Nat) : Cfg := ⟨Tryz.prog, ⟨8, B⟩, [], hasN [141], hasN [], look []⟩
noncomputable def V128.code : Code := (Tryz.f128.body).getD .skip
noncomputable def V128.cuts (B : Nat) (R : Value → World → Prop) : Nat → Cut := nthC []
noncomputable def V128.h : H := .s (.z) (.s (.z) (.z))
theorem V128.vc_eq (B : Nat) (R : Value → World → Prop) (a c : Int) (w : World) : wpf (V128.cfg B) (V128.cuts B R) V128.code V128.h [] (postOf Tryz.prog B (Tryz.f128.results.toList) R) (argE 0 [.int .u64 a, .int .u64 c]) [] w = V128.vc B R a c w := by kernel_rfl
theorem V128.obl (B : Nat) (R : Value → World → Prop) : oblP (V128.cfg B) (V128.cuts B R) V128.code V128.h [] (postOf Tryz.prog B (Tryz.f128.results.toList) R) := by
 have e : oblP (V128.cfg B) (V128.cuts B R) V128.code V128.h [] (postOf Tryz.prog B (Tryz.f128.results.toList) R) = (True ∧ (True ∧ True)) := by kernel_rfl
 exact e.mpr (⟨trivial, ⟨trivial, trivial⟩⟩)
theorem V128.cfgOk (B : Nat) : CfgOk (V128.cfg B) := cfgOk_of (by kernel_rfl) (by kernel_rfl) extNil
theorem V128.sound {a d : Int} {w : World} {R : Value → World → Prop} (h : V128.vc w.heap.size R a d w) : Calls Tryz.prog 128 ⟨[.int .u64 a, .int .u64 d]⟩ w fun e w' => ∃ v, e = .returned v ∧ R v w' :=
 calls_wpfP (c := V128.cfg w.heap.size) (fn := Tryz.f128) (x := V128.code) (V128.cuts w.heap.size R) V128.h (V128.cfgOk _) mixed Tryz.func128 (by kernel_rfl) (by kernel_rfl) (by kernel_rfl) rfl (V128.obl _ _) ((V128.vc_eq _ _ a d _).symm ▸ h)
def V129.vc (B : Nat) (R : Value → World → Prop) (a c : Int) (w : World) : Prop :=
 CallK Tryz.prog 141 [.int .u64 a, .int .u64 c, .func (.func 143) #[] #[]] B w [] fun v d => 
 ∃ f : Int, v = .int .u64 f ∧
 Ret B d (R (.int .u64 f))
noncomputable def V129.cfg (B : Nat) : Cfg := ⟨Tryz.prog, ⟨8, B⟩, [], hasN [141], hasN [], look []⟩
noncomputable def V129.code : Code := (Tryz.f129.body).getD .skip
noncomputable def V129.cuts (B : Nat) (R : Value → World → Prop) : Nat → Cut := nthC []
noncomputable def V129.h : H := .s (.z) (.s (.z) (.z))
theorem V129.vc_eq (B : Nat) (R : Value → World → Prop) (a c : Int) (w : World) : wpf (V129.cfg B) (V129.cuts B R) V129.code V129.h [] (postOf Tryz.prog B (Tryz.f129.results.toList) R) (argE 0 [.int .u64 a, .int .u64 c]) [] w = V129.vc B R a c w := by kernel_rfl
theorem V129.obl (B : Nat) (R : Value → World → Prop) : oblP (V129.cfg B) (V129.cuts B R) V129.code V129.h [] (postOf Tryz.prog B (Tryz.f129.results.toList) R) := by
 have e : oblP (V129.cfg B) (V129.cuts B R) V129.code V129.h [] (postOf Tryz.prog B (Tryz.f129.results.toList) R) = (True ∧ (True ∧ True)) := by kernel_rfl
 exact e.mpr (⟨trivial, ⟨trivial, trivial⟩⟩)
theorem V129.cfgOk (B : Nat) : CfgOk (V129.cfg B) := cfgOk_of (by kernel_rfl) (by kernel_rfl) extNil
theorem V129.sound {a d : Int} {w : World} {R : Value → World → Prop} (h : V129.vc w.heap.size R a d w) : Calls Tryz.prog 129 ⟨[.int .u64 a, .int .u64 d]⟩ w fun e w' => ∃ v, e = .returned v ∧ R v w' :=
 calls_wpfP (c := V129.cfg w.heap.size) (fn := Tryz.f129) (x := V129.code) (V129.cuts w.heap.size R) V129.h (V129.cfgOk _) mixed Tryz.func129 (by kernel_rfl) (by kernel_rfl) (by kernel_rfl) rfl (V129.obl _ _) ((V129.vc_eq _ _ a d _).symm ▸ h)
def V127.vc (B : Nat) (R : Value → World → Prop) (a c : Int) (w : World) : Prop :=
 CallK Tryz.prog 51 [.int .u64 a] B w [] fun v d => 
 ∃ f : Nat, v = .float .f64 f ∧
 CallK Tryz.prog 51 [.int .u64 c] B d [] fun g i => 
 ∃ j : Nat, g = .float .f64 j ∧
 RunK Tryz.prog (Go.binOp .quo 82 (.float .f64 f) (.float .f64 j)) B i [] fun l m => 
 ∃ n : Nat, l = .float .f64 n ∧
 CallK Tryz.prog 34 [.float .f64 n] B m [] fun o p => 
 ∃ q : Int, o = .int .u64 q ∧
 Ret B p (R (.int .u64 q))
noncomputable def V127.cfg (B : Nat) : Cfg := ⟨Tryz.prog, ⟨11, B⟩, [], hasN [34, 51], hasN [], look []⟩
noncomputable def V127.code : Code := (Tryz.f127.body).getD .skip
noncomputable def V127.cuts (B : Nat) (R : Value → World → Prop) : Nat → Cut := nthC []
noncomputable def V127.h : H := .s (.z) (.s (.z) (.z))
theorem V127.vc_eq (B : Nat) (R : Value → World → Prop) (a c : Int) (w : World) : wpf (V127.cfg B) (V127.cuts B R) V127.code V127.h [] (postOf Tryz.prog B (Tryz.f127.results.toList) R) (argE 0 [.int .u64 a, .int .u64 c]) [] w = V127.vc B R a c w := by kernel_rfl
theorem V127.obl (B : Nat) (R : Value → World → Prop) : oblP (V127.cfg B) (V127.cuts B R) V127.code V127.h [] (postOf Tryz.prog B (Tryz.f127.results.toList) R) := by
 have e : oblP (V127.cfg B) (V127.cuts B R) V127.code V127.h [] (postOf Tryz.prog B (Tryz.f127.results.toList) R) = (True ∧ (True ∧ True)) := by kernel_rfl
 exact e.mpr (⟨trivial, ⟨trivial, trivial⟩⟩)
theorem V127.cfgOk (B : Nat) : CfgOk (V127.cfg B) := cfgOk_of (by kernel_rfl) (by kernel_rfl) extNil
theorem V127.sound {a d : Int} {w : World} {R : Value → World → Prop} (h : V127.vc w.heap.size R a d w) : Calls Tryz.prog 127 ⟨[.int .u64 a, .int .u64 d]⟩ w fun e w' => ∃ v, e = .returned v ∧ R v w' :=
 calls_wpfP (c := V127.cfg w.heap.size) (fn := Tryz.f127) (x := V127.code) (V127.cuts w.heap.size R) V127.h (V127.cfgOk _) mixed Tryz.func127 (by kernel_rfl) (by kernel_rfl) (by kernel_rfl) rfl (V127.obl _ _) ((V127.vc_eq _ _ a d _).symm ▸ h)
def V104.vc (B : Nat) (R : Value → World → Prop) (a c : Int) (w : World) : Prop :=
 CallK Tryz.prog 103 [.int .u64 a] B w [] fun v d => 
 ∃ f : Nat, v = .float .f64 f ∧
 CallK Tryz.prog 103 [.int .u64 c] B d [] fun g i => 
 ∃ j : Nat, g = .float .f64 j ∧
 RunK Tryz.prog (Go.binOp .add 82 (.float .f64 f) (.float .f64 j)) B i [] fun l m => 
 ∃ n : Nat, l = .float .f64 n ∧
 CallK Tryz.prog 100 [.float .f64 n] B m [] fun o p => 
 ∃ q : Int, o = .int .u64 q ∧
 Ret B p (R (.int .u64 q))
noncomputable def V104.cfg (B : Nat) : Cfg := ⟨Tryz.prog, ⟨11, B⟩, [], hasN [100, 103], hasN [], look []⟩
noncomputable def V104.code : Code := (Tryz.f104.body).getD .skip
noncomputable def V104.cuts (B : Nat) (R : Value → World → Prop) : Nat → Cut := nthC []
noncomputable def V104.h : H := .s (.z) (.s (.z) (.z))
theorem V104.vc_eq (B : Nat) (R : Value → World → Prop) (a c : Int) (w : World) : wpf (V104.cfg B) (V104.cuts B R) V104.code V104.h [] (postOf Tryz.prog B (Tryz.f104.results.toList) R) (argE 0 [.int .u64 a, .int .u64 c]) [] w = V104.vc B R a c w := by kernel_rfl
theorem V104.obl (B : Nat) (R : Value → World → Prop) : oblP (V104.cfg B) (V104.cuts B R) V104.code V104.h [] (postOf Tryz.prog B (Tryz.f104.results.toList) R) := by
 have e : oblP (V104.cfg B) (V104.cuts B R) V104.code V104.h [] (postOf Tryz.prog B (Tryz.f104.results.toList) R) = (True ∧ (True ∧ True)) := by kernel_rfl
 exact e.mpr (⟨trivial, ⟨trivial, trivial⟩⟩)
theorem V104.cfgOk (B : Nat) : CfgOk (V104.cfg B) := cfgOk_of (by kernel_rfl) (by kernel_rfl) extNil
theorem V104.sound {a d : Int} {w : World} {R : Value → World → Prop} (h : V104.vc w.heap.size R a d w) : Calls Tryz.prog 104 ⟨[.int .u64 a, .int .u64 d]⟩ w fun e w' => ∃ v, e = .returned v ∧ R v w' :=
 calls_wpfP (c := V104.cfg w.heap.size) (fn := Tryz.f104) (x := V104.code) (V104.cuts w.heap.size R) V104.h (V104.cfgOk _) mixed Tryz.func104 (by kernel_rfl) (by kernel_rfl) (by kernel_rfl) rfl (V104.obl _ _) ((V104.vc_eq _ _ a d _).symm ▸ h)
def V105.vc (B : Nat) (R : Value → World → Prop) (a c : Int) (w : World) : Prop :=
 CallK Tryz.prog 103 [.int .u64 a] B w [] fun v d => 
 ∃ f : Nat, v = .float .f64 f ∧
 CallK Tryz.prog 103 [.int .u64 c] B d [] fun g i => 
 ∃ j : Nat, g = .float .f64 j ∧
 RunK Tryz.prog (Go.binOp .sub 82 (.float .f64 f) (.float .f64 j)) B i [] fun l m => 
 ∃ n : Nat, l = .float .f64 n ∧
 CallK Tryz.prog 100 [.float .f64 n] B m [] fun o p => 
 ∃ q : Int, o = .int .u64 q ∧
 Ret B p (R (.int .u64 q))
noncomputable def V105.cfg (B : Nat) : Cfg := ⟨Tryz.prog, ⟨11, B⟩, [], hasN [100, 103], hasN [], look []⟩
noncomputable def V105.code : Code := (Tryz.f105.body).getD .skip
noncomputable def V105.cuts (B : Nat) (R : Value → World → Prop) : Nat → Cut := nthC []
noncomputable def V105.h : H := .s (.z) (.s (.z) (.z))
theorem V105.vc_eq (B : Nat) (R : Value → World → Prop) (a c : Int) (w : World) : wpf (V105.cfg B) (V105.cuts B R) V105.code V105.h [] (postOf Tryz.prog B (Tryz.f105.results.toList) R) (argE 0 [.int .u64 a, .int .u64 c]) [] w = V105.vc B R a c w := by kernel_rfl
theorem V105.obl (B : Nat) (R : Value → World → Prop) : oblP (V105.cfg B) (V105.cuts B R) V105.code V105.h [] (postOf Tryz.prog B (Tryz.f105.results.toList) R) := by
 have e : oblP (V105.cfg B) (V105.cuts B R) V105.code V105.h [] (postOf Tryz.prog B (Tryz.f105.results.toList) R) = (True ∧ (True ∧ True)) := by kernel_rfl
 exact e.mpr (⟨trivial, ⟨trivial, trivial⟩⟩)
theorem V105.cfgOk (B : Nat) : CfgOk (V105.cfg B) := cfgOk_of (by kernel_rfl) (by kernel_rfl) extNil
theorem V105.sound {a d : Int} {w : World} {R : Value → World → Prop} (h : V105.vc w.heap.size R a d w) : Calls Tryz.prog 105 ⟨[.int .u64 a, .int .u64 d]⟩ w fun e w' => ∃ v, e = .returned v ∧ R v w' :=
 calls_wpfP (c := V105.cfg w.heap.size) (fn := Tryz.f105) (x := V105.code) (V105.cuts w.heap.size R) V105.h (V105.cfgOk _) mixed Tryz.func105 (by kernel_rfl) (by kernel_rfl) (by kernel_rfl) rfl (V105.obl _ _) ((V105.vc_eq _ _ a d _).symm ▸ h)
def V106.vc (B : Nat) (R : Value → World → Prop) (a c : Int) (w : World) : Prop :=
 CallK Tryz.prog 103 [.int .u64 a] B w [] fun v d => 
 ∃ f : Nat, v = .float .f64 f ∧
 CallK Tryz.prog 103 [.int .u64 c] B d [] fun g i => 
 ∃ j : Nat, g = .float .f64 j ∧
 RunK Tryz.prog (Go.binOp .mul 82 (.float .f64 f) (.float .f64 j)) B i [] fun l m => 
 ∃ n : Nat, l = .float .f64 n ∧
 CallK Tryz.prog 100 [.float .f64 n] B m [] fun o p => 
 ∃ q : Int, o = .int .u64 q ∧
 Ret B p (R (.int .u64 q))
noncomputable def V106.cfg (B : Nat) : Cfg := ⟨Tryz.prog, ⟨11, B⟩, [], hasN [100, 103], hasN [], look []⟩
noncomputable def V106.code : Code := (Tryz.f106.body).getD .skip
noncomputable def V106.cuts (B : Nat) (R : Value → World → Prop) : Nat → Cut := nthC []
noncomputable def V106.h : H := .s (.z) (.s (.z) (.z))
theorem V106.vc_eq (B : Nat) (R : Value → World → Prop) (a c : Int) (w : World) : wpf (V106.cfg B) (V106.cuts B R) V106.code V106.h [] (postOf Tryz.prog B (Tryz.f106.results.toList) R) (argE 0 [.int .u64 a, .int .u64 c]) [] w = V106.vc B R a c w := by kernel_rfl
theorem V106.obl (B : Nat) (R : Value → World → Prop) : oblP (V106.cfg B) (V106.cuts B R) V106.code V106.h [] (postOf Tryz.prog B (Tryz.f106.results.toList) R) := by
 have e : oblP (V106.cfg B) (V106.cuts B R) V106.code V106.h [] (postOf Tryz.prog B (Tryz.f106.results.toList) R) = (True ∧ (True ∧ True)) := by kernel_rfl
 exact e.mpr (⟨trivial, ⟨trivial, trivial⟩⟩)
theorem V106.cfgOk (B : Nat) : CfgOk (V106.cfg B) := cfgOk_of (by kernel_rfl) (by kernel_rfl) extNil
theorem V106.sound {a d : Int} {w : World} {R : Value → World → Prop} (h : V106.vc w.heap.size R a d w) : Calls Tryz.prog 106 ⟨[.int .u64 a, .int .u64 d]⟩ w fun e w' => ∃ v, e = .returned v ∧ R v w' :=
 calls_wpfP (c := V106.cfg w.heap.size) (fn := Tryz.f106) (x := V106.code) (V106.cuts w.heap.size R) V106.h (V106.cfgOk _) mixed Tryz.func106 (by kernel_rfl) (by kernel_rfl) (by kernel_rfl) rfl (V106.obl _ _) ((V106.vc_eq _ _ a d _).symm ▸ h)
def V107.vc (B : Nat) (R : Value → World → Prop) (a c : Int) (w : World) : Prop :=
 CallK Tryz.prog 103 [.int .u64 a] B w [] fun v d => 
 ∃ f : Nat, v = .float .f64 f ∧
 CallK Tryz.prog 103 [.int .u64 c] B d [] fun g i => 
 ∃ j : Nat, g = .float .f64 j ∧
 RunK Tryz.prog (Go.binOp .quo 82 (.float .f64 f) (.float .f64 j)) B i [] fun l m => 
 ∃ n : Nat, l = .float .f64 n ∧
 CallK Tryz.prog 100 [.float .f64 n] B m [] fun o p => 
 ∃ q : Int, o = .int .u64 q ∧
 Ret B p (R (.int .u64 q))
noncomputable def V107.cfg (B : Nat) : Cfg := ⟨Tryz.prog, ⟨11, B⟩, [], hasN [100, 103], hasN [], look []⟩
noncomputable def V107.code : Code := (Tryz.f107.body).getD .skip
noncomputable def V107.cuts (B : Nat) (R : Value → World → Prop) : Nat → Cut := nthC []
noncomputable def V107.h : H := .s (.z) (.s (.z) (.z))
theorem V107.vc_eq (B : Nat) (R : Value → World → Prop) (a c : Int) (w : World) : wpf (V107.cfg B) (V107.cuts B R) V107.code V107.h [] (postOf Tryz.prog B (Tryz.f107.results.toList) R) (argE 0 [.int .u64 a, .int .u64 c]) [] w = V107.vc B R a c w := by kernel_rfl
theorem V107.obl (B : Nat) (R : Value → World → Prop) : oblP (V107.cfg B) (V107.cuts B R) V107.code V107.h [] (postOf Tryz.prog B (Tryz.f107.results.toList) R) := by
 have e : oblP (V107.cfg B) (V107.cuts B R) V107.code V107.h [] (postOf Tryz.prog B (Tryz.f107.results.toList) R) = (True ∧ (True ∧ True)) := by kernel_rfl
 exact e.mpr (⟨trivial, ⟨trivial, trivial⟩⟩)
theorem V107.cfgOk (B : Nat) : CfgOk (V107.cfg B) := cfgOk_of (by kernel_rfl) (by kernel_rfl) extNil
theorem V107.sound {a d : Int} {w : World} {R : Value → World → Prop} (h : V107.vc w.heap.size R a d w) : Calls Tryz.prog 107 ⟨[.int .u64 a, .int .u64 d]⟩ w fun e w' => ∃ v, e = .returned v ∧ R v w' :=
 calls_wpfP (c := V107.cfg w.heap.size) (fn := Tryz.f107) (x := V107.code) (V107.cuts w.heap.size R) V107.h (V107.cfgOk _) mixed Tryz.func107 (by kernel_rfl) (by kernel_rfl) (by kernel_rfl) rfl (V107.obl _ _) ((V107.vc_eq _ _ a d _).symm ▸ h)
def V69.vc (B : Nat) (R : Value → World → Prop) (a : Int) (w : World) : Prop :=
 CallK Tryz.prog 101 [.int .u64 a] B w [] fun v c => 
 ∃ d : Bool, v = .bool d ∧
 if d = true
 then (Ret B c (R (.int .u64 9221120237041090560)))
 else (Ret B c (R (.int .u64 (IntKind.wrap .u64 (((BitVec.ofInt 64 a ^^^ BitVec.ofInt 64 9223372036854775808).toNat : Nat) : Int)))))
noncomputable def V69.cfg (B : Nat) : Cfg := ⟨Tryz.prog, ⟨7, B⟩, [], hasN [101], hasN [], look []⟩
noncomputable def V69.code : Code := (Tryz.f69.body).getD .skip
noncomputable def V69.cuts (B : Nat) (R : Value → World → Prop) : Nat → Cut := nthC []
noncomputable def V69.h : H := .s (.z) (.s (.s (.z) (.c (.s (.z) (.z)) (.z))) (.s (.z) (.z)))
theorem V69.vc_eq (B : Nat) (R : Value → World → Prop) (a : Int) (w : World) : wpf (V69.cfg B) (V69.cuts B R) V69.code V69.h [] (postOf Tryz.prog B (Tryz.f69.results.toList) R) (argE 0 [.int .u64 a]) [] w = V69.vc B R a w := by kernel_rfl
theorem V69.obl (B : Nat) (R : Value → World → Prop) : oblP (V69.cfg B) (V69.cuts B R) V69.code V69.h [] (postOf Tryz.prog B (Tryz.f69.results.toList) R) := by
 have e : oblP (V69.cfg B) (V69.cuts B R) V69.code V69.h [] (postOf Tryz.prog B (Tryz.f69.results.toList) R) = (True ∧ ((True ∧ ((True ∧ True) ∧ True)) ∧ (True ∧ True))) := by kernel_rfl
 exact e.mpr (⟨trivial, ⟨⟨trivial, ⟨⟨trivial, trivial⟩, trivial⟩⟩, ⟨trivial, trivial⟩⟩⟩)
theorem V69.cfgOk (B : Nat) : CfgOk (V69.cfg B) := cfgOk_of (by kernel_rfl) (by kernel_rfl) extNil
theorem V69.sound {a : Int} {w : World} {R : Value → World → Prop} (h : V69.vc w.heap.size R a w) : Calls Tryz.prog 69 ⟨[.int .u64 a]⟩ w fun e w' => ∃ v, e = .returned v ∧ R v w' :=
 calls_wpfP (c := V69.cfg w.heap.size) (fn := Tryz.f69) (x := V69.code) (V69.cuts w.heap.size R) V69.h (V69.cfgOk _) mixed Tryz.func69 (by kernel_rfl) (by kernel_rfl) (by kernel_rfl) rfl (V69.obl _ _) ((V69.vc_eq _ _ a _).symm ▸ h)
def V70.vc (B : Nat) (R : Value → World → Prop) (a : Int) (w : World) : Prop :=
 CallK Tryz.prog 101 [.int .u64 a] B w [] fun v c => 
 ∃ d : Bool, v = .bool d ∧
 if d = true
 then (Ret B c (R (.int .u64 9221120237041090560)))
 else (CallK Tryz.prog 103 [.int .u64 a] B c [] fun f g => 
 ∃ i : Nat, f = .float .f64 i ∧
 CallK Tryz.prog 102 [.float .f64 i] B g [] fun j l => 
 ∃ m : Nat, j = .float .f64 m ∧
 CallK Tryz.prog 100 [.float .f64 m] B l [] fun n o => 
 ∃ p : Int, n = .int .u64 p ∧
 Ret B o (R (.int .u64 p)))
noncomputable def V70.cfg (B : Nat) : Cfg := ⟨Tryz.prog, ⟨9, B⟩, [], hasN [100, 101, 102, 103], hasN [], look []⟩
noncomputable def V70.code : Code := (Tryz.f70.body).getD .skip
noncomputable def V70.cuts (B : Nat) (R : Value → World → Prop) : Nat → Cut := nthC []
noncomputable def V70.h : H := .s (.z) (.s (.s (.z) (.c (.s (.z) (.z)) (.z))) (.s (.z) (.z)))
theorem V70.vc_eq (B : Nat) (R : Value → World → Prop) (a : Int) (w : World) : wpf (V70.cfg B) (V70.cuts B R) V70.code V70.h [] (postOf Tryz.prog B (Tryz.f70.results.toList) R) (argE 0 [.int .u64 a]) [] w = V70.vc B R a w := by kernel_rfl
theorem V70.obl (B : Nat) (R : Value → World → Prop) : oblP (V70.cfg B) (V70.cuts B R) V70.code V70.h [] (postOf Tryz.prog B (Tryz.f70.results.toList) R) := by
 have e : oblP (V70.cfg B) (V70.cuts B R) V70.code V70.h [] (postOf Tryz.prog B (Tryz.f70.results.toList) R) = (True ∧ ((True ∧ ((True ∧ True) ∧ True)) ∧ (True ∧ True))) := by kernel_rfl
 exact e.mpr (⟨trivial, ⟨⟨trivial, ⟨⟨trivial, trivial⟩, trivial⟩⟩, ⟨trivial, trivial⟩⟩⟩)
theorem V70.cfgOk (B : Nat) : CfgOk (V70.cfg B) := cfgOk_of (by kernel_rfl) (by kernel_rfl) extNil
theorem V70.sound {a : Int} {w : World} {R : Value → World → Prop} (h : V70.vc w.heap.size R a w) : Calls Tryz.prog 70 ⟨[.int .u64 a]⟩ w fun e w' => ∃ v, e = .returned v ∧ R v w' :=
 calls_wpfP (c := V70.cfg w.heap.size) (fn := Tryz.f70) (x := V70.code) (V70.cuts w.heap.size R) V70.h (V70.cfgOk _) mixed Tryz.func70 (by kernel_rfl) (by kernel_rfl) (by kernel_rfl) rfl (V70.obl _ _) ((V70.vc_eq _ _ a _).symm ▸ h)
def V108.vc (B : Nat) (R : Value → World → Prop) (a c : Int) (w : World) : Prop :=
 CallK Tryz.prog 101 [.int .u64 a] B w [] fun v d => 
 ∃ f : Bool, v = .bool f ∧
 if f = false
 then (CallK Tryz.prog 101 [.int .u64 c] B d [] fun g i => 
 ∃ j : Bool, g = .bool j ∧
 if j = true
 then (Ret B i (R (.int .u64 9221120237041090560)))
 else (CallK Tryz.prog 135 [.int .u64 c] B i [] fun l m => 
 ∃ n : Int, l = .int .u64 n ∧
 CallK Tryz.prog 135 [.int .u64 a] B m [] fun o p => 
 ∃ q : Int, o = .int .u64 q ∧
 if (decide (n < q)) = true
 then (Ret B p (R (.int .u64 c)))
 else (Ret B p (R (.int .u64 a)))))
 else (Ret B d (R (.int .u64 9221120237041090560)))
noncomputable def V108.cfg (B : Nat) : Cfg := ⟨Tryz.prog, ⟨18, B⟩, [], hasN [101, 135], hasN [], look []⟩
noncomputable def V108.code : Code := (Tryz.f108.body).getD .skip
noncomputable def V108.cuts (B : Nat) (R : Value → World → Prop) : Nat → Cut := nthC []
noncomputable def V108.h : H := .s (.z) (.s (.s (.z) (.c (.s (.z) (.z)) (.z))) (.s (.s (.z) (.c (.s (.z) (.z)) (.z))) (.s (.z) (.z))))
theorem V108.vc_eq (B : Nat) (R : Value → World → Prop) (a c : Int) (w : World) : wpf (V108.cfg B) (V108.cuts B R) V108.code V108.h [] (postOf Tryz.prog B (Tryz.f108.results.toList) R) (argE 0 [.int .u64 a, .int .u64 c]) [] w = V108.vc B R a c w := by kernel_rfl
theorem V108.obl (B : Nat) (R : Value → World → Prop) : oblP (V108.cfg B) (V108.cuts B R) V108.code V108.h [] (postOf Tryz.prog B (Tryz.f108.results.toList) R) := by
 have e : oblP (V108.cfg B) (V108.cuts B R) V108.code V108.h [] (postOf Tryz.prog B (Tryz.f108.results.toList) R) = (True ∧ ((True ∧ ((True ∧ True) ∧ True)) ∧ ((True ∧ ((True ∧ True) ∧ True)) ∧ (True ∧ True)))) := by kernel_rfl
 exact e.mpr (⟨trivial, ⟨⟨trivial, ⟨⟨trivial, trivial⟩, trivial⟩⟩, ⟨⟨trivial, ⟨⟨trivial, trivial⟩, trivial⟩⟩, ⟨trivial, trivial⟩⟩⟩⟩)
theorem V108.cfgOk (B : Nat) : CfgOk (V108.cfg B) := cfgOk_of (by kernel_rfl) (by kernel_rfl) extNil
theorem V108.sound {a d : Int} {w : World} {R : Value → World → Prop} (h : V108.vc w.heap.size R a d w) : Calls Tryz.prog 108 ⟨[.int .u64 a, .int .u64 d]⟩ w fun e w' => ∃ v, e = .returned v ∧ R v w' :=
 calls_wpfP (c := V108.cfg w.heap.size) (fn := Tryz.f108) (x := V108.code) (V108.cuts w.heap.size R) V108.h (V108.cfgOk _) mixed Tryz.func108 (by kernel_rfl) (by kernel_rfl) (by kernel_rfl) rfl (V108.obl _ _) ((V108.vc_eq _ _ a d _).symm ▸ h)
def V109.vc (B : Nat) (R : Value → World → Prop) (a c : Int) (w : World) : Prop :=
 CallK Tryz.prog 101 [.int .u64 a] B w [] fun v d => 
 ∃ f : Bool, v = .bool f ∧
 if f = false
 then (CallK Tryz.prog 101 [.int .u64 c] B d [] fun g i => 
 ∃ j : Bool, g = .bool j ∧
 if j = true
 then (Ret B i (R (.int .u64 9221120237041090560)))
 else (CallK Tryz.prog 135 [.int .u64 c] B i [] fun l m => 
 ∃ n : Int, l = .int .u64 n ∧
 CallK Tryz.prog 135 [.int .u64 a] B m [] fun o p => 
 ∃ q : Int, o = .int .u64 q ∧
 if (decide (n > q)) = true
 then (Ret B p (R (.int .u64 c)))
 else (Ret B p (R (.int .u64 a)))))
 else (Ret B d (R (.int .u64 9221120237041090560)))
noncomputable def V109.cfg (B : Nat) : Cfg := ⟨Tryz.prog, ⟨18, B⟩, [], hasN [101, 135], hasN [], look []⟩
noncomputable def V109.code : Code := (Tryz.f109.body).getD .skip
noncomputable def V109.cuts (B : Nat) (R : Value → World → Prop) : Nat → Cut := nthC []
noncomputable def V109.h : H := .s (.z) (.s (.s (.z) (.c (.s (.z) (.z)) (.z))) (.s (.s (.z) (.c (.s (.z) (.z)) (.z))) (.s (.z) (.z))))
theorem V109.vc_eq (B : Nat) (R : Value → World → Prop) (a c : Int) (w : World) : wpf (V109.cfg B) (V109.cuts B R) V109.code V109.h [] (postOf Tryz.prog B (Tryz.f109.results.toList) R) (argE 0 [.int .u64 a, .int .u64 c]) [] w = V109.vc B R a c w := by kernel_rfl
theorem V109.obl (B : Nat) (R : Value → World → Prop) : oblP (V109.cfg B) (V109.cuts B R) V109.code V109.h [] (postOf Tryz.prog B (Tryz.f109.results.toList) R) := by
 have e : oblP (V109.cfg B) (V109.cuts B R) V109.code V109.h [] (postOf Tryz.prog B (Tryz.f109.results.toList) R) = (True ∧ ((True ∧ ((True ∧ True) ∧ True)) ∧ ((True ∧ ((True ∧ True) ∧ True)) ∧ (True ∧ True)))) := by kernel_rfl
 exact e.mpr (⟨trivial, ⟨⟨trivial, ⟨⟨trivial, trivial⟩, trivial⟩⟩, ⟨⟨trivial, ⟨⟨trivial, trivial⟩, trivial⟩⟩, ⟨trivial, trivial⟩⟩⟩⟩)
theorem V109.cfgOk (B : Nat) : CfgOk (V109.cfg B) := cfgOk_of (by kernel_rfl) (by kernel_rfl) extNil
theorem V109.sound {a d : Int} {w : World} {R : Value → World → Prop} (h : V109.vc w.heap.size R a d w) : Calls Tryz.prog 109 ⟨[.int .u64 a, .int .u64 d]⟩ w fun e w' => ∃ v, e = .returned v ∧ R v w' :=
 calls_wpfP (c := V109.cfg w.heap.size) (fn := Tryz.f109) (x := V109.code) (V109.cuts w.heap.size R) V109.h (V109.cfgOk _) mixed Tryz.func109 (by kernel_rfl) (by kernel_rfl) (by kernel_rfl) rfl (V109.obl _ _) ((V109.vc_eq _ _ a d _).symm ▸ h)
def V110.vc (B : Nat) (R : Value → World → Prop) (a c : Int) (w : World) : Prop :=
 CallK Tryz.prog 103 [.int .u64 a] B w [] fun v d => 
 ∃ f : Nat, v = .float .f64 f ∧
 CallK Tryz.prog 103 [.int .u64 c] B d [] fun g i => 
 ∃ j : Nat, g = .float .f64 j ∧
 Ret B i (R (.bool (FloatKind.f64.format.order f j == some .lt)))
noncomputable def V110.cfg (B : Nat) : Cfg := ⟨Tryz.prog, ⟨10, B⟩, [], hasN [103], hasN [], look []⟩
noncomputable def V110.code : Code := (Tryz.f110.body).getD .skip
noncomputable def V110.cuts (B : Nat) (R : Value → World → Prop) : Nat → Cut := nthC []
noncomputable def V110.h : H := .s (.z) (.s (.z) (.z))
theorem V110.vc_eq (B : Nat) (R : Value → World → Prop) (a c : Int) (w : World) : wpf (V110.cfg B) (V110.cuts B R) V110.code V110.h [] (postOf Tryz.prog B (Tryz.f110.results.toList) R) (argE 0 [.int .u64 a, .int .u64 c]) [] w = V110.vc B R a c w := by kernel_rfl
theorem V110.obl (B : Nat) (R : Value → World → Prop) : oblP (V110.cfg B) (V110.cuts B R) V110.code V110.h [] (postOf Tryz.prog B (Tryz.f110.results.toList) R) := by
 have e : oblP (V110.cfg B) (V110.cuts B R) V110.code V110.h [] (postOf Tryz.prog B (Tryz.f110.results.toList) R) = (True ∧ (True ∧ True)) := by kernel_rfl
 exact e.mpr (⟨trivial, ⟨trivial, trivial⟩⟩)
theorem V110.cfgOk (B : Nat) : CfgOk (V110.cfg B) := cfgOk_of (by kernel_rfl) (by kernel_rfl) extNil
theorem V110.sound {a d : Int} {w : World} {R : Value → World → Prop} (h : V110.vc w.heap.size R a d w) : Calls Tryz.prog 110 ⟨[.int .u64 a, .int .u64 d]⟩ w fun e w' => ∃ v, e = .returned v ∧ R v w' :=
 calls_wpfP (c := V110.cfg w.heap.size) (fn := Tryz.f110) (x := V110.code) (V110.cuts w.heap.size R) V110.h (V110.cfgOk _) mixed Tryz.func110 (by kernel_rfl) (by kernel_rfl) (by kernel_rfl) rfl (V110.obl _ _) ((V110.vc_eq _ _ a d _).symm ▸ h)
def V111.vc (B : Nat) (R : Value → World → Prop) (a c : Int) (w : World) : Prop :=
 CallK Tryz.prog 103 [.int .u64 a] B w [] fun v d => 
 ∃ f : Nat, v = .float .f64 f ∧
 CallK Tryz.prog 103 [.int .u64 c] B d [] fun g i => 
 ∃ j : Nat, g = .float .f64 j ∧
 Ret B i (R (.bool (FloatKind.f64.format.order f j == some .eq)))
noncomputable def V111.cfg (B : Nat) : Cfg := ⟨Tryz.prog, ⟨10, B⟩, [], hasN [103], hasN [], look []⟩
noncomputable def V111.code : Code := (Tryz.f111.body).getD .skip
noncomputable def V111.cuts (B : Nat) (R : Value → World → Prop) : Nat → Cut := nthC []
noncomputable def V111.h : H := .s (.z) (.s (.z) (.z))
theorem V111.vc_eq (B : Nat) (R : Value → World → Prop) (a c : Int) (w : World) : wpf (V111.cfg B) (V111.cuts B R) V111.code V111.h [] (postOf Tryz.prog B (Tryz.f111.results.toList) R) (argE 0 [.int .u64 a, .int .u64 c]) [] w = V111.vc B R a c w := by kernel_rfl
theorem V111.obl (B : Nat) (R : Value → World → Prop) : oblP (V111.cfg B) (V111.cuts B R) V111.code V111.h [] (postOf Tryz.prog B (Tryz.f111.results.toList) R) := by
 have e : oblP (V111.cfg B) (V111.cuts B R) V111.code V111.h [] (postOf Tryz.prog B (Tryz.f111.results.toList) R) = (True ∧ (True ∧ True)) := by kernel_rfl
 exact e.mpr (⟨trivial, ⟨trivial, trivial⟩⟩)
theorem V111.cfgOk (B : Nat) : CfgOk (V111.cfg B) := cfgOk_of (by kernel_rfl) (by kernel_rfl) extNil
theorem V111.sound {a d : Int} {w : World} {R : Value → World → Prop} (h : V111.vc w.heap.size R a d w) : Calls Tryz.prog 111 ⟨[.int .u64 a, .int .u64 d]⟩ w fun e w' => ∃ v, e = .returned v ∧ R v w' :=
 calls_wpfP (c := V111.cfg w.heap.size) (fn := Tryz.f111) (x := V111.code) (V111.cuts w.heap.size R) V111.h (V111.cfgOk _) mixed Tryz.func111 (by kernel_rfl) (by kernel_rfl) (by kernel_rfl) rfl (V111.obl _ _) ((V111.vc_eq _ _ a d _).symm ▸ h)
def V71.vc (B : Nat) (R : Value → World → Prop) (a : Int) (w : World) : Prop :=
 (0 : Int) ≤ 1 ∧
 Ret B w (R (.bool (IntKind.wrap .u64 (a * 2 ^ min 1 64) != 0)))
noncomputable def V71.cfg (B : Nat) : Cfg := ⟨Tryz.prog, ⟨6, B⟩, [], hasN [], hasN [], look []⟩
noncomputable def V71.code : Code := (Tryz.f71.body).getD .skip
noncomputable def V71.cuts (B : Nat) (R : Value → World → Prop) : Nat → Cut := nthC []
noncomputable def V71.h : H := .s (.z) (.s (.z) (.z))
theorem V71.vc_eq (B : Nat) (R : Value → World → Prop) (a : Int) (w : World) : wpf (V71.cfg B) (V71.cuts B R) V71.code V71.h [] (postOf Tryz.prog B (Tryz.f71.results.toList) R) (argE 0 [.int .u64 a]) [] w = V71.vc B R a w := by kernel_rfl
theorem V71.obl (B : Nat) (R : Value → World → Prop) : oblP (V71.cfg B) (V71.cuts B R) V71.code V71.h [] (postOf Tryz.prog B (Tryz.f71.results.toList) R) := by
 have e : oblP (V71.cfg B) (V71.cuts B R) V71.code V71.h [] (postOf Tryz.prog B (Tryz.f71.results.toList) R) = (True ∧ (True ∧ True)) := by kernel_rfl
 exact e.mpr (⟨trivial, ⟨trivial, trivial⟩⟩)
theorem V71.cfgOk (B : Nat) : CfgOk (V71.cfg B) := cfgOk_of (by kernel_rfl) (by kernel_rfl) extNil
theorem V71.sound {a : Int} {w : World} {R : Value → World → Prop} (h : V71.vc w.heap.size R a w) : Calls Tryz.prog 71 ⟨[.int .u64 a]⟩ w fun e w' => ∃ v, e = .returned v ∧ R v w' :=
 calls_wpfP (c := V71.cfg w.heap.size) (fn := Tryz.f71) (x := V71.code) (V71.cuts w.heap.size R) V71.h (V71.cfgOk _) mixed Tryz.func71 (by kernel_rfl) (by kernel_rfl) (by kernel_rfl) rfl (V71.obl _ _) ((V71.vc_eq _ _ a _).symm ▸ h)
def V135.vc (B : Nat) (R : Value → World → Prop) (a : Int) (w : World) : Prop :=
 (0 : Int) ≤ 63 ∧
 if (Int.fdiv a (2 ^ min 63 64) == 1) = true
 then (Ret B w (R (.int .u64 (IntKind.wrap .u64 (((BitVec.ofInt 64 18446744073709551615 ^^^ BitVec.ofInt 64 a).toNat : Nat) : Int)))))
 else (Ret B w (R (.int .u64 (IntKind.wrap .u64 (((BitVec.ofInt 64 a ||| BitVec.ofInt 64 9223372036854775808).toNat : Nat) : Int)))))
noncomputable def V135.cfg (B : Nat) : Cfg := ⟨Tryz.prog, ⟨10, B⟩, [], hasN [], hasN [], look []⟩
noncomputable def V135.code : Code := (Tryz.f135.body).getD .skip
noncomputable def V135.cuts (B : Nat) (R : Value → World → Prop) : Nat → Cut := nthC []
noncomputable def V135.h : H := .s (.z) (.s (.s (.z) (.c (.s (.z) (.z)) (.z))) (.s (.z) (.z)))
theorem V135.vc_eq (B : Nat) (R : Value → World → Prop) (a : Int) (w : World) : wpf (V135.cfg B) (V135.cuts B R) V135.code V135.h [] (postOf Tryz.prog B (Tryz.f135.results.toList) R) (argE 0 [.int .u64 a]) [] w = V135.vc B R a w := by kernel_rfl
theorem V135.obl (B : Nat) (R : Value → World → Prop) : oblP (V135.cfg B) (V135.cuts B R) V135.code V135.h [] (postOf Tryz.prog B (Tryz.f135.results.toList) R) := by
 have e : oblP (V135.cfg B) (V135.cuts B R) V135.code V135.h [] (postOf Tryz.prog B (Tryz.f135.results.toList) R) = (True ∧ ((True ∧ ((True ∧ True) ∧ True)) ∧ (True ∧ True))) := by kernel_rfl
 exact e.mpr (⟨trivial, ⟨⟨trivial, ⟨⟨trivial, trivial⟩, trivial⟩⟩, ⟨trivial, trivial⟩⟩⟩)
theorem V135.cfgOk (B : Nat) : CfgOk (V135.cfg B) := cfgOk_of (by kernel_rfl) (by kernel_rfl) extNil
theorem V135.sound {a : Int} {w : World} {R : Value → World → Prop} (h : V135.vc w.heap.size R a w) : Calls Tryz.prog 135 ⟨[.int .u64 a]⟩ w fun e w' => ∃ v, e = .returned v ∧ R v w' :=
 calls_wpfP (c := V135.cfg w.heap.size) (fn := Tryz.f135) (x := V135.code) (V135.cuts w.heap.size R) V135.h (V135.cfgOk _) mixed Tryz.func135 (by kernel_rfl) (by kernel_rfl) (by kernel_rfl) rfl (V135.obl _ _) ((V135.vc_eq _ _ a _).symm ▸ h)
def V52.vc (B : Nat) (R : Value → World → Prop) (a : Nat) (w : World) : Prop :=
 Ret B w (R (.bool (FloatKind.f64.format.order a a != some .eq)))
noncomputable def V52.cfg (B : Nat) : Cfg := ⟨Tryz.prog, ⟨6, B⟩, [], hasN [], hasN [], look []⟩
noncomputable def V52.code : Code := (Tryz.f52.body).getD .skip
noncomputable def V52.cuts (B : Nat) (R : Value → World → Prop) : Nat → Cut := nthC []
noncomputable def V52.h : H := .s (.z) (.s (.z) (.z))
theorem V52.vc_eq (B : Nat) (R : Value → World → Prop) (a : Nat) (w : World) : wpf (V52.cfg B) (V52.cuts B R) V52.code V52.h [] (postOf Tryz.prog B (Tryz.f52.results.toList) R) (argE 0 [.float .f64 a]) [] w = V52.vc B R a w := by kernel_rfl
theorem V52.obl (B : Nat) (R : Value → World → Prop) : oblP (V52.cfg B) (V52.cuts B R) V52.code V52.h [] (postOf Tryz.prog B (Tryz.f52.results.toList) R) := by
 have e : oblP (V52.cfg B) (V52.cuts B R) V52.code V52.h [] (postOf Tryz.prog B (Tryz.f52.results.toList) R) = (True ∧ (True ∧ True)) := by kernel_rfl
 exact e.mpr (⟨trivial, ⟨trivial, trivial⟩⟩)
theorem V52.cfgOk (B : Nat) : CfgOk (V52.cfg B) := cfgOk_of (by kernel_rfl) (by kernel_rfl) extNil
theorem V52.sound {a : Nat} {w : World} {R : Value → World → Prop} (h : V52.vc w.heap.size R a w) : Calls Tryz.prog 52 ⟨[.float .f64 a]⟩ w fun e w' => ∃ v, e = .returned v ∧ R v w' :=
 calls_wpfP (c := V52.cfg w.heap.size) (fn := Tryz.f52) (x := V52.code) (V52.cuts w.heap.size R) V52.h (V52.cfgOk _) mixed Tryz.func52 (by kernel_rfl) (by kernel_rfl) (by kernel_rfl) rfl (V52.obl _ _) ((V52.vc_eq _ _ a _).symm ▸ h)
def V53.vc (B : Nat) (R : Value → World → Prop) (a : Nat) (c : Int) (w : World) : Prop :=
 if (c == 0) = true
 then (CallK Tryz.prog 56 [.float .f64 a] B w [] fun v d => 
 ∃ f : Nat, v = .float .f64 f ∧
 Ret B d (R (.bool (FloatKind.f64.format.order f 9218868437227405311 == some .gt))))
 else (if (decide (c < 0)) = true
 then (Ret B w (R (.bool (FloatKind.f64.format.order (Op.negFloat .f64 a) 9218868437227405311 == some .gt))))
 else (Ret B w (R (.bool (FloatKind.f64.format.order a 9218868437227405311 == some .gt)))))
noncomputable def V53.cfg (B : Nat) : Cfg := ⟨Tryz.prog, ⟨15, B⟩, [], hasN [56], hasN [], look []⟩
noncomputable def V53.code : Code := (Tryz.f53.body).getD .skip
noncomputable def V53.cuts (B : Nat) (R : Value → World → Prop) : Nat → Cut := nthC []
noncomputable def V53.h : H := .s (.z) (.s (.s (.z) (.c (.z) (.s (.z) (.c (.z) (.z))))) (.s (.z) (.z)))
theorem V53.vc_eq (B : Nat) (R : Value → World → Prop) (a : Nat) (c : Int) (w : World) : wpf (V53.cfg B) (V53.cuts B R) V53.code V53.h [] (postOf Tryz.prog B (Tryz.f53.results.toList) R) (argE 0 [.float .f64 a, .int .i64 c]) [] w = V53.vc B R a c w := by kernel_rfl
theorem V53.obl (B : Nat) (R : Value → World → Prop) : oblP (V53.cfg B) (V53.cuts B R) V53.code V53.h [] (postOf Tryz.prog B (Tryz.f53.results.toList) R) := by
 have e : oblP (V53.cfg B) (V53.cuts B R) V53.code V53.h [] (postOf Tryz.prog B (Tryz.f53.results.toList) R) = (True ∧ ((True ∧ (True ∧ (True ∧ (True ∧ True)))) ∧ (True ∧ True))) := by kernel_rfl
 exact e.mpr (⟨trivial, ⟨⟨trivial, ⟨trivial, ⟨trivial, ⟨trivial, trivial⟩⟩⟩⟩, ⟨trivial, trivial⟩⟩⟩)
theorem V53.cfgOk (B : Nat) : CfgOk (V53.cfg B) := cfgOk_of (by kernel_rfl) (by kernel_rfl) extNil
theorem V53.sound {a : Nat} {d : Int} {w : World} {R : Value → World → Prop} (h : V53.vc w.heap.size R a d w) : Calls Tryz.prog 53 ⟨[.float .f64 a, .int .i64 d]⟩ w fun e w' => ∃ v, e = .returned v ∧ R v w' :=
 calls_wpfP (c := V53.cfg w.heap.size) (fn := Tryz.f53) (x := V53.code) (V53.cuts w.heap.size R) V53.h (V53.cfgOk _) mixed Tryz.func53 (by kernel_rfl) (by kernel_rfl) (by kernel_rfl) rfl (V53.obl _ _) ((V53.vc_eq _ _ a d _).symm ▸ h)
def V54.vc (B : Nat) (R : Value → World → Prop) (a : Nat) (w : World) : Prop :=
 RunK Tryz.prog (V59.ext [.float .f64 a]) B w [] fun v c => 
 ∃ d : Int, v = .int .u64 d ∧
 Ret B c (R (.bool (decide (IntKind.wrap .i64 d < 0))))
noncomputable def V54.cfg (B : Nat) : Cfg := ⟨Tryz.prog, ⟨7, B⟩, [], hasN [], hasN [], look [(59, V59.ext)]⟩
noncomputable def V54.code : Code := (Tryz.f54.body).getD .skip
noncomputable def V54.cuts (B : Nat) (R : Value → World → Prop) : Nat → Cut := nthC []
noncomputable def V54.h : H := .s (.z) (.s (.z) (.z))
theorem V54.vc_eq (B : Nat) (R : Value → World → Prop) (a : Nat) (w : World) : wpf (V54.cfg B) (V54.cuts B R) V54.code V54.h [] (postOf Tryz.prog B (Tryz.f54.results.toList) R) (argE 0 [.float .f64 a]) [] w = V54.vc B R a w := by kernel_rfl
theorem V54.obl (B : Nat) (R : Value → World → Prop) : oblP (V54.cfg B) (V54.cuts B R) V54.code V54.h [] (postOf Tryz.prog B (Tryz.f54.results.toList) R) := by
 have e : oblP (V54.cfg B) (V54.cuts B R) V54.code V54.h [] (postOf Tryz.prog B (Tryz.f54.results.toList) R) = (True ∧ (True ∧ True)) := by kernel_rfl
 exact e.mpr (⟨trivial, ⟨trivial, trivial⟩⟩)
theorem V54.cfgOk (B : Nat) : CfgOk (V54.cfg B) := cfgOk_of (by kernel_rfl) (by kernel_rfl) (extCons V59.extOk extNil)
theorem V54.sound {a : Nat} {w : World} {R : Value → World → Prop} (h : V54.vc w.heap.size R a w) : Calls Tryz.prog 54 ⟨[.float .f64 a]⟩ w fun e w' => ∃ v, e = .returned v ∧ R v w' :=
 calls_wpfP (c := V54.cfg w.heap.size) (fn := Tryz.f54) (x := V54.code) (V54.cuts w.heap.size R) V54.h (V54.cfgOk _) mixed Tryz.func54 (by kernel_rfl) (by kernel_rfl) (by kernel_rfl) rfl (V54.obl _ _) ((V54.vc_eq _ _ a _).symm ▸ h)
def V55.vc (B : Nat) (R : Value → World → Prop) (a : Nat) (w : World) : Prop :=
 RunK Tryz.prog (V78.ext [.float .f64 a]) B w [] fun v c => 
 ∃ d : Nat, v = .float .f64 d ∧
 Ret B c (R (.float .f64 d))
noncomputable def V55.cfg (B : Nat) : Cfg := ⟨Tryz.prog, ⟨7, B⟩, [], hasN [], hasN [], look [(78, V78.ext)]⟩
noncomputable def V55.code : Code := (Tryz.f55.body).getD .skip
noncomputable def V55.cuts (B : Nat) (R : Value → World → Prop) : Nat → Cut := nthC []
noncomputable def V55.h : H := .s (.z) (.s (.c (.s (.z) (.z)) (.z)) (.s (.z) (.z)))
theorem V55.vc_eq (B : Nat) (R : Value → World → Prop) (a : Nat) (w : World) : wpf (V55.cfg B) (V55.cuts B R) V55.code V55.h [] (postOf Tryz.prog B (Tryz.f55.results.toList) R) (argE 0 [.float .f64 a]) [] w = V55.vc B R a w := by kernel_rfl
theorem V55.obl (B : Nat) (R : Value → World → Prop) : oblP (V55.cfg B) (V55.cuts B R) V55.code V55.h [] (postOf Tryz.prog B (Tryz.f55.results.toList) R) := by
 have e : oblP (V55.cfg B) (V55.cuts B R) V55.code V55.h [] (postOf Tryz.prog B (Tryz.f55.results.toList) R) = (True ∧ (((True ∧ True) ∧ True) ∧ (True ∧ True))) := by kernel_rfl
 exact e.mpr (⟨trivial, ⟨⟨⟨trivial, trivial⟩, trivial⟩, ⟨trivial, trivial⟩⟩⟩)
theorem V55.cfgOk (B : Nat) : CfgOk (V55.cfg B) := cfgOk_of (by kernel_rfl) (by kernel_rfl) (extCons V78.extOk extNil)
theorem V55.sound {a : Nat} {w : World} {R : Value → World → Prop} (h : V55.vc w.heap.size R a w) : Calls Tryz.prog 55 ⟨[.float .f64 a]⟩ w fun e w' => ∃ v, e = .returned v ∧ R v w' :=
 calls_wpfP (c := V55.cfg w.heap.size) (fn := Tryz.f55) (x := V55.code) (V55.cuts w.heap.size R) V55.h (V55.cfgOk _) mixed Tryz.func55 (by kernel_rfl) (by kernel_rfl) (by kernel_rfl) rfl (V55.obl _ _) ((V55.vc_eq _ _ a _).symm ▸ h)
def V56.vc (B : Nat) (R : Value → World → Prop) (a : Nat) (w : World) : Prop :=
 RunK Tryz.prog (V59.ext [.float .f64 a]) B w [] fun v c => 
 ∃ d : Int, v = .int .u64 d ∧
 RunK Tryz.prog (V77.ext [.int .u64 (IntKind.wrap .u64 (((BitVec.ofInt 64 d &&& ~~~ BitVec.ofInt 64 9223372036854775808).toNat : Nat) : Int))]) B c [] fun f g => 
 ∃ i : Nat, f = .float .f64 i ∧
 Ret B g (R (.float .f64 i))
noncomputable def V56.cfg (B : Nat) : Cfg := ⟨Tryz.prog, ⟨7, B⟩, [], hasN [], hasN [], look [(59, V59.ext), (77, V77.ext)]⟩
noncomputable def V56.code : Code := (Tryz.f56.body).getD .skip
noncomputable def V56.cuts (B : Nat) (R : Value → World → Prop) : Nat → Cut := nthC []
noncomputable def V56.h : H := .s (.z) (.s (.z) (.z))
theorem V56.vc_eq (B : Nat) (R : Value → World → Prop) (a : Nat) (w : World) : wpf (V56.cfg B) (V56.cuts B R) V56.code V56.h [] (postOf Tryz.prog B (Tryz.f56.results.toList) R) (argE 0 [.float .f64 a]) [] w = V56.vc B R a w := by kernel_rfl
theorem V56.obl (B : Nat) (R : Value → World → Prop) : oblP (V56.cfg B) (V56.cuts B R) V56.code V56.h [] (postOf Tryz.prog B (Tryz.f56.results.toList) R) := by
 have e : oblP (V56.cfg B) (V56.cuts B R) V56.code V56.h [] (postOf Tryz.prog B (Tryz.f56.results.toList) R) = (True ∧ (True ∧ True)) := by kernel_rfl
 exact e.mpr (⟨trivial, ⟨trivial, trivial⟩⟩)
theorem V56.cfgOk (B : Nat) : CfgOk (V56.cfg B) := cfgOk_of (by kernel_rfl) (by kernel_rfl) (extCons V59.extOk (extCons V77.extOk extNil))
theorem V56.sound {a : Nat} {w : World} {R : Value → World → Prop} (h : V56.vc w.heap.size R a w) : Calls Tryz.prog 56 ⟨[.float .f64 a]⟩ w fun e w' => ∃ v, e = .returned v ∧ R v w' :=
 calls_wpfP (c := V56.cfg w.heap.size) (fn := Tryz.f56) (x := V56.code) (V56.cuts w.heap.size R) V56.h (V56.cfgOk _) mixed Tryz.func56 (by kernel_rfl) (by kernel_rfl) (by kernel_rfl) rfl (V56.obl _ _) ((V56.vc_eq _ _ a _).symm ▸ h)
def V101.vc (B : Nat) (R : Value → World → Prop) (a : Int) (w : World) : Prop :=
 Ret B w (R (.bool (decide (IntKind.wrap .u64 (((BitVec.ofInt 64 a &&& BitVec.ofInt 64 9223372036854775807).toNat : Nat) : Int) > 9218868437227405312))))
noncomputable def V101.cfg (B : Nat) : Cfg := ⟨Tryz.prog, ⟨6, B⟩, [], hasN [], hasN [], look []⟩
noncomputable def V101.code : Code := (Tryz.f101.body).getD .skip
noncomputable def V101.cuts (B : Nat) (R : Value → World → Prop) : Nat → Cut := nthC []
noncomputable def V101.h : H := .s (.z) (.s (.z) (.z))
theorem V101.vc_eq (B : Nat) (R : Value → World → Prop) (a : Int) (w : World) : wpf (V101.cfg B) (V101.cuts B R) V101.code V101.h [] (postOf Tryz.prog B (Tryz.f101.results.toList) R) (argE 0 [.int .u64 a]) [] w = V101.vc B R a w := by kernel_rfl
theorem V101.obl (B : Nat) (R : Value → World → Prop) : oblP (V101.cfg B) (V101.cuts B R) V101.code V101.h [] (postOf Tryz.prog B (Tryz.f101.results.toList) R) := by
 have e : oblP (V101.cfg B) (V101.cuts B R) V101.code V101.h [] (postOf Tryz.prog B (Tryz.f101.results.toList) R) = (True ∧ (True ∧ True)) := by kernel_rfl
 exact e.mpr (⟨trivial, ⟨trivial, trivial⟩⟩)
theorem V101.cfgOk (B : Nat) : CfgOk (V101.cfg B) := cfgOk_of (by kernel_rfl) (by kernel_rfl) extNil
theorem V101.sound {a : Int} {w : World} {R : Value → World → Prop} (h : V101.vc w.heap.size R a w) : Calls Tryz.prog 101 ⟨[.int .u64 a]⟩ w fun e w' => ∃ v, e = .returned v ∧ R v w' :=
 calls_wpfP (c := V101.cfg w.heap.size) (fn := Tryz.f101) (x := V101.code) (V101.cuts w.heap.size R) V101.h (V101.cfgOk _) mixed Tryz.func101 (by kernel_rfl) (by kernel_rfl) (by kernel_rfl) rfl (V101.obl _ _) ((V101.vc_eq _ _ a _).symm ▸ h)
def V102.vc (B : Nat) (R : Value → World → Prop) (a : Nat) (w : World) : Prop :=
 RunK Tryz.prog (V133.ext [.float .f64 a]) B w [] fun v c => 
 ∃ d : Nat, v = .float .f64 d ∧
 Ret B c (R (.float .f64 d))
noncomputable def V102.cfg (B : Nat) : Cfg := ⟨Tryz.prog, ⟨7, B⟩, [], hasN [], hasN [], look [(133, V133.ext)]⟩
noncomputable def V102.code : Code := (Tryz.f102.body).getD .skip
noncomputable def V102.cuts (B : Nat) (R : Value → World → Prop) : Nat → Cut := nthC []
noncomputable def V102.h : H := .s (.z) (.s (.c (.s (.z) (.z)) (.z)) (.s (.z) (.z)))
theorem V102.vc_eq (B : Nat) (R : Value → World → Prop) (a : Nat) (w : World) : wpf (V102.cfg B) (V102.cuts B R) V102.code V102.h [] (postOf Tryz.prog B (Tryz.f102.results.toList) R) (argE 0 [.float .f64 a]) [] w = V102.vc B R a w := by kernel_rfl
theorem V102.obl (B : Nat) (R : Value → World → Prop) : oblP (V102.cfg B) (V102.cuts B R) V102.code V102.h [] (postOf Tryz.prog B (Tryz.f102.results.toList) R) := by
 have e : oblP (V102.cfg B) (V102.cuts B R) V102.code V102.h [] (postOf Tryz.prog B (Tryz.f102.results.toList) R) = (True ∧ (((True ∧ True) ∧ True) ∧ (True ∧ True))) := by kernel_rfl
 exact e.mpr (⟨trivial, ⟨⟨⟨trivial, trivial⟩, trivial⟩, ⟨trivial, trivial⟩⟩⟩)
theorem V102.cfgOk (B : Nat) : CfgOk (V102.cfg B) := cfgOk_of (by kernel_rfl) (by kernel_rfl) (extCons V133.extOk extNil)
theorem V102.sound {a : Nat} {w : World} {R : Value → World → Prop} (h : V102.vc w.heap.size R a w) : Calls Tryz.prog 102 ⟨[.float .f64 a]⟩ w fun e w' => ∃ v, e = .returned v ∧ R v w' :=
 calls_wpfP (c := V102.cfg w.heap.size) (fn := Tryz.f102) (x := V102.code) (V102.cuts w.heap.size R) V102.h (V102.cfgOk _) mixed Tryz.func102 (by kernel_rfl) (by kernel_rfl) (by kernel_rfl) rfl (V102.obl _ _) ((V102.vc_eq _ _ a _).symm ▸ h)
def V142.vc (B : Nat) (R : Value → World → Prop) (a c : Nat) (w : World) : Prop :=
 RunK Tryz.prog (V147.ext [.float .f64 a, .float .f64 c]) B w [] fun v d => 
 ∃ f : Nat, v = .float .f64 f ∧
 Ret B d (R (.float .f64 f))
noncomputable def V142.cfg (B : Nat) : Cfg := ⟨Tryz.prog, ⟨11, B⟩, [], hasN [], hasN [], look [(147, V147.ext)]⟩
noncomputable def V142.code : Code := (Tryz.f142.body).getD .skip
noncomputable def V142.cuts (B : Nat) (R : Value → World → Prop) : Nat → Cut := nthC []
noncomputable def V142.h : H := .s (.z) (.s (.c (.s (.z) (.z)) (.z)) (.s (.z) (.z)))
theorem V142.vc_eq (B : Nat) (R : Value → World → Prop) (a c : Nat) (w : World) : wpf (V142.cfg B) (V142.cuts B R) V142.code V142.h [] (postOf Tryz.prog B (Tryz.f142.results.toList) R) (argE 0 [.float .f64 a, .float .f64 c]) [] w = V142.vc B R a c w := by kernel_rfl
theorem V142.obl (B : Nat) (R : Value → World → Prop) : oblP (V142.cfg B) (V142.cuts B R) V142.code V142.h [] (postOf Tryz.prog B (Tryz.f142.results.toList) R) := by
 have e : oblP (V142.cfg B) (V142.cuts B R) V142.code V142.h [] (postOf Tryz.prog B (Tryz.f142.results.toList) R) = (True ∧ (((True ∧ True) ∧ True) ∧ (True ∧ True))) := by kernel_rfl
 exact e.mpr (⟨trivial, ⟨⟨⟨trivial, trivial⟩, trivial⟩, ⟨trivial, trivial⟩⟩⟩)
theorem V142.cfgOk (B : Nat) : CfgOk (V142.cfg B) := cfgOk_of (by kernel_rfl) (by kernel_rfl) (extCons V147.extOk extNil)
theorem V142.sound {a d : Nat} {w : World} {R : Value → World → Prop} (h : V142.vc w.heap.size R a d w) : Calls Tryz.prog 142 ⟨[.float .f64 a, .float .f64 d]⟩ w fun e w' => ∃ v, e = .returned v ∧ R v w' :=
 calls_wpfP (c := V142.cfg w.heap.size) (fn := Tryz.f142) (x := V142.code) (V142.cuts w.heap.size R) V142.h (V142.cfgOk _) mixed Tryz.func142 (by kernel_rfl) (by kernel_rfl) (by kernel_rfl) rfl (V142.obl _ _) ((V142.vc_eq _ _ a d _).symm ▸ h)
def V143.vc (B : Nat) (R : Value → World → Prop) (a c : Nat) (w : World) : Prop :=
 RunK Tryz.prog (V149.ext [.float .f64 a, .float .f64 c]) B w [] fun v d => 
 ∃ f : Nat, v = .float .f64 f ∧
 Ret B d (R (.float .f64 f))
noncomputable def V143.cfg (B : Nat) : Cfg := ⟨Tryz.prog, ⟨11, B⟩, [], hasN [], hasN [], look [(149, V149.ext)]⟩
noncomputable def V143.code : Code := (Tryz.f143.body).getD .skip
noncomputable def V143.cuts (B : Nat) (R : Value → World → Prop) : Nat → Cut := nthC []
noncomputable def V143.h : H := .s (.z) (.s (.c (.s (.z) (.z)) (.z)) (.s (.z) (.z)))
theorem V143.vc_eq (B : Nat) (R : Value → World → Prop) (a c : Nat) (w : World) : wpf (V143.cfg B) (V143.cuts B R) V143.code V143.h [] (postOf Tryz.prog B (Tryz.f143.results.toList) R) (argE 0 [.float .f64 a, .float .f64 c]) [] w = V143.vc B R a c w := by kernel_rfl
theorem V143.obl (B : Nat) (R : Value → World → Prop) : oblP (V143.cfg B) (V143.cuts B R) V143.code V143.h [] (postOf Tryz.prog B (Tryz.f143.results.toList) R) := by
 have e : oblP (V143.cfg B) (V143.cuts B R) V143.code V143.h [] (postOf Tryz.prog B (Tryz.f143.results.toList) R) = (True ∧ (((True ∧ True) ∧ True) ∧ (True ∧ True))) := by kernel_rfl
 exact e.mpr (⟨trivial, ⟨⟨⟨trivial, trivial⟩, trivial⟩, ⟨trivial, trivial⟩⟩⟩)
theorem V143.cfgOk (B : Nat) : CfgOk (V143.cfg B) := cfgOk_of (by kernel_rfl) (by kernel_rfl) (extCons V149.extOk extNil)
theorem V143.sound {a d : Nat} {w : World} {R : Value → World → Prop} (h : V143.vc w.heap.size R a d w) : Calls Tryz.prog 143 ⟨[.float .f64 a, .float .f64 d]⟩ w fun e w' => ∃ v, e = .returned v ∧ R v w' :=
 calls_wpfP (c := V143.cfg w.heap.size) (fn := Tryz.f143) (x := V143.code) (V143.cuts w.heap.size R) V143.h (V143.cfgOk _) mixed Tryz.func143 (by kernel_rfl) (by kernel_rfl) (by kernel_rfl) rfl (V143.obl _ _) ((V143.vc_eq _ _ a d _).symm ▸ h)
def V141a.vc (B : Nat) (R : Value → World → Prop) (a c : Int) (w : World) : Prop :=
 CallK Tryz.prog 51 [.int .u64 a] B w [] fun v d => 
 ∃ f : Nat, v = .float .f64 f ∧
 CallK Tryz.prog 51 [.int .u64 c] B d [] fun g i => 
 ∃ j : Nat, g = .float .f64 j ∧
 CallK Tryz.prog 52 [.float .f64 f] B i [] fun l m => 
 ∃ n : Bool, l = .bool n ∧
 if n = false
 then (CallK Tryz.prog 52 [.float .f64 j] B m [] fun o p => 
 ∃ q : Bool, o = .bool q ∧
 if q = true
 then (Ret B p (R (.int .u64 9221120237041090560)))
 else (CallK Tryz.prog 142 [.float .f64 f, .float .f64 j] B p [] fun r s => 
 ∃ t : Nat, r = .float .f64 t ∧
 CallK Tryz.prog 34 [.float .f64 t] B s [] fun u x => 
 ∃ y : Int, u = .int .u64 y ∧
 Ret B x (R (.int .u64 y))))
 else (Ret B m (R (.int .u64 9221120237041090560)))
noncomputable def V141a.cfg (B : Nat) : Cfg := ⟨Tryz.prog, ⟨24, B⟩, [], hasN [34, 51, 52, 142], hasN [], look []⟩
noncomputable def V141a.code : Code := (Tryz.f141.body).getD .skip
noncomputable def V141a.cuts (B : Nat) (R : Value → World → Prop) : Nat → Cut := nthC []
noncomputable def V141a.h : H := .s (.z) (.s (.z) (.s (.s (.z) (.c (.s (.z) (.z)) (.z))) (.s (.z) (.z))))
theorem V141a.vc_eq (B : Nat) (R : Value → World → Prop) (a c : Int) (w : World) : wpf (V141a.cfg B) (V141a.cuts B R) V141a.code V141a.h [] (postOf Tryz.prog B (Tryz.f141.results.toList) R) (argE 0 [.int .u64 a, .int .u64 c, .func (.func 142) #[] #[]]) [] w = V141a.vc B R a c w := by kernel_rfl
theorem V141a.obl (B : Nat) (R : Value → World → Prop) : oblP (V141a.cfg B) (V141a.cuts B R) V141a.code V141a.h [] (postOf Tryz.prog B (Tryz.f141.results.toList) R) := by
 have e : oblP (V141a.cfg B) (V141a.cuts B R) V141a.code V141a.h [] (postOf Tryz.prog B (Tryz.f141.results.toList) R) = (True ∧ (True ∧ ((True ∧ ((True ∧ True) ∧ True)) ∧ (True ∧ True)))) := by kernel_rfl
 exact e.mpr (⟨trivial, ⟨trivial, ⟨⟨trivial, ⟨⟨trivial, trivial⟩, trivial⟩⟩, ⟨trivial, trivial⟩⟩⟩⟩)
theorem V141a.cfgOk (B : Nat) : CfgOk (V141a.cfg B) := cfgOk_of (by kernel_rfl) (by kernel_rfl) extNil
theorem V141a.sound {a d : Int} {w : World} {R : Value → World → Prop} (h : V141a.vc w.heap.size R a d w) : Calls Tryz.prog 141 ⟨[.int .u64 a, .int .u64 d, .func (.func 142) #[] #[]]⟩ w fun e w' => ∃ v, e = .returned v ∧ R v w' :=
 calls_wpfP (c := V141a.cfg w.heap.size) (fn := Tryz.f141) (x := V141a.code) (V141a.cuts w.heap.size R) V141a.h (V141a.cfgOk _) mixed Tryz.func141 (by kernel_rfl) (by kernel_rfl) (by kernel_rfl) rfl (V141a.obl _ _) ((V141a.vc_eq _ _ a d _).symm ▸ h)
def V141b.vc (B : Nat) (R : Value → World → Prop) (a c : Int) (w : World) : Prop :=
 CallK Tryz.prog 51 [.int .u64 a] B w [] fun v d => 
 ∃ f : Nat, v = .float .f64 f ∧
 CallK Tryz.prog 51 [.int .u64 c] B d [] fun g i => 
 ∃ j : Nat, g = .float .f64 j ∧
 CallK Tryz.prog 52 [.float .f64 f] B i [] fun l m => 
 ∃ n : Bool, l = .bool n ∧
 if n = false
 then (CallK Tryz.prog 52 [.float .f64 j] B m [] fun o p => 
 ∃ q : Bool, o = .bool q ∧
 if q = true
 then (Ret B p (R (.int .u64 9221120237041090560)))
 else (CallK Tryz.prog 143 [.float .f64 f, .float .f64 j] B p [] fun r s => 
 ∃ t : Nat, r = .float .f64 t ∧
 CallK Tryz.prog 34 [.float .f64 t] B s [] fun u x => 
 ∃ y : Int, u = .int .u64 y ∧
 Ret B x (R (.int .u64 y))))
 else (Ret B m (R (.int .u64 9221120237041090560)))
noncomputable def V141b.cfg (B : Nat) : Cfg := ⟨Tryz.prog, ⟨24, B⟩, [], hasN [34, 51, 52, 143], hasN [], look []⟩
noncomputable def V141b.code : Code := (Tryz.f141.body).getD .skip
noncomputable def V141b.cuts (B : Nat) (R : Value → World → Prop) : Nat → Cut := nthC []
noncomputable def V141b.h : H := .s (.z) (.s (.z) (.s (.s (.z) (.c (.s (.z) (.z)) (.z))) (.s (.z) (.z))))
theorem V141b.vc_eq (B : Nat) (R : Value → World → Prop) (a c : Int) (w : World) : wpf (V141b.cfg B) (V141b.cuts B R) V141b.code V141b.h [] (postOf Tryz.prog B (Tryz.f141.results.toList) R) (argE 0 [.int .u64 a, .int .u64 c, .func (.func 143) #[] #[]]) [] w = V141b.vc B R a c w := by kernel_rfl
theorem V141b.obl (B : Nat) (R : Value → World → Prop) : oblP (V141b.cfg B) (V141b.cuts B R) V141b.code V141b.h [] (postOf Tryz.prog B (Tryz.f141.results.toList) R) := by
 have e : oblP (V141b.cfg B) (V141b.cuts B R) V141b.code V141b.h [] (postOf Tryz.prog B (Tryz.f141.results.toList) R) = (True ∧ (True ∧ ((True ∧ ((True ∧ True) ∧ True)) ∧ (True ∧ True)))) := by kernel_rfl
 exact e.mpr (⟨trivial, ⟨trivial, ⟨⟨trivial, ⟨⟨trivial, trivial⟩, trivial⟩⟩, ⟨trivial, trivial⟩⟩⟩⟩)
theorem V141b.cfgOk (B : Nat) : CfgOk (V141b.cfg B) := cfgOk_of (by kernel_rfl) (by kernel_rfl) extNil
theorem V141b.sound {a d : Int} {w : World} {R : Value → World → Prop} (h : V141b.vc w.heap.size R a d w) : Calls Tryz.prog 141 ⟨[.int .u64 a, .int .u64 d, .func (.func 143) #[] #[]]⟩ w fun e w' => ∃ v, e = .returned v ∧ R v w' :=
 calls_wpfP (c := V141b.cfg w.heap.size) (fn := Tryz.f141) (x := V141b.code) (V141b.cuts w.heap.size R) V141b.h (V141b.cfgOk _) mixed Tryz.func141 (by kernel_rfl) (by kernel_rfl) (by kernel_rfl) rfl (V141b.obl _ _) ((V141b.vc_eq _ _ a d _).symm ▸ h)
end Go.Proofs.YtidcpndlloppdaaGreatDoor
