import Derived.Test.YtidcpndlloppdaaGreatZFE
/-
 What the engine makes of the loaded functions 103,80,146,149,148,150,105,156,162,164,42,131,104,155,152,153,151,165,166,167,168,133,134,169,170,171,172,135,183,125,184,192,191,190,163,147,181,182,180,180: conditions under which a call returns as told,and proofs of that.
 Conditions: none. Printed by a program of this project.
-/
set_option linter.unusedVariables false
set_option maxRecDepth 100000
namespace Go.Proofs.YtidcpndlloppdaaGreat
def V103.vc (B : Nat) (R : Value → World → Prop) (a : Int) (w : World) : Prop :=
 CallK Tryz.prog 146 [.int .u64 a] B w [] fun v c => 
 ∃ d : Nat,v = .float .f64 d ∧
 CallK Tryz.prog 80 [.float .f64 (Op.negFloat .f64 d)] B c [] fun f g => 
 ∃ i : Int,f = .int .u64 i ∧
 Ret B g (R (.int .u64 i))
noncomputable def V103.cfg (B : Nat) : Cfg := ⟨Tryz.prog,⟨7,B⟩,[],hasN [80,146],hasN [],look []⟩
noncomputable def V103.code : Code := (Tryz.f103.body).getD .skip
noncomputable def V103.cuts (B : Nat) (R : Value → World → Prop) : Nat → Cut := nthC []
noncomputable def V103.h : H := .s (.z) (.s (.z) (.z))
theorem V103.vc_eq (B : Nat) (R : Value → World → Prop) (a : Int) (w : World) : wpf (V103.cfg B) (V103.cuts B R) V103.code V103.h [] (postOf Tryz.prog B (Tryz.f103.results.toList) R) (argE 0 [.int .u64 a]) [] w = V103.vc B R a w := by kernel_rfl
theorem V103.obl (B : Nat) (R : Value → World → Prop) : oblP (V103.cfg B) (V103.cuts B R) V103.code V103.h [] (postOf Tryz.prog B (Tryz.f103.results.toList) R) := by
 have e : oblP (V103.cfg B) (V103.cuts B R) V103.code V103.h [] (postOf Tryz.prog B (Tryz.f103.results.toList) R) = (True ∧ (True ∧ True)) := by kernel_rfl
 exact e.mpr (⟨trivial,⟨trivial,trivial⟩⟩)
theorem V103.cfgOk (B : Nat) : CfgOk (V103.cfg B) := cfgOk_of (by kernel_rfl) (by kernel_rfl) extNil
theorem V103.sound {a : Int} {w : World} {R : Value → World → Prop} (h : V103.vc w.heap.size R a w) : Calls Tryz.prog 103 ⟨[.int .u64 a]⟩ w fun e w' => ∃ v,e = .returned v ∧ R v w' :=
 calls_wpfP (c := V103.cfg w.heap.size) (fn := Tryz.f103) (x := V103.code) (V103.cuts w.heap.size R) V103.h (V103.cfgOk _) mixed Tryz.func103 (by kernel_rfl) (by kernel_rfl) (by kernel_rfl) rfl (V103.obl _ _) ((V103.vc_eq _ _ a _).symm ▸ h)
def V80.vc (B : Nat) (R : Value → World → Prop) (a : Nat) (w : World) : Prop :=
 CallK Tryz.prog 125 [.float .f64 a] B w [] fun v c => 
 ∃ d : Bool,v = .bool d ∧
 if d = true
 then (Ret B c (R (.int .u64 9221120237041090560)))
 else (RunK Tryz.prog (V126.ext [.float .f64 a]) B c [] fun f g => 
 ∃ i : Int,f = .int .u64 i ∧
 Ret B g (R (.int .u64 i)))
noncomputable def V80.cfg (B : Nat) : Cfg := ⟨Tryz.prog,⟨7,B⟩,[],hasN [125],hasN [],look [(126,V126.ext)]⟩
noncomputable def V80.code : Code := (Tryz.f80.body).getD .skip
noncomputable def V80.cuts (B : Nat) (R : Value → World → Prop) : Nat → Cut := nthC []
noncomputable def V80.h : H := .s (.z) (.s (.s (.z) (.c (.s (.z) (.z)) (.z))) (.s (.z) (.z)))
theorem V80.vc_eq (B : Nat) (R : Value → World → Prop) (a : Nat) (w : World) : wpf (V80.cfg B) (V80.cuts B R) V80.code V80.h [] (postOf Tryz.prog B (Tryz.f80.results.toList) R) (argE 0 [.float .f64 a]) [] w = V80.vc B R a w := by kernel_rfl
theorem V80.obl (B : Nat) (R : Value → World → Prop) : oblP (V80.cfg B) (V80.cuts B R) V80.code V80.h [] (postOf Tryz.prog B (Tryz.f80.results.toList) R) := by
 have e : oblP (V80.cfg B) (V80.cuts B R) V80.code V80.h [] (postOf Tryz.prog B (Tryz.f80.results.toList) R) = (True ∧ ((True ∧ ((True ∧ True) ∧ True)) ∧ (True ∧ True))) := by kernel_rfl
 exact e.mpr (⟨trivial,⟨⟨trivial,⟨⟨trivial,trivial⟩,trivial⟩⟩,⟨trivial,trivial⟩⟩⟩)
theorem V80.cfgOk (B : Nat) : CfgOk (V80.cfg B) := cfgOk_of (by kernel_rfl) (by kernel_rfl) (extCons V126.extOk extNil)
theorem V80.sound {a : Nat} {w : World} {R : Value → World → Prop} (h : V80.vc w.heap.size R a w) : Calls Tryz.prog 80 ⟨[.float .f64 a]⟩ w fun e w' => ∃ v,e = .returned v ∧ R v w' :=
 calls_wpfP (c := V80.cfg w.heap.size) (fn := Tryz.f80) (x := V80.code) (V80.cuts w.heap.size R) V80.h (V80.cfgOk _) mixed Tryz.func80 (by kernel_rfl) (by kernel_rfl) (by kernel_rfl) rfl (V80.obl _ _) ((V80.vc_eq _ _ a _).symm ▸ h)
def V146.vc (B : Nat) (R : Value → World → Prop) (a : Int) (w : World) : Prop :=
 RunK Tryz.prog (V177.ext [.int .u64 a]) B w [] fun v c => 
 ∃ d : Nat,v = .float .f64 d ∧
 Ret B c (R (.float .f64 d))
noncomputable def V146.cfg (B : Nat) : Cfg := ⟨Tryz.prog,⟨5,B⟩,[],hasN [],hasN [],look [(177,V177.ext)]⟩
noncomputable def V146.code : Code := (Tryz.f146.body).getD .skip
noncomputable def V146.cuts (B : Nat) (R : Value → World → Prop) : Nat → Cut := nthC []
noncomputable def V146.h : H := .s (.z) (.s (.z) (.z))
theorem V146.vc_eq (B : Nat) (R : Value → World → Prop) (a : Int) (w : World) : wpf (V146.cfg B) (V146.cuts B R) V146.code V146.h [] (postOf Tryz.prog B (Tryz.f146.results.toList) R) (argE 0 [.int .u64 a]) [] w = V146.vc B R a w := by kernel_rfl
theorem V146.obl (B : Nat) (R : Value → World → Prop) : oblP (V146.cfg B) (V146.cuts B R) V146.code V146.h [] (postOf Tryz.prog B (Tryz.f146.results.toList) R) := by
 have e : oblP (V146.cfg B) (V146.cuts B R) V146.code V146.h [] (postOf Tryz.prog B (Tryz.f146.results.toList) R) = (True ∧ (True ∧ True)) := by kernel_rfl
 exact e.mpr (⟨trivial,⟨trivial,trivial⟩⟩)
theorem V146.cfgOk (B : Nat) : CfgOk (V146.cfg B) := cfgOk_of (by kernel_rfl) (by kernel_rfl) (extCons V177.extOk extNil)
theorem V146.sound {a : Int} {w : World} {R : Value → World → Prop} (h : V146.vc w.heap.size R a w) : Calls Tryz.prog 146 ⟨[.int .u64 a]⟩ w fun e w' => ∃ v,e = .returned v ∧ R v w' :=
 calls_wpfP (c := V146.cfg w.heap.size) (fn := Tryz.f146) (x := V146.code) (V146.cuts w.heap.size R) V146.h (V146.cfgOk _) mixed Tryz.func146 (by kernel_rfl) (by kernel_rfl) (by kernel_rfl) rfl (V146.obl _ _) ((V146.vc_eq _ _ a _).symm ▸ h)
def V149.vc (B : Nat) (R : Value → World → Prop) (a c : Int) (w : World) : Prop :=
 CallK Tryz.prog 146 [.int .u64 a] B w [] fun v d => 
 ∃ f : Nat,v = .float .f64 f ∧
 CallK Tryz.prog 146 [.int .u64 c] B d [] fun g i => 
 ∃ j : Nat,g = .float .f64 j ∧
 RunK Tryz.prog (Go.binOp .sub 133 (.float .f64 f) (.float .f64 j)) B i [] fun l m => 
 ∃ n : Nat,l = .float .f64 n ∧
 CallK Tryz.prog 80 [.float .f64 n] B m [] fun o p => 
 ∃ q : Int,o = .int .u64 q ∧
 Ret B p (R (.int .u64 q))
noncomputable def V149.cfg (B : Nat) : Cfg := ⟨Tryz.prog,⟨11,B⟩,[],hasN [80,146],hasN [],look []⟩
noncomputable def V149.code : Code := (Tryz.f149.body).getD .skip
noncomputable def V149.cuts (B : Nat) (R : Value → World → Prop) : Nat → Cut := nthC []
noncomputable def V149.h : H := .s (.z) (.s (.z) (.z))
theorem V149.vc_eq (B : Nat) (R : Value → World → Prop) (a c : Int) (w : World) : wpf (V149.cfg B) (V149.cuts B R) V149.code V149.h [] (postOf Tryz.prog B (Tryz.f149.results.toList) R) (argE 0 [.int .u64 a,.int .u64 c]) [] w = V149.vc B R a c w := by kernel_rfl
theorem V149.obl (B : Nat) (R : Value → World → Prop) : oblP (V149.cfg B) (V149.cuts B R) V149.code V149.h [] (postOf Tryz.prog B (Tryz.f149.results.toList) R) := by
 have e : oblP (V149.cfg B) (V149.cuts B R) V149.code V149.h [] (postOf Tryz.prog B (Tryz.f149.results.toList) R) = (True ∧ (True ∧ True)) := by kernel_rfl
 exact e.mpr (⟨trivial,⟨trivial,trivial⟩⟩)
theorem V149.cfgOk (B : Nat) : CfgOk (V149.cfg B) := cfgOk_of (by kernel_rfl) (by kernel_rfl) extNil
theorem V149.sound {a d : Int} {w : World} {R : Value → World → Prop} (h : V149.vc w.heap.size R a d w) : Calls Tryz.prog 149 ⟨[.int .u64 a,.int .u64 d]⟩ w fun e w' => ∃ v,e = .returned v ∧ R v w' :=
 calls_wpfP (c := V149.cfg w.heap.size) (fn := Tryz.f149) (x := V149.code) (V149.cuts w.heap.size R) V149.h (V149.cfgOk _) mixed Tryz.func149 (by kernel_rfl) (by kernel_rfl) (by kernel_rfl) rfl (V149.obl _ _) ((V149.vc_eq _ _ a d _).symm ▸ h)
def V148.vc (B : Nat) (R : Value → World → Prop) (a c : Int) (w : World) : Prop :=
 CallK Tryz.prog 146 [.int .u64 a] B w [] fun v d => 
 ∃ f : Nat,v = .float .f64 f ∧
 CallK Tryz.prog 146 [.int .u64 c] B d [] fun g i => 
 ∃ j : Nat,g = .float .f64 j ∧
 RunK Tryz.prog (Go.binOp .add 133 (.float .f64 f) (.float .f64 j)) B i [] fun l m => 
 ∃ n : Nat,l = .float .f64 n ∧
 CallK Tryz.prog 80 [.float .f64 n] B m [] fun o p => 
 ∃ q : Int,o = .int .u64 q ∧
 Ret B p (R (.int .u64 q))
noncomputable def V148.cfg (B : Nat) : Cfg := ⟨Tryz.prog,⟨11,B⟩,[],hasN [80,146],hasN [],look []⟩
noncomputable def V148.code : Code := (Tryz.f148.body).getD .skip
noncomputable def V148.cuts (B : Nat) (R : Value → World → Prop) : Nat → Cut := nthC []
noncomputable def V148.h : H := .s (.z) (.s (.z) (.z))
theorem V148.vc_eq (B : Nat) (R : Value → World → Prop) (a c : Int) (w : World) : wpf (V148.cfg B) (V148.cuts B R) V148.code V148.h [] (postOf Tryz.prog B (Tryz.f148.results.toList) R) (argE 0 [.int .u64 a,.int .u64 c]) [] w = V148.vc B R a c w := by kernel_rfl
theorem V148.obl (B : Nat) (R : Value → World → Prop) : oblP (V148.cfg B) (V148.cuts B R) V148.code V148.h [] (postOf Tryz.prog B (Tryz.f148.results.toList) R) := by
 have e : oblP (V148.cfg B) (V148.cuts B R) V148.code V148.h [] (postOf Tryz.prog B (Tryz.f148.results.toList) R) = (True ∧ (True ∧ True)) := by kernel_rfl
 exact e.mpr (⟨trivial,⟨trivial,trivial⟩⟩)
theorem V148.cfgOk (B : Nat) : CfgOk (V148.cfg B) := cfgOk_of (by kernel_rfl) (by kernel_rfl) extNil
theorem V148.sound {a d : Int} {w : World} {R : Value → World → Prop} (h : V148.vc w.heap.size R a d w) : Calls Tryz.prog 148 ⟨[.int .u64 a,.int .u64 d]⟩ w fun e w' => ∃ v,e = .returned v ∧ R v w' :=
 calls_wpfP (c := V148.cfg w.heap.size) (fn := Tryz.f148) (x := V148.code) (V148.cuts w.heap.size R) V148.h (V148.cfgOk _) mixed Tryz.func148 (by kernel_rfl) (by kernel_rfl) (by kernel_rfl) rfl (V148.obl _ _) ((V148.vc_eq _ _ a d _).symm ▸ h)
def V150.vc (B : Nat) (R : Value → World → Prop) (a c : Int) (w : World) : Prop :=
 CallK Tryz.prog 146 [.int .u64 a] B w [] fun v d => 
 ∃ f : Nat,v = .float .f64 f ∧
 CallK Tryz.prog 146 [.int .u64 c] B d [] fun g i => 
 ∃ j : Nat,g = .float .f64 j ∧
 RunK Tryz.prog (Go.binOp .mul 133 (.float .f64 f) (.float .f64 j)) B i [] fun l m => 
 ∃ n : Nat,l = .float .f64 n ∧
 CallK Tryz.prog 80 [.float .f64 n] B m [] fun o p => 
 ∃ q : Int,o = .int .u64 q ∧
 Ret B p (R (.int .u64 q))
noncomputable def V150.cfg (B : Nat) : Cfg := ⟨Tryz.prog,⟨11,B⟩,[],hasN [80,146],hasN [],look []⟩
noncomputable def V150.code : Code := (Tryz.f150.body).getD .skip
noncomputable def V150.cuts (B : Nat) (R : Value → World → Prop) : Nat → Cut := nthC []
noncomputable def V150.h : H := .s (.z) (.s (.z) (.z))
theorem V150.vc_eq (B : Nat) (R : Value → World → Prop) (a c : Int) (w : World) : wpf (V150.cfg B) (V150.cuts B R) V150.code V150.h [] (postOf Tryz.prog B (Tryz.f150.results.toList) R) (argE 0 [.int .u64 a,.int .u64 c]) [] w = V150.vc B R a c w := by kernel_rfl
theorem V150.obl (B : Nat) (R : Value → World → Prop) : oblP (V150.cfg B) (V150.cuts B R) V150.code V150.h [] (postOf Tryz.prog B (Tryz.f150.results.toList) R) := by
 have e : oblP (V150.cfg B) (V150.cuts B R) V150.code V150.h [] (postOf Tryz.prog B (Tryz.f150.results.toList) R) = (True ∧ (True ∧ True)) := by kernel_rfl
 exact e.mpr (⟨trivial,⟨trivial,trivial⟩⟩)
theorem V150.cfgOk (B : Nat) : CfgOk (V150.cfg B) := cfgOk_of (by kernel_rfl) (by kernel_rfl) extNil
theorem V150.sound {a d : Int} {w : World} {R : Value → World → Prop} (h : V150.vc w.heap.size R a d w) : Calls Tryz.prog 150 ⟨[.int .u64 a,.int .u64 d]⟩ w fun e w' => ∃ v,e = .returned v ∧ R v w' :=
 calls_wpfP (c := V150.cfg w.heap.size) (fn := Tryz.f150) (x := V150.code) (V150.cuts w.heap.size R) V150.h (V150.cfgOk _) mixed Tryz.func150 (by kernel_rfl) (by kernel_rfl) (by kernel_rfl) rfl (V150.obl _ _) ((V150.vc_eq _ _ a d _).symm ▸ h)
def V105.vc (B : Nat) (R : Value → World → Prop) (a : Int) (w : World) : Prop :=
 CallK Tryz.prog 146 [.int .u64 a] B w [] fun v c => 
 ∃ d : Nat,v = .float .f64 d ∧
 Ret B c (R (.bool (FloatKind.f64.format.order d 0 != some .eq)))
noncomputable def V105.cfg (B : Nat) : Cfg := ⟨Tryz.prog,⟨6,B⟩,[],hasN [146],hasN [],look []⟩
noncomputable def V105.code : Code := (Tryz.f105.body).getD .skip
noncomputable def V105.cuts (B : Nat) (R : Value → World → Prop) : Nat → Cut := nthC []
noncomputable def V105.h : H := .s (.z) (.s (.z) (.z))
theorem V105.vc_eq (B : Nat) (R : Value → World → Prop) (a : Int) (w : World) : wpf (V105.cfg B) (V105.cuts B R) V105.code V105.h [] (postOf Tryz.prog B (Tryz.f105.results.toList) R) (argE 0 [.int .u64 a]) [] w = V105.vc B R a w := by kernel_rfl
theorem V105.obl (B : Nat) (R : Value → World → Prop) : oblP (V105.cfg B) (V105.cuts B R) V105.code V105.h [] (postOf Tryz.prog B (Tryz.f105.results.toList) R) := by
 have e : oblP (V105.cfg B) (V105.cuts B R) V105.code V105.h [] (postOf Tryz.prog B (Tryz.f105.results.toList) R) = (True ∧ (True ∧ True)) := by kernel_rfl
 exact e.mpr (⟨trivial,⟨trivial,trivial⟩⟩)
theorem V105.cfgOk (B : Nat) : CfgOk (V105.cfg B) := cfgOk_of (by kernel_rfl) (by kernel_rfl) extNil
theorem V105.sound {a : Int} {w : World} {R : Value → World → Prop} (h : V105.vc w.heap.size R a w) : Calls Tryz.prog 105 ⟨[.int .u64 a]⟩ w fun e w' => ∃ v,e = .returned v ∧ R v w' :=
 calls_wpfP (c := V105.cfg w.heap.size) (fn := Tryz.f105) (x := V105.code) (V105.cuts w.heap.size R) V105.h (V105.cfgOk _) mixed Tryz.func105 (by kernel_rfl) (by kernel_rfl) (by kernel_rfl) rfl (V105.obl _ _) ((V105.vc_eq _ _ a _).symm ▸ h)
def V156.vc (B : Nat) (R : Value → World → Prop) (a c : Int) (w : World) : Prop :=
 CallK Tryz.prog 146 [.int .u64 a] B w [] fun v d => 
 ∃ f : Nat,v = .float .f64 f ∧
 CallK Tryz.prog 146 [.int .u64 c] B d [] fun g i => 
 ∃ j : Nat,g = .float .f64 j ∧
 Ret B i (R (.bool (FloatKind.f64.format.order f j == some .eq)))
noncomputable def V156.cfg (B : Nat) : Cfg := ⟨Tryz.prog,⟨10,B⟩,[],hasN [146],hasN [],look []⟩
noncomputable def V156.code : Code := (Tryz.f156.body).getD .skip
noncomputable def V156.cuts (B : Nat) (R : Value → World → Prop) : Nat → Cut := nthC []
noncomputable def V156.h : H := .s (.z) (.s (.z) (.z))
theorem V156.vc_eq (B : Nat) (R : Value → World → Prop) (a c : Int) (w : World) : wpf (V156.cfg B) (V156.cuts B R) V156.code V156.h [] (postOf Tryz.prog B (Tryz.f156.results.toList) R) (argE 0 [.int .u64 a,.int .u64 c]) [] w = V156.vc B R a c w := by kernel_rfl
theorem V156.obl (B : Nat) (R : Value → World → Prop) : oblP (V156.cfg B) (V156.cuts B R) V156.code V156.h [] (postOf Tryz.prog B (Tryz.f156.results.toList) R) := by
 have e : oblP (V156.cfg B) (V156.cuts B R) V156.code V156.h [] (postOf Tryz.prog B (Tryz.f156.results.toList) R) = (True ∧ (True ∧ True)) := by kernel_rfl
 exact e.mpr (⟨trivial,⟨trivial,trivial⟩⟩)
theorem V156.cfgOk (B : Nat) : CfgOk (V156.cfg B) := cfgOk_of (by kernel_rfl) (by kernel_rfl) extNil
theorem V156.sound {a d : Int} {w : World} {R : Value → World → Prop} (h : V156.vc w.heap.size R a d w) : Calls Tryz.prog 156 ⟨[.int .u64 a,.int .u64 d]⟩ w fun e w' => ∃ v,e = .returned v ∧ R v w' :=
 calls_wpfP (c := V156.cfg w.heap.size) (fn := Tryz.f156) (x := V156.code) (V156.cuts w.heap.size R) V156.h (V156.cfgOk _) mixed Tryz.func156 (by kernel_rfl) (by kernel_rfl) (by kernel_rfl) rfl (V156.obl _ _) ((V156.vc_eq _ _ a d _).symm ▸ h)
def V162.vc (B : Nat) (R : Value → World → Prop) (a : Nat) (w : World) : Prop :=
 if (FloatKind.f64.format.order a a != some .eq) = true
 then (Ret B w (R (.int .u64 9221120237041090560)))
 else (RunK Tryz.prog (V126.ext [.float .f64 a]) B w [] fun v c => 
 ∃ d : Int,v = .int .u64 d ∧
 Ret B c (R (.int .u64 d)))
noncomputable def V162.cfg (B : Nat) : Cfg := ⟨Tryz.prog,⟨8,B⟩,[],hasN [],hasN [],look [(126,V126.ext)]⟩
noncomputable def V162.code : Code := (Tryz.f162.body).getD .skip
noncomputable def V162.cuts (B : Nat) (R : Value → World → Prop) : Nat → Cut := nthC []
noncomputable def V162.h : H := .s (.z) (.s (.s (.z) (.c (.s (.z) (.z)) (.z))) (.s (.z) (.z)))
theorem V162.vc_eq (B : Nat) (R : Value → World → Prop) (a : Nat) (w : World) : wpf (V162.cfg B) (V162.cuts B R) V162.code V162.h [] (postOf Tryz.prog B (Tryz.f162.results.toList) R) (argE 0 [.float .f64 a]) [] w = V162.vc B R a w := by kernel_rfl
theorem V162.obl (B : Nat) (R : Value → World → Prop) : oblP (V162.cfg B) (V162.cuts B R) V162.code V162.h [] (postOf Tryz.prog B (Tryz.f162.results.toList) R) := by
 have e : oblP (V162.cfg B) (V162.cuts B R) V162.code V162.h [] (postOf Tryz.prog B (Tryz.f162.results.toList) R) = (True ∧ ((True ∧ ((True ∧ True) ∧ True)) ∧ (True ∧ True))) := by kernel_rfl
 exact e.mpr (⟨trivial,⟨⟨trivial,⟨⟨trivial,trivial⟩,trivial⟩⟩,⟨trivial,trivial⟩⟩⟩)
theorem V162.cfgOk (B : Nat) : CfgOk (V162.cfg B) := cfgOk_of (by kernel_rfl) (by kernel_rfl) (extCons V126.extOk extNil)
theorem V162.sound {a : Nat} {w : World} {R : Value → World → Prop} (h : V162.vc w.heap.size R a w) : Calls Tryz.prog 162 ⟨[.float .f64 a]⟩ w fun e w' => ∃ v,e = .returned v ∧ R v w' :=
 calls_wpfP (c := V162.cfg w.heap.size) (fn := Tryz.f162) (x := V162.code) (V162.cuts w.heap.size R) V162.h (V162.cfgOk _) mixed Tryz.func162 (by kernel_rfl) (by kernel_rfl) (by kernel_rfl) rfl (V162.obl _ _) ((V162.vc_eq _ _ a _).symm ▸ h)
def V164.vc (B : Nat) (R : Value → World → Prop) (a : Int) (w : World) : Prop :=
 RunK Tryz.prog (V177.ext [.int .u64 a]) B w [] fun v c => 
 ∃ d : Nat,v = .float .f64 d ∧
 Ret B c (R (.float .f64 d))
noncomputable def V164.cfg (B : Nat) : Cfg := ⟨Tryz.prog,⟨5,B⟩,[],hasN [],hasN [],look [(177,V177.ext)]⟩
noncomputable def V164.code : Code := (Tryz.f164.body).getD .skip
noncomputable def V164.cuts (B : Nat) (R : Value → World → Prop) : Nat → Cut := nthC []
noncomputable def V164.h : H := .s (.z) (.s (.z) (.z))
theorem V164.vc_eq (B : Nat) (R : Value → World → Prop) (a : Int) (w : World) : wpf (V164.cfg B) (V164.cuts B R) V164.code V164.h [] (postOf Tryz.prog B (Tryz.f164.results.toList) R) (argE 0 [.int .u64 a]) [] w = V164.vc B R a w := by kernel_rfl
theorem V164.obl (B : Nat) (R : Value → World → Prop) : oblP (V164.cfg B) (V164.cuts B R) V164.code V164.h [] (postOf Tryz.prog B (Tryz.f164.results.toList) R) := by
 have e : oblP (V164.cfg B) (V164.cuts B R) V164.code V164.h [] (postOf Tryz.prog B (Tryz.f164.results.toList) R) = (True ∧ (True ∧ True)) := by kernel_rfl
 exact e.mpr (⟨trivial,⟨trivial,trivial⟩⟩)
theorem V164.cfgOk (B : Nat) : CfgOk (V164.cfg B) := cfgOk_of (by kernel_rfl) (by kernel_rfl) (extCons V177.extOk extNil)
theorem V164.sound {a : Int} {w : World} {R : Value → World → Prop} (h : V164.vc w.heap.size R a w) : Calls Tryz.prog 164 ⟨[.int .u64 a]⟩ w fun e w' => ∃ v,e = .returned v ∧ R v w' :=
 calls_wpfP (c := V164.cfg w.heap.size) (fn := Tryz.f164) (x := V164.code) (V164.cuts w.heap.size R) V164.h (V164.cfgOk _) mixed Tryz.func164 (by kernel_rfl) (by kernel_rfl) (by kernel_rfl) rfl (V164.obl _ _) ((V164.vc_eq _ _ a _).symm ▸ h)
def V42.vc (B : Nat) (R : Value → World → Prop) (a : Int) (w : World) : Prop :=
 CallK Tryz.prog 80 [.float .f64 (FloatKind.nearest .f64 a)] B w [] fun v c => 
 ∃ d : Int,v = .int .u64 d ∧
 Ret B c (R (.int .u64 d))
noncomputable def V42.cfg (B : Nat) : Cfg := ⟨Tryz.prog,⟨6,B⟩,[],hasN [80],hasN [],look []⟩
noncomputable def V42.code : Code := (Tryz.f42.body).getD .skip
noncomputable def V42.cuts (B : Nat) (R : Value → World → Prop) : Nat → Cut := nthC []
noncomputable def V42.h : H := .s (.z) (.s (.z) (.z))
theorem V42.vc_eq (B : Nat) (R : Value → World → Prop) (a : Int) (w : World) : wpf (V42.cfg B) (V42.cuts B R) V42.code V42.h [] (postOf Tryz.prog B (Tryz.f42.results.toList) R) (argE 0 [.int .i64 a]) [] w = V42.vc B R a w := by kernel_rfl
theorem V42.obl (B : Nat) (R : Value → World → Prop) : oblP (V42.cfg B) (V42.cuts B R) V42.code V42.h [] (postOf Tryz.prog B (Tryz.f42.results.toList) R) := by
 have e : oblP (V42.cfg B) (V42.cuts B R) V42.code V42.h [] (postOf Tryz.prog B (Tryz.f42.results.toList) R) = (True ∧ (True ∧ True)) := by kernel_rfl
 exact e.mpr (⟨trivial,⟨trivial,trivial⟩⟩)
theorem V42.cfgOk (B : Nat) : CfgOk (V42.cfg B) := cfgOk_of (by kernel_rfl) (by kernel_rfl) extNil
theorem V42.sound {a : Int} {w : World} {R : Value → World → Prop} (h : V42.vc w.heap.size R a w) : Calls Tryz.prog 42 ⟨[.int .i64 a]⟩ w fun e w' => ∃ v,e = .returned v ∧ R v w' :=
 calls_wpfP (c := V42.cfg w.heap.size) (fn := Tryz.f42) (x := V42.code) (V42.cuts w.heap.size R) V42.h (V42.cfgOk _) mixed Tryz.func42 (by kernel_rfl) (by kernel_rfl) (by kernel_rfl) rfl (V42.obl _ _) ((V42.vc_eq _ _ a _).symm ▸ h)
def V131.vc (B : Nat) (R : Value → World → Prop) (a : Int) (w : World) : Prop :=
 CallK Tryz.prog 162 [.float .f64 (FloatKind.nearest .f64 a)] B w [] fun v c => 
 ∃ d : Int,v = .int .u64 d ∧
 Ret B c (R (.int .u64 d))
noncomputable def V131.cfg (B : Nat) : Cfg := ⟨Tryz.prog,⟨6,B⟩,[],hasN [162],hasN [],look []⟩
noncomputable def V131.code : Code := (Tryz.f131.body).getD .skip
noncomputable def V131.cuts (B : Nat) (R : Value → World → Prop) : Nat → Cut := nthC []
noncomputable def V131.h : H := .s (.z) (.s (.z) (.z))
theorem V131.vc_eq (B : Nat) (R : Value → World → Prop) (a : Int) (w : World) : wpf (V131.cfg B) (V131.cuts B R) V131.code V131.h [] (postOf Tryz.prog B (Tryz.f131.results.toList) R) (argE 0 [.int .i64 a]) [] w = V131.vc B R a w := by kernel_rfl
theorem V131.obl (B : Nat) (R : Value → World → Prop) : oblP (V131.cfg B) (V131.cuts B R) V131.code V131.h [] (postOf Tryz.prog B (Tryz.f131.results.toList) R) := by
 have e : oblP (V131.cfg B) (V131.cuts B R) V131.code V131.h [] (postOf Tryz.prog B (Tryz.f131.results.toList) R) = (True ∧ (True ∧ True)) := by kernel_rfl
 exact e.mpr (⟨trivial,⟨trivial,trivial⟩⟩)
theorem V131.cfgOk (B : Nat) : CfgOk (V131.cfg B) := cfgOk_of (by kernel_rfl) (by kernel_rfl) extNil
theorem V131.sound {a : Int} {w : World} {R : Value → World → Prop} (h : V131.vc w.heap.size R a w) : Calls Tryz.prog 131 ⟨[.int .i64 a]⟩ w fun e w' => ∃ v,e = .returned v ∧ R v w' :=
 calls_wpfP (c := V131.cfg w.heap.size) (fn := Tryz.f131) (x := V131.code) (V131.cuts w.heap.size R) V131.h (V131.cfgOk _) mixed Tryz.func131 (by kernel_rfl) (by kernel_rfl) (by kernel_rfl) rfl (V131.obl _ _) ((V131.vc_eq _ _ a _).symm ▸ h)
def V104.vc (B : Nat) (R : Value → World → Prop) (a : Int) (w : World) : Prop :=
 CallK Tryz.prog 146 [.int .u64 a] B w [] fun v c => 
 ∃ d : Nat,v = .float .f64 d ∧
 CallK Tryz.prog 147 [.float .f64 d] B c [] fun f g => 
 ∃ i : Nat,f = .float .f64 i ∧
 CallK Tryz.prog 80 [.float .f64 i] B g [] fun j l => 
 ∃ m : Int,j = .int .u64 m ∧
 Ret B l (R (.int .u64 m))
noncomputable def V104.cfg (B : Nat) : Cfg := ⟨Tryz.prog,⟨7,B⟩,[],hasN [80,146,147],hasN [],look []⟩
noncomputable def V104.code : Code := (Tryz.f104.body).getD .skip
noncomputable def V104.cuts (B : Nat) (R : Value → World → Prop) : Nat → Cut := nthC []
noncomputable def V104.h : H := .s (.z) (.s (.z) (.z))
theorem V104.vc_eq (B : Nat) (R : Value → World → Prop) (a : Int) (w : World) : wpf (V104.cfg B) (V104.cuts B R) V104.code V104.h [] (postOf Tryz.prog B (Tryz.f104.results.toList) R) (argE 0 [.int .u64 a]) [] w = V104.vc B R a w := by kernel_rfl
theorem V104.obl (B : Nat) (R : Value → World → Prop) : oblP (V104.cfg B) (V104.cuts B R) V104.code V104.h [] (postOf Tryz.prog B (Tryz.f104.results.toList) R) := by
 have e : oblP (V104.cfg B) (V104.cuts B R) V104.code V104.h [] (postOf Tryz.prog B (Tryz.f104.results.toList) R) = (True ∧ (True ∧ True)) := by kernel_rfl
 exact e.mpr (⟨trivial,⟨trivial,trivial⟩⟩)
theorem V104.cfgOk (B : Nat) : CfgOk (V104.cfg B) := cfgOk_of (by kernel_rfl) (by kernel_rfl) extNil
theorem V104.sound {a : Int} {w : World} {R : Value → World → Prop} (h : V104.vc w.heap.size R a w) : Calls Tryz.prog 104 ⟨[.int .u64 a]⟩ w fun e w' => ∃ v,e = .returned v ∧ R v w' :=
 calls_wpfP (c := V104.cfg w.heap.size) (fn := Tryz.f104) (x := V104.code) (V104.cuts w.heap.size R) V104.h (V104.cfgOk _) mixed Tryz.func104 (by kernel_rfl) (by kernel_rfl) (by kernel_rfl) rfl (V104.obl _ _) ((V104.vc_eq _ _ a _).symm ▸ h)
def V155.vc (B : Nat) (R : Value → World → Prop) (a c : Int) (w : World) : Prop :=
 CallK Tryz.prog 146 [.int .u64 a] B w [] fun v d => 
 ∃ f : Nat,v = .float .f64 f ∧
 CallK Tryz.prog 146 [.int .u64 c] B d [] fun g i => 
 ∃ j : Nat,g = .float .f64 j ∧
 Ret B i (R (.bool (FloatKind.f64.format.order f j == some .lt)))
noncomputable def V155.cfg (B : Nat) : Cfg := ⟨Tryz.prog,⟨10,B⟩,[],hasN [146],hasN [],look []⟩
noncomputable def V155.code : Code := (Tryz.f155.body).getD .skip
noncomputable def V155.cuts (B : Nat) (R : Value → World → Prop) : Nat → Cut := nthC []
noncomputable def V155.h : H := .s (.z) (.s (.z) (.z))
theorem V155.vc_eq (B : Nat) (R : Value → World → Prop) (a c : Int) (w : World) : wpf (V155.cfg B) (V155.cuts B R) V155.code V155.h [] (postOf Tryz.prog B (Tryz.f155.results.toList) R) (argE 0 [.int .u64 a,.int .u64 c]) [] w = V155.vc B R a c w := by kernel_rfl
theorem V155.obl (B : Nat) (R : Value → World → Prop) : oblP (V155.cfg B) (V155.cuts B R) V155.code V155.h [] (postOf Tryz.prog B (Tryz.f155.results.toList) R) := by
 have e : oblP (V155.cfg B) (V155.cuts B R) V155.code V155.h [] (postOf Tryz.prog B (Tryz.f155.results.toList) R) = (True ∧ (True ∧ True)) := by kernel_rfl
 exact e.mpr (⟨trivial,⟨trivial,trivial⟩⟩)
theorem V155.cfgOk (B : Nat) : CfgOk (V155.cfg B) := cfgOk_of (by kernel_rfl) (by kernel_rfl) extNil
theorem V155.sound {a d : Int} {w : World} {R : Value → World → Prop} (h : V155.vc w.heap.size R a d w) : Calls Tryz.prog 155 ⟨[.int .u64 a,.int .u64 d]⟩ w fun e w' => ∃ v,e = .returned v ∧ R v w' :=
 calls_wpfP (c := V155.cfg w.heap.size) (fn := Tryz.f155) (x := V155.code) (V155.cuts w.heap.size R) V155.h (V155.cfgOk _) mixed Tryz.func155 (by kernel_rfl) (by kernel_rfl) (by kernel_rfl) rfl (V155.obl _ _) ((V155.vc_eq _ _ a d _).symm ▸ h)
def V152.vc (B : Nat) (R : Value → World → Prop) (a c : Int) (w : World) : Prop :=
 CallK Tryz.prog 180 [.int .u64 a,.int .u64 c,.func (.func 181) #[] #[]] B w [] fun v d => 
 ∃ f : Int,v = .int .u64 f ∧
 Ret B d (R (.int .u64 f))
noncomputable def V152.cfg (B : Nat) : Cfg := ⟨Tryz.prog,⟨8,B⟩,[],hasN [180],hasN [],look []⟩
noncomputable def V152.code : Code := (Tryz.f152.body).getD .skip
noncomputable def V152.cuts (B : Nat) (R : Value → World → Prop) : Nat → Cut := nthC []
noncomputable def V152.h : H := .s (.z) (.s (.z) (.z))
theorem V152.vc_eq (B : Nat) (R : Value → World → Prop) (a c : Int) (w : World) : wpf (V152.cfg B) (V152.cuts B R) V152.code V152.h [] (postOf Tryz.prog B (Tryz.f152.results.toList) R) (argE 0 [.int .u64 a,.int .u64 c]) [] w = V152.vc B R a c w := by kernel_rfl
theorem V152.obl (B : Nat) (R : Value → World → Prop) : oblP (V152.cfg B) (V152.cuts B R) V152.code V152.h [] (postOf Tryz.prog B (Tryz.f152.results.toList) R) := by
 have e : oblP (V152.cfg B) (V152.cuts B R) V152.code V152.h [] (postOf Tryz.prog B (Tryz.f152.results.toList) R) = (True ∧ (True ∧ True)) := by kernel_rfl
 exact e.mpr (⟨trivial,⟨trivial,trivial⟩⟩)
theorem V152.cfgOk (B : Nat) : CfgOk (V152.cfg B) := cfgOk_of (by kernel_rfl) (by kernel_rfl) extNil
theorem V152.sound {a d : Int} {w : World} {R : Value → World → Prop} (h : V152.vc w.heap.size R a d w) : Calls Tryz.prog 152 ⟨[.int .u64 a,.int .u64 d]⟩ w fun e w' => ∃ v,e = .returned v ∧ R v w' :=
 calls_wpfP (c := V152.cfg w.heap.size) (fn := Tryz.f152) (x := V152.code) (V152.cuts w.heap.size R) V152.h (V152.cfgOk _) mixed Tryz.func152 (by kernel_rfl) (by kernel_rfl) (by kernel_rfl) rfl (V152.obl _ _) ((V152.vc_eq _ _ a d _).symm ▸ h)
def V153.vc (B : Nat) (R : Value → World → Prop) (a c : Int) (w : World) : Prop :=
 CallK Tryz.prog 180 [.int .u64 a,.int .u64 c,.func (.func 182) #[] #[]] B w [] fun v d => 
 ∃ f : Int,v = .int .u64 f ∧
 Ret B d (R (.int .u64 f))
noncomputable def V153.cfg (B : Nat) : Cfg := ⟨Tryz.prog,⟨8,B⟩,[],hasN [180],hasN [],look []⟩
noncomputable def V153.code : Code := (Tryz.f153.body).getD .skip
noncomputable def V153.cuts (B : Nat) (R : Value → World → Prop) : Nat → Cut := nthC []
noncomputable def V153.h : H := .s (.z) (.s (.z) (.z))
theorem V153.vc_eq (B : Nat) (R : Value → World → Prop) (a c : Int) (w : World) : wpf (V153.cfg B) (V153.cuts B R) V153.code V153.h [] (postOf Tryz.prog B (Tryz.f153.results.toList) R) (argE 0 [.int .u64 a,.int .u64 c]) [] w = V153.vc B R a c w := by kernel_rfl
theorem V153.obl (B : Nat) (R : Value → World → Prop) : oblP (V153.cfg B) (V153.cuts B R) V153.code V153.h [] (postOf Tryz.prog B (Tryz.f153.results.toList) R) := by
 have e : oblP (V153.cfg B) (V153.cuts B R) V153.code V153.h [] (postOf Tryz.prog B (Tryz.f153.results.toList) R) = (True ∧ (True ∧ True)) := by kernel_rfl
 exact e.mpr (⟨trivial,⟨trivial,trivial⟩⟩)
theorem V153.cfgOk (B : Nat) : CfgOk (V153.cfg B) := cfgOk_of (by kernel_rfl) (by kernel_rfl) extNil
theorem V153.sound {a d : Int} {w : World} {R : Value → World → Prop} (h : V153.vc w.heap.size R a d w) : Calls Tryz.prog 153 ⟨[.int .u64 a,.int .u64 d]⟩ w fun e w' => ∃ v,e = .returned v ∧ R v w' :=
 calls_wpfP (c := V153.cfg w.heap.size) (fn := Tryz.f153) (x := V153.code) (V153.cuts w.heap.size R) V153.h (V153.cfgOk _) mixed Tryz.func153 (by kernel_rfl) (by kernel_rfl) (by kernel_rfl) rfl (V153.obl _ _) ((V153.vc_eq _ _ a d _).symm ▸ h)
def V151.vc (B : Nat) (R : Value → World → Prop) (a c : Int) (w : World) : Prop :=
 CallK Tryz.prog 146 [.int .u64 a] B w [] fun v d => 
 ∃ f : Nat,v = .float .f64 f ∧
 CallK Tryz.prog 146 [.int .u64 c] B d [] fun g i => 
 ∃ j : Nat,g = .float .f64 j ∧
 RunK Tryz.prog (Go.binOp .quo 133 (.float .f64 f) (.float .f64 j)) B i [] fun l m => 
 ∃ n : Nat,l = .float .f64 n ∧
 CallK Tryz.prog 80 [.float .f64 n] B m [] fun o p => 
 ∃ q : Int,o = .int .u64 q ∧
 Ret B p (R (.int .u64 q))
noncomputable def V151.cfg (B : Nat) : Cfg := ⟨Tryz.prog,⟨11,B⟩,[],hasN [80,146],hasN [],look []⟩
noncomputable def V151.code : Code := (Tryz.f151.body).getD .skip
noncomputable def V151.cuts (B : Nat) (R : Value → World → Prop) : Nat → Cut := nthC []
noncomputable def V151.h : H := .s (.z) (.s (.z) (.z))
theorem V151.vc_eq (B : Nat) (R : Value → World → Prop) (a c : Int) (w : World) : wpf (V151.cfg B) (V151.cuts B R) V151.code V151.h [] (postOf Tryz.prog B (Tryz.f151.results.toList) R) (argE 0 [.int .u64 a,.int .u64 c]) [] w = V151.vc B R a c w := by kernel_rfl
theorem V151.obl (B : Nat) (R : Value → World → Prop) : oblP (V151.cfg B) (V151.cuts B R) V151.code V151.h [] (postOf Tryz.prog B (Tryz.f151.results.toList) R) := by
 have e : oblP (V151.cfg B) (V151.cuts B R) V151.code V151.h [] (postOf Tryz.prog B (Tryz.f151.results.toList) R) = (True ∧ (True ∧ True)) := by kernel_rfl
 exact e.mpr (⟨trivial,⟨trivial,trivial⟩⟩)
theorem V151.cfgOk (B : Nat) : CfgOk (V151.cfg B) := cfgOk_of (by kernel_rfl) (by kernel_rfl) extNil
theorem V151.sound {a d : Int} {w : World} {R : Value → World → Prop} (h : V151.vc w.heap.size R a d w) : Calls Tryz.prog 151 ⟨[.int .u64 a,.int .u64 d]⟩ w fun e w' => ∃ v,e = .returned v ∧ R v w' :=
 calls_wpfP (c := V151.cfg w.heap.size) (fn := Tryz.f151) (x := V151.code) (V151.cuts w.heap.size R) V151.h (V151.cfgOk _) mixed Tryz.func151 (by kernel_rfl) (by kernel_rfl) (by kernel_rfl) rfl (V151.obl _ _) ((V151.vc_eq _ _ a d _).symm ▸ h)
def V165.vc (B : Nat) (R : Value → World → Prop) (a c : Int) (w : World) : Prop :=
 CallK Tryz.prog 164 [.int .u64 a] B w [] fun v d => 
 ∃ f : Nat,v = .float .f64 f ∧
 CallK Tryz.prog 164 [.int .u64 c] B d [] fun g i => 
 ∃ j : Nat,g = .float .f64 j ∧
 RunK Tryz.prog (Go.binOp .add 133 (.float .f64 f) (.float .f64 j)) B i [] fun l m => 
 ∃ n : Nat,l = .float .f64 n ∧
 CallK Tryz.prog 162 [.float .f64 n] B m [] fun o p => 
 ∃ q : Int,o = .int .u64 q ∧
 Ret B p (R (.int .u64 q))
noncomputable def V165.cfg (B : Nat) : Cfg := ⟨Tryz.prog,⟨11,B⟩,[],hasN [162,164],hasN [],look []⟩
noncomputable def V165.code : Code := (Tryz.f165.body).getD .skip
noncomputable def V165.cuts (B : Nat) (R : Value → World → Prop) : Nat → Cut := nthC []
noncomputable def V165.h : H := .s (.z) (.s (.z) (.z))
theorem V165.vc_eq (B : Nat) (R : Value → World → Prop) (a c : Int) (w : World) : wpf (V165.cfg B) (V165.cuts B R) V165.code V165.h [] (postOf Tryz.prog B (Tryz.f165.results.toList) R) (argE 0 [.int .u64 a,.int .u64 c]) [] w = V165.vc B R a c w := by kernel_rfl
theorem V165.obl (B : Nat) (R : Value → World → Prop) : oblP (V165.cfg B) (V165.cuts B R) V165.code V165.h [] (postOf Tryz.prog B (Tryz.f165.results.toList) R) := by
 have e : oblP (V165.cfg B) (V165.cuts B R) V165.code V165.h [] (postOf Tryz.prog B (Tryz.f165.results.toList) R) = (True ∧ (True ∧ True)) := by kernel_rfl
 exact e.mpr (⟨trivial,⟨trivial,trivial⟩⟩)
theorem V165.cfgOk (B : Nat) : CfgOk (V165.cfg B) := cfgOk_of (by kernel_rfl) (by kernel_rfl) extNil
theorem V165.sound {a d : Int} {w : World} {R : Value → World → Prop} (h : V165.vc w.heap.size R a d w) : Calls Tryz.prog 165 ⟨[.int .u64 a,.int .u64 d]⟩ w fun e w' => ∃ v,e = .returned v ∧ R v w' :=
 calls_wpfP (c := V165.cfg w.heap.size) (fn := Tryz.f165) (x := V165.code) (V165.cuts w.heap.size R) V165.h (V165.cfgOk _) mixed Tryz.func165 (by kernel_rfl) (by kernel_rfl) (by kernel_rfl) rfl (V165.obl _ _) ((V165.vc_eq _ _ a d _).symm ▸ h)
def V166.vc (B : Nat) (R : Value → World → Prop) (a c : Int) (w : World) : Prop :=
 CallK Tryz.prog 164 [.int .u64 a] B w [] fun v d => 
 ∃ f : Nat,v = .float .f64 f ∧
 CallK Tryz.prog 164 [.int .u64 c] B d [] fun g i => 
 ∃ j : Nat,g = .float .f64 j ∧
 RunK Tryz.prog (Go.binOp .sub 133 (.float .f64 f) (.float .f64 j)) B i [] fun l m => 
 ∃ n : Nat,l = .float .f64 n ∧
 CallK Tryz.prog 162 [.float .f64 n] B m [] fun o p => 
 ∃ q : Int,o = .int .u64 q ∧
 Ret B p (R (.int .u64 q))
noncomputable def V166.cfg (B : Nat) : Cfg := ⟨Tryz.prog,⟨11,B⟩,[],hasN [162,164],hasN [],look []⟩
noncomputable def V166.code : Code := (Tryz.f166.body).getD .skip
noncomputable def V166.cuts (B : Nat) (R : Value → World → Prop) : Nat → Cut := nthC []
noncomputable def V166.h : H := .s (.z) (.s (.z) (.z))
theorem V166.vc_eq (B : Nat) (R : Value → World → Prop) (a c : Int) (w : World) : wpf (V166.cfg B) (V166.cuts B R) V166.code V166.h [] (postOf Tryz.prog B (Tryz.f166.results.toList) R) (argE 0 [.int .u64 a,.int .u64 c]) [] w = V166.vc B R a c w := by kernel_rfl
theorem V166.obl (B : Nat) (R : Value → World → Prop) : oblP (V166.cfg B) (V166.cuts B R) V166.code V166.h [] (postOf Tryz.prog B (Tryz.f166.results.toList) R) := by
 have e : oblP (V166.cfg B) (V166.cuts B R) V166.code V166.h [] (postOf Tryz.prog B (Tryz.f166.results.toList) R) = (True ∧ (True ∧ True)) := by kernel_rfl
 exact e.mpr (⟨trivial,⟨trivial,trivial⟩⟩)
theorem V166.cfgOk (B : Nat) : CfgOk (V166.cfg B) := cfgOk_of (by kernel_rfl) (by kernel_rfl) extNil
theorem V166.sound {a d : Int} {w : World} {R : Value → World → Prop} (h : V166.vc w.heap.size R a d w) : Calls Tryz.prog 166 ⟨[.int .u64 a,.int .u64 d]⟩ w fun e w' => ∃ v,e = .returned v ∧ R v w' :=
 calls_wpfP (c := V166.cfg w.heap.size) (fn := Tryz.f166) (x := V166.code) (V166.cuts w.heap.size R) V166.h (V166.cfgOk _) mixed Tryz.func166 (by kernel_rfl) (by kernel_rfl) (by kernel_rfl) rfl (V166.obl _ _) ((V166.vc_eq _ _ a d _).symm ▸ h)
def V167.vc (B : Nat) (R : Value → World → Prop) (a c : Int) (w : World) : Prop :=
 CallK Tryz.prog 164 [.int .u64 a] B w [] fun v d => 
 ∃ f : Nat,v = .float .f64 f ∧
 CallK Tryz.prog 164 [.int .u64 c] B d [] fun g i => 
 ∃ j : Nat,g = .float .f64 j ∧
 RunK Tryz.prog (Go.binOp .mul 133 (.float .f64 f) (.float .f64 j)) B i [] fun l m => 
 ∃ n : Nat,l = .float .f64 n ∧
 CallK Tryz.prog 162 [.float .f64 n] B m [] fun o p => 
 ∃ q : Int,o = .int .u64 q ∧
 Ret B p (R (.int .u64 q))
noncomputable def V167.cfg (B : Nat) : Cfg := ⟨Tryz.prog,⟨11,B⟩,[],hasN [162,164],hasN [],look []⟩
noncomputable def V167.code : Code := (Tryz.f167.body).getD .skip
noncomputable def V167.cuts (B : Nat) (R : Value → World → Prop) : Nat → Cut := nthC []
noncomputable def V167.h : H := .s (.z) (.s (.z) (.z))
theorem V167.vc_eq (B : Nat) (R : Value → World → Prop) (a c : Int) (w : World) : wpf (V167.cfg B) (V167.cuts B R) V167.code V167.h [] (postOf Tryz.prog B (Tryz.f167.results.toList) R) (argE 0 [.int .u64 a,.int .u64 c]) [] w = V167.vc B R a c w := by kernel_rfl
theorem V167.obl (B : Nat) (R : Value → World → Prop) : oblP (V167.cfg B) (V167.cuts B R) V167.code V167.h [] (postOf Tryz.prog B (Tryz.f167.results.toList) R) := by
 have e : oblP (V167.cfg B) (V167.cuts B R) V167.code V167.h [] (postOf Tryz.prog B (Tryz.f167.results.toList) R) = (True ∧ (True ∧ True)) := by kernel_rfl
 exact e.mpr (⟨trivial,⟨trivial,trivial⟩⟩)
theorem V167.cfgOk (B : Nat) : CfgOk (V167.cfg B) := cfgOk_of (by kernel_rfl) (by kernel_rfl) extNil
theorem V167.sound {a d : Int} {w : World} {R : Value → World → Prop} (h : V167.vc w.heap.size R a d w) : Calls Tryz.prog 167 ⟨[.int .u64 a,.int .u64 d]⟩ w fun e w' => ∃ v,e = .returned v ∧ R v w' :=
 calls_wpfP (c := V167.cfg w.heap.size) (fn := Tryz.f167) (x := V167.code) (V167.cuts w.heap.size R) V167.h (V167.cfgOk _) mixed Tryz.func167 (by kernel_rfl) (by kernel_rfl) (by kernel_rfl) rfl (V167.obl _ _) ((V167.vc_eq _ _ a d _).symm ▸ h)
def V168.vc (B : Nat) (R : Value → World → Prop) (a c : Int) (w : World) : Prop :=
 CallK Tryz.prog 164 [.int .u64 a] B w [] fun v d => 
 ∃ f : Nat,v = .float .f64 f ∧
 CallK Tryz.prog 164 [.int .u64 c] B d [] fun g i => 
 ∃ j : Nat,g = .float .f64 j ∧
 RunK Tryz.prog (Go.binOp .quo 133 (.float .f64 f) (.float .f64 j)) B i [] fun l m => 
 ∃ n : Nat,l = .float .f64 n ∧
 CallK Tryz.prog 162 [.float .f64 n] B m [] fun o p => 
 ∃ q : Int,o = .int .u64 q ∧
 Ret B p (R (.int .u64 q))
noncomputable def V168.cfg (B : Nat) : Cfg := ⟨Tryz.prog,⟨11,B⟩,[],hasN [162,164],hasN [],look []⟩
noncomputable def V168.code : Code := (Tryz.f168.body).getD .skip
noncomputable def V168.cuts (B : Nat) (R : Value → World → Prop) : Nat → Cut := nthC []
noncomputable def V168.h : H := .s (.z) (.s (.z) (.z))
theorem V168.vc_eq (B : Nat) (R : Value → World → Prop) (a c : Int) (w : World) : wpf (V168.cfg B) (V168.cuts B R) V168.code V168.h [] (postOf Tryz.prog B (Tryz.f168.results.toList) R) (argE 0 [.int .u64 a,.int .u64 c]) [] w = V168.vc B R a c w := by kernel_rfl
theorem V168.obl (B : Nat) (R : Value → World → Prop) : oblP (V168.cfg B) (V168.cuts B R) V168.code V168.h [] (postOf Tryz.prog B (Tryz.f168.results.toList) R) := by
 have e : oblP (V168.cfg B) (V168.cuts B R) V168.code V168.h [] (postOf Tryz.prog B (Tryz.f168.results.toList) R) = (True ∧ (True ∧ True)) := by kernel_rfl
 exact e.mpr (⟨trivial,⟨trivial,trivial⟩⟩)
theorem V168.cfgOk (B : Nat) : CfgOk (V168.cfg B) := cfgOk_of (by kernel_rfl) (by kernel_rfl) extNil
theorem V168.sound {a d : Int} {w : World} {R : Value → World → Prop} (h : V168.vc w.heap.size R a d w) : Calls Tryz.prog 168 ⟨[.int .u64 a,.int .u64 d]⟩ w fun e w' => ∃ v,e = .returned v ∧ R v w' :=
 calls_wpfP (c := V168.cfg w.heap.size) (fn := Tryz.f168) (x := V168.code) (V168.cuts w.heap.size R) V168.h (V168.cfgOk _) mixed Tryz.func168 (by kernel_rfl) (by kernel_rfl) (by kernel_rfl) rfl (V168.obl _ _) ((V168.vc_eq _ _ a d _).symm ▸ h)
def V133.vc (B : Nat) (R : Value → World → Prop) (a : Int) (w : World) : Prop :=
 CallK Tryz.prog 163 [.int .u64 a] B w [] fun v c => 
 ∃ d : Bool,v = .bool d ∧
 if d = true
 then (Ret B c (R (.int .u64 9221120237041090560)))
 else (Ret B c (R (.int .u64 (IntKind.wrap .u64 (((BitVec.ofInt 64 a ^^^ BitVec.ofInt 64 9223372036854775808).toNat : Nat) : Int)))))
noncomputable def V133.cfg (B : Nat) : Cfg := ⟨Tryz.prog,⟨7,B⟩,[],hasN [163],hasN [],look []⟩
noncomputable def V133.code : Code := (Tryz.f133.body).getD .skip
noncomputable def V133.cuts (B : Nat) (R : Value → World → Prop) : Nat → Cut := nthC []
noncomputable def V133.h : H := .s (.z) (.s (.s (.z) (.c (.s (.z) (.z)) (.z))) (.s (.z) (.z)))
theorem V133.vc_eq (B : Nat) (R : Value → World → Prop) (a : Int) (w : World) : wpf (V133.cfg B) (V133.cuts B R) V133.code V133.h [] (postOf Tryz.prog B (Tryz.f133.results.toList) R) (argE 0 [.int .u64 a]) [] w = V133.vc B R a w := by kernel_rfl
theorem V133.obl (B : Nat) (R : Value → World → Prop) : oblP (V133.cfg B) (V133.cuts B R) V133.code V133.h [] (postOf Tryz.prog B (Tryz.f133.results.toList) R) := by
 have e : oblP (V133.cfg B) (V133.cuts B R) V133.code V133.h [] (postOf Tryz.prog B (Tryz.f133.results.toList) R) = (True ∧ ((True ∧ ((True ∧ True) ∧ True)) ∧ (True ∧ True))) := by kernel_rfl
 exact e.mpr (⟨trivial,⟨⟨trivial,⟨⟨trivial,trivial⟩,trivial⟩⟩,⟨trivial,trivial⟩⟩⟩)
theorem V133.cfgOk (B : Nat) : CfgOk (V133.cfg B) := cfgOk_of (by kernel_rfl) (by kernel_rfl) extNil
theorem V133.sound {a : Int} {w : World} {R : Value → World → Prop} (h : V133.vc w.heap.size R a w) : Calls Tryz.prog 133 ⟨[.int .u64 a]⟩ w fun e w' => ∃ v,e = .returned v ∧ R v w' :=
 calls_wpfP (c := V133.cfg w.heap.size) (fn := Tryz.f133) (x := V133.code) (V133.cuts w.heap.size R) V133.h (V133.cfgOk _) mixed Tryz.func133 (by kernel_rfl) (by kernel_rfl) (by kernel_rfl) rfl (V133.obl _ _) ((V133.vc_eq _ _ a _).symm ▸ h)
def V134.vc (B : Nat) (R : Value → World → Prop) (a : Int) (w : World) : Prop :=
 CallK Tryz.prog 163 [.int .u64 a] B w [] fun v c => 
 ∃ d : Bool,v = .bool d ∧
 if d = true
 then (Ret B c (R (.int .u64 9221120237041090560)))
 else (CallK Tryz.prog 164 [.int .u64 a] B c [] fun f g => 
 ∃ i : Nat,f = .float .f64 i ∧
 CallK Tryz.prog 147 [.float .f64 i] B g [] fun j l => 
 ∃ m : Nat,j = .float .f64 m ∧
 CallK Tryz.prog 162 [.float .f64 m] B l [] fun n o => 
 ∃ p : Int,n = .int .u64 p ∧
 Ret B o (R (.int .u64 p)))
noncomputable def V134.cfg (B : Nat) : Cfg := ⟨Tryz.prog,⟨9,B⟩,[],hasN [147,162,163,164],hasN [],look []⟩
noncomputable def V134.code : Code := (Tryz.f134.body).getD .skip
noncomputable def V134.cuts (B : Nat) (R : Value → World → Prop) : Nat → Cut := nthC []
noncomputable def V134.h : H := .s (.z) (.s (.s (.z) (.c (.s (.z) (.z)) (.z))) (.s (.z) (.z)))
theorem V134.vc_eq (B : Nat) (R : Value → World → Prop) (a : Int) (w : World) : wpf (V134.cfg B) (V134.cuts B R) V134.code V134.h [] (postOf Tryz.prog B (Tryz.f134.results.toList) R) (argE 0 [.int .u64 a]) [] w = V134.vc B R a w := by kernel_rfl
theorem V134.obl (B : Nat) (R : Value → World → Prop) : oblP (V134.cfg B) (V134.cuts B R) V134.code V134.h [] (postOf Tryz.prog B (Tryz.f134.results.toList) R) := by
 have e : oblP (V134.cfg B) (V134.cuts B R) V134.code V134.h [] (postOf Tryz.prog B (Tryz.f134.results.toList) R) = (True ∧ ((True ∧ ((True ∧ True) ∧ True)) ∧ (True ∧ True))) := by kernel_rfl
 exact e.mpr (⟨trivial,⟨⟨trivial,⟨⟨trivial,trivial⟩,trivial⟩⟩,⟨trivial,trivial⟩⟩⟩)
theorem V134.cfgOk (B : Nat) : CfgOk (V134.cfg B) := cfgOk_of (by kernel_rfl) (by kernel_rfl) extNil
theorem V134.sound {a : Int} {w : World} {R : Value → World → Prop} (h : V134.vc w.heap.size R a w) : Calls Tryz.prog 134 ⟨[.int .u64 a]⟩ w fun e w' => ∃ v,e = .returned v ∧ R v w' :=
 calls_wpfP (c := V134.cfg w.heap.size) (fn := Tryz.f134) (x := V134.code) (V134.cuts w.heap.size R) V134.h (V134.cfgOk _) mixed Tryz.func134 (by kernel_rfl) (by kernel_rfl) (by kernel_rfl) rfl (V134.obl _ _) ((V134.vc_eq _ _ a _).symm ▸ h)
def V169.vc (B : Nat) (R : Value → World → Prop) (a c : Int) (w : World) : Prop :=
 CallK Tryz.prog 163 [.int .u64 a] B w [] fun v d => 
 ∃ f : Bool,v = .bool f ∧
 if f = false
 then (CallK Tryz.prog 163 [.int .u64 c] B d [] fun g i => 
 ∃ j : Bool,g = .bool j ∧
 if j = true
 then (Ret B i (R (.int .u64 9221120237041090560)))
 else (CallK Tryz.prog 183 [.int .u64 c] B i [] fun l m => 
 ∃ n : Int,l = .int .u64 n ∧
 CallK Tryz.prog 183 [.int .u64 a] B m [] fun o p => 
 ∃ q : Int,o = .int .u64 q ∧
 if (decide (n < q)) = true
 then (Ret B p (R (.int .u64 c)))
 else (Ret B p (R (.int .u64 a)))))
 else (Ret B d (R (.int .u64 9221120237041090560)))
noncomputable def V169.cfg (B : Nat) : Cfg := ⟨Tryz.prog,⟨18,B⟩,[],hasN [163,183],hasN [],look []⟩
noncomputable def V169.code : Code := (Tryz.f169.body).getD .skip
noncomputable def V169.cuts (B : Nat) (R : Value → World → Prop) : Nat → Cut := nthC []
noncomputable def V169.h : H := .s (.z) (.s (.s (.z) (.c (.s (.z) (.z)) (.z))) (.s (.s (.z) (.c (.s (.z) (.z)) (.z))) (.s (.z) (.z))))
theorem V169.vc_eq (B : Nat) (R : Value → World → Prop) (a c : Int) (w : World) : wpf (V169.cfg B) (V169.cuts B R) V169.code V169.h [] (postOf Tryz.prog B (Tryz.f169.results.toList) R) (argE 0 [.int .u64 a,.int .u64 c]) [] w = V169.vc B R a c w := by kernel_rfl
theorem V169.obl (B : Nat) (R : Value → World → Prop) : oblP (V169.cfg B) (V169.cuts B R) V169.code V169.h [] (postOf Tryz.prog B (Tryz.f169.results.toList) R) := by
 have e : oblP (V169.cfg B) (V169.cuts B R) V169.code V169.h [] (postOf Tryz.prog B (Tryz.f169.results.toList) R) = (True ∧ ((True ∧ ((True ∧ True) ∧ True)) ∧ ((True ∧ ((True ∧ True) ∧ True)) ∧ (True ∧ True)))) := by kernel_rfl
 exact e.mpr (⟨trivial,⟨⟨trivial,⟨⟨trivial,trivial⟩,trivial⟩⟩,⟨⟨trivial,⟨⟨trivial,trivial⟩,trivial⟩⟩,⟨trivial,trivial⟩⟩⟩⟩)
theorem V169.cfgOk (B : Nat) : CfgOk (V169.cfg B) := cfgOk_of (by kernel_rfl) (by kernel_rfl) extNil
theorem V169.sound {a d : Int} {w : World} {R : Value → World → Prop} (h : V169.vc w.heap.size R a d w) : Calls Tryz.prog 169 ⟨[.int .u64 a,.int .u64 d]⟩ w fun e w' => ∃ v,e = .returned v ∧ R v w' :=
 calls_wpfP (c := V169.cfg w.heap.size) (fn := Tryz.f169) (x := V169.code) (V169.cuts w.heap.size R) V169.h (V169.cfgOk _) mixed Tryz.func169 (by kernel_rfl) (by kernel_rfl) (by kernel_rfl) rfl (V169.obl _ _) ((V169.vc_eq _ _ a d _).symm ▸ h)
def V170.vc (B : Nat) (R : Value → World → Prop) (a c : Int) (w : World) : Prop :=
 CallK Tryz.prog 163 [.int .u64 a] B w [] fun v d => 
 ∃ f : Bool,v = .bool f ∧
 if f = false
 then (CallK Tryz.prog 163 [.int .u64 c] B d [] fun g i => 
 ∃ j : Bool,g = .bool j ∧
 if j = true
 then (Ret B i (R (.int .u64 9221120237041090560)))
 else (CallK Tryz.prog 183 [.int .u64 c] B i [] fun l m => 
 ∃ n : Int,l = .int .u64 n ∧
 CallK Tryz.prog 183 [.int .u64 a] B m [] fun o p => 
 ∃ q : Int,o = .int .u64 q ∧
 if (decide (n > q)) = true
 then (Ret B p (R (.int .u64 c)))
 else (Ret B p (R (.int .u64 a)))))
 else (Ret B d (R (.int .u64 9221120237041090560)))
noncomputable def V170.cfg (B : Nat) : Cfg := ⟨Tryz.prog,⟨18,B⟩,[],hasN [163,183],hasN [],look []⟩
noncomputable def V170.code : Code := (Tryz.f170.body).getD .skip
noncomputable def V170.cuts (B : Nat) (R : Value → World → Prop) : Nat → Cut := nthC []
noncomputable def V170.h : H := .s (.z) (.s (.s (.z) (.c (.s (.z) (.z)) (.z))) (.s (.s (.z) (.c (.s (.z) (.z)) (.z))) (.s (.z) (.z))))
theorem V170.vc_eq (B : Nat) (R : Value → World → Prop) (a c : Int) (w : World) : wpf (V170.cfg B) (V170.cuts B R) V170.code V170.h [] (postOf Tryz.prog B (Tryz.f170.results.toList) R) (argE 0 [.int .u64 a,.int .u64 c]) [] w = V170.vc B R a c w := by kernel_rfl
theorem V170.obl (B : Nat) (R : Value → World → Prop) : oblP (V170.cfg B) (V170.cuts B R) V170.code V170.h [] (postOf Tryz.prog B (Tryz.f170.results.toList) R) := by
 have e : oblP (V170.cfg B) (V170.cuts B R) V170.code V170.h [] (postOf Tryz.prog B (Tryz.f170.results.toList) R) = (True ∧ ((True ∧ ((True ∧ True) ∧ True)) ∧ ((True ∧ ((True ∧ True) ∧ True)) ∧ (True ∧ True)))) := by kernel_rfl
 exact e.mpr (⟨trivial,⟨⟨trivial,⟨⟨trivial,trivial⟩,trivial⟩⟩,⟨⟨trivial,⟨⟨trivial,trivial⟩,trivial⟩⟩,⟨trivial,trivial⟩⟩⟩⟩)
theorem V170.cfgOk (B : Nat) : CfgOk (V170.cfg B) := cfgOk_of (by kernel_rfl) (by kernel_rfl) extNil
theorem V170.sound {a d : Int} {w : World} {R : Value → World → Prop} (h : V170.vc w.heap.size R a d w) : Calls Tryz.prog 170 ⟨[.int .u64 a,.int .u64 d]⟩ w fun e w' => ∃ v,e = .returned v ∧ R v w' :=
 calls_wpfP (c := V170.cfg w.heap.size) (fn := Tryz.f170) (x := V170.code) (V170.cuts w.heap.size R) V170.h (V170.cfgOk _) mixed Tryz.func170 (by kernel_rfl) (by kernel_rfl) (by kernel_rfl) rfl (V170.obl _ _) ((V170.vc_eq _ _ a d _).symm ▸ h)
def V171.vc (B : Nat) (R : Value → World → Prop) (a c : Int) (w : World) : Prop :=
 CallK Tryz.prog 164 [.int .u64 a] B w [] fun v d => 
 ∃ f : Nat,v = .float .f64 f ∧
 CallK Tryz.prog 164 [.int .u64 c] B d [] fun g i => 
 ∃ j : Nat,g = .float .f64 j ∧
 Ret B i (R (.bool (FloatKind.f64.format.order f j == some .lt)))
noncomputable def V171.cfg (B : Nat) : Cfg := ⟨Tryz.prog,⟨10,B⟩,[],hasN [164],hasN [],look []⟩
noncomputable def V171.code : Code := (Tryz.f171.body).getD .skip
noncomputable def V171.cuts (B : Nat) (R : Value → World → Prop) : Nat → Cut := nthC []
noncomputable def V171.h : H := .s (.z) (.s (.z) (.z))
theorem V171.vc_eq (B : Nat) (R : Value → World → Prop) (a c : Int) (w : World) : wpf (V171.cfg B) (V171.cuts B R) V171.code V171.h [] (postOf Tryz.prog B (Tryz.f171.results.toList) R) (argE 0 [.int .u64 a,.int .u64 c]) [] w = V171.vc B R a c w := by kernel_rfl
theorem V171.obl (B : Nat) (R : Value → World → Prop) : oblP (V171.cfg B) (V171.cuts B R) V171.code V171.h [] (postOf Tryz.prog B (Tryz.f171.results.toList) R) := by
 have e : oblP (V171.cfg B) (V171.cuts B R) V171.code V171.h [] (postOf Tryz.prog B (Tryz.f171.results.toList) R) = (True ∧ (True ∧ True)) := by kernel_rfl
 exact e.mpr (⟨trivial,⟨trivial,trivial⟩⟩)
theorem V171.cfgOk (B : Nat) : CfgOk (V171.cfg B) := cfgOk_of (by kernel_rfl) (by kernel_rfl) extNil
theorem V171.sound {a d : Int} {w : World} {R : Value → World → Prop} (h : V171.vc w.heap.size R a d w) : Calls Tryz.prog 171 ⟨[.int .u64 a,.int .u64 d]⟩ w fun e w' => ∃ v,e = .returned v ∧ R v w' :=
 calls_wpfP (c := V171.cfg w.heap.size) (fn := Tryz.f171) (x := V171.code) (V171.cuts w.heap.size R) V171.h (V171.cfgOk _) mixed Tryz.func171 (by kernel_rfl) (by kernel_rfl) (by kernel_rfl) rfl (V171.obl _ _) ((V171.vc_eq _ _ a d _).symm ▸ h)
def V172.vc (B : Nat) (R : Value → World → Prop) (a c : Int) (w : World) : Prop :=
 CallK Tryz.prog 164 [.int .u64 a] B w [] fun v d => 
 ∃ f : Nat,v = .float .f64 f ∧
 CallK Tryz.prog 164 [.int .u64 c] B d [] fun g i => 
 ∃ j : Nat,g = .float .f64 j ∧
 Ret B i (R (.bool (FloatKind.f64.format.order f j == some .eq)))
noncomputable def V172.cfg (B : Nat) : Cfg := ⟨Tryz.prog,⟨10,B⟩,[],hasN [164],hasN [],look []⟩
noncomputable def V172.code : Code := (Tryz.f172.body).getD .skip
noncomputable def V172.cuts (B : Nat) (R : Value → World → Prop) : Nat → Cut := nthC []
noncomputable def V172.h : H := .s (.z) (.s (.z) (.z))
theorem V172.vc_eq (B : Nat) (R : Value → World → Prop) (a c : Int) (w : World) : wpf (V172.cfg B) (V172.cuts B R) V172.code V172.h [] (postOf Tryz.prog B (Tryz.f172.results.toList) R) (argE 0 [.int .u64 a,.int .u64 c]) [] w = V172.vc B R a c w := by kernel_rfl
theorem V172.obl (B : Nat) (R : Value → World → Prop) : oblP (V172.cfg B) (V172.cuts B R) V172.code V172.h [] (postOf Tryz.prog B (Tryz.f172.results.toList) R) := by
 have e : oblP (V172.cfg B) (V172.cuts B R) V172.code V172.h [] (postOf Tryz.prog B (Tryz.f172.results.toList) R) = (True ∧ (True ∧ True)) := by kernel_rfl
 exact e.mpr (⟨trivial,⟨trivial,trivial⟩⟩)
theorem V172.cfgOk (B : Nat) : CfgOk (V172.cfg B) := cfgOk_of (by kernel_rfl) (by kernel_rfl) extNil
theorem V172.sound {a d : Int} {w : World} {R : Value → World → Prop} (h : V172.vc w.heap.size R a d w) : Calls Tryz.prog 172 ⟨[.int .u64 a,.int .u64 d]⟩ w fun e w' => ∃ v,e = .returned v ∧ R v w' :=
 calls_wpfP (c := V172.cfg w.heap.size) (fn := Tryz.f172) (x := V172.code) (V172.cuts w.heap.size R) V172.h (V172.cfgOk _) mixed Tryz.func172 (by kernel_rfl) (by kernel_rfl) (by kernel_rfl) rfl (V172.obl _ _) ((V172.vc_eq _ _ a d _).symm ▸ h)
def V135.vc (B : Nat) (R : Value → World → Prop) (a : Int) (w : World) : Prop :=
 (0 : Int) ≤ 1 ∧
 Ret B w (R (.bool (IntKind.wrap .u64 (a * 2 ^ min 1 64) != 0)))
noncomputable def V135.cfg (B : Nat) : Cfg := ⟨Tryz.prog,⟨6,B⟩,[],hasN [],hasN [],look []⟩
noncomputable def V135.code : Code := (Tryz.f135.body).getD .skip
noncomputable def V135.cuts (B : Nat) (R : Value → World → Prop) : Nat → Cut := nthC []
noncomputable def V135.h : H := .s (.z) (.s (.z) (.z))
theorem V135.vc_eq (B : Nat) (R : Value → World → Prop) (a : Int) (w : World) : wpf (V135.cfg B) (V135.cuts B R) V135.code V135.h [] (postOf Tryz.prog B (Tryz.f135.results.toList) R) (argE 0 [.int .u64 a]) [] w = V135.vc B R a w := by kernel_rfl
theorem V135.obl (B : Nat) (R : Value → World → Prop) : oblP (V135.cfg B) (V135.cuts B R) V135.code V135.h [] (postOf Tryz.prog B (Tryz.f135.results.toList) R) := by
 have e : oblP (V135.cfg B) (V135.cuts B R) V135.code V135.h [] (postOf Tryz.prog B (Tryz.f135.results.toList) R) = (True ∧ (True ∧ True)) := by kernel_rfl
 exact e.mpr (⟨trivial,⟨trivial,trivial⟩⟩)
theorem V135.cfgOk (B : Nat) : CfgOk (V135.cfg B) := cfgOk_of (by kernel_rfl) (by kernel_rfl) extNil
theorem V135.sound {a : Int} {w : World} {R : Value → World → Prop} (h : V135.vc w.heap.size R a w) : Calls Tryz.prog 135 ⟨[.int .u64 a]⟩ w fun e w' => ∃ v,e = .returned v ∧ R v w' :=
 calls_wpfP (c := V135.cfg w.heap.size) (fn := Tryz.f135) (x := V135.code) (V135.cuts w.heap.size R) V135.h (V135.cfgOk _) mixed Tryz.func135 (by kernel_rfl) (by kernel_rfl) (by kernel_rfl) rfl (V135.obl _ _) ((V135.vc_eq _ _ a _).symm ▸ h)
def V183.vc (B : Nat) (R : Value → World → Prop) (a : Int) (w : World) : Prop :=
 (0 : Int) ≤ 63 ∧
 if (Int.fdiv a (2 ^ min 63 64) == 1) = true
 then (Ret B w (R (.int .u64 (IntKind.wrap .u64 (((BitVec.ofInt 64 18446744073709551615 ^^^ BitVec.ofInt 64 a).toNat : Nat) : Int)))))
 else (Ret B w (R (.int .u64 (IntKind.wrap .u64 (((BitVec.ofInt 64 a ||| BitVec.ofInt 64 9223372036854775808).toNat : Nat) : Int)))))
noncomputable def V183.cfg (B : Nat) : Cfg := ⟨Tryz.prog,⟨10,B⟩,[],hasN [],hasN [],look []⟩
noncomputable def V183.code : Code := (Tryz.f183.body).getD .skip
noncomputable def V183.cuts (B : Nat) (R : Value → World → Prop) : Nat → Cut := nthC []
noncomputable def V183.h : H := .s (.z) (.s (.s (.z) (.c (.s (.z) (.z)) (.z))) (.s (.z) (.z)))
theorem V183.vc_eq (B : Nat) (R : Value → World → Prop) (a : Int) (w : World) : wpf (V183.cfg B) (V183.cuts B R) V183.code V183.h [] (postOf Tryz.prog B (Tryz.f183.results.toList) R) (argE 0 [.int .u64 a]) [] w = V183.vc B R a w := by kernel_rfl
theorem V183.obl (B : Nat) (R : Value → World → Prop) : oblP (V183.cfg B) (V183.cuts B R) V183.code V183.h [] (postOf Tryz.prog B (Tryz.f183.results.toList) R) := by
 have e : oblP (V183.cfg B) (V183.cuts B R) V183.code V183.h [] (postOf Tryz.prog B (Tryz.f183.results.toList) R) = (True ∧ ((True ∧ ((True ∧ True) ∧ True)) ∧ (True ∧ True))) := by kernel_rfl
 exact e.mpr (⟨trivial,⟨⟨trivial,⟨⟨trivial,trivial⟩,trivial⟩⟩,⟨trivial,trivial⟩⟩⟩)
theorem V183.cfgOk (B : Nat) : CfgOk (V183.cfg B) := cfgOk_of (by kernel_rfl) (by kernel_rfl) extNil
theorem V183.sound {a : Int} {w : World} {R : Value → World → Prop} (h : V183.vc w.heap.size R a w) : Calls Tryz.prog 183 ⟨[.int .u64 a]⟩ w fun e w' => ∃ v,e = .returned v ∧ R v w' :=
 calls_wpfP (c := V183.cfg w.heap.size) (fn := Tryz.f183) (x := V183.code) (V183.cuts w.heap.size R) V183.h (V183.cfgOk _) mixed Tryz.func183 (by kernel_rfl) (by kernel_rfl) (by kernel_rfl) rfl (V183.obl _ _) ((V183.vc_eq _ _ a _).symm ▸ h)
def V125.vc (B : Nat) (R : Value → World → Prop) (a : Nat) (w : World) : Prop :=
 Ret B w (R (.bool (FloatKind.f64.format.order a a != some .eq)))
noncomputable def V125.cfg (B : Nat) : Cfg := ⟨Tryz.prog,⟨6,B⟩,[],hasN [],hasN [],look []⟩
noncomputable def V125.code : Code := (Tryz.f125.body).getD .skip
noncomputable def V125.cuts (B : Nat) (R : Value → World → Prop) : Nat → Cut := nthC []
noncomputable def V125.h : H := .s (.z) (.s (.z) (.z))
theorem V125.vc_eq (B : Nat) (R : Value → World → Prop) (a : Nat) (w : World) : wpf (V125.cfg B) (V125.cuts B R) V125.code V125.h [] (postOf Tryz.prog B (Tryz.f125.results.toList) R) (argE 0 [.float .f64 a]) [] w = V125.vc B R a w := by kernel_rfl
theorem V125.obl (B : Nat) (R : Value → World → Prop) : oblP (V125.cfg B) (V125.cuts B R) V125.code V125.h [] (postOf Tryz.prog B (Tryz.f125.results.toList) R) := by
 have e : oblP (V125.cfg B) (V125.cuts B R) V125.code V125.h [] (postOf Tryz.prog B (Tryz.f125.results.toList) R) = (True ∧ (True ∧ True)) := by kernel_rfl
 exact e.mpr (⟨trivial,⟨trivial,trivial⟩⟩)
theorem V125.cfgOk (B : Nat) : CfgOk (V125.cfg B) := cfgOk_of (by kernel_rfl) (by kernel_rfl) extNil
theorem V125.sound {a : Nat} {w : World} {R : Value → World → Prop} (h : V125.vc w.heap.size R a w) : Calls Tryz.prog 125 ⟨[.float .f64 a]⟩ w fun e w' => ∃ v,e = .returned v ∧ R v w' :=
 calls_wpfP (c := V125.cfg w.heap.size) (fn := Tryz.f125) (x := V125.code) (V125.cuts w.heap.size R) V125.h (V125.cfgOk _) mixed Tryz.func125 (by kernel_rfl) (by kernel_rfl) (by kernel_rfl) rfl (V125.obl _ _) ((V125.vc_eq _ _ a _).symm ▸ h)
def V163.vc (B : Nat) (R : Value → World → Prop) (a : Int) (w : World) : Prop :=
 Ret B w (R (.bool (decide (IntKind.wrap .u64 (((BitVec.ofInt 64 a &&& BitVec.ofInt 64 9223372036854775807).toNat : Nat) : Int) > 9218868437227405312))))
noncomputable def V163.cfg (B : Nat) : Cfg := ⟨Tryz.prog,⟨6,B⟩,[],hasN [],hasN [],look []⟩
noncomputable def V163.code : Code := (Tryz.f163.body).getD .skip
noncomputable def V163.cuts (B : Nat) (R : Value → World → Prop) : Nat → Cut := nthC []
noncomputable def V163.h : H := .s (.z) (.s (.z) (.z))
theorem V163.vc_eq (B : Nat) (R : Value → World → Prop) (a : Int) (w : World) : wpf (V163.cfg B) (V163.cuts B R) V163.code V163.h [] (postOf Tryz.prog B (Tryz.f163.results.toList) R) (argE 0 [.int .u64 a]) [] w = V163.vc B R a w := by kernel_rfl
theorem V163.obl (B : Nat) (R : Value → World → Prop) : oblP (V163.cfg B) (V163.cuts B R) V163.code V163.h [] (postOf Tryz.prog B (Tryz.f163.results.toList) R) := by
 have e : oblP (V163.cfg B) (V163.cuts B R) V163.code V163.h [] (postOf Tryz.prog B (Tryz.f163.results.toList) R) = (True ∧ (True ∧ True)) := by kernel_rfl
 exact e.mpr (⟨trivial,⟨trivial,trivial⟩⟩)
theorem V163.cfgOk (B : Nat) : CfgOk (V163.cfg B) := cfgOk_of (by kernel_rfl) (by kernel_rfl) extNil
theorem V163.sound {a : Int} {w : World} {R : Value → World → Prop} (h : V163.vc w.heap.size R a w) : Calls Tryz.prog 163 ⟨[.int .u64 a]⟩ w fun e w' => ∃ v,e = .returned v ∧ R v w' :=
 calls_wpfP (c := V163.cfg w.heap.size) (fn := Tryz.f163) (x := V163.code) (V163.cuts w.heap.size R) V163.h (V163.cfgOk _) mixed Tryz.func163 (by kernel_rfl) (by kernel_rfl) (by kernel_rfl) rfl (V163.obl _ _) ((V163.vc_eq _ _ a _).symm ▸ h)
def V147.vc (B : Nat) (R : Value → World → Prop) (a : Nat) (w : World) : Prop :=
 RunK Tryz.prog (V178.ext [.float .f64 a]) B w [] fun v c => 
 ∃ d : Nat,v = .float .f64 d ∧
 Ret B c (R (.float .f64 d))
noncomputable def V147.cfg (B : Nat) : Cfg := ⟨Tryz.prog,⟨7,B⟩,[],hasN [],hasN [],look [(178,V178.ext)]⟩
noncomputable def V147.code : Code := (Tryz.f147.body).getD .skip
noncomputable def V147.cuts (B : Nat) (R : Value → World → Prop) : Nat → Cut := nthC []
noncomputable def V147.h : H := .s (.z) (.s (.c (.s (.z) (.z)) (.z)) (.s (.z) (.z)))
theorem V147.vc_eq (B : Nat) (R : Value → World → Prop) (a : Nat) (w : World) : wpf (V147.cfg B) (V147.cuts B R) V147.code V147.h [] (postOf Tryz.prog B (Tryz.f147.results.toList) R) (argE 0 [.float .f64 a]) [] w = V147.vc B R a w := by kernel_rfl
theorem V147.obl (B : Nat) (R : Value → World → Prop) : oblP (V147.cfg B) (V147.cuts B R) V147.code V147.h [] (postOf Tryz.prog B (Tryz.f147.results.toList) R) := by
 have e : oblP (V147.cfg B) (V147.cuts B R) V147.code V147.h [] (postOf Tryz.prog B (Tryz.f147.results.toList) R) = (True ∧ (((True ∧ True) ∧ True) ∧ (True ∧ True))) := by kernel_rfl
 exact e.mpr (⟨trivial,⟨⟨⟨trivial,trivial⟩,trivial⟩,⟨trivial,trivial⟩⟩⟩)
theorem V147.cfgOk (B : Nat) : CfgOk (V147.cfg B) := cfgOk_of (by kernel_rfl) (by kernel_rfl) (extCons V178.extOk extNil)
theorem V147.sound {a : Nat} {w : World} {R : Value → World → Prop} (h : V147.vc w.heap.size R a w) : Calls Tryz.prog 147 ⟨[.float .f64 a]⟩ w fun e w' => ∃ v,e = .returned v ∧ R v w' :=
 calls_wpfP (c := V147.cfg w.heap.size) (fn := Tryz.f147) (x := V147.code) (V147.cuts w.heap.size R) V147.h (V147.cfgOk _) mixed Tryz.func147 (by kernel_rfl) (by kernel_rfl) (by kernel_rfl) rfl (V147.obl _ _) ((V147.vc_eq _ _ a _).symm ▸ h)
def V181.vc (B : Nat) (R : Value → World → Prop) (a c : Nat) (w : World) : Prop :=
 RunK Tryz.prog (V186.ext [.float .f64 a,.float .f64 c]) B w [] fun v d => 
 ∃ f : Nat,v = .float .f64 f ∧
 Ret B d (R (.float .f64 f))
noncomputable def V181.cfg (B : Nat) : Cfg := ⟨Tryz.prog,⟨11,B⟩,[],hasN [],hasN [],look [(186,V186.ext)]⟩
noncomputable def V181.code : Code := (Tryz.f181.body).getD .skip
noncomputable def V181.cuts (B : Nat) (R : Value → World → Prop) : Nat → Cut := nthC []
noncomputable def V181.h : H := .s (.z) (.s (.c (.s (.z) (.z)) (.z)) (.s (.z) (.z)))
theorem V181.vc_eq (B : Nat) (R : Value → World → Prop) (a c : Nat) (w : World) : wpf (V181.cfg B) (V181.cuts B R) V181.code V181.h [] (postOf Tryz.prog B (Tryz.f181.results.toList) R) (argE 0 [.float .f64 a,.float .f64 c]) [] w = V181.vc B R a c w := by kernel_rfl
theorem V181.obl (B : Nat) (R : Value → World → Prop) : oblP (V181.cfg B) (V181.cuts B R) V181.code V181.h [] (postOf Tryz.prog B (Tryz.f181.results.toList) R) := by
 have e : oblP (V181.cfg B) (V181.cuts B R) V181.code V181.h [] (postOf Tryz.prog B (Tryz.f181.results.toList) R) = (True ∧ (((True ∧ True) ∧ True) ∧ (True ∧ True))) := by kernel_rfl
 exact e.mpr (⟨trivial,⟨⟨⟨trivial,trivial⟩,trivial⟩,⟨trivial,trivial⟩⟩⟩)
theorem V181.cfgOk (B : Nat) : CfgOk (V181.cfg B) := cfgOk_of (by kernel_rfl) (by kernel_rfl) (extCons V186.extOk extNil)
theorem V181.sound {a d : Nat} {w : World} {R : Value → World → Prop} (h : V181.vc w.heap.size R a d w) : Calls Tryz.prog 181 ⟨[.float .f64 a,.float .f64 d]⟩ w fun e w' => ∃ v,e = .returned v ∧ R v w' :=
 calls_wpfP (c := V181.cfg w.heap.size) (fn := Tryz.f181) (x := V181.code) (V181.cuts w.heap.size R) V181.h (V181.cfgOk _) mixed Tryz.func181 (by kernel_rfl) (by kernel_rfl) (by kernel_rfl) rfl (V181.obl _ _) ((V181.vc_eq _ _ a d _).symm ▸ h)
def V182.vc (B : Nat) (R : Value → World → Prop) (a c : Nat) (w : World) : Prop :=
 RunK Tryz.prog (V188.ext [.float .f64 a,.float .f64 c]) B w [] fun v d => 
 ∃ f : Nat,v = .float .f64 f ∧
 Ret B d (R (.float .f64 f))
noncomputable def V182.cfg (B : Nat) : Cfg := ⟨Tryz.prog,⟨11,B⟩,[],hasN [],hasN [],look [(188,V188.ext)]⟩
noncomputable def V182.code : Code := (Tryz.f182.body).getD .skip
noncomputable def V182.cuts (B : Nat) (R : Value → World → Prop) : Nat → Cut := nthC []
noncomputable def V182.h : H := .s (.z) (.s (.c (.s (.z) (.z)) (.z)) (.s (.z) (.z)))
theorem V182.vc_eq (B : Nat) (R : Value → World → Prop) (a c : Nat) (w : World) : wpf (V182.cfg B) (V182.cuts B R) V182.code V182.h [] (postOf Tryz.prog B (Tryz.f182.results.toList) R) (argE 0 [.float .f64 a,.float .f64 c]) [] w = V182.vc B R a c w := by kernel_rfl
theorem V182.obl (B : Nat) (R : Value → World → Prop) : oblP (V182.cfg B) (V182.cuts B R) V182.code V182.h [] (postOf Tryz.prog B (Tryz.f182.results.toList) R) := by
 have e : oblP (V182.cfg B) (V182.cuts B R) V182.code V182.h [] (postOf Tryz.prog B (Tryz.f182.results.toList) R) = (True ∧ (((True ∧ True) ∧ True) ∧ (True ∧ True))) := by kernel_rfl
 exact e.mpr (⟨trivial,⟨⟨⟨trivial,trivial⟩,trivial⟩,⟨trivial,trivial⟩⟩⟩)
theorem V182.cfgOk (B : Nat) : CfgOk (V182.cfg B) := cfgOk_of (by kernel_rfl) (by kernel_rfl) (extCons V188.extOk extNil)
theorem V182.sound {a d : Nat} {w : World} {R : Value → World → Prop} (h : V182.vc w.heap.size R a d w) : Calls Tryz.prog 182 ⟨[.float .f64 a,.float .f64 d]⟩ w fun e w' => ∃ v,e = .returned v ∧ R v w' :=
 calls_wpfP (c := V182.cfg w.heap.size) (fn := Tryz.f182) (x := V182.code) (V182.cuts w.heap.size R) V182.h (V182.cfgOk _) mixed Tryz.func182 (by kernel_rfl) (by kernel_rfl) (by kernel_rfl) rfl (V182.obl _ _) ((V182.vc_eq _ _ a d _).symm ▸ h)
def V180a.vc (B : Nat) (R : Value → World → Prop) (a c : Int) (w : World) : Prop :=
 CallK Tryz.prog 146 [.int .u64 a] B w [] fun v d => 
 ∃ f : Nat,v = .float .f64 f ∧
 CallK Tryz.prog 146 [.int .u64 c] B d [] fun g i => 
 ∃ j : Nat,g = .float .f64 j ∧
 CallK Tryz.prog 125 [.float .f64 f] B i [] fun l m => 
 ∃ n : Bool,l = .bool n ∧
 if n = false
 then (CallK Tryz.prog 125 [.float .f64 j] B m [] fun o p => 
 ∃ q : Bool,o = .bool q ∧
 if q = true
 then (Ret B p (R (.int .u64 9221120237041090560)))
 else (CallK Tryz.prog 181 [.float .f64 f,.float .f64 j] B p [] fun r s => 
 ∃ t : Nat,r = .float .f64 t ∧
 CallK Tryz.prog 80 [.float .f64 t] B s [] fun u x => 
 ∃ y : Int,u = .int .u64 y ∧
 Ret B x (R (.int .u64 y))))
 else (Ret B m (R (.int .u64 9221120237041090560)))
noncomputable def V180a.cfg (B : Nat) : Cfg := ⟨Tryz.prog,⟨24,B⟩,[],hasN [80,125,146,181],hasN [],look []⟩
noncomputable def V180a.code : Code := (Tryz.f180.body).getD .skip
noncomputable def V180a.cuts (B : Nat) (R : Value → World → Prop) : Nat → Cut := nthC []
noncomputable def V180a.h : H := .s (.z) (.s (.z) (.s (.s (.z) (.c (.s (.z) (.z)) (.z))) (.s (.z) (.z))))
theorem V180a.vc_eq (B : Nat) (R : Value → World → Prop) (a c : Int) (w : World) : wpf (V180a.cfg B) (V180a.cuts B R) V180a.code V180a.h [] (postOf Tryz.prog B (Tryz.f180.results.toList) R) (argE 0 [.int .u64 a,.int .u64 c,.func (.func 181) #[] #[]]) [] w = V180a.vc B R a c w := by kernel_rfl
theorem V180a.obl (B : Nat) (R : Value → World → Prop) : oblP (V180a.cfg B) (V180a.cuts B R) V180a.code V180a.h [] (postOf Tryz.prog B (Tryz.f180.results.toList) R) := by
 have e : oblP (V180a.cfg B) (V180a.cuts B R) V180a.code V180a.h [] (postOf Tryz.prog B (Tryz.f180.results.toList) R) = (True ∧ (True ∧ ((True ∧ ((True ∧ True) ∧ True)) ∧ (True ∧ True)))) := by kernel_rfl
 exact e.mpr (⟨trivial,⟨trivial,⟨⟨trivial,⟨⟨trivial,trivial⟩,trivial⟩⟩,⟨trivial,trivial⟩⟩⟩⟩)
theorem V180a.cfgOk (B : Nat) : CfgOk (V180a.cfg B) := cfgOk_of (by kernel_rfl) (by kernel_rfl) extNil
theorem V180a.sound {a d : Int} {w : World} {R : Value → World → Prop} (h : V180a.vc w.heap.size R a d w) : Calls Tryz.prog 180 ⟨[.int .u64 a,.int .u64 d,.func (.func 181) #[] #[]]⟩ w fun e w' => ∃ v,e = .returned v ∧ R v w' :=
 calls_wpfP (c := V180a.cfg w.heap.size) (fn := Tryz.f180) (x := V180a.code) (V180a.cuts w.heap.size R) V180a.h (V180a.cfgOk _) mixed Tryz.func180 (by kernel_rfl) (by kernel_rfl) (by kernel_rfl) rfl (V180a.obl _ _) ((V180a.vc_eq _ _ a d _).symm ▸ h)
def V180b.vc (B : Nat) (R : Value → World → Prop) (a c : Int) (w : World) : Prop :=
 CallK Tryz.prog 146 [.int .u64 a] B w [] fun v d => 
 ∃ f : Nat,v = .float .f64 f ∧
 CallK Tryz.prog 146 [.int .u64 c] B d [] fun g i => 
 ∃ j : Nat,g = .float .f64 j ∧
 CallK Tryz.prog 125 [.float .f64 f] B i [] fun l m => 
 ∃ n : Bool,l = .bool n ∧
 if n = false
 then (CallK Tryz.prog 125 [.float .f64 j] B m [] fun o p => 
 ∃ q : Bool,o = .bool q ∧
 if q = true
 then (Ret B p (R (.int .u64 9221120237041090560)))
 else (CallK Tryz.prog 182 [.float .f64 f,.float .f64 j] B p [] fun r s => 
 ∃ t : Nat,r = .float .f64 t ∧
 CallK Tryz.prog 80 [.float .f64 t] B s [] fun u x => 
 ∃ y : Int,u = .int .u64 y ∧
 Ret B x (R (.int .u64 y))))
 else (Ret B m (R (.int .u64 9221120237041090560)))
noncomputable def V180b.cfg (B : Nat) : Cfg := ⟨Tryz.prog,⟨24,B⟩,[],hasN [80,125,146,182],hasN [],look []⟩
noncomputable def V180b.code : Code := (Tryz.f180.body).getD .skip
noncomputable def V180b.cuts (B : Nat) (R : Value → World → Prop) : Nat → Cut := nthC []
noncomputable def V180b.h : H := .s (.z) (.s (.z) (.s (.s (.z) (.c (.s (.z) (.z)) (.z))) (.s (.z) (.z))))
theorem V180b.vc_eq (B : Nat) (R : Value → World → Prop) (a c : Int) (w : World) : wpf (V180b.cfg B) (V180b.cuts B R) V180b.code V180b.h [] (postOf Tryz.prog B (Tryz.f180.results.toList) R) (argE 0 [.int .u64 a,.int .u64 c,.func (.func 182) #[] #[]]) [] w = V180b.vc B R a c w := by kernel_rfl
theorem V180b.obl (B : Nat) (R : Value → World → Prop) : oblP (V180b.cfg B) (V180b.cuts B R) V180b.code V180b.h [] (postOf Tryz.prog B (Tryz.f180.results.toList) R) := by
 have e : oblP (V180b.cfg B) (V180b.cuts B R) V180b.code V180b.h [] (postOf Tryz.prog B (Tryz.f180.results.toList) R) = (True ∧ (True ∧ ((True ∧ ((True ∧ True) ∧ True)) ∧ (True ∧ True)))) := by kernel_rfl
 exact e.mpr (⟨trivial,⟨trivial,⟨⟨trivial,⟨⟨trivial,trivial⟩,trivial⟩⟩,⟨trivial,trivial⟩⟩⟩⟩)
theorem V180b.cfgOk (B : Nat) : CfgOk (V180b.cfg B) := cfgOk_of (by kernel_rfl) (by kernel_rfl) extNil
theorem V180b.sound {a d : Int} {w : World} {R : Value → World → Prop} (h : V180b.vc w.heap.size R a d w) : Calls Tryz.prog 180 ⟨[.int .u64 a,.int .u64 d,.func (.func 182) #[] #[]]⟩ w fun e w' => ∃ v,e = .returned v ∧ R v w' :=
 calls_wpfP (c := V180b.cfg w.heap.size) (fn := Tryz.f180) (x := V180b.code) (V180b.cuts w.heap.size R) V180b.h (V180b.cfgOk _) mixed Tryz.func180 (by kernel_rfl) (by kernel_rfl) (by kernel_rfl) rfl (V180b.obl _ _) ((V180b.vc_eq _ _ a d _).symm ▸ h)
end Go.Proofs.YtidcpndlloppdaaGreat
