import Derived.Test.YtofblkmibghmbaaDoorZVE
/-
  What the engine makes of the loaded functions 20, 22, 23, 24, 25, 26, 27, 28, 29, 30, 31, 32, 33, 35, 36, 38, 39, 40, 41, 42, 43, 44, 45, 46, 47, 48, 49, 50, 51, 52, 53, 73, 74, 75, 76, 77, 82, 83, 86, 87, 85, 85: conditions under which a call returns as told, and proofs of that.
  Conditions: none. Printed by a program of this project.
-/
set_option linter.unusedVariables false
set_option maxRecDepth 100000
namespace Go.Proofs.YtofblkmibghmbaaDoor
def V24.vc (B : Nat) (R : Value → World → Prop) (a : Int) (w : World) : Prop :=
  RunK Tryd.prog (V81.ext [.int .u64 a]) B w [] fun v c => 
  ∃ d : Nat, v = .float .f64 d ∧
  Ret B c (R (.float .f64 d))
noncomputable def V24.cfg (B : Nat) : Cfg := ⟨Tryd.prog, ⟨5, B⟩, [], hasN [], hasN [], look [(81, V81.ext)]⟩
noncomputable def V24.code : Code := (Tryd.f24.body).getD .skip
noncomputable def V24.cuts (B : Nat) (R : Value → World → Prop) : Nat → Cut := nthC []
noncomputable def V24.h : H := .s (.z) (.s (.z) (.z))
theorem V24.vc_eq (B : Nat) (R : Value → World → Prop) (a : Int) (w : World) : wpf (V24.cfg B) (V24.cuts B R) V24.code V24.h [] (postOf Tryd.prog B (Tryd.f24.results.toList) R) (argE 0 [.int .u64 a]) [] w = V24.vc B R a w := by kernel_rfl
theorem V24.obl (B : Nat) (R : Value → World → Prop) : oblP (V24.cfg B) (V24.cuts B R) V24.code V24.h [] (postOf Tryd.prog B (Tryd.f24.results.toList) R) := by
  have e : oblP (V24.cfg B) (V24.cuts B R) V24.code V24.h [] (postOf Tryd.prog B (Tryd.f24.results.toList) R) = (True ∧ (True ∧ True)) := by kernel_rfl
  rw [e]
  exact ⟨trivial, ⟨trivial, trivial⟩⟩
theorem V24.cfgOk (B : Nat) : CfgOk (V24.cfg B) := cfgOk_of (by kernel_rfl) (by kernel_rfl) (extCons V81.extOk extNil)
theorem V24.sound {a : Int} {w : World} {R : Value → World → Prop} (h : V24.vc w.heap.size R a w) : Calls Tryd.prog 24 ⟨[.int .u64 a]⟩ w fun e w' => ∃ v, e = .returned v ∧ R v w' :=
  calls_wpfP (c := V24.cfg w.heap.size) (fn := Tryd.f24) (x := V24.code) (V24.cuts w.heap.size R) V24.h (V24.cfgOk _) mixed Tryd.func24 (by kernel_rfl) (by kernel_rfl) (by kernel_rfl) rfl (V24.obl _ _) ((V24.vc_eq _ _ a _).symm ▸ h)
def V28.vc (B : Nat) (R : Value → World → Prop) (a : Int) (w : World) : Prop :=
  CallK Tryd.prog 24 [.int .u64 a] B w [] fun v c => 
  ∃ d : Nat, v = .float .f64 d ∧
  Ret B c (R (.bool (FloatKind.f64.format.order d 0 != some .eq)))
noncomputable def V28.cfg (B : Nat) : Cfg := ⟨Tryd.prog, ⟨6, B⟩, [], hasN [24], hasN [], look []⟩
noncomputable def V28.code : Code := (Tryd.f28.body).getD .skip
noncomputable def V28.cuts (B : Nat) (R : Value → World → Prop) : Nat → Cut := nthC []
noncomputable def V28.h : H := .s (.z) (.s (.z) (.z))
theorem V28.vc_eq (B : Nat) (R : Value → World → Prop) (a : Int) (w : World) : wpf (V28.cfg B) (V28.cuts B R) V28.code V28.h [] (postOf Tryd.prog B (Tryd.f28.results.toList) R) (argE 0 [.int .u64 a]) [] w = V28.vc B R a w := by kernel_rfl
theorem V28.obl (B : Nat) (R : Value → World → Prop) : oblP (V28.cfg B) (V28.cuts B R) V28.code V28.h [] (postOf Tryd.prog B (Tryd.f28.results.toList) R) := by
  have e : oblP (V28.cfg B) (V28.cuts B R) V28.code V28.h [] (postOf Tryd.prog B (Tryd.f28.results.toList) R) = (True ∧ (True ∧ True)) := by kernel_rfl
  rw [e]
  exact ⟨trivial, ⟨trivial, trivial⟩⟩
theorem V28.cfgOk (B : Nat) : CfgOk (V28.cfg B) := cfgOk_of (by kernel_rfl) (by kernel_rfl) extNil
theorem V28.sound {a : Int} {w : World} {R : Value → World → Prop} (h : V28.vc w.heap.size R a w) : Calls Tryd.prog 28 ⟨[.int .u64 a]⟩ w fun e w' => ∃ v, e = .returned v ∧ R v w' :=
  calls_wpfP (c := V28.cfg w.heap.size) (fn := Tryd.f28) (x := V28.code) (V28.cuts w.heap.size R) V28.h (V28.cfgOk _) mixed Tryd.func28 (by kernel_rfl) (by kernel_rfl) (by kernel_rfl) rfl (V28.obl _ _) ((V28.vc_eq _ _ a _).symm ▸ h)
def V29.vc (B : Nat) (R : Value → World → Prop) (a c : Int) (w : World) : Prop :=
  CallK Tryd.prog 24 [.int .u64 a] B w [] fun v d => 
  ∃ f : Nat, v = .float .f64 f ∧
  CallK Tryd.prog 24 [.int .u64 c] B d [] fun g i => 
  ∃ j : Nat, g = .float .f64 j ∧
  Ret B i (R (.bool (FloatKind.f64.format.order f j == some .eq)))
noncomputable def V29.cfg (B : Nat) : Cfg := ⟨Tryd.prog, ⟨10, B⟩, [], hasN [24], hasN [], look []⟩
noncomputable def V29.code : Code := (Tryd.f29.body).getD .skip
noncomputable def V29.cuts (B : Nat) (R : Value → World → Prop) : Nat → Cut := nthC []
noncomputable def V29.h : H := .s (.z) (.s (.z) (.z))
theorem V29.vc_eq (B : Nat) (R : Value → World → Prop) (a c : Int) (w : World) : wpf (V29.cfg B) (V29.cuts B R) V29.code V29.h [] (postOf Tryd.prog B (Tryd.f29.results.toList) R) (argE 0 [.int .u64 a, .int .u64 c]) [] w = V29.vc B R a c w := by kernel_rfl
theorem V29.obl (B : Nat) (R : Value → World → Prop) : oblP (V29.cfg B) (V29.cuts B R) V29.code V29.h [] (postOf Tryd.prog B (Tryd.f29.results.toList) R) := by
  have e : oblP (V29.cfg B) (V29.cuts B R) V29.code V29.h [] (postOf Tryd.prog B (Tryd.f29.results.toList) R) = (True ∧ (True ∧ True)) := by kernel_rfl
  rw [e]
  exact ⟨trivial, ⟨trivial, trivial⟩⟩
theorem V29.cfgOk (B : Nat) : CfgOk (V29.cfg B) := cfgOk_of (by kernel_rfl) (by kernel_rfl) extNil
theorem V29.sound {a d : Int} {w : World} {R : Value → World → Prop} (h : V29.vc w.heap.size R a d w) : Calls Tryd.prog 29 ⟨[.int .u64 a, .int .u64 d]⟩ w fun e w' => ∃ v, e = .returned v ∧ R v w' :=
  calls_wpfP (c := V29.cfg w.heap.size) (fn := Tryd.f29) (x := V29.code) (V29.cuts w.heap.size R) V29.h (V29.cfgOk _) mixed Tryd.func29 (by kernel_rfl) (by kernel_rfl) (by kernel_rfl) rfl (V29.obl _ _) ((V29.vc_eq _ _ a d _).symm ▸ h)
def V30.vc (B : Nat) (R : Value → World → Prop) (a : Nat) (w : World) : Prop :=
  if (FloatKind.f64.format.order a a != some .eq) = true
  then (Ret B w (R (.int .u64 9221120237041090560)))
  else (RunK Tryd.prog (V80.ext [.float .f64 a]) B w [] fun v c => 
   ∃ d : Int, v = .int .u64 d ∧
   Ret B c (R (.int .u64 d)))
noncomputable def V30.cfg (B : Nat) : Cfg := ⟨Tryd.prog, ⟨8, B⟩, [], hasN [], hasN [], look [(80, V80.ext)]⟩
noncomputable def V30.code : Code := (Tryd.f30.body).getD .skip
noncomputable def V30.cuts (B : Nat) (R : Value → World → Prop) : Nat → Cut := nthC []
noncomputable def V30.h : H := .s (.z) (.s (.s (.z) (.c (.s (.z) (.z)) (.z))) (.s (.z) (.z)))
theorem V30.vc_eq (B : Nat) (R : Value → World → Prop) (a : Nat) (w : World) : wpf (V30.cfg B) (V30.cuts B R) V30.code V30.h [] (postOf Tryd.prog B (Tryd.f30.results.toList) R) (argE 0 [.float .f64 a]) [] w = V30.vc B R a w := by kernel_rfl
theorem V30.obl (B : Nat) (R : Value → World → Prop) : oblP (V30.cfg B) (V30.cuts B R) V30.code V30.h [] (postOf Tryd.prog B (Tryd.f30.results.toList) R) := by
  have e : oblP (V30.cfg B) (V30.cuts B R) V30.code V30.h [] (postOf Tryd.prog B (Tryd.f30.results.toList) R) = (True ∧ ((True ∧ ((True ∧ True) ∧ True)) ∧ (True ∧ True))) := by kernel_rfl
  rw [e]
  exact ⟨trivial, ⟨⟨trivial, ⟨⟨trivial, trivial⟩, trivial⟩⟩, ⟨trivial, trivial⟩⟩⟩
theorem V30.cfgOk (B : Nat) : CfgOk (V30.cfg B) := cfgOk_of (by kernel_rfl) (by kernel_rfl) (extCons V80.extOk extNil)
theorem V30.sound {a : Nat} {w : World} {R : Value → World → Prop} (h : V30.vc w.heap.size R a w) : Calls Tryd.prog 30 ⟨[.float .f64 a]⟩ w fun e w' => ∃ v, e = .returned v ∧ R v w' :=
  calls_wpfP (c := V30.cfg w.heap.size) (fn := Tryd.f30) (x := V30.code) (V30.cuts w.heap.size R) V30.h (V30.cfgOk _) mixed Tryd.func30 (by kernel_rfl) (by kernel_rfl) (by kernel_rfl) rfl (V30.obl _ _) ((V30.vc_eq _ _ a _).symm ▸ h)
def V31.vc (B : Nat) (R : Value → World → Prop) (a : Int) (w : World) : Prop :=
  RunK Tryd.prog (V81.ext [.int .u64 a]) B w [] fun v c => 
  ∃ d : Nat, v = .float .f64 d ∧
  Ret B c (R (.float .f64 d))
noncomputable def V31.cfg (B : Nat) : Cfg := ⟨Tryd.prog, ⟨5, B⟩, [], hasN [], hasN [], look [(81, V81.ext)]⟩
noncomputable def V31.code : Code := (Tryd.f31.body).getD .skip
noncomputable def V31.cuts (B : Nat) (R : Value → World → Prop) : Nat → Cut := nthC []
noncomputable def V31.h : H := .s (.z) (.s (.z) (.z))
theorem V31.vc_eq (B : Nat) (R : Value → World → Prop) (a : Int) (w : World) : wpf (V31.cfg B) (V31.cuts B R) V31.code V31.h [] (postOf Tryd.prog B (Tryd.f31.results.toList) R) (argE 0 [.int .u64 a]) [] w = V31.vc B R a w := by kernel_rfl
theorem V31.obl (B : Nat) (R : Value → World → Prop) : oblP (V31.cfg B) (V31.cuts B R) V31.code V31.h [] (postOf Tryd.prog B (Tryd.f31.results.toList) R) := by
  have e : oblP (V31.cfg B) (V31.cuts B R) V31.code V31.h [] (postOf Tryd.prog B (Tryd.f31.results.toList) R) = (True ∧ (True ∧ True)) := by kernel_rfl
  rw [e]
  exact ⟨trivial, ⟨trivial, trivial⟩⟩
theorem V31.cfgOk (B : Nat) : CfgOk (V31.cfg B) := cfgOk_of (by kernel_rfl) (by kernel_rfl) (extCons V81.extOk extNil)
theorem V31.sound {a : Int} {w : World} {R : Value → World → Prop} (h : V31.vc w.heap.size R a w) : Calls Tryd.prog 31 ⟨[.int .u64 a]⟩ w fun e w' => ∃ v, e = .returned v ∧ R v w' :=
  calls_wpfP (c := V31.cfg w.heap.size) (fn := Tryd.f31) (x := V31.code) (V31.cuts w.heap.size R) V31.h (V31.cfgOk _) mixed Tryd.func31 (by kernel_rfl) (by kernel_rfl) (by kernel_rfl) rfl (V31.obl _ _) ((V31.vc_eq _ _ a _).symm ▸ h)
def V82.vc (B : Nat) (R : Value → World → Prop) (a : Int) (w : World) : Prop :=
  Ret B w (R (.bool (decide (IntKind.wrap .u64 (((BitVec.ofInt 64 a &&& BitVec.ofInt 64 9223372036854775807).toNat : Nat) : Int) > 9218868437227405312))))
noncomputable def V82.cfg (B : Nat) : Cfg := ⟨Tryd.prog, ⟨6, B⟩, [], hasN [], hasN [], look []⟩
noncomputable def V82.code : Code := (Tryd.f82.body).getD .skip
noncomputable def V82.cuts (B : Nat) (R : Value → World → Prop) : Nat → Cut := nthC []
noncomputable def V82.h : H := .s (.z) (.s (.z) (.z))
theorem V82.vc_eq (B : Nat) (R : Value → World → Prop) (a : Int) (w : World) : wpf (V82.cfg B) (V82.cuts B R) V82.code V82.h [] (postOf Tryd.prog B (Tryd.f82.results.toList) R) (argE 0 [.int .u64 a]) [] w = V82.vc B R a w := by kernel_rfl
theorem V82.obl (B : Nat) (R : Value → World → Prop) : oblP (V82.cfg B) (V82.cuts B R) V82.code V82.h [] (postOf Tryd.prog B (Tryd.f82.results.toList) R) := by
  have e : oblP (V82.cfg B) (V82.cuts B R) V82.code V82.h [] (postOf Tryd.prog B (Tryd.f82.results.toList) R) = (True ∧ (True ∧ True)) := by kernel_rfl
  rw [e]
  exact ⟨trivial, ⟨trivial, trivial⟩⟩
theorem V82.cfgOk (B : Nat) : CfgOk (V82.cfg B) := cfgOk_of (by kernel_rfl) (by kernel_rfl) extNil
theorem V82.sound {a : Int} {w : World} {R : Value → World → Prop} (h : V82.vc w.heap.size R a w) : Calls Tryd.prog 82 ⟨[.int .u64 a]⟩ w fun e w' => ∃ v, e = .returned v ∧ R v w' :=
  calls_wpfP (c := V82.cfg w.heap.size) (fn := Tryd.f82) (x := V82.code) (V82.cuts w.heap.size R) V82.h (V82.cfgOk _) mixed Tryd.func82 (by kernel_rfl) (by kernel_rfl) (by kernel_rfl) rfl (V82.obl _ _) ((V82.vc_eq _ _ a _).symm ▸ h)
end Go.Proofs.YtofblkmibghmbaaDoor
