import Derived.Test.YtidcpndlloppdaaZMB
/-
  What the engine makes of the loaded functions 19, 23, 24, 20, 15, 13, 27, 22, 44, 8: conditions under which a call returns as told, and proofs of that.
  Conditions: none. Printed by a program of this project.
-/
set_option linter.unusedVariables false
set_option maxRecDepth 100000
namespace Go.Proofs.Ytidcpndlloppdaa
def V19z.vc (B : Nat) (R : Value → World → Prop) (w : World) : Prop :=
  ∀ a : Nat, w.heap.size ≤ a →
  Ret B w (R (.slice none 0 0))
noncomputable def V19z.cfg (B : Nat) : Cfg := ⟨Try.prog, ⟨47, B⟩, [], hasN [], hasN [], look []⟩
noncomputable def V19z.code : Code := (Try.f19.body).getD .skip
noncomputable def V19z.cuts (B : Nat) (R : Value → World → Prop) : Nat → Cut := nthC []
noncomputable def V19z.h : H := .s (.z) (.s (.s (.z) (.c (.s (.z) (.z)) (.z))) (.s (.z) (.s (.s (.z) (.b (.z))) (.s (.z) (.z)))))
theorem V19z.vc_eq (B : Nat) (R : Value → World → Prop)  (w : World) : wpf (V19z.cfg B) (V19z.cuts B R) V19z.code V19z.h [] (postOf Try.prog B (Try.f19.results.toList) R) (argE 0 [.pointer none]) [] w = V19z.vc B R  w := by kernel_rfl
theorem V19z.obl (B : Nat) (R : Value → World → Prop) : oblP (V19z.cfg B) (V19z.cuts B R) V19z.code V19z.h [] (postOf Try.prog B (Try.f19.results.toList) R) := by
  have e : oblP (V19z.cfg B) (V19z.cuts B R) V19z.code V19z.h [] (postOf Try.prog B (Try.f19.results.toList) R) = (True ∧ ((True ∧ ((True ∧ True) ∧ True)) ∧ (True ∧ ((True ∧ True) ∧ (True ∧ True))))) := by kernel_rfl
  exact e.mpr (⟨trivial, ⟨⟨trivial, ⟨⟨trivial, trivial⟩, trivial⟩⟩, ⟨trivial, ⟨⟨trivial, trivial⟩, ⟨trivial, trivial⟩⟩⟩⟩⟩)
theorem V19z.cfgOk (B : Nat) : CfgOk (V19z.cfg B) := cfgOk_of (by kernel_rfl) (by kernel_rfl) extNil
theorem V19z.sound  {w : World} {R : Value → World → Prop} (h : V19z.vc w.heap.size R  w) : Calls Try.prog 19 ⟨[.pointer none]⟩ w fun e w' => ∃ v, e = .returned v ∧ R v w' :=
  calls_wpfP (c := V19z.cfg w.heap.size) (fn := Try.f19) (x := V19z.code) (V19z.cuts w.heap.size R) V19z.h (V19z.cfgOk _) mixed Try.func19 (by kernel_rfl) (by kernel_rfl) (by kernel_rfl) rfl (V19z.obl _ _) ((V19z.vc_eq _ _  _).symm ▸ h)
def V23z.vc (B : Nat) (R : Value → World → Prop) (w : World) : Prop :=
  Ret B w (R (.int .i64 2))
noncomputable def V23z.cfg (B : Nat) : Cfg := ⟨Try.prog, ⟨50, B⟩, [], hasN [], hasN [], look []⟩
noncomputable def V23z.code : Code := (Try.f23.body).getD .skip
noncomputable def V23z.cuts (B : Nat) (R : Value → World → Prop) : Nat → Cut := nthC []
noncomputable def V23z.h : H := .s (.z) (.s (.b (.s (.z) (.c (.s (.z) (.z)) (.s (.z) (.c (.s (.z) (.z)) (.s (.z) (.c (.s (.z) (.z)) (.s (.z) (.c (.s (.z) (.z)) (.s (.r [[0, 1, 2, 3, 4, 5, 6, 7, 8, 9, 10, 11, 12, 13, 14]]) (.c (.z) (.z)))))))))))) (.s (.z) (.z)))
theorem V23z.vc_eq (B : Nat) (R : Value → World → Prop)  (w : World) : wpf (V23z.cfg B) (V23z.cuts B R) V23z.code V23z.h [] (postOf Try.prog B (Try.f23.results.toList) R) (argE 0 [.pointer none]) [] w = V23z.vc B R  w := by kernel_rfl
theorem V23z.obl (B : Nat) (R : Value → World → Prop) : oblP (V23z.cfg B) (V23z.cuts B R) V23z.code V23z.h [] (postOf Try.prog B (Try.f23.results.toList) R) := by
  have e : oblP (V23z.cfg B) (V23z.cuts B R) V23z.code V23z.h [] (postOf Try.prog B (Try.f23.results.toList) R) = (True ∧ ((True ∧ ((True ∧ True) ∧ (True ∧ ((True ∧ True) ∧ (True ∧ ((True ∧ True) ∧ (True ∧ ((True ∧ True) ∧ ((true = true) ∧ (True ∧ True)))))))))) ∧ (True ∧ True))) := by kernel_rfl
  exact e.mpr (⟨trivial, ⟨⟨trivial, ⟨⟨trivial, trivial⟩, ⟨trivial, ⟨⟨trivial, trivial⟩, ⟨trivial, ⟨⟨trivial, trivial⟩, ⟨trivial, ⟨⟨trivial, trivial⟩, ⟨rfl, ⟨trivial, trivial⟩⟩⟩⟩⟩⟩⟩⟩⟩⟩, ⟨trivial, trivial⟩⟩⟩)
theorem V23z.cfgOk (B : Nat) : CfgOk (V23z.cfg B) := cfgOk_of (by kernel_rfl) (by kernel_rfl) extNil
theorem V23z.sound  {w : World} {R : Value → World → Prop} (h : V23z.vc w.heap.size R  w) : Calls Try.prog 23 ⟨[.pointer none]⟩ w fun e w' => ∃ v, e = .returned v ∧ R v w' :=
  calls_wpfP (c := V23z.cfg w.heap.size) (fn := Try.f23) (x := V23z.code) (V23z.cuts w.heap.size R) V23z.h (V23z.cfgOk _) mixed Try.func23 (by kernel_rfl) (by kernel_rfl) (by kernel_rfl) rfl (V23z.obl _ _) ((V23z.vc_eq _ _  _).symm ▸ h)
def V24z.vc (B : Nat) (R : Value → World → Prop) (w : World) : Prop :=
  CallK Try.prog 44 [.pointer none] B w [] fun v a => 
  ∃ (c : Int) (d : Bool), v = .tuple ⟨[.int .i64 c, .bool d]⟩ ∧
  if (!d) = true
  then (Ret B a (R (.int .i64 0)))
  else (False)
noncomputable def V24z.cfg (B : Nat) : Cfg := ⟨Try.prog, ⟨21, B⟩, [], hasN [44], hasN [], look []⟩
noncomputable def V24z.code : Code := (Try.f24.body).getD .skip
noncomputable def V24z.cuts (B : Nat) (R : Value → World → Prop) : Nat → Cut := nthC []
noncomputable def V24z.h : H := .s (.z) (.s (.z) (.s (.s (.z) (.c (.s (.z) (.z)) (.z))) (.s (.z) (.z))))
theorem V24z.vc_eq (B : Nat) (R : Value → World → Prop)  (w : World) : wpf (V24z.cfg B) (V24z.cuts B R) V24z.code V24z.h [] (postOf Try.prog B (Try.f24.results.toList) R) (argE 0 [.pointer none]) [] w = V24z.vc B R  w := by kernel_rfl
theorem V24z.obl (B : Nat) (R : Value → World → Prop) : oblP (V24z.cfg B) (V24z.cuts B R) V24z.code V24z.h [] (postOf Try.prog B (Try.f24.results.toList) R) := by
  have e : oblP (V24z.cfg B) (V24z.cuts B R) V24z.code V24z.h [] (postOf Try.prog B (Try.f24.results.toList) R) = (True ∧ (True ∧ ((True ∧ ((True ∧ True) ∧ True)) ∧ (True ∧ True)))) := by kernel_rfl
  exact e.mpr (⟨trivial, ⟨trivial, ⟨⟨trivial, ⟨⟨trivial, trivial⟩, trivial⟩⟩, ⟨trivial, trivial⟩⟩⟩⟩)
theorem V24z.cfgOk (B : Nat) : CfgOk (V24z.cfg B) := cfgOk_of (by kernel_rfl) (by kernel_rfl) extNil
theorem V24z.sound  {w : World} {R : Value → World → Prop} (h : V24z.vc w.heap.size R  w) : Calls Try.prog 24 ⟨[.pointer none]⟩ w fun e w' => ∃ v, e = .returned v ∧ R v w' :=
  calls_wpfP (c := V24z.cfg w.heap.size) (fn := Try.f24) (x := V24z.code) (V24z.cuts w.heap.size R) V24z.h (V24z.cfgOk _) mixed Try.func24 (by kernel_rfl) (by kernel_rfl) (by kernel_rfl) rfl (V24z.obl _ _) ((V24z.vc_eq _ _  _).symm ▸ h)
def V20z.vc (B : Nat) (R : Value → World → Prop) (w : World) : Prop :=
  Ret B w (R (.slice none 0 0))
noncomputable def V20z.cfg (B : Nat) : Cfg := ⟨Try.prog, ⟨53, B⟩, [], hasN [], hasN [], look []⟩
noncomputable def V20z.code : Code := (Try.f20.body).getD .skip
noncomputable def V20z.cuts (B : Nat) (R : Value → World → Prop) : Nat → Cut := nthC []
noncomputable def V20z.h : H := .s (.z) (.s (.s (.z) (.c (.s (.z) (.z)) (.z))) (.s (.z) (.s (.s (.z) (.b (.z))) (.s (.z) (.z)))))
theorem V20z.vc_eq (B : Nat) (R : Value → World → Prop)  (w : World) : wpf (V20z.cfg B) (V20z.cuts B R) V20z.code V20z.h [] (postOf Try.prog B (Try.f20.results.toList) R) (argE 0 [.pointer none]) [] w = V20z.vc B R  w := by kernel_rfl
theorem V20z.obl (B : Nat) (R : Value → World → Prop) : oblP (V20z.cfg B) (V20z.cuts B R) V20z.code V20z.h [] (postOf Try.prog B (Try.f20.results.toList) R) := by
  have e : oblP (V20z.cfg B) (V20z.cuts B R) V20z.code V20z.h [] (postOf Try.prog B (Try.f20.results.toList) R) = (True ∧ ((True ∧ ((True ∧ True) ∧ True)) ∧ (True ∧ ((True ∧ True) ∧ (True ∧ True))))) := by kernel_rfl
  exact e.mpr (⟨trivial, ⟨⟨trivial, ⟨⟨trivial, trivial⟩, trivial⟩⟩, ⟨trivial, ⟨⟨trivial, trivial⟩, ⟨trivial, trivial⟩⟩⟩⟩⟩)
theorem V20z.cfgOk (B : Nat) : CfgOk (V20z.cfg B) := cfgOk_of (by kernel_rfl) (by kernel_rfl) extNil
theorem V20z.sound  {w : World} {R : Value → World → Prop} (h : V20z.vc w.heap.size R  w) : Calls Try.prog 20 ⟨[.pointer none]⟩ w fun e w' => ∃ v, e = .returned v ∧ R v w' :=
  calls_wpfP (c := V20z.cfg w.heap.size) (fn := Try.f20) (x := V20z.code) (V20z.cuts w.heap.size R) V20z.h (V20z.cfgOk _) mixed Try.func20 (by kernel_rfl) (by kernel_rfl) (by kernel_rfl) rfl (V20z.obl _ _) ((V20z.vc_eq _ _  _).symm ▸ h)
def V15z.vc (B : Nat) (R : Value → World → Prop) (w : World) : Prop :=
  Ret B w (R (.slice none 0 0))
noncomputable def V15z.cfg (B : Nat) : Cfg := ⟨Try.prog, ⟨10, B⟩, [], hasN [], hasN [], look []⟩
noncomputable def V15z.code : Code := (Try.f15.body).getD .skip
noncomputable def V15z.cuts (B : Nat) (R : Value → World → Prop) : Nat → Cut := nthC []
noncomputable def V15z.h : H := .s (.z) (.s (.s (.z) (.c (.s (.z) (.z)) (.z))) (.s (.z) (.z)))
theorem V15z.vc_eq (B : Nat) (R : Value → World → Prop)  (w : World) : wpf (V15z.cfg B) (V15z.cuts B R) V15z.code V15z.h [] (postOf Try.prog B (Try.f15.results.toList) R) (argE 0 [.pointer none]) [] w = V15z.vc B R  w := by kernel_rfl
theorem V15z.obl (B : Nat) (R : Value → World → Prop) : oblP (V15z.cfg B) (V15z.cuts B R) V15z.code V15z.h [] (postOf Try.prog B (Try.f15.results.toList) R) := by
  have e : oblP (V15z.cfg B) (V15z.cuts B R) V15z.code V15z.h [] (postOf Try.prog B (Try.f15.results.toList) R) = (True ∧ ((True ∧ ((True ∧ True) ∧ True)) ∧ (True ∧ True))) := by kernel_rfl
  exact e.mpr (⟨trivial, ⟨⟨trivial, ⟨⟨trivial, trivial⟩, trivial⟩⟩, ⟨trivial, trivial⟩⟩⟩)
theorem V15z.cfgOk (B : Nat) : CfgOk (V15z.cfg B) := cfgOk_of (by kernel_rfl) (by kernel_rfl) extNil
theorem V15z.sound  {w : World} {R : Value → World → Prop} (h : V15z.vc w.heap.size R  w) : Calls Try.prog 15 ⟨[.pointer none]⟩ w fun e w' => ∃ v, e = .returned v ∧ R v w' :=
  calls_wpfP (c := V15z.cfg w.heap.size) (fn := Try.f15) (x := V15z.code) (V15z.cuts w.heap.size R) V15z.h (V15z.cfgOk _) mixed Try.func15 (by kernel_rfl) (by kernel_rfl) (by kernel_rfl) rfl (V15z.obl _ _) ((V15z.vc_eq _ _  _).symm ▸ h)
def V13z.vc (B : Nat) (R : Value → World → Prop) (w : World) : Prop :=
  Ret B w (R (.bool false))
noncomputable def V13z.cfg (B : Nat) : Cfg := ⟨Try.prog, ⟨11, B⟩, [], hasN [], hasN [], look []⟩
noncomputable def V13z.code : Code := (Try.f13.body).getD .skip
noncomputable def V13z.cuts (B : Nat) (R : Value → World → Prop) : Nat → Cut := nthC []
noncomputable def V13z.h : H := .s (.z) (.s (.z) (.z))
theorem V13z.vc_eq (B : Nat) (R : Value → World → Prop)  (w : World) : wpf (V13z.cfg B) (V13z.cuts B R) V13z.code V13z.h [] (postOf Try.prog B (Try.f13.results.toList) R) (argE 0 [.pointer none]) [] w = V13z.vc B R  w := by kernel_rfl
theorem V13z.obl (B : Nat) (R : Value → World → Prop) : oblP (V13z.cfg B) (V13z.cuts B R) V13z.code V13z.h [] (postOf Try.prog B (Try.f13.results.toList) R) := by
  have e : oblP (V13z.cfg B) (V13z.cuts B R) V13z.code V13z.h [] (postOf Try.prog B (Try.f13.results.toList) R) = (True ∧ (True ∧ True)) := by kernel_rfl
  exact e.mpr (⟨trivial, ⟨trivial, trivial⟩⟩)
theorem V13z.cfgOk (B : Nat) : CfgOk (V13z.cfg B) := cfgOk_of (by kernel_rfl) (by kernel_rfl) extNil
theorem V13z.sound  {w : World} {R : Value → World → Prop} (h : V13z.vc w.heap.size R  w) : Calls Try.prog 13 ⟨[.pointer none]⟩ w fun e w' => ∃ v, e = .returned v ∧ R v w' :=
  calls_wpfP (c := V13z.cfg w.heap.size) (fn := Try.f13) (x := V13z.code) (V13z.cuts w.heap.size R) V13z.h (V13z.cfgOk _) mixed Try.func13 (by kernel_rfl) (by kernel_rfl) (by kernel_rfl) rfl (V13z.obl _ _) ((V13z.vc_eq _ _  _).symm ▸ h)
def V27z.vc (B : Nat) (R : Value → World → Prop) (w : World) : Prop :=
  Ret B w (R (.bool false))
noncomputable def V27z.cfg (B : Nat) : Cfg := ⟨Try.prog, ⟨11, B⟩, [], hasN [], hasN [], look []⟩
noncomputable def V27z.code : Code := (Try.f27.body).getD .skip
noncomputable def V27z.cuts (B : Nat) (R : Value → World → Prop) : Nat → Cut := nthC []
noncomputable def V27z.h : H := .s (.z) (.s (.z) (.z))
theorem V27z.vc_eq (B : Nat) (R : Value → World → Prop)  (w : World) : wpf (V27z.cfg B) (V27z.cuts B R) V27z.code V27z.h [] (postOf Try.prog B (Try.f27.results.toList) R) (argE 0 [.pointer none]) [] w = V27z.vc B R  w := by kernel_rfl
theorem V27z.obl (B : Nat) (R : Value → World → Prop) : oblP (V27z.cfg B) (V27z.cuts B R) V27z.code V27z.h [] (postOf Try.prog B (Try.f27.results.toList) R) := by
  have e : oblP (V27z.cfg B) (V27z.cuts B R) V27z.code V27z.h [] (postOf Try.prog B (Try.f27.results.toList) R) = (True ∧ (True ∧ True)) := by kernel_rfl
  exact e.mpr (⟨trivial, ⟨trivial, trivial⟩⟩)
theorem V27z.cfgOk (B : Nat) : CfgOk (V27z.cfg B) := cfgOk_of (by kernel_rfl) (by kernel_rfl) extNil
theorem V27z.sound  {w : World} {R : Value → World → Prop} (h : V27z.vc w.heap.size R  w) : Calls Try.prog 27 ⟨[.pointer none]⟩ w fun e w' => ∃ v, e = .returned v ∧ R v w' :=
  calls_wpfP (c := V27z.cfg w.heap.size) (fn := Try.f27) (x := V27z.code) (V27z.cuts w.heap.size R) V27z.h (V27z.cfgOk _) mixed Try.func27 (by kernel_rfl) (by kernel_rfl) (by kernel_rfl) rfl (V27z.obl _ _) ((V27z.vc_eq _ _  _).symm ▸ h)
def V22z.vc (B : Nat) (R : Value → World → Prop) (w : World) : Prop :=
  Ret B w (R (.tuple ⟨[]⟩))
noncomputable def V22z.cfg (B : Nat) : Cfg := ⟨Try.prog, ⟨7, B⟩, [], hasN [], hasN [], look []⟩
noncomputable def V22z.code : Code := (Try.f22.body).getD .skip
noncomputable def V22z.cuts (B : Nat) (R : Value → World → Prop) : Nat → Cut := nthC []
noncomputable def V22z.h : H := .s (.z) (.c (.z) (.z))
theorem V22z.vc_eq (B : Nat) (R : Value → World → Prop)  (w : World) : wpf (V22z.cfg B) (V22z.cuts B R) V22z.code V22z.h [] (postOf Try.prog B (Try.f22.results.toList) R) (argE 0 [.pointer none]) [] w = V22z.vc B R  w := by kernel_rfl
theorem V22z.obl (B : Nat) (R : Value → World → Prop) : oblP (V22z.cfg B) (V22z.cuts B R) V22z.code V22z.h [] (postOf Try.prog B (Try.f22.results.toList) R) := by
  have e : oblP (V22z.cfg B) (V22z.cuts B R) V22z.code V22z.h [] (postOf Try.prog B (Try.f22.results.toList) R) = (True ∧ (True ∧ True)) := by kernel_rfl
  exact e.mpr (⟨trivial, ⟨trivial, trivial⟩⟩)
theorem V22z.cfgOk (B : Nat) : CfgOk (V22z.cfg B) := cfgOk_of (by kernel_rfl) (by kernel_rfl) extNil
theorem V22z.sound  {w : World} {R : Value → World → Prop} (h : V22z.vc w.heap.size R  w) : Calls Try.prog 22 ⟨[.pointer none]⟩ w fun e w' => ∃ v, e = .returned v ∧ R v w' :=
  calls_wpfP (c := V22z.cfg w.heap.size) (fn := Try.f22) (x := V22z.code) (V22z.cuts w.heap.size R) V22z.h (V22z.cfgOk _) mixed Try.func22 (by kernel_rfl) (by kernel_rfl) (by kernel_rfl) rfl (V22z.obl _ _) ((V22z.vc_eq _ _  _).symm ▸ h)
def V44z.vc (B : Nat) (R : Value → World → Prop) (w : World) : Prop :=
  Ret B w (R (.tuple ⟨[.int .i64 0, .bool false]⟩))
noncomputable def V44z.cfg (B : Nat) : Cfg := ⟨Try.prog, ⟨66, B⟩, [], hasN [], hasN [], look []⟩
noncomputable def V44z.code : Code := (Try.f44.body).getD .skip
noncomputable def V44z.cuts (B : Nat) (R : Value → World → Prop) : Nat → Cut := nthC []
noncomputable def V44z.h : H := .s (.z) (.s (.b (.s (.z) (.c (.s (.z) (.z)) (.s (.z) (.c (.s (.z) (.z)) (.z)))))) (.s (.r [[0, 1, 2, 3, 4, 5, 6, 7, 8, 9, 10, 11, 12, 13]]) (.s (.s (.z) (.c (.s (.s (.z) (.s (.z) (.c (.s (.z) (.z)) (.z)))) (.s (.z) (.z))) (.z))) (.s (.z) (.s (.r [[0, 1, 2, 3, 4, 5, 6]]) (.z))))))
theorem V44z.vc_eq (B : Nat) (R : Value → World → Prop)  (w : World) : wpf (V44z.cfg B) (V44z.cuts B R) V44z.code V44z.h [] (postOf Try.prog B (Try.f44.results.toList) R) (argE 0 [.pointer none]) [] w = V44z.vc B R  w := by kernel_rfl
theorem V44z.obl (B : Nat) (R : Value → World → Prop) : oblP (V44z.cfg B) (V44z.cuts B R) V44z.code V44z.h [] (postOf Try.prog B (Try.f44.results.toList) R) := by
  have e : oblP (V44z.cfg B) (V44z.cuts B R) V44z.code V44z.h [] (postOf Try.prog B (Try.f44.results.toList) R) = (True ∧ ((True ∧ ((True ∧ True) ∧ (True ∧ ((True ∧ True) ∧ True)))) ∧ ((true = true) ∧ ((True ∧ (((True ∧ (True ∧ ((True ∧ True) ∧ True))) ∧ (True ∧ True)) ∧ True)) ∧ (True ∧ ((true = true) ∧ True)))))) := by kernel_rfl
  exact e.mpr (⟨trivial, ⟨⟨trivial, ⟨⟨trivial, trivial⟩, ⟨trivial, ⟨⟨trivial, trivial⟩, trivial⟩⟩⟩⟩, ⟨rfl, ⟨⟨trivial, ⟨⟨⟨trivial, ⟨trivial, ⟨⟨trivial, trivial⟩, trivial⟩⟩⟩, ⟨trivial, trivial⟩⟩, trivial⟩⟩, ⟨trivial, ⟨rfl, trivial⟩⟩⟩⟩⟩⟩)
theorem V44z.cfgOk (B : Nat) : CfgOk (V44z.cfg B) := cfgOk_of (by kernel_rfl) (by kernel_rfl) extNil
theorem V44z.sound  {w : World} {R : Value → World → Prop} (h : V44z.vc w.heap.size R  w) : Calls Try.prog 44 ⟨[.pointer none]⟩ w fun e w' => ∃ v, e = .returned v ∧ R v w' :=
  calls_wpfP (c := V44z.cfg w.heap.size) (fn := Try.f44) (x := V44z.code) (V44z.cuts w.heap.size R) V44z.h (V44z.cfgOk _) mixed Try.func44 (by kernel_rfl) (by kernel_rfl) (by kernel_rfl) rfl (V44z.obl _ _) ((V44z.vc_eq _ _  _).symm ▸ h)
def V8.b1 (B : Nat) (R : Value → World → Prop) (a : Int) (c : Nat) (d : Option Addr) (f g : Nat) (w : World) : Prop :=
  CallK Try.prog 22 [.pointer none] B w [c] fun v i => 
  v = .tuple ⟨[]⟩ ∧
  CallK Try.prog 26 [.agg ⟨[.slice d f g]⟩, .int .i64 a] B i [c] fun j l => 
  ∃ m : Option Addr, j = .pointer m ∧
  caseP m
  (CallK Try.prog 23 [.pointer none] B l [c] fun n o => 
   ∃ p : Int, n = .int .i64 p ∧
   if (p == 2) = true
   then (CallK Try.prog 24 [.pointer none] B o [c] fun q r => 
    ∃ s : Int, q = .int .i64 s ∧
    if (s == 0) = true
    then (CallK Try.prog 20 [.pointer none] B r [c] fun t u => 
     ∃ (x : Option Addr) (y z : Nat), t = .slice x y z ∧
     if ((y : Int) == 0) = true
     then (CallK Try.prog 19 [.pointer none] B u [c] fun A C => 
      ∃ (D : Option Addr) (E F : Nat), A = .slice D E F ∧
      if ((E : Int) == 0) = true
      then (CallK Try.prog 15 [.pointer none] B C [c] fun G I => 
       ∃ (J : Option Addr) (L M : Nat), G = .slice J L M ∧
       if ((L : Int) == 0) = true
       then (CallK Try.prog 13 [.pointer none] B I [c] fun N O => 
        ∃ P : Bool, N = .bool P ∧
        if (!P) = true
        then (CallK Try.prog 27 [.pointer none] B O [c] fun Q S => 
         ∃ T : Bool, Q = .bool T ∧
         if (!T) = true
         then (CallK Try.prog 16 [] B S [c] fun U W => 
          ∃ X : Bool, U = .bool X ∧
          Ret B W (R (.bool X)))
         else (Ret B S (R (.bool false))))
        else (Ret B O (R (.bool false))))
       else (Ret B I (R (.bool false))))
      else (Ret B C (R (.bool false))))
     else (Ret B u (R (.bool false))))
    else (Ret B r (R (.bool false))))
   else (Ret B o (R (.bool false))))
  (fun Y => Ret B l (R (.bool false)))
def V8.b0 (B : Nat) (R : Value → World → Prop) (a : Int) (c : Bool) (d : Nat) (f : Option Addr) (g i : Nat) (w : World) : Prop :=
  if c = true
  then (V8.b1 B R (IntKind.wrap .i64 ((g : Int) + a)) d f g i w)
  else (V8.b1 B R a d f g i w)
def V8.vc (B : Nat) (R : Value → World → Prop) (a : Option Addr) (c d : Nat) (f : Int) (w : World) : Prop :=
  CallK Try.prog 21 [.slice a c d] B w [] fun v g => 
  ∃ (i : Option Addr) (j l : Nat), v = .agg ⟨[.slice i j l]⟩ ∧
  ∀ m : Nat, g.heap.size ≤ m →
  if (decide (f ≥ 0)) = true
  then (if (decide (f < (j : Int))) = true
   then (∃ n : Addr, i = some n ∧ (0 : Int) ≤ f ∧ f < (j : Int) ∧
   ∃ o : Int, g.cell? ((n.add (f.toNat * 4)).add 0) = some (.int .i64 o) ∧
   V8.b0 B R f (o == 0) m i j l g)
   else (V8.b0 B R f false m i j l g))
  else (V8.b0 B R f false m i j l g)
noncomputable def V8.cfg (B : Nat) : Cfg := ⟨Try.prog, ⟨79, B⟩, [], hasN [13, 15, 16, 19, 20, 21, 22, 23, 24, 26, 27], hasN [], look []⟩
noncomputable def V8.code : Code := (Try.f8.body).getD .skip
noncomputable def V8.cuts (B : Nat) (R : Value → World → Prop) : Nat → Cut := nthC [⟨[(1, .one (.int .i64)), (26, .one (.bool))], [(5, 34, [.slice])], fun fs vs bs w => V8.b0 B R (iV (nthV vs 0)) (bV (nthV vs 1)) (nthB bs 0).blk (slA (nthV (nthB bs 0).cells 0)) (slL (nthV (nthB bs 0).cells 0)) (slC (nthV (nthB bs 0).cells 0)) w⟩,
  ⟨[(1, .one (.int .i64))], [(5, 34, [.slice])], fun fs vs bs w => V8.b1 B R (iV (nthV vs 0)) (nthB bs 0).blk (slA (nthV (nthB bs 0).cells 0)) (slL (nthV (nthB bs 0).cells 0)) (slC (nthV (nthB bs 0).cells 0)) w⟩]
noncomputable def V8.h : H := .s (.z) (.s (.z) (.cut 1 (.cut 0 (.z) (.c (.z) (.z))) (.s (.z) (.s (.z) (.s (.z) (.z))))))
theorem V8.vc_eq (B : Nat) (R : Value → World → Prop) (a : Option Addr) (c d : Nat) (f : Int) (w : World) : wpf (V8.cfg B) (V8.cuts B R) V8.code V8.h [] (postOf Try.prog B (Try.f8.results.toList) R) (argE 0 [.slice a c d, .int .i64 f]) [] w = V8.vc B R a c d f w := by kernel_rfl
theorem V8.obl (B : Nat) (R : Value → World → Prop) : oblP (V8.cfg B) (V8.cuts B R) V8.code V8.h [] (postOf Try.prog B (Try.f8.results.toList) R) := by
  have e : oblP (V8.cfg B) (V8.cuts B R) V8.code V8.h [] (postOf Try.prog B (Try.f8.results.toList) R) = (True ∧ (True ∧ ((True ∧ (∀ (a : Int) (c : Bool) (d : Nat) (f : Option Addr) (g i : Nat) (w : World), V8.b0 B R a c d f g i w → V8.b0 B R a c d f g i w) ∧ (True ∧ True)) ∧ (∀ (a : Int) (d : Nat) (f : Option Addr) (g i : Nat) (w : World), V8.b1 B R a d f g i w → V8.b1 B R a d f g i w) ∧ (True ∧ (True ∧ (True ∧ True)))))) := by kernel_rfl
  exact e.mpr (⟨trivial, ⟨trivial, ⟨⟨trivial, fun a c d f g i w h => h, ⟨trivial, trivial⟩⟩, fun a d f g i w h => h, ⟨trivial, ⟨trivial, ⟨trivial, trivial⟩⟩⟩⟩⟩⟩)
theorem V8.cfgOk (B : Nat) : CfgOk (V8.cfg B) := cfgOk_of (by kernel_rfl) (by kernel_rfl) extNil
theorem V8.sound {a : Option Addr} {d f : Nat} {g : Int} {w : World} {R : Value → World → Prop} (h : V8.vc w.heap.size R a d f g w) : Calls Try.prog 8 ⟨[.slice a d f, .int .i64 g]⟩ w fun e w' => ∃ v, e = .returned v ∧ R v w' :=
  calls_wpfP (c := V8.cfg w.heap.size) (fn := Try.f8) (x := V8.code) (V8.cuts w.heap.size R) V8.h (V8.cfgOk _) mixed Try.func8 (by kernel_rfl) (by kernel_rfl) (by kernel_rfl) rfl (V8.obl _ _) ((V8.vc_eq _ _ a d f g _).symm ▸ h)
end Go.Proofs.Ytidcpndlloppdaa
