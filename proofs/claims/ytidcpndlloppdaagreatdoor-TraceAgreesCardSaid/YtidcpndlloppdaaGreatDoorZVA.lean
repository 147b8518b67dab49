import Derived.Test.YtidcpndlloppdaaGreatDoorZFE
import Derived.Test.YtidcpndlloppdaaGreatDoorZEngC
import Derived.Test.YtidcpndlloppdaaGreatDoorProg
/-
 What the engine makes of the loaded functions 91, 48, 119, 49, 121, 46, 82: conditions under which a call returns as told, and proofs of that.
 Conditions: none. Printed by a program of this project.
-/
set_option linter.unusedVariables false
set_option maxRecDepth 100000
namespace Go.Proofs.YtidcpndlloppdaaGreatDoor
def V91.b1 (B : Nat) (R : Value → World → Prop) (a : Int) (c : Bool) (w : World) : Prop :=
 if c = true
 then (Ret B w (R (.int .i64 2)))
 else (if (a == 4) = true
 then (if (a == 4) = true
 then (Ret B w (R (.int .i64 1)))
 else (Ret B w (R (.int .i64 0))))
 else (if (a == 9) = true
 then (if (a == 9) = true
 then (Ret B w (R (.int .i64 1)))
 else (Ret B w (R (.int .i64 0))))
 else (if (a == 10) = true
 then (if (a == 10) = true
 then (Ret B w (R (.int .i64 1)))
 else (Ret B w (R (.int .i64 0))))
 else (if (a == 16) = true
 then (if (a == 16) = true
 then (Ret B w (R (.int .i64 1)))
 else (Ret B w (R (.int .i64 0))))
 else (if (a == 18) = true
 then (if (a == 18) = true
 then (Ret B w (R (.int .i64 1)))
 else (Ret B w (R (.int .i64 0))))
 else (if (a == 20) = true
 then (if (a == 20) = true
 then (Ret B w (R (.int .i64 1)))
 else (Ret B w (R (.int .i64 0))))
 else (if (a == 22) = true
 then (if (a == 22) = true
 then (Ret B w (R (.int .i64 1)))
 else (Ret B w (R (.int .i64 0))))
 else (if (a == 27) = true
 then (Ret B w (R (.int .i64 1)))
 else (Ret B w (R (.int .i64 0)))))))))))
def V91.b0 (B : Nat) (R : Value → World → Prop) (a : Int) (c : Bool) (d : Nat) (f g i : Int) (j : Nat) (l : Option Addr) (m n : Nat) (w : World) : Prop :=
 if c = true
 then (CallK Tryz.prog 121 [.agg ⟨[.slice l m n]⟩, .int .i64 g] B w [d, j] fun v o => 
 ∃ p : Int, v = .int .i64 p ∧
 Ret B o (R (.int .i64 p)))
 else (if (a == 5) = true
 then (V91.b1 B R a (a == 5) w)
 else (if (a == 6) = true
 then (V91.b1 B R a (a == 6) w)
 else (if (a == 7) = true
 then (V91.b1 B R a (a == 7) w)
 else (if (a == 8) = true
 then (V91.b1 B R a (a == 8) w)
 else (if (a == 11) = true
 then (V91.b1 B R a (a == 11) w)
 else (if (a == 12) = true
 then (V91.b1 B R a (a == 12) w)
 else (if (a == 13) = true
 then (V91.b1 B R a (a == 13) w)
 else (V91.b1 B R a (a == 14) w))))))))
def V91.vc (B : Nat) (R : Value → World → Prop) (a : Option Addr) (c d : Nat) (f g i : Int) (w : World) : Prop :=
 ∀ j : Nat, w.heap.size ≤ j →
 ∀ l : Nat, w.heap.size ≤ l →
 if (f == 17) = true
 then (V91.b0 B R f (f == 17) l f g i j a c d w)
 else (V91.b0 B R f (f == 19) l f g i j a c d w)
noncomputable def V91.cfg (B : Nat) : Cfg := ⟨Tryz.prog, ⟨32, B⟩, [], hasN [121], hasN [], look []⟩
noncomputable def V91.code : Code := (Tryz.f91.body).getD .skip
noncomputable def V91.cuts (B : Nat) (R : Value → World → Prop) : Nat → Cut := nthC [⟨[(6, .one (.int .i64)), (7, .one (.bool))], [(3, 67, [.int .i64, .int .i64, .int .i64]), (2, 24, [.slice])], fun fs vs bs w => V91.b0 B R (iV (nthV vs 0)) (bV (nthV vs 1)) (nthB bs 0).blk (iV (nthV (nthB bs 0).cells 0)) (iV (nthV (nthB bs 0).cells 1)) (iV (nthV (nthB bs 0).cells 2)) (nthB bs 1).blk (slA (nthV (nthB bs 1).cells 0)) (slL (nthV (nthB bs 1).cells 0)) (slC (nthV (nthB bs 1).cells 0)) w⟩,
 ⟨[(6, .one (.int .i64)), (14, .one (.bool))], [], fun fs vs bs w => V91.b1 B R (iV (nthV vs 0)) (bV (nthV vs 1)) w⟩]
noncomputable def V91.h : H := .s (.z) (.s (.s (.z) (.b (.cut 0 (.s (.z) (.c (.z) (.z))) (.c (.s (.z) (.z)) (.cut 1 (.s (.z) (.c (.z) (.s (.z) (.c (.z) (.s (.z) (.c (.z) (.s (.z) (.c (.z) (.s (.z) (.c (.z) (.s (.z) (.c (.z) (.s (.z) (.c (.z) (.z))))))))))))))) (.c (.s (.z) (.z)) (.s (.s (.z) (.c (.z) (.s (.z) (.c (.z) (.s (.z) (.c (.z) (.s (.z) (.c (.z) (.s (.z) (.c (.z) (.s (.z) (.c (.z) (.s (.z) (.c (.z) (.z))))))))))))))) (.c (.s (.z) (.z)) (.z))))))))) (.s (.z) (.z)))
theorem V91.vc_eq (B : Nat) (R : Value → World → Prop) (a : Option Addr) (c d : Nat) (f g i : Int) (w : World) : wpf (V91.cfg B) (V91.cuts B R) V91.code V91.h [] (postOf Tryz.prog B (Tryz.f91.results.toList) R) (argE 0 [.agg ⟨[.slice a c d]⟩, .agg ⟨[.int .i64 f, .int .i64 g, .int .i64 i]⟩]) [] w = V91.vc B R a c d f g i w := by kernel_rfl
theorem V91.obl (B : Nat) (R : Value → World → Prop) : oblP (V91.cfg B) (V91.cuts B R) V91.code V91.h [] (postOf Tryz.prog B (Tryz.f91.results.toList) R) := by
 have e : oblP (V91.cfg B) (V91.cuts B R) V91.code V91.h [] (postOf Tryz.prog B (Tryz.f91.results.toList) R) = (True ∧ ((True ∧ ((True ∧ (True ∧ True)) ∧ (∀ (a : Int) (c : Bool) (d : Nat) (f g i : Int) (j : Nat) (l : Option Addr) (m n : Nat) (w : World), V91.b0 B R a c d f g i j l m n w → V91.b0 B R a c d f g i j l m n w) ∧ ((True ∧ True) ∧ ((True ∧ (True ∧ (True ∧ (True ∧ (True ∧ (True ∧ (True ∧ (True ∧ (True ∧ (True ∧ (True ∧ (True ∧ (True ∧ (True ∧ True)))))))))))))) ∧ (∀ (a : Int) (o : Bool) (w : World), V91.b1 B R a o w → V91.b1 B R a o w) ∧ ((True ∧ True) ∧ ((True ∧ (True ∧ (True ∧ (True ∧ (True ∧ (True ∧ (True ∧ (True ∧ (True ∧ (True ∧ (True ∧ (True ∧ (True ∧ (True ∧ True)))))))))))))) ∧ ((True ∧ True) ∧ True))))))) ∧ (True ∧ True))) := by kernel_rfl
 exact e.mpr (⟨trivial, ⟨⟨trivial, ⟨⟨trivial, ⟨trivial, trivial⟩⟩, fun a c d f g i j l m n w h => h, ⟨⟨trivial, trivial⟩, ⟨⟨trivial, ⟨trivial, ⟨trivial, ⟨trivial, ⟨trivial, ⟨trivial, ⟨trivial, ⟨trivial, ⟨trivial, ⟨trivial, ⟨trivial, ⟨trivial, ⟨trivial, ⟨trivial, trivial⟩⟩⟩⟩⟩⟩⟩⟩⟩⟩⟩⟩⟩⟩, fun a o w h => h, ⟨⟨trivial, trivial⟩, ⟨⟨trivial, ⟨trivial, ⟨trivial, ⟨trivial, ⟨trivial, ⟨trivial, ⟨trivial, ⟨trivial, ⟨trivial, ⟨trivial, ⟨trivial, ⟨trivial, ⟨trivial, ⟨trivial, trivial⟩⟩⟩⟩⟩⟩⟩⟩⟩⟩⟩⟩⟩⟩, ⟨⟨trivial, trivial⟩, trivial⟩⟩⟩⟩⟩⟩⟩, ⟨trivial, trivial⟩⟩⟩)
theorem V91.cfgOk (B : Nat) : CfgOk (V91.cfg B) := cfgOk_of (by kernel_rfl) (by kernel_rfl) extNil
theorem V91.sound {a : Option Addr} {d f : Nat} {g i j : Int} {w : World} {R : Value → World → Prop} (h : V91.vc w.heap.size R a d f g i j w) : Calls Tryz.prog 91 ⟨[.agg ⟨[.slice a d f]⟩, .agg ⟨[.int .i64 g, .int .i64 i, .int .i64 j]⟩]⟩ w fun e w' => ∃ v, e = .returned v ∧ R v w' :=
 calls_wpfP (c := V91.cfg w.heap.size) (fn := Tryz.f91) (x := V91.code) (V91.cuts w.heap.size R) V91.h (V91.cfgOk _) mixed Tryz.func91 (by kernel_rfl) (by kernel_rfl) (by kernel_rfl) rfl (V91.obl _ _) ((V91.vc_eq _ _ a d f g i j _).symm ▸ h)
def V48.vc (B : Nat) (R : Value → World → Prop) (a : Option Addr) (c d : Nat) (f g i : Int) (w : World) : Prop :=
 ∀ j : Nat, w.heap.size ≤ j →
 ∀ l : Nat, w.heap.size ≤ l →
 CallK Tryz.prog 46 [.int .i64 f] B w [l, j] fun v m => 
 ∃ (n o p : Int) (q : Bool), v = .tuple ⟨[.int .i64 n, .int .i64 o, .int .i64 p, .bool q]⟩ ∧
 if (decide (o < 0)) = true
 then (if (decide (g < 0)) = false
 then (if (decide (g ≥ (c : Int))) = true
 then (Ret B m (R (.int .i64 0)))
 else (∃ r : Addr, a = some r ∧ (0 : Int) ≤ g ∧ g < (c : Int) ∧
 ∃ s : Int, m.cell? ((r.add (g.toNat * 4)).add 0) = some (.int .i64 s) ∧
 Ret B m (R (.int .i64 (if 0 > s then 0 else s)))))
 else (Ret B m (R (.int .i64 0))))
 else (Ret B m (R (.int .i64 o)))
noncomputable def V48.cfg (B : Nat) : Cfg := ⟨Tryz.prog, ⟨39, B⟩, [], hasN [46], hasN [], look []⟩
noncomputable def V48.code : Code := (Tryz.f48.body).getD .skip
noncomputable def V48.cuts (B : Nat) (R : Value → World → Prop) : Nat → Cut := nthC []
noncomputable def V48.h : H := .s (.z) (.s (.z) (.s (.s (.z) (.c (.s (.s (.z) (.c (.s (.z) (.z)) (.z))) (.s (.z) (.z))) (.z))) (.s (.z) (.z))))
theorem V48.vc_eq (B : Nat) (R : Value → World → Prop) (a : Option Addr) (c d : Nat) (f g i : Int) (w : World) : wpf (V48.cfg B) (V48.cuts B R) V48.code V48.h [] (postOf Tryz.prog B (Tryz.f48.results.toList) R) (argE 0 [.agg ⟨[.slice a c d]⟩, .agg ⟨[.int .i64 f, .int .i64 g, .int .i64 i]⟩]) [] w = V48.vc B R a c d f g i w := by kernel_rfl
theorem V48.obl (B : Nat) (R : Value → World → Prop) : oblP (V48.cfg B) (V48.cuts B R) V48.code V48.h [] (postOf Tryz.prog B (Tryz.f48.results.toList) R) := by
 have e : oblP (V48.cfg B) (V48.cuts B R) V48.code V48.h [] (postOf Tryz.prog B (Tryz.f48.results.toList) R) = (True ∧ (True ∧ ((True ∧ (((True ∧ ((True ∧ True) ∧ True)) ∧ (True ∧ True)) ∧ True)) ∧ (True ∧ True)))) := by kernel_rfl
 exact e.mpr (⟨trivial, ⟨trivial, ⟨⟨trivial, ⟨⟨⟨trivial, ⟨⟨trivial, trivial⟩, trivial⟩⟩, ⟨trivial, trivial⟩⟩, trivial⟩⟩, ⟨trivial, trivial⟩⟩⟩⟩)
theorem V48.cfgOk (B : Nat) : CfgOk (V48.cfg B) := cfgOk_of (by kernel_rfl) (by kernel_rfl) extNil
theorem V48.sound {a : Option Addr} {d f : Nat} {g i j : Int} {w : World} {R : Value → World → Prop} (h : V48.vc w.heap.size R a d f g i j w) : Calls Tryz.prog 48 ⟨[.agg ⟨[.slice a d f]⟩, .agg ⟨[.int .i64 g, .int .i64 i, .int .i64 j]⟩]⟩ w fun e w' => ∃ v, e = .returned v ∧ R v w' :=
 calls_wpfP (c := V48.cfg w.heap.size) (fn := Tryz.f48) (x := V48.code) (V48.cuts w.heap.size R) V48.h (V48.cfgOk _) mixed Tryz.func48 (by kernel_rfl) (by kernel_rfl) (by kernel_rfl) rfl (V48.obl _ _) ((V48.vc_eq _ _ a d f g i j _).symm ▸ h)
def V119.vc (B : Nat) (R : Value → World → Prop) (a c d : Int) (w : World) : Prop :=
 ∀ f : Nat, w.heap.size ≤ f →
 if (a == 21) = true
 then (Ret B w (R (.int .i64 2)))
 else (if (a == 1) = true
 then (if (a == 1) = true
 then (Ret B w (R (.int .i64 1)))
 else (Ret B w (R (.int .i64 0))))
 else (if (a == 2) = true
 then (if (a == 2) = true
 then (Ret B w (R (.int .i64 1)))
 else (Ret B w (R (.int .i64 0))))
 else (if (a == 3) = true
 then (if (a == 3) = true
 then (Ret B w (R (.int .i64 1)))
 else (Ret B w (R (.int .i64 0))))
 else (if (a == 17) = true
 then (if (a == 17) = true
 then (Ret B w (R (.int .i64 1)))
 else (Ret B w (R (.int .i64 0))))
 else (if (a == 5) = true
 then (if (a == 5) = true
 then (Ret B w (R (.int .i64 1)))
 else (Ret B w (R (.int .i64 0))))
 else (if (a == 6) = true
 then (if (a == 6) = true
 then (Ret B w (R (.int .i64 1)))
 else (Ret B w (R (.int .i64 0))))
 else (if (a == 7) = true
 then (if (a == 7) = true
 then (Ret B w (R (.int .i64 1)))
 else (Ret B w (R (.int .i64 0))))
 else (if (a == 8) = true
 then (if (a == 8) = true
 then (Ret B w (R (.int .i64 1)))
 else (Ret B w (R (.int .i64 0))))
 else (if (a == 11) = true
 then (if (a == 11) = true
 then (Ret B w (R (.int .i64 1)))
 else (Ret B w (R (.int .i64 0))))
 else (if (a == 12) = true
 then (if (a == 12) = true
 then (Ret B w (R (.int .i64 1)))
 else (Ret B w (R (.int .i64 0))))
 else (if (a == 13) = true
 then (if (a == 13) = true
 then (Ret B w (R (.int .i64 1)))
 else (Ret B w (R (.int .i64 0))))
 else (if (a == 14) = true
 then (if (a == 14) = true
 then (Ret B w (R (.int .i64 1)))
 else (Ret B w (R (.int .i64 0))))
 else (if (a == 9) = true
 then (if (a == 9) = true
 then (Ret B w (R (.int .i64 1)))
 else (Ret B w (R (.int .i64 0))))
 else (if (a == 10) = true
 then (Ret B w (R (.int .i64 1)))
 else (Ret B w (R (.int .i64 0)))))))))))))))))
noncomputable def V119.cfg (B : Nat) : Cfg := ⟨Tryz.prog, ⟨22, B⟩, [], hasN [], hasN [], look []⟩
noncomputable def V119.code : Code := (Tryz.f119.body).getD .skip
noncomputable def V119.cuts (B : Nat) (R : Value → World → Prop) : Nat → Cut := nthC []
noncomputable def V119.h : H := .s (.z) (.s (.s (.z) (.b (.s (.z) (.c (.s (.z) (.z)) (.s (.s (.z) (.c (.z) (.s (.z) (.c (.z) (.s (.z) (.c (.z) (.s (.z) (.c (.z) (.s (.z) (.c (.z) (.s (.z) (.c (.z) (.s (.z) (.c (.z) (.s (.z) (.c (.z) (.s (.z) (.c (.z) (.s (.z) (.c (.z) (.s (.z) (.c (.z) (.s (.z) (.c (.z) (.s (.z) (.c (.z) (.z))))))))))))))))))))))))))) (.c (.s (.z) (.z)) (.z))))))) (.s (.z) (.z)))
theorem V119.vc_eq (B : Nat) (R : Value → World → Prop) (a c d : Int) (w : World) : wpf (V119.cfg B) (V119.cuts B R) V119.code V119.h [] (postOf Tryz.prog B (Tryz.f119.results.toList) R) (argE 0 [.agg ⟨[.int .i64 a, .int .i64 c, .int .i64 d]⟩]) [] w = V119.vc B R a c d w := by kernel_rfl
theorem V119.obl (B : Nat) (R : Value → World → Prop) : oblP (V119.cfg B) (V119.cuts B R) V119.code V119.h [] (postOf Tryz.prog B (Tryz.f119.results.toList) R) := by
 have e : oblP (V119.cfg B) (V119.cuts B R) V119.code V119.h [] (postOf Tryz.prog B (Tryz.f119.results.toList) R) = (True ∧ ((True ∧ (True ∧ ((True ∧ True) ∧ ((True ∧ (True ∧ (True ∧ (True ∧ (True ∧ (True ∧ (True ∧ (True ∧ (True ∧ (True ∧ (True ∧ (True ∧ (True ∧ (True ∧ (True ∧ (True ∧ (True ∧ (True ∧ (True ∧ (True ∧ (True ∧ (True ∧ (True ∧ (True ∧ (True ∧ (True ∧ True)))))))))))))))))))))))))) ∧ ((True ∧ True) ∧ True))))) ∧ (True ∧ True))) := by kernel_rfl
 exact e.mpr (⟨trivial, ⟨⟨trivial, ⟨trivial, ⟨⟨trivial, trivial⟩, ⟨⟨trivial, ⟨trivial, ⟨trivial, ⟨trivial, ⟨trivial, ⟨trivial, ⟨trivial, ⟨trivial, ⟨trivial, ⟨trivial, ⟨trivial, ⟨trivial, ⟨trivial, ⟨trivial, ⟨trivial, ⟨trivial, ⟨trivial, ⟨trivial, ⟨trivial, ⟨trivial, ⟨trivial, ⟨trivial, ⟨trivial, ⟨trivial, ⟨trivial, ⟨trivial, trivial⟩⟩⟩⟩⟩⟩⟩⟩⟩⟩⟩⟩⟩⟩⟩⟩⟩⟩⟩⟩⟩⟩⟩⟩⟩⟩, ⟨⟨trivial, trivial⟩, trivial⟩⟩⟩⟩⟩, ⟨trivial, trivial⟩⟩⟩)
theorem V119.cfgOk (B : Nat) : CfgOk (V119.cfg B) := cfgOk_of (by kernel_rfl) (by kernel_rfl) extNil
theorem V119.sound {a d f : Int} {w : World} {R : Value → World → Prop} (h : V119.vc w.heap.size R a d f w) : Calls Tryz.prog 119 ⟨[.agg ⟨[.int .i64 a, .int .i64 d, .int .i64 f]⟩]⟩ w fun e w' => ∃ v, e = .returned v ∧ R v w' :=
 calls_wpfP (c := V119.cfg w.heap.size) (fn := Tryz.f119) (x := V119.code) (V119.cuts w.heap.size R) V119.h (V119.cfgOk _) mixed Tryz.func119 (by kernel_rfl) (by kernel_rfl) (by kernel_rfl) rfl (V119.obl _ _) ((V119.vc_eq _ _ a d f _).symm ▸ h)
def V49.vc (B : Nat) (R : Value → World → Prop) (a c d : Int) (w : World) : Prop :=
 ∀ f : Nat, w.heap.size ≤ f →
 CallK Tryz.prog 46 [.int .i64 a] B w [f] fun v g => 
 ∃ (i j l : Int) (m : Bool), v = .tuple ⟨[.int .i64 i, .int .i64 j, .int .i64 l, .bool m]⟩ ∧
 Ret B g (R (.int .i64 l))
noncomputable def V49.cfg (B : Nat) : Cfg := ⟨Tryz.prog, ⟨16, B⟩, [], hasN [46], hasN [], look []⟩
noncomputable def V49.code : Code := (Tryz.f49.body).getD .skip
noncomputable def V49.cuts (B : Nat) (R : Value → World → Prop) : Nat → Cut := nthC []
noncomputable def V49.h : H := .s (.z) (.s (.z) (.s (.z) (.z)))
theorem V49.vc_eq (B : Nat) (R : Value → World → Prop) (a c d : Int) (w : World) : wpf (V49.cfg B) (V49.cuts B R) V49.code V49.h [] (postOf Tryz.prog B (Tryz.f49.results.toList) R) (argE 0 [.agg ⟨[.int .i64 a, .int .i64 c, .int .i64 d]⟩]) [] w = V49.vc B R a c d w := by kernel_rfl
theorem V49.obl (B : Nat) (R : Value → World → Prop) : oblP (V49.cfg B) (V49.cuts B R) V49.code V49.h [] (postOf Tryz.prog B (Tryz.f49.results.toList) R) := by
 have e : oblP (V49.cfg B) (V49.cuts B R) V49.code V49.h [] (postOf Tryz.prog B (Tryz.f49.results.toList) R) = (True ∧ (True ∧ (True ∧ True))) := by kernel_rfl
 exact e.mpr (⟨trivial, ⟨trivial, ⟨trivial, trivial⟩⟩⟩)
theorem V49.cfgOk (B : Nat) : CfgOk (V49.cfg B) := cfgOk_of (by kernel_rfl) (by kernel_rfl) extNil
theorem V49.sound {a d f : Int} {w : World} {R : Value → World → Prop} (h : V49.vc w.heap.size R a d f w) : Calls Tryz.prog 49 ⟨[.agg ⟨[.int .i64 a, .int .i64 d, .int .i64 f]⟩]⟩ w fun e w' => ∃ v, e = .returned v ∧ R v w' :=
 calls_wpfP (c := V49.cfg w.heap.size) (fn := Tryz.f49) (x := V49.code) (V49.cuts w.heap.size R) V49.h (V49.cfgOk _) mixed Tryz.func49 (by kernel_rfl) (by kernel_rfl) (by kernel_rfl) rfl (V49.obl _ _) ((V49.vc_eq _ _ a d f _).symm ▸ h)
def V121.vc (B : Nat) (R : Value → World → Prop) (a : Option Addr) (c d : Nat) (f : Int) (w : World) : Prop :=
 ∀ g : Nat, w.heap.size ≤ g →
 if (decide (f < 0)) = false
 then (if (decide (f ≥ (c : Int))) = true
 then (Ret B w (R (.int .i64 0)))
 else (∃ i : Addr, a = some i ∧ (0 : Int) ≤ f ∧ f < (c : Int) ∧
 ∃ j : Int, w.cell? ((i.add (f.toNat * 4)).add 0) = some (.int .i64 j) ∧
 Ret B w (R (.int .i64 (if 0 > j then 0 else j)))))
 else (Ret B w (R (.int .i64 0)))
noncomputable def V121.cfg (B : Nat) : Cfg := ⟨Tryz.prog, ⟨21, B⟩, [], hasN [], hasN [], look []⟩
noncomputable def V121.code : Code := (Tryz.f121.body).getD .skip
noncomputable def V121.cuts (B : Nat) (R : Value → World → Prop) : Nat → Cut := nthC []
noncomputable def V121.h : H := .s (.z) (.s (.s (.z) (.c (.s (.z) (.z)) (.z))) (.s (.z) (.z)))
theorem V121.vc_eq (B : Nat) (R : Value → World → Prop) (a : Option Addr) (c d : Nat) (f : Int) (w : World) : wpf (V121.cfg B) (V121.cuts B R) V121.code V121.h [] (postOf Tryz.prog B (Tryz.f121.results.toList) R) (argE 0 [.agg ⟨[.slice a c d]⟩, .int .i64 f]) [] w = V121.vc B R a c d f w := by kernel_rfl
theorem V121.obl (B : Nat) (R : Value → World → Prop) : oblP (V121.cfg B) (V121.cuts B R) V121.code V121.h [] (postOf Tryz.prog B (Tryz.f121.results.toList) R) := by
 have e : oblP (V121.cfg B) (V121.cuts B R) V121.code V121.h [] (postOf Tryz.prog B (Tryz.f121.results.toList) R) = (True ∧ ((True ∧ ((True ∧ True) ∧ True)) ∧ (True ∧ True))) := by kernel_rfl
 exact e.mpr (⟨trivial, ⟨⟨trivial, ⟨⟨trivial, trivial⟩, trivial⟩⟩, ⟨trivial, trivial⟩⟩⟩)
theorem V121.cfgOk (B : Nat) : CfgOk (V121.cfg B) := cfgOk_of (by kernel_rfl) (by kernel_rfl) extNil
theorem V121.sound {a : Option Addr} {d f : Nat} {g : Int} {w : World} {R : Value → World → Prop} (h : V121.vc w.heap.size R a d f g w) : Calls Tryz.prog 121 ⟨[.agg ⟨[.slice a d f]⟩, .int .i64 g]⟩ w fun e w' => ∃ v, e = .returned v ∧ R v w' :=
 calls_wpfP (c := V121.cfg w.heap.size) (fn := Tryz.f121) (x := V121.code) (V121.cuts w.heap.size R) V121.h (V121.cfgOk _) mixed Tryz.func121 (by kernel_rfl) (by kernel_rfl) (by kernel_rfl) rfl (V121.obl _ _) ((V121.vc_eq _ _ a d f g _).symm ▸ h)
def V46.b3 (B : Nat) (R : Value → World → Prop) (a : Int) (c : Bool) (w : World) : Prop :=
 if c = true
 then (Ret B w (R (.tuple ⟨[.int .i64 6, .int .i64 0, .int .i64 0, .bool true]⟩)))
 else (if (a == 24) = true
 then (Ret B w (R (.tuple ⟨[.int .i64 7, .int .i64 0, .int .i64 0, .bool true]⟩)))
 else (if (a == 26) = true
 then (Ret B w (R (.tuple ⟨[.int .i64 0, .int .i64 0, .int .i64 0, .bool true]⟩)))
 else (Ret B w (R (.tuple ⟨[.int .i64 0, .int .i64 0, .int .i64 0, .bool false]⟩)))))
def V46.b2 (B : Nat) (R : Value → World → Prop) (a : Int) (c : Bool) (w : World) : Prop :=
 if c = true
 then (Ret B w (R (.tuple ⟨[.int .i64 0, .int .i64 1, .int .i64 0, .bool true]⟩)))
 else (if (a == 19) = true
 then (Ret B w (R (.tuple ⟨[.int .i64 5, .int .i64 (-1), .int .i64 0, .bool true]⟩)))
 else (if (a == 21) = true
 then (Ret B w (R (.tuple ⟨[.int .i64 0, .int .i64 0, .int .i64 2, .bool true]⟩)))
 else (if (a == 23) = true
 then (V46.b3 B R a (a == 23) w)
 else (V46.b3 B R a (a == 25) w))))
def V46.b1 (B : Nat) (R : Value → World → Prop) (a : Int) (c : Bool) (w : World) : Prop :=
 if c = true
 then (Ret B w (R (.tuple ⟨[.int .i64 0, .int .i64 1, .int .i64 1, .bool true]⟩)))
 else (if (a == 15) = true
 then (Ret B w (R (.tuple ⟨[.int .i64 4, .int .i64 0, .int .i64 0, .bool true]⟩)))
 else (if (a == 16) = true
 then (Ret B w (R (.tuple ⟨[.int .i64 4, .int .i64 1, .int .i64 0, .bool true]⟩)))
 else (if (a == 17) = true
 then (Ret B w (R (.tuple ⟨[.int .i64 5, .int .i64 (-1), .int .i64 1, .bool true]⟩)))
 else (if (a == 18) = true
 then (V46.b2 B R a (a == 18) w)
 else (if (a == 20) = true
 then (V46.b2 B R a (a == 20) w)
 else (if (a == 22) = true
 then (V46.b2 B R a (a == 22) w)
 else (V46.b2 B R a (a == 27) w)))))))
def V46.b0 (B : Nat) (R : Value → World → Prop) (a : Int) (c : Bool) (w : World) : Prop :=
 if c = true
 then (Ret B w (R (.tuple ⟨[.int .i64 0, .int .i64 2, .int .i64 1, .bool true]⟩)))
 else (if (a == 9) = true
 then (V46.b1 B R a (a == 9) w)
 else (V46.b1 B R a (a == 10) w))
def V46.vc (B : Nat) (R : Value → World → Prop) (a : Int) (w : World) : Prop :=
 if (a == 1) = true
 then (Ret B w (R (.tuple ⟨[.int .i64 1, .int .i64 0, .int .i64 1, .bool true]⟩)))
 else (if (a == 2) = true
 then (Ret B w (R (.tuple ⟨[.int .i64 2, .int .i64 0, .int .i64 1, .bool true]⟩)))
 else (if (a == 3) = true
 then (Ret B w (R (.tuple ⟨[.int .i64 3, .int .i64 0, .int .i64 1, .bool true]⟩)))
 else (if (a == 4) = true
 then (Ret B w (R (.tuple ⟨[.int .i64 3, .int .i64 1, .int .i64 0, .bool true]⟩)))
 else (if (a == 5) = true
 then (V46.b0 B R a (a == 5) w)
 else (if (a == 6) = true
 then (V46.b0 B R a (a == 6) w)
 else (if (a == 7) = true
 then (V46.b0 B R a (a == 7) w)
 else (if (a == 8) = true
 then (V46.b0 B R a (a == 8) w)
 else (if (a == 11) = true
 then (V46.b0 B R a (a == 11) w)
 else (if (a == 12) = true
 then (V46.b0 B R a (a == 12) w)
 else (if (a == 13) = true
 then (V46.b0 B R a (a == 13) w)
 else (V46.b0 B R a (a == 14) w)))))))))))
noncomputable def V46.cfg (B : Nat) : Cfg := ⟨Tryz.prog, ⟨49, B⟩, [], hasN [], hasN [], look []⟩
noncomputable def V46.code : Code := (Tryz.f46.body).getD .skip
noncomputable def V46.cuts (B : Nat) (R : Value → World → Prop) : Nat → Cut := nthC [⟨[(6, .one (.int .i64)), (15, .one (.bool))], [], fun fs vs bs w => V46.b0 B R (iV (nthV vs 0)) (bV (nthV vs 1)) w⟩,
 ⟨[(6, .one (.int .i64)), (24, .one (.bool))], [], fun fs vs bs w => V46.b1 B R (iV (nthV vs 0)) (bV (nthV vs 1)) w⟩,
 ⟨[(6, .one (.int .i64)), (33, .one (.bool))], [], fun fs vs bs w => V46.b2 B R (iV (nthV vs 0)) (bV (nthV vs 1)) w⟩,
 ⟨[(6, .one (.int .i64)), (42, .one (.bool))], [], fun fs vs bs w => V46.b3 B R (iV (nthV vs 0)) (bV (nthV vs 1)) w⟩]
noncomputable def V46.h : H := .s (.z) (.s (.s (.z) (.b (.s (.z) (.c (.s (.z) (.z)) (.s (.z) (.c (.s (.z) (.z)) (.s (.z) (.c (.s (.z) (.z)) (.s (.z) (.c (.s (.z) (.z)) (.cut 0 (.s (.z) (.c (.z) (.s (.z) (.c (.z) (.s (.z) (.c (.z) (.s (.z) (.c (.z) (.s (.z) (.c (.z) (.s (.z) (.c (.z) (.s (.z) (.c (.z) (.z))))))))))))))) (.c (.s (.z) (.z)) (.cut 1 (.s (.z) (.c (.z) (.z))) (.c (.s (.z) (.z)) (.s (.z) (.c (.s (.z) (.z)) (.s (.z) (.c (.s (.z) (.z)) (.s (.z) (.c (.s (.z) (.z)) (.cut 2 (.s (.z) (.c (.z) (.s (.z) (.c (.z) (.s (.z) (.c (.z) (.z))))))) (.c (.s (.z) (.z)) (.s (.z) (.c (.s (.z) (.z)) (.s (.z) (.c (.s (.z) (.z)) (.cut 3 (.s (.z) (.c (.z) (.z))) (.c (.s (.z) (.z)) (.s (.z) (.c (.s (.z) (.z)) (.s (.z) (.c (.s (.z) (.z)) (.z))))))))))))))))))))))))))))))))) (.s (.z) (.z)))
theorem V46.vc_eq (B : Nat) (R : Value → World → Prop) (a : Int) (w : World) : wpf (V46.cfg B) (V46.cuts B R) V46.code V46.h [] (postOf Tryz.prog B (Tryz.f46.results.toList) R) (argE 0 [.int .i64 a]) [] w = V46.vc B R a w := by kernel_rfl
theorem V46.obl (B : Nat) (R : Value → World → Prop) : oblP (V46.cfg B) (V46.cuts B R) V46.code V46.h [] (postOf Tryz.prog B (Tryz.f46.results.toList) R) := by
 have e : oblP (V46.cfg B) (V46.cuts B R) V46.code V46.h [] (postOf Tryz.prog B (Tryz.f46.results.toList) R) = (True ∧ ((True ∧ (True ∧ ((True ∧ True) ∧ (True ∧ ((True ∧ True) ∧ (True ∧ ((True ∧ True) ∧ (True ∧ ((True ∧ True) ∧ ((True ∧ (True ∧ (True ∧ (True ∧ (True ∧ (True ∧ (True ∧ (True ∧ (True ∧ (True ∧ (True ∧ (True ∧ (True ∧ (True ∧ True)))))))))))))) ∧ (∀ (a : Int) (c : Bool) (w : World), V46.b0 B R a c w → V46.b0 B R a c w) ∧ ((True ∧ True) ∧ ((True ∧ (True ∧ True)) ∧ (∀ (a : Int) (d : Bool) (w : World), V46.b1 B R a d w → V46.b1 B R a d w) ∧ ((True ∧ True) ∧ (True ∧ ((True ∧ True) ∧ (True ∧ ((True ∧ True) ∧ (True ∧ ((True ∧ True) ∧ ((True ∧ (True ∧ (True ∧ (True ∧ (True ∧ (True ∧ True)))))) ∧ (∀ (a : Int) (f : Bool) (w : World), V46.b2 B R a f w → V46.b2 B R a f w) ∧ ((True ∧ True) ∧ (True ∧ ((True ∧ True) ∧ (True ∧ ((True ∧ True) ∧ ((True ∧ (True ∧ True)) ∧ (∀ (a : Int) (g : Bool) (w : World), V46.b3 B R a g w → V46.b3 B R a g w) ∧ ((True ∧ True) ∧ (True ∧ ((True ∧ True) ∧ (True ∧ ((True ∧ True) ∧ True))))))))))))))))))))))))))))))) ∧ (True ∧ True))) := by kernel_rfl
 exact e.mpr (⟨trivial, ⟨⟨trivial, ⟨trivial, ⟨⟨trivial, trivial⟩, ⟨trivial, ⟨⟨trivial, trivial⟩, ⟨trivial, ⟨⟨trivial, trivial⟩, ⟨trivial, ⟨⟨trivial, trivial⟩, ⟨⟨trivial, ⟨trivial, ⟨trivial, ⟨trivial, ⟨trivial, ⟨trivial, ⟨trivial, ⟨trivial, ⟨trivial, ⟨trivial, ⟨trivial, ⟨trivial, ⟨trivial, ⟨trivial, trivial⟩⟩⟩⟩⟩⟩⟩⟩⟩⟩⟩⟩⟩⟩, fun a c w h => h, ⟨⟨trivial, trivial⟩, ⟨⟨trivial, ⟨trivial, trivial⟩⟩, fun a d w h => h, ⟨⟨trivial, trivial⟩, ⟨trivial, ⟨⟨trivial, trivial⟩, ⟨trivial, ⟨⟨trivial, trivial⟩, ⟨trivial, ⟨⟨trivial, trivial⟩, ⟨⟨trivial, ⟨trivial, ⟨trivial, ⟨trivial, ⟨trivial, ⟨trivial, trivial⟩⟩⟩⟩⟩⟩, fun a f w h => h, ⟨⟨trivial, trivial⟩, ⟨trivial, ⟨⟨trivial, trivial⟩, ⟨trivial, ⟨⟨trivial, trivial⟩, ⟨⟨trivial, ⟨trivial, trivial⟩⟩, fun a g w h => h, ⟨⟨trivial, trivial⟩, ⟨trivial, ⟨⟨trivial, trivial⟩, ⟨trivial, ⟨⟨trivial, trivial⟩, trivial⟩⟩⟩⟩⟩⟩⟩⟩⟩⟩⟩⟩⟩⟩⟩⟩⟩⟩⟩⟩⟩⟩⟩⟩⟩⟩⟩⟩⟩⟩⟩, ⟨trivial, trivial⟩⟩⟩)
theorem V46.cfgOk (B : Nat) : CfgOk (V46.cfg B) := cfgOk_of (by kernel_rfl) (by kernel_rfl) extNil
theorem V46.sound {a : Int} {w : World} {R : Value → World → Prop} (h : V46.vc w.heap.size R a w) : Calls Tryz.prog 46 ⟨[.int .i64 a]⟩ w fun e w' => ∃ v, e = .returned v ∧ R v w' :=
 calls_wpfP (c := V46.cfg w.heap.size) (fn := Tryz.f46) (x := V46.code) (V46.cuts w.heap.size R) V46.h (V46.cfgOk _) mixed Tryz.func46 (by kernel_rfl) (by kernel_rfl) (by kernel_rfl) rfl (V46.obl _ _) ((V46.vc_eq _ _ a _).symm ▸ h)
def V82.b1 (B : Nat) (R : Value → World → Prop) (a : Bool) (c : Nat) (d f g : Int) (i : Option Addr) (j l : Nat) (w : World) : Prop :=
 if a = true
 then (Ret B w (R (.bool false)))
 else (if (decide (g < 0)) = false
 then (if (decide (g > IntKind.wrap .i64 (f - d))) = true
 then (Ret B w (R (.bool false)))
 else (if (decide ((j : Int) ≥ 1)) = true
 then (Ret B w (R (.bool (decide ((j : Int) ≤ 64)))))
 else (Ret B w (R (.bool false)))))
 else (Ret B w (R (.bool false))))
def V82.b0 (B : Nat) (R : Value → World → Prop) (a : Bool) (c : Nat) (d f g : Int) (i : Option Addr) (j l : Nat) (w : World) : Prop :=
 if a = true
 then (Ret B w (R (.bool false)))
 else (if (decide (f < d)) = false
 then (V82.b1 B R (decide (f > 8)) c d f g i j l w)
 else (V82.b1 B R true c d f g i j l w))
def V82.vc (B : Nat) (R : Value → World → Prop) (a c d : Int) (f : Option Addr) (g i : Nat) (w : World) : Prop :=
 ∀ j : Nat, w.heap.size ≤ j →
 if (decide (a < 0)) = false
 then (V82.b0 B R (decide (a > 3)) j a c d f g i w)
 else (V82.b0 B R true j a c d f g i w)
noncomputable def V82.cfg (B : Nat) : Cfg := ⟨Tryz.prog, ⟨47, B⟩, [], hasN [], hasN [], look []⟩
noncomputable def V82.code : Code := (Tryz.f82.body).getD .skip
noncomputable def V82.cuts (B : Nat) (R : Value → World → Prop) : Nat → Cut := nthC [⟨[(3, .one (.bool))], [(1, 63, [.int .i64, .int .i64, .int .i64, .slice])], fun fs vs bs w => V82.b0 B R (bV (nthV vs 0)) (nthB bs 0).blk (iV (nthV (nthB bs 0).cells 0)) (iV (nthV (nthB bs 0).cells 1)) (iV (nthV (nthB bs 0).cells 2)) (slA (nthV (nthB bs 0).cells 3)) (slL (nthV (nthB bs 0).cells 3)) (slC (nthV (nthB bs 0).cells 3)) w⟩,
 ⟨[(12, .one (.bool))], [(1, 63, [.int .i64, .int .i64, .int .i64, .slice])], fun fs vs bs w => V82.b1 B R (bV (nthV vs 0)) (nthB bs 0).blk (iV (nthV (nthB bs 0).cells 0)) (iV (nthV (nthB bs 0).cells 1)) (iV (nthV (nthB bs 0).cells 2)) (slA (nthV (nthB bs 0).cells 3)) (slL (nthV (nthB bs 0).cells 3)) (slC (nthV (nthB bs 0).cells 3)) w⟩]
noncomputable def V82.h : H := .s (.z) (.s (.b (.cut 0 (.z) (.c (.s (.z) (.z)) (.cut 1 (.z) (.c (.s (.z) (.z)) (.s (.z) (.c (.s (.z) (.z)) (.z)))))))) (.s (.z) (.z)))
theorem V82.vc_eq (B : Nat) (R : Value → World → Prop) (a c d : Int) (f : Option Addr) (g i : Nat) (w : World) : wpf (V82.cfg B) (V82.cuts B R) V82.code V82.h [] (postOf Tryz.prog B (Tryz.f82.results.toList) R) (argE 0 [.agg ⟨[.int .i64 a, .int .i64 c, .int .i64 d, .slice f g i]⟩]) [] w = V82.vc B R a c d f g i w := by kernel_rfl
theorem V82.obl (B : Nat) (R : Value → World → Prop) : oblP (V82.cfg B) (V82.cuts B R) V82.code V82.h [] (postOf Tryz.prog B (Tryz.f82.results.toList) R) := by
 have e : oblP (V82.cfg B) (V82.cuts B R) V82.code V82.h [] (postOf Tryz.prog B (Tryz.f82.results.toList) R) = (True ∧ ((True ∧ (∀ (a : Bool) (c : Nat) (d f g : Int) (i : Option Addr) (j l : Nat) (w : World), V82.b0 B R a c d f g i j l w → V82.b0 B R a c d f g i j l w) ∧ ((True ∧ True) ∧ (True ∧ (∀ (m : Bool) (c : Nat) (d f g : Int) (i : Option Addr) (j l : Nat) (w : World), V82.b1 B R m c d f g i j l w → V82.b1 B R m c d f g i j l w) ∧ ((True ∧ True) ∧ (True ∧ ((True ∧ True) ∧ True)))))) ∧ (True ∧ True))) := by kernel_rfl
 exact e.mpr (⟨trivial, ⟨⟨trivial, fun a c d f g i j l w h => h, ⟨⟨trivial, trivial⟩, ⟨trivial, fun m c d f g i j l w h => h, ⟨⟨trivial, trivial⟩, ⟨trivial, ⟨⟨trivial, trivial⟩, trivial⟩⟩⟩⟩⟩⟩, ⟨trivial, trivial⟩⟩⟩)
theorem V82.cfgOk (B : Nat) : CfgOk (V82.cfg B) := cfgOk_of (by kernel_rfl) (by kernel_rfl) extNil
theorem V82.sound {a d f : Int} {g : Option Addr} {i j : Nat} {w : World} {R : Value → World → Prop} (h : V82.vc w.heap.size R a d f g i j w) : Calls Tryz.prog 82 ⟨[.agg ⟨[.int .i64 a, .int .i64 d, .int .i64 f, .slice g i j]⟩]⟩ w fun e w' => ∃ v, e = .returned v ∧ R v w' :=
 calls_wpfP (c := V82.cfg w.heap.size) (fn := Tryz.f82) (x := V82.code) (V82.cuts w.heap.size R) V82.h (V82.cfgOk _) mixed Tryz.func82 (by kernel_rfl) (by kernel_rfl) (by kernel_rfl) rfl (V82.obl _ _) ((V82.vc_eq _ _ a d f g i j _).symm ▸ h)
end Go.Proofs.YtidcpndlloppdaaGreatDoor
