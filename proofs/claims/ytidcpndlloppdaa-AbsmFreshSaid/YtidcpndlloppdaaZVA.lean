import Derived.Test.YtidcpndlloppdaaZEngC
import Derived.Test.YtidcpndlloppdaaProg
/-
 What the engine makes of the loaded functions 63, 80, 76, 81, 31, 84, 78, 72: conditions under which a call returns as told, and proofs of that.
 Conditions: none. Printed by a program of this project.
-/
set_option linter.unusedVariables false
set_option maxRecDepth 100000
namespace Go.Proofs.Ytidcpndlloppdaa
theorem mixed : Try.prog.follows .mixedOrders = true := by kernel_rfl
def V63.b1 (B : Nat) (R : Value → World → Prop) (a : Int) (c : Bool) (w : World) : Prop :=
 if c = true
 then (Ret B w (R (.int .i64 2)))
 else (if (a == 4) = true
 then (if (a == 4) = true
 then (Ret B w (R (.int .i64 1)))
 else (Ret B w (R (.int .i64 0))))
 else (if (a == 9) = true
 then (if (a == 9) = true
 then (Ret B w (R (.int .i64 1)))
 else (Ret B w (R (.int .i64 0))))
 else (if (a == 10) = true
 then (if (a == 10) = true
 then (Ret B w (R (.int .i64 1)))
 else (Ret B w (R (.int .i64 0))))
 else (if (a == 16) = true
 then (if (a == 16) = true
 then (Ret B w (R (.int .i64 1)))
 else (Ret B w (R (.int .i64 0))))
 else (if (a == 18) = true
 then (if (a == 18) = true
 then (Ret B w (R (.int .i64 1)))
 else (Ret B w (R (.int .i64 0))))
 else (if (a == 20) = true
 then (if (a == 20) = true
 then (Ret B w (R (.int .i64 1)))
 else (Ret B w (R (.int .i64 0))))
 else (if (a == 22) = true
 then (if (a == 22) = true
 then (Ret B w (R (.int .i64 1)))
 else (Ret B w (R (.int .i64 0))))
 else (if (a == 27) = true
 then (Ret B w (R (.int .i64 1)))
 else (Ret B w (R (.int .i64 0)))))))))))
def V63.b0 (B : Nat) (R : Value → World → Prop) (a : Int) (c : Bool) (d : Nat) (f g i : Int) (j : Nat) (l : Option Addr) (m n : Nat) (w : World) : Prop :=
 if c = true
 then (CallK Try.prog 84 [.agg ⟨[.slice l m n]⟩, .int .i64 g] B w [d, j] fun v o => 
 ∃ p : Int, v = .int .i64 p ∧
 Ret B o (R (.int .i64 p)))
 else (if (a == 5) = true
 then (V63.b1 B R a (a == 5) w)
 else (if (a == 6) = true
 then (V63.b1 B R a (a == 6) w)
 else (if (a == 7) = true
 then (V63.b1 B R a (a == 7) w)
 else (if (a == 8) = true
 then (V63.b1 B R a (a == 8) w)
 else (if (a == 11) = true
 then (V63.b1 B R a (a == 11) w)
 else (if (a == 12) = true
 then (V63.b1 B R a (a == 12) w)
 else (if (a == 13) = true
 then (V63.b1 B R a (a == 13) w)
 else (V63.b1 B R a (a == 14) w))))))))
def V63.vc (B : Nat) (R : Value → World → Prop) (a : Option Addr) (c d : Nat) (f g i : Int) (w : World) : Prop :=
 ∀ j : Nat, w.heap.size ≤ j →
 ∀ l : Nat, w.heap.size ≤ l →
 if (f == 17) = true
 then (V63.b0 B R f (f == 17) l f g i j a c d w)
 else (V63.b0 B R f (f == 19) l f g i j a c d w)
noncomputable def V63.cfg (B : Nat) : Cfg := ⟨Try.prog, ⟨32, B⟩, [], hasN [84], hasN [], look []⟩
noncomputable def V63.code : Code := (Try.f63.body).getD .skip
noncomputable def V63.cuts (B : Nat) (R : Value → World → Prop) : Nat → Cut := nthC [⟨[(6, .one (.int .i64)), (7, .one (.bool))], [(3, 23, [.int .i64, .int .i64, .int .i64]), (2, 34, [.slice])], fun fs vs bs w => V63.b0 B R (iV (nthV vs 0)) (bV (nthV vs 1)) (nthB bs 0).blk (iV (nthV (nthB bs 0).cells 0)) (iV (nthV (nthB bs 0).cells 1)) (iV (nthV (nthB bs 0).cells 2)) (nthB bs 1).blk (slA (nthV (nthB bs 1).cells 0)) (slL (nthV (nthB bs 1).cells 0)) (slC (nthV (nthB bs 1).cells 0)) w⟩,
 ⟨[(6, .one (.int .i64)), (14, .one (.bool))], [], fun fs vs bs w => V63.b1 B R (iV (nthV vs 0)) (bV (nthV vs 1)) w⟩]
noncomputable def V63.h : H := .s (.z) (.s (.s (.z) (.b (.cut 0 (.s (.z) (.c (.z) (.z))) (.c (.s (.z) (.z)) (.cut 1 (.s (.z) (.c (.z) (.s (.z) (.c (.z) (.s (.z) (.c (.z) (.s (.z) (.c (.z) (.s (.z) (.c (.z) (.s (.z) (.c (.z) (.s (.z) (.c (.z) (.z))))))))))))))) (.c (.s (.z) (.z)) (.s (.s (.z) (.c (.z) (.s (.z) (.c (.z) (.s (.z) (.c (.z) (.s (.z) (.c (.z) (.s (.z) (.c (.z) (.s (.z) (.c (.z) (.s (.z) (.c (.z) (.z))))))))))))))) (.c (.s (.z) (.z)) (.z))))))))) (.s (.z) (.z)))
theorem V63.vc_eq (B : Nat) (R : Value → World → Prop) (a : Option Addr) (c d : Nat) (f g i : Int) (w : World) : wpf (V63.cfg B) (V63.cuts B R) V63.code V63.h [] (postOf Try.prog B (Try.f63.results.toList) R) (argE 0 [.agg ⟨[.slice a c d]⟩, .agg ⟨[.int .i64 f, .int .i64 g, .int .i64 i]⟩]) [] w = V63.vc B R a c d f g i w := by kernel_rfl
theorem V63.obl (B : Nat) (R : Value → World → Prop) : oblP (V63.cfg B) (V63.cuts B R) V63.code V63.h [] (postOf Try.prog B (Try.f63.results.toList) R) := by
 have e : oblP (V63.cfg B) (V63.cuts B R) V63.code V63.h [] (postOf Try.prog B (Try.f63.results.toList) R) = (True ∧ ((True ∧ ((True ∧ (True ∧ True)) ∧ (∀ (a : Int) (c : Bool) (d : Nat) (f g i : Int) (j : Nat) (l : Option Addr) (m n : Nat) (w : World), V63.b0 B R a c d f g i j l m n w → V63.b0 B R a c d f g i j l m n w) ∧ ((True ∧ True) ∧ ((True ∧ (True ∧ (True ∧ (True ∧ (True ∧ (True ∧ (True ∧ (True ∧ (True ∧ (True ∧ (True ∧ (True ∧ (True ∧ (True ∧ True)))))))))))))) ∧ (∀ (a : Int) (o : Bool) (w : World), V63.b1 B R a o w → V63.b1 B R a o w) ∧ ((True ∧ True) ∧ ((True ∧ (True ∧ (True ∧ (True ∧ (True ∧ (True ∧ (True ∧ (True ∧ (True ∧ (True ∧ (True ∧ (True ∧ (True ∧ (True ∧ True)))))))))))))) ∧ ((True ∧ True) ∧ True))))))) ∧ (True ∧ True))) := by kernel_rfl
 exact e.mpr (⟨trivial, ⟨⟨trivial, ⟨⟨trivial, ⟨trivial, trivial⟩⟩, fun a c d f g i j l m n w h => h, ⟨⟨trivial, trivial⟩, ⟨⟨trivial, ⟨trivial, ⟨trivial, ⟨trivial, ⟨trivial, ⟨trivial, ⟨trivial, ⟨trivial, ⟨trivial, ⟨trivial, ⟨trivial, ⟨trivial, ⟨trivial, ⟨trivial, trivial⟩⟩⟩⟩⟩⟩⟩⟩⟩⟩⟩⟩⟩⟩, fun a o w h => h, ⟨⟨trivial, trivial⟩, ⟨⟨trivial, ⟨trivial, ⟨trivial, ⟨trivial, ⟨trivial, ⟨trivial, ⟨trivial, ⟨trivial, ⟨trivial, ⟨trivial, ⟨trivial, ⟨trivial, ⟨trivial, ⟨trivial, trivial⟩⟩⟩⟩⟩⟩⟩⟩⟩⟩⟩⟩⟩⟩, ⟨⟨trivial, trivial⟩, trivial⟩⟩⟩⟩⟩⟩⟩, ⟨trivial, trivial⟩⟩⟩)
theorem V63.cfgOk (B : Nat) : CfgOk (V63.cfg B) := cfgOk_of (by kernel_rfl) (by kernel_rfl) extNil
theorem V63.sound {a : Option Addr} {d f : Nat} {g i j : Int} {w : World} {R : Value → World → Prop} (h : V63.vc w.heap.size R a d f g i j w) : Calls Try.prog 63 ⟨[.agg ⟨[.slice a d f]⟩, .agg ⟨[.int .i64 g, .int .i64 i, .int .i64 j]⟩]⟩ w fun e w' => ∃ v, e = .returned v ∧ R v w' :=
 calls_wpfP (c := V63.cfg w.heap.size) (fn := Try.f63) (x := V63.code) (V63.cuts w.heap.size R) V63.h (V63.cfgOk _) mixed Try.func63 (by kernel_rfl) (by kernel_rfl) (by kernel_rfl) rfl (V63.obl _ _) ((V63.vc_eq _ _ a d f g i j _).symm ▸ h)
def V76.vc (B : Nat) (R : Value → World → Prop) (a c d : Int) (w : World) : Prop :=
 ∀ f : Nat, w.heap.size ≤ f →
 if (a == 21) = true
 then (Ret B w (R (.int .i64 2)))
 else (if (a == 1) = true
 then (if (a == 1) = true
 then (Ret B w (R (.int .i64 1)))
 else (Ret B w (R (.int .i64 0))))
 else (if (a == 2) = true
 then (if (a == 2) = true
 then (Ret B w (R (.int .i64 1)))
 else (Ret B w (R (.int .i64 0))))
 else (if (a == 3) = true
 then (if (a == 3) = true
 then (Ret B w (R (.int .i64 1)))
 else (Ret B w (R (.int .i64 0))))
 else (if (a == 17) = true
 then (if (a == 17) = true
 then (Ret B w (R (.int .i64 1)))
 else (Ret B w (R (.int .i64 0))))
 else (if (a == 5) = true
 then (if (a == 5) = true
 then (Ret B w (R (.int .i64 1)))
 else (Ret B w (R (.int .i64 0))))
 else (if (a == 6) = true
 then (if (a == 6) = true
 then (Ret B w (R (.int .i64 1)))
 else (Ret B w (R (.int .i64 0))))
 else (if (a == 7) = true
 then (if (a == 7) = true
 then (Ret B w (R (.int .i64 1)))
 else (Ret B w (R (.int .i64 0))))
 else (if (a == 8) = true
 then (if (a == 8) = true
 then (Ret B w (R (.int .i64 1)))
 else (Ret B w (R (.int .i64 0))))
 else (if (a == 11) = true
 then (if (a == 11) = true
 then (Ret B w (R (.int .i64 1)))
 else (Ret B w (R (.int .i64 0))))
 else (if (a == 12) = true
 then (if (a == 12) = true
 then (Ret B w (R (.int .i64 1)))
 else (Ret B w (R (.int .i64 0))))
 else (if (a == 13) = true
 then (if (a == 13) = true
 then (Ret B w (R (.int .i64 1)))
 else (Ret B w (R (.int .i64 0))))
 else (if (a == 14) = true
 then (if (a == 14) = true
 then (Ret B w (R (.int .i64 1)))
 else (Ret B w (R (.int .i64 0))))
 else (if (a == 9) = true
 then (if (a == 9) = true
 then (Ret B w (R (.int .i64 1)))
 else (Ret B w (R (.int .i64 0))))
 else (if (a == 10) = true
 then (Ret B w (R (.int .i64 1)))
 else (Ret B w (R (.int .i64 0)))))))))))))))))
noncomputable def V76.cfg (B : Nat) : Cfg := ⟨Try.prog, ⟨22, B⟩, [], hasN [], hasN [], look []⟩
noncomputable def V76.code : Code := (Try.f76.body).getD .skip
noncomputable def V76.cuts (B : Nat) (R : Value → World → Prop) : Nat → Cut := nthC []
noncomputable def V76.h : H := .s (.z) (.s (.s (.z) (.b (.s (.z) (.c (.s (.z) (.z)) (.s (.s (.z) (.c (.z) (.s (.z) (.c (.z) (.s (.z) (.c (.z) (.s (.z) (.c (.z) (.s (.z) (.c (.z) (.s (.z) (.c (.z) (.s (.z) (.c (.z) (.s (.z) (.c (.z) (.s (.z) (.c (.z) (.s (.z) (.c (.z) (.s (.z) (.c (.z) (.s (.z) (.c (.z) (.s (.z) (.c (.z) (.z))))))))))))))))))))))))))) (.c (.s (.z) (.z)) (.z))))))) (.s (.z) (.z)))
theorem V76.vc_eq (B : Nat) (R : Value → World → Prop) (a c d : Int) (w : World) : wpf (V76.cfg B) (V76.cuts B R) V76.code V76.h [] (postOf Try.prog B (Try.f76.results.toList) R) (argE 0 [.agg ⟨[.int .i64 a, .int .i64 c, .int .i64 d]⟩]) [] w = V76.vc B R a c d w := by kernel_rfl
theorem V76.obl (B : Nat) (R : Value → World → Prop) : oblP (V76.cfg B) (V76.cuts B R) V76.code V76.h [] (postOf Try.prog B (Try.f76.results.toList) R) := by
 have e : oblP (V76.cfg B) (V76.cuts B R) V76.code V76.h [] (postOf Try.prog B (Try.f76.results.toList) R) = (True ∧ ((True ∧ (True ∧ ((True ∧ True) ∧ ((True ∧ (True ∧ (True ∧ (True ∧ (True ∧ (True ∧ (True ∧ (True ∧ (True ∧ (True ∧ (True ∧ (True ∧ (True ∧ (True ∧ (True ∧ (True ∧ (True ∧ (True ∧ (True ∧ (True ∧ (True ∧ (True ∧ (True ∧ (True ∧ (True ∧ (True ∧ True)))))))))))))))))))))))))) ∧ ((True ∧ True) ∧ True))))) ∧ (True ∧ True))) := by kernel_rfl
 exact e.mpr (⟨trivial, ⟨⟨trivial, ⟨trivial, ⟨⟨trivial, trivial⟩, ⟨⟨trivial, ⟨trivial, ⟨trivial, ⟨trivial, ⟨trivial, ⟨trivial, ⟨trivial, ⟨trivial, ⟨trivial, ⟨trivial, ⟨trivial, ⟨trivial, ⟨trivial, ⟨trivial, ⟨trivial, ⟨trivial, ⟨trivial, ⟨trivial, ⟨trivial, ⟨trivial, ⟨trivial, ⟨trivial, ⟨trivial, ⟨trivial, ⟨trivial, ⟨trivial, trivial⟩⟩⟩⟩⟩⟩⟩⟩⟩⟩⟩⟩⟩⟩⟩⟩⟩⟩⟩⟩⟩⟩⟩⟩⟩⟩, ⟨⟨trivial, trivial⟩, trivial⟩⟩⟩⟩⟩, ⟨trivial, trivial⟩⟩⟩)
theorem V76.cfgOk (B : Nat) : CfgOk (V76.cfg B) := cfgOk_of (by kernel_rfl) (by kernel_rfl) extNil
theorem V76.sound {a d f : Int} {w : World} {R : Value → World → Prop} (h : V76.vc w.heap.size R a d f w) : Calls Try.prog 76 ⟨[.agg ⟨[.int .i64 a, .int .i64 d, .int .i64 f]⟩]⟩ w fun e w' => ∃ v, e = .returned v ∧ R v w' :=
 calls_wpfP (c := V76.cfg w.heap.size) (fn := Try.f76) (x := V76.code) (V76.cuts w.heap.size R) V76.h (V76.cfgOk _) mixed Try.func76 (by kernel_rfl) (by kernel_rfl) (by kernel_rfl) rfl (V76.obl _ _) ((V76.vc_eq _ _ a d f _).symm ▸ h)
def V84.vc (B : Nat) (R : Value → World → Prop) (a : Option Addr) (c d : Nat) (f : Int) (w : World) : Prop :=
 ∀ g : Nat, w.heap.size ≤ g →
 if (decide (f < 0)) = false
 then (if (decide (f ≥ (c : Int))) = true
 then (Ret B w (R (.int .i64 0)))
 else (∃ i : Addr, a = some i ∧ (0 : Int) ≤ f ∧ f < (c : Int) ∧
 ∃ j : Int, w.cell? ((i.add (f.toNat * 4)).add 0) = some (.int .i64 j) ∧
 Ret B w (R (.int .i64 (if 0 > j then 0 else j)))))
 else (Ret B w (R (.int .i64 0)))
noncomputable def V84.cfg (B : Nat) : Cfg := ⟨Try.prog, ⟨21, B⟩, [], hasN [], hasN [], look []⟩
noncomputable def V84.code : Code := (Try.f84.body).getD .skip
noncomputable def V84.cuts (B : Nat) (R : Value → World → Prop) : Nat → Cut := nthC []
noncomputable def V84.h : H := .s (.z) (.s (.s (.z) (.c (.s (.z) (.z)) (.z))) (.s (.z) (.z)))
theorem V84.vc_eq (B : Nat) (R : Value → World → Prop) (a : Option Addr) (c d : Nat) (f : Int) (w : World) : wpf (V84.cfg B) (V84.cuts B R) V84.code V84.h [] (postOf Try.prog B (Try.f84.results.toList) R) (argE 0 [.agg ⟨[.slice a c d]⟩, .int .i64 f]) [] w = V84.vc B R a c d f w := by kernel_rfl
theorem V84.obl (B : Nat) (R : Value → World → Prop) : oblP (V84.cfg B) (V84.cuts B R) V84.code V84.h [] (postOf Try.prog B (Try.f84.results.toList) R) := by
 have e : oblP (V84.cfg B) (V84.cuts B R) V84.code V84.h [] (postOf Try.prog B (Try.f84.results.toList) R) = (True ∧ ((True ∧ ((True ∧ True) ∧ True)) ∧ (True ∧ True))) := by kernel_rfl
 exact e.mpr (⟨trivial, ⟨⟨trivial, ⟨⟨trivial, trivial⟩, trivial⟩⟩, ⟨trivial, trivial⟩⟩⟩)
theorem V84.cfgOk (B : Nat) : CfgOk (V84.cfg B) := cfgOk_of (by kernel_rfl) (by kernel_rfl) extNil
theorem V84.sound {a : Option Addr} {d f : Nat} {g : Int} {w : World} {R : Value → World → Prop} (h : V84.vc w.heap.size R a d f g w) : Calls Try.prog 84 ⟨[.agg ⟨[.slice a d f]⟩, .int .i64 g]⟩ w fun e w' => ∃ v, e = .returned v ∧ R v w' :=
 calls_wpfP (c := V84.cfg w.heap.size) (fn := Try.f84) (x := V84.code) (V84.cuts w.heap.size R) V84.h (V84.cfgOk _) mixed Try.func84 (by kernel_rfl) (by kernel_rfl) (by kernel_rfl) rfl (V84.obl _ _) ((V84.vc_eq _ _ a d f g _).symm ▸ h)
def V78.b3 (B : Nat) (R : Value → World → Prop) (a : Int) (c : Bool) (w : World) : Prop :=
 if c = true
 then (Ret B w (R (.tuple ⟨[.int .i64 6, .int .i64 0, .int .i64 0, .bool true]⟩)))
 else (if (a == 24) = true
 then (Ret B w (R (.tuple ⟨[.int .i64 7, .int .i64 0, .int .i64 0, .bool true]⟩)))
 else (if (a == 26) = true
 then (Ret B w (R (.tuple ⟨[.int .i64 0, .int .i64 0, .int .i64 0, .bool true]⟩)))
 else (Ret B w (R (.tuple ⟨[.int .i64 0, .int .i64 0, .int .i64 0, .bool false]⟩)))))
def V78.b2 (B : Nat) (R : Value → World → Prop) (a : Int) (c : Bool) (w : World) : Prop :=
 if c = true
 then (Ret B w (R (.tuple ⟨[.int .i64 0, .int .i64 1, .int .i64 0, .bool true]⟩)))
 else (if (a == 19) = true
 then (Ret B w (R (.tuple ⟨[.int .i64 5, .int .i64 (-1), .int .i64 0, .bool true]⟩)))
 else (if (a == 21) = true
 then (Ret B w (R (.tuple ⟨[.int .i64 0, .int .i64 0, .int .i64 2, .bool true]⟩)))
 else (if (a == 23) = true
 then (V78.b3 B R a (a == 23) w)
 else (V78.b3 B R a (a == 25) w))))
def V78.b1 (B : Nat) (R : Value → World → Prop) (a : Int) (c : Bool) (w : World) : Prop :=
 if c = true
 then (Ret B w (R (.tuple ⟨[.int .i64 0, .int .i64 1, .int .i64 1, .bool true]⟩)))
 else (if (a == 15) = true
 then (Ret B w (R (.tuple ⟨[.int .i64 4, .int .i64 0, .int .i64 0, .bool true]⟩)))
 else (if (a == 16) = true
 then (Ret B w (R (.tuple ⟨[.int .i64 4, .int .i64 1, .int .i64 0, .bool true]⟩)))
 else (if (a == 17) = true
 then (Ret B w (R (.tuple ⟨[.int .i64 5, .int .i64 (-1), .int .i64 1, .bool true]⟩)))
 else (if (a == 18) = true
 then (V78.b2 B R a (a == 18) w)
 else (if (a == 20) = true
 then (V78.b2 B R a (a == 20) w)
 else (if (a == 22) = true
 then (V78.b2 B R a (a == 22) w)
 else (V78.b2 B R a (a == 27) w)))))))
def V78.b0 (B : Nat) (R : Value → World → Prop) (a : Int) (c : Bool) (w : World) : Prop :=
 if c = true
 then (Ret B w (R (.tuple ⟨[.int .i64 0, .int .i64 2, .int .i64 1, .bool true]⟩)))
 else (if (a == 9) = true
 then (V78.b1 B R a (a == 9) w)
 else (V78.b1 B R a (a == 10) w))
def V78.vc (B : Nat) (R : Value → World → Prop) (a : Int) (w : World) : Prop :=
 if (a == 1) = true
 then (Ret B w (R (.tuple ⟨[.int .i64 1, .int .i64 0, .int .i64 1, .bool true]⟩)))
 else (if (a == 2) = true
 then (Ret B w (R (.tuple ⟨[.int .i64 2, .int .i64 0, .int .i64 1, .bool true]⟩)))
 else (if (a == 3) = true
 then (Ret B w (R (.tuple ⟨[.int .i64 3, .int .i64 0, .int .i64 1, .bool true]⟩)))
 else (if (a == 4) = true
 then (Ret B w (R (.tuple ⟨[.int .i64 3, .int .i64 1, .int .i64 0, .bool true]⟩)))
 else (if (a == 5) = true
 then (V78.b0 B R a (a == 5) w)
 else (if (a == 6) = true
 then (V78.b0 B R a (a == 6) w)
 else (if (a == 7) = true
 then (V78.b0 B R a (a == 7) w)
 else (if (a == 8) = true
 then (V78.b0 B R a (a == 8) w)
 else (if (a == 11) = true
 then (V78.b0 B R a (a == 11) w)
 else (if (a == 12) = true
 then (V78.b0 B R a (a == 12) w)
 else (if (a == 13) = true
 then (V78.b0 B R a (a == 13) w)
 else (V78.b0 B R a (a == 14) w)))))))))))
noncomputable def V78.cfg (B : Nat) : Cfg := ⟨Try.prog, ⟨49, B⟩, [], hasN [], hasN [], look []⟩
noncomputable def V78.code : Code := (Try.f78.body).getD .skip
noncomputable def V78.cuts (B : Nat) (R : Value → World → Prop) : Nat → Cut := nthC [⟨[(6, .one (.int .i64)), (15, .one (.bool))], [], fun fs vs bs w => V78.b0 B R (iV (nthV vs 0)) (bV (nthV vs 1)) w⟩,
 ⟨[(6, .one (.int .i64)), (24, .one (.bool))], [], fun fs vs bs w => V78.b1 B R (iV (nthV vs 0)) (bV (nthV vs 1)) w⟩,
 ⟨[(6, .one (.int .i64)), (33, .one (.bool))], [], fun fs vs bs w => V78.b2 B R (iV (nthV vs 0)) (bV (nthV vs 1)) w⟩,
 ⟨[(6, .one (.int .i64)), (42, .one (.bool))], [], fun fs vs bs w => V78.b3 B R (iV (nthV vs 0)) (bV (nthV vs 1)) w⟩]
noncomputable def V78.h : H := .s (.z) (.s (.s (.z) (.b (.s (.z) (.c (.s (.z) (.z)) (.s (.z) (.c (.s (.z) (.z)) (.s (.z) (.c (.s (.z) (.z)) (.s (.z) (.c (.s (.z) (.z)) (.cut 0 (.s (.z) (.c (.z) (.s (.z) (.c (.z) (.s (.z) (.c (.z) (.s (.z) (.c (.z) (.s (.z) (.c (.z) (.s (.z) (.c (.z) (.s (.z) (.c (.z) (.z))))))))))))))) (.c (.s (.z) (.z)) (.cut 1 (.s (.z) (.c (.z) (.z))) (.c (.s (.z) (.z)) (.s (.z) (.c (.s (.z) (.z)) (.s (.z) (.c (.s (.z) (.z)) (.s (.z) (.c (.s (.z) (.z)) (.cut 2 (.s (.z) (.c (.z) (.s (.z) (.c (.z) (.s (.z) (.c (.z) (.z))))))) (.c (.s (.z) (.z)) (.s (.z) (.c (.s (.z) (.z)) (.s (.z) (.c (.s (.z) (.z)) (.cut 3 (.s (.z) (.c (.z) (.z))) (.c (.s (.z) (.z)) (.s (.z) (.c (.s (.z) (.z)) (.s (.z) (.c (.s (.z) (.z)) (.z))))))))))))))))))))))))))))))))) (.s (.z) (.z)))
theorem V78.vc_eq (B : Nat) (R : Value → World → Prop) (a : Int) (w : World) : wpf (V78.cfg B) (V78.cuts B R) V78.code V78.h [] (postOf Try.prog B (Try.f78.results.toList) R) (argE 0 [.int .i64 a]) [] w = V78.vc B R a w := by kernel_rfl
theorem V78.obl (B : Nat) (R : Value → World → Prop) : oblP (V78.cfg B) (V78.cuts B R) V78.code V78.h [] (postOf Try.prog B (Try.f78.results.toList) R) := by
 have e : oblP (V78.cfg B) (V78.cuts B R) V78.code V78.h [] (postOf Try.prog B (Try.f78.results.toList) R) = (True ∧ ((True ∧ (True ∧ ((True ∧ True) ∧ (True ∧ ((True ∧ True) ∧ (True ∧ ((True ∧ True) ∧ (True ∧ ((True ∧ True) ∧ ((True ∧ (True ∧ (True ∧ (True ∧ (True ∧ (True ∧ (True ∧ (True ∧ (True ∧ (True ∧ (True ∧ (True ∧ (True ∧ (True ∧ True)))))))))))))) ∧ (∀ (a : Int) (c : Bool) (w : World), V78.b0 B R a c w → V78.b0 B R a c w) ∧ ((True ∧ True) ∧ ((True ∧ (True ∧ True)) ∧ (∀ (a : Int) (d : Bool) (w : World), V78.b1 B R a d w → V78.b1 B R a d w) ∧ ((True ∧ True) ∧ (True ∧ ((True ∧ True) ∧ (True ∧ ((True ∧ True) ∧ (True ∧ ((True ∧ True) ∧ ((True ∧ (True ∧ (True ∧ (True ∧ (True ∧ (True ∧ True)))))) ∧ (∀ (a : Int) (f : Bool) (w : World), V78.b2 B R a f w → V78.b2 B R a f w) ∧ ((True ∧ True) ∧ (True ∧ ((True ∧ True) ∧ (True ∧ ((True ∧ True) ∧ ((True ∧ (True ∧ True)) ∧ (∀ (a : Int) (g : Bool) (w : World), V78.b3 B R a g w → V78.b3 B R a g w) ∧ ((True ∧ True) ∧ (True ∧ ((True ∧ True) ∧ (True ∧ ((True ∧ True) ∧ True))))))))))))))))))))))))))))))) ∧ (True ∧ True))) := by kernel_rfl
 exact e.mpr (⟨trivial, ⟨⟨trivial, ⟨trivial, ⟨⟨trivial, trivial⟩, ⟨trivial, ⟨⟨trivial, trivial⟩, ⟨trivial, ⟨⟨trivial, trivial⟩, ⟨trivial, ⟨⟨trivial, trivial⟩, ⟨⟨trivial, ⟨trivial, ⟨trivial, ⟨trivial, ⟨trivial, ⟨trivial, ⟨trivial, ⟨trivial, ⟨trivial, ⟨trivial, ⟨trivial, ⟨trivial, ⟨trivial, ⟨trivial, trivial⟩⟩⟩⟩⟩⟩⟩⟩⟩⟩⟩⟩⟩⟩, fun a c w h => h, ⟨⟨trivial, trivial⟩, ⟨⟨trivial, ⟨trivial, trivial⟩⟩, fun a d w h => h, ⟨⟨trivial, trivial⟩, ⟨trivial, ⟨⟨trivial, trivial⟩, ⟨trivial, ⟨⟨trivial, trivial⟩, ⟨trivial, ⟨⟨trivial, trivial⟩, ⟨⟨trivial, ⟨trivial, ⟨trivial, ⟨trivial, ⟨trivial, ⟨trivial, trivial⟩⟩⟩⟩⟩⟩, fun a f w h => h, ⟨⟨trivial, trivial⟩, ⟨trivial, ⟨⟨trivial, trivial⟩, ⟨trivial, ⟨⟨trivial, trivial⟩, ⟨⟨trivial, ⟨trivial, trivial⟩⟩, fun a g w h => h, ⟨⟨trivial, trivial⟩, ⟨trivial, ⟨⟨trivial, trivial⟩, ⟨trivial, ⟨⟨trivial, trivial⟩, trivial⟩⟩⟩⟩⟩⟩⟩⟩⟩⟩⟩⟩⟩⟩⟩⟩⟩⟩⟩⟩⟩⟩⟩⟩⟩⟩⟩⟩⟩⟩⟩, ⟨trivial, trivial⟩⟩⟩)
theorem V78.cfgOk (B : Nat) : CfgOk (V78.cfg B) := cfgOk_of (by kernel_rfl) (by kernel_rfl) extNil
theorem V78.sound {a : Int} {w : World} {R : Value → World → Prop} (h : V78.vc w.heap.size R a w) : Calls Try.prog 78 ⟨[.int .i64 a]⟩ w fun e w' => ∃ v, e = .returned v ∧ R v w' :=
 calls_wpfP (c := V78.cfg w.heap.size) (fn := Try.f78) (x := V78.code) (V78.cuts w.heap.size R) V78.h (V78.cfgOk _) mixed Try.func78 (by kernel_rfl) (by kernel_rfl) (by kernel_rfl) rfl (V78.obl _ _) ((V78.vc_eq _ _ a _).symm ▸ h)
def V72.b1 (B : Nat) (R : Value → World → Prop) (a : Bool) (c : Nat) (d f g : Int) (i : Option Addr) (j l : Nat) (w : World) : Prop :=
 if a = true
 then (Ret B w (R (.bool false)))
 else (if (decide (g < 0)) = false
 then (if (decide (g > IntKind.wrap .i64 (f - d))) = true
 then (Ret B w (R (.bool false)))
 else (if (decide ((j : Int) ≥ 1)) = true
 then (Ret B w (R (.bool (decide ((j : Int) ≤ 64)))))
 else (Ret B w (R (.bool false)))))
 else (Ret B w (R (.bool false))))
def V72.b0 (B : Nat) (R : Value → World → Prop) (a : Bool) (c : Nat) (d f g : Int) (i : Option Addr) (j l : Nat) (w : World) : Prop :=
 if a = true
 then (Ret B w (R (.bool false)))
 else (if (decide (f < d)) = false
 then (V72.b1 B R (decide (f > 8)) c d f g i j l w)
 else (V72.b1 B R true c d f g i j l w))
def V72.vc (B : Nat) (R : Value → World → Prop) (a c d : Int) (f : Option Addr) (g i : Nat) (w : World) : Prop :=
 ∀ j : Nat, w.heap.size ≤ j →
 if (decide (a < 0)) = false
 then (V72.b0 B R (decide (a > 3)) j a c d f g i w)
 else (V72.b0 B R true j a c d f g i w)
noncomputable def V72.cfg (B : Nat) : Cfg := ⟨Try.prog, ⟨47, B⟩, [], hasN [], hasN [], look []⟩
noncomputable def V72.code : Code := (Try.f72.body).getD .skip
noncomputable def V72.cuts (B : Nat) (R : Value → World → Prop) : Nat → Cut := nthC [⟨[(3, .one (.bool))], [(1, 26, [.int .i64, .int .i64, .int .i64, .slice])], fun fs vs bs w => V72.b0 B R (bV (nthV vs 0)) (nthB bs 0).blk (iV (nthV (nthB bs 0).cells 0)) (iV (nthV (nthB bs 0).cells 1)) (iV (nthV (nthB bs 0).cells 2)) (slA (nthV (nthB bs 0).cells 3)) (slL (nthV (nthB bs 0).cells 3)) (slC (nthV (nthB bs 0).cells 3)) w⟩,
 ⟨[(12, .one (.bool))], [(1, 26, [.int .i64, .int .i64, .int .i64, .slice])], fun fs vs bs w => V72.b1 B R (bV (nthV vs 0)) (nthB bs 0).blk (iV (nthV (nthB bs 0).cells 0)) (iV (nthV (nthB bs 0).cells 1)) (iV (nthV (nthB bs 0).cells 2)) (slA (nthV (nthB bs 0).cells 3)) (slL (nthV (nthB bs 0).cells 3)) (slC (nthV (nthB bs 0).cells 3)) w⟩]
noncomputable def V72.h : H := .s (.z) (.s (.b (.cut 0 (.z) (.c (.s (.z) (.z)) (.cut 1 (.z) (.c (.s (.z) (.z)) (.s (.z) (.c (.s (.z) (.z)) (.z)))))))) (.s (.z) (.z)))
theorem V72.vc_eq (B : Nat) (R : Value → World → Prop) (a c d : Int) (f : Option Addr) (g i : Nat) (w : World) : wpf (V72.cfg B) (V72.cuts B R) V72.code V72.h [] (postOf Try.prog B (Try.f72.results.toList) R) (argE 0 [.agg ⟨[.int .i64 a, .int .i64 c, .int .i64 d, .slice f g i]⟩]) [] w = V72.vc B R a c d f g i w := by kernel_rfl
theorem V72.obl (B : Nat) (R : Value → World → Prop) : oblP (V72.cfg B) (V72.cuts B R) V72.code V72.h [] (postOf Try.prog B (Try.f72.results.toList) R) := by
 have e : oblP (V72.cfg B) (V72.cuts B R) V72.code V72.h [] (postOf Try.prog B (Try.f72.results.toList) R) = (True ∧ ((True ∧ (∀ (a : Bool) (c : Nat) (d f g : Int) (i : Option Addr) (j l : Nat) (w : World), V72.b0 B R a c d f g i j l w → V72.b0 B R a c d f g i j l w) ∧ ((True ∧ True) ∧ (True ∧ (∀ (m : Bool) (c : Nat) (d f g : Int) (i : Option Addr) (j l : Nat) (w : World), V72.b1 B R m c d f g i j l w → V72.b1 B R m c d f g i j l w) ∧ ((True ∧ True) ∧ (True ∧ ((True ∧ True) ∧ True)))))) ∧ (True ∧ True))) := by kernel_rfl
 exact e.mpr (⟨trivial, ⟨⟨trivial, fun a c d f g i j l w h => h, ⟨⟨trivial, trivial⟩, ⟨trivial, fun m c d f g i j l w h => h, ⟨⟨trivial, trivial⟩, ⟨trivial, ⟨⟨trivial, trivial⟩, trivial⟩⟩⟩⟩⟩⟩, ⟨trivial, trivial⟩⟩⟩)
theorem V72.cfgOk (B : Nat) : CfgOk (V72.cfg B) := cfgOk_of (by kernel_rfl) (by kernel_rfl) extNil
theorem V72.sound {a d f : Int} {g : Option Addr} {i j : Nat} {w : World} {R : Value → World → Prop} (h : V72.vc w.heap.size R a d f g i j w) : Calls Try.prog 72 ⟨[.agg ⟨[.int .i64 a, .int .i64 d, .int .i64 f, .slice g i j]⟩]⟩ w fun e w' => ∃ v, e = .returned v ∧ R v w' :=
 calls_wpfP (c := V72.cfg w.heap.size) (fn := Try.f72) (x := V72.code) (V72.cuts w.heap.size R) V72.h (V72.cfgOk _) mixed Try.func72 (by kernel_rfl) (by kernel_rfl) (by kernel_rfl) rfl (V72.obl _ _) ((V72.vc_eq _ _ a d f g i j _).symm ▸ h)
end Go.Proofs.Ytidcpndlloppdaa
