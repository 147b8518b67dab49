import Derived.Test.YtidcpndlloppdaaGreatZEngC
import Derived.Test.YtidcpndlloppdaaGreatProg
/-
 What the engine makes of the loaded functions 99,117,159,118,61,108,142,115,157,110: conditions under which a call returns as told,and proofs of that.
 Conditions: none. Printed by a program of this project.
-/
set_option linter.unusedVariables false
set_option maxRecDepth 100000
namespace Go.Proofs.YtidcpndlloppdaaGreat
theorem mixed : Tryz.prog.follows .mixedOrders = true := by kernel_rfl
def V99.b1 (B : Nat) (R : Value → World → Prop) (a : Int) (c : Bool) (w : World) : Prop :=
 if c = true
 then (Ret B w (R (.int .i64 2)))
 else (if (a == 4) = true
 then (if (a == 4) = true
 then (Ret B w (R (.int .i64 1)))
 else (Ret B w (R (.int .i64 0))))
 else (if (a == 9) = true
 then (if (a == 9) = true
 then (Ret B w (R (.int .i64 1)))
 else (Ret B w (R (.int .i64 0))))
 else (if (a == 10) = true
 then (if (a == 10) = true
 then (Ret B w (R (.int .i64 1)))
 else (Ret B w (R (.int .i64 0))))
 else (if (a == 16) = true
 then (if (a == 16) = true
 then (Ret B w (R (.int .i64 1)))
 else (Ret B w (R (.int .i64 0))))
 else (if (a == 18) = true
 then (if (a == 18) = true
 then (Ret B w (R (.int .i64 1)))
 else (Ret B w (R (.int .i64 0))))
 else (if (a == 20) = true
 then (if (a == 20) = true
 then (Ret B w (R (.int .i64 1)))
 else (Ret B w (R (.int .i64 0))))
 else (if (a == 22) = true
 then (if (a == 22) = true
 then (Ret B w (R (.int .i64 1)))
 else (Ret B w (R (.int .i64 0))))
 else (if (a == 27) = true
 then (Ret B w (R (.int .i64 1)))
 else (Ret B w (R (.int .i64 0)))))))))))
def V99.b0 (B : Nat) (R : Value → World → Prop) (a : Int) (c : Bool) (d : Nat) (f g i : Int) (j : Nat) (l : Option Addr) (m n : Nat) (w : World) : Prop :=
 if c = true
 then (CallK Tryz.prog 142 [.agg ⟨[.slice l m n]⟩,.int .i64 g] B w [d,j] fun v o => 
 ∃ p : Int,v = .int .i64 p ∧
 Ret B o (R (.int .i64 p)))
 else (if (a == 5) = true
 then (V99.b1 B R a (a == 5) w)
 else (if (a == 6) = true
 then (V99.b1 B R a (a == 6) w)
 else (if (a == 7) = true
 then (V99.b1 B R a (a == 7) w)
 else (if (a == 8) = true
 then (V99.b1 B R a (a == 8) w)
 else (if (a == 11) = true
 then (V99.b1 B R a (a == 11) w)
 else (if (a == 12) = true
 then (V99.b1 B R a (a == 12) w)
 else (if (a == 13) = true
 then (V99.b1 B R a (a == 13) w)
 else (V99.b1 B R a (a == 14) w))))))))
def V99.vc (B : Nat) (R : Value → World → Prop) (a : Option Addr) (c d : Nat) (f g i : Int) (w : World) : Prop :=
 ∀ j : Nat,w.heap.size ≤ j →
 ∀ l : Nat,w.heap.size ≤ l →
 if (f == 17) = true
 then (V99.b0 B R f (f == 17) l f g i j a c d w)
 else (V99.b0 B R f (f == 19) l f g i j a c d w)
noncomputable def V99.cfg (B : Nat) : Cfg := ⟨Tryz.prog,⟨32,B⟩,[],hasN [142],hasN [],look []⟩
noncomputable def V99.code : Code := (Tryz.f99.body).getD .skip
noncomputable def V99.cuts (B : Nat) (R : Value → World → Prop) : Nat → Cut := nthC [⟨[(6,.one (.int .i64)),(7,.one (.bool))],[(3,105,[.int .i64,.int .i64,.int .i64]),(2,24,[.slice])],fun fs vs bs w => V99.b0 B R (iV (nthV vs 0)) (bV (nthV vs 1)) (nthB bs 0).blk (iV (nthV (nthB bs 0).cells 0)) (iV (nthV (nthB bs 0).cells 1)) (iV (nthV (nthB bs 0).cells 2)) (nthB bs 1).blk (slA (nthV (nthB bs 1).cells 0)) (slL (nthV (nthB bs 1).cells 0)) (slC (nthV (nthB bs 1).cells 0)) w⟩,
 ⟨[(6,.one (.int .i64)),(14,.one (.bool))],[],fun fs vs bs w => V99.b1 B R (iV (nthV vs 0)) (bV (nthV vs 1)) w⟩]
noncomputable def V99.h : H := .s (.z) (.s (.s (.z) (.b (.cut 0 (.s (.z) (.c (.z) (.z))) (.c (.s (.z) (.z)) (.cut 1 (.s (.z) (.c (.z) (.s (.z) (.c (.z) (.s (.z) (.c (.z) (.s (.z) (.c (.z) (.s (.z) (.c (.z) (.s (.z) (.c (.z) (.s (.z) (.c (.z) (.z))))))))))))))) (.c (.s (.z) (.z)) (.s (.s (.z) (.c (.z) (.s (.z) (.c (.z) (.s (.z) (.c (.z) (.s (.z) (.c (.z) (.s (.z) (.c (.z) (.s (.z) (.c (.z) (.s (.z) (.c (.z) (.z))))))))))))))) (.c (.s (.z) (.z)) (.z))))))))) (.s (.z) (.z)))
theorem V99.vc_eq (B : Nat) (R : Value → World → Prop) (a : Option Addr) (c d : Nat) (f g i : Int) (w : World) : wpf (V99.cfg B) (V99.cuts B R) V99.code V99.h [] (postOf Tryz.prog B (Tryz.f99.results.toList) R) (argE 0 [.agg ⟨[.slice a c d]⟩,.agg ⟨[.int .i64 f,.int .i64 g,.int .i64 i]⟩]) [] w = V99.vc B R a c d f g i w := by kernel_rfl
theorem V99.obl (B : Nat) (R : Value → World → Prop) : oblP (V99.cfg B) (V99.cuts B R) V99.code V99.h [] (postOf Tryz.prog B (Tryz.f99.results.toList) R) := by
 have e : oblP (V99.cfg B) (V99.cuts B R) V99.code V99.h [] (postOf Tryz.prog B (Tryz.f99.results.toList) R) = (True ∧ ((True ∧ ((True ∧ (True ∧ True)) ∧ (∀ (a : Int) (c : Bool) (d : Nat) (f g i : Int) (j : Nat) (l : Option Addr) (m n : Nat) (w : World),V99.b0 B R a c d f g i j l m n w → V99.b0 B R a c d f g i j l m n w) ∧ ((True ∧ True) ∧ ((True ∧ (True ∧ (True ∧ (True ∧ (True ∧ (True ∧ (True ∧ (True ∧ (True ∧ (True ∧ (True ∧ (True ∧ (True ∧ (True ∧ True)))))))))))))) ∧ (∀ (a : Int) (o : Bool) (w : World),V99.b1 B R a o w → V99.b1 B R a o w) ∧ ((True ∧ True) ∧ ((True ∧ (True ∧ (True ∧ (True ∧ (True ∧ (True ∧ (True ∧ (True ∧ (True ∧ (True ∧ (True ∧ (True ∧ (True ∧ (True ∧ True)))))))))))))) ∧ ((True ∧ True) ∧ True))))))) ∧ (True ∧ True))) := by kernel_rfl
 exact e.mpr (⟨trivial,⟨⟨trivial,⟨⟨trivial,⟨trivial,trivial⟩⟩,fun a c d f g i j l m n w h => h,⟨⟨trivial,trivial⟩,⟨⟨trivial,⟨trivial,⟨trivial,⟨trivial,⟨trivial,⟨trivial,⟨trivial,⟨trivial,⟨trivial,⟨trivial,⟨trivial,⟨trivial,⟨trivial,⟨trivial,trivial⟩⟩⟩⟩⟩⟩⟩⟩⟩⟩⟩⟩⟩⟩,fun a o w h => h,⟨⟨trivial,trivial⟩,⟨⟨trivial,⟨trivial,⟨trivial,⟨trivial,⟨trivial,⟨trivial,⟨trivial,⟨trivial,⟨trivial,⟨trivial,⟨trivial,⟨trivial,⟨trivial,⟨trivial,trivial⟩⟩⟩⟩⟩⟩⟩⟩⟩⟩⟩⟩⟩⟩,⟨⟨trivial,trivial⟩,trivial⟩⟩⟩⟩⟩⟩⟩,⟨trivial,trivial⟩⟩⟩)
theorem V99.cfgOk (B : Nat) : CfgOk (V99.cfg B) := cfgOk_of (by kernel_rfl) (by kernel_rfl) extNil
theorem V99.sound {a : Option Addr} {d f : Nat} {g i j : Int} {w : World} {R : Value → World → Prop} (h : V99.vc w.heap.size R a d f g i j w) : Calls Tryz.prog 99 ⟨[.agg ⟨[.slice a d f]⟩,.agg ⟨[.int .i64 g,.int .i64 i,.int .i64 j]⟩]⟩ w fun e w' => ∃ v,e = .returned v ∧ R v w' :=
 calls_wpfP (c := V99.cfg w.heap.size) (fn := Tryz.f99) (x := V99.code) (V99.cuts w.heap.size R) V99.h (V99.cfgOk _) mixed Tryz.func99 (by kernel_rfl) (by kernel_rfl) (by kernel_rfl) rfl (V99.obl _ _) ((V99.vc_eq _ _ a d f g i j _).symm ▸ h)
def V117.vc (B : Nat) (R : Value → World → Prop) (a : Option Addr) (c d : Nat) (f g i : Int) (w : World) : Prop :=
 ∀ j : Nat,w.heap.size ≤ j →
 ∀ l : Nat,w.heap.size ≤ l →
 CallK Tryz.prog 115 [.int .i64 f] B w [l,j] fun v m => 
 ∃ (n o p : Int) (q : Bool),v = .tuple ⟨[.int .i64 n,.int .i64 o,.int .i64 p,.bool q]⟩ ∧
 if (decide (o < 0)) = true
 then (if (decide (g < 0)) = false
 then (if (decide (g ≥ (c : Int))) = true
 then (Ret B m (R (.int .i64 0)))
 else (∃ r : Addr,a = some r ∧ (0 : Int) ≤ g ∧ g < (c : Int) ∧
 ∃ s : Int,m.cell? ((r.add (g.toNat * 4)).add 0) = some (.int .i64 s) ∧
 Ret B m (R (.int .i64 (if 0 > s then 0 else s)))))
 else (Ret B m (R (.int .i64 0))))
 else (Ret B m (R (.int .i64 o)))
noncomputable def V117.cfg (B : Nat) : Cfg := ⟨Tryz.prog,⟨39,B⟩,[],hasN [115],hasN [],look []⟩
noncomputable def V117.code : Code := (Tryz.f117.body).getD .skip
noncomputable def V117.cuts (B : Nat) (R : Value → World → Prop) : Nat → Cut := nthC []
noncomputable def V117.h : H := .s (.z) (.s (.z) (.s (.s (.z) (.c (.s (.s (.z) (.c (.s (.z) (.z)) (.z))) (.s (.z) (.z))) (.z))) (.s (.z) (.z))))
theorem V117.vc_eq (B : Nat) (R : Value → World → Prop) (a : Option Addr) (c d : Nat) (f g i : Int) (w : World) : wpf (V117.cfg B) (V117.cuts B R) V117.code V117.h [] (postOf Tryz.prog B (Tryz.f117.results.toList) R) (argE 0 [.agg ⟨[.slice a c d]⟩,.agg ⟨[.int .i64 f,.int .i64 g,.int .i64 i]⟩]) [] w = V117.vc B R a c d f g i w := by kernel_rfl
theorem V117.obl (B : Nat) (R : Value → World → Prop) : oblP (V117.cfg B) (V117.cuts B R) V117.code V117.h [] (postOf Tryz.prog B (Tryz.f117.results.toList) R) := by
 have e : oblP (V117.cfg B) (V117.cuts B R) V117.code V117.h [] (postOf Tryz.prog B (Tryz.f117.results.toList) R) = (True ∧ (True ∧ ((True ∧ (((True ∧ ((True ∧ True) ∧ True)) ∧ (True ∧ True)) ∧ True)) ∧ (True ∧ True)))) := by kernel_rfl
 exact e.mpr (⟨trivial,⟨trivial,⟨⟨trivial,⟨⟨⟨trivial,⟨⟨trivial,trivial⟩,trivial⟩⟩,⟨trivial,trivial⟩⟩,trivial⟩⟩,⟨trivial,trivial⟩⟩⟩⟩)
theorem V117.cfgOk (B : Nat) : CfgOk (V117.cfg B) := cfgOk_of (by kernel_rfl) (by kernel_rfl) extNil
theorem V117.sound {a : Option Addr} {d f : Nat} {g i j : Int} {w : World} {R : Value → World → Prop} (h : V117.vc w.heap.size R a d f g i j w) : Calls Tryz.prog 117 ⟨[.agg ⟨[.slice a d f]⟩,.agg ⟨[.int .i64 g,.int .i64 i,.int .i64 j]⟩]⟩ w fun e w' => ∃ v,e = .returned v ∧ R v w' :=
 calls_wpfP (c := V117.cfg w.heap.size) (fn := Tryz.f117) (x := V117.code) (V117.cuts w.heap.size R) V117.h (V117.cfgOk _) mixed Tryz.func117 (by kernel_rfl) (by kernel_rfl) (by kernel_rfl) rfl (V117.obl _ _) ((V117.vc_eq _ _ a d f g i j _).symm ▸ h)
def V159.vc (B : Nat) (R : Value → World → Prop) (a c d : Int) (w : World) : Prop :=
 ∀ f : Nat,w.heap.size ≤ f →
 if (a == 21) = true
 then (Ret B w (R (.int .i64 2)))
 else (if (a == 1) = true
 then (if (a == 1) = true
 then (Ret B w (R (.int .i64 1)))
 else (Ret B w (R (.int .i64 0))))
 else (if (a == 2) = true
 then (if (a == 2) = true
 then (Ret B w (R (.int .i64 1)))
 else (Ret B w (R (.int .i64 0))))
 else (if (a == 3) = true
 then (if (a == 3) = true
 then (Ret B w (R (.int .i64 1)))
 else (Ret B w (R (.int .i64 0))))
 else (if (a == 17) = true
 then (if (a == 17) = true
 then (Ret B w (R (.int .i64 1)))
 else (Ret B w (R (.int .i64 0))))
 else (if (a == 5) = true
 then (if (a == 5) = true
 then (Ret B w (R (.int .i64 1)))
 else (Ret B w (R (.int .i64 0))))
 else (if (a == 6) = true
 then (if (a == 6) = true
 then (Ret B w (R (.int .i64 1)))
 else (Ret B w (R (.int .i64 0))))
 else (if (a == 7) = true
 then (if (a == 7) = true
 then (Ret B w (R (.int .i64 1)))
 else (Ret B w (R (.int .i64 0))))
 else (if (a == 8) = true
 then (if (a == 8) = true
 then (Ret B w (R (.int .i64 1)))
 else (Ret B w (R (.int .i64 0))))
 else (if (a == 11) = true
 then (if (a == 11) = true
 then (Ret B w (R (.int .i64 1)))
 else (Ret B w (R (.int .i64 0))))
 else (if (a == 12) = true
 then (if (a == 12) = true
 then (Ret B w (R (.int .i64 1)))
 else (Ret B w (R (.int .i64 0))))
 else (if (a == 13) = true
 then (if (a == 13) = true
 then (Ret B w (R (.int .i64 1)))
 else (Ret B w (R (.int .i64 0))))
 else (if (a == 14) = true
 then (if (a == 14) = true
 then (Ret B w (R (.int .i64 1)))
 else (Ret B w (R (.int .i64 0))))
 else (if (a == 9) = true
 then (if (a == 9) = true
 then (Ret B w (R (.int .i64 1)))
 else (Ret B w (R (.int .i64 0))))
 else (if (a == 10) = true
 then (Ret B w (R (.int .i64 1)))
 else (Ret B w (R (.int .i64 0)))))))))))))))))
noncomputable def V159.cfg (B : Nat) : Cfg := ⟨Tryz.prog,⟨22,B⟩,[],hasN [],hasN [],look []⟩
noncomputable def V159.code : Code := (Tryz.f159.body).getD .skip
noncomputable def V159.cuts (B : Nat) (R : Value → World → Prop) : Nat → Cut := nthC []
noncomputable def V159.h : H := .s (.z) (.s (.s (.z) (.b (.s (.z) (.c (.s (.z) (.z)) (.s (.s (.z) (.c (.z) (.s (.z) (.c (.z) (.s (.z) (.c (.z) (.s (.z) (.c (.z) (.s (.z) (.c (.z) (.s (.z) (.c (.z) (.s (.z) (.c (.z) (.s (.z) (.c (.z) (.s (.z) (.c (.z) (.s (.z) (.c (.z) (.s (.z) (.c (.z) (.s (.z) (.c (.z) (.s (.z) (.c (.z) (.z))))))))))))))))))))))))))) (.c (.s (.z) (.z)) (.z))))))) (.s (.z) (.z)))
theorem V159.vc_eq (B : Nat) (R : Value → World → Prop) (a c d : Int) (w : World) : wpf (V159.cfg B) (V159.cuts B R) V159.code V159.h [] (postOf Tryz.prog B (Tryz.f159.results.toList) R) (argE 0 [.agg ⟨[.int .i64 a,.int .i64 c,.int .i64 d]⟩]) [] w = V159.vc B R a c d w := by kernel_rfl
theorem V159.obl (B : Nat) (R : Value → World → Prop) : oblP (V159.cfg B) (V159.cuts B R) V159.code V159.h [] (postOf Tryz.prog B (Tryz.f159.results.toList) R) := by
 have e : oblP (V159.cfg B) (V159.cuts B R) V159.code V159.h [] (postOf Tryz.prog B (Tryz.f159.results.toList) R) = (True ∧ ((True ∧ (True ∧ ((True ∧ True) ∧ ((True ∧ (True ∧ (True ∧ (True ∧ (True ∧ (True ∧ (True ∧ (True ∧ (True ∧ (True ∧ (True ∧ (True ∧ (True ∧ (True ∧ (True ∧ (True ∧ (True ∧ (True ∧ (True ∧ (True ∧ (True ∧ (True ∧ (True ∧ (True ∧ (True ∧ (True ∧ True)))))))))))))))))))))))))) ∧ ((True ∧ True) ∧ True))))) ∧ (True ∧ True))) := by kernel_rfl
 exact e.mpr (⟨trivial,⟨⟨trivial,⟨trivial,⟨⟨trivial,trivial⟩,⟨⟨trivial,⟨trivial,⟨trivial,⟨trivial,⟨trivial,⟨trivial,⟨trivial,⟨trivial,⟨trivial,⟨trivial,⟨trivial,⟨trivial,⟨trivial,⟨trivial,⟨trivial,⟨trivial,⟨trivial,⟨trivial,⟨trivial,⟨trivial,⟨trivial,⟨trivial,⟨trivial,⟨trivial,⟨trivial,⟨trivial,trivial⟩⟩⟩⟩⟩⟩⟩⟩⟩⟩⟩⟩⟩⟩⟩⟩⟩⟩⟩⟩⟩⟩⟩⟩⟩⟩,⟨⟨trivial,trivial⟩,trivial⟩⟩⟩⟩⟩,⟨trivial,trivial⟩⟩⟩)
theorem V159.cfgOk (B : Nat) : CfgOk (V159.cfg B) := cfgOk_of (by kernel_rfl) (by kernel_rfl) extNil
theorem V159.sound {a d f : Int} {w : World} {R : Value → World → Prop} (h : V159.vc w.heap.size R a d f w) : Calls Tryz.prog 159 ⟨[.agg ⟨[.int .i64 a,.int .i64 d,.int .i64 f]⟩]⟩ w fun e w' => ∃ v,e = .returned v ∧ R v w' :=
 calls_wpfP (c := V159.cfg w.heap.size) (fn := Tryz.f159) (x := V159.code) (V159.cuts w.heap.size R) V159.h (V159.cfgOk _) mixed Tryz.func159 (by kernel_rfl) (by kernel_rfl) (by kernel_rfl) rfl (V159.obl _ _) ((V159.vc_eq _ _ a d f _).symm ▸ h)
def V118.vc (B : Nat) (R : Value → World → Prop) (a c d : Int) (w : World) : Prop :=
 ∀ f : Nat,w.heap.size ≤ f →
 CallK Tryz.prog 115 [.int .i64 a] B w [f] fun v g => 
 ∃ (i j l : Int) (m : Bool),v = .tuple ⟨[.int .i64 i,.int .i64 j,.int .i64 l,.bool m]⟩ ∧
 Ret B g (R (.int .i64 l))
noncomputable def V118.cfg (B : Nat) : Cfg := ⟨Tryz.prog,⟨16,B⟩,[],hasN [115],hasN [],look []⟩
noncomputable def V118.code : Code := (Tryz.f118.body).getD .skip
noncomputable def V118.cuts (B : Nat) (R : Value → World → Prop) : Nat → Cut := nthC []
noncomputable def V118.h : H := .s (.z) (.s (.z) (.s (.z) (.z)))
theorem V118.vc_eq (B : Nat) (R : Value → World → Prop) (a c d : Int) (w : World) : wpf (V118.cfg B) (V118.cuts B R) V118.code V118.h [] (postOf Tryz.prog B (Tryz.f118.results.toList) R) (argE 0 [.agg ⟨[.int .i64 a,.int .i64 c,.int .i64 d]⟩]) [] w = V118.vc B R a c d w := by kernel_rfl
theorem V118.obl (B : Nat) (R : Value → World → Prop) : oblP (V118.cfg B) (V118.cuts B R) V118.code V118.h [] (postOf Tryz.prog B (Tryz.f118.results.toList) R) := by
 have e : oblP (V118.cfg B) (V118.cuts B R) V118.code V118.h [] (postOf Tryz.prog B (Tryz.f118.results.toList) R) = (True ∧ (True ∧ (True ∧ True))) := by kernel_rfl
 exact e.mpr (⟨trivial,⟨trivial,⟨trivial,trivial⟩⟩⟩)
theorem V118.cfgOk (B : Nat) : CfgOk (V118.cfg B) := cfgOk_of (by kernel_rfl) (by kernel_rfl) extNil
theorem V118.sound {a d f : Int} {w : World} {R : Value → World → Prop} (h : V118.vc w.heap.size R a d f w) : Calls Tryz.prog 118 ⟨[.agg ⟨[.int .i64 a,.int .i64 d,.int .i64 f]⟩]⟩ w fun e w' => ∃ v,e = .returned v ∧ R v w' :=
 calls_wpfP (c := V118.cfg w.heap.size) (fn := Tryz.f118) (x := V118.code) (V118.cuts w.heap.size R) V118.h (V118.cfgOk _) mixed Tryz.func118 (by kernel_rfl) (by kernel_rfl) (by kernel_rfl) rfl (V118.obl _ _) ((V118.vc_eq _ _ a d f _).symm ▸ h)
def V61.l0 (B : Nat) (R : Value → World → Prop) : Nat → Int → Option Addr → Nat → Nat → Int → Int → World → Prop
 | 0 => fun _ _ _ _ _ _ _ => False
 | k + 1 => fun a c d f g i w =>
 if (decide (i < g)) = true
 then (∃ j : Addr,c = some j ∧ (0 : Int) ≤ i ∧ i < (d : Int) ∧
 ∃ l : Int,w.cell? ((j.add (i.toNat * 3)).add 0) = some (.int .i64 l) ∧
 ∃ m : Int,w.cell? ((j.add (i.toNat * 3)).add 1) = some (.int .i64 m) ∧
 ∃ n : Int,w.cell? ((j.add (i.toNat * 3)).add 2) = some (.int .i64 n) ∧
 ∀ o : Nat,w.heap.size ≤ o →
 if (l == 19) = true
 then (Ret B w (R (.int .i64 (IntKind.wrap .i64 (a + 16)))))
 else ((V61.l0 B R k) a c d f g (IntKind.wrap .i64 (i + 1)) w))
 else (Ret B w (R (.int .i64 a)))
def V61.vc (B : Nat) (R : Value → World → Prop) (a c d : Int) (f : Option Addr) (g i : Nat) (w : World) : Prop :=
 ∀ j : Nat,w.heap.size ≤ j →
 ∃ l,V61.l0 B R l (IntKind.wrap .i64 (IntKind.wrap .i64 (7 + (if 8 < (if 0 > c then 0 else c) then 8 else (if 0 > c then 0 else c))) + 8)) f g i (g : Int) 0 w
noncomputable def V61.cfg (B : Nat) : Cfg := ⟨Tryz.prog,⟨26,B⟩,[],hasN [],hasN [],look []⟩
noncomputable def V61.code : Code := (Tryz.f61.body).getD .skip
noncomputable def V61.cuts (B : Nat) (R : Value → World → Prop) : Nat → Cut := nthC [⟨[(3,.one (.int .i64)),(13,.one (.slice)),(14,.one (.int .i64)),(15,.one (.int .i64))],[],fun fs vs bs w => V61.l0 B R (nthN fs 0) (iV (nthV vs 0)) (slA (nthV vs 1)) (slL (nthV vs 1)) (slC (nthV vs 1)) (iV (nthV vs 2)) (iV (nthV vs 3)) w⟩]
noncomputable def V61.h : H := .s (.z) (.s (.z) (.s (.s (.z) (.b (.l 0 (.s (.z) (.s (.c (.z) (.z)) (.s (.b (.s (.z) (.s (.z) (.c (.s (.z) (.z)) (.z))))) (.z))))))) (.s (.z) (.z))))
theorem V61.vc_eq (B : Nat) (R : Value → World → Prop) (a c d : Int) (f : Option Addr) (g i : Nat) (w : World) : wpf (V61.cfg B) (V61.cuts B R) V61.code V61.h [] (postOf Tryz.prog B (Tryz.f61.results.toList) R) (argE 0 [.agg ⟨[.int .i64 a,.int .i64 c,.int .i64 d,.slice f g i]⟩]) [] w = V61.vc B R a c d f g i w := by kernel_rfl
theorem V61.obl (B : Nat) (R : Value → World → Prop) : oblP (V61.cfg B) (V61.cuts B R) V61.code V61.h [] (postOf Tryz.prog B (Tryz.f61.results.toList) R) := by
 have e : oblP (V61.cfg B) (V61.cuts B R) V61.code V61.h [] (postOf Tryz.prog B (Tryz.f61.results.toList) R) = (True ∧ (True ∧ ((True ∧ ((∀ (a : Int) (c : Option Addr) (d f : Nat) (g i : Int) (w : World),¬ V61.l0 B R 0 a c d f g i w) ∧ (∀ j,∀ (a : Int) (c : Option Addr) (d f : Nat) (g i : Int) (w : World),V61.l0 B R (j + 1) a c d f g i w → V61.l0 B R (j + 1) a c d f g i w) ∧ ∀ j : Nat,(True ∧ ((True ∧ True) ∧ ((True ∧ (True ∧ ((True ∧ True) ∧ True))) ∧ True))))) ∧ (True ∧ True)))) := by kernel_rfl
 exact e.mpr (⟨trivial,⟨trivial,⟨⟨trivial,⟨fun a c d f g i w h => h,fun _ a c d f g i w h => h,fun j => ⟨trivial,⟨⟨trivial,trivial⟩,⟨⟨trivial,⟨trivial,⟨⟨trivial,trivial⟩,trivial⟩⟩⟩,trivial⟩⟩⟩⟩⟩,⟨trivial,trivial⟩⟩⟩⟩)
theorem V61.cfgOk (B : Nat) : CfgOk (V61.cfg B) := cfgOk_of (by kernel_rfl) (by kernel_rfl) extNil
theorem V61.sound {a d f : Int} {g : Option Addr} {i j : Nat} {w : World} {R : Value → World → Prop} (h : V61.vc w.heap.size R a d f g i j w) : Calls Tryz.prog 61 ⟨[.agg ⟨[.int .i64 a,.int .i64 d,.int .i64 f,.slice g i j]⟩]⟩ w fun e w' => ∃ v,e = .returned v ∧ R v w' :=
 calls_wpfP (c := V61.cfg w.heap.size) (fn := Tryz.f61) (x := V61.code) (V61.cuts w.heap.size R) V61.h (V61.cfgOk _) mixed Tryz.func61 (by kernel_rfl) (by kernel_rfl) (by kernel_rfl) rfl (V61.obl _ _) ((V61.vc_eq _ _ a d f g i j _).symm ▸ h)
def V108.vc (B : Nat) (R : Value → World → Prop) (a c d : Int) (f : Option Addr) (g i : Nat) (w : World) : Prop :=
 ∀ j : Nat,w.heap.size ≤ j →
 CallK Tryz.prog 157 [.agg ⟨[.int .i64 a,.int .i64 c,.int .i64 d,.slice f g i]⟩] B w [j] fun v l => 
 ∃ m : Bool,v = .bool m ∧
 if m = true
 then (Ret B l (R (.int .i64 (IntKind.wrap .i64 (IntKind.wrap .i64 (IntKind.wrap .i64 (7 + (if 8 < (if 0 > c then 0 else c) then 8 else (if 0 > c then 0 else c))) + 8) + 16)))))
 else (Ret B l (R (.int .i64 (IntKind.wrap .i64 (IntKind.wrap .i64 (7 + (if 8 < (if 0 > c then 0 else c) then 8 else (if 0 > c then 0 else c))) + 8)))))
noncomputable def V108.cfg (B : Nat) : Cfg := ⟨Tryz.prog,⟨15,B⟩,[],hasN [157],hasN [],look []⟩
noncomputable def V108.code : Code := (Tryz.f108.body).getD .skip
noncomputable def V108.cuts (B : Nat) (R : Value → World → Prop) : Nat → Cut := nthC []
noncomputable def V108.h : H := .s (.z) (.s (.z) (.s (.s (.z) (.c (.z) (.z))) (.s (.z) (.z))))
theorem V108.vc_eq (B : Nat) (R : Value → World → Prop) (a c d : Int) (f : Option Addr) (g i : Nat) (w : World) : wpf (V108.cfg B) (V108.cuts B R) V108.code V108.h [] (postOf Tryz.prog B (Tryz.f108.results.toList) R) (argE 0 [.agg ⟨[.int .i64 a,.int .i64 c,.int .i64 d,.slice f g i]⟩]) [] w = V108.vc B R a c d f g i w := by kernel_rfl
theorem V108.obl (B : Nat) (R : Value → World → Prop) : oblP (V108.cfg B) (V108.cuts B R) V108.code V108.h [] (postOf Tryz.prog B (Tryz.f108.results.toList) R) := by
 have e : oblP (V108.cfg B) (V108.cuts B R) V108.code V108.h [] (postOf Tryz.prog B (Tryz.f108.results.toList) R) = (True ∧ (True ∧ ((True ∧ (True ∧ True)) ∧ (True ∧ True)))) := by kernel_rfl
 exact e.mpr (⟨trivial,⟨trivial,⟨⟨trivial,⟨trivial,trivial⟩⟩,⟨trivial,trivial⟩⟩⟩⟩)
theorem V108.cfgOk (B : Nat) : CfgOk (V108.cfg B) := cfgOk_of (by kernel_rfl) (by kernel_rfl) extNil
theorem V108.sound {a d f : Int} {g : Option Addr} {i j : Nat} {w : World} {R : Value → World → Prop} (h : V108.vc w.heap.size R a d f g i j w) : Calls Tryz.prog 108 ⟨[.agg ⟨[.int .i64 a,.int .i64 d,.int .i64 f,.slice g i j]⟩]⟩ w fun e w' => ∃ v,e = .returned v ∧ R v w' :=
 calls_wpfP (c := V108.cfg w.heap.size) (fn := Tryz.f108) (x := V108.code) (V108.cuts w.heap.size R) V108.h (V108.cfgOk _) mixed Tryz.func108 (by kernel_rfl) (by kernel_rfl) (by kernel_rfl) rfl (V108.obl _ _) ((V108.vc_eq _ _ a d f g i j _).symm ▸ h)
def V142.vc (B : Nat) (R : Value → World → Prop) (a : Option Addr) (c d : Nat) (f : Int) (w : World) : Prop :=
 ∀ g : Nat,w.heap.size ≤ g →
 if (decide (f < 0)) = false
 then (if (decide (f ≥ (c : Int))) = true
 then (Ret B w (R (.int .i64 0)))
 else (∃ i : Addr,a = some i ∧ (0 : Int) ≤ f ∧ f < (c : Int) ∧
 ∃ j : Int,w.cell? ((i.add (f.toNat * 4)).add 0) = some (.int .i64 j) ∧
 Ret B w (R (.int .i64 (if 0 > j then 0 else j)))))
 else (Ret B w (R (.int .i64 0)))
noncomputable def V142.cfg (B : Nat) : Cfg := ⟨Tryz.prog,⟨21,B⟩,[],hasN [],hasN [],look []⟩
noncomputable def V142.code : Code := (Tryz.f142.body).getD .skip
noncomputable def V142.cuts (B : Nat) (R : Value → World → Prop) : Nat → Cut := nthC []
noncomputable def V142.h : H := .s (.z) (.s (.s (.z) (.c (.s (.z) (.z)) (.z))) (.s (.z) (.z)))
theorem V142.vc_eq (B : Nat) (R : Value → World → Prop) (a : Option Addr) (c d : Nat) (f : Int) (w : World) : wpf (V142.cfg B) (V142.cuts B R) V142.code V142.h [] (postOf Tryz.prog B (Tryz.f142.results.toList) R) (argE 0 [.agg ⟨[.slice a c d]⟩,.int .i64 f]) [] w = V142.vc B R a c d f w := by kernel_rfl
theorem V142.obl (B : Nat) (R : Value → World → Prop) : oblP (V142.cfg B) (V142.cuts B R) V142.code V142.h [] (postOf Tryz.prog B (Tryz.f142.results.toList) R) := by
 have e : oblP (V142.cfg B) (V142.cuts B R) V142.code V142.h [] (postOf Tryz.prog B (Tryz.f142.results.toList) R) = (True ∧ ((True ∧ ((True ∧ True) ∧ True)) ∧ (True ∧ True))) := by kernel_rfl
 exact e.mpr (⟨trivial,⟨⟨trivial,⟨⟨trivial,trivial⟩,trivial⟩⟩,⟨trivial,trivial⟩⟩⟩)
theorem V142.cfgOk (B : Nat) : CfgOk (V142.cfg B) := cfgOk_of (by kernel_rfl) (by kernel_rfl) extNil
theorem V142.sound {a : Option Addr} {d f : Nat} {g : Int} {w : World} {R : Value → World → Prop} (h : V142.vc w.heap.size R a d f g w) : Calls Tryz.prog 142 ⟨[.agg ⟨[.slice a d f]⟩,.int .i64 g]⟩ w fun e w' => ∃ v,e = .returned v ∧ R v w' :=
 calls_wpfP (c := V142.cfg w.heap.size) (fn := Tryz.f142) (x := V142.code) (V142.cuts w.heap.size R) V142.h (V142.cfgOk _) mixed Tryz.func142 (by kernel_rfl) (by kernel_rfl) (by kernel_rfl) rfl (V142.obl _ _) ((V142.vc_eq _ _ a d f g _).symm ▸ h)
def V115.b3 (B : Nat) (R : Value → World → Prop) (a : Int) (c : Bool) (w : World) : Prop :=
 if c = true
 then (Ret B w (R (.tuple ⟨[.int .i64 6,.int .i64 0,.int .i64 0,.bool true]⟩)))
 else (if (a == 24) = true
 then (Ret B w (R (.tuple ⟨[.int .i64 7,.int .i64 0,.int .i64 0,.bool true]⟩)))
 else (if (a == 26) = true
 then (Ret B w (R (.tuple ⟨[.int .i64 0,.int .i64 0,.int .i64 0,.bool true]⟩)))
 else (Ret B w (R (.tuple ⟨[.int .i64 0,.int .i64 0,.int .i64 0,.bool false]⟩)))))
def V115.b2 (B : Nat) (R : Value → World → Prop) (a : Int) (c : Bool) (w : World) : Prop :=
 if c = true
 then (Ret B w (R (.tuple ⟨[.int .i64 0,.int .i64 1,.int .i64 0,.bool true]⟩)))
 else (if (a == 19) = true
 then (Ret B w (R (.tuple ⟨[.int .i64 5,.int .i64 (-1),.int .i64 0,.bool true]⟩)))
 else (if (a == 21) = true
 then (Ret B w (R (.tuple ⟨[.int .i64 0,.int .i64 0,.int .i64 2,.bool true]⟩)))
 else (if (a == 23) = true
 then (V115.b3 B R a (a == 23) w)
 else (V115.b3 B R a (a == 25) w))))
def V115.b1 (B : Nat) (R : Value → World → Prop) (a : Int) (c : Bool) (w : World) : Prop :=
 if c = true
 then (Ret B w (R (.tuple ⟨[.int .i64 0,.int .i64 1,.int .i64 1,.bool true]⟩)))
 else (if (a == 15) = true
 then (Ret B w (R (.tuple ⟨[.int .i64 4,.int .i64 0,.int .i64 0,.bool true]⟩)))
 else (if (a == 16) = true
 then (Ret B w (R (.tuple ⟨[.int .i64 4,.int .i64 1,.int .i64 0,.bool true]⟩)))
 else (if (a == 17) = true
 then (Ret B w (R (.tuple ⟨[.int .i64 5,.int .i64 (-1),.int .i64 1,.bool true]⟩)))
 else (if (a == 18) = true
 then (V115.b2 B R a (a == 18) w)
 else (if (a == 20) = true
 then (V115.b2 B R a (a == 20) w)
 else (if (a == 22) = true
 then (V115.b2 B R a (a == 22) w)
 else (V115.b2 B R a (a == 27) w)))))))
def V115.b0 (B : Nat) (R : Value → World → Prop) (a : Int) (c : Bool) (w : World) : Prop :=
 if c = true
 then (Ret B w (R (.tuple ⟨[.int .i64 0,.int .i64 2,.int .i64 1,.bool true]⟩)))
 else (if (a == 9) = true
 then (V115.b1 B R a (a == 9) w)
 else (V115.b1 B R a (a == 10) w))
def V115.vc (B : Nat) (R : Value → World → Prop) (a : Int) (w : World) : Prop :=
 if (a == 1) = true
 then (Ret B w (R (.tuple ⟨[.int .i64 1,.int .i64 0,.int .i64 1,.bool true]⟩)))
 else (if (a == 2) = true
 then (Ret B w (R (.tuple ⟨[.int .i64 2,.int .i64 0,.int .i64 1,.bool true]⟩)))
 else (if (a == 3) = true
 then (Ret B w (R (.tuple ⟨[.int .i64 3,.int .i64 0,.int .i64 1,.bool true]⟩)))
 else (if (a == 4) = true
 then (Ret B w (R (.tuple ⟨[.int .i64 3,.int .i64 1,.int .i64 0,.bool true]⟩)))
 else (if (a == 5) = true
 then (V115.b0 B R a (a == 5) w)
 else (if (a == 6) = true
 then (V115.b0 B R a (a == 6) w)
 else (if (a == 7) = true
 then (V115.b0 B R a (a == 7) w)
 else (if (a == 8) = true
 then (V115.b0 B R a (a == 8) w)
 else (if (a == 11) = true
 then (V115.b0 B R a (a == 11) w)
 else (if (a == 12) = true
 then (V115.b0 B R a (a == 12) w)
 else (if (a == 13) = true
 then (V115.b0 B R a (a == 13) w)
 else (V115.b0 B R a (a == 14) w)))))))))))
noncomputable def V115.cfg (B : Nat) : Cfg := ⟨Tryz.prog,⟨49,B⟩,[],hasN [],hasN [],look []⟩
noncomputable def V115.code : Code := (Tryz.f115.body).getD .skip
noncomputable def V115.cuts (B : Nat) (R : Value → World → Prop) : Nat → Cut := nthC [⟨[(6,.one (.int .i64)),(15,.one (.bool))],[],fun fs vs bs w => V115.b0 B R (iV (nthV vs 0)) (bV (nthV vs 1)) w⟩,
 ⟨[(6,.one (.int .i64)),(24,.one (.bool))],[],fun fs vs bs w => V115.b1 B R (iV (nthV vs 0)) (bV (nthV vs 1)) w⟩,
 ⟨[(6,.one (.int .i64)),(33,.one (.bool))],[],fun fs vs bs w => V115.b2 B R (iV (nthV vs 0)) (bV (nthV vs 1)) w⟩,
 ⟨[(6,.one (.int .i64)),(42,.one (.bool))],[],fun fs vs bs w => V115.b3 B R (iV (nthV vs 0)) (bV (nthV vs 1)) w⟩]
noncomputable def V115.h : H := .s (.z) (.s (.s (.z) (.b (.s (.z) (.c (.s (.z) (.z)) (.s (.z) (.c (.s (.z) (.z)) (.s (.z) (.c (.s (.z) (.z)) (.s (.z) (.c (.s (.z) (.z)) (.cut 0 (.s (.z) (.c (.z) (.s (.z) (.c (.z) (.s (.z) (.c (.z) (.s (.z) (.c (.z) (.s (.z) (.c (.z) (.s (.z) (.c (.z) (.s (.z) (.c (.z) (.z))))))))))))))) (.c (.s (.z) (.z)) (.cut 1 (.s (.z) (.c (.z) (.z))) (.c (.s (.z) (.z)) (.s (.z) (.c (.s (.z) (.z)) (.s (.z) (.c (.s (.z) (.z)) (.s (.z) (.c (.s (.z) (.z)) (.cut 2 (.s (.z) (.c (.z) (.s (.z) (.c (.z) (.s (.z) (.c (.z) (.z))))))) (.c (.s (.z) (.z)) (.s (.z) (.c (.s (.z) (.z)) (.s (.z) (.c (.s (.z) (.z)) (.cut 3 (.s (.z) (.c (.z) (.z))) (.c (.s (.z) (.z)) (.s (.z) (.c (.s (.z) (.z)) (.s (.z) (.c (.s (.z) (.z)) (.z))))))))))))))))))))))))))))))))) (.s (.z) (.z)))
theorem V115.vc_eq (B : Nat) (R : Value → World → Prop) (a : Int) (w : World) : wpf (V115.cfg B) (V115.cuts B R) V115.code V115.h [] (postOf Tryz.prog B (Tryz.f115.results.toList) R) (argE 0 [.int .i64 a]) [] w = V115.vc B R a w := by kernel_rfl
theorem V115.obl (B : Nat) (R : Value → World → Prop) : oblP (V115.cfg B) (V115.cuts B R) V115.code V115.h [] (postOf Tryz.prog B (Tryz.f115.results.toList) R) := by
 have e : oblP (V115.cfg B) (V115.cuts B R) V115.code V115.h [] (postOf Tryz.prog B (Tryz.f115.results.toList) R) = (True ∧ ((True ∧ (True ∧ ((True ∧ True) ∧ (True ∧ ((True ∧ True) ∧ (True ∧ ((True ∧ True) ∧ (True ∧ ((True ∧ True) ∧ ((True ∧ (True ∧ (True ∧ (True ∧ (True ∧ (True ∧ (True ∧ (True ∧ (True ∧ (True ∧ (True ∧ (True ∧ (True ∧ (True ∧ True)))))))))))))) ∧ (∀ (a : Int) (c : Bool) (w : World),V115.b0 B R a c w → V115.b0 B R a c w) ∧ ((True ∧ True) ∧ ((True ∧ (True ∧ True)) ∧ (∀ (a : Int) (d : Bool) (w : World),V115.b1 B R a d w → V115.b1 B R a d w) ∧ ((True ∧ True) ∧ (True ∧ ((True ∧ True) ∧ (True ∧ ((True ∧ True) ∧ (True ∧ ((True ∧ True) ∧ ((True ∧ (True ∧ (True ∧ (True ∧ (True ∧ (True ∧ True)))))) ∧ (∀ (a : Int) (f : Bool) (w : World),V115.b2 B R a f w → V115.b2 B R a f w) ∧ ((True ∧ True) ∧ (True ∧ ((True ∧ True) ∧ (True ∧ ((True ∧ True) ∧ ((True ∧ (True ∧ True)) ∧ (∀ (a : Int) (g : Bool) (w : World),V115.b3 B R a g w → V115.b3 B R a g w) ∧ ((True ∧ True) ∧ (True ∧ ((True ∧ True) ∧ (True ∧ ((True ∧ True) ∧ True))))))))))))))))))))))))))))))) ∧ (True ∧ True))) := by kernel_rfl
 exact e.mpr (⟨trivial,⟨⟨trivial,⟨trivial,⟨⟨trivial,trivial⟩,⟨trivial,⟨⟨trivial,trivial⟩,⟨trivial,⟨⟨trivial,trivial⟩,⟨trivial,⟨⟨trivial,trivial⟩,⟨⟨trivial,⟨trivial,⟨trivial,⟨trivial,⟨trivial,⟨trivial,⟨trivial,⟨trivial,⟨trivial,⟨trivial,⟨trivial,⟨trivial,⟨trivial,⟨trivial,trivial⟩⟩⟩⟩⟩⟩⟩⟩⟩⟩⟩⟩⟩⟩,fun a c w h => h,⟨⟨trivial,trivial⟩,⟨⟨trivial,⟨trivial,trivial⟩⟩,fun a d w h => h,⟨⟨trivial,trivial⟩,⟨trivial,⟨⟨trivial,trivial⟩,⟨trivial,⟨⟨trivial,trivial⟩,⟨trivial,⟨⟨trivial,trivial⟩,⟨⟨trivial,⟨trivial,⟨trivial,⟨trivial,⟨trivial,⟨trivial,trivial⟩⟩⟩⟩⟩⟩,fun a f w h => h,⟨⟨trivial,trivial⟩,⟨trivial,⟨⟨trivial,trivial⟩,⟨trivial,⟨⟨trivial,trivial⟩,⟨⟨trivial,⟨trivial,trivial⟩⟩,fun a g w h => h,⟨⟨trivial,trivial⟩,⟨trivial,⟨⟨trivial,trivial⟩,⟨trivial,⟨⟨trivial,trivial⟩,trivial⟩⟩⟩⟩⟩⟩⟩⟩⟩⟩⟩⟩⟩⟩⟩⟩⟩⟩⟩⟩⟩⟩⟩⟩⟩⟩⟩⟩⟩⟩⟩,⟨trivial,trivial⟩⟩⟩)
theorem V115.cfgOk (B : Nat) : CfgOk (V115.cfg B) := cfgOk_of (by kernel_rfl) (by kernel_rfl) extNil
theorem V115.sound {a : Int} {w : World} {R : Value → World → Prop} (h : V115.vc w.heap.size R a w) : Calls Tryz.prog 115 ⟨[.int .i64 a]⟩ w fun e w' => ∃ v,e = .returned v ∧ R v w' :=
 calls_wpfP (c := V115.cfg w.heap.size) (fn := Tryz.f115) (x := V115.code) (V115.cuts w.heap.size R) V115.h (V115.cfgOk _) mixed Tryz.func115 (by kernel_rfl) (by kernel_rfl) (by kernel_rfl) rfl (V115.obl _ _) ((V115.vc_eq _ _ a _).symm ▸ h)
def V157.l0 (B : Nat) (R : Value → World → Prop) : Nat → Int → Nat → Int → Int → Int → Option Addr → Nat → Nat → World → Prop
 | 0 => fun _ _ _ _ _ _ _ _ _ => False
 | k + 1 => fun a c d f g i j l w =>
 if (decide (a < (j : Int))) = true
 then (∃ m : Addr,i = some m ∧ (0 : Int) ≤ a ∧ a < (j : Int) ∧
 ∃ n : Int,w.cell? ((m.add (a.toNat * 3)).add 0) = some (.int .i64 n) ∧
 if (n == 19) = true
 then (Ret B w (R (.bool true)))
 else ((V157.l0 B R k) (IntKind.wrap .i64 (a + 1)) c d f g i j l w))
 else (Ret B w (R (.bool false)))
def V157.vc (B : Nat) (R : Value → World → Prop) (a c d : Int) (f : Option Addr) (g i : Nat) (w : World) : Prop :=
 ∀ j : Nat,w.heap.size ≤ j →
 ∃ l,V157.l0 B R l 0 j a c d f g i w
noncomputable def V157.cfg (B : Nat) : Cfg := ⟨Tryz.prog,⟨18,B⟩,[],hasN [],hasN [],look []⟩
noncomputable def V157.code : Code := (Tryz.f157.body).getD .skip
noncomputable def V157.cuts (B : Nat) (R : Value → World → Prop) : Nat → Cut := nthC [⟨[(3,.one (.int .i64))],[(1,63,[.int .i64,.int .i64,.int .i64,.slice])],fun fs vs bs w => V157.l0 B R (nthN fs 0) (iV (nthV vs 0)) (nthB bs 0).blk (iV (nthV (nthB bs 0).cells 0)) (iV (nthV (nthB bs 0).cells 1)) (iV (nthV (nthB bs 0).cells 2)) (slA (nthV (nthB bs 0).cells 3)) (slL (nthV (nthB bs 0).cells 3)) (slC (nthV (nthB bs 0).cells 3)) w⟩]
noncomputable def V157.h : H := .s (.z) (.s (.s (.z) (.b (.l 0 (.s (.s (.z) (.c (.z) (.z))) (.s (.b (.s (.z) (.c (.s (.z) (.z)) (.z)))) (.z)))))) (.s (.z) (.z)))
theorem V157.vc_eq (B : Nat) (R : Value → World → Prop) (a c d : Int) (f : Option Addr) (g i : Nat) (w : World) : wpf (V157.cfg B) (V157.cuts B R) V157.code V157.h [] (postOf Tryz.prog B (Tryz.f157.results.toList) R) (argE 0 [.agg ⟨[.int .i64 a,.int .i64 c,.int .i64 d,.slice f g i]⟩]) [] w = V157.vc B R a c d f g i w := by kernel_rfl
theorem V157.obl (B : Nat) (R : Value → World → Prop) : oblP (V157.cfg B) (V157.cuts B R) V157.code V157.h [] (postOf Tryz.prog B (Tryz.f157.results.toList) R) := by
 have e : oblP (V157.cfg B) (V157.cuts B R) V157.code V157.h [] (postOf Tryz.prog B (Tryz.f157.results.toList) R) = (True ∧ ((True ∧ ((∀ (a : Int) (c : Nat) (d f g : Int) (i : Option Addr) (j l : Nat) (w : World),¬ V157.l0 B R 0 a c d f g i j l w) ∧ (∀ m,∀ (a : Int) (c : Nat) (d f g : Int) (i : Option Addr) (j l : Nat) (w : World),V157.l0 B R (m + 1) a c d f g i j l w → V157.l0 B R (m + 1) a c d f g i j l w) ∧ ∀ m : Nat,((True ∧ (True ∧ True)) ∧ ((True ∧ ((True ∧ True) ∧ True)) ∧ True)))) ∧ (True ∧ True))) := by kernel_rfl
 exact e.mpr (⟨trivial,⟨⟨trivial,⟨fun a c d f g i j l w h => h,fun _ a c d f g i j l w h => h,fun m => ⟨⟨trivial,⟨trivial,trivial⟩⟩,⟨⟨trivial,⟨⟨trivial,trivial⟩,trivial⟩⟩,trivial⟩⟩⟩⟩,⟨trivial,trivial⟩⟩⟩)
theorem V157.cfgOk (B : Nat) : CfgOk (V157.cfg B) := cfgOk_of (by kernel_rfl) (by kernel_rfl) extNil
theorem V157.sound {a d f : Int} {g : Option Addr} {i j : Nat} {w : World} {R : Value → World → Prop} (h : V157.vc w.heap.size R a d f g i j w) : Calls Tryz.prog 157 ⟨[.agg ⟨[.int .i64 a,.int .i64 d,.int .i64 f,.slice g i j]⟩]⟩ w fun e w' => ∃ v,e = .returned v ∧ R v w' :=
 calls_wpfP (c := V157.cfg w.heap.size) (fn := Tryz.f157) (x := V157.code) (V157.cuts w.heap.size R) V157.h (V157.cfgOk _) mixed Tryz.func157 (by kernel_rfl) (by kernel_rfl) (by kernel_rfl) rfl (V157.obl _ _) ((V157.vc_eq _ _ a d f g i j _).symm ▸ h)
def V110.b1 (B : Nat) (R : Value → World → Prop) (a : Bool) (c : Nat) (d f g : Int) (i : Option Addr) (j l : Nat) (w : World) : Prop :=
 if a = true
 then (Ret B w (R (.bool false)))
 else (if (decide (g < 0)) = false
 then (if (decide (g > IntKind.wrap .i64 (f - d))) = true
 then (Ret B w (R (.bool false)))
 else (if (decide ((j : Int) ≥ 1)) = true
 then (Ret B w (R (.bool (decide ((j : Int) ≤ 64)))))
 else (Ret B w (R (.bool false)))))
 else (Ret B w (R (.bool false))))
def V110.b0 (B : Nat) (R : Value → World → Prop) (a : Bool) (c : Nat) (d f g : Int) (i : Option Addr) (j l : Nat) (w : World) : Prop :=
 if a = true
 then (Ret B w (R (.bool false)))
 else (if (decide (f < d)) = false
 then (V110.b1 B R (decide (f > 8)) c d f g i j l w)
 else (V110.b1 B R true c d f g i j l w))
def V110.vc (B : Nat) (R : Value → World → Prop) (a c d : Int) (f : Option Addr) (g i : Nat) (w : World) : Prop :=
 ∀ j : Nat,w.heap.size ≤ j →
 if (decide (a < 0)) = false
 then (V110.b0 B R (decide (a > 3)) j a c d f g i w)
 else (V110.b0 B R true j a c d f g i w)
noncomputable def V110.cfg (B : Nat) : Cfg := ⟨Tryz.prog,⟨47,B⟩,[],hasN [],hasN [],look []⟩
noncomputable def V110.code : Code := (Tryz.f110.body).getD .skip
noncomputable def V110.cuts (B : Nat) (R : Value → World → Prop) : Nat → Cut := nthC [⟨[(3,.one (.bool))],[(1,63,[.int .i64,.int .i64,.int .i64,.slice])],fun fs vs bs w => V110.b0 B R (bV (nthV vs 0)) (nthB bs 0).blk (iV (nthV (nthB bs 0).cells 0)) (iV (nthV (nthB bs 0).cells 1)) (iV (nthV (nthB bs 0).cells 2)) (slA (nthV (nthB bs 0).cells 3)) (slL (nthV (nthB bs 0).cells 3)) (slC (nthV (nthB bs 0).cells 3)) w⟩,
 ⟨[(12,.one (.bool))],[(1,63,[.int .i64,.int .i64,.int .i64,.slice])],fun fs vs bs w => V110.b1 B R (bV (nthV vs 0)) (nthB bs 0).blk (iV (nthV (nthB bs 0).cells 0)) (iV (nthV (nthB bs 0).cells 1)) (iV (nthV (nthB bs 0).cells 2)) (slA (nthV (nthB bs 0).cells 3)) (slL (nthV (nthB bs 0).cells 3)) (slC (nthV (nthB bs 0).cells 3)) w⟩]
noncomputable def V110.h : H := .s (.z) (.s (.b (.cut 0 (.z) (.c (.s (.z) (.z)) (.cut 1 (.z) (.c (.s (.z) (.z)) (.s (.z) (.c (.s (.z) (.z)) (.z)))))))) (.s (.z) (.z)))
theorem V110.vc_eq (B : Nat) (R : Value → World → Prop) (a c d : Int) (f : Option Addr) (g i : Nat) (w : World) : wpf (V110.cfg B) (V110.cuts B R) V110.code V110.h [] (postOf Tryz.prog B (Tryz.f110.results.toList) R) (argE 0 [.agg ⟨[.int .i64 a,.int .i64 c,.int .i64 d,.slice f g i]⟩]) [] w = V110.vc B R a c d f g i w := by kernel_rfl
theorem V110.obl (B : Nat) (R : Value → World → Prop) : oblP (V110.cfg B) (V110.cuts B R) V110.code V110.h [] (postOf Tryz.prog B (Tryz.f110.results.toList) R) := by
 have e : oblP (V110.cfg B) (V110.cuts B R) V110.code V110.h [] (postOf Tryz.prog B (Tryz.f110.results.toList) R) = (True ∧ ((True ∧ (∀ (a : Bool) (c : Nat) (d f g : Int) (i : Option Addr) (j l : Nat) (w : World),V110.b0 B R a c d f g i j l w → V110.b0 B R a c d f g i j l w) ∧ ((True ∧ True) ∧ (True ∧ (∀ (m : Bool) (c : Nat) (d f g : Int) (i : Option Addr) (j l : Nat) (w : World),V110.b1 B R m c d f g i j l w → V110.b1 B R m c d f g i j l w) ∧ ((True ∧ True) ∧ (True ∧ ((True ∧ True) ∧ True)))))) ∧ (True ∧ True))) := by kernel_rfl
 exact e.mpr (⟨trivial,⟨⟨trivial,fun a c d f g i j l w h => h,⟨⟨trivial,trivial⟩,⟨trivial,fun m c d f g i j l w h => h,⟨⟨trivial,trivial⟩,⟨trivial,⟨⟨trivial,trivial⟩,trivial⟩⟩⟩⟩⟩⟩,⟨trivial,trivial⟩⟩⟩)
theorem V110.cfgOk (B : Nat) : CfgOk (V110.cfg B) := cfgOk_of (by kernel_rfl) (by kernel_rfl) extNil
theorem V110.sound {a d f : Int} {g : Option Addr} {i j : Nat} {w : World} {R : Value → World → Prop} (h : V110.vc w.heap.size R a d f g i j w) : Calls Tryz.prog 110 ⟨[.agg ⟨[.int .i64 a,.int .i64 d,.int .i64 f,.slice g i j]⟩]⟩ w fun e w' => ∃ v,e = .returned v ∧ R v w' :=
 calls_wpfP (c := V110.cfg w.heap.size) (fn := Tryz.f110) (x := V110.code) (V110.cuts w.heap.size R) V110.h (V110.cfgOk _) mixed Tryz.func110 (by kernel_rfl) (by kernel_rfl) (by kernel_rfl) rfl (V110.obl _ _) ((V110.vc_eq _ _ a d f g i j _).symm ▸ h)
end Go.Proofs.YtidcpndlloppdaaGreat
