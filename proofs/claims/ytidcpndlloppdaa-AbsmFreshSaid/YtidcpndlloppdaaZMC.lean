import Derived.Test.YtidcpndlloppdaaZMB
/-
 What the engine makes of the loaded functions 35, 16, 11, 14, 28, 25, 6: conditions under which a call returns as told, and proofs of that.
 Conditions: none. Printed by a program of this project.
-/
set_option linter.unusedVariables false
set_option maxRecDepth 100000
namespace Go.Proofs.Ytidcpndlloppdaa
def V35.vc (B : Nat) (R : Value → World → Prop) (a c : Int) (w : World) : Prop :=
 ∀ d : Nat, w.heap.size ≤ d →
 Expo B w [d] fun f => 
 Hide [d] (f.alloc (.cells ⟨[.int .i64 1, .int .i64 a, .int .i64 0, .int .i64 22, .int .i64 0, .int .i64 0, .int .i64 1, .int .i64 c, .int .i64 0, .int .i64 18, .int .i64 0, .int .i64 0]⟩ 23)) fun g => 
 Expo B g [d] fun i => 
 Hide [d] (i.alloc (.cells ⟨[.int .i64 0, .int .i64 0, .int .i64 0, .slice (some ⟨f.heap.size, 0, none⟩) 4 4]⟩ 26)) fun j => 
 Ret B j (R (.agg ⟨[.slice (some ⟨i.heap.size, 0, none⟩) 1 1]⟩))
noncomputable def V35.cfg (B : Nat) : Cfg := ⟨Try.prog, ⟨15, B⟩, [], hasN [], hasN [], look []⟩
noncomputable def V35.code : Code := (Try.f35.body).getD .skip
noncomputable def V35.cuts (B : Nat) (R : Value → World → Prop) : Nat → Cut := nthC []
noncomputable def V35.h : H := .s (.z) (.s (.z) (.z))
theorem V35.vc_eq (B : Nat) (R : Value → World → Prop) (a c : Int) (w : World) : wpf (V35.cfg B) (V35.cuts B R) V35.code V35.h [] (postOf Try.prog B (Try.f35.results.toList) R) (argE 0 [.int .i64 a, .int .i64 c]) [] w = V35.vc B R a c w := by kernel_rfl
theorem V35.obl (B : Nat) (R : Value → World → Prop) : oblP (V35.cfg B) (V35.cuts B R) V35.code V35.h [] (postOf Try.prog B (Try.f35.results.toList) R) := by
 have e : oblP (V35.cfg B) (V35.cuts B R) V35.code V35.h [] (postOf Try.prog B (Try.f35.results.toList) R) = (True ∧ (True ∧ True)) := by kernel_rfl
 exact e.mpr (⟨trivial, ⟨trivial, trivial⟩⟩)
theorem V35.cfgOk (B : Nat) : CfgOk (V35.cfg B) := cfgOk_of (by kernel_rfl) (by kernel_rfl) extNil
theorem V35.sound {a d : Int} {w : World} {R : Value → World → Prop} (h : V35.vc w.heap.size R a d w) : Calls Try.prog 35 ⟨[.int .i64 a, .int .i64 d]⟩ w fun e w' => ∃ v, e = .returned v ∧ R v w' :=
 calls_wpfP (c := V35.cfg w.heap.size) (fn := Try.f35) (x := V35.code) (V35.cuts w.heap.size R) V35.h (V35.cfgOk _) mixed Try.func35 (by kernel_rfl) (by kernel_rfl) (by kernel_rfl) rfl (V35.obl _ _) ((V35.vc_eq _ _ a d _).symm ▸ h)
def V16.l1 (B : Nat) (R : Value → World → Prop) : Nat → Addr → Int → World → Prop
 | 0 => fun _ _ _ => False
 | k + 1 => fun a c w =>
 if (decide (c < 6)) = true
 then (CallK Try.prog 23 [.pointer (some a)] B w [] fun v d => 
 ∃ f : Int, v = .int .i64 f ∧
 if (f != 0) = true
 then (Ret B d (R (.bool false)))
 else ((V16.l1 B R k) a (IntKind.wrap .i64 (c + 1)) d))
 else (CallK Try.prog 13 [.pointer (some a)] B w [] fun v d => 
 ∃ g : Bool, v = .bool g ∧
 if g = true
 then (CallK Try.prog 23 [.pointer (some a)] B d [] fun i j => 
 ∃ l : Int, i = .int .i64 l ∧
 if (l == 7) = true
 then (CallK Try.prog 15 [.pointer (some a)] B j [] fun m n => 
 ∃ (o : Option Addr) (p q : Nat), m = .slice o p q ∧
 CallK Try.prog 10 [.int .i64 1] B n [] fun r s => 
 ∃ t : Int, r = .int .u64 t ∧
 CallK Try.prog 10 [.int .i64 2] B s [] fun u x => 
 ∃ y : Int, u = .int .u64 y ∧
 Expo B x [] fun z => 
 let A := z.alloc (.cells ⟨[.int .i64 1, .int .u64 t, .int .i64 3, .int .u64 y]⟩ 31);
 CallK Try.prog 14 [.slice o p q, .slice (some ⟨z.heap.size, 0, none⟩) 2 2] B A [] fun C D => 
 ∃ E : Bool, C = .bool E ∧
 Ret B D (R (.bool E)))
 else (Ret B j (R (.bool false))))
 else (Ret B d (R (.bool false))))
def V16.b0 (B : Nat) (R : Value → World → Prop) (a : Addr) (w : World) : Prop :=
 ∃ c, V16.l1 B R c a 0 w
def V16.vc (B : Nat) (R : Value → World → Prop) (w : World) : Prop :=
 CallK Try.prog 35 [.int .i64 1, .int .i64 2] B w [] fun v a => 
 ∃ (c : Option Addr) (d f : Nat), v = .agg ⟨[.slice c d f]⟩ ∧
 CallK Try.prog 26 [.agg ⟨[.slice c d f]⟩, .int .i64 0] B a [] fun g i => 
 ∃ j : Option Addr, g = .pointer j ∧
 caseP j
 (False)
 (fun l => V16.b0 B R l i)
noncomputable def V16.cfg (B : Nat) : Cfg := ⟨Try.prog, ⟨31, B⟩, [], hasN [10, 13, 14, 15, 23, 26, 35], hasN [], look []⟩
noncomputable def V16.code : Code := (Try.f16.body).getD .skip
noncomputable def V16.cuts (B : Nat) (R : Value → World → Prop) : Nat → Cut := nthC [⟨[(1, .one (.ptr))], [], fun fs vs bs w => V16.b0 B R (pV (nthV vs 0)) w⟩,
 ⟨[(1, .one (.ptr)), (2, .one (.int .i64))], [], fun fs vs bs w => V16.l1 B R (nthN fs 0) (pV (nthV vs 0)) (iV (nthV vs 1)) w⟩]
noncomputable def V16.h : H := .s (.z) (.cut 0 (.z) (.s (.s (.z) (.c (.s (.z) (.z)) (.z))) (.s (.s (.z) (.b (.l 1 (.s (.s (.z) (.c (.z) (.z))) (.s (.b (.s (.z) (.c (.s (.z) (.z)) (.z)))) (.z)))))) (.s (.z) (.z)))))
theorem V16.vc_eq (B : Nat) (R : Value → World → Prop)  (w : World) : wpf (V16.cfg B) (V16.cuts B R) V16.code V16.h [] (postOf Try.prog B (Try.f16.results.toList) R) (argE 0 []) [] w = V16.vc B R  w := by kernel_rfl
theorem V16.obl (B : Nat) (R : Value → World → Prop) : oblP (V16.cfg B) (V16.cuts B R) V16.code V16.h [] (postOf Try.prog B (Try.f16.results.toList) R) := by
 have e : oblP (V16.cfg B) (V16.cuts B R) V16.code V16.h [] (postOf Try.prog B (Try.f16.results.toList) R) = (True ∧ (True ∧ (∀ (a : Addr) (w : World), V16.b0 B R a w → V16.b0 B R a w) ∧ ((True ∧ ((True ∧ True) ∧ True)) ∧ ((True ∧ ((∀ (a : Addr) (c : Int) (w : World), ¬ V16.l1 B R 0 a c w) ∧ (∀ d, ∀ (a : Addr) (c : Int) (w : World), V16.l1 B R (d + 1) a c w → V16.l1 B R (d + 1) a c w) ∧ ∀ d : Nat, ((True ∧ (True ∧ True)) ∧ ((True ∧ ((True ∧ True) ∧ True)) ∧ True)))) ∧ (True ∧ True))))) := by kernel_rfl
 exact e.mpr (⟨trivial, ⟨trivial, fun a w h => h, ⟨⟨trivial, ⟨⟨trivial, trivial⟩, trivial⟩⟩, ⟨⟨trivial, ⟨fun a c w h => h, fun _ a c w h => h, fun d => ⟨⟨trivial, ⟨trivial, trivial⟩⟩, ⟨⟨trivial, ⟨⟨trivial, trivial⟩, trivial⟩⟩, trivial⟩⟩⟩⟩, ⟨trivial, trivial⟩⟩⟩⟩⟩)
theorem V16.cfgOk (B : Nat) : CfgOk (V16.cfg B) := cfgOk_of (by kernel_rfl) (by kernel_rfl) extNil
theorem V16.sound  {w : World} {R : Value → World → Prop} (h : V16.vc w.heap.size R  w) : Calls Try.prog 16 ⟨[]⟩ w fun e w' => ∃ v, e = .returned v ∧ R v w' :=
 calls_wpfP (c := V16.cfg w.heap.size) (fn := Try.f16) (x := V16.code) (V16.cuts w.heap.size R) V16.h (V16.cfgOk _) mixed Try.func16 (by kernel_rfl) (by kernel_rfl) (by kernel_rfl) rfl (V16.obl _ _) ((V16.vc_eq _ _  _).symm ▸ h)
def V11.l1 (B : Nat) (R : Value → World → Prop) : Nat → Int → Addr → Int → World → Prop
 | 0 => fun _ _ _ _ => False
 | k + 1 => fun a c d w =>
 if (decide (d < a)) = true
 then (CallK Try.prog 22 [.pointer (some c)] B w [] fun v f => 
 v = .tuple ⟨[]⟩ ∧
 CallK Try.prog 23 [.pointer (some c)] B f [] fun g i => 
 ∃ j : Int, g = .int .i64 j ∧ (V11.l1 B R k) a c (IntKind.wrap .i64 (d + 1)) i)
 else (Ret B w (R (.pointer (some c))))
def V11.b0 (B : Nat) (R : Value → World → Prop) (a : Int) (c : Addr) (w : World) : Prop :=
 ∃ d, V11.l1 B R d a c 0 w
def V11.vc (B : Nat) (R : Value → World → Prop) (a : Option Addr) (c d : Nat) (f : Int) (w : World) : Prop :=
 ∀ g : Nat, w.heap.size ≤ g →
 CallK Try.prog 26 [.agg ⟨[.slice a c d]⟩, .int .i64 0] B w [g] fun v i => 
 ∃ j : Option Addr, v = .pointer j ∧
 caseP j
 (False)
 (fun l => V11.b0 B R f l i)
noncomputable def V11.cfg (B : Nat) : Cfg := ⟨Try.prog, ⟨23, B⟩, [], hasN [22, 23, 26], hasN [], look []⟩
noncomputable def V11.code : Code := (Try.f11.body).getD .skip
noncomputable def V11.cuts (B : Nat) (R : Value → World → Prop) : Nat → Cut := nthC [⟨[(1, .one (.int .i64)), (5, .one (.ptr))], [], fun fs vs bs w => V11.b0 B R (iV (nthV vs 0)) (pV (nthV vs 1)) w⟩,
 ⟨[(1, .one (.int .i64)), (5, .one (.ptr)), (6, .one (.int .i64))], [], fun fs vs bs w => V11.l1 B R (nthN fs 0) (iV (nthV vs 0)) (pV (nthV vs 1)) (iV (nthV vs 2)) w⟩]
noncomputable def V11.h : H := .s (.z) (.cut 0 (.z) (.s (.s (.z) (.b (.l 1 (.s (.s (.z) (.c (.z) (.z))) (.s (.b (.s (.z) (.z))) (.z)))))) (.s (.z) (.z))))
theorem V11.vc_eq (B : Nat) (R : Value → World → Prop) (a : Option Addr) (c d : Nat) (f : Int) (w : World) : wpf (V11.cfg B) (V11.cuts B R) V11.code V11.h [] (postOf Try.prog B (Try.f11.results.toList) R) (argE 0 [.agg ⟨[.slice a c d]⟩, .int .i64 f]) [] w = V11.vc B R a c d f w := by kernel_rfl
theorem V11.obl (B : Nat) (R : Value → World → Prop) : oblP (V11.cfg B) (V11.cuts B R) V11.code V11.h [] (postOf Try.prog B (Try.f11.results.toList) R) := by
 have e : oblP (V11.cfg B) (V11.cuts B R) V11.code V11.h [] (postOf Try.prog B (Try.f11.results.toList) R) = (True ∧ (True ∧ (∀ (a : Int) (c : Addr) (w : World), V11.b0 B R a c w → V11.b0 B R a c w) ∧ ((True ∧ ((∀ (a : Int) (c : Addr) (d : Int) (w : World), ¬ V11.l1 B R 0 a c d w) ∧ (∀ f, ∀ (a : Int) (c : Addr) (d : Int) (w : World), V11.l1 B R (f + 1) a c d w → V11.l1 B R (f + 1) a c d w) ∧ ∀ f : Nat, ((True ∧ (True ∧ True)) ∧ ((True ∧ True) ∧ True)))) ∧ (True ∧ True)))) := by kernel_rfl
 exact e.mpr (⟨trivial, ⟨trivial, fun a c w h => h, ⟨⟨trivial, ⟨fun a c d w h => h, fun _ a c d w h => h, fun f => ⟨⟨trivial, ⟨trivial, trivial⟩⟩, ⟨⟨trivial, trivial⟩, trivial⟩⟩⟩⟩, ⟨trivial, trivial⟩⟩⟩⟩)
theorem V11.cfgOk (B : Nat) : CfgOk (V11.cfg B) := cfgOk_of (by kernel_rfl) (by kernel_rfl) extNil
theorem V11.sound {a : Option Addr} {d f : Nat} {g : Int} {w : World} {R : Value → World → Prop} (h : V11.vc w.heap.size R a d f g w) : Calls Try.prog 11 ⟨[.agg ⟨[.slice a d f]⟩, .int .i64 g]⟩ w fun e w' => ∃ v, e = .returned v ∧ R v w' :=
 calls_wpfP (c := V11.cfg w.heap.size) (fn := Try.f11) (x := V11.code) (V11.cuts w.heap.size R) V11.h (V11.cfgOk _) mixed Try.func11 (by kernel_rfl) (by kernel_rfl) (by kernel_rfl) rfl (V11.obl _ _) ((V11.vc_eq _ _ a d f g _).symm ▸ h)
def V14.vc (B : Nat) (R : Value → World → Prop) (a : Option Addr) (c d : Nat) (f : Option Addr) (g i : Nat) (w : World) : Prop :=
 CallK Try.prog 28 [.slice a c d, .slice f g i] B w [] fun v j => 
 ∃ l : Bool, v = .bool l ∧
 Ret B j (R (.bool l))
noncomputable def V14.cfg (B : Nat) : Cfg := ⟨Try.prog, ⟨8, B⟩, [], hasN [28], hasN [], look []⟩
noncomputable def V14.code : Code := (Try.f14.body).getD .skip
noncomputable def V14.cuts (B : Nat) (R : Value → World → Prop) : Nat → Cut := nthC []
noncomputable def V14.h : H := .s (.z) (.s (.z) (.z))
theorem V14.vc_eq (B : Nat) (R : Value → World → Prop) (a : Option Addr) (c d : Nat) (f : Option Addr) (g i : Nat) (w : World) : wpf (V14.cfg B) (V14.cuts B R) V14.code V14.h [] (postOf Try.prog B (Try.f14.results.toList) R) (argE 0 [.slice a c d, .slice f g i]) [] w = V14.vc B R a c d f g i w := by kernel_rfl
theorem V14.obl (B : Nat) (R : Value → World → Prop) : oblP (V14.cfg B) (V14.cuts B R) V14.code V14.h [] (postOf Try.prog B (Try.f14.results.toList) R) := by
 have e : oblP (V14.cfg B) (V14.cuts B R) V14.code V14.h [] (postOf Try.prog B (Try.f14.results.toList) R) = (True ∧ (True ∧ True)) := by kernel_rfl
 exact e.mpr (⟨trivial, ⟨trivial, trivial⟩⟩)
theorem V14.cfgOk (B : Nat) : CfgOk (V14.cfg B) := cfgOk_of (by kernel_rfl) (by kernel_rfl) extNil
theorem V14.sound {a : Option Addr} {d f : Nat} {g : Option Addr} {i j : Nat} {w : World} {R : Value → World → Prop} (h : V14.vc w.heap.size R a d f g i j w) : Calls Try.prog 14 ⟨[.slice a d f, .slice g i j]⟩ w fun e w' => ∃ v, e = .returned v ∧ R v w' :=
 calls_wpfP (c := V14.cfg w.heap.size) (fn := Try.f14) (x := V14.code) (V14.cuts w.heap.size R) V14.h (V14.cfgOk _) mixed Try.func14 (by kernel_rfl) (by kernel_rfl) (by kernel_rfl) rfl (V14.obl _ _) ((V14.vc_eq _ _ a d f g i j _).symm ▸ h)
def V28.vc (B : Nat) (R : Value → World → Prop) (a : Option Addr) (c d : Nat) (f : Option Addr) (g i : Nat) (w : World) : Prop :=
 if ((c : Int) == (g : Int)) = true
 then (CallK Try.prog 25 [.slice a c d, .slice f g i] B w [] fun v j => 
 ∃ l : Bool, v = .bool l ∧
 Ret B j (R (.bool l)))
 else (Ret B w (R (.bool false)))
noncomputable def V28.cfg (B : Nat) : Cfg := ⟨Try.prog, ⟨15, B⟩, [], hasN [25], hasN [], look []⟩
noncomputable def V28.code : Code := (Try.f28.body).getD .skip
noncomputable def V28.cuts (B : Nat) (R : Value → World → Prop) : Nat → Cut := nthC []
noncomputable def V28.h : H := .s (.z) (.s (.z) (.z))
theorem V28.vc_eq (B : Nat) (R : Value → World → Prop) (a : Option Addr) (c d : Nat) (f : Option Addr) (g i : Nat) (w : World) : wpf (V28.cfg B) (V28.cuts B R) V28.code V28.h [] (postOf Try.prog B (Try.f28.results.toList) R) (argE 0 [.slice a c d, .slice f g i]) [] w = V28.vc B R a c d f g i w := by kernel_rfl
theorem V28.obl (B : Nat) (R : Value → World → Prop) : oblP (V28.cfg B) (V28.cuts B R) V28.code V28.h [] (postOf Try.prog B (Try.f28.results.toList) R) := by
 have e : oblP (V28.cfg B) (V28.cuts B R) V28.code V28.h [] (postOf Try.prog B (Try.f28.results.toList) R) = (True ∧ (True ∧ True)) := by kernel_rfl
 exact e.mpr (⟨trivial, ⟨trivial, trivial⟩⟩)
theorem V28.cfgOk (B : Nat) : CfgOk (V28.cfg B) := cfgOk_of (by kernel_rfl) (by kernel_rfl) extNil
theorem V28.sound {a : Option Addr} {d f : Nat} {g : Option Addr} {i j : Nat} {w : World} {R : Value → World → Prop} (h : V28.vc w.heap.size R a d f g i j w) : Calls Try.prog 28 ⟨[.slice a d f, .slice g i j]⟩ w fun e w' => ∃ v, e = .returned v ∧ R v w' :=
 calls_wpfP (c := V28.cfg w.heap.size) (fn := Try.f28) (x := V28.code) (V28.cuts w.heap.size R) V28.h (V28.cfgOk _) mixed Try.func28 (by kernel_rfl) (by kernel_rfl) (by kernel_rfl) rfl (V28.obl _ _) ((V28.vc_eq _ _ a d f g i j _).symm ▸ h)
def V25.l0 (B : Nat) (R : Value → World → Prop) : Nat → Option Addr → Nat → Nat → Option Addr → Nat → Nat → Int → World → Prop
 | 0 => fun _ _ _ _ _ _ _ _ => False
 | k + 1 => fun a c d f g i j w =>
 if (decide (j < (c : Int))) = true
 then (∃ l : Addr, a = some l ∧ (0 : Int) ≤ j ∧ j < (c : Int) ∧
 ∃ m : Int, w.cell? ((l.add (j.toNat * 2)).add 0) = some (.int .i64 m) ∧
 ∃ n : Int, w.cell? ((l.add (j.toNat * 2)).add 1) = some (.int .u64 n) ∧
 ∃ o : Addr, f = some o ∧ (0 : Int) ≤ j ∧ j < (g : Int) ∧
 ∃ p : Int, w.cell? ((o.add (j.toNat * 2)).add 0) = some (.int .i64 p) ∧
 ∃ q : Int, w.cell? ((o.add (j.toNat * 2)).add 1) = some (.int .u64 q) ∧
 if (!((m == p) && (n == q))) = true
 then (Ret B w (R (.bool false)))
 else ((V25.l0 B R k) a c d f g i (IntKind.wrap .i64 (j + 1)) w))
 else (Ret B w (R (.bool true)))
def V25.vc (B : Nat) (R : Value → World → Prop) (a : Option Addr) (c d : Nat) (f : Option Addr) (g i : Nat) (w : World) : Prop :=
 if (decide ((c : Int) > (g : Int))) = true
 then (Ret B w (R (.bool false)))
 else (∃ j, V25.l0 B R j a c d f g i 0 w)
noncomputable def V25.cfg (B : Nat) : Cfg := ⟨Try.prog, ⟨26, B⟩, [], hasN [], hasN [31], look []⟩
noncomputable def V25.code : Code := (Try.f25.body).getD .skip
noncomputable def V25.cuts (B : Nat) (R : Value → World → Prop) : Nat → Cut := nthC [⟨[(0, .one (.slice)), (1, .one (.slice)), (5, .one (.int .i64))], [], fun fs vs bs w => V25.l0 B R (nthN fs 0) (slA (nthV vs 0)) (slL (nthV vs 0)) (slC (nthV vs 0)) (slA (nthV vs 1)) (slL (nthV vs 1)) (slC (nthV vs 1)) (iV (nthV vs 2)) w⟩]
noncomputable def V25.h : H := .s (.z) (.s (.s (.z) (.c (.s (.z) (.z)) (.z))) (.s (.s (.z) (.b (.l 0 (.s (.s (.z) (.c (.z) (.z))) (.s (.b (.s (.r [[0, 1, 2, 3, 4, 5, 6, 7, 8]]) (.c (.s (.z) (.z)) (.z)))) (.z)))))) (.s (.z) (.z))))
theorem V25.vc_eq (B : Nat) (R : Value → World → Prop) (a : Option Addr) (c d : Nat) (f : Option Addr) (g i : Nat) (w : World) : wpf (V25.cfg B) (V25.cuts B R) V25.code V25.h [] (postOf Try.prog B (Try.f25.results.toList) R) (argE 0 [.slice a c d, .slice f g i]) [] w = V25.vc B R a c d f g i w := by kernel_rfl
theorem V25.obl (B : Nat) (R : Value → World → Prop) : oblP (V25.cfg B) (V25.cuts B R) V25.code V25.h [] (postOf Try.prog B (Try.f25.results.toList) R) := by
 have e : oblP (V25.cfg B) (V25.cuts B R) V25.code V25.h [] (postOf Try.prog B (Try.f25.results.toList) R) = (True ∧ ((True ∧ ((True ∧ True) ∧ True)) ∧ ((True ∧ ((∀ (a : Option Addr) (c d : Nat) (f : Option Addr) (g i : Nat) (j : Int) (w : World), ¬ V25.l0 B R 0 a c d f g i j w) ∧ (∀ l, ∀ (a : Option Addr) (c d : Nat) (f : Option Addr) (g i : Nat) (j : Int) (w : World), V25.l0 B R (l + 1) a c d f g i j w → V25.l0 B R (l + 1) a c d f g i j w) ∧ ∀ l : Nat, ((True ∧ (True ∧ True)) ∧ (((true = true) ∧ ((True ∧ True) ∧ True)) ∧ True)))) ∧ (True ∧ True)))) := by kernel_rfl
 exact e.mpr (⟨trivial, ⟨⟨trivial, ⟨⟨trivial, trivial⟩, trivial⟩⟩, ⟨⟨trivial, ⟨fun a c d f g i j w h => h, fun _ a c d f g i j w h => h, fun l => ⟨⟨trivial, ⟨trivial, trivial⟩⟩, ⟨⟨rfl, ⟨⟨trivial, trivial⟩, trivial⟩⟩, trivial⟩⟩⟩⟩, ⟨trivial, trivial⟩⟩⟩⟩)
theorem V25.cfgOk (B : Nat) : CfgOk (V25.cfg B) := cfgOk_of (by kernel_rfl) (by kernel_rfl) extNil
theorem V25.sound {a : Option Addr} {d f : Nat} {g : Option Addr} {i j : Nat} {w : World} {R : Value → World → Prop} (h : V25.vc w.heap.size R a d f g i j w) : Calls Try.prog 25 ⟨[.slice a d f, .slice g i j]⟩ w fun e w' => ∃ v, e = .returned v ∧ R v w' :=
 calls_wpfP (c := V25.cfg w.heap.size) (fn := Try.f25) (x := V25.code) (V25.cuts w.heap.size R) V25.h (V25.cfgOk _) mixed Try.func25 (by kernel_rfl) (by kernel_rfl) (by kernel_rfl) rfl (V25.obl _ _) ((V25.vc_eq _ _ a d f g i j _).symm ▸ h)
end Go.Proofs.Ytidcpndlloppdaa
