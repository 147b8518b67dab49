import Derived.Test.YtidcpndlloppdaaGreatZP21d
import Derived.Test.YtidcpndlloppdaaGreatZM17
/-
 Layer 21,plain: runs,and what their traces are.
 Conditions: the program is right.
-/
set_option linter.unusedVariables false
set_option linter.unusedSimpArgs false
set_option maxRecDepth 20000
namespace Go.Proofs.YtidcpndlloppdaaGreat
theorem step_over {p : List Fnc} {m : Mach} (h : m.ended = true) : stepM p m = (m,7) := by unfold stepM; rw [if_pos h]
end Go.Proofs.YtidcpndlloppdaaGreat

/-
 What the engine makes of the loaded functions : conditions under which a call returns as told,and proofs of that.
 Conditions: none. Printed by a program of this project.
-/
set_option linter.unusedVariables false
set_option maxRecDepth 100000
namespace Go.Proofs.YtidcpndlloppdaaGreat
end Go.Proofs.YtidcpndlloppdaaGreat

/-
 What the engine makes of the loaded functions 51: conditions under which a call returns as told,and proofs of that.
 Conditions: none. Printed by a program of this project.
-/
set_option linter.unusedVariables false
set_option maxRecDepth 100000
namespace Go.Proofs.YtidcpndlloppdaaGreat
end Go.Proofs.YtidcpndlloppdaaGreat

/-
 What the engine makes of the loaded functions 68,129,113,114: conditions under which a call returns as told,and proofs of that.
 Conditions: none. Printed by a program of this project.
-/
set_option linter.unusedVariables false
set_option maxRecDepth 100000
namespace Go.Proofs.YtidcpndlloppdaaGreat
def V68.l0 (B : Nat) (R : Value → World → Prop) : Nat → Option Addr → Nat → Nat → Int → Int → Nat → Option Addr → Nat → Nat → Nat → Option Addr → Nat → Nat → World → Prop
 | 0 => fun _ _ _ _ _ _ _ _ _ _ _ _ _ _ => False
 | k + 1 => fun a c d f g i j l m n o p q w =>
 if (decide (g < f)) = true
 then (∃ r : Addr,a = some r ∧ (0 : Int) ≤ g ∧ g < (c : Int) ∧
 ∃ s : Int,w.cell? ((r.add (g.toNat * 4)).add 0) = some (.int .i64 s) ∧
 ∃ t : Int,w.cell? ((r.add (g.toNat * 4)).add 1) = some (.int .i64 t) ∧
 ∃ x : Int,w.cell? ((r.add (g.toNat * 4)).add 2) = some (.int .i64 x) ∧
 ∃ (y : Option Addr) (z A : Nat),w.cell? ((r.add (g.toNat * 4)).add 3) = some (.slice y z A) ∧
 ∀ C : Nat,w.heap.size ≤ C →
 CallK Tryz.prog 114 [.slice y z A] B w [C,i,n] fun v D => 
 ∃ (E : Option Addr) (F G : Nat),v = .slice E F G ∧
 ∃ I : Addr,o = some I ∧ (0 : Int) ≤ g ∧ g < (p : Int) ∧
 (∃ u,D.cell? (((I.add (g.toNat * 4)).add 3).add 0) = some u) ∧ D.frozen? (((I.add (g.toNat * 4)).add 3).add 0) = false ∧
 let J := D.setCell (((I.add (g.toNat * 4)).add 3).add 0) (.slice E F G);
 (V68.l0 B R k) a c d f (IntKind.wrap .i64 (g + 1)) i j l m n o p q J)
 else (Ret B w (R (.agg ⟨[.slice o p q]⟩)))
def V68.vc (B : Nat) (R : Value → World → Prop) (a : Option Addr) (c d : Nat) (w : World) : Prop :=
 ∀ f : Nat,w.heap.size ≤ f →
 ∀ g : Nat,w.heap.size ≤ g →
 CallK Tryz.prog 113 [.slice a c d] B w [g,f] fun v i => 
 ∃ (j : Option Addr) (l m : Nat),v = .slice j l m ∧
 ∃ n,V68.l0 B R n j l m (l : Int) 0 g none 0 0 f j l m i
noncomputable def V68.cfg (B : Nat) : Cfg := ⟨Tryz.prog,⟨27,B⟩,[],hasN [113,114],hasN [],look []⟩
noncomputable def V68.code : Code := (Tryz.f68.body).getD .skip
noncomputable def V68.cuts (B : Nat) (R : Value → World → Prop) : Nat → Cut := nthC [⟨[(10,.one (.slice)),(11,.one (.int .i64)),(12,.one (.int .i64))],[(2,24,[.slice]),(1,24,[.slice])],fun fs vs bs w => V68.l0 B R (nthN fs 0) (slA (nthV vs 0)) (slL (nthV vs 0)) (slC (nthV vs 0)) (iV (nthV vs 1)) (iV (nthV vs 2)) (nthB bs 0).blk (slA (nthV (nthB bs 0).cells 0)) (slL (nthV (nthB bs 0).cells 0)) (slC (nthV (nthB bs 0).cells 0)) (nthB bs 1).blk (slA (nthV (nthB bs 1).cells 0)) (slL (nthV (nthB bs 1).cells 0)) (slC (nthV (nthB bs 1).cells 0)) w⟩]
noncomputable def V68.h : H := .s (.z) (.s (.z) (.s (.s (.z) (.b (.l 0 (.s (.z) (.s (.c (.z) (.z)) (.s (.b (.s (.z) (.r [[0,1,2,3,4,5,6,7,8]]))) (.z))))))) (.s (.z) (.z))))
theorem V68.vc_eq (B : Nat) (R : Value → World → Prop) (a : Option Addr) (c d : Nat) (w : World) : wpf (V68.cfg B) (V68.cuts B R) V68.code V68.h [] (postOf Tryz.prog B (Tryz.f68.results.toList) R) (argE 0 [.agg ⟨[.slice a c d]⟩]) [] w = V68.vc B R a c d w := by kernel_rfl
theorem V68.obl (B : Nat) (R : Value → World → Prop) : oblP (V68.cfg B) (V68.cuts B R) V68.code V68.h [] (postOf Tryz.prog B (Tryz.f68.results.toList) R) := by
 have e : oblP (V68.cfg B) (V68.cuts B R) V68.code V68.h [] (postOf Tryz.prog B (Tryz.f68.results.toList) R) = (True ∧ (True ∧ ((True ∧ ((∀ (a : Option Addr) (c d : Nat) (f g : Int) (i : Nat) (j : Option Addr) (l m n : Nat) (o : Option Addr) (p q : Nat) (w : World),¬ V68.l0 B R 0 a c d f g i j l m n o p q w) ∧ (∀ r,∀ (a : Option Addr) (c d : Nat) (f g : Int) (i : Nat) (j : Option Addr) (l m n : Nat) (o : Option Addr) (p q : Nat) (w : World),V68.l0 B R (r + 1) a c d f g i j l m n o p q w → V68.l0 B R (r + 1) a c d f g i j l m n o p q w) ∧ ∀ r : Nat,(True ∧ ((True ∧ True) ∧ ((True ∧ (true = true)) ∧ True))))) ∧ (True ∧ True)))) := by kernel_rfl
 exact e.mpr (⟨trivial,⟨trivial,⟨⟨trivial,⟨fun a c d f g i j l m n o p q w h => h,fun _ a c d f g i j l m n o p q w h => h,fun r => ⟨trivial,⟨⟨trivial,trivial⟩,⟨⟨trivial,rfl⟩,trivial⟩⟩⟩⟩⟩,⟨trivial,trivial⟩⟩⟩⟩)
theorem V68.cfgOk (B : Nat) : CfgOk (V68.cfg B) := cfgOk_of (by kernel_rfl) (by kernel_rfl) extNil
theorem V68.sound {a : Option Addr} {d f : Nat} {w : World} {R : Value → World → Prop} (h : V68.vc w.heap.size R a d f w) : Calls Tryz.prog 68 ⟨[.agg ⟨[.slice a d f]⟩]⟩ w fun e w' => ∃ v,e = .returned v ∧ R v w' :=
 calls_wpfP (c := V68.cfg w.heap.size) (fn := Tryz.f68) (x := V68.code) (V68.cuts w.heap.size R) V68.h (V68.cfgOk _) mixed Tryz.func68 (by kernel_rfl) (by kernel_rfl) (by kernel_rfl) rfl (V68.obl _ _) ((V68.vc_eq _ _ a d f _).symm ▸ h)
def V129.l0 (B : Nat) (R : Value → World → Prop) : Nat → Option Addr → Nat → Nat → Int → Nat → Int → Int → Int → Bool → Int → Option Addr → Nat → Nat → Option Addr → Nat → Nat → Option Addr → Nat → Nat → World → Prop
 | 0 => fun _ _ _ _ _ _ _ _ _ _ _ _ _ _ _ _ _ _ _ _ => False
 | k + 1 => fun a c d f g i j l m n o p q r s t u x y w =>
 if (decide (f < (s : Int))) = true
 then (∃ z : Addr,r = some z ∧ (0 : Int) ≤ f ∧ f < (s : Int) ∧
 ∃ A : Int,w.cell? (z.add f.toNat) = some (.int .u64 A) ∧
 if (A != 0) = true
 then (∃ C : Addr,r = some C ∧ (0 : Int) ≤ f ∧ f < (s : Int) ∧
 ∃ D : Int,w.cell? (C.add f.toNat) = some (.int .u64 D) ∧
 Expo B w [g] fun E => 
 Hide [g] (E.alloc (.cells ⟨[.int .u64 D]⟩ 55)) fun F => 
 RunK Tryz.prog (Builtin.append_ #[31,31] 31 ⟨[.slice a c d,.slice (some ⟨E.heap.size,0,none⟩) 1 1]⟩) B F [g] fun v G => 
 ∃ (I : Option Addr) (J L : Nat),v = .slice I J L ∧ (V129.l0 B R k) I J L (IntKind.wrap .i64 (f + 1)) g i j l m n o p q r s t u x y G)
 else ((V129.l0 B R k) a c d (IntKind.wrap .i64 (f + 1)) g i j l m n o p q r s t u x y w))
 else (Ret B w (R (.slice a c d)))
def V129.vc (B : Nat) (R : Value → World → Prop) (a : Option Addr) (c d : Nat) (f g i : Int) (j : Bool) (l : Int) (m : Option Addr) (n o : Nat) (p : Option Addr) (q r : Nat) (s : Option Addr) (t u : Nat) (w : World) : Prop :=
 ∀ x : Nat,w.heap.size ≤ x →
 ∀ y : Nat,w.heap.size ≤ y →
 ∃ z : Addr,a = some z ∧ (0 : Int) ≤ f ∧ f < (c : Int) ∧
 ∃ A : Int,w.cell? ((z.add (f.toNat * 4)).add 2) = some (.int .i64 A) ∧
 ∃ C,V129.l0 B R C none 0 0 (IntKind.wrap .i64 ((q : Int) - A)) y f g i j l m n o p q r s t u w
noncomputable def V129.cfg (B : Nat) : Cfg := ⟨Tryz.prog,⟨40,B⟩,[],hasN [],hasN [],look []⟩
noncomputable def V129.code : Code := (Tryz.f129.body).getD .skip
noncomputable def V129.cuts (B : Nat) (R : Value → World → Prop) : Nat → Cut := nthC [⟨[(5,.one (.slice)),(6,.one (.int .i64))],[(3,99,[.int .i64,.int .i64,.int .i64,.bool,.int .u64,.slice,.slice,.slice])],fun fs vs bs w => V129.l0 B R (nthN fs 0) (slA (nthV vs 0)) (slL (nthV vs 0)) (slC (nthV vs 0)) (iV (nthV vs 1)) (nthB bs 0).blk (iV (nthV (nthB bs 0).cells 0)) (iV (nthV (nthB bs 0).cells 1)) (iV (nthV (nthB bs 0).cells 2)) (bV (nthV (nthB bs 0).cells 3)) (iV (nthV (nthB bs 0).cells 4)) (slA (nthV (nthB bs 0).cells 5)) (slL (nthV (nthB bs 0).cells 5)) (slC (nthV (nthB bs 0).cells 5)) (slA (nthV (nthB bs 0).cells 6)) (slL (nthV (nthB bs 0).cells 6)) (slC (nthV (nthB bs 0).cells 6)) (slA (nthV (nthB bs 0).cells 7)) (slL (nthV (nthB bs 0).cells 7)) (slC (nthV (nthB bs 0).cells 7)) w⟩]
noncomputable def V129.h : H := .s (.z) (.s (.z) (.s (.s (.r [[0,1,2,3,4,5,6,7,8,9,10,11]]) (.b (.l 0 (.s (.s (.z) (.c (.z) (.z))) (.s (.b (.s (.z) (.c (.z) (.z)))) (.z)))))) (.s (.z) (.z))))
theorem V129.vc_eq (B : Nat) (R : Value → World → Prop) (a : Option Addr) (c d : Nat) (f g i : Int) (j : Bool) (l : Int) (m : Option Addr) (n o : Nat) (p : Option Addr) (q r : Nat) (s : Option Addr) (t u : Nat) (w : World) : wpf (V129.cfg B) (V129.cuts B R) V129.code V129.h [] (postOf Tryz.prog B (Tryz.f129.results.toList) R) (argE 0 [.agg ⟨[.slice a c d]⟩,.agg ⟨[.int .i64 f,.int .i64 g,.int .i64 i,.bool j,.int .u64 l,.slice m n o,.slice p q r,.slice s t u]⟩]) [] w = V129.vc B R a c d f g i j l m n o p q r s t u w := by kernel_rfl
theorem V129.obl (B : Nat) (R : Value → World → Prop) : oblP (V129.cfg B) (V129.cuts B R) V129.code V129.h [] (postOf Tryz.prog B (Tryz.f129.results.toList) R) := by
 have e : oblP (V129.cfg B) (V129.cuts B R) V129.code V129.h [] (postOf Tryz.prog B (Tryz.f129.results.toList) R) = (True ∧ (True ∧ (((true = true) ∧ ((∀ (a : Option Addr) (c d : Nat) (f : Int) (g : Nat) (i j l : Int) (m : Bool) (n : Int) (o : Option Addr) (p q : Nat) (r : Option Addr) (s t : Nat) (u : Option Addr) (x y : Nat) (w : World),¬ V129.l0 B R 0 a c d f g i j l m n o p q r s t u x y w) ∧ (∀ z,∀ (a : Option Addr) (c d : Nat) (f : Int) (g : Nat) (i j l : Int) (m : Bool) (n : Int) (o : Option Addr) (p q : Nat) (r : Option Addr) (s t : Nat) (u : Option Addr) (x y : Nat) (w : World),V129.l0 B R (z + 1) a c d f g i j l m n o p q r s t u x y w → V129.l0 B R (z + 1) a c d f g i j l m n o p q r s t u x y w) ∧ ∀ z : Nat,((True ∧ (True ∧ True)) ∧ ((True ∧ (True ∧ True)) ∧ True)))) ∧ (True ∧ True)))) := by kernel_rfl
 exact e.mpr (⟨trivial,⟨trivial,⟨⟨rfl,⟨fun a c d f g i j l m n o p q r s t u x y w h => h,fun _ a c d f g i j l m n o p q r s t u x y w h => h,fun z => ⟨⟨trivial,⟨trivial,trivial⟩⟩,⟨⟨trivial,⟨trivial,trivial⟩⟩,trivial⟩⟩⟩⟩,⟨trivial,trivial⟩⟩⟩⟩)
theorem V129.cfgOk (B : Nat) : CfgOk (V129.cfg B) := cfgOk_of (by kernel_rfl) (by kernel_rfl) extNil
theorem V129.sound {a : Option Addr} {d f : Nat} {g i j : Int} {l : Bool} {m : Int} {n : Option Addr} {o p : Nat} {q : Option Addr} {r s : Nat} {t : Option Addr} {u y : Nat} {w : World} {R : Value → World → Prop} (h : V129.vc w.heap.size R a d f g i j l m n o p q r s t u y w) : Calls Tryz.prog 129 ⟨[.agg ⟨[.slice a d f]⟩,.agg ⟨[.int .i64 g,.int .i64 i,.int .i64 j,.bool l,.int .u64 m,.slice n o p,.slice q r s,.slice t u y]⟩]⟩ w fun e w' => ∃ v,e = .returned v ∧ R v w' :=
 calls_wpfP (c := V129.cfg w.heap.size) (fn := Tryz.f129) (x := V129.code) (V129.cuts w.heap.size R) V129.h (V129.cfgOk _) mixed Tryz.func129 (by kernel_rfl) (by kernel_rfl) (by kernel_rfl) rfl (V129.obl _ _) ((V129.vc_eq _ _ a d f g i j l m n o p q r s t u y _).symm ▸ h)
def V113.vc (B : Nat) (R : Value → World → Prop) (a : Option Addr) (c d : Nat) (w : World) : Prop :=
 if (Option.isNone a) = true
 then (Ret B w (R (.slice none 0 0)))
 else (Expo B w [] fun f => 
 let g := f.alloc (.cells ⟨[]⟩ 63);
 RunK Tryz.prog (Builtin.append_ #[22,22] 22 ⟨[.slice (some ⟨f.heap.size,0,none⟩) 0 0,.slice a c d]⟩) B g [] fun v i => 
 ∃ (j : Option Addr) (l m : Nat),v = .slice j l m ∧
 Ret B i (R (.slice j l m)))
noncomputable def V113.cfg (B : Nat) : Cfg := ⟨Tryz.prog,⟨8,B⟩,[],hasN [],hasN [],look []⟩
noncomputable def V113.code : Code := (Tryz.f113.body).getD .skip
noncomputable def V113.cuts (B : Nat) (R : Value → World → Prop) : Nat → Cut := nthC []
noncomputable def V113.h : H := .s (.z) (.s (.s (.z) (.c (.s (.z) (.z)) (.z))) (.s (.z) (.z)))
theorem V113.vc_eq (B : Nat) (R : Value → World → Prop) (a : Option Addr) (c d : Nat) (w : World) : wpf (V113.cfg B) (V113.cuts B R) V113.code V113.h [] (postOf Tryz.prog B (Tryz.f113.results.toList) R) (argE 0 [.slice a c d]) [] w = V113.vc B R a c d w := by kernel_rfl
theorem V113.obl (B : Nat) (R : Value → World → Prop) : oblP (V113.cfg B) (V113.cuts B R) V113.code V113.h [] (postOf Tryz.prog B (Tryz.f113.results.toList) R) := by
 have e : oblP (V113.cfg B) (V113.cuts B R) V113.code V113.h [] (postOf Tryz.prog B (Tryz.f113.results.toList) R) = (True ∧ ((True ∧ ((True ∧ True) ∧ True)) ∧ (True ∧ True))) := by kernel_rfl
 exact e.mpr (⟨trivial,⟨⟨trivial,⟨⟨trivial,trivial⟩,trivial⟩⟩,⟨trivial,trivial⟩⟩⟩)
theorem V113.cfgOk (B : Nat) : CfgOk (V113.cfg B) := cfgOk_of (by kernel_rfl) (by kernel_rfl) extNil
theorem V113.sound {a : Option Addr} {d f : Nat} {w : World} {R : Value → World → Prop} (h : V113.vc w.heap.size R a d f w) : Calls Tryz.prog 113 ⟨[.slice a d f]⟩ w fun e w' => ∃ v,e = .returned v ∧ R v w' :=
 calls_wpfP (c := V113.cfg w.heap.size) (fn := Tryz.f113) (x := V113.code) (V113.cuts w.heap.size R) V113.h (V113.cfgOk _) mixed Tryz.func113 (by kernel_rfl) (by kernel_rfl) (by kernel_rfl) rfl (V113.obl _ _) ((V113.vc_eq _ _ a d f _).symm ▸ h)
def V114.vc (B : Nat) (R : Value → World → Prop) (a : Option Addr) (c d : Nat) (w : World) : Prop :=
 if (Option.isNone a) = true
 then (Ret B w (R (.slice none 0 0)))
 else (Expo B w [] fun f => 
 let g := f.alloc (.cells ⟨[]⟩ 105);
 RunK Tryz.prog (Builtin.append_ #[61,61] 61 ⟨[.slice (some ⟨f.heap.size,0,none⟩) 0 0,.slice a c d]⟩) B g [] fun v i => 
 ∃ (j : Option Addr) (l m : Nat),v = .slice j l m ∧
 Ret B i (R (.slice j l m)))
noncomputable def V114.cfg (B : Nat) : Cfg := ⟨Tryz.prog,⟨8,B⟩,[],hasN [],hasN [],look []⟩
noncomputable def V114.code : Code := (Tryz.f114.body).getD .skip
noncomputable def V114.cuts (B : Nat) (R : Value → World → Prop) : Nat → Cut := nthC []
noncomputable def V114.h : H := .s (.z) (.s (.s (.z) (.c (.s (.z) (.z)) (.z))) (.s (.z) (.z)))
theorem V114.vc_eq (B : Nat) (R : Value → World → Prop) (a : Option Addr) (c d : Nat) (w : World) : wpf (V114.cfg B) (V114.cuts B R) V114.code V114.h [] (postOf Tryz.prog B (Tryz.f114.results.toList) R) (argE 0 [.slice a c d]) [] w = V114.vc B R a c d w := by kernel_rfl
theorem V114.obl (B : Nat) (R : Value → World → Prop) : oblP (V114.cfg B) (V114.cuts B R) V114.code V114.h [] (postOf Tryz.prog B (Tryz.f114.results.toList) R) := by
 have e : oblP (V114.cfg B) (V114.cuts B R) V114.code V114.h [] (postOf Tryz.prog B (Tryz.f114.results.toList) R) = (True ∧ ((True ∧ ((True ∧ True) ∧ True)) ∧ (True ∧ True))) := by kernel_rfl
 exact e.mpr (⟨trivial,⟨⟨trivial,⟨⟨trivial,trivial⟩,trivial⟩⟩,⟨trivial,trivial⟩⟩⟩)
theorem V114.cfgOk (B : Nat) : CfgOk (V114.cfg B) := cfgOk_of (by kernel_rfl) (by kernel_rfl) extNil
theorem V114.sound {a : Option Addr} {d f : Nat} {w : World} {R : Value → World → Prop} (h : V114.vc w.heap.size R a d f w) : Calls Tryz.prog 114 ⟨[.slice a d f]⟩ w fun e w' => ∃ v,e = .returned v ∧ R v w' :=
 calls_wpfP (c := V114.cfg w.heap.size) (fn := Tryz.f114) (x := V114.code) (V114.cuts w.heap.size R) V114.h (V114.cfgOk _) mixed Tryz.func114 (by kernel_rfl) (by kernel_rfl) (by kernel_rfl) rfl (V114.obl _ _) ((V114.vc_eq _ _ a d f _).symm ▸ h)
end Go.Proofs.YtidcpndlloppdaaGreat
