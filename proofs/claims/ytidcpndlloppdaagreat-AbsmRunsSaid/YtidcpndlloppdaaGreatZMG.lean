import Derived.Test.YtidcpndlloppdaaGreatZME
/-
 What the engine makes of the loaded functions 17,62,86,44,45,12,3: conditions under which a call returns as told,and proofs of that.
 Conditions: none. Printed by a program of this project.
-/
set_option linter.unusedVariables false
set_option maxRecDepth 100000
namespace Go.Proofs.YtidcpndlloppdaaGreat
def V17.l0 (B : Nat) (R : Value → World → Prop) : Nat → Option Addr → Nat → Nat → Option Addr → Nat → Nat → Int → World → Prop
 | 0 => fun _ _ _ _ _ _ _ _ => False
 | k + 1 => fun a c d f g i j w =>
 if (decide (j < (c : Int))) = true
 then (∃ l : Addr,a = some l ∧ (0 : Int) ≤ j ∧ j < (c : Int) ∧
 ∃ m : Int,w.cell? ((l.add (j.toNat * 8)).add 0) = some (.int .i64 m) ∧
 ∃ n : Int,w.cell? ((l.add (j.toNat * 8)).add 1) = some (.int .i64 n) ∧
 ∃ o : Int,w.cell? ((l.add (j.toNat * 8)).add 2) = some (.int .i64 o) ∧
 ∃ p : Bool,w.cell? ((l.add (j.toNat * 8)).add 3) = some (.bool p) ∧
 ∃ q : Int,w.cell? ((l.add (j.toNat * 8)).add 4) = some (.int .u64 q) ∧
 ∃ (r : Option Addr) (s t : Nat),w.cell? ((l.add (j.toNat * 8)).add 5) = some (.slice r s t) ∧
 ∃ (u : Option Addr) (x y : Nat),w.cell? ((l.add (j.toNat * 8)).add 6) = some (.slice u x y) ∧
 ∃ (z : Option Addr) (A C : Nat),w.cell? ((l.add (j.toNat * 8)).add 7) = some (.slice z A C) ∧
 ∃ D : Addr,f = some D ∧ (0 : Int) ≤ j ∧ j < (g : Int) ∧
 ∃ E : Int,w.cell? ((D.add (j.toNat * 8)).add 0) = some (.int .i64 E) ∧
 ∃ F : Int,w.cell? ((D.add (j.toNat * 8)).add 1) = some (.int .i64 F) ∧
 ∃ G : Int,w.cell? ((D.add (j.toNat * 8)).add 2) = some (.int .i64 G) ∧
 ∃ I : Bool,w.cell? ((D.add (j.toNat * 8)).add 3) = some (.bool I) ∧
 ∃ J : Int,w.cell? ((D.add (j.toNat * 8)).add 4) = some (.int .u64 J) ∧
 ∃ (L : Option Addr) (M N : Nat),w.cell? ((D.add (j.toNat * 8)).add 5) = some (.slice L M N) ∧
 ∃ (O : Option Addr) (P Q : Nat),w.cell? ((D.add (j.toNat * 8)).add 6) = some (.slice O P Q) ∧
 ∃ (S : Option Addr) (T U : Nat),w.cell? ((D.add (j.toNat * 8)).add 7) = some (.slice S T U) ∧
 CallK Tryz.prog 54 [.agg ⟨[.int .i64 m,.int .i64 n,.int .i64 o,.bool p,.int .u64 q,.slice r s t,.slice u x y,.slice z A C]⟩,.agg ⟨[.int .i64 E,.int .i64 F,.int .i64 G,.bool I,.int .u64 J,.slice L M N,.slice O P Q,.slice S T U]⟩] B w [] fun v W => 
 ∃ X : Bool,v = .bool X ∧
 if (!X) = true
 then (Ret B W (R (.bool false)))
 else ((V17.l0 B R k) a c d f g i (IntKind.wrap .i64 (j + 1)) W))
 else (Ret B w (R (.bool true)))
def V17.vc (B : Nat) (R : Value → World → Prop) (a : Option Addr) (c d : Nat) (f : Option Addr) (g i : Nat) (w : World) : Prop :=
 if ((c : Int) != (g : Int)) = true
 then (Ret B w (R (.bool false)))
 else (∃ j,V17.l0 B R j a c d f g i 0 w)
noncomputable def V17.cfg (B : Nat) : Cfg := ⟨Tryz.prog,⟨27,B⟩,[],hasN [54],hasN [],look []⟩
noncomputable def V17.code : Code := (Tryz.f17.body).getD .skip
noncomputable def V17.cuts (B : Nat) (R : Value → World → Prop) : Nat → Cut := nthC [⟨[(0,.one (.slice)),(1,.one (.slice)),(5,.one (.int .i64))],[],fun fs vs bs w => V17.l0 B R (nthN fs 0) (slA (nthV vs 0)) (slL (nthV vs 0)) (slC (nthV vs 0)) (slA (nthV vs 1)) (slL (nthV vs 1)) (slC (nthV vs 1)) (iV (nthV vs 2)) w⟩]
noncomputable def V17.h : H := .s (.z) (.s (.s (.z) (.c (.s (.z) (.z)) (.z))) (.s (.s (.z) (.b (.l 0 (.s (.s (.z) (.c (.z) (.z))) (.s (.b (.s (.r [[0,1,2,3,4,5,6,7,8,9]]) (.c (.s (.z) (.z)) (.z)))) (.z)))))) (.s (.z) (.z))))
theorem V17.vc_eq (B : Nat) (R : Value → World → Prop) (a : Option Addr) (c d : Nat) (f : Option Addr) (g i : Nat) (w : World) : wpf (V17.cfg B) (V17.cuts B R) V17.code V17.h [] (postOf Tryz.prog B (Tryz.f17.results.toList) R) (argE 0 [.slice a c d,.slice f g i]) [] w = V17.vc B R a c d f g i w := by kernel_rfl
theorem V17.obl (B : Nat) (R : Value → World → Prop) : oblP (V17.cfg B) (V17.cuts B R) V17.code V17.h [] (postOf Tryz.prog B (Tryz.f17.results.toList) R) := by
 have e : oblP (V17.cfg B) (V17.cuts B R) V17.code V17.h [] (postOf Tryz.prog B (Tryz.f17.results.toList) R) = (True ∧ ((True ∧ ((True ∧ True) ∧ True)) ∧ ((True ∧ ((∀ (a : Option Addr) (c d : Nat) (f : Option Addr) (g i : Nat) (j : Int) (w : World),¬ V17.l0 B R 0 a c d f g i j w) ∧ (∀ l,∀ (a : Option Addr) (c d : Nat) (f : Option Addr) (g i : Nat) (j : Int) (w : World),V17.l0 B R (l + 1) a c d f g i j w → V17.l0 B R (l + 1) a c d f g i j w) ∧ ∀ l : Nat,((True ∧ (True ∧ True)) ∧ (((true = true) ∧ ((True ∧ True) ∧ True)) ∧ True)))) ∧ (True ∧ True)))) := by kernel_rfl
 exact e.mpr (⟨trivial,⟨⟨trivial,⟨⟨trivial,trivial⟩,trivial⟩⟩,⟨⟨trivial,⟨fun a c d f g i j w h => h,fun _ a c d f g i j w h => h,fun l => ⟨⟨trivial,⟨trivial,trivial⟩⟩,⟨⟨rfl,⟨⟨trivial,trivial⟩,trivial⟩⟩,trivial⟩⟩⟩⟩,⟨trivial,trivial⟩⟩⟩⟩)
theorem V17.cfgOk (B : Nat) : CfgOk (V17.cfg B) := cfgOk_of (by kernel_rfl) (by kernel_rfl) extNil
theorem V17.sound {a : Option Addr} {d f : Nat} {g : Option Addr} {i j : Nat} {w : World} {R : Value → World → Prop} (h : V17.vc w.heap.size R a d f g i j w) : Calls Tryz.prog 17 ⟨[.slice a d f,.slice g i j]⟩ w fun e w' => ∃ v,e = .returned v ∧ R v w' :=
 calls_wpfP (c := V17.cfg w.heap.size) (fn := Tryz.f17) (x := V17.code) (V17.cuts w.heap.size R) V17.h (V17.cfgOk _) mixed Tryz.func17 (by kernel_rfl) (by kernel_rfl) (by kernel_rfl) rfl (V17.obl _ _) ((V17.vc_eq _ _ a d f g i j _).symm ▸ h)
def V62.vc (B : Nat) (R : Value → World → Prop) (a : Addr) (w : World) : Prop :=
 ∃ c : Bool,w.cell? (a.add 3) = some (.bool c) ∧
 if c = false
 then (∃ d : Bool,w.cell? (a.add 4) = some (.bool d) ∧
 if d = true
 then (Ret B w (R (.int .i64 0)))
 else (∃ f : Bool,w.cell? (a.add 2) = some (.bool f) ∧
 if (!f) = true
 then (∃ (g : Option Addr) (i j : Nat),w.cell? ((a.add 0).add 0) = some (.slice g i j) ∧
 ∃ l : Int,w.cell? (a.add 1) = some (.int .i64 l) ∧
 ∃ m : Addr,g = some m ∧ (0 : Int) ≤ l ∧ l < (i : Int) ∧
 ∃ n : Int,w.cell? ((m.add (l.toNat * 4)).add 0) = some (.int .i64 n) ∧
 ∃ o : Int,w.cell? ((m.add (l.toNat * 4)).add 1) = some (.int .i64 o) ∧
 ∃ p : Int,w.cell? ((m.add (l.toNat * 4)).add 2) = some (.int .i64 p) ∧
 ∃ (q : Option Addr) (r s : Nat),w.cell? ((m.add (l.toNat * 4)).add 3) = some (.slice q r s) ∧
 CallK Tryz.prog 108 [.agg ⟨[.int .i64 n,.int .i64 o,.int .i64 p,.slice q r s]⟩] B w [] fun v t => 
 ∃ u : Int,v = .int .i64 u ∧
 Ret B t (R (.int .i64 u)))
 else (∃ (x : Option Addr) (y z : Nat),w.cell? (a.add 6) = some (.slice x y z) ∧
 ∃ (A : Option Addr) (C D : Nat),w.cell? (a.add 6) = some (.slice A C D) ∧
 ∃ E : Addr,x = some E ∧ (0 : Int) ≤ IntKind.wrap .i64 ((C : Int) - 1) ∧ IntKind.wrap .i64 ((C : Int) - 1) < (y : Int) ∧
 ∃ F : Int,w.cell? ((E.add ((IntKind.wrap .i64 ((C : Int) - 1)).toNat * 8)).add 0) = some (.int .i64 F) ∧
 ∃ G : Int,w.cell? ((E.add ((IntKind.wrap .i64 ((C : Int) - 1)).toNat * 8)).add 1) = some (.int .i64 G) ∧
 ∃ I : Int,w.cell? ((E.add ((IntKind.wrap .i64 ((C : Int) - 1)).toNat * 8)).add 2) = some (.int .i64 I) ∧
 ∃ J : Bool,w.cell? ((E.add ((IntKind.wrap .i64 ((C : Int) - 1)).toNat * 8)).add 3) = some (.bool J) ∧
 ∃ L : Int,w.cell? ((E.add ((IntKind.wrap .i64 ((C : Int) - 1)).toNat * 8)).add 4) = some (.int .u64 L) ∧
 ∃ (M : Option Addr) (N O : Nat),w.cell? ((E.add ((IntKind.wrap .i64 ((C : Int) - 1)).toNat * 8)).add 5) = some (.slice M N O) ∧
 ∃ (P : Option Addr) (Q S : Nat),w.cell? ((E.add ((IntKind.wrap .i64 ((C : Int) - 1)).toNat * 8)).add 6) = some (.slice P Q S) ∧
 ∃ (T : Option Addr) (U W : Nat),w.cell? ((E.add ((IntKind.wrap .i64 ((C : Int) - 1)).toNat * 8)).add 7) = some (.slice T U W) ∧
 ∀ X : Nat,w.heap.size ≤ X → w.cell? ((E.add ((IntKind.wrap .i64 ((C : Int) - 1)).toNat * 8)).add 0) = some (.int .i64 F) ∧ w.cell? ((E.add ((IntKind.wrap .i64 ((C : Int) - 1)).toNat * 8)).add 1) = some (.int .i64 G) ∧ w.cell? ((E.add ((IntKind.wrap .i64 ((C : Int) - 1)).toNat * 8)).add 2) = some (.int .i64 I) ∧ w.cell? ((E.add ((IntKind.wrap .i64 ((C : Int) - 1)).toNat * 8)).add 3) = some (.bool J) ∧ w.cell? ((E.add ((IntKind.wrap .i64 ((C : Int) - 1)).toNat * 8)).add 4) = some (.int .u64 L) ∧ w.cell? ((E.add ((IntKind.wrap .i64 ((C : Int) - 1)).toNat * 8)).add 5) = some (.slice M N O) ∧ w.cell? ((E.add ((IntKind.wrap .i64 ((C : Int) - 1)).toNat * 8)).add 6) = some (.slice P Q S) ∧ w.cell? ((E.add ((IntKind.wrap .i64 ((C : Int) - 1)).toNat * 8)).add 7) = some (.slice T U W) ∧ w.cell? (a.add 6) = some (.slice A C D) ∧ w.cell? (a.add 6) = some (.slice x y z) ∧
 if (I != 0) = true
 then (if ((N : Int) == 0) = true
 then (Ret B w (R (.int .i64 0)))
 else (∃ (Y : Option Addr) (Z a0 : Nat),w.cell? ((a.add 0).add 0) = some (.slice Y Z a0) ∧
 ∃ a1 : Addr,M = some a1 ∧ (0 : Int) ≤ IntKind.wrap .i64 ((N : Int) - 1) ∧ IntKind.wrap .i64 ((N : Int) - 1) < (N : Int) ∧
 ∃ a2 : Int,w.cell? ((a1.add ((IntKind.wrap .i64 ((N : Int) - 1)).toNat * 2)).add 0) = some (.int .i64 a2) ∧
 ∃ a3 : Addr,Y = some a3 ∧ (0 : Int) ≤ a2 ∧ a2 < (Z : Int) ∧
 ∃ a4 : Int,w.cell? ((a3.add (a2.toNat * 4)).add 0) = some (.int .i64 a4) ∧
 ∃ a5 : Int,w.cell? ((a3.add (a2.toNat * 4)).add 1) = some (.int .i64 a5) ∧
 ∃ a6 : Int,w.cell? ((a3.add (a2.toNat * 4)).add 2) = some (.int .i64 a6) ∧
 ∃ (a7 : Option Addr) (a8 a9 : Nat),w.cell? ((a3.add (a2.toNat * 4)).add 3) = some (.slice a7 a8 a9) ∧
 CallK Tryz.prog 108 [.agg ⟨[.int .i64 a4,.int .i64 a5,.int .i64 a6,.slice a7 a8 a9]⟩] B w [X] fun v t => 
 ∃ c0 : Int,v = .int .i64 c0 ∧
 Ret B t (R (.int .i64 c0))))
 else (∃ (c1 : Option Addr) (c2 c3 : Nat),w.cell? ((a.add 0).add 0) = some (.slice c1 c2 c3) ∧
 ∃ c4 : Addr,c1 = some c4 ∧ (0 : Int) ≤ F ∧ F < (c2 : Int) ∧
 ∃ (c5 : Option Addr) (c6 c7 : Nat),w.cell? ((c4.add (F.toNat * 4)).add 3) = some (.slice c5 c6 c7) ∧
 ∃ c8 : Addr,c5 = some c8 ∧ (0 : Int) ≤ G ∧ G < (c6 : Int) ∧
 ∃ c9 : Int,w.cell? ((c8.add (G.toNat * 3)).add 0) = some (.int .i64 c9) ∧
 ∃ d0 : Int,w.cell? ((c8.add (G.toNat * 3)).add 1) = some (.int .i64 d0) ∧
 ∃ d1 : Int,w.cell? ((c8.add (G.toNat * 3)).add 2) = some (.int .i64 d1) ∧
 ∀ q4 : Nat,w.heap.size ≤ q4 → w.cell? ((c8.add (G.toNat * 3)).add 0) = some (.int .i64 c9) ∧ w.cell? ((c8.add (G.toNat * 3)).add 1) = some (.int .i64 d0) ∧ w.cell? ((c8.add (G.toNat * 3)).add 2) = some (.int .i64 d1) ∧ w.cell? ((c4.add (F.toNat * 4)).add 3) = some (.slice c5 c6 c7) ∧ w.cell? ((a.add 0).add 0) = some (.slice c1 c2 c3) ∧
 if (c9 != 17) = true
 then (Ret B w (R (.int .i64 0)))
 else (∃ (d3 : Option Addr) (d4 d5 : Nat),w.cell? ((a.add 0).add 0) = some (.slice d3 d4 d5) ∧
 ∃ d6 : Addr,d3 = some d6 ∧ (0 : Int) ≤ d0 ∧ d0 < (d4 : Int) ∧
 ∃ d7 : Int,w.cell? ((d6.add (d0.toNat * 4)).add 0) = some (.int .i64 d7) ∧
 ∃ d8 : Int,w.cell? ((d6.add (d0.toNat * 4)).add 1) = some (.int .i64 d8) ∧
 ∃ d9 : Int,w.cell? ((d6.add (d0.toNat * 4)).add 2) = some (.int .i64 d9) ∧
 ∃ (f0 : Option Addr) (f1 f2 : Nat),w.cell? ((d6.add (d0.toNat * 4)).add 3) = some (.slice f0 f1 f2) ∧
 CallK Tryz.prog 108 [.agg ⟨[.int .i64 d7,.int .i64 d8,.int .i64 d9,.slice f0 f1 f2]⟩] B w [q4,X] fun v t => 
 ∃ f3 : Int,v = .int .i64 f3 ∧
 Ret B t (R (.int .i64 f3)))))))
 else (Ret B w (R (.int .i64 0)))
noncomputable def V62.cfg (B : Nat) : Cfg := ⟨Tryz.prog,⟨95,B⟩,[],hasN [108],hasN [],look []⟩
noncomputable def V62.code : Code := (Tryz.f62.body).getD .skip
noncomputable def V62.cuts (B : Nat) (R : Value → World → Prop) : Nat → Cut := nthC []
noncomputable def V62.h : H := .s (.z) (.s (.s (.z) (.c (.s (.z) (.z)) (.z))) (.s (.s (.z) (.c (.s (.r [[0,1,2,3,4,5,6,7,8,9,10,11,12]]) (.z)) (.z))) (.s (.r [[0,1,2,3,4,5,6,7,8,9,10,11,12,13]]) (.s (.s (.z) (.c (.s (.s (.z) (.c (.s (.z) (.z)) (.z))) (.s (.r [[0,1,2,3,4,5,6,7,8,9,10,11,12,13,14,15,16,17]]) (.z))) (.z))) (.s (.r [[0,1,2,3,4,5,6,7,8,9,10,11,12,13,14,15]]) (.s (.s (.z) (.c (.s (.z) (.z)) (.z))) (.s (.r [[0,1,2,3,4,5,6,7,8,9,10]]) (.z))))))))
theorem V62.vc_eq (B : Nat) (R : Value → World → Prop) (a : Addr) (w : World) : wpf (V62.cfg B) (V62.cuts B R) V62.code V62.h [] (postOf Tryz.prog B (Tryz.f62.results.toList) R) (argE 0 [.pointer (some a)]) [] w = V62.vc B R a w := by kernel_rfl
theorem V62.obl (B : Nat) (R : Value → World → Prop) : oblP (V62.cfg B) (V62.cuts B R) V62.code V62.h [] (postOf Tryz.prog B (Tryz.f62.results.toList) R) := by
 have e : oblP (V62.cfg B) (V62.cuts B R) V62.code V62.h [] (postOf Tryz.prog B (Tryz.f62.results.toList) R) = (True ∧ ((True ∧ ((True ∧ True) ∧ True)) ∧ ((True ∧ (((true = true) ∧ True) ∧ True)) ∧ ((true = true) ∧ ((True ∧ (((True ∧ ((True ∧ True) ∧ True)) ∧ ((true = true) ∧ True)) ∧ True)) ∧ ((true = true) ∧ ((True ∧ ((True ∧ True) ∧ True)) ∧ ((true = true) ∧ True)))))))) := by kernel_rfl
 exact e.mpr (⟨trivial,⟨⟨trivial,⟨⟨trivial,trivial⟩,trivial⟩⟩,⟨⟨trivial,⟨⟨rfl,trivial⟩,trivial⟩⟩,⟨rfl,⟨⟨trivial,⟨⟨⟨trivial,⟨⟨trivial,trivial⟩,trivial⟩⟩,⟨rfl,trivial⟩⟩,trivial⟩⟩,⟨rfl,⟨⟨trivial,⟨⟨trivial,trivial⟩,trivial⟩⟩,⟨rfl,trivial⟩⟩⟩⟩⟩⟩⟩⟩)
theorem V62.cfgOk (B : Nat) : CfgOk (V62.cfg B) := cfgOk_of (by kernel_rfl) (by kernel_rfl) extNil
theorem V62.sound {a : Addr} {w : World} {R : Value → World → Prop} (h : V62.vc w.heap.size R a w) : Calls Tryz.prog 62 ⟨[.pointer (some a)]⟩ w fun e w' => ∃ v,e = .returned v ∧ R v w' :=
 calls_wpfP (c := V62.cfg w.heap.size) (fn := Tryz.f62) (x := V62.code) (V62.cuts w.heap.size R) V62.h (V62.cfgOk _) mixed Tryz.func62 (by kernel_rfl) (by kernel_rfl) (by kernel_rfl) rfl (V62.obl _ _) ((V62.vc_eq _ _ a _).symm ▸ h)
def V86.l0 (B : Nat) (R : Value → World → Prop) : Nat → Addr → Option Addr → Nat → Nat → Int → World → Prop
 | 0 => fun _ _ _ _ _ _ => False
 | k + 1 => fun a c d f g w =>
 if (decide (g ≥ 0)) = true
 then (∃ (i : Option Addr) (j l : Nat),w.cell? ((a.add 0).add 0) = some (.slice i j l) ∧
 ∃ (m : Option Addr) (n o : Nat),w.cell? (a.add 6) = some (.slice m n o) ∧
 ∃ p : Addr,m = some p ∧ (0 : Int) ≤ g ∧ g < (n : Int) ∧
 ∃ q : Int,w.cell? ((p.add (g.toNat * 8)).add 0) = some (.int .i64 q) ∧
 ∃ r : Int,w.cell? ((p.add (g.toNat * 8)).add 1) = some (.int .i64 r) ∧
 ∃ s : Int,w.cell? ((p.add (g.toNat * 8)).add 2) = some (.int .i64 s) ∧
 ∃ t : Bool,w.cell? ((p.add (g.toNat * 8)).add 3) = some (.bool t) ∧
 ∃ u : Int,w.cell? ((p.add (g.toNat * 8)).add 4) = some (.int .u64 u) ∧
 ∃ (x : Option Addr) (y z : Nat),w.cell? ((p.add (g.toNat * 8)).add 5) = some (.slice x y z) ∧
 ∃ (A : Option Addr) (C D : Nat),w.cell? ((p.add (g.toNat * 8)).add 6) = some (.slice A C D) ∧
 ∃ (E : Option Addr) (F G : Nat),w.cell? ((p.add (g.toNat * 8)).add 7) = some (.slice E F G) ∧
 CallK Tryz.prog 129 [.agg ⟨[.slice i j l]⟩,.agg ⟨[.int .i64 q,.int .i64 r,.int .i64 s,.bool t,.int .u64 u,.slice x y z,.slice A C D,.slice E F G]⟩] B w [] fun v I => 
 ∃ (J : Option Addr) (L M : Nat),v = .slice J L M ∧
 RunK Tryz.prog (Builtin.append_ #[31,31] 31 ⟨[.slice c d f,.slice J L M]⟩) B I [] fun N O => 
 ∃ (P : Option Addr) (Q S : Nat),N = .slice P Q S ∧ (V86.l0 B R k) a P Q S (IntKind.wrap .i64 (g - 1)) O)
 else (Ret B w (R (.slice c d f)))
def V86.vc (B : Nat) (R : Value → World → Prop) (a : Addr) (w : World) : Prop :=
 ∃ (c : Option Addr) (d f : Nat),w.cell? (a.add 6) = some (.slice c d f) ∧
 ∃ g,V86.l0 B R g a none 0 0 (IntKind.wrap .i64 ((d : Int) - 1)) w
noncomputable def V86.cfg (B : Nat) : Cfg := ⟨Tryz.prog,⟨30,B⟩,[],hasN [129],hasN [],look []⟩
noncomputable def V86.code : Code := (Tryz.f86.body).getD .skip
noncomputable def V86.cuts (B : Nat) (R : Value → World → Prop) : Nat → Cut := nthC [⟨[(0,.one (.ptr)),(3,.one (.slice)),(4,.one (.int .i64))],[],fun fs vs bs w => V86.l0 B R (nthN fs 0) (pV (nthV vs 0)) (slA (nthV vs 1)) (slL (nthV vs 1)) (slC (nthV vs 1)) (iV (nthV vs 2)) w⟩]
noncomputable def V86.h : H := .s (.z) (.s (.z) (.s (.s (.z) (.b (.l 0 (.s (.s (.z) (.c (.z) (.z))) (.s (.b (.r [[0,1,2,3,4,5,6,7,8,9,10,11,12,13,14]])) (.z)))))) (.s (.z) (.z))))
theorem V86.vc_eq (B : Nat) (R : Value → World → Prop) (a : Addr) (w : World) : wpf (V86.cfg B) (V86.cuts B R) V86.code V86.h [] (postOf Tryz.prog B (Tryz.f86.results.toList) R) (argE 0 [.pointer (some a)]) [] w = V86.vc B R a w := by kernel_rfl
theorem V86.obl (B : Nat) (R : Value → World → Prop) : oblP (V86.cfg B) (V86.cuts B R) V86.code V86.h [] (postOf Tryz.prog B (Tryz.f86.results.toList) R) := by
 have e : oblP (V86.cfg B) (V86.cuts B R) V86.code V86.h [] (postOf Tryz.prog B (Tryz.f86.results.toList) R) = (True ∧ (True ∧ ((True ∧ ((∀ (a : Addr) (c : Option Addr) (d f : Nat) (g : Int) (w : World),¬ V86.l0 B R 0 a c d f g w) ∧ (∀ i,∀ (a : Addr) (c : Option Addr) (d f : Nat) (g : Int) (w : World),V86.l0 B R (i + 1) a c d f g w → V86.l0 B R (i + 1) a c d f g w) ∧ ∀ i : Nat,((True ∧ (True ∧ True)) ∧ ((true = true) ∧ True)))) ∧ (True ∧ True)))) := by kernel_rfl
 exact e.mpr (⟨trivial,⟨trivial,⟨⟨trivial,⟨fun a c d f g w h => h,fun _ a c d f g w h => h,fun i => ⟨⟨trivial,⟨trivial,trivial⟩⟩,⟨rfl,trivial⟩⟩⟩⟩,⟨trivial,trivial⟩⟩⟩⟩)
theorem V86.cfgOk (B : Nat) : CfgOk (V86.cfg B) := cfgOk_of (by kernel_rfl) (by kernel_rfl) extNil
theorem V86.sound {a : Addr} {w : World} {R : Value → World → Prop} (h : V86.vc w.heap.size R a w) : Calls Tryz.prog 86 ⟨[.pointer (some a)]⟩ w fun e w' => ∃ v,e = .returned v ∧ R v w' :=
 calls_wpfP (c := V86.cfg w.heap.size) (fn := Tryz.f86) (x := V86.code) (V86.cuts w.heap.size R) V86.h (V86.cfgOk _) mixed Tryz.func86 (by kernel_rfl) (by kernel_rfl) (by kernel_rfl) rfl (V86.obl _ _) ((V86.vc_eq _ _ a _).symm ▸ h)
def V44.vc (B : Nat) (R : Value → World → Prop) (a : Addr) (c : Int) (w : World) : Prop :=
 ∃ (d : Option Addr) (f g : Nat),w.cell? (a.add 6) = some (.slice d f g) ∧
 if (decide ((f : Int) < 12)) = false
 then ((16 : Int) ≠ 0 ∧
 Ret B w (R (.bool (Int.tmod c 16 == 0))))
 else (Ret B w (R (.bool true)))
noncomputable def V44.cfg (B : Nat) : Cfg := ⟨Tryz.prog,⟨16,B⟩,[],hasN [],hasN [],look []⟩
noncomputable def V44.code : Code := (Tryz.f44.body).getD .skip
noncomputable def V44.cuts (B : Nat) (R : Value → World → Prop) : Nat → Cut := nthC []
noncomputable def V44.h : H := .s (.z) (.s (.z) (.z))
theorem V44.vc_eq (B : Nat) (R : Value → World → Prop) (a : Addr) (c : Int) (w : World) : wpf (V44.cfg B) (V44.cuts B R) V44.code V44.h [] (postOf Tryz.prog B (Tryz.f44.results.toList) R) (argE 0 [.pointer (some a),.int .i64 c]) [] w = V44.vc B R a c w := by kernel_rfl
theorem V44.obl (B : Nat) (R : Value → World → Prop) : oblP (V44.cfg B) (V44.cuts B R) V44.code V44.h [] (postOf Tryz.prog B (Tryz.f44.results.toList) R) := by
 have e : oblP (V44.cfg B) (V44.cuts B R) V44.code V44.h [] (postOf Tryz.prog B (Tryz.f44.results.toList) R) = (True ∧ (True ∧ True)) := by kernel_rfl
 exact e.mpr (⟨trivial,⟨trivial,trivial⟩⟩)
theorem V44.cfgOk (B : Nat) : CfgOk (V44.cfg B) := cfgOk_of (by kernel_rfl) (by kernel_rfl) extNil
theorem V44.sound {a : Addr} {d : Int} {w : World} {R : Value → World → Prop} (h : V44.vc w.heap.size R a d w) : Calls Tryz.prog 44 ⟨[.pointer (some a),.int .i64 d]⟩ w fun e w' => ∃ v,e = .returned v ∧ R v w' :=
 calls_wpfP (c := V44.cfg w.heap.size) (fn := Tryz.f44) (x := V44.code) (V44.cuts w.heap.size R) V44.h (V44.cfgOk _) mixed Tryz.func44 (by kernel_rfl) (by kernel_rfl) (by kernel_rfl) rfl (V44.obl _ _) ((V44.vc_eq _ _ a d _).symm ▸ h)
def V45.vc (B : Nat) (R : Value → World → Prop) (a c : Addr) (w : World) : Prop :=
 ∃ d : Bool,w.cell? (c.add 3) = some (.bool d) ∧
 CallK Tryz.prog 40 [.pointer (some a)] B w [] fun v f => 
 ∃ g : Bool,v = .bool g ∧ f.cell? (c.add 3) = some (.bool d) ∧
 if (g == d) = true
 then (∃ i : Bool,f.cell? (c.add 4) = some (.bool i) ∧
 CallK Tryz.prog 81 [.pointer (some a)] B f [] fun j l => 
 ∃ m : Bool,j = .bool m ∧ l.cell? (c.add 4) = some (.bool i) ∧
 if (m == i) = true
 then (CallK Tryz.prog 82 [.pointer (some a)] B l [] fun n o => 
 ∃ p : Int,n = .int .i64 p ∧
 CallK Tryz.prog 62 [.pointer (some c)] B o [] fun q r => 
 ∃ s : Int,q = .int .i64 s ∧
 if (p == s) = true
 then (∃ (t : Option Addr) (u x : Nat),r.cell? (c.add 6) = some (.slice t u x) ∧
 CallK Tryz.prog 83 [.pointer (some a)] B r [] fun y z => 
 ∃ (A : Option Addr) (C D : Nat),y = .slice A C D ∧ z.cell? (c.add 6) = some (.slice t u x) ∧
 CallK Tryz.prog 17 [.slice A C D,.slice t u x] B z [] fun E F => 
 ∃ G : Bool,E = .bool G ∧
 if G = true
 then (CallK Tryz.prog 85 [.pointer (some a)] B F [] fun I J => 
 ∃ (L : Option Addr) (M N : Nat),I = .slice L M N ∧
 CallK Tryz.prog 86 [.pointer (some c)] B J [] fun O P => 
 ∃ (Q : Option Addr) (S T : Nat),O = .slice Q S T ∧
 CallK Tryz.prog 84 [.slice L M N,.slice Q S T] B P [] fun U W => 
 ∃ X : Bool,U = .bool X ∧
 if X = true
 then (∃ (Y : Option Addr) (Z a0 : Nat),W.cell? (c.add 7) = some (.slice Y Z a0) ∧
 CallK Tryz.prog 41 [.pointer (some a)] B W [] fun a1 a2 => 
 ∃ (a3 : Option Addr) (a4 a5 : Nat),a1 = .slice a3 a4 a5 ∧ a2.cell? (c.add 7) = some (.slice Y Z a0) ∧
 CallK Tryz.prog 18 [.slice a3 a4 a5,.slice Y Z a0] B a2 [] fun a6 a7 => 
 ∃ a8 : Bool,a6 = .bool a8 ∧
 Ret B a7 (R (.bool a8)))
 else (Ret B W (R (.bool false))))
 else (Ret B F (R (.bool false))))
 else (Ret B r (R (.bool false))))
 else (Ret B l (R (.bool false))))
 else (Ret B f (R (.bool false)))
noncomputable def V45.cfg (B : Nat) : Cfg := ⟨Tryz.prog,⟨53,B⟩,[],hasN [17,18,40,41,62,81,82,83,84,85,86],hasN [],look []⟩
noncomputable def V45.code : Code := (Tryz.f45.body).getD .skip
noncomputable def V45.cuts (B : Nat) (R : Value → World → Prop) : Nat → Cut := nthC []
noncomputable def V45.h : H := .s (.z) (.s (.r [[0,2,3,4,5,1,6,7,8,10,11,12,13,9,14,15,16,17,19,18,20,21,22,23,24,26,27,28,29,25,30,31,32,33,35,34,36,37,38,39,40,42,43,44,45,41,46,47,48]]) (.z))
theorem V45.vc_eq (B : Nat) (R : Value → World → Prop) (a c : Addr) (w : World) : wpf (V45.cfg B) (V45.cuts B R) V45.code V45.h [] (postOf Tryz.prog B (Tryz.f45.results.toList) R) (argE 0 [.pointer (some a),.pointer (some c)]) [] w = V45.vc B R a c w := by kernel_rfl
theorem V45.obl (B : Nat) (R : Value → World → Prop) : oblP (V45.cfg B) (V45.cuts B R) V45.code V45.h [] (postOf Tryz.prog B (Tryz.f45.results.toList) R) := by
 have e : oblP (V45.cfg B) (V45.cuts B R) V45.code V45.h [] (postOf Tryz.prog B (Tryz.f45.results.toList) R) = (True ∧ ((true = true) ∧ True)) := by kernel_rfl
 exact e.mpr (⟨trivial,⟨rfl,trivial⟩⟩)
theorem V45.cfgOk (B : Nat) : CfgOk (V45.cfg B) := cfgOk_of (by kernel_rfl) (by kernel_rfl) extNil
theorem V45.sound {a d : Addr} {w : World} {R : Value → World → Prop} (h : V45.vc w.heap.size R a d w) : Calls Tryz.prog 45 ⟨[.pointer (some a),.pointer (some d)]⟩ w fun e w' => ∃ v,e = .returned v ∧ R v w' :=
 calls_wpfP (c := V45.cfg w.heap.size) (fn := Tryz.f45) (x := V45.code) (V45.cuts w.heap.size R) V45.h (V45.cfgOk _) mixed Tryz.func45 (by kernel_rfl) (by kernel_rfl) (by kernel_rfl) rfl (V45.obl _ _) ((V45.vc_eq _ _ a d _).symm ▸ h)
def V12p.b3 (B : Nat) (R : Value → World → Prop) (a : Int → Option Addr → Nat → Nat → Addr → Addr → Int → World → Prop) (c : Int) (d : Option Addr) (f g : Nat) (i j : Addr) (l : Int) (w : World) : Prop :=
 CallK Tryz.prog 39 [.pointer (some i)] B w [] fun v m => 
 ∃ n : Int,v = .int .i64 n ∧
 CallK Tryz.prog 47 [.pointer (some j)] B m [] fun o p => 
 ∃ q : Int,o = .int .i64 q ∧
 if (n != q) = true
 then (Ret B p (R (.bool false)))
 else (a c d f g i j (IntKind.wrap .i64 (l + 1)) p)
def V12p.b2 (B : Nat) (R : Value → World → Prop) (a : Int → Option Addr → Nat → Nat → Addr → Addr → Int → World → Prop) (c : Int) (d : Option Addr) (f g : Nat) (i j : Addr) (l : Int) (m : Bool) (w : World) : Prop :=
 if m = true
 then (CallK Tryz.prog 46 [.pointer (some i)] B w [] fun v n => 
 v = .tuple ⟨[]⟩ ∧
 (∃ u,n.cell? ((j.add 4).add 0) = some u) ∧ n.frozen? ((j.add 4).add 0) = false ∧
 let o := n.setCell ((j.add 4).add 0) (.bool false);
 V12p.b3 B R a c d f g i j l o)
 else (V12p.b3 B R a c d f g i j l w)
def V12p.b1 (B : Nat) (R : Value → World → Prop) (a : Int → Option Addr → Nat → Nat → Addr → Addr → Int → World → Prop) (c : Int) (d : Option Addr) (f g : Nat) (i j : Addr) (l : Int) (w : World) : Prop :=
 ∃ m : Bool,w.cell? (j.add 4) = some (.bool m) ∧
 if m = true
 then (if ((f : Int) == 0) = false
 then ((f : Int) ≠ 0 ∧
 ∃ n : Addr,d = some n ∧ (0 : Int) ≤ Int.tmod l (f : Int) ∧ Int.tmod l (f : Int) < (f : Int) ∧
 ∃ o : Int,w.cell? (n.add ((Int.tmod l (f : Int)).toNat)) = some (.int .u8 o) ∧ (2 : Int) ≠ 0 ∧
 V12p.b2 B R a c d f g i j l (Int.tmod o 2 == 0) w)
 else (V12p.b2 B R a c d f g i j l true w))
 else (V12p.b2 B R a c d f g i j l false w)
def V12p.l0 (B : Nat) (R : Value → World → Prop) : Nat → Int → Option Addr → Nat → Nat → Addr → Addr → Int → World → Prop
 | 0 => fun _ _ _ _ _ _ _ _ => False
 | k + 1 => fun a c d f g i j w =>
 if (decide (j < a)) = true
 then (CallK Tryz.prog 44 [.pointer (some i),.int .i64 j] B w [] fun v l => 
 ∃ m : Bool,v = .bool m ∧
 if m = true
 then (CallK Tryz.prog 45 [.pointer (some g),.pointer (some i)] B l [] fun n o => 
 ∃ p : Bool,n = .bool p ∧
 if (!p) = true
 then (Ret B o (R (.bool false)))
 else (V12p.b1 B R (V12p.l0 B R k) a c d f g i j o))
 else (V12p.b1 B R (V12p.l0 B R k) a c d f g i j l))
 else (CallK Tryz.prog 45 [.pointer (some g),.pointer (some i)] B w [] fun v l => 
 ∃ q : Bool,v = .bool q ∧
 Ret B l (R (.bool q)))
def V12p.vc (B : Nat) (R : Value → World → Prop) (a : Option Addr) (c d : Nat) (f g : Int) (i : Option Addr) (j l : Nat) (w : World) : Prop :=
 ∀ m : Nat,w.heap.size ≤ m →
 CallK Tryz.prog 37 [.agg ⟨[.slice a c d]⟩,.int .i64 f] B w [m] fun v n => 
 ∃ o : Option Addr,v = .pointer o ∧
 caseP o
 (CallK Tryz.prog 43 [.agg ⟨[.slice a c d]⟩,.int .i64 f] B n [m] fun p q => 
 ∃ r : Option Addr,p = .pointer r ∧
 caseP r
 (if (!(true == true)) = true
 then (Ret B q (R (.bool false)))
 else (Ret B q (R (.bool true))))
 (fun s => if (!(true == false)) = true
 then (Ret B q (R (.bool false)))
 else (Ret B q (R (.bool true)))))
 (fun t => CallK Tryz.prog 43 [.agg ⟨[.slice a c d]⟩,.int .i64 f] B n [m] fun p q => 
 ∃ r : Option Addr,p = .pointer r ∧
 caseP r
 (if (!(false == true)) = true
 then (Ret B q (R (.bool false)))
 else (∃ u : Nat,False))
 (fun s => if (!(false == false)) = true
 then (Ret B q (R (.bool false)))
 else (∃ u,V12p.l0 B R u g i j l t s 0 q)))
noncomputable def V12p.cfg (B : Nat) : Cfg := ⟨Tryz.prog,⟨72,B⟩,[],hasN [37,39,43,44,45,46,47],hasN [],look []⟩
noncomputable def V12p.code : Code := (Tryz.f12.body).getD .skip
noncomputable def V12p.cuts (B : Nat) (R : Value → World → Prop) : Nat → Cut := nthC [⟨[(2,.one (.int .i64)),(3,.one (.slice)),(9,.one (.ptr)),(10,.one (.ptr)),(11,.one (.int .i64))],[],fun fs vs bs w => V12p.l0 B R (nthN fs 0) (iV (nthV vs 0)) (slA (nthV vs 1)) (slL (nthV vs 1)) (slC (nthV vs 1)) (pV (nthV vs 2)) (pV (nthV vs 3)) (iV (nthV vs 4)) w⟩,
 ⟨[(2,.one (.int .i64)),(3,.one (.slice)),(9,.one (.ptr)),(10,.one (.ptr)),(11,.one (.int .i64))],[],fun fs vs bs w => V12p.b1 B R (V12p.l0 B R (nthN fs 0)) (iV (nthV vs 0)) (slA (nthV vs 1)) (slL (nthV vs 1)) (slC (nthV vs 1)) (pV (nthV vs 2)) (pV (nthV vs 3)) (iV (nthV vs 4)) w⟩,
 ⟨[(2,.one (.int .i64)),(3,.one (.slice)),(9,.one (.ptr)),(10,.one (.ptr)),(11,.one (.int .i64)),(58,.one (.bool))],[],fun fs vs bs w => V12p.b2 B R (V12p.l0 B R (nthN fs 0)) (iV (nthV vs 0)) (slA (nthV vs 1)) (slL (nthV vs 1)) (slC (nthV vs 1)) (pV (nthV vs 2)) (pV (nthV vs 3)) (iV (nthV vs 4)) (bV (nthV vs 5)) w⟩,
 ⟨[(2,.one (.int .i64)),(3,.one (.slice)),(9,.one (.ptr)),(10,.one (.ptr)),(11,.one (.int .i64))],[],fun fs vs bs w => V12p.b3 B R (V12p.l0 B R (nthN fs 0)) (iV (nthV vs 0)) (slA (nthV vs 1)) (slL (nthV vs 1)) (slC (nthV vs 1)) (pV (nthV vs 2)) (pV (nthV vs 3)) (iV (nthV vs 4)) w⟩]
noncomputable def V12p.h : H := .s (.z) (.s (.r [[0,1,3,4,2,5,6,7]]) (.s (.s (.z) (.c (.s (.z) (.z)) (.z))) (.s (.s (.z) (.c (.s (.z) (.z)) (.z))) (.s (.s (.z) (.b (.l 0 (.s (.s (.z) (.c (.z) (.z))) (.s (.b (.cut 1 (.s (.z) (.c (.s (.z) (.z)) (.z))) (.cut 3 (.cut 2 (.z) (.c (.s (.z) (.z)) (.z))) (.s (.z) (.c (.s (.z) (.z)) (.z)))))) (.z)))))) (.s (.z) (.z))))))
theorem V12p.vc_eq (B : Nat) (R : Value → World → Prop) (a : Option Addr) (c d : Nat) (f g : Int) (i : Option Addr) (j l : Nat) (w : World) : wpf (V12p.cfg B) (V12p.cuts B R) V12p.code V12p.h [] (postOf Tryz.prog B (Tryz.f12.results.toList) R) (argE 0 [.agg ⟨[.slice a c d]⟩,.int .i64 f,.int .i64 g,.slice i j l]) [] w = V12p.vc B R a c d f g i j l w := by kernel_rfl
theorem V12p.obl (B : Nat) (R : Value → World → Prop) : oblP (V12p.cfg B) (V12p.cuts B R) V12p.code V12p.h [] (postOf Tryz.prog B (Tryz.f12.results.toList) R) := by
 have e : oblP (V12p.cfg B) (V12p.cuts B R) V12p.code V12p.h [] (postOf Tryz.prog B (Tryz.f12.results.toList) R) = (True ∧ ((true = true) ∧ ((True ∧ ((True ∧ True) ∧ True)) ∧ ((True ∧ ((True ∧ True) ∧ True)) ∧ ((True ∧ ((∀ (a : Int) (c : Option Addr) (d f : Nat) (g i : Addr) (j : Int) (w : World),¬ V12p.l0 B R 0 a c d f g i j w) ∧ (∀ l,∀ (a : Int) (c : Option Addr) (d f : Nat) (g i : Addr) (j : Int) (w : World),V12p.l0 B R (l + 1) a c d f g i j w → V12p.l0 B R (l + 1) a c d f g i j w) ∧ ∀ l : Nat,((True ∧ (True ∧ True)) ∧ (((True ∧ ((True ∧ True) ∧ True)) ∧ (∀ (a : Int) (c : Option Addr) (d f : Nat) (g i : Addr) (j : Int) (w : World),V12p.b1 B R (V12p.l0 B R l) a c d f g i j w → V12p.b1 B R (V12p.l0 B R l) a c d f g i j w) ∧ ((True ∧ (∀ (a : Int) (c : Option Addr) (d f : Nat) (g i : Addr) (j : Int) (m : Bool) (w : World),V12p.b2 B R (V12p.l0 B R l) a c d f g i j m w → V12p.b2 B R (V12p.l0 B R l) a c d f g i j m w) ∧ ((True ∧ True) ∧ True)) ∧ (∀ (a : Int) (c : Option Addr) (d f : Nat) (g i : Addr) (j : Int) (w : World),V12p.b3 B R (V12p.l0 B R l) a c d f g i j w → V12p.b3 B R (V12p.l0 B R l) a c d f g i j w) ∧ (True ∧ ((True ∧ True) ∧ True)))) ∧ True)))) ∧ (True ∧ True)))))) := by kernel_rfl
 exact e.mpr (⟨trivial,⟨rfl,⟨⟨trivial,⟨⟨trivial,trivial⟩,trivial⟩⟩,⟨⟨trivial,⟨⟨trivial,trivial⟩,trivial⟩⟩,⟨⟨trivial,⟨fun a c d f g i j w h => h,fun _ a c d f g i j w h => h,fun l => ⟨⟨trivial,⟨trivial,trivial⟩⟩,⟨⟨⟨trivial,⟨⟨trivial,trivial⟩,trivial⟩⟩,fun a c d f g i j w h => h,⟨⟨trivial,fun a c d f g i j m w h => h,⟨⟨trivial,trivial⟩,trivial⟩⟩,fun a c d f g i j w h => h,⟨trivial,⟨⟨trivial,trivial⟩,trivial⟩⟩⟩⟩,trivial⟩⟩⟩⟩,⟨trivial,trivial⟩⟩⟩⟩⟩⟩)
theorem V12p.cfgOk (B : Nat) : CfgOk (V12p.cfg B) := cfgOk_of (by kernel_rfl) (by kernel_rfl) extNil
theorem V12p.sound {a : Option Addr} {d f : Nat} {g i : Int} {j : Option Addr} {l m : Nat} {w : World} {R : Value → World → Prop} (h : V12p.vc w.heap.size R a d f g i j l m w) : Calls Tryz.prog 12 ⟨[.agg ⟨[.slice a d f]⟩,.int .i64 g,.int .i64 i,.slice j l m]⟩ w fun e w' => ∃ v,e = .returned v ∧ R v w' :=
 calls_wpfP (c := V12p.cfg w.heap.size) (fn := Tryz.f12) (x := V12p.code) (V12p.cuts w.heap.size R) V12p.h (V12p.cfgOk _) mixed Tryz.func12 (by kernel_rfl) (by kernel_rfl) (by kernel_rfl) rfl (V12p.obl _ _) ((V12p.vc_eq _ _ a d f g i j l m _).symm ▸ h)
def V3.vc (B : Nat) (R : Value → World → Prop) (a : Option Addr) (c d : Nat) (f : Int) (g : Option Addr) (i j : Nat) (l : Int) (w : World) : Prop :=
 ∀ m : Nat,w.heap.size ≤ m →
 CallK Tryz.prog 10 [.agg ⟨[.slice a c d]⟩] B w [m] fun v n => 
 ∃ o : Bool,v = .bool o ∧
 if (!o) = true
 then (CallK Tryz.prog 11 [] B n [m] fun p q => 
 ∃ r : Bool,p = .bool r ∧
 Ret B q (R (.bool r)))
 else ((300 : Int) ≠ 0 ∧
 CallK Tryz.prog 12 [.agg ⟨[.slice a c d]⟩,.int .i64 f,.int .i64 (Int.tmod (IntKind.wrap .i64 l) 300),.slice g i j] B n [m] fun p q => 
 ∃ s : Bool,p = .bool s ∧
 if s = true
 then (CallK Tryz.prog 11 [] B q [m] fun t u => 
 ∃ x : Bool,t = .bool x ∧
 Ret B u (R (.bool x)))
 else (Ret B q (R (.bool false))))
noncomputable def V3.cfg (B : Nat) : Cfg := ⟨Tryz.prog,⟨23,B⟩,[],hasN [10,11,12],hasN [],look []⟩
noncomputable def V3.code : Code := (Tryz.f3.body).getD .skip
noncomputable def V3.cuts (B : Nat) (R : Value → World → Prop) : Nat → Cut := nthC []
noncomputable def V3.h : H := .s (.z) (.s (.s (.z) (.c (.s (.z) (.z)) (.z))) (.s (.z) (.z)))
theorem V3.vc_eq (B : Nat) (R : Value → World → Prop) (a : Option Addr) (c d : Nat) (f : Int) (g : Option Addr) (i j : Nat) (l : Int) (w : World) : wpf (V3.cfg B) (V3.cuts B R) V3.code V3.h [] (postOf Tryz.prog B (Tryz.f3.results.toList) R) (argE 0 [.agg ⟨[.slice a c d]⟩,.int .i64 f,.slice g i j,.int .u16 l]) [] w = V3.vc B R a c d f g i j l w := by kernel_rfl
theorem V3.obl (B : Nat) (R : Value → World → Prop) : oblP (V3.cfg B) (V3.cuts B R) V3.code V3.h [] (postOf Tryz.prog B (Tryz.f3.results.toList) R) := by
 have e : oblP (V3.cfg B) (V3.cuts B R) V3.code V3.h [] (postOf Tryz.prog B (Tryz.f3.results.toList) R) = (True ∧ ((True ∧ ((True ∧ True) ∧ True)) ∧ (True ∧ True))) := by kernel_rfl
 exact e.mpr (⟨trivial,⟨⟨trivial,⟨⟨trivial,trivial⟩,trivial⟩⟩,⟨trivial,trivial⟩⟩⟩)
theorem V3.cfgOk (B : Nat) : CfgOk (V3.cfg B) := cfgOk_of (by kernel_rfl) (by kernel_rfl) extNil
theorem V3.sound {a : Option Addr} {d f : Nat} {g : Int} {i : Option Addr} {j l : Nat} {m : Int} {w : World} {R : Value → World → Prop} (h : V3.vc w.heap.size R a d f g i j l m w) : Calls Tryz.prog 3 ⟨[.agg ⟨[.slice a d f]⟩,.int .i64 g,.slice i j l,.int .u16 m]⟩ w fun e w' => ∃ v,e = .returned v ∧ R v w' :=
 calls_wpfP (c := V3.cfg w.heap.size) (fn := Tryz.f3) (x := V3.code) (V3.cuts w.heap.size R) V3.h (V3.cfgOk _) mixed Tryz.func3 (by kernel_rfl) (by kernel_rfl) (by kernel_rfl) rfl (V3.obl _ _) ((V3.vc_eq _ _ a d f g i j l m _).symm ▸ h)
end Go.Proofs.YtidcpndlloppdaaGreat
