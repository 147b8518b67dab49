import Derived.Test.YtidcpndlloppdaaGreatZVA
/-
 What the engine makes of the loaded functions 67,36,111,112,74,75,76,116,158,160: conditions under which a call returns as told,and proofs of that.
 Conditions: none. Printed by a program of this project.
-/
set_option linter.unusedVariables false
set_option maxRecDepth 100000
namespace Go.Proofs.YtidcpndlloppdaaGreat
def V67.l2 (B : Nat) (R : Value → World → Prop) (a : Option Addr → Nat → Nat → Int → Int → Nat → Option Addr → Nat → Nat → World → Prop) : Nat → Int → Option Addr → Nat → Nat → Int → Int → Option Addr → Nat → Nat → Int → Int → Nat → Int → Int → Int → Option Addr → Nat → Nat → Nat → Option Addr → Nat → Nat → World → Prop
 | 0 => fun _ _ _ _ _ _ _ _ _ _ _ _ _ _ _ _ _ _ _ _ _ _ _ => False
 | k + 1 => fun c d f g i j l m n o p q r s t u x y z A C D w =>
 if (decide (p < o)) = true
 then (∃ E : Addr,l = some E ∧ (0 : Int) ≤ p ∧ p < (m : Int) ∧
 ∃ F : Int,w.cell? ((E.add (p.toNat * 3)).add 0) = some (.int .i64 F) ∧
 ∃ G : Int,w.cell? ((E.add (p.toNat * 3)).add 1) = some (.int .i64 G) ∧
 ∃ I : Int,w.cell? ((E.add (p.toNat * 3)).add 2) = some (.int .i64 I) ∧
 ∀ J : Nat,w.heap.size ≤ J →
 CallK Tryz.prog 111 [.agg ⟨[.slice A C D]⟩,.agg ⟨[.int .i64 r,.int .i64 s,.int .i64 t,.slice u x y]⟩,.agg ⟨[.int .i64 F,.int .i64 G,.int .i64 I]⟩] B w [J,q,z] fun v L => 
 ∃ M : Bool,v = .bool M ∧
 if (!M) = true
 then (Ret B L (R (.tuple ⟨[.int .i64 6,.int .i64 c,.int .i64 p]⟩)))
 else ((V67.l2 B R a k) c d f g i j l m n o (IntKind.wrap .i64 (p + 1)) q r s t u x y z A C D L))
 else (a d f g i (IntKind.wrap .i64 (j + 1)) z A C D w)
def V67.l3 (B : Nat) (R : Value → World → Prop) : Nat → Option Addr → Nat → Nat → Int → Int → Nat → Option Addr → Nat → Nat → World → Prop
 | 0 => fun _ _ _ _ _ _ _ _ _ _ => False
 | k + 1 => fun a c d f g i j l m w =>
 if (decide (g < f)) = true
 then (∃ n : Addr,a = some n ∧ (0 : Int) ≤ g ∧ g < (c : Int) ∧
 ∃ o : Int,w.cell? ((n.add (g.toNat * 4)).add 0) = some (.int .i64 o) ∧
 ∃ p : Int,w.cell? ((n.add (g.toNat * 4)).add 1) = some (.int .i64 p) ∧
 ∃ q : Int,w.cell? ((n.add (g.toNat * 4)).add 2) = some (.int .i64 q) ∧
 ∃ (r : Option Addr) (s t : Nat),w.cell? ((n.add (g.toNat * 4)).add 3) = some (.slice r s t) ∧
 ∀ u : Nat,w.heap.size ≤ u →
 CallK Tryz.prog 112 [.agg ⟨[.slice j l m]⟩,.slice r s t] B w [u,i] fun v x => 
 ∃ (y : Option Addr) (z A : Nat) (C : Int) (D : Bool),v = .tuple ⟨[.slice y z A,.int .i64 C,.bool D]⟩ ∧
 if (!D) = true
 then (Ret B x (R (.tuple ⟨[.int .i64 9,.int .i64 g,.int .i64 C]⟩)))
 else ((V67.l3 B R k) a c d f (IntKind.wrap .i64 (g + 1)) i j l m x))
 else (Ret B w (R (.tuple ⟨[.int .i64 0,.int .i64 0,.int .i64 0]⟩)))
def V67.l1 (B : Nat) (R : Value → World → Prop) : Nat → Option Addr → Nat → Nat → Int → Int → Nat → Option Addr → Nat → Nat → World → Prop
 | 0 => fun _ _ _ _ _ _ _ _ _ _ => False
 | k + 1 => fun a c d f g i j l m w =>
 if (decide (g < f)) = true
 then (∃ n : Addr,a = some n ∧ (0 : Int) ≤ g ∧ g < (c : Int) ∧
 ∃ o : Int,w.cell? ((n.add (g.toNat * 4)).add 0) = some (.int .i64 o) ∧
 ∃ p : Int,w.cell? ((n.add (g.toNat * 4)).add 1) = some (.int .i64 p) ∧
 ∃ q : Int,w.cell? ((n.add (g.toNat * 4)).add 2) = some (.int .i64 q) ∧
 ∃ (r : Option Addr) (s t : Nat),w.cell? ((n.add (g.toNat * 4)).add 3) = some (.slice r s t) ∧
 ∀ u : Nat,w.heap.size ≤ u →
 ∃ x,V67.l2 B R (V67.l1 B R k) x g a c d f g r s t (s : Int) 0 u o p q r s t i j l m w)
 else (∃ x,V67.l3 B R x j l m (l : Int) 0 i j l m w)
def V67.l0 (B : Nat) (R : Value → World → Prop) : Nat → Option Addr → Nat → Nat → Int → Int → Nat → Option Addr → Nat → Nat → World → Prop
 | 0 => fun _ _ _ _ _ _ _ _ _ _ => False
 | k + 1 => fun a c d f g i j l m w =>
 if (decide (g < f)) = true
 then (∃ n : Addr,a = some n ∧ (0 : Int) ≤ g ∧ g < (c : Int) ∧
 ∃ o : Int,w.cell? ((n.add (g.toNat * 4)).add 0) = some (.int .i64 o) ∧
 ∃ p : Int,w.cell? ((n.add (g.toNat * 4)).add 1) = some (.int .i64 p) ∧
 ∃ q : Int,w.cell? ((n.add (g.toNat * 4)).add 2) = some (.int .i64 q) ∧
 ∃ (r : Option Addr) (s t : Nat),w.cell? ((n.add (g.toNat * 4)).add 3) = some (.slice r s t) ∧
 ∀ u : Nat,w.heap.size ≤ u →
 CallK Tryz.prog 110 [.agg ⟨[.int .i64 o,.int .i64 p,.int .i64 q,.slice r s t]⟩] B w [u,i] fun v x => 
 ∃ y : Bool,v = .bool y ∧
 if (!y) = true
 then (Ret B x (R (.tuple ⟨[.int .i64 1,.int .i64 g,.int .i64 0]⟩)))
 else ((V67.l0 B R k) a c d f (IntKind.wrap .i64 (g + 1)) i j l m x))
 else (∃ z,V67.l1 B R z j l m (l : Int) 0 i j l m w)
def V67.vc (B : Nat) (R : Value → World → Prop) (a : Option Addr) (c d : Nat) (w : World) : Prop :=
 ∀ f : Nat,w.heap.size ≤ f →
 if (decide ((c : Int) < 1)) = false
 then (if (decide ((c : Int) > 8)) = true
 then (Ret B w (R (.tuple ⟨[.int .i64 1,.int .i64 0,.int .i64 0]⟩)))
 else (∃ g,V67.l0 B R g a c d (c : Int) 0 f a c d w))
 else (Ret B w (R (.tuple ⟨[.int .i64 1,.int .i64 0,.int .i64 0]⟩)))
noncomputable def V67.cfg (B : Nat) : Cfg := ⟨Tryz.prog,⟨85,B⟩,[],hasN [110,111,112],hasN [],look []⟩
noncomputable def V67.code : Code := (Tryz.f67.body).getD .skip
noncomputable def V67.cuts (B : Nat) (R : Value → World → Prop) : Nat → Cut := nthC [⟨[(27,.one (.slice)),(28,.one (.int .i64)),(29,.one (.int .i64))],[(1,24,[.slice])],fun fs vs bs w => V67.l0 B R (nthN fs 0) (slA (nthV vs 0)) (slL (nthV vs 0)) (slC (nthV vs 0)) (iV (nthV vs 1)) (iV (nthV vs 2)) (nthB bs 0).blk (slA (nthV (nthB bs 0).cells 0)) (slL (nthV (nthB bs 0).cells 0)) (slC (nthV (nthB bs 0).cells 0)) w⟩,
 ⟨[(40,.one (.slice)),(41,.one (.int .i64)),(42,.one (.int .i64))],[(1,24,[.slice])],fun fs vs bs w => V67.l1 B R (nthN fs 0) (slA (nthV vs 0)) (slL (nthV vs 0)) (slC (nthV vs 0)) (iV (nthV vs 1)) (iV (nthV vs 2)) (nthB bs 0).blk (slA (nthV (nthB bs 0).cells 0)) (slL (nthV (nthB bs 0).cells 0)) (slC (nthV (nthB bs 0).cells 0)) w⟩,
 ⟨[(7,.one (.int .i64)),(40,.one (.slice)),(41,.one (.int .i64)),(42,.one (.int .i64)),(48,.one (.slice)),(49,.one (.int .i64)),(50,.one (.int .i64))],[(8,63,[.int .i64,.int .i64,.int .i64,.slice]),(1,24,[.slice])],fun fs vs bs w => V67.l2 B R (V67.l1 B R (nthN fs 1)) (nthN fs 0) (iV (nthV vs 0)) (slA (nthV vs 1)) (slL (nthV vs 1)) (slC (nthV vs 1)) (iV (nthV vs 2)) (iV (nthV vs 3)) (slA (nthV vs 4)) (slL (nthV vs 4)) (slC (nthV vs 4)) (iV (nthV vs 5)) (iV (nthV vs 6)) (nthB bs 0).blk (iV (nthV (nthB bs 0).cells 0)) (iV (nthV (nthB bs 0).cells 1)) (iV (nthV (nthB bs 0).cells 2)) (slA (nthV (nthB bs 0).cells 3)) (slL (nthV (nthB bs 0).cells 3)) (slC (nthV (nthB bs 0).cells 3)) (nthB bs 1).blk (slA (nthV (nthB bs 1).cells 0)) (slL (nthV (nthB bs 1).cells 0)) (slC (nthV (nthB bs 1).cells 0)) w⟩,
 ⟨[(65,.one (.slice)),(66,.one (.int .i64)),(67,.one (.int .i64))],[(1,24,[.slice])],fun fs vs bs w => V67.l3 B R (nthN fs 0) (slA (nthV vs 0)) (slL (nthV vs 0)) (slC (nthV vs 0)) (iV (nthV vs 1)) (iV (nthV vs 2)) (nthB bs 0).blk (slA (nthV (nthB bs 0).cells 0)) (slL (nthV (nthB bs 0).cells 0)) (slC (nthV (nthB bs 0).cells 0)) w⟩]
noncomputable def V67.h : H := .s (.z) (.s (.s (.z) (.c (.s (.z) (.z)) (.z))) (.s (.s (.z) (.b (.l 0 (.s (.z) (.s (.c (.z) (.z)) (.s (.b (.s (.z) (.s (.z) (.c (.s (.z) (.z)) (.z))))) (.z))))))) (.s (.s (.z) (.b (.l 1 (.s (.z) (.s (.c (.z) (.z)) (.s (.b (.s (.z) (.s (.z) (.b (.l 2 (.s (.z) (.s (.c (.z) (.z)) (.s (.b (.s (.z) (.s (.z) (.c (.s (.z) (.z)) (.z))))) (.z))))))))) (.z))))))) (.s (.s (.z) (.b (.l 3 (.s (.z) (.s (.c (.z) (.z)) (.s (.b (.s (.z) (.s (.z) (.s (.z) (.c (.s (.z) (.z)) (.z)))))) (.z))))))) (.s (.z) (.z))))))
theorem V67.vc_eq (B : Nat) (R : Value → World → Prop) (a : Option Addr) (c d : Nat) (w : World) : wpf (V67.cfg B) (V67.cuts B R) V67.code V67.h [] (postOf Tryz.prog B (Tryz.f67.results.toList) R) (argE 0 [.agg ⟨[.slice a c d]⟩]) [] w = V67.vc B R a c d w := by kernel_rfl
theorem V67.obl (B : Nat) (R : Value → World → Prop) : oblP (V67.cfg B) (V67.cuts B R) V67.code V67.h [] (postOf Tryz.prog B (Tryz.f67.results.toList) R) := by
 have e : oblP (V67.cfg B) (V67.cuts B R) V67.code V67.h [] (postOf Tryz.prog B (Tryz.f67.results.toList) R) = (True ∧ ((True ∧ ((True ∧ True) ∧ True)) ∧ ((True ∧ ((∀ (a : Option Addr) (c d : Nat) (f g : Int) (i : Nat) (j : Option Addr) (l m : Nat) (w : World),¬ V67.l0 B R 0 a c d f g i j l m w) ∧ (∀ n,∀ (a : Option Addr) (c d : Nat) (f g : Int) (i : Nat) (j : Option Addr) (l m : Nat) (w : World),V67.l0 B R (n + 1) a c d f g i j l m w → V67.l0 B R (n + 1) a c d f g i j l m w) ∧ ∀ n : Nat,(True ∧ ((True ∧ True) ∧ ((True ∧ (True ∧ ((True ∧ True) ∧ True))) ∧ True))))) ∧ ((True ∧ ((∀ (o : Option Addr) (p q : Nat) (r s : Int) (i : Nat) (j : Option Addr) (l m : Nat) (w : World),¬ V67.l1 B R 0 o p q r s i j l m w) ∧ (∀ t,∀ (o : Option Addr) (p q : Nat) (r s : Int) (i : Nat) (j : Option Addr) (l m : Nat) (w : World),V67.l1 B R (t + 1) o p q r s i j l m w → V67.l1 B R (t + 1) o p q r s i j l m w) ∧ ∀ t : Nat,(True ∧ ((True ∧ True) ∧ ((True ∧ (True ∧ ((∀ (u : Int) (o : Option Addr) (p q : Nat) (r s : Int) (x : Option Addr) (y z : Nat) (A C : Int) (D : Nat) (E F G : Int) (I : Option Addr) (J L i : Nat) (j : Option Addr) (l m : Nat) (w : World),¬ V67.l2 B R (V67.l1 B R t) 0 u o p q r s x y z A C D E F G I J L i j l m w) ∧ (∀ M,∀ (u : Int) (o : Option Addr) (p q : Nat) (r s : Int) (x : Option Addr) (y z : Nat) (A C : Int) (D : Nat) (E F G : Int) (I : Option Addr) (J L i : Nat) (j : Option Addr) (l m : Nat) (w : World),V67.l2 B R (V67.l1 B R t) (M + 1) u o p q r s x y z A C D E F G I J L i j l m w → V67.l2 B R (V67.l1 B R t) (M + 1) u o p q r s x y z A C D E F G I J L i j l m w) ∧ ∀ M : Nat,(True ∧ ((True ∧ True) ∧ ((True ∧ (True ∧ ((True ∧ True) ∧ True))) ∧ True)))))) ∧ True))))) ∧ ((True ∧ ((∀ (N : Option Addr) (O P : Nat) (Q S : Int) (i : Nat) (j : Option Addr) (l m : Nat) (w : World),¬ V67.l3 B R 0 N O P Q S i j l m w) ∧ (∀ T,∀ (N : Option Addr) (O P : Nat) (Q S : Int) (i : Nat) (j : Option Addr) (l m : Nat) (w : World),V67.l3 B R (T + 1) N O P Q S i j l m w → V67.l3 B R (T + 1) N O P Q S i j l m w) ∧ ∀ T : Nat,(True ∧ ((True ∧ True) ∧ ((True ∧ (True ∧ (True ∧ ((True ∧ True) ∧ True)))) ∧ True))))) ∧ (True ∧ True)))))) := by kernel_rfl
 exact e.mpr (⟨trivial,⟨⟨trivial,⟨⟨trivial,trivial⟩,trivial⟩⟩,⟨⟨trivial,⟨fun a c d f g i j l m w h => h,fun _ a c d f g i j l m w h => h,fun n => ⟨trivial,⟨⟨trivial,trivial⟩,⟨⟨trivial,⟨trivial,⟨⟨trivial,trivial⟩,trivial⟩⟩⟩,trivial⟩⟩⟩⟩⟩,⟨⟨trivial,⟨fun o p q r s i j l m w h => h,fun _ o p q r s i j l m w h => h,fun t => ⟨trivial,⟨⟨trivial,trivial⟩,⟨⟨trivial,⟨trivial,⟨fun u o p q r s x y z A C D E F G I J L i j l m w h => h,fun _ u o p q r s x y z A C D E F G I J L i j l m w h => h,fun M => ⟨trivial,⟨⟨trivial,trivial⟩,⟨⟨trivial,⟨trivial,⟨⟨trivial,trivial⟩,trivial⟩⟩⟩,trivial⟩⟩⟩⟩⟩⟩,trivial⟩⟩⟩⟩⟩,⟨⟨trivial,⟨fun N O P Q S i j l m w h => h,fun _ N O P Q S i j l m w h => h,fun T => ⟨trivial,⟨⟨trivial,trivial⟩,⟨⟨trivial,⟨trivial,⟨trivial,⟨⟨trivial,trivial⟩,trivial⟩⟩⟩⟩,trivial⟩⟩⟩⟩⟩,⟨trivial,trivial⟩⟩⟩⟩⟩⟩)
theorem V67.cfgOk (B : Nat) : CfgOk (V67.cfg B) := cfgOk_of (by kernel_rfl) (by kernel_rfl) extNil
theorem V67.sound {a : Option Addr} {d f : Nat} {w : World} {R : Value → World → Prop} (h : V67.vc w.heap.size R a d f w) : Calls Tryz.prog 67 ⟨[.agg ⟨[.slice a d f]⟩]⟩ w fun e w' => ∃ v,e = .returned v ∧ R v w' :=
 calls_wpfP (c := V67.cfg w.heap.size) (fn := Tryz.f67) (x := V67.code) (V67.cuts w.heap.size R) V67.h (V67.cfgOk _) mixed Tryz.func67 (by kernel_rfl) (by kernel_rfl) (by kernel_rfl) rfl (V67.obl _ _) ((V67.vc_eq _ _ a d f _).symm ▸ h)
def V36.l2 (B : Nat) (R : Value → World → Prop) (a : Int → Nat → Option Addr → Nat → Nat → World → Prop) : Nat → Int → Int → Nat → Option Addr → Nat → Nat → World → Prop
 | 0 => fun _ _ _ _ _ _ _ => False
 | k + 1 => fun c d f g i j w =>
 ∃ l : Addr,g = some l ∧ (0 : Int) ≤ c ∧ c < (i : Int) ∧
 ∃ (m : Option Addr) (n o : Nat),w.cell? ((l.add (c.toNat * 4)).add 3) = some (.slice m n o) ∧
 if (decide (d < (n : Int))) = true
 then (∃ p : Addr,g = some p ∧ (0 : Int) ≤ c ∧ c < (i : Int) ∧
 ∃ q : Int,w.cell? ((p.add (c.toNat * 4)).add 0) = some (.int .i64 q) ∧
 ∃ r : Int,w.cell? ((p.add (c.toNat * 4)).add 1) = some (.int .i64 r) ∧
 ∃ s : Int,w.cell? ((p.add (c.toNat * 4)).add 2) = some (.int .i64 s) ∧
 ∃ (t : Option Addr) (u x : Nat),w.cell? ((p.add (c.toNat * 4)).add 3) = some (.slice t u x) ∧
 ∃ y : Addr,g = some y ∧ (0 : Int) ≤ c ∧ c < (i : Int) ∧
 ∃ (z : Option Addr) (A C : Nat),w.cell? ((y.add (c.toNat * 4)).add 3) = some (.slice z A C) ∧
 ∃ D : Addr,z = some D ∧ (0 : Int) ≤ d ∧ d < (A : Int) ∧
 ∃ E : Int,w.cell? ((D.add (d.toNat * 3)).add 0) = some (.int .i64 E) ∧
 ∃ F : Int,w.cell? ((D.add (d.toNat * 3)).add 1) = some (.int .i64 F) ∧
 ∃ G : Int,w.cell? ((D.add (d.toNat * 3)).add 2) = some (.int .i64 G) ∧
 CallK Tryz.prog 75 [.agg ⟨[.slice g i j]⟩,.agg ⟨[.int .i64 q,.int .i64 r,.int .i64 s,.slice t u x]⟩,.agg ⟨[.int .i64 E,.int .i64 F,.int .i64 G]⟩] B w [f] fun v I => 
 ∃ J : Bool,v = .bool J ∧
 if (!J) = true
 then (Ret B I (R (.tuple ⟨[.int .i64 6,.int .i64 c,.int .i64 d]⟩)))
 else ((V36.l2 B R a k) c (IntKind.wrap .i64 (d + 1)) f g i j I))
 else (a (IntKind.wrap .i64 (c + 1)) f g i j w)
def V36.l3 (B : Nat) (R : Value → World → Prop) : Nat → Int → Nat → Option Addr → Nat → Nat → World → Prop
 | 0 => fun _ _ _ _ _ _ => False
 | k + 1 => fun a c d f g w =>
 if (decide (a < (f : Int))) = true
 then (∃ i : Addr,d = some i ∧ (0 : Int) ≤ a ∧ a < (f : Int) ∧
 ∃ j : Int,w.cell? ((i.add (a.toNat * 4)).add 0) = some (.int .i64 j) ∧
 ∃ l : Int,w.cell? ((i.add (a.toNat * 4)).add 1) = some (.int .i64 l) ∧
 ∃ m : Int,w.cell? ((i.add (a.toNat * 4)).add 2) = some (.int .i64 m) ∧
 ∃ (n : Option Addr) (o p : Nat),w.cell? ((i.add (a.toNat * 4)).add 3) = some (.slice n o p) ∧
 CallK Tryz.prog 76 [.agg ⟨[.slice d f g]⟩,.agg ⟨[.int .i64 j,.int .i64 l,.int .i64 m,.slice n o p]⟩] B w [c] fun v q => 
 ∃ (r : Option Addr) (s t : Nat) (u : Int),v = .tuple ⟨[.slice r s t,.int .i64 u]⟩ ∧
 if (decide (u ≥ 0)) = true
 then (Ret B q (R (.tuple ⟨[.int .i64 9,.int .i64 a,.int .i64 u]⟩)))
 else ((V36.l3 B R k) (IntKind.wrap .i64 (a + 1)) c d f g q))
 else (Ret B w (R (.tuple ⟨[.int .i64 0,.int .i64 0,.int .i64 0]⟩)))
def V36.l1 (B : Nat) (R : Value → World → Prop) : Nat → Int → Nat → Option Addr → Nat → Nat → World → Prop
 | 0 => fun _ _ _ _ _ _ => False
 | k + 1 => fun a c d f g w =>
 if (decide (a < (f : Int))) = true
 then (∃ i,V36.l2 B R (V36.l1 B R k) i a 0 c d f g w)
 else (∃ i,V36.l3 B R i 0 c d f g w)
def V36.l0 (B : Nat) (R : Value → World → Prop) : Nat → Int → Nat → Option Addr → Nat → Nat → World → Prop
 | 0 => fun _ _ _ _ _ _ => False
 | k + 1 => fun a c d f g w =>
 if (decide (a < (f : Int))) = true
 then (∃ i : Addr,d = some i ∧ (0 : Int) ≤ a ∧ a < (f : Int) ∧
 ∃ j : Int,w.cell? ((i.add (a.toNat * 4)).add 0) = some (.int .i64 j) ∧
 ∃ l : Int,w.cell? ((i.add (a.toNat * 4)).add 1) = some (.int .i64 l) ∧
 ∃ m : Int,w.cell? ((i.add (a.toNat * 4)).add 2) = some (.int .i64 m) ∧
 ∃ (n : Option Addr) (o p : Nat),w.cell? ((i.add (a.toNat * 4)).add 3) = some (.slice n o p) ∧
 CallK Tryz.prog 74 [.agg ⟨[.int .i64 j,.int .i64 l,.int .i64 m,.slice n o p]⟩] B w [c] fun v q => 
 ∃ r : Bool,v = .bool r ∧
 if (!r) = true
 then (Ret B q (R (.tuple ⟨[.int .i64 1,.int .i64 a,.int .i64 0]⟩)))
 else ((V36.l0 B R k) (IntKind.wrap .i64 (a + 1)) c d f g q))
 else (∃ s,V36.l1 B R s 0 c d f g w)
def V36.vc (B : Nat) (R : Value → World → Prop) (a : Option Addr) (c d : Nat) (w : World) : Prop :=
 ∀ f : Nat,w.heap.size ≤ f →
 if (decide ((c : Int) < 1)) = false
 then (if (decide ((c : Int) > 8)) = true
 then (Ret B w (R (.tuple ⟨[.int .i64 1,.int .i64 0,.int .i64 0]⟩)))
 else (∃ g,V36.l0 B R g 0 f a c d w))
 else (Ret B w (R (.tuple ⟨[.int .i64 1,.int .i64 0,.int .i64 0]⟩)))
noncomputable def V36.cfg (B : Nat) : Cfg := ⟨Tryz.prog,⟨94,B⟩,[],hasN [74,75,76],hasN [],look []⟩
noncomputable def V36.code : Code := (Tryz.f36.body).getD .skip
noncomputable def V36.cuts (B : Nat) (R : Value → World → Prop) : Nat → Cut := nthC [⟨[(5,.one (.int .i64))],[(1,24,[.slice])],fun fs vs bs w => V36.l0 B R (nthN fs 0) (iV (nthV vs 0)) (nthB bs 0).blk (slA (nthV (nthB bs 0).cells 0)) (slL (nthV (nthB bs 0).cells 0)) (slC (nthV (nthB bs 0).cells 0)) w⟩,
 ⟨[(6,.one (.int .i64))],[(1,24,[.slice])],fun fs vs bs w => V36.l1 B R (nthN fs 0) (iV (nthV vs 0)) (nthB bs 0).blk (slA (nthV (nthB bs 0).cells 0)) (slL (nthV (nthB bs 0).cells 0)) (slC (nthV (nthB bs 0).cells 0)) w⟩,
 ⟨[(6,.one (.int .i64)),(7,.one (.int .i64))],[(1,24,[.slice])],fun fs vs bs w => V36.l2 B R (V36.l1 B R (nthN fs 1)) (nthN fs 0) (iV (nthV vs 0)) (iV (nthV vs 1)) (nthB bs 0).blk (slA (nthV (nthB bs 0).cells 0)) (slL (nthV (nthB bs 0).cells 0)) (slC (nthV (nthB bs 0).cells 0)) w⟩,
 ⟨[(8,.one (.int .i64))],[(1,24,[.slice])],fun fs vs bs w => V36.l3 B R (nthN fs 0) (iV (nthV vs 0)) (nthB bs 0).blk (slA (nthV (nthB bs 0).cells 0)) (slL (nthV (nthB bs 0).cells 0)) (slC (nthV (nthB bs 0).cells 0)) w⟩]
noncomputable def V36.h : H := .s (.z) (.s (.s (.z) (.c (.s (.z) (.z)) (.z))) (.s (.s (.z) (.b (.l 0 (.s (.s (.z) (.c (.z) (.z))) (.s (.b (.s (.z) (.c (.s (.z) (.z)) (.z)))) (.z)))))) (.s (.s (.z) (.b (.l 1 (.s (.s (.z) (.c (.z) (.z))) (.s (.b (.s (.z) (.b (.l 2 (.s (.s (.z) (.c (.z) (.z))) (.s (.b (.s (.r [[0,1,2,3,4,5,6,7,8,9,10,11,12,13,14,15,16]]) (.c (.s (.z) (.z)) (.z)))) (.z))))))) (.z)))))) (.s (.s (.z) (.b (.l 3 (.s (.s (.z) (.c (.z) (.z))) (.s (.b (.s (.r [[0,1,2,3,4,5,6,7,8,9,10,11]]) (.s (.z) (.c (.s (.z) (.z)) (.z))))) (.z)))))) (.s (.z) (.z))))))
theorem V36.vc_eq (B : Nat) (R : Value → World → Prop) (a : Option Addr) (c d : Nat) (w : World) : wpf (V36.cfg B) (V36.cuts B R) V36.code V36.h [] (postOf Tryz.prog B (Tryz.f36.results.toList) R) (argE 0 [.agg ⟨[.slice a c d]⟩]) [] w = V36.vc B R a c d w := by kernel_rfl
theorem V36.obl (B : Nat) (R : Value → World → Prop) : oblP (V36.cfg B) (V36.cuts B R) V36.code V36.h [] (postOf Tryz.prog B (Tryz.f36.results.toList) R) := by
 have e : oblP (V36.cfg B) (V36.cuts B R) V36.code V36.h [] (postOf Tryz.prog B (Tryz.f36.results.toList) R) = (True ∧ ((True ∧ ((True ∧ True) ∧ True)) ∧ ((True ∧ ((∀ (a : Int) (c : Nat) (d : Option Addr) (f g : Nat) (w : World),¬ V36.l0 B R 0 a c d f g w) ∧ (∀ i,∀ (a : Int) (c : Nat) (d : Option Addr) (f g : Nat) (w : World),V36.l0 B R (i + 1) a c d f g w → V36.l0 B R (i + 1) a c d f g w) ∧ ∀ i : Nat,((True ∧ (True ∧ True)) ∧ ((True ∧ ((True ∧ True) ∧ True)) ∧ True)))) ∧ ((True ∧ ((∀ (j : Int) (c : Nat) (d : Option Addr) (f g : Nat) (w : World),¬ V36.l1 B R 0 j c d f g w) ∧ (∀ l,∀ (j : Int) (c : Nat) (d : Option Addr) (f g : Nat) (w : World),V36.l1 B R (l + 1) j c d f g w → V36.l1 B R (l + 1) j c d f g w) ∧ ∀ l : Nat,((True ∧ (True ∧ True)) ∧ ((True ∧ ((∀ (j m : Int) (c : Nat) (d : Option Addr) (f g : Nat) (w : World),¬ V36.l2 B R (V36.l1 B R l) 0 j m c d f g w) ∧ (∀ n,∀ (j m : Int) (c : Nat) (d : Option Addr) (f g : Nat) (w : World),V36.l2 B R (V36.l1 B R l) (n + 1) j m c d f g w → V36.l2 B R (V36.l1 B R l) (n + 1) j m c d f g w) ∧ ∀ n : Nat,((True ∧ (True ∧ True)) ∧ (((true = true) ∧ ((True ∧ True) ∧ True)) ∧ True)))) ∧ True)))) ∧ ((True ∧ ((∀ (o : Int) (c : Nat) (d : Option Addr) (f g : Nat) (w : World),¬ V36.l3 B R 0 o c d f g w) ∧ (∀ p,∀ (o : Int) (c : Nat) (d : Option Addr) (f g : Nat) (w : World),V36.l3 B R (p + 1) o c d f g w → V36.l3 B R (p + 1) o c d f g w) ∧ ∀ p : Nat,((True ∧ (True ∧ True)) ∧ (((true = true) ∧ (True ∧ ((True ∧ True) ∧ True))) ∧ True)))) ∧ (True ∧ True)))))) := by kernel_rfl
 exact e.mpr (⟨trivial,⟨⟨trivial,⟨⟨trivial,trivial⟩,trivial⟩⟩,⟨⟨trivial,⟨fun a c d f g w h => h,fun _ a c d f g w h => h,fun i => ⟨⟨trivial,⟨trivial,trivial⟩⟩,⟨⟨trivial,⟨⟨trivial,trivial⟩,trivial⟩⟩,trivial⟩⟩⟩⟩,⟨⟨trivial,⟨fun j c d f g w h => h,fun _ j c d f g w h => h,fun l => ⟨⟨trivial,⟨trivial,trivial⟩⟩,⟨⟨trivial,⟨fun j m c d f g w h => h,fun _ j m c d f g w h => h,fun n => ⟨⟨trivial,⟨trivial,trivial⟩⟩,⟨⟨rfl,⟨⟨trivial,trivial⟩,trivial⟩⟩,trivial⟩⟩⟩⟩,trivial⟩⟩⟩⟩,⟨⟨trivial,⟨fun o c d f g w h => h,fun _ o c d f g w h => h,fun p => ⟨⟨trivial,⟨trivial,trivial⟩⟩,⟨⟨rfl,⟨trivial,⟨⟨trivial,trivial⟩,trivial⟩⟩⟩,trivial⟩⟩⟩⟩,⟨trivial,trivial⟩⟩⟩⟩⟩⟩)
theorem V36.cfgOk (B : Nat) : CfgOk (V36.cfg B) := cfgOk_of (by kernel_rfl) (by kernel_rfl) extNil
theorem V36.sound {a : Option Addr} {d f : Nat} {w : World} {R : Value → World → Prop} (h : V36.vc w.heap.size R a d f w) : Calls Tryz.prog 36 ⟨[.agg ⟨[.slice a d f]⟩]⟩ w fun e w' => ∃ v,e = .returned v ∧ R v w' :=
 calls_wpfP (c := V36.cfg w.heap.size) (fn := Tryz.f36) (x := V36.code) (V36.cuts w.heap.size R) V36.h (V36.cfgOk _) mixed Tryz.func36 (by kernel_rfl) (by kernel_rfl) (by kernel_rfl) rfl (V36.obl _ _) ((V36.vc_eq _ _ a d f _).symm ▸ h)
def V111.b5 (B : Nat) (R : Value → World → Prop) (a : Bool) (c : Nat) (d f g : Int) (i : Nat) (j : Option Addr) (l m : Nat) (w : World) : Prop :=
 if a = true
 then (CallK Tryz.prog 99 [.agg ⟨[.slice j l m]⟩,.agg ⟨[.int .i64 d,.int .i64 f,.int .i64 g]⟩] B w [c,i] fun v n => 
 ∃ o : Int,v = .int .i64 o ∧
 if (decide (o > 0)) = true
 then (CallK Tryz.prog 159 [.agg ⟨[.int .i64 d,.int .i64 f,.int .i64 g]⟩] B n [c,i] fun p q => 
 ∃ r : Int,p = .int .i64 r ∧
 Ret B q (R (.bool (decide (r > 0)))))
 else (Ret B n (R (.bool false))))
 else (Ret B w (R (.bool false)))
def V111.b4 (B : Nat) (R : Value → World → Prop) (a : Bool) (c : Int) (d : Bool) (f : Nat) (g i j : Int) (l : Nat) (m n o : Int) (p : Option Addr) (q r s : Nat) (t : Option Addr) (u x : Nat) (w : World) : Prop :=
 if d = true
 then (CallK Tryz.prog 158 [.int .i64 i,.int .i64 o] B w [f,l,s] fun v y => 
 ∃ z : Bool,v = .bool z ∧
 if z = true
 then (Ret B y (R (.bool (j == 0))))
 else (Ret B y (R (.bool false))))
 else (if (c == 24) = true
 then (CallK Tryz.prog 158 [.int .i64 i,.int .i64 o] B w [f,l,s] fun v y => 
 ∃ A : Bool,v = .bool A ∧
 if A = true
 then (CallK Tryz.prog 158 [.int .i64 j,.int .i64 o] B y [f,l,s] fun C D => 
 ∃ E : Bool,C = .bool E ∧
 Ret B D (R (.bool E)))
 else (Ret B y (R (.bool false))))
 else (if (c == 18) = true
 then (if (c == 18) = true
 then (Ret B w (R (.bool a)))
 else (V111.b5 B R a f g i j s t u x w))
 else (if (c == 20) = true
 then (if (c == 20) = true
 then (Ret B w (R (.bool a)))
 else (V111.b5 B R a f g i j s t u x w))
 else (if (c == 21) = true
 then (if (c == 21) = true
 then (Ret B w (R (.bool a)))
 else (V111.b5 B R a f g i j s t u x w))
 else (if (c == 22) = true
 then (if (c == 22) = true
 then (Ret B w (R (.bool a)))
 else (V111.b5 B R a f g i j s t u x w))
 else (if (c == 27) = true
 then (if (c == 27) = true
 then (Ret B w (R (.bool a)))
 else (V111.b5 B R a f g i j s t u x w))
 else (if (c == 26) = true
 then (Ret B w (R (.bool a)))
 else (V111.b5 B R a f g i j s t u x w))))))))
def V111.b3 (B : Nat) (R : Value → World → Prop) (a : Bool) (c : Int) (d : Bool) (f : Nat) (g i j : Int) (l : Nat) (m n o : Int) (p : Option Addr) (q r s : Nat) (t : Option Addr) (u x : Nat) (w : World) : Prop :=
 if d = true
 then (CallK Tryz.prog 158 [.int .i64 i,.int .i64 (u : Int)] B w [f,l,s] fun v y => 
 ∃ z : Bool,v = .bool z ∧
 if z = true
 then (Ret B y (R (.bool (j == 0))))
 else (Ret B y (R (.bool false))))
 else (if (c == 23) = true
 then (V111.b4 B R a c (c == 23) f g i j l m n o p q r s t u x w)
 else (V111.b4 B R a c (c == 25) f g i j l m n o p q r s t u x w))
def V111.b2 (B : Nat) (R : Value → World → Prop) (a : Bool) (c : Int) (d : Bool) (f : Nat) (g i j : Int) (l : Nat) (m n o : Int) (p : Option Addr) (q r s : Nat) (t : Option Addr) (u x : Nat) (w : World) : Prop :=
 if d = true
 then (CallK Tryz.prog 158 [.int .i64 i,.int .i64 (q : Int)] B w [f,l,s] fun v y => 
 ∃ z : Bool,v = .bool z ∧
 if z = true
 then (Ret B y (R (.bool (j == 0))))
 else (Ret B y (R (.bool false))))
 else (if (c == 17) = true
 then (V111.b3 B R a c (c == 17) f g i j l m n o p q r s t u x w)
 else (V111.b3 B R a c (c == 19) f g i j l m n o p q r s t u x w))
def V111.b1 (B : Nat) (R : Value → World → Prop) (a : Bool) (c : Int) (d : Bool) (f : Nat) (g i j : Int) (l : Nat) (m n o : Int) (p : Option Addr) (q r s : Nat) (t : Option Addr) (u x : Nat) (w : World) : Prop :=
 if d = true
 then (CallK Tryz.prog 158 [.int .i64 i,.int .i64 (IntKind.wrap .i64 (n - o))] B w [f,l,s] fun v y => 
 ∃ z : Bool,v = .bool z ∧
 if z = true
 then (Ret B y (R (.bool (j == 0))))
 else (Ret B y (R (.bool false))))
 else (if (c == 15) = true
 then (V111.b2 B R a c (c == 15) f g i j l m n o p q r s t u x w)
 else (V111.b2 B R a c (c == 16) f g i j l m n o p q r s t u x w))
def V111.b0 (B : Nat) (R : Value → World → Prop) (a : Bool) (c : Nat) (d f g : Int) (i : Nat) (j l m : Int) (n : Option Addr) (o p q : Nat) (r : Option Addr) (s t : Nat) (w : World) : Prop :=
 if (d == 1) = true
 then (if (decide (f ≥ (-2147483648))) = true
 then (if (decide (f ≤ 2147483648)) = true
 then (Ret B w (R (.bool (g == 0))))
 else (Ret B w (R (.bool false))))
 else (Ret B w (R (.bool false))))
 else (if (d == 2) = true
 then (CallK Tryz.prog 158 [.int .i64 f,.int .i64 6] B w [c,i,q] fun v u => 
 ∃ x : Bool,v = .bool x ∧
 if x = true
 then (Ret B u (R (.bool (g == 0))))
 else (Ret B u (R (.bool false))))
 else (if (d == 3) = true
 then (V111.b1 B R a d (d == 3) c d f g i j l m n o p q r s t w)
 else (V111.b1 B R a d (d == 4) c d f g i j l m n o p q r s t w)))
def V111.vc (B : Nat) (R : Value → World → Prop) (a : Option Addr) (c d : Nat) (f g i : Int) (j : Option Addr) (l m : Nat) (n o p : Int) (w : World) : Prop :=
 ∀ q : Nat,w.heap.size ≤ q →
 ∀ r : Nat,w.heap.size ≤ r →
 ∀ s : Nat,w.heap.size ≤ s →
 if (o == 0) = true
 then (V111.b0 B R (p == 0) s n o p r f g i j l m q a c d w)
 else (V111.b0 B R false s n o p r f g i j l m q a c d w)
noncomputable def V111.cfg (B : Nat) : Cfg := ⟨Tryz.prog,⟨134,B⟩,[],hasN [99,158,159],hasN [],look []⟩
noncomputable def V111.code : Code := (Tryz.f111.body).getD .skip
noncomputable def V111.cuts (B : Nat) (R : Value → World → Prop) : Nat → Cut := nthC [⟨[(7,.one (.bool))],[(5,105,[.int .i64,.int .i64,.int .i64]),(4,63,[.int .i64,.int .i64,.int .i64,.slice]),(3,24,[.slice])],fun fs vs bs w => V111.b0 B R (bV (nthV vs 0)) (nthB bs 0).blk (iV (nthV (nthB bs 0).cells 0)) (iV (nthV (nthB bs 0).cells 1)) (iV (nthV (nthB bs 0).cells 2)) (nthB bs 1).blk (iV (nthV (nthB bs 1).cells 0)) (iV (nthV (nthB bs 1).cells 1)) (iV (nthV (nthB bs 1).cells 2)) (slA (nthV (nthB bs 1).cells 3)) (slL (nthV (nthB bs 1).cells 3)) (slC (nthV (nthB bs 1).cells 3)) (nthB bs 2).blk (slA (nthV (nthB bs 2).cells 0)) (slL (nthV (nthB bs 2).cells 0)) (slC (nthV (nthB bs 2).cells 0)) w⟩,
 ⟨[(7,.one (.bool)),(17,.one (.int .i64)),(43,.one (.bool))],[(5,105,[.int .i64,.int .i64,.int .i64]),(4,63,[.int .i64,.int .i64,.int .i64,.slice]),(3,24,[.slice])],fun fs vs bs w => V111.b1 B R (bV (nthV vs 0)) (iV (nthV vs 1)) (bV (nthV vs 2)) (nthB bs 0).blk (iV (nthV (nthB bs 0).cells 0)) (iV (nthV (nthB bs 0).cells 1)) (iV (nthV (nthB bs 0).cells 2)) (nthB bs 1).blk (iV (nthV (nthB bs 1).cells 0)) (iV (nthV (nthB bs 1).cells 1)) (iV (nthV (nthB bs 1).cells 2)) (slA (nthV (nthB bs 1).cells 3)) (slL (nthV (nthB bs 1).cells 3)) (slC (nthV (nthB bs 1).cells 3)) (nthB bs 2).blk (slA (nthV (nthB bs 2).cells 0)) (slL (nthV (nthB bs 2).cells 0)) (slC (nthV (nthB bs 2).cells 0)) w⟩,
 ⟨[(7,.one (.bool)),(17,.one (.int .i64)),(59,.one (.bool))],[(5,105,[.int .i64,.int .i64,.int .i64]),(4,63,[.int .i64,.int .i64,.int .i64,.slice]),(3,24,[.slice])],fun fs vs bs w => V111.b2 B R (bV (nthV vs 0)) (iV (nthV vs 1)) (bV (nthV vs 2)) (nthB bs 0).blk (iV (nthV (nthB bs 0).cells 0)) (iV (nthV (nthB bs 0).cells 1)) (iV (nthV (nthB bs 0).cells 2)) (nthB bs 1).blk (iV (nthV (nthB bs 1).cells 0)) (iV (nthV (nthB bs 1).cells 1)) (iV (nthV (nthB bs 1).cells 2)) (slA (nthV (nthB bs 1).cells 3)) (slL (nthV (nthB bs 1).cells 3)) (slC (nthV (nthB bs 1).cells 3)) (nthB bs 2).blk (slA (nthV (nthB bs 2).cells 0)) (slL (nthV (nthB bs 2).cells 0)) (slC (nthV (nthB bs 2).cells 0)) w⟩,
 ⟨[(7,.one (.bool)),(17,.one (.int .i64)),(73,.one (.bool))],[(5,105,[.int .i64,.int .i64,.int .i64]),(4,63,[.int .i64,.int .i64,.int .i64,.slice]),(3,24,[.slice])],fun fs vs bs w => V111.b3 B R (bV (nthV vs 0)) (iV (nthV vs 1)) (bV (nthV vs 2)) (nthB bs 0).blk (iV (nthV (nthB bs 0).cells 0)) (iV (nthV (nthB bs 0).cells 1)) (iV (nthV (nthB bs 0).cells 2)) (nthB bs 1).blk (iV (nthV (nthB bs 1).cells 0)) (iV (nthV (nthB bs 1).cells 1)) (iV (nthV (nthB bs 1).cells 2)) (slA (nthV (nthB bs 1).cells 3)) (slL (nthV (nthB bs 1).cells 3)) (slC (nthV (nthB bs 1).cells 3)) (nthB bs 2).blk (slA (nthV (nthB bs 2).cells 0)) (slL (nthV (nthB bs 2).cells 0)) (slC (nthV (nthB bs 2).cells 0)) w⟩,
 ⟨[(7,.one (.bool)),(17,.one (.int .i64)),(87,.one (.bool))],[(5,105,[.int .i64,.int .i64,.int .i64]),(4,63,[.int .i64,.int .i64,.int .i64,.slice]),(3,24,[.slice])],fun fs vs bs w => V111.b4 B R (bV (nthV vs 0)) (iV (nthV vs 1)) (bV (nthV vs 2)) (nthB bs 0).blk (iV (nthV (nthB bs 0).cells 0)) (iV (nthV (nthB bs 0).cells 1)) (iV (nthV (nthB bs 0).cells 2)) (nthB bs 1).blk (iV (nthV (nthB bs 1).cells 0)) (iV (nthV (nthB bs 1).cells 1)) (iV (nthV (nthB bs 1).cells 2)) (slA (nthV (nthB bs 1).cells 3)) (slL (nthV (nthB bs 1).cells 3)) (slC (nthV (nthB bs 1).cells 3)) (nthB bs 2).blk (slA (nthV (nthB bs 2).cells 0)) (slL (nthV (nthB bs 2).cells 0)) (slC (nthV (nthB bs 2).cells 0)) w⟩,
 ⟨[(7,.one (.bool))],[(5,105,[.int .i64,.int .i64,.int .i64]),(3,24,[.slice])],fun fs vs bs w => V111.b5 B R (bV (nthV vs 0)) (nthB bs 0).blk (iV (nthV (nthB bs 0).cells 0)) (iV (nthV (nthB bs 0).cells 1)) (iV (nthV (nthB bs 0).cells 2)) (nthB bs 1).blk (slA (nthV (nthB bs 1).cells 0)) (slL (nthV (nthB bs 1).cells 0)) (slC (nthV (nthB bs 1).cells 0)) w⟩]
noncomputable def V111.h : H := .s (.z) (.cut 0 (.z) (.cut 5 (.s (.z) (.b (.s (.z) (.c (.s (.z) (.z)) (.s (.z) (.c (.s (.z) (.z)) (.cut 1 (.s (.z) (.c (.z) (.z))) (.c (.s (.z) (.z)) (.cut 2 (.s (.z) (.c (.z) (.z))) (.c (.s (.z) (.z)) (.cut 3 (.s (.z) (.c (.z) (.z))) (.c (.s (.z) (.z)) (.cut 4 (.s (.z) (.c (.z) (.z))) (.c (.s (.z) (.z)) (.s (.z) (.c (.s (.z) (.z)) (.s (.s (.z) (.c (.z) (.s (.z) (.c (.z) (.s (.z) (.c (.z) (.s (.z) (.c (.z) (.s (.z) (.c (.z) (.z))))))))))) (.c (.s (.z) (.z)) (.z))))))))))))))))))) (.s (.z) (.z))))
theorem V111.vc_eq (B : Nat) (R : Value → World → Prop) (a : Option Addr) (c d : Nat) (f g i : Int) (j : Option Addr) (l m : Nat) (n o p : Int) (w : World) : wpf (V111.cfg B) (V111.cuts B R) V111.code V111.h [] (postOf Tryz.prog B (Tryz.f111.results.toList) R) (argE 0 [.agg ⟨[.slice a c d]⟩,.agg ⟨[.int .i64 f,.int .i64 g,.int .i64 i,.slice j l m]⟩,.agg ⟨[.int .i64 n,.int .i64 o,.int .i64 p]⟩]) [] w = V111.vc B R a c d f g i j l m n o p w := by kernel_rfl
theorem V111.obl (B : Nat) (R : Value → World → Prop) : oblP (V111.cfg B) (V111.cuts B R) V111.code V111.h [] (postOf Tryz.prog B (Tryz.f111.results.toList) R) := by
 have e : oblP (V111.cfg B) (V111.cuts B R) V111.code V111.h [] (postOf Tryz.prog B (Tryz.f111.results.toList) R) = (True ∧ (True ∧ (∀ (a : Bool) (c : Nat) (d f g : Int) (i : Nat) (j l m : Int) (n : Option Addr) (o p q : Nat) (r : Option Addr) (s t : Nat) (w : World),V111.b0 B R a c d f g i j l m n o p q r s t w → V111.b0 B R a c d f g i j l m n o p q r s t w) ∧ ((True ∧ (True ∧ ((True ∧ True) ∧ (True ∧ ((True ∧ True) ∧ ((True ∧ (True ∧ True)) ∧ (∀ (a : Bool) (u : Int) (x : Bool) (c : Nat) (d f g : Int) (i : Nat) (j l m : Int) (n : Option Addr) (o p q : Nat) (r : Option Addr) (s t : Nat) (w : World),V111.b1 B R a u x c d f g i j l m n o p q r s t w → V111.b1 B R a u x c d f g i j l m n o p q r s t w) ∧ ((True ∧ True) ∧ ((True ∧ (True ∧ True)) ∧ (∀ (a : Bool) (u : Int) (y : Bool) (c : Nat) (d f g : Int) (i : Nat) (j l m : Int) (n : Option Addr) (o p q : Nat) (r : Option Addr) (s t : Nat) (w : World),V111.b2 B R a u y c d f g i j l m n o p q r s t w → V111.b2 B R a u y c d f g i j l m n o p q r s t w) ∧ ((True ∧ True) ∧ ((True ∧ (True ∧ True)) ∧ (∀ (a : Bool) (u : Int) (z : Bool) (c : Nat) (d f g : Int) (i : Nat) (j l m : Int) (n : Option Addr) (o p q : Nat) (r : Option Addr) (s t : Nat) (w : World),V111.b3 B R a u z c d f g i j l m n o p q r s t w → V111.b3 B R a u z c d f g i j l m n o p q r s t w) ∧ ((True ∧ True) ∧ ((True ∧ (True ∧ True)) ∧ (∀ (a : Bool) (u : Int) (A : Bool) (c : Nat) (d f g : Int) (i : Nat) (j l m : Int) (n : Option Addr) (o p q : Nat) (r : Option Addr) (s t : Nat) (w : World),V111.b4 B R a u A c d f g i j l m n o p q r s t w → V111.b4 B R a u A c d f g i j l m n o p q r s t w) ∧ ((True ∧ True) ∧ (True ∧ ((True ∧ True) ∧ ((True ∧ (True ∧ (True ∧ (True ∧ (True ∧ (True ∧ (True ∧ (True ∧ (True ∧ (True ∧ True)))))))))) ∧ ((True ∧ True) ∧ True))))))))))))))))) ∧ (∀ (a : Bool) (c : Nat) (d f g : Int) (q : Nat) (r : Option Addr) (s t : Nat) (w : World),V111.b5 B R a c d f g q r s t w → V111.b5 B R a c d f g q r s t w) ∧ (True ∧ True)))) := by kernel_rfl
 exact e.mpr (⟨trivial,⟨trivial,fun a c d f g i j l m n o p q r s t w h => h,⟨⟨trivial,⟨trivial,⟨⟨trivial,trivial⟩,⟨trivial,⟨⟨trivial,trivial⟩,⟨⟨trivial,⟨trivial,trivial⟩⟩,fun a u x c d f g i j l m n o p q r s t w h => h,⟨⟨trivial,trivial⟩,⟨⟨trivial,⟨trivial,trivial⟩⟩,fun a u y c d f g i j l m n o p q r s t w h => h,⟨⟨trivial,trivial⟩,⟨⟨trivial,⟨trivial,trivial⟩⟩,fun a u z c d f g i j l m n o p q r s t w h => h,⟨⟨trivial,trivial⟩,⟨⟨trivial,⟨trivial,trivial⟩⟩,fun a u A c d f g i j l m n o p q r s t w h => h,⟨⟨trivial,trivial⟩,⟨trivial,⟨⟨trivial,trivial⟩,⟨⟨trivial,⟨trivial,⟨trivial,⟨trivial,⟨trivial,⟨trivial,⟨trivial,⟨trivial,⟨trivial,⟨trivial,trivial⟩⟩⟩⟩⟩⟩⟩⟩⟩⟩,⟨⟨trivial,trivial⟩,trivial⟩⟩⟩⟩⟩⟩⟩⟩⟩⟩⟩⟩⟩⟩⟩⟩⟩,fun a c d f g q r s t w h => h,⟨trivial,trivial⟩⟩⟩⟩)
theorem V111.cfgOk (B : Nat) : CfgOk (V111.cfg B) := cfgOk_of (by kernel_rfl) (by kernel_rfl) extNil
theorem V111.sound {a : Option Addr} {d f : Nat} {g i j : Int} {l : Option Addr} {m n : Nat} {o p q : Int} {w : World} {R : Value → World → Prop} (h : V111.vc w.heap.size R a d f g i j l m n o p q w) : Calls Tryz.prog 111 ⟨[.agg ⟨[.slice a d f]⟩,.agg ⟨[.int .i64 g,.int .i64 i,.int .i64 j,.slice l m n]⟩,.agg ⟨[.int .i64 o,.int .i64 p,.int .i64 q]⟩]⟩ w fun e w' => ∃ v,e = .returned v ∧ R v w' :=
 calls_wpfP (c := V111.cfg w.heap.size) (fn := Tryz.f111) (x := V111.code) (V111.cuts w.heap.size R) V111.h (V111.cfgOk _) mixed Tryz.func111 (by kernel_rfl) (by kernel_rfl) (by kernel_rfl) rfl (V111.obl _ _) ((V111.vc_eq _ _ a d f g i j l m n o p q _).symm ▸ h)
def V112.b4 (B : Nat) (R : Value → World → Prop) (a : Option Addr → Nat → Nat → Option Addr → Nat → Nat → Nat → Option Addr → Nat → Nat → World → Prop) (c : Option Addr → Nat → Nat → Option Addr → Nat → Nat → Bool → Option Addr → Nat → Nat → Int → Int → Nat → Option Addr → Nat → Nat → World → Prop) (d : Option Addr → Nat → Nat → Option Addr → Nat → Nat → Bool → Int → Int → Option Addr → Nat → Nat → Int → Int → Option Addr → Nat → Nat → Int → Int → Nat → Option Addr → Nat → Nat → World → Prop) (f : Option Addr) (g i : Nat) (j : Option Addr) (l m : Nat) (n : Bool) (o p q : Int) (r : Option Addr) (s t : Nat) (x y : Int) (z : Option Addr) (A C : Nat) (D E : Int) (F : Bool) (G : Nat) (I : Option Addr) (J L : Nat) (w : World) : Prop :=
 if F = true
 then (Ret B w (R (.tuple ⟨[.slice none 0 0,.int .i64 o,.bool false]⟩)))
 else (∃ M : Addr,j = some M ∧ (0 : Int) ≤ q ∧ q < (l : Int) ∧
 ∃ N : Int,w.cell? (M.add q.toNat) = some (.int .i64 N) ∧
 if (decide (N < 0)) = true
 then (∃ O : Addr,j = some O ∧ (0 : Int) ≤ q ∧ q < (l : Int) ∧
 (∃ u,w.cell? ((O.add q.toNat).add 0) = some u) ∧ w.frozen? ((O.add q.toNat).add 0) = false ∧
 let P := w.setCell ((O.add q.toNat).add 0) (.int .i64 p);
 d f g i j l m true o p r s t x y z A C D (IntKind.wrap .i64 (E + 1)) G I J L P)
 else (d f g i j l m n o p r s t x y z A C D (IntKind.wrap .i64 (E + 1)) G I J L w))
def V112.l3 (B : Nat) (R : Value → World → Prop) (a : Option Addr → Nat → Nat → Option Addr → Nat → Nat → Nat → Option Addr → Nat → Nat → World → Prop) (c : Option Addr → Nat → Nat → Option Addr → Nat → Nat → Bool → Option Addr → Nat → Nat → Int → Int → Nat → Option Addr → Nat → Nat → World → Prop) : Nat → Option Addr → Nat → Nat → Option Addr → Nat → Nat → Bool → Int → Int → Option Addr → Nat → Nat → Int → Int → Option Addr → Nat → Nat → Int → Int → Nat → Option Addr → Nat → Nat → World → Prop
 | 0 => fun _ _ _ _ _ _ _ _ _ _ _ _ _ _ _ _ _ _ _ _ _ _ _ _ => False
 | k + 1 => fun d f g i j l m n o p q r s t u x y z A C D E F w =>
 if (decide (A < z)) = true
 then (∃ G : Addr,u = some G ∧ (0 : Int) ≤ A ∧ A < (x : Int) ∧
 ∃ I : Int,w.cell? (G.add A.toNat) = some (.int .i64 I) ∧
 if (decide (I ≥ (f : Int))) = false
 then (∃ J : Addr,i = some J ∧ (0 : Int) ≤ I ∧ I < (j : Int) ∧
 ∃ L : Int,w.cell? (J.add I.toNat) = some (.int .i64 L) ∧
 if (decide (L ≥ 0)) = true
 then (∃ M : Addr,i = some M ∧ (0 : Int) ≤ I ∧ I < (j : Int) ∧
 ∃ N : Int,w.cell? (M.add I.toNat) = some (.int .i64 N) ∧
 V112.b4 B R a c (V112.l3 B R a c k) d f g i j l m n o I p q r s t u x y z A (N != o) C D E F w)
 else (V112.b4 B R a c (V112.l3 B R a c k) d f g i j l m n o I p q r s t u x y z A false C D E F w))
 else (V112.b4 B R a c (V112.l3 B R a c k) d f g i j l m n o I p q r s t u x y z A true C D E F w))
 else (c d f g i j l m p q r s (IntKind.wrap .i64 (t + 1)) C D E F w)
def V112.l2 (B : Nat) (R : Value → World → Prop) (a : Option Addr → Nat → Nat → Option Addr → Nat → Nat → Nat → Option Addr → Nat → Nat → World → Prop) : Nat → Option Addr → Nat → Nat → Option Addr → Nat → Nat → Bool → Option Addr → Nat → Nat → Int → Int → Nat → Option Addr → Nat → Nat → World → Prop
 | 0 => fun _ _ _ _ _ _ _ _ _ _ _ _ _ _ _ _ _ => False
 | k + 1 => fun c d f g i j l m n o p q r s t u w =>
 if (decide (q < p)) = true
 then (∃ x : Addr,m = some x ∧ (0 : Int) ≤ q ∧ q < (n : Int) ∧
 ∃ y : Int,w.cell? ((x.add (q.toNat * 3)).add 0) = some (.int .i64 y) ∧
 ∃ z : Int,w.cell? ((x.add (q.toNat * 3)).add 1) = some (.int .i64 z) ∧
 ∃ A : Int,w.cell? ((x.add (q.toNat * 3)).add 2) = some (.int .i64 A) ∧
 ∀ C : Nat,w.heap.size ≤ C →
 ∃ D : Addr,g = some D ∧ (0 : Int) ≤ q ∧ q < (i : Int) ∧
 ∃ E : Int,w.cell? (D.add q.toNat) = some (.int .i64 E) ∧
 if (decide (E < 0)) = true
 then ((V112.l2 B R a k) c d f g i j l m n o p (IntKind.wrap .i64 (q + 1)) r s t u w)
 else (∃ F : Addr,g = some F ∧ (0 : Int) ≤ q ∧ q < (i : Int) ∧
 ∃ G : Int,w.cell? (F.add q.toNat) = some (.int .i64 G) ∧
 CallK Tryz.prog 99 [.agg ⟨[.slice s t u]⟩,.agg ⟨[.int .i64 y,.int .i64 z,.int .i64 A]⟩] B w [C,r] fun v I => 
 ∃ J : Int,v = .int .i64 J ∧ I.cell? (F.add q.toNat) = some (.int .i64 G) ∧
 CallK Tryz.prog 159 [.agg ⟨[.int .i64 y,.int .i64 z,.int .i64 A]⟩] B I [C,r] fun L M => 
 ∃ N : Int,L = .int .i64 N ∧ M.cell? (F.add q.toNat) = some (.int .i64 G) ∧
 ∃ O : Addr,g = some O ∧ (0 : Int) ≤ q ∧ q < (i : Int) ∧
 ∃ P : Int,M.cell? (O.add q.toNat) = some (.int .i64 P) ∧
 CallK Tryz.prog 99 [.agg ⟨[.slice s t u]⟩,.agg ⟨[.int .i64 y,.int .i64 z,.int .i64 A]⟩] B M [C,r] fun Q S => 
 ∃ T : Int,Q = .int .i64 T ∧ S.cell? (O.add q.toNat) = some (.int .i64 P) ∧
 if (decide (T > P)) = false
 then (if (decide (IntKind.wrap .i64 (IntKind.wrap .i64 (G - J) + N) > 8)) = true
 then (Ret B S (R (.tuple ⟨[.slice none 0 0,.int .i64 q,.bool false]⟩)))
 else (CallK Tryz.prog 160 [.int .i64 q,.agg ⟨[.int .i64 y,.int .i64 z,.int .i64 A]⟩] B S [C,r] fun U W => 
 ∃ (X : Option Addr) (Y Z : Nat),U = .slice X Y Z ∧
 ∃ a0,V112.l3 B R a (V112.l2 B R a k) a0 c d f g i j l q (IntKind.wrap .i64 (IntKind.wrap .i64 (G - J) + N)) m n o p q X Y Z (Y : Int) 0 r s t u W))
 else (Ret B S (R (.tuple ⟨[.slice none 0 0,.int .i64 q,.bool false]⟩)))))
 else (if (!l) = true
 then (Ret B w (R (.tuple ⟨[.slice g i j,.int .i64 0,.bool true]⟩)))
 else (a c d f g i j r s t u w))
def V112.l1 (B : Nat) (R : Value → World → Prop) : Nat → Option Addr → Nat → Nat → Option Addr → Nat → Nat → Nat → Option Addr → Nat → Nat → World → Prop
 | 0 => fun _ _ _ _ _ _ _ _ _ _ _ => False
 | k + 1 => fun a c d f g i j l m n w =>
 ∃ o,V112.l2 B R (V112.l1 B R k) o a c d f g i false a c d (c : Int) 0 j l m n w
def V112.l0 (B : Nat) (R : Value → World → Prop) : Nat → Option Addr → Nat → Nat → Option Addr → Nat → Nat → Int → Nat → Option Addr → Nat → Nat → World → Prop
 | 0 => fun _ _ _ _ _ _ _ _ _ _ _ _ => False
 | k + 1 => fun a c d f g i j l m n o w =>
 if (decide (j < (g : Int))) = true
 then (∃ p : Addr,f = some p ∧ (0 : Int) ≤ j ∧ j < (g : Int) ∧
 (∃ u,w.cell? ((p.add j.toNat).add 0) = some u) ∧ w.frozen? ((p.add j.toNat).add 0) = false ∧
 let q := w.setCell ((p.add j.toNat).add 0) (.int .i64 (-1));
 (V112.l0 B R k) a c d f g i (IntKind.wrap .i64 (j + 1)) l m n o q)
 else (∃ r,V112.l1 B R r a c d f g i l m n o w)
def V112.vc (B : Nat) (R : Value → World → Prop) (a : Option Addr) (c d : Nat) (f : Option Addr) (g i : Nat) (w : World) : Prop :=
 ∀ j : Nat,w.heap.size ≤ j →
 RunK Tryz.prog (Instr.makeSlice 87 (.int .i64 (g : Int)) (.int .i64 (g : Int))) B w [j] fun v l => 
 ∃ (m : Option Addr) (n o : Nat),v = .slice m n o ∧
 ∃ p,V112.l0 B R p f g i m n o 1 j a c d l
noncomputable def V112.cfg (B : Nat) : Cfg := ⟨Tryz.prog,⟨107,B⟩,[],hasN [99,159,160],hasN [],look []⟩
noncomputable def V112.code : Code := (Tryz.f112.body).getD .skip
noncomputable def V112.cuts (B : Nat) (R : Value → World → Prop) : Nat → Cut := nthC [⟨[(1,.one (.slice)),(7,.one (.slice)),(8,.one (.int .i64))],[(2,24,[.slice])],fun fs vs bs w => V112.l0 B R (nthN fs 0) (slA (nthV vs 0)) (slL (nthV vs 0)) (slC (nthV vs 0)) (slA (nthV vs 1)) (slL (nthV vs 1)) (slC (nthV vs 1)) (iV (nthV vs 2)) (nthB bs 0).blk (slA (nthV (nthB bs 0).cells 0)) (slL (nthV (nthB bs 0).cells 0)) (slC (nthV (nthB bs 0).cells 0)) w⟩,
 ⟨[(1,.one (.slice)),(7,.one (.slice))],[(2,24,[.slice])],fun fs vs bs w => V112.l1 B R (nthN fs 0) (slA (nthV vs 0)) (slL (nthV vs 0)) (slC (nthV vs 0)) (slA (nthV vs 1)) (slL (nthV vs 1)) (slC (nthV vs 1)) (nthB bs 0).blk (slA (nthV (nthB bs 0).cells 0)) (slL (nthV (nthB bs 0).cells 0)) (slC (nthV (nthB bs 0).cells 0)) w⟩,
 ⟨[(1,.one (.slice)),(7,.one (.slice)),(9,.one (.bool)),(27,.one (.slice)),(28,.one (.int .i64)),(29,.one (.int .i64))],[(2,24,[.slice])],fun fs vs bs w => V112.l2 B R (V112.l1 B R (nthN fs 1)) (nthN fs 0) (slA (nthV vs 0)) (slL (nthV vs 0)) (slC (nthV vs 0)) (slA (nthV vs 1)) (slL (nthV vs 1)) (slC (nthV vs 1)) (bV (nthV vs 2)) (slA (nthV vs 3)) (slL (nthV vs 3)) (slC (nthV vs 3)) (iV (nthV vs 4)) (iV (nthV vs 5)) (nthB bs 0).blk (slA (nthV (nthB bs 0).cells 0)) (slL (nthV (nthB bs 0).cells 0)) (slC (nthV (nthB bs 0).cells 0)) w⟩,
 ⟨[(1,.one (.slice)),(7,.one (.slice)),(9,.one (.bool)),(10,.one (.int .i64)),(12,.one (.int .i64)),(27,.one (.slice)),(28,.one (.int .i64)),(29,.one (.int .i64)),(65,.one (.slice)),(66,.one (.int .i64)),(67,.one (.int .i64))],[(2,24,[.slice])],fun fs vs bs w => V112.l3 B R (V112.l1 B R (nthN fs 2)) (V112.l2 B R (V112.l1 B R (nthN fs 2)) (nthN fs 1)) (nthN fs 0) (slA (nthV vs 0)) (slL (nthV vs 0)) (slC (nthV vs 0)) (slA (nthV vs 1)) (slL (nthV vs 1)) (slC (nthV vs 1)) (bV (nthV vs 2)) (iV (nthV vs 3)) (iV (nthV vs 4)) (slA (nthV vs 5)) (slL (nthV vs 5)) (slC (nthV vs 5)) (iV (nthV vs 6)) (iV (nthV vs 7)) (slA (nthV vs 8)) (slL (nthV vs 8)) (slC (nthV vs 8)) (iV (nthV vs 9)) (iV (nthV vs 10)) (nthB bs 0).blk (slA (nthV (nthB bs 0).cells 0)) (slL (nthV (nthB bs 0).cells 0)) (slC (nthV (nthB bs 0).cells 0)) w⟩,
 ⟨[(1,.one (.slice)),(7,.one (.slice)),(9,.one (.bool)),(10,.one (.int .i64)),(12,.one (.int .i64)),(14,.one (.int .i64)),(27,.one (.slice)),(28,.one (.int .i64)),(29,.one (.int .i64)),(65,.one (.slice)),(66,.one (.int .i64)),(67,.one (.int .i64)),(71,.one (.bool))],[(2,24,[.slice])],fun fs vs bs w => V112.b4 B R (V112.l1 B R (nthN fs 2)) (V112.l2 B R (V112.l1 B R (nthN fs 2)) (nthN fs 1)) (V112.l3 B R (V112.l1 B R (nthN fs 2)) (V112.l2 B R (V112.l1 B R (nthN fs 2)) (nthN fs 1)) (nthN fs 0)) (slA (nthV vs 0)) (slL (nthV vs 0)) (slC (nthV vs 0)) (slA (nthV vs 1)) (slL (nthV vs 1)) (slC (nthV vs 1)) (bV (nthV vs 2)) (iV (nthV vs 3)) (iV (nthV vs 4)) (iV (nthV vs 5)) (slA (nthV vs 6)) (slL (nthV vs 6)) (slC (nthV vs 6)) (iV (nthV vs 7)) (iV (nthV vs 8)) (slA (nthV vs 9)) (slL (nthV vs 9)) (slC (nthV vs 9)) (iV (nthV vs 10)) (iV (nthV vs 11)) (bV (nthV vs 12)) (nthB bs 0).blk (slA (nthV (nthB bs 0).cells 0)) (slL (nthV (nthB bs 0).cells 0)) (slC (nthV (nthB bs 0).cells 0)) w⟩]
noncomputable def V112.h : H := .s (.z) (.b (.s (.z) (.s (.s (.z) (.b (.l 0 (.s (.s (.z) (.c (.z) (.z))) (.s (.b (.z)) (.z)))))) (.s (.z) (.s (.b (.l 1 (.b (.s (.z) (.s (.s (.z) (.b (.l 2 (.s (.z) (.s (.c (.z) (.z)) (.s (.b (.s (.z) (.s (.s (.z) (.c (.z) (.z))) (.s (.r [[0,1,2,3,4,5,8,6,7,9,10,11]]) (.s (.s (.r [[0,1,3,4,5,6,2,7,8,9,10,11]]) (.c (.s (.z) (.z)) (.z))) (.s (.z) (.b (.l 3 (.s (.z) (.s (.c (.z) (.z)) (.s (.b (.s (.z) (.b (.cut 4 (.z) (.c (.s (.z) (.z)) (.s (.z) (.c (.z) (.z)))))))) (.z)))))))))))) (.z))))))) (.s (.z) (.c (.z) (.z)))))))) (.s (.z) (.z)))))))
theorem V112.vc_eq (B : Nat) (R : Value → World → Prop) (a : Option Addr) (c d : Nat) (f : Option Addr) (g i : Nat) (w : World) : wpf (V112.cfg B) (V112.cuts B R) V112.code V112.h [] (postOf Tryz.prog B (Tryz.f112.results.toList) R) (argE 0 [.agg ⟨[.slice a c d]⟩,.slice f g i]) [] w = V112.vc B R a c d f g i w := by kernel_rfl
theorem V112.obl (B : Nat) (R : Value → World → Prop) : oblP (V112.cfg B) (V112.cuts B R) V112.code V112.h [] (postOf Tryz.prog B (Tryz.f112.results.toList) R) := by
 have e : oblP (V112.cfg B) (V112.cuts B R) V112.code V112.h [] (postOf Tryz.prog B (Tryz.f112.results.toList) R) = (True ∧ (True ∧ ((True ∧ ((∀ (a : Option Addr) (c d : Nat) (f : Option Addr) (g i : Nat) (j : Int) (l : Nat) (m : Option Addr) (n o : Nat) (w : World),¬ V112.l0 B R 0 a c d f g i j l m n o w) ∧ (∀ p,∀ (a : Option Addr) (c d : Nat) (f : Option Addr) (g i : Nat) (j : Int) (l : Nat) (m : Option Addr) (n o : Nat) (w : World),V112.l0 B R (p + 1) a c d f g i j l m n o w → V112.l0 B R (p + 1) a c d f g i j l m n o w) ∧ ∀ p : Nat,((True ∧ (True ∧ True)) ∧ (True ∧ True)))) ∧ (True ∧ (((∀ (a : Option Addr) (c d : Nat) (f : Option Addr) (g i l : Nat) (m : Option Addr) (n o : Nat) (w : World),¬ V112.l1 B R 0 a c d f g i l m n o w) ∧ (∀ q,∀ (a : Option Addr) (c d : Nat) (f : Option Addr) (g i l : Nat) (m : Option Addr) (n o : Nat) (w : World),V112.l1 B R (q + 1) a c d f g i l m n o w → V112.l1 B R (q + 1) a c d f g i l m n o w) ∧ ∀ q : Nat,(True ∧ ((True ∧ ((∀ (a : Option Addr) (c d : Nat) (f : Option Addr) (g i : Nat) (r : Bool) (s : Option Addr) (t u : Nat) (x y : Int) (l : Nat) (m : Option Addr) (n o : Nat) (w : World),¬ V112.l2 B R (V112.l1 B R q) 0 a c d f g i r s t u x y l m n o w) ∧ (∀ z,∀ (a : Option Addr) (c d : Nat) (f : Option Addr) (g i : Nat) (r : Bool) (s : Option Addr) (t u : Nat) (x y : Int) (l : Nat) (m : Option Addr) (n o : Nat) (w : World),V112.l2 B R (V112.l1 B R q) (z + 1) a c d f g i r s t u x y l m n o w → V112.l2 B R (V112.l1 B R q) (z + 1) a c d f g i r s t u x y l m n o w) ∧ ∀ z : Nat,(True ∧ ((True ∧ True) ∧ ((True ∧ ((True ∧ (True ∧ True)) ∧ ((true = true) ∧ (((true = true) ∧ ((True ∧ True) ∧ True)) ∧ (True ∧ ((∀ (a : Option Addr) (c d : Nat) (f : Option Addr) (g i : Nat) (r : Bool) (A C : Int) (s : Option Addr) (t u : Nat) (x y : Int) (D : Option Addr) (E F : Nat) (G I : Int) (l : Nat) (m : Option Addr) (n o : Nat) (w : World),¬ V112.l3 B R (V112.l1 B R q) (V112.l2 B R (V112.l1 B R q) z) 0 a c d f g i r A C s t u x y D E F G I l m n o w) ∧ (∀ J,∀ (a : Option Addr) (c d : Nat) (f : Option Addr) (g i : Nat) (r : Bool) (A C : Int) (s : Option Addr) (t u : Nat) (x y : Int) (D : Option Addr) (E F : Nat) (G I : Int) (l : Nat) (m : Option Addr) (n o : Nat) (w : World),V112.l3 B R (V112.l1 B R q) (V112.l2 B R (V112.l1 B R q) z) (J + 1) a c d f g i r A C s t u x y D E F G I l m n o w → V112.l3 B R (V112.l1 B R q) (V112.l2 B R (V112.l1 B R q) z) (J + 1) a c d f g i r A C s t u x y D E F G I l m n o w) ∧ ∀ J : Nat,(True ∧ ((True ∧ True) ∧ ((True ∧ (True ∧ (∀ (a : Option Addr) (c d : Nat) (f : Option Addr) (g i : Nat) (r : Bool) (A C L : Int) (s : Option Addr) (t u : Nat) (x y : Int) (D : Option Addr) (E F : Nat) (G I : Int) (M : Bool) (l : Nat) (m : Option Addr) (n o : Nat) (w : World),V112.b4 B R (V112.l1 B R q) (V112.l2 B R (V112.l1 B R q) z) (V112.l3 B R (V112.l1 B R q) (V112.l2 B R (V112.l1 B R q) z) J) a c d f g i r A C L s t u x y D E F G I M l m n o w → V112.b4 B R (V112.l1 B R q) (V112.l2 B R (V112.l1 B R q) z) (V112.l3 B R (V112.l1 B R q) (V112.l2 B R (V112.l1 B R q) z) J) a c d f g i r A C L s t u x y D E F G I M l m n o w) ∧ ((True ∧ True) ∧ (True ∧ (True ∧ True))))) ∧ True))))))))) ∧ True))))) ∧ (True ∧ (True ∧ True))))) ∧ (True ∧ True)))))) := by kernel_rfl
 exact e.mpr (⟨trivial,⟨trivial,⟨⟨trivial,⟨fun a c d f g i j l m n o w h => h,fun _ a c d f g i j l m n o w h => h,fun p => ⟨⟨trivial,⟨trivial,trivial⟩⟩,⟨trivial,trivial⟩⟩⟩⟩,⟨trivial,⟨⟨fun a c d f g i l m n o w h => h,fun _ a c d f g i l m n o w h => h,fun q => ⟨trivial,⟨⟨trivial,⟨fun a c d f g i r s t u x y l m n o w h => h,fun _ a c d f g i r s t u x y l m n o w h => h,fun z => ⟨trivial,⟨⟨trivial,trivial⟩,⟨⟨trivial,⟨⟨trivial,⟨trivial,trivial⟩⟩,⟨rfl,⟨⟨rfl,⟨⟨trivial,trivial⟩,trivial⟩⟩,⟨trivial,⟨fun a c d f g i r A C s t u x y D E F G I l m n o w h => h,fun _ a c d f g i r A C s t u x y D E F G I l m n o w h => h,fun J => ⟨trivial,⟨⟨trivial,trivial⟩,⟨⟨trivial,⟨trivial,fun a c d f g i r A C L s t u x y D E F G I M l m n o w h => h,⟨⟨trivial,trivial⟩,⟨trivial,⟨trivial,trivial⟩⟩⟩⟩⟩,trivial⟩⟩⟩⟩⟩⟩⟩⟩⟩,trivial⟩⟩⟩⟩⟩,⟨trivial,⟨trivial,trivial⟩⟩⟩⟩⟩,⟨trivial,trivial⟩⟩⟩⟩⟩⟩)
theorem V112.cfgOk (B : Nat) : CfgOk (V112.cfg B) := cfgOk_of (by kernel_rfl) (by kernel_rfl) extNil
theorem V112.sound {a : Option Addr} {d f : Nat} {g : Option Addr} {i j : Nat} {w : World} {R : Value → World → Prop} (h : V112.vc w.heap.size R a d f g i j w) : Calls Tryz.prog 112 ⟨[.agg ⟨[.slice a d f]⟩,.slice g i j]⟩ w fun e w' => ∃ v,e = .returned v ∧ R v w' :=
 calls_wpfP (c := V112.cfg w.heap.size) (fn := Tryz.f112) (x := V112.code) (V112.cuts w.heap.size R) V112.h (V112.cfgOk _) mixed Tryz.func112 (by kernel_rfl) (by kernel_rfl) (by kernel_rfl) rfl (V112.obl _ _) ((V112.vc_eq _ _ a d f g i j _).symm ▸ h)
def V74.vc (B : Nat) (R : Value → World → Prop) (a c d : Int) (f : Option Addr) (g i : Nat) (w : World) : Prop :=
 ∀ j : Nat,w.heap.size ≤ j →
 if (decide (a ≥ 0)) = true
 then (if (decide (a ≤ 3)) = true
 then (if (decide (c ≥ a)) = true
 then (if (decide (c ≤ 8)) = true
 then (if (decide (d ≥ 0)) = true
 then (if (decide (d ≤ IntKind.wrap .i64 (c - a))) = true
 then (if (decide ((g : Int) ≥ 1)) = true
 then (Ret B w (R (.bool (decide ((g : Int) ≤ 64)))))
 else (Ret B w (R (.bool false))))
 else (Ret B w (R (.bool false))))
 else (Ret B w (R (.bool false))))
 else (Ret B w (R (.bool false))))
 else (Ret B w (R (.bool false))))
 else (Ret B w (R (.bool false))))
 else (Ret B w (R (.bool false)))
noncomputable def V74.cfg (B : Nat) : Cfg := ⟨Tryz.prog,⟨50,B⟩,[],hasN [],hasN [],look []⟩
noncomputable def V74.code : Code := (Tryz.f74.body).getD .skip
noncomputable def V74.cuts (B : Nat) (R : Value → World → Prop) : Nat → Cut := nthC []
noncomputable def V74.h : H := .s (.z) (.s (.z) (.z))
theorem V74.vc_eq (B : Nat) (R : Value → World → Prop) (a c d : Int) (f : Option Addr) (g i : Nat) (w : World) : wpf (V74.cfg B) (V74.cuts B R) V74.code V74.h [] (postOf Tryz.prog B (Tryz.f74.results.toList) R) (argE 0 [.agg ⟨[.int .i64 a,.int .i64 c,.int .i64 d,.slice f g i]⟩]) [] w = V74.vc B R a c d f g i w := by kernel_rfl
theorem V74.obl (B : Nat) (R : Value → World → Prop) : oblP (V74.cfg B) (V74.cuts B R) V74.code V74.h [] (postOf Tryz.prog B (Tryz.f74.results.toList) R) := by
 have e : oblP (V74.cfg B) (V74.cuts B R) V74.code V74.h [] (postOf Tryz.prog B (Tryz.f74.results.toList) R) = (True ∧ (True ∧ True)) := by kernel_rfl
 exact e.mpr (⟨trivial,⟨trivial,trivial⟩⟩)
theorem V74.cfgOk (B : Nat) : CfgOk (V74.cfg B) := cfgOk_of (by kernel_rfl) (by kernel_rfl) extNil
theorem V74.sound {a d f : Int} {g : Option Addr} {i j : Nat} {w : World} {R : Value → World → Prop} (h : V74.vc w.heap.size R a d f g i j w) : Calls Tryz.prog 74 ⟨[.agg ⟨[.int .i64 a,.int .i64 d,.int .i64 f,.slice g i j]⟩]⟩ w fun e w' => ∃ v,e = .returned v ∧ R v w' :=
 calls_wpfP (c := V74.cfg w.heap.size) (fn := Tryz.f74) (x := V74.code) (V74.cuts w.heap.size R) V74.h (V74.cfgOk _) mixed Tryz.func74 (by kernel_rfl) (by kernel_rfl) (by kernel_rfl) rfl (V74.obl _ _) ((V74.vc_eq _ _ a d f g i j _).symm ▸ h)
def V75.b0 (B : Nat) (R : Value → World → Prop) (a : Int) (c : Nat) (d f g : Int) (i : Nat) (j l m : Int) (n : Option Addr) (o p q : Nat) (r : Option Addr) (s t : Nat) (w : World) : Prop :=
 if (a == 1) = true
 then (if (decide (f ≥ (-2147483648))) = true
 then (Ret B w (R (.bool (decide (f ≤ 2147483648)))))
 else (Ret B w (R (.bool false))))
 else (if (a == 2) = true
 then (CallK Tryz.prog 116 [.int .i64 f,.int .i64 6] B w [c,i,q] fun v u => 
 ∃ x : Bool,v = .bool x ∧
 Ret B u (R (.bool x)))
 else (if (a == 3) = true
 then (CallK Tryz.prog 116 [.int .i64 f,.int .i64 (IntKind.wrap .i64 (l - m))] B w [c,i,q] fun v u => 
 ∃ y : Bool,v = .bool y ∧
 Ret B u (R (.bool y)))
 else (if (a == 4) = true
 then (CallK Tryz.prog 116 [.int .i64 f,.int .i64 (o : Int)] B w [c,i,q] fun v u => 
 ∃ z : Bool,v = .bool z ∧
 Ret B u (R (.bool z)))
 else (if (a == 5) = true
 then (CallK Tryz.prog 116 [.int .i64 f,.int .i64 (s : Int)] B w [c,i,q] fun v u => 
 ∃ A : Bool,v = .bool A ∧
 Ret B u (R (.bool A)))
 else (if (a == 6) = true
 then (CallK Tryz.prog 116 [.int .i64 f,.int .i64 m] B w [c,i,q] fun v u => 
 ∃ C : Bool,v = .bool C ∧
 Ret B u (R (.bool C)))
 else (if (a == 7) = true
 then (CallK Tryz.prog 116 [.int .i64 f,.int .i64 m] B w [c,i,q] fun v u => 
 ∃ D : Bool,v = .bool D ∧
 if D = true
 then (CallK Tryz.prog 116 [.int .i64 g,.int .i64 m] B u [c,i,q] fun E F => 
 ∃ G : Bool,E = .bool G ∧
 Ret B F (R (.bool G)))
 else (Ret B u (R (.bool false))))
 else (Ret B w (R (.bool (f == 0))))))))))
def V75.vc (B : Nat) (R : Value → World → Prop) (a : Option Addr) (c d : Nat) (f g i : Int) (j : Option Addr) (l m : Nat) (n o p : Int) (w : World) : Prop :=
 ∀ q : Nat,w.heap.size ≤ q →
 ∀ r : Nat,w.heap.size ≤ r →
 ∀ s : Nat,w.heap.size ≤ s →
 CallK Tryz.prog 115 [.int .i64 n] B w [s,r,q] fun v t => 
 ∃ (u x y : Int) (z : Bool),v = .tuple ⟨[.int .i64 u,.int .i64 x,.int .i64 y,.bool z]⟩ ∧
 if (!z) = false
 then (if (u != 7) = true
 then (if (p != 0) = true
 then (Ret B t (R (.bool false)))
 else (V75.b0 B R u s n o p r f g i j l m q a c d t))
 else (V75.b0 B R u s n o p r f g i j l m q a c d t))
 else (Ret B t (R (.bool false)))
noncomputable def V75.cfg (B : Nat) : Cfg := ⟨Tryz.prog,⟨96,B⟩,[],hasN [115,116],hasN [],look []⟩
noncomputable def V75.code : Code := (Tryz.f75.body).getD .skip
noncomputable def V75.cuts (B : Nat) (R : Value → World → Prop) : Nat → Cut := nthC [⟨[(7,.one (.int .i64))],[(5,105,[.int .i64,.int .i64,.int .i64]),(4,63,[.int .i64,.int .i64,.int .i64,.slice]),(3,24,[.slice])],fun fs vs bs w => V75.b0 B R (iV (nthV vs 0)) (nthB bs 0).blk (iV (nthV (nthB bs 0).cells 0)) (iV (nthV (nthB bs 0).cells 1)) (iV (nthV (nthB bs 0).cells 2)) (nthB bs 1).blk (iV (nthV (nthB bs 1).cells 0)) (iV (nthV (nthB bs 1).cells 1)) (iV (nthV (nthB bs 1).cells 2)) (slA (nthV (nthB bs 1).cells 3)) (slL (nthV (nthB bs 1).cells 3)) (slC (nthV (nthB bs 1).cells 3)) (nthB bs 2).blk (slA (nthV (nthB bs 2).cells 0)) (slL (nthV (nthB bs 2).cells 0)) (slC (nthV (nthB bs 2).cells 0)) w⟩]
noncomputable def V75.h : H := .s (.z) (.s (.z) (.cut 0 (.s (.z) (.c (.s (.z) (.z)) (.z))) (.s (.s (.z) (.b (.s (.z) (.c (.s (.z) (.z)) (.s (.z) (.c (.s (.z) (.z)) (.s (.z) (.c (.s (.z) (.z)) (.s (.z) (.c (.s (.z) (.z)) (.s (.z) (.c (.s (.z) (.z)) (.s (.z) (.c (.s (.z) (.z)) (.s (.z) (.c (.s (.z) (.z)) (.z))))))))))))))))) (.s (.z) (.z)))))
theorem V75.vc_eq (B : Nat) (R : Value → World → Prop) (a : Option Addr) (c d : Nat) (f g i : Int) (j : Option Addr) (l m : Nat) (n o p : Int) (w : World) : wpf (V75.cfg B) (V75.cuts B R) V75.code V75.h [] (postOf Tryz.prog B (Tryz.f75.results.toList) R) (argE 0 [.agg ⟨[.slice a c d]⟩,.agg ⟨[.int .i64 f,.int .i64 g,.int .i64 i,.slice j l m]⟩,.agg ⟨[.int .i64 n,.int .i64 o,.int .i64 p]⟩]) [] w = V75.vc B R a c d f g i j l m n o p w := by kernel_rfl
theorem V75.obl (B : Nat) (R : Value → World → Prop) : oblP (V75.cfg B) (V75.cuts B R) V75.code V75.h [] (postOf Tryz.prog B (Tryz.f75.results.toList) R) := by
 have e : oblP (V75.cfg B) (V75.cuts B R) V75.code V75.h [] (postOf Tryz.prog B (Tryz.f75.results.toList) R) = (True ∧ (True ∧ ((True ∧ ((True ∧ True) ∧ True)) ∧ (∀ (a : Int) (c : Nat) (d f g : Int) (i : Nat) (j l m : Int) (n : Option Addr) (o p q : Nat) (r : Option Addr) (s t : Nat) (w : World),V75.b0 B R a c d f g i j l m n o p q r s t w → V75.b0 B R a c d f g i j l m n o p q r s t w) ∧ ((True ∧ (True ∧ ((True ∧ True) ∧ (True ∧ ((True ∧ True) ∧ (True ∧ ((True ∧ True) ∧ (True ∧ ((True ∧ True) ∧ (True ∧ ((True ∧ True) ∧ (True ∧ ((True ∧ True) ∧ (True ∧ ((True ∧ True) ∧ True))))))))))))))) ∧ (True ∧ True))))) := by kernel_rfl
 exact e.mpr (⟨trivial,⟨trivial,⟨⟨trivial,⟨⟨trivial,trivial⟩,trivial⟩⟩,fun a c d f g i j l m n o p q r s t w h => h,⟨⟨trivial,⟨trivial,⟨⟨trivial,trivial⟩,⟨trivial,⟨⟨trivial,trivial⟩,⟨trivial,⟨⟨trivial,trivial⟩,⟨trivial,⟨⟨trivial,trivial⟩,⟨trivial,⟨⟨trivial,trivial⟩,⟨trivial,⟨⟨trivial,trivial⟩,⟨trivial,⟨⟨trivial,trivial⟩,trivial⟩⟩⟩⟩⟩⟩⟩⟩⟩⟩⟩⟩⟩⟩⟩,⟨trivial,trivial⟩⟩⟩⟩⟩)
theorem V75.cfgOk (B : Nat) : CfgOk (V75.cfg B) := cfgOk_of (by kernel_rfl) (by kernel_rfl) extNil
theorem V75.sound {a : Option Addr} {d f : Nat} {g i j : Int} {l : Option Addr} {m n : Nat} {o p q : Int} {w : World} {R : Value → World → Prop} (h : V75.vc w.heap.size R a d f g i j l m n o p q w) : Calls Tryz.prog 75 ⟨[.agg ⟨[.slice a d f]⟩,.agg ⟨[.int .i64 g,.int .i64 i,.int .i64 j,.slice l m n]⟩,.agg ⟨[.int .i64 o,.int .i64 p,.int .i64 q]⟩]⟩ w fun e w' => ∃ v,e = .returned v ∧ R v w' :=
 calls_wpfP (c := V75.cfg w.heap.size) (fn := Tryz.f75) (x := V75.code) (V75.cuts w.heap.size R) V75.h (V75.cfgOk _) mixed Tryz.func75 (by kernel_rfl) (by kernel_rfl) (by kernel_rfl) rfl (V75.obl _ _) ((V75.vc_eq _ _ a d f g i j l m n o p q _).symm ▸ h)
def V76.b6 (B : Nat) (R : Value → World → Prop) (a : Option Addr → Nat → Nat → Bool → Nat → Int → Int → Int → Option Addr → Nat → Nat → Nat → Option Addr → Nat → Nat → World → Prop) (c : Option Addr → Nat → Nat → Bool → Int → Nat → Int → Int → Int → Option Addr → Nat → Nat → Nat → Option Addr → Nat → Nat → World → Prop) (d : Option Addr → Nat → Nat → Bool → Int → Int → Option Addr → Nat → Nat → Int → Nat → Int → Int → Int → Option Addr → Nat → Nat → Nat → Option Addr → Nat → Nat → World → Prop) (f : Option Addr) (g i : Nat) (j : Bool) (l m : Int) (n : Option Addr) (o p : Nat) (q r : Int) (s : Nat) (t x y : Int) (z : Option Addr) (A C D : Nat) (E : Option Addr) (F G : Nat) (w : World) : Prop :=
 ∃ I : Addr,f = some I ∧ (0 : Int) ≤ r ∧ r < (g : Int) ∧
 ∃ J : Int,w.cell? (I.add r.toNat) = some (.int .i64 J) ∧
 if (decide (J < 0)) = true
 then (∃ L : Addr,f = some L ∧ (0 : Int) ≤ r ∧ r < (g : Int) ∧
 (∃ u,w.cell? ((L.add r.toNat).add 0) = some u) ∧ w.frozen? ((L.add r.toNat).add 0) = false ∧
 let M := w.setCell ((L.add r.toNat).add 0) (.int .i64 m);
 d f g i true l m n o p (IntKind.wrap .i64 (q + 1)) s t x y z A C D E F G M)
 else (d f g i j l m n o p (IntKind.wrap .i64 (q + 1)) s t x y z A C D E F G w)
def V76.l5 (B : Nat) (R : Value → World → Prop) (a : Option Addr → Nat → Nat → Bool → Nat → Int → Int → Int → Option Addr → Nat → Nat → Nat → Option Addr → Nat → Nat → World → Prop) (c : Option Addr → Nat → Nat → Bool → Int → Nat → Int → Int → Int → Option Addr → Nat → Nat → Nat → Option Addr → Nat → Nat → World → Prop) : Nat → Option Addr → Nat → Nat → Bool → Int → Int → Option Addr → Nat → Nat → Int → Nat → Int → Int → Int → Option Addr → Nat → Nat → Nat → Option Addr → Nat → Nat → World → Prop
 | 0 => fun _ _ _ _ _ _ _ _ _ _ _ _ _ _ _ _ _ _ _ _ _ _ => False
 | k + 1 => fun d f g i j l m n o p q r s t u x y z A C D w =>
 if (decide (p < (n : Int))) = true
 then (∃ E : Addr,m = some E ∧ (0 : Int) ≤ p ∧ p < (n : Int) ∧
 ∃ F : Int,w.cell? (E.add p.toNat) = some (.int .i64 F) ∧
 if (decide (F ≥ (f : Int))) = false
 then (∃ G : Addr,d = some G ∧ (0 : Int) ≤ F ∧ F < (f : Int) ∧
 ∃ I : Int,w.cell? (G.add F.toNat) = some (.int .i64 I) ∧
 if (decide (I ≥ 0)) = true
 then (∃ J : Addr,d = some J ∧ (0 : Int) ≤ F ∧ F < (f : Int) ∧
 ∃ L : Int,w.cell? (J.add F.toNat) = some (.int .i64 L) ∧
 if (L != l) = true
 then (Ret B w (R (.tuple ⟨[.slice none 0 0,.int .i64 j]⟩)))
 else (V76.b6 B R a c (V76.l5 B R a c k) d f g i j l m n o p F q r s t u x y z A C D w))
 else (V76.b6 B R a c (V76.l5 B R a c k) d f g i j l m n o p F q r s t u x y z A C D w))
 else (Ret B w (R (.tuple ⟨[.slice none 0 0,.int .i64 j]⟩))))
 else (c d f g i (IntKind.wrap .i64 (j + 1)) q r s t u x y z A C D w)
def V76.b4 (B : Nat) (R : Value → World → Prop) (a : Option Addr → Nat → Nat → Bool → Nat → Int → Int → Int → Option Addr → Nat → Nat → Nat → Option Addr → Nat → Nat → World → Prop) (c : Option Addr → Nat → Nat → Bool → Int → Nat → Int → Int → Int → Option Addr → Nat → Nat → Nat → Option Addr → Nat → Nat → World → Prop) (d : Option Addr) (f g : Nat) (i : Bool) (j l : Int) (m : Option Addr) (n o p : Nat) (q r s : Int) (t : Option Addr) (u x y : Nat) (z : Option Addr) (A C : Nat) (w : World) : Prop :=
 ∃ D,V76.l5 B R a c D d f g i j l m n o 0 p q r s t u x y z A C w
def V76.b3 (B : Nat) (R : Value → World → Prop) (a : Option Addr → Nat → Nat → Bool → Nat → Int → Int → Int → Option Addr → Nat → Nat → Nat → Option Addr → Nat → Nat → World → Prop) (c : Option Addr → Nat → Nat → Bool → Int → Nat → Int → Int → Int → Option Addr → Nat → Nat → Nat → Option Addr → Nat → Nat → World → Prop) (d : Option Addr) (f g : Nat) (i : Bool) (j l : Int) (m : Option Addr) (n o : Nat) (p : Int) (q : Bool) (r : Nat) (s t u : Int) (x : Nat) (y z A : Int) (C : Option Addr) (D E F : Nat) (G : Option Addr) (I J : Nat) (w : World) : Prop :=
 if q = true
 then (V76.b4 B R a c d f g i j l m n o x y z A C D E F G I J w)
 else (if (p == 15) = true
 then (Expo B w [r,x,F] fun L => 
 Hide [r,x,F] (L.alloc (.cells ⟨[.int .i64 t]⟩ 3)) fun M => 
 RunK Tryz.prog (Builtin.append_ #[87,87] 87 ⟨[.slice m n o,.slice (some ⟨L.heap.size,0,none⟩) 1 1]⟩) B M [r,x,F] fun v N => 
 ∃ (O : Option Addr) (P Q : Nat),v = .slice O P Q ∧
 V76.b4 B R a c d f g i j l O P Q x y z A C D E F G I J N)
 else (if (p == 16) = true
 then (Expo B w [r,x,F] fun L => 
 Hide [r,x,F] (L.alloc (.cells ⟨[.int .i64 t,.int .i64 (IntKind.wrap .i64 (j + 1))]⟩ 3)) fun M => 
 RunK Tryz.prog (Builtin.append_ #[87,87] 87 ⟨[.slice m n o,.slice (some ⟨L.heap.size,0,none⟩) 2 2]⟩) B M [r,x,F] fun v N => 
 ∃ (S : Option Addr) (T U : Nat),v = .slice S T U ∧
 V76.b4 B R a c d f g i j l S T U x y z A C D E F G I J N)
 else (Expo B w [r,x,F] fun L => 
 Hide [r,x,F] (L.alloc (.cells ⟨[.int .i64 (IntKind.wrap .i64 (j + 1))]⟩ 3)) fun M => 
 RunK Tryz.prog (Builtin.append_ #[87,87] 87 ⟨[.slice m n o,.slice (some ⟨L.heap.size,0,none⟩) 1 1]⟩) B M [r,x,F] fun v N => 
 ∃ (W : Option Addr) (X Y : Nat),v = .slice W X Y ∧
 V76.b4 B R a c d f g i j l W X Y x y z A C D E F G I J N)))
def V76.l2 (B : Nat) (R : Value → World → Prop) (a : Option Addr → Nat → Nat → Bool → Nat → Int → Int → Int → Option Addr → Nat → Nat → Nat → Option Addr → Nat → Nat → World → Prop) : Nat → Option Addr → Nat → Nat → Bool → Int → Nat → Int → Int → Int → Option Addr → Nat → Nat → Nat → Option Addr → Nat → Nat → World → Prop
 | 0 => fun _ _ _ _ _ _ _ _ _ _ _ _ _ _ _ _ _ => False
 | k + 1 => fun c d f g i j l m n o p q r s t u w =>
 if (decide (i < (d : Int))) = true
 then (∃ x : Addr,c = some x ∧ (0 : Int) ≤ i ∧ i < (d : Int) ∧
 ∃ y : Int,w.cell? (x.add i.toNat) = some (.int .i64 y) ∧
 if (decide (y < 0)) = true
 then ((V76.l2 B R a k) c d f g (IntKind.wrap .i64 (i + 1)) j l m n o p q r s t u w)
 else (∃ z : Addr,o = some z ∧ (0 : Int) ≤ i ∧ i < (p : Int) ∧
 ∃ A : Int,w.cell? ((z.add (i.toNat * 3)).add 0) = some (.int .i64 A) ∧
 ∃ C : Int,w.cell? ((z.add (i.toNat * 3)).add 1) = some (.int .i64 C) ∧
 ∃ D : Int,w.cell? ((z.add (i.toNat * 3)).add 2) = some (.int .i64 D) ∧
 ∀ E : Nat,w.heap.size ≤ E →
 ∃ F : Addr,c = some F ∧ (0 : Int) ≤ i ∧ i < (d : Int) ∧
 ∃ G : Int,w.cell? (F.add i.toNat) = some (.int .i64 G) ∧
 CallK Tryz.prog 117 [.agg ⟨[.slice s t u]⟩,.agg ⟨[.int .i64 A,.int .i64 C,.int .i64 D]⟩] B w [E,j,r] fun v I => 
 ∃ J : Int,v = .int .i64 J ∧ I.cell? (F.add i.toNat) = some (.int .i64 G) ∧
 if (decide (IntKind.wrap .i64 (G - J) < 0)) = true
 then (Ret B I (R (.tuple ⟨[.slice none 0 0,.int .i64 i]⟩)))
 else (CallK Tryz.prog 118 [.agg ⟨[.int .i64 A,.int .i64 C,.int .i64 D]⟩] B I [E,j,r] fun L M => 
 ∃ N : Int,L = .int .i64 N ∧
 if (decide (IntKind.wrap .i64 (IntKind.wrap .i64 (G - J) + N) > 8)) = true
 then (Ret B M (R (.tuple ⟨[.slice none 0 0,.int .i64 i]⟩)))
 else (if (A == 18) = true
 then (V76.b3 B R a (V76.l2 B R a k) c d f g i (IntKind.wrap .i64 (IntKind.wrap .i64 (G - J) + N)) none 0 0 A (A == 18) E A C D j l m n o p q r s t u M)
 else (V76.b3 B R a (V76.l2 B R a k) c d f g i (IntKind.wrap .i64 (IntKind.wrap .i64 (G - J) + N)) none 0 0 A (A == 20) E A C D j l m n o p q r s t u M)))))
 else (a c d f g j l m n o p q r s t u w)
def V76.l1 (B : Nat) (R : Value → World → Prop) : Nat → Option Addr → Nat → Nat → Bool → Nat → Int → Int → Int → Option Addr → Nat → Nat → Nat → Option Addr → Nat → Nat → World → Prop
 | 0 => fun _ _ _ _ _ _ _ _ _ _ _ _ _ _ _ _ => False
 | k + 1 => fun a c d f g i j l m n o p q r s w =>
 if f = true
 then (∃ t,V76.l2 B R (V76.l1 B R k) t a c d false 0 g i j l m n o p q r s w)
 else (Ret B w (R (.tuple ⟨[.slice a c d,.int .i64 (-1)]⟩)))
def V76.l0 (B : Nat) (R : Value → World → Prop) : Nat → Option Addr → Nat → Nat → Int → Nat → Int → Int → Int → Option Addr → Nat → Nat → Nat → Option Addr → Nat → Nat → World → Prop
 | 0 => fun _ _ _ _ _ _ _ _ _ _ _ _ _ _ _ _ => False
 | k + 1 => fun a c d f g i j l m n o p q r s w =>
 if (decide (f < (c : Int))) = true
 then (∃ t : Addr,a = some t ∧ (0 : Int) ≤ f ∧ f < (c : Int) ∧
 (∃ u,w.cell? ((t.add f.toNat).add 0) = some u) ∧ w.frozen? ((t.add f.toNat).add 0) = false ∧
 let x := w.setCell ((t.add f.toNat).add 0) (.int .i64 (-1));
 (V76.l0 B R k) a c d (IntKind.wrap .i64 (f + 1)) g i j l m n o p q r s x)
 else (∃ y,V76.l1 B R y a c d true g i j l m n o p q r s w)
def V76.vc (B : Nat) (R : Value → World → Prop) (a : Option Addr) (c d : Nat) (f g i : Int) (j : Option Addr) (l m : Nat) (w : World) : Prop :=
 ∀ n : Nat,w.heap.size ≤ n →
 ∀ o : Nat,w.heap.size ≤ o →
 RunK Tryz.prog (Instr.makeSlice 87 (.int .i64 (l : Int)) (.int .i64 (l : Int))) B w [o,n] fun v p => 
 ∃ (q : Option Addr) (r s : Nat),v = .slice q r s ∧
 ∃ t,V76.l0 B R t q r s 1 o f g i j l m n a c d p
noncomputable def V76.cfg (B : Nat) : Cfg := ⟨Tryz.prog,⟨129,B⟩,[],hasN [117,118],hasN [],look []⟩
noncomputable def V76.code : Code := (Tryz.f76.body).getD .skip
noncomputable def V76.cuts (B : Nat) (R : Value → World → Prop) : Nat → Cut := nthC [⟨[(6,.one (.slice)),(7,.one (.int .i64))],[(3,63,[.int .i64,.int .i64,.int .i64,.slice]),(2,24,[.slice])],fun fs vs bs w => V76.l0 B R (nthN fs 0) (slA (nthV vs 0)) (slL (nthV vs 0)) (slC (nthV vs 0)) (iV (nthV vs 1)) (nthB bs 0).blk (iV (nthV (nthB bs 0).cells 0)) (iV (nthV (nthB bs 0).cells 1)) (iV (nthV (nthB bs 0).cells 2)) (slA (nthV (nthB bs 0).cells 3)) (slL (nthV (nthB bs 0).cells 3)) (slC (nthV (nthB bs 0).cells 3)) (nthB bs 1).blk (slA (nthV (nthB bs 1).cells 0)) (slL (nthV (nthB bs 1).cells 0)) (slC (nthV (nthB bs 1).cells 0)) w⟩,
 ⟨[(6,.one (.slice)),(8,.one (.bool))],[(3,63,[.int .i64,.int .i64,.int .i64,.slice]),(2,24,[.slice])],fun fs vs bs w => V76.l1 B R (nthN fs 0) (slA (nthV vs 0)) (slL (nthV vs 0)) (slC (nthV vs 0)) (bV (nthV vs 1)) (nthB bs 0).blk (iV (nthV (nthB bs 0).cells 0)) (iV (nthV (nthB bs 0).cells 1)) (iV (nthV (nthB bs 0).cells 2)) (slA (nthV (nthB bs 0).cells 3)) (slL (nthV (nthB bs 0).cells 3)) (slC (nthV (nthB bs 0).cells 3)) (nthB bs 1).blk (slA (nthV (nthB bs 1).cells 0)) (slL (nthV (nthB bs 1).cells 0)) (slC (nthV (nthB bs 1).cells 0)) w⟩,
 ⟨[(6,.one (.slice)),(8,.one (.bool)),(9,.one (.int .i64))],[(3,63,[.int .i64,.int .i64,.int .i64,.slice]),(2,24,[.slice])],fun fs vs bs w => V76.l2 B R (V76.l1 B R (nthN fs 1)) (nthN fs 0) (slA (nthV vs 0)) (slL (nthV vs 0)) (slC (nthV vs 0)) (bV (nthV vs 1)) (iV (nthV vs 2)) (nthB bs 0).blk (iV (nthV (nthB bs 0).cells 0)) (iV (nthV (nthB bs 0).cells 1)) (iV (nthV (nthB bs 0).cells 2)) (slA (nthV (nthB bs 0).cells 3)) (slL (nthV (nthB bs 0).cells 3)) (slC (nthV (nthB bs 0).cells 3)) (nthB bs 1).blk (slA (nthV (nthB bs 1).cells 0)) (slL (nthV (nthB bs 1).cells 0)) (slC (nthV (nthB bs 1).cells 0)) w⟩,
 ⟨[(6,.one (.slice)),(8,.one (.bool)),(9,.one (.int .i64)),(11,.one (.int .i64)),(12,.one (.slice)),(64,.one (.int .i64)),(70,.one (.bool))],[(10,105,[.int .i64,.int .i64,.int .i64]),(3,63,[.int .i64,.int .i64,.int .i64,.slice]),(2,24,[.slice])],fun fs vs bs w => V76.b3 B R (V76.l1 B R (nthN fs 1)) (V76.l2 B R (V76.l1 B R (nthN fs 1)) (nthN fs 0)) (slA (nthV vs 0)) (slL (nthV vs 0)) (slC (nthV vs 0)) (bV (nthV vs 1)) (iV (nthV vs 2)) (iV (nthV vs 3)) (slA (nthV vs 4)) (slL (nthV vs 4)) (slC (nthV vs 4)) (iV (nthV vs 5)) (bV (nthV vs 6)) (nthB bs 0).blk (iV (nthV (nthB bs 0).cells 0)) (iV (nthV (nthB bs 0).cells 1)) (iV (nthV (nthB bs 0).cells 2)) (nthB bs 1).blk (iV (nthV (nthB bs 1).cells 0)) (iV (nthV (nthB bs 1).cells 1)) (iV (nthV (nthB bs 1).cells 2)) (slA (nthV (nthB bs 1).cells 3)) (slL (nthV (nthB bs 1).cells 3)) (slC (nthV (nthB bs 1).cells 3)) (nthB bs 2).blk (slA (nthV (nthB bs 2).cells 0)) (slL (nthV (nthB bs 2).cells 0)) (slC (nthV (nthB bs 2).cells 0)) w⟩,
 ⟨[(6,.one (.slice)),(8,.one (.bool)),(9,.one (.int .i64)),(11,.one (.int .i64)),(12,.one (.slice))],[(3,63,[.int .i64,.int .i64,.int .i64,.slice]),(2,24,[.slice])],fun fs vs bs w => V76.b4 B R (V76.l1 B R (nthN fs 1)) (V76.l2 B R (V76.l1 B R (nthN fs 1)) (nthN fs 0)) (slA (nthV vs 0)) (slL (nthV vs 0)) (slC (nthV vs 0)) (bV (nthV vs 1)) (iV (nthV vs 2)) (iV (nthV vs 3)) (slA (nthV vs 4)) (slL (nthV vs 4)) (slC (nthV vs 4)) (nthB bs 0).blk (iV (nthV (nthB bs 0).cells 0)) (iV (nthV (nthB bs 0).cells 1)) (iV (nthV (nthB bs 0).cells 2)) (slA (nthV (nthB bs 0).cells 3)) (slL (nthV (nthB bs 0).cells 3)) (slC (nthV (nthB bs 0).cells 3)) (nthB bs 1).blk (slA (nthV (nthB bs 1).cells 0)) (slL (nthV (nthB bs 1).cells 0)) (slC (nthV (nthB bs 1).cells 0)) w⟩,
 ⟨[(6,.one (.slice)),(8,.one (.bool)),(9,.one (.int .i64)),(11,.one (.int .i64)),(12,.one (.slice)),(13,.one (.int .i64))],[(3,63,[.int .i64,.int .i64,.int .i64,.slice]),(2,24,[.slice])],fun fs vs bs w => V76.l5 B R (V76.l1 B R (nthN fs 2)) (V76.l2 B R (V76.l1 B R (nthN fs 2)) (nthN fs 1)) (nthN fs 0) (slA (nthV vs 0)) (slL (nthV vs 0)) (slC (nthV vs 0)) (bV (nthV vs 1)) (iV (nthV vs 2)) (iV (nthV vs 3)) (slA (nthV vs 4)) (slL (nthV vs 4)) (slC (nthV vs 4)) (iV (nthV vs 5)) (nthB bs 0).blk (iV (nthV (nthB bs 0).cells 0)) (iV (nthV (nthB bs 0).cells 1)) (iV (nthV (nthB bs 0).cells 2)) (slA (nthV (nthB bs 0).cells 3)) (slL (nthV (nthB bs 0).cells 3)) (slC (nthV (nthB bs 0).cells 3)) (nthB bs 1).blk (slA (nthV (nthB bs 1).cells 0)) (slL (nthV (nthB bs 1).cells 0)) (slC (nthV (nthB bs 1).cells 0)) w⟩,
 ⟨[(6,.one (.slice)),(8,.one (.bool)),(9,.one (.int .i64)),(11,.one (.int .i64)),(12,.one (.slice)),(13,.one (.int .i64)),(14,.one (.int .i64))],[(3,63,[.int .i64,.int .i64,.int .i64,.slice]),(2,24,[.slice])],fun fs vs bs w => V76.b6 B R (V76.l1 B R (nthN fs 2)) (V76.l2 B R (V76.l1 B R (nthN fs 2)) (nthN fs 1)) (V76.l5 B R (V76.l1 B R (nthN fs 2)) (V76.l2 B R (V76.l1 B R (nthN fs 2)) (nthN fs 1)) (nthN fs 0)) (slA (nthV vs 0)) (slL (nthV vs 0)) (slC (nthV vs 0)) (bV (nthV vs 1)) (iV (nthV vs 2)) (iV (nthV vs 3)) (slA (nthV vs 4)) (slL (nthV vs 4)) (slC (nthV vs 4)) (iV (nthV vs 5)) (iV (nthV vs 6)) (nthB bs 0).blk (iV (nthV (nthB bs 0).cells 0)) (iV (nthV (nthB bs 0).cells 1)) (iV (nthV (nthB bs 0).cells 2)) (slA (nthV (nthB bs 0).cells 3)) (slL (nthV (nthB bs 0).cells 3)) (slC (nthV (nthB bs 0).cells 3)) (nthB bs 1).blk (slA (nthV (nthB bs 1).cells 0)) (slL (nthV (nthB bs 1).cells 0)) (slC (nthV (nthB bs 1).cells 0)) w⟩]
noncomputable def V76.h : H := .s (.z) (.s (.z) (.s (.s (.z) (.b (.l 0 (.s (.s (.z) (.c (.z) (.z))) (.s (.b (.z)) (.z)))))) (.s (.s (.z) (.b (.l 1 (.s (.s (.z) (.c (.z) (.z))) (.b (.s (.z) (.s (.z) (.b (.l 2 (.s (.s (.z) (.c (.z) (.z))) (.s (.b (.s (.s (.z) (.c (.z) (.z))) (.s (.z) (.s (.r [[0,1,2,3,4,5,6,7,8]]) (.s (.s (.z) (.c (.s (.z) (.z)) (.z))) (.s (.z) (.s (.s (.z) (.c (.s (.z) (.z)) (.z))) (.s (.z) (.cut 4 (.s (.z) (.b (.cut 3 (.s (.z) (.c (.z) (.z))) (.c (.z) (.s (.z) (.c (.z) (.s (.z) (.c (.z) (.z))))))))) (.s (.z) (.b (.l 5 (.s (.s (.z) (.c (.z) (.z))) (.s (.b (.s (.z) (.cut 6 (.s (.z) (.c (.s (.z) (.z)) (.z))) (.s (.z) (.c (.s (.z) (.z)) (.z)))))) (.z))))))))))))))) (.z)))))))))))) (.s (.z) (.z)))))
theorem V76.vc_eq (B : Nat) (R : Value → World → Prop) (a : Option Addr) (c d : Nat) (f g i : Int) (j : Option Addr) (l m : Nat) (w : World) : wpf (V76.cfg B) (V76.cuts B R) V76.code V76.h [] (postOf Tryz.prog B (Tryz.f76.results.toList) R) (argE 0 [.agg ⟨[.slice a c d]⟩,.agg ⟨[.int .i64 f,.int .i64 g,.int .i64 i,.slice j l m]⟩]) [] w = V76.vc B R a c d f g i j l m w := by kernel_rfl
theorem V76.obl (B : Nat) (R : Value → World → Prop) : oblP (V76.cfg B) (V76.cuts B R) V76.code V76.h [] (postOf Tryz.prog B (Tryz.f76.results.toList) R) := by
 have e : oblP (V76.cfg B) (V76.cuts B R) V76.code V76.h [] (postOf Tryz.prog B (Tryz.f76.results.toList) R) = (True ∧ (True ∧ ((True ∧ ((∀ (a : Option Addr) (c d : Nat) (f : Int) (g : Nat) (i j l : Int) (m : Option Addr) (n o p : Nat) (q : Option Addr) (r s : Nat) (w : World),¬ V76.l0 B R 0 a c d f g i j l m n o p q r s w) ∧ (∀ t,∀ (a : Option Addr) (c d : Nat) (f : Int) (g : Nat) (i j l : Int) (m : Option Addr) (n o p : Nat) (q : Option Addr) (r s : Nat) (w : World),V76.l0 B R (t + 1) a c d f g i j l m n o p q r s w → V76.l0 B R (t + 1) a c d f g i j l m n o p q r s w) ∧ ∀ t : Nat,((True ∧ (True ∧ True)) ∧ (True ∧ True)))) ∧ ((True ∧ ((∀ (a : Option Addr) (c d : Nat) (u : Bool) (g : Nat) (i j l : Int) (m : Option Addr) (n o p : Nat) (q : Option Addr) (r s : Nat) (w : World),¬ V76.l1 B R 0 a c d u g i j l m n o p q r s w) ∧ (∀ x,∀ (a : Option Addr) (c d : Nat) (u : Bool) (g : Nat) (i j l : Int) (m : Option Addr) (n o p : Nat) (q : Option Addr) (r s : Nat) (w : World),V76.l1 B R (x + 1) a c d u g i j l m n o p q r s w → V76.l1 B R (x + 1) a c d u g i j l m n o p q r s w) ∧ ∀ x : Nat,((True ∧ (True ∧ True)) ∧ (True ∧ (True ∧ ((∀ (a : Option Addr) (c d : Nat) (u : Bool) (y : Int) (g : Nat) (i j l : Int) (m : Option Addr) (n o p : Nat) (q : Option Addr) (r s : Nat) (w : World),¬ V76.l2 B R (V76.l1 B R x) 0 a c d u y g i j l m n o p q r s w) ∧ (∀ z,∀ (a : Option Addr) (c d : Nat) (u : Bool) (y : Int) (g : Nat) (i j l : Int) (m : Option Addr) (n o p : Nat) (q : Option Addr) (r s : Nat) (w : World),V76.l2 B R (V76.l1 B R x) (z + 1) a c d u y g i j l m n o p q r s w → V76.l2 B R (V76.l1 B R x) (z + 1) a c d u y g i j l m n o p q r s w) ∧ ∀ z : Nat,((True ∧ (True ∧ True)) ∧ (((True ∧ (True ∧ True)) ∧ (True ∧ ((true = true) ∧ ((True ∧ ((True ∧ True) ∧ True)) ∧ (True ∧ ((True ∧ ((True ∧ True) ∧ True)) ∧ (True ∧ ((True ∧ ((True ∧ (True ∧ True)) ∧ (∀ (a : Option Addr) (c d : Nat) (u : Bool) (y A : Int) (C : Option Addr) (D E : Nat) (F : Int) (G : Bool) (I : Nat) (J L M : Int) (g : Nat) (i j l : Int) (m : Option Addr) (n o p : Nat) (q : Option Addr) (r s : Nat) (w : World),V76.b3 B R (V76.l1 B R x) (V76.l2 B R (V76.l1 B R x) z) a c d u y A C D E F G I J L M g i j l m n o p q r s w → V76.b3 B R (V76.l1 B R x) (V76.l2 B R (V76.l1 B R x) z) a c d u y A C D E F G I J L M g i j l m n o p q r s w) ∧ (True ∧ (True ∧ (True ∧ (True ∧ (True ∧ True))))))) ∧ (∀ (a : Option Addr) (c d : Nat) (u : Bool) (y A : Int) (C : Option Addr) (D E g : Nat) (i j l : Int) (m : Option Addr) (n o p : Nat) (q : Option Addr) (r s : Nat) (w : World),V76.b4 B R (V76.l1 B R x) (V76.l2 B R (V76.l1 B R x) z) a c d u y A C D E g i j l m n o p q r s w → V76.b4 B R (V76.l1 B R x) (V76.l2 B R (V76.l1 B R x) z) a c d u y A C D E g i j l m n o p q r s w) ∧ (True ∧ ((∀ (a : Option Addr) (c d : Nat) (u : Bool) (y A : Int) (C : Option Addr) (D E : Nat) (N : Int) (g : Nat) (i j l : Int) (m : Option Addr) (n o p : Nat) (q : Option Addr) (r s : Nat) (w : World),¬ V76.l5 B R (V76.l1 B R x) (V76.l2 B R (V76.l1 B R x) z) 0 a c d u y A C D E N g i j l m n o p q r s w) ∧ (∀ O,∀ (a : Option Addr) (c d : Nat) (u : Bool) (y A : Int) (C : Option Addr) (D E : Nat) (N : Int) (g : Nat) (i j l : Int) (m : Option Addr) (n o p : Nat) (q : Option Addr) (r s : Nat) (w : World),V76.l5 B R (V76.l1 B R x) (V76.l2 B R (V76.l1 B R x) z) (O + 1) a c d u y A C D E N g i j l m n o p q r s w → V76.l5 B R (V76.l1 B R x) (V76.l2 B R (V76.l1 B R x) z) (O + 1) a c d u y A C D E N g i j l m n o p q r s w) ∧ ∀ O : Nat,((True ∧ (True ∧ True)) ∧ ((True ∧ ((True ∧ ((True ∧ True) ∧ True)) ∧ (∀ (a : Option Addr) (c d : Nat) (u : Bool) (y A : Int) (C : Option Addr) (D E : Nat) (N P : Int) (g : Nat) (i j l : Int) (m : Option Addr) (n o p : Nat) (q : Option Addr) (r s : Nat) (w : World),V76.b6 B R (V76.l1 B R x) (V76.l2 B R (V76.l1 B R x) z) (V76.l5 B R (V76.l1 B R x) (V76.l2 B R (V76.l1 B R x) z) O) a c d u y A C D E N P g i j l m n o p q r s w → V76.b6 B R (V76.l1 B R x) (V76.l2 B R (V76.l1 B R x) z) (V76.l5 B R (V76.l1 B R x) (V76.l2 B R (V76.l1 B R x) z) O) a c d u y A C D E N P g i j l m n o p q r s w) ∧ (True ∧ ((True ∧ True) ∧ True)))) ∧ True)))))))))))) ∧ True)))))))) ∧ (True ∧ True))))) := by kernel_rfl
 exact e.mpr (⟨trivial,⟨trivial,⟨⟨trivial,⟨fun a c d f g i j l m n o p q r s w h => h,fun _ a c d f g i j l m n o p q r s w h => h,fun t => ⟨⟨trivial,⟨trivial,trivial⟩⟩,⟨trivial,trivial⟩⟩⟩⟩,⟨⟨trivial,⟨fun a c d u g i j l m n o p q r s w h => h,fun _ a c d u g i j l m n o p q r s w h => h,fun x => ⟨⟨trivial,⟨trivial,trivial⟩⟩,⟨trivial,⟨trivial,⟨fun a c d u y g i j l m n o p q r s w h => h,fun _ a c d u y g i j l m n o p q r s w h => h,fun z => ⟨⟨trivial,⟨trivial,trivial⟩⟩,⟨⟨⟨trivial,⟨trivial,trivial⟩⟩,⟨trivial,⟨rfl,⟨⟨trivial,⟨⟨trivial,trivial⟩,trivial⟩⟩,⟨trivial,⟨⟨trivial,⟨⟨trivial,trivial⟩,trivial⟩⟩,⟨trivial,⟨⟨trivial,⟨⟨trivial,⟨trivial,trivial⟩⟩,fun a c d u y A C D E F G I J L M g i j l m n o p q r s w h => h,⟨trivial,⟨trivial,⟨trivial,⟨trivial,⟨trivial,trivial⟩⟩⟩⟩⟩⟩⟩,fun a c d u y A C D E g i j l m n o p q r s w h => h,⟨trivial,⟨fun a c d u y A C D E N g i j l m n o p q r s w h => h,fun _ a c d u y A C D E N g i j l m n o p q r s w h => h,fun O => ⟨⟨trivial,⟨trivial,trivial⟩⟩,⟨⟨trivial,⟨⟨trivial,⟨⟨trivial,trivial⟩,trivial⟩⟩,fun a c d u y A C D E N P g i j l m n o p q r s w h => h,⟨trivial,⟨⟨trivial,trivial⟩,trivial⟩⟩⟩⟩,trivial⟩⟩⟩⟩⟩⟩⟩⟩⟩⟩⟩⟩,trivial⟩⟩⟩⟩⟩⟩⟩⟩,⟨trivial,trivial⟩⟩⟩⟩⟩)
theorem V76.cfgOk (B : Nat) : CfgOk (V76.cfg B) := cfgOk_of (by kernel_rfl) (by kernel_rfl) extNil
theorem V76.sound {a : Option Addr} {d f : Nat} {g i j : Int} {l : Option Addr} {m n : Nat} {w : World} {R : Value → World → Prop} (h : V76.vc w.heap.size R a d f g i j l m n w) : Calls Tryz.prog 76 ⟨[.agg ⟨[.slice a d f]⟩,.agg ⟨[.int .i64 g,.int .i64 i,.int .i64 j,.slice l m n]⟩]⟩ w fun e w' => ∃ v,e = .returned v ∧ R v w' :=
 calls_wpfP (c := V76.cfg w.heap.size) (fn := Tryz.f76) (x := V76.code) (V76.cuts w.heap.size R) V76.h (V76.cfgOk _) mixed Tryz.func76 (by kernel_rfl) (by kernel_rfl) (by kernel_rfl) rfl (V76.obl _ _) ((V76.vc_eq _ _ a d f g i j l m n _).symm ▸ h)
def V116.vc (B : Nat) (R : Value → World → Prop) (a c : Int) (w : World) : Prop :=
 if (decide (a ≥ 0)) = true
 then (Ret B w (R (.bool (decide (a < c)))))
 else (Ret B w (R (.bool false)))
noncomputable def V116.cfg (B : Nat) : Cfg := ⟨Tryz.prog,⟨12,B⟩,[],hasN [],hasN [],look []⟩
noncomputable def V116.code : Code := (Tryz.f116.body).getD .skip
noncomputable def V116.cuts (B : Nat) (R : Value → World → Prop) : Nat → Cut := nthC []
noncomputable def V116.h : H := .s (.z) (.s (.z) (.z))
theorem V116.vc_eq (B : Nat) (R : Value → World → Prop) (a c : Int) (w : World) : wpf (V116.cfg B) (V116.cuts B R) V116.code V116.h [] (postOf Tryz.prog B (Tryz.f116.results.toList) R) (argE 0 [.int .i64 a,.int .i64 c]) [] w = V116.vc B R a c w := by kernel_rfl
theorem V116.obl (B : Nat) (R : Value → World → Prop) : oblP (V116.cfg B) (V116.cuts B R) V116.code V116.h [] (postOf Tryz.prog B (Tryz.f116.results.toList) R) := by
 have e : oblP (V116.cfg B) (V116.cuts B R) V116.code V116.h [] (postOf Tryz.prog B (Tryz.f116.results.toList) R) = (True ∧ (True ∧ True)) := by kernel_rfl
 exact e.mpr (⟨trivial,⟨trivial,trivial⟩⟩)
theorem V116.cfgOk (B : Nat) : CfgOk (V116.cfg B) := cfgOk_of (by kernel_rfl) (by kernel_rfl) extNil
theorem V116.sound {a d : Int} {w : World} {R : Value → World → Prop} (h : V116.vc w.heap.size R a d w) : Calls Tryz.prog 116 ⟨[.int .i64 a,.int .i64 d]⟩ w fun e w' => ∃ v,e = .returned v ∧ R v w' :=
 calls_wpfP (c := V116.cfg w.heap.size) (fn := Tryz.f116) (x := V116.code) (V116.cuts w.heap.size R) V116.h (V116.cfgOk _) mixed Tryz.func116 (by kernel_rfl) (by kernel_rfl) (by kernel_rfl) rfl (V116.obl _ _) ((V116.vc_eq _ _ a d _).symm ▸ h)
def V158.vc (B : Nat) (R : Value → World → Prop) (a c : Int) (w : World) : Prop :=
 if (decide (a ≥ 0)) = true
 then (Ret B w (R (.bool (decide (a < c)))))
 else (Ret B w (R (.bool false)))
noncomputable def V158.cfg (B : Nat) : Cfg := ⟨Tryz.prog,⟨12,B⟩,[],hasN [],hasN [],look []⟩
noncomputable def V158.code : Code := (Tryz.f158.body).getD .skip
noncomputable def V158.cuts (B : Nat) (R : Value → World → Prop) : Nat → Cut := nthC []
noncomputable def V158.h : H := .s (.z) (.s (.z) (.z))
theorem V158.vc_eq (B : Nat) (R : Value → World → Prop) (a c : Int) (w : World) : wpf (V158.cfg B) (V158.cuts B R) V158.code V158.h [] (postOf Tryz.prog B (Tryz.f158.results.toList) R) (argE 0 [.int .i64 a,.int .i64 c]) [] w = V158.vc B R a c w := by kernel_rfl
theorem V158.obl (B : Nat) (R : Value → World → Prop) : oblP (V158.cfg B) (V158.cuts B R) V158.code V158.h [] (postOf Tryz.prog B (Tryz.f158.results.toList) R) := by
 have e : oblP (V158.cfg B) (V158.cuts B R) V158.code V158.h [] (postOf Tryz.prog B (Tryz.f158.results.toList) R) = (True ∧ (True ∧ True)) := by kernel_rfl
 exact e.mpr (⟨trivial,⟨trivial,trivial⟩⟩)
theorem V158.cfgOk (B : Nat) : CfgOk (V158.cfg B) := cfgOk_of (by kernel_rfl) (by kernel_rfl) extNil
theorem V158.sound {a d : Int} {w : World} {R : Value → World → Prop} (h : V158.vc w.heap.size R a d w) : Calls Tryz.prog 158 ⟨[.int .i64 a,.int .i64 d]⟩ w fun e w' => ∃ v,e = .returned v ∧ R v w' :=
 calls_wpfP (c := V158.cfg w.heap.size) (fn := Tryz.f158) (x := V158.code) (V158.cuts w.heap.size R) V158.h (V158.cfgOk _) mixed Tryz.func158 (by kernel_rfl) (by kernel_rfl) (by kernel_rfl) rfl (V158.obl _ _) ((V158.vc_eq _ _ a d _).symm ▸ h)
def V160.b0 (B : Nat) (R : Value → World → Prop) (a c : Int) (d : Bool) (f : Nat) (g i j : Int) (w : World) : Prop :=
 if d = true
 then (Ret B w (R (.slice none 0 0)))
 else (if (c == 15) = true
 then (Expo B w [f] fun l => 
 Hide [f] (l.alloc (.cells ⟨[.int .i64 i]⟩ 3)) fun m => 
 Ret B m (R (.slice (some ⟨l.heap.size,0,none⟩) 1 1)))
 else (if (c == 16) = true
 then (Expo B w [f] fun l => 
 Hide [f] (l.alloc (.cells ⟨[.int .i64 i,.int .i64 (IntKind.wrap .i64 (a + 1))]⟩ 3)) fun m => 
 Ret B m (R (.slice (some ⟨l.heap.size,0,none⟩) 2 2)))
 else (Expo B w [f] fun l => 
 Hide [f] (l.alloc (.cells ⟨[.int .i64 (IntKind.wrap .i64 (a + 1))]⟩ 3)) fun m => 
 Ret B m (R (.slice (some ⟨l.heap.size,0,none⟩) 1 1)))))
def V160.vc (B : Nat) (R : Value → World → Prop) (a c d f : Int) (w : World) : Prop :=
 ∀ g : Nat,w.heap.size ≤ g →
 if (c == 18) = true
 then (V160.b0 B R a c (c == 18) g c d f w)
 else (V160.b0 B R a c (c == 20) g c d f w)
noncomputable def V160.cfg (B : Nat) : Cfg := ⟨Tryz.prog,⟨25,B⟩,[],hasN [],hasN [],look []⟩
noncomputable def V160.code : Code := (Tryz.f160.body).getD .skip
noncomputable def V160.cuts (B : Nat) (R : Value → World → Prop) : Nat → Cut := nthC [⟨[(0,.one (.int .i64)),(6,.one (.int .i64)),(7,.one (.bool))],[(3,105,[.int .i64,.int .i64,.int .i64])],fun fs vs bs w => V160.b0 B R (iV (nthV vs 0)) (iV (nthV vs 1)) (bV (nthV vs 2)) (nthB bs 0).blk (iV (nthV (nthB bs 0).cells 0)) (iV (nthV (nthB bs 0).cells 1)) (iV (nthV (nthB bs 0).cells 2)) w⟩]
noncomputable def V160.h : H := .s (.z) (.s (.s (.z) (.b (.cut 0 (.s (.z) (.c (.z) (.z))) (.c (.s (.z) (.z)) (.s (.z) (.c (.s (.z) (.z)) (.s (.z) (.c (.s (.z) (.z)) (.z))))))))) (.s (.z) (.z)))
theorem V160.vc_eq (B : Nat) (R : Value → World → Prop) (a c d f : Int) (w : World) : wpf (V160.cfg B) (V160.cuts B R) V160.code V160.h [] (postOf Tryz.prog B (Tryz.f160.results.toList) R) (argE 0 [.int .i64 a,.agg ⟨[.int .i64 c,.int .i64 d,.int .i64 f]⟩]) [] w = V160.vc B R a c d f w := by kernel_rfl
theorem V160.obl (B : Nat) (R : Value → World → Prop) : oblP (V160.cfg B) (V160.cuts B R) V160.code V160.h [] (postOf Tryz.prog B (Tryz.f160.results.toList) R) := by
 have e : oblP (V160.cfg B) (V160.cuts B R) V160.code V160.h [] (postOf Tryz.prog B (Tryz.f160.results.toList) R) = (True ∧ ((True ∧ ((True ∧ (True ∧ True)) ∧ (∀ (a c : Int) (d : Bool) (f : Nat) (g i j : Int) (w : World),V160.b0 B R a c d f g i j w → V160.b0 B R a c d f g i j w) ∧ ((True ∧ True) ∧ (True ∧ ((True ∧ True) ∧ (True ∧ ((True ∧ True) ∧ True))))))) ∧ (True ∧ True))) := by kernel_rfl
 exact e.mpr (⟨trivial,⟨⟨trivial,⟨⟨trivial,⟨trivial,trivial⟩⟩,fun a c d f g i j w h => h,⟨⟨trivial,trivial⟩,⟨trivial,⟨⟨trivial,trivial⟩,⟨trivial,⟨⟨trivial,trivial⟩,trivial⟩⟩⟩⟩⟩⟩⟩,⟨trivial,trivial⟩⟩⟩)
theorem V160.cfgOk (B : Nat) : CfgOk (V160.cfg B) := cfgOk_of (by kernel_rfl) (by kernel_rfl) extNil
theorem V160.sound {a d f g : Int} {w : World} {R : Value → World → Prop} (h : V160.vc w.heap.size R a d f g w) : Calls Tryz.prog 160 ⟨[.int .i64 a,.agg ⟨[.int .i64 d,.int .i64 f,.int .i64 g]⟩]⟩ w fun e w' => ∃ v,e = .returned v ∧ R v w' :=
 calls_wpfP (c := V160.cfg w.heap.size) (fn := Tryz.f160) (x := V160.code) (V160.cuts w.heap.size R) V160.h (V160.cfgOk _) mixed Tryz.func160 (by kernel_rfl) (by kernel_rfl) (by kernel_rfl) rfl (V160.obl _ _) ((V160.vc_eq _ _ a d f g _).symm ▸ h)
end Go.Proofs.YtidcpndlloppdaaGreat
