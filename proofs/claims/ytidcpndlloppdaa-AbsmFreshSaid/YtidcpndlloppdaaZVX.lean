import Derived.Test.YtidcpndlloppdaaZVA
/-
 What the engine makes of the loaded functions 45, 30, 33, 73, 49, 52, 53, 54, 79, 97, 77: conditions under which a call returns as told, and proofs of that.
 Conditions: none. Printed by a program of this project.
-/
set_option linter.unusedVariables false
set_option maxRecDepth 100000
namespace Go.Proofs.Ytidcpndlloppdaa
def V45.l2 (B : Nat) (R : Value → World → Prop) (a : Option Addr → Nat → Nat → Int → Int → Nat → Option Addr → Nat → Nat → World → Prop) : Nat → Int → Option Addr → Nat → Nat → Int → Int → Option Addr → Nat → Nat → Int → Int → Nat → Int → Int → Int → Option Addr → Nat → Nat → Nat → Option Addr → Nat → Nat → World → Prop
 | 0 => fun _ _ _ _ _ _ _ _ _ _ _ _ _ _ _ _ _ _ _ _ _ _ _ => False
 | k + 1 => fun c d f g i j l m n o p q r s t u x y z A C D w =>
 if (decide (p < o)) = true
 then (∃ E : Addr, l = some E ∧ (0 : Int) ≤ p ∧ p < (m : Int) ∧
 ∃ F : Int, w.cell? ((E.add (p.toNat * 3)).add 0) = some (.int .i64 F) ∧
 ∃ G : Int, w.cell? ((E.add (p.toNat * 3)).add 1) = some (.int .i64 G) ∧
 ∃ I : Int, w.cell? ((E.add (p.toNat * 3)).add 2) = some (.int .i64 I) ∧
 ∀ J : Nat, w.heap.size ≤ J →
 CallK Try.prog 73 [.agg ⟨[.slice A C D]⟩, .agg ⟨[.int .i64 r, .int .i64 s, .int .i64 t, .slice u x y]⟩, .agg ⟨[.int .i64 F, .int .i64 G, .int .i64 I]⟩] B w [J, q, z] fun v L => 
 ∃ M : Bool, v = .bool M ∧
 if (!M) = true
 then (Ret B L (R (.tuple ⟨[.int .i64 6, .int .i64 c, .int .i64 p]⟩)))
 else ((V45.l2 B R a k) c d f g i j l m n o (IntKind.wrap .i64 (p + 1)) q r s t u x y z A C D L))
 else (a d f g i (IntKind.wrap .i64 (j + 1)) z A C D w)
def V45.l3 (B : Nat) (R : Value → World → Prop) : Nat → Option Addr → Nat → Nat → Int → Int → Nat → Option Addr → Nat → Nat → World → Prop
 | 0 => fun _ _ _ _ _ _ _ _ _ _ => False
 | k + 1 => fun a c d f g i j l m w =>
 if (decide (g < f)) = true
 then (∃ n : Addr, a = some n ∧ (0 : Int) ≤ g ∧ g < (c : Int) ∧
 ∃ o : Int, w.cell? ((n.add (g.toNat * 4)).add 0) = some (.int .i64 o) ∧
 ∃ p : Int, w.cell? ((n.add (g.toNat * 4)).add 1) = some (.int .i64 p) ∧
 ∃ q : Int, w.cell? ((n.add (g.toNat * 4)).add 2) = some (.int .i64 q) ∧
 ∃ (r : Option Addr) (s t : Nat), w.cell? ((n.add (g.toNat * 4)).add 3) = some (.slice r s t) ∧
 ∀ u : Nat, w.heap.size ≤ u →
 CallK Try.prog 49 [.agg ⟨[.slice j l m]⟩, .slice r s t] B w [u, i] fun v x => 
 ∃ (y : Option Addr) (z A : Nat) (C : Int) (D : Bool), v = .tuple ⟨[.slice y z A, .int .i64 C, .bool D]⟩ ∧
 if (!D) = true
 then (Ret B x (R (.tuple ⟨[.int .i64 9, .int .i64 g, .int .i64 C]⟩)))
 else ((V45.l3 B R k) a c d f (IntKind.wrap .i64 (g + 1)) i j l m x))
 else (Ret B w (R (.tuple ⟨[.int .i64 0, .int .i64 0, .int .i64 0]⟩)))
def V45.l1 (B : Nat) (R : Value → World → Prop) : Nat → Option Addr → Nat → Nat → Int → Int → Nat → Option Addr → Nat → Nat → World → Prop
 | 0 => fun _ _ _ _ _ _ _ _ _ _ => False
 | k + 1 => fun a c d f g i j l m w =>
 if (decide (g < f)) = true
 then (∃ n : Addr, a = some n ∧ (0 : Int) ≤ g ∧ g < (c : Int) ∧
 ∃ o : Int, w.cell? ((n.add (g.toNat * 4)).add 0) = some (.int .i64 o) ∧
 ∃ p : Int, w.cell? ((n.add (g.toNat * 4)).add 1) = some (.int .i64 p) ∧
 ∃ q : Int, w.cell? ((n.add (g.toNat * 4)).add 2) = some (.int .i64 q) ∧
 ∃ (r : Option Addr) (s t : Nat), w.cell? ((n.add (g.toNat * 4)).add 3) = some (.slice r s t) ∧
 ∀ u : Nat, w.heap.size ≤ u →
 ∃ x, V45.l2 B R (V45.l1 B R k) x g a c d f g r s t (s : Int) 0 u o p q r s t i j l m w)
 else (∃ x, V45.l3 B R x j l m (l : Int) 0 i j l m w)
def V45.l0 (B : Nat) (R : Value → World → Prop) : Nat → Option Addr → Nat → Nat → Int → Int → Nat → Option Addr → Nat → Nat → World → Prop
 | 0 => fun _ _ _ _ _ _ _ _ _ _ => False
 | k + 1 => fun a c d f g i j l m w =>
 if (decide (g < f)) = true
 then (∃ n : Addr, a = some n ∧ (0 : Int) ≤ g ∧ g < (c : Int) ∧
 ∃ o : Int, w.cell? ((n.add (g.toNat * 4)).add 0) = some (.int .i64 o) ∧
 ∃ p : Int, w.cell? ((n.add (g.toNat * 4)).add 1) = some (.int .i64 p) ∧
 ∃ q : Int, w.cell? ((n.add (g.toNat * 4)).add 2) = some (.int .i64 q) ∧
 ∃ (r : Option Addr) (s t : Nat), w.cell? ((n.add (g.toNat * 4)).add 3) = some (.slice r s t) ∧
 ∀ u : Nat, w.heap.size ≤ u →
 CallK Try.prog 72 [.agg ⟨[.int .i64 o, .int .i64 p, .int .i64 q, .slice r s t]⟩] B w [u, i] fun v x => 
 ∃ y : Bool, v = .bool y ∧
 if (!y) = true
 then (Ret B x (R (.tuple ⟨[.int .i64 1, .int .i64 g, .int .i64 0]⟩)))
 else ((V45.l0 B R k) a c d f (IntKind.wrap .i64 (g + 1)) i j l m x))
 else (∃ z, V45.l1 B R z j l m (l : Int) 0 i j l m w)
def V45.vc (B : Nat) (R : Value → World → Prop) (a : Option Addr) (c d : Nat) (w : World) : Prop :=
 ∀ f : Nat, w.heap.size ≤ f →
 if (decide ((c : Int) < 1)) = false
 then (if (decide ((c : Int) > 8)) = true
 then (Ret B w (R (.tuple ⟨[.int .i64 1, .int .i64 0, .int .i64 0]⟩)))
 else (∃ g, V45.l0 B R g a c d (c : Int) 0 f a c d w))
 else (Ret B w (R (.tuple ⟨[.int .i64 1, .int .i64 0, .int .i64 0]⟩)))
noncomputable def V45.cfg (B : Nat) : Cfg := ⟨Try.prog, ⟨85, B⟩, [], hasN [49, 72, 73], hasN [], look []⟩
noncomputable def V45.code : Code := (Try.f45.body).getD .skip
noncomputable def V45.cuts (B : Nat) (R : Value → World → Prop) : Nat → Cut := nthC [⟨[(27, .one (.slice)), (28, .one (.int .i64)), (29, .one (.int .i64))], [(1, 34, [.slice])], fun fs vs bs w => V45.l0 B R (nthN fs 0) (slA (nthV vs 0)) (slL (nthV vs 0)) (slC (nthV vs 0)) (iV (nthV vs 1)) (iV (nthV vs 2)) (nthB bs 0).blk (slA (nthV (nthB bs 0).cells 0)) (slL (nthV (nthB bs 0).cells 0)) (slC (nthV (nthB bs 0).cells 0)) w⟩,
 ⟨[(40, .one (.slice)), (41, .one (.int .i64)), (42, .one (.int .i64))], [(1, 34, [.slice])], fun fs vs bs w => V45.l1 B R (nthN fs 0) (slA (nthV vs 0)) (slL (nthV vs 0)) (slC (nthV vs 0)) (iV (nthV vs 1)) (iV (nthV vs 2)) (nthB bs 0).blk (slA (nthV (nthB bs 0).cells 0)) (slL (nthV (nthB bs 0).cells 0)) (slC (nthV (nthB bs 0).cells 0)) w⟩,
 ⟨[(7, .one (.int .i64)), (40, .one (.slice)), (41, .one (.int .i64)), (42, .one (.int .i64)), (48, .one (.slice)), (49, .one (.int .i64)), (50, .one (.int .i64))], [(8, 26, [.int .i64, .int .i64, .int .i64, .slice]), (1, 34, [.slice])], fun fs vs bs w => V45.l2 B R (V45.l1 B R (nthN fs 1)) (nthN fs 0) (iV (nthV vs 0)) (slA (nthV vs 1)) (slL (nthV vs 1)) (slC (nthV vs 1)) (iV (nthV vs 2)) (iV (nthV vs 3)) (slA (nthV vs 4)) (slL (nthV vs 4)) (slC (nthV vs 4)) (iV (nthV vs 5)) (iV (nthV vs 6)) (nthB bs 0).blk (iV (nthV (nthB bs 0).cells 0)) (iV (nthV (nthB bs 0).cells 1)) (iV (nthV (nthB bs 0).cells 2)) (slA (nthV (nthB bs 0).cells 3)) (slL (nthV (nthB bs 0).cells 3)) (slC (nthV (nthB bs 0).cells 3)) (nthB bs 1).blk (slA (nthV (nthB bs 1).cells 0)) (slL (nthV (nthB bs 1).cells 0)) (slC (nthV (nthB bs 1).cells 0)) w⟩,
 ⟨[(65, .one (.slice)), (66, .one (.int .i64)), (67, .one (.int .i64))], [(1, 34, [.slice])], fun fs vs bs w => V45.l3 B R (nthN fs 0) (slA (nthV vs 0)) (slL (nthV vs 0)) (slC (nthV vs 0)) (iV (nthV vs 1)) (iV (nthV vs 2)) (nthB bs 0).blk (slA (nthV (nthB bs 0).cells 0)) (slL (nthV (nthB bs 0).cells 0)) (slC (nthV (nthB bs 0).cells 0)) w⟩]
noncomputable def V45.h : H := .s (.z) (.s (.s (.z) (.c (.s (.z) (.z)) (.z))) (.s (.s (.z) (.b (.l 0 (.s (.z) (.s (.c (.z) (.z)) (.s (.b (.s (.z) (.s (.z) (.c (.s (.z) (.z)) (.z))))) (.z))))))) (.s (.s (.z) (.b (.l 1 (.s (.z) (.s (.c (.z) (.z)) (.s (.b (.s (.z) (.s (.z) (.b (.l 2 (.s (.z) (.s (.c (.z) (.z)) (.s (.b (.s (.z) (.s (.z) (.c (.s (.z) (.z)) (.z))))) (.z))))))))) (.z))))))) (.s (.s (.z) (.b (.l 3 (.s (.z) (.s (.c (.z) (.z)) (.s (.b (.s (.z) (.s (.z) (.s (.z) (.c (.s (.z) (.z)) (.z)))))) (.z))))))) (.s (.z) (.z))))))
theorem V45.vc_eq (B : Nat) (R : Value → World → Prop) (a : Option Addr) (c d : Nat) (w : World) : wpf (V45.cfg B) (V45.cuts B R) V45.code V45.h [] (postOf Try.prog B (Try.f45.results.toList) R) (argE 0 [.agg ⟨[.slice a c d]⟩]) [] w = V45.vc B R a c d w := by kernel_rfl
theorem V45.obl (B : Nat) (R : Value → World → Prop) : oblP (V45.cfg B) (V45.cuts B R) V45.code V45.h [] (postOf Try.prog B (Try.f45.results.toList) R) := by
 have e : oblP (V45.cfg B) (V45.cuts B R) V45.code V45.h [] (postOf Try.prog B (Try.f45.results.toList) R) = (True ∧ ((True ∧ ((True ∧ True) ∧ True)) ∧ ((True ∧ ((∀ (a : Option Addr) (c d : Nat) (f g : Int) (i : Nat) (j : Option Addr) (l m : Nat) (w : World), ¬ V45.l0 B R 0 a c d f g i j l m w) ∧ (∀ n, ∀ (a : Option Addr) (c d : Nat) (f g : Int) (i : Nat) (j : Option Addr) (l m : Nat) (w : World), V45.l0 B R (n + 1) a c d f g i j l m w → V45.l0 B R (n + 1) a c d f g i j l m w) ∧ ∀ n : Nat, (True ∧ ((True ∧ True) ∧ ((True ∧ (True ∧ ((True ∧ True) ∧ True))) ∧ True))))) ∧ ((True ∧ ((∀ (o : Option Addr) (p q : Nat) (r s : Int) (i : Nat) (j : Option Addr) (l m : Nat) (w : World), ¬ V45.l1 B R 0 o p q r s i j l m w) ∧ (∀ t, ∀ (o : Option Addr) (p q : Nat) (r s : Int) (i : Nat) (j : Option Addr) (l m : Nat) (w : World), V45.l1 B R (t + 1) o p q r s i j l m w → V45.l1 B R (t + 1) o p q r s i j l m w) ∧ ∀ t : Nat, (True ∧ ((True ∧ True) ∧ ((True ∧ (True ∧ ((∀ (u : Int) (o : Option Addr) (p q : Nat) (r s : Int) (x : Option Addr) (y z : Nat) (A C : Int) (D : Nat) (E F G : Int) (I : Option Addr) (J L i : Nat) (j : Option Addr) (l m : Nat) (w : World), ¬ V45.l2 B R (V45.l1 B R t) 0 u o p q r s x y z A C D E F G I J L i j l m w) ∧ (∀ M, ∀ (u : Int) (o : Option Addr) (p q : Nat) (r s : Int) (x : Option Addr) (y z : Nat) (A C : Int) (D : Nat) (E F G : Int) (I : Option Addr) (J L i : Nat) (j : Option Addr) (l m : Nat) (w : World), V45.l2 B R (V45.l1 B R t) (M + 1) u o p q r s x y z A C D E F G I J L i j l m w → V45.l2 B R (V45.l1 B R t) (M + 1) u o p q r s x y z A C D E F G I J L i j l m w) ∧ ∀ M : Nat, (True ∧ ((True ∧ True) ∧ ((True ∧ (True ∧ ((True ∧ True) ∧ True))) ∧ True)))))) ∧ True))))) ∧ ((True ∧ ((∀ (N : Option Addr) (O P : Nat) (Q S : Int) (i : Nat) (j : Option Addr) (l m : Nat) (w : World), ¬ V45.l3 B R 0 N O P Q S i j l m w) ∧ (∀ T, ∀ (N : Option Addr) (O P : Nat) (Q S : Int) (i : Nat) (j : Option Addr) (l m : Nat) (w : World), V45.l3 B R (T + 1) N O P Q S i j l m w → V45.l3 B R (T + 1) N O P Q S i j l m w) ∧ ∀ T : Nat, (True ∧ ((True ∧ True) ∧ ((True ∧ (True ∧ (True ∧ ((True ∧ True) ∧ True)))) ∧ True))))) ∧ (True ∧ True)))))) := by kernel_rfl
 exact e.mpr (⟨trivial, ⟨⟨trivial, ⟨⟨trivial, trivial⟩, trivial⟩⟩, ⟨⟨trivial, ⟨fun a c d f g i j l m w h => h, fun _ a c d f g i j l m w h => h, fun n => ⟨trivial, ⟨⟨trivial, trivial⟩, ⟨⟨trivial, ⟨trivial, ⟨⟨trivial, trivial⟩, trivial⟩⟩⟩, trivial⟩⟩⟩⟩⟩, ⟨⟨trivial, ⟨fun o p q r s i j l m w h => h, fun _ o p q r s i j l m w h => h, fun t => ⟨trivial, ⟨⟨trivial, trivial⟩, ⟨⟨trivial, ⟨trivial, ⟨fun u o p q r s x y z A C D E F G I J L i j l m w h => h, fun _ u o p q r s x y z A C D E F G I J L i j l m w h => h, fun M => ⟨trivial, ⟨⟨trivial, trivial⟩, ⟨⟨trivial, ⟨trivial, ⟨⟨trivial, trivial⟩, trivial⟩⟩⟩, trivial⟩⟩⟩⟩⟩⟩, trivial⟩⟩⟩⟩⟩, ⟨⟨trivial, ⟨fun N O P Q S i j l m w h => h, fun _ N O P Q S i j l m w h => h, fun T => ⟨trivial, ⟨⟨trivial, trivial⟩, ⟨⟨trivial, ⟨trivial, ⟨trivial, ⟨⟨trivial, trivial⟩, trivial⟩⟩⟩⟩, trivial⟩⟩⟩⟩⟩, ⟨trivial, trivial⟩⟩⟩⟩⟩⟩)
theorem V45.cfgOk (B : Nat) : CfgOk (V45.cfg B) := cfgOk_of (by kernel_rfl) (by kernel_rfl) extNil
theorem V45.sound {a : Option Addr} {d f : Nat} {w : World} {R : Value → World → Prop} (h : V45.vc w.heap.size R a d f w) : Calls Try.prog 45 ⟨[.agg ⟨[.slice a d f]⟩]⟩ w fun e w' => ∃ v, e = .returned v ∧ R v w' :=
 calls_wpfP (c := V45.cfg w.heap.size) (fn := Try.f45) (x := V45.code) (V45.cuts w.heap.size R) V45.h (V45.cfgOk _) mixed Try.func45 (by kernel_rfl) (by kernel_rfl) (by kernel_rfl) rfl (V45.obl _ _) ((V45.vc_eq _ _ a d f _).symm ▸ h)
def V73.b5 (B : Nat) (R : Value → World → Prop) (a : Bool) (c : Nat) (d f g : Int) (i : Nat) (j : Option Addr) (l m : Nat) (w : World) : Prop :=
 if a = true
 then (CallK Try.prog 63 [.agg ⟨[.slice j l m]⟩, .agg ⟨[.int .i64 d, .int .i64 f, .int .i64 g]⟩] B w [c, i] fun v n => 
 ∃ o : Int, v = .int .i64 o ∧
 if (decide (o > 0)) = true
 then (CallK Try.prog 76 [.agg ⟨[.int .i64 d, .int .i64 f, .int .i64 g]⟩] B n [c, i] fun p q => 
 ∃ r : Int, p = .int .i64 r ∧
 Ret B q (R (.bool (decide (r > 0)))))
 else (Ret B n (R (.bool false))))
 else (Ret B w (R (.bool false)))
def V73.b4 (B : Nat) (R : Value → World → Prop) (a : Bool) (c : Int) (d : Bool) (f : Nat) (g i j : Int) (l : Nat) (m n o : Int) (p : Option Addr) (q r s : Nat) (t : Option Addr) (u x : Nat) (w : World) : Prop :=
 if d = true
 then (CallK Try.prog 97 [.int .i64 i, .int .i64 o] B w [f, l, s] fun v y => 
 ∃ z : Bool, v = .bool z ∧
 if z = true
 then (Ret B y (R (.bool (j == 0))))
 else (Ret B y (R (.bool false))))
 else (if (c == 24) = true
 then (CallK Try.prog 97 [.int .i64 i, .int .i64 o] B w [f, l, s] fun v y => 
 ∃ A : Bool, v = .bool A ∧
 if A = true
 then (CallK Try.prog 97 [.int .i64 j, .int .i64 o] B y [f, l, s] fun C D => 
 ∃ E : Bool, C = .bool E ∧
 Ret B D (R (.bool E)))
 else (Ret B y (R (.bool false))))
 else (if (c == 18) = true
 then (if (c == 18) = true
 then (Ret B w (R (.bool a)))
 else (V73.b5 B R a f g i j s t u x w))
 else (if (c == 20) = true
 then (if (c == 20) = true
 then (Ret B w (R (.bool a)))
 else (V73.b5 B R a f g i j s t u x w))
 else (if (c == 21) = true
 then (if (c == 21) = true
 then (Ret B w (R (.bool a)))
 else (V73.b5 B R a f g i j s t u x w))
 else (if (c == 22) = true
 then (if (c == 22) = true
 then (Ret B w (R (.bool a)))
 else (V73.b5 B R a f g i j s t u x w))
 else (if (c == 27) = true
 then (if (c == 27) = true
 then (Ret B w (R (.bool a)))
 else (V73.b5 B R a f g i j s t u x w))
 else (if (c == 26) = true
 then (Ret B w (R (.bool a)))
 else (V73.b5 B R a f g i j s t u x w))))))))
def V73.b3 (B : Nat) (R : Value → World → Prop) (a : Bool) (c : Int) (d : Bool) (f : Nat) (g i j : Int) (l : Nat) (m n o : Int) (p : Option Addr) (q r s : Nat) (t : Option Addr) (u x : Nat) (w : World) : Prop :=
 if d = true
 then (CallK Try.prog 97 [.int .i64 i, .int .i64 (u : Int)] B w [f, l, s] fun v y => 
 ∃ z : Bool, v = .bool z ∧
 if z = true
 then (Ret B y (R (.bool (j == 0))))
 else (Ret B y (R (.bool false))))
 else (if (c == 23) = true
 then (V73.b4 B R a c (c == 23) f g i j l m n o p q r s t u x w)
 else (V73.b4 B R a c (c == 25) f g i j l m n o p q r s t u x w))
def V73.b2 (B : Nat) (R : Value → World → Prop) (a : Bool) (c : Int) (d : Bool) (f : Nat) (g i j : Int) (l : Nat) (m n o : Int) (p : Option Addr) (q r s : Nat) (t : Option Addr) (u x : Nat) (w : World) : Prop :=
 if d = true
 then (CallK Try.prog 97 [.int .i64 i, .int .i64 (q : Int)] B w [f, l, s] fun v y => 
 ∃ z : Bool, v = .bool z ∧
 if z = true
 then (Ret B y (R (.bool (j == 0))))
 else (Ret B y (R (.bool false))))
 else (if (c == 17) = true
 then (V73.b3 B R a c (c == 17) f g i j l m n o p q r s t u x w)
 else (V73.b3 B R a c (c == 19) f g i j l m n o p q r s t u x w))
def V73.b1 (B : Nat) (R : Value → World → Prop) (a : Bool) (c : Int) (d : Bool) (f : Nat) (g i j : Int) (l : Nat) (m n o : Int) (p : Option Addr) (q r s : Nat) (t : Option Addr) (u x : Nat) (w : World) : Prop :=
 if d = true
 then (CallK Try.prog 97 [.int .i64 i, .int .i64 (IntKind.wrap .i64 (n - o))] B w [f, l, s] fun v y => 
 ∃ z : Bool, v = .bool z ∧
 if z = true
 then (Ret B y (R (.bool (j == 0))))
 else (Ret B y (R (.bool false))))
 else (if (c == 15) = true
 then (V73.b2 B R a c (c == 15) f g i j l m n o p q r s t u x w)
 else (V73.b2 B R a c (c == 16) f g i j l m n o p q r s t u x w))
def V73.b0 (B : Nat) (R : Value → World → Prop) (a : Bool) (c : Nat) (d f g : Int) (i : Nat) (j l m : Int) (n : Option Addr) (o p q : Nat) (r : Option Addr) (s t : Nat) (w : World) : Prop :=
 if (d == 1) = true
 then (if (decide (f ≥ (-2147483648))) = true
 then (if (decide (f ≤ 2147483648)) = true
 then (Ret B w (R (.bool (g == 0))))
 else (Ret B w (R (.bool false))))
 else (Ret B w (R (.bool false))))
 else (if (d == 2) = true
 then (CallK Try.prog 97 [.int .i64 f, .int .i64 6] B w [c, i, q] fun v u => 
 ∃ x : Bool, v = .bool x ∧
 if x = true
 then (Ret B u (R (.bool (g == 0))))
 else (Ret B u (R (.bool false))))
 else (if (d == 3) = true
 then (V73.b1 B R a d (d == 3) c d f g i j l m n o p q r s t w)
 else (V73.b1 B R a d (d == 4) c d f g i j l m n o p q r s t w)))
def V73.vc (B : Nat) (R : Value → World → Prop) (a : Option Addr) (c d : Nat) (f g i : Int) (j : Option Addr) (l m : Nat) (n o p : Int) (w : World) : Prop :=
 ∀ q : Nat, w.heap.size ≤ q →
 ∀ r : Nat, w.heap.size ≤ r →
 ∀ s : Nat, w.heap.size ≤ s →
 if (o == 0) = true
 then (V73.b0 B R (p == 0) s n o p r f g i j l m q a c d w)
 else (V73.b0 B R false s n o p r f g i j l m q a c d w)
noncomputable def V73.cfg (B : Nat) : Cfg := ⟨Try.prog, ⟨134, B⟩, [], hasN [63, 76, 97], hasN [], look []⟩
noncomputable def V73.code : Code := (Try.f73.body).getD .skip
noncomputable def V73.cuts (B : Nat) (R : Value → World → Prop) : Nat → Cut := nthC [⟨[(7, .one (.bool))], [(5, 23, [.int .i64, .int .i64, .int .i64]), (4, 26, [.int .i64, .int .i64, .int .i64, .slice]), (3, 34, [.slice])], fun fs vs bs w => V73.b0 B R (bV (nthV vs 0)) (nthB bs 0).blk (iV (nthV (nthB bs 0).cells 0)) (iV (nthV (nthB bs 0).cells 1)) (iV (nthV (nthB bs 0).cells 2)) (nthB bs 1).blk (iV (nthV (nthB bs 1).cells 0)) (iV (nthV (nthB bs 1).cells 1)) (iV (nthV (nthB bs 1).cells 2)) (slA (nthV (nthB bs 1).cells 3)) (slL (nthV (nthB bs 1).cells 3)) (slC (nthV (nthB bs 1).cells 3)) (nthB bs 2).blk (slA (nthV (nthB bs 2).cells 0)) (slL (nthV (nthB bs 2).cells 0)) (slC (nthV (nthB bs 2).cells 0)) w⟩,
 ⟨[(7, .one (.bool)), (17, .one (.int .i64)), (43, .one (.bool))], [(5, 23, [.int .i64, .int .i64, .int .i64]), (4, 26, [.int .i64, .int .i64, .int .i64, .slice]), (3, 34, [.slice])], fun fs vs bs w => V73.b1 B R (bV (nthV vs 0)) (iV (nthV vs 1)) (bV (nthV vs 2)) (nthB bs 0).blk (iV (nthV (nthB bs 0).cells 0)) (iV (nthV (nthB bs 0).cells 1)) (iV (nthV (nthB bs 0).cells 2)) (nthB bs 1).blk (iV (nthV (nthB bs 1).cells 0)) (iV (nthV (nthB bs 1).cells 1)) (iV (nthV (nthB bs 1).cells 2)) (slA (nthV (nthB bs 1).cells 3)) (slL (nthV (nthB bs 1).cells 3)) (slC (nthV (nthB bs 1).cells 3)) (nthB bs 2).blk (slA (nthV (nthB bs 2).cells 0)) (slL (nthV (nthB bs 2).cells 0)) (slC (nthV (nthB bs 2).cells 0)) w⟩,
 ⟨[(7, .one (.bool)), (17, .one (.int .i64)), (59, .one (.bool))], [(5, 23, [.int .i64, .int .i64, .int .i64]), (4, 26, [.int .i64, .int .i64, .int .i64, .slice]), (3, 34, [.slice])], fun fs vs bs w => V73.b2 B R (bV (nthV vs 0)) (iV (nthV vs 1)) (bV (nthV vs 2)) (nthB bs 0).blk (iV (nthV (nthB bs 0).cells 0)) (iV (nthV (nthB bs 0).cells 1)) (iV (nthV (nthB bs 0).cells 2)) (nthB bs 1).blk (iV (nthV (nthB bs 1).cells 0)) (iV (nthV (nthB bs 1).cells 1)) (iV (nthV (nthB bs 1).cells 2)) (slA (nthV (nthB bs 1).cells 3)) (slL (nthV (nthB bs 1).cells 3)) (slC (nthV (nthB bs 1).cells 3)) (nthB bs 2).blk (slA (nthV (nthB bs 2).cells 0)) (slL (nthV (nthB bs 2).cells 0)) (slC (nthV (nthB bs 2).cells 0)) w⟩,
 ⟨[(7, .one (.bool)), (17, .one (.int .i64)), (73, .one (.bool))], [(5, 23, [.int .i64, .int .i64, .int .i64]), (4, 26, [.int .i64, .int .i64, .int .i64, .slice]), (3, 34, [.slice])], fun fs vs bs w => V73.b3 B R (bV (nthV vs 0)) (iV (nthV vs 1)) (bV (nthV vs 2)) (nthB bs 0).blk (iV (nthV (nthB bs 0).cells 0)) (iV (nthV (nthB bs 0).cells 1)) (iV (nthV (nthB bs 0).cells 2)) (nthB bs 1).blk (iV (nthV (nthB bs 1).cells 0)) (iV (nthV (nthB bs 1).cells 1)) (iV (nthV (nthB bs 1).cells 2)) (slA (nthV (nthB bs 1).cells 3)) (slL (nthV (nthB bs 1).cells 3)) (slC (nthV (nthB bs 1).cells 3)) (nthB bs 2).blk (slA (nthV (nthB bs 2).cells 0)) (slL (nthV (nthB bs 2).cells 0)) (slC (nthV (nthB bs 2).cells 0)) w⟩,
 ⟨[(7, .one (.bool)), (17, .one (.int .i64)), (87, .one (.bool))], [(5, 23, [.int .i64, .int .i64, .int .i64]), (4, 26, [.int .i64, .int .i64, .int .i64, .slice]), (3, 34, [.slice])], fun fs vs bs w => V73.b4 B R (bV (nthV vs 0)) (iV (nthV vs 1)) (bV (nthV vs 2)) (nthB bs 0).blk (iV (nthV (nthB bs 0).cells 0)) (iV (nthV (nthB bs 0).cells 1)) (iV (nthV (nthB bs 0).cells 2)) (nthB bs 1).blk (iV (nthV (nthB bs 1).cells 0)) (iV (nthV (nthB bs 1).cells 1)) (iV (nthV (nthB bs 1).cells 2)) (slA (nthV (nthB bs 1).cells 3)) (slL (nthV (nthB bs 1).cells 3)) (slC (nthV (nthB bs 1).cells 3)) (nthB bs 2).blk (slA (nthV (nthB bs 2).cells 0)) (slL (nthV (nthB bs 2).cells 0)) (slC (nthV (nthB bs 2).cells 0)) w⟩,
 ⟨[(7, .one (.bool))], [(5, 23, [.int .i64, .int .i64, .int .i64]), (3, 34, [.slice])], fun fs vs bs w => V73.b5 B R (bV (nthV vs 0)) (nthB bs 0).blk (iV (nthV (nthB bs 0).cells 0)) (iV (nthV (nthB bs 0).cells 1)) (iV (nthV (nthB bs 0).cells 2)) (nthB bs 1).blk (slA (nthV (nthB bs 1).cells 0)) (slL (nthV (nthB bs 1).cells 0)) (slC (nthV (nthB bs 1).cells 0)) w⟩]
noncomputable def V73.h : H := .s (.z) (.cut 0 (.z) (.cut 5 (.s (.z) (.b (.s (.z) (.c (.s (.z) (.z)) (.s (.z) (.c (.s (.z) (.z)) (.cut 1 (.s (.z) (.c (.z) (.z))) (.c (.s (.z) (.z)) (.cut 2 (.s (.z) (.c (.z) (.z))) (.c (.s (.z) (.z)) (.cut 3 (.s (.z) (.c (.z) (.z))) (.c (.s (.z) (.z)) (.cut 4 (.s (.z) (.c (.z) (.z))) (.c (.s (.z) (.z)) (.s (.z) (.c (.s (.z) (.z)) (.s (.s (.z) (.c (.z) (.s (.z) (.c (.z) (.s (.z) (.c (.z) (.s (.z) (.c (.z) (.s (.z) (.c (.z) (.z))))))))))) (.c (.s (.z) (.z)) (.z))))))))))))))))))) (.s (.z) (.z))))
theorem V73.vc_eq (B : Nat) (R : Value → World → Prop) (a : Option Addr) (c d : Nat) (f g i : Int) (j : Option Addr) (l m : Nat) (n o p : Int) (w : World) : wpf (V73.cfg B) (V73.cuts B R) V73.code V73.h [] (postOf Try.prog B (Try.f73.results.toList) R) (argE 0 [.agg ⟨[.slice a c d]⟩, .agg ⟨[.int .i64 f, .int .i64 g, .int .i64 i, .slice j l m]⟩, .agg ⟨[.int .i64 n, .int .i64 o, .int .i64 p]⟩]) [] w = V73.vc B R a c d f g i j l m n o p w := by kernel_rfl
theorem V73.obl (B : Nat) (R : Value → World → Prop) : oblP (V73.cfg B) (V73.cuts B R) V73.code V73.h [] (postOf Try.prog B (Try.f73.results.toList) R) := by
 have e : oblP (V73.cfg B) (V73.cuts B R) V73.code V73.h [] (postOf Try.prog B (Try.f73.results.toList) R) = (True ∧ (True ∧ (∀ (a : Bool) (c : Nat) (d f g : Int) (i : Nat) (j l m : Int) (n : Option Addr) (o p q : Nat) (r : Option Addr) (s t : Nat) (w : World), V73.b0 B R a c d f g i j l m n o p q r s t w → V73.b0 B R a c d f g i j l m n o p q r s t w) ∧ ((True ∧ (True ∧ ((True ∧ True) ∧ (True ∧ ((True ∧ True) ∧ ((True ∧ (True ∧ True)) ∧ (∀ (a : Bool) (u : Int) (x : Bool) (c : Nat) (d f g : Int) (i : Nat) (j l m : Int) (n : Option Addr) (o p q : Nat) (r : Option Addr) (s t : Nat) (w : World), V73.b1 B R a u x c d f g i j l m n o p q r s t w → V73.b1 B R a u x c d f g i j l m n o p q r s t w) ∧ ((True ∧ True) ∧ ((True ∧ (True ∧ True)) ∧ (∀ (a : Bool) (u : Int) (y : Bool) (c : Nat) (d f g : Int) (i : Nat) (j l m : Int) (n : Option Addr) (o p q : Nat) (r : Option Addr) (s t : Nat) (w : World), V73.b2 B R a u y c d f g i j l m n o p q r s t w → V73.b2 B R a u y c d f g i j l m n o p q r s t w) ∧ ((True ∧ True) ∧ ((True ∧ (True ∧ True)) ∧ (∀ (a : Bool) (u : Int) (z : Bool) (c : Nat) (d f g : Int) (i : Nat) (j l m : Int) (n : Option Addr) (o p q : Nat) (r : Option Addr) (s t : Nat) (w : World), V73.b3 B R a u z c d f g i j l m n o p q r s t w → V73.b3 B R a u z c d f g i j l m n o p q r s t w) ∧ ((True ∧ True) ∧ ((True ∧ (True ∧ True)) ∧ (∀ (a : Bool) (u : Int) (A : Bool) (c : Nat) (d f g : Int) (i : Nat) (j l m : Int) (n : Option Addr) (o p q : Nat) (r : Option Addr) (s t : Nat) (w : World), V73.b4 B R a u A c d f g i j l m n o p q r s t w → V73.b4 B R a u A c d f g i j l m n o p q r s t w) ∧ ((True ∧ True) ∧ (True ∧ ((True ∧ True) ∧ ((True ∧ (True ∧ (True ∧ (True ∧ (True ∧ (True ∧ (True ∧ (True ∧ (True ∧ (True ∧ True)))))))))) ∧ ((True ∧ True) ∧ True))))))))))))))))) ∧ (∀ (a : Bool) (c : Nat) (d f g : Int) (q : Nat) (r : Option Addr) (s t : Nat) (w : World), V73.b5 B R a c d f g q r s t w → V73.b5 B R a c d f g q r s t w) ∧ (True ∧ True)))) := by kernel_rfl
 exact e.mpr (⟨trivial, ⟨trivial, fun a c d f g i j l m n o p q r s t w h => h, ⟨⟨trivial, ⟨trivial, ⟨⟨trivial, trivial⟩, ⟨trivial, ⟨⟨trivial, trivial⟩, ⟨⟨trivial, ⟨trivial, trivial⟩⟩, fun a u x c d f g i j l m n o p q r s t w h => h, ⟨⟨trivial, trivial⟩, ⟨⟨trivial, ⟨trivial, trivial⟩⟩, fun a u y c d f g i j l m n o p q r s t w h => h, ⟨⟨trivial, trivial⟩, ⟨⟨trivial, ⟨trivial, trivial⟩⟩, fun a u z c d f g i j l m n o p q r s t w h => h, ⟨⟨trivial, trivial⟩, ⟨⟨trivial, ⟨trivial, trivial⟩⟩, fun a u A c d f g i j l m n o p q r s t w h => h, ⟨⟨trivial, trivial⟩, ⟨trivial, ⟨⟨trivial, trivial⟩, ⟨⟨trivial, ⟨trivial, ⟨trivial, ⟨trivial, ⟨trivial, ⟨trivial, ⟨trivial, ⟨trivial, ⟨trivial, ⟨trivial, trivial⟩⟩⟩⟩⟩⟩⟩⟩⟩⟩, ⟨⟨trivial, trivial⟩, trivial⟩⟩⟩⟩⟩⟩⟩⟩⟩⟩⟩⟩⟩⟩⟩⟩⟩, fun a c d f g q r s t w h => h, ⟨trivial, trivial⟩⟩⟩⟩)
theorem V73.cfgOk (B : Nat) : CfgOk (V73.cfg B) := cfgOk_of (by kernel_rfl) (by kernel_rfl) extNil
theorem V73.sound {a : Option Addr} {d f : Nat} {g i j : Int} {l : Option Addr} {m n : Nat} {o p q : Int} {w : World} {R : Value → World → Prop} (h : V73.vc w.heap.size R a d f g i j l m n o p q w) : Calls Try.prog 73 ⟨[.agg ⟨[.slice a d f]⟩, .agg ⟨[.int .i64 g, .int .i64 i, .int .i64 j, .slice l m n]⟩, .agg ⟨[.int .i64 o, .int .i64 p, .int .i64 q]⟩]⟩ w fun e w' => ∃ v, e = .returned v ∧ R v w' :=
 calls_wpfP (c := V73.cfg w.heap.size) (fn := Try.f73) (x := V73.code) (V73.cuts w.heap.size R) V73.h (V73.cfgOk _) mixed Try.func73 (by kernel_rfl) (by kernel_rfl) (by kernel_rfl) rfl (V73.obl _ _) ((V73.vc_eq _ _ a d f g i j l m n o p q _).symm ▸ h)
def V49.b4 (B : Nat) (R : Value → World → Prop) (a : Option Addr → Nat → Nat → Option Addr → Nat → Nat → Nat → Option Addr → Nat → Nat → World → Prop) (c : Option Addr → Nat → Nat → Option Addr → Nat → Nat → Bool → Option Addr → Nat → Nat → Int → Int → Nat → Option Addr → Nat → Nat → World → Prop) (d : Option Addr → Nat → Nat → Option Addr → Nat → Nat → Bool → Int → Int → Option Addr → Nat → Nat → Int → Int → Option Addr → Nat → Nat → Int → Int → Nat → Option Addr → Nat → Nat → World → Prop) (f : Option Addr) (g i : Nat) (j : Option Addr) (l m : Nat) (n : Bool) (o p q : Int) (r : Option Addr) (s t : Nat) (x y : Int) (z : Option Addr) (A C : Nat) (D E : Int) (F : Bool) (G : Nat) (I : Option Addr) (J L : Nat) (w : World) : Prop :=
 if F = true
 then (Ret B w (R (.tuple ⟨[.slice none 0 0, .int .i64 o, .bool false]⟩)))
 else (∃ M : Addr, j = some M ∧ (0 : Int) ≤ q ∧ q < (l : Int) ∧
 ∃ N : Int, w.cell? (M.add q.toNat) = some (.int .i64 N) ∧
 if (decide (N < 0)) = true
 then (∃ O : Addr, j = some O ∧ (0 : Int) ≤ q ∧ q < (l : Int) ∧
 (∃ u, w.cell? ((O.add q.toNat).add 0) = some u) ∧ w.frozen? ((O.add q.toNat).add 0) = false ∧
 let P := w.setCell ((O.add q.toNat).add 0) (.int .i64 p);
 d f g i j l m true o p r s t x y z A C D (IntKind.wrap .i64 (E + 1)) G I J L P)
 else (d f g i j l m n o p r s t x y z A C D (IntKind.wrap .i64 (E + 1)) G I J L w))
def V49.l3 (B : Nat) (R : Value → World → Prop) (a : Option Addr → Nat → Nat → Option Addr → Nat → Nat → Nat → Option Addr → Nat → Nat → World → Prop) (c : Option Addr → Nat → Nat → Option Addr → Nat → Nat → Bool → Option Addr → Nat → Nat → Int → Int → Nat → Option Addr → Nat → Nat → World → Prop) : Nat → Option Addr → Nat → Nat → Option Addr → Nat → Nat → Bool → Int → Int → Option Addr → Nat → Nat → Int → Int → Option Addr → Nat → Nat → Int → Int → Nat → Option Addr → Nat → Nat → World → Prop
 | 0 => fun _ _ _ _ _ _ _ _ _ _ _ _ _ _ _ _ _ _ _ _ _ _ _ _ => False
 | k + 1 => fun d f g i j l m n o p q r s t u x y z A C D E F w =>
 if (decide (A < z)) = true
 then (∃ G : Addr, u = some G ∧ (0 : Int) ≤ A ∧ A < (x : Int) ∧
 ∃ I : Int, w.cell? (G.add A.toNat) = some (.int .i64 I) ∧
 if (decide (I ≥ (f : Int))) = false
 then (∃ J : Addr, i = some J ∧ (0 : Int) ≤ I ∧ I < (j : Int) ∧
 ∃ L : Int, w.cell? (J.add I.toNat) = some (.int .i64 L) ∧
 if (decide (L ≥ 0)) = true
 then (∃ M : Addr, i = some M ∧ (0 : Int) ≤ I ∧ I < (j : Int) ∧
 ∃ N : Int, w.cell? (M.add I.toNat) = some (.int .i64 N) ∧
 V49.b4 B R a c (V49.l3 B R a c k) d f g i j l m n o I p q r s t u x y z A (N != o) C D E F w)
 else (V49.b4 B R a c (V49.l3 B R a c k) d f g i j l m n o I p q r s t u x y z A false C D E F w))
 else (V49.b4 B R a c (V49.l3 B R a c k) d f g i j l m n o I p q r s t u x y z A true C D E F w))
 else (c d f g i j l m p q r s (IntKind.wrap .i64 (t + 1)) C D E F w)
def V49.l2 (B : Nat) (R : Value → World → Prop) (a : Option Addr → Nat → Nat → Option Addr → Nat → Nat → Nat → Option Addr → Nat → Nat → World → Prop) : Nat → Option Addr → Nat → Nat → Option Addr → Nat → Nat → Bool → Option Addr → Nat → Nat → Int → Int → Nat → Option Addr → Nat → Nat → World → Prop
 | 0 => fun _ _ _ _ _ _ _ _ _ _ _ _ _ _ _ _ _ => False
 | k + 1 => fun c d f g i j l m n o p q r s t u w =>
 if (decide (q < p)) = true
 then (∃ x : Addr, m = some x ∧ (0 : Int) ≤ q ∧ q < (n : Int) ∧
 ∃ y : Int, w.cell? ((x.add (q.toNat * 3)).add 0) = some (.int .i64 y) ∧
 ∃ z : Int, w.cell? ((x.add (q.toNat * 3)).add 1) = some (.int .i64 z) ∧
 ∃ A : Int, w.cell? ((x.add (q.toNat * 3)).add 2) = some (.int .i64 A) ∧
 ∀ C : Nat, w.heap.size ≤ C →
 ∃ D : Addr, g = some D ∧ (0 : Int) ≤ q ∧ q < (i : Int) ∧
 ∃ E : Int, w.cell? (D.add q.toNat) = some (.int .i64 E) ∧
 if (decide (E < 0)) = true
 then ((V49.l2 B R a k) c d f g i j l m n o p (IntKind.wrap .i64 (q + 1)) r s t u w)
 else (∃ F : Addr, g = some F ∧ (0 : Int) ≤ q ∧ q < (i : Int) ∧
 ∃ G : Int, w.cell? (F.add q.toNat) = some (.int .i64 G) ∧
 CallK Try.prog 63 [.agg ⟨[.slice s t u]⟩, .agg ⟨[.int .i64 y, .int .i64 z, .int .i64 A]⟩] B w [C, r] fun v I => 
 ∃ J : Int, v = .int .i64 J ∧ I.cell? (F.add q.toNat) = some (.int .i64 G) ∧
 CallK Try.prog 76 [.agg ⟨[.int .i64 y, .int .i64 z, .int .i64 A]⟩] B I [C, r] fun L M => 
 ∃ N : Int, L = .int .i64 N ∧ M.cell? (F.add q.toNat) = some (.int .i64 G) ∧
 ∃ O : Addr, g = some O ∧ (0 : Int) ≤ q ∧ q < (i : Int) ∧
 ∃ P : Int, M.cell? (O.add q.toNat) = some (.int .i64 P) ∧
 CallK Try.prog 63 [.agg ⟨[.slice s t u]⟩, .agg ⟨[.int .i64 y, .int .i64 z, .int .i64 A]⟩] B M [C, r] fun Q S => 
 ∃ T : Int, Q = .int .i64 T ∧ S.cell? (O.add q.toNat) = some (.int .i64 P) ∧
 if (decide (T > P)) = false
 then (if (decide (IntKind.wrap .i64 (IntKind.wrap .i64 (G - J) + N) > 8)) = true
 then (Ret B S (R (.tuple ⟨[.slice none 0 0, .int .i64 q, .bool false]⟩)))
 else (CallK Try.prog 77 [.int .i64 q, .agg ⟨[.int .i64 y, .int .i64 z, .int .i64 A]⟩] B S [C, r] fun U W => 
 ∃ (X : Option Addr) (Y Z : Nat), U = .slice X Y Z ∧
 ∃ a0, V49.l3 B R a (V49.l2 B R a k) a0 c d f g i j l q (IntKind.wrap .i64 (IntKind.wrap .i64 (G - J) + N)) m n o p q X Y Z (Y : Int) 0 r s t u W))
 else (Ret B S (R (.tuple ⟨[.slice none 0 0, .int .i64 q, .bool false]⟩)))))
 else (if (!l) = true
 then (Ret B w (R (.tuple ⟨[.slice g i j, .int .i64 0, .bool true]⟩)))
 else (a c d f g i j r s t u w))
def V49.l1 (B : Nat) (R : Value → World → Prop) : Nat → Option Addr → Nat → Nat → Option Addr → Nat → Nat → Nat → Option Addr → Nat → Nat → World → Prop
 | 0 => fun _ _ _ _ _ _ _ _ _ _ _ => False
 | k + 1 => fun a c d f g i j l m n w =>
 ∃ o, V49.l2 B R (V49.l1 B R k) o a c d f g i false a c d (c : Int) 0 j l m n w
def V49.l0 (B : Nat) (R : Value → World → Prop) : Nat → Option Addr → Nat → Nat → Option Addr → Nat → Nat → Int → Nat → Option Addr → Nat → Nat → World → Prop
 | 0 => fun _ _ _ _ _ _ _ _ _ _ _ _ => False
 | k + 1 => fun a c d f g i j l m n o w =>
 if (decide (j < (g : Int))) = true
 then (∃ p : Addr, f = some p ∧ (0 : Int) ≤ j ∧ j < (g : Int) ∧
 (∃ u, w.cell? ((p.add j.toNat).add 0) = some u) ∧ w.frozen? ((p.add j.toNat).add 0) = false ∧
 let q := w.setCell ((p.add j.toNat).add 0) (.int .i64 (-1));
 (V49.l0 B R k) a c d f g i (IntKind.wrap .i64 (j + 1)) l m n o q)
 else (∃ r, V49.l1 B R r a c d f g i l m n o w)
def V49.vc (B : Nat) (R : Value → World → Prop) (a : Option Addr) (c d : Nat) (f : Option Addr) (g i : Nat) (w : World) : Prop :=
 ∀ j : Nat, w.heap.size ≤ j →
 RunK Try.prog (Instr.makeSlice 67 (.int .i64 (g : Int)) (.int .i64 (g : Int))) B w [j] fun v l => 
 ∃ (m : Option Addr) (n o : Nat), v = .slice m n o ∧
 ∃ p, V49.l0 B R p f g i m n o 1 j a c d l
noncomputable def V49.cfg (B : Nat) : Cfg := ⟨Try.prog, ⟨107, B⟩, [], hasN [63, 76, 77], hasN [], look []⟩
noncomputable def V49.code : Code := (Try.f49.body).getD .skip
noncomputable def V49.cuts (B : Nat) (R : Value → World → Prop) : Nat → Cut := nthC [⟨[(1, .one (.slice)), (7, .one (.slice)), (8, .one (.int .i64))], [(2, 34, [.slice])], fun fs vs bs w => V49.l0 B R (nthN fs 0) (slA (nthV vs 0)) (slL (nthV vs 0)) (slC (nthV vs 0)) (slA (nthV vs 1)) (slL (nthV vs 1)) (slC (nthV vs 1)) (iV (nthV vs 2)) (nthB bs 0).blk (slA (nthV (nthB bs 0).cells 0)) (slL (nthV (nthB bs 0).cells 0)) (slC (nthV (nthB bs 0).cells 0)) w⟩,
 ⟨[(1, .one (.slice)), (7, .one (.slice))], [(2, 34, [.slice])], fun fs vs bs w => V49.l1 B R (nthN fs 0) (slA (nthV vs 0)) (slL (nthV vs 0)) (slC (nthV vs 0)) (slA (nthV vs 1)) (slL (nthV vs 1)) (slC (nthV vs 1)) (nthB bs 0).blk (slA (nthV (nthB bs 0).cells 0)) (slL (nthV (nthB bs 0).cells 0)) (slC (nthV (nthB bs 0).cells 0)) w⟩,
 ⟨[(1, .one (.slice)), (7, .one (.slice)), (9, .one (.bool)), (27, .one (.slice)), (28, .one (.int .i64)), (29, .one (.int .i64))], [(2, 34, [.slice])], fun fs vs bs w => V49.l2 B R (V49.l1 B R (nthN fs 1)) (nthN fs 0) (slA (nthV vs 0)) (slL (nthV vs 0)) (slC (nthV vs 0)) (slA (nthV vs 1)) (slL (nthV vs 1)) (slC (nthV vs 1)) (bV (nthV vs 2)) (slA (nthV vs 3)) (slL (nthV vs 3)) (slC (nthV vs 3)) (iV (nthV vs 4)) (iV (nthV vs 5)) (nthB bs 0).blk (slA (nthV (nthB bs 0).cells 0)) (slL (nthV (nthB bs 0).cells 0)) (slC (nthV (nthB bs 0).cells 0)) w⟩,
 ⟨[(1, .one (.slice)), (7, .one (.slice)), (9, .one (.bool)), (10, .one (.int .i64)), (12, .one (.int .i64)), (27, .one (.slice)), (28, .one (.int .i64)), (29, .one (.int .i64)), (65, .one (.slice)), (66, .one (.int .i64)), (67, .one (.int .i64))], [(2, 34, [.slice])], fun fs vs bs w => V49.l3 B R (V49.l1 B R (nthN fs 2)) (V49.l2 B R (V49.l1 B R (nthN fs 2)) (nthN fs 1)) (nthN fs 0) (slA (nthV vs 0)) (slL (nthV vs 0)) (slC (nthV vs 0)) (slA (nthV vs 1)) (slL (nthV vs 1)) (slC (nthV vs 1)) (bV (nthV vs 2)) (iV (nthV vs 3)) (iV (nthV vs 4)) (slA (nthV vs 5)) (slL (nthV vs 5)) (slC (nthV vs 5)) (iV (nthV vs 6)) (iV (nthV vs 7)) (slA (nthV vs 8)) (slL (nthV vs 8)) (slC (nthV vs 8)) (iV (nthV vs 9)) (iV (nthV vs 10)) (nthB bs 0).blk (slA (nthV (nthB bs 0).cells 0)) (slL (nthV (nthB bs 0).cells 0)) (slC (nthV (nthB bs 0).cells 0)) w⟩,
 ⟨[(1, .one (.slice)), (7, .one (.slice)), (9, .one (.bool)), (10, .one (.int .i64)), (12, .one (.int .i64)), (14, .one (.int .i64)), (27, .one (.slice)), (28, .one (.int .i64)), (29, .one (.int .i64)), (65, .one (.slice)), (66, .one (.int .i64)), (67, .one (.int .i64)), (71, .one (.bool))], [(2, 34, [.slice])], fun fs vs bs w => V49.b4 B R (V49.l1 B R (nthN fs 2)) (V49.l2 B R (V49.l1 B R (nthN fs 2)) (nthN fs 1)) (V49.l3 B R (V49.l1 B R (nthN fs 2)) (V49.l2 B R (V49.l1 B R (nthN fs 2)) (nthN fs 1)) (nthN fs 0)) (slA (nthV vs 0)) (slL (nthV vs 0)) (slC (nthV vs 0)) (slA (nthV vs 1)) (slL (nthV vs 1)) (slC (nthV vs 1)) (bV (nthV vs 2)) (iV (nthV vs 3)) (iV (nthV vs 4)) (iV (nthV vs 5)) (slA (nthV vs 6)) (slL (nthV vs 6)) (slC (nthV vs 6)) (iV (nthV vs 7)) (iV (nthV vs 8)) (slA (nthV vs 9)) (slL (nthV vs 9)) (slC (nthV vs 9)) (iV (nthV vs 10)) (iV (nthV vs 11)) (bV (nthV vs 12)) (nthB bs 0).blk (slA (nthV (nthB bs 0).cells 0)) (slL (nthV (nthB bs 0).cells 0)) (slC (nthV (nthB bs 0).cells 0)) w⟩]
noncomputable def V49.h : H := .s (.z) (.b (.s (.z) (.s (.s (.z) (.b (.l 0 (.s (.s (.z) (.c (.z) (.z))) (.s (.b (.z)) (.z)))))) (.s (.z) (.s (.b (.l 1 (.b (.s (.z) (.s (.s (.z) (.b (.l 2 (.s (.z) (.s (.c (.z) (.z)) (.s (.b (.s (.z) (.s (.s (.z) (.c (.z) (.z))) (.s (.r [[0, 1, 2, 3, 4, 5, 8, 6, 7, 9, 10, 11]]) (.s (.s (.r [[0, 1, 3, 4, 5, 6, 2, 7, 8, 9, 10, 11]]) (.c (.s (.z) (.z)) (.z))) (.s (.z) (.b (.l 3 (.s (.z) (.s (.c (.z) (.z)) (.s (.b (.s (.z) (.b (.cut 4 (.z) (.c (.s (.z) (.z)) (.s (.z) (.c (.z) (.z)))))))) (.z)))))))))))) (.z))))))) (.s (.z) (.c (.z) (.z)))))))) (.s (.z) (.z)))))))
theorem V49.vc_eq (B : Nat) (R : Value → World → Prop) (a : Option Addr) (c d : Nat) (f : Option Addr) (g i : Nat) (w : World) : wpf (V49.cfg B) (V49.cuts B R) V49.code V49.h [] (postOf Try.prog B (Try.f49.results.toList) R) (argE 0 [.agg ⟨[.slice a c d]⟩, .slice f g i]) [] w = V49.vc B R a c d f g i w := by kernel_rfl
theorem V49.obl (B : Nat) (R : Value → World → Prop) : oblP (V49.cfg B) (V49.cuts B R) V49.code V49.h [] (postOf Try.prog B (Try.f49.results.toList) R) := by
 have e : oblP (V49.cfg B) (V49.cuts B R) V49.code V49.h [] (postOf Try.prog B (Try.f49.results.toList) R) = (True ∧ (True ∧ ((True ∧ ((∀ (a : Option Addr) (c d : Nat) (f : Option Addr) (g i : Nat) (j : Int) (l : Nat) (m : Option Addr) (n o : Nat) (w : World), ¬ V49.l0 B R 0 a c d f g i j l m n o w) ∧ (∀ p, ∀ (a : Option Addr) (c d : Nat) (f : Option Addr) (g i : Nat) (j : Int) (l : Nat) (m : Option Addr) (n o : Nat) (w : World), V49.l0 B R (p + 1) a c d f g i j l m n o w → V49.l0 B R (p + 1) a c d f g i j l m n o w) ∧ ∀ p : Nat, ((True ∧ (True ∧ True)) ∧ (True ∧ True)))) ∧ (True ∧ (((∀ (a : Option Addr) (c d : Nat) (f : Option Addr) (g i l : Nat) (m : Option Addr) (n o : Nat) (w : World), ¬ V49.l1 B R 0 a c d f g i l m n o w) ∧ (∀ q, ∀ (a : Option Addr) (c d : Nat) (f : Option Addr) (g i l : Nat) (m : Option Addr) (n o : Nat) (w : World), V49.l1 B R (q + 1) a c d f g i l m n o w → V49.l1 B R (q + 1) a c d f g i l m n o w) ∧ ∀ q : Nat, (True ∧ ((True ∧ ((∀ (a : Option Addr) (c d : Nat) (f : Option Addr) (g i : Nat) (r : Bool) (s : Option Addr) (t u : Nat) (x y : Int) (l : Nat) (m : Option Addr) (n o : Nat) (w : World), ¬ V49.l2 B R (V49.l1 B R q) 0 a c d f g i r s t u x y l m n o w) ∧ (∀ z, ∀ (a : Option Addr) (c d : Nat) (f : Option Addr) (g i : Nat) (r : Bool) (s : Option Addr) (t u : Nat) (x y : Int) (l : Nat) (m : Option Addr) (n o : Nat) (w : World), V49.l2 B R (V49.l1 B R q) (z + 1) a c d f g i r s t u x y l m n o w → V49.l2 B R (V49.l1 B R q) (z + 1) a c d f g i r s t u x y l m n o w) ∧ ∀ z : Nat, (True ∧ ((True ∧ True) ∧ ((True ∧ ((True ∧ (True ∧ True)) ∧ ((true = true) ∧ (((true = true) ∧ ((True ∧ True) ∧ True)) ∧ (True ∧ ((∀ (a : Option Addr) (c d : Nat) (f : Option Addr) (g i : Nat) (r : Bool) (A C : Int) (s : Option Addr) (t u : Nat) (x y : Int) (D : Option Addr) (E F : Nat) (G I : Int) (l : Nat) (m : Option Addr) (n o : Nat) (w : World), ¬ V49.l3 B R (V49.l1 B R q) (V49.l2 B R (V49.l1 B R q) z) 0 a c d f g i r A C s t u x y D E F G I l m n o w) ∧ (∀ J, ∀ (a : Option Addr) (c d : Nat) (f : Option Addr) (g i : Nat) (r : Bool) (A C : Int) (s : Option Addr) (t u : Nat) (x y : Int) (D : Option Addr) (E F : Nat) (G I : Int) (l : Nat) (m : Option Addr) (n o : Nat) (w : World), V49.l3 B R (V49.l1 B R q) (V49.l2 B R (V49.l1 B R q) z) (J + 1) a c d f g i r A C s t u x y D E F G I l m n o w → V49.l3 B R (V49.l1 B R q) (V49.l2 B R (V49.l1 B R q) z) (J + 1) a c d f g i r A C s t u x y D E F G I l m n o w) ∧ ∀ J : Nat, (True ∧ ((True ∧ True) ∧ ((True ∧ (True ∧ (∀ (a : Option Addr) (c d : Nat) (f : Option Addr) (g i : Nat) (r : Bool) (A C L : Int) (s : Option Addr) (t u : Nat) (x y : Int) (D : Option Addr) (E F : Nat) (G I : Int) (M : Bool) (l : Nat) (m : Option Addr) (n o : Nat) (w : World), V49.b4 B R (V49.l1 B R q) (V49.l2 B R (V49.l1 B R q) z) (V49.l3 B R (V49.l1 B R q) (V49.l2 B R (V49.l1 B R q) z) J) a c d f g i r A C L s t u x y D E F G I M l m n o w → V49.b4 B R (V49.l1 B R q) (V49.l2 B R (V49.l1 B R q) z) (V49.l3 B R (V49.l1 B R q) (V49.l2 B R (V49.l1 B R q) z) J) a c d f g i r A C L s t u x y D E F G I M l m n o w) ∧ ((True ∧ True) ∧ (True ∧ (True ∧ True))))) ∧ True))))))))) ∧ True))))) ∧ (True ∧ (True ∧ True))))) ∧ (True ∧ True)))))) := by kernel_rfl
 exact e.mpr (⟨trivial, ⟨trivial, ⟨⟨trivial, ⟨fun a c d f g i j l m n o w h => h, fun _ a c d f g i j l m n o w h => h, fun p => ⟨⟨trivial, ⟨trivial, trivial⟩⟩, ⟨trivial, trivial⟩⟩⟩⟩, ⟨trivial, ⟨⟨fun a c d f g i l m n o w h => h, fun _ a c d f g i l m n o w h => h, fun q => ⟨trivial, ⟨⟨trivial, ⟨fun a c d f g i r s t u x y l m n o w h => h, fun _ a c d f g i r s t u x y l m n o w h => h, fun z => ⟨trivial, ⟨⟨trivial, trivial⟩, ⟨⟨trivial, ⟨⟨trivial, ⟨trivial, trivial⟩⟩, ⟨rfl, ⟨⟨rfl, ⟨⟨trivial, trivial⟩, trivial⟩⟩, ⟨trivial, ⟨fun a c d f g i r A C s t u x y D E F G I l m n o w h => h, fun _ a c d f g i r A C s t u x y D E F G I l m n o w h => h, fun J => ⟨trivial, ⟨⟨trivial, trivial⟩, ⟨⟨trivial, ⟨trivial, fun a c d f g i r A C L s t u x y D E F G I M l m n o w h => h, ⟨⟨trivial, trivial⟩, ⟨trivial, ⟨trivial, trivial⟩⟩⟩⟩⟩, trivial⟩⟩⟩⟩⟩⟩⟩⟩⟩, trivial⟩⟩⟩⟩⟩, ⟨trivial, ⟨trivial, trivial⟩⟩⟩⟩⟩, ⟨trivial, trivial⟩⟩⟩⟩⟩⟩)
theorem V49.cfgOk (B : Nat) : CfgOk (V49.cfg B) := cfgOk_of (by kernel_rfl) (by kernel_rfl) extNil
theorem V49.sound {a : Option Addr} {d f : Nat} {g : Option Addr} {i j : Nat} {w : World} {R : Value → World → Prop} (h : V49.vc w.heap.size R a d f g i j w) : Calls Try.prog 49 ⟨[.agg ⟨[.slice a d f]⟩, .slice g i j]⟩ w fun e w' => ∃ v, e = .returned v ∧ R v w' :=
 calls_wpfP (c := V49.cfg w.heap.size) (fn := Try.f49) (x := V49.code) (V49.cuts w.heap.size R) V49.h (V49.cfgOk _) mixed Try.func49 (by kernel_rfl) (by kernel_rfl) (by kernel_rfl) rfl (V49.obl _ _) ((V49.vc_eq _ _ a d f g i j _).symm ▸ h)
def V53.b0 (B : Nat) (R : Value → World → Prop) (a : Int) (c : Nat) (d f g : Int) (i : Nat) (j l m : Int) (n : Option Addr) (o p q : Nat) (r : Option Addr) (s t : Nat) (w : World) : Prop :=
 if (a == 1) = true
 then (if (decide (f ≥ (-2147483648))) = true
 then (Ret B w (R (.bool (decide (f ≤ 2147483648)))))
 else (Ret B w (R (.bool false))))
 else (if (a == 2) = true
 then (CallK Try.prog 79 [.int .i64 f, .int .i64 6] B w [c, i, q] fun v u => 
 ∃ x : Bool, v = .bool x ∧
 Ret B u (R (.bool x)))
 else (if (a == 3) = true
 then (CallK Try.prog 79 [.int .i64 f, .int .i64 (IntKind.wrap .i64 (l - m))] B w [c, i, q] fun v u => 
 ∃ y : Bool, v = .bool y ∧
 Ret B u (R (.bool y)))
 else (if (a == 4) = true
 then (CallK Try.prog 79 [.int .i64 f, .int .i64 (o : Int)] B w [c, i, q] fun v u => 
 ∃ z : Bool, v = .bool z ∧
 Ret B u (R (.bool z)))
 else (if (a == 5) = true
 then (CallK Try.prog 79 [.int .i64 f, .int .i64 (s : Int)] B w [c, i, q] fun v u => 
 ∃ A : Bool, v = .bool A ∧
 Ret B u (R (.bool A)))
 else (if (a == 6) = true
 then (CallK Try.prog 79 [.int .i64 f, .int .i64 m] B w [c, i, q] fun v u => 
 ∃ C : Bool, v = .bool C ∧
 Ret B u (R (.bool C)))
 else (if (a == 7) = true
 then (CallK Try.prog 79 [.int .i64 f, .int .i64 m] B w [c, i, q] fun v u => 
 ∃ D : Bool, v = .bool D ∧
 if D = true
 then (CallK Try.prog 79 [.int .i64 g, .int .i64 m] B u [c, i, q] fun E F => 
 ∃ G : Bool, E = .bool G ∧
 Ret B F (R (.bool G)))
 else (Ret B u (R (.bool false))))
 else (Ret B w (R (.bool (f == 0))))))))))
def V53.vc (B : Nat) (R : Value → World → Prop) (a : Option Addr) (c d : Nat) (f g i : Int) (j : Option Addr) (l m : Nat) (n o p : Int) (w : World) : Prop :=
 ∀ q : Nat, w.heap.size ≤ q →
 ∀ r : Nat, w.heap.size ≤ r →
 ∀ s : Nat, w.heap.size ≤ s →
 CallK Try.prog 78 [.int .i64 n] B w [s, r, q] fun v t => 
 ∃ (u x y : Int) (z : Bool), v = .tuple ⟨[.int .i64 u, .int .i64 x, .int .i64 y, .bool z]⟩ ∧
 if (!z) = false
 then (if (u != 7) = true
 then (if (p != 0) = true
 then (Ret B t (R (.bool false)))
 else (V53.b0 B R u s n o p r f g i j l m q a c d t))
 else (V53.b0 B R u s n o p r f g i j l m q a c d t))
 else (Ret B t (R (.bool false)))
noncomputable def V53.cfg (B : Nat) : Cfg := ⟨Try.prog, ⟨96, B⟩, [], hasN [78, 79], hasN [], look []⟩
noncomputable def V53.code : Code := (Try.f53.body).getD .skip
noncomputable def V53.cuts (B : Nat) (R : Value → World → Prop) : Nat → Cut := nthC [⟨[(7, .one (.int .i64))], [(5, 23, [.int .i64, .int .i64, .int .i64]), (4, 26, [.int .i64, .int .i64, .int .i64, .slice]), (3, 34, [.slice])], fun fs vs bs w => V53.b0 B R (iV (nthV vs 0)) (nthB bs 0).blk (iV (nthV (nthB bs 0).cells 0)) (iV (nthV (nthB bs 0).cells 1)) (iV (nthV (nthB bs 0).cells 2)) (nthB bs 1).blk (iV (nthV (nthB bs 1).cells 0)) (iV (nthV (nthB bs 1).cells 1)) (iV (nthV (nthB bs 1).cells 2)) (slA (nthV (nthB bs 1).cells 3)) (slL (nthV (nthB bs 1).cells 3)) (slC (nthV (nthB bs 1).cells 3)) (nthB bs 2).blk (slA (nthV (nthB bs 2).cells 0)) (slL (nthV (nthB bs 2).cells 0)) (slC (nthV (nthB bs 2).cells 0)) w⟩]
noncomputable def V53.h : H := .s (.z) (.s (.z) (.cut 0 (.s (.z) (.c (.s (.z) (.z)) (.z))) (.s (.s (.z) (.b (.s (.z) (.c (.s (.z) (.z)) (.s (.z) (.c (.s (.z) (.z)) (.s (.z) (.c (.s (.z) (.z)) (.s (.z) (.c (.s (.z) (.z)) (.s (.z) (.c (.s (.z) (.z)) (.s (.z) (.c (.s (.z) (.z)) (.s (.z) (.c (.s (.z) (.z)) (.z))))))))))))))))) (.s (.z) (.z)))))
theorem V53.vc_eq (B : Nat) (R : Value → World → Prop) (a : Option Addr) (c d : Nat) (f g i : Int) (j : Option Addr) (l m : Nat) (n o p : Int) (w : World) : wpf (V53.cfg B) (V53.cuts B R) V53.code V53.h [] (postOf Try.prog B (Try.f53.results.toList) R) (argE 0 [.agg ⟨[.slice a c d]⟩, .agg ⟨[.int .i64 f, .int .i64 g, .int .i64 i, .slice j l m]⟩, .agg ⟨[.int .i64 n, .int .i64 o, .int .i64 p]⟩]) [] w = V53.vc B R a c d f g i j l m n o p w := by kernel_rfl
theorem V53.obl (B : Nat) (R : Value → World → Prop) : oblP (V53.cfg B) (V53.cuts B R) V53.code V53.h [] (postOf Try.prog B (Try.f53.results.toList) R) := by
 have e : oblP (V53.cfg B) (V53.cuts B R) V53.code V53.h [] (postOf Try.prog B (Try.f53.results.toList) R) = (True ∧ (True ∧ ((True ∧ ((True ∧ True) ∧ True)) ∧ (∀ (a : Int) (c : Nat) (d f g : Int) (i : Nat) (j l m : Int) (n : Option Addr) (o p q : Nat) (r : Option Addr) (s t : Nat) (w : World), V53.b0 B R a c d f g i j l m n o p q r s t w → V53.b0 B R a c d f g i j l m n o p q r s t w) ∧ ((True ∧ (True ∧ ((True ∧ True) ∧ (True ∧ ((True ∧ True) ∧ (True ∧ ((True ∧ True) ∧ (True ∧ ((True ∧ True) ∧ (True ∧ ((True ∧ True) ∧ (True ∧ ((True ∧ True) ∧ (True ∧ ((True ∧ True) ∧ True))))))))))))))) ∧ (True ∧ True))))) := by kernel_rfl
 exact e.mpr (⟨trivial, ⟨trivial, ⟨⟨trivial, ⟨⟨trivial, trivial⟩, trivial⟩⟩, fun a c d f g i j l m n o p q r s t w h => h, ⟨⟨trivial, ⟨trivial, ⟨⟨trivial, trivial⟩, ⟨trivial, ⟨⟨trivial, trivial⟩, ⟨trivial, ⟨⟨trivial, trivial⟩, ⟨trivial, ⟨⟨trivial, trivial⟩, ⟨trivial, ⟨⟨trivial, trivial⟩, ⟨trivial, ⟨⟨trivial, trivial⟩, ⟨trivial, ⟨⟨trivial, trivial⟩, trivial⟩⟩⟩⟩⟩⟩⟩⟩⟩⟩⟩⟩⟩⟩⟩, ⟨trivial, trivial⟩⟩⟩⟩⟩)
theorem V53.cfgOk (B : Nat) : CfgOk (V53.cfg B) := cfgOk_of (by kernel_rfl) (by kernel_rfl) extNil
theorem V53.sound {a : Option Addr} {d f : Nat} {g i j : Int} {l : Option Addr} {m n : Nat} {o p q : Int} {w : World} {R : Value → World → Prop} (h : V53.vc w.heap.size R a d f g i j l m n o p q w) : Calls Try.prog 53 ⟨[.agg ⟨[.slice a d f]⟩, .agg ⟨[.int .i64 g, .int .i64 i, .int .i64 j, .slice l m n]⟩, .agg ⟨[.int .i64 o, .int .i64 p, .int .i64 q]⟩]⟩ w fun e w' => ∃ v, e = .returned v ∧ R v w' :=
 calls_wpfP (c := V53.cfg w.heap.size) (fn := Try.f53) (x := V53.code) (V53.cuts w.heap.size R) V53.h (V53.cfgOk _) mixed Try.func53 (by kernel_rfl) (by kernel_rfl) (by kernel_rfl) rfl (V53.obl _ _) ((V53.vc_eq _ _ a d f g i j l m n o p q _).symm ▸ h)
def V79.vc (B : Nat) (R : Value → World → Prop) (a c : Int) (w : World) : Prop :=
 if (decide (a ≥ 0)) = true
 then (Ret B w (R (.bool (decide (a < c)))))
 else (Ret B w (R (.bool false)))
noncomputable def V79.cfg (B : Nat) : Cfg := ⟨Try.prog, ⟨12, B⟩, [], hasN [], hasN [], look []⟩
noncomputable def V79.code : Code := (Try.f79.body).getD .skip
noncomputable def V79.cuts (B : Nat) (R : Value → World → Prop) : Nat → Cut := nthC []
noncomputable def V79.h : H := .s (.z) (.s (.z) (.z))
theorem V79.vc_eq (B : Nat) (R : Value → World → Prop) (a c : Int) (w : World) : wpf (V79.cfg B) (V79.cuts B R) V79.code V79.h [] (postOf Try.prog B (Try.f79.results.toList) R) (argE 0 [.int .i64 a, .int .i64 c]) [] w = V79.vc B R a c w := by kernel_rfl
theorem V79.obl (B : Nat) (R : Value → World → Prop) : oblP (V79.cfg B) (V79.cuts B R) V79.code V79.h [] (postOf Try.prog B (Try.f79.results.toList) R) := by
 have e : oblP (V79.cfg B) (V79.cuts B R) V79.code V79.h [] (postOf Try.prog B (Try.f79.results.toList) R) = (True ∧ (True ∧ True)) := by kernel_rfl
 exact e.mpr (⟨trivial, ⟨trivial, trivial⟩⟩)
theorem V79.cfgOk (B : Nat) : CfgOk (V79.cfg B) := cfgOk_of (by kernel_rfl) (by kernel_rfl) extNil
theorem V79.sound {a d : Int} {w : World} {R : Value → World → Prop} (h : V79.vc w.heap.size R a d w) : Calls Try.prog 79 ⟨[.int .i64 a, .int .i64 d]⟩ w fun e w' => ∃ v, e = .returned v ∧ R v w' :=
 calls_wpfP (c := V79.cfg w.heap.size) (fn := Try.f79) (x := V79.code) (V79.cuts w.heap.size R) V79.h (V79.cfgOk _) mixed Try.func79 (by kernel_rfl) (by kernel_rfl) (by kernel_rfl) rfl (V79.obl _ _) ((V79.vc_eq _ _ a d _).symm ▸ h)
def V97.vc (B : Nat) (R : Value → World → Prop) (a c : Int) (w : World) : Prop :=
 if (decide (a ≥ 0)) = true
 then (Ret B w (R (.bool (decide (a < c)))))
 else (Ret B w (R (.bool false)))
noncomputable def V97.cfg (B : Nat) : Cfg := ⟨Try.prog, ⟨12, B⟩, [], hasN [], hasN [], look []⟩
noncomputable def V97.code : Code := (Try.f97.body).getD .skip
noncomputable def V97.cuts (B : Nat) (R : Value → World → Prop) : Nat → Cut := nthC []
noncomputable def V97.h : H := .s (.z) (.s (.z) (.z))
theorem V97.vc_eq (B : Nat) (R : Value → World → Prop) (a c : Int) (w : World) : wpf (V97.cfg B) (V97.cuts B R) V97.code V97.h [] (postOf Try.prog B (Try.f97.results.toList) R) (argE 0 [.int .i64 a, .int .i64 c]) [] w = V97.vc B R a c w := by kernel_rfl
theorem V97.obl (B : Nat) (R : Value → World → Prop) : oblP (V97.cfg B) (V97.cuts B R) V97.code V97.h [] (postOf Try.prog B (Try.f97.results.toList) R) := by
 have e : oblP (V97.cfg B) (V97.cuts B R) V97.code V97.h [] (postOf Try.prog B (Try.f97.results.toList) R) = (True ∧ (True ∧ True)) := by kernel_rfl
 exact e.mpr (⟨trivial, ⟨trivial, trivial⟩⟩)
theorem V97.cfgOk (B : Nat) : CfgOk (V97.cfg B) := cfgOk_of (by kernel_rfl) (by kernel_rfl) extNil
theorem V97.sound {a d : Int} {w : World} {R : Value → World → Prop} (h : V97.vc w.heap.size R a d w) : Calls Try.prog 97 ⟨[.int .i64 a, .int .i64 d]⟩ w fun e w' => ∃ v, e = .returned v ∧ R v w' :=
 calls_wpfP (c := V97.cfg w.heap.size) (fn := Try.f97) (x := V97.code) (V97.cuts w.heap.size R) V97.h (V97.cfgOk _) mixed Try.func97 (by kernel_rfl) (by kernel_rfl) (by kernel_rfl) rfl (V97.obl _ _) ((V97.vc_eq _ _ a d _).symm ▸ h)
def V77.b0 (B : Nat) (R : Value → World → Prop) (a c : Int) (d : Bool) (f : Nat) (g i j : Int) (w : World) : Prop :=
 if d = true
 then (Ret B w (R (.slice none 0 0)))
 else (if (c == 15) = true
 then (Expo B w [f] fun l => 
 Hide [f] (l.alloc (.cells ⟨[.int .i64 i]⟩ 3)) fun m => 
 Ret B m (R (.slice (some ⟨l.heap.size, 0, none⟩) 1 1)))
 else (if (c == 16) = true
 then (Expo B w [f] fun l => 
 Hide [f] (l.alloc (.cells ⟨[.int .i64 i, .int .i64 (IntKind.wrap .i64 (a + 1))]⟩ 3)) fun m => 
 Ret B m (R (.slice (some ⟨l.heap.size, 0, none⟩) 2 2)))
 else (Expo B w [f] fun l => 
 Hide [f] (l.alloc (.cells ⟨[.int .i64 (IntKind.wrap .i64 (a + 1))]⟩ 3)) fun m => 
 Ret B m (R (.slice (some ⟨l.heap.size, 0, none⟩) 1 1)))))
def V77.vc (B : Nat) (R : Value → World → Prop) (a c d f : Int) (w : World) : Prop :=
 ∀ g : Nat, w.heap.size ≤ g →
 if (c == 18) = true
 then (V77.b0 B R a c (c == 18) g c d f w)
 else (V77.b0 B R a c (c == 20) g c d f w)
noncomputable def V77.cfg (B : Nat) : Cfg := ⟨Try.prog, ⟨25, B⟩, [], hasN [], hasN [], look []⟩
noncomputable def V77.code : Code := (Try.f77.body).getD .skip
noncomputable def V77.cuts (B : Nat) (R : Value → World → Prop) : Nat → Cut := nthC [⟨[(0, .one (.int .i64)), (6, .one (.int .i64)), (7, .one (.bool))], [(3, 23, [.int .i64, .int .i64, .int .i64])], fun fs vs bs w => V77.b0 B R (iV (nthV vs 0)) (iV (nthV vs 1)) (bV (nthV vs 2)) (nthB bs 0).blk (iV (nthV (nthB bs 0).cells 0)) (iV (nthV (nthB bs 0).cells 1)) (iV (nthV (nthB bs 0).cells 2)) w⟩]
noncomputable def V77.h : H := .s (.z) (.s (.s (.z) (.b (.cut 0 (.s (.z) (.c (.z) (.z))) (.c (.s (.z) (.z)) (.s (.z) (.c (.s (.z) (.z)) (.s (.z) (.c (.s (.z) (.z)) (.z))))))))) (.s (.z) (.z)))
theorem V77.vc_eq (B : Nat) (R : Value → World → Prop) (a c d f : Int) (w : World) : wpf (V77.cfg B) (V77.cuts B R) V77.code V77.h [] (postOf Try.prog B (Try.f77.results.toList) R) (argE 0 [.int .i64 a, .agg ⟨[.int .i64 c, .int .i64 d, .int .i64 f]⟩]) [] w = V77.vc B R a c d f w := by kernel_rfl
theorem V77.obl (B : Nat) (R : Value → World → Prop) : oblP (V77.cfg B) (V77.cuts B R) V77.code V77.h [] (postOf Try.prog B (Try.f77.results.toList) R) := by
 have e : oblP (V77.cfg B) (V77.cuts B R) V77.code V77.h [] (postOf Try.prog B (Try.f77.results.toList) R) = (True ∧ ((True ∧ ((True ∧ (True ∧ True)) ∧ (∀ (a c : Int) (d : Bool) (f : Nat) (g i j : Int) (w : World), V77.b0 B R a c d f g i j w → V77.b0 B R a c d f g i j w) ∧ ((True ∧ True) ∧ (True ∧ ((True ∧ True) ∧ (True ∧ ((True ∧ True) ∧ True))))))) ∧ (True ∧ True))) := by kernel_rfl
 exact e.mpr (⟨trivial, ⟨⟨trivial, ⟨⟨trivial, ⟨trivial, trivial⟩⟩, fun a c d f g i j w h => h, ⟨⟨trivial, trivial⟩, ⟨trivial, ⟨⟨trivial, trivial⟩, ⟨trivial, ⟨⟨trivial, trivial⟩, trivial⟩⟩⟩⟩⟩⟩⟩, ⟨trivial, trivial⟩⟩⟩)
theorem V77.cfgOk (B : Nat) : CfgOk (V77.cfg B) := cfgOk_of (by kernel_rfl) (by kernel_rfl) extNil
theorem V77.sound {a d f g : Int} {w : World} {R : Value → World → Prop} (h : V77.vc w.heap.size R a d f g w) : Calls Try.prog 77 ⟨[.int .i64 a, .agg ⟨[.int .i64 d, .int .i64 f, .int .i64 g]⟩]⟩ w fun e w' => ∃ v, e = .returned v ∧ R v w' :=
 calls_wpfP (c := V77.cfg w.heap.size) (fn := Try.f77) (x := V77.code) (V77.cuts w.heap.size R) V77.h (V77.cfgOk _) mixed Try.func77 (by kernel_rfl) (by kernel_rfl) (by kernel_rfl) rfl (V77.obl _ _) ((V77.vc_eq _ _ a d f g _).symm ▸ h)
end Go.Proofs.Ytidcpndlloppdaa
