import Derived.Test.YtidcpndlloppdaaZWA
/-
  What the engine makes of the loaded functions 29, 47, 48: conditions under which a call returns as told, and proofs of that.
  Conditions: none. Printed by a program of this project.
-/
set_option linter.unusedVariables false
set_option maxRecDepth 100000
namespace Go.Proofs.Ytidcpndlloppdaa
def V29.l3 (B : Nat) (R : Value → World → Prop) : Nat → Option Addr → Nat → Nat → Int → Int → Nat → Option Addr → Nat → Nat → World → Prop
  | 0 => fun _ _ _ _ _ _ _ _ _ _ => False
  | k + 1 => fun a c d f g i j l m w =>
    if (decide (g < f)) = true
    then (∃ n : Addr, a = some n ∧ (0 : Int) ≤ g ∧ g < (c : Int) ∧
    ∃ o : Int, w.cell? ((n.add (g.toNat * 2)).add 0) = some (.int .i64 o) ∧
    ∃ (p : Option Addr) (q r : Nat), w.cell? ((n.add (g.toNat * 2)).add 1) = some (.slice p q r) ∧
    ∀ s : Nat, w.heap.size ≤ s →
    CallK Try.prog 47 [.agg ⟨[.slice j l m]⟩, .int .i64 o] B w [s, i] fun v t => 
     ∃ (u x y : Int) (z : Option Addr) (A C : Nat) (D : Bool), v = .tuple ⟨[.agg ⟨[.int .i64 u, .int .i64 x, .int .i64 y, .slice z A C]⟩, .bool D]⟩ ∧
     ∀ E : Nat, t.heap.size ≤ E →
     if (!D) = false
     then (if ((q : Int) != u) = true
      then (Ret B t (R (.bool false)))
      else ((V29.l3 B R k) a c d f (IntKind.wrap .i64 (g + 1)) i j l m t))
     else (Ret B t (R (.bool false))))
    else (Ret B w (R (.bool true)))
def V29.b2 (B : Nat) (R : Value → World → Prop) (a : Nat) (c d f : Int) (g : Bool) (i : Int) (j : Option Addr) (l m : Nat) (n : Option Addr) (o p : Nat) (q : Option Addr) (r s t : Nat) (u : Option Addr) (x y : Nat) (w : World) : Prop :=
  ∃ z, V29.l3 B R z j l m (l : Int) 0 t u x y w
def V29.b1 (B : Nat) (R : Value → World → Prop) (a c : Bool) (d : Nat) (f g i : Int) (j : Bool) (l : Int) (m : Option Addr) (n o : Nat) (p : Option Addr) (q r : Nat) (s : Option Addr) (t u x : Nat) (y : Option Addr) (z A : Nat) (w : World) : Prop :=
  if c = true
  then (Ret B w (R (.bool false)))
  else (if (decide ((n : Int) > 0)) = true
   then (if (!a) = true
    then (Ret B w (R (.bool false)))
    else (V29.b2 B R d f g i j l m n o p q r s t u x y z A w))
   else (V29.b2 B R d f g i j l m n o p q r s t u x y z A w))
def V29.b0 (B : Nat) (R : Value → World → Prop) (a c : Bool) (d : Nat) (f g i : Int) (j : Option Addr) (l m n : Nat) (o p q : Int) (r : Bool) (s : Int) (t : Option Addr) (u x : Nat) (y : Option Addr) (z A : Nat) (C : Option Addr) (D E F : Nat) (G : Option Addr) (I J : Nat) (w : World) : Prop :=
  if c = true
  then (Ret B w (R (.bool false)))
  else (if ((z : Int) != g) = false
   then (if (decide ((D : Int) > 8)) = false
    then (V29.b1 B R a (decide ((u : Int) > 4)) n o p q r s t u x y z A C D E F G I J w)
    else (V29.b1 B R a true n o p q r s t u x y z A C D E F G I J w))
   else (V29.b1 B R a true n o p q r s t u x y z A C D E F G I J w))
def V29.vc (B : Nat) (R : Value → World → Prop) (a : Option Addr) (c d : Nat) (f g i : Int) (j : Bool) (l : Int) (m : Option Addr) (n o : Nat) (p : Option Addr) (q r : Nat) (s : Option Addr) (t u : Nat) (w : World) : Prop :=
  ∀ x : Nat, w.heap.size ≤ x →
  ∀ y : Nat, w.heap.size ≤ y →
  CallK Try.prog 47 [.agg ⟨[.slice a c d]⟩, .int .i64 f] B w [y, x] fun v z => 
  ∃ (A C D : Int) (E : Option Addr) (F G : Nat) (I : Bool), v = .tuple ⟨[.agg ⟨[.int .i64 A, .int .i64 C, .int .i64 D, .slice E F G]⟩, .bool I]⟩ ∧
  ∀ J : Nat, z.heap.size ≤ J →
  if (!I) = true
  then (Ret B z (R (.bool false)))
  else (CallK Try.prog 48 [.agg ⟨[.int .i64 A, .int .i64 C, .int .i64 D, .slice E F G]⟩] B z [J, y, x] fun L M => 
   ∃ (N : Int) (O : Bool), L = .tuple ⟨[.int .i64 N, .bool O]⟩ ∧
   if (decide (g < 0)) = false
   then (if (decide (g > (F : Int))) = false
    then (if (decide (i < 0)) = false
     then (V29.b0 B R O (decide (i > 2)) J A C D E F G y f g i j l m n o p q r s t u x a c d M)
     else (V29.b0 B R O true J A C D E F G y f g i j l m n o p q r s t u x a c d M))
    else (V29.b0 B R O true J A C D E F G y f g i j l m n o p q r s t u x a c d M))
   else (V29.b0 B R O true J A C D E F G y f g i j l m n o p q r s t u x a c d M))
noncomputable def V29.cfg (B : Nat) : Cfg := ⟨Try.prog, ⟨102, B⟩, [], hasN [47, 48], hasN [], look []⟩
noncomputable def V29.code : Code := (Try.f29.body).getD .skip
noncomputable def V29.cuts (B : Nat) (R : Value → World → Prop) : Nat → Cut := nthC [⟨[(8, .one (.bool)), (27, .one (.bool))], [(5, 26, [.int .i64, .int .i64, .int .i64, .slice]), (3, 66, [.int .i64, .int .i64, .int .i64, .bool, .int .u64, .slice, .slice, .slice]), (2, 34, [.slice])], fun fs vs bs w => V29.b0 B R (bV (nthV vs 0)) (bV (nthV vs 1)) (nthB bs 0).blk (iV (nthV (nthB bs 0).cells 0)) (iV (nthV (nthB bs 0).cells 1)) (iV (nthV (nthB bs 0).cells 2)) (slA (nthV (nthB bs 0).cells 3)) (slL (nthV (nthB bs 0).cells 3)) (slC (nthV (nthB bs 0).cells 3)) (nthB bs 1).blk (iV (nthV (nthB bs 1).cells 0)) (iV (nthV (nthB bs 1).cells 1)) (iV (nthV (nthB bs 1).cells 2)) (bV (nthV (nthB bs 1).cells 3)) (iV (nthV (nthB bs 1).cells 4)) (slA (nthV (nthB bs 1).cells 5)) (slL (nthV (nthB bs 1).cells 5)) (slC (nthV (nthB bs 1).cells 5)) (slA (nthV (nthB bs 1).cells 6)) (slL (nthV (nthB bs 1).cells 6)) (slC (nthV (nthB bs 1).cells 6)) (slA (nthV (nthB bs 1).cells 7)) (slL (nthV (nthB bs 1).cells 7)) (slC (nthV (nthB bs 1).cells 7)) (nthB bs 2).blk (slA (nthV (nthB bs 2).cells 0)) (slL (nthV (nthB bs 2).cells 0)) (slC (nthV (nthB bs 2).cells 0)) w⟩,
  ⟨[(8, .one (.bool)), (49, .one (.bool))], [(3, 66, [.int .i64, .int .i64, .int .i64, .bool, .int .u64, .slice, .slice, .slice]), (2, 34, [.slice])], fun fs vs bs w => V29.b1 B R (bV (nthV vs 0)) (bV (nthV vs 1)) (nthB bs 0).blk (iV (nthV (nthB bs 0).cells 0)) (iV (nthV (nthB bs 0).cells 1)) (iV (nthV (nthB bs 0).cells 2)) (bV (nthV (nthB bs 0).cells 3)) (iV (nthV (nthB bs 0).cells 4)) (slA (nthV (nthB bs 0).cells 5)) (slL (nthV (nthB bs 0).cells 5)) (slC (nthV (nthB bs 0).cells 5)) (slA (nthV (nthB bs 0).cells 6)) (slL (nthV (nthB bs 0).cells 6)) (slC (nthV (nthB bs 0).cells 6)) (slA (nthV (nthB bs 0).cells 7)) (slL (nthV (nthB bs 0).cells 7)) (slC (nthV (nthB bs 0).cells 7)) (nthB bs 1).blk (slA (nthV (nthB bs 1).cells 0)) (slL (nthV (nthB bs 1).cells 0)) (slC (nthV (nthB bs 1).cells 0)) w⟩,
  ⟨[], [(3, 66, [.int .i64, .int .i64, .int .i64, .bool, .int .u64, .slice, .slice, .slice]), (2, 34, [.slice])], fun fs vs bs w => V29.b2 B R (nthB bs 0).blk (iV (nthV (nthB bs 0).cells 0)) (iV (nthV (nthB bs 0).cells 1)) (iV (nthV (nthB bs 0).cells 2)) (bV (nthV (nthB bs 0).cells 3)) (iV (nthV (nthB bs 0).cells 4)) (slA (nthV (nthB bs 0).cells 5)) (slL (nthV (nthB bs 0).cells 5)) (slC (nthV (nthB bs 0).cells 5)) (slA (nthV (nthB bs 0).cells 6)) (slL (nthV (nthB bs 0).cells 6)) (slC (nthV (nthB bs 0).cells 6)) (slA (nthV (nthB bs 0).cells 7)) (slL (nthV (nthB bs 0).cells 7)) (slC (nthV (nthB bs 0).cells 7)) (nthB bs 1).blk (slA (nthV (nthB bs 1).cells 0)) (slL (nthV (nthB bs 1).cells 0)) (slC (nthV (nthB bs 1).cells 0)) w⟩,
  ⟨[(78, .one (.slice)), (79, .one (.int .i64)), (80, .one (.int .i64))], [(2, 34, [.slice])], fun fs vs bs w => V29.l3 B R (nthN fs 0) (slA (nthV vs 0)) (slL (nthV vs 0)) (slC (nthV vs 0)) (iV (nthV vs 1)) (iV (nthV vs 2)) (nthB bs 0).blk (slA (nthV (nthB bs 0).cells 0)) (slL (nthV (nthB bs 0).cells 0)) (slC (nthV (nthB bs 0).cells 0)) w⟩]
noncomputable def V29.h : H := .s (.z) (.s (.z) (.s (.s (.z) (.c (.s (.z) (.z)) (.z))) (.s (.z) (.cut 2 (.b (.cut 0 (.z) (.c (.s (.z) (.z)) (.cut 1 (.z) (.c (.s (.z) (.z)) (.s (.z) (.c (.s (.z) (.z)) (.z)))))))) (.s (.s (.z) (.b (.l 3 (.s (.z) (.s (.c (.z) (.z)) (.s (.b (.s (.z) (.s (.z) (.s (.z) (.c (.s (.z) (.z)) (.z)))))) (.z))))))) (.s (.z) (.z)))))))
theorem V29.vc_eq (B : Nat) (R : Value → World → Prop) (a : Option Addr) (c d : Nat) (f g i : Int) (j : Bool) (l : Int) (m : Option Addr) (n o : Nat) (p : Option Addr) (q r : Nat) (s : Option Addr) (t u : Nat) (w : World) : wpf (V29.cfg B) (V29.cuts B R) V29.code V29.h [] (postOf Try.prog B (Try.f29.results.toList) R) (argE 0 [.agg ⟨[.slice a c d]⟩, .agg ⟨[.int .i64 f, .int .i64 g, .int .i64 i, .bool j, .int .u64 l, .slice m n o, .slice p q r, .slice s t u]⟩]) [] w = V29.vc B R a c d f g i j l m n o p q r s t u w := by kernel_rfl
theorem V29.obl (B : Nat) (R : Value → World → Prop) : oblP (V29.cfg B) (V29.cuts B R) V29.code V29.h [] (postOf Try.prog B (Try.f29.results.toList) R) := by
  have e : oblP (V29.cfg B) (V29.cuts B R) V29.code V29.h [] (postOf Try.prog B (Try.f29.results.toList) R) = (True ∧ (True ∧ ((True ∧ ((True ∧ True) ∧ True)) ∧ (True ∧ ((True ∧ (∀ (a c : Bool) (d : Nat) (f g i : Int) (j : Option Addr) (l m n : Nat) (o p q : Int) (r : Bool) (s : Int) (t : Option Addr) (u x : Nat) (y : Option Addr) (z A : Nat) (C : Option Addr) (D E F : Nat) (G : Option Addr) (I J : Nat) (w : World), V29.b0 B R a c d f g i j l m n o p q r s t u x y z A C D E F G I J w → V29.b0 B R a c d f g i j l m n o p q r s t u x y z A C D E F G I J w) ∧ ((True ∧ True) ∧ (True ∧ (∀ (a L : Bool) (n : Nat) (o p q : Int) (r : Bool) (s : Int) (t : Option Addr) (u x : Nat) (y : Option Addr) (z A : Nat) (C : Option Addr) (D E F : Nat) (G : Option Addr) (I J : Nat) (w : World), V29.b1 B R a L n o p q r s t u x y z A C D E F G I J w → V29.b1 B R a L n o p q r s t u x y z A C D E F G I J w) ∧ ((True ∧ True) ∧ (True ∧ ((True ∧ True) ∧ True)))))) ∧ (∀ (n : Nat) (o p q : Int) (r : Bool) (s : Int) (t : Option Addr) (u x : Nat) (y : Option Addr) (z A : Nat) (C : Option Addr) (D E F : Nat) (G : Option Addr) (I J : Nat) (w : World), V29.b2 B R n o p q r s t u x y z A C D E F G I J w → V29.b2 B R n o p q r s t u x y z A C D E F G I J w) ∧ ((True ∧ ((∀ (M : Option Addr) (N O : Nat) (P Q : Int) (F : Nat) (G : Option Addr) (I J : Nat) (w : World), ¬ V29.l3 B R 0 M N O P Q F G I J w) ∧ (∀ S, ∀ (M : Option Addr) (N O : Nat) (P Q : Int) (F : Nat) (G : Option Addr) (I J : Nat) (w : World), V29.l3 B R (S + 1) M N O P Q F G I J w → V29.l3 B R (S + 1) M N O P Q F G I J w) ∧ ∀ S : Nat, (True ∧ ((True ∧ True) ∧ ((True ∧ (True ∧ (True ∧ ((True ∧ True) ∧ True)))) ∧ True))))) ∧ (True ∧ True))))))) := by kernel_rfl
  exact e.mpr (⟨trivial, ⟨trivial, ⟨⟨trivial, ⟨⟨trivial, trivial⟩, trivial⟩⟩, ⟨trivial, ⟨⟨trivial, fun a c d f g i j l m n o p q r s t u x y z A C D E F G I J w h => h, ⟨⟨trivial, trivial⟩, ⟨trivial, fun a L n o p q r s t u x y z A C D E F G I J w h => h, ⟨⟨trivial, trivial⟩, ⟨trivial, ⟨⟨trivial, trivial⟩, trivial⟩⟩⟩⟩⟩⟩, fun n o p q r s t u x y z A C D E F G I J w h => h, ⟨⟨trivial, ⟨fun M N O P Q F G I J w h => h, fun _ M N O P Q F G I J w h => h, fun S => ⟨trivial, ⟨⟨trivial, trivial⟩, ⟨⟨trivial, ⟨trivial, ⟨trivial, ⟨⟨trivial, trivial⟩, trivial⟩⟩⟩⟩, trivial⟩⟩⟩⟩⟩, ⟨trivial, trivial⟩⟩⟩⟩⟩⟩⟩)
theorem V29.cfgOk (B : Nat) : CfgOk (V29.cfg B) := cfgOk_of (by kernel_rfl) (by kernel_rfl) extNil
theorem V29.sound {a : Option Addr} {d f : Nat} {g i j : Int} {l : Bool} {m : Int} {n : Option Addr} {o p : Nat} {q : Option Addr} {r s : Nat} {t : Option Addr} {u y : Nat} {w : World} {R : Value → World → Prop} (h : V29.vc w.heap.size R a d f g i j l m n o p q r s t u y w) : Calls Try.prog 29 ⟨[.agg ⟨[.slice a d f]⟩, .agg ⟨[.int .i64 g, .int .i64 i, .int .i64 j, .bool l, .int .u64 m, .slice n o p, .slice q r s, .slice t u y]⟩]⟩ w fun e w' => ∃ v, e = .returned v ∧ R v w' :=
  calls_wpfP (c := V29.cfg w.heap.size) (fn := Try.f29) (x := V29.code) (V29.cuts w.heap.size R) V29.h (V29.cfgOk _) mixed Try.func29 (by kernel_rfl) (by kernel_rfl) (by kernel_rfl) rfl (V29.obl _ _) ((V29.vc_eq _ _ a d f g i j l m n o p q r s t u y _).symm ▸ h)
def V47.vc (B : Nat) (R : Value → World → Prop) (a : Option Addr) (c d : Nat) (f : Int) (w : World) : Prop :=
  ∀ g : Nat, w.heap.size ≤ g →
  ∀ i : Nat, w.heap.size ≤ i →
  if (decide (f < 0)) = false
  then (if (decide (f ≥ (c : Int))) = true
   then (Ret B w (R (.tuple ⟨[.agg ⟨[.int .i64 0, .int .i64 0, .int .i64 0, .slice none 0 0]⟩, .bool false]⟩)))
   else (∃ j : Addr, a = some j ∧ (0 : Int) ≤ f ∧ f < (c : Int) ∧
   ∃ l : Int, w.cell? ((j.add (f.toNat * 4)).add 0) = some (.int .i64 l) ∧
   ∃ m : Int, w.cell? ((j.add (f.toNat * 4)).add 1) = some (.int .i64 m) ∧
   ∃ n : Int, w.cell? ((j.add (f.toNat * 4)).add 2) = some (.int .i64 n) ∧
   ∃ (o : Option Addr) (p q : Nat), w.cell? ((j.add (f.toNat * 4)).add 3) = some (.slice o p q) ∧
   ∃ r : Addr, a = some r ∧ (0 : Int) ≤ f ∧ f < (c : Int) ∧
   ∃ s : Int, w.cell? ((r.add (f.toNat * 4)).add 0) = some (.int .i64 s) ∧
   ∃ t : Int, w.cell? ((r.add (f.toNat * 4)).add 1) = some (.int .i64 t) ∧
   ∃ u : Int, w.cell? ((r.add (f.toNat * 4)).add 2) = some (.int .i64 u) ∧
   ∃ (x : Option Addr) (y z : Nat), w.cell? ((r.add (f.toNat * 4)).add 3) = some (.slice x y z) ∧
   CallK Try.prog 72 [.agg ⟨[.int .i64 s, .int .i64 t, .int .i64 u, .slice x y z]⟩] B w [i, g] fun v A => 
    ∃ C : Bool, v = .bool C ∧ A.cell? ((j.add (f.toNat * 4)).add 0) = some (.int .i64 l) ∧ A.cell? ((j.add (f.toNat * 4)).add 1) = some (.int .i64 m) ∧ A.cell? ((j.add (f.toNat * 4)).add 2) = some (.int .i64 n) ∧ A.cell? ((j.add (f.toNat * 4)).add 3) = some (.slice o p q) ∧
    Ret B A (R (.tuple ⟨[.agg ⟨[.int .i64 l, .int .i64 m, .int .i64 n, .slice o p q]⟩, .bool C]⟩))))
  else (Ret B w (R (.tuple ⟨[.agg ⟨[.int .i64 0, .int .i64 0, .int .i64 0, .slice none 0 0]⟩, .bool false]⟩)))
noncomputable def V47.cfg (B : Nat) : Cfg := ⟨Try.prog, ⟨27, B⟩, [], hasN [72], hasN [], look []⟩
noncomputable def V47.code : Code := (Try.f47.body).getD .skip
noncomputable def V47.cuts (B : Nat) (R : Value → World → Prop) : Nat → Cut := nthC []
noncomputable def V47.h : H := .s (.z) (.s (.s (.z) (.c (.s (.z) (.z)) (.z))) (.s (.r [[0, 1, 2, 3, 4, 5, 6, 7, 8, 9, 10, 11, 12]]) (.z)))
theorem V47.vc_eq (B : Nat) (R : Value → World → Prop) (a : Option Addr) (c d : Nat) (f : Int) (w : World) : wpf (V47.cfg B) (V47.cuts B R) V47.code V47.h [] (postOf Try.prog B (Try.f47.results.toList) R) (argE 0 [.agg ⟨[.slice a c d]⟩, .int .i64 f]) [] w = V47.vc B R a c d f w := by kernel_rfl
theorem V47.obl (B : Nat) (R : Value → World → Prop) : oblP (V47.cfg B) (V47.cuts B R) V47.code V47.h [] (postOf Try.prog B (Try.f47.results.toList) R) := by
  have e : oblP (V47.cfg B) (V47.cuts B R) V47.code V47.h [] (postOf Try.prog B (Try.f47.results.toList) R) = (True ∧ ((True ∧ ((True ∧ True) ∧ True)) ∧ ((true = true) ∧ True))) := by kernel_rfl
  exact e.mpr (⟨trivial, ⟨⟨trivial, ⟨⟨trivial, trivial⟩, trivial⟩⟩, ⟨rfl, trivial⟩⟩⟩)
theorem V47.cfgOk (B : Nat) : CfgOk (V47.cfg B) := cfgOk_of (by kernel_rfl) (by kernel_rfl) extNil
theorem V47.sound {a : Option Addr} {d f : Nat} {g : Int} {w : World} {R : Value → World → Prop} (h : V47.vc w.heap.size R a d f g w) : Calls Try.prog 47 ⟨[.agg ⟨[.slice a d f]⟩, .int .i64 g]⟩ w fun e w' => ∃ v, e = .returned v ∧ R v w' :=
  calls_wpfP (c := V47.cfg w.heap.size) (fn := Try.f47) (x := V47.code) (V47.cuts w.heap.size R) V47.h (V47.cfgOk _) mixed Try.func47 (by kernel_rfl) (by kernel_rfl) (by kernel_rfl) rfl (V47.obl _ _) ((V47.vc_eq _ _ a d f g _).symm ▸ h)
def V48.vc (B : Nat) (R : Value → World → Prop) (a c d : Int) (f : Option Addr) (g i : Nat) (w : World) : Prop :=
  ∀ j : Nat, w.heap.size ≤ j →
  CallK Try.prog 31 [.agg ⟨[.int .i64 a, .int .i64 c, .int .i64 d, .slice f g i]⟩] B w [j] fun v l => 
  ∃ m : Int, v = .int .i64 m ∧
  Ret B l (R (.tuple ⟨[.int .i64 (IntKind.wrap .i64 (IntKind.wrap .i64 (m - c) - 8)), .bool (decide (IntKind.wrap .i64 (IntKind.wrap .i64 (m - c) - 8) > 7))]⟩))
noncomputable def V48.cfg (B : Nat) : Cfg := ⟨Try.prog, ⟨14, B⟩, [], hasN [31], hasN [], look []⟩
noncomputable def V48.code : Code := (Try.f48.body).getD .skip
noncomputable def V48.cuts (B : Nat) (R : Value → World → Prop) : Nat → Cut := nthC []
noncomputable def V48.h : H := .s (.z) (.s (.r [[0, 2, 3, 1, 4, 5, 6]]) (.s (.z) (.z)))
theorem V48.vc_eq (B : Nat) (R : Value → World → Prop) (a c d : Int) (f : Option Addr) (g i : Nat) (w : World) : wpf (V48.cfg B) (V48.cuts B R) V48.code V48.h [] (postOf Try.prog B (Try.f48.results.toList) R) (argE 0 [.agg ⟨[.int .i64 a, .int .i64 c, .int .i64 d, .slice f g i]⟩]) [] w = V48.vc B R a c d f g i w := by kernel_rfl
theorem V48.obl (B : Nat) (R : Value → World → Prop) : oblP (V48.cfg B) (V48.cuts B R) V48.code V48.h [] (postOf Try.prog B (Try.f48.results.toList) R) := by
  have e : oblP (V48.cfg B) (V48.cuts B R) V48.code V48.h [] (postOf Try.prog B (Try.f48.results.toList) R) = (True ∧ ((true = true) ∧ (True ∧ True))) := by kernel_rfl
  exact e.mpr (⟨trivial, ⟨rfl, ⟨trivial, trivial⟩⟩⟩)
theorem V48.cfgOk (B : Nat) : CfgOk (V48.cfg B) := cfgOk_of (by kernel_rfl) (by kernel_rfl) extNil
theorem V48.sound {a d f : Int} {g : Option Addr} {i j : Nat} {w : World} {R : Value → World → Prop} (h : V48.vc w.heap.size R a d f g i j w) : Calls Try.prog 48 ⟨[.agg ⟨[.int .i64 a, .int .i64 d, .int .i64 f, .slice g i j]⟩]⟩ w fun e w' => ∃ v, e = .returned v ∧ R v w' :=
  calls_wpfP (c := V48.cfg w.heap.size) (fn := Try.f48) (x := V48.code) (V48.cuts w.heap.size R) V48.h (V48.cfgOk _) mixed Try.func48 (by kernel_rfl) (by kernel_rfl) (by kernel_rfl) rfl (V48.obl _ _) ((V48.vc_eq _ _ a d f g i j _).symm ▸ h)
end Go.Proofs.Ytidcpndlloppdaa
