/-
  What the engine makes of the loaded functions 14, 15, 63, 64, 65, 66: conditions under which a call returns as told, and proofs of that.
  Conditions: none. Printed by a program of this project.
-/
import Derived.Test.YtofblkmibghmbaaDoorZVH
set_option linter.unusedVariables false
set_option maxRecDepth 100000
namespace Go.Proofs.YtofblkmibghmbaaDoor
def V14.vc (B : Nat) (R : Value → World → Prop) (a c : Int) (d : Option Addr) (f g : Nat) (i : Option Addr) (j l : Nat) (m : Option Addr) (n o : Nat) (w : World) : Prop :=
  ∀ p : Nat, w.heap.size ≤ p →
  if (decide ((n : Int) > 50)) = false
  then (if (decide ((j : Int) > 100)) = false
   then (CallK Tryd.prog 62 [.slice m n o] B w [p] fun v q => 
    ∃ r : Bool, v = .bool r ∧
    if r = true
    then (CallK Tryd.prog 54 [] B q [p] fun s t => 
     ∃ u : Bool, s = .bool u ∧
     Ret B t (R (.bool u)))
    else (CallK Tryd.prog 63 [.agg ⟨[.int .i64 a, .int .i64 c, .slice d f g, .slice i j l]⟩, .slice m n o] B q [p] fun s t => 
     ∃ x : Int, s = .int .i64 x ∧
     CallK Tryd.prog 64 [.agg ⟨[.int .i64 a, .int .i64 c, .slice d f g, .slice i j l]⟩, .slice m n o] B t [p] fun y z => 
     ∃ A : Int, y = .int .i64 A ∧
     if (x == A) = true
     then (CallK Tryd.prog 54 [] B z [p] fun C D => 
      ∃ E : Bool, C = .bool E ∧
      Ret B D (R (.bool E)))
     else (Ret B z (R (.bool false)))))
   else (CallK Tryd.prog 54 [] B w [p] fun v q => 
    ∃ u : Bool, v = .bool u ∧
    Ret B q (R (.bool u))))
  else (CallK Tryd.prog 54 [] B w [p] fun v q => 
   ∃ u : Bool, v = .bool u ∧
   Ret B q (R (.bool u)))
noncomputable def V14.cfg (B : Nat) : Cfg := ⟨Tryd.prog, ⟨29, B⟩, [], hasN [54, 62, 63, 64], hasN [], look []⟩
noncomputable def V14.code : Code := (Tryd.f14.body).getD .skip
noncomputable def V14.cuts (B : Nat) (R : Value → World → Prop) : Nat → Cut := nthC []
noncomputable def V14.h : H := .s (.z) (.s (.s (.z) (.c (.s (.z) (.z)) (.z))) (.s (.r [[0, 1, 3, 4, 2, 5, 6, 7, 8, 9, 10]]) (.z)))
theorem V14.vc_eq (B : Nat) (R : Value → World → Prop) (a c : Int) (d : Option Addr) (f g : Nat) (i : Option Addr) (j l : Nat) (m : Option Addr) (n o : Nat) (w : World) : wpf (V14.cfg B) (V14.cuts B R) V14.code V14.h [] (postOf Tryd.prog B (Tryd.f14.results.toList) R) (argE 0 [.agg ⟨[.int .i64 a, .int .i64 c, .slice d f g, .slice i j l]⟩, .slice m n o]) [] w = V14.vc B R a c d f g i j l m n o w := by kernel_rfl
theorem V14.obl (B : Nat) (R : Value → World → Prop) : oblP (V14.cfg B) (V14.cuts B R) V14.code V14.h [] (postOf Tryd.prog B (Tryd.f14.results.toList) R) := by
  have e : oblP (V14.cfg B) (V14.cuts B R) V14.code V14.h [] (postOf Tryd.prog B (Tryd.f14.results.toList) R) = (True ∧ ((True ∧ ((True ∧ True) ∧ True)) ∧ ((true = true) ∧ True))) := by kernel_rfl
  rw [e]
  exact ⟨trivial, ⟨⟨trivial, ⟨⟨trivial, trivial⟩, trivial⟩⟩, ⟨rfl, trivial⟩⟩⟩
theorem V14.cfgOk (B : Nat) : CfgOk (V14.cfg B) := cfgOk_of (by kernel_rfl) (by kernel_rfl) extNil
theorem V14.sound {a d : Int} {f : Option Addr} {g i : Nat} {j : Option Addr} {l m : Nat} {n : Option Addr} {o p : Nat} {w : World} {R : Value → World → Prop} (h : V14.vc w.heap.size R a d f g i j l m n o p w) : Calls Tryd.prog 14 ⟨[.agg ⟨[.int .i64 a, .int .i64 d, .slice f g i, .slice j l m]⟩, .slice n o p]⟩ w fun e w' => ∃ v, e = .returned v ∧ R v w' :=
  calls_wpfP (c := V14.cfg w.heap.size) (fn := Tryd.f14) (x := V14.code) (V14.cuts w.heap.size R) V14.h (V14.cfgOk _) mixed Tryd.func14 (by kernel_rfl) (by kernel_rfl) (by kernel_rfl) rfl (V14.obl _ _) ((V14.vc_eq _ _ a d f g i j l m n o p _).symm ▸ h)
def V63.l3 (B : Nat) (R : Value → World → Prop) (a : Option Addr → Nat → Nat → Int → Int → World → Prop) : Nat → Option Addr → Nat → Nat → Int → Int → Option Addr → Nat → Nat → Int → Int → World → Prop
  | 0 => fun _ _ _ _ _ _ _ _ _ _ _ => False
  | k + 1 => fun c d f g i j l m n o w =>
    if (decide (o < n)) = true
    then (∃ p : Addr, j = some p ∧ (0 : Int) ≤ o ∧ o < (l : Int) ∧
    ∃ q : Int, w.cell? ((p.add (o.toNat * 3)).add 0) = some (.int .i64 q) ∧
    ∃ r : Int, w.cell? ((p.add (o.toNat * 3)).add 1) = some (.int .i64 r) ∧
    ∃ s : Int, w.cell? ((p.add (o.toNat * 3)).add 2) = some (.int .i64 s) ∧
    ∀ t : Nat, w.heap.size ≤ t →
    CallK Tryd.prog 57 [.agg ⟨[.int .i64 q, .int .i64 r, .int .i64 s]⟩] B w [t] fun v u => 
     ∃ x : Bool, v = .bool x ∧
     if (!x) = true
     then (Ret B u (R (.int .i64 6)))
     else ((V63.l3 B R a k) c d f g i j l m n (IntKind.wrap .i64 (o + 1)) u))
    else (a c d f g (IntKind.wrap .i64 (i + 1)) w)
def V63.l2 (B : Nat) (R : Value → World → Prop) : Nat → Option Addr → Nat → Nat → Int → Int → World → Prop
  | 0 => fun _ _ _ _ _ _ => False
  | k + 1 => fun a c d f g w =>
    if (decide (g < f)) = true
    then (∃ i : Addr, a = some i ∧ (0 : Int) ≤ g ∧ g < (c : Int) ∧
    ∃ (j : Option Addr) (l m : Nat), w.cell? (i.add g.toNat) = some (.slice j l m) ∧
    if (decide ((l : Int) > 40)) = true
     then (Ret B w (R (.int .i64 6)))
     else (∃ n, V63.l3 B R (V63.l2 B R k) n a c d f g j l m (l : Int) 0 w))
    else (Ret B w (R (.int .i64 0)))
def V63.l1 (B : Nat) (R : Value → World → Prop) : Nat → Option Addr → Nat → Nat → Option Addr → Nat → Nat → Int → Int → Nat → Int → Int → Option Addr → Nat → Nat → Option Addr → Nat → Nat → World → Prop
  | 0 => fun _ _ _ _ _ _ _ _ _ _ _ _ _ _ _ _ _ _ => False
  | k + 1 => fun a c d f g i j l m n o p q r s t u w =>
    if (decide (l < j)) = true
    then (∃ x : Addr, f = some x ∧ (0 : Int) ≤ l ∧ l < (g : Int) ∧
    ∃ y : Int, w.cell? (x.add l.toNat) = some (.int .i64 y) ∧
    if (decide (y < 0)) = false
     then (if (decide (y ≥ (q : Int))) = false
      then (∃ z : Addr, p = some z ∧ (0 : Int) ≤ y ∧ y < (q : Int) ∧
      ∃ A : Int, w.cell? ((z.add (y.toNat * 4)).add 0) = some (.int .i64 A) ∧
      if (A != 0) = true
       then (Ret B w (R (.int .i64 1)))
       else ((V63.l1 B R k) a c d f g i j (IntKind.wrap .i64 (l + 1)) m n o p q r s t u w))
      else (Ret B w (R (.int .i64 1))))
     else (Ret B w (R (.int .i64 1))))
    else (if ((c : Int) != o) = true
     then (Ret B w (R (.int .i64 6)))
     else (∃ C, V63.l2 B R C a c d (c : Int) 0 w))
def V63.b0 (B : Nat) (R : Value → World → Prop) (a : Option Addr) (c d f : Nat) (g i : Int) (j : Option Addr) (l m : Nat) (n : Option Addr) (o p : Nat) (w : World) : Prop :=
  ∃ q, V63.l1 B R q a c d n o p (o : Int) 0 f g i j l m n o p w
def V63.vc (B : Nat) (R : Value → World → Prop) (a c : Int) (d : Option Addr) (f g : Nat) (i : Option Addr) (j l : Nat) (m : Option Addr) (n o : Nat) (w : World) : Prop :=
  ∀ p : Nat, w.heap.size ≤ p →
  if (decide (a < 1)) = false
  then (if (decide (a > 256)) = false
   then (if (decide (c < 1)) = false
    then (if (decide (c > 6)) = false
     then (if (decide ((j : Int) > 6)) = true
      then (Ret B w (R (.int .i64 1)))
      else (CallK Tryd.prog 67 [.agg ⟨[.slice d f g]⟩] B w [p] fun v q => 
       ∃ r s t : Int, v = .tuple ⟨[.int .i64 r, .int .i64 s, .int .i64 t]⟩ ∧
       if (r != 0) = true
       then (if (decide ((j : Int) > 0)) = true
        then (Ret B q (R (.int .i64 1)))
        else (V63.b0 B R m n o p a c d f g i j l q))
       else (V63.b0 B R m n o p a c d f g i j l q)))
     else (Ret B w (R (.int .i64 1))))
    else (Ret B w (R (.int .i64 1))))
   else (Ret B w (R (.int .i64 1))))
  else (Ret B w (R (.int .i64 1)))
noncomputable def V63.cfg (B : Nat) : Cfg := ⟨Tryd.prog, ⟨106, B⟩, [], hasN [57, 67], hasN [], look []⟩
noncomputable def V63.code : Code := (Tryd.f63.body).getD .skip
noncomputable def V63.cuts (B : Nat) (R : Value → World → Prop) : Nat → Cut := nthC [⟨[(1, .one (.slice))], [(2, 55, [.int .i64, .int .i64, .slice, .slice])], fun fs vs bs w => V63.b0 B R (slA (nthV vs 0)) (slL (nthV vs 0)) (slC (nthV vs 0)) (nthB bs 0).blk (iV (nthV (nthB bs 0).cells 0)) (iV (nthV (nthB bs 0).cells 1)) (slA (nthV (nthB bs 0).cells 2)) (slL (nthV (nthB bs 0).cells 2)) (slC (nthV (nthB bs 0).cells 2)) (slA (nthV (nthB bs 0).cells 3)) (slL (nthV (nthB bs 0).cells 3)) (slC (nthV (nthB bs 0).cells 3)) w⟩,
  ⟨[(1, .one (.slice)), (54, .one (.slice)), (55, .one (.int .i64)), (56, .one (.int .i64))], [(2, 55, [.int .i64, .int .i64, .slice, .slice])], fun fs vs bs w => V63.l1 B R (nthN fs 0) (slA (nthV vs 0)) (slL (nthV vs 0)) (slC (nthV vs 0)) (slA (nthV vs 1)) (slL (nthV vs 1)) (slC (nthV vs 1)) (iV (nthV vs 2)) (iV (nthV vs 3)) (nthB bs 0).blk (iV (nthV (nthB bs 0).cells 0)) (iV (nthV (nthB bs 0).cells 1)) (slA (nthV (nthB bs 0).cells 2)) (slL (nthV (nthB bs 0).cells 2)) (slC (nthV (nthB bs 0).cells 2)) (slA (nthV (nthB bs 0).cells 3)) (slL (nthV (nthB bs 0).cells 3)) (slC (nthV (nthB bs 0).cells 3)) w⟩,
  ⟨[(86, .one (.slice)), (87, .one (.int .i64)), (88, .one (.int .i64))], [], fun fs vs bs w => V63.l2 B R (nthN fs 0) (slA (nthV vs 0)) (slL (nthV vs 0)) (slC (nthV vs 0)) (iV (nthV vs 1)) (iV (nthV vs 2)) w⟩,
  ⟨[(86, .one (.slice)), (87, .one (.int .i64)), (88, .one (.int .i64)), (95, .one (.slice)), (96, .one (.int .i64)), (97, .one (.int .i64))], [], fun fs vs bs w => V63.l3 B R (V63.l2 B R (nthN fs 1)) (nthN fs 0) (slA (nthV vs 0)) (slL (nthV vs 0)) (slC (nthV vs 0)) (iV (nthV vs 1)) (iV (nthV vs 2)) (slA (nthV vs 3)) (slL (nthV vs 3)) (slC (nthV vs 3)) (iV (nthV vs 4)) (iV (nthV vs 5)) w⟩]
noncomputable def V63.h : H := .s (.z) (.s (.s (.z) (.c (.s (.z) (.z)) (.z))) (.cut 0 (.s (.z) (.s (.z) (.c (.s (.z) (.z)) (.z)))) (.s (.s (.z) (.b (.l 1 (.s (.z) (.s (.c (.z) (.z)) (.s (.b (.s (.z) (.s (.z) (.c (.s (.z) (.z)) (.z))))) (.z))))))) (.s (.s (.z) (.c (.s (.z) (.z)) (.z))) (.s (.s (.z) (.b (.l 2 (.s (.z) (.s (.c (.z) (.z)) (.s (.b (.s (.z) (.s (.s (.z) (.c (.s (.z) (.z)) (.z))) (.s (.z) (.b (.l 3 (.s (.z) (.s (.c (.z) (.z)) (.s (.b (.s (.z) (.s (.z) (.c (.s (.z) (.z)) (.z))))) (.z)))))))))) (.z))))))) (.s (.z) (.z)))))))
theorem V63.vc_eq (B : Nat) (R : Value → World → Prop) (a c : Int) (d : Option Addr) (f g : Nat) (i : Option Addr) (j l : Nat) (m : Option Addr) (n o : Nat) (w : World) : wpf (V63.cfg B) (V63.cuts B R) V63.code V63.h [] (postOf Tryd.prog B (Tryd.f63.results.toList) R) (argE 0 [.agg ⟨[.int .i64 a, .int .i64 c, .slice d f g, .slice i j l]⟩, .slice m n o]) [] w = V63.vc B R a c d f g i j l m n o w := by kernel_rfl
theorem V63.obl (B : Nat) (R : Value → World → Prop) : oblP (V63.cfg B) (V63.cuts B R) V63.code V63.h [] (postOf Tryd.prog B (Tryd.f63.results.toList) R) := by
  have e : oblP (V63.cfg B) (V63.cuts B R) V63.code V63.h [] (postOf Tryd.prog B (Tryd.f63.results.toList) R) = (True ∧ ((True ∧ ((True ∧ True) ∧ True)) ∧ ((True ∧ (True ∧ ((True ∧ True) ∧ True))) ∧ (∀ (a : Option Addr) (c d f : Nat) (g i : Int) (j : Option Addr) (l m : Nat) (n : Option Addr) (o p : Nat) (w : World), V63.b0 B R a c d f g i j l m n o p w → V63.b0 B R a c d f g i j l m n o p w) ∧ ((True ∧ ((∀ (a : Option Addr) (c d : Nat) (q : Option Addr) (r s : Nat) (t u : Int) (f : Nat) (g i : Int) (j : Option Addr) (l m : Nat) (n : Option Addr) (o p : Nat) (w : World), ¬ V63.l1 B R 0 a c d q r s t u f g i j l m n o p w) ∧ (∀ x, ∀ (a : Option Addr) (c d : Nat) (q : Option Addr) (r s : Nat) (t u : Int) (f : Nat) (g i : Int) (j : Option Addr) (l m : Nat) (n : Option Addr) (o p : Nat) (w : World), V63.l1 B R (x + 1) a c d q r s t u f g i j l m n o p w → V63.l1 B R (x + 1) a c d q r s t u f g i j l m n o p w) ∧ ∀ x : Nat, (True ∧ ((True ∧ True) ∧ ((True ∧ (True ∧ ((True ∧ True) ∧ True))) ∧ True))))) ∧ ((True ∧ ((True ∧ True) ∧ True)) ∧ ((True ∧ ((∀ (y : Option Addr) (z A : Nat) (C D : Int) (w : World), ¬ V63.l2 B R 0 y z A C D w) ∧ (∀ E, ∀ (y : Option Addr) (z A : Nat) (C D : Int) (w : World), V63.l2 B R (E + 1) y z A C D w → V63.l2 B R (E + 1) y z A C D w) ∧ ∀ E : Nat, (True ∧ ((True ∧ True) ∧ ((True ∧ ((True ∧ ((True ∧ True) ∧ True)) ∧ (True ∧ ((∀ (y : Option Addr) (z A : Nat) (C D : Int) (F : Option Addr) (G I : Nat) (J L : Int) (w : World), ¬ V63.l3 B R (V63.l2 B R E) 0 y z A C D F G I J L w) ∧ (∀ M, ∀ (y : Option Addr) (z A : Nat) (C D : Int) (F : Option Addr) (G I : Nat) (J L : Int) (w : World), V63.l3 B R (V63.l2 B R E) (M + 1) y z A C D F G I J L w → V63.l3 B R (V63.l2 B R E) (M + 1) y z A C D F G I J L w) ∧ ∀ M : Nat, (True ∧ ((True ∧ True) ∧ ((True ∧ (True ∧ ((True ∧ True) ∧ True))) ∧ True))))))) ∧ True))))) ∧ (True ∧ True))))))) := by kernel_rfl
  rw [e]
  exact ⟨trivial, ⟨⟨trivial, ⟨⟨trivial, trivial⟩, trivial⟩⟩, ⟨⟨trivial, ⟨trivial, ⟨⟨trivial, trivial⟩, trivial⟩⟩⟩, fun a c d f g i j l m n o p w h => h, ⟨⟨trivial, ⟨fun a c d q r s t u f g i j l m n o p w h => h, fun _ a c d q r s t u f g i j l m n o p w h => h, fun x => ⟨trivial, ⟨⟨trivial, trivial⟩, ⟨⟨trivial, ⟨trivial, ⟨⟨trivial, trivial⟩, trivial⟩⟩⟩, trivial⟩⟩⟩⟩⟩, ⟨⟨trivial, ⟨⟨trivial, trivial⟩, trivial⟩⟩, ⟨⟨trivial, ⟨fun y z A C D w h => h, fun _ y z A C D w h => h, fun E => ⟨trivial, ⟨⟨trivial, trivial⟩, ⟨⟨trivial, ⟨⟨trivial, ⟨⟨trivial, trivial⟩, trivial⟩⟩, ⟨trivial, ⟨fun y z A C D F G I J L w h => h, fun _ y z A C D F G I J L w h => h, fun M => ⟨trivial, ⟨⟨trivial, trivial⟩, ⟨⟨trivial, ⟨trivial, ⟨⟨trivial, trivial⟩, trivial⟩⟩⟩, trivial⟩⟩⟩⟩⟩⟩⟩, trivial⟩⟩⟩⟩⟩, ⟨trivial, trivial⟩⟩⟩⟩⟩⟩⟩
theorem V63.cfgOk (B : Nat) : CfgOk (V63.cfg B) := cfgOk_of (by kernel_rfl) (by kernel_rfl) extNil
theorem V63.sound {a d : Int} {f : Option Addr} {g i : Nat} {j : Option Addr} {l m : Nat} {n : Option Addr} {o p : Nat} {w : World} {R : Value → World → Prop} (h : V63.vc w.heap.size R a d f g i j l m n o p w) : Calls Tryd.prog 63 ⟨[.agg ⟨[.int .i64 a, .int .i64 d, .slice f g i, .slice j l m]⟩, .slice n o p]⟩ w fun e w' => ∃ v, e = .returned v ∧ R v w' :=
  calls_wpfP (c := V63.cfg w.heap.size) (fn := Tryd.f63) (x := V63.code) (V63.cuts w.heap.size R) V63.h (V63.cfgOk _) mixed Tryd.func63 (by kernel_rfl) (by kernel_rfl) (by kernel_rfl) rfl (V63.obl _ _) ((V63.vc_eq _ _ a d f g i j l m n o p _).symm ▸ h)
def V64.l3 (B : Nat) (R : Value → World → Prop) (a : Option Addr → Nat → Nat → Int → World → Prop) : Nat → Option Addr → Nat → Nat → Int → Int → World → Prop
  | 0 => fun _ _ _ _ _ _ => False
  | k + 1 => fun c d f g i w =>
    ∃ j : Addr, c = some j ∧ (0 : Int) ≤ g ∧ g < (d : Int) ∧
  ∃ (l : Option Addr) (m n : Nat), w.cell? (j.add g.toNat) = some (.slice l m n) ∧
  if (decide (i < (m : Int))) = true
    then (∃ o : Addr, c = some o ∧ (0 : Int) ≤ g ∧ g < (d : Int) ∧
    ∃ (p : Option Addr) (q r : Nat), w.cell? (o.add g.toNat) = some (.slice p q r) ∧
    ∃ s : Addr, p = some s ∧ (0 : Int) ≤ i ∧ i < (q : Int) ∧
    ∃ t : Int, w.cell? ((s.add (i.toNat * 3)).add 0) = some (.int .i64 t) ∧
    ∃ u : Int, w.cell? ((s.add (i.toNat * 3)).add 1) = some (.int .i64 u) ∧
    ∃ x : Int, w.cell? ((s.add (i.toNat * 3)).add 2) = some (.int .i64 x) ∧
    CallK Tryd.prog 58 [.agg ⟨[.int .i64 t, .int .i64 u, .int .i64 x]⟩] B w [] fun v y => 
     ∃ z : Bool, v = .bool z ∧
     if (!z) = true
     then (Ret B y (R (.int .i64 6)))
     else ((V64.l3 B R a k) c d f g (IntKind.wrap .i64 (i + 1)) y))
    else (a c d f (IntKind.wrap .i64 (g + 1)) w)
def V64.l2 (B : Nat) (R : Value → World → Prop) : Nat → Option Addr → Nat → Nat → Int → World → Prop
  | 0 => fun _ _ _ _ _ => False
  | k + 1 => fun a c d f w =>
    if (decide (f < (c : Int))) = true
    then (∃ g : Addr, a = some g ∧ (0 : Int) ≤ f ∧ f < (c : Int) ∧
    ∃ (i : Option Addr) (j l : Nat), w.cell? (g.add f.toNat) = some (.slice i j l) ∧
    if (decide ((j : Int) > 40)) = true
     then (Ret B w (R (.int .i64 6)))
     else (∃ m, V64.l3 B R (V64.l2 B R k) m a c d f 0 w))
    else (Ret B w (R (.int .i64 0)))
def V64.l1 (B : Nat) (R : Value → World → Prop) : Nat → Option Addr → Nat → Nat → Int → Nat → Int → Int → Option Addr → Nat → Nat → Option Addr → Nat → Nat → World → Prop
  | 0 => fun _ _ _ _ _ _ _ _ _ _ _ _ _ _ => False
  | k + 1 => fun a c d f g i j l m n o p q w =>
    if (decide (f < (p : Int))) = true
    then (∃ r : Addr, o = some r ∧ (0 : Int) ≤ f ∧ f < (p : Int) ∧
    ∃ s : Int, w.cell? (r.add f.toNat) = some (.int .i64 s) ∧
    if (decide (s < 0)) = false
     then (if (decide (s ≥ (m : Int))) = false
      then (∃ t : Addr, l = some t ∧ (0 : Int) ≤ s ∧ s < (m : Int) ∧
      ∃ u : Int, w.cell? ((t.add (s.toNat * 4)).add 0) = some (.int .i64 u) ∧
      if (u != 0) = true
       then (Ret B w (R (.int .i64 1)))
       else ((V64.l1 B R k) a c d (IntKind.wrap .i64 (f + 1)) g i j l m n o p q w))
      else (Ret B w (R (.int .i64 1))))
     else (Ret B w (R (.int .i64 1))))
    else (if ((c : Int) != j) = true
     then (Ret B w (R (.int .i64 6)))
     else (∃ x, V64.l2 B R x a c d 0 w))
def V64.b0 (B : Nat) (R : Value → World → Prop) (a : Option Addr) (c d f : Nat) (g i : Int) (j : Option Addr) (l m : Nat) (n : Option Addr) (o p : Nat) (w : World) : Prop :=
  ∃ q, V64.l1 B R q a c d 0 f g i j l m n o p w
def V64.vc (B : Nat) (R : Value → World → Prop) (a c : Int) (d : Option Addr) (f g : Nat) (i : Option Addr) (j l : Nat) (m : Option Addr) (n o : Nat) (w : World) : Prop :=
  ∀ p : Nat, w.heap.size ≤ p →
  if (decide (a < 1)) = false
  then (if (decide (a > 256)) = false
   then (if (decide (c < 1)) = false
    then (if (decide (c > 6)) = false
     then (if (decide ((j : Int) > 6)) = true
      then (Ret B w (R (.int .i64 1)))
      else (if (decide ((j : Int) > 0)) = true
       then (CallK Tryd.prog 97 [.agg ⟨[.slice d f g]⟩] B w [p] fun v q => 
        ∃ r s t : Int, v = .tuple ⟨[.int .i64 r, .int .i64 s, .int .i64 t]⟩ ∧
        if (r != 0) = true
        then (Ret B q (R (.int .i64 1)))
        else (V64.b0 B R m n o p a c d f g i j l q))
       else (V64.b0 B R m n o p a c d f g i j l w)))
     else (Ret B w (R (.int .i64 1))))
    else (Ret B w (R (.int .i64 1))))
   else (Ret B w (R (.int .i64 1))))
  else (Ret B w (R (.int .i64 1)))
noncomputable def V64.cfg (B : Nat) : Cfg := ⟨Tryd.prog, ⟨116, B⟩, [], hasN [58, 97], hasN [], look []⟩
noncomputable def V64.code : Code := (Tryd.f64.body).getD .skip
noncomputable def V64.cuts (B : Nat) (R : Value → World → Prop) : Nat → Cut := nthC [⟨[(1, .one (.slice))], [(2, 55, [.int .i64, .int .i64, .slice, .slice])], fun fs vs bs w => V64.b0 B R (slA (nthV vs 0)) (slL (nthV vs 0)) (slC (nthV vs 0)) (nthB bs 0).blk (iV (nthV (nthB bs 0).cells 0)) (iV (nthV (nthB bs 0).cells 1)) (slA (nthV (nthB bs 0).cells 2)) (slL (nthV (nthB bs 0).cells 2)) (slC (nthV (nthB bs 0).cells 2)) (slA (nthV (nthB bs 0).cells 3)) (slL (nthV (nthB bs 0).cells 3)) (slC (nthV (nthB bs 0).cells 3)) w⟩,
  ⟨[(1, .one (.slice)), (8, .one (.int .i64))], [(2, 55, [.int .i64, .int .i64, .slice, .slice])], fun fs vs bs w => V64.l1 B R (nthN fs 0) (slA (nthV vs 0)) (slL (nthV vs 0)) (slC (nthV vs 0)) (iV (nthV vs 1)) (nthB bs 0).blk (iV (nthV (nthB bs 0).cells 0)) (iV (nthV (nthB bs 0).cells 1)) (slA (nthV (nthB bs 0).cells 2)) (slL (nthV (nthB bs 0).cells 2)) (slC (nthV (nthB bs 0).cells 2)) (slA (nthV (nthB bs 0).cells 3)) (slL (nthV (nthB bs 0).cells 3)) (slC (nthV (nthB bs 0).cells 3)) w⟩,
  ⟨[(1, .one (.slice)), (10, .one (.int .i64))], [], fun fs vs bs w => V64.l2 B R (nthN fs 0) (slA (nthV vs 0)) (slL (nthV vs 0)) (slC (nthV vs 0)) (iV (nthV vs 1)) w⟩,
  ⟨[(1, .one (.slice)), (10, .one (.int .i64)), (11, .one (.int .i64))], [], fun fs vs bs w => V64.l3 B R (V64.l2 B R (nthN fs 1)) (nthN fs 0) (slA (nthV vs 0)) (slL (nthV vs 0)) (slC (nthV vs 0)) (iV (nthV vs 1)) (iV (nthV vs 2)) w⟩]
noncomputable def V64.h : H := .s (.z) (.s (.s (.z) (.c (.s (.z) (.z)) (.z))) (.cut 0 (.s (.z) (.c (.s (.z) (.s (.z) (.c (.s (.z) (.z)) (.z)))) (.z))) (.s (.s (.z) (.b (.l 1 (.s (.s (.z) (.c (.z) (.z))) (.s (.b (.s (.z) (.s (.z) (.c (.s (.z) (.z)) (.z))))) (.z)))))) (.s (.s (.z) (.c (.s (.z) (.z)) (.z))) (.s (.s (.z) (.b (.l 2 (.s (.s (.z) (.c (.z) (.z))) (.s (.b (.s (.s (.z) (.c (.s (.z) (.z)) (.z))) (.s (.z) (.b (.l 3 (.s (.s (.z) (.c (.z) (.z))) (.s (.b (.s (.z) (.c (.s (.z) (.z)) (.z)))) (.z)))))))) (.z)))))) (.s (.z) (.z)))))))
theorem V64.vc_eq (B : Nat) (R : Value → World → Prop) (a c : Int) (d : Option Addr) (f g : Nat) (i : Option Addr) (j l : Nat) (m : Option Addr) (n o : Nat) (w : World) : wpf (V64.cfg B) (V64.cuts B R) V64.code V64.h [] (postOf Tryd.prog B (Tryd.f64.results.toList) R) (argE 0 [.agg ⟨[.int .i64 a, .int .i64 c, .slice d f g, .slice i j l]⟩, .slice m n o]) [] w = V64.vc B R a c d f g i j l m n o w := by kernel_rfl
theorem V64.obl (B : Nat) (R : Value → World → Prop) : oblP (V64.cfg B) (V64.cuts B R) V64.code V64.h [] (postOf Tryd.prog B (Tryd.f64.results.toList) R) := by
  have e : oblP (V64.cfg B) (V64.cuts B R) V64.code V64.h [] (postOf Tryd.prog B (Tryd.f64.results.toList) R) = (True ∧ ((True ∧ ((True ∧ True) ∧ True)) ∧ ((True ∧ ((True ∧ (True ∧ ((True ∧ True) ∧ True))) ∧ True)) ∧ (∀ (a : Option Addr) (c d f : Nat) (g i : Int) (j : Option Addr) (l m : Nat) (n : Option Addr) (o p : Nat) (w : World), V64.b0 B R a c d f g i j l m n o p w → V64.b0 B R a c d f g i j l m n o p w) ∧ ((True ∧ ((∀ (a : Option Addr) (c d : Nat) (q : Int) (f : Nat) (g i : Int) (j : Option Addr) (l m : Nat) (n : Option Addr) (o p : Nat) (w : World), ¬ V64.l1 B R 0 a c d q f g i j l m n o p w) ∧ (∀ r, ∀ (a : Option Addr) (c d : Nat) (q : Int) (f : Nat) (g i : Int) (j : Option Addr) (l m : Nat) (n : Option Addr) (o p : Nat) (w : World), V64.l1 B R (r + 1) a c d q f g i j l m n o p w → V64.l1 B R (r + 1) a c d q f g i j l m n o p w) ∧ ∀ r : Nat, ((True ∧ (True ∧ True)) ∧ ((True ∧ (True ∧ ((True ∧ True) ∧ True))) ∧ True)))) ∧ ((True ∧ ((True ∧ True) ∧ True)) ∧ ((True ∧ ((∀ (a : Option Addr) (c d : Nat) (s : Int) (w : World), ¬ V64.l2 B R 0 a c d s w) ∧ (∀ t, ∀ (a : Option Addr) (c d : Nat) (s : Int) (w : World), V64.l2 B R (t + 1) a c d s w → V64.l2 B R (t + 1) a c d s w) ∧ ∀ t : Nat, ((True ∧ (True ∧ True)) ∧ (((True ∧ ((True ∧ True) ∧ True)) ∧ (True ∧ ((∀ (a : Option Addr) (c d : Nat) (s u : Int) (w : World), ¬ V64.l3 B R (V64.l2 B R t) 0 a c d s u w) ∧ (∀ x, ∀ (a : Option Addr) (c d : Nat) (s u : Int) (w : World), V64.l3 B R (V64.l2 B R t) (x + 1) a c d s u w → V64.l3 B R (V64.l2 B R t) (x + 1) a c d s u w) ∧ ∀ x : Nat, ((True ∧ (True ∧ True)) ∧ ((True ∧ ((True ∧ True) ∧ True)) ∧ True))))) ∧ True)))) ∧ (True ∧ True))))))) := by kernel_rfl
  rw [e]
  exact ⟨trivial, ⟨⟨trivial, ⟨⟨trivial, trivial⟩, trivial⟩⟩, ⟨⟨trivial, ⟨⟨trivial, ⟨trivial, ⟨⟨trivial, trivial⟩, trivial⟩⟩⟩, trivial⟩⟩, fun a c d f g i j l m n o p w h => h, ⟨⟨trivial, ⟨fun a c d q f g i j l m n o p w h => h, fun _ a c d q f g i j l m n o p w h => h, fun r => ⟨⟨trivial, ⟨trivial, trivial⟩⟩, ⟨⟨trivial, ⟨trivial, ⟨⟨trivial, trivial⟩, trivial⟩⟩⟩, trivial⟩⟩⟩⟩, ⟨⟨trivial, ⟨⟨trivial, trivial⟩, trivial⟩⟩, ⟨⟨trivial, ⟨fun a c d s w h => h, fun _ a c d s w h => h, fun t => ⟨⟨trivial, ⟨trivial, trivial⟩⟩, ⟨⟨⟨trivial, ⟨⟨trivial, trivial⟩, trivial⟩⟩, ⟨trivial, ⟨fun a c d s u w h => h, fun _ a c d s u w h => h, fun x => ⟨⟨trivial, ⟨trivial, trivial⟩⟩, ⟨⟨trivial, ⟨⟨trivial, trivial⟩, trivial⟩⟩, trivial⟩⟩⟩⟩⟩, trivial⟩⟩⟩⟩, ⟨trivial, trivial⟩⟩⟩⟩⟩⟩⟩
theorem V64.cfgOk (B : Nat) : CfgOk (V64.cfg B) := cfgOk_of (by kernel_rfl) (by kernel_rfl) extNil
theorem V64.sound {a d : Int} {f : Option Addr} {g i : Nat} {j : Option Addr} {l m : Nat} {n : Option Addr} {o p : Nat} {w : World} {R : Value → World → Prop} (h : V64.vc w.heap.size R a d f g i j l m n o p w) : Calls Tryd.prog 64 ⟨[.agg ⟨[.int .i64 a, .int .i64 d, .slice f g i, .slice j l m]⟩, .slice n o p]⟩ w fun e w' => ∃ v, e = .returned v ∧ R v w' :=
  calls_wpfP (c := V64.cfg w.heap.size) (fn := Tryd.f64) (x := V64.code) (V64.cuts w.heap.size R) V64.h (V64.cfgOk _) mixed Tryd.func64 (by kernel_rfl) (by kernel_rfl) (by kernel_rfl) rfl (V64.obl _ _) ((V64.vc_eq _ _ a d f g i j l m n o p _).symm ▸ h)
end Go.Proofs.YtofblkmibghmbaaDoor
