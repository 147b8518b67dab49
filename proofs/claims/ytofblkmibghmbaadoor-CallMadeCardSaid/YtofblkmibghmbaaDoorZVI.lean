import Derived.Test.YtofblkmibghmbaaDoorZVH
/-
  What the engine makes of the loaded functions 14, 15, 63, 64, 65, 66: conditions under which a call returns as told, and proofs of that.
  Conditions: none. Printed by a program of this project.
-/
set_option linter.unusedVariables false
set_option maxRecDepth 100000
namespace Go.Proofs.YtofblkmibghmbaaDoor
def V15.b2 (B : Nat) (R : Value → World → Prop) (a : Option Addr) (c d : Nat) (f : Int) (g : Nat) (i j : Int) (l : Option Addr) (m n : Nat) (o : Option Addr) (p q : Nat) (w : World) : Prop :=
  CallK Tryd.prog 63 [.agg ⟨[.int .i64 i, .int .i64 j, .slice l m n, .slice o p q]⟩, .slice a c d] B w [g] fun v r => 
  ∃ s : Int, v = .int .i64 s ∧
  if (s == f) = true
  then (CallK Tryd.prog 54 [] B r [g] fun t u => 
   ∃ x : Bool, t = .bool x ∧
   Ret B u (R (.bool x)))
  else (Ret B r (R (.bool false)))
def V15.b0 (B : Nat) (R : Value → World → Prop) (a : Int) (c : Option Addr) (d f : Nat) (g : Int) (i : Bool) (j : Nat) (l m : Int) (n : Option Addr) (o p : Nat) (q : Option Addr) (r s : Nat) (w : World) : Prop :=
  if i = true
  then (V15.b2 B R c d f 1 j l m n o p q r s w)
  else (if (a != (d : Int)) = true
   then (V15.b2 B R c d f 6 j l m n o p q r s w)
   else (V15.b2 B R c d f g j l m n o p q r s w))
def V15.l1 (B : Nat) (R : Value → World → Prop) : Nat → Int → Option Addr → Nat → Nat → Int → Int → Int → Nat → Int → Int → Option Addr → Nat → Nat → Option Addr → Nat → Nat → World → Prop
  | 0 => fun _ _ _ _ _ _ _ _ _ _ _ _ _ _ _ _ _ => False
  | k + 1 => fun a c d f g i j l m n o p q r s t w =>
    (6 : Int) ≠ 0 ∧
  if (decide (j < IntKind.wrap .i64 (Int.tdiv (IntKind.wrap .i64 a) 6))) = true
    then (∃ x : Addr, c = some x ∧ (0 : Int) ≤ i ∧ i < (d : Int) ∧
    ∃ (y : Option Addr) (z A : Nat), w.cell? (x.add i.toNat) = some (.slice y z A) ∧
    Expo B w [l] fun C => 
     Hide [l] (C.alloc (.cells ⟨[.int .i64 4, .int .i64 0, .int .i64 0]⟩ 40)) fun D => 
     RunK Tryd.prog (Builtin.append_ #[66, 66] 66 ⟨[.slice y z A, .slice (some ⟨C.heap.size, 0, none⟩) 1 1]⟩) B D [l] fun v E => 
     ∃ (F : Option Addr) (G I : Nat), v = .slice F G I ∧
     ∃ J : Addr, c = some J ∧ (0 : Int) ≤ i ∧ i < (d : Int) ∧
     (∃ u, E.cell? ((J.add i.toNat).add 0) = some u) ∧ E.frozen? ((J.add i.toNat).add 0) = false ∧
     let L := E.setCell ((J.add i.toNat).add 0) (.slice F G I);
     (V15.l1 B R k) a c d f g i (IntKind.wrap .i64 (j + 1)) l m n o p q r s t L)
    else (∃ M : Addr, c = some M ∧ (0 : Int) ≤ i ∧ i < (d : Int) ∧
    ∃ (N : Option Addr) (O P : Nat), w.cell? (M.add i.toNat) = some (.slice N O P) ∧
    if (decide ((O : Int) > 40)) = true
     then (V15.b2 B R c d f 6 l m n o p q r s t w)
     else (V15.b2 B R c d f g l m n o p q r s t w))
def V15.vc (B : Nat) (R : Value → World → Prop) (a c d : Int) (f : Option Addr) (g i : Nat) (j : Option Addr) (l m : Nat) (n o p q r : Int) (w : World) : Prop :=
  ∀ s : Nat, w.heap.size ≤ s →
  CallK Tryd.prog 65 [.int .u8 a, .int .u8 c, .int .u8 d, .slice f g i] B w [s] fun v t => 
  ∃ (x y : Int) (z : Option Addr) (A C : Nat) (D : Option Addr) (E F : Nat), v = .agg ⟨[.int .i64 x, .int .i64 y, .slice z A C, .slice D E F]⟩ ∧
  ∀ G : Nat, t.heap.size ≤ G →
  CallK Tryd.prog 66 [.agg ⟨[.int .i64 x, .int .i64 y, .slice z A C, .slice D E F]⟩, .slice j l m, .int .i64 60] B t [G, s] fun I J => 
  ∃ (L : Option Addr) (M N : Nat), I = .slice L M N ∧
  CallK Tryd.prog 63 [.agg ⟨[.int .i64 x, .int .i64 y, .slice z A C, .slice D E F]⟩, .slice L M N] B J [G, s] fun O P => 
  ∃ Q : Int, O = .int .i64 Q ∧
  if (Q != 0) = true
  then (Ret B P (R (.bool false)))
  else ((6 : Int) ≠ 0 ∧
  if (Int.tmod n 6 == 0) = true
   then (if (decide (r < 1)) = false
    then (if (decide (r > 256)) = true
     then (V15.b2 B R L M N 1 G r y z A C D E F P)
     else (V15.b2 B R L M N 0 G r y z A C D E F P))
    else (V15.b2 B R L M N 1 G r y z A C D E F P))
   else (if (Int.tmod n 6 == 1) = true
    then (if (decide (r < 1)) = false
     then (V15.b0 B R r L M N 0 (decide (r > 6)) G x r z A C D E F P)
     else (V15.b0 B R r L M N 0 true G x r z A C D E F P))
    else (if (Int.tmod n 6 == 2) = true
     then (Expo B P [G, s] fun S => 
      Hide [G, s] (S.alloc (.cells ⟨[.int .i64 r]⟩ 3)) fun T => 
      RunK Tryd.prog (Builtin.append_ #[53, 53] 53 ⟨[.slice D E F, .slice (some ⟨S.heap.size, 0, none⟩) 1 1]⟩) B T [G, s] fun U W => 
      ∃ (X : Option Addr) (Y Z : Nat), U = .slice X Y Z ∧
      if (decide ((Y : Int) > 6)) = false
      then (if (decide (r < 0)) = false
       then (if (decide (r ≥ (A : Int))) = false
        then (∃ a0 : Addr, z = some a0 ∧ (0 : Int) ≤ r ∧ r < (A : Int) ∧
        ∃ a1 : Int, W.cell? ((a0.add (r.toNat * 4)).add 0) = some (.int .i64 a1) ∧
        if (a1 != 0) = true
         then (V15.b2 B R L M N 1 G x y z A C X Y Z W)
         else (V15.b2 B R L M N 0 G x y z A C X Y Z W))
        else (V15.b2 B R L M N 1 G x y z A C X Y Z W))
       else (V15.b2 B R L M N 1 G x y z A C X Y Z W))
      else (V15.b2 B R L M N 1 G x y z A C X Y Z W))
     else (if (Int.tmod n 6 == 3) = true
      then (∃ a2 : Addr, L = some a2 ∧ (0 : Int) ≤ 0 ∧ (0 : Int) < (M : Int) ∧
      ∃ (a3 : Option Addr) (a4 a5 : Nat), P.cell? (a2.add 0) = some (.slice a3 a4 a5) ∧
      Expo B P [G, s] fun S => 
       Hide [G, s] (S.alloc (.cells ⟨[.int .i64 o, .int .i64 p, .int .i64 q]⟩ 40)) fun T => 
       T.cell? (a2.add 0) = some (.slice a3 a4 a5) ∧
       RunK Tryd.prog (Builtin.append_ #[66, 66] 66 ⟨[.slice a3 a4 a5, .slice (some ⟨S.heap.size, 0, none⟩) 1 1]⟩) B T [G, s] fun U W => 
       ∃ (a6 : Option Addr) (a7 a8 : Nat), U = .slice a6 a7 a8 ∧
       ∃ a9 : Addr, L = some a9 ∧ (0 : Int) ≤ 0 ∧ (0 : Int) < (M : Int) ∧
       (∃ u, W.cell? ((a9.add 0).add 0) = some u) ∧ W.frozen? ((a9.add 0).add 0) = false ∧
       let c0 := W.setCell ((a9.add 0).add 0) (.slice a6 a7 a8);
       ∃ c1 : Addr, L = some c1 ∧ (0 : Int) ≤ 0 ∧ (0 : Int) < (M : Int) ∧
       ∃ (c2 : Option Addr) (c3 c4 : Nat), c0.cell? (c1.add 0) = some (.slice c2 c3 c4) ∧
       if (decide ((c3 : Int) > 40)) = false
       then (CallK Tryd.prog 57 [.agg ⟨[.int .i64 o, .int .i64 p, .int .i64 q]⟩] B c0 [G, s] fun c5 c7 => 
        ∃ c8 : Bool, c5 = .bool c8 ∧
        if (!c8) = true
        then (V15.b2 B R L M N 6 G x y z A C D E F c7)
        else (V15.b2 B R L M N 0 G x y z A C D E F c7))
       else (V15.b2 B R L M N 6 G x y z A C D E F c0))
      else (if (Int.tmod n 6 == 4) = true
       then (∃ c9, V15.l1 B R c9 n L M N 0 (IntKind.wrap .i64 ((M : Int) - 1)) 0 G x y z A C D E F P)
       else (∃ d0 : Addr, z = some d0 ∧ (0 : Int) ≤ 0 ∧ (0 : Int) < (A : Int) ∧
       (∃ u, P.cell? (((d0.add (0 * 4)).add 2).add 0) = some u) ∧ P.frozen? (((d0.add (0 * 4)).add 2).add 0) = false ∧
       let S := P.setCell (((d0.add (0 * 4)).add 2).add 0) (.int .i64 r);
       CallK Tryd.prog 67 [.agg ⟨[.slice z A C]⟩] B S [G, s] fun U T => 
        ∃ d1 d2 d3 : Int, U = .tuple ⟨[.int .i64 d1, .int .i64 d2, .int .i64 d3]⟩ ∧
        if (d1 != 0) = true
        then (if (decide ((E : Int) > 0)) = true
         then (V15.b2 B R L M N 1 G x y z A C D E F T)
         else (V15.b2 B R L M N 0 G x y z A C D E F T))
        else (V15.b2 B R L M N 0 G x y z A C D E F T)))))))
noncomputable def V15.cfg (B : Nat) : Cfg := ⟨Tryd.prog, ⟨176, B⟩, [], hasN [54, 57, 63, 65, 66, 67], hasN [], look []⟩
noncomputable def V15.code : Code := (Tryd.f15.body).getD .skip
noncomputable def V15.cuts (B : Nat) (R : Value → World → Prop) : Nat → Cut := nthC [⟨[(7, .one (.int .i64)), (18, .one (.slice)), (19, .one (.int .i64)), (74, .one (.bool))], [(17, 55, [.int .i64, .int .i64, .slice, .slice])], fun fs vs bs w => V15.b0 B R (iV (nthV vs 0)) (slA (nthV vs 1)) (slL (nthV vs 1)) (slC (nthV vs 1)) (iV (nthV vs 2)) (bV (nthV vs 3)) (nthB bs 0).blk (iV (nthV (nthB bs 0).cells 0)) (iV (nthV (nthB bs 0).cells 1)) (slA (nthV (nthB bs 0).cells 2)) (slL (nthV (nthB bs 0).cells 2)) (slC (nthV (nthB bs 0).cells 2)) (slA (nthV (nthB bs 0).cells 3)) (slL (nthV (nthB bs 0).cells 3)) (slC (nthV (nthB bs 0).cells 3)) w⟩,
  ⟨[(5, .one (.int .u8)), (18, .one (.slice)), (19, .one (.int .i64)), (20, .one (.int .i64)), (21, .one (.int .i64))], [(17, 55, [.int .i64, .int .i64, .slice, .slice])], fun fs vs bs w => V15.l1 B R (nthN fs 0) (iV (nthV vs 0)) (slA (nthV vs 1)) (slL (nthV vs 1)) (slC (nthV vs 1)) (iV (nthV vs 2)) (iV (nthV vs 3)) (iV (nthV vs 4)) (nthB bs 0).blk (iV (nthV (nthB bs 0).cells 0)) (iV (nthV (nthB bs 0).cells 1)) (slA (nthV (nthB bs 0).cells 2)) (slL (nthV (nthB bs 0).cells 2)) (slC (nthV (nthB bs 0).cells 2)) (slA (nthV (nthB bs 0).cells 3)) (slL (nthV (nthB bs 0).cells 3)) (slC (nthV (nthB bs 0).cells 3)) w⟩,
  ⟨[(18, .one (.slice)), (19, .one (.int .i64))], [(17, 55, [.int .i64, .int .i64, .slice, .slice])], fun fs vs bs w => V15.b2 B R (slA (nthV vs 0)) (slL (nthV vs 0)) (slC (nthV vs 0)) (iV (nthV vs 1)) (nthB bs 0).blk (iV (nthV (nthB bs 0).cells 0)) (iV (nthV (nthB bs 0).cells 1)) (slA (nthV (nthB bs 0).cells 2)) (slL (nthV (nthB bs 0).cells 2)) (slC (nthV (nthB bs 0).cells 2)) (slA (nthV (nthB bs 0).cells 3)) (slL (nthV (nthB bs 0).cells 3)) (slC (nthV (nthB bs 0).cells 3)) w⟩]
noncomputable def V15.h : H := .s (.z) (.s (.z) (.s (.z) (.s (.s (.z) (.c (.s (.z) (.z)) (.z))) (.s (.z) (.cut 2 (.s (.z) (.b (.s (.z) (.c (.s (.z) (.s (.z) (.c (.z) (.z)))) (.s (.z) (.c (.s (.z) (.b (.cut 0 (.z) (.c (.z) (.s (.z) (.c (.z) (.z))))))) (.s (.z) (.c (.s (.z) (.s (.z) (.c (.z) (.z)))) (.s (.z) (.c (.s (.r [[0, 1, 2, 3, 4, 5, 6, 7, 8]]) (.s (.z) (.c (.z) (.z)))) (.s (.z) (.c (.s (.z) (.s (.s (.z) (.b (.l 1 (.s (.s (.z) (.c (.z) (.z))) (.s (.b (.z)) (.z)))))) (.s (.z) (.c (.z) (.z))))) (.s (.z) (.s (.z) (.s (.z) (.c (.z) (.z))))))))))))))))) (.s (.z) (.z)))))))
theorem V15.vc_eq (B : Nat) (R : Value → World → Prop) (a c d : Int) (f : Option Addr) (g i : Nat) (j : Option Addr) (l m : Nat) (n o p q r : Int) (w : World) : wpf (V15.cfg B) (V15.cuts B R) V15.code V15.h [] (postOf Tryd.prog B (Tryd.f15.results.toList) R) (argE 0 [.int .u8 a, .int .u8 c, .int .u8 d, .slice f g i, .slice j l m, .int .u8 n, .agg ⟨[.int .i64 o, .int .i64 p, .int .i64 q]⟩, .int .i64 r]) [] w = V15.vc B R a c d f g i j l m n o p q r w := by kernel_rfl
theorem V15.obl (B : Nat) (R : Value → World → Prop) : oblP (V15.cfg B) (V15.cuts B R) V15.code V15.h [] (postOf Tryd.prog B (Tryd.f15.results.toList) R) := by
  have e : oblP (V15.cfg B) (V15.cuts B R) V15.code V15.h [] (postOf Tryd.prog B (Tryd.f15.results.toList) R) = (True ∧ (True ∧ (True ∧ ((True ∧ ((True ∧ True) ∧ True)) ∧ (True ∧ ((True ∧ (True ∧ ((True ∧ (True ∧ (True ∧ True))) ∧ (True ∧ ((True ∧ (True ∧ (∀ (a : Int) (c : Option Addr) (d f : Nat) (g : Int) (i : Bool) (j : Nat) (l m : Int) (n : Option Addr) (o p : Nat) (q : Option Addr) (r s : Nat) (w : World), V15.b0 B R a c d f g i j l m n o p q r s w → V15.b0 B R a c d f g i j l m n o p q r s w) ∧ (True ∧ (True ∧ (True ∧ True))))) ∧ (True ∧ ((True ∧ (True ∧ (True ∧ True))) ∧ (True ∧ (((true = true) ∧ (True ∧ (True ∧ True))) ∧ (True ∧ ((True ∧ ((True ∧ ((∀ (t : Int) (c : Option Addr) (d f : Nat) (g u x : Int) (j : Nat) (l m : Int) (n : Option Addr) (o p : Nat) (q : Option Addr) (r s : Nat) (w : World), ¬ V15.l1 B R 0 t c d f g u x j l m n o p q r s w) ∧ (∀ y, ∀ (t : Int) (c : Option Addr) (d f : Nat) (g u x : Int) (j : Nat) (l m : Int) (n : Option Addr) (o p : Nat) (q : Option Addr) (r s : Nat) (w : World), V15.l1 B R (y + 1) t c d f g u x j l m n o p q r s w → V15.l1 B R (y + 1) t c d f g u x j l m n o p q r s w) ∧ ∀ y : Nat, ((True ∧ (True ∧ True)) ∧ (True ∧ True)))) ∧ (True ∧ (True ∧ True)))) ∧ (True ∧ (True ∧ (True ∧ (True ∧ True))))))))))))))) ∧ (∀ (c : Option Addr) (d f : Nat) (g : Int) (j : Nat) (l m : Int) (n : Option Addr) (o p : Nat) (q : Option Addr) (r s : Nat) (w : World), V15.b2 B R c d f g j l m n o p q r s w → V15.b2 B R c d f g j l m n o p q r s w) ∧ (True ∧ True))))))) := by kernel_rfl
  rw [e]
  exact ⟨trivial, ⟨trivial, ⟨trivial, ⟨⟨trivial, ⟨⟨trivial, trivial⟩, trivial⟩⟩, ⟨trivial, ⟨⟨trivial, ⟨trivial, ⟨⟨trivial, ⟨trivial, ⟨trivial, trivial⟩⟩⟩, ⟨trivial, ⟨⟨trivial, ⟨trivial, fun a c d f g i j l m n o p q r s w h => h, ⟨trivial, ⟨trivial, ⟨trivial, trivial⟩⟩⟩⟩⟩, ⟨trivial, ⟨⟨trivial, ⟨trivial, ⟨trivial, trivial⟩⟩⟩, ⟨trivial, ⟨⟨rfl, ⟨trivial, ⟨trivial, trivial⟩⟩⟩, ⟨trivial, ⟨⟨trivial, ⟨⟨trivial, ⟨fun t c d f g u x j l m n o p q r s w h => h, fun _ t c d f g u x j l m n o p q r s w h => h, fun y => ⟨⟨trivial, ⟨trivial, trivial⟩⟩, ⟨trivial, trivial⟩⟩⟩⟩, ⟨trivial, ⟨trivial, trivial⟩⟩⟩⟩, ⟨trivial, ⟨trivial, ⟨trivial, ⟨trivial, trivial⟩⟩⟩⟩⟩⟩⟩⟩⟩⟩⟩⟩⟩⟩⟩, fun c d f g j l m n o p q r s w h => h, ⟨trivial, trivial⟩⟩⟩⟩⟩⟩⟩
theorem V15.cfgOk (B : Nat) : CfgOk (V15.cfg B) := cfgOk_of (by kernel_rfl) (by kernel_rfl) extNil
theorem V15.sound {a d f : Int} {g : Option Addr} {i j : Nat} {l : Option Addr} {m n : Nat} {o p q r s : Int} {w : World} {R : Value → World → Prop} (h : V15.vc w.heap.size R a d f g i j l m n o p q r s w) : Calls Tryd.prog 15 ⟨[.int .u8 a, .int .u8 d, .int .u8 f, .slice g i j, .slice l m n, .int .u8 o, .agg ⟨[.int .i64 p, .int .i64 q, .int .i64 r]⟩, .int .i64 s]⟩ w fun e w' => ∃ v, e = .returned v ∧ R v w' :=
  calls_wpfP (c := V15.cfg w.heap.size) (fn := Tryd.f15) (x := V15.code) (V15.cuts w.heap.size R) V15.h (V15.cfgOk _) mixed Tryd.func15 (by kernel_rfl) (by kernel_rfl) (by kernel_rfl) rfl (V15.obl _ _) ((V15.vc_eq _ _ a d f g i j l m n o p q r s _).symm ▸ h)
def V63.l3 (B : Nat) (R : Value → World → Prop) (a : Option Addr → Nat → Nat → Int → Int → World → Prop) : Nat → Option Addr → Nat → Nat → Int → Int → Option Addr → Nat → Nat → Int → Int → World → Prop
  | 0 => fun _ _ _ _ _ _ _ _ _ _ _ => False
  | k + 1 => fun c d f g i j l m n o w =>
    if (decide (o < n)) = true
    then (∃ p : Addr, j = some p ∧ (0 : Int) ≤ o ∧ o < (l : Int) ∧
    ∃ q : Int, w.cell? ((p.add (o.toNat * 3)).add 0) = some (.int .i64 q) ∧
    ∃ r : Int, w.cell? ((p.add (o.toNat * 3)).add 1) = some (.int .i64 r) ∧
    ∃ s : Int, w.cell? ((p.add (o.toNat * 3)).add 2) = some (.int .i64 s) ∧
    ∀ t : Nat, w.heap.size ≤ t →
    CallK Tryd.prog 57 [.agg ⟨[.int .i64 q, .int .i64 r, .int .i64 s]⟩] B w [t] fun v u => 
     ∃ x : Bool, v = .bool x ∧
     if (!x) = true
     then (Ret B u (R (.int .i64 6)))
     else ((V63.l3 B R a k) c d f g i j l m n (IntKind.wrap .i64 (o + 1)) u))
    else (a c d f g (IntKind.wrap .i64 (i + 1)) w)
def V63.l2 (B : Nat) (R : Value → World → Prop) : Nat → Option Addr → Nat → Nat → Int → Int → World → Prop
  | 0 => fun _ _ _ _ _ _ => False
  | k + 1 => fun a c d f g w =>
    if (decide (g < f)) = true
    then (∃ i : Addr, a = some i ∧ (0 : Int) ≤ g ∧ g < (c : Int) ∧
    ∃ (j : Option Addr) (l m : Nat), w.cell? (i.add g.toNat) = some (.slice j l m) ∧
    if (decide ((l : Int) > 40)) = true
     then (Ret B w (R (.int .i64 6)))
     else (∃ n, V63.l3 B R (V63.l2 B R k) n a c d f g j l m (l : Int) 0 w))
    else (Ret B w (R (.int .i64 0)))
def V63.l1 (B : Nat) (R : Value → World → Prop) : Nat → Option Addr → Nat → Nat → Option Addr → Nat → Nat → Int → Int → Nat → Int → Int → Option Addr → Nat → Nat → Option Addr → Nat → Nat → World → Prop
  | 0 => fun _ _ _ _ _ _ _ _ _ _ _ _ _ _ _ _ _ _ => False
  | k + 1 => fun a c d f g i j l m n o p q r s t u w =>
    if (decide (l < j)) = true
    then (∃ x : Addr, f = some x ∧ (0 : Int) ≤ l ∧ l < (g : Int) ∧
    ∃ y : Int, w.cell? (x.add l.toNat) = some (.int .i64 y) ∧
    if (decide (y < 0)) = false
     then (if (decide (y ≥ (q : Int))) = false
      then (∃ z : Addr, p = some z ∧ (0 : Int) ≤ y ∧ y < (q : Int) ∧
      ∃ A : Int, w.cell? ((z.add (y.toNat * 4)).add 0) = some (.int .i64 A) ∧
      if (A != 0) = true
       then (Ret B w (R (.int .i64 1)))
       else ((V63.l1 B R k) a c d f g i j (IntKind.wrap .i64 (l + 1)) m n o p q r s t u w))
      else (Ret B w (R (.int .i64 1))))
     else (Ret B w (R (.int .i64 1))))
    else (if ((c : Int) != o) = true
     then (Ret B w (R (.int .i64 6)))
     else (∃ C, V63.l2 B R C a c d (c : Int) 0 w))
def V63.b0 (B : Nat) (R : Value → World → Prop) (a : Option Addr) (c d f : Nat) (g i : Int) (j : Option Addr) (l m : Nat) (n : Option Addr) (o p : Nat) (w : World) : Prop :=
  ∃ q, V63.l1 B R q a c d n o p (o : Int) 0 f g i j l m n o p w
def V63.vc (B : Nat) (R : Value → World → Prop) (a c : Int) (d : Option Addr) (f g : Nat) (i : Option Addr) (j l : Nat) (m : Option Addr) (n o : Nat) (w : World) : Prop :=
  ∀ p : Nat, w.heap.size ≤ p →
  if (decide (a < 1)) = false
  then (if (decide (a > 256)) = false
   then (if (decide (c < 1)) = false
    then (if (decide (c > 6)) = false
     then (if (decide ((j : Int) > 6)) = true
      then (Ret B w (R (.int .i64 1)))
      else (CallK Tryd.prog 67 [.agg ⟨[.slice d f g]⟩] B w [p] fun v q => 
       ∃ r s t : Int, v = .tuple ⟨[.int .i64 r, .int .i64 s, .int .i64 t]⟩ ∧
       if (r != 0) = true
       then (if (decide ((j : Int) > 0)) = true
        then (Ret B q (R (.int .i64 1)))
        else (V63.b0 B R m n o p a c d f g i j l q))
       else (V63.b0 B R m n o p a c d f g i j l q)))
     else (Ret B w (R (.int .i64 1))))
    else (Ret B w (R (.int .i64 1))))
   else (Ret B w (R (.int .i64 1))))
  else (Ret B w (R (.int .i64 1)))
noncomputable def V63.cfg (B : Nat) : Cfg := ⟨Tryd.prog, ⟨106, B⟩, [], hasN [57, 67], hasN [], look []⟩
noncomputable def V63.code : Code := (Tryd.f63.body).getD .skip
noncomputable def V63.cuts (B : Nat) (R : Value → World → Prop) : Nat → Cut := nthC [⟨[(1, .one (.slice))], [(2, 55, [.int .i64, .int .i64, .slice, .slice])], fun fs vs bs w => V63.b0 B R (slA (nthV vs 0)) (slL (nthV vs 0)) (slC (nthV vs 0)) (nthB bs 0).blk (iV (nthV (nthB bs 0).cells 0)) (iV (nthV (nthB bs 0).cells 1)) (slA (nthV (nthB bs 0).cells 2)) (slL (nthV (nthB bs 0).cells 2)) (slC (nthV (nthB bs 0).cells 2)) (slA (nthV (nthB bs 0).cells 3)) (slL (nthV (nthB bs 0).cells 3)) (slC (nthV (nthB bs 0).cells 3)) w⟩,
  ⟨[(1, .one (.slice)), (54, .one (.slice)), (55, .one (.int .i64)), (56, .one (.int .i64))], [(2, 55, [.int .i64, .int .i64, .slice, .slice])], fun fs vs bs w => V63.l1 B R (nthN fs 0) (slA (nthV vs 0)) (slL (nthV vs 0)) (slC (nthV vs 0)) (slA (nthV vs 1)) (slL (nthV vs 1)) (slC (nthV vs 1)) (iV (nthV vs 2)) (iV (nthV vs 3)) (nthB bs 0).blk (iV (nthV (nthB bs 0).cells 0)) (iV (nthV (nthB bs 0).cells 1)) (slA (nthV (nthB bs 0).cells 2)) (slL (nthV (nthB bs 0).cells 2)) (slC (nthV (nthB bs 0).cells 2)) (slA (nthV (nthB bs 0).cells 3)) (slL (nthV (nthB bs 0).cells 3)) (slC (nthV (nthB bs 0).cells 3)) w⟩,
  ⟨[(86, .one (.slice)), (87, .one (.int .i64)), (88, .one (.int .i64))], [], fun fs vs bs w => V63.l2 B R (nthN fs 0) (slA (nthV vs 0)) (slL (nthV vs 0)) (slC (nthV vs 0)) (iV (nthV vs 1)) (iV (nthV vs 2)) w⟩,
  ⟨[(86, .one (.slice)), (87, .one (.int .i64)), (88, .one (.int .i64)), (95, .one (.slice)), (96, .one (.int .i64)), (97, .one (.int .i64))], [], fun fs vs bs w => V63.l3 B R (V63.l2 B R (nthN fs 1)) (nthN fs 0) (slA (nthV vs 0)) (slL (nthV vs 0)) (slC (nthV vs 0)) (iV (nthV vs 1)) (iV (nthV vs 2)) (slA (nthV vs 3)) (slL (nthV vs 3)) (slC (nthV vs 3)) (iV (nthV vs 4)) (iV (nthV vs 5)) w⟩]
noncomputable def V63.h : H := .s (.z) (.s (.s (.z) (.c (.s (.z) (.z)) (.z))) (.cut 0 (.s (.z) (.s (.z) (.c (.s (.z) (.z)) (.z)))) (.s (.s (.z) (.b (.l 1 (.s (.z) (.s (.c (.z) (.z)) (.s (.b (.s (.z) (.s (.z) (.c (.s (.z) (.z)) (.z))))) (.z))))))) (.s (.s (.z) (.c (.s (.z) (.z)) (.z))) (.s (.s (.z) (.b (.l 2 (.s (.z) (.s (.c (.z) (.z)) (.s (.b (.s (.z) (.s (.s (.z) (.c (.s (.z) (.z)) (.z))) (.s (.z) (.b (.l 3 (.s (.z) (.s (.c (.z) (.z)) (.s (.b (.s (.z) (.s (.z) (.c (.s (.z) (.z)) (.z))))) (.z)))))))))) (.z))))))) (.s (.z) (.z)))))))
theorem V63.vc_eq (B : Nat) (R : Value → World → Prop) (a c : Int) (d : Option Addr) (f g : Nat) (i : Option Addr) (j l : Nat) (m : Option Addr) (n o : Nat) (w : World) : wpf (V63.cfg B) (V63.cuts B R) V63.code V63.h [] (postOf Tryd.prog B (Tryd.f63.results.toList) R) (argE 0 [.agg ⟨[.int .i64 a, .int .i64 c, .slice d f g, .slice i j l]⟩, .slice m n o]) [] w = V63.vc B R a c d f g i j l m n o w := by kernel_rfl
theorem V63.obl (B : Nat) (R : Value → World → Prop) : oblP (V63.cfg B) (V63.cuts B R) V63.code V63.h [] (postOf Tryd.prog B (Tryd.f63.results.toList) R) := by
  have e : oblP (V63.cfg B) (V63.cuts B R) V63.code V63.h [] (postOf Tryd.prog B (Tryd.f63.results.toList) R) = (True ∧ ((True ∧ ((True ∧ True) ∧ True)) ∧ ((True ∧ (True ∧ ((True ∧ True) ∧ True))) ∧ (∀ (a : Option Addr) (c d f : Nat) (g i : Int) (j : Option Addr) (l m : Nat) (n : Option Addr) (o p : Nat) (w : World), V63.b0 B R a c d f g i j l m n o p w → V63.b0 B R a c d f g i j l m n o p w) ∧ ((True ∧ ((∀ (a : Option Addr) (c d : Nat) (q : Option Addr) (r s : Nat) (t u : Int) (f : Nat) (g i : Int) (j : Option Addr) (l m : Nat) (n : Option Addr) (o p : Nat) (w : World), ¬ V63.l1 B R 0 a c d q r s t u f g i j l m n o p w) ∧ (∀ x, ∀ (a : Option Addr) (c d : Nat) (q : Option Addr) (r s : Nat) (t u : Int) (f : Nat) (g i : Int) (j : Option Addr) (l m : Nat) (n : Option Addr) (o p : Nat) (w : World), V63.l1 B R (x + 1) a c d q r s t u f g i j l m n o p w → V63.l1 B R (x + 1) a c d q r s t u f g i j l m n o p w) ∧ ∀ x : Nat, (True ∧ ((True ∧ True) ∧ ((True ∧ (True ∧ ((True ∧ True) ∧ True))) ∧ True))))) ∧ ((True ∧ ((True ∧ True) ∧ True)) ∧ ((True ∧ ((∀ (y : Option Addr) (z A : Nat) (C D : Int) (w : World), ¬ V63.l2 B R 0 y z A C D w) ∧ (∀ E, ∀ (y : Option Addr) (z A : Nat) (C D : Int) (w : World), V63.l2 B R (E + 1) y z A C D w → V63.l2 B R (E + 1) y z A C D w) ∧ ∀ E : Nat, (True ∧ ((True ∧ True) ∧ ((True ∧ ((True ∧ ((True ∧ True) ∧ True)) ∧ (True ∧ ((∀ (y : Option Addr) (z A : Nat) (C D : Int) (F : Option Addr) (G I : Nat) (J L : Int) (w : World), ¬ V63.l3 B R (V63.l2 B R E) 0 y z A C D F G I J L w) ∧ (∀ M, ∀ (y : Option Addr) (z A : Nat) (C D : Int) (F : Option Addr) (G I : Nat) (J L : Int) (w : World), V63.l3 B R (V63.l2 B R E) (M + 1) y z A C D F G I J L w → V63.l3 B R (V63.l2 B R E) (M + 1) y z A C D F G I J L w) ∧ ∀ M : Nat, (True ∧ ((True ∧ True) ∧ ((True ∧ (True ∧ ((True ∧ True) ∧ True))) ∧ True))))))) ∧ True))))) ∧ (True ∧ True))))))) := by kernel_rfl
  rw [e]
  exact ⟨trivial, ⟨⟨trivial, ⟨⟨trivial, trivial⟩, trivial⟩⟩, ⟨⟨trivial, ⟨trivial, ⟨⟨trivial, trivial⟩, trivial⟩⟩⟩, fun a c d f g i j l m n o p w h => h, ⟨⟨trivial, ⟨fun a c d q r s t u f g i j l m n o p w h => h, fun _ a c d q r s t u f g i j l m n o p w h => h, fun x => ⟨trivial, ⟨⟨trivial, trivial⟩, ⟨⟨trivial, ⟨trivial, ⟨⟨trivial, trivial⟩, trivial⟩⟩⟩, trivial⟩⟩⟩⟩⟩, ⟨⟨trivial, ⟨⟨trivial, trivial⟩, trivial⟩⟩, ⟨⟨trivial, ⟨fun y z A C D w h => h, fun _ y z A C D w h => h, fun E => ⟨trivial, ⟨⟨trivial, trivial⟩, ⟨⟨trivial, ⟨⟨trivial, ⟨⟨trivial, trivial⟩, trivial⟩⟩, ⟨trivial, ⟨fun y z A C D F G I J L w h => h, fun _ y z A C D F G I J L w h => h, fun M => ⟨trivial, ⟨⟨trivial, trivial⟩, ⟨⟨trivial, ⟨trivial, ⟨⟨trivial, trivial⟩, trivial⟩⟩⟩, trivial⟩⟩⟩⟩⟩⟩⟩, trivial⟩⟩⟩⟩⟩, ⟨trivial, trivial⟩⟩⟩⟩⟩⟩⟩
theorem V63.cfgOk (B : Nat) : CfgOk (V63.cfg B) := cfgOk_of (by kernel_rfl) (by kernel_rfl) extNil
theorem V63.sound {a d : Int} {f : Option Addr} {g i : Nat} {j : Option Addr} {l m : Nat} {n : Option Addr} {o p : Nat} {w : World} {R : Value → World → Prop} (h : V63.vc w.heap.size R a d f g i j l m n o p w) : Calls Tryd.prog 63 ⟨[.agg ⟨[.int .i64 a, .int .i64 d, .slice f g i, .slice j l m]⟩, .slice n o p]⟩ w fun e w' => ∃ v, e = .returned v ∧ R v w' :=
  calls_wpfP (c := V63.cfg w.heap.size) (fn := Tryd.f63) (x := V63.code) (V63.cuts w.heap.size R) V63.h (V63.cfgOk _) mixed Tryd.func63 (by kernel_rfl) (by kernel_rfl) (by kernel_rfl) rfl (V63.obl _ _) ((V63.vc_eq _ _ a d f g i j l m n o p _).symm ▸ h)
def V65.l1 (B : Nat) (R : Value → World → Prop) : Nat → Int → Option Addr → Nat → Nat → Int → Nat → Int → Int → Option Addr → Nat → Nat → Option Addr → Nat → Nat → Nat → Int → Int → Option Addr → Nat → Nat → Option Addr → Nat → Nat → World → Prop
  | 0 => fun _ _ _ _ _ _ _ _ _ _ _ _ _ _ _ _ _ _ _ _ _ _ _ _ => False
  | k + 1 => fun a c d f g i j l m n o p q r s t u x y z A C D w =>
    (7 : Int) ≠ 0 ∧
  if (decide (g < Int.tmod (IntKind.wrap .i64 a) 7)) = true
    then ((8 : Int) ≠ 0 ∧ (d : Int) ≠ 0 ∧
    ∃ E : Addr, c = some E ∧ (0 : Int) ≤ Int.tmod (IntKind.wrap .i64 (g + IntKind.wrap .i64 (Int.tdiv (IntKind.wrap .i64 a) 8))) (d : Int) ∧ Int.tmod (IntKind.wrap .i64 (g + IntKind.wrap .i64 (Int.tdiv (IntKind.wrap .i64 a) 8))) (d : Int) < (d : Int) ∧
    ∃ F : Int, w.cell? (E.add ((Int.tmod (IntKind.wrap .i64 (g + IntKind.wrap .i64 (Int.tdiv (IntKind.wrap .i64 a) 8))) (d : Int)).toNat)) = some (.int .i64 F) ∧
    Expo B w [i, s] fun G => 
     Hide [i, s] (G.alloc (.cells ⟨[.int .i64 F]⟩ 3)) fun I => 
     RunK Tryd.prog (Builtin.append_ #[53, 53] 53 ⟨[.slice p q r, .slice (some ⟨G.heap.size, 0, none⟩) 1 1]⟩) B I [i, s] fun v J => 
     ∃ (L : Option Addr) (M N : Nat), v = .slice L M N ∧ (V65.l1 B R k) a c d f (IntKind.wrap .i64 (g + 1)) i j l m n o L M N s t u x y z A C D J)
    else (Ret B w (R (.agg ⟨[.int .i64 j, .int .i64 l, .slice m n o, .slice p q r]⟩)))
def V65.l0 (B : Nat) (R : Value → World → Prop) : Nat → Int → Option Addr → Nat → Nat → Int → Nat → Int → Int → Option Addr → Nat → Nat → Option Addr → Nat → Nat → Nat → Option Addr → Nat → Nat → Nat → Int → Int → Option Addr → Nat → Nat → Option Addr → Nat → Nat → World → Prop
  | 0 => fun _ _ _ _ _ _ _ _ _ _ _ _ _ _ _ _ _ _ _ _ _ _ _ _ _ _ _ _ => False
  | k + 1 => fun a c d f g i j l m n o p q r s t u x y z A C D E F G I w =>
    if (decide (g < (u : Int))) = true
    then (∃ J : Addr, t = some J ∧ (0 : Int) ≤ g ∧ g < (u : Int) ∧
    ∃ L : Int, w.cell? ((J.add (g.toNat * 4)).add 0) = some (.int .i64 L) ∧
    if (L == 0) = true
     then (Expo B w [i, s, y] fun M => 
      Hide [i, s, y] (M.alloc (.cells ⟨[.int .i64 g]⟩ 3)) fun N => 
      RunK Tryd.prog (Builtin.append_ #[53, 53] 53 ⟨[.slice c d f, .slice (some ⟨M.heap.size, 0, none⟩) 1 1]⟩) B N [i, s, y] fun v O => 
      ∃ (P : Option Addr) (Q S : Nat), v = .slice P Q S ∧ (V65.l0 B R k) a P Q S (IntKind.wrap .i64 (g + 1)) i j l m n o p q r s t u x y z A C D E F G I O)
     else ((V65.l0 B R k) a c d f (IntKind.wrap .i64 (g + 1)) i j l m n o p q r s t u x y z A C D E F G I w))
    else (∃ T, V65.l1 B R T a c d f 0 i j l m n o p q r y z A C D E F G I w)
def V65.vc (B : Nat) (R : Value → World → Prop) (a c d : Int) (f : Option Addr) (g i : Nat) (w : World) : Prop :=
  ∀ j : Nat, w.heap.size ≤ j →
  CallK Tryd.prog 98 [.slice f g i] B w [j] fun v l => 
  ∃ (m : Option Addr) (n o : Nat), v = .agg ⟨[.slice m n o]⟩ ∧
  ∀ p : Nat, l.heap.size ≤ p → (256 : Int) ≠ 0 ∧ (6 : Int) ≠ 0 ∧
  ∀ q : Nat, l.heap.size ≤ q →
  ∃ r, V65.l0 B R r d none 0 0 0 q (IntKind.wrap .i64 (1 + Int.tmod (IntKind.wrap .i64 a) 256)) (IntKind.wrap .i64 (1 + Int.tmod (IntKind.wrap .i64 c) 6)) m n o none 0 0 p m n o j 0 0 none 0 0 none 0 0 l
noncomputable def V65.cfg (B : Nat) : Cfg := ⟨Tryd.prog, ⟨68, B⟩, [], hasN [98], hasN [], look []⟩
noncomputable def V65.code : Code := (Tryd.f65.body).getD .skip
noncomputable def V65.cuts (B : Nat) (R : Value → World → Prop) : Nat → Cut := nthC [⟨[(2, .one (.int .u8)), (11, .one (.slice)), (12, .one (.int .i64))], [(10, 55, [.int .i64, .int .i64, .slice, .slice]), (9, 52, [.slice]), (8, 55, [.int .i64, .int .i64, .slice, .slice])], fun fs vs bs w => V65.l0 B R (nthN fs 0) (iV (nthV vs 0)) (slA (nthV vs 1)) (slL (nthV vs 1)) (slC (nthV vs 1)) (iV (nthV vs 2)) (nthB bs 0).blk (iV (nthV (nthB bs 0).cells 0)) (iV (nthV (nthB bs 0).cells 1)) (slA (nthV (nthB bs 0).cells 2)) (slL (nthV (nthB bs 0).cells 2)) (slC (nthV (nthB bs 0).cells 2)) (slA (nthV (nthB bs 0).cells 3)) (slL (nthV (nthB bs 0).cells 3)) (slC (nthV (nthB bs 0).cells 3)) (nthB bs 1).blk (slA (nthV (nthB bs 1).cells 0)) (slL (nthV (nthB bs 1).cells 0)) (slC (nthV (nthB bs 1).cells 0)) (nthB bs 2).blk (iV (nthV (nthB bs 2).cells 0)) (iV (nthV (nthB bs 2).cells 1)) (slA (nthV (nthB bs 2).cells 2)) (slL (nthV (nthB bs 2).cells 2)) (slC (nthV (nthB bs 2).cells 2)) (slA (nthV (nthB bs 2).cells 3)) (slL (nthV (nthB bs 2).cells 3)) (slC (nthV (nthB bs 2).cells 3)) w⟩,
  ⟨[(2, .one (.int .u8)), (11, .one (.slice)), (13, .one (.int .i64))], [(10, 55, [.int .i64, .int .i64, .slice, .slice]), (8, 55, [.int .i64, .int .i64, .slice, .slice])], fun fs vs bs w => V65.l1 B R (nthN fs 0) (iV (nthV vs 0)) (slA (nthV vs 1)) (slL (nthV vs 1)) (slC (nthV vs 1)) (iV (nthV vs 2)) (nthB bs 0).blk (iV (nthV (nthB bs 0).cells 0)) (iV (nthV (nthB bs 0).cells 1)) (slA (nthV (nthB bs 0).cells 2)) (slL (nthV (nthB bs 0).cells 2)) (slC (nthV (nthB bs 0).cells 2)) (slA (nthV (nthB bs 0).cells 3)) (slL (nthV (nthB bs 0).cells 3)) (slC (nthV (nthB bs 0).cells 3)) (nthB bs 1).blk (iV (nthV (nthB bs 1).cells 0)) (iV (nthV (nthB bs 1).cells 1)) (slA (nthV (nthB bs 1).cells 2)) (slL (nthV (nthB bs 1).cells 2)) (slC (nthV (nthB bs 1).cells 2)) (slA (nthV (nthB bs 1).cells 3)) (slL (nthV (nthB bs 1).cells 3)) (slC (nthV (nthB bs 1).cells 3)) w⟩]
noncomputable def V65.h : H := .s (.z) (.s (.z) (.s (.z) (.s (.z) (.s (.s (.z) (.b (.l 0 (.s (.s (.z) (.c (.z) (.z))) (.s (.b (.s (.z) (.c (.z) (.z)))) (.z)))))) (.s (.s (.z) (.b (.l 1 (.s (.s (.z) (.c (.z) (.z))) (.s (.b (.r [[0, 1, 2, 3, 4, 5, 6, 7, 8, 9, 10, 11, 12, 13, 14, 15, 16]])) (.z)))))) (.s (.z) (.z)))))))
theorem V65.vc_eq (B : Nat) (R : Value → World → Prop) (a c d : Int) (f : Option Addr) (g i : Nat) (w : World) : wpf (V65.cfg B) (V65.cuts B R) V65.code V65.h [] (postOf Tryd.prog B (Tryd.f65.results.toList) R) (argE 0 [.int .u8 a, .int .u8 c, .int .u8 d, .slice f g i]) [] w = V65.vc B R a c d f g i w := by kernel_rfl
theorem V65.obl (B : Nat) (R : Value → World → Prop) : oblP (V65.cfg B) (V65.cuts B R) V65.code V65.h [] (postOf Tryd.prog B (Tryd.f65.results.toList) R) := by
  have e : oblP (V65.cfg B) (V65.cuts B R) V65.code V65.h [] (postOf Tryd.prog B (Tryd.f65.results.toList) R) = (True ∧ (True ∧ (True ∧ (True ∧ ((True ∧ ((∀ (a : Int) (c : Option Addr) (d f : Nat) (g : Int) (i : Nat) (j l : Int) (m : Option Addr) (n o : Nat) (p : Option Addr) (q r s : Nat) (t : Option Addr) (u x y : Nat) (z A : Int) (C : Option Addr) (D E : Nat) (F : Option Addr) (G I : Nat) (w : World), ¬ V65.l0 B R 0 a c d f g i j l m n o p q r s t u x y z A C D E F G I w) ∧ (∀ J, ∀ (a : Int) (c : Option Addr) (d f : Nat) (g : Int) (i : Nat) (j l : Int) (m : Option Addr) (n o : Nat) (p : Option Addr) (q r s : Nat) (t : Option Addr) (u x y : Nat) (z A : Int) (C : Option Addr) (D E : Nat) (F : Option Addr) (G I : Nat) (w : World), V65.l0 B R (J + 1) a c d f g i j l m n o p q r s t u x y z A C D E F G I w → V65.l0 B R (J + 1) a c d f g i j l m n o p q r s t u x y z A C D E F G I w) ∧ ∀ J : Nat, ((True ∧ (True ∧ True)) ∧ ((True ∧ (True ∧ True)) ∧ True)))) ∧ ((True ∧ ((∀ (a : Int) (c : Option Addr) (d f : Nat) (L : Int) (i : Nat) (j l : Int) (m : Option Addr) (n o : Nat) (p : Option Addr) (q r y : Nat) (z A : Int) (C : Option Addr) (D E : Nat) (F : Option Addr) (G I : Nat) (w : World), ¬ V65.l1 B R 0 a c d f L i j l m n o p q r y z A C D E F G I w) ∧ (∀ M, ∀ (a : Int) (c : Option Addr) (d f : Nat) (L : Int) (i : Nat) (j l : Int) (m : Option Addr) (n o : Nat) (p : Option Addr) (q r y : Nat) (z A : Int) (C : Option Addr) (D E : Nat) (F : Option Addr) (G I : Nat) (w : World), V65.l1 B R (M + 1) a c d f L i j l m n o p q r y z A C D E F G I w → V65.l1 B R (M + 1) a c d f L i j l m n o p q r y z A C D E F G I w) ∧ ∀ M : Nat, ((True ∧ (True ∧ True)) ∧ ((true = true) ∧ True)))) ∧ (True ∧ True))))))) := by kernel_rfl
  rw [e]
  exact ⟨trivial, ⟨trivial, ⟨trivial, ⟨trivial, ⟨⟨trivial, ⟨fun a c d f g i j l m n o p q r s t u x y z A C D E F G I w h => h, fun _ a c d f g i j l m n o p q r s t u x y z A C D E F G I w h => h, fun J => ⟨⟨trivial, ⟨trivial, trivial⟩⟩, ⟨⟨trivial, ⟨trivial, trivial⟩⟩, trivial⟩⟩⟩⟩, ⟨⟨trivial, ⟨fun a c d f L i j l m n o p q r y z A C D E F G I w h => h, fun _ a c d f L i j l m n o p q r y z A C D E F G I w h => h, fun M => ⟨⟨trivial, ⟨trivial, trivial⟩⟩, ⟨rfl, trivial⟩⟩⟩⟩, ⟨trivial, trivial⟩⟩⟩⟩⟩⟩⟩
theorem V65.cfgOk (B : Nat) : CfgOk (V65.cfg B) := cfgOk_of (by kernel_rfl) (by kernel_rfl) extNil
theorem V65.sound {a d f : Int} {g : Option Addr} {i j : Nat} {w : World} {R : Value → World → Prop} (h : V65.vc w.heap.size R a d f g i j w) : Calls Tryd.prog 65 ⟨[.int .u8 a, .int .u8 d, .int .u8 f, .slice g i j]⟩ w fun e w' => ∃ v, e = .returned v ∧ R v w' :=
  calls_wpfP (c := V65.cfg w.heap.size) (fn := Tryd.f65) (x := V65.code) (V65.cuts w.heap.size R) V65.h (V65.cfgOk _) mixed Tryd.func65 (by kernel_rfl) (by kernel_rfl) (by kernel_rfl) rfl (V65.obl _ _) ((V65.vc_eq _ _ a d f g i j _).symm ▸ h)
def V66.l0 (B : Nat) (R : Value → World → Prop) : Nat → Option Addr → Nat → Nat → Int → Option Addr → Nat → Nat → Int → Nat → Int → Int → Option Addr → Nat → Nat → Option Addr → Nat → Nat → World → Prop
  | 0 => fun _ _ _ _ _ _ _ _ _ _ _ _ _ _ _ _ _ _ => False
  | k + 1 => fun a c d f g i j l m n o p q r s t x w =>
    if (decide (IntKind.wrap .i64 (l + 3) < (c : Int))) = true
    then (if (decide (l < IntKind.wrap .i64 (4 * f))) = true
     then (∃ y : Addr, a = some y ∧ (0 : Int) ≤ l ∧ l < (c : Int) ∧
     ∃ z : Int, w.cell? (y.add l.toNat) = some (.int .u8 z) ∧ o ≠ 0 ∧
     ∃ A : Addr, g = some A ∧ (0 : Int) ≤ Int.tmod (IntKind.wrap .i64 z) o ∧ Int.tmod (IntKind.wrap .i64 z) o < (i : Int) ∧
     ∃ (C : Option Addr) (D E : Nat), w.cell? (A.add ((Int.tmod (IntKind.wrap .i64 z) o).toNat)) = some (.slice C D E) ∧
     if (decide ((D : Int) < 40)) = true
      then (∃ F : Addr, g = some F ∧ (0 : Int) ≤ Int.tmod (IntKind.wrap .i64 z) o ∧ Int.tmod (IntKind.wrap .i64 z) o < (i : Int) ∧
      ∃ (G : Option Addr) (I J : Nat), w.cell? (F.add ((Int.tmod (IntKind.wrap .i64 z) o).toNat)) = some (.slice G I J) ∧
      ∃ L : Addr, a = some L ∧ (0 : Int) ≤ IntKind.wrap .i64 (l + 1) ∧ IntKind.wrap .i64 (l + 1) < (c : Int) ∧
      ∃ M : Int, w.cell? (L.add ((IntKind.wrap .i64 (l + 1)).toNat)) = some (.int .u8 M) ∧
      ∃ N : Addr, a = some N ∧ (0 : Int) ≤ IntKind.wrap .i64 (l + 2) ∧ IntKind.wrap .i64 (l + 2) < (c : Int) ∧
      ∃ O : Int, w.cell? (N.add ((IntKind.wrap .i64 (l + 2)).toNat)) = some (.int .u8 O) ∧
      ∃ P : Addr, a = some P ∧ (0 : Int) ≤ IntKind.wrap .i64 (l + 3) ∧ IntKind.wrap .i64 (l + 3) < (c : Int) ∧
      ∃ Q : Int, w.cell? (P.add ((IntKind.wrap .i64 (l + 3)).toNat)) = some (.int .u8 Q) ∧
      CallK Tryd.prog 61 [.int .u8 M, .int .u8 O, .int .u8 Q, .int .i64 (t : Int)] B w [m] fun v S => 
       ∃ T U W : Int, v = .agg ⟨[.int .i64 T, .int .i64 U, .int .i64 W]⟩ ∧ S.cell? (F.add ((Int.tmod (IntKind.wrap .i64 z) o).toNat)) = some (.slice G I J) ∧
       Expo B S [m] fun X => 
       Hide [m] (X.alloc (.cells ⟨[.int .i64 T, .int .i64 U, .int .i64 W]⟩ 40)) fun Y => 
       Y.cell? (F.add ((Int.tmod (IntKind.wrap .i64 z) o).toNat)) = some (.slice G I J) ∧
       RunK Tryd.prog (Builtin.append_ #[66, 66] 66 ⟨[.slice G I J, .slice (some ⟨X.heap.size, 0, none⟩) 1 1]⟩) B Y [m] fun Z a0 => 
       ∃ (a1 : Option Addr) (a2 a3 : Nat), Z = .slice a1 a2 a3 ∧
       ∃ a4 : Addr, g = some a4 ∧ (0 : Int) ≤ Int.tmod (IntKind.wrap .i64 z) o ∧ Int.tmod (IntKind.wrap .i64 z) o < (i : Int) ∧
       (∃ u, a0.cell? ((a4.add ((Int.tmod (IntKind.wrap .i64 z) o).toNat)).add 0) = some u) ∧ a0.frozen? ((a4.add ((Int.tmod (IntKind.wrap .i64 z) o).toNat)).add 0) = false ∧
       let a5 := a0.setCell ((a4.add ((Int.tmod (IntKind.wrap .i64 z) o).toNat)).add 0) (.slice a1 a2 a3);
       (V66.l0 B R k) a c d f g i j (IntKind.wrap .i64 (l + 4)) m n o p q r s t x a5)
      else ((V66.l0 B R k) a c d f g i j (IntKind.wrap .i64 (l + 4)) m n o p q r s t x w))
     else (Ret B w (R (.slice g i j))))
    else (Ret B w (R (.slice g i j)))
def V66.vc (B : Nat) (R : Value → World → Prop) (a c : Int) (d : Option Addr) (f g : Nat) (i : Option Addr) (j l : Nat) (m : Option Addr) (n o : Nat) (p : Int) (w : World) : Prop :=
  ∀ q : Nat, w.heap.size ≤ q →
  RunK Tryd.prog (Instr.makeSlice 56 (.int .i64 c) (.int .i64 c)) B w [q] fun v r => 
  ∃ (s : Option Addr) (t u : Nat), v = .slice s t u ∧
  ∃ x, V66.l0 B R x m n o p s t u 0 q a c d f g i j l r
noncomputable def V66.cfg (B : Nat) : Cfg := ⟨Tryd.prog, ⟨69, B⟩, [], hasN [61], hasN [], look []⟩
noncomputable def V66.code : Code := (Tryd.f66.body).getD .skip
noncomputable def V66.cuts (B : Nat) (R : Value → World → Prop) : Nat → Cut := nthC [⟨[(1, .one (.slice)), (2, .one (.int .i64)), (7, .one (.slice)), (8, .one (.int .i64))], [(3, 55, [.int .i64, .int .i64, .slice, .slice])], fun fs vs bs w => V66.l0 B R (nthN fs 0) (slA (nthV vs 0)) (slL (nthV vs 0)) (slC (nthV vs 0)) (iV (nthV vs 1)) (slA (nthV vs 2)) (slL (nthV vs 2)) (slC (nthV vs 2)) (iV (nthV vs 3)) (nthB bs 0).blk (iV (nthV (nthB bs 0).cells 0)) (iV (nthV (nthB bs 0).cells 1)) (slA (nthV (nthB bs 0).cells 2)) (slL (nthV (nthB bs 0).cells 2)) (slC (nthV (nthB bs 0).cells 2)) (slA (nthV (nthB bs 0).cells 3)) (slL (nthV (nthB bs 0).cells 3)) (slC (nthV (nthB bs 0).cells 3)) w⟩]
noncomputable def V66.h : H := .s (.z) (.s (.z) (.s (.s (.z) (.b (.l 0 (.s (.s (.z) (.c (.z) (.z))) (.s (.b (.s (.r [[0, 1, 2, 3, 4, 5, 6, 7, 8]]) (.s (.z) (.c (.r [[0, 1, 2, 3, 4, 5, 6, 7, 8, 9, 10, 11, 12, 13, 14, 15, 16, 17, 18, 19, 20, 21, 22, 23, 24, 25, 26, 27, 28]]) (.z))))) (.z)))))) (.s (.z) (.z))))
theorem V66.vc_eq (B : Nat) (R : Value → World → Prop) (a c : Int) (d : Option Addr) (f g : Nat) (i : Option Addr) (j l : Nat) (m : Option Addr) (n o : Nat) (p : Int) (w : World) : wpf (V66.cfg B) (V66.cuts B R) V66.code V66.h [] (postOf Tryd.prog B (Tryd.f66.results.toList) R) (argE 0 [.agg ⟨[.int .i64 a, .int .i64 c, .slice d f g, .slice i j l]⟩, .slice m n o, .int .i64 p]) [] w = V66.vc B R a c d f g i j l m n o p w := by kernel_rfl
theorem V66.obl (B : Nat) (R : Value → World → Prop) : oblP (V66.cfg B) (V66.cuts B R) V66.code V66.h [] (postOf Tryd.prog B (Tryd.f66.results.toList) R) := by
  have e : oblP (V66.cfg B) (V66.cuts B R) V66.code V66.h [] (postOf Tryd.prog B (Tryd.f66.results.toList) R) = (True ∧ (True ∧ ((True ∧ ((∀ (a : Option Addr) (c d : Nat) (f : Int) (g : Option Addr) (i j : Nat) (l : Int) (m : Nat) (n o : Int) (p : Option Addr) (q r : Nat) (s : Option Addr) (t u : Nat) (w : World), ¬ V66.l0 B R 0 a c d f g i j l m n o p q r s t u w) ∧ (∀ x, ∀ (a : Option Addr) (c d : Nat) (f : Int) (g : Option Addr) (i j : Nat) (l : Int) (m : Nat) (n o : Int) (p : Option Addr) (q r : Nat) (s : Option Addr) (t u : Nat) (w : World), V66.l0 B R (x + 1) a c d f g i j l m n o p q r s t u w → V66.l0 B R (x + 1) a c d f g i j l m n o p q r s t u w) ∧ ∀ x : Nat, ((True ∧ (True ∧ True)) ∧ (((true = true) ∧ (True ∧ ((true = true) ∧ True))) ∧ True)))) ∧ (True ∧ True)))) := by kernel_rfl
  rw [e]
  exact ⟨trivial, ⟨trivial, ⟨⟨trivial, ⟨fun a c d f g i j l m n o p q r s t u w h => h, fun _ a c d f g i j l m n o p q r s t u w h => h, fun x => ⟨⟨trivial, ⟨trivial, trivial⟩⟩, ⟨⟨rfl, ⟨trivial, ⟨rfl, trivial⟩⟩⟩, trivial⟩⟩⟩⟩, ⟨trivial, trivial⟩⟩⟩⟩
theorem V66.cfgOk (B : Nat) : CfgOk (V66.cfg B) := cfgOk_of (by kernel_rfl) (by kernel_rfl) extNil
theorem V66.sound {a d : Int} {f : Option Addr} {g i : Nat} {j : Option Addr} {l m : Nat} {n : Option Addr} {o p : Nat} {q : Int} {w : World} {R : Value → World → Prop} (h : V66.vc w.heap.size R a d f g i j l m n o p q w) : Calls Tryd.prog 66 ⟨[.agg ⟨[.int .i64 a, .int .i64 d, .slice f g i, .slice j l m]⟩, .slice n o p, .int .i64 q]⟩ w fun e w' => ∃ v, e = .returned v ∧ R v w' :=
  calls_wpfP (c := V66.cfg w.heap.size) (fn := Tryd.f66) (x := V66.code) (V66.cuts w.heap.size R) V66.h (V66.cfgOk _) mixed Tryd.func66 (by kernel_rfl) (by kernel_rfl) (by kernel_rfl) rfl (V66.obl _ _) ((V66.vc_eq _ _ a d f g i j l m n o p q _).symm ▸ h)
end Go.Proofs.YtofblkmibghmbaaDoor
