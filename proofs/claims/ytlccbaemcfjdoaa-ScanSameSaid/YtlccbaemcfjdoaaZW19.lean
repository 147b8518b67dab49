/-
  What the engine makes of the loaded functions 19: conditions under which a call returns as told, and proofs of that.
  Conditions: none. Printed by a program of this project.
-/
import Derived.Test.YtlccbaemcfjdoaaZWH
set_option linter.unusedVariables false
set_option maxRecDepth 100000
namespace Go.Proofs.Ytlccbaemcfjdoaa
def V19.b5 (B : Nat) (R : Value → World → Prop) (a : Option Addr) (c d : Nat) (f : Option Addr) (g i : Nat) (j : Int) (l : Addr) (w : World) : Prop :=
  if (j == 0) = true
  then (CallK Try.prog 68 [.slice f g i, .slice a c d] B w [] fun v m => 
   ∃ n : Bool, v = .bool n ∧
   if n = true
   then (CallK Try.prog 71 [.pointer (some l)] B m [] fun o p => 
    ∃ (q : Option Addr) (r s : Nat), o = .slice q r s ∧
    CallK Try.prog 68 [.slice q r s, .slice a c d] B p [] fun t u => 
    ∃ x : Bool, t = .bool x ∧
    if x = true
    then (CallK Try.prog 65 [] B u [] fun y z => 
     ∃ A : Bool, y = .bool A ∧
     Ret B z (R (.bool A)))
    else (Ret B u (R (.bool false))))
   else (Ret B m (R (.bool false))))
  else (Ret B w (R (.bool false)))
def V19.l4 (B : Nat) (R : Value → World → Prop) : Nat → Option Addr → Nat → Nat → Option Addr → Nat → Nat → Int → Addr → Int → Nat → Option Addr → Nat → Nat → Addr → Option Addr → Nat → Nat → Option Addr → Nat → Nat → Option Addr → Nat → Nat → Int → Int → Int → World → Prop
  | 0 => fun _ _ _ _ _ _ _ _ _ _ _ _ _ _ _ _ _ _ _ _ _ _ _ _ _ _ _ => False
  | k + 1 => fun c d f g i j l m n o p q r s t u x y z A C D E F G I w =>
    if (decide (n < 2000)) = true
    then (CallK Try.prog 71 [.pointer (some m)] B w [o] fun v J => 
     ∃ (L : Option Addr) (M N : Nat), v = .slice L M N ∧
     if (decide ((M : Int) > (d : Int))) = false
     then ((0 : Int) ≤ (M : Int) ∧ (M : Int) ≤ (f : Int) ∧
     CallK Try.prog 68 [.slice L M N, .slice (if f = 0 then c else Option.map (fun a => a.add 0) c) (((M : Int).toNat) - 0) (f - 0)] B J [o] fun O P => 
      ∃ Q : Bool, O = .bool Q ∧
      if (!Q) = true
      then (Ret B P (R (.bool false)))
      else (CallK Try.prog 64 [.pointer (some m), .pointer (some s)] B P [o] fun S T => 
       ∃ (U : Int) (W : Bool) (X : Int), S = .tuple ⟨[.int .i64 U, .bool W, .int .i64 X]⟩ ∧
       if (X != 0) = true
       then (Ret B T (R (.bool false)))
       else (if W = true
        then (V19.b5 B R c d f g i j l m T)
        else ((V19.l4 B R k) c d f g i j l m (IntKind.wrap .i64 (n + 1)) o p q r s t u x y z A C D E F G I T))))
     else (Ret B J (R (.bool false))))
    else (V19.b5 B R c d f g i j l m w)
def V19.b3 (B : Nat) (R : Value → World → Prop) (a : Option Addr) (c d : Nat) (f : Option Addr) (g i : Nat) (j : Int) (l : Addr) (m : Nat) (n : Option Addr) (o p : Nat) (q : Addr) (r : Option Addr) (s t : Nat) (u : Option Addr) (x y : Nat) (z : Option Addr) (A C : Nat) (D E F : Int) (w : World) : Prop :=
  ∃ G, V19.l4 B R G a c d f g i j l 0 m n o p q r s t u x y z A C D E F w
def V19.l2 (B : Nat) (R : Value → World → Prop) (a : Option Addr → Nat → Nat → Int → Nat → Option Addr → Nat → Nat → Addr → Option Addr → Nat → Nat → Option Addr → Nat → Nat → Option Addr → Nat → Nat → Int → Int → Int → World → Prop) : Nat → Option Addr → Nat → Nat → Int → Int → Nat → Int → Int → Int → Option Addr → Nat → Nat → Nat → Option Addr → Nat → Nat → Addr → Option Addr → Nat → Nat → Option Addr → Nat → Nat → Option Addr → Nat → Nat → Int → Int → Int → World → Prop
  | 0 => fun _ _ _ _ _ _ _ _ _ _ _ _ _ _ _ _ _ _ _ _ _ _ _ _ _ _ _ _ _ _ => False
  | k + 1 => fun c d f g i j l m n o p q r s t u x y z A C D E F G I J L M w =>
    if (decide (i < m)) = true
    then (∃ N : Addr, C = some N ∧ (0 : Int) ≤ g ∧ g < (D : Int) ∧
    ∃ (O : Option Addr) (P Q : Nat), w.cell? ((N.add (g.toNat * 8)).add 6) = some (.slice O P Q) ∧
    ∃ S : Addr, O = some S ∧ (0 : Int) ≤ i ∧ i < (P : Int) ∧
    ∃ T : Int, w.cell? (S.add i.toNat) = some (.int .u64 T) ∧
    if (T != 0) = true
     then (∃ U : Addr, C = some U ∧ (0 : Int) ≤ g ∧ g < (D : Int) ∧
     ∃ (W : Option Addr) (X Y : Nat), w.cell? ((U.add (g.toNat * 8)).add 6) = some (.slice W X Y) ∧
     ∃ Z : Addr, W = some Z ∧ (0 : Int) ≤ i ∧ i < (X : Int) ∧
     ∃ a0 : Int, w.cell? (Z.add i.toNat) = some (.int .u64 a0) ∧
     Expo B w [j, r] fun a1 => 
      Hide [j, r] (a1.alloc (.cells ⟨[.int .u64 a0]⟩ 51)) fun a2 => 
      RunK Try.prog (Builtin.append_ #[50, 50] 50 ⟨[.slice c d f, .slice (some ⟨a1.heap.size, 0, none⟩) 1 1]⟩) B a2 [j, r] fun v a3 => 
      ∃ (a4 : Option Addr) (a5 a6 : Nat), v = .slice a4 a5 a6 ∧ (V19.l2 B R a k) a4 a5 a6 g (IntKind.wrap .i64 (i + 1)) j l m n o p q r s t u x y z A C D E F G I J L M a3)
     else ((V19.l2 B R a k) c d f g (IntKind.wrap .i64 (i + 1)) j l m n o p q r s t u x y z A C D E F G I J L M w))
    else (a c d f (IntKind.wrap .i64 (g - 1)) r s t u x y z A C D E F G I J L M w)
def V19.l1 (B : Nat) (R : Value → World → Prop) : Nat → Option Addr → Nat → Nat → Int → Nat → Option Addr → Nat → Nat → Addr → Option Addr → Nat → Nat → Option Addr → Nat → Nat → Option Addr → Nat → Nat → Int → Int → Int → World → Prop
  | 0 => fun _ _ _ _ _ _ _ _ _ _ _ _ _ _ _ _ _ _ _ _ _ _ => False
  | k + 1 => fun a c d f g i j l m n o p q r s t u x y z A w =>
    if (decide (f ≥ 0)) = true
    then (∃ C : Addr, q = some C ∧ (0 : Int) ≤ f ∧ f < (r : Int) ∧
    ∃ D : Int, w.cell? ((C.add (f.toNat * 8)).add 0) = some (.int .i64 D) ∧
    ∃ E : Addr, i = some E ∧ (0 : Int) ≤ D ∧ D < (j : Int) ∧
    ∃ F : Int, w.cell? ((E.add (D.toNat * 4)).add 0) = some (.int .i64 F) ∧
    ∃ G : Int, w.cell? ((E.add (D.toNat * 4)).add 1) = some (.int .i64 G) ∧
    ∃ I : Int, w.cell? ((E.add (D.toNat * 4)).add 2) = some (.int .i64 I) ∧
    ∃ (J : Option Addr) (L M : Nat), w.cell? ((E.add (D.toNat * 4)).add 3) = some (.slice J L M) ∧
    ∀ N : Nat, w.heap.size ≤ N → w.cell? ((E.add (D.toNat * 4)).add 0) = some (.int .i64 F) ∧ w.cell? ((E.add (D.toNat * 4)).add 1) = some (.int .i64 G) ∧ w.cell? ((E.add (D.toNat * 4)).add 2) = some (.int .i64 I) ∧ w.cell? ((E.add (D.toNat * 4)).add 3) = some (.slice J L M) ∧ w.cell? ((C.add (f.toNat * 8)).add 0) = some (.int .i64 D) ∧
    ∃ O, V19.l2 B R (V19.l1 B R k) O a c d f (IntKind.wrap .i64 (G - I)) N F G I J L M g i j l m n o p q r s t u x y z A w)
    else (CallK Try.prog 66 [.pointer (some m), .agg ⟨[.slice i j l]⟩, .int .i64 A] B w [g] fun v P => 
     ∃ (Q : Option Addr) (S T : Nat) (U : Int), v = .tuple ⟨[.slice Q S T, .int .i64 U]⟩ ∧
     CallK Try.prog 63 [.agg ⟨[.slice i j l]⟩, .int .i64 A] B P [g] fun W X => 
     ∃ Y : Option Addr, W = .pointer Y ∧
     caseP Y
     (False)
     (fun Z => V19.b3 B R a c d Q S T U Z g i j l m n o p q r s t u x y z A X))
def V19.b0 (B : Nat) (R : Value → World → Prop) (a : Bool) (c : Nat) (d : Option Addr) (f g : Nat) (i : Addr) (j : Option Addr) (l m : Nat) (n : Option Addr) (o p : Nat) (q : Option Addr) (r s : Nat) (t u x : Int) (w : World) : Prop :=
  if (!a) = true
  then (Ret B w (R (.bool false)))
  else (∃ y, V19.l1 B R y none 0 0 (IntKind.wrap .i64 ((o : Int) - 1)) c d f g i j l m n o p q r s t u x w)
def V19.vc (B : Nat) (R : Value → World → Prop) (a : Option Addr) (c d : Nat) (f : Option Addr) (g i : Nat) (j : Option Addr) (l m : Nat) (n : Int) (w : World) : Prop :=
  CallK Try.prog 62 [.slice a c d, .slice f g i, .slice j l m, .int .u8 n, .int .u8 0] B w [] fun v o => 
  ∃ (p : Option Addr) (q r : Nat) (s t : Option Addr) (u x : Nat) (y : Option Addr) (z A : Nat) (C : Option Addr) (D E : Nat) (F G I : Int) (J : Bool), v = .tuple ⟨[.agg ⟨[.slice p q r, .pointer s, .slice t u x, .slice y z A, .slice C D E, .int .i64 F, .int .i64 G, .int .i64 I]⟩, .bool J]⟩ ∧
  caseP s
  (∀ L : Nat, o.heap.size ≤ L → False)
  (fun M => ∀ L : Nat, o.heap.size ≤ L →
  V19.b0 B R J L p q r M t u x y z A C D E F G I o)
noncomputable def V19.cfg (B : Nat) : Cfg := ⟨Try.prog, ⟨151, B⟩, [], hasN [62, 63, 64, 65, 66, 68, 71], hasN []⟩
noncomputable def V19.code : Code := (Try.f19.body).getD .skip
noncomputable def V19.cuts (B : Nat) (R : Value → World → Prop) : Nat → Cut := nthC [⟨[(10, .one (.bool))], [(9, 101, [.slice, .ptr, .slice, .slice, .slice, .int .i64, .int .i64, .int .i64])], fun fs vs bs w => V19.b0 B R (bV (nthV vs 0)) (nthB bs 0).blk (slA (nthV (nthB bs 0).cells 0)) (slL (nthV (nthB bs 0).cells 0)) (slC (nthV (nthB bs 0).cells 0)) (pV (nthV (nthB bs 0).cells 1)) (slA (nthV (nthB bs 0).cells 2)) (slL (nthV (nthB bs 0).cells 2)) (slC (nthV (nthB bs 0).cells 2)) (slA (nthV (nthB bs 0).cells 3)) (slL (nthV (nthB bs 0).cells 3)) (slC (nthV (nthB bs 0).cells 3)) (slA (nthV (nthB bs 0).cells 4)) (slL (nthV (nthB bs 0).cells 4)) (slC (nthV (nthB bs 0).cells 4)) (iV (nthV (nthB bs 0).cells 5)) (iV (nthV (nthB bs 0).cells 6)) (iV (nthV (nthB bs 0).cells 7)) w⟩,
  ⟨[(11, .one (.slice)), (12, .one (.int .i64))], [(9, 101, [.slice, .ptr, .slice, .slice, .slice, .int .i64, .int .i64, .int .i64])], fun fs vs bs w => V19.l1 B R (nthN fs 0) (slA (nthV vs 0)) (slL (nthV vs 0)) (slC (nthV vs 0)) (iV (nthV vs 1)) (nthB bs 0).blk (slA (nthV (nthB bs 0).cells 0)) (slL (nthV (nthB bs 0).cells 0)) (slC (nthV (nthB bs 0).cells 0)) (pV (nthV (nthB bs 0).cells 1)) (slA (nthV (nthB bs 0).cells 2)) (slL (nthV (nthB bs 0).cells 2)) (slC (nthV (nthB bs 0).cells 2)) (slA (nthV (nthB bs 0).cells 3)) (slL (nthV (nthB bs 0).cells 3)) (slC (nthV (nthB bs 0).cells 3)) (slA (nthV (nthB bs 0).cells 4)) (slL (nthV (nthB bs 0).cells 4)) (slC (nthV (nthB bs 0).cells 4)) (iV (nthV (nthB bs 0).cells 5)) (iV (nthV (nthB bs 0).cells 6)) (iV (nthV (nthB bs 0).cells 7)) w⟩,
  ⟨[(11, .one (.slice)), (12, .one (.int .i64)), (14, .one (.int .i64))], [(13, 29, [.int .i64, .int .i64, .int .i64, .slice]), (9, 101, [.slice, .ptr, .slice, .slice, .slice, .int .i64, .int .i64, .int .i64])], fun fs vs bs w => V19.l2 B R (V19.l1 B R (nthN fs 1)) (nthN fs 0) (slA (nthV vs 0)) (slL (nthV vs 0)) (slC (nthV vs 0)) (iV (nthV vs 1)) (iV (nthV vs 2)) (nthB bs 0).blk (iV (nthV (nthB bs 0).cells 0)) (iV (nthV (nthB bs 0).cells 1)) (iV (nthV (nthB bs 0).cells 2)) (slA (nthV (nthB bs 0).cells 3)) (slL (nthV (nthB bs 0).cells 3)) (slC (nthV (nthB bs 0).cells 3)) (nthB bs 1).blk (slA (nthV (nthB bs 1).cells 0)) (slL (nthV (nthB bs 1).cells 0)) (slC (nthV (nthB bs 1).cells 0)) (pV (nthV (nthB bs 1).cells 1)) (slA (nthV (nthB bs 1).cells 2)) (slL (nthV (nthB bs 1).cells 2)) (slC (nthV (nthB bs 1).cells 2)) (slA (nthV (nthB bs 1).cells 3)) (slL (nthV (nthB bs 1).cells 3)) (slC (nthV (nthB bs 1).cells 3)) (slA (nthV (nthB bs 1).cells 4)) (slL (nthV (nthB bs 1).cells 4)) (slC (nthV (nthB bs 1).cells 4)) (iV (nthV (nthB bs 1).cells 5)) (iV (nthV (nthB bs 1).cells 6)) (iV (nthV (nthB bs 1).cells 7)) w⟩,
  ⟨[(11, .one (.slice)), (15, .one (.slice)), (16, .one (.int .i64)), (17, .one (.ptr))], [(9, 101, [.slice, .ptr, .slice, .slice, .slice, .int .i64, .int .i64, .int .i64])], fun fs vs bs w => V19.b3 B R (slA (nthV vs 0)) (slL (nthV vs 0)) (slC (nthV vs 0)) (slA (nthV vs 1)) (slL (nthV vs 1)) (slC (nthV vs 1)) (iV (nthV vs 2)) (pV (nthV vs 3)) (nthB bs 0).blk (slA (nthV (nthB bs 0).cells 0)) (slL (nthV (nthB bs 0).cells 0)) (slC (nthV (nthB bs 0).cells 0)) (pV (nthV (nthB bs 0).cells 1)) (slA (nthV (nthB bs 0).cells 2)) (slL (nthV (nthB bs 0).cells 2)) (slC (nthV (nthB bs 0).cells 2)) (slA (nthV (nthB bs 0).cells 3)) (slL (nthV (nthB bs 0).cells 3)) (slC (nthV (nthB bs 0).cells 3)) (slA (nthV (nthB bs 0).cells 4)) (slL (nthV (nthB bs 0).cells 4)) (slC (nthV (nthB bs 0).cells 4)) (iV (nthV (nthB bs 0).cells 5)) (iV (nthV (nthB bs 0).cells 6)) (iV (nthV (nthB bs 0).cells 7)) w⟩,
  ⟨[(11, .one (.slice)), (15, .one (.slice)), (16, .one (.int .i64)), (17, .one (.ptr)), (18, .one (.int .i64))], [(9, 101, [.slice, .ptr, .slice, .slice, .slice, .int .i64, .int .i64, .int .i64])], fun fs vs bs w => V19.l4 B R (nthN fs 0) (slA (nthV vs 0)) (slL (nthV vs 0)) (slC (nthV vs 0)) (slA (nthV vs 1)) (slL (nthV vs 1)) (slC (nthV vs 1)) (iV (nthV vs 2)) (pV (nthV vs 3)) (iV (nthV vs 4)) (nthB bs 0).blk (slA (nthV (nthB bs 0).cells 0)) (slL (nthV (nthB bs 0).cells 0)) (slC (nthV (nthB bs 0).cells 0)) (pV (nthV (nthB bs 0).cells 1)) (slA (nthV (nthB bs 0).cells 2)) (slL (nthV (nthB bs 0).cells 2)) (slC (nthV (nthB bs 0).cells 2)) (slA (nthV (nthB bs 0).cells 3)) (slL (nthV (nthB bs 0).cells 3)) (slC (nthV (nthB bs 0).cells 3)) (slA (nthV (nthB bs 0).cells 4)) (slL (nthV (nthB bs 0).cells 4)) (slC (nthV (nthB bs 0).cells 4)) (iV (nthV (nthB bs 0).cells 5)) (iV (nthV (nthB bs 0).cells 6)) (iV (nthV (nthB bs 0).cells 7)) w⟩,
  ⟨[(11, .one (.slice)), (15, .one (.slice)), (16, .one (.int .i64)), (17, .one (.ptr))], [], fun fs vs bs w => V19.b5 B R (slA (nthV vs 0)) (slL (nthV vs 0)) (slC (nthV vs 0)) (slA (nthV vs 1)) (slL (nthV vs 1)) (slC (nthV vs 1)) (iV (nthV vs 2)) (pV (nthV vs 3)) w⟩]
noncomputable def V19.h : H := .s (.z) (.cut 0 (.z) (.s (.s (.z) (.c (.s (.z) (.z)) (.z))) (.s (.z) (.s (.s (.z) (.b (.l 1 (.s (.s (.z) (.c (.z) (.z))) (.s (.b (.s (.r [[0, 1, 2, 3, 4, 5, 6, 7, 8, 9, 10, 11, 12]]) (.s (.z) (.b (.l 2 (.s (.s (.z) (.c (.z) (.z))) (.s (.b (.s (.z) (.c (.z) (.z)))) (.z)))))))) (.z)))))) (.s (.z) (.cut 3 (.z) (.s (.s (.z) (.c (.s (.z) (.z)) (.z))) (.cut 5 (.s (.z) (.b (.l 4 (.s (.s (.z) (.c (.z) (.z))) (.s (.b (.s (.z) (.s (.s (.z) (.c (.s (.z) (.z)) (.z))) (.s (.z) (.s (.s (.z) (.c (.s (.z) (.z)) (.z))) (.s (.z) (.c (.z) (.z)))))))) (.z)))))) (.s (.z) (.z))))))))))
theorem V19.vc_eq (B : Nat) (R : Value → World → Prop) (a : Option Addr) (c d : Nat) (f : Option Addr) (g i : Nat) (j : Option Addr) (l m : Nat) (n : Int) (w : World) : wpf (V19.cfg B) (V19.cuts B R) V19.code V19.h [] (postOf Try.prog B (Try.f19.results.toList) R) (argE 0 [.slice a c d, .slice f g i, .slice j l m, .int .u8 n]) [] w = V19.vc B R a c d f g i j l m n w := by kernel_rfl
theorem V19.obl (B : Nat) (R : Value → World → Prop) : oblP (V19.cfg B) (V19.cuts B R) V19.code V19.h [] (postOf Try.prog B (Try.f19.results.toList) R) := by
  have e : oblP (V19.cfg B) (V19.cuts B R) V19.code V19.h [] (postOf Try.prog B (Try.f19.results.toList) R) = (True ∧ (True ∧ (∀ (a : Bool) (c : Nat) (d : Option Addr) (f g : Nat) (i : Addr) (j : Option Addr) (l m : Nat) (n : Option Addr) (o p : Nat) (q : Option Addr) (r s : Nat) (t u x : Int) (w : World), V19.b0 B R a c d f g i j l m n o p q r s t u x w → V19.b0 B R a c d f g i j l m n o p q r s t u x w) ∧ ((True ∧ ((True ∧ True) ∧ True)) ∧ (True ∧ ((True ∧ ((∀ (y : Option Addr) (z A : Nat) (C : Int) (c : Nat) (d : Option Addr) (f g : Nat) (i : Addr) (j : Option Addr) (l m : Nat) (n : Option Addr) (o p : Nat) (q : Option Addr) (r s : Nat) (t u x : Int) (w : World), ¬ V19.l1 B R 0 y z A C c d f g i j l m n o p q r s t u x w) ∧ (∀ D, ∀ (y : Option Addr) (z A : Nat) (C : Int) (c : Nat) (d : Option Addr) (f g : Nat) (i : Addr) (j : Option Addr) (l m : Nat) (n : Option Addr) (o p : Nat) (q : Option Addr) (r s : Nat) (t u x : Int) (w : World), V19.l1 B R (D + 1) y z A C c d f g i j l m n o p q r s t u x w → V19.l1 B R (D + 1) y z A C c d f g i j l m n o p q r s t u x w) ∧ ∀ D : Nat, ((True ∧ (True ∧ True)) ∧ (((true = true) ∧ (True ∧ ((∀ (y : Option Addr) (z A : Nat) (C E : Int) (F : Nat) (G I J : Int) (L : Option Addr) (M N c : Nat) (d : Option Addr) (f g : Nat) (i : Addr) (j : Option Addr) (l m : Nat) (n : Option Addr) (o p : Nat) (q : Option Addr) (r s : Nat) (t u x : Int) (w : World), ¬ V19.l2 B R (V19.l1 B R D) 0 y z A C E F G I J L M N c d f g i j l m n o p q r s t u x w) ∧ (∀ O, ∀ (y : Option Addr) (z A : Nat) (C E : Int) (F : Nat) (G I J : Int) (L : Option Addr) (M N c : Nat) (d : Option Addr) (f g : Nat) (i : Addr) (j : Option Addr) (l m : Nat) (n : Option Addr) (o p : Nat) (q : Option Addr) (r s : Nat) (t u x : Int) (w : World), V19.l2 B R (V19.l1 B R D) (O + 1) y z A C E F G I J L M N c d f g i j l m n o p q r s t u x w → V19.l2 B R (V19.l1 B R D) (O + 1) y z A C E F G I J L M N c d f g i j l m n o p q r s t u x w) ∧ ∀ O : Nat, ((True ∧ (True ∧ True)) ∧ ((True ∧ (True ∧ True)) ∧ True))))) ∧ True)))) ∧ (True ∧ (True ∧ (∀ (y : Option Addr) (z A : Nat) (P : Option Addr) (Q S : Nat) (T : Int) (U : Addr) (c : Nat) (d : Option Addr) (f g : Nat) (i : Addr) (j : Option Addr) (l m : Nat) (n : Option Addr) (o p : Nat) (q : Option Addr) (r s : Nat) (t u x : Int) (w : World), V19.b3 B R y z A P Q S T U c d f g i j l m n o p q r s t u x w → V19.b3 B R y z A P Q S T U c d f g i j l m n o p q r s t u x w) ∧ ((True ∧ ((True ∧ True) ∧ True)) ∧ ((True ∧ ((∀ (y : Option Addr) (z A : Nat) (P : Option Addr) (Q S : Nat) (T : Int) (U : Addr) (W : Int) (c : Nat) (d : Option Addr) (f g : Nat) (i : Addr) (j : Option Addr) (l m : Nat) (n : Option Addr) (o p : Nat) (q : Option Addr) (r s : Nat) (t u x : Int) (w : World), ¬ V19.l4 B R 0 y z A P Q S T U W c d f g i j l m n o p q r s t u x w) ∧ (∀ X, ∀ (y : Option Addr) (z A : Nat) (P : Option Addr) (Q S : Nat) (T : Int) (U : Addr) (W : Int) (c : Nat) (d : Option Addr) (f g : Nat) (i : Addr) (j : Option Addr) (l m : Nat) (n : Option Addr) (o p : Nat) (q : Option Addr) (r s : Nat) (t u x : Int) (w : World), V19.l4 B R (X + 1) y z A P Q S T U W c d f g i j l m n o p q r s t u x w → V19.l4 B R (X + 1) y z A P Q S T U W c d f g i j l m n o p q r s t u x w) ∧ ∀ X : Nat, ((True ∧ (True ∧ True)) ∧ ((True ∧ ((True ∧ ((True ∧ True) ∧ True)) ∧ (True ∧ ((True ∧ ((True ∧ True) ∧ True)) ∧ (True ∧ (True ∧ True)))))) ∧ True)))) ∧ (∀ (y : Option Addr) (z A : Nat) (P : Option Addr) (Q S : Nat) (T : Int) (U : Addr) (w : World), V19.b5 B R y z A P Q S T U w → V19.b5 B R y z A P Q S T U w) ∧ (True ∧ True)))))))))) := by kernel_rfl
  rw [e]
  exact ⟨trivial, ⟨trivial, fun a c d f g i j l m n o p q r s t u x w h => h, ⟨⟨trivial, ⟨⟨trivial, trivial⟩, trivial⟩⟩, ⟨trivial, ⟨⟨trivial, ⟨fun y z A C c d f g i j l m n o p q r s t u x w h => h, fun _ y z A C c d f g i j l m n o p q r s t u x w h => h, fun D => ⟨⟨trivial, ⟨trivial, trivial⟩⟩, ⟨⟨rfl, ⟨trivial, ⟨fun y z A C E F G I J L M N c d f g i j l m n o p q r s t u x w h => h, fun _ y z A C E F G I J L M N c d f g i j l m n o p q r s t u x w h => h, fun O => ⟨⟨trivial, ⟨trivial, trivial⟩⟩, ⟨⟨trivial, ⟨trivial, trivial⟩⟩, trivial⟩⟩⟩⟩⟩, trivial⟩⟩⟩⟩, ⟨trivial, ⟨trivial, fun y z A P Q S T U c d f g i j l m n o p q r s t u x w h => h, ⟨⟨trivial, ⟨⟨trivial, trivial⟩, trivial⟩⟩, ⟨⟨trivial, ⟨fun y z A P Q S T U W c d f g i j l m n o p q r s t u x w h => h, fun _ y z A P Q S T U W c d f g i j l m n o p q r s t u x w h => h, fun X => ⟨⟨trivial, ⟨trivial, trivial⟩⟩, ⟨⟨trivial, ⟨⟨trivial, ⟨⟨trivial, trivial⟩, trivial⟩⟩, ⟨trivial, ⟨⟨trivial, ⟨⟨trivial, trivial⟩, trivial⟩⟩, ⟨trivial, ⟨trivial, trivial⟩⟩⟩⟩⟩⟩, trivial⟩⟩⟩⟩, fun y z A P Q S T U w h => h, ⟨trivial, trivial⟩⟩⟩⟩⟩⟩⟩⟩⟩⟩
theorem V19.cfgOk (B : Nat) : CfgOk (V19.cfg B) := cfgOk_of (by kernel_rfl) (by kernel_rfl)
theorem V19.sound {a : Option Addr} {d f : Nat} {g : Option Addr} {i j : Nat} {l : Option Addr} {m n : Nat} {o : Int} {w : World} {R : Value → World → Prop} (h : V19.vc w.heap.size R a d f g i j l m n o w) : Calls Try.prog 19 ⟨[.slice a d f, .slice g i j, .slice l m n, .int .u8 o]⟩ w fun e w' => ∃ v, e = .returned v ∧ R v w' :=
  calls_wpfP (c := V19.cfg w.heap.size) (fn := Try.f19) (x := V19.code) (V19.cuts w.heap.size R) V19.h (V19.cfgOk _) mixed Try.func19 (by kernel_rfl) (by kernel_rfl) (by kernel_rfl) rfl (V19.obl _ _) ((V19.vc_eq _ _ a d f g i j l m n o _).symm ▸ h)
end Go.Proofs.Ytlccbaemcfjdoaa
