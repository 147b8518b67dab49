import Derived.Test.YtidcpndlloppdaaZMB
import Derived.Test.YtidcpndlloppdaaZN21b
import Derived.Test.YtidcpndlloppdaaZM21o
/-
  What the engine makes of the loaded functions 7, 9: conditions under which a call returns as told, and proofs of that.
  Conditions: none. Printed by a program of this project.
-/
set_option linter.unusedVariables false
set_option maxRecDepth 100000
namespace Go.Proofs.Ytidcpndlloppdaa
def V9.b4 (B : Nat) (R : Value → World → Prop) (a : Int → Addr → Int → Nat → Option Addr → Nat → Nat → World → Prop) (c : Int) (d : Addr) (f : Int) (g : Option Addr) (i j : Nat) (l : Int) (m : Nat) (n : Option Addr) (o p : Nat) (w : World) : Prop :=
  CallK Try.prog 23 [.pointer (some d)] B w [m] fun v q => 
  ∃ r : Int, v = .int .i64 r ∧
  CallK Try.prog 20 [.pointer (some d)] B q [m] fun s t => 
  ∃ (u : Option Addr) (x y : Nat), s = .slice u x y ∧
  if (r == 0) = true
  then (if (!((decide (l > 0)) == ((x : Int) == IntKind.wrap .i64 ((i : Int) + 1)))) = false
   then (if (decide (l > 0)) = true
    then (if ((x : Int) == 0) = false
     then (∃ z : Addr, u = some z ∧ (0 : Int) ≤ IntKind.wrap .i64 ((x : Int) - 1) ∧ IntKind.wrap .i64 ((x : Int) - 1) < (x : Int) ∧
     ∃ A : Int, t.cell? ((z.add ((IntKind.wrap .i64 ((x : Int) - 1)).toNat * 8)).add 0) = some (.int .i64 A) ∧
     ∃ C : Addr, n = some C ∧ (0 : Int) ≤ A ∧ A < (o : Int) ∧
     ∃ D : Int, t.cell? ((C.add (A.toNat * 4)).add 0) = some (.int .i64 D) ∧
     ∃ E : Int, t.cell? ((C.add (A.toNat * 4)).add 1) = some (.int .i64 E) ∧
     ∃ F : Int, t.cell? ((C.add (A.toNat * 4)).add 2) = some (.int .i64 F) ∧
     ∃ (G : Option Addr) (I J : Nat), t.cell? ((C.add (A.toNat * 4)).add 3) = some (.slice G I J) ∧
     CallK Try.prog 31 [.agg ⟨[.int .i64 D, .int .i64 E, .int .i64 F, .slice G I J]⟩] B t [m] fun L M => 
      ∃ N : Int, L = .int .i64 N ∧
      if (l != N) = true
      then (Ret B M (R (.bool false)))
      else (a c d (IntKind.wrap .i64 (f + 1)) m n o p M))
     else (Ret B t (R (.bool false))))
    else (a c d (IntKind.wrap .i64 (f + 1)) m n o p t))
   else (Ret B t (R (.bool false))))
  else (if (decide (l > 0)) = true
   then (if ((x : Int) == 0) = false
    then (∃ z : Addr, u = some z ∧ (0 : Int) ≤ IntKind.wrap .i64 ((x : Int) - 1) ∧ IntKind.wrap .i64 ((x : Int) - 1) < (x : Int) ∧
    ∃ A : Int, t.cell? ((z.add ((IntKind.wrap .i64 ((x : Int) - 1)).toNat * 8)).add 0) = some (.int .i64 A) ∧
    ∃ C : Addr, n = some C ∧ (0 : Int) ≤ A ∧ A < (o : Int) ∧
    ∃ D : Int, t.cell? ((C.add (A.toNat * 4)).add 0) = some (.int .i64 D) ∧
    ∃ E : Int, t.cell? ((C.add (A.toNat * 4)).add 1) = some (.int .i64 E) ∧
    ∃ F : Int, t.cell? ((C.add (A.toNat * 4)).add 2) = some (.int .i64 F) ∧
    ∃ (G : Option Addr) (I J : Nat), t.cell? ((C.add (A.toNat * 4)).add 3) = some (.slice G I J) ∧
    CallK Try.prog 31 [.agg ⟨[.int .i64 D, .int .i64 E, .int .i64 F, .slice G I J]⟩] B t [m] fun L M => 
     ∃ N : Int, L = .int .i64 N ∧
     if (l != N) = true
     then (Ret B M (R (.bool false)))
     else (a c d (IntKind.wrap .i64 (f + 1)) m n o p M))
    else (Ret B t (R (.bool false))))
   else (a c d (IntKind.wrap .i64 (f + 1)) m n o p t))
def V9.b3 (B : Nat) (R : Value → World → Prop) (a : Int → Addr → Int → Nat → Option Addr → Nat → Nat → World → Prop) (c : Int) (d : Addr) (f : Int) (g : Option Addr) (i j l : Nat) (m : Option Addr) (n o : Nat) (w : World) : Prop :=
  CallK Try.prog 24 [.pointer (some d)] B w [l] fun v p => 
  ∃ q : Int, v = .int .i64 q ∧
  CallK Try.prog 22 [.pointer (some d)] B p [l] fun r s => 
  r = .tuple ⟨[]⟩ ∧
  if (q == 0) = true
  then (CallK Try.prog 24 [.pointer (some d)] B s [l] fun t u => 
   ∃ x : Int, t = .int .i64 x ∧
   V9.b4 B R a c d f g i j x l m n o u)
  else (V9.b4 B R a c d f g i j q l m n o s)
def V9.l2 (B : Nat) (R : Value → World → Prop) (a : Int → Addr → Int → Nat → Option Addr → Nat → Nat → World → Prop) : Nat → Int → Addr → Int → Option Addr → Nat → Nat → Int → Nat → Option Addr → Nat → Nat → World → Prop
  | 0 => fun _ _ _ _ _ _ _ _ _ _ _ _ => False
  | k + 1 => fun c d f g i j l m n o p w =>
    if (decide (l < (i : Int))) = true
    then (∃ q : Addr, g = some q ∧ (0 : Int) ≤ l ∧ l < (i : Int) ∧
    ∃ r : Int, w.cell? ((q.add (l.toNat * 8)).add 0) = some (.int .i64 r) ∧
    ∃ s : Int, w.cell? ((q.add (l.toNat * 8)).add 1) = some (.int .i64 s) ∧
    ∃ t : Int, w.cell? ((q.add (l.toNat * 8)).add 2) = some (.int .i64 t) ∧
    ∃ u : Bool, w.cell? ((q.add (l.toNat * 8)).add 3) = some (.bool u) ∧
    ∃ x : Int, w.cell? ((q.add (l.toNat * 8)).add 4) = some (.int .u64 x) ∧
    ∃ (y : Option Addr) (z A : Nat), w.cell? ((q.add (l.toNat * 8)).add 5) = some (.slice y z A) ∧
    ∃ (C : Option Addr) (D E : Nat), w.cell? ((q.add (l.toNat * 8)).add 6) = some (.slice C D E) ∧
    ∃ (F : Option Addr) (G I : Nat), w.cell? ((q.add (l.toNat * 8)).add 7) = some (.slice F G I) ∧
    CallK Try.prog 29 [.agg ⟨[.slice n o p]⟩, .agg ⟨[.int .i64 r, .int .i64 s, .int .i64 t, .bool u, .int .u64 x, .slice y z A, .slice C D E, .slice F G I]⟩] B w [m] fun v J => 
     ∃ L : Bool, v = .bool L ∧
     if (!L) = true
     then (Ret B J (R (.bool false)))
     else ((V9.l2 B R a k) c d f g i j (IntKind.wrap .i64 (l + 1)) m n o p J))
    else (if (decide ((i : Int) > 40)) = true
     then (CallK Try.prog 16 [] B w [m] fun v J => 
      ∃ M : Bool, v = .bool M ∧
      Ret B J (R (.bool M)))
     else (if (decide ((i : Int) > 0)) = true
      then (∃ N : Addr, g = some N ∧ (0 : Int) ≤ IntKind.wrap .i64 ((i : Int) - 1) ∧ IntKind.wrap .i64 ((i : Int) - 1) < (i : Int) ∧
      ∃ O : Int, w.cell? ((N.add ((IntKind.wrap .i64 ((i : Int) - 1)).toNat * 8)).add 0) = some (.int .i64 O) ∧
      ∃ P : Int, w.cell? ((N.add ((IntKind.wrap .i64 ((i : Int) - 1)).toNat * 8)).add 1) = some (.int .i64 P) ∧
      ∃ Q : Int, w.cell? ((N.add ((IntKind.wrap .i64 ((i : Int) - 1)).toNat * 8)).add 2) = some (.int .i64 Q) ∧
      ∃ S : Bool, w.cell? ((N.add ((IntKind.wrap .i64 ((i : Int) - 1)).toNat * 8)).add 3) = some (.bool S) ∧
      ∃ T : Int, w.cell? ((N.add ((IntKind.wrap .i64 ((i : Int) - 1)).toNat * 8)).add 4) = some (.int .u64 T) ∧
      ∃ (U : Option Addr) (W X : Nat), w.cell? ((N.add ((IntKind.wrap .i64 ((i : Int) - 1)).toNat * 8)).add 5) = some (.slice U W X) ∧
      ∃ (Y : Option Addr) (Z a0 : Nat), w.cell? ((N.add ((IntKind.wrap .i64 ((i : Int) - 1)).toNat * 8)).add 6) = some (.slice Y Z a0) ∧
      ∃ (a1 : Option Addr) (a2 a3 : Nat), w.cell? ((N.add ((IntKind.wrap .i64 ((i : Int) - 1)).toNat * 8)).add 7) = some (.slice a1 a2 a3) ∧
      ∀ a4 : Nat, w.heap.size ≤ a4 →
      CallK Try.prog 30 [.agg ⟨[.slice n o p]⟩, .int .i64 O] B w [a4, m] fun v J => 
       ∃ (a5 : Option Addr) (a6 a7 : Nat), v = .slice a5 a6 a7 ∧
       if (Q == 0) = true
       then (if (decide (P ≥ (a6 : Int))) = false
        then (∃ a8 : Addr, a5 = some a8 ∧ (0 : Int) ≤ P ∧ P < (a6 : Int) ∧
        ∃ a9 : Int, J.cell? (a8.add P.toNat) = some (.int .i64 a9) ∧
        if ((a2 : Int) != a9) = true
         then (Ret B J (R (.bool false)))
         else (V9.b3 B R a c d f g i j m n o p J))
        else (Ret B J (R (.bool false))))
       else (V9.b3 B R a c d f g i j m n o p J))
      else (V9.b3 B R a c d f g i j m n o p w)))
def V9.l1 (B : Nat) (R : Value → World → Prop) : Nat → Int → Addr → Int → Nat → Option Addr → Nat → Nat → World → Prop
  | 0 => fun _ _ _ _ _ _ _ _ => False
  | k + 1 => fun a c d f g i j w =>
    if (decide (d < IntKind.wrap .i64 a)) = true
    then (CallK Try.prog 20 [.pointer (some c)] B w [f] fun v l => 
     ∃ (m : Option Addr) (n o : Nat), v = .slice m n o ∧
     ∃ p, V9.l2 B R (V9.l1 B R k) p a c d m n o 0 f g i j l)
    else (CallK Try.prog 16 [] B w [f] fun v l => 
     ∃ q : Bool, v = .bool q ∧
     Ret B l (R (.bool q)))
def V9.b0 (B : Nat) (R : Value → World → Prop) (a : Int) (c : Addr) (d : Nat) (f : Option Addr) (g i : Nat) (w : World) : Prop :=
  ∃ j, V9.l1 B R j a c 0 d f g i w
def V9.vc (B : Nat) (R : Value → World → Prop) (a : Option Addr) (c d : Nat) (f : Int) (w : World) : Prop :=
  CallK Try.prog 21 [.slice a c d] B w [] fun v g => 
  ∃ (i : Option Addr) (j l : Nat), v = .agg ⟨[.slice i j l]⟩ ∧
  ∀ m : Nat, g.heap.size ≤ m →
  CallK Try.prog 26 [.agg ⟨[.slice i j l]⟩, .int .i64 0] B g [m] fun n o => 
  ∃ p : Option Addr, n = .pointer p ∧
  caseP p
  (False)
  (fun q => V9.b0 B R f q m i j l o)
noncomputable def V9.cfg (B : Nat) : Cfg := ⟨Try.prog, ⟨131, B⟩, [], hasN [16, 20, 21, 22, 23, 24, 26, 29, 30, 31], hasN [], look []⟩
noncomputable def V9.code : Code := (Try.f9.body).getD .skip
noncomputable def V9.cuts (B : Nat) (R : Value → World → Prop) : Nat → Cut := nthC [⟨[(1, .one (.int .u8)), (6, .one (.ptr))], [(5, 34, [.slice])], fun fs vs bs w => V9.b0 B R (iV (nthV vs 0)) (pV (nthV vs 1)) (nthB bs 0).blk (slA (nthV (nthB bs 0).cells 0)) (slL (nthV (nthB bs 0).cells 0)) (slC (nthV (nthB bs 0).cells 0)) w⟩,
  ⟨[(1, .one (.int .u8)), (6, .one (.ptr)), (7, .one (.int .i64))], [(5, 34, [.slice])], fun fs vs bs w => V9.l1 B R (nthN fs 0) (iV (nthV vs 0)) (pV (nthV vs 1)) (iV (nthV vs 2)) (nthB bs 0).blk (slA (nthV (nthB bs 0).cells 0)) (slL (nthV (nthB bs 0).cells 0)) (slC (nthV (nthB bs 0).cells 0)) w⟩,
  ⟨[(1, .one (.int .u8)), (6, .one (.ptr)), (7, .one (.int .i64)), (8, .one (.slice)), (9, .one (.int .i64))], [(5, 34, [.slice])], fun fs vs bs w => V9.l2 B R (V9.l1 B R (nthN fs 1)) (nthN fs 0) (iV (nthV vs 0)) (pV (nthV vs 1)) (iV (nthV vs 2)) (slA (nthV vs 3)) (slL (nthV vs 3)) (slC (nthV vs 3)) (iV (nthV vs 4)) (nthB bs 0).blk (slA (nthV (nthB bs 0).cells 0)) (slL (nthV (nthB bs 0).cells 0)) (slC (nthV (nthB bs 0).cells 0)) w⟩,
  ⟨[(1, .one (.int .u8)), (6, .one (.ptr)), (7, .one (.int .i64)), (8, .one (.slice))], [(5, 34, [.slice])], fun fs vs bs w => V9.b3 B R (V9.l1 B R (nthN fs 0)) (iV (nthV vs 0)) (pV (nthV vs 1)) (iV (nthV vs 2)) (slA (nthV vs 3)) (slL (nthV vs 3)) (slC (nthV vs 3)) (nthB bs 0).blk (slA (nthV (nthB bs 0).cells 0)) (slL (nthV (nthB bs 0).cells 0)) (slC (nthV (nthB bs 0).cells 0)) w⟩,
  ⟨[(1, .one (.int .u8)), (6, .one (.ptr)), (7, .one (.int .i64)), (8, .one (.slice)), (12, .one (.int .i64))], [(5, 34, [.slice])], fun fs vs bs w => V9.b4 B R (V9.l1 B R (nthN fs 0)) (iV (nthV vs 0)) (pV (nthV vs 1)) (iV (nthV vs 2)) (slA (nthV vs 3)) (slL (nthV vs 3)) (slC (nthV vs 3)) (iV (nthV vs 4)) (nthB bs 0).blk (slA (nthV (nthB bs 0).cells 0)) (slL (nthV (nthB bs 0).cells 0)) (slC (nthV (nthB bs 0).cells 0)) w⟩]
noncomputable def V9.h : H := .s (.z) (.s (.z) (.cut 0 (.z) (.s (.s (.z) (.c (.s (.z) (.z)) (.z))) (.s (.s (.z) (.b (.l 1 (.s (.s (.z) (.c (.z) (.z))) (.s (.b (.s (.z) (.s (.s (.z) (.b (.l 2 (.s (.s (.z) (.c (.z) (.z))) (.s (.b (.s (.r [[0, 1, 2, 3, 4, 5, 6]]) (.c (.s (.z) (.z)) (.z)))) (.z)))))) (.s (.s (.z) (.c (.s (.z) (.z)) (.z))) (.cut 3 (.s (.z) (.c (.s (.z) (.s (.z) (.s (.r [[0, 1, 2, 3, 4, 5, 6, 7, 8, 9, 10, 11, 12, 13, 14, 15, 16, 17, 18, 19, 20]]) (.c (.s (.z) (.z)) (.z))))) (.z))) (.s (.z) (.s (.z) (.cut 4 (.s (.z) (.c (.z) (.z))) (.s (.z) (.s (.z) (.s (.r [[0, 1, 2, 3, 4, 5, 6, 7, 8, 9, 10, 11, 12, 13, 14, 15, 16, 17, 18, 19, 20, 21, 22, 23, 24, 25, 26, 27, 28, 29, 30, 31, 32, 33, 34, 35, 36, 37]]) (.c (.s (.z) (.z)) (.z))))))))))))) (.z)))))) (.s (.z) (.z))))))
theorem V9.vc_eq (B : Nat) (R : Value → World → Prop) (a : Option Addr) (c d : Nat) (f : Int) (w : World) : wpf (V9.cfg B) (V9.cuts B R) V9.code V9.h [] (postOf Try.prog B (Try.f9.results.toList) R) (argE 0 [.slice a c d, .int .u8 f]) [] w = V9.vc B R a c d f w := by kernel_rfl
theorem V9.obl (B : Nat) (R : Value → World → Prop) : oblP (V9.cfg B) (V9.cuts B R) V9.code V9.h [] (postOf Try.prog B (Try.f9.results.toList) R) := by
  have e : oblP (V9.cfg B) (V9.cuts B R) V9.code V9.h [] (postOf Try.prog B (Try.f9.results.toList) R) = (True ∧ (True ∧ (True ∧ (∀ (a : Int) (c : Addr) (d : Nat) (f : Option Addr) (g i : Nat) (w : World), V9.b0 B R a c d f g i w → V9.b0 B R a c d f g i w) ∧ ((True ∧ ((True ∧ True) ∧ True)) ∧ ((True ∧ ((∀ (a : Int) (c : Addr) (j : Int) (d : Nat) (f : Option Addr) (g i : Nat) (w : World), ¬ V9.l1 B R 0 a c j d f g i w) ∧ (∀ l, ∀ (a : Int) (c : Addr) (j : Int) (d : Nat) (f : Option Addr) (g i : Nat) (w : World), V9.l1 B R (l + 1) a c j d f g i w → V9.l1 B R (l + 1) a c j d f g i w) ∧ ∀ l : Nat, ((True ∧ (True ∧ True)) ∧ ((True ∧ ((True ∧ ((∀ (a : Int) (c : Addr) (j : Int) (m : Option Addr) (n o : Nat) (p : Int) (d : Nat) (f : Option Addr) (g i : Nat) (w : World), ¬ V9.l2 B R (V9.l1 B R l) 0 a c j m n o p d f g i w) ∧ (∀ q, ∀ (a : Int) (c : Addr) (j : Int) (m : Option Addr) (n o : Nat) (p : Int) (d : Nat) (f : Option Addr) (g i : Nat) (w : World), V9.l2 B R (V9.l1 B R l) (q + 1) a c j m n o p d f g i w → V9.l2 B R (V9.l1 B R l) (q + 1) a c j m n o p d f g i w) ∧ ∀ q : Nat, ((True ∧ (True ∧ True)) ∧ (((true = true) ∧ ((True ∧ True) ∧ True)) ∧ True)))) ∧ ((True ∧ ((True ∧ True) ∧ True)) ∧ ((True ∧ ((True ∧ (True ∧ ((true = true) ∧ ((True ∧ True) ∧ True)))) ∧ True)) ∧ (∀ (a : Int) (c : Addr) (j : Int) (m : Option Addr) (n o d : Nat) (f : Option Addr) (g i : Nat) (w : World), V9.b3 B R (V9.l1 B R l) a c j m n o d f g i w → V9.b3 B R (V9.l1 B R l) a c j m n o d f g i w) ∧ (True ∧ (True ∧ ((True ∧ (True ∧ True)) ∧ (∀ (a : Int) (c : Addr) (j : Int) (m : Option Addr) (n o : Nat) (r : Int) (d : Nat) (f : Option Addr) (g i : Nat) (w : World), V9.b4 B R (V9.l1 B R l) a c j m n o r d f g i w → V9.b4 B R (V9.l1 B R l) a c j m n o r d f g i w) ∧ (True ∧ (True ∧ ((true = true) ∧ ((True ∧ True) ∧ True))))))))))) ∧ True)))) ∧ (True ∧ True)))))) := by kernel_rfl
  exact e.mpr (⟨trivial, ⟨trivial, ⟨trivial, fun a c d f g i w h => h, ⟨⟨trivial, ⟨⟨trivial, trivial⟩, trivial⟩⟩, ⟨⟨trivial, ⟨fun a c j d f g i w h => h, fun _ a c j d f g i w h => h, fun l => ⟨⟨trivial, ⟨trivial, trivial⟩⟩, ⟨⟨trivial, ⟨⟨trivial, ⟨fun a c j m n o p d f g i w h => h, fun _ a c j m n o p d f g i w h => h, fun q => ⟨⟨trivial, ⟨trivial, trivial⟩⟩, ⟨⟨rfl, ⟨⟨trivial, trivial⟩, trivial⟩⟩, trivial⟩⟩⟩⟩, ⟨⟨trivial, ⟨⟨trivial, trivial⟩, trivial⟩⟩, ⟨⟨trivial, ⟨⟨trivial, ⟨trivial, ⟨rfl, ⟨⟨trivial, trivial⟩, trivial⟩⟩⟩⟩, trivial⟩⟩, fun a c j m n o d f g i w h => h, ⟨trivial, ⟨trivial, ⟨⟨trivial, ⟨trivial, trivial⟩⟩, fun a c j m n o r d f g i w h => h, ⟨trivial, ⟨trivial, ⟨rfl, ⟨⟨trivial, trivial⟩, trivial⟩⟩⟩⟩⟩⟩⟩⟩⟩⟩⟩, trivial⟩⟩⟩⟩, ⟨trivial, trivial⟩⟩⟩⟩⟩⟩)
theorem V9.cfgOk (B : Nat) : CfgOk (V9.cfg B) := cfgOk_of (by kernel_rfl) (by kernel_rfl) extNil
theorem V9.sound {a : Option Addr} {d f : Nat} {g : Int} {w : World} {R : Value → World → Prop} (h : V9.vc w.heap.size R a d f g w) : Calls Try.prog 9 ⟨[.slice a d f, .int .u8 g]⟩ w fun e w' => ∃ v, e = .returned v ∧ R v w' :=
  calls_wpfP (c := V9.cfg w.heap.size) (fn := Try.f9) (x := V9.code) (V9.cuts w.heap.size R) V9.h (V9.cfgOk _) mixed Try.func9 (by kernel_rfl) (by kernel_rfl) (by kernel_rfl) rfl (V9.obl _ _) ((V9.vc_eq _ _ a d f g _).symm ▸ h)
end Go.Proofs.Ytidcpndlloppdaa

/-
  Layer 21: AbsmParks's function returns true.
  Conditions: the arguments' memory says what their values are.
-/
set_option linter.unusedVariables false
set_option linter.unusedSimpArgs false
set_option maxRecDepth 20000
namespace Go.Proofs.Ytidcpndlloppdaa
open Go.RowKit
theorem smallF_of {p : List Fnc} (hr : Rt p) {x : Frm} (h : FrOk p x) : SmallF x := by
  obtain ⟨g, hx⟩ := h.inn
  have hs := sized_bd (hx.wrap hr).2
  have h8 := hx.ops
  have hl := hx.locals
  have hd4 : x.dfs.length ≤ 4 := by have := hx.room; unfold roomM at this; split at this <;> omega
  refine ⟨by omega, by omega, by omega, fun d hd => ?_⟩
  have := hx.dfs d hd
  unfold dfrM at this
  split at this
  · rename_i fd hfd
    have hb := sized_bd (hr.sized fd (fnAt_mem hfd).1)
    have : (d.args.length : Int) = fd.params := by simpa using this
    omega
  · cases this
theorem wake_same {m : Mach} (h : m.parked = false) : wakeM m = m := by cases m; simp only [wakeM] at *; rw [h]
def DuoAt (w0 w : World) (p : List Fnc) (g g' : Nat) (m m' : Mach) : Prop := ∃ C c F T ss C' c' F' T' ss', Duo w w0.heap.size p g C c m F T ss g' C' c' m' F' T' ss' ∧ Below w0.heap.size w0 w
section
variable {w0 w : World} {p : List Fnc} {g g' : Nat} {m m' : Mach}
theorem DuoAt.below (h : DuoAt w0 w p g g' m m') : Below w0.heap.size w0 w := by
  obtain ⟨C, c, F, T, ss, C', c', F', T', ss', h, hw⟩ := h
  exact hw
theorem DuoAt.ext {w' : World} (h : DuoAt w0 w p g g' m m') (he : Ext w0.heap.size w w') : DuoAt w0 w' p g g' m m' := by
  obtain ⟨C, c, F, T, ss, C', c', F', T', ss', h, hw⟩ := h
  exact ⟨C, c, F, T, ss, C', c', F', T', ss', h.ext he, he.after hw⟩
theorem DuoAt.size (h : DuoAt w0 w p g g' m m') : w0.heap.size ≤ w.heap.size := h.below.size
theorem DuoAt.frames (h : DuoAt w0 w p g g' m m') (hr : Rt p) (ho : MOk p m) (hn : m.frames.length ≤ 100000) {bs : List Nat} {K : Value → World → Prop} (hk : ∀ A c' w1, DuoAt w0 w1 p g g' m m' → K (.slice A m.frames.length c') w1) : CallK Try.prog 20 [.pointer (some ⟨g, 0, none⟩)] w0.heap.size w bs K := by
  obtain ⟨C, c, F, T, ss, C', c', F', T', ss', h, hw⟩ := h
  exact call_frames hw.size h.a (fun x hx => smallF_of hr (ho.frames x hx)) hn fun A c1 w1 ss1 e1 _ _ => hk A c1 w1 ⟨C, c, F, T, ss, C', c', F', T', ss', h.ext e1, e1.after hw⟩
end
section
variable {p : List Fnc} {fn : Fnc} (hr : Rt p) (hf : fnAt p 0 = some fn) (h0 : fn.params = 0)
include hr hf h0
end
end Go.Proofs.Ytidcpndlloppdaa
