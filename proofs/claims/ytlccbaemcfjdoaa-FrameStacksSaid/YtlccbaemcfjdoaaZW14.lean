/-
  What the engine makes of the loaded functions 14: conditions under which a call returns as told, and proofs of that.
  Conditions: none. Printed by a program of this project.
-/
import Derived.Test.YtlccbaemcfjdoaaZWD
set_option linter.unusedVariables false
set_option maxRecDepth 100000
namespace Go.Proofs.Ytlccbaemcfjdoaa
def V14.b3 (B : Nat) (R : Value → World → Prop) (a : Option Addr → Nat → Nat → Option Addr → Nat → Nat → Addr → Int → Nat → Option Addr → Nat → Nat → World → Prop) (c : Option Addr) (d f : Nat) (g : Option Addr) (i j : Nat) (l : Addr) (m n : Int) (o : Nat) (p q r : Int) (s : Bool) (t : Int) (u : Option Addr) (x y : Nat) (z : Option Addr) (A C : Nat) (D : Option Addr) (E F G : Nat) (I : Option Addr) (J L : Nat) (w : World) : Prop :=
  if (n != 0) = false
  then (∃ M : Addr, c = some M ∧ (0 : Int) ≤ m ∧ m < (d : Int) ∧
  ∃ N : Int, w.cell? ((M.add (m.toNat * 8)).add 0) = some (.int .i64 N) ∧
  ∃ O : Int, w.cell? ((M.add (m.toNat * 8)).add 1) = some (.int .i64 O) ∧
  ∃ P : Int, w.cell? ((M.add (m.toNat * 8)).add 2) = some (.int .i64 P) ∧
  ∃ Q : Bool, w.cell? ((M.add (m.toNat * 8)).add 3) = some (.bool Q) ∧
  ∃ S : Int, w.cell? ((M.add (m.toNat * 8)).add 4) = some (.int .u64 S) ∧
  ∃ (T : Option Addr) (U W : Nat), w.cell? ((M.add (m.toNat * 8)).add 5) = some (.slice T U W) ∧
  ∃ (X : Option Addr) (Y Z : Nat), w.cell? ((M.add (m.toNat * 8)).add 6) = some (.slice X Y Z) ∧
  ∃ (a0 : Option Addr) (a1 a2 : Nat), w.cell? ((M.add (m.toNat * 8)).add 7) = some (.slice a0 a1 a2) ∧
  CallK Try.prog 56 [.agg ⟨[.int .i64 p, .int .i64 q, .int .i64 r, .bool s, .int .u64 t, .slice u x y, .slice z A C, .slice D E F]⟩, .agg ⟨[.int .i64 N, .int .i64 O, .int .i64 P, .bool Q, .int .u64 S, .slice T U W, .slice X Y Z, .slice a0 a1 a2]⟩] B w [o, G] fun v a3 => 
   ∃ a4 : Bool, v = .bool a4 ∧
   if (!a4) = true
   then (Ret B a3 (R (.bool false)))
   else (a c d f g i j l (IntKind.wrap .i64 (m + 1)) G I J L a3))
  else (Ret B w (R (.bool false)))
def V14.l2 (B : Nat) (R : Value → World → Prop) : Nat → Option Addr → Nat → Nat → Option Addr → Nat → Nat → Addr → Int → Nat → Option Addr → Nat → Nat → World → Prop
  | 0 => fun _ _ _ _ _ _ _ _ _ _ _ _ _ => False
  | k + 1 => fun a c d f g i j l m n o p w =>
    if (decide (l < (c : Int))) = true
    then ((∃ q : Addr, f = some q ∧ (0 : Int) ≤ l ∧ l < (g : Int) ∧
    ∃ r : Int, w.cell? (q.add l.toNat) = some (.int .i64 r) ∧
    CallK Try.prog 54 [.pointer (some j), .agg ⟨[.slice n o p]⟩, .int .i64 r] B w [m] fun v s => 
      ∃ (t u x : Int) (y : Bool) (z : Int) (A : Option Addr) (C D : Nat) (E : Option Addr) (F G : Nat) (I : Option Addr) (J L : Nat) (M N : Int), v = .tuple ⟨[.agg ⟨[.int .i64 t, .int .i64 u, .int .i64 x, .bool y, .int .u64 z, .slice A C D, .slice E F G, .slice I J L]⟩, .int .i64 M, .int .i64 N]⟩ ∧
      ∀ O : Nat, s.heap.size ≤ O →
      V14.b3 B R (V14.l2 B R k) a c d f g i j l N O t u x y z A C D E F G I J L m n o p s) ∧
      (∃ q : Addr, f = some q ∧ (0 : Int) ≤ l ∧ l < (g : Int) ∧
      ∃ r : Int, w.cell? (q.add l.toNat) = some (.int .i64 r) ∧
      ∀ O : Nat, w.heap.size ≤ O → w.cell? (q.add l.toNat) = some (.int .i64 r) ∧
      CallK Try.prog 54 [.pointer (some j), .agg ⟨[.slice n o p]⟩, .int .i64 r] B w [O, m] fun v s => 
      ∃ (t u x : Int) (y : Bool) (z : Int) (A : Option Addr) (C D : Nat) (E : Option Addr) (F G : Nat) (I : Option Addr) (J L : Nat) (M N : Int), v = .tuple ⟨[.agg ⟨[.int .i64 t, .int .i64 u, .int .i64 x, .bool y, .int .u64 z, .slice A C D, .slice E F G, .slice I J L]⟩, .int .i64 M, .int .i64 N]⟩ ∧
      V14.b3 B R (V14.l2 B R k) a c d f g i j l N O t u x y z A C D E F G I J L m n o p s))
    else (CallK Try.prog 47 [] B w [m] fun v s => 
     ∃ P : Bool, v = .bool P ∧
     Ret B s (R (.bool P)))
def V14.l1 (B : Nat) (R : Value → World → Prop) : Nat → Option Addr → Nat → Nat → Option Addr → Nat → Nat → Int → Addr → Int → Int → Nat → Option Addr → Nat → Nat → World → Prop
  | 0 => fun _ _ _ _ _ _ _ _ _ _ _ _ _ _ _ => False
  | k + 1 => fun a c d f g i j l m n o p q r w =>
    if (decide (n < (c : Int))) = true
    then (∃ s : Addr, f = some s ∧ (0 : Int) ≤ n ∧ n < (g : Int) ∧
    ∃ t : Int, w.cell? (s.add n.toNat) = some (.int .i64 t) ∧
    ∃ u : Addr, a = some u ∧ (0 : Int) ≤ n ∧ n < (c : Int) ∧
    ∃ x : Int, w.cell? ((u.add (n.toNat * 8)).add 0) = some (.int .i64 x) ∧
    ∃ y : Int, w.cell? ((u.add (n.toNat * 8)).add 1) = some (.int .i64 y) ∧
    ∃ z : Int, w.cell? ((u.add (n.toNat * 8)).add 2) = some (.int .i64 z) ∧
    ∃ A : Bool, w.cell? ((u.add (n.toNat * 8)).add 3) = some (.bool A) ∧
    ∃ C : Int, w.cell? ((u.add (n.toNat * 8)).add 4) = some (.int .u64 C) ∧
    ∃ (D : Option Addr) (E F : Nat), w.cell? ((u.add (n.toNat * 8)).add 5) = some (.slice D E F) ∧
    ∃ (G : Option Addr) (I J : Nat), w.cell? ((u.add (n.toNat * 8)).add 6) = some (.slice G I J) ∧
    ∃ (L : Option Addr) (M N : Nat), w.cell? ((u.add (n.toNat * 8)).add 7) = some (.slice L M N) ∧
    CallK Try.prog 52 [.pointer (some l), .agg ⟨[.slice p q r]⟩, .int .i64 t, .int .i64 m, .agg ⟨[.int .i64 x, .int .i64 y, .int .i64 z, .bool A, .int .u64 C, .slice D E F, .slice G I J, .slice L M N]⟩] B w [o] fun v O => 
     ∃ P : Int, v = .int .i64 P ∧
     if (P != 0) = true
     then (Ret B O (R (.bool false)))
     else (∃ Q : Addr, f = some Q ∧ (0 : Int) ≤ n ∧ n < (g : Int) ∧
     ∃ S : Int, O.cell? (Q.add n.toNat) = some (.int .i64 S) ∧ (V14.l1 B R k) a c d f g i j l S (IntKind.wrap .i64 (n + 1)) o p q r O))
    else (CallK Try.prog 59 [.pointer (some l), .agg ⟨[.slice p q r]⟩, .int .i64 m] B w [o] fun v O => 
     ∃ (T : Option Addr) (U W : Nat) (X : Int), v = .tuple ⟨[.slice T U W, .int .i64 X]⟩ ∧
     if (X != 0) = false
     then (CallK Try.prog 61 [.slice f g i] B O [o] fun Y Z => 
      ∃ (a0 : Option Addr) (a1 a2 : Nat), Y = .slice a0 a1 a2 ∧
      CallK Try.prog 40 [.slice T U W, .slice a0 a1 a2] B Z [o] fun a3 a4 => 
      ∃ a5 : Bool, a3 = .bool a5 ∧
      if (!a5) = false
      then (if (decide (j > 512)) = true
       then (Ret B a4 (R (.bool false)))
       else (∃ a6, V14.l2 B R a6 a c d f g i l 0 o p q r a4))
      else (Ret B a4 (R (.bool false))))
     else (Ret B O (R (.bool false))))
def V14.b0 (B : Nat) (R : Value → World → Prop) (a : Option Addr) (c d : Nat) (f : Option Addr) (g i : Nat) (j : Int) (l : Addr) (m : Nat) (n : Option Addr) (o p : Nat) (w : World) : Prop :=
  ∃ q, V14.l1 B R q a c d f g i j l (-1) 0 m n o p w
def V14.vc (B : Nat) (R : Value → World → Prop) (a : Option Addr) (c d : Nat) (f : Option Addr) (g i : Nat) (j : Option Addr) (l m : Nat) (n : Int) (w : World) : Prop :=
  CallK Try.prog 35 [.slice a c d] B w [] fun v o => 
  ∃ (p : Option Addr) (q r : Nat), v = .agg ⟨[.slice p q r]⟩ ∧
  ∀ s : Nat, o.heap.size ≤ s →
  RunK Try.prog (Instr.makeSlice 50 (.int .i64 512) (.int .i64 512)) B o [s] fun t u => 
  ∃ (x : Option Addr) (y z : Nat), t = .slice x y z ∧
  CallK Try.prog 58 [.agg ⟨[.slice p q r]⟩, .slice f g i, .int .i64 (IntKind.wrap .i64 n), .int .i64 512, .slice x y z] B u [s] fun A C => 
  ∃ (D : Option Addr) (E F : Nat) (G : Option Addr) (I J : Nat) (L : Option Addr) (M N : Nat) (O : Int), A = .tuple ⟨[.slice D E F, .slice G I J, .slice L M N, .int .i64 O]⟩ ∧
  CallK Try.prog 41 [.int .i64 8, .slice j l m] B C [s] fun P Q => 
  ∃ (S T : Option Addr) (U W : Nat), P = .tuple ⟨[.pointer S, .slice T U W]⟩ ∧
  caseP S
  (False)
  (fun X => V14.b0 B R D E F G I J O X s p q r Q)
noncomputable def V14.cfg (B : Nat) : Cfg := ⟨Try.prog, ⟨116, B⟩, [], hasN [35, 40, 41, 47, 52, 54, 56, 58, 59, 61], hasN []⟩
noncomputable def V14.code : Code := (Try.f14.body).getD .skip
noncomputable def V14.cuts (B : Nat) (R : Value → World → Prop) : Nat → Cut := nthC [⟨[(10, .one (.slice)), (11, .one (.slice)), (13, .one (.int .i64)), (14, .one (.ptr))], [(9, 24, [.slice])], fun fs vs bs w => V14.b0 B R (slA (nthV vs 0)) (slL (nthV vs 0)) (slC (nthV vs 0)) (slA (nthV vs 1)) (slL (nthV vs 1)) (slC (nthV vs 1)) (iV (nthV vs 2)) (pV (nthV vs 3)) (nthB bs 0).blk (slA (nthV (nthB bs 0).cells 0)) (slL (nthV (nthB bs 0).cells 0)) (slC (nthV (nthB bs 0).cells 0)) w⟩,
  ⟨[(10, .one (.slice)), (11, .one (.slice)), (13, .one (.int .i64)), (14, .one (.ptr)), (16, .one (.int .i64)), (17, .one (.int .i64))], [(9, 24, [.slice])], fun fs vs bs w => V14.l1 B R (nthN fs 0) (slA (nthV vs 0)) (slL (nthV vs 0)) (slC (nthV vs 0)) (slA (nthV vs 1)) (slL (nthV vs 1)) (slC (nthV vs 1)) (iV (nthV vs 2)) (pV (nthV vs 3)) (iV (nthV vs 4)) (iV (nthV vs 5)) (nthB bs 0).blk (slA (nthV (nthB bs 0).cells 0)) (slL (nthV (nthB bs 0).cells 0)) (slC (nthV (nthB bs 0).cells 0)) w⟩,
  ⟨[(10, .one (.slice)), (11, .one (.slice)), (14, .one (.ptr)), (20, .one (.int .i64))], [(9, 24, [.slice])], fun fs vs bs w => V14.l2 B R (nthN fs 0) (slA (nthV vs 0)) (slL (nthV vs 0)) (slC (nthV vs 0)) (slA (nthV vs 1)) (slL (nthV vs 1)) (slC (nthV vs 1)) (pV (nthV vs 2)) (iV (nthV vs 3)) (nthB bs 0).blk (slA (nthV (nthB bs 0).cells 0)) (slL (nthV (nthB bs 0).cells 0)) (slC (nthV (nthB bs 0).cells 0)) w⟩,
  ⟨[(10, .one (.slice)), (11, .one (.slice)), (14, .one (.ptr)), (20, .one (.int .i64)), (23, .one (.int .i64))], [(21, 67, [.int .i64, .int .i64, .int .i64, .bool, .int .u64, .slice, .slice, .slice]), (9, 24, [.slice])], fun fs vs bs w => V14.b3 B R (V14.l2 B R (nthN fs 0)) (slA (nthV vs 0)) (slL (nthV vs 0)) (slC (nthV vs 0)) (slA (nthV vs 1)) (slL (nthV vs 1)) (slC (nthV vs 1)) (pV (nthV vs 2)) (iV (nthV vs 3)) (iV (nthV vs 4)) (nthB bs 0).blk (iV (nthV (nthB bs 0).cells 0)) (iV (nthV (nthB bs 0).cells 1)) (iV (nthV (nthB bs 0).cells 2)) (bV (nthV (nthB bs 0).cells 3)) (iV (nthV (nthB bs 0).cells 4)) (slA (nthV (nthB bs 0).cells 5)) (slL (nthV (nthB bs 0).cells 5)) (slC (nthV (nthB bs 0).cells 5)) (slA (nthV (nthB bs 0).cells 6)) (slL (nthV (nthB bs 0).cells 6)) (slC (nthV (nthB bs 0).cells 6)) (slA (nthV (nthB bs 0).cells 7)) (slL (nthV (nthB bs 0).cells 7)) (slC (nthV (nthB bs 0).cells 7)) (nthB bs 1).blk (slA (nthV (nthB bs 1).cells 0)) (slL (nthV (nthB bs 1).cells 0)) (slC (nthV (nthB bs 1).cells 0)) w⟩]
noncomputable def V14.h : H := .s (.z) (.s (.z) (.s (.r [[0, 1, 2, 3, 4, 5, 6, 7, 8, 9, 10, 11, 12, 13, 14]]) (.cut 0 (.z) (.s (.s (.z) (.c (.s (.z) (.z)) (.z))) (.s (.z) (.s (.s (.z) (.b (.l 1 (.s (.s (.z) (.c (.z) (.z))) (.s (.b (.s (.s (.r [[0, 1, 2, 3, 4, 5, 6, 7, 8, 9, 10, 11, 12]]) (.c (.s (.z) (.z)) (.z))) (.z))) (.z)))))) (.s (.z) (.s (.s (.z) (.c (.s (.z) (.z)) (.z))) (.s (.s (.z) (.b (.l 2 (.s (.s (.z) (.c (.z) (.z))) (.s (.b (.cut 3 (.r [[0, 1, 2, 3, 4, 5, 6, 7, 8, 9, 10, 11, 12, 13, 14], [0, 1, 2, 3, 4, 5, 11, 6, 7, 8, 9, 10, 12, 13, 14]]) (.s (.r [[0, 1, 2, 3, 4, 5, 6, 7, 8, 9, 10]]) (.c (.s (.z) (.z)) (.z))))) (.z)))))) (.s (.z) (.z)))))))))))
theorem V14.vc_eq (B : Nat) (R : Value → World → Prop) (a : Option Addr) (c d : Nat) (f : Option Addr) (g i : Nat) (j : Option Addr) (l m : Nat) (n : Int) (w : World) : wpf (V14.cfg B) (V14.cuts B R) V14.code V14.h [] (postOf Try.prog B (Try.f14.results.toList) R) (argE 0 [.slice a c d, .slice f g i, .slice j l m, .int .u8 n]) [] w = V14.vc B R a c d f g i j l m n w := by kernel_rfl
theorem V14.obl (B : Nat) (R : Value → World → Prop) : oblP (V14.cfg B) (V14.cuts B R) V14.code V14.h [] (postOf Try.prog B (Try.f14.results.toList) R) := by
  have e : oblP (V14.cfg B) (V14.cuts B R) V14.code V14.h [] (postOf Try.prog B (Try.f14.results.toList) R) = (True ∧ (True ∧ ((true = true) ∧ (True ∧ (∀ (a : Option Addr) (c d : Nat) (f : Option Addr) (g i : Nat) (j : Int) (l : Addr) (m : Nat) (n : Option Addr) (o p : Nat) (w : World), V14.b0 B R a c d f g i j l m n o p w → V14.b0 B R a c d f g i j l m n o p w) ∧ ((True ∧ ((True ∧ True) ∧ True)) ∧ (True ∧ ((True ∧ ((∀ (a : Option Addr) (c d : Nat) (f : Option Addr) (g i : Nat) (j : Int) (l : Addr) (q r : Int) (m : Nat) (n : Option Addr) (o p : Nat) (w : World), ¬ V14.l1 B R 0 a c d f g i j l q r m n o p w) ∧ (∀ s, ∀ (a : Option Addr) (c d : Nat) (f : Option Addr) (g i : Nat) (j : Int) (l : Addr) (q r : Int) (m : Nat) (n : Option Addr) (o p : Nat) (w : World), V14.l1 B R (s + 1) a c d f g i j l q r m n o p w → V14.l1 B R (s + 1) a c d f g i j l q r m n o p w) ∧ ∀ s : Nat, ((True ∧ (True ∧ True)) ∧ ((((true = true) ∧ ((True ∧ True) ∧ True)) ∧ True) ∧ True)))) ∧ (True ∧ ((True ∧ ((True ∧ True) ∧ True)) ∧ ((True ∧ ((∀ (a : Option Addr) (c d : Nat) (f : Option Addr) (g i : Nat) (l : Addr) (t : Int) (m : Nat) (n : Option Addr) (o p : Nat) (w : World), ¬ V14.l2 B R 0 a c d f g i l t m n o p w) ∧ (∀ u, ∀ (a : Option Addr) (c d : Nat) (f : Option Addr) (g i : Nat) (l : Addr) (t : Int) (m : Nat) (n : Option Addr) (o p : Nat) (w : World), V14.l2 B R (u + 1) a c d f g i l t m n o p w → V14.l2 B R (u + 1) a c d f g i l t m n o p w) ∧ ∀ u : Nat, ((True ∧ (True ∧ True)) ∧ (((true = true) ∧ (∀ (a : Option Addr) (c d : Nat) (f : Option Addr) (g i : Nat) (l : Addr) (t x : Int) (y : Nat) (z A C : Int) (D : Bool) (E : Int) (F : Option Addr) (G I : Nat) (J : Option Addr) (L M : Nat) (N : Option Addr) (O P m : Nat) (n : Option Addr) (o p : Nat) (w : World), V14.b3 B R (V14.l2 B R u) a c d f g i l t x y z A C D E F G I J L M N O P m n o p w → V14.b3 B R (V14.l2 B R u) a c d f g i l t x y z A C D E F G I J L M N O P m n o p w) ∧ ((true = true) ∧ ((True ∧ True) ∧ True))) ∧ True)))) ∧ (True ∧ True))))))))))) := by kernel_rfl
  rw [e]
  exact ⟨trivial, ⟨trivial, ⟨rfl, ⟨trivial, fun a c d f g i j l m n o p w h => h, ⟨⟨trivial, ⟨⟨trivial, trivial⟩, trivial⟩⟩, ⟨trivial, ⟨⟨trivial, ⟨fun a c d f g i j l q r m n o p w h => h, fun _ a c d f g i j l q r m n o p w h => h, fun s => ⟨⟨trivial, ⟨trivial, trivial⟩⟩, ⟨⟨⟨rfl, ⟨⟨trivial, trivial⟩, trivial⟩⟩, trivial⟩, trivial⟩⟩⟩⟩, ⟨trivial, ⟨⟨trivial, ⟨⟨trivial, trivial⟩, trivial⟩⟩, ⟨⟨trivial, ⟨fun a c d f g i l t m n o p w h => h, fun _ a c d f g i l t m n o p w h => h, fun u => ⟨⟨trivial, ⟨trivial, trivial⟩⟩, ⟨⟨rfl, fun a c d f g i l t x y z A C D E F G I J L M N O P m n o p w h => h, ⟨rfl, ⟨⟨trivial, trivial⟩, trivial⟩⟩⟩, trivial⟩⟩⟩⟩, ⟨trivial, trivial⟩⟩⟩⟩⟩⟩⟩⟩⟩⟩⟩
theorem V14.cfgOk (B : Nat) : CfgOk (V14.cfg B) := cfgOk_of (by kernel_rfl) (by kernel_rfl)
theorem V14.sound {a : Option Addr} {d f : Nat} {g : Option Addr} {i j : Nat} {l : Option Addr} {m n : Nat} {o : Int} {w : World} {R : Value → World → Prop} (h : V14.vc w.heap.size R a d f g i j l m n o w) : Calls Try.prog 14 ⟨[.slice a d f, .slice g i j, .slice l m n, .int .u8 o]⟩ w fun e w' => ∃ v, e = .returned v ∧ R v w' :=
  calls_wpfP (c := V14.cfg w.heap.size) (fn := Try.f14) (x := V14.code) (V14.cuts w.heap.size R) V14.h (V14.cfgOk _) mixed Try.func14 (by kernel_rfl) (by kernel_rfl) (by kernel_rfl) rfl (V14.obl _ _) ((V14.vc_eq _ _ a d f g i j l m n o _).symm ▸ h)
end Go.Proofs.Ytlccbaemcfjdoaa
