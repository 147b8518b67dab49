/-
  What the engine makes of the loaded functions 15: conditions under which a call returns as told, and proofs of that.
  Conditions: none. Printed by a program of this project.
-/
import Derived.Test.YtlccbaemcfjdoaaZWD
set_option linter.unusedVariables false
set_option maxRecDepth 100000
namespace Go.Proofs.Ytlccbaemcfjdoaa
def V15.b1 (B : Nat) (R : Value → World → Prop) (a : Int) (c : Addr) (d : Option Addr) (f g i : Nat) (j l m : Int) (n : Bool) (o : Int) (p : Option Addr) (q r : Nat) (s : Option Addr) (t u : Nat) (x : Option Addr) (y z A : Nat) (C : Option Addr) (D E : Nat) (w : World) : Prop :=
  ∀ F : Nat, w.heap.size ≤ F →
  Expo B w [F, i, A] fun G => 
  Hide [F, i, A] (G.alloc (.cells ⟨[]⟩ 51)) fun I => 
  RunK Try.prog (Builtin.append_ #[50, 50] 50 ⟨[.slice (some ⟨G.heap.size, 0, none⟩) 0 0, .slice s t u]⟩) B I [F, i, A] fun v J => 
  ∃ (L : Option Addr) (M N : Nat), v = .slice L M N ∧
  Expo B J [F, i, A] fun O => 
  Hide [F, i, A] (O.alloc (.cells ⟨[.int .u64 1]⟩ 51)) fun P => 
  RunK Try.prog (Builtin.append_ #[50, 50] 50 ⟨[.slice L M N, .slice (some ⟨O.heap.size, 0, none⟩) 1 1]⟩) B P [F, i, A] fun Q S => 
  ∃ (T : Option Addr) (U W : Nat), Q = .slice T U W ∧
  ∃ X : Addr, C = some X ∧ (0 : Int) ≤ j ∧ j < (D : Int) ∧
  ∃ Y : Int, S.cell? ((X.add (j.toNat * 4)).add 0) = some (.int .i64 Y) ∧
  ∃ Z : Int, S.cell? ((X.add (j.toNat * 4)).add 1) = some (.int .i64 Z) ∧
  ∃ a0 : Int, S.cell? ((X.add (j.toNat * 4)).add 2) = some (.int .i64 a0) ∧
  ∃ (a1 : Option Addr) (a2 a3 : Nat), S.cell? ((X.add (j.toNat * 4)).add 3) = some (.slice a1 a2 a3) ∧
  CallK Try.prog 33 [.agg ⟨[.int .i64 Y, .int .i64 Z, .int .i64 a0, .slice a1 a2 a3]⟩] B S [F, i, A] fun a4 a5 => 
  ∃ a6 : Int, a4 = .int .i64 a6 ∧ (500 : Int) ≠ 0 ∧
  CallK Try.prog 52 [.pointer (some c), .agg ⟨[.slice C D E]⟩, .int .i64 0, .int .i64 (-1), .agg ⟨[.int .i64 j, .int .i64 l, .int .i64 m, .bool n, .int .u64 o, .slice p q r, .slice T U W, .slice x y z]⟩] B a5 [F, i, A] fun a7 a8 => 
  ∃ a9 : Int, a7 = .int .i64 a9 ∧
  if (a9 == 1) = true
  then (CallK Try.prog 52 [.pointer (some c), .agg ⟨[.slice C D E]⟩, .int .i64 0, .int .i64 (-2), .agg ⟨[.int .i64 j, .int .i64 l, .int .i64 m, .bool n, .int .u64 o, .slice p q r, .slice s t u, .slice x y z]⟩] B a8 [F, i, A] fun c0 c1 => 
   ∃ c2 : Int, c0 = .int .i64 c2 ∧
   if (c2 == 1) = true
   then (CallK Try.prog 52 [.pointer (some c), .agg ⟨[.slice C D E]⟩, .int .i64 0, .int .i64 64, .agg ⟨[.int .i64 j, .int .i64 l, .int .i64 m, .bool n, .int .u64 o, .slice p q r, .slice s t u, .slice x y z]⟩] B c1 [F, i, A] fun c3 c4 => 
    ∃ c5 : Int, c3 = .int .i64 c5 ∧
    if (c5 == 1) = true
    then (CallK Try.prog 52 [.pointer (some c), .agg ⟨[.slice C D E]⟩, .int .i64 (IntKind.wrap .i64 (IntKind.wrap .i64 (IntKind.wrap .i64 (64 - a6) + 1) + Int.tmod (if 0 > a then 0 else a) 500)), .int .i64 (-1), .agg ⟨[.int .i64 j, .int .i64 l, .int .i64 m, .bool n, .int .u64 o, .slice p q r, .slice s t u, .slice x y z]⟩] B c4 [F, i, A] fun c6 c7 => 
     ∃ c8 : Int, c6 = .int .i64 c8 ∧
     if (c8 == 1) = true
     then (CallK Try.prog 44 [.pointer (some c), .int .i64 58, .agg ⟨[.int .i64 0, .int .i64 0, .int .i64 0, .int .i64 0, .bool false, .int .u64 0, .int .i64 0, .int .i64 0]⟩] B c7 [F, i, A] fun c9 d0 => 
      ∃ d1 : Int, c9 = .int .i64 d1 ∧
      if (d1 == 1) = true
      then (CallK Try.prog 44 [.pointer (some c), .int .i64 0, .agg ⟨[.int .i64 0, .int .i64 0, .int .i64 0, .int .i64 3, .bool false, .int .u64 0, .int .i64 0, .int .i64 0]⟩] B d0 [F, i, A] fun d2 d3 => 
       ∃ d4 : Int, d2 = .int .i64 d4 ∧
       if (d4 == 1) = true
       then (CallK Try.prog 44 [.pointer (some c), .int .i64 0, .agg ⟨[.int .i64 0, .int .i64 (-1), .int .i64 0, .int .i64 0, .bool false, .int .u64 0, .int .i64 0, .int .i64 0]⟩] B d3 [F, i, A] fun d5 d6 => 
        ∃ d7 : Int, d5 = .int .i64 d7 ∧
        if (d7 == 1) = true
        then (CallK Try.prog 46 [.pointer (some c), .slice d f g] B d6 [F, i, A] fun d8 d9 => 
         ∃ f0 : Bool, d8 = .bool f0 ∧
         if f0 = true
         then (CallK Try.prog 47 [] B d9 [F, i, A] fun f1 f2 => 
          ∃ f3 : Bool, f1 = .bool f3 ∧
          Ret B f2 (R (.bool f3)))
         else (Ret B d9 (R (.bool false))))
        else (Ret B d6 (R (.bool false))))
       else (Ret B d3 (R (.bool false))))
      else (Ret B d0 (R (.bool false))))
     else (Ret B c7 (R (.bool false))))
    else (Ret B c4 (R (.bool false))))
   else (Ret B c1 (R (.bool false))))
  else (Ret B a8 (R (.bool false)))
def V15.b0 (B : Nat) (R : Value → World → Prop) (a : Option Addr) (c d : Nat) (f : Int) (g : Nat) (i j l : Int) (m : Bool) (n : Int) (o : Option Addr) (p q : Nat) (r : Option Addr) (s t : Nat) (u : Option Addr) (x y z : Nat) (A : Option Addr) (C D : Nat) (w : World) : Prop :=
  CallK Try.prog 42 [.pointer none, .int .i64 f] B w [g, z] fun v E => 
  ∃ (F G I J : Int) (L : Bool) (M N O P : Int), v = .tuple ⟨[.agg ⟨[.int .i64 F, .int .i64 G, .int .i64 I, .int .i64 J, .bool L, .int .u64 M, .int .i64 N, .int .i64 O]⟩, .int .i64 P]⟩ ∧
  ∀ Q : Nat, E.heap.size ≤ Q →
  CallK Try.prog 54 [.pointer none, .agg ⟨[.slice A C D]⟩, .int .i64 f] B E [Q, g, z] fun S T => 
  ∃ (U W X : Int) (Y : Bool) (Z : Int) (a0 : Option Addr) (a1 a2 : Nat) (a3 : Option Addr) (a4 a5 : Nat) (a6 : Option Addr) (a7 a8 : Nat) (a9 c0 : Int), S = .tuple ⟨[.agg ⟨[.int .i64 U, .int .i64 W, .int .i64 X, .bool Y, .int .u64 Z, .slice a0 a1 a2, .slice a3 a4 a5, .slice a6 a7 a8]⟩, .int .i64 a9, .int .i64 c0]⟩ ∧
  ∀ c1 : Nat, T.heap.size ≤ c1 →
  CallK Try.prog 59 [.pointer none, .agg ⟨[.slice A C D]⟩, .int .i64 f] B T [c1, Q, g, z] fun c2 c3 => 
  ∃ (c4 : Option Addr) (c5 c6 : Nat) (c7 : Int), c2 = .tuple ⟨[.slice c4 c5 c6, .int .i64 c7]⟩ ∧
  CallK Try.prog 44 [.pointer none, .int .i64 0, .agg ⟨[.int .i64 0, .int .i64 0, .int .i64 0, .int .i64 0, .bool false, .int .u64 0, .int .i64 0, .int .i64 0]⟩] B c3 [c1, Q, g, z] fun c8 c9 => 
  ∃ d0 : Int, c8 = .int .i64 d0 ∧
  if (d0 != 2) = false
  then (CallK Try.prog 52 [.pointer none, .agg ⟨[.slice A C D]⟩, .int .i64 0, .int .i64 (-1), .agg ⟨[.int .i64 i, .int .i64 j, .int .i64 l, .bool m, .int .u64 n, .slice o p q, .slice r s t, .slice u x y]⟩] B c9 [c1, Q, g, z] fun d1 d2 => 
   ∃ d3 : Int, d1 = .int .i64 d3 ∧
   if (d3 != 2) = false
   then (if (!((F == 0) && ((G == 0) && ((I == 0) && ((J == 0) && ((L == false) && ((M == 0) && ((N == 0) && (O == 0))))))))) = false
    then (if (P != 2) = false
     then (CallK Try.prog 56 [.agg ⟨[.int .i64 U, .int .i64 W, .int .i64 X, .bool Y, .int .u64 Z, .slice a0 a1 a2, .slice a3 a4 a5, .slice a6 a7 a8]⟩, .agg ⟨[.int .i64 0, .int .i64 0, .int .i64 0, .bool false, .int .u64 0, .slice none 0 0, .slice none 0 0, .slice none 0 0]⟩] B d2 [c1, Q, g, z] fun d4 d5 => 
      ∃ d6 : Bool, d4 = .bool d6 ∧
      if (!d6) = false
      then (if (a9 != 0) = false
       then (if (c0 != 2) = false
        then (if ((c5 : Int) != 0) = false
         then (if (c7 != 2) = true
          then (Ret B d5 (R (.bool false)))
          else (CallK Try.prog 41 [.int .i64 1, .slice a c d] B d5 [c1, Q, g, z] fun d7 d8 => 
           ∃ (d9 f0 : Option Addr) (f1 f2 : Nat), d7 = .tuple ⟨[.pointer d9, .slice f0 f1 f2]⟩ ∧
           caseP d9
           (False)
           (fun f3 => V15.b1 B R f f3 f0 f1 f2 g i j l m n o p q r s t u x y z A C D d8)))
         else (Ret B d5 (R (.bool false))))
        else (Ret B d5 (R (.bool false))))
       else (Ret B d5 (R (.bool false))))
      else (Ret B d5 (R (.bool false))))
     else (Ret B d2 (R (.bool false))))
    else (Ret B d2 (R (.bool false))))
   else (Ret B d2 (R (.bool false))))
  else (Ret B c9 (R (.bool false)))
def V15.vc (B : Nat) (R : Value → World → Prop) (a : Option Addr) (c d : Nat) (f : Option Addr) (g i : Nat) (j : Option Addr) (l m : Nat) (n : Int) (w : World) : Prop :=
  CallK Try.prog 35 [.slice a c d] B w [] fun v o => 
  ∃ (p : Option Addr) (q r : Nat), v = .agg ⟨[.slice p q r]⟩ ∧
  ∀ s : Nat, o.heap.size ≤ s →
  Expo B o [s] fun t => 
  Hide [s] (t.alloc (.cells ⟨[.slice f g i]⟩ 70)) fun u => 
  CallK Try.prog 48 [.pointer (some (⟨t.heap.size, 0, none⟩)), .agg ⟨[.slice p q r]⟩] B u [s] fun x y => 
  ∃ (z A C : Int) (D : Bool) (E : Int) (F : Option Addr) (G I : Nat) (J : Option Addr) (L M : Nat) (N : Option Addr) (O P : Nat), x = .agg ⟨[.int .i64 z, .int .i64 A, .int .i64 C, .bool D, .int .u64 E, .slice F G I, .slice J L M, .slice N O P]⟩ ∧
  ∀ Q : Nat, y.heap.size ≤ Q →
  if (n == (-1)) = true
  then (V15.b0 B R j l m 0 Q z A C D E F G I J L M N O P s p q r y)
  else (V15.b0 B R j l m n Q z A C D E F G I J L M N O P s p q r y)
noncomputable def V15.cfg (B : Nat) : Cfg := ⟨Try.prog, ⟨173, B⟩, [27], hasN [33, 35, 41, 42, 44, 46, 47, 48, 52, 54, 56, 59], hasN [53]⟩
noncomputable def V15.code : Code := (Try.f15.body).getD .skip
noncomputable def V15.cuts (B : Nat) (R : Value → World → Prop) : Nat → Cut := nthC [⟨[(2, .one (.slice)), (3, .one (.int .i64))], [(11, 67, [.int .i64, .int .i64, .int .i64, .bool, .int .u64, .slice, .slice, .slice]), (9, 24, [.slice])], fun fs vs bs w => V15.b0 B R (slA (nthV vs 0)) (slL (nthV vs 0)) (slC (nthV vs 0)) (iV (nthV vs 1)) (nthB bs 0).blk (iV (nthV (nthB bs 0).cells 0)) (iV (nthV (nthB bs 0).cells 1)) (iV (nthV (nthB bs 0).cells 2)) (bV (nthV (nthB bs 0).cells 3)) (iV (nthV (nthB bs 0).cells 4)) (slA (nthV (nthB bs 0).cells 5)) (slL (nthV (nthB bs 0).cells 5)) (slC (nthV (nthB bs 0).cells 5)) (slA (nthV (nthB bs 0).cells 6)) (slL (nthV (nthB bs 0).cells 6)) (slC (nthV (nthB bs 0).cells 6)) (slA (nthV (nthB bs 0).cells 7)) (slL (nthV (nthB bs 0).cells 7)) (slC (nthV (nthB bs 0).cells 7)) (nthB bs 1).blk (slA (nthV (nthB bs 1).cells 0)) (slL (nthV (nthB bs 1).cells 0)) (slC (nthV (nthB bs 1).cells 0)) w⟩,
  ⟨[(3, .one (.int .i64)), (19, .one (.ptr)), (20, .one (.slice))], [(11, 67, [.int .i64, .int .i64, .int .i64, .bool, .int .u64, .slice, .slice, .slice]), (9, 24, [.slice])], fun fs vs bs w => V15.b1 B R (iV (nthV vs 0)) (pV (nthV vs 1)) (slA (nthV vs 2)) (slL (nthV vs 2)) (slC (nthV vs 2)) (nthB bs 0).blk (iV (nthV (nthB bs 0).cells 0)) (iV (nthV (nthB bs 0).cells 1)) (iV (nthV (nthB bs 0).cells 2)) (bV (nthV (nthB bs 0).cells 3)) (iV (nthV (nthB bs 0).cells 4)) (slA (nthV (nthB bs 0).cells 5)) (slL (nthV (nthB bs 0).cells 5)) (slC (nthV (nthB bs 0).cells 5)) (slA (nthV (nthB bs 0).cells 6)) (slL (nthV (nthB bs 0).cells 6)) (slC (nthV (nthB bs 0).cells 6)) (slA (nthV (nthB bs 0).cells 7)) (slL (nthV (nthB bs 0).cells 7)) (slC (nthV (nthB bs 0).cells 7)) (nthB bs 1).blk (slA (nthV (nthB bs 1).cells 0)) (slL (nthV (nthB bs 1).cells 0)) (slC (nthV (nthB bs 1).cells 0)) w⟩]
noncomputable def V15.h : H := .s (.z) (.s (.z) (.s (.z) (.s (.z) (.cut 0 (.s (.z) (.c (.z) (.z))) (.s (.z) (.s (.z) (.s (.z) (.s (.s (.z) (.c (.s (.z) (.z)) (.z))) (.cut 1 (.z) (.s (.s (.z) (.c (.s (.z) (.z)) (.z))) (.s (.z) (.s (.z) (.s (.z) (.s (.z) (.z)))))))))))))))
theorem V15.vc_eq (B : Nat) (R : Value → World → Prop) (a : Option Addr) (c d : Nat) (f : Option Addr) (g i : Nat) (j : Option Addr) (l m : Nat) (n : Int) (w : World) : wpf (V15.cfg B) (V15.cuts B R) V15.code V15.h [] (postOf Try.prog B (Try.f15.results.toList) R) (argE 0 [.slice a c d, .slice f g i, .slice j l m, .int .i64 n]) [] w = V15.vc B R a c d f g i j l m n w := by kernel_rfl
theorem V15.obl (B : Nat) (R : Value → World → Prop) : oblP (V15.cfg B) (V15.cuts B R) V15.code V15.h [] (postOf Try.prog B (Try.f15.results.toList) R) := by
  have e : oblP (V15.cfg B) (V15.cuts B R) V15.code V15.h [] (postOf Try.prog B (Try.f15.results.toList) R) = (True ∧ (True ∧ (True ∧ (True ∧ ((True ∧ (True ∧ True)) ∧ (∀ (a : Option Addr) (c d : Nat) (f : Int) (g : Nat) (i j l : Int) (m : Bool) (n : Int) (o : Option Addr) (p q : Nat) (r : Option Addr) (s t : Nat) (u : Option Addr) (x y z : Nat) (A : Option Addr) (C D : Nat) (w : World), V15.b0 B R a c d f g i j l m n o p q r s t u x y z A C D w → V15.b0 B R a c d f g i j l m n o p q r s t u x y z A C D w) ∧ (True ∧ (True ∧ (True ∧ ((True ∧ ((True ∧ True) ∧ True)) ∧ (True ∧ (∀ (f : Int) (E : Addr) (F : Option Addr) (G I g : Nat) (i j l : Int) (m : Bool) (n : Int) (o : Option Addr) (p q : Nat) (r : Option Addr) (s t : Nat) (u : Option Addr) (x y z : Nat) (A : Option Addr) (C D : Nat) (w : World), V15.b1 B R f E F G I g i j l m n o p q r s t u x y z A C D w → V15.b1 B R f E F G I g i j l m n o p q r s t u x y z A C D w) ∧ ((True ∧ ((True ∧ True) ∧ True)) ∧ (True ∧ (True ∧ (True ∧ (True ∧ True))))))))))))))) := by kernel_rfl
  rw [e]
  exact ⟨trivial, ⟨trivial, ⟨trivial, ⟨trivial, ⟨⟨trivial, ⟨trivial, trivial⟩⟩, fun a c d f g i j l m n o p q r s t u x y z A C D w h => h, ⟨trivial, ⟨trivial, ⟨trivial, ⟨⟨trivial, ⟨⟨trivial, trivial⟩, trivial⟩⟩, ⟨trivial, fun f E F G I g i j l m n o p q r s t u x y z A C D w h => h, ⟨⟨trivial, ⟨⟨trivial, trivial⟩, trivial⟩⟩, ⟨trivial, ⟨trivial, ⟨trivial, ⟨trivial, trivial⟩⟩⟩⟩⟩⟩⟩⟩⟩⟩⟩⟩⟩⟩⟩
theorem V15.cfgOk (B : Nat) : CfgOk (V15.cfg B) := cfgOk_of (by kernel_rfl) (by kernel_rfl)
theorem V15.sound {a : Option Addr} {d f : Nat} {g : Option Addr} {i j : Nat} {l : Option Addr} {m n : Nat} {o : Int} {w : World} {R : Value → World → Prop} (h : V15.vc w.heap.size R a d f g i j l m n o w) : Calls Try.prog 15 ⟨[.slice a d f, .slice g i j, .slice l m n, .int .i64 o]⟩ w fun e w' => ∃ v, e = .returned v ∧ R v w' :=
  calls_wpfP (c := V15.cfg w.heap.size) (fn := Try.f15) (x := V15.code) (V15.cuts w.heap.size R) V15.h (V15.cfgOk _) mixed Try.func15 (by kernel_rfl) (by kernel_rfl) (by kernel_rfl) rfl (V15.obl _ _) ((V15.vc_eq _ _ a d f g i j l m n o _).symm ▸ h)
end Go.Proofs.Ytlccbaemcfjdoaa
