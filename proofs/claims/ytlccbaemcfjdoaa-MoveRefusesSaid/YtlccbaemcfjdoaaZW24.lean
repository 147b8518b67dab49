/-
  What the engine makes of the loaded functions 24: conditions under which a call returns as told, and proofs of that.
  Conditions: none. Printed by a program of this project.
-/
import Derived.Test.YtlccbaemcfjdoaaZWM
set_option linter.unusedVariables false
set_option maxRecDepth 100000
namespace Go.Proofs.Ytlccbaemcfjdoaa
def V24.b2 (B : Nat) (R : Value → World → Prop) (a c d f g i : Int) (j : Nat) (l m n : Int) (o : Nat) (p : Option Addr) (q r : Nat) (s : Addr) (t : Option Addr) (u x : Nat) (y : Option Addr) (z A : Nat) (C : Option Addr) (D E : Nat) (F G I : Int) (w : World) : Prop :=
  (4000 : Int) ≠ 0 ∧
  CallK Try.prog 75 [.pointer (some s), .agg ⟨[.slice p q r]⟩, .agg ⟨[.int .i64 F, .int .i64 G, .int .i64 I]⟩, .int .i64 (IntKind.wrap .i64 (1025 + Int.tmod (if 0 > c then 0 else c) 4000)), .int .i64 (if 1 > f then 1 else f)] B w [j, o] fun v J => 
  ∃ L M N O : Int, v = .tuple ⟨[.agg ⟨[.int .i64 L, .int .i64 M, .int .i64 N]⟩, .int .i64 O]⟩ ∧
  ∀ P : Nat, J.heap.size ≤ P →
  CallK Try.prog 75 [.pointer (some s), .agg ⟨[.slice p q r]⟩, .agg ⟨[.int .i64 F, .int .i64 G, .int .i64 I]⟩, .int .i64 (IntKind.wrap .i64 ((-1) - IntKind.wrap .i64 a)), .int .i64 (if 1 > f then 1 else f)] B J [P, j, o] fun Q S => 
  ∃ T U W X : Int, Q = .tuple ⟨[.agg ⟨[.int .i64 T, .int .i64 U, .int .i64 W]⟩, .int .i64 X]⟩ ∧
  ∀ Y : Nat, S.heap.size ≤ Y →
  if (d == 0) = true
  then (if (g == 3) = true
   then (if (i == 1) = true
    then (if ((l == 0) && ((m == 0) && (n == 0))) = true
     then (if (O == 1) = true
      then (if (X == 1) = true
       then (CallK Try.prog 46 [.pointer (some s), .slice t u x] B S [Y, P, j, o] fun Z a0 => 
        ∃ a1 : Bool, Z = .bool a1 ∧
        if a1 = true
        then (CallK Try.prog 72 [] B a0 [Y, P, j, o] fun a2 a3 => 
         ∃ a4 : Bool, a2 = .bool a4 ∧
         Ret B a3 (R (.bool a4)))
        else (Ret B a0 (R (.bool false))))
       else (Ret B S (R (.bool false))))
      else (Ret B S (R (.bool false))))
     else (Ret B S (R (.bool false))))
    else (Ret B S (R (.bool false))))
   else (Ret B S (R (.bool false))))
  else (Ret B S (R (.bool false)))
def V24.b1 (B : Nat) (R : Value → World → Prop) (a c d f g : Int) (i : Nat) (j : Option Addr) (l m : Nat) (n : Addr) (o : Option Addr) (p q : Nat) (r : Option Addr) (s t : Nat) (u : Option Addr) (x y : Nat) (z A C : Int) (w : World) : Prop :=
  (A ≠ 0 ∧
  CallK Try.prog 75 [.pointer (some n), .agg ⟨[.slice j l m]⟩, .agg ⟨[.int .i64 z, .int .i64 A, .int .i64 C]⟩, .int .i64 (IntKind.wrap .i64 (z + Int.tmod (IntKind.wrap .i64 a) A)), .int .i64 (if 1 > f then 1 else f)] B w [i] fun v D => 
   ∃ E F G I : Int, v = .tuple ⟨[.agg ⟨[.int .i64 E, .int .i64 F, .int .i64 G]⟩, .int .i64 I]⟩ ∧
   ∀ J : Nat, D.heap.size ≤ J →
   V24.b2 B R a c d f g I J E F G i j l m n o p q r s t u x y z A C D) ∧ (A ≠ 0 ∧
   ∀ J : Nat, w.heap.size ≤ J →
   CallK Try.prog 75 [.pointer (some n), .agg ⟨[.slice j l m]⟩, .agg ⟨[.int .i64 z, .int .i64 A, .int .i64 C]⟩, .int .i64 (IntKind.wrap .i64 (z + Int.tmod (IntKind.wrap .i64 a) A)), .int .i64 (if 1 > f then 1 else f)] B w [J, i] fun v D => 
   ∃ E F G I : Int, v = .tuple ⟨[.agg ⟨[.int .i64 E, .int .i64 F, .int .i64 G]⟩, .int .i64 I]⟩ ∧
   V24.b2 B R a c d f g I J E F G i j l m n o p q r s t u x y z A C D)
def V24.b0 (B : Nat) (R : Value → World → Prop) (a c d : Int) (f : Bool) (g : Nat) (i : Option Addr) (j l : Nat) (m : Addr) (n : Option Addr) (o p : Nat) (q : Option Addr) (r s : Nat) (t : Option Addr) (u x : Nat) (y z A : Int) (w : World) : Prop :=
  if (!f) = true
  then (Ret B w (R (.bool false)))
  else (CallK Try.prog 73 [.pointer (some m), .agg ⟨[.slice i j l]⟩, .agg ⟨[.int .i64 y, .int .i64 z, .int .i64 A]⟩] B w [g] fun v C => 
   ∃ D E : Int, v = .tuple ⟨[.int .i64 D, .int .i64 E]⟩ ∧ ((if 1 > IntKind.wrap .i64 (D - y) then 1 else IntKind.wrap .i64 (D - y)) ≠ 0 ∧
   CallK Try.prog 75 [.pointer (some m), .agg ⟨[.slice i j l]⟩, .agg ⟨[.int .i64 y, .int .i64 z, .int .i64 A]⟩, .int .i64 0, .int .i64 (IntKind.wrap .i64 (IntKind.wrap .i64 (IntKind.wrap .i64 (D - y) - 1) - Int.tmod (IntKind.wrap .i64 a) (if 1 > IntKind.wrap .i64 (D - y) then 1 else IntKind.wrap .i64 (D - y))))] B C [g] fun F G => 
    ∃ I J L M : Int, F = .tuple ⟨[.agg ⟨[.int .i64 I, .int .i64 J, .int .i64 L]⟩, .int .i64 M]⟩ ∧
    ∀ N : Nat, G.heap.size ≤ N →
    V24.b1 B R c d E (IntKind.wrap .i64 (D - y)) M g i j l m n o p q r s t u x y z A G) ∧ ((if 1 > IntKind.wrap .i64 (D - y) then 1 else IntKind.wrap .i64 (D - y)) ≠ 0 ∧
    ∀ N : Nat, C.heap.size ≤ N →
    CallK Try.prog 75 [.pointer (some m), .agg ⟨[.slice i j l]⟩, .agg ⟨[.int .i64 y, .int .i64 z, .int .i64 A]⟩, .int .i64 0, .int .i64 (IntKind.wrap .i64 (IntKind.wrap .i64 (IntKind.wrap .i64 (D - y) - 1) - Int.tmod (IntKind.wrap .i64 a) (if 1 > IntKind.wrap .i64 (D - y) then 1 else IntKind.wrap .i64 (D - y))))] B C [N, g] fun F G => 
    ∃ I J L M : Int, F = .tuple ⟨[.agg ⟨[.int .i64 I, .int .i64 J, .int .i64 L]⟩, .int .i64 M]⟩ ∧
    V24.b1 B R c d E (IntKind.wrap .i64 (D - y)) M g i j l m n o p q r s t u x y z A G))
def V24.vc (B : Nat) (R : Value → World → Prop) (a : Option Addr) (c d : Nat) (f : Option Addr) (g i : Nat) (j : Option Addr) (l m : Nat) (n o p q r : Int) (w : World) : Prop :=
  CallK Try.prog 62 [.slice a c d, .slice f g i, .slice j l m, .int .u8 n, .int .u8 o] B w [] fun v s => 
  ∃ (t : Option Addr) (u x : Nat) (y z : Option Addr) (A C : Nat) (D : Option Addr) (E F : Nat) (G : Option Addr) (I J : Nat) (L M N : Int) (O : Bool), v = .tuple ⟨[.agg ⟨[.slice t u x, .pointer y, .slice z A C, .slice D E F, .slice G I J, .int .i64 L, .int .i64 M, .int .i64 N]⟩, .bool O]⟩ ∧
  caseP y
  (∀ P : Nat, s.heap.size ≤ P → False)
  (fun Q => ∀ P : Nat, s.heap.size ≤ P →
  V24.b0 B R p q r O P t u x Q z A C D E F G I J L M N s)
noncomputable def V24.cfg (B : Nat) : Cfg := ⟨Try.prog, ⟨160, B⟩, [], hasN [46, 62, 72, 73, 75], hasN [99]⟩
noncomputable def V24.code : Code := (Try.f24.body).getD .skip
noncomputable def V24.cuts (B : Nat) (R : Value → World → Prop) : Nat → Cut := nthC [⟨[(5, .one (.int .u8)), (6, .one (.int .u8)), (7, .one (.int .i64)), (18, .one (.bool))], [(17, 101, [.slice, .ptr, .slice, .slice, .slice, .int .i64, .int .i64, .int .i64])], fun fs vs bs w => V24.b0 B R (iV (nthV vs 0)) (iV (nthV vs 1)) (iV (nthV vs 2)) (bV (nthV vs 3)) (nthB bs 0).blk (slA (nthV (nthB bs 0).cells 0)) (slL (nthV (nthB bs 0).cells 0)) (slC (nthV (nthB bs 0).cells 0)) (pV (nthV (nthB bs 0).cells 1)) (slA (nthV (nthB bs 0).cells 2)) (slL (nthV (nthB bs 0).cells 2)) (slC (nthV (nthB bs 0).cells 2)) (slA (nthV (nthB bs 0).cells 3)) (slL (nthV (nthB bs 0).cells 3)) (slC (nthV (nthB bs 0).cells 3)) (slA (nthV (nthB bs 0).cells 4)) (slL (nthV (nthB bs 0).cells 4)) (slC (nthV (nthB bs 0).cells 4)) (iV (nthV (nthB bs 0).cells 5)) (iV (nthV (nthB bs 0).cells 6)) (iV (nthV (nthB bs 0).cells 7)) w⟩,
  ⟨[(6, .one (.int .u8)), (7, .one (.int .i64)), (20, .one (.int .i64)), (21, .one (.int .i64)), (23, .one (.int .i64))], [(17, 101, [.slice, .ptr, .slice, .slice, .slice, .int .i64, .int .i64, .int .i64])], fun fs vs bs w => V24.b1 B R (iV (nthV vs 0)) (iV (nthV vs 1)) (iV (nthV vs 2)) (iV (nthV vs 3)) (iV (nthV vs 4)) (nthB bs 0).blk (slA (nthV (nthB bs 0).cells 0)) (slL (nthV (nthB bs 0).cells 0)) (slC (nthV (nthB bs 0).cells 0)) (pV (nthV (nthB bs 0).cells 1)) (slA (nthV (nthB bs 0).cells 2)) (slL (nthV (nthB bs 0).cells 2)) (slC (nthV (nthB bs 0).cells 2)) (slA (nthV (nthB bs 0).cells 3)) (slL (nthV (nthB bs 0).cells 3)) (slC (nthV (nthB bs 0).cells 3)) (slA (nthV (nthB bs 0).cells 4)) (slL (nthV (nthB bs 0).cells 4)) (slC (nthV (nthB bs 0).cells 4)) (iV (nthV (nthB bs 0).cells 5)) (iV (nthV (nthB bs 0).cells 6)) (iV (nthV (nthB bs 0).cells 7)) w⟩,
  ⟨[(6, .one (.int .u8)), (7, .one (.int .i64)), (20, .one (.int .i64)), (21, .one (.int .i64)), (23, .one (.int .i64)), (25, .one (.int .i64))], [(24, 99, [.int .i64, .int .i64, .int .i64]), (17, 101, [.slice, .ptr, .slice, .slice, .slice, .int .i64, .int .i64, .int .i64])], fun fs vs bs w => V24.b2 B R (iV (nthV vs 0)) (iV (nthV vs 1)) (iV (nthV vs 2)) (iV (nthV vs 3)) (iV (nthV vs 4)) (iV (nthV vs 5)) (nthB bs 0).blk (iV (nthV (nthB bs 0).cells 0)) (iV (nthV (nthB bs 0).cells 1)) (iV (nthV (nthB bs 0).cells 2)) (nthB bs 1).blk (slA (nthV (nthB bs 1).cells 0)) (slL (nthV (nthB bs 1).cells 0)) (slC (nthV (nthB bs 1).cells 0)) (pV (nthV (nthB bs 1).cells 1)) (slA (nthV (nthB bs 1).cells 2)) (slL (nthV (nthB bs 1).cells 2)) (slC (nthV (nthB bs 1).cells 2)) (slA (nthV (nthB bs 1).cells 3)) (slL (nthV (nthB bs 1).cells 3)) (slC (nthV (nthB bs 1).cells 3)) (slA (nthV (nthB bs 1).cells 4)) (slL (nthV (nthB bs 1).cells 4)) (slC (nthV (nthB bs 1).cells 4)) (iV (nthV (nthB bs 1).cells 5)) (iV (nthV (nthB bs 1).cells 6)) (iV (nthV (nthB bs 1).cells 7)) w⟩]
noncomputable def V24.h : H := .s (.z) (.cut 0 (.z) (.s (.s (.z) (.c (.s (.z) (.z)) (.z))) (.s (.z) (.s (.z) (.cut 1 (.r [[0, 1, 2, 3, 4, 5, 6, 7, 8, 9, 10, 11, 12, 13, 14, 15, 16, 17, 18, 19, 20], [0, 1, 2, 3, 4, 5, 6, 7, 8, 9, 10, 11, 12, 13, 18, 14, 15, 16, 17, 19, 20]]) (.cut 2 (.r [[0, 1, 2, 3, 4, 5, 6, 7, 8, 9, 10, 11, 12, 13, 14, 15, 16, 17, 18, 19, 20, 21, 22, 23, 24], [0, 1, 2, 3, 4, 5, 6, 7, 8, 9, 10, 11, 12, 13, 14, 15, 16, 17, 22, 18, 19, 20, 21, 23, 24]]) (.s (.z) (.s (.z) (.s (.z) (.z))))))))))
theorem V24.vc_eq (B : Nat) (R : Value → World → Prop) (a : Option Addr) (c d : Nat) (f : Option Addr) (g i : Nat) (j : Option Addr) (l m : Nat) (n o p q r : Int) (w : World) : wpf (V24.cfg B) (V24.cuts B R) V24.code V24.h [] (postOf Try.prog B (Try.f24.results.toList) R) (argE 0 [.slice a c d, .slice f g i, .slice j l m, .int .u8 n, .int .u8 o, .int .u8 p, .int .u8 q, .int .i64 r]) [] w = V24.vc B R a c d f g i j l m n o p q r w := by kernel_rfl
theorem V24.obl (B : Nat) (R : Value → World → Prop) : oblP (V24.cfg B) (V24.cuts B R) V24.code V24.h [] (postOf Try.prog B (Try.f24.results.toList) R) := by
  have e : oblP (V24.cfg B) (V24.cuts B R) V24.code V24.h [] (postOf Try.prog B (Try.f24.results.toList) R) = (True ∧ (True ∧ (∀ (a c d : Int) (f : Bool) (g : Nat) (i : Option Addr) (j l : Nat) (m : Addr) (n : Option Addr) (o p : Nat) (q : Option Addr) (r s : Nat) (t : Option Addr) (u x : Nat) (y z A : Int) (w : World), V24.b0 B R a c d f g i j l m n o p q r s t u x y z A w → V24.b0 B R a c d f g i j l m n o p q r s t u x y z A w) ∧ ((True ∧ ((True ∧ True) ∧ True)) ∧ (True ∧ (True ∧ ((true = true) ∧ (∀ (c d C D E : Int) (g : Nat) (i : Option Addr) (j l : Nat) (m : Addr) (n : Option Addr) (o p : Nat) (q : Option Addr) (r s : Nat) (t : Option Addr) (u x : Nat) (y z A : Int) (w : World), V24.b1 B R c d C D E g i j l m n o p q r s t u x y z A w → V24.b1 B R c d C D E g i j l m n o p q r s t u x y z A w) ∧ ((true = true) ∧ (∀ (c d C D E F : Int) (G : Nat) (I J L : Int) (g : Nat) (i : Option Addr) (j l : Nat) (m : Addr) (n : Option Addr) (o p : Nat) (q : Option Addr) (r s : Nat) (t : Option Addr) (u x : Nat) (y z A : Int) (w : World), V24.b2 B R c d C D E F G I J L g i j l m n o p q r s t u x y z A w → V24.b2 B R c d C D E F G I J L g i j l m n o p q r s t u x y z A w) ∧ (True ∧ (True ∧ (True ∧ True)))))))))) := by kernel_rfl
  rw [e]
  exact ⟨trivial, ⟨trivial, fun a c d f g i j l m n o p q r s t u x y z A w h => h, ⟨⟨trivial, ⟨⟨trivial, trivial⟩, trivial⟩⟩, ⟨trivial, ⟨trivial, ⟨rfl, fun c d C D E g i j l m n o p q r s t u x y z A w h => h, ⟨rfl, fun c d C D E F G I J L g i j l m n o p q r s t u x y z A w h => h, ⟨trivial, ⟨trivial, ⟨trivial, trivial⟩⟩⟩⟩⟩⟩⟩⟩⟩⟩
theorem V24.cfgOk (B : Nat) : CfgOk (V24.cfg B) := cfgOk_of (by kernel_rfl) (by kernel_rfl)
theorem V24.sound {a : Option Addr} {d f : Nat} {g : Option Addr} {i j : Nat} {l : Option Addr} {m n : Nat} {o p q r s : Int} {w : World} {R : Value → World → Prop} (h : V24.vc w.heap.size R a d f g i j l m n o p q r s w) : Calls Try.prog 24 ⟨[.slice a d f, .slice g i j, .slice l m n, .int .u8 o, .int .u8 p, .int .u8 q, .int .u8 r, .int .i64 s]⟩ w fun e w' => ∃ v, e = .returned v ∧ R v w' :=
  calls_wpfP (c := V24.cfg w.heap.size) (fn := Try.f24) (x := V24.code) (V24.cuts w.heap.size R) V24.h (V24.cfgOk _) mixed Try.func24 (by kernel_rfl) (by kernel_rfl) (by kernel_rfl) rfl (V24.obl _ _) ((V24.vc_eq _ _ a d f g i j l m n o p q r s _).symm ▸ h)
end Go.Proofs.Ytlccbaemcfjdoaa
