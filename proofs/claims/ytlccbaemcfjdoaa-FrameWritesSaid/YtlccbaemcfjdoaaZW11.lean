/-
  What the engine makes of the loaded functions 11: conditions under which a call returns as told, and proofs of that.
  Conditions: none. Printed by a program of this project.
-/
import Derived.Test.YtlccbaemcfjdoaaZWD
set_option linter.unusedVariables false
set_option maxRecDepth 100000
namespace Go.Proofs.Ytlccbaemcfjdoaa
def V11.b1 (B : Nat) (R : Value → World → Prop) (a c : Int) (d : Addr) (f : Option Addr) (g i j : Nat) (l m n : Int) (o : Bool) (p : Int) (q : Option Addr) (r s : Nat) (t : Option Addr) (u x : Nat) (y : Option Addr) (z A C : Nat) (D : Option Addr) (E F : Nat) (w : World) : Prop :=
  CallK Try.prog 52 [.pointer (some d), .agg ⟨[.slice D E F]⟩, .int .i64 a, .int .i64 c, .agg ⟨[.int .i64 l, .int .i64 m, .int .i64 n, .bool o, .int .u64 p, .slice q r s, .slice t u x, .slice y z A]⟩] B w [j, C] fun v G => 
  ∃ I : Int, v = .int .i64 I ∧
  CallK Try.prog 53 [.slice f g i, .agg ⟨[.slice D E F]⟩, .int .i64 a, .int .i64 c, .agg ⟨[.int .i64 l, .int .i64 m, .int .i64 n, .bool o, .int .u64 p, .slice q r s, .slice t u x, .slice y z A]⟩] B G [j, C] fun J L => 
  ∃ (M : Option Addr) (N O : Nat) (P : Int), J = .tuple ⟨[.slice M N O, .int .i64 P]⟩ ∧
  CallK Try.prog 54 [.pointer (some d), .agg ⟨[.slice D E F]⟩, .int .i64 a] B L [j, C] fun Q S => 
  ∃ (T U W : Int) (X : Bool) (Y : Int) (Z : Option Addr) (a0 a1 : Nat) (a2 : Option Addr) (a3 a4 : Nat) (a5 : Option Addr) (a6 a7 : Nat) (a8 a9 : Int), Q = .tuple ⟨[.agg ⟨[.int .i64 T, .int .i64 U, .int .i64 W, .bool X, .int .u64 Y, .slice Z a0 a1, .slice a2 a3 a4, .slice a5 a6 a7]⟩, .int .i64 a8, .int .i64 a9]⟩ ∧
  ∀ c0 : Nat, S.heap.size ≤ c0 →
  CallK Try.prog 55 [.slice M N O, .agg ⟨[.slice D E F]⟩, .int .i64 a] B S [c0, j, C] fun c1 c2 => 
  ∃ (c3 c4 c5 : Int) (c6 : Bool) (c7 : Int) (c8 : Option Addr) (c9 d0 : Nat) (d1 : Option Addr) (d2 d3 : Nat) (d4 : Option Addr) (d5 d6 : Nat) (d7 d8 : Int), c1 = .tuple ⟨[.agg ⟨[.int .i64 c3, .int .i64 c4, .int .i64 c5, .bool c6, .int .u64 c7, .slice c8 c9 d0, .slice d1 d2 d3, .slice d4 d5 d6]⟩, .int .i64 d7, .int .i64 d8]⟩ ∧
  ∀ d9 : Nat, c2.heap.size ≤ d9 →
  if (I == P) = true
  then (CallK Try.prog 56 [.agg ⟨[.int .i64 T, .int .i64 U, .int .i64 W, .bool X, .int .u64 Y, .slice Z a0 a1, .slice a2 a3 a4, .slice a5 a6 a7]⟩, .agg ⟨[.int .i64 c3, .int .i64 c4, .int .i64 c5, .bool c6, .int .u64 c7, .slice c8 c9 d0, .slice d1 d2 d3, .slice d4 d5 d6]⟩] B c2 [d9, c0, j, C] fun f0 f1 => 
   ∃ f2 : Bool, f0 = .bool f2 ∧
   if f2 = true
   then (if (a8 == d7) = true
    then (if (a9 == d8) = true
     then (CallK Try.prog 46 [.pointer (some d), .slice M N O] B f1 [d9, c0, j, C] fun f3 f4 => 
      ∃ f5 : Bool, f3 = .bool f5 ∧
      if f5 = true
      then (CallK Try.prog 47 [] B f4 [d9, c0, j, C] fun f6 f7 => 
       ∃ f8 : Bool, f6 = .bool f8 ∧
       Ret B f7 (R (.bool f8)))
      else (Ret B f4 (R (.bool false))))
     else (Ret B f1 (R (.bool false))))
    else (Ret B f1 (R (.bool false))))
   else (Ret B f1 (R (.bool false))))
  else (Ret B c2 (R (.bool false)))
def V11.b0 (B : Nat) (R : Value → World → Prop) (a : Option Addr) (c d : Nat) (f g i : Int) (j : Addr) (l : Option Addr) (m n o : Nat) (p : Option Addr) (q r : Nat) (w : World) : Prop :=
  Expo B w [o] fun s => 
  Hide [o] (s.alloc (.cells ⟨[.slice a c d]⟩ 70)) fun t => 
  CallK Try.prog 48 [.pointer (some (⟨s.heap.size, 0, none⟩)), .agg ⟨[.slice p q r]⟩] B t [o] fun v u => 
  ∃ (x y z : Int) (A : Bool) (C : Int) (D : Option Addr) (E F : Nat) (G : Option Addr) (I J : Nat) (L : Option Addr) (M N : Nat), v = .agg ⟨[.int .i64 x, .int .i64 y, .int .i64 z, .bool A, .int .u64 C, .slice D E F, .slice G I J, .slice L M N]⟩ ∧
  ∀ O : Nat, u.heap.size ≤ O →
  if (decide (i > 240)) = true
  then ((10 : Int) ≠ 0 ∧
  RunK Try.prog (Builtin.append_ #[50, 3] 50 ⟨[.slice L M N, .int .i64 (Int.tmod (IntKind.wrap .i64 i) 10)]⟩) B u [O, o] fun P Q => 
   ∃ (S : Option Addr) (T U : Nat), P = .slice S T U ∧
   V11.b1 B R f g j l m n O x y z A C D E F G I J S T U o p q r Q)
  else (V11.b1 B R f g j l m n O x y z A C D E F G I J L M N o p q r u)
def V11.vc (B : Nat) (R : Value → World → Prop) (a : Option Addr) (c d : Nat) (f : Option Addr) (g i : Nat) (j : Option Addr) (l m : Nat) (n o p : Int) (w : World) : Prop :=
  CallK Try.prog 35 [.slice a c d] B w [] fun v q => 
  ∃ (r : Option Addr) (s t : Nat), v = .agg ⟨[.slice r s t]⟩ ∧
  ∀ u : Nat, q.heap.size ≤ u →
  CallK Try.prog 41 [.int .i64 2, .slice j l m] B q [u] fun x y => 
  ∃ (z A : Option Addr) (C D : Nat), x = .tuple ⟨[.pointer z, .slice A C D]⟩ ∧
  caseP z
  (False)
  (fun E => V11.b0 B R f g i n o p E A C D u r s t y)
noncomputable def V11.cfg (B : Nat) : Cfg := ⟨Try.prog, ⟨108, B⟩, [38], hasN [35, 41, 46, 47, 48, 52, 53, 54, 55, 56], hasN []⟩
noncomputable def V11.code : Code := (Try.f11.body).getD .skip
noncomputable def V11.cuts (B : Nat) (R : Value → World → Prop) : Nat → Cut := nthC [⟨[(1, .one (.slice)), (3, .one (.int .i64)), (4, .one (.int .i64)), (5, .one (.int .u8)), (14, .one (.ptr)), (15, .one (.slice))], [(13, 24, [.slice])], fun fs vs bs w => V11.b0 B R (slA (nthV vs 0)) (slL (nthV vs 0)) (slC (nthV vs 0)) (iV (nthV vs 1)) (iV (nthV vs 2)) (iV (nthV vs 3)) (pV (nthV vs 4)) (slA (nthV vs 5)) (slL (nthV vs 5)) (slC (nthV vs 5)) (nthB bs 0).blk (slA (nthV (nthB bs 0).cells 0)) (slL (nthV (nthB bs 0).cells 0)) (slC (nthV (nthB bs 0).cells 0)) w⟩,
  ⟨[(3, .one (.int .i64)), (4, .one (.int .i64)), (14, .one (.ptr)), (15, .one (.slice))], [(17, 67, [.int .i64, .int .i64, .int .i64, .bool, .int .u64, .slice, .slice, .slice]), (13, 24, [.slice])], fun fs vs bs w => V11.b1 B R (iV (nthV vs 0)) (iV (nthV vs 1)) (pV (nthV vs 2)) (slA (nthV vs 3)) (slL (nthV vs 3)) (slC (nthV vs 3)) (nthB bs 0).blk (iV (nthV (nthB bs 0).cells 0)) (iV (nthV (nthB bs 0).cells 1)) (iV (nthV (nthB bs 0).cells 2)) (bV (nthV (nthB bs 0).cells 3)) (iV (nthV (nthB bs 0).cells 4)) (slA (nthV (nthB bs 0).cells 5)) (slL (nthV (nthB bs 0).cells 5)) (slC (nthV (nthB bs 0).cells 5)) (slA (nthV (nthB bs 0).cells 6)) (slL (nthV (nthB bs 0).cells 6)) (slC (nthV (nthB bs 0).cells 6)) (slA (nthV (nthB bs 0).cells 7)) (slL (nthV (nthB bs 0).cells 7)) (slC (nthV (nthB bs 0).cells 7)) (nthB bs 1).blk (slA (nthV (nthB bs 1).cells 0)) (slL (nthV (nthB bs 1).cells 0)) (slC (nthV (nthB bs 1).cells 0)) w⟩]
noncomputable def V11.h : H := .s (.z) (.s (.z) (.cut 0 (.z) (.s (.s (.z) (.c (.s (.z) (.z)) (.z))) (.s (.z) (.s (.z) (.cut 1 (.s (.z) (.c (.z) (.z))) (.s (.z) (.s (.z) (.s (.z) (.s (.z) (.s (.z) (.z))))))))))))
theorem V11.vc_eq (B : Nat) (R : Value → World → Prop) (a : Option Addr) (c d : Nat) (f : Option Addr) (g i : Nat) (j : Option Addr) (l m : Nat) (n o p : Int) (w : World) : wpf (V11.cfg B) (V11.cuts B R) V11.code V11.h [] (postOf Try.prog B (Try.f11.results.toList) R) (argE 0 [.slice a c d, .slice f g i, .slice j l m, .int .i64 n, .int .i64 o, .int .u8 p]) [] w = V11.vc B R a c d f g i j l m n o p w := by kernel_rfl
theorem V11.obl (B : Nat) (R : Value → World → Prop) : oblP (V11.cfg B) (V11.cuts B R) V11.code V11.h [] (postOf Try.prog B (Try.f11.results.toList) R) := by
  have e : oblP (V11.cfg B) (V11.cuts B R) V11.code V11.h [] (postOf Try.prog B (Try.f11.results.toList) R) = (True ∧ (True ∧ (True ∧ (∀ (a : Option Addr) (c d : Nat) (f g i : Int) (j : Addr) (l : Option Addr) (m n o : Nat) (p : Option Addr) (q r : Nat) (w : World), V11.b0 B R a c d f g i j l m n o p q r w → V11.b0 B R a c d f g i j l m n o p q r w) ∧ ((True ∧ ((True ∧ True) ∧ True)) ∧ (True ∧ (True ∧ ((True ∧ (True ∧ True)) ∧ (∀ (f g : Int) (j : Addr) (l : Option Addr) (m n s : Nat) (t u x : Int) (y : Bool) (z : Int) (A : Option Addr) (C D : Nat) (E : Option Addr) (F G : Nat) (I : Option Addr) (J L o : Nat) (p : Option Addr) (q r : Nat) (w : World), V11.b1 B R f g j l m n s t u x y z A C D E F G I J L o p q r w → V11.b1 B R f g j l m n s t u x y z A C D E F G I J L o p q r w) ∧ (True ∧ (True ∧ (True ∧ (True ∧ (True ∧ True)))))))))))) := by kernel_rfl
  rw [e]
  exact ⟨trivial, ⟨trivial, ⟨trivial, fun a c d f g i j l m n o p q r w h => h, ⟨⟨trivial, ⟨⟨trivial, trivial⟩, trivial⟩⟩, ⟨trivial, ⟨trivial, ⟨⟨trivial, ⟨trivial, trivial⟩⟩, fun f g j l m n s t u x y z A C D E F G I J L o p q r w h => h, ⟨trivial, ⟨trivial, ⟨trivial, ⟨trivial, ⟨trivial, trivial⟩⟩⟩⟩⟩⟩⟩⟩⟩⟩⟩⟩
theorem V11.cfgOk (B : Nat) : CfgOk (V11.cfg B) := cfgOk_of (by kernel_rfl) (by kernel_rfl)
theorem V11.sound {a : Option Addr} {d f : Nat} {g : Option Addr} {i j : Nat} {l : Option Addr} {m n : Nat} {o p q : Int} {w : World} {R : Value → World → Prop} (h : V11.vc w.heap.size R a d f g i j l m n o p q w) : Calls Try.prog 11 ⟨[.slice a d f, .slice g i j, .slice l m n, .int .i64 o, .int .i64 p, .int .u8 q]⟩ w fun e w' => ∃ v, e = .returned v ∧ R v w' :=
  calls_wpfP (c := V11.cfg w.heap.size) (fn := Try.f11) (x := V11.code) (V11.cuts w.heap.size R) V11.h (V11.cfgOk _) mixed Try.func11 (by kernel_rfl) (by kernel_rfl) (by kernel_rfl) rfl (V11.obl _ _) ((V11.vc_eq _ _ a d f g i j l m n o p q _).symm ▸ h)
end Go.Proofs.Ytlccbaemcfjdoaa
