/-
  What the engine makes of the loaded functions 22: conditions under which a call returns as told, and proofs of that.
  Conditions: none. Printed by a program of this project.
-/
import Derived.Test.YtlccbaemcfjdoaaZWM
set_option linter.unusedVariables false
set_option maxRecDepth 100000
namespace Go.Proofs.Ytlccbaemcfjdoaa
def V22.b0 (B : Nat) (R : Value → World → Prop) (a c : Int) (d : Bool) (f : Nat) (g : Option Addr) (i j : Nat) (l : Addr) (m : Option Addr) (n o : Nat) (p : Option Addr) (q r : Nat) (s : Option Addr) (t u : Nat) (x y z : Int) (w : World) : Prop :=
  if (!d) = true
  then (Ret B w (R (.bool false)))
  else (CallK Try.prog 73 [.pointer (some l), .agg ⟨[.slice g i j]⟩, .agg ⟨[.int .i64 x, .int .i64 y, .int .i64 z]⟩] B w [f] fun v A => 
   ∃ C D : Int, v = .tuple ⟨[.int .i64 C, .int .i64 D]⟩ ∧
   CallK Try.prog 74 [.slice m n o, .agg ⟨[.slice g i j]⟩, .agg ⟨[.int .i64 x, .int .i64 y, .int .i64 z]⟩] B A [f] fun E F => 
   ∃ G I : Int, E = .tuple ⟨[.int .i64 G, .int .i64 I]⟩ ∧
   CallK Try.prog 75 [.pointer (some l), .agg ⟨[.slice g i j]⟩, .agg ⟨[.int .i64 x, .int .i64 y, .int .i64 z]⟩, .int .i64 a, .int .i64 c] B F [f] fun J L => 
   ∃ M N O P : Int, J = .tuple ⟨[.agg ⟨[.int .i64 M, .int .i64 N, .int .i64 O]⟩, .int .i64 P]⟩ ∧
   ∀ Q : Nat, L.heap.size ≤ Q →
   CallK Try.prog 76 [.slice m n o, .agg ⟨[.slice g i j]⟩, .agg ⟨[.int .i64 x, .int .i64 y, .int .i64 z]⟩, .int .i64 a, .int .i64 c] B L [Q, f] fun S T => 
   ∃ (U : Option Addr) (W X : Nat) (Y Z a0 a1 : Int), S = .tuple ⟨[.slice U W X, .agg ⟨[.int .i64 Y, .int .i64 Z, .int .i64 a0]⟩, .int .i64 a1]⟩ ∧
   ∀ a2 : Nat, T.heap.size ≤ a2 →
   if (C == G) = true
   then (if (D == I) = true
    then (if ((M == Y) && ((N == Z) && (O == a0))) = true
     then (if (P == a1) = true
      then (CallK Try.prog 46 [.pointer (some l), .slice U W X] B T [a2, Q, f] fun a3 a4 => 
       ∃ a5 : Bool, a3 = .bool a5 ∧
       if a5 = true
       then (CallK Try.prog 72 [] B a4 [a2, Q, f] fun a6 a7 => 
        ∃ a8 : Bool, a6 = .bool a8 ∧
        Ret B a7 (R (.bool a8)))
       else (Ret B a4 (R (.bool false))))
      else (Ret B T (R (.bool false))))
     else (Ret B T (R (.bool false))))
    else (Ret B T (R (.bool false))))
   else (Ret B T (R (.bool false))))
def V22.vc (B : Nat) (R : Value → World → Prop) (a : Option Addr) (c d : Nat) (f : Option Addr) (g i : Nat) (j : Option Addr) (l m : Nat) (n o p q : Int) (w : World) : Prop :=
  if (q == 0) = true
  then (CallK Try.prog 72 [] B w [] fun v r => 
   ∃ s : Bool, v = .bool s ∧
   Ret B r (R (.bool s)))
  else (CallK Try.prog 62 [.slice a c d, .slice f g i, .slice j l m, .int .u8 n, .int .u8 o] B w [] fun v r => 
   ∃ (t : Option Addr) (u x : Nat) (y z : Option Addr) (A C : Nat) (D : Option Addr) (E F : Nat) (G : Option Addr) (I J : Nat) (L M N : Int) (O : Bool), v = .tuple ⟨[.agg ⟨[.slice t u x, .pointer y, .slice z A C, .slice D E F, .slice G I J, .int .i64 L, .int .i64 M, .int .i64 N]⟩, .bool O]⟩ ∧
   caseP y
   (∀ P : Nat, r.heap.size ≤ P → False)
   (fun Q => ∀ P : Nat, r.heap.size ≤ P →
   V22.b0 B R p q O P t u x Q z A C D E F G I J L M N r))
noncomputable def V22.cfg (B : Nat) : Cfg := ⟨Try.prog, ⟨112, B⟩, [], hasN [46, 62, 72, 73, 74, 75, 76], hasN [99]⟩
noncomputable def V22.code : Code := (Try.f22.body).getD .skip
noncomputable def V22.cuts (B : Nat) (R : Value → World → Prop) : Nat → Cut := nthC [⟨[(5, .one (.int .i64)), (6, .one (.int .i64)), (16, .one (.bool))], [(15, 101, [.slice, .ptr, .slice, .slice, .slice, .int .i64, .int .i64, .int .i64])], fun fs vs bs w => V22.b0 B R (iV (nthV vs 0)) (iV (nthV vs 1)) (bV (nthV vs 2)) (nthB bs 0).blk (slA (nthV (nthB bs 0).cells 0)) (slL (nthV (nthB bs 0).cells 0)) (slC (nthV (nthB bs 0).cells 0)) (pV (nthV (nthB bs 0).cells 1)) (slA (nthV (nthB bs 0).cells 2)) (slL (nthV (nthB bs 0).cells 2)) (slC (nthV (nthB bs 0).cells 2)) (slA (nthV (nthB bs 0).cells 3)) (slL (nthV (nthB bs 0).cells 3)) (slC (nthV (nthB bs 0).cells 3)) (slA (nthV (nthB bs 0).cells 4)) (slL (nthV (nthB bs 0).cells 4)) (slC (nthV (nthB bs 0).cells 4)) (iV (nthV (nthB bs 0).cells 5)) (iV (nthV (nthB bs 0).cells 6)) (iV (nthV (nthB bs 0).cells 7)) w⟩]
noncomputable def V22.h : H := .s (.z) (.s (.s (.z) (.c (.s (.z) (.z)) (.z))) (.cut 0 (.z) (.s (.s (.z) (.c (.s (.z) (.z)) (.z))) (.s (.z) (.s (.z) (.s (.z) (.s (.z) (.s (.z) (.z)))))))))
theorem V22.vc_eq (B : Nat) (R : Value → World → Prop) (a : Option Addr) (c d : Nat) (f : Option Addr) (g i : Nat) (j : Option Addr) (l m : Nat) (n o p q : Int) (w : World) : wpf (V22.cfg B) (V22.cuts B R) V22.code V22.h [] (postOf Try.prog B (Try.f22.results.toList) R) (argE 0 [.slice a c d, .slice f g i, .slice j l m, .int .u8 n, .int .u8 o, .int .i64 p, .int .i64 q]) [] w = V22.vc B R a c d f g i j l m n o p q w := by kernel_rfl
theorem V22.obl (B : Nat) (R : Value → World → Prop) : oblP (V22.cfg B) (V22.cuts B R) V22.code V22.h [] (postOf Try.prog B (Try.f22.results.toList) R) := by
  have e : oblP (V22.cfg B) (V22.cuts B R) V22.code V22.h [] (postOf Try.prog B (Try.f22.results.toList) R) = (True ∧ ((True ∧ ((True ∧ True) ∧ True)) ∧ (True ∧ (∀ (a c : Int) (d : Bool) (f : Nat) (g : Option Addr) (i j : Nat) (l : Addr) (m : Option Addr) (n o : Nat) (p : Option Addr) (q r : Nat) (s : Option Addr) (t u : Nat) (x y z : Int) (w : World), V22.b0 B R a c d f g i j l m n o p q r s t u x y z w → V22.b0 B R a c d f g i j l m n o p q r s t u x y z w) ∧ ((True ∧ ((True ∧ True) ∧ True)) ∧ (True ∧ (True ∧ (True ∧ (True ∧ (True ∧ True))))))))) := by kernel_rfl
  rw [e]
  exact ⟨trivial, ⟨⟨trivial, ⟨⟨trivial, trivial⟩, trivial⟩⟩, ⟨trivial, fun a c d f g i j l m n o p q r s t u x y z w h => h, ⟨⟨trivial, ⟨⟨trivial, trivial⟩, trivial⟩⟩, ⟨trivial, ⟨trivial, ⟨trivial, ⟨trivial, ⟨trivial, trivial⟩⟩⟩⟩⟩⟩⟩⟩⟩
theorem V22.cfgOk (B : Nat) : CfgOk (V22.cfg B) := cfgOk_of (by kernel_rfl) (by kernel_rfl)
theorem V22.sound {a : Option Addr} {d f : Nat} {g : Option Addr} {i j : Nat} {l : Option Addr} {m n : Nat} {o p q r : Int} {w : World} {R : Value → World → Prop} (h : V22.vc w.heap.size R a d f g i j l m n o p q r w) : Calls Try.prog 22 ⟨[.slice a d f, .slice g i j, .slice l m n, .int .u8 o, .int .u8 p, .int .i64 q, .int .i64 r]⟩ w fun e w' => ∃ v, e = .returned v ∧ R v w' :=
  calls_wpfP (c := V22.cfg w.heap.size) (fn := Try.f22) (x := V22.code) (V22.cuts w.heap.size R) V22.h (V22.cfgOk _) mixed Try.func22 (by kernel_rfl) (by kernel_rfl) (by kernel_rfl) rfl (V22.obl _ _) ((V22.vc_eq _ _ a d f g i j l m n o p q r _).symm ▸ h)
end Go.Proofs.Ytlccbaemcfjdoaa
