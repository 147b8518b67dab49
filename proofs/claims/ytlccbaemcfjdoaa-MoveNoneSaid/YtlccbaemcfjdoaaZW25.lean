/-
  What the engine makes of the loaded functions 25: conditions under which a call returns as told, and proofs of that.
  Conditions: none. Printed by a program of this project.
-/
import Derived.Test.YtlccbaemcfjdoaaZWM
set_option linter.unusedVariables false
set_option maxRecDepth 100000
namespace Go.Proofs.Ytlccbaemcfjdoaa
def V25.b1 (B : Nat) (R : Value → World → Prop) (a c : Int) (d : Addr) (f : Option Addr) (g i j : Nat) (l : Option Addr) (m n : Nat) (w : World) : Prop :=
  ∀ o : Nat, w.heap.size ≤ o →
  CallK Try.prog 73 [.pointer (some d), .agg ⟨[.slice l m n]⟩, .agg ⟨[.int .i64 (IntKind.wrap .i64 a), .int .i64 32, .int .i64 (-1)]⟩] B w [o, j] fun v p => 
  ∃ q r : Int, v = .tuple ⟨[.int .i64 q, .int .i64 r]⟩ ∧
  CallK Try.prog 75 [.pointer (some d), .agg ⟨[.slice l m n]⟩, .agg ⟨[.int .i64 (IntKind.wrap .i64 a), .int .i64 32, .int .i64 (-1)]⟩, .int .i64 (IntKind.wrap .i64 (512 + IntKind.wrap .i64 c)), .int .i64 64] B p [o, j] fun s t => 
  ∃ u x y z : Int, s = .tuple ⟨[.agg ⟨[.int .i64 u, .int .i64 x, .int .i64 y]⟩, .int .i64 z]⟩ ∧
  ∀ A : Nat, t.heap.size ≤ A →
  if (q == IntKind.wrap .i64 a) = true
  then (if (r == 0) = true
   then (if ((u == IntKind.wrap .i64 (512 + IntKind.wrap .i64 c)) && ((x == 64) && (y == (-1)))) = true
    then (if (z == 0) = true
     then (CallK Try.prog 46 [.pointer (some d), .slice f g i] B t [A, o, j] fun C D => 
      ∃ E : Bool, C = .bool E ∧
      if E = true
      then (CallK Try.prog 72 [] B D [A, o, j] fun F G => 
       ∃ I : Bool, F = .bool I ∧
       Ret B G (R (.bool I)))
      else (Ret B D (R (.bool false))))
     else (Ret B t (R (.bool false))))
    else (Ret B t (R (.bool false))))
   else (Ret B t (R (.bool false))))
  else (Ret B t (R (.bool false)))
def V25.b0 (B : Nat) (R : Value → World → Prop) (a : Option Addr) (c d : Nat) (f g : Int) (i : Nat) (j : Option Addr) (l m : Nat) (w : World) : Prop :=
  CallK Try.prog 41 [.int .i64 16, .slice a c d] B w [i] fun v n => 
  ∃ (o p : Option Addr) (q r : Nat), v = .tuple ⟨[.pointer o, .slice p q r]⟩ ∧
  caseP o
  (False)
  (fun s => V25.b1 B R f g s p q r i j l m n)
def V25.vc (B : Nat) (R : Value → World → Prop) (a : Option Addr) (c d : Nat) (f : Option Addr) (g i : Nat) (j l m n : Int) (w : World) : Prop :=
  CallK Try.prog 35 [.slice a c d] B w [] fun v o => 
  ∃ (p : Option Addr) (q r : Nat), v = .agg ⟨[.slice p q r]⟩ ∧
  ∀ s : Nat, o.heap.size ≤ s →
  CallK Try.prog 73 [.pointer none, .agg ⟨[.slice p q r]⟩, .agg ⟨[.int .i64 j, .int .i64 1, .int .i64 (-1)]⟩] B o [s] fun t u => 
  ∃ x y : Int, t = .tuple ⟨[.int .i64 x, .int .i64 y]⟩ ∧
  CallK Try.prog 77 [.pointer none, .int .i64 j, .int .i64 l] B u [s] fun z A => 
  ∃ C D : Int, z = .tuple ⟨[.int .i64 C, .int .i64 D]⟩ ∧
  CallK Try.prog 75 [.pointer none, .agg ⟨[.slice p q r]⟩, .agg ⟨[.int .i64 0, .int .i64 32, .int .i64 (-1)]⟩, .int .i64 64, .int .i64 32] B A [s] fun E F => 
  ∃ G I J L : Int, E = .tuple ⟨[.agg ⟨[.int .i64 G, .int .i64 I, .int .i64 J]⟩, .int .i64 L]⟩ ∧
  ∀ M : Nat, F.heap.size ≤ M →
  if (y != 2) = false
  then (if (x != 0) = true
   then (if (y != 0) = false
    then (if (x != j) = false
     then (if (C != 0) = false
      then (if (D != 2) = false
       then (if (!((G == 0) && ((I == 0) && (J == 0)))) = false
        then (if (L != 2) = true
         then (Ret B F (R (.bool false)))
         else (V25.b0 B R f g i m n s p q r F))
        else (Ret B F (R (.bool false))))
       else (Ret B F (R (.bool false))))
      else (Ret B F (R (.bool false))))
     else (Ret B F (R (.bool false))))
    else (Ret B F (R (.bool false))))
   else (if (C != 0) = false
    then (if (D != 2) = false
     then (if (!((G == 0) && ((I == 0) && (J == 0)))) = false
      then (if (L != 2) = true
       then (Ret B F (R (.bool false)))
       else (V25.b0 B R f g i m n s p q r F))
      else (Ret B F (R (.bool false))))
     else (Ret B F (R (.bool false))))
    else (Ret B F (R (.bool false)))))
  else (if (y != 0) = false
   then (if (x != j) = false
    then (if (C != 0) = false
     then (if (D != 2) = false
      then (if (!((G == 0) && ((I == 0) && (J == 0)))) = false
       then (if (L != 2) = true
        then (Ret B F (R (.bool false)))
        else (V25.b0 B R f g i m n s p q r F))
       else (Ret B F (R (.bool false))))
      else (Ret B F (R (.bool false))))
     else (Ret B F (R (.bool false))))
    else (Ret B F (R (.bool false))))
   else (Ret B F (R (.bool false))))
noncomputable def V25.cfg (B : Nat) : Cfg := ⟨Try.prog, ⟨135, B⟩, [], hasN [35, 41, 46, 72, 73, 75, 77], hasN [99]⟩
noncomputable def V25.code : Code := (Try.f25.body).getD .skip
noncomputable def V25.cuts (B : Nat) (R : Value → World → Prop) : Nat → Cut := nthC [⟨[(1, .one (.slice)), (4, .one (.int .u8)), (5, .one (.int .u8))], [(13, 24, [.slice])], fun fs vs bs w => V25.b0 B R (slA (nthV vs 0)) (slL (nthV vs 0)) (slC (nthV vs 0)) (iV (nthV vs 1)) (iV (nthV vs 2)) (nthB bs 0).blk (slA (nthV (nthB bs 0).cells 0)) (slL (nthV (nthB bs 0).cells 0)) (slC (nthV (nthB bs 0).cells 0)) w⟩,
  ⟨[(4, .one (.int .u8)), (5, .one (.int .u8)), (20, .one (.ptr)), (21, .one (.slice))], [(13, 24, [.slice])], fun fs vs bs w => V25.b1 B R (iV (nthV vs 0)) (iV (nthV vs 1)) (pV (nthV vs 2)) (slA (nthV vs 3)) (slL (nthV vs 3)) (slC (nthV vs 3)) (nthB bs 0).blk (slA (nthV (nthB bs 0).cells 0)) (slL (nthV (nthB bs 0).cells 0)) (slC (nthV (nthB bs 0).cells 0)) w⟩]
noncomputable def V25.h : H := .s (.z) (.s (.z) (.s (.z) (.s (.z) (.s (.z) (.cut 0 (.s (.z) (.c (.s (.z) (.z)) (.z))) (.cut 1 (.z) (.s (.s (.z) (.c (.s (.z) (.z)) (.z))) (.s (.z) (.s (.z) (.s (.z) (.s (.z) (.z))))))))))))
theorem V25.vc_eq (B : Nat) (R : Value → World → Prop) (a : Option Addr) (c d : Nat) (f : Option Addr) (g i : Nat) (j l m n : Int) (w : World) : wpf (V25.cfg B) (V25.cuts B R) V25.code V25.h [] (postOf Try.prog B (Try.f25.results.toList) R) (argE 0 [.slice a c d, .slice f g i, .int .i64 j, .int .i64 l, .int .u8 m, .int .u8 n]) [] w = V25.vc B R a c d f g i j l m n w := by kernel_rfl
theorem V25.obl (B : Nat) (R : Value → World → Prop) : oblP (V25.cfg B) (V25.cuts B R) V25.code V25.h [] (postOf Try.prog B (Try.f25.results.toList) R) := by
  have e : oblP (V25.cfg B) (V25.cuts B R) V25.code V25.h [] (postOf Try.prog B (Try.f25.results.toList) R) = (True ∧ (True ∧ (True ∧ (True ∧ (True ∧ ((True ∧ ((True ∧ True) ∧ True)) ∧ (∀ (a : Option Addr) (c d : Nat) (f g : Int) (i : Nat) (j : Option Addr) (l m : Nat) (w : World), V25.b0 B R a c d f g i j l m w → V25.b0 B R a c d f g i j l m w) ∧ (True ∧ (∀ (f g : Int) (n : Addr) (o : Option Addr) (p q i : Nat) (j : Option Addr) (l m : Nat) (w : World), V25.b1 B R f g n o p q i j l m w → V25.b1 B R f g n o p q i j l m w) ∧ ((True ∧ ((True ∧ True) ∧ True)) ∧ (True ∧ (True ∧ (True ∧ (True ∧ True)))))))))))) := by kernel_rfl
  rw [e]
  exact ⟨trivial, ⟨trivial, ⟨trivial, ⟨trivial, ⟨trivial, ⟨⟨trivial, ⟨⟨trivial, trivial⟩, trivial⟩⟩, fun a c d f g i j l m w h => h, ⟨trivial, fun f g n o p q i j l m w h => h, ⟨⟨trivial, ⟨⟨trivial, trivial⟩, trivial⟩⟩, ⟨trivial, ⟨trivial, ⟨trivial, ⟨trivial, trivial⟩⟩⟩⟩⟩⟩⟩⟩⟩⟩⟩⟩
theorem V25.cfgOk (B : Nat) : CfgOk (V25.cfg B) := cfgOk_of (by kernel_rfl) (by kernel_rfl)
theorem V25.sound {a : Option Addr} {d f : Nat} {g : Option Addr} {i j : Nat} {l m n o : Int} {w : World} {R : Value → World → Prop} (h : V25.vc w.heap.size R a d f g i j l m n o w) : Calls Try.prog 25 ⟨[.slice a d f, .slice g i j, .int .i64 l, .int .i64 m, .int .u8 n, .int .u8 o]⟩ w fun e w' => ∃ v, e = .returned v ∧ R v w' :=
  calls_wpfP (c := V25.cfg w.heap.size) (fn := Try.f25) (x := V25.code) (V25.cuts w.heap.size R) V25.h (V25.cfgOk _) mixed Try.func25 (by kernel_rfl) (by kernel_rfl) (by kernel_rfl) rfl (V25.obl _ _) ((V25.vc_eq _ _ a d f g i j l m n o _).symm ▸ h)
end Go.Proofs.Ytlccbaemcfjdoaa
