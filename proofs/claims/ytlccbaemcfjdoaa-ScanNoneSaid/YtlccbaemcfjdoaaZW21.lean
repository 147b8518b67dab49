/-
  What the engine makes of the loaded functions 21: conditions under which a call returns as told, and proofs of that.
  Conditions: none. Printed by a program of this project.
-/
import Derived.Test.YtlccbaemcfjdoaaZWH
set_option linter.unusedVariables false
set_option maxRecDepth 100000
namespace Go.Proofs.Ytlccbaemcfjdoaa
def V21.b2 (B : Nat) (R : Value → World → Prop) (a : Addr) (c : Nat) (d : Option Addr) (f g : Nat) (i : Addr) (j : Option Addr) (l m : Nat) (n : Option Addr) (o p : Nat) (q : Option Addr) (r s : Nat) (t u x : Int) (w : World) : Prop :=
  if (decide (x ≥ 0)) = true
  then (CallK Try.prog 64 [.pointer (some a), .pointer none] B w [c] fun v y => 
   ∃ (z : Int) (A : Bool) (C : Int), v = .tuple ⟨[.int .i64 z, .bool A, .int .i64 C]⟩ ∧
   CallK Try.prog 64 [.pointer (some a), .pointer (some i)] B y [c] fun D E => 
   ∃ (F : Int) (G : Bool) (I : Int), D = .tuple ⟨[.int .i64 F, .bool G, .int .i64 I]⟩ ∧
   if (z != 0) = false
   then (if A = false
    then (if (C != 2) = false
     then (if (F != x) = false
      then (if (I != 0) = true
       then (Ret B E (R (.bool false)))
       else (CallK Try.prog 65 [] B E [c] fun J L => 
        ∃ M : Bool, J = .bool M ∧
        Ret B L (R (.bool M))))
      else (Ret B E (R (.bool false))))
     else (Ret B E (R (.bool false))))
    else (Ret B E (R (.bool false))))
   else (Ret B E (R (.bool false))))
  else (CallK Try.prog 65 [] B w [c] fun v y => 
   ∃ M : Bool, v = .bool M ∧
   Ret B y (R (.bool M)))
def V21.b1 (B : Nat) (R : Value → World → Prop) (a : Option Addr) (c d : Nat) (f : Int) (g : Nat) (i : Option Addr) (j l : Nat) (m : Addr) (n : Option Addr) (o p : Nat) (q : Option Addr) (r s : Nat) (t : Option Addr) (u x : Nat) (y z A : Int) (w : World) : Prop :=
  CallK Try.prog 64 [.pointer none, .pointer (some m)] B w [g] fun v C => 
  ∃ (D : Int) (E : Bool) (F : Int), v = .tuple ⟨[.int .i64 D, .bool E, .int .i64 F]⟩ ∧
  CallK Try.prog 35 [.slice a c d] B C [g] fun G I => 
  ∃ (J : Option Addr) (L M : Nat), G = .agg ⟨[.slice J L M]⟩ ∧
  CallK Try.prog 66 [.pointer none, .agg ⟨[.slice J L M]⟩, .int .i64 f] B I [g] fun N O => 
  ∃ (P : Option Addr) (Q S : Nat) (T : Int), N = .tuple ⟨[.slice P Q S, .int .i64 T]⟩ ∧
  if (D != 0) = false
  then (if E = false
   then (if (F != 2) = false
    then (CallK Try.prog 71 [.pointer none] B O [g] fun U W => 
     ∃ (X : Option Addr) (Y Z : Nat), U = .slice X Y Z ∧
     if ((Y : Int) != 0) = false
     then (if ((Q : Int) != 0) = false
      then (if (T != 2) = true
       then (Ret B W (R (.bool false)))
       else (CallK Try.prog 63 [.agg ⟨[.slice i j l]⟩, .int .i64 A] B W [g] fun a0 a1 => 
        ∃ a2 : Option Addr, a0 = .pointer a2 ∧
        caseP a2
        (False)
        (fun a3 => V21.b2 B R a3 g i j l m n o p q r s t u x y z A a1)))
      else (Ret B W (R (.bool false))))
     else (Ret B W (R (.bool false))))
    else (Ret B O (R (.bool false))))
   else (Ret B O (R (.bool false))))
  else (Ret B O (R (.bool false)))
def V21.b0 (B : Nat) (R : Value → World → Prop) (a : Option Addr) (c d : Nat) (f : Int) (g : Bool) (i : Nat) (j : Option Addr) (l m : Nat) (n : Addr) (o : Option Addr) (p q : Nat) (r : Option Addr) (s t : Nat) (u : Option Addr) (x y : Nat) (z A C : Int) (w : World) : Prop :=
  if (!g) = true
  then (Ret B w (R (.bool false)))
  else (if (f == (-1)) = true
   then (V21.b1 B R a c d 0 i j l m n o p q r s t u x y z A C w)
   else (V21.b1 B R a c d f i j l m n o p q r s t u x y z A C w))
def V21.vc (B : Nat) (R : Value → World → Prop) (a : Option Addr) (c d : Nat) (f : Option Addr) (g i : Nat) (j l : Int) (w : World) : Prop :=
  CallK Try.prog 62 [.slice a c d, .slice f g i, .slice none 0 0, .int .u8 j, .int .u8 0] B w [] fun v m => 
  ∃ (n : Option Addr) (o p : Nat) (q r : Option Addr) (s t : Nat) (u : Option Addr) (x y : Nat) (z : Option Addr) (A C : Nat) (D E F : Int) (G : Bool), v = .tuple ⟨[.agg ⟨[.slice n o p, .pointer q, .slice r s t, .slice u x y, .slice z A C, .int .i64 D, .int .i64 E, .int .i64 F]⟩, .bool G]⟩ ∧
  caseP q
  (∀ I : Nat, m.heap.size ≤ I → False)
  (fun J => ∀ I : Nat, m.heap.size ≤ I →
  V21.b0 B R a c d l G I n o p J r s t u x y z A C D E F m)
noncomputable def V21.cfg (B : Nat) : Cfg := ⟨Try.prog, ⟨121, B⟩, [], hasN [35, 62, 63, 64, 65, 66, 71], hasN []⟩
noncomputable def V21.code : Code := (Try.f21.body).getD .skip
noncomputable def V21.cuts (B : Nat) (R : Value → World → Prop) : Nat → Cut := nthC [⟨[(0, .one (.slice)), (3, .one (.int .i64)), (10, .one (.bool))], [(9, 101, [.slice, .ptr, .slice, .slice, .slice, .int .i64, .int .i64, .int .i64])], fun fs vs bs w => V21.b0 B R (slA (nthV vs 0)) (slL (nthV vs 0)) (slC (nthV vs 0)) (iV (nthV vs 1)) (bV (nthV vs 2)) (nthB bs 0).blk (slA (nthV (nthB bs 0).cells 0)) (slL (nthV (nthB bs 0).cells 0)) (slC (nthV (nthB bs 0).cells 0)) (pV (nthV (nthB bs 0).cells 1)) (slA (nthV (nthB bs 0).cells 2)) (slL (nthV (nthB bs 0).cells 2)) (slC (nthV (nthB bs 0).cells 2)) (slA (nthV (nthB bs 0).cells 3)) (slL (nthV (nthB bs 0).cells 3)) (slC (nthV (nthB bs 0).cells 3)) (slA (nthV (nthB bs 0).cells 4)) (slL (nthV (nthB bs 0).cells 4)) (slC (nthV (nthB bs 0).cells 4)) (iV (nthV (nthB bs 0).cells 5)) (iV (nthV (nthB bs 0).cells 6)) (iV (nthV (nthB bs 0).cells 7)) w⟩,
  ⟨[(0, .one (.slice)), (3, .one (.int .i64))], [(9, 101, [.slice, .ptr, .slice, .slice, .slice, .int .i64, .int .i64, .int .i64])], fun fs vs bs w => V21.b1 B R (slA (nthV vs 0)) (slL (nthV vs 0)) (slC (nthV vs 0)) (iV (nthV vs 1)) (nthB bs 0).blk (slA (nthV (nthB bs 0).cells 0)) (slL (nthV (nthB bs 0).cells 0)) (slC (nthV (nthB bs 0).cells 0)) (pV (nthV (nthB bs 0).cells 1)) (slA (nthV (nthB bs 0).cells 2)) (slL (nthV (nthB bs 0).cells 2)) (slC (nthV (nthB bs 0).cells 2)) (slA (nthV (nthB bs 0).cells 3)) (slL (nthV (nthB bs 0).cells 3)) (slC (nthV (nthB bs 0).cells 3)) (slA (nthV (nthB bs 0).cells 4)) (slL (nthV (nthB bs 0).cells 4)) (slC (nthV (nthB bs 0).cells 4)) (iV (nthV (nthB bs 0).cells 5)) (iV (nthV (nthB bs 0).cells 6)) (iV (nthV (nthB bs 0).cells 7)) w⟩,
  ⟨[(17, .one (.ptr))], [(9, 101, [.slice, .ptr, .slice, .slice, .slice, .int .i64, .int .i64, .int .i64])], fun fs vs bs w => V21.b2 B R (pV (nthV vs 0)) (nthB bs 0).blk (slA (nthV (nthB bs 0).cells 0)) (slL (nthV (nthB bs 0).cells 0)) (slC (nthV (nthB bs 0).cells 0)) (pV (nthV (nthB bs 0).cells 1)) (slA (nthV (nthB bs 0).cells 2)) (slL (nthV (nthB bs 0).cells 2)) (slC (nthV (nthB bs 0).cells 2)) (slA (nthV (nthB bs 0).cells 3)) (slL (nthV (nthB bs 0).cells 3)) (slC (nthV (nthB bs 0).cells 3)) (slA (nthV (nthB bs 0).cells 4)) (slL (nthV (nthB bs 0).cells 4)) (slC (nthV (nthB bs 0).cells 4)) (iV (nthV (nthB bs 0).cells 5)) (iV (nthV (nthB bs 0).cells 6)) (iV (nthV (nthB bs 0).cells 7)) w⟩]
noncomputable def V21.h : H := .s (.z) (.cut 0 (.z) (.s (.s (.z) (.c (.s (.z) (.z)) (.z))) (.cut 1 (.s (.z) (.c (.z) (.z))) (.s (.z) (.s (.z) (.s (.z) (.s (.s (.z) (.c (.s (.z) (.z)) (.z))) (.cut 2 (.z) (.s (.s (.z) (.c (.s (.z) (.z)) (.z))) (.s (.s (.z) (.c (.s (.z) (.s (.z) (.s (.z) (.c (.s (.z) (.z)) (.z))))) (.z))) (.s (.z) (.z))))))))))))
theorem V21.vc_eq (B : Nat) (R : Value → World → Prop) (a : Option Addr) (c d : Nat) (f : Option Addr) (g i : Nat) (j l : Int) (w : World) : wpf (V21.cfg B) (V21.cuts B R) V21.code V21.h [] (postOf Try.prog B (Try.f21.results.toList) R) (argE 0 [.slice a c d, .slice f g i, .int .u8 j, .int .i64 l]) [] w = V21.vc B R a c d f g i j l w := by kernel_rfl
theorem V21.obl (B : Nat) (R : Value → World → Prop) : oblP (V21.cfg B) (V21.cuts B R) V21.code V21.h [] (postOf Try.prog B (Try.f21.results.toList) R) := by
  have e : oblP (V21.cfg B) (V21.cuts B R) V21.code V21.h [] (postOf Try.prog B (Try.f21.results.toList) R) = (True ∧ (True ∧ (∀ (a : Option Addr) (c d : Nat) (f : Int) (g : Bool) (i : Nat) (j : Option Addr) (l m : Nat) (n : Addr) (o : Option Addr) (p q : Nat) (r : Option Addr) (s t : Nat) (u : Option Addr) (x y : Nat) (z A C : Int) (w : World), V21.b0 B R a c d f g i j l m n o p q r s t u x y z A C w → V21.b0 B R a c d f g i j l m n o p q r s t u x y z A C w) ∧ ((True ∧ ((True ∧ True) ∧ True)) ∧ ((True ∧ (True ∧ True)) ∧ (∀ (a : Option Addr) (c d : Nat) (f : Int) (i : Nat) (j : Option Addr) (l m : Nat) (n : Addr) (o : Option Addr) (p q : Nat) (r : Option Addr) (s t : Nat) (u : Option Addr) (x y : Nat) (z A C : Int) (w : World), V21.b1 B R a c d f i j l m n o p q r s t u x y z A C w → V21.b1 B R a c d f i j l m n o p q r s t u x y z A C w) ∧ (True ∧ (True ∧ (True ∧ ((True ∧ ((True ∧ True) ∧ True)) ∧ (True ∧ (∀ (D : Addr) (i : Nat) (j : Option Addr) (l m : Nat) (n : Addr) (o : Option Addr) (p q : Nat) (r : Option Addr) (s t : Nat) (u : Option Addr) (x y : Nat) (z A C : Int) (w : World), V21.b2 B R D i j l m n o p q r s t u x y z A C w → V21.b2 B R D i j l m n o p q r s t u x y z A C w) ∧ ((True ∧ ((True ∧ True) ∧ True)) ∧ ((True ∧ ((True ∧ (True ∧ (True ∧ ((True ∧ True) ∧ True)))) ∧ True)) ∧ (True ∧ True)))))))))))) := by kernel_rfl
  rw [e]
  exact ⟨trivial, ⟨trivial, fun a c d f g i j l m n o p q r s t u x y z A C w h => h, ⟨⟨trivial, ⟨⟨trivial, trivial⟩, trivial⟩⟩, ⟨⟨trivial, ⟨trivial, trivial⟩⟩, fun a c d f i j l m n o p q r s t u x y z A C w h => h, ⟨trivial, ⟨trivial, ⟨trivial, ⟨⟨trivial, ⟨⟨trivial, trivial⟩, trivial⟩⟩, ⟨trivial, fun D i j l m n o p q r s t u x y z A C w h => h, ⟨⟨trivial, ⟨⟨trivial, trivial⟩, trivial⟩⟩, ⟨⟨trivial, ⟨⟨trivial, ⟨trivial, ⟨trivial, ⟨⟨trivial, trivial⟩, trivial⟩⟩⟩⟩, trivial⟩⟩, ⟨trivial, trivial⟩⟩⟩⟩⟩⟩⟩⟩⟩⟩⟩⟩
theorem V21.cfgOk (B : Nat) : CfgOk (V21.cfg B) := cfgOk_of (by kernel_rfl) (by kernel_rfl)
theorem V21.sound {a : Option Addr} {d f : Nat} {g : Option Addr} {i j : Nat} {l m : Int} {w : World} {R : Value → World → Prop} (h : V21.vc w.heap.size R a d f g i j l m w) : Calls Try.prog 21 ⟨[.slice a d f, .slice g i j, .int .u8 l, .int .i64 m]⟩ w fun e w' => ∃ v, e = .returned v ∧ R v w' :=
  calls_wpfP (c := V21.cfg w.heap.size) (fn := Try.f21) (x := V21.code) (V21.cuts w.heap.size R) V21.h (V21.cfgOk _) mixed Try.func21 (by kernel_rfl) (by kernel_rfl) (by kernel_rfl) rfl (V21.obl _ _) ((V21.vc_eq _ _ a d f g i j l m _).symm ▸ h)
end Go.Proofs.Ytlccbaemcfjdoaa
