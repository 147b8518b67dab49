import Derived.Test.YtidcpndlloppdaaZMB
/-
  What the engine makes of the loaded functions 7, 9: conditions under which a call returns as told, and proofs of that.
  Conditions: none. Printed by a program of this project.
-/
set_option linter.unusedVariables false
set_option maxRecDepth 100000
namespace Go.Proofs.Ytidcpndlloppdaa
def V7.b4 (B : Nat) (R : Value → World → Prop) (a : Option Addr → Nat → Nat → Addr → Addr → Int → World → Prop) (c : Option Addr) (d f : Nat) (g i : Addr) (j : Int) (w : World) : Prop :=
  CallK Try.prog 23 [.pointer (some g)] B w [] fun v l => 
  ∃ m : Int, v = .int .i64 m ∧
  CallK Try.prog 13 [.pointer (some g)] B l [] fun n o => 
  ∃ p : Bool, n = .bool p ∧
  CallK Try.prog 13 [.pointer (some i)] B o [] fun q r => 
  ∃ s : Bool, q = .bool s ∧
  if (!(p == s)) = false
  then (CallK Try.prog 27 [.pointer (some g)] B r [] fun t u => 
   ∃ x : Bool, t = .bool x ∧
   CallK Try.prog 27 [.pointer (some i)] B u [] fun y z => 
   ∃ A : Bool, y = .bool A ∧
   if (!(x == A)) = false
   then (CallK Try.prog 20 [.pointer (some g)] B z [] fun C D => 
    ∃ (E : Option Addr) (F G : Nat), C = .slice E F G ∧
    CallK Try.prog 20 [.pointer (some i)] B D [] fun I J => 
    ∃ (L : Option Addr) (M N : Nat), I = .slice L M N ∧
    if ((F : Int) != (M : Int)) = true
    then (Ret B J (R (.bool false)))
    else (a c d f g i (IntKind.wrap .i64 (j + 1)) J))
   else (Ret B z (R (.bool false))))
  else (Ret B r (R (.bool false)))
def V7.l3 (B : Nat) (R : Value → World → Prop) (a : Option Addr → Nat → Nat → Addr → Addr → Int → World → Prop) : Nat → Option Addr → Nat → Nat → Addr → Addr → Int → Int → Option Addr → Nat → Nat → Int → World → Prop
  | 0 => fun _ _ _ _ _ _ _ _ _ _ _ _ => False
  | k + 1 => fun c d f g i j l m n o p w =>
    if (decide (p < l)) = true
    then (CallK Try.prog 23 [.pointer (some g)] B w [] fun v q => 
     ∃ r : Int, v = .int .i64 r ∧
     if (r != 8) = false
     then (CallK Try.prog 24 [.pointer (some g)] B q [] fun s t => 
      ∃ u : Int, s = .int .i64 u ∧
      if (u != 0) = false
      then (CallK Try.prog 27 [.pointer (some g)] B t [] fun x y => 
       ∃ z : Bool, x = .bool z ∧
       if (!z) = true
       then (Ret B y (R (.bool false)))
       else ((V7.l3 B R a k) c d f g i j l m n o (IntKind.wrap .i64 (p + 1)) y))
      else (Ret B t (R (.bool false))))
     else (Ret B q (R (.bool false))))
    else (CallK Try.prog 15 [.pointer (some g)] B w [] fun v q => 
     ∃ (A : Option Addr) (C D : Nat), v = .slice A C D ∧
     CallK Try.prog 28 [.slice A C D, .slice m n o] B q [] fun s t => 
     ∃ E : Bool, s = .bool E ∧
     if (!E) = true
     then (Ret B t (R (.bool false)))
     else (CallK Try.prog 22 [.pointer (some g)] B t [] fun x y => 
      x = .tuple ⟨[]⟩ ∧
      V7.b4 B R a c d f g i j y))
def V7.b2 (B : Nat) (R : Value → World → Prop) (a : Option Addr → Nat → Nat → Addr → Addr → Int → World → Prop) (c : Option Addr) (d f : Nat) (g i : Addr) (j l : Int) (w : World) : Prop :=
  CallK Try.prog 15 [.pointer (some g)] B w [] fun v m => 
  ∃ (n : Option Addr) (o p : Nat), v = .slice n o p ∧
  ∃ q, V7.l3 B R a q c d f g i j l n o p 0 m
def V7.l1 (B : Nat) (R : Value → World → Prop) : Nat → Option Addr → Nat → Nat → Addr → Addr → Int → World → Prop
  | 0 => fun _ _ _ _ _ _ _ => False
  | k + 1 => fun a c d f g i w =>
    if (decide (i < 120)) = true
    then (CallK Try.prog 22 [.pointer (some g)] B w [] fun v j => 
     v = .tuple ⟨[]⟩ ∧
     CallK Try.prog 23 [.pointer (some g)] B j [] fun l m => 
     ∃ n : Int, l = .int .i64 n ∧
     CallK Try.prog 27 [.pointer (some f)] B m [] fun o p => 
     ∃ q : Bool, o = .bool q ∧
     if q = true
     then (if (decide (i < (c : Int))) = true
      then (∃ r : Addr, a = some r ∧ (0 : Int) ≤ i ∧ i < (c : Int) ∧
      ∃ s : Int, p.cell? (r.add i.toNat) = some (.int .u8 s) ∧ (4 : Int) ≠ 0 ∧
      V7.b2 B R (V7.l1 B R k) a c d f g i (Int.tmod (IntKind.wrap .i64 s) 4) p)
      else (V7.b2 B R (V7.l1 B R k) a c d f g i 1 p))
     else (V7.b4 B R (V7.l1 B R k) a c d f g i p))
    else (CallK Try.prog 15 [.pointer (some f)] B w [] fun v j => 
     ∃ (t : Option Addr) (u x : Nat), v = .slice t u x ∧
     CallK Try.prog 15 [.pointer (some g)] B j [] fun l m => 
     ∃ (y : Option Addr) (z A : Nat), l = .slice y z A ∧
     CallK Try.prog 28 [.slice t u x, .slice y z A] B m [] fun o p => 
     ∃ C : Bool, o = .bool C ∧
     if C = true
     then (CallK Try.prog 16 [] B p [] fun D E => 
      ∃ F : Bool, D = .bool F ∧
      Ret B E (R (.bool F)))
     else (Ret B p (R (.bool false))))
def V7.b0 (B : Nat) (R : Value → World → Prop) (a : Option Addr) (c d : Nat) (f g : Addr) (w : World) : Prop :=
  ∃ i, V7.l1 B R i a c d f g 0 w
def V7.vc (B : Nat) (R : Value → World → Prop) (a : Option Addr) (c d : Nat) (f : Option Addr) (g i : Nat) (w : World) : Prop :=
  CallK Try.prog 21 [.slice a c d] B w [] fun v j => 
  ∃ (l : Option Addr) (m n : Nat), v = .agg ⟨[.slice l m n]⟩ ∧
  ∀ o : Nat, j.heap.size ≤ o →
  CallK Try.prog 26 [.agg ⟨[.slice l m n]⟩, .int .i64 0] B j [o] fun p q => 
  ∃ r : Option Addr, p = .pointer r ∧
  caseP r
  (CallK Try.prog 26 [.agg ⟨[.slice l m n]⟩, .int .i64 0] B q [o] fun s t => 
   ∃ u : Option Addr, s = .pointer u ∧
   caseP u
   (False)
   (fun x => False))
  (fun y => CallK Try.prog 26 [.agg ⟨[.slice l m n]⟩, .int .i64 0] B q [o] fun s t => 
   ∃ u : Option Addr, s = .pointer u ∧
   caseP u
   (False)
   (fun x => V7.b0 B R f g i y x t))
noncomputable def V7.cfg (B : Nat) : Cfg := ⟨Try.prog, ⟨102, B⟩, [], hasN [13, 15, 16, 20, 21, 22, 23, 24, 26, 27, 28], hasN [], look []⟩
noncomputable def V7.code : Code := (Try.f7.body).getD .skip
noncomputable def V7.cuts (B : Nat) (R : Value → World → Prop) : Nat → Cut := nthC [⟨[(1, .one (.slice)), (6, .one (.ptr)), (7, .one (.ptr))], [], fun fs vs bs w => V7.b0 B R (slA (nthV vs 0)) (slL (nthV vs 0)) (slC (nthV vs 0)) (pV (nthV vs 1)) (pV (nthV vs 2)) w⟩,
  ⟨[(1, .one (.slice)), (6, .one (.ptr)), (7, .one (.ptr)), (8, .one (.int .i64))], [], fun fs vs bs w => V7.l1 B R (nthN fs 0) (slA (nthV vs 0)) (slL (nthV vs 0)) (slC (nthV vs 0)) (pV (nthV vs 1)) (pV (nthV vs 2)) (iV (nthV vs 3)) w⟩,
  ⟨[(1, .one (.slice)), (6, .one (.ptr)), (7, .one (.ptr)), (8, .one (.int .i64)), (9, .one (.int .i64))], [], fun fs vs bs w => V7.b2 B R (V7.l1 B R (nthN fs 0)) (slA (nthV vs 0)) (slL (nthV vs 0)) (slC (nthV vs 0)) (pV (nthV vs 1)) (pV (nthV vs 2)) (iV (nthV vs 3)) (iV (nthV vs 4)) w⟩,
  ⟨[(1, .one (.slice)), (6, .one (.ptr)), (7, .one (.ptr)), (8, .one (.int .i64)), (9, .one (.int .i64)), (10, .one (.slice)), (11, .one (.int .i64))], [], fun fs vs bs w => V7.l3 B R (V7.l1 B R (nthN fs 1)) (nthN fs 0) (slA (nthV vs 0)) (slL (nthV vs 0)) (slC (nthV vs 0)) (pV (nthV vs 1)) (pV (nthV vs 2)) (iV (nthV vs 3)) (iV (nthV vs 4)) (slA (nthV vs 5)) (slL (nthV vs 5)) (slC (nthV vs 5)) (iV (nthV vs 6)) w⟩,
  ⟨[(1, .one (.slice)), (6, .one (.ptr)), (7, .one (.ptr)), (8, .one (.int .i64))], [], fun fs vs bs w => V7.b4 B R (V7.l1 B R (nthN fs 0)) (slA (nthV vs 0)) (slL (nthV vs 0)) (slC (nthV vs 0)) (pV (nthV vs 1)) (pV (nthV vs 2)) (iV (nthV vs 3)) w⟩]
noncomputable def V7.h : H := .s (.z) (.s (.z) (.cut 0 (.r [[0, 2, 1, 3, 4, 5]]) (.s (.s (.z) (.c (.s (.z) (.z)) (.z))) (.s (.s (.z) (.b (.l 1 (.s (.s (.z) (.c (.z) (.z))) (.s (.b (.s (.z) (.s (.z) (.cut 4 (.s (.z) (.c (.s (.z) (.cut 2 (.s (.z) (.c (.z) (.z))) (.s (.z) (.s (.s (.z) (.b (.l 3 (.s (.s (.z) (.c (.z) (.z))) (.s (.b (.s (.z) (.c (.s (.z) (.z)) (.z)))) (.z)))))) (.s (.s (.z) (.c (.s (.z) (.z)) (.z))) (.z)))))) (.z))) (.s (.z) (.s (.z) (.c (.s (.z) (.z)) (.z)))))))) (.z)))))) (.s (.z) (.z))))))
theorem V7.vc_eq (B : Nat) (R : Value → World → Prop) (a : Option Addr) (c d : Nat) (f : Option Addr) (g i : Nat) (w : World) : wpf (V7.cfg B) (V7.cuts B R) V7.code V7.h [] (postOf Try.prog B (Try.f7.results.toList) R) (argE 0 [.slice a c d, .slice f g i]) [] w = V7.vc B R a c d f g i w := by kernel_rfl
theorem V7.obl (B : Nat) (R : Value → World → Prop) : oblP (V7.cfg B) (V7.cuts B R) V7.code V7.h [] (postOf Try.prog B (Try.f7.results.toList) R) := by
  have e : oblP (V7.cfg B) (V7.cuts B R) V7.code V7.h [] (postOf Try.prog B (Try.f7.results.toList) R) = (True ∧ (True ∧ ((true = true) ∧ (∀ (a : Option Addr) (c d : Nat) (f g : Addr) (w : World), V7.b0 B R a c d f g w → V7.b0 B R a c d f g w) ∧ ((True ∧ ((True ∧ True) ∧ True)) ∧ ((True ∧ ((∀ (a : Option Addr) (c d : Nat) (f g : Addr) (i : Int) (w : World), ¬ V7.l1 B R 0 a c d f g i w) ∧ (∀ j, ∀ (a : Option Addr) (c d : Nat) (f g : Addr) (i : Int) (w : World), V7.l1 B R (j + 1) a c d f g i w → V7.l1 B R (j + 1) a c d f g i w) ∧ ∀ j : Nat, ((True ∧ (True ∧ True)) ∧ ((True ∧ (True ∧ ((True ∧ ((True ∧ ((True ∧ (True ∧ True)) ∧ (∀ (a : Option Addr) (c d : Nat) (f g : Addr) (i l : Int) (w : World), V7.b2 B R (V7.l1 B R j) a c d f g i l w → V7.b2 B R (V7.l1 B R j) a c d f g i l w) ∧ (True ∧ ((True ∧ ((∀ (a : Option Addr) (c d : Nat) (f g : Addr) (i l : Int) (m : Option Addr) (n o : Nat) (p : Int) (w : World), ¬ V7.l3 B R (V7.l1 B R j) 0 a c d f g i l m n o p w) ∧ (∀ q, ∀ (a : Option Addr) (c d : Nat) (f g : Addr) (i l : Int) (m : Option Addr) (n o : Nat) (p : Int) (w : World), V7.l3 B R (V7.l1 B R j) (q + 1) a c d f g i l m n o p w → V7.l3 B R (V7.l1 B R j) (q + 1) a c d f g i l m n o p w) ∧ ∀ q : Nat, ((True ∧ (True ∧ True)) ∧ ((True ∧ ((True ∧ True) ∧ True)) ∧ True)))) ∧ ((True ∧ ((True ∧ True) ∧ True)) ∧ True))))) ∧ True)) ∧ (∀ (a : Option Addr) (c d : Nat) (f g : Addr) (i : Int) (w : World), V7.b4 B R (V7.l1 B R j) a c d f g i w → V7.b4 B R (V7.l1 B R j) a c d f g i w) ∧ (True ∧ (True ∧ ((True ∧ True) ∧ True)))))) ∧ True)))) ∧ (True ∧ True)))))) := by kernel_rfl
  exact e.mpr (⟨trivial, ⟨trivial, ⟨rfl, fun a c d f g w h => h, ⟨⟨trivial, ⟨⟨trivial, trivial⟩, trivial⟩⟩, ⟨⟨trivial, ⟨fun a c d f g i w h => h, fun _ a c d f g i w h => h, fun j => ⟨⟨trivial, ⟨trivial, trivial⟩⟩, ⟨⟨trivial, ⟨trivial, ⟨⟨trivial, ⟨⟨trivial, ⟨⟨trivial, ⟨trivial, trivial⟩⟩, fun a c d f g i l w h => h, ⟨trivial, ⟨⟨trivial, ⟨fun a c d f g i l m n o p w h => h, fun _ a c d f g i l m n o p w h => h, fun q => ⟨⟨trivial, ⟨trivial, trivial⟩⟩, ⟨⟨trivial, ⟨⟨trivial, trivial⟩, trivial⟩⟩, trivial⟩⟩⟩⟩, ⟨⟨trivial, ⟨⟨trivial, trivial⟩, trivial⟩⟩, trivial⟩⟩⟩⟩⟩, trivial⟩⟩, fun a c d f g i w h => h, ⟨trivial, ⟨trivial, ⟨⟨trivial, trivial⟩, trivial⟩⟩⟩⟩⟩⟩, trivial⟩⟩⟩⟩, ⟨trivial, trivial⟩⟩⟩⟩⟩⟩)
theorem V7.cfgOk (B : Nat) : CfgOk (V7.cfg B) := cfgOk_of (by kernel_rfl) (by kernel_rfl) extNil
theorem V7.sound {a : Option Addr} {d f : Nat} {g : Option Addr} {i j : Nat} {w : World} {R : Value → World → Prop} (h : V7.vc w.heap.size R a d f g i j w) : Calls Try.prog 7 ⟨[.slice a d f, .slice g i j]⟩ w fun e w' => ∃ v, e = .returned v ∧ R v w' :=
  calls_wpfP (c := V7.cfg w.heap.size) (fn := Try.f7) (x := V7.code) (V7.cuts w.heap.size R) V7.h (V7.cfgOk _) mixed Try.func7 (by kernel_rfl) (by kernel_rfl) (by kernel_rfl) rfl (V7.obl _ _) ((V7.vc_eq _ _ a d f g i j _).symm ▸ h)
end Go.Proofs.Ytidcpndlloppdaa
