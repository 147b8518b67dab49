/-
  What the engine makes of the loaded functions 23: conditions under which a call returns as told, and proofs of that.
  Conditions: none. Printed by a program of this project.
-/
import Derived.Test.YtlccbaemcfjdoaaZWM
set_option linter.unusedVariables false
set_option maxRecDepth 100000
namespace Go.Proofs.Ytlccbaemcfjdoaa
def V23.l1 (B : Nat) (R : Value → World → Prop) : Nat → Int → Int → Int → Addr → Option Addr → Nat → Nat → Int → World → Prop
  | 0 => fun _ _ _ _ _ _ _ _ _ => False
  | k + 1 => fun a c d f g i j l w =>
    if (decide (l < 2)) = true
    then (CallK Try.prog 77 [.pointer (some f), .int .i64 a, .int .i64 c] B w [] fun v m => 
     ∃ n o : Int, v = .tuple ⟨[.int .i64 n, .int .i64 o]⟩ ∧
     CallK Try.prog 78 [.slice g i j, .int .i64 a, .int .i64 c] B m [] fun p q => 
     ∃ (r : Option Addr) (s t : Nat) (x y : Int), p = .tuple ⟨[.slice r s t, .int .i64 x, .int .i64 y]⟩ ∧
     if (n != x) = false
     then (if (o != y) = false
      then (CallK Try.prog 46 [.pointer (some f), .slice r s t] B q [] fun z A => 
       ∃ C : Bool, z = .bool C ∧
       if (!C) = true
       then (Ret B A (R (.bool false)))
       else (CallK Try.prog 79 [.slice r s t, .int .i64 a, .int .i64 1] B A [] fun D E => 
        ∃ F : Bool, D = .bool F ∧
        if F = true
        then ((200 : Int) ≠ 0 ∧
        ∃ G : Addr, r = some G ∧ (0 : Int) ≤ a ∧ a < (s : Int) ∧
        (∃ u, E.cell? ((G.add a.toNat).add 0) = some u) ∧ E.frozen? ((G.add a.toNat).add 0) = false ∧
        let I := E.setCell ((G.add a.toNat).add 0) (.int .u64 (Int.tmod d 200));
        (200 : Int) ≠ 0 ∧
        CallK Try.prog 70 [.pointer (some f), .int .i64 a, .int .u64 (Int.tmod d 200)] B I [] fun J L => 
         ∃ M : Int, J = .int .i64 M ∧
         if (M != 0) = true
         then (Ret B L (R (.bool false)))
         else ((V23.l1 B R k) a c d f r s t (IntKind.wrap .i64 (l + 1)) L))
        else ((V23.l1 B R k) a c d f r s t (IntKind.wrap .i64 (l + 1)) E)))
      else (Ret B q (R (.bool false))))
     else (Ret B q (R (.bool false))))
    else (CallK Try.prog 72 [] B w [] fun v m => 
     ∃ N : Bool, v = .bool N ∧
     Ret B m (R (.bool N)))
def V23.b0 (B : Nat) (R : Value → World → Prop) (a c d : Int) (f : Addr) (g : Option Addr) (i j : Nat) (w : World) : Prop :=
  ∃ l, V23.l1 B R l a c d f g i j 0 w
def V23.vc (B : Nat) (R : Value → World → Prop) (a : Option Addr) (c d : Nat) (f g i : Int) (w : World) : Prop :=
  CallK Try.prog 41 [.int .i64 2, .slice a c d] B w [] fun v j => 
  ∃ (l m : Option Addr) (n o : Nat), v = .tuple ⟨[.pointer l, .slice m n o]⟩ ∧
  caseP l
  (False)
  (fun p => V23.b0 B R f g i p m n o j)
noncomputable def V23.cfg (B : Nat) : Cfg := ⟨Try.prog, ⟨73, B⟩, [], hasN [41, 46, 70, 72, 77, 78, 79], hasN []⟩
noncomputable def V23.code : Code := (Try.f23.body).getD .skip
noncomputable def V23.cuts (B : Nat) (R : Value → World → Prop) : Nat → Cut := nthC [⟨[(1, .one (.int .i64)), (2, .one (.int .i64)), (3, .one (.int .u64)), (9, .one (.ptr)), (10, .one (.slice))], [], fun fs vs bs w => V23.b0 B R (iV (nthV vs 0)) (iV (nthV vs 1)) (iV (nthV vs 2)) (pV (nthV vs 3)) (slA (nthV vs 4)) (slL (nthV vs 4)) (slC (nthV vs 4)) w⟩,
  ⟨[(1, .one (.int .i64)), (2, .one (.int .i64)), (3, .one (.int .u64)), (9, .one (.ptr)), (10, .one (.slice)), (11, .one (.int .i64))], [], fun fs vs bs w => V23.l1 B R (nthN fs 0) (iV (nthV vs 0)) (iV (nthV vs 1)) (iV (nthV vs 2)) (pV (nthV vs 3)) (slA (nthV vs 4)) (slL (nthV vs 4)) (slC (nthV vs 4)) (iV (nthV vs 5)) w⟩]
noncomputable def V23.h : H := .s (.z) (.cut 0 (.z) (.s (.s (.z) (.c (.s (.z) (.z)) (.z))) (.s (.s (.z) (.b (.l 1 (.s (.s (.z) (.c (.z) (.z))) (.s (.b (.s (.z) (.s (.z) (.s (.s (.z) (.c (.s (.z) (.z)) (.z))) (.s (.z) (.s (.z) (.c (.s (.z) (.s (.z) (.c (.s (.z) (.z)) (.z)))) (.z)))))))) (.z)))))) (.s (.z) (.z)))))
theorem V23.vc_eq (B : Nat) (R : Value → World → Prop) (a : Option Addr) (c d : Nat) (f g i : Int) (w : World) : wpf (V23.cfg B) (V23.cuts B R) V23.code V23.h [] (postOf Try.prog B (Try.f23.results.toList) R) (argE 0 [.slice a c d, .int .i64 f, .int .i64 g, .int .u64 i]) [] w = V23.vc B R a c d f g i w := by kernel_rfl
theorem V23.obl (B : Nat) (R : Value → World → Prop) : oblP (V23.cfg B) (V23.cuts B R) V23.code V23.h [] (postOf Try.prog B (Try.f23.results.toList) R) := by
  have e : oblP (V23.cfg B) (V23.cuts B R) V23.code V23.h [] (postOf Try.prog B (Try.f23.results.toList) R) = (True ∧ (True ∧ (∀ (a c d : Int) (f : Addr) (g : Option Addr) (i j : Nat) (w : World), V23.b0 B R a c d f g i j w → V23.b0 B R a c d f g i j w) ∧ ((True ∧ ((True ∧ True) ∧ True)) ∧ ((True ∧ ((∀ (a c d : Int) (f : Addr) (g : Option Addr) (i j : Nat) (l : Int) (w : World), ¬ V23.l1 B R 0 a c d f g i j l w) ∧ (∀ m, ∀ (a c d : Int) (f : Addr) (g : Option Addr) (i j : Nat) (l : Int) (w : World), V23.l1 B R (m + 1) a c d f g i j l w → V23.l1 B R (m + 1) a c d f g i j l w) ∧ ∀ m : Nat, ((True ∧ (True ∧ True)) ∧ ((True ∧ (True ∧ ((True ∧ ((True ∧ True) ∧ True)) ∧ (True ∧ (True ∧ ((True ∧ (True ∧ ((True ∧ True) ∧ True))) ∧ True)))))) ∧ True)))) ∧ (True ∧ True))))) := by kernel_rfl
  rw [e]
  exact ⟨trivial, ⟨trivial, fun a c d f g i j w h => h, ⟨⟨trivial, ⟨⟨trivial, trivial⟩, trivial⟩⟩, ⟨⟨trivial, ⟨fun a c d f g i j l w h => h, fun _ a c d f g i j l w h => h, fun m => ⟨⟨trivial, ⟨trivial, trivial⟩⟩, ⟨⟨trivial, ⟨trivial, ⟨⟨trivial, ⟨⟨trivial, trivial⟩, trivial⟩⟩, ⟨trivial, ⟨trivial, ⟨⟨trivial, ⟨trivial, ⟨⟨trivial, trivial⟩, trivial⟩⟩⟩, trivial⟩⟩⟩⟩⟩⟩, trivial⟩⟩⟩⟩, ⟨trivial, trivial⟩⟩⟩⟩⟩
theorem V23.cfgOk (B : Nat) : CfgOk (V23.cfg B) := cfgOk_of (by kernel_rfl) (by kernel_rfl)
theorem V23.sound {a : Option Addr} {d f : Nat} {g i j : Int} {w : World} {R : Value → World → Prop} (h : V23.vc w.heap.size R a d f g i j w) : Calls Try.prog 23 ⟨[.slice a d f, .int .i64 g, .int .i64 i, .int .u64 j]⟩ w fun e w' => ∃ v, e = .returned v ∧ R v w' :=
  calls_wpfP (c := V23.cfg w.heap.size) (fn := Try.f23) (x := V23.code) (V23.cuts w.heap.size R) V23.h (V23.cfgOk _) mixed Try.func23 (by kernel_rfl) (by kernel_rfl) (by kernel_rfl) rfl (V23.obl _ _) ((V23.vc_eq _ _ a d f g i j _).symm ▸ h)
end Go.Proofs.Ytlccbaemcfjdoaa
