/-
  What the engine makes of the loaded functions 17: conditions under which a call returns as told, and proofs of that.
  Conditions: none. Printed by a program of this project.
-/
import Derived.Test.YtlccbaemcfjdoaaZWH
set_option linter.unusedVariables false
set_option maxRecDepth 100000
namespace Go.Proofs.Ytlccbaemcfjdoaa
def V17.b0 (B : Nat) (R : Value → World → Prop) (a : Bool) (c : Nat) (d : Option Addr) (f g : Nat) (i : Addr) (j : Option Addr) (l m : Nat) (n : Option Addr) (o p : Nat) (q : Option Addr) (r s : Nat) (t u x : Int) (w : World) : Prop :=
  if (!a) = true
  then (Ret B w (R (.bool false)))
  else (CallK Try.prog 66 [.pointer (some i), .agg ⟨[.slice d f g]⟩, .int .i64 x] B w [c] fun v y => 
   ∃ (z : Option Addr) (A C : Nat) (D : Int), v = .tuple ⟨[.slice z A C, .int .i64 D]⟩ ∧
   CallK Try.prog 67 [.slice j l m, .agg ⟨[.slice d f g]⟩, .int .i64 x] B y [c] fun E F => 
   ∃ (G : Option Addr) (I J : Nat) (L : Int), E = .tuple ⟨[.slice G I J, .int .i64 L]⟩ ∧
   CallK Try.prog 68 [.slice z A C, .slice G I J] B F [c] fun M N => 
   ∃ O : Bool, M = .bool O ∧
   if O = true
   then (if (D == L) = true
    then (CallK Try.prog 69 [.pointer (some i), .slice j l m, .agg ⟨[.slice d f g]⟩, .int .i64 x] B N [c] fun P Q => 
     ∃ S : Bool, P = .bool S ∧
     if S = true
     then (CallK Try.prog 65 [] B Q [c] fun T U => 
      ∃ W : Bool, T = .bool W ∧
      Ret B U (R (.bool W)))
     else (Ret B Q (R (.bool false))))
    else (Ret B N (R (.bool false))))
   else (Ret B N (R (.bool false))))
def V17.vc (B : Nat) (R : Value → World → Prop) (a : Option Addr) (c d : Nat) (f : Option Addr) (g i : Nat) (j : Option Addr) (l m : Nat) (n : Int) (w : World) : Prop :=
  CallK Try.prog 62 [.slice a c d, .slice f g i, .slice j l m, .int .u8 n, .int .u8 0] B w [] fun v o => 
  ∃ (p : Option Addr) (q r : Nat) (s t : Option Addr) (u x : Nat) (y : Option Addr) (z A : Nat) (C : Option Addr) (D E : Nat) (F G I : Int) (J : Bool), v = .tuple ⟨[.agg ⟨[.slice p q r, .pointer s, .slice t u x, .slice y z A, .slice C D E, .int .i64 F, .int .i64 G, .int .i64 I]⟩, .bool J]⟩ ∧
  caseP s
  (∀ L : Nat, o.heap.size ≤ L → False)
  (fun M => ∀ L : Nat, o.heap.size ≤ L →
  V17.b0 B R J L p q r M t u x y z A C D E F G I o)
noncomputable def V17.cfg (B : Nat) : Cfg := ⟨Try.prog, ⟨70, B⟩, [], hasN [62, 65, 66, 67, 68, 69], hasN []⟩
noncomputable def V17.code : Code := (Try.f17.body).getD .skip
noncomputable def V17.cuts (B : Nat) (R : Value → World → Prop) : Nat → Cut := nthC [⟨[(10, .one (.bool))], [(9, 101, [.slice, .ptr, .slice, .slice, .slice, .int .i64, .int .i64, .int .i64])], fun fs vs bs w => V17.b0 B R (bV (nthV vs 0)) (nthB bs 0).blk (slA (nthV (nthB bs 0).cells 0)) (slL (nthV (nthB bs 0).cells 0)) (slC (nthV (nthB bs 0).cells 0)) (pV (nthV (nthB bs 0).cells 1)) (slA (nthV (nthB bs 0).cells 2)) (slL (nthV (nthB bs 0).cells 2)) (slC (nthV (nthB bs 0).cells 2)) (slA (nthV (nthB bs 0).cells 3)) (slL (nthV (nthB bs 0).cells 3)) (slC (nthV (nthB bs 0).cells 3)) (slA (nthV (nthB bs 0).cells 4)) (slL (nthV (nthB bs 0).cells 4)) (slC (nthV (nthB bs 0).cells 4)) (iV (nthV (nthB bs 0).cells 5)) (iV (nthV (nthB bs 0).cells 6)) (iV (nthV (nthB bs 0).cells 7)) w⟩]
noncomputable def V17.h : H := .s (.z) (.cut 0 (.z) (.s (.s (.z) (.c (.s (.z) (.z)) (.z))) (.s (.z) (.s (.z) (.s (.z) (.z))))))
theorem V17.vc_eq (B : Nat) (R : Value → World → Prop) (a : Option Addr) (c d : Nat) (f : Option Addr) (g i : Nat) (j : Option Addr) (l m : Nat) (n : Int) (w : World) : wpf (V17.cfg B) (V17.cuts B R) V17.code V17.h [] (postOf Try.prog B (Try.f17.results.toList) R) (argE 0 [.slice a c d, .slice f g i, .slice j l m, .int .u8 n]) [] w = V17.vc B R a c d f g i j l m n w := by kernel_rfl
theorem V17.obl (B : Nat) (R : Value → World → Prop) : oblP (V17.cfg B) (V17.cuts B R) V17.code V17.h [] (postOf Try.prog B (Try.f17.results.toList) R) := by
  have e : oblP (V17.cfg B) (V17.cuts B R) V17.code V17.h [] (postOf Try.prog B (Try.f17.results.toList) R) = (True ∧ (True ∧ (∀ (a : Bool) (c : Nat) (d : Option Addr) (f g : Nat) (i : Addr) (j : Option Addr) (l m : Nat) (n : Option Addr) (o p : Nat) (q : Option Addr) (r s : Nat) (t u x : Int) (w : World), V17.b0 B R a c d f g i j l m n o p q r s t u x w → V17.b0 B R a c d f g i j l m n o p q r s t u x w) ∧ ((True ∧ ((True ∧ True) ∧ True)) ∧ (True ∧ (True ∧ (True ∧ True)))))) := by kernel_rfl
  rw [e]
  exact ⟨trivial, ⟨trivial, fun a c d f g i j l m n o p q r s t u x w h => h, ⟨⟨trivial, ⟨⟨trivial, trivial⟩, trivial⟩⟩, ⟨trivial, ⟨trivial, ⟨trivial, trivial⟩⟩⟩⟩⟩⟩
theorem V17.cfgOk (B : Nat) : CfgOk (V17.cfg B) := cfgOk_of (by kernel_rfl) (by kernel_rfl)
theorem V17.sound {a : Option Addr} {d f : Nat} {g : Option Addr} {i j : Nat} {l : Option Addr} {m n : Nat} {o : Int} {w : World} {R : Value → World → Prop} (h : V17.vc w.heap.size R a d f g i j l m n o w) : Calls Try.prog 17 ⟨[.slice a d f, .slice g i j, .slice l m n, .int .u8 o]⟩ w fun e w' => ∃ v, e = .returned v ∧ R v w' :=
  calls_wpfP (c := V17.cfg w.heap.size) (fn := Try.f17) (x := V17.code) (V17.cuts w.heap.size R) V17.h (V17.cfgOk _) mixed Try.func17 (by kernel_rfl) (by kernel_rfl) (by kernel_rfl) rfl (V17.obl _ _) ((V17.vc_eq _ _ a d f g i j l m n o _).symm ▸ h)
end Go.Proofs.Ytlccbaemcfjdoaa
