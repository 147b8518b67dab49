/-
  What the engine makes of the loaded functions 62, 63, 64, 65, 66, 67, 69, 71, 106, 107, 108, 109, 110, 125, 126: conditions under which a call returns as told, and proofs of that.
  Conditions: none. Printed by a program of this project.
-/
import Derived.Test.YtlccbaemcfjdoaaZWD
set_option linter.unusedVariables false
set_option maxRecDepth 100000
namespace Go.Proofs.Ytlccbaemcfjdoaa
def V62.b0 (B : Nat) (R : Value → World → Prop) (a : Option Addr) (c d f : Nat) (g : Option Addr) (i j : Nat) (l : Value) (m : Option Addr) (n o : Nat) (p : Option Addr) (q r : Nat) (s : Option Addr) (t u : Nat) (x y z : Int) (A : Nat) (C : Option Addr) (D E : Nat) (F : Value) (G : Option Addr) (I J : Nat) (L : Option Addr) (M N : Nat) (O : Option Addr) (P Q : Nat) (S T U : Int) (w : World) : Prop :=
  CallK Try.prog 41 [.int .i64 16, .slice a c d] B w [f, A] fun v W => 
  ∃ (X Y : Option Addr) (Z a0 : Nat), v = .tuple ⟨[.pointer X, .slice Y Z a0]⟩ ∧
  caseP X
  (Ret B W (R (.tuple ⟨[.agg ⟨[.slice g i j, .pointer none, .slice Y Z a0, .slice p q r, .slice s t u, .int .i64 x, .int .i64 y, .int .i64 z]⟩, .bool false]⟩)))
  (fun a1 => Ret B W (R (.tuple ⟨[.agg ⟨[.slice g i j, .pointer (some a1), .slice Y Z a0, .slice p q r, .slice s t u, .int .i64 x, .int .i64 y, .int .i64 z]⟩, .bool true]⟩)))
def V62.vc (B : Nat) (R : Value → World → Prop) (a : Option Addr) (c d : Nat) (f : Option Addr) (g i : Nat) (j : Option Addr) (l m : Nat) (n o : Int) (w : World) : Prop :=
  ∀ p : Nat, w.heap.size ≤ p →
  CallK Try.prog 35 [.slice a c d] B w [p] fun v q => 
  ∃ (r : Option Addr) (s t : Nat), v = .agg ⟨[.slice r s t]⟩ ∧
  ∀ u : Nat, q.heap.size ≤ u →
  RunK Try.prog (Instr.makeSlice 50 (.int .i64 1024) (.int .i64 1024)) B q [u, p] fun x y => 
  ∃ (z : Option Addr) (A C : Nat), x = .slice z A C ∧
  RunK Try.prog (Builtin.copy_ #[50, 50] 3 ⟨[.slice z A C, .slice j l m]⟩) B y [u, p] fun D E => 
  ∃ F : Int, D = .int .i64 F ∧
  CallK Try.prog 58 [.agg ⟨[.slice r s t]⟩, .slice f g i, .int .i64 (IntKind.wrap .i64 (2 * IntKind.wrap .i64 n)), .int .i64 1024, .slice z A C] B E [u, p] fun G I => 
  ∃ (J : Option Addr) (L M : Nat) (N : Option Addr) (O P : Nat) (Q : Option Addr) (S T : Nat) (U : Int), G = .tuple ⟨[.slice J L M, .slice N O P, .slice Q S T, .int .i64 U]⟩ ∧
  if (decide ((O : Int) > 0)) = true
  then (∃ W : Addr, N = some W ∧ (0 : Int) ≤ IntKind.wrap .i64 ((O : Int) - 1) ∧ IntKind.wrap .i64 ((O : Int) - 1) < (O : Int) ∧
  ∃ X : Int, I.cell? (W.add ((IntKind.wrap .i64 ((O : Int) - 1)).toNat)) = some (.int .i64 X) ∧
  V62.b0 B R Q S T u r s t (.pointer none) none 0 0 J L M N O P (IntKind.wrap .i64 (2 * IntKind.wrap .i64 n)) (if IntKind.wrap .i64 (1024 - IntKind.wrap .i64 (2 * IntKind.wrap .i64 n)) < (if 1 > IntKind.wrap .i64 (IntKind.wrap .i64 (U - IntKind.wrap .i64 (2 * IntKind.wrap .i64 n)) + IntKind.wrap .i64 o) then 1 else IntKind.wrap .i64 (IntKind.wrap .i64 (U - IntKind.wrap .i64 (2 * IntKind.wrap .i64 n)) + IntKind.wrap .i64 o)) then IntKind.wrap .i64 (1024 - IntKind.wrap .i64 (2 * IntKind.wrap .i64 n)) else (if 1 > IntKind.wrap .i64 (IntKind.wrap .i64 (U - IntKind.wrap .i64 (2 * IntKind.wrap .i64 n)) + IntKind.wrap .i64 o) then 1 else IntKind.wrap .i64 (IntKind.wrap .i64 (U - IntKind.wrap .i64 (2 * IntKind.wrap .i64 n)) + IntKind.wrap .i64 o))) X p none 0 0 (.pointer none) none 0 0 none 0 0 none 0 0 0 0 0 I)
  else (V62.b0 B R Q S T u r s t (.pointer none) none 0 0 J L M N O P (IntKind.wrap .i64 (2 * IntKind.wrap .i64 n)) (if IntKind.wrap .i64 (1024 - IntKind.wrap .i64 (2 * IntKind.wrap .i64 n)) < (if 1 > IntKind.wrap .i64 (IntKind.wrap .i64 (U - IntKind.wrap .i64 (2 * IntKind.wrap .i64 n)) + IntKind.wrap .i64 o) then 1 else IntKind.wrap .i64 (IntKind.wrap .i64 (U - IntKind.wrap .i64 (2 * IntKind.wrap .i64 n)) + IntKind.wrap .i64 o)) then IntKind.wrap .i64 (1024 - IntKind.wrap .i64 (2 * IntKind.wrap .i64 n)) else (if 1 > IntKind.wrap .i64 (IntKind.wrap .i64 (U - IntKind.wrap .i64 (2 * IntKind.wrap .i64 n)) + IntKind.wrap .i64 o) then 1 else IntKind.wrap .i64 (IntKind.wrap .i64 (U - IntKind.wrap .i64 (2 * IntKind.wrap .i64 n)) + IntKind.wrap .i64 o))) (-1) p none 0 0 (.pointer none) none 0 0 none 0 0 none 0 0 0 0 0 I)
noncomputable def V62.cfg (B : Nat) : Cfg := ⟨Try.prog, ⟨85, B⟩, [], hasN [35, 41, 58], hasN []⟩
noncomputable def V62.code : Code := (Try.f62.body).getD .skip
noncomputable def V62.cuts (B : Nat) (R : Value → World → Prop) : Nat → Cut := nthC [⟨[(13, .one (.slice))], [(12, 101, [.slice, .any, .slice, .slice, .slice, .int .i64, .int .i64, .int .i64]), (10, 101, [.slice, .any, .slice, .slice, .slice, .int .i64, .int .i64, .int .i64])], fun fs vs bs w => V62.b0 B R (slA (nthV vs 0)) (slL (nthV vs 0)) (slC (nthV vs 0)) (nthB bs 0).blk (slA (nthV (nthB bs 0).cells 0)) (slL (nthV (nthB bs 0).cells 0)) (slC (nthV (nthB bs 0).cells 0)) (id (nthV (nthB bs 0).cells 1)) (slA (nthV (nthB bs 0).cells 2)) (slL (nthV (nthB bs 0).cells 2)) (slC (nthV (nthB bs 0).cells 2)) (slA (nthV (nthB bs 0).cells 3)) (slL (nthV (nthB bs 0).cells 3)) (slC (nthV (nthB bs 0).cells 3)) (slA (nthV (nthB bs 0).cells 4)) (slL (nthV (nthB bs 0).cells 4)) (slC (nthV (nthB bs 0).cells 4)) (iV (nthV (nthB bs 0).cells 5)) (iV (nthV (nthB bs 0).cells 6)) (iV (nthV (nthB bs 0).cells 7)) (nthB bs 1).blk (slA (nthV (nthB bs 1).cells 0)) (slL (nthV (nthB bs 1).cells 0)) (slC (nthV (nthB bs 1).cells 0)) (id (nthV (nthB bs 1).cells 1)) (slA (nthV (nthB bs 1).cells 2)) (slL (nthV (nthB bs 1).cells 2)) (slC (nthV (nthB bs 1).cells 2)) (slA (nthV (nthB bs 1).cells 3)) (slL (nthV (nthB bs 1).cells 3)) (slC (nthV (nthB bs 1).cells 3)) (slA (nthV (nthB bs 1).cells 4)) (slL (nthV (nthB bs 1).cells 4)) (slC (nthV (nthB bs 1).cells 4)) (iV (nthV (nthB bs 1).cells 5)) (iV (nthV (nthB bs 1).cells 6)) (iV (nthV (nthB bs 1).cells 7)) w⟩]
noncomputable def V62.h : H := .s (.z) (.s (.z) (.s (.z) (.s (.z) (.s (.z) (.s (.z) (.s (.z) (.s (.z) (.s (.z) (.cut 0 (.s (.z) (.c (.z) (.z))) (.s (.z) (.s (.r [[0, 1, 2, 3, 4, 5]]) (.z))))))))))))
theorem V62.vc_eq (B : Nat) (R : Value → World → Prop) (a : Option Addr) (c d : Nat) (f : Option Addr) (g i : Nat) (j : Option Addr) (l m : Nat) (n o : Int) (w : World) : wpf (V62.cfg B) (V62.cuts B R) V62.code V62.h [] (postOf Try.prog B (Try.f62.results.toList) R) (argE 0 [.slice a c d, .slice f g i, .slice j l m, .int .u8 n, .int .u8 o]) [] w = V62.vc B R a c d f g i j l m n o w := by kernel_rfl
theorem V62.obl (B : Nat) (R : Value → World → Prop) : oblP (V62.cfg B) (V62.cuts B R) V62.code V62.h [] (postOf Try.prog B (Try.f62.results.toList) R) := by
  have e : oblP (V62.cfg B) (V62.cuts B R) V62.code V62.h [] (postOf Try.prog B (Try.f62.results.toList) R) = (True ∧ (True ∧ (True ∧ (True ∧ (True ∧ (True ∧ (True ∧ (True ∧ (True ∧ ((True ∧ (True ∧ True)) ∧ (∀ (a : Option Addr) (c d f : Nat) (g : Option Addr) (i j : Nat) (l : Value) (m : Option Addr) (n o : Nat) (p : Option Addr) (q r : Nat) (s : Option Addr) (t u : Nat) (x y z : Int) (A : Nat) (C : Option Addr) (D E : Nat) (F : Value) (G : Option Addr) (I J : Nat) (L : Option Addr) (M N : Nat) (O : Option Addr) (P Q : Nat) (S T U : Int) (w : World), V62.b0 B R a c d f g i j l m n o p q r s t u x y z A C D E F G I J L M N O P Q S T U w → V62.b0 B R a c d f g i j l m n o p q r s t u x y z A C D E F G I J L M N O P Q S T U w) ∧ (True ∧ ((true = true) ∧ True)))))))))))) := by kernel_rfl
  rw [e]
  exact ⟨trivial, ⟨trivial, ⟨trivial, ⟨trivial, ⟨trivial, ⟨trivial, ⟨trivial, ⟨trivial, ⟨trivial, ⟨⟨trivial, ⟨trivial, trivial⟩⟩, fun a c d f g i j l m n o p q r s t u x y z A C D E F G I J L M N O P Q S T U w h => h, ⟨trivial, ⟨rfl, trivial⟩⟩⟩⟩⟩⟩⟩⟩⟩⟩⟩⟩
theorem V62.cfgOk (B : Nat) : CfgOk (V62.cfg B) := cfgOk_of (by kernel_rfl) (by kernel_rfl)
theorem V62.sound {a : Option Addr} {d f : Nat} {g : Option Addr} {i j : Nat} {l : Option Addr} {m n : Nat} {o p : Int} {w : World} {R : Value → World → Prop} (h : V62.vc w.heap.size R a d f g i j l m n o p w) : Calls Try.prog 62 ⟨[.slice a d f, .slice g i j, .slice l m n, .int .u8 o, .int .u8 p]⟩ w fun e w' => ∃ v, e = .returned v ∧ R v w' :=
  calls_wpfP (c := V62.cfg w.heap.size) (fn := Try.f62) (x := V62.code) (V62.cuts w.heap.size R) V62.h (V62.cfgOk _) mixed Try.func62 (by kernel_rfl) (by kernel_rfl) (by kernel_rfl) rfl (V62.obl _ _) ((V62.vc_eq _ _ a d f g i j l m n o p _).symm ▸ h)
end Go.Proofs.Ytlccbaemcfjdoaa
