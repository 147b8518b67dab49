/-
  What the engine makes of the loaded functions 40: conditions under which a call returns as told, and proofs of that.
  Conditions: none. Printed by a program of this project.
-/
import Derived.Test.YtlccbaemcfjdoaaZEngC
import Derived.Test.YtlccbaemcfjdoaaProg
set_option linter.unusedVariables false
set_option maxRecDepth 100000
namespace Go.Proofs.Ytlccbaemcfjdoaa
theorem mixed : Try.prog.follows .mixedOrders = true := by kernel_rfl
def V40.l0 (B : Nat) (R : Value → World → Prop) : Nat → Option Addr → Nat → Nat → Option Addr → Nat → Nat → Int → World → Prop
  | 0 => fun _ _ _ _ _ _ _ _ => False
  | k + 1 => fun a c d f g i j w =>
    if (decide (j < (c : Int))) = true
    then (∃ l : Addr, a = some l ∧ (0 : Int) ≤ j ∧ j < (c : Int) ∧
    ∃ m : Int, w.cell? (l.add j.toNat) = some (.int .i64 m) ∧
    ∃ n : Addr, f = some n ∧ (0 : Int) ≤ j ∧ j < (g : Int) ∧
    ∃ o : Int, w.cell? (n.add j.toNat) = some (.int .i64 o) ∧
    if (m != o) = true
     then (Ret B w (R (.bool false)))
     else ((V40.l0 B R k) a c d f g i (IntKind.wrap .i64 (j + 1)) w))
    else (Ret B w (R (.bool true)))
def V40.vc (B : Nat) (R : Value → World → Prop) (a : Option Addr) (c d : Nat) (f : Option Addr) (g i : Nat) (w : World) : Prop :=
  if ((c : Int) != (g : Int)) = true
  then (Ret B w (R (.bool false)))
  else (∃ j, V40.l0 B R j a c d f g i 0 w)
noncomputable def V40.cfg (B : Nat) : Cfg := ⟨Try.prog, ⟨26, B⟩, [], hasN [], hasN []⟩
noncomputable def V40.code : Code := (Try.f40.body).getD .skip
noncomputable def V40.cuts (B : Nat) (R : Value → World → Prop) : Nat → Cut := nthC [⟨[(0, .one (.slice)), (1, .one (.slice)), (5, .one (.int .i64))], [], fun fs vs bs w => V40.l0 B R (nthN fs 0) (slA (nthV vs 0)) (slL (nthV vs 0)) (slC (nthV vs 0)) (slA (nthV vs 1)) (slL (nthV vs 1)) (slC (nthV vs 1)) (iV (nthV vs 2)) w⟩]
noncomputable def V40.h : H := .s (.z) (.s (.s (.z) (.c (.s (.z) (.z)) (.z))) (.s (.s (.z) (.b (.l 0 (.s (.s (.z) (.c (.z) (.z))) (.s (.b (.s (.r [[0, 1, 2, 3, 4, 5, 6, 7, 8]]) (.c (.s (.z) (.z)) (.z)))) (.z)))))) (.s (.z) (.z))))
theorem V40.vc_eq (B : Nat) (R : Value → World → Prop) (a : Option Addr) (c d : Nat) (f : Option Addr) (g i : Nat) (w : World) : wpf (V40.cfg B) (V40.cuts B R) V40.code V40.h [] (postOf Try.prog B (Try.f40.results.toList) R) (argE 0 [.slice a c d, .slice f g i]) [] w = V40.vc B R a c d f g i w := by kernel_rfl
theorem V40.obl (B : Nat) (R : Value → World → Prop) : oblP (V40.cfg B) (V40.cuts B R) V40.code V40.h [] (postOf Try.prog B (Try.f40.results.toList) R) := by
  have e : oblP (V40.cfg B) (V40.cuts B R) V40.code V40.h [] (postOf Try.prog B (Try.f40.results.toList) R) = (True ∧ ((True ∧ ((True ∧ True) ∧ True)) ∧ ((True ∧ ((∀ (a : Option Addr) (c d : Nat) (f : Option Addr) (g i : Nat) (j : Int) (w : World), ¬ V40.l0 B R 0 a c d f g i j w) ∧ (∀ l, ∀ (a : Option Addr) (c d : Nat) (f : Option Addr) (g i : Nat) (j : Int) (w : World), V40.l0 B R (l + 1) a c d f g i j w → V40.l0 B R (l + 1) a c d f g i j w) ∧ ∀ l : Nat, ((True ∧ (True ∧ True)) ∧ (((true = true) ∧ ((True ∧ True) ∧ True)) ∧ True)))) ∧ (True ∧ True)))) := by kernel_rfl
  rw [e]
  exact ⟨trivial, ⟨⟨trivial, ⟨⟨trivial, trivial⟩, trivial⟩⟩, ⟨⟨trivial, ⟨fun a c d f g i j w h => h, fun _ a c d f g i j w h => h, fun l => ⟨⟨trivial, ⟨trivial, trivial⟩⟩, ⟨⟨rfl, ⟨⟨trivial, trivial⟩, trivial⟩⟩, trivial⟩⟩⟩⟩, ⟨trivial, trivial⟩⟩⟩⟩
theorem V40.cfgOk (B : Nat) : CfgOk (V40.cfg B) := cfgOk_of (by kernel_rfl) (by kernel_rfl)
theorem V40.sound {a : Option Addr} {d f : Nat} {g : Option Addr} {i j : Nat} {w : World} {R : Value → World → Prop} (h : V40.vc w.heap.size R a d f g i j w) : Calls Try.prog 40 ⟨[.slice a d f, .slice g i j]⟩ w fun e w' => ∃ v, e = .returned v ∧ R v w' :=
  calls_wpfP (c := V40.cfg w.heap.size) (fn := Try.f40) (x := V40.code) (V40.cuts w.heap.size R) V40.h (V40.cfgOk _) mixed Try.func40 (by kernel_rfl) (by kernel_rfl) (by kernel_rfl) rfl (V40.obl _ _) ((V40.vc_eq _ _ a d f g i j _).symm ▸ h)
end Go.Proofs.Ytlccbaemcfjdoaa
