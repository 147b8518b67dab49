/-
  What the engine makes of the loaded functions 28, 29, 30, 31, 32, 33, 82, 83, 84, 89: conditions under which a call returns as told, and proofs of that.
  Conditions: none. Printed by a program of this project.
-/
import Derived.Test.YtlccbaemcfjdoaaZEngC
import Derived.Test.YtlccbaemcfjdoaaProg
set_option linter.unusedVariables false
set_option maxRecDepth 100000
namespace Go.Proofs.Ytlccbaemcfjdoaa
theorem mixed : Try.prog.follows .mixedOrders = true := by kernel_rfl
def V32.l0 (B : Nat) (R : Value → World → Prop) : Nat → Int → Option Addr → Nat → Nat → Int → Int → World → Prop
  | 0 => fun _ _ _ _ _ _ _ => False
  | k + 1 => fun a c d f g i w =>
    if (decide (i < g)) = true
    then (∃ j : Addr, c = some j ∧ (0 : Int) ≤ i ∧ i < (d : Int) ∧
    ∃ l : Int, w.cell? ((j.add (i.toNat * 3)).add 0) = some (.int .i64 l) ∧
    ∃ m : Int, w.cell? ((j.add (i.toNat * 3)).add 1) = some (.int .i64 m) ∧
    ∃ n : Int, w.cell? ((j.add (i.toNat * 3)).add 2) = some (.int .i64 n) ∧
    ∀ o : Nat, w.heap.size ≤ o →
    if (l == 19) = true
     then (Ret B w (R (.int .i64 (IntKind.wrap .i64 (a + 16)))))
     else ((V32.l0 B R k) a c d f g (IntKind.wrap .i64 (i + 1)) w))
    else (Ret B w (R (.int .i64 a)))
def V32.vc (B : Nat) (R : Value → World → Prop) (a c d : Int) (f : Option Addr) (g i : Nat) (w : World) : Prop :=
  ∀ j : Nat, w.heap.size ≤ j →
  ∃ l, V32.l0 B R l (IntKind.wrap .i64 (IntKind.wrap .i64 (7 + (if 8 < (if 0 > c then 0 else c) then 8 else (if 0 > c then 0 else c))) + 8)) f g i (g : Int) 0 w
noncomputable def V32.cfg (B : Nat) : Cfg := ⟨Try.prog, ⟨26, B⟩, [], hasN [], hasN []⟩
noncomputable def V32.code : Code := (Try.f32.body).getD .skip
noncomputable def V32.cuts (B : Nat) (R : Value → World → Prop) : Nat → Cut := nthC [⟨[(3, .one (.int .i64)), (13, .one (.slice)), (14, .one (.int .i64)), (15, .one (.int .i64))], [], fun fs vs bs w => V32.l0 B R (nthN fs 0) (iV (nthV vs 0)) (slA (nthV vs 1)) (slL (nthV vs 1)) (slC (nthV vs 1)) (iV (nthV vs 2)) (iV (nthV vs 3)) w⟩]
noncomputable def V32.h : H := .s (.z) (.s (.z) (.s (.s (.z) (.b (.l 0 (.s (.z) (.s (.c (.z) (.z)) (.s (.b (.s (.z) (.s (.z) (.c (.s (.z) (.z)) (.z))))) (.z))))))) (.s (.z) (.z))))
theorem V32.vc_eq (B : Nat) (R : Value → World → Prop) (a c d : Int) (f : Option Addr) (g i : Nat) (w : World) : wpf (V32.cfg B) (V32.cuts B R) V32.code V32.h [] (postOf Try.prog B (Try.f32.results.toList) R) (argE 0 [.agg ⟨[.int .i64 a, .int .i64 c, .int .i64 d, .slice f g i]⟩]) [] w = V32.vc B R a c d f g i w := by kernel_rfl
theorem V32.obl (B : Nat) (R : Value → World → Prop) : oblP (V32.cfg B) (V32.cuts B R) V32.code V32.h [] (postOf Try.prog B (Try.f32.results.toList) R) := by
  have e : oblP (V32.cfg B) (V32.cuts B R) V32.code V32.h [] (postOf Try.prog B (Try.f32.results.toList) R) = (True ∧ (True ∧ ((True ∧ ((∀ (a : Int) (c : Option Addr) (d f : Nat) (g i : Int) (w : World), ¬ V32.l0 B R 0 a c d f g i w) ∧ (∀ j, ∀ (a : Int) (c : Option Addr) (d f : Nat) (g i : Int) (w : World), V32.l0 B R (j + 1) a c d f g i w → V32.l0 B R (j + 1) a c d f g i w) ∧ ∀ j : Nat, (True ∧ ((True ∧ True) ∧ ((True ∧ (True ∧ ((True ∧ True) ∧ True))) ∧ True))))) ∧ (True ∧ True)))) := by kernel_rfl
  rw [e]
  exact ⟨trivial, ⟨trivial, ⟨⟨trivial, ⟨fun a c d f g i w h => h, fun _ a c d f g i w h => h, fun j => ⟨trivial, ⟨⟨trivial, trivial⟩, ⟨⟨trivial, ⟨trivial, ⟨⟨trivial, trivial⟩, trivial⟩⟩⟩, trivial⟩⟩⟩⟩⟩, ⟨trivial, trivial⟩⟩⟩⟩
theorem V32.cfgOk (B : Nat) : CfgOk (V32.cfg B) := cfgOk_of (by kernel_rfl) (by kernel_rfl)
theorem V32.sound {a d f : Int} {g : Option Addr} {i j : Nat} {w : World} {R : Value → World → Prop} (h : V32.vc w.heap.size R a d f g i j w) : Calls Try.prog 32 ⟨[.agg ⟨[.int .i64 a, .int .i64 d, .int .i64 f, .slice g i j]⟩]⟩ w fun e w' => ∃ v, e = .returned v ∧ R v w' :=
  calls_wpfP (c := V32.cfg w.heap.size) (fn := Try.f32) (x := V32.code) (V32.cuts w.heap.size R) V32.h (V32.cfgOk _) mixed Try.func32 (by kernel_rfl) (by kernel_rfl) (by kernel_rfl) rfl (V32.obl _ _) ((V32.vc_eq _ _ a d f g i j _).symm ▸ h)
def V89.b1 (B : Nat) (R : Value → World → Prop) (a : Bool) (c : Nat) (d f g : Int) (i : Option Addr) (j l : Nat) (w : World) : Prop :=
  if a = true
  then (Ret B w (R (.bool false)))
  else (if (decide (g < 0)) = false
   then (if (decide (g > IntKind.wrap .i64 (f - d))) = true
    then (Ret B w (R (.bool false)))
    else (if (decide ((j : Int) ≥ 1)) = true
     then (Ret B w (R (.bool (decide ((j : Int) ≤ 64)))))
     else (Ret B w (R (.bool false)))))
   else (Ret B w (R (.bool false))))
def V89.b0 (B : Nat) (R : Value → World → Prop) (a : Bool) (c : Nat) (d f g : Int) (i : Option Addr) (j l : Nat) (w : World) : Prop :=
  if a = true
  then (Ret B w (R (.bool false)))
  else (if (decide (f < d)) = false
   then (V89.b1 B R (decide (f > 8)) c d f g i j l w)
   else (V89.b1 B R true c d f g i j l w))
def V89.vc (B : Nat) (R : Value → World → Prop) (a c d : Int) (f : Option Addr) (g i : Nat) (w : World) : Prop :=
  ∀ j : Nat, w.heap.size ≤ j →
  if (decide (a < 0)) = false
  then (V89.b0 B R (decide (a > 3)) j a c d f g i w)
  else (V89.b0 B R true j a c d f g i w)
noncomputable def V89.cfg (B : Nat) : Cfg := ⟨Try.prog, ⟨47, B⟩, [], hasN [], hasN []⟩
noncomputable def V89.code : Code := (Try.f89.body).getD .skip
noncomputable def V89.cuts (B : Nat) (R : Value → World → Prop) : Nat → Cut := nthC [⟨[(3, .one (.bool))], [(1, 29, [.int .i64, .int .i64, .int .i64, .slice])], fun fs vs bs w => V89.b0 B R (bV (nthV vs 0)) (nthB bs 0).blk (iV (nthV (nthB bs 0).cells 0)) (iV (nthV (nthB bs 0).cells 1)) (iV (nthV (nthB bs 0).cells 2)) (slA (nthV (nthB bs 0).cells 3)) (slL (nthV (nthB bs 0).cells 3)) (slC (nthV (nthB bs 0).cells 3)) w⟩,
  ⟨[(12, .one (.bool))], [(1, 29, [.int .i64, .int .i64, .int .i64, .slice])], fun fs vs bs w => V89.b1 B R (bV (nthV vs 0)) (nthB bs 0).blk (iV (nthV (nthB bs 0).cells 0)) (iV (nthV (nthB bs 0).cells 1)) (iV (nthV (nthB bs 0).cells 2)) (slA (nthV (nthB bs 0).cells 3)) (slL (nthV (nthB bs 0).cells 3)) (slC (nthV (nthB bs 0).cells 3)) w⟩]
noncomputable def V89.h : H := .s (.z) (.s (.b (.cut 0 (.z) (.c (.s (.z) (.z)) (.cut 1 (.z) (.c (.s (.z) (.z)) (.s (.z) (.c (.s (.z) (.z)) (.z)))))))) (.s (.z) (.z)))
theorem V89.vc_eq (B : Nat) (R : Value → World → Prop) (a c d : Int) (f : Option Addr) (g i : Nat) (w : World) : wpf (V89.cfg B) (V89.cuts B R) V89.code V89.h [] (postOf Try.prog B (Try.f89.results.toList) R) (argE 0 [.agg ⟨[.int .i64 a, .int .i64 c, .int .i64 d, .slice f g i]⟩]) [] w = V89.vc B R a c d f g i w := by kernel_rfl
theorem V89.obl (B : Nat) (R : Value → World → Prop) : oblP (V89.cfg B) (V89.cuts B R) V89.code V89.h [] (postOf Try.prog B (Try.f89.results.toList) R) := by
  have e : oblP (V89.cfg B) (V89.cuts B R) V89.code V89.h [] (postOf Try.prog B (Try.f89.results.toList) R) = (True ∧ ((True ∧ (∀ (a : Bool) (c : Nat) (d f g : Int) (i : Option Addr) (j l : Nat) (w : World), V89.b0 B R a c d f g i j l w → V89.b0 B R a c d f g i j l w) ∧ ((True ∧ True) ∧ (True ∧ (∀ (m : Bool) (c : Nat) (d f g : Int) (i : Option Addr) (j l : Nat) (w : World), V89.b1 B R m c d f g i j l w → V89.b1 B R m c d f g i j l w) ∧ ((True ∧ True) ∧ (True ∧ ((True ∧ True) ∧ True)))))) ∧ (True ∧ True))) := by kernel_rfl
  rw [e]
  exact ⟨trivial, ⟨⟨trivial, fun a c d f g i j l w h => h, ⟨⟨trivial, trivial⟩, ⟨trivial, fun m c d f g i j l w h => h, ⟨⟨trivial, trivial⟩, ⟨trivial, ⟨⟨trivial, trivial⟩, trivial⟩⟩⟩⟩⟩⟩, ⟨trivial, trivial⟩⟩⟩
theorem V89.cfgOk (B : Nat) : CfgOk (V89.cfg B) := cfgOk_of (by kernel_rfl) (by kernel_rfl)
theorem V89.sound {a d f : Int} {g : Option Addr} {i j : Nat} {w : World} {R : Value → World → Prop} (h : V89.vc w.heap.size R a d f g i j w) : Calls Try.prog 89 ⟨[.agg ⟨[.int .i64 a, .int .i64 d, .int .i64 f, .slice g i j]⟩]⟩ w fun e w' => ∃ v, e = .returned v ∧ R v w' :=
  calls_wpfP (c := V89.cfg w.heap.size) (fn := Try.f89) (x := V89.code) (V89.cuts w.heap.size R) V89.h (V89.cfgOk _) mixed Try.func89 (by kernel_rfl) (by kernel_rfl) (by kernel_rfl) rfl (V89.obl _ _) ((V89.vc_eq _ _ a d f g i j _).symm ▸ h)
end Go.Proofs.Ytlccbaemcfjdoaa
