import Derived.Test.YtofblkmibghmbaaDoorZVF
/-
  What the engine makes of the loaded functions 19, 34, 84, 21, 37, 79, 167, 168, 180: conditions under which a call returns as told, and proofs of that.
  Conditions: none. Printed by a program of this project.
-/
set_option linter.unusedVariables false
set_option maxRecDepth 100000
namespace Go.Proofs.YtofblkmibghmbaaDoor
def V37.l3 (B : Nat) (R : Value → World → Prop) : Nat → ByteArray → Bool → Int → Int → World → Prop
  | 0 => fun _ _ _ _ _ => False
  | k + 1 => fun a c d f w =>
    if (decide (f < ((a.size : Nat) : Int))) = true
    then (∃ g : UInt8, (0 : Int) ≤ f ∧ a[f.toNat]? = some g ∧
    if (decide (((g.toNat : Nat) : Int) < 48)) = false
     then (∃ i : UInt8, (0 : Int) ≤ f ∧ a[f.toNat]? = some i ∧
     if (decide (((i.toNat : Nat) : Int) > 57)) = true
      then (Ret B w (R (.tuple ⟨[.int .i64 0, .bool false]⟩)))
      else (∃ j : UInt8, (0 : Int) ≤ f ∧ a[f.toNat]? = some j ∧ (V37.l3 B R k) a c (IntKind.wrap .i64 (IntKind.wrap .i64 (d * 10) + IntKind.wrap .i64 (IntKind.wrap .u8 (((j.toNat : Nat) : Int) - 48)))) (IntKind.wrap .i64 (f + 1)) w))
     else (Ret B w (R (.tuple ⟨[.int .i64 0, .bool false]⟩))))
    else (if c = true
     then (Ret B w (R (.tuple ⟨[.int .i64 (IntKind.wrap .i64 (0 - d)), .bool (decide (d > 0))]⟩)))
     else (Ret B w (R (.tuple ⟨[.int .i64 d, .bool true]⟩))))
def V37.b2 (B : Nat) (R : Value → World → Prop) (a : ByteArray) (c : Bool) (w : World) : Prop :=
  ∃ d, V37.l3 B R d a c 0 0 w
def V37.b1 (B : Nat) (R : Value → World → Prop) (a : ByteArray) (c : Bool) (w : World) : Prop :=
  if (decide (((a.size : Nat) : Int) < 1)) = false
  then (if (decide (((a.size : Nat) : Int) > 16)) = false
   then (if (decide (((a.size : Nat) : Int) > 1)) = true
    then (∃ d : UInt8, (0 : Int) ≤ 0 ∧ a[0]? = some d ∧
    if (((d.toNat : Nat) : Int) == 48) = true
     then (Ret B w (R (.tuple ⟨[.int .i64 0, .bool false]⟩)))
     else (V37.b2 B R a c w))
    else (V37.b2 B R a c w))
   else (Ret B w (R (.tuple ⟨[.int .i64 0, .bool false]⟩))))
  else (Ret B w (R (.tuple ⟨[.int .i64 0, .bool false]⟩)))
def V37.b0 (B : Nat) (R : Value → World → Prop) (a : ByteArray) (c : Bool) (w : World) : Prop :=
  if c = true
  then ((0 : Int) ≤ 1 ∧ (1 : Int) ≤ ((a.size : Nat) : Int) ∧
  V37.b1 B R (a.extract 1 a.size) c w)
  else (V37.b1 B R a c w)
def V37.vc (B : Nat) (R : Value → World → Prop) (a : ByteArray) (w : World) : Prop :=
  if (decide (((a.size : Nat) : Int) > 0)) = true
  then (∃ c : UInt8, (0 : Int) ≤ 0 ∧ a[0]? = some c ∧
  V37.b0 B R a (((c.toNat : Nat) : Int) == 45) w)
  else (V37.b0 B R a false w)
noncomputable def V37.cfg (B : Nat) : Cfg := ⟨Tryd.prog, ⟨66, B⟩, [], hasN [], hasN [], look []⟩
noncomputable def V37.code : Code := (Tryd.f37.body).getD .skip
noncomputable def V37.cuts (B : Nat) (R : Value → World → Prop) : Nat → Cut := nthC [⟨[(0, .one (.str)), (4, .one (.bool))], [], fun fs vs bs w => V37.b0 B R (sV (nthV vs 0)) (bV (nthV vs 1)) w⟩,
  ⟨[(0, .one (.str)), (4, .one (.bool))], [], fun fs vs bs w => V37.b1 B R (sV (nthV vs 0)) (bV (nthV vs 1)) w⟩,
  ⟨[(0, .one (.str)), (4, .one (.bool))], [], fun fs vs bs w => V37.b2 B R (sV (nthV vs 0)) (bV (nthV vs 1)) w⟩,
  ⟨[(0, .one (.str)), (4, .one (.bool)), (5, .one (.int .i64)), (6, .one (.int .i64))], [], fun fs vs bs w => V37.l3 B R (nthN fs 0) (sV (nthV vs 0)) (bV (nthV vs 1)) (iV (nthV vs 2)) (iV (nthV vs 3)) w⟩]
noncomputable def V37.h : H := .s (.z) (.cut 0 (.z) (.cut 1 (.s (.z) (.c (.z) (.z))) (.cut 2 (.s (.z) (.c (.s (.z) (.z)) (.z))) (.s (.z) (.s (.s (.z) (.b (.l 3 (.s (.s (.z) (.c (.z) (.z))) (.s (.b (.s (.s (.z) (.c (.s (.z) (.z)) (.z))) (.z))) (.z)))))) (.s (.s (.z) (.c (.s (.z) (.z)) (.z))) (.s (.z) (.z))))))))
theorem V37.vc_eq (B : Nat) (R : Value → World → Prop) (a : ByteArray) (w : World) : wpf (V37.cfg B) (V37.cuts B R) V37.code V37.h [] (postOf Tryd.prog B (Tryd.f37.results.toList) R) (argE 0 [.string a]) [] w = V37.vc B R a w := by kernel_rfl
theorem V37.obl (B : Nat) (R : Value → World → Prop) : oblP (V37.cfg B) (V37.cuts B R) V37.code V37.h [] (postOf Tryd.prog B (Tryd.f37.results.toList) R) := by
  have e : oblP (V37.cfg B) (V37.cuts B R) V37.code V37.h [] (postOf Tryd.prog B (Tryd.f37.results.toList) R) = (True ∧ (True ∧ (∀ (a : ByteArray) (c : Bool) (w : World), V37.b0 B R a c w → V37.b0 B R a c w) ∧ ((True ∧ (True ∧ True)) ∧ (∀ (a : ByteArray) (c : Bool) (w : World), V37.b1 B R a c w → V37.b1 B R a c w) ∧ ((True ∧ ((True ∧ True) ∧ True)) ∧ (∀ (a : ByteArray) (c : Bool) (w : World), V37.b2 B R a c w → V37.b2 B R a c w) ∧ (True ∧ ((True ∧ ((∀ (a : ByteArray) (c : Bool) (d f : Int) (w : World), ¬ V37.l3 B R 0 a c d f w) ∧ (∀ g, ∀ (a : ByteArray) (c : Bool) (d f : Int) (w : World), V37.l3 B R (g + 1) a c d f w → V37.l3 B R (g + 1) a c d f w) ∧ ∀ g : Nat, ((True ∧ (True ∧ True)) ∧ (((True ∧ ((True ∧ True) ∧ True)) ∧ True) ∧ True)))) ∧ ((True ∧ ((True ∧ True) ∧ True)) ∧ (True ∧ True)))))))) := by kernel_rfl
  rw [e]
  exact ⟨trivial, ⟨trivial, fun a c w h => h, ⟨⟨trivial, ⟨trivial, trivial⟩⟩, fun a c w h => h, ⟨⟨trivial, ⟨⟨trivial, trivial⟩, trivial⟩⟩, fun a c w h => h, ⟨trivial, ⟨⟨trivial, ⟨fun a c d f w h => h, fun _ a c d f w h => h, fun g => ⟨⟨trivial, ⟨trivial, trivial⟩⟩, ⟨⟨⟨trivial, ⟨⟨trivial, trivial⟩, trivial⟩⟩, trivial⟩, trivial⟩⟩⟩⟩, ⟨⟨trivial, ⟨⟨trivial, trivial⟩, trivial⟩⟩, ⟨trivial, trivial⟩⟩⟩⟩⟩⟩⟩⟩
theorem V37.cfgOk (B : Nat) : CfgOk (V37.cfg B) := cfgOk_of (by kernel_rfl) (by kernel_rfl) extNil
theorem V37.sound {a : ByteArray} {w : World} {R : Value → World → Prop} (h : V37.vc w.heap.size R a w) : Calls Tryd.prog 37 ⟨[.string a]⟩ w fun e w' => ∃ v, e = .returned v ∧ R v w' :=
  calls_wpfP (c := V37.cfg w.heap.size) (fn := Tryd.f37) (x := V37.code) (V37.cuts w.heap.size R) V37.h (V37.cfgOk _) mixed Tryd.func37 (by kernel_rfl) (by kernel_rfl) (by kernel_rfl) rfl (V37.obl _ _) ((V37.vc_eq _ _ a _).symm ▸ h)
end Go.Proofs.YtofblkmibghmbaaDoor
