/-
  What the engine makes of the loaded functions 4, 6, 7, 8, 39: conditions under which a call returns as told, and proofs of that.
  Conditions: none. Printed by a program of this project.
-/
import Derived.Test.YtlccbaemcfjdoaaZVX
set_option linter.unusedVariables false
set_option maxRecDepth 100000
namespace Go.Proofs.Ytlccbaemcfjdoaa
def V7.b1 (B : Nat) (R : Value → World → Prop) (a : Option Addr → Nat → Nat → Option Addr → Nat → Nat → Option Addr → Nat → Nat → Int → Int → Int → Nat → Option Addr → Nat → Nat → World → Prop) (c : Option Addr) (d f : Nat) (g : Option Addr) (i j : Nat) (l : Option Addr) (m n : Nat) (o p q : Int) (r : Bool) (s : Nat) (t u x : Int) (y : Nat) (z : Option Addr) (A C : Nat) (w : World) : Prop :=
  if r = true
  then (CallK Try.prog 34 [] B w [s, y] fun v D => 
   ∃ E : Bool, v = .bool E ∧
   Ret B D (R (.bool E)))
  else (if (t == 15) = true
   then (if (t == 15) = true
    then (a c d f g i j l m n u p (IntKind.wrap .i64 (q + 1)) y z A C w)
    else (a c d f g i j l m n o p (IntKind.wrap .i64 (q + 1)) y z A C w))
   else (if (t == 16) = true
    then (if (decide (q < (d : Int))) = true
     then (∃ F : Addr, c = some F ∧ (0 : Int) ≤ q ∧ q < (d : Int) ∧
     ∃ G : Bool, w.cell? (F.add q.toNat) = some (.bool G) ∧
     if G = true
      then (a c d f g i j l m n u p (IntKind.wrap .i64 (q + 1)) y z A C w)
      else (a c d f g i j l m n o p (IntKind.wrap .i64 (q + 1)) y z A C w))
     else (a c d f g i j l m n o p (IntKind.wrap .i64 (q + 1)) y z A C w))
    else (a c d f g i j l m n o p (IntKind.wrap .i64 (q + 1)) y z A C w)))
def V7.l0 (B : Nat) (R : Value → World → Prop) : Nat → Option Addr → Nat → Nat → Option Addr → Nat → Nat → Option Addr → Nat → Nat → Int → Int → Int → Nat → Option Addr → Nat → Nat → World → Prop
  | 0 => fun _ _ _ _ _ _ _ _ _ _ _ _ _ _ _ _ _ => False
  | k + 1 => fun a c d f g i j l m n o p q r s t w =>
    if (decide (p < 300)) = true
    then (if (decide (n < 0)) = false
     then (if (decide (n ≥ (g : Int))) = false
      then (∃ u : Addr, j = some u ∧ (0 : Int) ≤ n ∧ n < (l : Int) ∧
      ∃ x : Int, w.cell? (u.add n.toNat) = some (.int .i64 x) ∧
      if (x != o) = true
       then (Ret B w (R (.bool false)))
       else (∃ y : Addr, f = some y ∧ (0 : Int) ≤ n ∧ n < (g : Int) ∧
       ∃ z : Int, w.cell? ((y.add (n.toNat * 3)).add 0) = some (.int .i64 z) ∧
       ∃ A : Int, w.cell? ((y.add (n.toNat * 3)).add 1) = some (.int .i64 A) ∧
       ∃ C : Int, w.cell? ((y.add (n.toNat * 3)).add 2) = some (.int .i64 C) ∧
       ∀ D : Nat, w.heap.size ≤ D →
       CallK Try.prog 28 [.agg ⟨[.slice r s t]⟩, .agg ⟨[.int .i64 z, .int .i64 A, .int .i64 C]⟩] B w [D, q] fun v E => 
        ∃ F : Int, v = .int .i64 F ∧
        if (decide (IntKind.wrap .i64 (o - F) < 0)) = true
        then (Ret B E (R (.bool false)))
        else (CallK Try.prog 30 [.agg ⟨[.int .i64 z, .int .i64 A, .int .i64 C]⟩] B E [D, q] fun G I => 
         ∃ J : Int, G = .int .i64 J ∧
         if (decide (IntKind.wrap .i64 (IntKind.wrap .i64 (o - F) + J) > 8)) = true
         then (Ret B I (R (.bool false)))
         else (if (z == 18) = false
          then (V7.b1 B R (V7.l0 B R k) a c d f g i j l m (IntKind.wrap .i64 (n + 1)) (IntKind.wrap .i64 (IntKind.wrap .i64 (o - F) + J)) p (z == 20) D z A C q r s t I)
          else (V7.b1 B R (V7.l0 B R k) a c d f g i j l m (IntKind.wrap .i64 (n + 1)) (IntKind.wrap .i64 (IntKind.wrap .i64 (o - F) + J)) p true D z A C q r s t I)))))
      else (Ret B w (R (.bool false))))
     else (Ret B w (R (.bool false))))
    else (CallK Try.prog 34 [] B w [q] fun v E => 
     ∃ L : Bool, v = .bool L ∧
     Ret B E (R (.bool L)))
def V7.vc (B : Nat) (R : Value → World → Prop) (a : Option Addr) (c d : Nat) (f : Int) (g : Option Addr) (i j : Nat) (w : World) : Prop :=
  ∀ l : Nat, w.heap.size ≤ l →
  CallK Try.prog 37 [.agg ⟨[.slice a c d]⟩] B w [l] fun v m => 
  ∃ n o p : Int, v = .tuple ⟨[.int .i64 n, .int .i64 o, .int .i64 p]⟩ ∧
  CallK Try.prog 39 [.agg ⟨[.slice a c d]⟩] B m [l] fun q r => 
  ∃ s : Bool, q = .bool s ∧
  if (!s) = true
  then (if (n != 0) = true
   then (CallK Try.prog 34 [] B r [l] fun t u => 
    ∃ x : Bool, t = .bool x ∧
    Ret B u (R (.bool x)))
   else (Ret B r (R (.bool false))))
  else ((c : Int) ≠ 0 ∧
  ∃ y : Addr, a = some y ∧ (0 : Int) ≤ Int.tmod (IntKind.wrap .i64 f) (c : Int) ∧ Int.tmod (IntKind.wrap .i64 f) (c : Int) < (c : Int) ∧
  ∃ (z : Option Addr) (A C : Nat), r.cell? ((y.add ((Int.tmod (IntKind.wrap .i64 f) (c : Int)).toNat * 4)).add 3) = some (.slice z A C) ∧
  CallK Try.prog 38 [.agg ⟨[.slice a c d]⟩, .int .i64 (Int.tmod (IntKind.wrap .i64 f) (c : Int))] B r [l] fun t u => 
   ∃ (D : Option Addr) (E F : Nat), t = .slice D E F ∧ u.cell? ((y.add ((Int.tmod (IntKind.wrap .i64 f) (c : Int)).toNat * 4)).add 3) = some (.slice z A C) ∧
   if (n != 0) = false
   then (if ((E : Int) != (A : Int)) = true
    then (Ret B u (R (.bool false)))
    else (∃ G, V7.l0 B R G g i j z A C D E F 0 0 0 l a c d u))
   else (Ret B u (R (.bool false))))
noncomputable def V7.cfg (B : Nat) : Cfg := ⟨Try.prog, ⟨126, B⟩, [], hasN [28, 30, 34, 37, 38, 39], hasN []⟩
noncomputable def V7.code : Code := (Try.f7.body).getD .skip
noncomputable def V7.cuts (B : Nat) (R : Value → World → Prop) : Nat → Cut := nthC [⟨[(2, .one (.slice)), (11, .one (.slice)), (12, .one (.slice)), (13, .one (.int .i64)), (14, .one (.int .i64)), (15, .one (.int .i64))], [(3, 24, [.slice])], fun fs vs bs w => V7.l0 B R (nthN fs 0) (slA (nthV vs 0)) (slL (nthV vs 0)) (slC (nthV vs 0)) (slA (nthV vs 1)) (slL (nthV vs 1)) (slC (nthV vs 1)) (slA (nthV vs 2)) (slL (nthV vs 2)) (slC (nthV vs 2)) (iV (nthV vs 3)) (iV (nthV vs 4)) (iV (nthV vs 5)) (nthB bs 0).blk (slA (nthV (nthB bs 0).cells 0)) (slL (nthV (nthB bs 0).cells 0)) (slC (nthV (nthB bs 0).cells 0)) w⟩,
  ⟨[(2, .one (.slice)), (11, .one (.slice)), (12, .one (.slice)), (13, .one (.int .i64)), (14, .one (.int .i64)), (15, .one (.int .i64)), (94, .one (.bool))], [(16, 26, [.int .i64, .int .i64, .int .i64]), (3, 24, [.slice])], fun fs vs bs w => V7.b1 B R (V7.l0 B R (nthN fs 0)) (slA (nthV vs 0)) (slL (nthV vs 0)) (slC (nthV vs 0)) (slA (nthV vs 1)) (slL (nthV vs 1)) (slC (nthV vs 1)) (slA (nthV vs 2)) (slL (nthV vs 2)) (slC (nthV vs 2)) (iV (nthV vs 3)) (iV (nthV vs 4)) (iV (nthV vs 5)) (bV (nthV vs 6)) (nthB bs 0).blk (iV (nthV (nthB bs 0).cells 0)) (iV (nthV (nthB bs 0).cells 1)) (iV (nthV (nthB bs 0).cells 2)) (nthB bs 1).blk (slA (nthV (nthB bs 1).cells 0)) (slL (nthV (nthB bs 1).cells 0)) (slC (nthV (nthB bs 1).cells 0)) w⟩]
noncomputable def V7.h : H := .s (.z) (.s (.z) (.s (.s (.z) (.c (.s (.z) (.z)) (.z))) (.s (.z) (.s (.r [[0, 1, 2, 3, 4, 5, 6, 7, 8, 9, 10]]) (.s (.s (.z) (.c (.s (.z) (.z)) (.z))) (.s (.z) (.s (.s (.z) (.b (.l 0 (.s (.s (.z) (.c (.z) (.z))) (.s (.b (.s (.s (.z) (.c (.s (.z) (.z)) (.z))) (.s (.z) (.s (.z) (.s (.s (.z) (.c (.s (.z) (.z)) (.z))) (.s (.z) (.s (.s (.z) (.c (.s (.z) (.z)) (.z))) (.s (.z) (.b (.cut 1 (.z) (.c (.s (.z) (.z)) (.s (.s (.z) (.c (.z) (.z))) (.c (.z) (.z)))))))))))))) (.z)))))) (.s (.z) (.z)))))))))
theorem V7.vc_eq (B : Nat) (R : Value → World → Prop) (a : Option Addr) (c d : Nat) (f : Int) (g : Option Addr) (i j : Nat) (w : World) : wpf (V7.cfg B) (V7.cuts B R) V7.code V7.h [] (postOf Try.prog B (Try.f7.results.toList) R) (argE 0 [.agg ⟨[.slice a c d]⟩, .int .u8 f, .slice g i j]) [] w = V7.vc B R a c d f g i j w := by kernel_rfl
theorem V7.obl (B : Nat) (R : Value → World → Prop) : oblP (V7.cfg B) (V7.cuts B R) V7.code V7.h [] (postOf Try.prog B (Try.f7.results.toList) R) := by
  have e : oblP (V7.cfg B) (V7.cuts B R) V7.code V7.h [] (postOf Try.prog B (Try.f7.results.toList) R) = (True ∧ (True ∧ ((True ∧ ((True ∧ True) ∧ True)) ∧ (True ∧ ((true = true) ∧ ((True ∧ ((True ∧ True) ∧ True)) ∧ (True ∧ ((True ∧ ((∀ (a : Option Addr) (c d : Nat) (f : Option Addr) (g i : Nat) (j : Option Addr) (l m : Nat) (n o p : Int) (q : Nat) (r : Option Addr) (s t : Nat) (w : World), ¬ V7.l0 B R 0 a c d f g i j l m n o p q r s t w) ∧ (∀ u, ∀ (a : Option Addr) (c d : Nat) (f : Option Addr) (g i : Nat) (j : Option Addr) (l m : Nat) (n o p : Int) (q : Nat) (r : Option Addr) (s t : Nat) (w : World), V7.l0 B R (u + 1) a c d f g i j l m n o p q r s t w → V7.l0 B R (u + 1) a c d f g i j l m n o p q r s t w) ∧ ∀ u : Nat, ((True ∧ (True ∧ True)) ∧ (((True ∧ ((True ∧ True) ∧ True)) ∧ (True ∧ (True ∧ ((True ∧ ((True ∧ True) ∧ True)) ∧ (True ∧ ((True ∧ ((True ∧ True) ∧ True)) ∧ (True ∧ (True ∧ (∀ (a : Option Addr) (c d : Nat) (f : Option Addr) (g i : Nat) (j : Option Addr) (l m : Nat) (n o p : Int) (x : Bool) (y : Nat) (z A C : Int) (q : Nat) (r : Option Addr) (s t : Nat) (w : World), V7.b1 B R (V7.l0 B R u) a c d f g i j l m n o p x y z A C q r s t w → V7.b1 B R (V7.l0 B R u) a c d f g i j l m n o p x y z A C q r s t w) ∧ ((True ∧ True) ∧ ((True ∧ (True ∧ True)) ∧ (True ∧ True))))))))))) ∧ True)))) ∧ (True ∧ True))))))))) := by kernel_rfl
  rw [e]
  exact ⟨trivial, ⟨trivial, ⟨⟨trivial, ⟨⟨trivial, trivial⟩, trivial⟩⟩, ⟨trivial, ⟨rfl, ⟨⟨trivial, ⟨⟨trivial, trivial⟩, trivial⟩⟩, ⟨trivial, ⟨⟨trivial, ⟨fun a c d f g i j l m n o p q r s t w h => h, fun _ a c d f g i j l m n o p q r s t w h => h, fun u => ⟨⟨trivial, ⟨trivial, trivial⟩⟩, ⟨⟨⟨trivial, ⟨⟨trivial, trivial⟩, trivial⟩⟩, ⟨trivial, ⟨trivial, ⟨⟨trivial, ⟨⟨trivial, trivial⟩, trivial⟩⟩, ⟨trivial, ⟨⟨trivial, ⟨⟨trivial, trivial⟩, trivial⟩⟩, ⟨trivial, ⟨trivial, fun a c d f g i j l m n o p x y z A C q r s t w h => h, ⟨⟨trivial, trivial⟩, ⟨⟨trivial, ⟨trivial, trivial⟩⟩, ⟨trivial, trivial⟩⟩⟩⟩⟩⟩⟩⟩⟩⟩⟩, trivial⟩⟩⟩⟩, ⟨trivial, trivial⟩⟩⟩⟩⟩⟩⟩⟩⟩
theorem V7.cfgOk (B : Nat) : CfgOk (V7.cfg B) := cfgOk_of (by kernel_rfl) (by kernel_rfl)
theorem V7.sound {a : Option Addr} {d f : Nat} {g : Int} {i : Option Addr} {j l : Nat} {w : World} {R : Value → World → Prop} (h : V7.vc w.heap.size R a d f g i j l w) : Calls Try.prog 7 ⟨[.agg ⟨[.slice a d f]⟩, .int .u8 g, .slice i j l]⟩ w fun e w' => ∃ v, e = .returned v ∧ R v w' :=
  calls_wpfP (c := V7.cfg w.heap.size) (fn := Try.f7) (x := V7.code) (V7.cuts w.heap.size R) V7.h (V7.cfgOk _) mixed Try.func7 (by kernel_rfl) (by kernel_rfl) (by kernel_rfl) rfl (V7.obl _ _) ((V7.vc_eq _ _ a d f g i j l _).symm ▸ h)
def V39.vc (B : Nat) (R : Value → World → Prop) (a : Option Addr) (c d : Nat) (w : World) : Prop :=
  ∀ f : Nat, w.heap.size ≤ f →
  CallK Try.prog 87 [.agg ⟨[.slice a c d]⟩] B w [f] fun v g => 
  ∃ i j l : Int, v = .tuple ⟨[.int .i64 i, .int .i64 j, .int .i64 l]⟩ ∧
  Ret B g (R (.bool (i == 0)))
noncomputable def V39.cfg (B : Nat) : Cfg := ⟨Try.prog, ⟨14, B⟩, [], hasN [87], hasN []⟩
noncomputable def V39.code : Code := (Try.f39.body).getD .skip
noncomputable def V39.cuts (B : Nat) (R : Value → World → Prop) : Nat → Cut := nthC []
noncomputable def V39.h : H := .s (.z) (.s (.z) (.s (.z) (.z)))
theorem V39.vc_eq (B : Nat) (R : Value → World → Prop) (a : Option Addr) (c d : Nat) (w : World) : wpf (V39.cfg B) (V39.cuts B R) V39.code V39.h [] (postOf Try.prog B (Try.f39.results.toList) R) (argE 0 [.agg ⟨[.slice a c d]⟩]) [] w = V39.vc B R a c d w := by kernel_rfl
theorem V39.obl (B : Nat) (R : Value → World → Prop) : oblP (V39.cfg B) (V39.cuts B R) V39.code V39.h [] (postOf Try.prog B (Try.f39.results.toList) R) := by
  have e : oblP (V39.cfg B) (V39.cuts B R) V39.code V39.h [] (postOf Try.prog B (Try.f39.results.toList) R) = (True ∧ (True ∧ (True ∧ True))) := by kernel_rfl
  rw [e]
  exact ⟨trivial, ⟨trivial, ⟨trivial, trivial⟩⟩⟩
theorem V39.cfgOk (B : Nat) : CfgOk (V39.cfg B) := cfgOk_of (by kernel_rfl) (by kernel_rfl)
theorem V39.sound {a : Option Addr} {d f : Nat} {w : World} {R : Value → World → Prop} (h : V39.vc w.heap.size R a d f w) : Calls Try.prog 39 ⟨[.agg ⟨[.slice a d f]⟩]⟩ w fun e w' => ∃ v, e = .returned v ∧ R v w' :=
  calls_wpfP (c := V39.cfg w.heap.size) (fn := Try.f39) (x := V39.code) (V39.cuts w.heap.size R) V39.h (V39.cfgOk _) mixed Try.func39 (by kernel_rfl) (by kernel_rfl) (by kernel_rfl) rfl (V39.obl _ _) ((V39.vc_eq _ _ a d f _).symm ▸ h)
end Go.Proofs.Ytlccbaemcfjdoaa
