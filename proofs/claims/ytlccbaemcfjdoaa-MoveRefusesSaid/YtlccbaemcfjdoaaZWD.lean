/-
  What the engine makes of the loaded functions 58, 59, 60, 61: conditions under which a call returns as told, and proofs of that.
  Conditions: none. Printed by a program of this project.
-/
import Derived.Test.YtlccbaemcfjdoaaZWE
set_option linter.unusedVariables false
set_option maxRecDepth 100000
namespace Go.Proofs.Ytlccbaemcfjdoaa
def V58.b1 (B : Nat) (R : Value → World → Prop) (a : Option Addr) (c d : Nat) (f : Option Addr) (g i : Nat) (j : Option Addr) (l m : Nat) (n : Int) (w : World) : Prop :=
  Ret B w (R (.tuple ⟨[.slice f g i, .slice j l m, .slice a c d, .int .i64 n]⟩))
def V58.l0 (B : Nat) (R : Value → World → Prop) : Nat → Int → Option Addr → Nat → Nat → Addr → Option Addr → Nat → Nat → Option Addr → Nat → Nat → Int → Int → Int → Nat → Option Addr → Nat → Nat → World → Prop
  | 0 => fun _ _ _ _ _ _ _ _ _ _ _ _ _ _ _ _ _ _ _ => False
  | k + 1 => fun a c d f g i j l m n o p q r s t u x w =>
    if (decide (r > 0)) = true
    then (CallK Try.prog 48 [.pointer (some g), .agg ⟨[.slice t u x]⟩] B w [s] fun v y => 
     ∃ (z A C : Int) (D : Bool) (E : Int) (F : Option Addr) (G I : Nat) (J : Option Addr) (L M : Nat) (N : Option Addr) (O P : Nat), v = .agg ⟨[.int .i64 z, .int .i64 A, .int .i64 C, .bool D, .int .u64 E, .slice F G I, .slice J L M, .slice N O P]⟩ ∧
     ∀ Q : Nat, y.heap.size ≤ Q →
     ∃ S : Addr, t = some S ∧ (0 : Int) ≤ z ∧ z < (u : Int) ∧
     ∃ T : Int, y.cell? ((S.add (z.toNat * 4)).add 0) = some (.int .i64 T) ∧
     ∃ U : Int, y.cell? ((S.add (z.toNat * 4)).add 1) = some (.int .i64 U) ∧
     ∃ W : Int, y.cell? ((S.add (z.toNat * 4)).add 2) = some (.int .i64 W) ∧
     ∃ (X : Option Addr) (Y Z : Nat), y.cell? ((S.add (z.toNat * 4)).add 3) = some (.slice X Y Z) ∧
     CallK Try.prog 33 [.agg ⟨[.int .i64 T, .int .i64 U, .int .i64 W, .slice X Y Z]⟩] B y [Q, s] fun a0 a1 => 
     ∃ a2 : Int, a0 = .int .i64 a2 ∧
     if (decide (a2 > IntKind.wrap .i64 (a - q))) = true
     then (V58.b1 B R c d f i j l m n o q a1)
     else (CallK Try.prog 53 [.slice c d f, .agg ⟨[.slice t u x]⟩, .int .i64 q, .int .i64 p, .agg ⟨[.int .i64 z, .int .i64 A, .int .i64 C, .bool D, .int .u64 E, .slice F G I, .slice J L M, .slice N O P]⟩] B a1 [Q, s] fun a3 a4 => 
      ∃ (a5 : Option Addr) (a6 a7 : Nat) (a8 : Int), a3 = .tuple ⟨[.slice a5 a6 a7, .int .i64 a8]⟩ ∧
      Expo B a4 [Q, s] fun a9 => 
      Hide [Q, s] (a9.alloc (.cells ⟨[.int .i64 z, .int .i64 A, .int .i64 C, .bool D, .int .u64 E, .slice F G I, .slice J L M, .slice N O P]⟩ 67)) fun c0 => 
      RunK Try.prog (Builtin.append_ #[88, 88] 88 ⟨[.slice i j l, .slice (some ⟨a9.heap.size, 0, none⟩) 1 1]⟩) B c0 [Q, s] fun c1 c2 => 
      ∃ (c3 : Option Addr) (c4 c5 : Nat), c1 = .slice c3 c4 c5 ∧
      Expo B c2 [Q, s] fun c6 => 
      Hide [Q, s] (c6.alloc (.cells ⟨[.int .i64 q]⟩ 3)) fun c7 => 
      RunK Try.prog (Builtin.append_ #[42, 42] 42 ⟨[.slice m n o, .slice (some ⟨c6.heap.size, 0, none⟩) 1 1]⟩) B c7 [Q, s] fun c8 c9 => 
      ∃ (d0 : Option Addr) (d1 d2 : Nat), c8 = .slice d0 d1 d2 ∧ (V58.l0 B R k) a a5 a6 a7 g c3 c4 c5 d0 d1 d2 q (IntKind.wrap .i64 (q + a2)) (IntKind.wrap .i64 (r - 1)) s t u x c9))
    else (V58.b1 B R c d f i j l m n o q w)
def V58.vc (B : Nat) (R : Value → World → Prop) (a : Option Addr) (c d : Nat) (f : Option Addr) (g i : Nat) (j l : Int) (m : Option Addr) (n o : Nat) (w : World) : Prop :=
  ∀ p : Nat, w.heap.size ≤ p →
  Expo B w [p] fun q => 
  Hide [p] (q.alloc (.cells ⟨[.slice f g i]⟩ 70)) fun r => 
  CallK Try.prog 51 [.pointer (some (⟨q.heap.size, 0, none⟩))] B r [p] fun v s => 
  ∃ t : Int, v = .int .i64 t ∧ (12 : Int) ≠ 0 ∧
  ∃ u, V58.l0 B R u l m n o (⟨q.heap.size, 0, none⟩) none 0 0 none 0 0 (-1) j (Int.tmod t 12) p a c d s
noncomputable def V58.cfg (B : Nat) : Cfg := ⟨Try.prog, ⟨73, B⟩, [24], hasN [33, 48, 51, 53], hasN []⟩
noncomputable def V58.code : Code := (Try.f58.body).getD .skip
noncomputable def V58.cuts (B : Nat) (R : Value → World → Prop) : Nat → Cut := nthC [⟨[(3, .one (.int .i64)), (4, .one (.slice)), (14, .one (.ptr)), (15, .one (.slice)), (16, .one (.slice)), (17, .one (.int .i64)), (18, .one (.int .i64)), (19, .one (.int .i64))], [(5, 24, [.slice])], fun fs vs bs w => V58.l0 B R (nthN fs 0) (iV (nthV vs 0)) (slA (nthV vs 1)) (slL (nthV vs 1)) (slC (nthV vs 1)) (pV (nthV vs 2)) (slA (nthV vs 3)) (slL (nthV vs 3)) (slC (nthV vs 3)) (slA (nthV vs 4)) (slL (nthV vs 4)) (slC (nthV vs 4)) (iV (nthV vs 5)) (iV (nthV vs 6)) (iV (nthV vs 7)) (nthB bs 0).blk (slA (nthV (nthB bs 0).cells 0)) (slL (nthV (nthB bs 0).cells 0)) (slC (nthV (nthB bs 0).cells 0)) w⟩,
  ⟨[(4, .one (.slice)), (15, .one (.slice)), (16, .one (.slice)), (18, .one (.int .i64))], [], fun fs vs bs w => V58.b1 B R (slA (nthV vs 0)) (slL (nthV vs 0)) (slC (nthV vs 0)) (slA (nthV vs 1)) (slL (nthV vs 1)) (slC (nthV vs 1)) (slA (nthV vs 2)) (slL (nthV vs 2)) (slC (nthV vs 2)) (iV (nthV vs 3)) w⟩]
noncomputable def V58.h : H := .s (.z) (.s (.z) (.s (.z) (.s (.z) (.s (.z) (.cut 1 (.s (.z) (.b (.l 0 (.s (.s (.z) (.c (.z) (.z))) (.s (.b (.s (.z) (.s (.z) (.s (.s (.z) (.c (.z) (.z))) (.s (.z) (.s (.z) (.z))))))) (.z)))))) (.s (.z) (.z)))))))
theorem V58.vc_eq (B : Nat) (R : Value → World → Prop) (a : Option Addr) (c d : Nat) (f : Option Addr) (g i : Nat) (j l : Int) (m : Option Addr) (n o : Nat) (w : World) : wpf (V58.cfg B) (V58.cuts B R) V58.code V58.h [] (postOf Try.prog B (Try.f58.results.toList) R) (argE 0 [.agg ⟨[.slice a c d]⟩, .slice f g i, .int .i64 j, .int .i64 l, .slice m n o]) [] w = V58.vc B R a c d f g i j l m n o w := by kernel_rfl
theorem V58.obl (B : Nat) (R : Value → World → Prop) : oblP (V58.cfg B) (V58.cuts B R) V58.code V58.h [] (postOf Try.prog B (Try.f58.results.toList) R) := by
  have e : oblP (V58.cfg B) (V58.cuts B R) V58.code V58.h [] (postOf Try.prog B (Try.f58.results.toList) R) = (True ∧ (True ∧ (True ∧ (True ∧ (True ∧ ((True ∧ ((∀ (a : Int) (c : Option Addr) (d f : Nat) (g : Addr) (i : Option Addr) (j l : Nat) (m : Option Addr) (n o : Nat) (p q r : Int) (s : Nat) (t : Option Addr) (u x : Nat) (w : World), ¬ V58.l0 B R 0 a c d f g i j l m n o p q r s t u x w) ∧ (∀ y, ∀ (a : Int) (c : Option Addr) (d f : Nat) (g : Addr) (i : Option Addr) (j l : Nat) (m : Option Addr) (n o : Nat) (p q r : Int) (s : Nat) (t : Option Addr) (u x : Nat) (w : World), V58.l0 B R (y + 1) a c d f g i j l m n o p q r s t u x w → V58.l0 B R (y + 1) a c d f g i j l m n o p q r s t u x w) ∧ ∀ y : Nat, ((True ∧ (True ∧ True)) ∧ ((True ∧ (True ∧ ((True ∧ (True ∧ True)) ∧ (True ∧ (True ∧ True))))) ∧ True)))) ∧ (∀ (c : Option Addr) (d f : Nat) (i : Option Addr) (j l : Nat) (m : Option Addr) (n o : Nat) (q : Int) (w : World), V58.b1 B R c d f i j l m n o q w → V58.b1 B R c d f i j l m n o q w) ∧ (True ∧ True))))))) := by kernel_rfl
  rw [e]
  exact ⟨trivial, ⟨trivial, ⟨trivial, ⟨trivial, ⟨trivial, ⟨⟨trivial, ⟨fun a c d f g i j l m n o p q r s t u x w h => h, fun _ a c d f g i j l m n o p q r s t u x w h => h, fun y => ⟨⟨trivial, ⟨trivial, trivial⟩⟩, ⟨⟨trivial, ⟨trivial, ⟨⟨trivial, ⟨trivial, trivial⟩⟩, ⟨trivial, ⟨trivial, trivial⟩⟩⟩⟩⟩, trivial⟩⟩⟩⟩, fun c d f i j l m n o q w h => h, ⟨trivial, trivial⟩⟩⟩⟩⟩⟩⟩
theorem V58.cfgOk (B : Nat) : CfgOk (V58.cfg B) := cfgOk_of (by kernel_rfl) (by kernel_rfl)
theorem V58.sound {a : Option Addr} {d f : Nat} {g : Option Addr} {i j : Nat} {l m : Int} {n : Option Addr} {o p : Nat} {w : World} {R : Value → World → Prop} (h : V58.vc w.heap.size R a d f g i j l m n o p w) : Calls Try.prog 58 ⟨[.agg ⟨[.slice a d f]⟩, .slice g i j, .int .i64 l, .int .i64 m, .slice n o p]⟩ w fun e w' => ∃ v, e = .returned v ∧ R v w' :=
  calls_wpfP (c := V58.cfg w.heap.size) (fn := Try.f58) (x := V58.code) (V58.cuts w.heap.size R) V58.h (V58.cfgOk _) mixed Try.func58 (by kernel_rfl) (by kernel_rfl) (by kernel_rfl) rfl (V58.obl _ _) ((V58.vc_eq _ _ a d f g i j l m n o p _).symm ▸ h)
end Go.Proofs.Ytlccbaemcfjdoaa
