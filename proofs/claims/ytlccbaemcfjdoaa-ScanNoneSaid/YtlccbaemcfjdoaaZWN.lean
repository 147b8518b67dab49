/-
  What the engine makes of the loaded functions 64, 64, 66, 71: conditions under which a call returns as told, and proofs of that.
  Conditions: none. Printed by a program of this project.
-/
import Derived.Test.YtlccbaemcfjdoaaZWH
set_option linter.unusedVariables false
set_option maxRecDepth 100000
namespace Go.Proofs.Ytlccbaemcfjdoaa
def V64z.vc (B : Nat) (R : Value → World → Prop) (a : Addr) (w : World) : Prop :=
  Ret B w (R (.tuple ⟨[.int .i64 0, .bool false, .int .i64 2]⟩))
noncomputable def V64z.cfg (B : Nat) : Cfg := ⟨Try.prog, ⟨180, B⟩, [], hasN [], hasN []⟩
noncomputable def V64z.code : Code := (Try.f64.body).getD .skip
noncomputable def V64z.cuts (B : Nat) (R : Value → World → Prop) : Nat → Cut := nthC []
noncomputable def V64z.h : H := .s (.z) (.s (.b (.s (.z) (.c (.s (.z) (.z)) (.s (.z) (.c (.s (.z) (.z)) (.z)))))) (.s (.r [[0, 1, 2, 3, 4, 5, 6, 7, 8, 9]]) (.s (.s (.z) (.c (.r [[0, 1, 2, 3, 4, 5, 6, 7, 10, 11, 12, 13, 8, 9, 14, 15, 16]]) (.z))) (.s (.z) (.s (.s (.z) (.c (.s (.z) (.z)) (.z))) (.s (.s (.z) (.b (.s (.z) (.c (.s (.s (.z) (.c (.s (.z) (.z)) (.z))) (.z)) (.s (.z) (.c (.s (.s (.z) (.c (.s (.z) (.z)) (.z))) (.z)) (.s (.z) (.c (.z) (.z))))))))) (.s (.z) (.s (.s (.r [[0, 1, 2, 3, 4, 5, 6, 7, 8, 9, 10, 11, 12, 13, 14, 15, 16, 17]]) (.c (.z) (.z))) (.s (.r [[0, 1, 2, 3, 4, 5, 6, 7, 8]]) (.z))))))))))
theorem V64z.vc_eq (B : Nat) (R : Value → World → Prop) (a : Addr) (w : World) : wpf (V64z.cfg B) (V64z.cuts B R) V64z.code V64z.h [] (postOf Try.prog B (Try.f64.results.toList) R) (argE 0 [.pointer none, .pointer (some a)]) [] w = V64z.vc B R a w := by kernel_rfl
theorem V64z.obl (B : Nat) (R : Value → World → Prop) : oblP (V64z.cfg B) (V64z.cuts B R) V64z.code V64z.h [] (postOf Try.prog B (Try.f64.results.toList) R) := by
  have e : oblP (V64z.cfg B) (V64z.cuts B R) V64z.code V64z.h [] (postOf Try.prog B (Try.f64.results.toList) R) = (True ∧ ((True ∧ ((True ∧ True) ∧ (True ∧ ((True ∧ True) ∧ True)))) ∧ ((true = true) ∧ ((True ∧ ((true = true) ∧ True)) ∧ (True ∧ ((True ∧ ((True ∧ True) ∧ True)) ∧ ((True ∧ (True ∧ (((True ∧ ((True ∧ True) ∧ True)) ∧ True) ∧ (True ∧ (((True ∧ ((True ∧ True) ∧ True)) ∧ True) ∧ (True ∧ (True ∧ True))))))) ∧ (True ∧ (((true = true) ∧ (True ∧ True)) ∧ ((true = true) ∧ True)))))))))) := by kernel_rfl
  rw [e]
  exact ⟨trivial, ⟨⟨trivial, ⟨⟨trivial, trivial⟩, ⟨trivial, ⟨⟨trivial, trivial⟩, trivial⟩⟩⟩⟩, ⟨rfl, ⟨⟨trivial, ⟨rfl, trivial⟩⟩, ⟨trivial, ⟨⟨trivial, ⟨⟨trivial, trivial⟩, trivial⟩⟩, ⟨⟨trivial, ⟨trivial, ⟨⟨⟨trivial, ⟨⟨trivial, trivial⟩, trivial⟩⟩, trivial⟩, ⟨trivial, ⟨⟨⟨trivial, ⟨⟨trivial, trivial⟩, trivial⟩⟩, trivial⟩, ⟨trivial, ⟨trivial, trivial⟩⟩⟩⟩⟩⟩⟩, ⟨trivial, ⟨⟨rfl, ⟨trivial, trivial⟩⟩, ⟨rfl, trivial⟩⟩⟩⟩⟩⟩⟩⟩⟩⟩
theorem V64z.cfgOk (B : Nat) : CfgOk (V64z.cfg B) := cfgOk_of (by kernel_rfl) (by kernel_rfl)
theorem V64z.sound {a : Addr} {w : World} {R : Value → World → Prop} (h : V64z.vc w.heap.size R a w) : Calls Try.prog 64 ⟨[.pointer none, .pointer (some a)]⟩ w fun e w' => ∃ v, e = .returned v ∧ R v w' :=
  calls_wpfP (c := V64z.cfg w.heap.size) (fn := Try.f64) (x := V64z.code) (V64z.cuts w.heap.size R) V64z.h (V64z.cfgOk _) mixed Try.func64 (by kernel_rfl) (by kernel_rfl) (by kernel_rfl) rfl (V64z.obl _ _) ((V64z.vc_eq _ _ a _).symm ▸ h)
def V64n.vc (B : Nat) (R : Value → World → Prop) (a : Addr) (w : World) : Prop :=
  Ret B w (R (.tuple ⟨[.int .i64 0, .bool false, .int .i64 2]⟩))
noncomputable def V64n.cfg (B : Nat) : Cfg := ⟨Try.prog, ⟨180, B⟩, [], hasN [], hasN []⟩
noncomputable def V64n.code : Code := (Try.f64.body).getD .skip
noncomputable def V64n.cuts (B : Nat) (R : Value → World → Prop) : Nat → Cut := nthC []
noncomputable def V64n.h : H := .s (.z) (.s (.b (.s (.z) (.c (.s (.z) (.z)) (.s (.z) (.c (.s (.z) (.z)) (.z)))))) (.s (.r [[0, 1, 2, 3, 4, 5, 6, 7, 8, 9]]) (.s (.s (.z) (.c (.r [[0, 1, 2, 3, 4, 5, 6, 7, 10, 11, 12, 13, 8, 9, 14, 15, 16]]) (.z))) (.s (.z) (.s (.s (.z) (.c (.s (.z) (.z)) (.z))) (.s (.s (.z) (.b (.s (.z) (.c (.s (.s (.z) (.c (.s (.z) (.z)) (.z))) (.z)) (.s (.z) (.c (.s (.s (.z) (.c (.s (.z) (.z)) (.z))) (.z)) (.s (.z) (.c (.z) (.z))))))))) (.s (.z) (.s (.s (.r [[0, 1, 2, 3, 4, 5, 6, 7, 8, 9, 10, 11, 12, 13, 14, 15, 16, 17]]) (.c (.z) (.z))) (.s (.r [[0, 1, 2, 3, 4, 5, 6, 7, 8]]) (.z))))))))))
theorem V64n.vc_eq (B : Nat) (R : Value → World → Prop) (a : Addr) (w : World) : wpf (V64n.cfg B) (V64n.cuts B R) V64n.code V64n.h [] (postOf Try.prog B (Try.f64.results.toList) R) (argE 0 [.pointer (some a), .pointer none]) [] w = V64n.vc B R a w := by kernel_rfl
theorem V64n.obl (B : Nat) (R : Value → World → Prop) : oblP (V64n.cfg B) (V64n.cuts B R) V64n.code V64n.h [] (postOf Try.prog B (Try.f64.results.toList) R) := by
  have e : oblP (V64n.cfg B) (V64n.cuts B R) V64n.code V64n.h [] (postOf Try.prog B (Try.f64.results.toList) R) = (True ∧ ((True ∧ ((True ∧ True) ∧ (True ∧ ((True ∧ True) ∧ True)))) ∧ ((true = true) ∧ ((True ∧ ((true = true) ∧ True)) ∧ (True ∧ ((True ∧ ((True ∧ True) ∧ True)) ∧ ((True ∧ (True ∧ (((True ∧ ((True ∧ True) ∧ True)) ∧ True) ∧ (True ∧ (((True ∧ ((True ∧ True) ∧ True)) ∧ True) ∧ (True ∧ (True ∧ True))))))) ∧ (True ∧ (((true = true) ∧ (True ∧ True)) ∧ ((true = true) ∧ True)))))))))) := by kernel_rfl
  rw [e]
  exact ⟨trivial, ⟨⟨trivial, ⟨⟨trivial, trivial⟩, ⟨trivial, ⟨⟨trivial, trivial⟩, trivial⟩⟩⟩⟩, ⟨rfl, ⟨⟨trivial, ⟨rfl, trivial⟩⟩, ⟨trivial, ⟨⟨trivial, ⟨⟨trivial, trivial⟩, trivial⟩⟩, ⟨⟨trivial, ⟨trivial, ⟨⟨⟨trivial, ⟨⟨trivial, trivial⟩, trivial⟩⟩, trivial⟩, ⟨trivial, ⟨⟨⟨trivial, ⟨⟨trivial, trivial⟩, trivial⟩⟩, trivial⟩, ⟨trivial, ⟨trivial, trivial⟩⟩⟩⟩⟩⟩⟩, ⟨trivial, ⟨⟨rfl, ⟨trivial, trivial⟩⟩, ⟨rfl, trivial⟩⟩⟩⟩⟩⟩⟩⟩⟩⟩
theorem V64n.cfgOk (B : Nat) : CfgOk (V64n.cfg B) := cfgOk_of (by kernel_rfl) (by kernel_rfl)
theorem V64n.sound {a : Addr} {w : World} {R : Value → World → Prop} (h : V64n.vc w.heap.size R a w) : Calls Try.prog 64 ⟨[.pointer (some a), .pointer none]⟩ w fun e w' => ∃ v, e = .returned v ∧ R v w' :=
  calls_wpfP (c := V64n.cfg w.heap.size) (fn := Try.f64) (x := V64n.code) (V64n.cuts w.heap.size R) V64n.h (V64n.cfgOk _) mixed Try.func64 (by kernel_rfl) (by kernel_rfl) (by kernel_rfl) rfl (V64n.obl _ _) ((V64n.vc_eq _ _ a _).symm ▸ h)
def V66n.l1 (B : Nat) (R : Value → World → Prop) (a : Value → Option Addr → Nat → Nat → Option Addr → Nat → Nat → Int → Int → Nat → Option Addr → Nat → Nat → World → Prop) : Nat → Value → Option Addr → Nat → Nat → Int → Option Addr → Nat → Nat → Int → Int → Nat → Int → Int → Int → Bool → Int → Option Addr → Nat → Nat → Option Addr → Nat → Nat → Option Addr → Nat → Nat → Nat → Option Addr → Nat → Nat → World → Prop
  | 0 => fun _ _ _ _ _ _ _ _ _ _ _ _ _ _ _ _ _ _ _ _ _ _ _ _ _ _ _ _ _ _ => False
  | k + 1 => fun c d f g i j l m n o p q r s t u x y z A C D E F G I J L M w =>
    if (i == (C : Int)) = true
    then (a c d f g j l m n (IntKind.wrap .i64 (o + 1)) I J L M w)
    else (∃ N : Addr, A = some N ∧ (0 : Int) ≤ i ∧ i < (C : Int) ∧
    ∃ O : Int, w.cell? (N.add i.toNat) = some (.int .u64 O) ∧
    if (O != 0) = true
     then (∃ P : Addr, A = some P ∧ (0 : Int) ≤ i ∧ i < (C : Int) ∧
     ∃ Q : Int, w.cell? (P.add i.toNat) = some (.int .u64 Q) ∧
     Expo B w [p, I] fun S => 
      Hide [p, I] (S.alloc (.cells ⟨[.int .u64 Q]⟩ 51)) fun T => 
      RunK Try.prog (Builtin.append_ #[50, 50] 50 ⟨[.slice d f g, .slice (some ⟨S.heap.size, 0, none⟩) 1 1]⟩) B T [p, I] fun v U => 
      ∃ (W : Option Addr) (X Y : Nat), v = .slice W X Y ∧ (V66n.l1 B R a k) c W X Y (IntKind.wrap .i64 (i + 1)) j l m n o p q r s t u x y z A C D E F G I J L M U)
     else ((V66n.l1 B R a k) c d f g (IntKind.wrap .i64 (i + 1)) j l m n o p q r s t u x y z A C D E F G I J L M w))
def V66n.l0 (B : Nat) (R : Value → World → Prop) : Nat → Value → Option Addr → Nat → Nat → Option Addr → Nat → Nat → Int → Int → Nat → Option Addr → Nat → Nat → World → Prop
  | 0 => fun _ _ _ _ _ _ _ _ _ _ _ _ _ _ => False
  | k + 1 => fun a c d f g i j l m n o p q w =>
    if (decide (m < l)) = true
    then (∃ r : Addr, g = some r ∧ (0 : Int) ≤ m ∧ m < (i : Int) ∧
    ∃ s : Int, w.cell? (r.add m.toNat) = some (.int .i64 s) ∧
    CallK Try.prog 54 [a, .agg ⟨[.slice o p q]⟩, .int .i64 s] B w [n] fun v t => 
     ∃ (u x y : Int) (z : Bool) (A : Int) (C : Option Addr) (D E : Nat) (F : Option Addr) (G I : Nat) (J : Option Addr) (L M : Nat) (N O : Int), v = .tuple ⟨[.agg ⟨[.int .i64 u, .int .i64 x, .int .i64 y, .bool z, .int .u64 A, .slice C D E, .slice F G I, .slice J L M]⟩, .int .i64 N, .int .i64 O]⟩ ∧
     ∀ P : Nat, t.heap.size ≤ P →
     if (O != 0) = true
     then (Ret B t (R (.tuple ⟨[.slice none 0 0, .int .i64 O]⟩)))
     else (∃ Q : Addr, o = some Q ∧ (0 : Int) ≤ u ∧ u < (p : Int) ∧
     ∃ S : Int, t.cell? ((Q.add (u.toNat * 4)).add 0) = some (.int .i64 S) ∧
     ∃ T : Int, t.cell? ((Q.add (u.toNat * 4)).add 1) = some (.int .i64 T) ∧
     ∃ U : Int, t.cell? ((Q.add (u.toNat * 4)).add 2) = some (.int .i64 U) ∧
     ∃ (W : Option Addr) (X Y : Nat), t.cell? ((Q.add (u.toNat * 4)).add 3) = some (.slice W X Y) ∧
     ∀ Z : Nat, t.heap.size ≤ Z →
     ∃ a1, V66n.l1 B R (V66n.l0 B R k) a1 a c d f (IntKind.wrap .i64 ((G : Int) - U)) g i j l m P u x y z A C D E F G I J L M n o p q t))
    else (Ret B w (R (.tuple ⟨[.slice c d f, .int .i64 0]⟩)))
def V66n.vc (B : Nat) (R : Value → World → Prop) (a : Option Addr) (c d : Nat) (f : Int) (w : World) : Prop :=
  ∀ g : Nat, w.heap.size ≤ g →
  CallK Try.prog 59 [.pointer none, .agg ⟨[.slice a c d]⟩, .int .i64 f] B w [g] fun v i => 
  ∃ (j : Option Addr) (l m : Nat) (n : Int), v = .tuple ⟨[.slice j l m, .int .i64 n]⟩ ∧
  if (n != 0) = true
  then (Ret B i (R (.tuple ⟨[.slice none 0 0, .int .i64 n]⟩)))
  else (∃ o, V66n.l0 B R o (.pointer none) none 0 0 j l m (l : Int) 0 g a c d i)
noncomputable def V66n.cfg (B : Nat) : Cfg := ⟨Try.prog, ⟨82, B⟩, [], hasN [54, 59], hasN []⟩
noncomputable def V66n.code : Code := (Try.f66.body).getD .skip
noncomputable def V66n.cuts (B : Nat) (R : Value → World → Prop) : Nat → Cut := nthC [⟨[(0, .one (.any)), (10, .one (.slice)), (28, .one (.slice)), (29, .one (.int .i64)), (30, .one (.int .i64))], [(4, 24, [.slice])], fun fs vs bs w => V66n.l0 B R (nthN fs 0) (id (nthV vs 0)) (slA (nthV vs 1)) (slL (nthV vs 1)) (slC (nthV vs 1)) (slA (nthV vs 2)) (slL (nthV vs 2)) (slC (nthV vs 2)) (iV (nthV vs 3)) (iV (nthV vs 4)) (nthB bs 0).blk (slA (nthV (nthB bs 0).cells 0)) (slL (nthV (nthB bs 0).cells 0)) (slC (nthV (nthB bs 0).cells 0)) w⟩,
  ⟨[(0, .one (.any)), (10, .one (.slice)), (17, .one (.int .i64)), (28, .one (.slice)), (29, .one (.int .i64)), (30, .one (.int .i64))], [(13, 67, [.int .i64, .int .i64, .int .i64, .bool, .int .u64, .slice, .slice, .slice]), (4, 24, [.slice])], fun fs vs bs w => V66n.l1 B R (V66n.l0 B R (nthN fs 1)) (nthN fs 0) (id (nthV vs 0)) (slA (nthV vs 1)) (slL (nthV vs 1)) (slC (nthV vs 1)) (iV (nthV vs 2)) (slA (nthV vs 3)) (slL (nthV vs 3)) (slC (nthV vs 3)) (iV (nthV vs 4)) (iV (nthV vs 5)) (nthB bs 0).blk (iV (nthV (nthB bs 0).cells 0)) (iV (nthV (nthB bs 0).cells 1)) (iV (nthV (nthB bs 0).cells 2)) (bV (nthV (nthB bs 0).cells 3)) (iV (nthV (nthB bs 0).cells 4)) (slA (nthV (nthB bs 0).cells 5)) (slL (nthV (nthB bs 0).cells 5)) (slC (nthV (nthB bs 0).cells 5)) (slA (nthV (nthB bs 0).cells 6)) (slL (nthV (nthB bs 0).cells 6)) (slC (nthV (nthB bs 0).cells 6)) (slA (nthV (nthB bs 0).cells 7)) (slL (nthV (nthB bs 0).cells 7)) (slC (nthV (nthB bs 0).cells 7)) (nthB bs 1).blk (slA (nthV (nthB bs 1).cells 0)) (slL (nthV (nthB bs 1).cells 0)) (slC (nthV (nthB bs 1).cells 0)) w⟩]
noncomputable def V66n.h : H := .s (.z) (.b (.s (.z) (.s (.s (.z) (.c (.s (.z) (.z)) (.z))) (.s (.z) (.s (.z) (.s (.s (.z) (.b (.l 0 (.s (.z) (.s (.c (.z) (.z)) (.s (.b (.s (.z) (.s (.z) (.s (.s (.z) (.c (.s (.z) (.z)) (.z))) (.s (.z) (.s (.z) (.b (.l 1 (.s (.b (.b (.s (.z) (.c (.z) (.s (.z) (.c (.z) (.z))))))) (.z)))))))))) (.z))))))) (.s (.z) (.z))))))))
theorem V66n.vc_eq (B : Nat) (R : Value → World → Prop) (a : Option Addr) (c d : Nat) (f : Int) (w : World) : wpf (V66n.cfg B) (V66n.cuts B R) V66n.code V66n.h [] (postOf Try.prog B (Try.f66.results.toList) R) (argE 0 [.pointer none, .agg ⟨[.slice a c d]⟩, .int .i64 f]) [] w = V66n.vc B R a c d f w := by kernel_rfl
theorem V66n.obl (B : Nat) (R : Value → World → Prop) : oblP (V66n.cfg B) (V66n.cuts B R) V66n.code V66n.h [] (postOf Try.prog B (Try.f66.results.toList) R) := by
  have e : oblP (V66n.cfg B) (V66n.cuts B R) V66n.code V66n.h [] (postOf Try.prog B (Try.f66.results.toList) R) = (True ∧ (True ∧ ((True ∧ ((True ∧ True) ∧ True)) ∧ (True ∧ (True ∧ ((True ∧ ((∀ (a : Value) (c : Option Addr) (d f : Nat) (g : Option Addr) (i j : Nat) (l m : Int) (n : Nat) (o : Option Addr) (p q : Nat) (w : World), ¬ V66n.l0 B R 0 a c d f g i j l m n o p q w) ∧ (∀ r, ∀ (a : Value) (c : Option Addr) (d f : Nat) (g : Option Addr) (i j : Nat) (l m : Int) (n : Nat) (o : Option Addr) (p q : Nat) (w : World), V66n.l0 B R (r + 1) a c d f g i j l m n o p q w → V66n.l0 B R (r + 1) a c d f g i j l m n o p q w) ∧ ∀ r : Nat, (True ∧ ((True ∧ True) ∧ ((True ∧ (True ∧ ((True ∧ ((True ∧ True) ∧ True)) ∧ (True ∧ (True ∧ ((∀ (a : Value) (c : Option Addr) (d f : Nat) (s : Int) (g : Option Addr) (i j : Nat) (l m : Int) (t : Nat) (u x y : Int) (z : Bool) (A : Int) (C : Option Addr) (D E : Nat) (F : Option Addr) (G I : Nat) (J : Option Addr) (L M n : Nat) (o : Option Addr) (p q : Nat) (w : World), ¬ V66n.l1 B R (V66n.l0 B R r) 0 a c d f s g i j l m t u x y z A C D E F G I J L M n o p q w) ∧ (∀ N, ∀ (a : Value) (c : Option Addr) (d f : Nat) (s : Int) (g : Option Addr) (i j : Nat) (l m : Int) (t : Nat) (u x y : Int) (z : Bool) (A : Int) (C : Option Addr) (D E : Nat) (F : Option Addr) (G I : Nat) (J : Option Addr) (L M n : Nat) (o : Option Addr) (p q : Nat) (w : World), V66n.l1 B R (V66n.l0 B R r) (N + 1) a c d f s g i j l m t u x y z A C D E F G I J L M n o p q w → V66n.l1 B R (V66n.l0 B R r) (N + 1) a c d f s g i j l m t u x y z A C D E F G I J L M n o p q w) ∧ ∀ N : Nat, ((True ∧ (True ∧ (True ∧ (True ∧ True)))) ∧ True))))))) ∧ True))))) ∧ (True ∧ True))))))) := by kernel_rfl
  rw [e]
  exact ⟨trivial, ⟨trivial, ⟨⟨trivial, ⟨⟨trivial, trivial⟩, trivial⟩⟩, ⟨trivial, ⟨trivial, ⟨⟨trivial, ⟨fun a c d f g i j l m n o p q w h => h, fun _ a c d f g i j l m n o p q w h => h, fun r => ⟨trivial, ⟨⟨trivial, trivial⟩, ⟨⟨trivial, ⟨trivial, ⟨⟨trivial, ⟨⟨trivial, trivial⟩, trivial⟩⟩, ⟨trivial, ⟨trivial, ⟨fun a c d f s g i j l m t u x y z A C D E F G I J L M n o p q w h => h, fun _ a c d f s g i j l m t u x y z A C D E F G I J L M n o p q w h => h, fun N => ⟨⟨trivial, ⟨trivial, ⟨trivial, ⟨trivial, trivial⟩⟩⟩⟩, trivial⟩⟩⟩⟩⟩⟩⟩, trivial⟩⟩⟩⟩⟩, ⟨trivial, trivial⟩⟩⟩⟩⟩⟩⟩
theorem V66n.cfgOk (B : Nat) : CfgOk (V66n.cfg B) := cfgOk_of (by kernel_rfl) (by kernel_rfl)
theorem V66n.sound {a : Option Addr} {d f : Nat} {g : Int} {w : World} {R : Value → World → Prop} (h : V66n.vc w.heap.size R a d f g w) : Calls Try.prog 66 ⟨[.pointer none, .agg ⟨[.slice a d f]⟩, .int .i64 g]⟩ w fun e w' => ∃ v, e = .returned v ∧ R v w' :=
  calls_wpfP (c := V66n.cfg w.heap.size) (fn := Try.f66) (x := V66n.code) (V66n.cuts w.heap.size R) V66n.h (V66n.cfgOk _) mixed Try.func66 (by kernel_rfl) (by kernel_rfl) (by kernel_rfl) rfl (V66n.obl _ _) ((V66n.vc_eq _ _ a d f g _).symm ▸ h)
def V71n.vc (B : Nat) (R : Value → World → Prop) (w : World) : Prop :=
  Ret B w (R (.slice none 0 0))
noncomputable def V71n.cfg (B : Nat) : Cfg := ⟨Try.prog, ⟨11, B⟩, [], hasN [], hasN []⟩
noncomputable def V71n.code : Code := (Try.f71.body).getD .skip
noncomputable def V71n.cuts (B : Nat) (R : Value → World → Prop) : Nat → Cut := nthC []
noncomputable def V71n.h : H := .s (.z) (.s (.s (.z) (.c (.s (.z) (.z)) (.z))) (.s (.z) (.z)))
theorem V71n.vc_eq (B : Nat) (R : Value → World → Prop)  (w : World) : wpf (V71n.cfg B) (V71n.cuts B R) V71n.code V71n.h [] (postOf Try.prog B (Try.f71.results.toList) R) (argE 0 [.pointer none]) [] w = V71n.vc B R  w := by kernel_rfl
theorem V71n.obl (B : Nat) (R : Value → World → Prop) : oblP (V71n.cfg B) (V71n.cuts B R) V71n.code V71n.h [] (postOf Try.prog B (Try.f71.results.toList) R) := by
  have e : oblP (V71n.cfg B) (V71n.cuts B R) V71n.code V71n.h [] (postOf Try.prog B (Try.f71.results.toList) R) = (True ∧ ((True ∧ ((True ∧ True) ∧ True)) ∧ (True ∧ True))) := by kernel_rfl
  rw [e]
  exact ⟨trivial, ⟨⟨trivial, ⟨⟨trivial, trivial⟩, trivial⟩⟩, ⟨trivial, trivial⟩⟩⟩
theorem V71n.cfgOk (B : Nat) : CfgOk (V71n.cfg B) := cfgOk_of (by kernel_rfl) (by kernel_rfl)
theorem V71n.sound  {w : World} {R : Value → World → Prop} (h : V71n.vc w.heap.size R  w) : Calls Try.prog 71 ⟨[.pointer none]⟩ w fun e w' => ∃ v, e = .returned v ∧ R v w' :=
  calls_wpfP (c := V71n.cfg w.heap.size) (fn := Try.f71) (x := V71n.code) (V71n.cuts w.heap.size R) V71n.h (V71n.cfgOk _) mixed Try.func71 (by kernel_rfl) (by kernel_rfl) (by kernel_rfl) rfl (V71n.obl _ _) ((V71n.vc_eq _ _  _).symm ▸ h)
end Go.Proofs.Ytlccbaemcfjdoaa
