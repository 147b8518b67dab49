/-
  What the engine makes of the loaded functions 72, 73, 74, 75, 76, 77, 78, 79, 80, 81, 111, 112, 113, 114: conditions under which a call returns as told, and proofs of that.
  Conditions: none. Printed by a program of this project.
-/
import Derived.Test.YtlccbaemcfjdoaaZWH
set_option linter.unusedVariables false
set_option maxRecDepth 100000
namespace Go.Proofs.Ytlccbaemcfjdoaa
def V72.b0 (B : Nat) (R : Value → World → Prop) (a : Addr) (w : World) : Prop :=
  CallK Try.prog 111 [] B w [] fun v c => 
  ∃ (d : Option Addr) (f g : Nat), v = .agg ⟨[.slice d f g]⟩ ∧
  Expo B c [] fun i => 
  let j := i.alloc (.cells ⟨[.int .u64 1]⟩ 51);
  CallK Try.prog 52 [.pointer (some a), .agg ⟨[.slice d f g]⟩, .int .i64 0, .int .i64 (-1), .agg ⟨[.int .i64 0, .int .i64 0, .int .i64 0, .bool false, .int .u64 0, .slice none 0 0, .slice (some ⟨i.heap.size, 0, none⟩) 1 1, .slice none 0 0]⟩] B j [] fun l m => 
  ∃ n : Int, l = .int .i64 n ∧
  if (n != 0) = true
  then (Ret B m (R (.bool false)))
  else (CallK Try.prog 111 [] B m [] fun o p => 
   ∃ (q : Option Addr) (r s : Nat), o = .agg ⟨[.slice q r s]⟩ ∧
   CallK Try.prog 75 [.pointer (some a), .agg ⟨[.slice q r s]⟩, .agg ⟨[.int .i64 0, .int .i64 32, .int .i64 0]⟩, .int .i64 64, .int .i64 32] B p [] fun t u => 
   ∃ x y z A : Int, t = .tuple ⟨[.agg ⟨[.int .i64 x, .int .i64 y, .int .i64 z]⟩, .int .i64 A]⟩ ∧
   ∀ C : Nat, u.heap.size ≤ C →
   CallK Try.prog 57 [.pointer (some a), .int .i64 64] B u [C] fun D E => 
   ∃ F G : Int, D = .tuple ⟨[.int .u64 F, .int .i64 G]⟩ ∧
   if (A == 0) = true
   then (if ((x == 64) && ((y == 32) && (z == 64))) = true
    then (Ret B E (R (.bool (F == 0))))
    else (Ret B E (R (.bool false))))
   else (Ret B E (R (.bool false))))
def V72.vc (B : Nat) (R : Value → World → Prop) (w : World) : Prop :=
  CallK Try.prog 92 [.int .i64 2] B w [] fun v a => 
  ∃ c : Option Addr, v = .pointer c ∧
  caseP c
  (False)
  (fun d => V72.b0 B R d a)
noncomputable def V72.cfg (B : Nat) : Cfg := ⟨Try.prog, ⟨40, B⟩, [], hasN [52, 57, 75, 92, 111], hasN [99]⟩
noncomputable def V72.code : Code := (Try.f72.body).getD .skip
noncomputable def V72.cuts (B : Nat) (R : Value → World → Prop) : Nat → Cut := nthC [⟨[(1, .one (.ptr))], [], fun fs vs bs w => V72.b0 B R (pV (nthV vs 0)) w⟩]
noncomputable def V72.h : H := .s (.z) (.cut 0 (.z) (.s (.s (.z) (.c (.s (.z) (.z)) (.z))) (.s (.z) (.s (.z) (.s (.z) (.z))))))
theorem V72.vc_eq (B : Nat) (R : Value → World → Prop)  (w : World) : wpf (V72.cfg B) (V72.cuts B R) V72.code V72.h [] (postOf Try.prog B (Try.f72.results.toList) R) (argE 0 []) [] w = V72.vc B R  w := by kernel_rfl
theorem V72.obl (B : Nat) (R : Value → World → Prop) : oblP (V72.cfg B) (V72.cuts B R) V72.code V72.h [] (postOf Try.prog B (Try.f72.results.toList) R) := by
  have e : oblP (V72.cfg B) (V72.cuts B R) V72.code V72.h [] (postOf Try.prog B (Try.f72.results.toList) R) = (True ∧ (True ∧ (∀ (a : Addr) (w : World), V72.b0 B R a w → V72.b0 B R a w) ∧ ((True ∧ ((True ∧ True) ∧ True)) ∧ (True ∧ (True ∧ (True ∧ True)))))) := by kernel_rfl
  rw [e]
  exact ⟨trivial, ⟨trivial, fun a w h => h, ⟨⟨trivial, ⟨⟨trivial, trivial⟩, trivial⟩⟩, ⟨trivial, ⟨trivial, ⟨trivial, trivial⟩⟩⟩⟩⟩⟩
theorem V72.cfgOk (B : Nat) : CfgOk (V72.cfg B) := cfgOk_of (by kernel_rfl) (by kernel_rfl)
theorem V72.sound  {w : World} {R : Value → World → Prop} (h : V72.vc w.heap.size R  w) : Calls Try.prog 72 ⟨[]⟩ w fun e w' => ∃ v, e = .returned v ∧ R v w' :=
  calls_wpfP (c := V72.cfg w.heap.size) (fn := Try.f72) (x := V72.code) (V72.cuts w.heap.size R) V72.h (V72.cfgOk _) mixed Try.func72 (by kernel_rfl) (by kernel_rfl) (by kernel_rfl) rfl (V72.obl _ _) ((V72.vc_eq _ _  _).symm ▸ h)
def V73.vc (B : Nat) (R : Value → World → Prop) (a : Addr) (c : Option Addr) (d f : Nat) (g i j : Int) (w : World) : Prop :=
  ∀ l : Nat, w.heap.size ≤ l →
  ∀ m : Nat, w.heap.size ≤ m →
  if (j == (-1)) = true
  then (Ret B w (R (.tuple ⟨[.int .i64 g, .int .i64 0]⟩)))
  else (CallK Try.prog 42 [.pointer (some a), .int .i64 j] B w [m, l] fun v n => 
   ∃ (o p q r : Int) (s : Bool) (t u x y : Int), v = .tuple ⟨[.agg ⟨[.int .i64 o, .int .i64 p, .int .i64 q, .int .i64 r, .bool s, .int .u64 t, .int .i64 u, .int .i64 x]⟩, .int .i64 y]⟩ ∧
   ∀ z : Nat, n.heap.size ≤ z →
   if (y != 0) = true
   then (Ret B n (R (.tuple ⟨[.int .i64 0, .int .i64 y]⟩)))
   else (if (decide (p ≥ (d : Int))) = true
    then (Ret B n (R (.tuple ⟨[.int .i64 0, .int .i64 6]⟩)))
    else (∃ A : Addr, c = some A ∧ (0 : Int) ≤ p ∧ p < (d : Int) ∧
    ∃ C : Int, n.cell? ((A.add (p.toNat * 4)).add 0) = some (.int .i64 C) ∧
    ∃ D : Int, n.cell? ((A.add (p.toNat * 4)).add 1) = some (.int .i64 D) ∧
    ∃ E : Int, n.cell? ((A.add (p.toNat * 4)).add 2) = some (.int .i64 E) ∧
    ∃ (F : Option Addr) (G I : Nat), n.cell? ((A.add (p.toNat * 4)).add 3) = some (.slice F G I) ∧
    CallK Try.prog 32 [.agg ⟨[.int .i64 C, .int .i64 D, .int .i64 E, .slice F G I]⟩] B n [z, m, l] fun J L => 
     ∃ M : Int, J = .int .i64 M ∧
     Ret B L (R (.tuple ⟨[.int .i64 (IntKind.wrap .i64 (j + M)), .int .i64 0]⟩)))))
noncomputable def V73.cfg (B : Nat) : Cfg := ⟨Try.prog, ⟨47, B⟩, [], hasN [32, 42], hasN []⟩
noncomputable def V73.code : Code := (Try.f73.body).getD .skip
noncomputable def V73.cuts (B : Nat) (R : Value → World → Prop) : Nat → Cut := nthC []
noncomputable def V73.h : H := .s (.z) (.s (.b (.s (.z) (.c (.s (.z) (.z)) (.s (.z) (.c (.s (.z) (.z)) (.z)))))) (.s (.z) (.s (.b (.s (.z) (.c (.s (.z) (.z)) (.s (.z) (.c (.s (.z) (.z)) (.z)))))) (.s (.r [[0, 1, 2, 3, 4, 5, 6, 7, 8, 9, 10, 11]]) (.z)))))
theorem V73.vc_eq (B : Nat) (R : Value → World → Prop) (a : Addr) (c : Option Addr) (d f : Nat) (g i j : Int) (w : World) : wpf (V73.cfg B) (V73.cuts B R) V73.code V73.h [] (postOf Try.prog B (Try.f73.results.toList) R) (argE 0 [.pointer (some a), .agg ⟨[.slice c d f]⟩, .agg ⟨[.int .i64 g, .int .i64 i, .int .i64 j]⟩]) [] w = V73.vc B R a c d f g i j w := by kernel_rfl
theorem V73.obl (B : Nat) (R : Value → World → Prop) : oblP (V73.cfg B) (V73.cuts B R) V73.code V73.h [] (postOf Try.prog B (Try.f73.results.toList) R) := by
  have e : oblP (V73.cfg B) (V73.cuts B R) V73.code V73.h [] (postOf Try.prog B (Try.f73.results.toList) R) = (True ∧ ((True ∧ ((True ∧ True) ∧ (True ∧ ((True ∧ True) ∧ True)))) ∧ (True ∧ ((True ∧ ((True ∧ True) ∧ (True ∧ ((True ∧ True) ∧ True)))) ∧ ((true = true) ∧ True))))) := by kernel_rfl
  rw [e]
  exact ⟨trivial, ⟨⟨trivial, ⟨⟨trivial, trivial⟩, ⟨trivial, ⟨⟨trivial, trivial⟩, trivial⟩⟩⟩⟩, ⟨trivial, ⟨⟨trivial, ⟨⟨trivial, trivial⟩, ⟨trivial, ⟨⟨trivial, trivial⟩, trivial⟩⟩⟩⟩, ⟨rfl, trivial⟩⟩⟩⟩⟩
theorem V73.cfgOk (B : Nat) : CfgOk (V73.cfg B) := cfgOk_of (by kernel_rfl) (by kernel_rfl)
theorem V73.sound {a : Addr} {d : Option Addr} {f g : Nat} {i j l : Int} {w : World} {R : Value → World → Prop} (h : V73.vc w.heap.size R a d f g i j l w) : Calls Try.prog 73 ⟨[.pointer (some a), .agg ⟨[.slice d f g]⟩, .agg ⟨[.int .i64 i, .int .i64 j, .int .i64 l]⟩]⟩ w fun e w' => ∃ v, e = .returned v ∧ R v w' :=
  calls_wpfP (c := V73.cfg w.heap.size) (fn := Try.f73) (x := V73.code) (V73.cuts w.heap.size R) V73.h (V73.cfgOk _) mixed Try.func73 (by kernel_rfl) (by kernel_rfl) (by kernel_rfl) rfl (V73.obl _ _) ((V73.vc_eq _ _ a d f g i j l _).symm ▸ h)
def V75.l0 (B : Nat) (R : Value → World → Prop) : Nat → Addr → Int → Int → Nat → Int → Int → Int → Nat → Int → Int → Int → World → Prop
  | 0 => fun _ _ _ _ _ _ _ _ _ _ _ _ => False
  | k + 1 => fun a c d f g i j l m n o w =>
    if (d != (-1)) = true
    then (CallK Try.prog 77 [.pointer (some a), .int .i64 d, .int .i64 c] B w [f, l] fun v p => 
     ∃ q r : Int, v = .tuple ⟨[.int .i64 q, .int .i64 r]⟩ ∧
     if (r != 0) = true
     then (Ret B p (R (.tuple ⟨[.agg ⟨[.int .i64 0, .int .i64 0, .int .i64 0]⟩, .int .i64 r]⟩)))
     else ((V75.l0 B R k) a c q f g i j l m n o p))
    else (Ret B w (R (.tuple ⟨[.agg ⟨[.int .i64 g, .int .i64 i, .int .i64 j]⟩, .int .i64 0]⟩)))
def V75.vc (B : Nat) (R : Value → World → Prop) (a : Addr) (c : Option Addr) (d f : Nat) (g i j l m : Int) (w : World) : Prop :=
  ∀ n : Nat, w.heap.size ≤ n →
  ∀ o : Nat, w.heap.size ≤ o →
  ∀ p : Nat, w.heap.size ≤ p →
  CallK Try.prog 73 [.pointer (some a), .agg ⟨[.slice c d f]⟩, .agg ⟨[.int .i64 g, .int .i64 i, .int .i64 j]⟩] B w [p, o, n] fun v q => 
  ∃ r s : Int, v = .tuple ⟨[.int .i64 r, .int .i64 s]⟩ ∧
  if (s != 0) = true
  then (Ret B q (R (.tuple ⟨[.agg ⟨[.int .i64 0, .int .i64 0, .int .i64 0]⟩, .int .i64 s]⟩)))
  else (if (decide (m < IntKind.wrap .i64 (r - g))) = true
   then (Ret B q (R (.tuple ⟨[.agg ⟨[.int .i64 0, .int .i64 0, .int .i64 0]⟩, .int .i64 3]⟩)))
   else (CallK Try.prog 94 [.pointer (some a), .int .i64 l, .int .i64 m] B q [p, o, n] fun t u => 
    ∃ (x : Option Addr) (y z : Nat) (A : Int), t = .tuple ⟨[.slice x y z, .int .i64 A]⟩ ∧
    if (A != 0) = true
    then (Ret B u (R (.tuple ⟨[.agg ⟨[.int .i64 0, .int .i64 0, .int .i64 0]⟩, .int .i64 A]⟩)))
    else (CallK Try.prog 112 [.int .i64 l, .int .i64 m, .int .i64 g, .int .i64 i] B u [p, o, n] fun C D => 
     ∃ E : Bool, C = .bool E ∧
     if E = true
     then (Ret B D (R (.tuple ⟨[.agg ⟨[.int .i64 0, .int .i64 0, .int .i64 0]⟩, .int .i64 1]⟩)))
     else (CallK Try.prog 113 [.pointer (some a), .int .i64 l, .int .i64 g, .int .i64 (IntKind.wrap .i64 (r - g))] B D [p, o, n] fun F G => 
      ∃ I : Int, F = .int .i64 I ∧
      if (I != 0) = true
      then (Ret B G (R (.tuple ⟨[.agg ⟨[.int .i64 0, .int .i64 0, .int .i64 0]⟩, .int .i64 I]⟩)))
      else (∀ J : Nat, G.heap.size ≤ J →
      if (j == (-1)) = true
       then (Ret B G (R (.tuple ⟨[.agg ⟨[.int .i64 l, .int .i64 m, .int .i64 (-1)]⟩, .int .i64 0]⟩)))
       else (∃ L, V75.l0 B R L a (IntKind.wrap .i64 (l - g)) (IntKind.wrap .i64 (j + IntKind.wrap .i64 (l - g))) J l m (IntKind.wrap .i64 (j + IntKind.wrap .i64 (l - g))) p 0 0 0 G))))))
noncomputable def V75.cfg (B : Nat) : Cfg := ⟨Try.prog, ⟨98, B⟩, [], hasN [73, 77, 94, 112, 113], hasN []⟩
noncomputable def V75.code : Code := (Try.f75.body).getD .skip
noncomputable def V75.cuts (B : Nat) (R : Value → World → Prop) : Nat → Cut := nthC [⟨[(0, .one (.ptr)), (16, .one (.int .i64)), (17, .one (.int .i64))], [(15, 99, [.int .i64, .int .i64, .int .i64]), (10, 99, [.int .i64, .int .i64, .int .i64])], fun fs vs bs w => V75.l0 B R (nthN fs 0) (pV (nthV vs 0)) (iV (nthV vs 1)) (iV (nthV vs 2)) (nthB bs 0).blk (iV (nthV (nthB bs 0).cells 0)) (iV (nthV (nthB bs 0).cells 1)) (iV (nthV (nthB bs 0).cells 2)) (nthB bs 1).blk (iV (nthV (nthB bs 1).cells 0)) (iV (nthV (nthB bs 1).cells 1)) (iV (nthV (nthB bs 1).cells 2)) w⟩]
noncomputable def V75.h : H := .s (.z) (.s (.z) (.s (.s (.z) (.c (.s (.z) (.z)) (.z))) (.s (.z) (.s (.s (.z) (.c (.s (.z) (.z)) (.z))) (.s (.s (.z) (.s (.z) (.c (.s (.z) (.z)) (.z)))) (.s (.s (.z) (.c (.s (.z) (.z)) (.z))) (.s (.s (.z) (.s (.z) (.c (.s (.z) (.z)) (.z)))) (.s (.z) (.s (.s (.z) (.c (.s (.z) (.z)) (.z))) (.s (.z) (.s (.z) (.s (.s (.z) (.b (.l 0 (.s (.s (.z) (.c (.z) (.z))) (.b (.s (.z) (.s (.z) (.c (.s (.z) (.z)) (.z))))))))) (.s (.z) (.z))))))))))))))
theorem V75.vc_eq (B : Nat) (R : Value → World → Prop) (a : Addr) (c : Option Addr) (d f : Nat) (g i j l m : Int) (w : World) : wpf (V75.cfg B) (V75.cuts B R) V75.code V75.h [] (postOf Try.prog B (Try.f75.results.toList) R) (argE 0 [.pointer (some a), .agg ⟨[.slice c d f]⟩, .agg ⟨[.int .i64 g, .int .i64 i, .int .i64 j]⟩, .int .i64 l, .int .i64 m]) [] w = V75.vc B R a c d f g i j l m w := by kernel_rfl
theorem V75.obl (B : Nat) (R : Value → World → Prop) : oblP (V75.cfg B) (V75.cuts B R) V75.code V75.h [] (postOf Try.prog B (Try.f75.results.toList) R) := by
  have e : oblP (V75.cfg B) (V75.cuts B R) V75.code V75.h [] (postOf Try.prog B (Try.f75.results.toList) R) = (True ∧ (True ∧ ((True ∧ ((True ∧ True) ∧ True)) ∧ (True ∧ ((True ∧ ((True ∧ True) ∧ True)) ∧ ((True ∧ (True ∧ ((True ∧ True) ∧ True))) ∧ ((True ∧ ((True ∧ True) ∧ True)) ∧ ((True ∧ (True ∧ ((True ∧ True) ∧ True))) ∧ (True ∧ ((True ∧ ((True ∧ True) ∧ True)) ∧ (True ∧ (True ∧ ((True ∧ ((∀ (a : Addr) (c d : Int) (f : Nat) (g i j : Int) (l : Nat) (m n o : Int) (w : World), ¬ V75.l0 B R 0 a c d f g i j l m n o w) ∧ (∀ p, ∀ (a : Addr) (c d : Int) (f : Nat) (g i j : Int) (l : Nat) (m n o : Int) (w : World), V75.l0 B R (p + 1) a c d f g i j l m n o w → V75.l0 B R (p + 1) a c d f g i j l m n o w) ∧ ∀ p : Nat, ((True ∧ (True ∧ True)) ∧ (True ∧ (True ∧ ((True ∧ True) ∧ True)))))) ∧ (True ∧ True)))))))))))))) := by kernel_rfl
  rw [e]
  exact ⟨trivial, ⟨trivial, ⟨⟨trivial, ⟨⟨trivial, trivial⟩, trivial⟩⟩, ⟨trivial, ⟨⟨trivial, ⟨⟨trivial, trivial⟩, trivial⟩⟩, ⟨⟨trivial, ⟨trivial, ⟨⟨trivial, trivial⟩, trivial⟩⟩⟩, ⟨⟨trivial, ⟨⟨trivial, trivial⟩, trivial⟩⟩, ⟨⟨trivial, ⟨trivial, ⟨⟨trivial, trivial⟩, trivial⟩⟩⟩, ⟨trivial, ⟨⟨trivial, ⟨⟨trivial, trivial⟩, trivial⟩⟩, ⟨trivial, ⟨trivial, ⟨⟨trivial, ⟨fun a c d f g i j l m n o w h => h, fun _ a c d f g i j l m n o w h => h, fun p => ⟨⟨trivial, ⟨trivial, trivial⟩⟩, ⟨trivial, ⟨trivial, ⟨⟨trivial, trivial⟩, trivial⟩⟩⟩⟩⟩⟩, ⟨trivial, trivial⟩⟩⟩⟩⟩⟩⟩⟩⟩⟩⟩⟩⟩⟩
theorem V75.cfgOk (B : Nat) : CfgOk (V75.cfg B) := cfgOk_of (by kernel_rfl) (by kernel_rfl)
theorem V75.sound {a : Addr} {d : Option Addr} {f g : Nat} {i j l m n : Int} {w : World} {R : Value → World → Prop} (h : V75.vc w.heap.size R a d f g i j l m n w) : Calls Try.prog 75 ⟨[.pointer (some a), .agg ⟨[.slice d f g]⟩, .agg ⟨[.int .i64 i, .int .i64 j, .int .i64 l]⟩, .int .i64 m, .int .i64 n]⟩ w fun e w' => ∃ v, e = .returned v ∧ R v w' :=
  calls_wpfP (c := V75.cfg w.heap.size) (fn := Try.f75) (x := V75.code) (V75.cuts w.heap.size R) V75.h (V75.cfgOk _) mixed Try.func75 (by kernel_rfl) (by kernel_rfl) (by kernel_rfl) rfl (V75.obl _ _) ((V75.vc_eq _ _ a d f g i j l m n _).symm ▸ h)
def V77.vc (B : Nat) (R : Value → World → Prop) (a : Addr) (c d : Int) (w : World) : Prop :=
  CallK Try.prog 57 [.pointer (some a), .int .i64 c] B w [] fun v f => 
  ∃ g i : Int, v = .tuple ⟨[.int .u64 g, .int .i64 i]⟩ ∧
  if (i != 0) = true
  then (Ret B f (R (.tuple ⟨[.int .i64 0, .int .i64 i]⟩)))
  else (if (g == 0) = true
   then (Ret B f (R (.tuple ⟨[.int .i64 (-1), .int .i64 0]⟩)))
   else (CallK Try.prog 93 [.pointer (some a)] B f [] fun j l => 
    ∃ m : Int, j = .int .i64 m ∧
    if (decide (g > IntKind.wrap .u64 m)) = true
    then (Ret B l (R (.tuple ⟨[.int .i64 0, .int .i64 6]⟩)))
    else (if (decide (d < IntKind.wrap .i64 (1 - IntKind.wrap .i64 g))) = false
     then (CallK Try.prog 93 [.pointer (some a)] B l [] fun n o => 
      ∃ p : Int, n = .int .i64 p ∧
      if (decide (d > IntKind.wrap .i64 (p - IntKind.wrap .i64 g))) = true
      then (Ret B o (R (.tuple ⟨[.int .i64 0, .int .i64 6]⟩)))
      else (CallK Try.prog 70 [.pointer (some a), .int .i64 c, .int .u64 (IntKind.wrap .u64 (IntKind.wrap .i64 (IntKind.wrap .i64 g + d)))] B o [] fun q r => 
       ∃ s : Int, q = .int .i64 s ∧
       Ret B r (R (.tuple ⟨[.int .i64 (IntKind.wrap .i64 (IntKind.wrap .i64 (IntKind.wrap .i64 g + d) - 1)), .int .i64 0]⟩))))
     else (Ret B l (R (.tuple ⟨[.int .i64 0, .int .i64 6]⟩))))))
noncomputable def V77.cfg (B : Nat) : Cfg := ⟨Try.prog, ⟨55, B⟩, [], hasN [57, 70, 93], hasN []⟩
noncomputable def V77.code : Code := (Try.f77.body).getD .skip
noncomputable def V77.cuts (B : Nat) (R : Value → World → Prop) : Nat → Cut := nthC []
noncomputable def V77.h : H := .s (.z) (.s (.z) (.s (.b (.s (.z) (.c (.s (.z) (.z)) (.s (.z) (.c (.s (.z) (.z)) (.s (.z) (.c (.s (.z) (.z)) (.z)))))))) (.s (.z) (.s (.s (.z) (.c (.s (.z) (.z)) (.z))) (.s (.z) (.s (.z) (.z)))))))
theorem V77.vc_eq (B : Nat) (R : Value → World → Prop) (a : Addr) (c d : Int) (w : World) : wpf (V77.cfg B) (V77.cuts B R) V77.code V77.h [] (postOf Try.prog B (Try.f77.results.toList) R) (argE 0 [.pointer (some a), .int .i64 c, .int .i64 d]) [] w = V77.vc B R a c d w := by kernel_rfl
theorem V77.obl (B : Nat) (R : Value → World → Prop) : oblP (V77.cfg B) (V77.cuts B R) V77.code V77.h [] (postOf Try.prog B (Try.f77.results.toList) R) := by
  have e : oblP (V77.cfg B) (V77.cuts B R) V77.code V77.h [] (postOf Try.prog B (Try.f77.results.toList) R) = (True ∧ (True ∧ ((True ∧ ((True ∧ True) ∧ (True ∧ ((True ∧ True) ∧ (True ∧ ((True ∧ True) ∧ True)))))) ∧ (True ∧ ((True ∧ ((True ∧ True) ∧ True)) ∧ (True ∧ (True ∧ True))))))) := by kernel_rfl
  rw [e]
  exact ⟨trivial, ⟨trivial, ⟨⟨trivial, ⟨⟨trivial, trivial⟩, ⟨trivial, ⟨⟨trivial, trivial⟩, ⟨trivial, ⟨⟨trivial, trivial⟩, trivial⟩⟩⟩⟩⟩⟩, ⟨trivial, ⟨⟨trivial, ⟨⟨trivial, trivial⟩, trivial⟩⟩, ⟨trivial, ⟨trivial, trivial⟩⟩⟩⟩⟩⟩⟩
theorem V77.cfgOk (B : Nat) : CfgOk (V77.cfg B) := cfgOk_of (by kernel_rfl) (by kernel_rfl)
theorem V77.sound {a : Addr} {d f : Int} {w : World} {R : Value → World → Prop} (h : V77.vc w.heap.size R a d f w) : Calls Try.prog 77 ⟨[.pointer (some a), .int .i64 d, .int .i64 f]⟩ w fun e w' => ∃ v, e = .returned v ∧ R v w' :=
  calls_wpfP (c := V77.cfg w.heap.size) (fn := Try.f77) (x := V77.code) (V77.cuts w.heap.size R) V77.h (V77.cfgOk _) mixed Try.func77 (by kernel_rfl) (by kernel_rfl) (by kernel_rfl) rfl (V77.obl _ _) ((V77.vc_eq _ _ a d f _).symm ▸ h)
def V111.vc (B : Nat) (R : Value → World → Prop) (w : World) : Prop :=
  ∀ a : Nat, w.heap.size ≤ a →
  Expo B w [a] fun c => 
  Hide [a] (c.alloc (.cells ⟨[.int .i64 3, .int .i64 0, .int .i64 0, .int .i64 18, .int .i64 0, .int .i64 0]⟩ 26)) fun d => 
  Expo B d [a] fun f => 
  Hide [a] (f.alloc (.cells ⟨[.int .i64 0, .int .i64 1, .int .i64 0, .slice (some ⟨c.heap.size, 0, none⟩) 2 2]⟩ 29)) fun g => 
  Ret B g (R (.agg ⟨[.slice (some ⟨f.heap.size, 0, none⟩) 1 1]⟩))
noncomputable def V111.cfg (B : Nat) : Cfg := ⟨Try.prog, ⟨7, B⟩, [], hasN [], hasN []⟩
noncomputable def V111.code : Code := (Try.f111.body).getD .skip
noncomputable def V111.cuts (B : Nat) (R : Value → World → Prop) : Nat → Cut := nthC []
noncomputable def V111.h : H := .s (.z) (.s (.z) (.z))
theorem V111.vc_eq (B : Nat) (R : Value → World → Prop)  (w : World) : wpf (V111.cfg B) (V111.cuts B R) V111.code V111.h [] (postOf Try.prog B (Try.f111.results.toList) R) (argE 0 []) [] w = V111.vc B R  w := by kernel_rfl
theorem V111.obl (B : Nat) (R : Value → World → Prop) : oblP (V111.cfg B) (V111.cuts B R) V111.code V111.h [] (postOf Try.prog B (Try.f111.results.toList) R) := by
  have e : oblP (V111.cfg B) (V111.cuts B R) V111.code V111.h [] (postOf Try.prog B (Try.f111.results.toList) R) = (True ∧ (True ∧ True)) := by kernel_rfl
  rw [e]
  exact ⟨trivial, ⟨trivial, trivial⟩⟩
theorem V111.cfgOk (B : Nat) : CfgOk (V111.cfg B) := cfgOk_of (by kernel_rfl) (by kernel_rfl)
theorem V111.sound  {w : World} {R : Value → World → Prop} (h : V111.vc w.heap.size R  w) : Calls Try.prog 111 ⟨[]⟩ w fun e w' => ∃ v, e = .returned v ∧ R v w' :=
  calls_wpfP (c := V111.cfg w.heap.size) (fn := Try.f111) (x := V111.code) (V111.cuts w.heap.size R) V111.h (V111.cfgOk _) mixed Try.func111 (by kernel_rfl) (by kernel_rfl) (by kernel_rfl) rfl (V111.obl _ _) ((V111.vc_eq _ _  _).symm ▸ h)
def V112.l1 (B : Nat) (R : Value → World → Prop) : Nat → Int → Int → Int → Int → Int → Int → Int → World → Prop
  | 0 => fun _ _ _ _ _ _ _ _ => False
  | k + 1 => fun a c d f g i j w =>
    if (decide (j < 2)) = true
    then ((0 : Int) ≤ j ∧ j < 2 ∧
    if (decide (([g, i] : List Int).getD j.toNat 0 < 1)) = false
     then (if (decide (([g, i] : List Int).getD j.toNat 0 > 2305843009213693952)) = true
      then (Ret B w (R (.bool false)))
      else ((V112.l1 B R k) a c d f g i (IntKind.wrap .i64 (j + 1)) w))
     else (Ret B w (R (.bool false))))
    else (if (decide (a < IntKind.wrap .i64 (d + f))) = true
     then (Ret B w (R (.bool (decide (d < IntKind.wrap .i64 (a + c))))))
     else (Ret B w (R (.bool false))))
def V112.l0 (B : Nat) (R : Value → World → Prop) : Nat → Int → Int → Int → Int → Int → Int → Int → World → Prop
  | 0 => fun _ _ _ _ _ _ _ _ => False
  | k + 1 => fun a c d f g i j w =>
    if (decide (j < 2)) = true
    then ((0 : Int) ≤ j ∧ j < 2 ∧
    if (decide (([g, i] : List Int).getD j.toNat 0 < 0)) = false
     then (if (decide (([g, i] : List Int).getD j.toNat 0 > 2305843009213693952)) = true
      then (Ret B w (R (.bool false)))
      else ((V112.l0 B R k) a c d f g i (IntKind.wrap .i64 (j + 1)) w))
     else (Ret B w (R (.bool false))))
    else (∃ l, V112.l1 B R l a c d f c f 0 w)
def V112.vc (B : Nat) (R : Value → World → Prop) (a c d f : Int) (w : World) : Prop :=
  ∃ g, V112.l0 B R g a c d f a d 0 w
noncomputable def V112.cfg (B : Nat) : Cfg := ⟨Try.prog, ⟨51, B⟩, [], hasN [], hasN []⟩
noncomputable def V112.code : Code := (Try.f112.body).getD .skip
noncomputable def V112.cuts (B : Nat) (R : Value → World → Prop) : Nat → Cut := nthC [⟨[(0, .one (.int .i64)), (1, .one (.int .i64)), (2, .one (.int .i64)), (3, .one (.int .i64)), (15, .agg [.int .i64, .int .i64]), (16, .one (.int .i64))], [], fun fs vs bs w => V112.l0 B R (nthN fs 0) (iV (nthV vs 0)) (iV (nthV vs 1)) (iV (nthV vs 2)) (iV (nthV vs 3)) (iV (nthV (cellsOfV (nthV vs 4)) 0)) (iV (nthV (cellsOfV (nthV vs 4)) 1)) (iV (nthV vs 5)) w⟩,
  ⟨[(0, .one (.int .i64)), (1, .one (.int .i64)), (2, .one (.int .i64)), (3, .one (.int .i64)), (28, .agg [.int .i64, .int .i64]), (29, .one (.int .i64))], [], fun fs vs bs w => V112.l1 B R (nthN fs 0) (iV (nthV vs 0)) (iV (nthV vs 1)) (iV (nthV vs 2)) (iV (nthV vs 3)) (iV (nthV (cellsOfV (nthV vs 4)) 0)) (iV (nthV (cellsOfV (nthV vs 4)) 1)) (iV (nthV vs 5)) w⟩]
noncomputable def V112.h : H := .s (.z) (.s (.s (.z) (.b (.l 0 (.s (.z) (.s (.c (.z) (.z)) (.s (.b (.s (.z) (.s (.z) (.c (.s (.z) (.z)) (.z))))) (.z))))))) (.s (.s (.z) (.b (.l 1 (.s (.z) (.s (.c (.z) (.z)) (.s (.b (.s (.z) (.s (.z) (.c (.s (.z) (.z)) (.z))))) (.z))))))) (.s (.z) (.z))))
theorem V112.vc_eq (B : Nat) (R : Value → World → Prop) (a c d f : Int) (w : World) : wpf (V112.cfg B) (V112.cuts B R) V112.code V112.h [] (postOf Try.prog B (Try.f112.results.toList) R) (argE 0 [.int .i64 a, .int .i64 c, .int .i64 d, .int .i64 f]) [] w = V112.vc B R a c d f w := by kernel_rfl
theorem V112.obl (B : Nat) (R : Value → World → Prop) : oblP (V112.cfg B) (V112.cuts B R) V112.code V112.h [] (postOf Try.prog B (Try.f112.results.toList) R) := by
  have e : oblP (V112.cfg B) (V112.cuts B R) V112.code V112.h [] (postOf Try.prog B (Try.f112.results.toList) R) = (True ∧ ((True ∧ ((∀ (a c d f g i j : Int) (w : World), ¬ V112.l0 B R 0 a c d f g i j w) ∧ (∀ l, ∀ (a c d f g i j : Int) (w : World), V112.l0 B R (l + 1) a c d f g i j w → V112.l0 B R (l + 1) a c d f g i j w) ∧ ∀ l : Nat, (True ∧ ((True ∧ True) ∧ ((True ∧ (True ∧ ((True ∧ True) ∧ True))) ∧ True))))) ∧ ((True ∧ ((∀ (a c d f m n o : Int) (w : World), ¬ V112.l1 B R 0 a c d f m n o w) ∧ (∀ p, ∀ (a c d f m n o : Int) (w : World), V112.l1 B R (p + 1) a c d f m n o w → V112.l1 B R (p + 1) a c d f m n o w) ∧ ∀ p : Nat, (True ∧ ((True ∧ True) ∧ ((True ∧ (True ∧ ((True ∧ True) ∧ True))) ∧ True))))) ∧ (True ∧ True)))) := by kernel_rfl
  rw [e]
  exact ⟨trivial, ⟨⟨trivial, ⟨fun a c d f g i j w h => h, fun _ a c d f g i j w h => h, fun l => ⟨trivial, ⟨⟨trivial, trivial⟩, ⟨⟨trivial, ⟨trivial, ⟨⟨trivial, trivial⟩, trivial⟩⟩⟩, trivial⟩⟩⟩⟩⟩, ⟨⟨trivial, ⟨fun a c d f m n o w h => h, fun _ a c d f m n o w h => h, fun p => ⟨trivial, ⟨⟨trivial, trivial⟩, ⟨⟨trivial, ⟨trivial, ⟨⟨trivial, trivial⟩, trivial⟩⟩⟩, trivial⟩⟩⟩⟩⟩, ⟨trivial, trivial⟩⟩⟩⟩
theorem V112.cfgOk (B : Nat) : CfgOk (V112.cfg B) := cfgOk_of (by kernel_rfl) (by kernel_rfl)
theorem V112.sound {a d f g : Int} {w : World} {R : Value → World → Prop} (h : V112.vc w.heap.size R a d f g w) : Calls Try.prog 112 ⟨[.int .i64 a, .int .i64 d, .int .i64 f, .int .i64 g]⟩ w fun e w' => ∃ v, e = .returned v ∧ R v w' :=
  calls_wpfP (c := V112.cfg w.heap.size) (fn := Try.f112) (x := V112.code) (V112.cuts w.heap.size R) V112.h (V112.cfgOk _) mixed Try.func112 (by kernel_rfl) (by kernel_rfl) (by kernel_rfl) rfl (V112.obl _ _) ((V112.vc_eq _ _ a d f g _).symm ▸ h)
def V113.vc (B : Nat) (R : Value → World → Prop) (a : Addr) (c d f : Int) (w : World) : Prop :=
  CallK Try.prog 105 [.pointer (some a), .int .i64 c, .int .i64 f] B w [] fun v g => 
  ∃ (i : Option Addr) (j l : Nat) (m : Int), v = .tuple ⟨[.slice i j l, .int .i64 m]⟩ ∧
  CallK Try.prog 105 [.pointer (some a), .int .i64 d, .int .i64 f] B g [] fun n o => 
  ∃ (p : Option Addr) (q r : Nat) (s : Int), n = .tuple ⟨[.slice p q r, .int .i64 s]⟩ ∧
  if (m != 0) = true
  then (Ret B o (R (.int .i64 m)))
  else (if (s == 0) = true
   then (RunK Try.prog (Builtin.copy_ #[50, 50] 3 ⟨[.slice i j l, .slice p q r]⟩) B o [] fun t u => 
    ∃ x : Int, t = .int .i64 x ∧
    Ret B u (R (.int .i64 s)))
   else (Ret B o (R (.int .i64 s))))
noncomputable def V113.cfg (B : Nat) : Cfg := ⟨Try.prog, ⟨36, B⟩, [], hasN [105], hasN []⟩
noncomputable def V113.code : Code := (Try.f113.body).getD .skip
noncomputable def V113.cuts (B : Nat) (R : Value → World → Prop) : Nat → Cut := nthC []
noncomputable def V113.h : H := .s (.z) (.s (.z) (.s (.z) (.s (.s (.z) (.c (.s (.z) (.z)) (.z))) (.s (.s (.z) (.c (.z) (.z))) (.s (.z) (.z))))))
theorem V113.vc_eq (B : Nat) (R : Value → World → Prop) (a : Addr) (c d f : Int) (w : World) : wpf (V113.cfg B) (V113.cuts B R) V113.code V113.h [] (postOf Try.prog B (Try.f113.results.toList) R) (argE 0 [.pointer (some a), .int .i64 c, .int .i64 d, .int .i64 f]) [] w = V113.vc B R a c d f w := by kernel_rfl
theorem V113.obl (B : Nat) (R : Value → World → Prop) : oblP (V113.cfg B) (V113.cuts B R) V113.code V113.h [] (postOf Try.prog B (Try.f113.results.toList) R) := by
  have e : oblP (V113.cfg B) (V113.cuts B R) V113.code V113.h [] (postOf Try.prog B (Try.f113.results.toList) R) = (True ∧ (True ∧ (True ∧ ((True ∧ ((True ∧ True) ∧ True)) ∧ ((True ∧ (True ∧ True)) ∧ (True ∧ True)))))) := by kernel_rfl
  rw [e]
  exact ⟨trivial, ⟨trivial, ⟨trivial, ⟨⟨trivial, ⟨⟨trivial, trivial⟩, trivial⟩⟩, ⟨⟨trivial, ⟨trivial, trivial⟩⟩, ⟨trivial, trivial⟩⟩⟩⟩⟩⟩
theorem V113.cfgOk (B : Nat) : CfgOk (V113.cfg B) := cfgOk_of (by kernel_rfl) (by kernel_rfl)
theorem V113.sound {a : Addr} {d f g : Int} {w : World} {R : Value → World → Prop} (h : V113.vc w.heap.size R a d f g w) : Calls Try.prog 113 ⟨[.pointer (some a), .int .i64 d, .int .i64 f, .int .i64 g]⟩ w fun e w' => ∃ v, e = .returned v ∧ R v w' :=
  calls_wpfP (c := V113.cfg w.heap.size) (fn := Try.f113) (x := V113.code) (V113.cuts w.heap.size R) V113.h (V113.cfgOk _) mixed Try.func113 (by kernel_rfl) (by kernel_rfl) (by kernel_rfl) rfl (V113.obl _ _) ((V113.vc_eq _ _ a d f g _).symm ▸ h)
end Go.Proofs.Ytlccbaemcfjdoaa
