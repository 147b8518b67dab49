/-
  What the engine makes of the loaded functions 57, 73, 75, 77: conditions under which a call returns as told, and proofs of that.
  Conditions: none. Printed by a program of this project.
-/
import Derived.Test.YtlccbaemcfjdoaaZWM
set_option linter.unusedVariables false
set_option maxRecDepth 100000
namespace Go.Proofs.Ytlccbaemcfjdoaa
def V57n.vc (B : Nat) (R : Value → World → Prop) (a : Int) (w : World) : Prop :=
  CallK Try.prog 105 [.pointer none, .int .i64 a, .int .i64 1] B w [] fun v c => 
  ∃ (d : Option Addr) (f g : Nat) (i : Int), v = .tuple ⟨[.slice d f g, .int .i64 i]⟩ ∧
  if (i != 0) = true
  then (Ret B c (R (.tuple ⟨[.int .u64 0, .int .i64 i]⟩)))
  else (∃ j : Addr, d = some j ∧ (0 : Int) ≤ 0 ∧ (0 : Int) < (f : Int) ∧
  ∃ l : Int, c.cell? (j.add 0) = some (.int .u64 l) ∧
  Ret B c (R (.tuple ⟨[.int .u64 l, .int .i64 0]⟩)))
noncomputable def V57n.cfg (B : Nat) : Cfg := ⟨Try.prog, ⟨20, B⟩, [], hasN [105], hasN []⟩
noncomputable def V57n.code : Code := (Try.f57.body).getD .skip
noncomputable def V57n.cuts (B : Nat) (R : Value → World → Prop) : Nat → Cut := nthC []
noncomputable def V57n.h : H := .s (.z) (.s (.z) (.s (.s (.z) (.c (.s (.z) (.z)) (.z))) (.s (.z) (.z))))
theorem V57n.vc_eq (B : Nat) (R : Value → World → Prop) (a : Int) (w : World) : wpf (V57n.cfg B) (V57n.cuts B R) V57n.code V57n.h [] (postOf Try.prog B (Try.f57.results.toList) R) (argE 0 [.pointer none, .int .i64 a]) [] w = V57n.vc B R a w := by kernel_rfl
theorem V57n.obl (B : Nat) (R : Value → World → Prop) : oblP (V57n.cfg B) (V57n.cuts B R) V57n.code V57n.h [] (postOf Try.prog B (Try.f57.results.toList) R) := by
  have e : oblP (V57n.cfg B) (V57n.cuts B R) V57n.code V57n.h [] (postOf Try.prog B (Try.f57.results.toList) R) = (True ∧ (True ∧ ((True ∧ ((True ∧ True) ∧ True)) ∧ (True ∧ True)))) := by kernel_rfl
  rw [e]
  exact ⟨trivial, ⟨trivial, ⟨⟨trivial, ⟨⟨trivial, trivial⟩, trivial⟩⟩, ⟨trivial, trivial⟩⟩⟩⟩
theorem V57n.cfgOk (B : Nat) : CfgOk (V57n.cfg B) := cfgOk_of (by kernel_rfl) (by kernel_rfl)
theorem V57n.sound {a : Int} {w : World} {R : Value → World → Prop} (h : V57n.vc w.heap.size R a w) : Calls Try.prog 57 ⟨[.pointer none, .int .i64 a]⟩ w fun e w' => ∃ v, e = .returned v ∧ R v w' :=
  calls_wpfP (c := V57n.cfg w.heap.size) (fn := Try.f57) (x := V57n.code) (V57n.cuts w.heap.size R) V57n.h (V57n.cfgOk _) mixed Try.func57 (by kernel_rfl) (by kernel_rfl) (by kernel_rfl) rfl (V57n.obl _ _) ((V57n.vc_eq _ _ a _).symm ▸ h)
def V73n.vc (B : Nat) (R : Value → World → Prop) (a : Option Addr) (c d : Nat) (f g i : Int) (w : World) : Prop :=
  ∀ j : Nat, w.heap.size ≤ j →
  ∀ l : Nat, w.heap.size ≤ l →
  Ret B w (R (.tuple ⟨[.int .i64 0, .int .i64 2]⟩))
noncomputable def V73n.cfg (B : Nat) : Cfg := ⟨Try.prog, ⟨47, B⟩, [], hasN [], hasN []⟩
noncomputable def V73n.code : Code := (Try.f73.body).getD .skip
noncomputable def V73n.cuts (B : Nat) (R : Value → World → Prop) : Nat → Cut := nthC []
noncomputable def V73n.h : H := .s (.z) (.s (.b (.s (.z) (.c (.s (.z) (.z)) (.s (.z) (.c (.s (.z) (.z)) (.z)))))) (.s (.z) (.s (.b (.s (.z) (.c (.s (.z) (.z)) (.s (.z) (.c (.s (.z) (.z)) (.z)))))) (.s (.r [[0, 1, 2, 3, 4, 5, 6, 7, 8, 9, 10, 11]]) (.z)))))
theorem V73n.vc_eq (B : Nat) (R : Value → World → Prop) (a : Option Addr) (c d : Nat) (f g i : Int) (w : World) : wpf (V73n.cfg B) (V73n.cuts B R) V73n.code V73n.h [] (postOf Try.prog B (Try.f73.results.toList) R) (argE 0 [.pointer none, .agg ⟨[.slice a c d]⟩, .agg ⟨[.int .i64 f, .int .i64 g, .int .i64 i]⟩]) [] w = V73n.vc B R a c d f g i w := by kernel_rfl
theorem V73n.obl (B : Nat) (R : Value → World → Prop) : oblP (V73n.cfg B) (V73n.cuts B R) V73n.code V73n.h [] (postOf Try.prog B (Try.f73.results.toList) R) := by
  have e : oblP (V73n.cfg B) (V73n.cuts B R) V73n.code V73n.h [] (postOf Try.prog B (Try.f73.results.toList) R) = (True ∧ ((True ∧ ((True ∧ True) ∧ (True ∧ ((True ∧ True) ∧ True)))) ∧ (True ∧ ((True ∧ ((True ∧ True) ∧ (True ∧ ((True ∧ True) ∧ True)))) ∧ ((true = true) ∧ True))))) := by kernel_rfl
  rw [e]
  exact ⟨trivial, ⟨⟨trivial, ⟨⟨trivial, trivial⟩, ⟨trivial, ⟨⟨trivial, trivial⟩, trivial⟩⟩⟩⟩, ⟨trivial, ⟨⟨trivial, ⟨⟨trivial, trivial⟩, ⟨trivial, ⟨⟨trivial, trivial⟩, trivial⟩⟩⟩⟩, ⟨rfl, trivial⟩⟩⟩⟩⟩
theorem V73n.cfgOk (B : Nat) : CfgOk (V73n.cfg B) := cfgOk_of (by kernel_rfl) (by kernel_rfl)
theorem V73n.sound {a : Option Addr} {d f : Nat} {g i j : Int} {w : World} {R : Value → World → Prop} (h : V73n.vc w.heap.size R a d f g i j w) : Calls Try.prog 73 ⟨[.pointer none, .agg ⟨[.slice a d f]⟩, .agg ⟨[.int .i64 g, .int .i64 i, .int .i64 j]⟩]⟩ w fun e w' => ∃ v, e = .returned v ∧ R v w' :=
  calls_wpfP (c := V73n.cfg w.heap.size) (fn := Try.f73) (x := V73n.code) (V73n.cuts w.heap.size R) V73n.h (V73n.cfgOk _) mixed Try.func73 (by kernel_rfl) (by kernel_rfl) (by kernel_rfl) rfl (V73n.obl _ _) ((V73n.vc_eq _ _ a d f g i j _).symm ▸ h)
def V75n.l0 (B : Nat) (R : Value → World → Prop) : Nat → Value → Int → Int → Nat → Int → Int → Int → Nat → Int → Int → Int → World → Prop
  | 0 => fun _ _ _ _ _ _ _ _ _ _ _ _ => False
  | k + 1 => fun a c d f g i j l m n o w =>
    if (d != (-1)) = true
    then (CallK Try.prog 77 [a, .int .i64 d, .int .i64 c] B w [f, l] fun v p => 
     ∃ q r : Int, v = .tuple ⟨[.int .i64 q, .int .i64 r]⟩ ∧
     if (r != 0) = true
     then (Ret B p (R (.tuple ⟨[.agg ⟨[.int .i64 0, .int .i64 0, .int .i64 0]⟩, .int .i64 r]⟩)))
     else ((V75n.l0 B R k) a c q f g i j l m n o p))
    else (Ret B w (R (.tuple ⟨[.agg ⟨[.int .i64 g, .int .i64 i, .int .i64 j]⟩, .int .i64 0]⟩)))
def V75n.vc (B : Nat) (R : Value → World → Prop) (a : Option Addr) (c d : Nat) (f g i j l : Int) (w : World) : Prop :=
  ∀ m : Nat, w.heap.size ≤ m →
  ∀ n : Nat, w.heap.size ≤ n →
  ∀ o : Nat, w.heap.size ≤ o →
  CallK Try.prog 73 [.pointer none, .agg ⟨[.slice a c d]⟩, .agg ⟨[.int .i64 f, .int .i64 g, .int .i64 i]⟩] B w [o, n, m] fun v p => 
  ∃ q r : Int, v = .tuple ⟨[.int .i64 q, .int .i64 r]⟩ ∧
  if (r != 0) = true
  then (Ret B p (R (.tuple ⟨[.agg ⟨[.int .i64 0, .int .i64 0, .int .i64 0]⟩, .int .i64 r]⟩)))
  else (if (decide (l < IntKind.wrap .i64 (q - f))) = true
   then (Ret B p (R (.tuple ⟨[.agg ⟨[.int .i64 0, .int .i64 0, .int .i64 0]⟩, .int .i64 3]⟩)))
   else (CallK Try.prog 94 [.pointer none, .int .i64 j, .int .i64 l] B p [o, n, m] fun s t => 
    ∃ (u : Option Addr) (x y : Nat) (z : Int), s = .tuple ⟨[.slice u x y, .int .i64 z]⟩ ∧
    if (z != 0) = true
    then (Ret B t (R (.tuple ⟨[.agg ⟨[.int .i64 0, .int .i64 0, .int .i64 0]⟩, .int .i64 z]⟩)))
    else (CallK Try.prog 112 [.int .i64 j, .int .i64 l, .int .i64 f, .int .i64 g] B t [o, n, m] fun A C => 
     ∃ D : Bool, A = .bool D ∧
     if D = true
     then (Ret B C (R (.tuple ⟨[.agg ⟨[.int .i64 0, .int .i64 0, .int .i64 0]⟩, .int .i64 1]⟩)))
     else (CallK Try.prog 113 [.pointer none, .int .i64 j, .int .i64 f, .int .i64 (IntKind.wrap .i64 (q - f))] B C [o, n, m] fun E F => 
      ∃ G : Int, E = .int .i64 G ∧
      if (G != 0) = true
      then (Ret B F (R (.tuple ⟨[.agg ⟨[.int .i64 0, .int .i64 0, .int .i64 0]⟩, .int .i64 G]⟩)))
      else (∀ I : Nat, F.heap.size ≤ I →
      if (i == (-1)) = true
       then (Ret B F (R (.tuple ⟨[.agg ⟨[.int .i64 j, .int .i64 l, .int .i64 (-1)]⟩, .int .i64 0]⟩)))
       else (∃ J, V75n.l0 B R J (.pointer none) (IntKind.wrap .i64 (j - f)) (IntKind.wrap .i64 (i + IntKind.wrap .i64 (j - f))) I j l (IntKind.wrap .i64 (i + IntKind.wrap .i64 (j - f))) o 0 0 0 F))))))
noncomputable def V75n.cfg (B : Nat) : Cfg := ⟨Try.prog, ⟨98, B⟩, [], hasN [73, 77, 94, 112, 113], hasN []⟩
noncomputable def V75n.code : Code := (Try.f75.body).getD .skip
noncomputable def V75n.cuts (B : Nat) (R : Value → World → Prop) : Nat → Cut := nthC [⟨[(0, .one (.any)), (16, .one (.int .i64)), (17, .one (.int .i64))], [(15, 99, [.int .i64, .int .i64, .int .i64]), (10, 99, [.int .i64, .int .i64, .int .i64])], fun fs vs bs w => V75n.l0 B R (nthN fs 0) (id (nthV vs 0)) (iV (nthV vs 1)) (iV (nthV vs 2)) (nthB bs 0).blk (iV (nthV (nthB bs 0).cells 0)) (iV (nthV (nthB bs 0).cells 1)) (iV (nthV (nthB bs 0).cells 2)) (nthB bs 1).blk (iV (nthV (nthB bs 1).cells 0)) (iV (nthV (nthB bs 1).cells 1)) (iV (nthV (nthB bs 1).cells 2)) w⟩]
noncomputable def V75n.h : H := .s (.z) (.s (.z) (.s (.s (.z) (.c (.s (.z) (.z)) (.z))) (.s (.z) (.s (.s (.z) (.c (.s (.z) (.z)) (.z))) (.s (.s (.z) (.s (.z) (.c (.s (.z) (.z)) (.z)))) (.s (.s (.z) (.c (.s (.z) (.z)) (.z))) (.s (.s (.z) (.s (.z) (.c (.s (.z) (.z)) (.z)))) (.s (.z) (.s (.s (.z) (.c (.s (.z) (.z)) (.z))) (.s (.z) (.s (.z) (.s (.s (.z) (.b (.l 0 (.s (.s (.z) (.c (.z) (.z))) (.b (.s (.z) (.s (.z) (.c (.s (.z) (.z)) (.z))))))))) (.s (.z) (.z))))))))))))))
theorem V75n.vc_eq (B : Nat) (R : Value → World → Prop) (a : Option Addr) (c d : Nat) (f g i j l : Int) (w : World) : wpf (V75n.cfg B) (V75n.cuts B R) V75n.code V75n.h [] (postOf Try.prog B (Try.f75.results.toList) R) (argE 0 [.pointer none, .agg ⟨[.slice a c d]⟩, .agg ⟨[.int .i64 f, .int .i64 g, .int .i64 i]⟩, .int .i64 j, .int .i64 l]) [] w = V75n.vc B R a c d f g i j l w := by kernel_rfl
theorem V75n.obl (B : Nat) (R : Value → World → Prop) : oblP (V75n.cfg B) (V75n.cuts B R) V75n.code V75n.h [] (postOf Try.prog B (Try.f75.results.toList) R) := by
  have e : oblP (V75n.cfg B) (V75n.cuts B R) V75n.code V75n.h [] (postOf Try.prog B (Try.f75.results.toList) R) = (True ∧ (True ∧ ((True ∧ ((True ∧ True) ∧ True)) ∧ (True ∧ ((True ∧ ((True ∧ True) ∧ True)) ∧ ((True ∧ (True ∧ ((True ∧ True) ∧ True))) ∧ ((True ∧ ((True ∧ True) ∧ True)) ∧ ((True ∧ (True ∧ ((True ∧ True) ∧ True))) ∧ (True ∧ ((True ∧ ((True ∧ True) ∧ True)) ∧ (True ∧ (True ∧ ((True ∧ ((∀ (a : Value) (c d : Int) (f : Nat) (g i j : Int) (l : Nat) (m n o : Int) (w : World), ¬ V75n.l0 B R 0 a c d f g i j l m n o w) ∧ (∀ p, ∀ (a : Value) (c d : Int) (f : Nat) (g i j : Int) (l : Nat) (m n o : Int) (w : World), V75n.l0 B R (p + 1) a c d f g i j l m n o w → V75n.l0 B R (p + 1) a c d f g i j l m n o w) ∧ ∀ p : Nat, ((True ∧ (True ∧ True)) ∧ (True ∧ (True ∧ ((True ∧ True) ∧ True)))))) ∧ (True ∧ True)))))))))))))) := by kernel_rfl
  rw [e]
  exact ⟨trivial, ⟨trivial, ⟨⟨trivial, ⟨⟨trivial, trivial⟩, trivial⟩⟩, ⟨trivial, ⟨⟨trivial, ⟨⟨trivial, trivial⟩, trivial⟩⟩, ⟨⟨trivial, ⟨trivial, ⟨⟨trivial, trivial⟩, trivial⟩⟩⟩, ⟨⟨trivial, ⟨⟨trivial, trivial⟩, trivial⟩⟩, ⟨⟨trivial, ⟨trivial, ⟨⟨trivial, trivial⟩, trivial⟩⟩⟩, ⟨trivial, ⟨⟨trivial, ⟨⟨trivial, trivial⟩, trivial⟩⟩, ⟨trivial, ⟨trivial, ⟨⟨trivial, ⟨fun a c d f g i j l m n o w h => h, fun _ a c d f g i j l m n o w h => h, fun p => ⟨⟨trivial, ⟨trivial, trivial⟩⟩, ⟨trivial, ⟨trivial, ⟨⟨trivial, trivial⟩, trivial⟩⟩⟩⟩⟩⟩, ⟨trivial, trivial⟩⟩⟩⟩⟩⟩⟩⟩⟩⟩⟩⟩⟩⟩
theorem V75n.cfgOk (B : Nat) : CfgOk (V75n.cfg B) := cfgOk_of (by kernel_rfl) (by kernel_rfl)
theorem V75n.sound {a : Option Addr} {d f : Nat} {g i j l m : Int} {w : World} {R : Value → World → Prop} (h : V75n.vc w.heap.size R a d f g i j l m w) : Calls Try.prog 75 ⟨[.pointer none, .agg ⟨[.slice a d f]⟩, .agg ⟨[.int .i64 g, .int .i64 i, .int .i64 j]⟩, .int .i64 l, .int .i64 m]⟩ w fun e w' => ∃ v, e = .returned v ∧ R v w' :=
  calls_wpfP (c := V75n.cfg w.heap.size) (fn := Try.f75) (x := V75n.code) (V75n.cuts w.heap.size R) V75n.h (V75n.cfgOk _) mixed Try.func75 (by kernel_rfl) (by kernel_rfl) (by kernel_rfl) rfl (V75n.obl _ _) ((V75n.vc_eq _ _ a d f g i j l m _).symm ▸ h)
def V77n.vc (B : Nat) (R : Value → World → Prop) (a c : Int) (w : World) : Prop :=
  CallK Try.prog 57 [.pointer none, .int .i64 a] B w [] fun v d => 
  ∃ f g : Int, v = .tuple ⟨[.int .u64 f, .int .i64 g]⟩ ∧
  if (g != 0) = true
  then (Ret B d (R (.tuple ⟨[.int .i64 0, .int .i64 g]⟩)))
  else (if (f == 0) = true
   then (Ret B d (R (.tuple ⟨[.int .i64 (-1), .int .i64 0]⟩)))
   else (CallK Try.prog 93 [.pointer none] B d [] fun i j => 
    ∃ l : Int, i = .int .i64 l ∧
    if (decide (f > IntKind.wrap .u64 l)) = true
    then (Ret B j (R (.tuple ⟨[.int .i64 0, .int .i64 6]⟩)))
    else (if (decide (c < IntKind.wrap .i64 (1 - IntKind.wrap .i64 f))) = false
     then (CallK Try.prog 93 [.pointer none] B j [] fun m n => 
      ∃ o : Int, m = .int .i64 o ∧
      if (decide (c > IntKind.wrap .i64 (o - IntKind.wrap .i64 f))) = true
      then (Ret B n (R (.tuple ⟨[.int .i64 0, .int .i64 6]⟩)))
      else (CallK Try.prog 70 [.pointer none, .int .i64 a, .int .u64 (IntKind.wrap .u64 (IntKind.wrap .i64 (IntKind.wrap .i64 f + c)))] B n [] fun p q => 
       ∃ r : Int, p = .int .i64 r ∧
       Ret B q (R (.tuple ⟨[.int .i64 (IntKind.wrap .i64 (IntKind.wrap .i64 (IntKind.wrap .i64 f + c) - 1)), .int .i64 0]⟩))))
     else (Ret B j (R (.tuple ⟨[.int .i64 0, .int .i64 6]⟩))))))
noncomputable def V77n.cfg (B : Nat) : Cfg := ⟨Try.prog, ⟨55, B⟩, [], hasN [57, 70, 93], hasN []⟩
noncomputable def V77n.code : Code := (Try.f77.body).getD .skip
noncomputable def V77n.cuts (B : Nat) (R : Value → World → Prop) : Nat → Cut := nthC []
noncomputable def V77n.h : H := .s (.z) (.s (.z) (.s (.b (.s (.z) (.c (.s (.z) (.z)) (.s (.z) (.c (.s (.z) (.z)) (.s (.z) (.c (.s (.z) (.z)) (.z)))))))) (.s (.z) (.s (.s (.z) (.c (.s (.z) (.z)) (.z))) (.s (.z) (.s (.z) (.z)))))))
theorem V77n.vc_eq (B : Nat) (R : Value → World → Prop) (a c : Int) (w : World) : wpf (V77n.cfg B) (V77n.cuts B R) V77n.code V77n.h [] (postOf Try.prog B (Try.f77.results.toList) R) (argE 0 [.pointer none, .int .i64 a, .int .i64 c]) [] w = V77n.vc B R a c w := by kernel_rfl
theorem V77n.obl (B : Nat) (R : Value → World → Prop) : oblP (V77n.cfg B) (V77n.cuts B R) V77n.code V77n.h [] (postOf Try.prog B (Try.f77.results.toList) R) := by
  have e : oblP (V77n.cfg B) (V77n.cuts B R) V77n.code V77n.h [] (postOf Try.prog B (Try.f77.results.toList) R) = (True ∧ (True ∧ ((True ∧ ((True ∧ True) ∧ (True ∧ ((True ∧ True) ∧ (True ∧ ((True ∧ True) ∧ True)))))) ∧ (True ∧ ((True ∧ ((True ∧ True) ∧ True)) ∧ (True ∧ (True ∧ True))))))) := by kernel_rfl
  rw [e]
  exact ⟨trivial, ⟨trivial, ⟨⟨trivial, ⟨⟨trivial, trivial⟩, ⟨trivial, ⟨⟨trivial, trivial⟩, ⟨trivial, ⟨⟨trivial, trivial⟩, trivial⟩⟩⟩⟩⟩⟩, ⟨trivial, ⟨⟨trivial, ⟨⟨trivial, trivial⟩, trivial⟩⟩, ⟨trivial, ⟨trivial, trivial⟩⟩⟩⟩⟩⟩⟩
theorem V77n.cfgOk (B : Nat) : CfgOk (V77n.cfg B) := cfgOk_of (by kernel_rfl) (by kernel_rfl)
theorem V77n.sound {a d : Int} {w : World} {R : Value → World → Prop} (h : V77n.vc w.heap.size R a d w) : Calls Try.prog 77 ⟨[.pointer none, .int .i64 a, .int .i64 d]⟩ w fun e w' => ∃ v, e = .returned v ∧ R v w' :=
  calls_wpfP (c := V77n.cfg w.heap.size) (fn := Try.f77) (x := V77n.code) (V77n.cuts w.heap.size R) V77n.h (V77n.cfgOk _) mixed Try.func77 (by kernel_rfl) (by kernel_rfl) (by kernel_rfl) rfl (V77n.obl _ _) ((V77n.vc_eq _ _ a d _).symm ▸ h)
end Go.Proofs.Ytlccbaemcfjdoaa
