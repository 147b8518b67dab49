/-
  What the engine makes of the loaded functions 41, 46, 57, 68, 70, 92, 93, 94, 95, 102, 103, 104, 105, 124: conditions under which a call returns as told, and proofs of that.
  Conditions: none. Printed by a program of this project.
-/
import Derived.Test.YtlccbaemcfjdoaaZEngC
import Derived.Test.YtlccbaemcfjdoaaProg
set_option linter.unusedVariables false
set_option maxRecDepth 100000
namespace Go.Proofs.Ytlccbaemcfjdoaa
theorem mixed : Try.prog.follows .mixedOrders = true := by kernel_rfl
def V41.l1 (B : Nat) (R : Value → World → Prop) : Nat → Option Addr → Nat → Nat → Addr → Option Addr → Nat → Nat → Int → World → Prop
  | 0 => fun _ _ _ _ _ _ _ _ _ => False
  | k + 1 => fun a c d f g i j l w =>
    if (decide (l < (c : Int))) = true
    then (if (decide (l < (i : Int))) = true
     then (∃ m : Addr, a = some m ∧ (0 : Int) ≤ l ∧ l < (c : Int) ∧
     ∃ n : Int, w.cell? (m.add l.toNat) = some (.int .u64 n) ∧
     ∃ o : Addr, g = some o ∧ (0 : Int) ≤ l ∧ l < (i : Int) ∧
     (∃ u, w.cell? ((o.add l.toNat).add 0) = some u) ∧ w.frozen? ((o.add l.toNat).add 0) = false ∧
     let p := w.setCell ((o.add l.toNat).add 0) (.int .u64 n);
     ∃ q : Addr, a = some q ∧ (0 : Int) ≤ l ∧ l < (c : Int) ∧
     ∃ r : Int, p.cell? (q.add l.toNat) = some (.int .u64 r) ∧
     CallK Try.prog 70 [.pointer (some f), .int .i64 l, .int .u64 r] B p [] fun v s => 
      ∃ t : Int, v = .int .i64 t ∧
      if (t != 0) = true
      then (Ret B s (R (.tuple ⟨[.pointer none, .slice none 0 0]⟩)))
      else ((V41.l1 B R k) a c d f g i j (IntKind.wrap .i64 (l + 1)) s))
     else (Ret B w (R (.tuple ⟨[.pointer (some f), .slice g i j]⟩))))
    else (Ret B w (R (.tuple ⟨[.pointer (some f), .slice g i j]⟩)))
def V41.b0 (B : Nat) (R : Value → World → Prop) (a : Int) (c : Option Addr) (d f : Nat) (g : Addr) (w : World) : Prop :=
  CallK Try.prog 93 [.pointer (some g)] B w [] fun v i => 
  ∃ j : Int, v = .int .i64 j ∧
  if (j != IntKind.wrap .i64 (a * 64)) = true
  then (Ret B i (R (.tuple ⟨[.pointer none, .slice none 0 0]⟩)))
  else (RunK Try.prog (Instr.makeSlice 50 (.int .i64 (IntKind.wrap .i64 (a * 64))) (.int .i64 (IntKind.wrap .i64 (a * 64)))) B i [] fun l m => 
   ∃ (n : Option Addr) (o p : Nat), l = .slice n o p ∧
   ∃ q, V41.l1 B R q c d f g n o p 0 m)
def V41.vc (B : Nat) (R : Value → World → Prop) (a : Int) (c : Option Addr) (d f : Nat) (w : World) : Prop :=
  CallK Try.prog 92 [.int .i64 a] B w [] fun v g => 
  ∃ i : Option Addr, v = .pointer i ∧
  caseP i
  (False)
  (fun j => V41.b0 B R a c d f j g)
noncomputable def V41.cfg (B : Nat) : Cfg := ⟨Try.prog, ⟨52, B⟩, [], hasN [70, 92, 93], hasN []⟩
noncomputable def V41.code : Code := (Try.f41.body).getD .skip
noncomputable def V41.cuts (B : Nat) (R : Value → World → Prop) : Nat → Cut := nthC [⟨[(0, .one (.int .i64)), (1, .one (.slice)), (6, .one (.ptr))], [], fun fs vs bs w => V41.b0 B R (iV (nthV vs 0)) (slA (nthV vs 1)) (slL (nthV vs 1)) (slC (nthV vs 1)) (pV (nthV vs 2)) w⟩,
  ⟨[(1, .one (.slice)), (6, .one (.ptr)), (7, .one (.slice)), (8, .one (.int .i64))], [], fun fs vs bs w => V41.l1 B R (nthN fs 0) (slA (nthV vs 0)) (slL (nthV vs 0)) (slC (nthV vs 0)) (pV (nthV vs 1)) (slA (nthV vs 2)) (slL (nthV vs 2)) (slC (nthV vs 2)) (iV (nthV vs 3)) w⟩]
noncomputable def V41.h : H := .s (.z) (.cut 0 (.z) (.s (.s (.z) (.c (.s (.z) (.z)) (.z))) (.s (.z) (.s (.s (.z) (.b (.l 1 (.s (.s (.z) (.c (.z) (.z))) (.s (.b (.s (.z) (.s (.z) (.c (.s (.z) (.z)) (.z))))) (.z)))))) (.s (.z) (.z))))))
theorem V41.vc_eq (B : Nat) (R : Value → World → Prop) (a : Int) (c : Option Addr) (d f : Nat) (w : World) : wpf (V41.cfg B) (V41.cuts B R) V41.code V41.h [] (postOf Try.prog B (Try.f41.results.toList) R) (argE 0 [.int .i64 a, .slice c d f]) [] w = V41.vc B R a c d f w := by kernel_rfl
theorem V41.obl (B : Nat) (R : Value → World → Prop) : oblP (V41.cfg B) (V41.cuts B R) V41.code V41.h [] (postOf Try.prog B (Try.f41.results.toList) R) := by
  have e : oblP (V41.cfg B) (V41.cuts B R) V41.code V41.h [] (postOf Try.prog B (Try.f41.results.toList) R) = (True ∧ (True ∧ (∀ (a : Int) (c : Option Addr) (d f : Nat) (g : Addr) (w : World), V41.b0 B R a c d f g w → V41.b0 B R a c d f g w) ∧ ((True ∧ ((True ∧ True) ∧ True)) ∧ (True ∧ ((True ∧ ((∀ (c : Option Addr) (d f : Nat) (g : Addr) (i : Option Addr) (j l : Nat) (m : Int) (w : World), ¬ V41.l1 B R 0 c d f g i j l m w) ∧ (∀ n, ∀ (c : Option Addr) (d f : Nat) (g : Addr) (i : Option Addr) (j l : Nat) (m : Int) (w : World), V41.l1 B R (n + 1) c d f g i j l m w → V41.l1 B R (n + 1) c d f g i j l m w) ∧ ∀ n : Nat, ((True ∧ (True ∧ True)) ∧ ((True ∧ (True ∧ ((True ∧ True) ∧ True))) ∧ True)))) ∧ (True ∧ True)))))) := by kernel_rfl
  rw [e]
  exact ⟨trivial, ⟨trivial, fun a c d f g w h => h, ⟨⟨trivial, ⟨⟨trivial, trivial⟩, trivial⟩⟩, ⟨trivial, ⟨⟨trivial, ⟨fun c d f g i j l m w h => h, fun _ c d f g i j l m w h => h, fun n => ⟨⟨trivial, ⟨trivial, trivial⟩⟩, ⟨⟨trivial, ⟨trivial, ⟨⟨trivial, trivial⟩, trivial⟩⟩⟩, trivial⟩⟩⟩⟩, ⟨trivial, trivial⟩⟩⟩⟩⟩⟩
theorem V41.cfgOk (B : Nat) : CfgOk (V41.cfg B) := cfgOk_of (by kernel_rfl) (by kernel_rfl)
theorem V41.sound {a : Int} {d : Option Addr} {f g : Nat} {w : World} {R : Value → World → Prop} (h : V41.vc w.heap.size R a d f g w) : Calls Try.prog 41 ⟨[.int .i64 a, .slice d f g]⟩ w fun e w' => ∃ v, e = .returned v ∧ R v w' :=
  calls_wpfP (c := V41.cfg w.heap.size) (fn := Try.f41) (x := V41.code) (V41.cuts w.heap.size R) V41.h (V41.cfgOk _) mixed Try.func41 (by kernel_rfl) (by kernel_rfl) (by kernel_rfl) rfl (V41.obl _ _) ((V41.vc_eq _ _ a d f g _).symm ▸ h)
def V46.vc (B : Nat) (R : Value → World → Prop) (a : Addr) (c : Option Addr) (d f : Nat) (w : World) : Prop :=
  CallK Try.prog 94 [.pointer (some a), .int .i64 0, .int .i64 (d : Int)] B w [] fun v g => 
  ∃ (i : Option Addr) (j l : Nat) (m : Int), v = .tuple ⟨[.slice i j l, .int .i64 m]⟩ ∧
  CallK Try.prog 93 [.pointer (some a)] B g [] fun n o => 
  ∃ p : Int, n = .int .i64 p ∧
  if (p == (d : Int)) = true
  then (if (m == 0) = true
   then (CallK Try.prog 68 [.slice i j l, .slice c d f] B o [] fun q r => 
    ∃ s : Bool, q = .bool s ∧
    Ret B r (R (.bool s)))
   else (Ret B o (R (.bool false))))
  else (Ret B o (R (.bool false)))
noncomputable def V46.cfg (B : Nat) : Cfg := ⟨Try.prog, ⟨28, B⟩, [], hasN [68, 93, 94], hasN []⟩
noncomputable def V46.code : Code := (Try.f46.body).getD .skip
noncomputable def V46.cuts (B : Nat) (R : Value → World → Prop) : Nat → Cut := nthC []
noncomputable def V46.h : H := .s (.z) (.s (.z) (.s (.z) (.z)))
theorem V46.vc_eq (B : Nat) (R : Value → World → Prop) (a : Addr) (c : Option Addr) (d f : Nat) (w : World) : wpf (V46.cfg B) (V46.cuts B R) V46.code V46.h [] (postOf Try.prog B (Try.f46.results.toList) R) (argE 0 [.pointer (some a), .slice c d f]) [] w = V46.vc B R a c d f w := by kernel_rfl
theorem V46.obl (B : Nat) (R : Value → World → Prop) : oblP (V46.cfg B) (V46.cuts B R) V46.code V46.h [] (postOf Try.prog B (Try.f46.results.toList) R) := by
  have e : oblP (V46.cfg B) (V46.cuts B R) V46.code V46.h [] (postOf Try.prog B (Try.f46.results.toList) R) = (True ∧ (True ∧ (True ∧ True))) := by kernel_rfl
  rw [e]
  exact ⟨trivial, ⟨trivial, ⟨trivial, trivial⟩⟩⟩
theorem V46.cfgOk (B : Nat) : CfgOk (V46.cfg B) := cfgOk_of (by kernel_rfl) (by kernel_rfl)
theorem V46.sound {a : Addr} {d : Option Addr} {f g : Nat} {w : World} {R : Value → World → Prop} (h : V46.vc w.heap.size R a d f g w) : Calls Try.prog 46 ⟨[.pointer (some a), .slice d f g]⟩ w fun e w' => ∃ v, e = .returned v ∧ R v w' :=
  calls_wpfP (c := V46.cfg w.heap.size) (fn := Try.f46) (x := V46.code) (V46.cuts w.heap.size R) V46.h (V46.cfgOk _) mixed Try.func46 (by kernel_rfl) (by kernel_rfl) (by kernel_rfl) rfl (V46.obl _ _) ((V46.vc_eq _ _ a d f g _).symm ▸ h)
def V68.l0 (B : Nat) (R : Value → World → Prop) : Nat → Option Addr → Nat → Nat → Option Addr → Nat → Nat → Int → World → Prop
  | 0 => fun _ _ _ _ _ _ _ _ => False
  | k + 1 => fun a c d f g i j w =>
    if (decide (j < (c : Int))) = true
    then (∃ l : Addr, a = some l ∧ (0 : Int) ≤ j ∧ j < (c : Int) ∧
    ∃ m : Int, w.cell? (l.add j.toNat) = some (.int .u64 m) ∧
    ∃ n : Addr, f = some n ∧ (0 : Int) ≤ j ∧ j < (g : Int) ∧
    ∃ o : Int, w.cell? (n.add j.toNat) = some (.int .u64 o) ∧
    if (m != o) = true
     then (Ret B w (R (.bool false)))
     else ((V68.l0 B R k) a c d f g i (IntKind.wrap .i64 (j + 1)) w))
    else (Ret B w (R (.bool true)))
def V68.vc (B : Nat) (R : Value → World → Prop) (a : Option Addr) (c d : Nat) (f : Option Addr) (g i : Nat) (w : World) : Prop :=
  if ((c : Int) != (g : Int)) = true
  then (Ret B w (R (.bool false)))
  else (∃ j, V68.l0 B R j a c d f g i 0 w)
noncomputable def V68.cfg (B : Nat) : Cfg := ⟨Try.prog, ⟨26, B⟩, [], hasN [], hasN []⟩
noncomputable def V68.code : Code := (Try.f68.body).getD .skip
noncomputable def V68.cuts (B : Nat) (R : Value → World → Prop) : Nat → Cut := nthC [⟨[(0, .one (.slice)), (1, .one (.slice)), (5, .one (.int .i64))], [], fun fs vs bs w => V68.l0 B R (nthN fs 0) (slA (nthV vs 0)) (slL (nthV vs 0)) (slC (nthV vs 0)) (slA (nthV vs 1)) (slL (nthV vs 1)) (slC (nthV vs 1)) (iV (nthV vs 2)) w⟩]
noncomputable def V68.h : H := .s (.z) (.s (.s (.z) (.c (.s (.z) (.z)) (.z))) (.s (.s (.z) (.b (.l 0 (.s (.s (.z) (.c (.z) (.z))) (.s (.b (.s (.r [[0, 1, 2, 3, 4, 5, 6, 7, 8]]) (.c (.s (.z) (.z)) (.z)))) (.z)))))) (.s (.z) (.z))))
theorem V68.vc_eq (B : Nat) (R : Value → World → Prop) (a : Option Addr) (c d : Nat) (f : Option Addr) (g i : Nat) (w : World) : wpf (V68.cfg B) (V68.cuts B R) V68.code V68.h [] (postOf Try.prog B (Try.f68.results.toList) R) (argE 0 [.slice a c d, .slice f g i]) [] w = V68.vc B R a c d f g i w := by kernel_rfl
theorem V68.obl (B : Nat) (R : Value → World → Prop) : oblP (V68.cfg B) (V68.cuts B R) V68.code V68.h [] (postOf Try.prog B (Try.f68.results.toList) R) := by
  have e : oblP (V68.cfg B) (V68.cuts B R) V68.code V68.h [] (postOf Try.prog B (Try.f68.results.toList) R) = (True ∧ ((True ∧ ((True ∧ True) ∧ True)) ∧ ((True ∧ ((∀ (a : Option Addr) (c d : Nat) (f : Option Addr) (g i : Nat) (j : Int) (w : World), ¬ V68.l0 B R 0 a c d f g i j w) ∧ (∀ l, ∀ (a : Option Addr) (c d : Nat) (f : Option Addr) (g i : Nat) (j : Int) (w : World), V68.l0 B R (l + 1) a c d f g i j w → V68.l0 B R (l + 1) a c d f g i j w) ∧ ∀ l : Nat, ((True ∧ (True ∧ True)) ∧ (((true = true) ∧ ((True ∧ True) ∧ True)) ∧ True)))) ∧ (True ∧ True)))) := by kernel_rfl
  rw [e]
  exact ⟨trivial, ⟨⟨trivial, ⟨⟨trivial, trivial⟩, trivial⟩⟩, ⟨⟨trivial, ⟨fun a c d f g i j w h => h, fun _ a c d f g i j w h => h, fun l => ⟨⟨trivial, ⟨trivial, trivial⟩⟩, ⟨⟨rfl, ⟨⟨trivial, trivial⟩, trivial⟩⟩, trivial⟩⟩⟩⟩, ⟨trivial, trivial⟩⟩⟩⟩
theorem V68.cfgOk (B : Nat) : CfgOk (V68.cfg B) := cfgOk_of (by kernel_rfl) (by kernel_rfl)
theorem V68.sound {a : Option Addr} {d f : Nat} {g : Option Addr} {i j : Nat} {w : World} {R : Value → World → Prop} (h : V68.vc w.heap.size R a d f g i j w) : Calls Try.prog 68 ⟨[.slice a d f, .slice g i j]⟩ w fun e w' => ∃ v, e = .returned v ∧ R v w' :=
  calls_wpfP (c := V68.cfg w.heap.size) (fn := Try.f68) (x := V68.code) (V68.cuts w.heap.size R) V68.h (V68.cfgOk _) mixed Try.func68 (by kernel_rfl) (by kernel_rfl) (by kernel_rfl) rfl (V68.obl _ _) ((V68.vc_eq _ _ a d f g i j _).symm ▸ h)
def V70.vc (B : Nat) (R : Value → World → Prop) (a : Addr) (c d : Int) (w : World) : Prop :=
  CallK Try.prog 102 [.pointer (some a), .int .i64 c, .int .i64 1, .int .u64 d] B w [] fun v f => 
  ∃ g : Int, v = .int .i64 g ∧
  Ret B f (R (.int .i64 g))
noncomputable def V70.cfg (B : Nat) : Cfg := ⟨Try.prog, ⟨11, B⟩, [], hasN [102], hasN []⟩
noncomputable def V70.code : Code := (Try.f70.body).getD .skip
noncomputable def V70.cuts (B : Nat) (R : Value → World → Prop) : Nat → Cut := nthC []
noncomputable def V70.h : H := .s (.z) (.s (.z) (.z))
theorem V70.vc_eq (B : Nat) (R : Value → World → Prop) (a : Addr) (c d : Int) (w : World) : wpf (V70.cfg B) (V70.cuts B R) V70.code V70.h [] (postOf Try.prog B (Try.f70.results.toList) R) (argE 0 [.pointer (some a), .int .i64 c, .int .u64 d]) [] w = V70.vc B R a c d w := by kernel_rfl
theorem V70.obl (B : Nat) (R : Value → World → Prop) : oblP (V70.cfg B) (V70.cuts B R) V70.code V70.h [] (postOf Try.prog B (Try.f70.results.toList) R) := by
  have e : oblP (V70.cfg B) (V70.cuts B R) V70.code V70.h [] (postOf Try.prog B (Try.f70.results.toList) R) = (True ∧ (True ∧ True)) := by kernel_rfl
  rw [e]
  exact ⟨trivial, ⟨trivial, trivial⟩⟩
theorem V70.cfgOk (B : Nat) : CfgOk (V70.cfg B) := cfgOk_of (by kernel_rfl) (by kernel_rfl)
theorem V70.sound {a : Addr} {d f : Int} {w : World} {R : Value → World → Prop} (h : V70.vc w.heap.size R a d f w) : Calls Try.prog 70 ⟨[.pointer (some a), .int .i64 d, .int .u64 f]⟩ w fun e w' => ∃ v, e = .returned v ∧ R v w' :=
  calls_wpfP (c := V70.cfg w.heap.size) (fn := Try.f70) (x := V70.code) (V70.cuts w.heap.size R) V70.h (V70.cfgOk _) mixed Try.func70 (by kernel_rfl) (by kernel_rfl) (by kernel_rfl) rfl (V70.obl _ _) ((V70.vc_eq _ _ a d f _).symm ▸ h)
def V92.vc (B : Nat) (R : Value → World → Prop) (a : Int) (w : World) : Prop :=
  if (decide (a < 1)) = false
  then (if (decide (a > 256)) = true
   then (Ret B w (R (.pointer none)))
   else (RunK Try.prog (Instr.makeSlice 50 (.int .i64 (IntKind.wrap .i64 (a * 64))) (.int .i64 (IntKind.wrap .i64 (a * 64)))) B w [] fun v c => 
    ∃ (d : Option Addr) (f g : Nat), v = .slice d f g ∧
    Expo B c [] fun i => 
    let j := i.alloc (.cells ⟨[.slice d f g]⟩ 178);
    Ret B j (R (.pointer (some (⟨i.heap.size, 0, none⟩))))))
  else (Ret B w (R (.pointer none)))
noncomputable def V92.cfg (B : Nat) : Cfg := ⟨Try.prog, ⟨14, B⟩, [13], hasN [], hasN []⟩
noncomputable def V92.code : Code := (Try.f92.body).getD .skip
noncomputable def V92.cuts (B : Nat) (R : Value → World → Prop) : Nat → Cut := nthC []
noncomputable def V92.h : H := .s (.z) (.s (.s (.z) (.c (.s (.z) (.z)) (.z))) (.s (.z) (.z)))
theorem V92.vc_eq (B : Nat) (R : Value → World → Prop) (a : Int) (w : World) : wpf (V92.cfg B) (V92.cuts B R) V92.code V92.h [] (postOf Try.prog B (Try.f92.results.toList) R) (argE 0 [.int .i64 a]) [] w = V92.vc B R a w := by kernel_rfl
theorem V92.obl (B : Nat) (R : Value → World → Prop) : oblP (V92.cfg B) (V92.cuts B R) V92.code V92.h [] (postOf Try.prog B (Try.f92.results.toList) R) := by
  have e : oblP (V92.cfg B) (V92.cuts B R) V92.code V92.h [] (postOf Try.prog B (Try.f92.results.toList) R) = (True ∧ ((True ∧ ((True ∧ True) ∧ True)) ∧ (True ∧ True))) := by kernel_rfl
  rw [e]
  exact ⟨trivial, ⟨⟨trivial, ⟨⟨trivial, trivial⟩, trivial⟩⟩, ⟨trivial, trivial⟩⟩⟩
theorem V92.cfgOk (B : Nat) : CfgOk (V92.cfg B) := cfgOk_of (by kernel_rfl) (by kernel_rfl)
theorem V92.sound {a : Int} {w : World} {R : Value → World → Prop} (h : V92.vc w.heap.size R a w) : Calls Try.prog 92 ⟨[.int .i64 a]⟩ w fun e w' => ∃ v, e = .returned v ∧ R v w' :=
  calls_wpfP (c := V92.cfg w.heap.size) (fn := Try.f92) (x := V92.code) (V92.cuts w.heap.size R) V92.h (V92.cfgOk _) mixed Try.func92 (by kernel_rfl) (by kernel_rfl) (by kernel_rfl) rfl (V92.obl _ _) ((V92.vc_eq _ _ a _).symm ▸ h)
def V93.vc (B : Nat) (R : Value → World → Prop) (a : Addr) (w : World) : Prop :=
  ∃ (c : Option Addr) (d f : Nat), w.cell? (a.add 0) = some (.slice c d f) ∧
  Ret B w (R (.int .i64 (d : Int)))
noncomputable def V93.cfg (B : Nat) : Cfg := ⟨Try.prog, ⟨10, B⟩, [], hasN [], hasN []⟩
noncomputable def V93.code : Code := (Try.f93.body).getD .skip
noncomputable def V93.cuts (B : Nat) (R : Value → World → Prop) : Nat → Cut := nthC []
noncomputable def V93.h : H := .s (.z) (.s (.s (.z) (.c (.s (.z) (.z)) (.z))) (.s (.z) (.z)))
theorem V93.vc_eq (B : Nat) (R : Value → World → Prop) (a : Addr) (w : World) : wpf (V93.cfg B) (V93.cuts B R) V93.code V93.h [] (postOf Try.prog B (Try.f93.results.toList) R) (argE 0 [.pointer (some a)]) [] w = V93.vc B R a w := by kernel_rfl
theorem V93.obl (B : Nat) (R : Value → World → Prop) : oblP (V93.cfg B) (V93.cuts B R) V93.code V93.h [] (postOf Try.prog B (Try.f93.results.toList) R) := by
  have e : oblP (V93.cfg B) (V93.cuts B R) V93.code V93.h [] (postOf Try.prog B (Try.f93.results.toList) R) = (True ∧ ((True ∧ ((True ∧ True) ∧ True)) ∧ (True ∧ True))) := by kernel_rfl
  rw [e]
  exact ⟨trivial, ⟨⟨trivial, ⟨⟨trivial, trivial⟩, trivial⟩⟩, ⟨trivial, trivial⟩⟩⟩
theorem V93.cfgOk (B : Nat) : CfgOk (V93.cfg B) := cfgOk_of (by kernel_rfl) (by kernel_rfl)
theorem V93.sound {a : Addr} {w : World} {R : Value → World → Prop} (h : V93.vc w.heap.size R a w) : Calls Try.prog 93 ⟨[.pointer (some a)]⟩ w fun e w' => ∃ v, e = .returned v ∧ R v w' :=
  calls_wpfP (c := V93.cfg w.heap.size) (fn := Try.f93) (x := V93.code) (V93.cuts w.heap.size R) V93.h (V93.cfgOk _) mixed Try.func93 (by kernel_rfl) (by kernel_rfl) (by kernel_rfl) rfl (V93.obl _ _) ((V93.vc_eq _ _ a _).symm ▸ h)
def V94.vc (B : Nat) (R : Value → World → Prop) (a : Addr) (c d : Int) (w : World) : Prop :=
  CallK Try.prog 105 [.pointer (some a), .int .i64 c, .int .i64 d] B w [] fun v f => 
  ∃ (g : Option Addr) (i j : Nat) (l : Int), v = .tuple ⟨[.slice g i j, .int .i64 l]⟩ ∧
  CallK Try.prog 124 [.slice g i j] B f [] fun m n => 
  ∃ (o : Option Addr) (p q : Nat), m = .slice o p q ∧
  Ret B n (R (.tuple ⟨[.slice o p q, .int .i64 l]⟩))
noncomputable def V94.cfg (B : Nat) : Cfg := ⟨Try.prog, ⟨20, B⟩, [], hasN [105, 124], hasN []⟩
noncomputable def V94.code : Code := (Try.f94.body).getD .skip
noncomputable def V94.cuts (B : Nat) (R : Value → World → Prop) : Nat → Cut := nthC []
noncomputable def V94.h : H := .s (.z) (.s (.z) (.s (.z) (.z)))
theorem V94.vc_eq (B : Nat) (R : Value → World → Prop) (a : Addr) (c d : Int) (w : World) : wpf (V94.cfg B) (V94.cuts B R) V94.code V94.h [] (postOf Try.prog B (Try.f94.results.toList) R) (argE 0 [.pointer (some a), .int .i64 c, .int .i64 d]) [] w = V94.vc B R a c d w := by kernel_rfl
theorem V94.obl (B : Nat) (R : Value → World → Prop) : oblP (V94.cfg B) (V94.cuts B R) V94.code V94.h [] (postOf Try.prog B (Try.f94.results.toList) R) := by
  have e : oblP (V94.cfg B) (V94.cuts B R) V94.code V94.h [] (postOf Try.prog B (Try.f94.results.toList) R) = (True ∧ (True ∧ (True ∧ True))) := by kernel_rfl
  rw [e]
  exact ⟨trivial, ⟨trivial, ⟨trivial, trivial⟩⟩⟩
theorem V94.cfgOk (B : Nat) : CfgOk (V94.cfg B) := cfgOk_of (by kernel_rfl) (by kernel_rfl)
theorem V94.sound {a : Addr} {d f : Int} {w : World} {R : Value → World → Prop} (h : V94.vc w.heap.size R a d f w) : Calls Try.prog 94 ⟨[.pointer (some a), .int .i64 d, .int .i64 f]⟩ w fun e w' => ∃ v, e = .returned v ∧ R v w' :=
  calls_wpfP (c := V94.cfg w.heap.size) (fn := Try.f94) (x := V94.code) (V94.cuts w.heap.size R) V94.h (V94.cfgOk _) mixed Try.func94 (by kernel_rfl) (by kernel_rfl) (by kernel_rfl) rfl (V94.obl _ _) ((V94.vc_eq _ _ a d f _).symm ▸ h)
def V95.vc (B : Nat) (R : Value → World → Prop) (a : Option Addr) (c d : Nat) (f g : Int) (w : World) : Prop :=
  if (decide (f ≥ 0)) = true
  then (if (decide (f ≤ (c : Int))) = true
   then (Ret B w (R (.bool (decide (g ≤ IntKind.wrap .i64 ((c : Int) - f))))))
   else (Ret B w (R (.bool false))))
  else (Ret B w (R (.bool false)))
noncomputable def V95.cfg (B : Nat) : Cfg := ⟨Try.prog, ⟨23, B⟩, [], hasN [], hasN []⟩
noncomputable def V95.code : Code := (Try.f95.body).getD .skip
noncomputable def V95.cuts (B : Nat) (R : Value → World → Prop) : Nat → Cut := nthC []
noncomputable def V95.h : H := .s (.z) (.s (.z) (.z))
theorem V95.vc_eq (B : Nat) (R : Value → World → Prop) (a : Option Addr) (c d : Nat) (f g : Int) (w : World) : wpf (V95.cfg B) (V95.cuts B R) V95.code V95.h [] (postOf Try.prog B (Try.f95.results.toList) R) (argE 0 [.slice a c d, .int .i64 f, .int .i64 g]) [] w = V95.vc B R a c d f g w := by kernel_rfl
theorem V95.obl (B : Nat) (R : Value → World → Prop) : oblP (V95.cfg B) (V95.cuts B R) V95.code V95.h [] (postOf Try.prog B (Try.f95.results.toList) R) := by
  have e : oblP (V95.cfg B) (V95.cuts B R) V95.code V95.h [] (postOf Try.prog B (Try.f95.results.toList) R) = (True ∧ (True ∧ True)) := by kernel_rfl
  rw [e]
  exact ⟨trivial, ⟨trivial, trivial⟩⟩
theorem V95.cfgOk (B : Nat) : CfgOk (V95.cfg B) := cfgOk_of (by kernel_rfl) (by kernel_rfl)
theorem V95.sound {a : Option Addr} {d f : Nat} {g i : Int} {w : World} {R : Value → World → Prop} (h : V95.vc w.heap.size R a d f g i w) : Calls Try.prog 95 ⟨[.slice a d f, .int .i64 g, .int .i64 i]⟩ w fun e w' => ∃ v, e = .returned v ∧ R v w' :=
  calls_wpfP (c := V95.cfg w.heap.size) (fn := Try.f95) (x := V95.code) (V95.cuts w.heap.size R) V95.h (V95.cfgOk _) mixed Try.func95 (by kernel_rfl) (by kernel_rfl) (by kernel_rfl) rfl (V95.obl _ _) ((V95.vc_eq _ _ a d f g i _).symm ▸ h)
def V102.l0 (B : Nat) (R : Value → World → Prop) : Nat → Int → Option Addr → Nat → Nat → Int → Int → Int → World → Prop
  | 0 => fun _ _ _ _ _ _ _ _ => False
  | k + 1 => fun a c d f g i j w =>
    if (decide (j < i)) = true
    then (∃ l : Addr, c = some l ∧ (0 : Int) ≤ j ∧ j < (d : Int) ∧
    (∃ u, w.cell? ((l.add j.toNat).add 0) = some u) ∧ w.frozen? ((l.add j.toNat).add 0) = false ∧
    let m := w.setCell ((l.add j.toNat).add 0) (.int .u64 a);
    (V102.l0 B R k) a c d f g i (IntKind.wrap .i64 (j + 1)) m)
    else (Ret B w (R (.int .i64 g)))
def V102.vc (B : Nat) (R : Value → World → Prop) (a : Addr) (c d f : Int) (w : World) : Prop :=
  CallK Try.prog 105 [.pointer (some a), .int .i64 c, .int .i64 d] B w [] fun v g => 
  ∃ (i : Option Addr) (j l : Nat) (m : Int), v = .tuple ⟨[.slice i j l, .int .i64 m]⟩ ∧
  ∃ n, V102.l0 B R n f i j l m (j : Int) 0 g
noncomputable def V102.cfg (B : Nat) : Cfg := ⟨Try.prog, ⟨30, B⟩, [], hasN [105], hasN []⟩
noncomputable def V102.code : Code := (Try.f102.body).getD .skip
noncomputable def V102.cuts (B : Nat) (R : Value → World → Prop) : Nat → Cut := nthC [⟨[(3, .one (.int .u64)), (9, .one (.slice)), (10, .one (.int .i64)), (20, .one (.int .i64)), (21, .one (.int .i64))], [], fun fs vs bs w => V102.l0 B R (nthN fs 0) (iV (nthV vs 0)) (slA (nthV vs 1)) (slL (nthV vs 1)) (slC (nthV vs 1)) (iV (nthV vs 2)) (iV (nthV vs 3)) (iV (nthV vs 4)) w⟩]
noncomputable def V102.h : H := .s (.z) (.s (.z) (.s (.s (.z) (.b (.l 0 (.s (.z) (.s (.c (.z) (.z)) (.s (.b (.s (.z) (.z))) (.z))))))) (.s (.z) (.z))))
theorem V102.vc_eq (B : Nat) (R : Value → World → Prop) (a : Addr) (c d f : Int) (w : World) : wpf (V102.cfg B) (V102.cuts B R) V102.code V102.h [] (postOf Try.prog B (Try.f102.results.toList) R) (argE 0 [.pointer (some a), .int .i64 c, .int .i64 d, .int .u64 f]) [] w = V102.vc B R a c d f w := by kernel_rfl
theorem V102.obl (B : Nat) (R : Value → World → Prop) : oblP (V102.cfg B) (V102.cuts B R) V102.code V102.h [] (postOf Try.prog B (Try.f102.results.toList) R) := by
  have e : oblP (V102.cfg B) (V102.cuts B R) V102.code V102.h [] (postOf Try.prog B (Try.f102.results.toList) R) = (True ∧ (True ∧ ((True ∧ ((∀ (a : Int) (c : Option Addr) (d f : Nat) (g i j : Int) (w : World), ¬ V102.l0 B R 0 a c d f g i j w) ∧ (∀ l, ∀ (a : Int) (c : Option Addr) (d f : Nat) (g i j : Int) (w : World), V102.l0 B R (l + 1) a c d f g i j w → V102.l0 B R (l + 1) a c d f g i j w) ∧ ∀ l : Nat, (True ∧ ((True ∧ True) ∧ ((True ∧ True) ∧ True))))) ∧ (True ∧ True)))) := by kernel_rfl
  rw [e]
  exact ⟨trivial, ⟨trivial, ⟨⟨trivial, ⟨fun a c d f g i j w h => h, fun _ a c d f g i j w h => h, fun l => ⟨trivial, ⟨⟨trivial, trivial⟩, ⟨⟨trivial, trivial⟩, trivial⟩⟩⟩⟩⟩, ⟨trivial, trivial⟩⟩⟩⟩
theorem V102.cfgOk (B : Nat) : CfgOk (V102.cfg B) := cfgOk_of (by kernel_rfl) (by kernel_rfl)
theorem V102.sound {a : Addr} {d f g : Int} {w : World} {R : Value → World → Prop} (h : V102.vc w.heap.size R a d f g w) : Calls Try.prog 102 ⟨[.pointer (some a), .int .i64 d, .int .i64 f, .int .u64 g]⟩ w fun e w' => ∃ v, e = .returned v ∧ R v w' :=
  calls_wpfP (c := V102.cfg w.heap.size) (fn := Try.f102) (x := V102.code) (V102.cuts w.heap.size R) V102.h (V102.cfgOk _) mixed Try.func102 (by kernel_rfl) (by kernel_rfl) (by kernel_rfl) rfl (V102.obl _ _) ((V102.vc_eq _ _ a d f g _).symm ▸ h)
def V103.l0 (B : Nat) (R : Value → World → Prop) : Nat → Addr → Int → Option Addr → Nat → Nat → Int → Int → World → Prop
  | 0 => fun _ _ _ _ _ _ _ _ => False
  | k + 1 => fun a c d f g i j w =>
    if (decide (j < i)) = true
    then (∃ l : Addr, d = some l ∧ (0 : Int) ≤ j ∧ j < (f : Int) ∧
    ∃ m : Int, w.cell? (l.add j.toNat) = some (.int .u64 m) ∧
    CallK Try.prog 70 [.pointer (some a), .int .i64 (IntKind.wrap .i64 (c + j)), .int .u64 m] B w [] fun v n => 
     ∃ o : Int, v = .int .i64 o ∧ (V103.l0 B R k) a c d f g i (IntKind.wrap .i64 (j + 1)) n)
    else (Ret B w (R (.tuple ⟨[]⟩)))
def V103.vc (B : Nat) (R : Value → World → Prop) (a : Addr) (c : Int) (d : Option Addr) (f g : Nat) (w : World) : Prop :=
  ∃ i, V103.l0 B R i a c d f g (f : Int) 0 w
noncomputable def V103.cfg (B : Nat) : Cfg := ⟨Try.prog, ⟨22, B⟩, [], hasN [70], hasN []⟩
noncomputable def V103.code : Code := (Try.f103.body).getD .skip
noncomputable def V103.cuts (B : Nat) (R : Value → World → Prop) : Nat → Cut := nthC [⟨[(0, .one (.ptr)), (1, .one (.int .i64)), (8, .one (.slice)), (9, .one (.int .i64)), (10, .one (.int .i64))], [], fun fs vs bs w => V103.l0 B R (nthN fs 0) (pV (nthV vs 0)) (iV (nthV vs 1)) (slA (nthV vs 2)) (slL (nthV vs 2)) (slC (nthV vs 2)) (iV (nthV vs 3)) (iV (nthV vs 4)) w⟩]
noncomputable def V103.h : H := .s (.z) (.b (.l 0 (.s (.z) (.s (.c (.z) (.z)) (.s (.b (.s (.z) (.z))) (.z))))))
theorem V103.vc_eq (B : Nat) (R : Value → World → Prop) (a : Addr) (c : Int) (d : Option Addr) (f g : Nat) (w : World) : wpf (V103.cfg B) (V103.cuts B R) V103.code V103.h [] (postOf Try.prog B (Try.f103.results.toList) R) (argE 0 [.pointer (some a), .int .i64 c, .slice d f g]) [] w = V103.vc B R a c d f g w := by kernel_rfl
theorem V103.obl (B : Nat) (R : Value → World → Prop) : oblP (V103.cfg B) (V103.cuts B R) V103.code V103.h [] (postOf Try.prog B (Try.f103.results.toList) R) := by
  have e : oblP (V103.cfg B) (V103.cuts B R) V103.code V103.h [] (postOf Try.prog B (Try.f103.results.toList) R) = (True ∧ ((∀ (a : Addr) (c : Int) (d : Option Addr) (f g : Nat) (i j : Int) (w : World), ¬ V103.l0 B R 0 a c d f g i j w) ∧ (∀ l, ∀ (a : Addr) (c : Int) (d : Option Addr) (f g : Nat) (i j : Int) (w : World), V103.l0 B R (l + 1) a c d f g i j w → V103.l0 B R (l + 1) a c d f g i j w) ∧ ∀ l : Nat, (True ∧ ((True ∧ True) ∧ ((True ∧ True) ∧ True))))) := by kernel_rfl
  rw [e]
  exact ⟨trivial, ⟨fun a c d f g i j w h => h, fun _ a c d f g i j w h => h, fun l => ⟨trivial, ⟨⟨trivial, trivial⟩, ⟨⟨trivial, trivial⟩, trivial⟩⟩⟩⟩⟩
theorem V103.cfgOk (B : Nat) : CfgOk (V103.cfg B) := cfgOk_of (by kernel_rfl) (by kernel_rfl)
theorem V103.sound {a : Addr} {d : Int} {f : Option Addr} {g i : Nat} {w : World} {R : Value → World → Prop} (h : V103.vc w.heap.size R a d f g i w) : Calls Try.prog 103 ⟨[.pointer (some a), .int .i64 d, .slice f g i]⟩ w fun e w' => ∃ v, e = .returned v ∧ R v w' :=
  calls_wpfP (c := V103.cfg w.heap.size) (fn := Try.f103) (x := V103.code) (V103.cuts w.heap.size R) V103.h (V103.cfgOk _) mixed Try.func103 (by kernel_rfl) (by kernel_rfl) (by kernel_rfl) rfl (V103.obl _ _) ((V103.vc_eq _ _ a d f g i _).symm ▸ h)
def V104.vc (B : Nat) (R : Value → World → Prop) (a : Option Addr) (c d : Nat) (w : World) : Prop :=
  Expo B w [] fun f => 
  let g := f.alloc (.cells ⟨[]⟩ 51);
  RunK Try.prog (Builtin.append_ #[50, 50] 50 ⟨[.slice (some ⟨f.heap.size, 0, none⟩) 0 0, .slice a c d]⟩) B g [] fun v i => 
  ∃ (j : Option Addr) (l m : Nat), v = .slice j l m ∧
  Ret B i (R (.slice j l m))
noncomputable def V104.cfg (B : Nat) : Cfg := ⟨Try.prog, ⟨6, B⟩, [], hasN [], hasN []⟩
noncomputable def V104.code : Code := (Try.f104.body).getD .skip
noncomputable def V104.cuts (B : Nat) (R : Value → World → Prop) : Nat → Cut := nthC []
noncomputable def V104.h : H := .s (.z) (.s (.z) (.z))
theorem V104.vc_eq (B : Nat) (R : Value → World → Prop) (a : Option Addr) (c d : Nat) (w : World) : wpf (V104.cfg B) (V104.cuts B R) V104.code V104.h [] (postOf Try.prog B (Try.f104.results.toList) R) (argE 0 [.slice a c d]) [] w = V104.vc B R a c d w := by kernel_rfl
theorem V104.obl (B : Nat) (R : Value → World → Prop) : oblP (V104.cfg B) (V104.cuts B R) V104.code V104.h [] (postOf Try.prog B (Try.f104.results.toList) R) := by
  have e : oblP (V104.cfg B) (V104.cuts B R) V104.code V104.h [] (postOf Try.prog B (Try.f104.results.toList) R) = (True ∧ (True ∧ True)) := by kernel_rfl
  rw [e]
  exact ⟨trivial, ⟨trivial, trivial⟩⟩
theorem V104.cfgOk (B : Nat) : CfgOk (V104.cfg B) := cfgOk_of (by kernel_rfl) (by kernel_rfl)
theorem V104.sound {a : Option Addr} {d f : Nat} {w : World} {R : Value → World → Prop} (h : V104.vc w.heap.size R a d f w) : Calls Try.prog 104 ⟨[.slice a d f]⟩ w fun e w' => ∃ v, e = .returned v ∧ R v w' :=
  calls_wpfP (c := V104.cfg w.heap.size) (fn := Try.f104) (x := V104.code) (V104.cuts w.heap.size R) V104.h (V104.cfgOk _) mixed Try.func104 (by kernel_rfl) (by kernel_rfl) (by kernel_rfl) rfl (V104.obl _ _) ((V104.vc_eq _ _ a d f _).symm ▸ h)
def V105.vc (B : Nat) (R : Value → World → Prop) (c : Addr) (d f : Int) (w : World) : Prop :=
  if (decide (d < 0)) = false
  then (if (decide (f < 0)) = false
   then (∃ (g : Option Addr) (i j : Nat), w.cell? (c.add 0) = some (.slice g i j) ∧
   if (decide (d > (i : Int))) = false
    then (∃ (l : Option Addr) (m n : Nat), w.cell? (c.add 0) = some (.slice l m n) ∧
    if (decide (f > IntKind.wrap .i64 ((m : Int) - d))) = true
     then (Ret B w (R (.tuple ⟨[.slice none 0 0, .int .i64 1]⟩)))
     else (∃ (o : Option Addr) (p q : Nat), w.cell? (c.add 0) = some (.slice o p q) ∧ (0 : Int) ≤ IntKind.wrap .i64 (d + f) ∧ IntKind.wrap .i64 (d + f) ≤ (q : Int) ∧ (0 : Int) ≤ d ∧ d ≤ (((IntKind.wrap .i64 (d + f)).toNat : Nat) : Int) ∧
     Ret B w (R (.tuple ⟨[.slice (if q = d.toNat then o else Option.map (fun a => a.add d.toNat) o) (((IntKind.wrap .i64 (d + f)).toNat) - d.toNat) (q - d.toNat), .int .i64 0]⟩))))
    else (Ret B w (R (.tuple ⟨[.slice none 0 0, .int .i64 1]⟩))))
   else (Ret B w (R (.tuple ⟨[.slice none 0 0, .int .i64 1]⟩))))
  else (Ret B w (R (.tuple ⟨[.slice none 0 0, .int .i64 1]⟩)))
noncomputable def V105.cfg (B : Nat) : Cfg := ⟨Try.prog, ⟨47, B⟩, [], hasN [], hasN []⟩
noncomputable def V105.code : Code := (Try.f105.body).getD .skip
noncomputable def V105.cuts (B : Nat) (R : Value → World → Prop) : Nat → Cut := nthC []
noncomputable def V105.h : H := .s (.z) (.s (.b (.s (.z) (.c (.s (.z) (.z)) (.s (.z) (.c (.s (.z) (.z)) (.z)))))) (.s (.z) (.z)))
theorem V105.vc_eq (B : Nat) (R : Value → World → Prop) (a : Addr) (c d : Int) (w : World) : wpf (V105.cfg B) (V105.cuts B R) V105.code V105.h [] (postOf Try.prog B (Try.f105.results.toList) R) (argE 0 [.pointer (some a), .int .i64 c, .int .i64 d]) [] w = V105.vc B R a c d w := by kernel_rfl
theorem V105.obl (B : Nat) (R : Value → World → Prop) : oblP (V105.cfg B) (V105.cuts B R) V105.code V105.h [] (postOf Try.prog B (Try.f105.results.toList) R) := by
  have e : oblP (V105.cfg B) (V105.cuts B R) V105.code V105.h [] (postOf Try.prog B (Try.f105.results.toList) R) = (True ∧ ((True ∧ ((True ∧ True) ∧ (True ∧ ((True ∧ True) ∧ True)))) ∧ (True ∧ True))) := by kernel_rfl
  rw [e]
  exact ⟨trivial, ⟨⟨trivial, ⟨⟨trivial, trivial⟩, ⟨trivial, ⟨⟨trivial, trivial⟩, trivial⟩⟩⟩⟩, ⟨trivial, trivial⟩⟩⟩
theorem V105.cfgOk (B : Nat) : CfgOk (V105.cfg B) := cfgOk_of (by kernel_rfl) (by kernel_rfl)
theorem V105.sound {a : Addr} {d f : Int} {w : World} {R : Value → World → Prop} (h : V105.vc w.heap.size R a d f w) : Calls Try.prog 105 ⟨[.pointer (some a), .int .i64 d, .int .i64 f]⟩ w fun e w' => ∃ v, e = .returned v ∧ R v w' :=
  calls_wpfP (c := V105.cfg w.heap.size) (fn := Try.f105) (x := V105.code) (V105.cuts w.heap.size R) V105.h (V105.cfgOk _) mixed Try.func105 (by kernel_rfl) (by kernel_rfl) (by kernel_rfl) rfl (V105.obl _ _) ((V105.vc_eq _ _ a d f _).symm ▸ h)
def V124.vc (B : Nat) (R : Value → World → Prop) (a : Option Addr) (c d : Nat) (w : World) : Prop :=
  if (Option.isNone a) = true
  then (Ret B w (R (.slice none 0 0)))
  else (Expo B w [] fun f => 
   let g := f.alloc (.cells ⟨[]⟩ 51);
   RunK Try.prog (Builtin.append_ #[50, 50] 50 ⟨[.slice (some ⟨f.heap.size, 0, none⟩) 0 0, .slice a c d]⟩) B g [] fun v i => 
   ∃ (j : Option Addr) (l m : Nat), v = .slice j l m ∧
   Ret B i (R (.slice j l m)))
noncomputable def V124.cfg (B : Nat) : Cfg := ⟨Try.prog, ⟨8, B⟩, [], hasN [], hasN []⟩
noncomputable def V124.code : Code := (Try.f124.body).getD .skip
noncomputable def V124.cuts (B : Nat) (R : Value → World → Prop) : Nat → Cut := nthC []
noncomputable def V124.h : H := .s (.z) (.s (.s (.z) (.c (.s (.z) (.z)) (.z))) (.s (.z) (.z)))
theorem V124.vc_eq (B : Nat) (R : Value → World → Prop) (a : Option Addr) (c d : Nat) (w : World) : wpf (V124.cfg B) (V124.cuts B R) V124.code V124.h [] (postOf Try.prog B (Try.f124.results.toList) R) (argE 0 [.slice a c d]) [] w = V124.vc B R a c d w := by kernel_rfl
theorem V124.obl (B : Nat) (R : Value → World → Prop) : oblP (V124.cfg B) (V124.cuts B R) V124.code V124.h [] (postOf Try.prog B (Try.f124.results.toList) R) := by
  have e : oblP (V124.cfg B) (V124.cuts B R) V124.code V124.h [] (postOf Try.prog B (Try.f124.results.toList) R) = (True ∧ ((True ∧ ((True ∧ True) ∧ True)) ∧ (True ∧ True))) := by kernel_rfl
  rw [e]
  exact ⟨trivial, ⟨⟨trivial, ⟨⟨trivial, trivial⟩, trivial⟩⟩, ⟨trivial, trivial⟩⟩⟩
theorem V124.cfgOk (B : Nat) : CfgOk (V124.cfg B) := cfgOk_of (by kernel_rfl) (by kernel_rfl)
theorem V124.sound {a : Option Addr} {d f : Nat} {w : World} {R : Value → World → Prop} (h : V124.vc w.heap.size R a d f w) : Calls Try.prog 124 ⟨[.slice a d f]⟩ w fun e w' => ∃ v, e = .returned v ∧ R v w' :=
  calls_wpfP (c := V124.cfg w.heap.size) (fn := Try.f124) (x := V124.code) (V124.cuts w.heap.size R) V124.h (V124.cfgOk _) mixed Try.func124 (by kernel_rfl) (by kernel_rfl) (by kernel_rfl) rfl (V124.obl _ _) ((V124.vc_eq _ _ a d f _).symm ▸ h)
end Go.Proofs.Ytlccbaemcfjdoaa
