import Derived.Test.YtidcpndlloppdaaGreatDoorZMB
/-
  What the engine makes of the loaded functions 20, 8, 12, 11, 5: conditions under which a call returns as told, and proofs of that.
  Conditions: none. Printed by a program of this project.
-/
set_option linter.unusedVariables false
set_option maxRecDepth 100000
namespace Go.Proofs.YtidcpndlloppdaaGreatDoor
def V20.b2 (B : Nat) (R : Value → World → Prop) (a : Addr) (w : World) : Prop :=
  CallK Tryz.prog 39 [.pointer (some a)] B w [] fun v c => 
  ∃ (d : Option Addr) (f g : Nat), v = .slice d f g ∧
  CallK Tryz.prog 36 [.pointer (some a)] B c [] fun i j => 
  ∃ l : Bool, i = .bool l ∧
  Ret B j (R (.tuple ⟨[.slice d f g, .bool l, .bool true]⟩))
def V20.l1 (B : Nat) (R : Value → World → Prop) : Nat → Addr → Int → World → Prop
  | 0 => fun _ _ _ => False
  | k + 1 => fun a c w =>
    if (decide (c > 0)) = true
    then (CallK Tryz.prog 36 [.pointer (some a)] B w [] fun v d => 
     ∃ f : Bool, v = .bool f ∧
     if (!f) = true
     then (CallK Tryz.prog 37 [.pointer (some a)] B d [] fun g i => 
      ∃ j : Int, g = .int .i64 j ∧
      CallK Tryz.prog 38 [.pointer (some a)] B i [] fun l m => 
      l = .tuple ⟨[]⟩ ∧ (V20.l1 B R k) a (IntKind.wrap .i64 (c - 1)) m)
     else (V20.b2 B R a d))
    else (V20.b2 B R a w)
def V20.b0 (B : Nat) (R : Value → World → Prop) (a : Int) (c : Addr) (w : World) : Prop :=
  ∃ d, V20.l1 B R d c (if 1048576 < a then 1048576 else a) w
def V20.vc (B : Nat) (R : Value → World → Prop) (a : Option Addr) (c d : Nat) (f g : Int) (w : World) : Prop :=
  ∀ i : Nat, w.heap.size ≤ i →
  CallK Tryz.prog 35 [.agg ⟨[.slice a c d]⟩, .int .i64 f] B w [i] fun v j => 
  ∃ l : Option Addr, v = .pointer l ∧
  caseP l
  (False)
  (fun m => V20.b0 B R g m j)
noncomputable def V20.cfg (B : Nat) : Cfg := ⟨Tryz.prog, ⟨35, B⟩, [], hasN [35, 36, 37, 38, 39], hasN [], look []⟩
noncomputable def V20.code : Code := (Tryz.f20.body).getD .skip
noncomputable def V20.cuts (B : Nat) (R : Value → World → Prop) : Nat → Cut := nthC [⟨[(2, .one (.int .i64)), (9, .one (.ptr))], [], fun fs vs bs w => V20.b0 B R (iV (nthV vs 0)) (pV (nthV vs 1)) w⟩,
  ⟨[(9, .one (.ptr)), (10, .one (.int .i64))], [], fun fs vs bs w => V20.l1 B R (nthN fs 0) (pV (nthV vs 0)) (iV (nthV vs 1)) w⟩,
  ⟨[(9, .one (.ptr))], [], fun fs vs bs w => V20.b2 B R (pV (nthV vs 0)) w⟩]
noncomputable def V20.h : H := .s (.z) (.cut 0 (.z) (.s (.s (.z) (.c (.s (.z) (.z)) (.z))) (.cut 2 (.s (.z) (.b (.l 1 (.s (.s (.z) (.c (.z) (.z))) (.s (.b (.s (.z) (.z))) (.z)))))) (.s (.z) (.z)))))
theorem V20.vc_eq (B : Nat) (R : Value → World → Prop) (a : Option Addr) (c d : Nat) (f g : Int) (w : World) : wpf (V20.cfg B) (V20.cuts B R) V20.code V20.h [] (postOf Tryz.prog B (Tryz.f20.results.toList) R) (argE 0 [.agg ⟨[.slice a c d]⟩, .int .i64 f, .int .i64 g]) [] w = V20.vc B R a c d f g w := by kernel_rfl
theorem V20.obl (B : Nat) (R : Value → World → Prop) : oblP (V20.cfg B) (V20.cuts B R) V20.code V20.h [] (postOf Tryz.prog B (Tryz.f20.results.toList) R) := by
  have e : oblP (V20.cfg B) (V20.cuts B R) V20.code V20.h [] (postOf Tryz.prog B (Tryz.f20.results.toList) R) = (True ∧ (True ∧ (∀ (a : Int) (c : Addr) (w : World), V20.b0 B R a c w → V20.b0 B R a c w) ∧ ((True ∧ ((True ∧ True) ∧ True)) ∧ ((True ∧ ((∀ (c : Addr) (d : Int) (w : World), ¬ V20.l1 B R 0 c d w) ∧ (∀ f, ∀ (c : Addr) (d : Int) (w : World), V20.l1 B R (f + 1) c d w → V20.l1 B R (f + 1) c d w) ∧ ∀ f : Nat, ((True ∧ (True ∧ True)) ∧ ((True ∧ True) ∧ True)))) ∧ (∀ (c : Addr) (w : World), V20.b2 B R c w → V20.b2 B R c w) ∧ (True ∧ True))))) := by kernel_rfl
  exact e.mpr (⟨trivial, ⟨trivial, fun a c w h => h, ⟨⟨trivial, ⟨⟨trivial, trivial⟩, trivial⟩⟩, ⟨⟨trivial, ⟨fun c d w h => h, fun _ c d w h => h, fun f => ⟨⟨trivial, ⟨trivial, trivial⟩⟩, ⟨⟨trivial, trivial⟩, trivial⟩⟩⟩⟩, fun c w h => h, ⟨trivial, trivial⟩⟩⟩⟩⟩)
theorem V20.cfgOk (B : Nat) : CfgOk (V20.cfg B) := cfgOk_of (by kernel_rfl) (by kernel_rfl) extNil
theorem V20.sound {a : Option Addr} {d f : Nat} {g i : Int} {w : World} {R : Value → World → Prop} (h : V20.vc w.heap.size R a d f g i w) : Calls Tryz.prog 20 ⟨[.agg ⟨[.slice a d f]⟩, .int .i64 g, .int .i64 i]⟩ w fun e w' => ∃ v, e = .returned v ∧ R v w' :=
  calls_wpfP (c := V20.cfg w.heap.size) (fn := Tryz.f20) (x := V20.code) (V20.cuts w.heap.size R) V20.h (V20.cfgOk _) mixed Tryz.func20 (by kernel_rfl) (by kernel_rfl) (by kernel_rfl) rfl (V20.obl _ _) ((V20.vc_eq _ _ a d f g i _).symm ▸ h)
def V8.vc (B : Nat) (R : Value → World → Prop) (a : Option Addr) (c d : Nat) (f g : Int) (w : World) : Prop :=
  ∀ i : Nat, w.heap.size ≤ i →
  CallK Tryz.prog 20 [.agg ⟨[.slice a c d]⟩, .int .i64 f, .int .i64 g] B w [i] fun v j => 
  ∃ (l : Option Addr) (m n : Nat) (o p : Bool), v = .tuple ⟨[.slice l m n, .bool o, .bool p]⟩ ∧
  Ret B j (R (.tuple ⟨[.slice l m n, .bool o]⟩))
noncomputable def V8.cfg (B : Nat) : Cfg := ⟨Tryz.prog, ⟨21, B⟩, [], hasN [20], hasN [], look []⟩
noncomputable def V8.code : Code := (Tryz.f8.body).getD .skip
noncomputable def V8.cuts (B : Nat) (R : Value → World → Prop) : Nat → Cut := nthC []
noncomputable def V8.h : H := .s (.z) (.s (.z) (.s (.z) (.z)))
theorem V8.vc_eq (B : Nat) (R : Value → World → Prop) (a : Option Addr) (c d : Nat) (f g : Int) (w : World) : wpf (V8.cfg B) (V8.cuts B R) V8.code V8.h [] (postOf Tryz.prog B (Tryz.f8.results.toList) R) (argE 0 [.agg ⟨[.slice a c d]⟩, .int .i64 f, .int .i64 g]) [] w = V8.vc B R a c d f g w := by kernel_rfl
theorem V8.obl (B : Nat) (R : Value → World → Prop) : oblP (V8.cfg B) (V8.cuts B R) V8.code V8.h [] (postOf Tryz.prog B (Tryz.f8.results.toList) R) := by
  have e : oblP (V8.cfg B) (V8.cuts B R) V8.code V8.h [] (postOf Tryz.prog B (Tryz.f8.results.toList) R) = (True ∧ (True ∧ (True ∧ True))) := by kernel_rfl
  exact e.mpr (⟨trivial, ⟨trivial, ⟨trivial, trivial⟩⟩⟩)
theorem V8.cfgOk (B : Nat) : CfgOk (V8.cfg B) := cfgOk_of (by kernel_rfl) (by kernel_rfl) extNil
theorem V8.sound {a : Option Addr} {d f : Nat} {g i : Int} {w : World} {R : Value → World → Prop} (h : V8.vc w.heap.size R a d f g i w) : Calls Tryz.prog 8 ⟨[.agg ⟨[.slice a d f]⟩, .int .i64 g, .int .i64 i]⟩ w fun e w' => ∃ v, e = .returned v ∧ R v w' :=
  calls_wpfP (c := V8.cfg w.heap.size) (fn := Tryz.f8) (x := V8.code) (V8.cuts w.heap.size R) V8.h (V8.cfgOk _) mixed Tryz.func8 (by kernel_rfl) (by kernel_rfl) (by kernel_rfl) rfl (V8.obl _ _) ((V8.vc_eq _ _ a d f g i _).symm ▸ h)
def V12.b1 (B : Nat) (R : Value → World → Prop) (c : Option Addr) (d f : Nat) (g : Option Addr) (i j : Nat) (l : Int) (m : Bool) (w : World) : Prop :=
  if m = true
  then ((0 : Int) ≤ IntKind.wrap .i64 (l - 1) ∧ IntKind.wrap .i64 (l - 1) ≤ (f : Int) ∧
  CallK Tryz.prog 15 [.slice (if f = 0 then c else Option.map (fun a => a.add (0 * 2)) c) (((IntKind.wrap .i64 (l - 1)).toNat) - 0) (f - 0), .slice g i j] B w [] fun v n => 
   ∃ o : Bool, v = .bool o ∧
   Ret B n (R (.bool o)))
  else (CallK Tryz.prog 15 [.slice c d f, .slice g i j] B w [] fun v n => 
   ∃ p : Bool, v = .bool p ∧
   Ret B n (R (.bool p)))
def V12.b0 (B : Nat) (R : Value → World → Prop) (a : Option Addr) (c d : Nat) (f : Option Addr) (g i : Nat) (j : Bool) (l m : Int) (n : Bool) (w : World) : Prop :=
  if n = true
  then (if j = true
   then (CallK Tryz.prog 24 [.slice f g i, .slice a c d] B w [] fun v o => 
    ∃ p : Bool, v = .bool p ∧
    Ret B o (R (.bool p)))
   else (Ret B w (R (.bool false))))
  else (if (m == 5) = true
   then (V12.b1 B R a c d f g i l (m == 5) w)
   else (V12.b1 B R a c d f g i l (m == 6) w))
def V12.vc (B : Nat) (R : Value → World → Prop) (a : Option Addr) (c d : Nat) (f g : Int) (i : Option Addr) (j l : Nat) (w : World) : Prop :=
  ∀ m : Nat, w.heap.size ≤ m →
  CallK Tryz.prog 20 [.agg ⟨[.slice a c d]⟩, .int .i64 f, .int .i64 g] B w [m] fun v n => 
  ∃ (o : Option Addr) (p q : Nat) (r s : Bool), v = .tuple ⟨[.slice o p q, .bool r, .bool s]⟩ ∧
  if (!s) = false
  then (if ((j : Int) == 0) = true
   then (Ret B n (R (.bool s)))
   else (∃ t : Addr, i = some t ∧ (0 : Int) ≤ IntKind.wrap .i64 ((j : Int) - 1) ∧ IntKind.wrap .i64 ((j : Int) - 1) < (j : Int) ∧
   ∃ u : Int, n.cell? ((t.add ((IntKind.wrap .i64 ((j : Int) - 1)).toNat * 2)).add 0) = some (.int .i64 u) ∧
   if (u == 3) = true
    then (V12.b0 B R i j l o p q r (j : Int) u (u == 3) n)
    else (V12.b0 B R i j l o p q r (j : Int) u (u == 4) n)))
  else (Ret B n (R (.bool s)))
noncomputable def V12.cfg (B : Nat) : Cfg := ⟨Tryz.prog, ⟨57, B⟩, [], hasN [15, 20, 24], hasN [], look []⟩
noncomputable def V12.code : Code := (Tryz.f12.body).getD .skip
noncomputable def V12.cuts (B : Nat) (R : Value → World → Prop) : Nat → Cut := nthC [⟨[(3, .one (.slice)), (9, .one (.slice)), (10, .one (.bool)), (12, .one (.int .i64)), (35, .one (.int .i64)), (36, .one (.bool))], [], fun fs vs bs w => V12.b0 B R (slA (nthV vs 0)) (slL (nthV vs 0)) (slC (nthV vs 0)) (slA (nthV vs 1)) (slL (nthV vs 1)) (slC (nthV vs 1)) (bV (nthV vs 2)) (iV (nthV vs 3)) (iV (nthV vs 4)) (bV (nthV vs 5)) w⟩,
  ⟨[(3, .one (.slice)), (9, .one (.slice)), (12, .one (.int .i64)), (45, .one (.bool))], [], fun fs vs bs w => V12.b1 B R (slA (nthV vs 0)) (slL (nthV vs 0)) (slC (nthV vs 0)) (slA (nthV vs 1)) (slL (nthV vs 1)) (slC (nthV vs 1)) (iV (nthV vs 2)) (bV (nthV vs 3)) w⟩]
noncomputable def V12.h : H := .s (.z) (.s (.z) (.s (.z) (.s (.s (.z) (.c (.s (.z) (.z)) (.z))) (.s (.s (.z) (.b (.cut 0 (.s (.z) (.c (.z) (.z))) (.c (.s (.z) (.z)) (.cut 1 (.s (.z) (.c (.z) (.z))) (.c (.s (.z) (.z)) (.z))))))) (.s (.z) (.z))))))
theorem V12.vc_eq (B : Nat) (R : Value → World → Prop) (a : Option Addr) (c d : Nat) (f g : Int) (i : Option Addr) (j l : Nat) (w : World) : wpf (V12.cfg B) (V12.cuts B R) V12.code V12.h [] (postOf Tryz.prog B (Tryz.f12.results.toList) R) (argE 0 [.agg ⟨[.slice a c d]⟩, .int .i64 f, .int .i64 g, .slice i j l]) [] w = V12.vc B R a c d f g i j l w := by kernel_rfl
theorem V12.obl (B : Nat) (R : Value → World → Prop) : oblP (V12.cfg B) (V12.cuts B R) V12.code V12.h [] (postOf Tryz.prog B (Tryz.f12.results.toList) R) := by
  have e : oblP (V12.cfg B) (V12.cuts B R) V12.code V12.h [] (postOf Tryz.prog B (Tryz.f12.results.toList) R) = (True ∧ (True ∧ (True ∧ ((True ∧ ((True ∧ True) ∧ True)) ∧ ((True ∧ ((True ∧ (True ∧ True)) ∧ (∀ (a : Option Addr) (c d : Nat) (f : Option Addr) (g i : Nat) (j : Bool) (l m : Int) (n : Bool) (w : World), V12.b0 B R a c d f g i j l m n w → V12.b0 B R a c d f g i j l m n w) ∧ ((True ∧ True) ∧ ((True ∧ (True ∧ True)) ∧ (∀ (a : Option Addr) (c d : Nat) (f : Option Addr) (g i : Nat) (l : Int) (o : Bool) (w : World), V12.b1 B R a c d f g i l o w → V12.b1 B R a c d f g i l o w) ∧ ((True ∧ True) ∧ True))))) ∧ (True ∧ True)))))) := by kernel_rfl
  exact e.mpr (⟨trivial, ⟨trivial, ⟨trivial, ⟨⟨trivial, ⟨⟨trivial, trivial⟩, trivial⟩⟩, ⟨⟨trivial, ⟨⟨trivial, ⟨trivial, trivial⟩⟩, fun a c d f g i j l m n w h => h, ⟨⟨trivial, trivial⟩, ⟨⟨trivial, ⟨trivial, trivial⟩⟩, fun a c d f g i l o w h => h, ⟨⟨trivial, trivial⟩, trivial⟩⟩⟩⟩⟩, ⟨trivial, trivial⟩⟩⟩⟩⟩⟩)
theorem V12.cfgOk (B : Nat) : CfgOk (V12.cfg B) := cfgOk_of (by kernel_rfl) (by kernel_rfl) extNil
theorem V12.sound {a : Option Addr} {d f : Nat} {g i : Int} {j : Option Addr} {l m : Nat} {w : World} {R : Value → World → Prop} (h : V12.vc w.heap.size R a d f g i j l m w) : Calls Tryz.prog 12 ⟨[.agg ⟨[.slice a d f]⟩, .int .i64 g, .int .i64 i, .slice j l m]⟩ w fun e w' => ∃ v, e = .returned v ∧ R v w' :=
  calls_wpfP (c := V12.cfg w.heap.size) (fn := Tryz.f12) (x := V12.code) (V12.cuts w.heap.size R) V12.h (V12.cfgOk _) mixed Tryz.func12 (by kernel_rfl) (by kernel_rfl) (by kernel_rfl) rfl (V12.obl _ _) ((V12.vc_eq _ _ a d f g i j l m _).symm ▸ h)
def V11.vc (B : Nat) (R : Value → World → Prop) (c : Option Addr) (d f : Nat) (g : Int) (i : Option Addr) (j l : Nat) (m : Int) (w : World) : Prop :=
  IntKind.wrap .i64 ((d : Int) + 1) ≠ 0 ∧
  Expo B w [] fun n => 
  let o := n.alloc (.cells ⟨[]⟩ 41);
  (0 : Int) ≤ Int.tmod (IntKind.wrap .i64 g) (IntKind.wrap .i64 ((d : Int) + 1)) ∧ Int.tmod (IntKind.wrap .i64 g) (IntKind.wrap .i64 ((d : Int) + 1)) ≤ (f : Int) ∧
  RunK Tryz.prog (Builtin.append_ #[27, 27] 27 ⟨[.slice (some ⟨n.heap.size, 0, none⟩) 0 0, .slice (if f = 0 then c else Option.map (fun a => a.add (0 * 2)) c) (((Int.tmod (IntKind.wrap .i64 g) (IntKind.wrap .i64 ((d : Int) + 1))).toNat) - 0) (f - 0)]⟩) B o [] fun v p => 
  ∃ (q : Option Addr) (r s : Nat), v = .slice q r s ∧ (6 : Int) ≠ 0 ∧
  if (Int.tmod m 6 == 0) = true
  then (RunK Tryz.prog (Builtin.append_ #[27, 27] 27 ⟨[.slice q r s, .slice i j l]⟩) B p [] fun t x => 
   ∃ (y : Option Addr) (z A : Nat), t = .slice y z A ∧
   Ret B x (R (.slice y z A)))
  else (if (Int.tmod m 6 == 1) = true
   then (if (decide (Int.tmod (IntKind.wrap .i64 g) (IntKind.wrap .i64 ((d : Int) + 1)) > 0)) = true
    then (∃ C : Addr, q = some C ∧ (0 : Int) ≤ IntKind.wrap .i64 (Int.tmod (IntKind.wrap .i64 g) (IntKind.wrap .i64 ((d : Int) + 1)) - 1) ∧ IntKind.wrap .i64 (Int.tmod (IntKind.wrap .i64 g) (IntKind.wrap .i64 ((d : Int) + 1)) - 1) < (r : Int) ∧
    ∃ D : Int, p.cell? ((C.add ((IntKind.wrap .i64 (Int.tmod (IntKind.wrap .i64 g) (IntKind.wrap .i64 ((d : Int) + 1)) - 1)).toNat * 2)).add 1) = some (.int .u64 D) ∧
    ∃ E : Addr, q = some E ∧ (0 : Int) ≤ IntKind.wrap .i64 (Int.tmod (IntKind.wrap .i64 g) (IntKind.wrap .i64 ((d : Int) + 1)) - 1) ∧ IntKind.wrap .i64 (Int.tmod (IntKind.wrap .i64 g) (IntKind.wrap .i64 ((d : Int) + 1)) - 1) < (r : Int) ∧
    (∃ u, p.cell? (((E.add ((IntKind.wrap .i64 (Int.tmod (IntKind.wrap .i64 g) (IntKind.wrap .i64 ((d : Int) + 1)) - 1)).toNat * 2)).add 1).add 0) = some u) ∧ p.frozen? (((E.add ((IntKind.wrap .i64 (Int.tmod (IntKind.wrap .i64 g) (IntKind.wrap .i64 ((d : Int) + 1)) - 1)).toNat * 2)).add 1).add 0) = false ∧
    let x := p.setCell (((E.add ((IntKind.wrap .i64 (Int.tmod (IntKind.wrap .i64 g) (IntKind.wrap .i64 ((d : Int) + 1)) - 1)).toNat * 2)).add 1).add 0) (.int .u64 (IntKind.wrap .u64 (D + 1)));
    Ret B x (R (.slice q r s)))
    else (Ret B p (R (.slice q r s))))
   else (if (Int.tmod m 6 == 2) = true
    then (Expo B p [] fun x => 
     let F := x.alloc (.cells ⟨[.int .i64 5, .int .u64 0]⟩ 41);
     RunK Tryz.prog (Builtin.append_ #[27, 27] 27 ⟨[.slice q r s, .slice (some ⟨x.heap.size, 0, none⟩) 1 1]⟩) B F [] fun t G => 
     ∃ (I : Option Addr) (J L : Nat), t = .slice I J L ∧
     Ret B G (R (.slice I J L)))
    else (if (Int.tmod m 6 == 3) = true
     then (Expo B p [] fun x => 
      let F := x.alloc (.cells ⟨[.int .i64 6, .int .u64 0]⟩ 41);
      RunK Tryz.prog (Builtin.append_ #[27, 27] 27 ⟨[.slice q r s, .slice (some ⟨x.heap.size, 0, none⟩) 1 1]⟩) B F [] fun t G => 
      ∃ (M : Option Addr) (N O : Nat), t = .slice M N O ∧
      Ret B G (R (.slice M N O)))
     else (if (Int.tmod m 6 == 4) = true
      then (Expo B p [] fun x => 
       let F := x.alloc (.cells ⟨[]⟩ 41);
       RunK Tryz.prog (Builtin.append_ #[27, 27] 27 ⟨[.slice (some ⟨x.heap.size, 0, none⟩) 0 0, .slice c d f]⟩) B F [] fun t G => 
       ∃ (P : Option Addr) (Q S : Nat), t = .slice P Q S ∧
       Ret B G (R (.slice P Q S)))
      else (Ret B p (R (.slice q r s)))))))
noncomputable def V11.cfg (B : Nat) : Cfg := ⟨Tryz.prog, ⟨60, B⟩, [], hasN [], hasN [], look []⟩
noncomputable def V11.code : Code := (Tryz.f11.body).getD .skip
noncomputable def V11.cuts (B : Nat) (R : Value → World → Prop) : Nat → Cut := nthC []
noncomputable def V11.h : H := .s (.z) (.s (.z) (.s (.z) (.s (.s (.z) (.b (.s (.z) (.c (.z) (.s (.z) (.c (.s (.z) (.c (.z) (.z))) (.s (.z) (.c (.z) (.s (.z) (.c (.z) (.s (.z) (.c (.z) (.z))))))))))))) (.s (.z) (.z)))))
theorem V11.vc_eq (B : Nat) (R : Value → World → Prop) (a : Option Addr) (c d : Nat) (f : Int) (g : Option Addr) (i j : Nat) (l : Int) (w : World) : wpf (V11.cfg B) (V11.cuts B R) V11.code V11.h [] (postOf Tryz.prog B (Tryz.f11.results.toList) R) (argE 0 [.slice a c d, .int .u8 f, .slice g i j, .int .u8 l]) [] w = V11.vc B R a c d f g i j l w := by kernel_rfl
theorem V11.obl (B : Nat) (R : Value → World → Prop) : oblP (V11.cfg B) (V11.cuts B R) V11.code V11.h [] (postOf Tryz.prog B (Tryz.f11.results.toList) R) := by
  have e : oblP (V11.cfg B) (V11.cuts B R) V11.code V11.h [] (postOf Tryz.prog B (Tryz.f11.results.toList) R) = (True ∧ (True ∧ (True ∧ ((True ∧ (True ∧ (True ∧ (True ∧ ((True ∧ (True ∧ True)) ∧ (True ∧ (True ∧ (True ∧ (True ∧ (True ∧ (True ∧ True))))))))))) ∧ (True ∧ True))))) := by kernel_rfl
  exact e.mpr (⟨trivial, ⟨trivial, ⟨trivial, ⟨⟨trivial, ⟨trivial, ⟨trivial, ⟨trivial, ⟨⟨trivial, ⟨trivial, trivial⟩⟩, ⟨trivial, ⟨trivial, ⟨trivial, ⟨trivial, ⟨trivial, ⟨trivial, trivial⟩⟩⟩⟩⟩⟩⟩⟩⟩⟩⟩, ⟨trivial, trivial⟩⟩⟩⟩⟩)
theorem V11.cfgOk (B : Nat) : CfgOk (V11.cfg B) := cfgOk_of (by kernel_rfl) (by kernel_rfl) extNil
theorem V11.sound {a : Option Addr} {d f : Nat} {g : Int} {i : Option Addr} {j l : Nat} {m : Int} {w : World} {R : Value → World → Prop} (h : V11.vc w.heap.size R a d f g i j l m w) : Calls Tryz.prog 11 ⟨[.slice a d f, .int .u8 g, .slice i j l, .int .u8 m]⟩ w fun e w' => ∃ v, e = .returned v ∧ R v w' :=
  calls_wpfP (c := V11.cfg w.heap.size) (fn := Tryz.f11) (x := V11.code) (V11.cuts w.heap.size R) V11.h (V11.cfgOk _) mixed Tryz.func11 (by kernel_rfl) (by kernel_rfl) (by kernel_rfl) rfl (V11.obl _ _) ((V11.vc_eq _ _ a d f g i j l m _).symm ▸ h)
def V5.b1 (B : Nat) (R : Value → World → Prop) (a : Int) (c : Option Addr) (d f : Nat) (g : Bool) (i : Nat) (j : Option Addr) (l m : Nat) (w : World) : Prop :=
  CallK Tryz.prog 12 [.agg ⟨[.slice j l m]⟩, .int .i64 0, .int .i64 a, .slice c d f] B w [i] fun v n => 
  ∃ o : Bool, v = .bool o ∧
  if o = true
  then (if ((d : Int) == 0) = false
   then (∃ p : Addr, c = some p ∧ (0 : Int) ≤ IntKind.wrap .i64 ((d : Int) - 1) ∧ IntKind.wrap .i64 ((d : Int) - 1) < (d : Int) ∧
   ∃ q : Int, n.cell? ((p.add ((IntKind.wrap .i64 ((d : Int) - 1)).toNat * 2)).add 0) = some (.int .i64 q) ∧
   if (q == 3) = false
    then (∃ r : Addr, c = some r ∧ (0 : Int) ≤ IntKind.wrap .i64 ((d : Int) - 1) ∧ IntKind.wrap .i64 ((d : Int) - 1) < (d : Int) ∧
    ∃ s : Int, n.cell? ((r.add ((IntKind.wrap .i64 ((d : Int) - 1)).toNat * 2)).add 0) = some (.int .i64 s) ∧
    if (g == (s == 4)) = true
     then (CallK Tryz.prog 7 [] B n [i] fun t u => 
      ∃ x : Bool, t = .bool x ∧
      Ret B u (R (.bool x)))
     else (Ret B n (R (.bool false))))
    else (if (g == true) = true
     then (CallK Tryz.prog 7 [] B n [i] fun t u => 
      ∃ x : Bool, t = .bool x ∧
      Ret B u (R (.bool x)))
     else (Ret B n (R (.bool false)))))
   else (CallK Tryz.prog 7 [] B n [i] fun t u => 
    ∃ x : Bool, t = .bool x ∧
    Ret B u (R (.bool x))))
  else (Ret B n (R (.bool false)))
def V5.b0 (B : Nat) (R : Value → World → Prop) (a : Int) (c : Option Addr) (d f : Nat) (g i j : Int) (l : Option Addr) (m n : Nat) (o : Bool) (p : Nat) (q : Option Addr) (r s : Nat) (w : World) : Prop :=
  CallK Tryz.prog 16 [.slice c d f] B w [p] fun v t => 
  ∃ (u : Option Addr) (x y : Nat), v = .slice u x y ∧
  CallK Tryz.prog 11 [.slice l m n, .int .u8 a, .slice u x y, .int .u8 g] B t [p] fun z A => 
  ∃ (C : Option Addr) (D E : Nat), z = .slice C D E ∧
  CallK Tryz.prog 12 [.agg ⟨[.slice q r s]⟩, .int .i64 0, .int .i64 i, .slice C D E] B A [p] fun F G => 
  ∃ I : Bool, F = .bool I ∧
  if I = true
  then (CallK Tryz.prog 12 [.agg ⟨[.slice q r s]⟩, .int .i64 0, .int .i64 j, .slice C D E] B G [p] fun J L => 
   ∃ M : Bool, J = .bool M ∧
   if (!M) = true
   then (Ret B L (R (.bool false)))
   else (V5.b1 B R i l m n o p q r s L))
  else (V5.b1 B R i l m n o p q r s G)
def V5.vc (B : Nat) (R : Value → World → Prop) (a : Option Addr) (c d : Nat) (f g i : Int) (j : Option Addr) (l m : Nat) (n : Int) (w : World) : Prop :=
  CallK Tryz.prog 14 [.slice a c d] B w [] fun v o => 
  ∃ (p : Option Addr) (q r : Nat), v = .agg ⟨[.slice p q r]⟩ ∧
  ∀ s : Nat, o.heap.size ≤ s →
  CallK Tryz.prog 8 [.agg ⟨[.slice p q r]⟩, .int .i64 0, .int .i64 (IntKind.wrap .i64 f)] B o [s] fun t u => 
  ∃ (x : Option Addr) (y z : Nat) (A : Bool), t = .tuple ⟨[.slice x y z, .bool A]⟩ ∧
  CallK Tryz.prog 8 [.agg ⟨[.slice p q r]⟩, .int .i64 0, .int .i64 (IntKind.wrap .i64 (IntKind.wrap .i64 f + IntKind.wrap .i64 g))] B u [s] fun C D => 
  ∃ (E : Option Addr) (F G : Nat) (I : Bool), C = .tuple ⟨[.slice E F G, .bool I]⟩ ∧
  CallK Tryz.prog 15 [.slice x y z, .slice E F G] B D [s] fun J L => 
  ∃ M : Bool, J = .bool M ∧
  if (!M) = false
  then (if A = true
   then (if (!I) = false
    then (if ((y : Int) != (F : Int)) = true
     then (Ret B L (R (.bool false)))
     else (V5.b0 B R i j l m n (IntKind.wrap .i64 f) (IntKind.wrap .i64 (IntKind.wrap .i64 f + IntKind.wrap .i64 g)) x y z A s p q r L))
    else (Ret B L (R (.bool false))))
   else (V5.b0 B R i j l m n (IntKind.wrap .i64 f) (IntKind.wrap .i64 (IntKind.wrap .i64 f + IntKind.wrap .i64 g)) x y z A s p q r L))
  else (Ret B L (R (.bool false)))
noncomputable def V5.cfg (B : Nat) : Cfg := ⟨Tryz.prog, ⟨111, B⟩, [], hasN [7, 8, 11, 12, 14, 15, 16], hasN [], look []⟩
noncomputable def V5.code : Code := (Tryz.f5.body).getD .skip
noncomputable def V5.cuts (B : Nat) (R : Value → World → Prop) : Nat → Cut := nthC [⟨[(3, .one (.int .u8)), (4, .one (.slice)), (5, .one (.int .u8)), (14, .one (.int .i64)), (15, .one (.int .i64)), (16, .one (.slice)), (17, .one (.bool))], [(13, 24, [.slice])], fun fs vs bs w => V5.b0 B R (iV (nthV vs 0)) (slA (nthV vs 1)) (slL (nthV vs 1)) (slC (nthV vs 1)) (iV (nthV vs 2)) (iV (nthV vs 3)) (iV (nthV vs 4)) (slA (nthV vs 5)) (slL (nthV vs 5)) (slC (nthV vs 5)) (bV (nthV vs 6)) (nthB bs 0).blk (slA (nthV (nthB bs 0).cells 0)) (slL (nthV (nthB bs 0).cells 0)) (slC (nthV (nthB bs 0).cells 0)) w⟩,
  ⟨[(14, .one (.int .i64)), (16, .one (.slice)), (17, .one (.bool))], [(13, 24, [.slice])], fun fs vs bs w => V5.b1 B R (iV (nthV vs 0)) (slA (nthV vs 1)) (slL (nthV vs 1)) (slC (nthV vs 1)) (bV (nthV vs 2)) (nthB bs 0).blk (slA (nthV (nthB bs 0).cells 0)) (slL (nthV (nthB bs 0).cells 0)) (slC (nthV (nthB bs 0).cells 0)) w⟩]
noncomputable def V5.h : H := .s (.z) (.s (.z) (.s (.z) (.s (.z) (.s (.z) (.cut 0 (.s (.z) (.c (.s (.z) (.z)) (.z))) (.s (.z) (.cut 1 (.s (.z) (.c (.s (.z) (.z)) (.z))) (.s (.z) (.z)))))))))
theorem V5.vc_eq (B : Nat) (R : Value → World → Prop) (a : Option Addr) (c d : Nat) (f g i : Int) (j : Option Addr) (l m : Nat) (n : Int) (w : World) : wpf (V5.cfg B) (V5.cuts B R) V5.code V5.h [] (postOf Tryz.prog B (Tryz.f5.results.toList) R) (argE 0 [.slice a c d, .int .u8 f, .int .u8 g, .int .u8 i, .slice j l m, .int .u8 n]) [] w = V5.vc B R a c d f g i j l m n w := by kernel_rfl
theorem V5.obl (B : Nat) (R : Value → World → Prop) : oblP (V5.cfg B) (V5.cuts B R) V5.code V5.h [] (postOf Tryz.prog B (Tryz.f5.results.toList) R) := by
  have e : oblP (V5.cfg B) (V5.cuts B R) V5.code V5.h [] (postOf Tryz.prog B (Tryz.f5.results.toList) R) = (True ∧ (True ∧ (True ∧ (True ∧ (True ∧ ((True ∧ ((True ∧ True) ∧ True)) ∧ (∀ (a : Int) (c : Option Addr) (d f : Nat) (g i j : Int) (l : Option Addr) (m n : Nat) (o : Bool) (p : Nat) (q : Option Addr) (r s : Nat) (w : World), V5.b0 B R a c d f g i j l m n o p q r s w → V5.b0 B R a c d f g i j l m n o p q r s w) ∧ (True ∧ ((True ∧ ((True ∧ True) ∧ True)) ∧ (∀ (i : Int) (l : Option Addr) (m n : Nat) (o : Bool) (p : Nat) (q : Option Addr) (r s : Nat) (w : World), V5.b1 B R i l m n o p q r s w → V5.b1 B R i l m n o p q r s w) ∧ (True ∧ True))))))))) := by kernel_rfl
  exact e.mpr (⟨trivial, ⟨trivial, ⟨trivial, ⟨trivial, ⟨trivial, ⟨⟨trivial, ⟨⟨trivial, trivial⟩, trivial⟩⟩, fun a c d f g i j l m n o p q r s w h => h, ⟨trivial, ⟨⟨trivial, ⟨⟨trivial, trivial⟩, trivial⟩⟩, fun i l m n o p q r s w h => h, ⟨trivial, trivial⟩⟩⟩⟩⟩⟩⟩⟩⟩)
theorem V5.cfgOk (B : Nat) : CfgOk (V5.cfg B) := cfgOk_of (by kernel_rfl) (by kernel_rfl) extNil
theorem V5.sound {a : Option Addr} {d f : Nat} {g i j : Int} {l : Option Addr} {m n : Nat} {o : Int} {w : World} {R : Value → World → Prop} (h : V5.vc w.heap.size R a d f g i j l m n o w) : Calls Tryz.prog 5 ⟨[.slice a d f, .int .u8 g, .int .u8 i, .int .u8 j, .slice l m n, .int .u8 o]⟩ w fun e w' => ∃ v, e = .returned v ∧ R v w' :=
  calls_wpfP (c := V5.cfg w.heap.size) (fn := Tryz.f5) (x := V5.code) (V5.cuts w.heap.size R) V5.h (V5.cfgOk _) mixed Tryz.func5 (by kernel_rfl) (by kernel_rfl) (by kernel_rfl) rfl (V5.obl _ _) ((V5.vc_eq _ _ a d f g i j l m n o _).symm ▸ h)
end Go.Proofs.YtidcpndlloppdaaGreatDoor
