import Derived.Test.YtofblkmibghmbaaDoorZVF
/-
  What the engine makes of the loaded functions 11, 12, 13, 54, 55, 56, 57, 58, 59, 60, 61, 62, 89, 93, 94, 95, 96, 124: conditions under which a call returns as told, and proofs of that.
  Conditions: none. Printed by a program of this project.
-/
set_option linter.unusedVariables false
set_option maxRecDepth 100000
namespace Go.Proofs.YtofblkmibghmbaaDoor
def V54.vc (B : Nat) (R : Value → World → Prop) (w : World) : Prop :=
  CallK Tryd.prog 55 [.string ({ data := #[102, 114, 101, 101, 32, 35, 49, 50] } : ByteArray)] B w [] fun v a => 
  ∃ (c d f : Int) (g : Bool), v = .tuple ⟨[.agg ⟨[.int .i64 c, .int .i64 d, .int .i64 f]⟩, .bool g]⟩ ∧
  ∀ i : Nat, a.heap.size ≤ i →
  CallK Tryd.prog 59 [.agg ⟨[.int .i64 6, .int .i64 0, .int .i64 50]⟩] B a [i] fun j l => 
  ∃ m : ByteArray, j = .string m ∧
  if (m.toList == ({ data := #[114, 117, 110, 32, 48, 32, 53, 48] } : ByteArray).toList) = true
  then (if g = true
   then (if ((c == 2) && ((d == 12) && (f == 1))) = true
    then (CallK Tryd.prog 57 [.agg ⟨[.int .i64 c, .int .i64 d, .int .i64 f]⟩] B l [i] fun n o => 
     ∃ p : Bool, n = .bool p ∧
     Ret B o (R (.bool p)))
    else (Ret B l (R (.bool false))))
   else (Ret B l (R (.bool false))))
  else (Ret B l (R (.bool false)))
noncomputable def V54.cfg (B : Nat) : Cfg := ⟨Tryd.prog, ⟨22, B⟩, [], hasN [55, 57, 59], hasN [40], look []⟩
noncomputable def V54.code : Code := (Tryd.f54.body).getD .skip
noncomputable def V54.cuts (B : Nat) (R : Value → World → Prop) : Nat → Cut := nthC []
noncomputable def V54.h : H := .s (.z) (.s (.z) (.s (.z) (.z)))
theorem V54.vc_eq (B : Nat) (R : Value → World → Prop)  (w : World) : wpf (V54.cfg B) (V54.cuts B R) V54.code V54.h [] (postOf Tryd.prog B (Tryd.f54.results.toList) R) (argE 0 []) [] w = V54.vc B R  w := by kernel_rfl
theorem V54.obl (B : Nat) (R : Value → World → Prop) : oblP (V54.cfg B) (V54.cuts B R) V54.code V54.h [] (postOf Tryd.prog B (Tryd.f54.results.toList) R) := by
  have e : oblP (V54.cfg B) (V54.cuts B R) V54.code V54.h [] (postOf Tryd.prog B (Tryd.f54.results.toList) R) = (True ∧ (True ∧ (True ∧ True))) := by kernel_rfl
  rw [e]
  exact ⟨trivial, ⟨trivial, ⟨trivial, trivial⟩⟩⟩
theorem V54.cfgOk (B : Nat) : CfgOk (V54.cfg B) := cfgOk_of (by kernel_rfl) (by kernel_rfl) extNil
theorem V54.sound  {w : World} {R : Value → World → Prop} (h : V54.vc w.heap.size R  w) : Calls Tryd.prog 54 ⟨[]⟩ w fun e w' => ∃ v, e = .returned v ∧ R v w' :=
  calls_wpfP (c := V54.cfg w.heap.size) (fn := Tryd.f54) (x := V54.code) (V54.cuts w.heap.size R) V54.h (V54.cfgOk _) mixed Tryd.func54 (by kernel_rfl) (by kernel_rfl) (by kernel_rfl) rfl (V54.obl _ _) ((V54.vc_eq _ _  _).symm ▸ h)
def V55.b3 (B : Nat) (R : Value → World → Prop) (a : ByteArray → Option Addr → Nat → Nat → Int → Int → Nat → Int → Int → Int → Nat → Int → Int → Int → World → Prop) (c : ByteArray) (d : Int) (f : ByteArray) (g : Option Addr) (i j : Nat) (l m : Int) (n : Nat) (o p q : Int) (r : Nat) (s t u : Int) (w : World) : Prop :=
  CallK Tryd.prog 92 [.string f] B w [n, r] fun v x => 
  ∃ (y : Int) (z : Value), v = .tuple ⟨[.int .i64 y, z]⟩ ∧ partV z fun A => 
  force A fun C => 
  if (d == 0) = true
  then (a c g i j l (IntKind.wrap .i64 (m + 1)) n o y q r s t u x)
  else (if (d == 1) = true
   then (a c g i j l (IntKind.wrap .i64 (m + 1)) n o p y r s t u x)
   else (a c g i j l (IntKind.wrap .i64 (m + 1)) n o p q r s t u x))
def V55.b2 (B : Nat) (R : Value → World → Prop) (a : ByteArray → Option Addr → Nat → Nat → Int → Int → Nat → Int → Int → Int → Nat → Int → Int → Int → World → Prop) (c : ByteArray) (d : Int) (f : ByteArray) (g : Option Addr) (i j : Nat) (l m : Int) (n : Nat) (o p q : Int) (r : Nat) (s t u : Int) (w : World) : Prop :=
  if (o == 2) = true
  then (CallK Tryd.prog 91 [.string f, .string ({ data := #[64, 35] } : ByteArray)] B w [n, r] fun v x => 
   ∃ y : ByteArray, v = .string y ∧
   V55.b3 B R a c d y g i j l m n o p q r s t u x)
  else (V55.b3 B R a c d f g i j l m n o p q r s t u w)
def V55.l1 (B : Nat) (R : Value → World → Prop) : Nat → ByteArray → Option Addr → Nat → Nat → Int → Int → Nat → Int → Int → Int → Nat → Int → Int → Int → World → Prop
  | 0 => fun _ _ _ _ _ _ _ _ _ _ _ _ _ _ _ => False
  | k + 1 => fun a c d f g i j l m n o p q r w =>
    if (decide (i < g)) = true
    then (∃ s : Addr, c = some s ∧ (0 : Int) ≤ i ∧ i < (d : Int) ∧
    ∃ t : ByteArray, w.cell? (s.add i.toNat) = some (.string t) ∧
    if (l == 2) = true
     then (CallK Tryd.prog 90 [.string t, .string ({ data := #[35] } : ByteArray)] B w [j, o] fun v u => 
      ∃ x : Bool, v = .bool x ∧
      if x = true
      then (V55.b2 B R (V55.l1 B R k) a i t c d f g i j l m 1 o p q r u)
      else (V55.b2 B R (V55.l1 B R k) a i t c d f g i j l m n o p q r u))
     else (V55.b2 B R (V55.l1 B R k) a i t c d f g i j l m n o p q r w))
    else (CallK Tryd.prog 57 [.agg ⟨[.int .i64 l, .int .i64 m, .int .i64 n]⟩] B w [j, o] fun v u => 
     ∃ y : Bool, v = .bool y ∧
     if (!y) = false
     then (CallK Tryd.prog 59 [.agg ⟨[.int .i64 l, .int .i64 m, .int .i64 n]⟩] B u [j, o] fun z A => 
      ∃ C : ByteArray, z = .string C ∧
      if (!(C.toList == a.toList)) = true
      then (Ret B A (R (.tuple ⟨[.agg ⟨[.int .i64 0, .int .i64 0, .int .i64 0]⟩, .bool false]⟩)))
      else (Ret B A (R (.tuple ⟨[.agg ⟨[.int .i64 l, .int .i64 m, .int .i64 n]⟩, .bool true]⟩))))
     else (Ret B u (R (.tuple ⟨[.agg ⟨[.int .i64 0, .int .i64 0, .int .i64 0]⟩, .bool false]⟩))))
def V55.l0 (B : Nat) (R : Value → World → Prop) : Nat → ByteArray → Option Addr → Nat → Nat → Option Addr → Nat → Nat → Int → Int → Nat → Int → Int → Int → Nat → Int → Int → Int → World → Prop
  | 0 => fun _ _ _ _ _ _ _ _ _ _ _ _ _ _ _ _ _ _ => False
  | k + 1 => fun c d f g i j l m n o p q r s t u x w =>
    if (decide (n < m)) = true
    then (∃ y : Addr, i = some y ∧ (0 : Int) ≤ n ∧ n < (j : Int) ∧
    ∃ z : ByteArray, w.cell? (y.add n.toNat) = some (.string z) ∧
    ∃ A : Addr, d = some A ∧ (0 : Int) ≤ 0 ∧ (0 : Int) < (f : Int) ∧
    ∃ C : ByteArray, w.cell? (A.add 0) = some (.string C) ∧
    if (z.toList == C.toList) = true
     then ((V55.l0 B R k) c d f g i j l m (IntKind.wrap .i64 (n + 1)) o n q r s t u x w)
     else ((V55.l0 B R k) c d f g i j l m (IntKind.wrap .i64 (n + 1)) o p q r s t u x w))
    else ((0 : Int) ≤ 1 ∧ (1 : Int) ≤ (f : Int) ∧
    ∃ D, V55.l1 B R D c (if g = 1 then d else Option.map (fun a => a.add 1) d) (f - 1) (g - 1) ((f - 1 : Nat) : Int) 0 o p q r s t u x w)
def V55.vc (B : Nat) (R : Value → World → Prop) (a : ByteArray) (w : World) : Prop :=
  ∀ c : Nat, w.heap.size ≤ c →
  ∀ d : Nat, w.heap.size ≤ d →
  CallK Tryd.prog 88 [.string a, .string ({ data := #[32] } : ByteArray)] B w [d, c] fun v f => 
  ∃ (g : Option Addr) (i j : Nat), v = .slice g i j ∧
  CallK Tryd.prog 89 [] B f [d, c] fun l m => 
  ∃ (n : Option Addr) (o p : Nat), l = .slice n o p ∧
  ∃ q, V55.l0 B R q a g i j n o p (o : Int) 0 d 0 0 0 c 0 0 0 m
noncomputable def V55.cfg (B : Nat) : Cfg := ⟨Tryd.prog, ⟨76, B⟩, [], hasN [57, 59, 88, 89, 90, 91, 92], hasN [], look []⟩
noncomputable def V55.code : Code := (Tryd.f55.body).getD .skip
noncomputable def V55.cuts (B : Nat) (R : Value → World → Prop) : Nat → Cut := nthC [⟨[(0, .one (.str)), (5, .one (.slice)), (14, .one (.slice)), (15, .one (.int .i64)), (16, .one (.int .i64))], [(4, 40, [.int .i64, .int .i64, .int .i64]), (2, 40, [.int .i64, .int .i64, .int .i64])], fun fs vs bs w => V55.l0 B R (nthN fs 0) (sV (nthV vs 0)) (slA (nthV vs 1)) (slL (nthV vs 1)) (slC (nthV vs 1)) (slA (nthV vs 2)) (slL (nthV vs 2)) (slC (nthV vs 2)) (iV (nthV vs 3)) (iV (nthV vs 4)) (nthB bs 0).blk (iV (nthV (nthB bs 0).cells 0)) (iV (nthV (nthB bs 0).cells 1)) (iV (nthV (nthB bs 0).cells 2)) (nthB bs 1).blk (iV (nthV (nthB bs 1).cells 0)) (iV (nthV (nthB bs 1).cells 1)) (iV (nthV (nthB bs 1).cells 2)) w⟩,
  ⟨[(0, .one (.str)), (30, .one (.slice)), (31, .one (.int .i64)), (32, .one (.int .i64))], [(4, 40, [.int .i64, .int .i64, .int .i64]), (2, 40, [.int .i64, .int .i64, .int .i64])], fun fs vs bs w => V55.l1 B R (nthN fs 0) (sV (nthV vs 0)) (slA (nthV vs 1)) (slL (nthV vs 1)) (slC (nthV vs 1)) (iV (nthV vs 2)) (iV (nthV vs 3)) (nthB bs 0).blk (iV (nthV (nthB bs 0).cells 0)) (iV (nthV (nthB bs 0).cells 1)) (iV (nthV (nthB bs 0).cells 2)) (nthB bs 1).blk (iV (nthV (nthB bs 1).cells 0)) (iV (nthV (nthB bs 1).cells 1)) (iV (nthV (nthB bs 1).cells 2)) w⟩,
  ⟨[(0, .one (.str)), (8, .one (.int .i64)), (9, .one (.str)), (30, .one (.slice)), (31, .one (.int .i64)), (32, .one (.int .i64))], [(4, 40, [.int .i64, .int .i64, .int .i64]), (2, 40, [.int .i64, .int .i64, .int .i64])], fun fs vs bs w => V55.b2 B R (V55.l1 B R (nthN fs 0)) (sV (nthV vs 0)) (iV (nthV vs 1)) (sV (nthV vs 2)) (slA (nthV vs 3)) (slL (nthV vs 3)) (slC (nthV vs 3)) (iV (nthV vs 4)) (iV (nthV vs 5)) (nthB bs 0).blk (iV (nthV (nthB bs 0).cells 0)) (iV (nthV (nthB bs 0).cells 1)) (iV (nthV (nthB bs 0).cells 2)) (nthB bs 1).blk (iV (nthV (nthB bs 1).cells 0)) (iV (nthV (nthB bs 1).cells 1)) (iV (nthV (nthB bs 1).cells 2)) w⟩,
  ⟨[(0, .one (.str)), (8, .one (.int .i64)), (9, .one (.str)), (30, .one (.slice)), (31, .one (.int .i64)), (32, .one (.int .i64))], [(4, 40, [.int .i64, .int .i64, .int .i64]), (2, 40, [.int .i64, .int .i64, .int .i64])], fun fs vs bs w => V55.b3 B R (V55.l1 B R (nthN fs 0)) (sV (nthV vs 0)) (iV (nthV vs 1)) (sV (nthV vs 2)) (slA (nthV vs 3)) (slL (nthV vs 3)) (slC (nthV vs 3)) (iV (nthV vs 4)) (iV (nthV vs 5)) (nthB bs 0).blk (iV (nthV (nthB bs 0).cells 0)) (iV (nthV (nthB bs 0).cells 1)) (iV (nthV (nthB bs 0).cells 2)) (nthB bs 1).blk (iV (nthV (nthB bs 1).cells 0)) (iV (nthV (nthB bs 1).cells 1)) (iV (nthV (nthB bs 1).cells 2)) w⟩]
noncomputable def V55.h : H := .s (.z) (.s (.z) (.s (.z) (.s (.s (.z) (.b (.l 0 (.s (.z) (.s (.c (.z) (.z)) (.s (.b (.s (.z) (.s (.z) (.c (.z) (.z))))) (.z))))))) (.s (.s (.z) (.b (.l 1 (.s (.z) (.s (.c (.z) (.z)) (.s (.b (.s (.z) (.cut 2 (.s (.z) (.c (.z) (.z))) (.cut 3 (.s (.z) (.c (.z) (.z))) (.s (.z) (.s (.z) (.b (.s (.z) (.c (.z) (.s (.z) (.c (.z) (.z)))))))))))) (.z))))))) (.s (.s (.z) (.c (.s (.z) (.z)) (.z))) (.s (.z) (.z)))))))
theorem V55.vc_eq (B : Nat) (R : Value → World → Prop) (a : ByteArray) (w : World) : wpf (V55.cfg B) (V55.cuts B R) V55.code V55.h [] (postOf Tryd.prog B (Tryd.f55.results.toList) R) (argE 0 [.string a]) [] w = V55.vc B R a w := by kernel_rfl
theorem V55.obl (B : Nat) (R : Value → World → Prop) : oblP (V55.cfg B) (V55.cuts B R) V55.code V55.h [] (postOf Tryd.prog B (Tryd.f55.results.toList) R) := by
  have e : oblP (V55.cfg B) (V55.cuts B R) V55.code V55.h [] (postOf Tryd.prog B (Tryd.f55.results.toList) R) = (True ∧ (True ∧ (True ∧ ((True ∧ ((∀ (a : ByteArray) (c : Option Addr) (d f : Nat) (g : Option Addr) (i j : Nat) (l m : Int) (n : Nat) (o p q : Int) (r : Nat) (s t u : Int) (w : World), ¬ V55.l0 B R 0 a c d f g i j l m n o p q r s t u w) ∧ (∀ x, ∀ (a : ByteArray) (c : Option Addr) (d f : Nat) (g : Option Addr) (i j : Nat) (l m : Int) (n : Nat) (o p q : Int) (r : Nat) (s t u : Int) (w : World), V55.l0 B R (x + 1) a c d f g i j l m n o p q r s t u w → V55.l0 B R (x + 1) a c d f g i j l m n o p q r s t u w) ∧ ∀ x : Nat, (True ∧ ((True ∧ True) ∧ ((True ∧ (True ∧ (True ∧ True))) ∧ True))))) ∧ ((True ∧ ((∀ (a : ByteArray) (y : Option Addr) (z A : Nat) (C D : Int) (n : Nat) (o p q : Int) (r : Nat) (s t u : Int) (w : World), ¬ V55.l1 B R 0 a y z A C D n o p q r s t u w) ∧ (∀ E, ∀ (a : ByteArray) (y : Option Addr) (z A : Nat) (C D : Int) (n : Nat) (o p q : Int) (r : Nat) (s t u : Int) (w : World), V55.l1 B R (E + 1) a y z A C D n o p q r s t u w → V55.l1 B R (E + 1) a y z A C D n o p q r s t u w) ∧ ∀ E : Nat, (True ∧ ((True ∧ True) ∧ ((True ∧ ((True ∧ (True ∧ True)) ∧ (∀ (a : ByteArray) (F : Int) (G : ByteArray) (y : Option Addr) (z A : Nat) (C D : Int) (n : Nat) (o p q : Int) (r : Nat) (s t u : Int) (w : World), V55.b2 B R (V55.l1 B R E) a F G y z A C D n o p q r s t u w → V55.b2 B R (V55.l1 B R E) a F G y z A C D n o p q r s t u w) ∧ ((True ∧ (True ∧ True)) ∧ (∀ (a : ByteArray) (F : Int) (G : ByteArray) (y : Option Addr) (z A : Nat) (C D : Int) (n : Nat) (o p q : Int) (r : Nat) (s t u : Int) (w : World), V55.b3 B R (V55.l1 B R E) a F G y z A C D n o p q r s t u w → V55.b3 B R (V55.l1 B R E) a F G y z A C D n o p q r s t u w) ∧ (True ∧ (True ∧ (True ∧ (True ∧ (True ∧ (True ∧ True))))))))) ∧ True))))) ∧ ((True ∧ ((True ∧ True) ∧ True)) ∧ (True ∧ True))))))) := by kernel_rfl
  rw [e]
  exact ⟨trivial, ⟨trivial, ⟨trivial, ⟨⟨trivial, ⟨fun a c d f g i j l m n o p q r s t u w h => h, fun _ a c d f g i j l m n o p q r s t u w h => h, fun x => ⟨trivial, ⟨⟨trivial, trivial⟩, ⟨⟨trivial, ⟨trivial, ⟨trivial, trivial⟩⟩⟩, trivial⟩⟩⟩⟩⟩, ⟨⟨trivial, ⟨fun a y z A C D n o p q r s t u w h => h, fun _ a y z A C D n o p q r s t u w h => h, fun E => ⟨trivial, ⟨⟨trivial, trivial⟩, ⟨⟨trivial, ⟨⟨trivial, ⟨trivial, trivial⟩⟩, fun a F G y z A C D n o p q r s t u w h => h, ⟨⟨trivial, ⟨trivial, trivial⟩⟩, fun a F G y z A C D n o p q r s t u w h => h, ⟨trivial, ⟨trivial, ⟨trivial, ⟨trivial, ⟨trivial, ⟨trivial, trivial⟩⟩⟩⟩⟩⟩⟩⟩⟩, trivial⟩⟩⟩⟩⟩, ⟨⟨trivial, ⟨⟨trivial, trivial⟩, trivial⟩⟩, ⟨trivial, trivial⟩⟩⟩⟩⟩⟩⟩
theorem V55.cfgOk (B : Nat) : CfgOk (V55.cfg B) := cfgOk_of (by kernel_rfl) (by kernel_rfl) extNil
theorem V55.sound {a : ByteArray} {w : World} {R : Value → World → Prop} (h : V55.vc w.heap.size R a w) : Calls Tryd.prog 55 ⟨[.string a]⟩ w fun e w' => ∃ v, e = .returned v ∧ R v w' :=
  calls_wpfP (c := V55.cfg w.heap.size) (fn := Tryd.f55) (x := V55.code) (V55.cuts w.heap.size R) V55.h (V55.cfgOk _) mixed Tryd.func55 (by kernel_rfl) (by kernel_rfl) (by kernel_rfl) rfl (V55.obl _ _) ((V55.vc_eq _ _ a _).symm ▸ h)
def V57.b1 (B : Nat) (R : Value → World → Prop) (a : Int) (c : Bool) (d : Nat) (f g i : Int) (w : World) : Prop :=
  if c = true
  then (if (g == 0) = true
   then (Ret B w (R (.bool (i == 0))))
   else (Ret B w (R (.bool false))))
  else (if (a == 6) = true
   then (if (decide (i ≥ 1)) = true
    then (Ret B w (R (.bool (decide (i ≤ 1000)))))
    else (Ret B w (R (.bool false))))
   else (Ret B w (R (.bool false))))
def V57.b0 (B : Nat) (R : Value → World → Prop) (a : Int) (c : Bool) (d : Nat) (f g i : Int) (w : World) : Prop :=
  if c = true
  then (Ret B w (R (.bool (i == 0))))
  else (if (a == 2) = true
   then (if (i == 0) = false
    then (Ret B w (R (.bool (i == 1))))
    else (Ret B w (R (.bool true))))
   else (if (a == 3) = true
    then (V57.b1 B R a (a == 3) d f g i w)
    else (if (a == 4) = true
     then (V57.b1 B R a (a == 4) d f g i w)
     else (V57.b1 B R a (a == 5) d f g i w))))
def V57.vc (B : Nat) (R : Value → World → Prop) (a c d : Int) (w : World) : Prop :=
  ∀ f : Nat, w.heap.size ≤ f →
  if (a == 1) = true
  then (V57.b0 B R a (a == 1) f a c d w)
  else (if (a == 7) = true
   then (V57.b0 B R a (a == 7) f a c d w)
   else (if (a == 8) = true
    then (V57.b0 B R a (a == 8) f a c d w)
    else (V57.b0 B R a (a == 9) f a c d w)))
noncomputable def V57.cfg (B : Nat) : Cfg := ⟨Tryd.prog, ⟨45, B⟩, [], hasN [], hasN [], look []⟩
noncomputable def V57.code : Code := (Tryd.f57.body).getD .skip
noncomputable def V57.cuts (B : Nat) (R : Value → World → Prop) : Nat → Cut := nthC [⟨[(4, .one (.int .i64)), (5, .one (.bool))], [(1, 40, [.int .i64, .int .i64, .int .i64])], fun fs vs bs w => V57.b0 B R (iV (nthV vs 0)) (bV (nthV vs 1)) (nthB bs 0).blk (iV (nthV (nthB bs 0).cells 0)) (iV (nthV (nthB bs 0).cells 1)) (iV (nthV (nthB bs 0).cells 2)) w⟩,
  ⟨[(4, .one (.int .i64)), (23, .one (.bool))], [(1, 40, [.int .i64, .int .i64, .int .i64])], fun fs vs bs w => V57.b1 B R (iV (nthV vs 0)) (bV (nthV vs 1)) (nthB bs 0).blk (iV (nthV (nthB bs 0).cells 0)) (iV (nthV (nthB bs 0).cells 1)) (iV (nthV (nthB bs 0).cells 2)) w⟩]
noncomputable def V57.h : H := .s (.z) (.s (.s (.z) (.b (.cut 0 (.s (.z) (.c (.z) (.s (.z) (.c (.z) (.s (.z) (.c (.z) (.z))))))) (.c (.s (.z) (.z)) (.s (.z) (.c (.s (.z) (.z)) (.cut 1 (.s (.z) (.c (.z) (.s (.z) (.c (.z) (.z))))) (.c (.s (.z) (.z)) (.s (.z) (.c (.s (.z) (.z)) (.z))))))))))) (.s (.z) (.z)))
theorem V57.vc_eq (B : Nat) (R : Value → World → Prop) (a c d : Int) (w : World) : wpf (V57.cfg B) (V57.cuts B R) V57.code V57.h [] (postOf Tryd.prog B (Tryd.f57.results.toList) R) (argE 0 [.agg ⟨[.int .i64 a, .int .i64 c, .int .i64 d]⟩]) [] w = V57.vc B R a c d w := by kernel_rfl
theorem V57.obl (B : Nat) (R : Value → World → Prop) : oblP (V57.cfg B) (V57.cuts B R) V57.code V57.h [] (postOf Tryd.prog B (Tryd.f57.results.toList) R) := by
  have e : oblP (V57.cfg B) (V57.cuts B R) V57.code V57.h [] (postOf Tryd.prog B (Tryd.f57.results.toList) R) = (True ∧ ((True ∧ ((True ∧ (True ∧ (True ∧ (True ∧ (True ∧ (True ∧ True)))))) ∧ (∀ (a : Int) (c : Bool) (d : Nat) (f g i : Int) (w : World), V57.b0 B R a c d f g i w → V57.b0 B R a c d f g i w) ∧ ((True ∧ True) ∧ (True ∧ ((True ∧ True) ∧ ((True ∧ (True ∧ (True ∧ (True ∧ True)))) ∧ (∀ (a : Int) (j : Bool) (d : Nat) (f g i : Int) (w : World), V57.b1 B R a j d f g i w → V57.b1 B R a j d f g i w) ∧ ((True ∧ True) ∧ (True ∧ ((True ∧ True) ∧ True))))))))) ∧ (True ∧ True))) := by kernel_rfl
  rw [e]
  exact ⟨trivial, ⟨⟨trivial, ⟨⟨trivial, ⟨trivial, ⟨trivial, ⟨trivial, ⟨trivial, ⟨trivial, trivial⟩⟩⟩⟩⟩⟩, fun a c d f g i w h => h, ⟨⟨trivial, trivial⟩, ⟨trivial, ⟨⟨trivial, trivial⟩, ⟨⟨trivial, ⟨trivial, ⟨trivial, ⟨trivial, trivial⟩⟩⟩⟩, fun a j d f g i w h => h, ⟨⟨trivial, trivial⟩, ⟨trivial, ⟨⟨trivial, trivial⟩, trivial⟩⟩⟩⟩⟩⟩⟩⟩⟩, ⟨trivial, trivial⟩⟩⟩
theorem V57.cfgOk (B : Nat) : CfgOk (V57.cfg B) := cfgOk_of (by kernel_rfl) (by kernel_rfl) extNil
theorem V57.sound {a d f : Int} {w : World} {R : Value → World → Prop} (h : V57.vc w.heap.size R a d f w) : Calls Tryd.prog 57 ⟨[.agg ⟨[.int .i64 a, .int .i64 d, .int .i64 f]⟩]⟩ w fun e w' => ∃ v, e = .returned v ∧ R v w' :=
  calls_wpfP (c := V57.cfg w.heap.size) (fn := Tryd.f57) (x := V57.code) (V57.cuts w.heap.size R) V57.h (V57.cfgOk _) mixed Tryd.func57 (by kernel_rfl) (by kernel_rfl) (by kernel_rfl) rfl (V57.obl _ _) ((V57.vc_eq _ _ a d f _).symm ▸ h)
def V59.b0 (B : Nat) (R : Value → World → Prop) (a c : ByteArray) (d : Int) (f : Bool) (g : Nat) (i j l : Int) (w : World) : Prop :=
  if f = true
  then (Ret B w (R (.string a)))
  else (if (d == 6) = true
   then (a.size + ({ data := #[32] } : ByteArray).size ≤ 9223372036854775807 ∧ (a ++ ({ data := #[32] } : ByteArray)).size + c.size ≤ 9223372036854775807 ∧ ((a ++ ({ data := #[32] } : ByteArray)) ++ c).size + ({ data := #[32] } : ByteArray).size ≤ 9223372036854775807 ∧
   CallK Tryd.prog 78 [.int .i64 l] B w [g] fun v m => 
    ∃ n : ByteArray, v = .string n ∧ (((a ++ ({ data := #[32] } : ByteArray)) ++ c) ++ ({ data := #[32] } : ByteArray)).size + n.size ≤ 9223372036854775807 ∧
    Ret B m (R (.string ((((a ++ ({ data := #[32] } : ByteArray)) ++ c) ++ ({ data := #[32] } : ByteArray)) ++ n))))
   else (a.size + ({ data := #[32] } : ByteArray).size ≤ 9223372036854775807 ∧ (a ++ ({ data := #[32] } : ByteArray)).size + c.size ≤ 9223372036854775807 ∧
   Ret B w (R (.string ((a ++ ({ data := #[32] } : ByteArray)) ++ c)))))
def V59.vc (B : Nat) (R : Value → World → Prop) (a c d : Int) (w : World) : Prop :=
  ∀ f : Nat, w.heap.size ≤ f →
  CallK Tryd.prog 57 [.agg ⟨[.int .i64 a, .int .i64 c, .int .i64 d]⟩] B w [f] fun v g => 
  ∃ i : Bool, v = .bool i ∧
  if (!i) = true
  then (Ret B g (R (.string ({ data := #[] } : ByteArray))))
  else (CallK Tryd.prog 89 [] B g [f] fun j l => 
   ∃ (m : Option Addr) (n o : Nat), j = .slice m n o ∧
   ∃ p : Addr, m = some p ∧ (0 : Int) ≤ a ∧ a < (n : Int) ∧
   ∃ q : ByteArray, l.cell? (p.add a.toNat) = some (.string q) ∧
   CallK Tryd.prog 78 [.int .i64 c] B l [f] fun r s => 
   ∃ t : ByteArray, r = .string t ∧ s.cell? (p.add a.toNat) = some (.string q) ∧
   if (a == 2) = true
   then (q.size + ({ data := #[32] } : ByteArray).size ≤ 9223372036854775807 ∧ (0 : Int) ≤ IntKind.wrap .i64 (d + 1) ∧ IntKind.wrap .i64 (d + 1) ≤ ((({ data := #[64, 35] } : ByteArray).size : Nat) : Int) ∧ (0 : Int) ≤ d ∧ d ≤ (((IntKind.wrap .i64 (d + 1)).toNat : Nat) : Int) ∧ (q ++ ({ data := #[32] } : ByteArray)).size + (({ data := #[64, 35] } : ByteArray).extract d.toNat ((IntKind.wrap .i64 (d + 1)).toNat)).size ≤ 9223372036854775807 ∧ ((q ++ ({ data := #[32] } : ByteArray)) ++ (({ data := #[64, 35] } : ByteArray).extract d.toNat ((IntKind.wrap .i64 (d + 1)).toNat))).size + t.size ≤ 9223372036854775807 ∧
   Ret B s (R (.string (((q ++ ({ data := #[32] } : ByteArray)) ++ (({ data := #[64, 35] } : ByteArray).extract d.toNat ((IntKind.wrap .i64 (d + 1)).toNat))) ++ t))))
   else (if (a == 3) = true
    then (V59.b0 B R q t a (a == 3) f a c d s)
    else (if (a == 4) = true
     then (V59.b0 B R q t a (a == 4) f a c d s)
     else (V59.b0 B R q t a (a == 5) f a c d s))))
noncomputable def V59.cfg (B : Nat) : Cfg := ⟨Tryd.prog, ⟨51, B⟩, [], hasN [57, 78, 89], hasN [], look []⟩
noncomputable def V59.code : Code := (Tryd.f59.body).getD .skip
noncomputable def V59.cuts (B : Nat) (R : Value → World → Prop) : Nat → Cut := nthC [⟨[(3, .one (.str)), (4, .one (.str)), (17, .one (.int .i64)), (31, .one (.bool))], [(1, 40, [.int .i64, .int .i64, .int .i64])], fun fs vs bs w => V59.b0 B R (sV (nthV vs 0)) (sV (nthV vs 1)) (iV (nthV vs 2)) (bV (nthV vs 3)) (nthB bs 0).blk (iV (nthV (nthB bs 0).cells 0)) (iV (nthV (nthB bs 0).cells 1)) (iV (nthV (nthB bs 0).cells 2)) w⟩]
noncomputable def V59.h : H := .s (.z) (.s (.s (.z) (.c (.s (.z) (.z)) (.z))) (.s (.r [[1, 2, 5, 6, 0, 3, 4, 7, 8, 9]]) (.s (.s (.z) (.b (.s (.z) (.c (.s (.z) (.z)) (.cut 0 (.s (.z) (.c (.z) (.s (.z) (.c (.z) (.z))))) (.c (.s (.z) (.z)) (.s (.z) (.c (.s (.z) (.z)) (.z))))))))) (.s (.z) (.z)))))
theorem V59.vc_eq (B : Nat) (R : Value → World → Prop) (a c d : Int) (w : World) : wpf (V59.cfg B) (V59.cuts B R) V59.code V59.h [] (postOf Tryd.prog B (Tryd.f59.results.toList) R) (argE 0 [.agg ⟨[.int .i64 a, .int .i64 c, .int .i64 d]⟩]) [] w = V59.vc B R a c d w := by kernel_rfl
theorem V59.obl (B : Nat) (R : Value → World → Prop) : oblP (V59.cfg B) (V59.cuts B R) V59.code V59.h [] (postOf Tryd.prog B (Tryd.f59.results.toList) R) := by
  have e : oblP (V59.cfg B) (V59.cuts B R) V59.code V59.h [] (postOf Tryd.prog B (Tryd.f59.results.toList) R) = (True ∧ ((True ∧ ((True ∧ True) ∧ True)) ∧ ((true = true) ∧ ((True ∧ (True ∧ ((True ∧ True) ∧ ((True ∧ (True ∧ (True ∧ (True ∧ True)))) ∧ (∀ (a c : ByteArray) (d : Int) (f : Bool) (g : Nat) (i j l : Int) (w : World), V59.b0 B R a c d f g i j l w → V59.b0 B R a c d f g i j l w) ∧ ((True ∧ True) ∧ (True ∧ ((True ∧ True) ∧ True))))))) ∧ (True ∧ True))))) := by kernel_rfl
  rw [e]
  exact ⟨trivial, ⟨⟨trivial, ⟨⟨trivial, trivial⟩, trivial⟩⟩, ⟨rfl, ⟨⟨trivial, ⟨trivial, ⟨⟨trivial, trivial⟩, ⟨⟨trivial, ⟨trivial, ⟨trivial, ⟨trivial, trivial⟩⟩⟩⟩, fun a c d f g i j l w h => h, ⟨⟨trivial, trivial⟩, ⟨trivial, ⟨⟨trivial, trivial⟩, trivial⟩⟩⟩⟩⟩⟩⟩, ⟨trivial, trivial⟩⟩⟩⟩⟩
theorem V59.cfgOk (B : Nat) : CfgOk (V59.cfg B) := cfgOk_of (by kernel_rfl) (by kernel_rfl) extNil
theorem V59.sound {a d f : Int} {w : World} {R : Value → World → Prop} (h : V59.vc w.heap.size R a d f w) : Calls Tryd.prog 59 ⟨[.agg ⟨[.int .i64 a, .int .i64 d, .int .i64 f]⟩]⟩ w fun e w' => ∃ v, e = .returned v ∧ R v w' :=
  calls_wpfP (c := V59.cfg w.heap.size) (fn := Tryd.f59) (x := V59.code) (V59.cuts w.heap.size R) V59.h (V59.cfgOk _) mixed Tryd.func59 (by kernel_rfl) (by kernel_rfl) (by kernel_rfl) rfl (V59.obl _ _) ((V59.vc_eq _ _ a d f _).symm ▸ h)
def V61.b0 (B : Nat) (R : Value → World → Prop) (a c d f : Int) (g : Nat) (i j l : Int) (w : World) : Prop :=
  (32 : Int) ≠ 0 ∧
  if (decide (Int.tmod a 32 < 6)) = true
  then ((8 : Int) ≠ 0 ∧ (0 : Int) ≤ Int.tmod d 8 ∧ (3 : Int) ≠ 0 ∧ (254 : Int) ≠ 0 ∧
  Ret B w (R (.agg ⟨[.int .i64 1, .int .i64 (IntKind.wrap .i64 (IntKind.wrap .i64 (IntKind.wrap .i64 (32 * 2 ^ min ((Int.tmod d 8).toNat) 64) - Int.tmod (IntKind.wrap .i64 c) 3) - IntKind.wrap .i64 (5000 * IntKind.wrap .i64 (Int.tdiv (IntKind.wrap .i64 c) 254)))), .int .i64 0]⟩)))
  else (if (decide (Int.tmod a 32 < 11)) = true
   then ((8 : Int) ≠ 0 ∧
   if (Int.tmod d 8 == 0) = true
    then (Ret B w (R (.agg ⟨[.int .i64 2, .int .i64 (IntKind.wrap .i64 (IntKind.wrap .i64 c * 32)), .int .i64 0]⟩)))
    else ((12 : Int) ≠ 0 ∧
    Ret B w (R (.agg ⟨[.int .i64 2, .int .i64 (Int.tmod (IntKind.wrap .i64 c) 12), .int .i64 1]⟩))))
   else (if (Int.tmod a 32 == 11) = true
    then (Ret B w (R (.agg ⟨[.int .i64 3, .int .i64 0, .int .i64 0]⟩)))
    else (if (Int.tmod a 32 == 12) = true
     then (Ret B w (R (.agg ⟨[.int .i64 4, .int .i64 0, .int .i64 0]⟩)))
     else (if (Int.tmod a 32 == 13) = true
      then (Ret B w (R (.agg ⟨[.int .i64 5, .int .i64 0, .int .i64 0]⟩)))
      else (if (decide (Int.tmod a 32 < 22)) = true
       then (Ret B w (R (.agg ⟨[.int .i64 6, .int .i64 f, .int .i64 (IntKind.wrap .i64 (1 + IntKind.wrap .i64 d))]⟩)))
       else (if (decide (Int.tmod a 32 < 25)) = true
        then (Ret B w (R (.agg ⟨[.int .i64 7, .int .i64 f, .int .i64 0]⟩)))
        else (if (decide (Int.tmod a 32 < 29)) = true
         then (Ret B w (R (.agg ⟨[.int .i64 8, .int .i64 f, .int .i64 0]⟩)))
         else (Ret B w (R (.agg ⟨[.int .i64 9, .int .i64 f, .int .i64 0]⟩))))))))))
def V61.vc (B : Nat) (R : Value → World → Prop) (a c d f : Int) (w : World) : Prop :=
  ∀ g : Nat, w.heap.size ≤ g → IntKind.wrap .i64 (f + 1) ≠ 0 ∧
  if (Int.tmod (IntKind.wrap .i64 c) (IntKind.wrap .i64 (f + 1)) == f) = true
  then (if (decide (c < 240)) = true
   then (V61.b0 B R a c d 0 g 0 0 0 w)
   else (V61.b0 B R a c d (Int.tmod (IntKind.wrap .i64 c) (IntKind.wrap .i64 (f + 1))) g 0 0 0 w))
  else (V61.b0 B R a c d (Int.tmod (IntKind.wrap .i64 c) (IntKind.wrap .i64 (f + 1))) g 0 0 0 w)
noncomputable def V61.cfg (B : Nat) : Cfg := ⟨Tryd.prog, ⟨87, B⟩, [], hasN [], hasN [], look []⟩
noncomputable def V61.code : Code := (Tryd.f61.body).getD .skip
noncomputable def V61.cuts (B : Nat) (R : Value → World → Prop) : Nat → Cut := nthC [⟨[(0, .one (.int .u8)), (1, .one (.int .u8)), (2, .one (.int .u8)), (9, .one (.int .i64))], [(8, 40, [.int .i64, .int .i64, .int .i64])], fun fs vs bs w => V61.b0 B R (iV (nthV vs 0)) (iV (nthV vs 1)) (iV (nthV vs 2)) (iV (nthV vs 3)) (nthB bs 0).blk (iV (nthV (nthB bs 0).cells 0)) (iV (nthV (nthB bs 0).cells 1)) (iV (nthV (nthB bs 0).cells 2)) w⟩]
noncomputable def V61.h : H := .s (.z) (.s (.z) (.cut 0 (.s (.z) (.c (.z) (.z))) (.s (.s (.z) (.b (.s (.z) (.c (.s (.z) (.z)) (.s (.z) (.c (.s (.s (.z) (.c (.s (.z) (.z)) (.z))) (.s (.z) (.z))) (.s (.z) (.c (.s (.z) (.z)) (.s (.z) (.c (.s (.z) (.z)) (.s (.z) (.c (.s (.z) (.z)) (.s (.z) (.c (.s (.z) (.z)) (.s (.z) (.c (.s (.z) (.z)) (.s (.z) (.c (.s (.z) (.z)) (.z))))))))))))))))))) (.s (.z) (.z)))))
theorem V61.vc_eq (B : Nat) (R : Value → World → Prop) (a c d f : Int) (w : World) : wpf (V61.cfg B) (V61.cuts B R) V61.code V61.h [] (postOf Tryd.prog B (Tryd.f61.results.toList) R) (argE 0 [.int .u8 a, .int .u8 c, .int .u8 d, .int .i64 f]) [] w = V61.vc B R a c d f w := by kernel_rfl
theorem V61.obl (B : Nat) (R : Value → World → Prop) : oblP (V61.cfg B) (V61.cuts B R) V61.code V61.h [] (postOf Tryd.prog B (Tryd.f61.results.toList) R) := by
  have e : oblP (V61.cfg B) (V61.cuts B R) V61.code V61.h [] (postOf Tryd.prog B (Tryd.f61.results.toList) R) = (True ∧ (True ∧ ((True ∧ (True ∧ True)) ∧ (∀ (a c d f : Int) (g : Nat) (i j l : Int) (w : World), V61.b0 B R a c d f g i j l w → V61.b0 B R a c d f g i j l w) ∧ ((True ∧ (True ∧ ((True ∧ True) ∧ (True ∧ (((True ∧ ((True ∧ True) ∧ True)) ∧ (True ∧ True)) ∧ (True ∧ ((True ∧ True) ∧ (True ∧ ((True ∧ True) ∧ (True ∧ ((True ∧ True) ∧ (True ∧ ((True ∧ True) ∧ (True ∧ ((True ∧ True) ∧ (True ∧ ((True ∧ True) ∧ True))))))))))))))))) ∧ (True ∧ True))))) := by kernel_rfl
  rw [e]
  exact ⟨trivial, ⟨trivial, ⟨⟨trivial, ⟨trivial, trivial⟩⟩, fun a c d f g i j l w h => h, ⟨⟨trivial, ⟨trivial, ⟨⟨trivial, trivial⟩, ⟨trivial, ⟨⟨⟨trivial, ⟨⟨trivial, trivial⟩, trivial⟩⟩, ⟨trivial, trivial⟩⟩, ⟨trivial, ⟨⟨trivial, trivial⟩, ⟨trivial, ⟨⟨trivial, trivial⟩, ⟨trivial, ⟨⟨trivial, trivial⟩, ⟨trivial, ⟨⟨trivial, trivial⟩, ⟨trivial, ⟨⟨trivial, trivial⟩, ⟨trivial, ⟨⟨trivial, trivial⟩, trivial⟩⟩⟩⟩⟩⟩⟩⟩⟩⟩⟩⟩⟩⟩⟩⟩⟩, ⟨trivial, trivial⟩⟩⟩⟩⟩
theorem V61.cfgOk (B : Nat) : CfgOk (V61.cfg B) := cfgOk_of (by kernel_rfl) (by kernel_rfl) extNil
theorem V61.sound {a d f g : Int} {w : World} {R : Value → World → Prop} (h : V61.vc w.heap.size R a d f g w) : Calls Tryd.prog 61 ⟨[.int .u8 a, .int .u8 d, .int .u8 f, .int .i64 g]⟩ w fun e w' => ∃ v, e = .returned v ∧ R v w' :=
  calls_wpfP (c := V61.cfg w.heap.size) (fn := Tryd.f61) (x := V61.code) (V61.cuts w.heap.size R) V61.h (V61.cfgOk _) mixed Tryd.func61 (by kernel_rfl) (by kernel_rfl) (by kernel_rfl) rfl (V61.obl _ _) ((V61.vc_eq _ _ a d f g _).symm ▸ h)
def V89.vc (B : Nat) (R : Value → World → Prop) (w : World) : Prop :=
  Expo B w [] fun a => 
  let c := a.alloc (.cells ⟨[.string ({ data := #[] } : ByteArray), .string ({ data := #[97, 108, 108, 111, 99] } : ByteArray), .string ({ data := #[102, 114, 101, 101] } : ByteArray), .string ({ data := #[102, 108, 117, 115, 104] } : ByteArray), .string ({ data := #[111, 110] } : ByteArray), .string ({ data := #[111, 102, 102] } : ByteArray), .string ({ data := #[114, 117, 110] } : ByteArray), .string ({ data := #[115, 104, 114, 105, 110, 107] } : ByteArray), .string ({ data := #[115, 99, 97, 110] } : ByteArray), .string ({ data := #[119, 97, 107, 101] } : ByteArray)]⟩ 9);
  Ret B c (R (.slice (some ⟨a.heap.size, 0, none⟩) 10 10))
noncomputable def V89.cfg (B : Nat) : Cfg := ⟨Tryd.prog, ⟨2, B⟩, [], hasN [], hasN [], look []⟩
noncomputable def V89.code : Code := (Tryd.f89.body).getD .skip
noncomputable def V89.cuts (B : Nat) (R : Value → World → Prop) : Nat → Cut := nthC []
noncomputable def V89.h : H := .s (.z) (.s (.z) (.z))
theorem V89.vc_eq (B : Nat) (R : Value → World → Prop)  (w : World) : wpf (V89.cfg B) (V89.cuts B R) V89.code V89.h [] (postOf Tryd.prog B (Tryd.f89.results.toList) R) (argE 0 []) [] w = V89.vc B R  w := by kernel_rfl
theorem V89.obl (B : Nat) (R : Value → World → Prop) : oblP (V89.cfg B) (V89.cuts B R) V89.code V89.h [] (postOf Tryd.prog B (Tryd.f89.results.toList) R) := by
  have e : oblP (V89.cfg B) (V89.cuts B R) V89.code V89.h [] (postOf Tryd.prog B (Tryd.f89.results.toList) R) = (True ∧ (True ∧ True)) := by kernel_rfl
  rw [e]
  exact ⟨trivial, ⟨trivial, trivial⟩⟩
theorem V89.cfgOk (B : Nat) : CfgOk (V89.cfg B) := cfgOk_of (by kernel_rfl) (by kernel_rfl) extNil
theorem V89.sound  {w : World} {R : Value → World → Prop} (h : V89.vc w.heap.size R  w) : Calls Tryd.prog 89 ⟨[]⟩ w fun e w' => ∃ v, e = .returned v ∧ R v w' :=
  calls_wpfP (c := V89.cfg w.heap.size) (fn := Tryd.f89) (x := V89.code) (V89.cuts w.heap.size R) V89.h (V89.cfgOk _) mixed Tryd.func89 (by kernel_rfl) (by kernel_rfl) (by kernel_rfl) rfl (V89.obl _ _) ((V89.vc_eq _ _  _).symm ▸ h)
end Go.Proofs.YtofblkmibghmbaaDoor
