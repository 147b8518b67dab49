/-
  What the engine makes of the loaded functions 11, 12, 13, 54, 55, 56, 57, 58, 59, 60, 61, 62, 89, 93, 94, 95, 96, 124: conditions under which a call returns as told, and proofs of that.
  Conditions: none. Printed by a program of this project.
-/
import Derived.Test.YtofblkmibghmbaaDoorZVF
set_option linter.unusedVariables false
set_option maxRecDepth 100000
namespace Go.Proofs.YtofblkmibghmbaaDoor
def V11.vc (B : Nat) (R : Value → World → Prop) (a c d : Int) (f : ByteArray) (w : World) : Prop :=
  ∀ g : Nat, w.heap.size ≤ g →
  if (decide (((f.size : Nat) : Int) > 2000)) = true
  then (CallK Tryd.prog 54 [] B w [g] fun v i => 
   ∃ j : Bool, v = .bool j ∧
   Ret B i (R (.bool j)))
  else (CallK Tryd.prog 55 [.string f] B w [g] fun v i => 
   ∃ (l m n : Int) (o : Bool), v = .tuple ⟨[.agg ⟨[.int .i64 l, .int .i64 m, .int .i64 n]⟩, .bool o]⟩ ∧
   ∀ p : Nat, i.heap.size ≤ p →
   CallK Tryd.prog 56 [.string f] B i [p, g] fun q r => 
   ∃ (s t u : Int) (x : Bool), q = .tuple ⟨[.agg ⟨[.int .i64 s, .int .i64 t, .int .i64 u]⟩, .bool x]⟩ ∧
   ∀ y : Nat, r.heap.size ≤ y →
   CallK Tryd.prog 57 [.agg ⟨[.int .i64 a, .int .i64 c, .int .i64 d]⟩] B r [y, p, g] fun z A => 
   ∃ C : Bool, z = .bool C ∧
   CallK Tryd.prog 58 [.agg ⟨[.int .i64 a, .int .i64 c, .int .i64 d]⟩] B A [y, p, g] fun D E => 
   ∃ F : Bool, D = .bool F ∧
   if (C == F) = true
   then (CallK Tryd.prog 59 [.agg ⟨[.int .i64 a, .int .i64 c, .int .i64 d]⟩] B E [y, p, g] fun G I => 
    ∃ J : ByteArray, G = .string J ∧
    CallK Tryd.prog 60 [.agg ⟨[.int .i64 a, .int .i64 c, .int .i64 d]⟩] B I [y, p, g] fun L M => 
    ∃ N : ByteArray, L = .string N ∧
    if (J.toList == N.toList) = true
    then (if ((l == s) && ((m == t) && (n == u))) = true
     then (if (o == x) = true
      then (CallK Tryd.prog 54 [] B M [y, p, g] fun O P => 
       ∃ Q : Bool, O = .bool Q ∧
       Ret B P (R (.bool Q)))
      else (Ret B M (R (.bool false))))
     else (Ret B M (R (.bool false))))
    else (Ret B M (R (.bool false))))
   else (Ret B E (R (.bool false))))
noncomputable def V11.cfg (B : Nat) : Cfg := ⟨Tryd.prog, ⟨48, B⟩, [], hasN [54, 55, 56, 57, 58, 59, 60], hasN [40], look []⟩
noncomputable def V11.code : Code := (Tryd.f11.body).getD .skip
noncomputable def V11.cuts (B : Nat) (R : Value → World → Prop) : Nat → Cut := nthC []
noncomputable def V11.h : H := .s (.z) (.s (.s (.z) (.c (.s (.z) (.z)) (.z))) (.s (.z) (.s (.z) (.s (.r [[0, 2, 1, 3, 4, 5, 6, 8, 7, 9, 10, 11, 12, 13, 14, 15, 16, 17, 18, 19, 20, 21, 22, 23, 24, 25]]) (.z)))))
theorem V11.vc_eq (B : Nat) (R : Value → World → Prop) (a c d : Int) (f : ByteArray) (w : World) : wpf (V11.cfg B) (V11.cuts B R) V11.code V11.h [] (postOf Tryd.prog B (Tryd.f11.results.toList) R) (argE 0 [.agg ⟨[.int .i64 a, .int .i64 c, .int .i64 d]⟩, .string f]) [] w = V11.vc B R a c d f w := by kernel_rfl
theorem V11.obl (B : Nat) (R : Value → World → Prop) : oblP (V11.cfg B) (V11.cuts B R) V11.code V11.h [] (postOf Tryd.prog B (Tryd.f11.results.toList) R) := by
  have e : oblP (V11.cfg B) (V11.cuts B R) V11.code V11.h [] (postOf Tryd.prog B (Tryd.f11.results.toList) R) = (True ∧ ((True ∧ ((True ∧ True) ∧ True)) ∧ (True ∧ (True ∧ ((true = true) ∧ True))))) := by kernel_rfl
  rw [e]
  exact ⟨trivial, ⟨⟨trivial, ⟨⟨trivial, trivial⟩, trivial⟩⟩, ⟨trivial, ⟨trivial, ⟨rfl, trivial⟩⟩⟩⟩⟩
theorem V11.cfgOk (B : Nat) : CfgOk (V11.cfg B) := cfgOk_of (by kernel_rfl) (by kernel_rfl) extNil
theorem V11.sound {a d f : Int} {g : ByteArray} {w : World} {R : Value → World → Prop} (h : V11.vc w.heap.size R a d f g w) : Calls Tryd.prog 11 ⟨[.agg ⟨[.int .i64 a, .int .i64 d, .int .i64 f]⟩, .string g]⟩ w fun e w' => ∃ v, e = .returned v ∧ R v w' :=
  calls_wpfP (c := V11.cfg w.heap.size) (fn := Tryd.f11) (x := V11.code) (V11.cuts w.heap.size R) V11.h (V11.cfgOk _) mixed Tryd.func11 (by kernel_rfl) (by kernel_rfl) (by kernel_rfl) rfl (V11.obl _ _) ((V11.vc_eq _ _ a d f g _).symm ▸ h)
def V54.vc (B : Nat) (R : Value → World → Prop) (w : World) : Prop :=
  CallK Tryd.prog 55 [.string ({ data := #[102, 114, 101, 101, 32, 35, 49, 50] } : ByteArray)] B w [] fun v a => 
  ∃ (c d f : Int) (g : Bool), v = .tuple ⟨[.agg ⟨[.int .i64 c, .int .i64 d, .int .i64 f]⟩, .bool g]⟩ ∧
  ∀ i : Nat, a.heap.size ≤ i →
  CallK Tryd.prog 59 [.agg ⟨[.int .i64 6, .int .i64 0, .int .i64 50]⟩] B a [i] fun j l => 
  ∃ m : ByteArray, j = .string m ∧
  if (m.toList == ({ data := #[114, 117, 110, 32, 48, 32, 53, 48] } : ByteArray).toList) = true
  then (if g = true
   then (if ((c == 2) && ((d == 12) && (f == 1))) = true
    then (CallK Tryd.prog 57 [.agg ⟨[.int .i64 c, .int .i64 d, .int .i64 f]⟩] B l [i] fun n o => 
     ∃ p : Bool, n = .bool p ∧
     Ret B o (R (.bool p)))
    else (Ret B l (R (.bool false))))
   else (Ret B l (R (.bool false))))
  else (Ret B l (R (.bool false)))
noncomputable def V54.cfg (B : Nat) : Cfg := ⟨Tryd.prog, ⟨22, B⟩, [], hasN [55, 57, 59], hasN [40], look []⟩
noncomputable def V54.code : Code := (Tryd.f54.body).getD .skip
noncomputable def V54.cuts (B : Nat) (R : Value → World → Prop) : Nat → Cut := nthC []
noncomputable def V54.h : H := .s (.z) (.s (.z) (.s (.z) (.z)))
theorem V54.vc_eq (B : Nat) (R : Value → World → Prop)  (w : World) : wpf (V54.cfg B) (V54.cuts B R) V54.code V54.h [] (postOf Tryd.prog B (Tryd.f54.results.toList) R) (argE 0 []) [] w = V54.vc B R  w := by kernel_rfl
theorem V54.obl (B : Nat) (R : Value → World → Prop) : oblP (V54.cfg B) (V54.cuts B R) V54.code V54.h [] (postOf Tryd.prog B (Tryd.f54.results.toList) R) := by
  have e : oblP (V54.cfg B) (V54.cuts B R) V54.code V54.h [] (postOf Tryd.prog B (Tryd.f54.results.toList) R) = (True ∧ (True ∧ (True ∧ True))) := by kernel_rfl
  rw [e]
  exact ⟨trivial, ⟨trivial, ⟨trivial, trivial⟩⟩⟩
theorem V54.cfgOk (B : Nat) : CfgOk (V54.cfg B) := cfgOk_of (by kernel_rfl) (by kernel_rfl) extNil
theorem V54.sound  {w : World} {R : Value → World → Prop} (h : V54.vc w.heap.size R  w) : Calls Tryd.prog 54 ⟨[]⟩ w fun e w' => ∃ v, e = .returned v ∧ R v w' :=
  calls_wpfP (c := V54.cfg w.heap.size) (fn := Tryd.f54) (x := V54.code) (V54.cuts w.heap.size R) V54.h (V54.cfgOk _) mixed Tryd.func54 (by kernel_rfl) (by kernel_rfl) (by kernel_rfl) rfl (V54.obl _ _) ((V54.vc_eq _ _  _).symm ▸ h)
def V55.b3 (B : Nat) (R : Value → World → Prop) (a : ByteArray → Option Addr → Nat → Nat → Int → Int → Nat → Int → Int → Int → Nat → Int → Int → Int → World → Prop) (c : ByteArray) (d : Int) (f : ByteArray) (g : Option Addr) (i j : Nat) (l m : Int) (n : Nat) (o p q : Int) (r : Nat) (s t u : Int) (w : World) : Prop :=
  CallK Tryd.prog 92 [.string f] B w [n, r] fun v x => 
  ∃ (y : Int) (z : Value), v = .tuple ⟨[.int .i64 y, z]⟩ ∧ partV z fun A => 
  force A fun C => 
  if (d == 0) = true
  then (a c g i j l (IntKind.wrap .i64 (m + 1)) n o y q r s t u x)
  else (if (d == 1) = true
   then (a c g i j l (IntKind.wrap .i64 (m + 1)) n o p y r s t u x)
   else (a c g i j l (IntKind.wrap .i64 (m + 1)) n o p q r s t u x))
def V55.b2 (B : Nat) (R : Value → World → Prop) (a : ByteArray → Option Addr → Nat → Nat → Int → Int → Nat → Int → Int → Int → Nat → Int → Int → Int → World → Prop) (c : ByteArray) (d : Int) (f : ByteArray) (g : Option Addr) (i j : Nat) (l m : Int) (n : Nat) (o p q : Int) (r : Nat) (s t u : Int) (w : World) : Prop :=
  if (o == 2) = true
  then (CallK Tryd.prog 91 [.string f, .string ({ data := #[64, 35] } : ByteArray)] B w [n, r] fun v x => 
   ∃ y : ByteArray, v = .string y ∧
   V55.b3 B R a c d y g i j l m n o p q r s t u x)
  else (V55.b3 B R a c d f g i j l m n o p q r s t u w)
def V55.l1 (B : Nat) (R : Value → World → Prop) : Nat → ByteArray → Option Addr → Nat → Nat → Int → Int → Nat → Int → Int → Int → Nat → Int → Int → Int → World → Prop
  | 0 => fun _ _ _ _ _ _ _ _ _ _ _ _ _ _ _ => False
  | k + 1 => fun a c d f g i j l m n o p q r w =>
    if (decide (i < g)) = true
    then (∃ s : Addr, c = some s ∧ (0 : Int) ≤ i ∧ i < (d : Int) ∧
    ∃ t : ByteArray, w.cell? (s.add i.toNat) = some (.string t) ∧
    if (l == 2) = true
     then (CallK Tryd.prog 90 [.string t, .string ({ data := #[35] } : ByteArray)] B w [j, o] fun v u => 
      ∃ x : Bool, v = .bool x ∧
      if x = true
      then (V55.b2 B R (V55.l1 B R k) a i t c d f g i j l m 1 o p q r u)
      else (V55.b2 B R (V55.l1 B R k) a i t c d f g i j l m n o p q r u))
     else (V55.b2 B R (V55.l1 B R k) a i t c d f g i j l m n o p q r w))
    else (CallK Tryd.prog 57 [.agg ⟨[.int .i64 l, .int .i64 m, .int .i64 n]⟩] B w [j, o] fun v u => 
     ∃ y : Bool, v = .bool y ∧
     if (!y) = false
     then (CallK Tryd.prog 59 [.agg ⟨[.int .i64 l, .int .i64 m, .int .i64 n]⟩] B u [j, o] fun z A => 
      ∃ C : ByteArray, z = .string C ∧
      if (!(C.toList == a.toList)) = true
      then (Ret B A (R (.tuple ⟨[.agg ⟨[.int .i64 0, .int .i64 0, .int .i64 0]⟩, .bool false]⟩)))
      else (Ret B A (R (.tuple ⟨[.agg ⟨[.int .i64 l, .int .i64 m, .int .i64 n]⟩, .bool true]⟩))))
     else (Ret B u (R (.tuple ⟨[.agg ⟨[.int .i64 0, .int .i64 0, .int .i64 0]⟩, .bool false]⟩))))
def V55.l0 (B : Nat) (R : Value → World → Prop) : Nat → ByteArray → Option Addr → Nat → Nat → Option Addr → Nat → Nat → Int → Int → Nat → Int → Int → Int → Nat → Int → Int → Int → World → Prop
  | 0 => fun _ _ _ _ _ _ _ _ _ _ _ _ _ _ _ _ _ _ => False
  | k + 1 => fun c d f g i j l m n o p q r s t u x w =>
    if (decide (n < m)) = true
    then (∃ y : Addr, i = some y ∧ (0 : Int) ≤ n ∧ n < (j : Int) ∧
    ∃ z : ByteArray, w.cell? (y.add n.toNat) = some (.string z) ∧
    ∃ A : Addr, d = some A ∧ (0 : Int) ≤ 0 ∧ (0 : Int) < (f : Int) ∧
    ∃ C : ByteArray, w.cell? (A.add 0) = some (.string C) ∧
    if (z.toList == C.toList) = true
     then ((V55.l0 B R k) c d f g i j l m (IntKind.wrap .i64 (n + 1)) o n q r s t u x w)
     else ((V55.l0 B R k) c d f g i j l m (IntKind.wrap .i64 (n + 1)) o p q r s t u x w))
    else ((0 : Int) ≤ 1 ∧ (1 : Int) ≤ (f : Int) ∧
    ∃ D, V55.l1 B R D c (if g = 1 then d else Option.map (fun a => a.add 1) d) (f - 1) (g - 1) ((f - 1 : Nat) : Int) 0 o p q r s t u x w)
def V55.vc (B : Nat) (R : Value → World → Prop) (a : ByteArray) (w : World) : Prop :=
  ∀ c : Nat, w.heap.size ≤ c →
  ∀ d : Nat, w.heap.size ≤ d →
  CallK Tryd.prog 88 [.string a, .string ({ data := #[32] } : ByteArray)] B w [d, c] fun v f => 
  ∃ (g : Option Addr) (i j : Nat), v = .slice g i j ∧
  CallK Tryd.prog 89 [] B f [d, c] fun l m => 
  ∃ (n : Option Addr) (o p : Nat), l = .slice n o p ∧
  ∃ q, V55.l0 B R q a g i j n o p (o : Int) 0 d 0 0 0 c 0 0 0 m
noncomputable def V55.cfg (B : Nat) : Cfg := ⟨Tryd.prog, ⟨76, B⟩, [], hasN [57, 59, 88, 89, 90, 91, 92], hasN [], look []⟩
noncomputable def V55.code : Code := (Tryd.f55.body).getD .skip
noncomputable def V55.cuts (B : Nat) (R : Value → World → Prop) : Nat → Cut := nthC [⟨[(0, .one (.str)), (5, .one (.slice)), (14, .one (.slice)), (15, .one (.int .i64)), (16, .one (.int .i64))], [(4, 40, [.int .i64, .int .i64, .int .i64]), (2, 40, [.int .i64, .int .i64, .int .i64])], fun fs vs bs w => V55.l0 B R (nthN fs 0) (sV (nthV vs 0)) (slA (nthV vs 1)) (slL (nthV vs 1)) (slC (nthV vs 1)) (slA (nthV vs 2)) (slL (nthV vs 2)) (slC (nthV vs 2)) (iV (nthV vs 3)) (iV (nthV vs 4)) (nthB bs 0).blk (iV (nthV (nthB bs 0).cells 0)) (iV (nthV (nthB bs 0).cells 1)) (iV (nthV (nthB bs 0).cells 2)) (nthB bs 1).blk (iV (nthV (nthB bs 1).cells 0)) (iV (nthV (nthB bs 1).cells 1)) (iV (nthV (nthB bs 1).cells 2)) w⟩,
  ⟨[(0, .one (.str)), (30, .one (.slice)), (31, .one (.int .i64)), (32, .one (.int .i64))], [(4, 40, [.int .i64, .int .i64, .int .i64]), (2, 40, [.int .i64, .int .i64, .int .i64])], fun fs vs bs w => V55.l1 B R (nthN fs 0) (sV (nthV vs 0)) (slA (nthV vs 1)) (slL (nthV vs 1)) (slC (nthV vs 1)) (iV (nthV vs 2)) (iV (nthV vs 3)) (nthB bs 0).blk (iV (nthV (nthB bs 0).cells 0)) (iV (nthV (nthB bs 0).cells 1)) (iV (nthV (nthB bs 0).cells 2)) (nthB bs 1).blk (iV (nthV (nthB bs 1).cells 0)) (iV (nthV (nthB bs 1).cells 1)) (iV (nthV (nthB bs 1).cells 2)) w⟩,
  ⟨[(0, .one (.str)), (8, .one (.int .i64)), (9, .one (.str)), (30, .one (.slice)), (31, .one (.int .i64)), (32, .one (.int .i64))], [(4, 40, [.int .i64, .int .i64, .int .i64]), (2, 40, [.int .i64, .int .i64, .int .i64])], fun fs vs bs w => V55.b2 B R (V55.l1 B R (nthN fs 0)) (sV (nthV vs 0)) (iV (nthV vs 1)) (sV (nthV vs 2)) (slA (nthV vs 3)) (slL (nthV vs 3)) (slC (nthV vs 3)) (iV (nthV vs 4)) (iV (nthV vs 5)) (nthB bs 0).blk (iV (nthV (nthB bs 0).cells 0)) (iV (nthV (nthB bs 0).cells 1)) (iV (nthV (nthB bs 0).cells 2)) (nthB bs 1).blk (iV (nthV (nthB bs 1).cells 0)) (iV (nthV (nthB bs 1).cells 1)) (iV (nthV (nthB bs 1).cells 2)) w⟩,
  ⟨[(0, .one (.str)), (8, .one (.int .i64)), (9, .one (.str)), (30, .one (.slice)), (31, .one (.int .i64)), (32, .one (.int .i64))], [(4, 40, [.int .i64, .int .i64, .int .i64]), (2, 40, [.int .i64, .int .i64, .int .i64])], fun fs vs bs w => V55.b3 B R (V55.l1 B R (nthN fs 0)) (sV (nthV vs 0)) (iV (nthV vs 1)) (sV (nthV vs 2)) (slA (nthV vs 3)) (slL (nthV vs 3)) (slC (nthV vs 3)) (iV (nthV vs 4)) (iV (nthV vs 5)) (nthB bs 0).blk (iV (nthV (nthB bs 0).cells 0)) (iV (nthV (nthB bs 0).cells 1)) (iV (nthV (nthB bs 0).cells 2)) (nthB bs 1).blk (iV (nthV (nthB bs 1).cells 0)) (iV (nthV (nthB bs 1).cells 1)) (iV (nthV (nthB bs 1).cells 2)) w⟩]
noncomputable def V55.h : H := .s (.z) (.s (.z) (.s (.z) (.s (.s (.z) (.b (.l 0 (.s (.z) (.s (.c (.z) (.z)) (.s (.b (.s (.z) (.s (.z) (.c (.z) (.z))))) (.z))))))) (.s (.s (.z) (.b (.l 1 (.s (.z) (.s (.c (.z) (.z)) (.s (.b (.s (.z) (.cut 2 (.s (.z) (.c (.z) (.z))) (.cut 3 (.s (.z) (.c (.z) (.z))) (.s (.z) (.s (.z) (.b (.s (.z) (.c (.z) (.s (.z) (.c (.z) (.z)))))))))))) (.z))))))) (.s (.s (.z) (.c (.s (.z) (.z)) (.z))) (.s (.z) (.z)))))))
theorem V55.vc_eq (B : Nat) (R : Value → World → Prop) (a : ByteArray) (w : World) : wpf (V55.cfg B) (V55.cuts B R) V55.code V55.h [] (postOf Tryd.prog B (Tryd.f55.results.toList) R) (argE 0 [.string a]) [] w = V55.vc B R a w := by kernel_rfl
theorem V55.obl (B : Nat) (R : Value → World → Prop) : oblP (V55.cfg B) (V55.cuts B R) V55.code V55.h [] (postOf Tryd.prog B (Tryd.f55.results.toList) R) := by
  have e : oblP (V55.cfg B) (V55.cuts B R) V55.code V55.h [] (postOf Tryd.prog B (Tryd.f55.results.toList) R) = (True ∧ (True ∧ (True ∧ ((True ∧ ((∀ (a : ByteArray) (c : Option Addr) (d f : Nat) (g : Option Addr) (i j : Nat) (l m : Int) (n : Nat) (o p q : Int) (r : Nat) (s t u : Int) (w : World), ¬ V55.l0 B R 0 a c d f g i j l m n o p q r s t u w) ∧ (∀ x, ∀ (a : ByteArray) (c : Option Addr) (d f : Nat) (g : Option Addr) (i j : Nat) (l m : Int) (n : Nat) (o p q : Int) (r : Nat) (s t u : Int) (w : World), V55.l0 B R (x + 1) a c d f g i j l m n o p q r s t u w → V55.l0 B R (x + 1) a c d f g i j l m n o p q r s t u w) ∧ ∀ x : Nat, (True ∧ ((True ∧ True) ∧ ((True ∧ (True ∧ (True ∧ True))) ∧ True))))) ∧ ((True ∧ ((∀ (a : ByteArray) (y : Option Addr) (z A : Nat) (C D : Int) (n : Nat) (o p q : Int) (r : Nat) (s t u : Int) (w : World), ¬ V55.l1 B R 0 a y z A C D n o p q r s t u w) ∧ (∀ E, ∀ (a : ByteArray) (y : Option Addr) (z A : Nat) (C D : Int) (n : Nat) (o p q : Int) (r : Nat) (s t u : Int) (w : World), V55.l1 B R (E + 1) a y z A C D n o p q r s t u w → V55.l1 B R (E + 1) a y z A C D n o p q r s t u w) ∧ ∀ E : Nat, (True ∧ ((True ∧ True) ∧ ((True ∧ ((True ∧ (True ∧ True)) ∧ (∀ (a : ByteArray) (F : Int) (G : ByteArray) (y : Option Addr) (z A : Nat) (C D : Int) (n : Nat) (o p q : Int) (r : Nat) (s t u : Int) (w : World), V55.b2 B R (V55.l1 B R E) a F G y z A C D n o p q r s t u w → V55.b2 B R (V55.l1 B R E) a F G y z A C D n o p q r s t u w) ∧ ((True ∧ (True ∧ True)) ∧ (∀ (a : ByteArray) (F : Int) (G : ByteArray) (y : Option Addr) (z A : Nat) (C D : Int) (n : Nat) (o p q : Int) (r : Nat) (s t u : Int) (w : World), V55.b3 B R (V55.l1 B R E) a F G y z A C D n o p q r s t u w → V55.b3 B R (V55.l1 B R E) a F G y z A C D n o p q r s t u w) ∧ (True ∧ (True ∧ (True ∧ (True ∧ (True ∧ (True ∧ True))))))))) ∧ True))))) ∧ ((True ∧ ((True ∧ True) ∧ True)) ∧ (True ∧ True))))))) := by kernel_rfl
  rw [e]
  exact ⟨trivial, ⟨trivial, ⟨trivial, ⟨⟨trivial, ⟨fun a c d f g i j l m n o p q r s t u w h => h, fun _ a c d f g i j l m n o p q r s t u w h => h, fun x => ⟨trivial, ⟨⟨trivial, trivial⟩, ⟨⟨trivial, ⟨trivial, ⟨trivial, trivial⟩⟩⟩, trivial⟩⟩⟩⟩⟩, ⟨⟨trivial, ⟨fun a y z A C D n o p q r s t u w h => h, fun _ a y z A C D n o p q r s t u w h => h, fun E => ⟨trivial, ⟨⟨trivial, trivial⟩, ⟨⟨trivial, ⟨⟨trivial, ⟨trivial, trivial⟩⟩, fun a F G y z A C D n o p q r s t u w h => h, ⟨⟨trivial, ⟨trivial, trivial⟩⟩, fun a F G y z A C D n o p q r s t u w h => h, ⟨trivial, ⟨trivial, ⟨trivial, ⟨trivial, ⟨trivial, ⟨trivial, trivial⟩⟩⟩⟩⟩⟩⟩⟩⟩, trivial⟩⟩⟩⟩⟩, ⟨⟨trivial, ⟨⟨trivial, trivial⟩, trivial⟩⟩, ⟨trivial, trivial⟩⟩⟩⟩⟩⟩⟩
theorem V55.cfgOk (B : Nat) : CfgOk (V55.cfg B) := cfgOk_of (by kernel_rfl) (by kernel_rfl) extNil
theorem V55.sound {a : ByteArray} {w : World} {R : Value → World → Prop} (h : V55.vc w.heap.size R a w) : Calls Tryd.prog 55 ⟨[.string a]⟩ w fun e w' => ∃ v, e = .returned v ∧ R v w' :=
  calls_wpfP (c := V55.cfg w.heap.size) (fn := Tryd.f55) (x := V55.code) (V55.cuts w.heap.size R) V55.h (V55.cfgOk _) mixed Tryd.func55 (by kernel_rfl) (by kernel_rfl) (by kernel_rfl) rfl (V55.obl _ _) ((V55.vc_eq _ _ a _).symm ▸ h)
def V56.b3 (B : Nat) (R : Value → World → Prop) (a : ByteArray) (c : Nat) (d f g : Int) (i : Nat) (j l m : Int) (w : World) : Prop :=
  CallK Tryd.prog 58 [.agg ⟨[.int .i64 d, .int .i64 f, .int .i64 g]⟩] B w [c, i] fun v n => 
  ∃ o : Bool, v = .bool o ∧
  if (!o) = false
  then (CallK Tryd.prog 60 [.agg ⟨[.int .i64 d, .int .i64 f, .int .i64 g]⟩] B n [c, i] fun p q => 
   ∃ r : ByteArray, p = .string r ∧
   if (!(r.toList == a.toList)) = true
   then (Ret B q (R (.tuple ⟨[.agg ⟨[.int .i64 0, .int .i64 0, .int .i64 0]⟩, .bool false]⟩)))
   else (Ret B q (R (.tuple ⟨[.agg ⟨[.int .i64 d, .int .i64 f, .int .i64 g]⟩, .bool true]⟩))))
  else (Ret B n (R (.tuple ⟨[.agg ⟨[.int .i64 0, .int .i64 0, .int .i64 0]⟩, .bool false]⟩)))
def V56.b2 (B : Nat) (R : Value → World → Prop) (a : ByteArray) (c : Option Addr) (d f g : Nat) (i j l : Int) (m : Nat) (n o p : Int) (w : World) : Prop :=
  if ((d : Int) == 3) = true
  then (∃ q : Addr, c = some q ∧ (0 : Int) ≤ 2 ∧ (2 : Int) < (d : Int) ∧
  ∃ r : ByteArray, w.cell? (q.add 2) = some (.string r) ∧
  CallK Tryd.prog 95 [.string r] B w [g, m] fun v s => 
   ∃ (t : Int) (u : Bool), v = .tuple ⟨[.int .i64 t, .bool u]⟩ ∧
   if (!u) = true
   then (Ret B s (R (.tuple ⟨[.agg ⟨[.int .i64 0, .int .i64 0, .int .i64 0]⟩, .bool false]⟩)))
   else (V56.b3 B R a g i j t m n o p s))
  else (V56.b3 B R a g i j l m n o p w)
def V56.b1 (B : Nat) (R : Value → World → Prop) (a : ByteArray) (c : Option Addr) (d f : Nat) (g : ByteArray) (i : Nat) (j l m : Int) (n : Nat) (o p q : Int) (w : World) : Prop :=
  CallK Tryd.prog 95 [.string g] B w [i, n] fun v r => 
  ∃ (s : Int) (t : Bool), v = .tuple ⟨[.int .i64 s, .bool t]⟩ ∧
  if (!t) = true
  then (Ret B r (R (.tuple ⟨[.agg ⟨[.int .i64 0, .int .i64 0, .int .i64 0]⟩, .bool false]⟩)))
  else (V56.b2 B R a c d f i j s m n o p q r)
def V56.b0 (B : Nat) (R : Value → World → Prop) (a : ByteArray) (c : Option Addr) (d f : Nat) (g : ByteArray) (i : Bool) (j : Nat) (l m n : Int) (o : Nat) (p q r : Int) (w : World) : Prop :=
  if i = true
  then (∃ s : UInt8, (0 : Int) ≤ 0 ∧ g[0]? = some s ∧
  if (((s.toNat : Nat) : Int) == 35) = true
   then ((0 : Int) ≤ 1 ∧ (1 : Int) ≤ ((g.size : Nat) : Int) ∧
   V56.b1 B R a c d f (g.extract 1 g.size) j l m 1 o p q r w)
   else ((0 : Int) ≤ 1 ∧ (1 : Int) ≤ ((g.size : Nat) : Int) ∧
   V56.b1 B R a c d f (g.extract 1 g.size) j l m n o p q r w))
  else (V56.b1 B R a c d f g j l m n o p q r w)
def V56.vc (B : Nat) (R : Value → World → Prop) (a : ByteArray) (w : World) : Prop :=
  ∀ c : Nat, w.heap.size ≤ c →
  if (decide (((a.size : Nat) : Int) > 60)) = true
  then (Ret B w (R (.tuple ⟨[.agg ⟨[.int .i64 0, .int .i64 0, .int .i64 0]⟩, .bool false]⟩)))
  else (CallK Tryd.prog 93 [.string a] B w [c] fun v d => 
   ∃ (f : Option Addr) (g i : Nat), v = .slice f g i ∧
   ∃ j : Addr, f = some j ∧ (0 : Int) ≤ 0 ∧ (0 : Int) < (g : Int) ∧
   ∃ l : ByteArray, d.cell? (j.add 0) = some (.string l) ∧
   CallK Tryd.prog 94 [.string l] B d [c] fun m n => 
   ∃ o : Int, m = .int .i64 o ∧
   ∀ p : Nat, n.heap.size ≤ p →
   if (o == 0) = false
   then (if (decide ((g : Int) > 3)) = true
    then (Ret B n (R (.tuple ⟨[.agg ⟨[.int .i64 0, .int .i64 0, .int .i64 0]⟩, .bool false]⟩)))
    else (if (decide ((g : Int) ≥ 2)) = true
     then (∃ q : Addr, f = some q ∧ (0 : Int) ≤ 1 ∧ (1 : Int) < (g : Int) ∧
     ∃ r : ByteArray, n.cell? (q.add 1) = some (.string r) ∧
     if (o == 2) = true
      then (V56.b0 B R a f g i r (decide (((r.size : Nat) : Int) > 0)) p o 0 0 c 0 0 0 n)
      else (V56.b0 B R a f g i r false p o 0 0 c 0 0 0 n))
     else (V56.b2 B R a f g i p o 0 0 c 0 0 0 n)))
   else (Ret B n (R (.tuple ⟨[.agg ⟨[.int .i64 0, .int .i64 0, .int .i64 0]⟩, .bool false]⟩))))
noncomputable def V56.cfg (B : Nat) : Cfg := ⟨Tryd.prog, ⟨87, B⟩, [], hasN [58, 60, 93, 94, 95], hasN [], look []⟩
noncomputable def V56.code : Code := (Tryd.f56.body).getD .skip
noncomputable def V56.cuts (B : Nat) (R : Value → World → Prop) : Nat → Cut := nthC [⟨[(0, .one (.str)), (4, .one (.slice)), (6, .one (.str)), (44, .one (.bool))], [(5, 40, [.int .i64, .int .i64, .int .i64]), (2, 40, [.int .i64, .int .i64, .int .i64])], fun fs vs bs w => V56.b0 B R (sV (nthV vs 0)) (slA (nthV vs 1)) (slL (nthV vs 1)) (slC (nthV vs 1)) (sV (nthV vs 2)) (bV (nthV vs 3)) (nthB bs 0).blk (iV (nthV (nthB bs 0).cells 0)) (iV (nthV (nthB bs 0).cells 1)) (iV (nthV (nthB bs 0).cells 2)) (nthB bs 1).blk (iV (nthV (nthB bs 1).cells 0)) (iV (nthV (nthB bs 1).cells 1)) (iV (nthV (nthB bs 1).cells 2)) w⟩,
  ⟨[(0, .one (.str)), (4, .one (.slice)), (6, .one (.str))], [(5, 40, [.int .i64, .int .i64, .int .i64]), (2, 40, [.int .i64, .int .i64, .int .i64])], fun fs vs bs w => V56.b1 B R (sV (nthV vs 0)) (slA (nthV vs 1)) (slL (nthV vs 1)) (slC (nthV vs 1)) (sV (nthV vs 2)) (nthB bs 0).blk (iV (nthV (nthB bs 0).cells 0)) (iV (nthV (nthB bs 0).cells 1)) (iV (nthV (nthB bs 0).cells 2)) (nthB bs 1).blk (iV (nthV (nthB bs 1).cells 0)) (iV (nthV (nthB bs 1).cells 1)) (iV (nthV (nthB bs 1).cells 2)) w⟩,
  ⟨[(0, .one (.str)), (4, .one (.slice))], [(5, 40, [.int .i64, .int .i64, .int .i64]), (2, 40, [.int .i64, .int .i64, .int .i64])], fun fs vs bs w => V56.b2 B R (sV (nthV vs 0)) (slA (nthV vs 1)) (slL (nthV vs 1)) (slC (nthV vs 1)) (nthB bs 0).blk (iV (nthV (nthB bs 0).cells 0)) (iV (nthV (nthB bs 0).cells 1)) (iV (nthV (nthB bs 0).cells 2)) (nthB bs 1).blk (iV (nthV (nthB bs 1).cells 0)) (iV (nthV (nthB bs 1).cells 1)) (iV (nthV (nthB bs 1).cells 2)) w⟩,
  ⟨[(0, .one (.str))], [(5, 40, [.int .i64, .int .i64, .int .i64]), (2, 40, [.int .i64, .int .i64, .int .i64])], fun fs vs bs w => V56.b3 B R (sV (nthV vs 0)) (nthB bs 0).blk (iV (nthV (nthB bs 0).cells 0)) (iV (nthV (nthB bs 0).cells 1)) (iV (nthV (nthB bs 0).cells 2)) (nthB bs 1).blk (iV (nthV (nthB bs 1).cells 0)) (iV (nthV (nthB bs 1).cells 1)) (iV (nthV (nthB bs 1).cells 2)) w⟩]
noncomputable def V56.h : H := .s (.z) (.s (.s (.z) (.c (.s (.z) (.z)) (.z))) (.s (.z) (.s (.z) (.s (.s (.z) (.c (.s (.z) (.z)) (.z))) (.cut 2 (.s (.z) (.c (.s (.z) (.cut 1 (.cut 0 (.z) (.c (.s (.s (.z) (.c (.z) (.z))) (.z)) (.z))) (.s (.z) (.s (.s (.z) (.c (.s (.z) (.z)) (.z))) (.z))))) (.z))) (.cut 3 (.s (.z) (.c (.s (.z) (.s (.s (.z) (.c (.s (.z) (.z)) (.z))) (.z))) (.z))) (.s (.s (.z) (.c (.s (.z) (.z)) (.z))) (.s (.z) (.z)))))))))
theorem V56.vc_eq (B : Nat) (R : Value → World → Prop) (a : ByteArray) (w : World) : wpf (V56.cfg B) (V56.cuts B R) V56.code V56.h [] (postOf Tryd.prog B (Tryd.f56.results.toList) R) (argE 0 [.string a]) [] w = V56.vc B R a w := by kernel_rfl
theorem V56.obl (B : Nat) (R : Value → World → Prop) : oblP (V56.cfg B) (V56.cuts B R) V56.code V56.h [] (postOf Tryd.prog B (Tryd.f56.results.toList) R) := by
  have e : oblP (V56.cfg B) (V56.cuts B R) V56.code V56.h [] (postOf Tryd.prog B (Tryd.f56.results.toList) R) = (True ∧ ((True ∧ ((True ∧ True) ∧ True)) ∧ (True ∧ (True ∧ ((True ∧ ((True ∧ True) ∧ True)) ∧ ((True ∧ ((True ∧ ((True ∧ (∀ (a : ByteArray) (c : Option Addr) (d f : Nat) (g : ByteArray) (i : Bool) (j : Nat) (l m n : Int) (o : Nat) (p q r : Int) (w : World), V56.b0 B R a c d f g i j l m n o p q r w → V56.b0 B R a c d f g i j l m n o p q r w) ∧ (((True ∧ (True ∧ True)) ∧ True) ∧ True)) ∧ (∀ (a : ByteArray) (c : Option Addr) (d f : Nat) (g : ByteArray) (j : Nat) (l m n : Int) (o : Nat) (p q r : Int) (w : World), V56.b1 B R a c d f g j l m n o p q r w → V56.b1 B R a c d f g j l m n o p q r w) ∧ (True ∧ ((True ∧ ((True ∧ True) ∧ True)) ∧ True)))) ∧ True)) ∧ (∀ (a : ByteArray) (c : Option Addr) (d f j : Nat) (l m n : Int) (o : Nat) (p q r : Int) (w : World), V56.b2 B R a c d f j l m n o p q r w → V56.b2 B R a c d f j l m n o p q r w) ∧ ((True ∧ ((True ∧ ((True ∧ ((True ∧ True) ∧ True)) ∧ True)) ∧ True)) ∧ (∀ (a : ByteArray) (j : Nat) (l m n : Int) (o : Nat) (p q r : Int) (w : World), V56.b3 B R a j l m n o p q r w → V56.b3 B R a j l m n o p q r w) ∧ ((True ∧ ((True ∧ True) ∧ True)) ∧ (True ∧ True))))))))) := by kernel_rfl
  rw [e]
  exact ⟨trivial, ⟨⟨trivial, ⟨⟨trivial, trivial⟩, trivial⟩⟩, ⟨trivial, ⟨trivial, ⟨⟨trivial, ⟨⟨trivial, trivial⟩, trivial⟩⟩, ⟨⟨trivial, ⟨⟨trivial, ⟨⟨trivial, fun a c d f g i j l m n o p q r w h => h, ⟨⟨⟨trivial, ⟨trivial, trivial⟩⟩, trivial⟩, trivial⟩⟩, fun a c d f g j l m n o p q r w h => h, ⟨trivial, ⟨⟨trivial, ⟨⟨trivial, trivial⟩, trivial⟩⟩, trivial⟩⟩⟩⟩, trivial⟩⟩, fun a c d f j l m n o p q r w h => h, ⟨⟨trivial, ⟨⟨trivial, ⟨⟨trivial, ⟨⟨trivial, trivial⟩, trivial⟩⟩, trivial⟩⟩, trivial⟩⟩, fun a j l m n o p q r w h => h, ⟨⟨trivial, ⟨⟨trivial, trivial⟩, trivial⟩⟩, ⟨trivial, trivial⟩⟩⟩⟩⟩⟩⟩⟩⟩
theorem V56.cfgOk (B : Nat) : CfgOk (V56.cfg B) := cfgOk_of (by kernel_rfl) (by kernel_rfl) extNil
theorem V56.sound {a : ByteArray} {w : World} {R : Value → World → Prop} (h : V56.vc w.heap.size R a w) : Calls Tryd.prog 56 ⟨[.string a]⟩ w fun e w' => ∃ v, e = .returned v ∧ R v w' :=
  calls_wpfP (c := V56.cfg w.heap.size) (fn := Tryd.f56) (x := V56.code) (V56.cuts w.heap.size R) V56.h (V56.cfgOk _) mixed Tryd.func56 (by kernel_rfl) (by kernel_rfl) (by kernel_rfl) rfl (V56.obl _ _) ((V56.vc_eq _ _ a _).symm ▸ h)
def V57.b1 (B : Nat) (R : Value → World → Prop) (a : Int) (c : Bool) (d : Nat) (f g i : Int) (w : World) : Prop :=
  if c = true
  then (if (g == 0) = true
   then (Ret B w (R (.bool (i == 0))))
   else (Ret B w (R (.bool false))))
  else (if (a == 6) = true
   then (if (decide (i ≥ 1)) = true
    then (Ret B w (R (.bool (decide (i ≤ 1000)))))
    else (Ret B w (R (.bool false))))
   else (Ret B w (R (.bool false))))
def V57.b0 (B : Nat) (R : Value → World → Prop) (a : Int) (c : Bool) (d : Nat) (f g i : Int) (w : World) : Prop :=
  if c = true
  then (Ret B w (R (.bool (i == 0))))
  else (if (a == 2) = true
   then (if (i == 0) = false
    then (Ret B w (R (.bool (i == 1))))
    else (Ret B w (R (.bool true))))
   else (if (a == 3) = true
    then (V57.b1 B R a (a == 3) d f g i w)
    else (if (a == 4) = true
     then (V57.b1 B R a (a == 4) d f g i w)
     else (V57.b1 B R a (a == 5) d f g i w))))
def V57.vc (B : Nat) (R : Value → World → Prop) (a c d : Int) (w : World) : Prop :=
  ∀ f : Nat, w.heap.size ≤ f →
  if (a == 1) = true
  then (V57.b0 B R a (a == 1) f a c d w)
  else (if (a == 7) = true
   then (V57.b0 B R a (a == 7) f a c d w)
   else (if (a == 8) = true
    then (V57.b0 B R a (a == 8) f a c d w)
    else (V57.b0 B R a (a == 9) f a c d w)))
noncomputable def V57.cfg (B : Nat) : Cfg := ⟨Tryd.prog, ⟨45, B⟩, [], hasN [], hasN [], look []⟩
noncomputable def V57.code : Code := (Tryd.f57.body).getD .skip
noncomputable def V57.cuts (B : Nat) (R : Value → World → Prop) : Nat → Cut := nthC [⟨[(4, .one (.int .i64)), (5, .one (.bool))], [(1, 40, [.int .i64, .int .i64, .int .i64])], fun fs vs bs w => V57.b0 B R (iV (nthV vs 0)) (bV (nthV vs 1)) (nthB bs 0).blk (iV (nthV (nthB bs 0).cells 0)) (iV (nthV (nthB bs 0).cells 1)) (iV (nthV (nthB bs 0).cells 2)) w⟩,
  ⟨[(4, .one (.int .i64)), (23, .one (.bool))], [(1, 40, [.int .i64, .int .i64, .int .i64])], fun fs vs bs w => V57.b1 B R (iV (nthV vs 0)) (bV (nthV vs 1)) (nthB bs 0).blk (iV (nthV (nthB bs 0).cells 0)) (iV (nthV (nthB bs 0).cells 1)) (iV (nthV (nthB bs 0).cells 2)) w⟩]
noncomputable def V57.h : H := .s (.z) (.s (.s (.z) (.b (.cut 0 (.s (.z) (.c (.z) (.s (.z) (.c (.z) (.s (.z) (.c (.z) (.z))))))) (.c (.s (.z) (.z)) (.s (.z) (.c (.s (.z) (.z)) (.cut 1 (.s (.z) (.c (.z) (.s (.z) (.c (.z) (.z))))) (.c (.s (.z) (.z)) (.s (.z) (.c (.s (.z) (.z)) (.z))))))))))) (.s (.z) (.z)))
theorem V57.vc_eq (B : Nat) (R : Value → World → Prop) (a c d : Int) (w : World) : wpf (V57.cfg B) (V57.cuts B R) V57.code V57.h [] (postOf Tryd.prog B (Tryd.f57.results.toList) R) (argE 0 [.agg ⟨[.int .i64 a, .int .i64 c, .int .i64 d]⟩]) [] w = V57.vc B R a c d w := by kernel_rfl
theorem V57.obl (B : Nat) (R : Value → World → Prop) : oblP (V57.cfg B) (V57.cuts B R) V57.code V57.h [] (postOf Tryd.prog B (Tryd.f57.results.toList) R) := by
  have e : oblP (V57.cfg B) (V57.cuts B R) V57.code V57.h [] (postOf Tryd.prog B (Tryd.f57.results.toList) R) = (True ∧ ((True ∧ ((True ∧ (True ∧ (True ∧ (True ∧ (True ∧ (True ∧ True)))))) ∧ (∀ (a : Int) (c : Bool) (d : Nat) (f g i : Int) (w : World), V57.b0 B R a c d f g i w → V57.b0 B R a c d f g i w) ∧ ((True ∧ True) ∧ (True ∧ ((True ∧ True) ∧ ((True ∧ (True ∧ (True ∧ (True ∧ True)))) ∧ (∀ (a : Int) (j : Bool) (d : Nat) (f g i : Int) (w : World), V57.b1 B R a j d f g i w → V57.b1 B R a j d f g i w) ∧ ((True ∧ True) ∧ (True ∧ ((True ∧ True) ∧ True))))))))) ∧ (True ∧ True))) := by kernel_rfl
  rw [e]
  exact ⟨trivial, ⟨⟨trivial, ⟨⟨trivial, ⟨trivial, ⟨trivial, ⟨trivial, ⟨trivial, ⟨trivial, trivial⟩⟩⟩⟩⟩⟩, fun a c d f g i w h => h, ⟨⟨trivial, trivial⟩, ⟨trivial, ⟨⟨trivial, trivial⟩, ⟨⟨trivial, ⟨trivial, ⟨trivial, ⟨trivial, trivial⟩⟩⟩⟩, fun a j d f g i w h => h, ⟨⟨trivial, trivial⟩, ⟨trivial, ⟨⟨trivial, trivial⟩, trivial⟩⟩⟩⟩⟩⟩⟩⟩⟩, ⟨trivial, trivial⟩⟩⟩
theorem V57.cfgOk (B : Nat) : CfgOk (V57.cfg B) := cfgOk_of (by kernel_rfl) (by kernel_rfl) extNil
theorem V57.sound {a d f : Int} {w : World} {R : Value → World → Prop} (h : V57.vc w.heap.size R a d f w) : Calls Tryd.prog 57 ⟨[.agg ⟨[.int .i64 a, .int .i64 d, .int .i64 f]⟩]⟩ w fun e w' => ∃ v, e = .returned v ∧ R v w' :=
  calls_wpfP (c := V57.cfg w.heap.size) (fn := Tryd.f57) (x := V57.code) (V57.cuts w.heap.size R) V57.h (V57.cfgOk _) mixed Tryd.func57 (by kernel_rfl) (by kernel_rfl) (by kernel_rfl) rfl (V57.obl _ _) ((V57.vc_eq _ _ a d f _).symm ▸ h)
def V58.b1 (B : Nat) (R : Value → World → Prop) (a : Int) (c : Bool) (d : Nat) (f g i : Int) (w : World) : Prop :=
  if c = true
  then (if (g == 0) = true
   then (Ret B w (R (.bool (i == 0))))
   else (Ret B w (R (.bool false))))
  else (if (a == 6) = true
   then (if (decide (i ≥ 1)) = true
    then (Ret B w (R (.bool (decide (i ≤ 1000)))))
    else (Ret B w (R (.bool false))))
   else (Ret B w (R (.bool false))))
def V58.b0 (B : Nat) (R : Value → World → Prop) (a : Int) (c : Bool) (d : Nat) (f g i : Int) (w : World) : Prop :=
  if c = true
  then (Ret B w (R (.bool (i == 0))))
  else (if (a == 2) = true
   then (if (i == 0) = false
    then (Ret B w (R (.bool (i == 1))))
    else (Ret B w (R (.bool true))))
   else (if (a == 3) = true
    then (V58.b1 B R a (a == 3) d f g i w)
    else (if (a == 4) = true
     then (V58.b1 B R a (a == 4) d f g i w)
     else (V58.b1 B R a (a == 5) d f g i w))))
def V58.vc (B : Nat) (R : Value → World → Prop) (a c d : Int) (w : World) : Prop :=
  ∀ f : Nat, w.heap.size ≤ f →
  if (a == 1) = true
  then (V58.b0 B R a (a == 1) f a c d w)
  else (if (a == 7) = true
   then (V58.b0 B R a (a == 7) f a c d w)
   else (if (a == 8) = true
    then (V58.b0 B R a (a == 8) f a c d w)
    else (V58.b0 B R a (a == 9) f a c d w)))
noncomputable def V58.cfg (B : Nat) : Cfg := ⟨Tryd.prog, ⟨45, B⟩, [], hasN [], hasN [], look []⟩
noncomputable def V58.code : Code := (Tryd.f58.body).getD .skip
noncomputable def V58.cuts (B : Nat) (R : Value → World → Prop) : Nat → Cut := nthC [⟨[(4, .one (.int .i64)), (5, .one (.bool))], [(1, 40, [.int .i64, .int .i64, .int .i64])], fun fs vs bs w => V58.b0 B R (iV (nthV vs 0)) (bV (nthV vs 1)) (nthB bs 0).blk (iV (nthV (nthB bs 0).cells 0)) (iV (nthV (nthB bs 0).cells 1)) (iV (nthV (nthB bs 0).cells 2)) w⟩,
  ⟨[(4, .one (.int .i64)), (23, .one (.bool))], [(1, 40, [.int .i64, .int .i64, .int .i64])], fun fs vs bs w => V58.b1 B R (iV (nthV vs 0)) (bV (nthV vs 1)) (nthB bs 0).blk (iV (nthV (nthB bs 0).cells 0)) (iV (nthV (nthB bs 0).cells 1)) (iV (nthV (nthB bs 0).cells 2)) w⟩]
noncomputable def V58.h : H := .s (.z) (.s (.s (.z) (.b (.cut 0 (.s (.z) (.c (.z) (.s (.z) (.c (.z) (.s (.z) (.c (.z) (.z))))))) (.c (.s (.z) (.z)) (.s (.z) (.c (.s (.z) (.z)) (.cut 1 (.s (.z) (.c (.z) (.s (.z) (.c (.z) (.z))))) (.c (.s (.z) (.z)) (.s (.z) (.c (.s (.z) (.z)) (.z))))))))))) (.s (.z) (.z)))
theorem V58.vc_eq (B : Nat) (R : Value → World → Prop) (a c d : Int) (w : World) : wpf (V58.cfg B) (V58.cuts B R) V58.code V58.h [] (postOf Tryd.prog B (Tryd.f58.results.toList) R) (argE 0 [.agg ⟨[.int .i64 a, .int .i64 c, .int .i64 d]⟩]) [] w = V58.vc B R a c d w := by kernel_rfl
theorem V58.obl (B : Nat) (R : Value → World → Prop) : oblP (V58.cfg B) (V58.cuts B R) V58.code V58.h [] (postOf Tryd.prog B (Tryd.f58.results.toList) R) := by
  have e : oblP (V58.cfg B) (V58.cuts B R) V58.code V58.h [] (postOf Tryd.prog B (Tryd.f58.results.toList) R) = (True ∧ ((True ∧ ((True ∧ (True ∧ (True ∧ (True ∧ (True ∧ (True ∧ True)))))) ∧ (∀ (a : Int) (c : Bool) (d : Nat) (f g i : Int) (w : World), V58.b0 B R a c d f g i w → V58.b0 B R a c d f g i w) ∧ ((True ∧ True) ∧ (True ∧ ((True ∧ True) ∧ ((True ∧ (True ∧ (True ∧ (True ∧ True)))) ∧ (∀ (a : Int) (j : Bool) (d : Nat) (f g i : Int) (w : World), V58.b1 B R a j d f g i w → V58.b1 B R a j d f g i w) ∧ ((True ∧ True) ∧ (True ∧ ((True ∧ True) ∧ True))))))))) ∧ (True ∧ True))) := by kernel_rfl
  rw [e]
  exact ⟨trivial, ⟨⟨trivial, ⟨⟨trivial, ⟨trivial, ⟨trivial, ⟨trivial, ⟨trivial, ⟨trivial, trivial⟩⟩⟩⟩⟩⟩, fun a c d f g i w h => h, ⟨⟨trivial, trivial⟩, ⟨trivial, ⟨⟨trivial, trivial⟩, ⟨⟨trivial, ⟨trivial, ⟨trivial, ⟨trivial, trivial⟩⟩⟩⟩, fun a j d f g i w h => h, ⟨⟨trivial, trivial⟩, ⟨trivial, ⟨⟨trivial, trivial⟩, trivial⟩⟩⟩⟩⟩⟩⟩⟩⟩, ⟨trivial, trivial⟩⟩⟩
theorem V58.cfgOk (B : Nat) : CfgOk (V58.cfg B) := cfgOk_of (by kernel_rfl) (by kernel_rfl) extNil
theorem V58.sound {a d f : Int} {w : World} {R : Value → World → Prop} (h : V58.vc w.heap.size R a d f w) : Calls Tryd.prog 58 ⟨[.agg ⟨[.int .i64 a, .int .i64 d, .int .i64 f]⟩]⟩ w fun e w' => ∃ v, e = .returned v ∧ R v w' :=
  calls_wpfP (c := V58.cfg w.heap.size) (fn := Tryd.f58) (x := V58.code) (V58.cuts w.heap.size R) V58.h (V58.cfgOk _) mixed Tryd.func58 (by kernel_rfl) (by kernel_rfl) (by kernel_rfl) rfl (V58.obl _ _) ((V58.vc_eq _ _ a d f _).symm ▸ h)
def V59.b0 (B : Nat) (R : Value → World → Prop) (a c : ByteArray) (d : Int) (f : Bool) (g : Nat) (i j l : Int) (w : World) : Prop :=
  if f = true
  then (Ret B w (R (.string a)))
  else (if (d == 6) = true
   then (a.size + ({ data := #[32] } : ByteArray).size ≤ 9223372036854775807 ∧ (a ++ ({ data := #[32] } : ByteArray)).size + c.size ≤ 9223372036854775807 ∧ ((a ++ ({ data := #[32] } : ByteArray)) ++ c).size + ({ data := #[32] } : ByteArray).size ≤ 9223372036854775807 ∧
   CallK Tryd.prog 78 [.int .i64 l] B w [g] fun v m => 
    ∃ n : ByteArray, v = .string n ∧ (((a ++ ({ data := #[32] } : ByteArray)) ++ c) ++ ({ data := #[32] } : ByteArray)).size + n.size ≤ 9223372036854775807 ∧
    Ret B m (R (.string ((((a ++ ({ data := #[32] } : ByteArray)) ++ c) ++ ({ data := #[32] } : ByteArray)) ++ n))))
   else (a.size + ({ data := #[32] } : ByteArray).size ≤ 9223372036854775807 ∧ (a ++ ({ data := #[32] } : ByteArray)).size + c.size ≤ 9223372036854775807 ∧
   Ret B w (R (.string ((a ++ ({ data := #[32] } : ByteArray)) ++ c)))))
def V59.vc (B : Nat) (R : Value → World → Prop) (a c d : Int) (w : World) : Prop :=
  ∀ f : Nat, w.heap.size ≤ f →
  CallK Tryd.prog 57 [.agg ⟨[.int .i64 a, .int .i64 c, .int .i64 d]⟩] B w [f] fun v g => 
  ∃ i : Bool, v = .bool i ∧
  if (!i) = true
  then (Ret B g (R (.string ({ data := #[] } : ByteArray))))
  else (CallK Tryd.prog 89 [] B g [f] fun j l => 
   ∃ (m : Option Addr) (n o : Nat), j = .slice m n o ∧
   ∃ p : Addr, m = some p ∧ (0 : Int) ≤ a ∧ a < (n : Int) ∧
   ∃ q : ByteArray, l.cell? (p.add a.toNat) = some (.string q) ∧
   CallK Tryd.prog 78 [.int .i64 c] B l [f] fun r s => 
   ∃ t : ByteArray, r = .string t ∧ s.cell? (p.add a.toNat) = some (.string q) ∧
   if (a == 2) = true
   then (q.size + ({ data := #[32] } : ByteArray).size ≤ 9223372036854775807 ∧ (0 : Int) ≤ IntKind.wrap .i64 (d + 1) ∧ IntKind.wrap .i64 (d + 1) ≤ ((({ data := #[64, 35] } : ByteArray).size : Nat) : Int) ∧ (0 : Int) ≤ d ∧ d ≤ (((IntKind.wrap .i64 (d + 1)).toNat : Nat) : Int) ∧ (q ++ ({ data := #[32] } : ByteArray)).size + (({ data := #[64, 35] } : ByteArray).extract d.toNat ((IntKind.wrap .i64 (d + 1)).toNat)).size ≤ 9223372036854775807 ∧ ((q ++ ({ data := #[32] } : ByteArray)) ++ (({ data := #[64, 35] } : ByteArray).extract d.toNat ((IntKind.wrap .i64 (d + 1)).toNat))).size + t.size ≤ 9223372036854775807 ∧
   Ret B s (R (.string (((q ++ ({ data := #[32] } : ByteArray)) ++ (({ data := #[64, 35] } : ByteArray).extract d.toNat ((IntKind.wrap .i64 (d + 1)).toNat))) ++ t))))
   else (if (a == 3) = true
    then (V59.b0 B R q t a (a == 3) f a c d s)
    else (if (a == 4) = true
     then (V59.b0 B R q t a (a == 4) f a c d s)
     else (V59.b0 B R q t a (a == 5) f a c d s))))
noncomputable def V59.cfg (B : Nat) : Cfg := ⟨Tryd.prog, ⟨51, B⟩, [], hasN [57, 78, 89], hasN [], look []⟩
noncomputable def V59.code : Code := (Tryd.f59.body).getD .skip
noncomputable def V59.cuts (B : Nat) (R : Value → World → Prop) : Nat → Cut := nthC [⟨[(3, .one (.str)), (4, .one (.str)), (17, .one (.int .i64)), (31, .one (.bool))], [(1, 40, [.int .i64, .int .i64, .int .i64])], fun fs vs bs w => V59.b0 B R (sV (nthV vs 0)) (sV (nthV vs 1)) (iV (nthV vs 2)) (bV (nthV vs 3)) (nthB bs 0).blk (iV (nthV (nthB bs 0).cells 0)) (iV (nthV (nthB bs 0).cells 1)) (iV (nthV (nthB bs 0).cells 2)) w⟩]
noncomputable def V59.h : H := .s (.z) (.s (.s (.z) (.c (.s (.z) (.z)) (.z))) (.s (.r [[1, 2, 5, 6, 0, 3, 4, 7, 8, 9]]) (.s (.s (.z) (.b (.s (.z) (.c (.s (.z) (.z)) (.cut 0 (.s (.z) (.c (.z) (.s (.z) (.c (.z) (.z))))) (.c (.s (.z) (.z)) (.s (.z) (.c (.s (.z) (.z)) (.z))))))))) (.s (.z) (.z)))))
theorem V59.vc_eq (B : Nat) (R : Value → World → Prop) (a c d : Int) (w : World) : wpf (V59.cfg B) (V59.cuts B R) V59.code V59.h [] (postOf Tryd.prog B (Tryd.f59.results.toList) R) (argE 0 [.agg ⟨[.int .i64 a, .int .i64 c, .int .i64 d]⟩]) [] w = V59.vc B R a c d w := by kernel_rfl
theorem V59.obl (B : Nat) (R : Value → World → Prop) : oblP (V59.cfg B) (V59.cuts B R) V59.code V59.h [] (postOf Tryd.prog B (Tryd.f59.results.toList) R) := by
  have e : oblP (V59.cfg B) (V59.cuts B R) V59.code V59.h [] (postOf Tryd.prog B (Tryd.f59.results.toList) R) = (True ∧ ((True ∧ ((True ∧ True) ∧ True)) ∧ ((true = true) ∧ ((True ∧ (True ∧ ((True ∧ True) ∧ ((True ∧ (True ∧ (True ∧ (True ∧ True)))) ∧ (∀ (a c : ByteArray) (d : Int) (f : Bool) (g : Nat) (i j l : Int) (w : World), V59.b0 B R a c d f g i j l w → V59.b0 B R a c d f g i j l w) ∧ ((True ∧ True) ∧ (True ∧ ((True ∧ True) ∧ True))))))) ∧ (True ∧ True))))) := by kernel_rfl
  rw [e]
  exact ⟨trivial, ⟨⟨trivial, ⟨⟨trivial, trivial⟩, trivial⟩⟩, ⟨rfl, ⟨⟨trivial, ⟨trivial, ⟨⟨trivial, trivial⟩, ⟨⟨trivial, ⟨trivial, ⟨trivial, ⟨trivial, trivial⟩⟩⟩⟩, fun a c d f g i j l w h => h, ⟨⟨trivial, trivial⟩, ⟨trivial, ⟨⟨trivial, trivial⟩, trivial⟩⟩⟩⟩⟩⟩⟩, ⟨trivial, trivial⟩⟩⟩⟩⟩
theorem V59.cfgOk (B : Nat) : CfgOk (V59.cfg B) := cfgOk_of (by kernel_rfl) (by kernel_rfl) extNil
theorem V59.sound {a d f : Int} {w : World} {R : Value → World → Prop} (h : V59.vc w.heap.size R a d f w) : Calls Tryd.prog 59 ⟨[.agg ⟨[.int .i64 a, .int .i64 d, .int .i64 f]⟩]⟩ w fun e w' => ∃ v, e = .returned v ∧ R v w' :=
  calls_wpfP (c := V59.cfg w.heap.size) (fn := Tryd.f59) (x := V59.code) (V59.cuts w.heap.size R) V59.h (V59.cfgOk _) mixed Tryd.func59 (by kernel_rfl) (by kernel_rfl) (by kernel_rfl) rfl (V59.obl _ _) ((V59.vc_eq _ _ a d f _).symm ▸ h)
def V60.vc (B : Nat) (R : Value → World → Prop) (a c d : Int) (w : World) : Prop :=
  ∀ f : Nat, w.heap.size ≤ f →
  CallK Tryd.prog 58 [.agg ⟨[.int .i64 a, .int .i64 c, .int .i64 d]⟩] B w [f] fun v g => 
  ∃ i : Bool, v = .bool i ∧
  if (!i) = true
  then (Ret B g (R (.string ({ data := #[] } : ByteArray))))
  else (if (a == 1) = true
   then (CallK Tryd.prog 96 [.int .i64 c] B g [f] fun j l => 
    ∃ m : ByteArray, j = .string m ∧ ({ data := #[97, 108, 108, 111, 99, 32] } : ByteArray).size + m.size ≤ 9223372036854775807 ∧
    Ret B l (R (.string (({ data := #[97, 108, 108, 111, 99, 32] } : ByteArray) ++ m))))
   else (if (a == 2) = true
    then (if (d == 1) = true
     then (CallK Tryd.prog 96 [.int .i64 c] B g [f] fun j l => 
      ∃ n : ByteArray, j = .string n ∧ ({ data := #[102, 114, 101, 101, 32, 35] } : ByteArray).size + n.size ≤ 9223372036854775807 ∧
      Ret B l (R (.string (({ data := #[102, 114, 101, 101, 32, 35] } : ByteArray) ++ n))))
     else (CallK Tryd.prog 96 [.int .i64 c] B g [f] fun j l => 
      ∃ o : ByteArray, j = .string o ∧ ({ data := #[102, 114, 101, 101, 32, 64] } : ByteArray).size + o.size ≤ 9223372036854775807 ∧
      Ret B l (R (.string (({ data := #[102, 114, 101, 101, 32, 64] } : ByteArray) ++ o)))))
    else (if (a == 3) = true
     then (Ret B g (R (.string ({ data := #[102, 108, 117, 115, 104] } : ByteArray))))
     else (if (a == 4) = true
      then (Ret B g (R (.string ({ data := #[111, 110] } : ByteArray))))
      else (if (a == 5) = true
       then (Ret B g (R (.string ({ data := #[111, 102, 102] } : ByteArray))))
       else (if (a == 6) = true
        then (CallK Tryd.prog 96 [.int .i64 c] B g [f] fun j l => 
         ∃ p : ByteArray, j = .string p ∧ ({ data := #[114, 117, 110, 32] } : ByteArray).size + p.size ≤ 9223372036854775807 ∧ (({ data := #[114, 117, 110, 32] } : ByteArray) ++ p).size + ({ data := #[32] } : ByteArray).size ≤ 9223372036854775807 ∧
         CallK Tryd.prog 96 [.int .i64 d] B l [f] fun q r => 
         ∃ s : ByteArray, q = .string s ∧ ((({ data := #[114, 117, 110, 32] } : ByteArray) ++ p) ++ ({ data := #[32] } : ByteArray)).size + s.size ≤ 9223372036854775807 ∧
         Ret B r (R (.string (((({ data := #[114, 117, 110, 32] } : ByteArray) ++ p) ++ ({ data := #[32] } : ByteArray)) ++ s))))
        else (if (a == 7) = true
         then (CallK Tryd.prog 96 [.int .i64 c] B g [f] fun j l => 
          ∃ t : ByteArray, j = .string t ∧ ({ data := #[115, 104, 114, 105, 110, 107, 32] } : ByteArray).size + t.size ≤ 9223372036854775807 ∧
          Ret B l (R (.string (({ data := #[115, 104, 114, 105, 110, 107, 32] } : ByteArray) ++ t))))
         else (if (a == 8) = true
          then (CallK Tryd.prog 96 [.int .i64 c] B g [f] fun j l => 
           ∃ u : ByteArray, j = .string u ∧ ({ data := #[115, 99, 97, 110, 32] } : ByteArray).size + u.size ≤ 9223372036854775807 ∧
           Ret B l (R (.string (({ data := #[115, 99, 97, 110, 32] } : ByteArray) ++ u))))
          else (CallK Tryd.prog 96 [.int .i64 c] B g [f] fun j l => 
           ∃ x : ByteArray, j = .string x ∧ ({ data := #[119, 97, 107, 101, 32] } : ByteArray).size + x.size ≤ 9223372036854775807 ∧
           Ret B l (R (.string (({ data := #[119, 97, 107, 101, 32] } : ByteArray) ++ x))))))))))))
noncomputable def V60.cfg (B : Nat) : Cfg := ⟨Tryd.prog, ⟨60, B⟩, [], hasN [58, 96], hasN [], look []⟩
noncomputable def V60.code : Code := (Tryd.f60.body).getD .skip
noncomputable def V60.cuts (B : Nat) (R : Value → World → Prop) : Nat → Cut := nthC []
noncomputable def V60.h : H := .s (.z) (.s (.s (.z) (.c (.s (.z) (.z)) (.z))) (.s (.s (.z) (.b (.s (.z) (.c (.s (.z) (.z)) (.s (.z) (.c (.s (.s (.z) (.c (.s (.z) (.z)) (.z))) (.s (.z) (.z))) (.s (.z) (.c (.s (.z) (.z)) (.s (.z) (.c (.s (.z) (.z)) (.s (.z) (.c (.s (.z) (.z)) (.s (.z) (.c (.s (.r [[0, 1, 5, 6, 2, 3, 4, 7, 8, 9]]) (.z)) (.s (.z) (.c (.s (.z) (.z)) (.s (.z) (.c (.s (.z) (.z)) (.z))))))))))))))))))) (.s (.z) (.z))))
theorem V60.vc_eq (B : Nat) (R : Value → World → Prop) (a c d : Int) (w : World) : wpf (V60.cfg B) (V60.cuts B R) V60.code V60.h [] (postOf Tryd.prog B (Tryd.f60.results.toList) R) (argE 0 [.agg ⟨[.int .i64 a, .int .i64 c, .int .i64 d]⟩]) [] w = V60.vc B R a c d w := by kernel_rfl
theorem V60.obl (B : Nat) (R : Value → World → Prop) : oblP (V60.cfg B) (V60.cuts B R) V60.code V60.h [] (postOf Tryd.prog B (Tryd.f60.results.toList) R) := by
  have e : oblP (V60.cfg B) (V60.cuts B R) V60.code V60.h [] (postOf Tryd.prog B (Tryd.f60.results.toList) R) = (True ∧ ((True ∧ ((True ∧ True) ∧ True)) ∧ ((True ∧ (True ∧ ((True ∧ True) ∧ (True ∧ (((True ∧ ((True ∧ True) ∧ True)) ∧ (True ∧ True)) ∧ (True ∧ ((True ∧ True) ∧ (True ∧ ((True ∧ True) ∧ (True ∧ ((True ∧ True) ∧ (True ∧ (((true = true) ∧ True) ∧ (True ∧ ((True ∧ True) ∧ (True ∧ ((True ∧ True) ∧ True))))))))))))))))) ∧ (True ∧ True)))) := by kernel_rfl
  rw [e]
  exact ⟨trivial, ⟨⟨trivial, ⟨⟨trivial, trivial⟩, trivial⟩⟩, ⟨⟨trivial, ⟨trivial, ⟨⟨trivial, trivial⟩, ⟨trivial, ⟨⟨⟨trivial, ⟨⟨trivial, trivial⟩, trivial⟩⟩, ⟨trivial, trivial⟩⟩, ⟨trivial, ⟨⟨trivial, trivial⟩, ⟨trivial, ⟨⟨trivial, trivial⟩, ⟨trivial, ⟨⟨trivial, trivial⟩, ⟨trivial, ⟨⟨rfl, trivial⟩, ⟨trivial, ⟨⟨trivial, trivial⟩, ⟨trivial, ⟨⟨trivial, trivial⟩, trivial⟩⟩⟩⟩⟩⟩⟩⟩⟩⟩⟩⟩⟩⟩⟩⟩⟩, ⟨trivial, trivial⟩⟩⟩⟩
theorem V60.cfgOk (B : Nat) : CfgOk (V60.cfg B) := cfgOk_of (by kernel_rfl) (by kernel_rfl) extNil
theorem V60.sound {a d f : Int} {w : World} {R : Value → World → Prop} (h : V60.vc w.heap.size R a d f w) : Calls Tryd.prog 60 ⟨[.agg ⟨[.int .i64 a, .int .i64 d, .int .i64 f]⟩]⟩ w fun e w' => ∃ v, e = .returned v ∧ R v w' :=
  calls_wpfP (c := V60.cfg w.heap.size) (fn := Tryd.f60) (x := V60.code) (V60.cuts w.heap.size R) V60.h (V60.cfgOk _) mixed Tryd.func60 (by kernel_rfl) (by kernel_rfl) (by kernel_rfl) rfl (V60.obl _ _) ((V60.vc_eq _ _ a d f _).symm ▸ h)
def V89.vc (B : Nat) (R : Value → World → Prop) (w : World) : Prop :=
  Expo B w [] fun a => 
  let c := a.alloc (.cells ⟨[.string ({ data := #[] } : ByteArray), .string ({ data := #[97, 108, 108, 111, 99] } : ByteArray), .string ({ data := #[102, 114, 101, 101] } : ByteArray), .string ({ data := #[102, 108, 117, 115, 104] } : ByteArray), .string ({ data := #[111, 110] } : ByteArray), .string ({ data := #[111, 102, 102] } : ByteArray), .string ({ data := #[114, 117, 110] } : ByteArray), .string ({ data := #[115, 104, 114, 105, 110, 107] } : ByteArray), .string ({ data := #[115, 99, 97, 110] } : ByteArray), .string ({ data := #[119, 97, 107, 101] } : ByteArray)]⟩ 9);
  Ret B c (R (.slice (some ⟨a.heap.size, 0, none⟩) 10 10))
noncomputable def V89.cfg (B : Nat) : Cfg := ⟨Tryd.prog, ⟨2, B⟩, [], hasN [], hasN [], look []⟩
noncomputable def V89.code : Code := (Tryd.f89.body).getD .skip
noncomputable def V89.cuts (B : Nat) (R : Value → World → Prop) : Nat → Cut := nthC []
noncomputable def V89.h : H := .s (.z) (.s (.z) (.z))
theorem V89.vc_eq (B : Nat) (R : Value → World → Prop)  (w : World) : wpf (V89.cfg B) (V89.cuts B R) V89.code V89.h [] (postOf Tryd.prog B (Tryd.f89.results.toList) R) (argE 0 []) [] w = V89.vc B R  w := by kernel_rfl
theorem V89.obl (B : Nat) (R : Value → World → Prop) : oblP (V89.cfg B) (V89.cuts B R) V89.code V89.h [] (postOf Tryd.prog B (Tryd.f89.results.toList) R) := by
  have e : oblP (V89.cfg B) (V89.cuts B R) V89.code V89.h [] (postOf Tryd.prog B (Tryd.f89.results.toList) R) = (True ∧ (True ∧ True)) := by kernel_rfl
  rw [e]
  exact ⟨trivial, ⟨trivial, trivial⟩⟩
theorem V89.cfgOk (B : Nat) : CfgOk (V89.cfg B) := cfgOk_of (by kernel_rfl) (by kernel_rfl) extNil
theorem V89.sound  {w : World} {R : Value → World → Prop} (h : V89.vc w.heap.size R  w) : Calls Tryd.prog 89 ⟨[]⟩ w fun e w' => ∃ v, e = .returned v ∧ R v w' :=
  calls_wpfP (c := V89.cfg w.heap.size) (fn := Tryd.f89) (x := V89.code) (V89.cuts w.heap.size R) V89.h (V89.cfgOk _) mixed Tryd.func89 (by kernel_rfl) (by kernel_rfl) (by kernel_rfl) rfl (V89.obl _ _) ((V89.vc_eq _ _  _).symm ▸ h)
def V93.b1 (B : Nat) (R : Value → World → Prop) (a : ByteArray → Option Addr → Nat → Nat → Int → Int → World → Prop) (c : ByteArray) (d : Option Addr) (f g : Nat) (i j : Int) (l : Bool) (w : World) : Prop :=
  if l = true
  then ((0 : Int) ≤ j ∧ j ≤ ((c.size : Nat) : Int) ∧ (0 : Int) ≤ i ∧ i ≤ ((j.toNat : Nat) : Int) ∧
  Expo B w [] fun m => 
   let n := m.alloc (.cells ⟨[.string (c.extract i.toNat j.toNat)]⟩ 9);
   RunK Tryd.prog (Builtin.append_ #[87, 87] 87 ⟨[.slice d f g, .slice (some ⟨m.heap.size, 0, none⟩) 1 1]⟩) B n [] fun v o => 
   ∃ (p : Option Addr) (q r : Nat), v = .slice p q r ∧ a c p q r (IntKind.wrap .i64 (j + 1)) (IntKind.wrap .i64 (j + 1)) o)
  else (a c d f g i (IntKind.wrap .i64 (j + 1)) w)
def V93.l0 (B : Nat) (R : Value → World → Prop) : Nat → ByteArray → Option Addr → Nat → Nat → Int → Int → World → Prop
  | 0 => fun _ _ _ _ _ _ _ => False
  | k + 1 => fun a c d f g i w =>
    if (decide (i ≤ ((a.size : Nat) : Int))) = true
    then (if (i == ((a.size : Nat) : Int)) = false
     then (∃ j : UInt8, (0 : Int) ≤ i ∧ a[i.toNat]? = some j ∧
     V93.b1 B R (V93.l0 B R k) a c d f g i (((j.toNat : Nat) : Int) == 32) w)
     else (V93.b1 B R (V93.l0 B R k) a c d f g i true w))
    else (Ret B w (R (.slice c d f)))
def V93.vc (B : Nat) (R : Value → World → Prop) (a : ByteArray) (w : World) : Prop :=
  ∃ c, V93.l0 B R c a none 0 0 0 0 w
noncomputable def V93.cfg (B : Nat) : Cfg := ⟨Tryd.prog, ⟨32, B⟩, [], hasN [], hasN [], look []⟩
noncomputable def V93.code : Code := (Tryd.f93.body).getD .skip
noncomputable def V93.cuts (B : Nat) (R : Value → World → Prop) : Nat → Cut := nthC [⟨[(0, .one (.str)), (3, .one (.slice)), (4, .one (.int .i64)), (5, .one (.int .i64))], [], fun fs vs bs w => V93.l0 B R (nthN fs 0) (sV (nthV vs 0)) (slA (nthV vs 1)) (slL (nthV vs 1)) (slC (nthV vs 1)) (iV (nthV vs 2)) (iV (nthV vs 3)) w⟩,
  ⟨[(0, .one (.str)), (3, .one (.slice)), (4, .one (.int .i64)), (5, .one (.int .i64)), (21, .one (.bool))], [], fun fs vs bs w => V93.b1 B R (V93.l0 B R (nthN fs 0)) (sV (nthV vs 0)) (slA (nthV vs 1)) (slL (nthV vs 1)) (slC (nthV vs 1)) (iV (nthV vs 2)) (iV (nthV vs 3)) (bV (nthV vs 4)) w⟩]
noncomputable def V93.h : H := .s (.z) (.s (.z) (.s (.z) (.s (.s (.z) (.b (.l 0 (.s (.s (.z) (.c (.z) (.z))) (.s (.b (.cut 1 (.z) (.c (.s (.z) (.z)) (.z)))) (.z)))))) (.s (.z) (.z)))))
theorem V93.vc_eq (B : Nat) (R : Value → World → Prop) (a : ByteArray) (w : World) : wpf (V93.cfg B) (V93.cuts B R) V93.code V93.h [] (postOf Tryd.prog B (Tryd.f93.results.toList) R) (argE 0 [.string a]) [] w = V93.vc B R a w := by kernel_rfl
theorem V93.obl (B : Nat) (R : Value → World → Prop) : oblP (V93.cfg B) (V93.cuts B R) V93.code V93.h [] (postOf Tryd.prog B (Tryd.f93.results.toList) R) := by
  have e : oblP (V93.cfg B) (V93.cuts B R) V93.code V93.h [] (postOf Tryd.prog B (Tryd.f93.results.toList) R) = (True ∧ (True ∧ (True ∧ ((True ∧ ((∀ (a : ByteArray) (c : Option Addr) (d f : Nat) (g i : Int) (w : World), ¬ V93.l0 B R 0 a c d f g i w) ∧ (∀ j, ∀ (a : ByteArray) (c : Option Addr) (d f : Nat) (g i : Int) (w : World), V93.l0 B R (j + 1) a c d f g i w → V93.l0 B R (j + 1) a c d f g i w) ∧ ∀ j : Nat, ((True ∧ (True ∧ True)) ∧ ((True ∧ (∀ (a : ByteArray) (c : Option Addr) (d f : Nat) (g i : Int) (l : Bool) (w : World), V93.b1 B R (V93.l0 B R j) a c d f g i l w → V93.b1 B R (V93.l0 B R j) a c d f g i l w) ∧ ((True ∧ True) ∧ True)) ∧ True)))) ∧ (True ∧ True))))) := by kernel_rfl
  rw [e]
  exact ⟨trivial, ⟨trivial, ⟨trivial, ⟨⟨trivial, ⟨fun a c d f g i w h => h, fun _ a c d f g i w h => h, fun j => ⟨⟨trivial, ⟨trivial, trivial⟩⟩, ⟨⟨trivial, fun a c d f g i l w h => h, ⟨⟨trivial, trivial⟩, trivial⟩⟩, trivial⟩⟩⟩⟩, ⟨trivial, trivial⟩⟩⟩⟩⟩
theorem V93.cfgOk (B : Nat) : CfgOk (V93.cfg B) := cfgOk_of (by kernel_rfl) (by kernel_rfl) extNil
theorem V93.sound {a : ByteArray} {w : World} {R : Value → World → Prop} (h : V93.vc w.heap.size R a w) : Calls Tryd.prog 93 ⟨[.string a]⟩ w fun e w' => ∃ v, e = .returned v ∧ R v w' :=
  calls_wpfP (c := V93.cfg w.heap.size) (fn := Tryd.f93) (x := V93.code) (V93.cuts w.heap.size R) V93.h (V93.cfgOk _) mixed Tryd.func93 (by kernel_rfl) (by kernel_rfl) (by kernel_rfl) rfl (V93.obl _ _) ((V93.vc_eq _ _ a _).symm ▸ h)
def V94.vc (B : Nat) (R : Value → World → Prop) (a : ByteArray) (w : World) : Prop :=
  if (a.toList == ({ data := #[97, 108, 108, 111, 99] } : ByteArray).toList) = true
  then (Ret B w (R (.int .i64 1)))
  else (if (a.toList == ({ data := #[102, 114, 101, 101] } : ByteArray).toList) = true
   then (Ret B w (R (.int .i64 2)))
   else (if (a.toList == ({ data := #[102, 108, 117, 115, 104] } : ByteArray).toList) = true
    then (Ret B w (R (.int .i64 3)))
    else (if (a.toList == ({ data := #[111, 110] } : ByteArray).toList) = true
     then (Ret B w (R (.int .i64 4)))
     else (if (a.toList == ({ data := #[111, 102, 102] } : ByteArray).toList) = true
      then (Ret B w (R (.int .i64 5)))
      else (if (a.toList == ({ data := #[114, 117, 110] } : ByteArray).toList) = true
       then (Ret B w (R (.int .i64 6)))
       else (if (a.toList == ({ data := #[115, 104, 114, 105, 110, 107] } : ByteArray).toList) = true
        then (Ret B w (R (.int .i64 7)))
        else (if (a.toList == ({ data := #[115, 99, 97, 110] } : ByteArray).toList) = true
         then (Ret B w (R (.int .i64 8)))
         else (if (a.toList == ({ data := #[119, 97, 107, 101] } : ByteArray).toList) = true
          then (Ret B w (R (.int .i64 9)))
          else (Ret B w (R (.int .i64 0)))))))))))
noncomputable def V94.cfg (B : Nat) : Cfg := ⟨Tryd.prog, ⟨22, B⟩, [], hasN [], hasN [], look []⟩
noncomputable def V94.code : Code := (Tryd.f94.body).getD .skip
noncomputable def V94.cuts (B : Nat) (R : Value → World → Prop) : Nat → Cut := nthC []
noncomputable def V94.h : H := .s (.z) (.s (.s (.z) (.b (.s (.z) (.c (.s (.z) (.z)) (.s (.z) (.c (.s (.z) (.z)) (.s (.z) (.c (.s (.z) (.z)) (.s (.z) (.c (.s (.z) (.z)) (.s (.z) (.c (.s (.z) (.z)) (.s (.z) (.c (.s (.z) (.z)) (.s (.z) (.c (.s (.z) (.z)) (.s (.z) (.c (.s (.z) (.z)) (.s (.z) (.c (.s (.z) (.z)) (.z))))))))))))))))))))) (.s (.z) (.z)))
theorem V94.vc_eq (B : Nat) (R : Value → World → Prop) (a : ByteArray) (w : World) : wpf (V94.cfg B) (V94.cuts B R) V94.code V94.h [] (postOf Tryd.prog B (Tryd.f94.results.toList) R) (argE 0 [.string a]) [] w = V94.vc B R a w := by kernel_rfl
theorem V94.obl (B : Nat) (R : Value → World → Prop) : oblP (V94.cfg B) (V94.cuts B R) V94.code V94.h [] (postOf Tryd.prog B (Tryd.f94.results.toList) R) := by
  have e : oblP (V94.cfg B) (V94.cuts B R) V94.code V94.h [] (postOf Tryd.prog B (Tryd.f94.results.toList) R) = (True ∧ ((True ∧ (True ∧ ((True ∧ True) ∧ (True ∧ ((True ∧ True) ∧ (True ∧ ((True ∧ True) ∧ (True ∧ ((True ∧ True) ∧ (True ∧ ((True ∧ True) ∧ (True ∧ ((True ∧ True) ∧ (True ∧ ((True ∧ True) ∧ (True ∧ ((True ∧ True) ∧ (True ∧ ((True ∧ True) ∧ True))))))))))))))))))) ∧ (True ∧ True))) := by kernel_rfl
  rw [e]
  exact ⟨trivial, ⟨⟨trivial, ⟨trivial, ⟨⟨trivial, trivial⟩, ⟨trivial, ⟨⟨trivial, trivial⟩, ⟨trivial, ⟨⟨trivial, trivial⟩, ⟨trivial, ⟨⟨trivial, trivial⟩, ⟨trivial, ⟨⟨trivial, trivial⟩, ⟨trivial, ⟨⟨trivial, trivial⟩, ⟨trivial, ⟨⟨trivial, trivial⟩, ⟨trivial, ⟨⟨trivial, trivial⟩, ⟨trivial, ⟨⟨trivial, trivial⟩, trivial⟩⟩⟩⟩⟩⟩⟩⟩⟩⟩⟩⟩⟩⟩⟩⟩⟩⟩⟩, ⟨trivial, trivial⟩⟩⟩
theorem V94.cfgOk (B : Nat) : CfgOk (V94.cfg B) := cfgOk_of (by kernel_rfl) (by kernel_rfl) extNil
theorem V94.sound {a : ByteArray} {w : World} {R : Value → World → Prop} (h : V94.vc w.heap.size R a w) : Calls Tryd.prog 94 ⟨[.string a]⟩ w fun e w' => ∃ v, e = .returned v ∧ R v w' :=
  calls_wpfP (c := V94.cfg w.heap.size) (fn := Tryd.f94) (x := V94.code) (V94.cuts w.heap.size R) V94.h (V94.cfgOk _) mixed Tryd.func94 (by kernel_rfl) (by kernel_rfl) (by kernel_rfl) rfl (V94.obl _ _) ((V94.vc_eq _ _ a _).symm ▸ h)
def V95.b3 (B : Nat) (R : Value → World → Prop) (a : Bool) (c : Int) (d : Bool) (w : World) : Prop :=
  if d = true
  then (Ret B w (R (.tuple ⟨[.int .i64 (IntKind.wrap .i64 (IntKind.wrap .u64 (0 - c))), .bool true]⟩)))
  else (if (!a) = true
   then (if (decide (c < 9223372036854775808)) = true
    then (Ret B w (R (.tuple ⟨[.int .i64 (IntKind.wrap .i64 c), .bool true]⟩)))
    else (Ret B w (R (.tuple ⟨[.int .i64 0, .bool false]⟩))))
   else (Ret B w (R (.tuple ⟨[.int .i64 0, .bool false]⟩))))
def V95.l2 (B : Nat) (R : Value → World → Prop) : Nat → ByteArray → Bool → Int → Int → World → Prop
  | 0 => fun _ _ _ _ _ => False
  | k + 1 => fun a c d f w =>
    if (decide (f < ((a.size : Nat) : Int))) = true
    then (∃ g : UInt8, (0 : Int) ≤ f ∧ a[f.toNat]? = some g ∧
    if (decide (((g.toNat : Nat) : Int) < 48)) = false
     then (∃ i : UInt8, (0 : Int) ≤ f ∧ a[f.toNat]? = some i ∧
     if (decide (((i.toNat : Nat) : Int) > 57)) = true
      then (Ret B w (R (.tuple ⟨[.int .i64 0, .bool false]⟩)))
      else (∃ j : UInt8, (0 : Int) ≤ f ∧ a[f.toNat]? = some j ∧ (V95.l2 B R k) a c (IntKind.wrap .u64 (IntKind.wrap .u64 (d * 10) + IntKind.wrap .u64 (IntKind.wrap .u8 (((j.toNat : Nat) : Int) - 48)))) (IntKind.wrap .i64 (f + 1)) w))
     else (Ret B w (R (.tuple ⟨[.int .i64 0, .bool false]⟩))))
    else (if c = true
     then (V95.b3 B R c d (decide (d ≤ 9223372036854775808)) w)
     else (V95.b3 B R c d false w))
def V95.b1 (B : Nat) (R : Value → World → Prop) (a : ByteArray) (c : Bool) (w : World) : Prop :=
  if (decide (((a.size : Nat) : Int) < 1)) = false
  then (if (decide (((a.size : Nat) : Int) > 19)) = true
   then (Ret B w (R (.tuple ⟨[.int .i64 0, .bool false]⟩)))
   else (∃ d, V95.l2 B R d a c 0 0 w))
  else (Ret B w (R (.tuple ⟨[.int .i64 0, .bool false]⟩)))
def V95.b0 (B : Nat) (R : Value → World → Prop) (a : ByteArray) (c : Bool) (w : World) : Prop :=
  if c = true
  then ((0 : Int) ≤ 1 ∧ (1 : Int) ≤ ((a.size : Nat) : Int) ∧
  V95.b1 B R (a.extract 1 a.size) c w)
  else (V95.b1 B R a c w)
def V95.vc (B : Nat) (R : Value → World → Prop) (a : ByteArray) (w : World) : Prop :=
  if (decide (((a.size : Nat) : Int) > 0)) = true
  then (∃ c : UInt8, (0 : Int) ≤ 0 ∧ a[0]? = some c ∧
  V95.b0 B R a (((c.toNat : Nat) : Int) == 45) w)
  else (V95.b0 B R a false w)
noncomputable def V95.cfg (B : Nat) : Cfg := ⟨Tryd.prog, ⟨68, B⟩, [], hasN [], hasN [], look []⟩
noncomputable def V95.code : Code := (Tryd.f95.body).getD .skip
noncomputable def V95.cuts (B : Nat) (R : Value → World → Prop) : Nat → Cut := nthC [⟨[(0, .one (.str)), (4, .one (.bool))], [], fun fs vs bs w => V95.b0 B R (sV (nthV vs 0)) (bV (nthV vs 1)) w⟩,
  ⟨[(0, .one (.str)), (4, .one (.bool))], [], fun fs vs bs w => V95.b1 B R (sV (nthV vs 0)) (bV (nthV vs 1)) w⟩,
  ⟨[(0, .one (.str)), (4, .one (.bool)), (5, .one (.int .u64)), (6, .one (.int .i64))], [], fun fs vs bs w => V95.l2 B R (nthN fs 0) (sV (nthV vs 0)) (bV (nthV vs 1)) (iV (nthV vs 2)) (iV (nthV vs 3)) w⟩,
  ⟨[(4, .one (.bool)), (5, .one (.int .u64)), (50, .one (.bool))], [], fun fs vs bs w => V95.b3 B R (bV (nthV vs 0)) (iV (nthV vs 1)) (bV (nthV vs 2)) w⟩]
noncomputable def V95.h : H := .s (.z) (.cut 0 (.z) (.cut 1 (.s (.z) (.c (.z) (.z))) (.s (.s (.z) (.c (.s (.z) (.z)) (.z))) (.s (.z) (.s (.s (.z) (.b (.l 2 (.s (.s (.z) (.c (.z) (.z))) (.s (.b (.s (.s (.z) (.c (.s (.z) (.z)) (.z))) (.z))) (.z)))))) (.s (.b (.cut 3 (.z) (.c (.s (.z) (.z)) (.s (.z) (.c (.s (.z) (.z)) (.z)))))) (.s (.z) (.z))))))))
theorem V95.vc_eq (B : Nat) (R : Value → World → Prop) (a : ByteArray) (w : World) : wpf (V95.cfg B) (V95.cuts B R) V95.code V95.h [] (postOf Tryd.prog B (Tryd.f95.results.toList) R) (argE 0 [.string a]) [] w = V95.vc B R a w := by kernel_rfl
theorem V95.obl (B : Nat) (R : Value → World → Prop) : oblP (V95.cfg B) (V95.cuts B R) V95.code V95.h [] (postOf Tryd.prog B (Tryd.f95.results.toList) R) := by
  have e : oblP (V95.cfg B) (V95.cuts B R) V95.code V95.h [] (postOf Tryd.prog B (Tryd.f95.results.toList) R) = (True ∧ (True ∧ (∀ (a : ByteArray) (c : Bool) (w : World), V95.b0 B R a c w → V95.b0 B R a c w) ∧ ((True ∧ (True ∧ True)) ∧ (∀ (a : ByteArray) (c : Bool) (w : World), V95.b1 B R a c w → V95.b1 B R a c w) ∧ ((True ∧ ((True ∧ True) ∧ True)) ∧ (True ∧ ((True ∧ ((∀ (a : ByteArray) (c : Bool) (d f : Int) (w : World), ¬ V95.l2 B R 0 a c d f w) ∧ (∀ g, ∀ (a : ByteArray) (c : Bool) (d f : Int) (w : World), V95.l2 B R (g + 1) a c d f w → V95.l2 B R (g + 1) a c d f w) ∧ ∀ g : Nat, ((True ∧ (True ∧ True)) ∧ (((True ∧ ((True ∧ True) ∧ True)) ∧ True) ∧ True)))) ∧ ((True ∧ (∀ (c : Bool) (d : Int) (i : Bool) (w : World), V95.b3 B R c d i w → V95.b3 B R c d i w) ∧ ((True ∧ True) ∧ (True ∧ ((True ∧ True) ∧ True)))) ∧ (True ∧ True)))))))) := by kernel_rfl
  rw [e]
  exact ⟨trivial, ⟨trivial, fun a c w h => h, ⟨⟨trivial, ⟨trivial, trivial⟩⟩, fun a c w h => h, ⟨⟨trivial, ⟨⟨trivial, trivial⟩, trivial⟩⟩, ⟨trivial, ⟨⟨trivial, ⟨fun a c d f w h => h, fun _ a c d f w h => h, fun g => ⟨⟨trivial, ⟨trivial, trivial⟩⟩, ⟨⟨⟨trivial, ⟨⟨trivial, trivial⟩, trivial⟩⟩, trivial⟩, trivial⟩⟩⟩⟩, ⟨⟨trivial, fun c d i w h => h, ⟨⟨trivial, trivial⟩, ⟨trivial, ⟨⟨trivial, trivial⟩, trivial⟩⟩⟩⟩, ⟨trivial, trivial⟩⟩⟩⟩⟩⟩⟩⟩
theorem V95.cfgOk (B : Nat) : CfgOk (V95.cfg B) := cfgOk_of (by kernel_rfl) (by kernel_rfl) extNil
theorem V95.sound {a : ByteArray} {w : World} {R : Value → World → Prop} (h : V95.vc w.heap.size R a w) : Calls Tryd.prog 95 ⟨[.string a]⟩ w fun e w' => ∃ v, e = .returned v ∧ R v w' :=
  calls_wpfP (c := V95.cfg w.heap.size) (fn := Tryd.f95) (x := V95.code) (V95.cuts w.heap.size R) V95.h (V95.cfgOk _) mixed Tryd.func95 (by kernel_rfl) (by kernel_rfl) (by kernel_rfl) rfl (V95.obl _ _) ((V95.vc_eq _ _ a _).symm ▸ h)
def V96.vc (B : Nat) (R : Value → World → Prop) (a : Int) (w : World) : Prop :=
  if (decide (a < 0)) = true
  then (CallK Tryd.prog 124 [.int .u64 (IntKind.wrap .u64 (0 - IntKind.wrap .u64 a))] B w [] fun v c => 
   ∃ d : ByteArray, v = .string d ∧ ({ data := #[45] } : ByteArray).size + d.size ≤ 9223372036854775807 ∧
   Ret B c (R (.string (({ data := #[45] } : ByteArray) ++ d))))
  else (CallK Tryd.prog 124 [.int .u64 (IntKind.wrap .u64 a)] B w [] fun v c => 
   ∃ f : ByteArray, v = .string f ∧
   Ret B c (R (.string f)))
noncomputable def V96.cfg (B : Nat) : Cfg := ⟨Tryd.prog, ⟨13, B⟩, [], hasN [124], hasN [], look []⟩
noncomputable def V96.code : Code := (Tryd.f96.body).getD .skip
noncomputable def V96.cuts (B : Nat) (R : Value → World → Prop) : Nat → Cut := nthC []
noncomputable def V96.h : H := .s (.z) (.s (.s (.z) (.c (.s (.z) (.z)) (.z))) (.s (.z) (.z)))
theorem V96.vc_eq (B : Nat) (R : Value → World → Prop) (a : Int) (w : World) : wpf (V96.cfg B) (V96.cuts B R) V96.code V96.h [] (postOf Tryd.prog B (Tryd.f96.results.toList) R) (argE 0 [.int .i64 a]) [] w = V96.vc B R a w := by kernel_rfl
theorem V96.obl (B : Nat) (R : Value → World → Prop) : oblP (V96.cfg B) (V96.cuts B R) V96.code V96.h [] (postOf Tryd.prog B (Tryd.f96.results.toList) R) := by
  have e : oblP (V96.cfg B) (V96.cuts B R) V96.code V96.h [] (postOf Tryd.prog B (Tryd.f96.results.toList) R) = (True ∧ ((True ∧ ((True ∧ True) ∧ True)) ∧ (True ∧ True))) := by kernel_rfl
  rw [e]
  exact ⟨trivial, ⟨⟨trivial, ⟨⟨trivial, trivial⟩, trivial⟩⟩, ⟨trivial, trivial⟩⟩⟩
theorem V96.cfgOk (B : Nat) : CfgOk (V96.cfg B) := cfgOk_of (by kernel_rfl) (by kernel_rfl) extNil
theorem V96.sound {a : Int} {w : World} {R : Value → World → Prop} (h : V96.vc w.heap.size R a w) : Calls Tryd.prog 96 ⟨[.int .i64 a]⟩ w fun e w' => ∃ v, e = .returned v ∧ R v w' :=
  calls_wpfP (c := V96.cfg w.heap.size) (fn := Tryd.f96) (x := V96.code) (V96.cuts w.heap.size R) V96.h (V96.cfgOk _) mixed Tryd.func96 (by kernel_rfl) (by kernel_rfl) (by kernel_rfl) rfl (V96.obl _ _) ((V96.vc_eq _ _ a _).symm ▸ h)
def V124.l0 (B : Nat) (R : Value → World → Prop) : Nat → Int → ByteArray → World → Prop
  | 0 => fun _ _ _ => False
  | k + 1 => fun a c w =>
    if (decide (a > 9)) = true
    then ((10 : Int) ≠ 0 ∧
    Expo B w [] fun d => 
     let f := d.alloc (.cells ⟨[.int .u8 (IntKind.wrap .u8 (IntKind.wrap .u64 (48 + Int.tmod a 10)))]⟩ 5);
     RunK Tryd.prog (Go.convert 48 9 (.slice (some ⟨d.heap.size, 0, none⟩) 1 1)) B f [] fun v g => 
     ∃ i : ByteArray, v = .string i ∧ i.size + c.size ≤ 9223372036854775807 ∧ (10 : Int) ≠ 0 ∧ (V124.l0 B R k) (IntKind.wrap .u64 (Int.tdiv a 10)) (i ++ c) g)
    else (Expo B w [] fun d => 
     let f := d.alloc (.cells ⟨[.int .u8 (IntKind.wrap .u8 (IntKind.wrap .u64 (48 + a)))]⟩ 5);
     RunK Tryd.prog (Go.convert 48 9 (.slice (some ⟨d.heap.size, 0, none⟩) 1 1)) B f [] fun v g => 
     ∃ j : ByteArray, v = .string j ∧ j.size + c.size ≤ 9223372036854775807 ∧
     Ret B g (R (.string (j ++ c))))
def V124.vc (B : Nat) (R : Value → World → Prop) (a : Int) (w : World) : Prop :=
  ∃ c, V124.l0 B R c a ({ data := #[] } : ByteArray) w
noncomputable def V124.cfg (B : Nat) : Cfg := ⟨Tryd.prog, ⟨23, B⟩, [], hasN [], hasN [], look []⟩
noncomputable def V124.code : Code := (Tryd.f124.body).getD .skip
noncomputable def V124.cuts (B : Nat) (R : Value → World → Prop) : Nat → Cut := nthC [⟨[(0, .one (.int .u64)), (3, .one (.str))], [], fun fs vs bs w => V124.l0 B R (nthN fs 0) (iV (nthV vs 0)) (sV (nthV vs 1)) w⟩]
noncomputable def V124.h : H := .s (.z) (.s (.z) (.s (.b (.l 0 (.s (.s (.z) (.c (.z) (.z))) (.b (.s (.z) (.z)))))) (.s (.z) (.z))))
theorem V124.vc_eq (B : Nat) (R : Value → World → Prop) (a : Int) (w : World) : wpf (V124.cfg B) (V124.cuts B R) V124.code V124.h [] (postOf Tryd.prog B (Tryd.f124.results.toList) R) (argE 0 [.int .u64 a]) [] w = V124.vc B R a w := by kernel_rfl
theorem V124.obl (B : Nat) (R : Value → World → Prop) : oblP (V124.cfg B) (V124.cuts B R) V124.code V124.h [] (postOf Tryd.prog B (Tryd.f124.results.toList) R) := by
  have e : oblP (V124.cfg B) (V124.cuts B R) V124.code V124.h [] (postOf Tryd.prog B (Tryd.f124.results.toList) R) = (True ∧ (True ∧ (((∀ (a : Int) (c : ByteArray) (w : World), ¬ V124.l0 B R 0 a c w) ∧ (∀ d, ∀ (a : Int) (c : ByteArray) (w : World), V124.l0 B R (d + 1) a c w → V124.l0 B R (d + 1) a c w) ∧ ∀ d : Nat, ((True ∧ (True ∧ True)) ∧ (True ∧ True))) ∧ (True ∧ True)))) := by kernel_rfl
  rw [e]
  exact ⟨trivial, ⟨trivial, ⟨⟨fun a c w h => h, fun _ a c w h => h, fun d => ⟨⟨trivial, ⟨trivial, trivial⟩⟩, ⟨trivial, trivial⟩⟩⟩, ⟨trivial, trivial⟩⟩⟩⟩
theorem V124.cfgOk (B : Nat) : CfgOk (V124.cfg B) := cfgOk_of (by kernel_rfl) (by kernel_rfl) extNil
theorem V124.sound {a : Int} {w : World} {R : Value → World → Prop} (h : V124.vc w.heap.size R a w) : Calls Tryd.prog 124 ⟨[.int .u64 a]⟩ w fun e w' => ∃ v, e = .returned v ∧ R v w' :=
  calls_wpfP (c := V124.cfg w.heap.size) (fn := Tryd.f124) (x := V124.code) (V124.cuts w.heap.size R) V124.h (V124.cfgOk _) mixed Tryd.func124 (by kernel_rfl) (by kernel_rfl) (by kernel_rfl) rfl (V124.obl _ _) ((V124.vc_eq _ _ a _).symm ▸ h)
end Go.Proofs.YtofblkmibghmbaaDoor
