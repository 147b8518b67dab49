/-
  What the engine makes of the loaded functions 3, 5, 34, 36, 37, 38, 40, 87, 88, 90, 91, 118, 119, 120, 121, 122, 123: conditions under which a call returns as told, and proofs of that.
  Conditions: none. Printed by a program of this project.
-/
import Derived.Test.YtlccbaemcfjdoaaZVA
set_option linter.unusedVariables false
set_option maxRecDepth 100000
namespace Go.Proofs.Ytlccbaemcfjdoaa
def V3.vc (B : Nat) (R : Value → World → Prop) (a : Option Addr) (c d : Nat) (f g i j l m : Int) (n : Option Addr) (o p : Nat) (w : World) : Prop :=
  ∀ q : Nat, w.heap.size ≤ q →
  ∀ r : Nat, w.heap.size ≤ r →
  ∀ s : Nat, w.heap.size ≤ s →
  CallK Try.prog 28 [.agg ⟨[.slice a c d]⟩, .agg ⟨[.int .i64 f, .int .i64 g, .int .i64 i]⟩] B w [s, r, q] fun v t => 
  ∃ u : Int, v = .int .i64 u ∧
  CallK Try.prog 29 [.agg ⟨[.slice a c d]⟩, .agg ⟨[.int .i64 f, .int .i64 g, .int .i64 i]⟩] B t [s, r, q] fun x y => 
  ∃ z : Int, x = .int .i64 z ∧
  if (u == z) = true
  then (CallK Try.prog 30 [.agg ⟨[.int .i64 f, .int .i64 g, .int .i64 i]⟩] B y [s, r, q] fun A C => 
   ∃ D : Int, A = .int .i64 D ∧
   CallK Try.prog 31 [.agg ⟨[.int .i64 f, .int .i64 g, .int .i64 i]⟩] B C [s, r, q] fun E F => 
   ∃ G : Int, E = .int .i64 G ∧
   if (D == G) = true
   then (CallK Try.prog 32 [.agg ⟨[.int .i64 j, .int .i64 l, .int .i64 m, .slice n o p]⟩] B F [s, r, q] fun I J => 
    ∃ L : Int, I = .int .i64 L ∧
    CallK Try.prog 33 [.agg ⟨[.int .i64 j, .int .i64 l, .int .i64 m, .slice n o p]⟩] B J [s, r, q] fun M N => 
    ∃ O : Int, M = .int .i64 O ∧
    if (L == O) = true
    then (CallK Try.prog 34 [] B N [s, r, q] fun P Q => 
     ∃ S : Bool, P = .bool S ∧
     Ret B Q (R (.bool S)))
    else (Ret B N (R (.bool false))))
   else (Ret B F (R (.bool false))))
  else (Ret B y (R (.bool false)))
noncomputable def V3.cfg (B : Nat) : Cfg := ⟨Try.prog, ⟨31, B⟩, [], hasN [28, 29, 30, 31, 32, 33, 34], hasN []⟩
noncomputable def V3.code : Code := (Try.f3.body).getD .skip
noncomputable def V3.cuts (B : Nat) (R : Value → World → Prop) : Nat → Cut := nthC []
noncomputable def V3.h : H := .s (.z) (.s (.r [[0, 1, 3, 4, 2, 5, 6, 7, 8, 10, 9, 11, 12, 13, 14, 15, 17, 16, 18, 19, 20, 21, 22, 23, 24]]) (.z))
theorem V3.vc_eq (B : Nat) (R : Value → World → Prop) (a : Option Addr) (c d : Nat) (f g i j l m : Int) (n : Option Addr) (o p : Nat) (w : World) : wpf (V3.cfg B) (V3.cuts B R) V3.code V3.h [] (postOf Try.prog B (Try.f3.results.toList) R) (argE 0 [.agg ⟨[.slice a c d]⟩, .agg ⟨[.int .i64 f, .int .i64 g, .int .i64 i]⟩, .agg ⟨[.int .i64 j, .int .i64 l, .int .i64 m, .slice n o p]⟩]) [] w = V3.vc B R a c d f g i j l m n o p w := by kernel_rfl
theorem V3.obl (B : Nat) (R : Value → World → Prop) : oblP (V3.cfg B) (V3.cuts B R) V3.code V3.h [] (postOf Try.prog B (Try.f3.results.toList) R) := by
  have e : oblP (V3.cfg B) (V3.cuts B R) V3.code V3.h [] (postOf Try.prog B (Try.f3.results.toList) R) = (True ∧ ((true = true) ∧ True)) := by kernel_rfl
  rw [e]
  exact ⟨trivial, ⟨rfl, trivial⟩⟩
theorem V3.cfgOk (B : Nat) : CfgOk (V3.cfg B) := cfgOk_of (by kernel_rfl) (by kernel_rfl)
theorem V3.sound {a : Option Addr} {d f : Nat} {g i j l m n : Int} {o : Option Addr} {p q : Nat} {w : World} {R : Value → World → Prop} (h : V3.vc w.heap.size R a d f g i j l m n o p q w) : Calls Try.prog 3 ⟨[.agg ⟨[.slice a d f]⟩, .agg ⟨[.int .i64 g, .int .i64 i, .int .i64 j]⟩, .agg ⟨[.int .i64 l, .int .i64 m, .int .i64 n, .slice o p q]⟩]⟩ w fun e w' => ∃ v, e = .returned v ∧ R v w' :=
  calls_wpfP (c := V3.cfg w.heap.size) (fn := Try.f3) (x := V3.code) (V3.cuts w.heap.size R) V3.h (V3.cfgOk _) mixed Try.func3 (by kernel_rfl) (by kernel_rfl) (by kernel_rfl) rfl (V3.obl _ _) ((V3.vc_eq _ _ a d f g i j l m n o p q _).symm ▸ h)
def V5.vc (B : Nat) (R : Value → World → Prop) (a : Option Addr) (c d : Nat) (f : Int) (w : World) : Prop :=
  ∀ g : Nat, w.heap.size ≤ g →
  CallK Try.prog 36 [.agg ⟨[.slice a c d]⟩, .int .i64 f] B w [g] fun v i => 
  ∃ j : Bool, v = .bool j ∧
  if j = true
  then (CallK Try.prog 34 [] B i [g] fun l m => 
   ∃ n : Bool, l = .bool n ∧
   Ret B m (R (.bool n)))
  else (Ret B i (R (.bool false)))
noncomputable def V5.cfg (B : Nat) : Cfg := ⟨Try.prog, ⟨11, B⟩, [], hasN [34, 36], hasN []⟩
noncomputable def V5.code : Code := (Try.f5.body).getD .skip
noncomputable def V5.cuts (B : Nat) (R : Value → World → Prop) : Nat → Cut := nthC []
noncomputable def V5.h : H := .s (.z) (.s (.z) (.z))
theorem V5.vc_eq (B : Nat) (R : Value → World → Prop) (a : Option Addr) (c d : Nat) (f : Int) (w : World) : wpf (V5.cfg B) (V5.cuts B R) V5.code V5.h [] (postOf Try.prog B (Try.f5.results.toList) R) (argE 0 [.agg ⟨[.slice a c d]⟩, .int .i64 f]) [] w = V5.vc B R a c d f w := by kernel_rfl
theorem V5.obl (B : Nat) (R : Value → World → Prop) : oblP (V5.cfg B) (V5.cuts B R) V5.code V5.h [] (postOf Try.prog B (Try.f5.results.toList) R) := by
  have e : oblP (V5.cfg B) (V5.cuts B R) V5.code V5.h [] (postOf Try.prog B (Try.f5.results.toList) R) = (True ∧ (True ∧ True)) := by kernel_rfl
  rw [e]
  exact ⟨trivial, ⟨trivial, trivial⟩⟩
theorem V5.cfgOk (B : Nat) : CfgOk (V5.cfg B) := cfgOk_of (by kernel_rfl) (by kernel_rfl)
theorem V5.sound {a : Option Addr} {d f : Nat} {g : Int} {w : World} {R : Value → World → Prop} (h : V5.vc w.heap.size R a d f g w) : Calls Try.prog 5 ⟨[.agg ⟨[.slice a d f]⟩, .int .i64 g]⟩ w fun e w' => ∃ v, e = .returned v ∧ R v w' :=
  calls_wpfP (c := V5.cfg w.heap.size) (fn := Try.f5) (x := V5.code) (V5.cuts w.heap.size R) V5.h (V5.cfgOk _) mixed Try.func5 (by kernel_rfl) (by kernel_rfl) (by kernel_rfl) rfl (V5.obl _ _) ((V5.vc_eq _ _ a d f g _).symm ▸ h)
def V34.vc (B : Nat) (R : Value → World → Prop) (w : World) : Prop :=
  Expo B w [] fun a => 
  let c := a.alloc (.cells ⟨[.int .i64 18, .int .i64 0, .int .i64 0]⟩ 26);
  Expo B c [] fun d => 
  let f := d.alloc (.cells ⟨[.int .i64 0, .int .i64 0, .int .i64 0, .slice (some ⟨a.heap.size, 0, none⟩) 1 1]⟩ 29);
  CallK Try.prog 37 [.agg ⟨[.slice (some ⟨d.heap.size, 0, none⟩) 1 1]⟩] B f [] fun v g => 
  ∃ i j l : Int, v = .tuple ⟨[.int .i64 i, .int .i64 j, .int .i64 l]⟩ ∧
  Expo B g [] fun m => 
  let n := m.alloc (.cells ⟨[.int .i64 1, .int .i64 1, .int .i64 0, .int .i64 18, .int .i64 0, .int .i64 0]⟩ 26);
  Expo B n [] fun o => 
  let p := o.alloc (.cells ⟨[.int .i64 0, .int .i64 0, .int .i64 0, .slice (some ⟨m.heap.size, 0, none⟩) 2 2]⟩ 29);
  CallK Try.prog 37 [.agg ⟨[.slice (some ⟨o.heap.size, 0, none⟩) 1 1]⟩] B p [] fun q r => 
  ∃ s t u : Int, q = .tuple ⟨[.int .i64 s, .int .i64 t, .int .i64 u]⟩ ∧
  if (i == 9) = true
  then (if (j == 0) = true
   then (if (l == 0) = true
    then (if (s == 0) = true
     then (CallK Try.prog 32 [.agg ⟨[.int .i64 0, .int .i64 0, .int .i64 0, .slice none 0 0]⟩] B r [] fun x y => 
      ∃ z : Int, x = .int .i64 z ∧
      Ret B y (R (.bool (z == 15))))
     else (Ret B r (R (.bool false))))
    else (Ret B r (R (.bool false))))
   else (Ret B r (R (.bool false))))
  else (Ret B r (R (.bool false)))
noncomputable def V34.cfg (B : Nat) : Cfg := ⟨Try.prog, ⟨47, B⟩, [], hasN [32, 37], hasN []⟩
noncomputable def V34.code : Code := (Try.f34.body).getD .skip
noncomputable def V34.cuts (B : Nat) (R : Value → World → Prop) : Nat → Cut := nthC []
noncomputable def V34.h : H := .s (.z) (.s (.z) (.s (.z) (.s (.z) (.z))))
theorem V34.vc_eq (B : Nat) (R : Value → World → Prop)  (w : World) : wpf (V34.cfg B) (V34.cuts B R) V34.code V34.h [] (postOf Try.prog B (Try.f34.results.toList) R) (argE 0 []) [] w = V34.vc B R  w := by kernel_rfl
theorem V34.obl (B : Nat) (R : Value → World → Prop) : oblP (V34.cfg B) (V34.cuts B R) V34.code V34.h [] (postOf Try.prog B (Try.f34.results.toList) R) := by
  have e : oblP (V34.cfg B) (V34.cuts B R) V34.code V34.h [] (postOf Try.prog B (Try.f34.results.toList) R) = (True ∧ (True ∧ (True ∧ (True ∧ True)))) := by kernel_rfl
  rw [e]
  exact ⟨trivial, ⟨trivial, ⟨trivial, ⟨trivial, trivial⟩⟩⟩⟩
theorem V34.cfgOk (B : Nat) : CfgOk (V34.cfg B) := cfgOk_of (by kernel_rfl) (by kernel_rfl)
theorem V34.sound  {w : World} {R : Value → World → Prop} (h : V34.vc w.heap.size R  w) : Calls Try.prog 34 ⟨[]⟩ w fun e w' => ∃ v, e = .returned v ∧ R v w' :=
  calls_wpfP (c := V34.cfg w.heap.size) (fn := Try.f34) (x := V34.code) (V34.cuts w.heap.size R) V34.h (V34.cfgOk _) mixed Try.func34 (by kernel_rfl) (by kernel_rfl) (by kernel_rfl) rfl (V34.obl _ _) ((V34.vc_eq _ _  _).symm ▸ h)
def V36.vc (B : Nat) (R : Value → World → Prop) (a : Option Addr) (c d : Nat) (f : Int) (w : World) : Prop :=
  ∀ g : Nat, w.heap.size ≤ g →
  CallK Try.prog 37 [.agg ⟨[.slice a c d]⟩] B w [g] fun v i => 
  ∃ j l m : Int, v = .tuple ⟨[.int .i64 j, .int .i64 l, .int .i64 m]⟩ ∧
  CallK Try.prog 87 [.agg ⟨[.slice a c d]⟩] B i [g] fun n o => 
  ∃ p q r : Int, n = .tuple ⟨[.int .i64 p, .int .i64 q, .int .i64 r]⟩ ∧
  if (j == p) = true
  then (if (l == q) = true
   then (if (m == r) = true
    then (CallK Try.prog 38 [.agg ⟨[.slice a c d]⟩, .int .i64 f] B o [g] fun s t => 
     ∃ (u : Option Addr) (x y : Nat), s = .slice u x y ∧
     CallK Try.prog 88 [.agg ⟨[.slice a c d]⟩, .int .i64 f] B t [g] fun z A => 
     ∃ (C : Option Addr) (D E : Nat), z = .slice C D E ∧
     CallK Try.prog 40 [.slice u x y, .slice C D E] B A [g] fun F G => 
     ∃ I : Bool, F = .bool I ∧
     Ret B G (R (.bool I)))
    else (Ret B o (R (.bool false))))
   else (Ret B o (R (.bool false))))
  else (Ret B o (R (.bool false)))
noncomputable def V36.cfg (B : Nat) : Cfg := ⟨Try.prog, ⟨45, B⟩, [], hasN [37, 38, 40, 87, 88], hasN []⟩
noncomputable def V36.code : Code := (Try.f36.body).getD .skip
noncomputable def V36.cuts (B : Nat) (R : Value → World → Prop) : Nat → Cut := nthC []
noncomputable def V36.h : H := .s (.z) (.s (.z) (.s (.z) (.s (.r [[0, 1, 2, 3, 4, 5, 6, 7, 8, 9, 10, 11, 12, 13, 14, 15, 17, 18, 16, 19, 20, 21, 22]]) (.z))))
theorem V36.vc_eq (B : Nat) (R : Value → World → Prop) (a : Option Addr) (c d : Nat) (f : Int) (w : World) : wpf (V36.cfg B) (V36.cuts B R) V36.code V36.h [] (postOf Try.prog B (Try.f36.results.toList) R) (argE 0 [.agg ⟨[.slice a c d]⟩, .int .i64 f]) [] w = V36.vc B R a c d f w := by kernel_rfl
theorem V36.obl (B : Nat) (R : Value → World → Prop) : oblP (V36.cfg B) (V36.cuts B R) V36.code V36.h [] (postOf Try.prog B (Try.f36.results.toList) R) := by
  have e : oblP (V36.cfg B) (V36.cuts B R) V36.code V36.h [] (postOf Try.prog B (Try.f36.results.toList) R) = (True ∧ (True ∧ (True ∧ ((true = true) ∧ True)))) := by kernel_rfl
  rw [e]
  exact ⟨trivial, ⟨trivial, ⟨trivial, ⟨rfl, trivial⟩⟩⟩⟩
theorem V36.cfgOk (B : Nat) : CfgOk (V36.cfg B) := cfgOk_of (by kernel_rfl) (by kernel_rfl)
theorem V36.sound {a : Option Addr} {d f : Nat} {g : Int} {w : World} {R : Value → World → Prop} (h : V36.vc w.heap.size R a d f g w) : Calls Try.prog 36 ⟨[.agg ⟨[.slice a d f]⟩, .int .i64 g]⟩ w fun e w' => ∃ v, e = .returned v ∧ R v w' :=
  calls_wpfP (c := V36.cfg w.heap.size) (fn := Try.f36) (x := V36.code) (V36.cuts w.heap.size R) V36.h (V36.cfgOk _) mixed Try.func36 (by kernel_rfl) (by kernel_rfl) (by kernel_rfl) rfl (V36.obl _ _) ((V36.vc_eq _ _ a d f g _).symm ▸ h)
def V37.l2 (B : Nat) (R : Value → World → Prop) (a : Option Addr → Nat → Nat → Int → Int → Nat → Option Addr → Nat → Nat → World → Prop) : Nat → Int → Option Addr → Nat → Nat → Int → Int → Option Addr → Nat → Nat → Int → Int → Nat → Int → Int → Int → Option Addr → Nat → Nat → Nat → Option Addr → Nat → Nat → World → Prop
  | 0 => fun _ _ _ _ _ _ _ _ _ _ _ _ _ _ _ _ _ _ _ _ _ _ _ => False
  | k + 1 => fun c d f g i j l m n o p q r s t u x y z A C D w =>
    if (decide (p < o)) = true
    then (∃ E : Addr, l = some E ∧ (0 : Int) ≤ p ∧ p < (m : Int) ∧
    ∃ F : Int, w.cell? ((E.add (p.toNat * 3)).add 0) = some (.int .i64 F) ∧
    ∃ G : Int, w.cell? ((E.add (p.toNat * 3)).add 1) = some (.int .i64 G) ∧
    ∃ I : Int, w.cell? ((E.add (p.toNat * 3)).add 2) = some (.int .i64 I) ∧
    ∀ J : Nat, w.heap.size ≤ J →
    CallK Try.prog 90 [.agg ⟨[.slice A C D]⟩, .agg ⟨[.int .i64 r, .int .i64 s, .int .i64 t, .slice u x y]⟩, .agg ⟨[.int .i64 F, .int .i64 G, .int .i64 I]⟩] B w [J, q, z] fun v L => 
     ∃ M : Bool, v = .bool M ∧
     if (!M) = true
     then (Ret B L (R (.tuple ⟨[.int .i64 6, .int .i64 c, .int .i64 p]⟩)))
     else ((V37.l2 B R a k) c d f g i j l m n o (IntKind.wrap .i64 (p + 1)) q r s t u x y z A C D L))
    else (a d f g i (IntKind.wrap .i64 (j + 1)) z A C D w)
def V37.l3 (B : Nat) (R : Value → World → Prop) : Nat → Option Addr → Nat → Nat → Int → Int → Nat → Option Addr → Nat → Nat → World → Prop
  | 0 => fun _ _ _ _ _ _ _ _ _ _ => False
  | k + 1 => fun a c d f g i j l m w =>
    if (decide (g < f)) = true
    then (∃ n : Addr, a = some n ∧ (0 : Int) ≤ g ∧ g < (c : Int) ∧
    ∃ o : Int, w.cell? ((n.add (g.toNat * 4)).add 0) = some (.int .i64 o) ∧
    ∃ p : Int, w.cell? ((n.add (g.toNat * 4)).add 1) = some (.int .i64 p) ∧
    ∃ q : Int, w.cell? ((n.add (g.toNat * 4)).add 2) = some (.int .i64 q) ∧
    ∃ (r : Option Addr) (s t : Nat), w.cell? ((n.add (g.toNat * 4)).add 3) = some (.slice r s t) ∧
    ∀ u : Nat, w.heap.size ≤ u →
    CallK Try.prog 91 [.agg ⟨[.slice j l m]⟩, .slice r s t] B w [u, i] fun v x => 
     ∃ (y : Option Addr) (z A : Nat) (C : Int) (D : Bool), v = .tuple ⟨[.slice y z A, .int .i64 C, .bool D]⟩ ∧
     if (!D) = true
     then (Ret B x (R (.tuple ⟨[.int .i64 9, .int .i64 g, .int .i64 C]⟩)))
     else ((V37.l3 B R k) a c d f (IntKind.wrap .i64 (g + 1)) i j l m x))
    else (Ret B w (R (.tuple ⟨[.int .i64 0, .int .i64 0, .int .i64 0]⟩)))
def V37.l1 (B : Nat) (R : Value → World → Prop) : Nat → Option Addr → Nat → Nat → Int → Int → Nat → Option Addr → Nat → Nat → World → Prop
  | 0 => fun _ _ _ _ _ _ _ _ _ _ => False
  | k + 1 => fun a c d f g i j l m w =>
    if (decide (g < f)) = true
    then (∃ n : Addr, a = some n ∧ (0 : Int) ≤ g ∧ g < (c : Int) ∧
    ∃ o : Int, w.cell? ((n.add (g.toNat * 4)).add 0) = some (.int .i64 o) ∧
    ∃ p : Int, w.cell? ((n.add (g.toNat * 4)).add 1) = some (.int .i64 p) ∧
    ∃ q : Int, w.cell? ((n.add (g.toNat * 4)).add 2) = some (.int .i64 q) ∧
    ∃ (r : Option Addr) (s t : Nat), w.cell? ((n.add (g.toNat * 4)).add 3) = some (.slice r s t) ∧
    ∀ u : Nat, w.heap.size ≤ u →
    ∃ x, V37.l2 B R (V37.l1 B R k) x g a c d f g r s t (s : Int) 0 u o p q r s t i j l m w)
    else (∃ x, V37.l3 B R x j l m (l : Int) 0 i j l m w)
def V37.l0 (B : Nat) (R : Value → World → Prop) : Nat → Option Addr → Nat → Nat → Int → Int → Nat → Option Addr → Nat → Nat → World → Prop
  | 0 => fun _ _ _ _ _ _ _ _ _ _ => False
  | k + 1 => fun a c d f g i j l m w =>
    if (decide (g < f)) = true
    then (∃ n : Addr, a = some n ∧ (0 : Int) ≤ g ∧ g < (c : Int) ∧
    ∃ o : Int, w.cell? ((n.add (g.toNat * 4)).add 0) = some (.int .i64 o) ∧
    ∃ p : Int, w.cell? ((n.add (g.toNat * 4)).add 1) = some (.int .i64 p) ∧
    ∃ q : Int, w.cell? ((n.add (g.toNat * 4)).add 2) = some (.int .i64 q) ∧
    ∃ (r : Option Addr) (s t : Nat), w.cell? ((n.add (g.toNat * 4)).add 3) = some (.slice r s t) ∧
    ∀ u : Nat, w.heap.size ≤ u →
    CallK Try.prog 89 [.agg ⟨[.int .i64 o, .int .i64 p, .int .i64 q, .slice r s t]⟩] B w [u, i] fun v x => 
     ∃ y : Bool, v = .bool y ∧
     if (!y) = true
     then (Ret B x (R (.tuple ⟨[.int .i64 1, .int .i64 g, .int .i64 0]⟩)))
     else ((V37.l0 B R k) a c d f (IntKind.wrap .i64 (g + 1)) i j l m x))
    else (∃ z, V37.l1 B R z j l m (l : Int) 0 i j l m w)
def V37.vc (B : Nat) (R : Value → World → Prop) (a : Option Addr) (c d : Nat) (w : World) : Prop :=
  ∀ f : Nat, w.heap.size ≤ f →
  if (decide ((c : Int) < 1)) = false
  then (if (decide ((c : Int) > 8)) = true
   then (Ret B w (R (.tuple ⟨[.int .i64 1, .int .i64 0, .int .i64 0]⟩)))
   else (∃ g, V37.l0 B R g a c d (c : Int) 0 f a c d w))
  else (Ret B w (R (.tuple ⟨[.int .i64 1, .int .i64 0, .int .i64 0]⟩)))
noncomputable def V37.cfg (B : Nat) : Cfg := ⟨Try.prog, ⟨85, B⟩, [], hasN [89, 90, 91], hasN []⟩
noncomputable def V37.code : Code := (Try.f37.body).getD .skip
noncomputable def V37.cuts (B : Nat) (R : Value → World → Prop) : Nat → Cut := nthC [⟨[(27, .one (.slice)), (28, .one (.int .i64)), (29, .one (.int .i64))], [(1, 24, [.slice])], fun fs vs bs w => V37.l0 B R (nthN fs 0) (slA (nthV vs 0)) (slL (nthV vs 0)) (slC (nthV vs 0)) (iV (nthV vs 1)) (iV (nthV vs 2)) (nthB bs 0).blk (slA (nthV (nthB bs 0).cells 0)) (slL (nthV (nthB bs 0).cells 0)) (slC (nthV (nthB bs 0).cells 0)) w⟩,
  ⟨[(40, .one (.slice)), (41, .one (.int .i64)), (42, .one (.int .i64))], [(1, 24, [.slice])], fun fs vs bs w => V37.l1 B R (nthN fs 0) (slA (nthV vs 0)) (slL (nthV vs 0)) (slC (nthV vs 0)) (iV (nthV vs 1)) (iV (nthV vs 2)) (nthB bs 0).blk (slA (nthV (nthB bs 0).cells 0)) (slL (nthV (nthB bs 0).cells 0)) (slC (nthV (nthB bs 0).cells 0)) w⟩,
  ⟨[(7, .one (.int .i64)), (40, .one (.slice)), (41, .one (.int .i64)), (42, .one (.int .i64)), (48, .one (.slice)), (49, .one (.int .i64)), (50, .one (.int .i64))], [(8, 29, [.int .i64, .int .i64, .int .i64, .slice]), (1, 24, [.slice])], fun fs vs bs w => V37.l2 B R (V37.l1 B R (nthN fs 1)) (nthN fs 0) (iV (nthV vs 0)) (slA (nthV vs 1)) (slL (nthV vs 1)) (slC (nthV vs 1)) (iV (nthV vs 2)) (iV (nthV vs 3)) (slA (nthV vs 4)) (slL (nthV vs 4)) (slC (nthV vs 4)) (iV (nthV vs 5)) (iV (nthV vs 6)) (nthB bs 0).blk (iV (nthV (nthB bs 0).cells 0)) (iV (nthV (nthB bs 0).cells 1)) (iV (nthV (nthB bs 0).cells 2)) (slA (nthV (nthB bs 0).cells 3)) (slL (nthV (nthB bs 0).cells 3)) (slC (nthV (nthB bs 0).cells 3)) (nthB bs 1).blk (slA (nthV (nthB bs 1).cells 0)) (slL (nthV (nthB bs 1).cells 0)) (slC (nthV (nthB bs 1).cells 0)) w⟩,
  ⟨[(65, .one (.slice)), (66, .one (.int .i64)), (67, .one (.int .i64))], [(1, 24, [.slice])], fun fs vs bs w => V37.l3 B R (nthN fs 0) (slA (nthV vs 0)) (slL (nthV vs 0)) (slC (nthV vs 0)) (iV (nthV vs 1)) (iV (nthV vs 2)) (nthB bs 0).blk (slA (nthV (nthB bs 0).cells 0)) (slL (nthV (nthB bs 0).cells 0)) (slC (nthV (nthB bs 0).cells 0)) w⟩]
noncomputable def V37.h : H := .s (.z) (.s (.s (.z) (.c (.s (.z) (.z)) (.z))) (.s (.s (.z) (.b (.l 0 (.s (.z) (.s (.c (.z) (.z)) (.s (.b (.s (.z) (.s (.z) (.c (.s (.z) (.z)) (.z))))) (.z))))))) (.s (.s (.z) (.b (.l 1 (.s (.z) (.s (.c (.z) (.z)) (.s (.b (.s (.z) (.s (.z) (.b (.l 2 (.s (.z) (.s (.c (.z) (.z)) (.s (.b (.s (.z) (.s (.z) (.c (.s (.z) (.z)) (.z))))) (.z))))))))) (.z))))))) (.s (.s (.z) (.b (.l 3 (.s (.z) (.s (.c (.z) (.z)) (.s (.b (.s (.z) (.s (.z) (.s (.z) (.c (.s (.z) (.z)) (.z)))))) (.z))))))) (.s (.z) (.z))))))
theorem V37.vc_eq (B : Nat) (R : Value → World → Prop) (a : Option Addr) (c d : Nat) (w : World) : wpf (V37.cfg B) (V37.cuts B R) V37.code V37.h [] (postOf Try.prog B (Try.f37.results.toList) R) (argE 0 [.agg ⟨[.slice a c d]⟩]) [] w = V37.vc B R a c d w := by kernel_rfl
theorem V37.obl (B : Nat) (R : Value → World → Prop) : oblP (V37.cfg B) (V37.cuts B R) V37.code V37.h [] (postOf Try.prog B (Try.f37.results.toList) R) := by
  have e : oblP (V37.cfg B) (V37.cuts B R) V37.code V37.h [] (postOf Try.prog B (Try.f37.results.toList) R) = (True ∧ ((True ∧ ((True ∧ True) ∧ True)) ∧ ((True ∧ ((∀ (a : Option Addr) (c d : Nat) (f g : Int) (i : Nat) (j : Option Addr) (l m : Nat) (w : World), ¬ V37.l0 B R 0 a c d f g i j l m w) ∧ (∀ n, ∀ (a : Option Addr) (c d : Nat) (f g : Int) (i : Nat) (j : Option Addr) (l m : Nat) (w : World), V37.l0 B R (n + 1) a c d f g i j l m w → V37.l0 B R (n + 1) a c d f g i j l m w) ∧ ∀ n : Nat, (True ∧ ((True ∧ True) ∧ ((True ∧ (True ∧ ((True ∧ True) ∧ True))) ∧ True))))) ∧ ((True ∧ ((∀ (o : Option Addr) (p q : Nat) (r s : Int) (i : Nat) (j : Option Addr) (l m : Nat) (w : World), ¬ V37.l1 B R 0 o p q r s i j l m w) ∧ (∀ t, ∀ (o : Option Addr) (p q : Nat) (r s : Int) (i : Nat) (j : Option Addr) (l m : Nat) (w : World), V37.l1 B R (t + 1) o p q r s i j l m w → V37.l1 B R (t + 1) o p q r s i j l m w) ∧ ∀ t : Nat, (True ∧ ((True ∧ True) ∧ ((True ∧ (True ∧ ((∀ (u : Int) (o : Option Addr) (p q : Nat) (r s : Int) (x : Option Addr) (y z : Nat) (A C : Int) (D : Nat) (E F G : Int) (I : Option Addr) (J L i : Nat) (j : Option Addr) (l m : Nat) (w : World), ¬ V37.l2 B R (V37.l1 B R t) 0 u o p q r s x y z A C D E F G I J L i j l m w) ∧ (∀ M, ∀ (u : Int) (o : Option Addr) (p q : Nat) (r s : Int) (x : Option Addr) (y z : Nat) (A C : Int) (D : Nat) (E F G : Int) (I : Option Addr) (J L i : Nat) (j : Option Addr) (l m : Nat) (w : World), V37.l2 B R (V37.l1 B R t) (M + 1) u o p q r s x y z A C D E F G I J L i j l m w → V37.l2 B R (V37.l1 B R t) (M + 1) u o p q r s x y z A C D E F G I J L i j l m w) ∧ ∀ M : Nat, (True ∧ ((True ∧ True) ∧ ((True ∧ (True ∧ ((True ∧ True) ∧ True))) ∧ True)))))) ∧ True))))) ∧ ((True ∧ ((∀ (N : Option Addr) (O P : Nat) (Q S : Int) (i : Nat) (j : Option Addr) (l m : Nat) (w : World), ¬ V37.l3 B R 0 N O P Q S i j l m w) ∧ (∀ T, ∀ (N : Option Addr) (O P : Nat) (Q S : Int) (i : Nat) (j : Option Addr) (l m : Nat) (w : World), V37.l3 B R (T + 1) N O P Q S i j l m w → V37.l3 B R (T + 1) N O P Q S i j l m w) ∧ ∀ T : Nat, (True ∧ ((True ∧ True) ∧ ((True ∧ (True ∧ (True ∧ ((True ∧ True) ∧ True)))) ∧ True))))) ∧ (True ∧ True)))))) := by kernel_rfl
  rw [e]
  exact ⟨trivial, ⟨⟨trivial, ⟨⟨trivial, trivial⟩, trivial⟩⟩, ⟨⟨trivial, ⟨fun a c d f g i j l m w h => h, fun _ a c d f g i j l m w h => h, fun n => ⟨trivial, ⟨⟨trivial, trivial⟩, ⟨⟨trivial, ⟨trivial, ⟨⟨trivial, trivial⟩, trivial⟩⟩⟩, trivial⟩⟩⟩⟩⟩, ⟨⟨trivial, ⟨fun o p q r s i j l m w h => h, fun _ o p q r s i j l m w h => h, fun t => ⟨trivial, ⟨⟨trivial, trivial⟩, ⟨⟨trivial, ⟨trivial, ⟨fun u o p q r s x y z A C D E F G I J L i j l m w h => h, fun _ u o p q r s x y z A C D E F G I J L i j l m w h => h, fun M => ⟨trivial, ⟨⟨trivial, trivial⟩, ⟨⟨trivial, ⟨trivial, ⟨⟨trivial, trivial⟩, trivial⟩⟩⟩, trivial⟩⟩⟩⟩⟩⟩, trivial⟩⟩⟩⟩⟩, ⟨⟨trivial, ⟨fun N O P Q S i j l m w h => h, fun _ N O P Q S i j l m w h => h, fun T => ⟨trivial, ⟨⟨trivial, trivial⟩, ⟨⟨trivial, ⟨trivial, ⟨trivial, ⟨⟨trivial, trivial⟩, trivial⟩⟩⟩⟩, trivial⟩⟩⟩⟩⟩, ⟨trivial, trivial⟩⟩⟩⟩⟩⟩
theorem V37.cfgOk (B : Nat) : CfgOk (V37.cfg B) := cfgOk_of (by kernel_rfl) (by kernel_rfl)
theorem V37.sound {a : Option Addr} {d f : Nat} {w : World} {R : Value → World → Prop} (h : V37.vc w.heap.size R a d f w) : Calls Try.prog 37 ⟨[.agg ⟨[.slice a d f]⟩]⟩ w fun e w' => ∃ v, e = .returned v ∧ R v w' :=
  calls_wpfP (c := V37.cfg w.heap.size) (fn := Try.f37) (x := V37.code) (V37.cuts w.heap.size R) V37.h (V37.cfgOk _) mixed Try.func37 (by kernel_rfl) (by kernel_rfl) (by kernel_rfl) rfl (V37.obl _ _) ((V37.vc_eq _ _ a d f _).symm ▸ h)
def V38.vc (B : Nat) (R : Value → World → Prop) (a : Option Addr) (c d : Nat) (f : Int) (w : World) : Prop :=
  ∀ g : Nat, w.heap.size ≤ g →
  CallK Try.prog 37 [.agg ⟨[.slice a c d]⟩] B w [g] fun v i => 
  ∃ j l m : Int, v = .tuple ⟨[.int .i64 j, .int .i64 l, .int .i64 m]⟩ ∧
  if (j != 0) = false
  then (if (decide (f < 0)) = false
   then (if (decide (f ≥ (c : Int))) = true
    then (Ret B i (R (.slice none 0 0)))
    else (∃ n : Addr, a = some n ∧ (0 : Int) ≤ f ∧ f < (c : Int) ∧
    ∃ (o : Option Addr) (p q : Nat), i.cell? ((n.add (f.toNat * 4)).add 3) = some (.slice o p q) ∧
    CallK Try.prog 91 [.agg ⟨[.slice a c d]⟩, .slice o p q] B i [g] fun r s => 
     ∃ (t : Option Addr) (u x : Nat) (y : Int) (z : Bool), r = .tuple ⟨[.slice t u x, .int .i64 y, .bool z]⟩ ∧
     Ret B s (R (.slice t u x))))
   else (Ret B i (R (.slice none 0 0))))
  else (Ret B i (R (.slice none 0 0)))
noncomputable def V38.cfg (B : Nat) : Cfg := ⟨Try.prog, ⟨43, B⟩, [], hasN [37, 91], hasN []⟩
noncomputable def V38.code : Code := (Try.f38.body).getD .skip
noncomputable def V38.cuts (B : Nat) (R : Value → World → Prop) : Nat → Cut := nthC []
noncomputable def V38.h : H := .s (.z) (.s (.s (.z) (.s (.z) (.c (.s (.z) (.z)) (.z)))) (.s (.r [[0, 1, 2, 3, 4, 5, 6, 7, 8, 9, 10, 11, 12, 13, 14]]) (.s (.z) (.z))))
theorem V38.vc_eq (B : Nat) (R : Value → World → Prop) (a : Option Addr) (c d : Nat) (f : Int) (w : World) : wpf (V38.cfg B) (V38.cuts B R) V38.code V38.h [] (postOf Try.prog B (Try.f38.results.toList) R) (argE 0 [.agg ⟨[.slice a c d]⟩, .int .i64 f]) [] w = V38.vc B R a c d f w := by kernel_rfl
theorem V38.obl (B : Nat) (R : Value → World → Prop) : oblP (V38.cfg B) (V38.cuts B R) V38.code V38.h [] (postOf Try.prog B (Try.f38.results.toList) R) := by
  have e : oblP (V38.cfg B) (V38.cuts B R) V38.code V38.h [] (postOf Try.prog B (Try.f38.results.toList) R) = (True ∧ ((True ∧ (True ∧ ((True ∧ True) ∧ True))) ∧ ((true = true) ∧ (True ∧ True)))) := by kernel_rfl
  rw [e]
  exact ⟨trivial, ⟨⟨trivial, ⟨trivial, ⟨⟨trivial, trivial⟩, trivial⟩⟩⟩, ⟨rfl, ⟨trivial, trivial⟩⟩⟩⟩
theorem V38.cfgOk (B : Nat) : CfgOk (V38.cfg B) := cfgOk_of (by kernel_rfl) (by kernel_rfl)
theorem V38.sound {a : Option Addr} {d f : Nat} {g : Int} {w : World} {R : Value → World → Prop} (h : V38.vc w.heap.size R a d f g w) : Calls Try.prog 38 ⟨[.agg ⟨[.slice a d f]⟩, .int .i64 g]⟩ w fun e w' => ∃ v, e = .returned v ∧ R v w' :=
  calls_wpfP (c := V38.cfg w.heap.size) (fn := Try.f38) (x := V38.code) (V38.cuts w.heap.size R) V38.h (V38.cfgOk _) mixed Try.func38 (by kernel_rfl) (by kernel_rfl) (by kernel_rfl) rfl (V38.obl _ _) ((V38.vc_eq _ _ a d f g _).symm ▸ h)
def V40.l0 (B : Nat) (R : Value → World → Prop) : Nat → Option Addr → Nat → Nat → Option Addr → Nat → Nat → Int → World → Prop
  | 0 => fun _ _ _ _ _ _ _ _ => False
  | k + 1 => fun a c d f g i j w =>
    if (decide (j < (c : Int))) = true
    then (∃ l : Addr, a = some l ∧ (0 : Int) ≤ j ∧ j < (c : Int) ∧
    ∃ m : Int, w.cell? (l.add j.toNat) = some (.int .i64 m) ∧
    ∃ n : Addr, f = some n ∧ (0 : Int) ≤ j ∧ j < (g : Int) ∧
    ∃ o : Int, w.cell? (n.add j.toNat) = some (.int .i64 o) ∧
    if (m != o) = true
     then (Ret B w (R (.bool false)))
     else ((V40.l0 B R k) a c d f g i (IntKind.wrap .i64 (j + 1)) w))
    else (Ret B w (R (.bool true)))
def V40.vc (B : Nat) (R : Value → World → Prop) (a : Option Addr) (c d : Nat) (f : Option Addr) (g i : Nat) (w : World) : Prop :=
  if ((c : Int) != (g : Int)) = true
  then (Ret B w (R (.bool false)))
  else (∃ j, V40.l0 B R j a c d f g i 0 w)
noncomputable def V40.cfg (B : Nat) : Cfg := ⟨Try.prog, ⟨26, B⟩, [], hasN [], hasN []⟩
noncomputable def V40.code : Code := (Try.f40.body).getD .skip
noncomputable def V40.cuts (B : Nat) (R : Value → World → Prop) : Nat → Cut := nthC [⟨[(0, .one (.slice)), (1, .one (.slice)), (5, .one (.int .i64))], [], fun fs vs bs w => V40.l0 B R (nthN fs 0) (slA (nthV vs 0)) (slL (nthV vs 0)) (slC (nthV vs 0)) (slA (nthV vs 1)) (slL (nthV vs 1)) (slC (nthV vs 1)) (iV (nthV vs 2)) w⟩]
noncomputable def V40.h : H := .s (.z) (.s (.s (.z) (.c (.s (.z) (.z)) (.z))) (.s (.s (.z) (.b (.l 0 (.s (.s (.z) (.c (.z) (.z))) (.s (.b (.s (.r [[0, 1, 2, 3, 4, 5, 6, 7, 8]]) (.c (.s (.z) (.z)) (.z)))) (.z)))))) (.s (.z) (.z))))
theorem V40.vc_eq (B : Nat) (R : Value → World → Prop) (a : Option Addr) (c d : Nat) (f : Option Addr) (g i : Nat) (w : World) : wpf (V40.cfg B) (V40.cuts B R) V40.code V40.h [] (postOf Try.prog B (Try.f40.results.toList) R) (argE 0 [.slice a c d, .slice f g i]) [] w = V40.vc B R a c d f g i w := by kernel_rfl
theorem V40.obl (B : Nat) (R : Value → World → Prop) : oblP (V40.cfg B) (V40.cuts B R) V40.code V40.h [] (postOf Try.prog B (Try.f40.results.toList) R) := by
  have e : oblP (V40.cfg B) (V40.cuts B R) V40.code V40.h [] (postOf Try.prog B (Try.f40.results.toList) R) = (True ∧ ((True ∧ ((True ∧ True) ∧ True)) ∧ ((True ∧ ((∀ (a : Option Addr) (c d : Nat) (f : Option Addr) (g i : Nat) (j : Int) (w : World), ¬ V40.l0 B R 0 a c d f g i j w) ∧ (∀ l, ∀ (a : Option Addr) (c d : Nat) (f : Option Addr) (g i : Nat) (j : Int) (w : World), V40.l0 B R (l + 1) a c d f g i j w → V40.l0 B R (l + 1) a c d f g i j w) ∧ ∀ l : Nat, ((True ∧ (True ∧ True)) ∧ (((true = true) ∧ ((True ∧ True) ∧ True)) ∧ True)))) ∧ (True ∧ True)))) := by kernel_rfl
  rw [e]
  exact ⟨trivial, ⟨⟨trivial, ⟨⟨trivial, trivial⟩, trivial⟩⟩, ⟨⟨trivial, ⟨fun a c d f g i j w h => h, fun _ a c d f g i j w h => h, fun l => ⟨⟨trivial, ⟨trivial, trivial⟩⟩, ⟨⟨rfl, ⟨⟨trivial, trivial⟩, trivial⟩⟩, trivial⟩⟩⟩⟩, ⟨trivial, trivial⟩⟩⟩⟩
theorem V40.cfgOk (B : Nat) : CfgOk (V40.cfg B) := cfgOk_of (by kernel_rfl) (by kernel_rfl)
theorem V40.sound {a : Option Addr} {d f : Nat} {g : Option Addr} {i j : Nat} {w : World} {R : Value → World → Prop} (h : V40.vc w.heap.size R a d f g i j w) : Calls Try.prog 40 ⟨[.slice a d f, .slice g i j]⟩ w fun e w' => ∃ v, e = .returned v ∧ R v w' :=
  calls_wpfP (c := V40.cfg w.heap.size) (fn := Try.f40) (x := V40.code) (V40.cuts w.heap.size R) V40.h (V40.cfgOk _) mixed Try.func40 (by kernel_rfl) (by kernel_rfl) (by kernel_rfl) rfl (V40.obl _ _) ((V40.vc_eq _ _ a d f g i j _).symm ▸ h)
def V87.l2 (B : Nat) (R : Value → World → Prop) (a : Int → Nat → Option Addr → Nat → Nat → World → Prop) : Nat → Int → Int → Nat → Option Addr → Nat → Nat → World → Prop
  | 0 => fun _ _ _ _ _ _ _ => False
  | k + 1 => fun c d f g i j w =>
    ∃ l : Addr, g = some l ∧ (0 : Int) ≤ c ∧ c < (i : Int) ∧
  ∃ (m : Option Addr) (n o : Nat), w.cell? ((l.add (c.toNat * 4)).add 3) = some (.slice m n o) ∧
  if (decide (d < (n : Int))) = true
    then (∃ p : Addr, g = some p ∧ (0 : Int) ≤ c ∧ c < (i : Int) ∧
    ∃ q : Int, w.cell? ((p.add (c.toNat * 4)).add 0) = some (.int .i64 q) ∧
    ∃ r : Int, w.cell? ((p.add (c.toNat * 4)).add 1) = some (.int .i64 r) ∧
    ∃ s : Int, w.cell? ((p.add (c.toNat * 4)).add 2) = some (.int .i64 s) ∧
    ∃ (t : Option Addr) (u x : Nat), w.cell? ((p.add (c.toNat * 4)).add 3) = some (.slice t u x) ∧
    ∃ y : Addr, g = some y ∧ (0 : Int) ≤ c ∧ c < (i : Int) ∧
    ∃ (z : Option Addr) (A C : Nat), w.cell? ((y.add (c.toNat * 4)).add 3) = some (.slice z A C) ∧
    ∃ D : Addr, z = some D ∧ (0 : Int) ≤ d ∧ d < (A : Int) ∧
    ∃ E : Int, w.cell? ((D.add (d.toNat * 3)).add 0) = some (.int .i64 E) ∧
    ∃ F : Int, w.cell? ((D.add (d.toNat * 3)).add 1) = some (.int .i64 F) ∧
    ∃ G : Int, w.cell? ((D.add (d.toNat * 3)).add 2) = some (.int .i64 G) ∧
    CallK Try.prog 119 [.agg ⟨[.slice g i j]⟩, .agg ⟨[.int .i64 q, .int .i64 r, .int .i64 s, .slice t u x]⟩, .agg ⟨[.int .i64 E, .int .i64 F, .int .i64 G]⟩] B w [f] fun v I => 
     ∃ J : Bool, v = .bool J ∧
     if (!J) = true
     then (Ret B I (R (.tuple ⟨[.int .i64 6, .int .i64 c, .int .i64 d]⟩)))
     else ((V87.l2 B R a k) c (IntKind.wrap .i64 (d + 1)) f g i j I))
    else (a (IntKind.wrap .i64 (c + 1)) f g i j w)
def V87.l3 (B : Nat) (R : Value → World → Prop) : Nat → Int → Nat → Option Addr → Nat → Nat → World → Prop
  | 0 => fun _ _ _ _ _ _ => False
  | k + 1 => fun a c d f g w =>
    if (decide (a < (f : Int))) = true
    then (∃ i : Addr, d = some i ∧ (0 : Int) ≤ a ∧ a < (f : Int) ∧
    ∃ j : Int, w.cell? ((i.add (a.toNat * 4)).add 0) = some (.int .i64 j) ∧
    ∃ l : Int, w.cell? ((i.add (a.toNat * 4)).add 1) = some (.int .i64 l) ∧
    ∃ m : Int, w.cell? ((i.add (a.toNat * 4)).add 2) = some (.int .i64 m) ∧
    ∃ (n : Option Addr) (o p : Nat), w.cell? ((i.add (a.toNat * 4)).add 3) = some (.slice n o p) ∧
    CallK Try.prog 120 [.agg ⟨[.slice d f g]⟩, .agg ⟨[.int .i64 j, .int .i64 l, .int .i64 m, .slice n o p]⟩] B w [c] fun v q => 
     ∃ (r : Option Addr) (s t : Nat) (u : Int), v = .tuple ⟨[.slice r s t, .int .i64 u]⟩ ∧
     if (decide (u ≥ 0)) = true
     then (Ret B q (R (.tuple ⟨[.int .i64 9, .int .i64 a, .int .i64 u]⟩)))
     else ((V87.l3 B R k) (IntKind.wrap .i64 (a + 1)) c d f g q))
    else (Ret B w (R (.tuple ⟨[.int .i64 0, .int .i64 0, .int .i64 0]⟩)))
def V87.l1 (B : Nat) (R : Value → World → Prop) : Nat → Int → Nat → Option Addr → Nat → Nat → World → Prop
  | 0 => fun _ _ _ _ _ _ => False
  | k + 1 => fun a c d f g w =>
    if (decide (a < (f : Int))) = true
    then (∃ i, V87.l2 B R (V87.l1 B R k) i a 0 c d f g w)
    else (∃ i, V87.l3 B R i 0 c d f g w)
def V87.l0 (B : Nat) (R : Value → World → Prop) : Nat → Int → Nat → Option Addr → Nat → Nat → World → Prop
  | 0 => fun _ _ _ _ _ _ => False
  | k + 1 => fun a c d f g w =>
    if (decide (a < (f : Int))) = true
    then (∃ i : Addr, d = some i ∧ (0 : Int) ≤ a ∧ a < (f : Int) ∧
    ∃ j : Int, w.cell? ((i.add (a.toNat * 4)).add 0) = some (.int .i64 j) ∧
    ∃ l : Int, w.cell? ((i.add (a.toNat * 4)).add 1) = some (.int .i64 l) ∧
    ∃ m : Int, w.cell? ((i.add (a.toNat * 4)).add 2) = some (.int .i64 m) ∧
    ∃ (n : Option Addr) (o p : Nat), w.cell? ((i.add (a.toNat * 4)).add 3) = some (.slice n o p) ∧
    CallK Try.prog 118 [.agg ⟨[.int .i64 j, .int .i64 l, .int .i64 m, .slice n o p]⟩] B w [c] fun v q => 
     ∃ r : Bool, v = .bool r ∧
     if (!r) = true
     then (Ret B q (R (.tuple ⟨[.int .i64 1, .int .i64 a, .int .i64 0]⟩)))
     else ((V87.l0 B R k) (IntKind.wrap .i64 (a + 1)) c d f g q))
    else (∃ s, V87.l1 B R s 0 c d f g w)
def V87.vc (B : Nat) (R : Value → World → Prop) (a : Option Addr) (c d : Nat) (w : World) : Prop :=
  ∀ f : Nat, w.heap.size ≤ f →
  if (decide ((c : Int) < 1)) = false
  then (if (decide ((c : Int) > 8)) = true
   then (Ret B w (R (.tuple ⟨[.int .i64 1, .int .i64 0, .int .i64 0]⟩)))
   else (∃ g, V87.l0 B R g 0 f a c d w))
  else (Ret B w (R (.tuple ⟨[.int .i64 1, .int .i64 0, .int .i64 0]⟩)))
noncomputable def V87.cfg (B : Nat) : Cfg := ⟨Try.prog, ⟨94, B⟩, [], hasN [118, 119, 120], hasN []⟩
noncomputable def V87.code : Code := (Try.f87.body).getD .skip
noncomputable def V87.cuts (B : Nat) (R : Value → World → Prop) : Nat → Cut := nthC [⟨[(5, .one (.int .i64))], [(1, 24, [.slice])], fun fs vs bs w => V87.l0 B R (nthN fs 0) (iV (nthV vs 0)) (nthB bs 0).blk (slA (nthV (nthB bs 0).cells 0)) (slL (nthV (nthB bs 0).cells 0)) (slC (nthV (nthB bs 0).cells 0)) w⟩,
  ⟨[(6, .one (.int .i64))], [(1, 24, [.slice])], fun fs vs bs w => V87.l1 B R (nthN fs 0) (iV (nthV vs 0)) (nthB bs 0).blk (slA (nthV (nthB bs 0).cells 0)) (slL (nthV (nthB bs 0).cells 0)) (slC (nthV (nthB bs 0).cells 0)) w⟩,
  ⟨[(6, .one (.int .i64)), (7, .one (.int .i64))], [(1, 24, [.slice])], fun fs vs bs w => V87.l2 B R (V87.l1 B R (nthN fs 1)) (nthN fs 0) (iV (nthV vs 0)) (iV (nthV vs 1)) (nthB bs 0).blk (slA (nthV (nthB bs 0).cells 0)) (slL (nthV (nthB bs 0).cells 0)) (slC (nthV (nthB bs 0).cells 0)) w⟩,
  ⟨[(8, .one (.int .i64))], [(1, 24, [.slice])], fun fs vs bs w => V87.l3 B R (nthN fs 0) (iV (nthV vs 0)) (nthB bs 0).blk (slA (nthV (nthB bs 0).cells 0)) (slL (nthV (nthB bs 0).cells 0)) (slC (nthV (nthB bs 0).cells 0)) w⟩]
noncomputable def V87.h : H := .s (.z) (.s (.s (.z) (.c (.s (.z) (.z)) (.z))) (.s (.s (.z) (.b (.l 0 (.s (.s (.z) (.c (.z) (.z))) (.s (.b (.s (.z) (.c (.s (.z) (.z)) (.z)))) (.z)))))) (.s (.s (.z) (.b (.l 1 (.s (.s (.z) (.c (.z) (.z))) (.s (.b (.s (.z) (.b (.l 2 (.s (.s (.z) (.c (.z) (.z))) (.s (.b (.s (.r [[0, 1, 2, 3, 4, 5, 6, 7, 8, 9, 10, 11, 12, 13, 14, 15, 16]]) (.c (.s (.z) (.z)) (.z)))) (.z))))))) (.z)))))) (.s (.s (.z) (.b (.l 3 (.s (.s (.z) (.c (.z) (.z))) (.s (.b (.s (.r [[0, 1, 2, 3, 4, 5, 6, 7, 8, 9, 10, 11]]) (.s (.z) (.c (.s (.z) (.z)) (.z))))) (.z)))))) (.s (.z) (.z))))))
theorem V87.vc_eq (B : Nat) (R : Value → World → Prop) (a : Option Addr) (c d : Nat) (w : World) : wpf (V87.cfg B) (V87.cuts B R) V87.code V87.h [] (postOf Try.prog B (Try.f87.results.toList) R) (argE 0 [.agg ⟨[.slice a c d]⟩]) [] w = V87.vc B R a c d w := by kernel_rfl
theorem V87.obl (B : Nat) (R : Value → World → Prop) : oblP (V87.cfg B) (V87.cuts B R) V87.code V87.h [] (postOf Try.prog B (Try.f87.results.toList) R) := by
  have e : oblP (V87.cfg B) (V87.cuts B R) V87.code V87.h [] (postOf Try.prog B (Try.f87.results.toList) R) = (True ∧ ((True ∧ ((True ∧ True) ∧ True)) ∧ ((True ∧ ((∀ (a : Int) (c : Nat) (d : Option Addr) (f g : Nat) (w : World), ¬ V87.l0 B R 0 a c d f g w) ∧ (∀ i, ∀ (a : Int) (c : Nat) (d : Option Addr) (f g : Nat) (w : World), V87.l0 B R (i + 1) a c d f g w → V87.l0 B R (i + 1) a c d f g w) ∧ ∀ i : Nat, ((True ∧ (True ∧ True)) ∧ ((True ∧ ((True ∧ True) ∧ True)) ∧ True)))) ∧ ((True ∧ ((∀ (j : Int) (c : Nat) (d : Option Addr) (f g : Nat) (w : World), ¬ V87.l1 B R 0 j c d f g w) ∧ (∀ l, ∀ (j : Int) (c : Nat) (d : Option Addr) (f g : Nat) (w : World), V87.l1 B R (l + 1) j c d f g w → V87.l1 B R (l + 1) j c d f g w) ∧ ∀ l : Nat, ((True ∧ (True ∧ True)) ∧ ((True ∧ ((∀ (j m : Int) (c : Nat) (d : Option Addr) (f g : Nat) (w : World), ¬ V87.l2 B R (V87.l1 B R l) 0 j m c d f g w) ∧ (∀ n, ∀ (j m : Int) (c : Nat) (d : Option Addr) (f g : Nat) (w : World), V87.l2 B R (V87.l1 B R l) (n + 1) j m c d f g w → V87.l2 B R (V87.l1 B R l) (n + 1) j m c d f g w) ∧ ∀ n : Nat, ((True ∧ (True ∧ True)) ∧ (((true = true) ∧ ((True ∧ True) ∧ True)) ∧ True)))) ∧ True)))) ∧ ((True ∧ ((∀ (o : Int) (c : Nat) (d : Option Addr) (f g : Nat) (w : World), ¬ V87.l3 B R 0 o c d f g w) ∧ (∀ p, ∀ (o : Int) (c : Nat) (d : Option Addr) (f g : Nat) (w : World), V87.l3 B R (p + 1) o c d f g w → V87.l3 B R (p + 1) o c d f g w) ∧ ∀ p : Nat, ((True ∧ (True ∧ True)) ∧ (((true = true) ∧ (True ∧ ((True ∧ True) ∧ True))) ∧ True)))) ∧ (True ∧ True)))))) := by kernel_rfl
  rw [e]
  exact ⟨trivial, ⟨⟨trivial, ⟨⟨trivial, trivial⟩, trivial⟩⟩, ⟨⟨trivial, ⟨fun a c d f g w h => h, fun _ a c d f g w h => h, fun i => ⟨⟨trivial, ⟨trivial, trivial⟩⟩, ⟨⟨trivial, ⟨⟨trivial, trivial⟩, trivial⟩⟩, trivial⟩⟩⟩⟩, ⟨⟨trivial, ⟨fun j c d f g w h => h, fun _ j c d f g w h => h, fun l => ⟨⟨trivial, ⟨trivial, trivial⟩⟩, ⟨⟨trivial, ⟨fun j m c d f g w h => h, fun _ j m c d f g w h => h, fun n => ⟨⟨trivial, ⟨trivial, trivial⟩⟩, ⟨⟨rfl, ⟨⟨trivial, trivial⟩, trivial⟩⟩, trivial⟩⟩⟩⟩, trivial⟩⟩⟩⟩, ⟨⟨trivial, ⟨fun o c d f g w h => h, fun _ o c d f g w h => h, fun p => ⟨⟨trivial, ⟨trivial, trivial⟩⟩, ⟨⟨rfl, ⟨trivial, ⟨⟨trivial, trivial⟩, trivial⟩⟩⟩, trivial⟩⟩⟩⟩, ⟨trivial, trivial⟩⟩⟩⟩⟩⟩
theorem V87.cfgOk (B : Nat) : CfgOk (V87.cfg B) := cfgOk_of (by kernel_rfl) (by kernel_rfl)
theorem V87.sound {a : Option Addr} {d f : Nat} {w : World} {R : Value → World → Prop} (h : V87.vc w.heap.size R a d f w) : Calls Try.prog 87 ⟨[.agg ⟨[.slice a d f]⟩]⟩ w fun e w' => ∃ v, e = .returned v ∧ R v w' :=
  calls_wpfP (c := V87.cfg w.heap.size) (fn := Try.f87) (x := V87.code) (V87.cuts w.heap.size R) V87.h (V87.cfgOk _) mixed Try.func87 (by kernel_rfl) (by kernel_rfl) (by kernel_rfl) rfl (V87.obl _ _) ((V87.vc_eq _ _ a d f _).symm ▸ h)
def V88.vc (B : Nat) (R : Value → World → Prop) (a : Option Addr) (c d : Nat) (f : Int) (w : World) : Prop :=
  ∀ g : Nat, w.heap.size ≤ g →
  CallK Try.prog 87 [.agg ⟨[.slice a c d]⟩] B w [g] fun v i => 
  ∃ j l m : Int, v = .tuple ⟨[.int .i64 j, .int .i64 l, .int .i64 m]⟩ ∧
  if (j != 0) = false
  then (CallK Try.prog 121 [.int .i64 f, .int .i64 (c : Int)] B i [g] fun n o => 
   ∃ p : Bool, n = .bool p ∧
   if (!p) = true
   then (Ret B o (R (.slice none 0 0)))
   else (∃ q : Addr, a = some q ∧ (0 : Int) ≤ f ∧ f < (c : Int) ∧
   ∃ r : Int, o.cell? ((q.add (f.toNat * 4)).add 0) = some (.int .i64 r) ∧
   ∃ s : Int, o.cell? ((q.add (f.toNat * 4)).add 1) = some (.int .i64 s) ∧
   ∃ t : Int, o.cell? ((q.add (f.toNat * 4)).add 2) = some (.int .i64 t) ∧
   ∃ (u : Option Addr) (x y : Nat), o.cell? ((q.add (f.toNat * 4)).add 3) = some (.slice u x y) ∧
   CallK Try.prog 120 [.agg ⟨[.slice a c d]⟩, .agg ⟨[.int .i64 r, .int .i64 s, .int .i64 t, .slice u x y]⟩] B o [g] fun z A => 
    ∃ (C : Option Addr) (D E : Nat) (F : Int), z = .tuple ⟨[.slice C D E, .int .i64 F]⟩ ∧
    Ret B A (R (.slice C D E))))
  else (Ret B i (R (.slice none 0 0)))
noncomputable def V88.cfg (B : Nat) : Cfg := ⟨Try.prog, ⟨37, B⟩, [], hasN [87, 120, 121], hasN []⟩
noncomputable def V88.code : Code := (Try.f88.body).getD .skip
noncomputable def V88.cuts (B : Nat) (R : Value → World → Prop) : Nat → Cut := nthC []
noncomputable def V88.h : H := .s (.z) (.s (.z) (.s (.s (.z) (.c (.s (.z) (.z)) (.z))) (.s (.r [[0, 1, 2, 3, 4, 5, 6, 7, 8, 9, 10, 11]]) (.s (.z) (.z)))))
theorem V88.vc_eq (B : Nat) (R : Value → World → Prop) (a : Option Addr) (c d : Nat) (f : Int) (w : World) : wpf (V88.cfg B) (V88.cuts B R) V88.code V88.h [] (postOf Try.prog B (Try.f88.results.toList) R) (argE 0 [.agg ⟨[.slice a c d]⟩, .int .i64 f]) [] w = V88.vc B R a c d f w := by kernel_rfl
theorem V88.obl (B : Nat) (R : Value → World → Prop) : oblP (V88.cfg B) (V88.cuts B R) V88.code V88.h [] (postOf Try.prog B (Try.f88.results.toList) R) := by
  have e : oblP (V88.cfg B) (V88.cuts B R) V88.code V88.h [] (postOf Try.prog B (Try.f88.results.toList) R) = (True ∧ (True ∧ ((True ∧ ((True ∧ True) ∧ True)) ∧ ((true = true) ∧ (True ∧ True))))) := by kernel_rfl
  rw [e]
  exact ⟨trivial, ⟨trivial, ⟨⟨trivial, ⟨⟨trivial, trivial⟩, trivial⟩⟩, ⟨rfl, ⟨trivial, trivial⟩⟩⟩⟩⟩
theorem V88.cfgOk (B : Nat) : CfgOk (V88.cfg B) := cfgOk_of (by kernel_rfl) (by kernel_rfl)
theorem V88.sound {a : Option Addr} {d f : Nat} {g : Int} {w : World} {R : Value → World → Prop} (h : V88.vc w.heap.size R a d f g w) : Calls Try.prog 88 ⟨[.agg ⟨[.slice a d f]⟩, .int .i64 g]⟩ w fun e w' => ∃ v, e = .returned v ∧ R v w' :=
  calls_wpfP (c := V88.cfg w.heap.size) (fn := Try.f88) (x := V88.code) (V88.cuts w.heap.size R) V88.h (V88.cfgOk _) mixed Try.func88 (by kernel_rfl) (by kernel_rfl) (by kernel_rfl) rfl (V88.obl _ _) ((V88.vc_eq _ _ a d f g _).symm ▸ h)
def V90.b5 (B : Nat) (R : Value → World → Prop) (a : Bool) (c : Nat) (d f g : Int) (i : Nat) (j : Option Addr) (l m : Nat) (w : World) : Prop :=
  if a = true
  then (CallK Try.prog 28 [.agg ⟨[.slice j l m]⟩, .agg ⟨[.int .i64 d, .int .i64 f, .int .i64 g]⟩] B w [c, i] fun v n => 
   ∃ o : Int, v = .int .i64 o ∧
   if (decide (o > 0)) = true
   then (CallK Try.prog 30 [.agg ⟨[.int .i64 d, .int .i64 f, .int .i64 g]⟩] B n [c, i] fun p q => 
    ∃ r : Int, p = .int .i64 r ∧
    Ret B q (R (.bool (decide (r > 0)))))
   else (Ret B n (R (.bool false))))
  else (Ret B w (R (.bool false)))
def V90.b4 (B : Nat) (R : Value → World → Prop) (a : Bool) (c : Int) (d : Bool) (f : Nat) (g i j : Int) (l : Nat) (m n o : Int) (p : Option Addr) (q r s : Nat) (t : Option Addr) (u x : Nat) (w : World) : Prop :=
  if d = true
  then (CallK Try.prog 122 [.int .i64 i, .int .i64 o] B w [f, l, s] fun v y => 
   ∃ z : Bool, v = .bool z ∧
   if z = true
   then (Ret B y (R (.bool (j == 0))))
   else (Ret B y (R (.bool false))))
  else (if (c == 24) = true
   then (CallK Try.prog 122 [.int .i64 i, .int .i64 o] B w [f, l, s] fun v y => 
    ∃ A : Bool, v = .bool A ∧
    if A = true
    then (CallK Try.prog 122 [.int .i64 j, .int .i64 o] B y [f, l, s] fun C D => 
     ∃ E : Bool, C = .bool E ∧
     Ret B D (R (.bool E)))
    else (Ret B y (R (.bool false))))
   else (if (c == 18) = true
    then (if (c == 18) = true
     then (Ret B w (R (.bool a)))
     else (V90.b5 B R a f g i j s t u x w))
    else (if (c == 20) = true
     then (if (c == 20) = true
      then (Ret B w (R (.bool a)))
      else (V90.b5 B R a f g i j s t u x w))
     else (if (c == 21) = true
      then (if (c == 21) = true
       then (Ret B w (R (.bool a)))
       else (V90.b5 B R a f g i j s t u x w))
      else (if (c == 22) = true
       then (if (c == 22) = true
        then (Ret B w (R (.bool a)))
        else (V90.b5 B R a f g i j s t u x w))
       else (if (c == 27) = true
        then (if (c == 27) = true
         then (Ret B w (R (.bool a)))
         else (V90.b5 B R a f g i j s t u x w))
        else (if (c == 26) = true
         then (Ret B w (R (.bool a)))
         else (V90.b5 B R a f g i j s t u x w))))))))
def V90.b3 (B : Nat) (R : Value → World → Prop) (a : Bool) (c : Int) (d : Bool) (f : Nat) (g i j : Int) (l : Nat) (m n o : Int) (p : Option Addr) (q r s : Nat) (t : Option Addr) (u x : Nat) (w : World) : Prop :=
  if d = true
  then (CallK Try.prog 122 [.int .i64 i, .int .i64 (u : Int)] B w [f, l, s] fun v y => 
   ∃ z : Bool, v = .bool z ∧
   if z = true
   then (Ret B y (R (.bool (j == 0))))
   else (Ret B y (R (.bool false))))
  else (if (c == 23) = true
   then (V90.b4 B R a c (c == 23) f g i j l m n o p q r s t u x w)
   else (V90.b4 B R a c (c == 25) f g i j l m n o p q r s t u x w))
def V90.b2 (B : Nat) (R : Value → World → Prop) (a : Bool) (c : Int) (d : Bool) (f : Nat) (g i j : Int) (l : Nat) (m n o : Int) (p : Option Addr) (q r s : Nat) (t : Option Addr) (u x : Nat) (w : World) : Prop :=
  if d = true
  then (CallK Try.prog 122 [.int .i64 i, .int .i64 (q : Int)] B w [f, l, s] fun v y => 
   ∃ z : Bool, v = .bool z ∧
   if z = true
   then (Ret B y (R (.bool (j == 0))))
   else (Ret B y (R (.bool false))))
  else (if (c == 17) = true
   then (V90.b3 B R a c (c == 17) f g i j l m n o p q r s t u x w)
   else (V90.b3 B R a c (c == 19) f g i j l m n o p q r s t u x w))
def V90.b1 (B : Nat) (R : Value → World → Prop) (a : Bool) (c : Int) (d : Bool) (f : Nat) (g i j : Int) (l : Nat) (m n o : Int) (p : Option Addr) (q r s : Nat) (t : Option Addr) (u x : Nat) (w : World) : Prop :=
  if d = true
  then (CallK Try.prog 122 [.int .i64 i, .int .i64 (IntKind.wrap .i64 (n - o))] B w [f, l, s] fun v y => 
   ∃ z : Bool, v = .bool z ∧
   if z = true
   then (Ret B y (R (.bool (j == 0))))
   else (Ret B y (R (.bool false))))
  else (if (c == 15) = true
   then (V90.b2 B R a c (c == 15) f g i j l m n o p q r s t u x w)
   else (V90.b2 B R a c (c == 16) f g i j l m n o p q r s t u x w))
def V90.b0 (B : Nat) (R : Value → World → Prop) (a : Bool) (c : Nat) (d f g : Int) (i : Nat) (j l m : Int) (n : Option Addr) (o p q : Nat) (r : Option Addr) (s t : Nat) (w : World) : Prop :=
  if (d == 1) = true
  then (if (decide (f ≥ (-2147483648))) = true
   then (if (decide (f ≤ 2147483648)) = true
    then (Ret B w (R (.bool (g == 0))))
    else (Ret B w (R (.bool false))))
   else (Ret B w (R (.bool false))))
  else (if (d == 2) = true
   then (CallK Try.prog 122 [.int .i64 f, .int .i64 6] B w [c, i, q] fun v u => 
    ∃ x : Bool, v = .bool x ∧
    if x = true
    then (Ret B u (R (.bool (g == 0))))
    else (Ret B u (R (.bool false))))
   else (if (d == 3) = true
    then (V90.b1 B R a d (d == 3) c d f g i j l m n o p q r s t w)
    else (V90.b1 B R a d (d == 4) c d f g i j l m n o p q r s t w)))
def V90.vc (B : Nat) (R : Value → World → Prop) (a : Option Addr) (c d : Nat) (f g i : Int) (j : Option Addr) (l m : Nat) (n o p : Int) (w : World) : Prop :=
  ∀ q : Nat, w.heap.size ≤ q →
  ∀ r : Nat, w.heap.size ≤ r →
  ∀ s : Nat, w.heap.size ≤ s →
  if (o == 0) = true
  then (V90.b0 B R (p == 0) s n o p r f g i j l m q a c d w)
  else (V90.b0 B R false s n o p r f g i j l m q a c d w)
noncomputable def V90.cfg (B : Nat) : Cfg := ⟨Try.prog, ⟨134, B⟩, [], hasN [28, 30, 122], hasN []⟩
noncomputable def V90.code : Code := (Try.f90.body).getD .skip
noncomputable def V90.cuts (B : Nat) (R : Value → World → Prop) : Nat → Cut := nthC [⟨[(7, .one (.bool))], [(5, 26, [.int .i64, .int .i64, .int .i64]), (4, 29, [.int .i64, .int .i64, .int .i64, .slice]), (3, 24, [.slice])], fun fs vs bs w => V90.b0 B R (bV (nthV vs 0)) (nthB bs 0).blk (iV (nthV (nthB bs 0).cells 0)) (iV (nthV (nthB bs 0).cells 1)) (iV (nthV (nthB bs 0).cells 2)) (nthB bs 1).blk (iV (nthV (nthB bs 1).cells 0)) (iV (nthV (nthB bs 1).cells 1)) (iV (nthV (nthB bs 1).cells 2)) (slA (nthV (nthB bs 1).cells 3)) (slL (nthV (nthB bs 1).cells 3)) (slC (nthV (nthB bs 1).cells 3)) (nthB bs 2).blk (slA (nthV (nthB bs 2).cells 0)) (slL (nthV (nthB bs 2).cells 0)) (slC (nthV (nthB bs 2).cells 0)) w⟩,
  ⟨[(7, .one (.bool)), (17, .one (.int .i64)), (43, .one (.bool))], [(5, 26, [.int .i64, .int .i64, .int .i64]), (4, 29, [.int .i64, .int .i64, .int .i64, .slice]), (3, 24, [.slice])], fun fs vs bs w => V90.b1 B R (bV (nthV vs 0)) (iV (nthV vs 1)) (bV (nthV vs 2)) (nthB bs 0).blk (iV (nthV (nthB bs 0).cells 0)) (iV (nthV (nthB bs 0).cells 1)) (iV (nthV (nthB bs 0).cells 2)) (nthB bs 1).blk (iV (nthV (nthB bs 1).cells 0)) (iV (nthV (nthB bs 1).cells 1)) (iV (nthV (nthB bs 1).cells 2)) (slA (nthV (nthB bs 1).cells 3)) (slL (nthV (nthB bs 1).cells 3)) (slC (nthV (nthB bs 1).cells 3)) (nthB bs 2).blk (slA (nthV (nthB bs 2).cells 0)) (slL (nthV (nthB bs 2).cells 0)) (slC (nthV (nthB bs 2).cells 0)) w⟩,
  ⟨[(7, .one (.bool)), (17, .one (.int .i64)), (59, .one (.bool))], [(5, 26, [.int .i64, .int .i64, .int .i64]), (4, 29, [.int .i64, .int .i64, .int .i64, .slice]), (3, 24, [.slice])], fun fs vs bs w => V90.b2 B R (bV (nthV vs 0)) (iV (nthV vs 1)) (bV (nthV vs 2)) (nthB bs 0).blk (iV (nthV (nthB bs 0).cells 0)) (iV (nthV (nthB bs 0).cells 1)) (iV (nthV (nthB bs 0).cells 2)) (nthB bs 1).blk (iV (nthV (nthB bs 1).cells 0)) (iV (nthV (nthB bs 1).cells 1)) (iV (nthV (nthB bs 1).cells 2)) (slA (nthV (nthB bs 1).cells 3)) (slL (nthV (nthB bs 1).cells 3)) (slC (nthV (nthB bs 1).cells 3)) (nthB bs 2).blk (slA (nthV (nthB bs 2).cells 0)) (slL (nthV (nthB bs 2).cells 0)) (slC (nthV (nthB bs 2).cells 0)) w⟩,
  ⟨[(7, .one (.bool)), (17, .one (.int .i64)), (73, .one (.bool))], [(5, 26, [.int .i64, .int .i64, .int .i64]), (4, 29, [.int .i64, .int .i64, .int .i64, .slice]), (3, 24, [.slice])], fun fs vs bs w => V90.b3 B R (bV (nthV vs 0)) (iV (nthV vs 1)) (bV (nthV vs 2)) (nthB bs 0).blk (iV (nthV (nthB bs 0).cells 0)) (iV (nthV (nthB bs 0).cells 1)) (iV (nthV (nthB bs 0).cells 2)) (nthB bs 1).blk (iV (nthV (nthB bs 1).cells 0)) (iV (nthV (nthB bs 1).cells 1)) (iV (nthV (nthB bs 1).cells 2)) (slA (nthV (nthB bs 1).cells 3)) (slL (nthV (nthB bs 1).cells 3)) (slC (nthV (nthB bs 1).cells 3)) (nthB bs 2).blk (slA (nthV (nthB bs 2).cells 0)) (slL (nthV (nthB bs 2).cells 0)) (slC (nthV (nthB bs 2).cells 0)) w⟩,
  ⟨[(7, .one (.bool)), (17, .one (.int .i64)), (87, .one (.bool))], [(5, 26, [.int .i64, .int .i64, .int .i64]), (4, 29, [.int .i64, .int .i64, .int .i64, .slice]), (3, 24, [.slice])], fun fs vs bs w => V90.b4 B R (bV (nthV vs 0)) (iV (nthV vs 1)) (bV (nthV vs 2)) (nthB bs 0).blk (iV (nthV (nthB bs 0).cells 0)) (iV (nthV (nthB bs 0).cells 1)) (iV (nthV (nthB bs 0).cells 2)) (nthB bs 1).blk (iV (nthV (nthB bs 1).cells 0)) (iV (nthV (nthB bs 1).cells 1)) (iV (nthV (nthB bs 1).cells 2)) (slA (nthV (nthB bs 1).cells 3)) (slL (nthV (nthB bs 1).cells 3)) (slC (nthV (nthB bs 1).cells 3)) (nthB bs 2).blk (slA (nthV (nthB bs 2).cells 0)) (slL (nthV (nthB bs 2).cells 0)) (slC (nthV (nthB bs 2).cells 0)) w⟩,
  ⟨[(7, .one (.bool))], [(5, 26, [.int .i64, .int .i64, .int .i64]), (3, 24, [.slice])], fun fs vs bs w => V90.b5 B R (bV (nthV vs 0)) (nthB bs 0).blk (iV (nthV (nthB bs 0).cells 0)) (iV (nthV (nthB bs 0).cells 1)) (iV (nthV (nthB bs 0).cells 2)) (nthB bs 1).blk (slA (nthV (nthB bs 1).cells 0)) (slL (nthV (nthB bs 1).cells 0)) (slC (nthV (nthB bs 1).cells 0)) w⟩]
noncomputable def V90.h : H := .s (.z) (.cut 0 (.z) (.cut 5 (.s (.z) (.b (.s (.z) (.c (.s (.z) (.z)) (.s (.z) (.c (.s (.z) (.z)) (.cut 1 (.s (.z) (.c (.z) (.z))) (.c (.s (.z) (.z)) (.cut 2 (.s (.z) (.c (.z) (.z))) (.c (.s (.z) (.z)) (.cut 3 (.s (.z) (.c (.z) (.z))) (.c (.s (.z) (.z)) (.cut 4 (.s (.z) (.c (.z) (.z))) (.c (.s (.z) (.z)) (.s (.z) (.c (.s (.z) (.z)) (.s (.s (.z) (.c (.z) (.s (.z) (.c (.z) (.s (.z) (.c (.z) (.s (.z) (.c (.z) (.s (.z) (.c (.z) (.z))))))))))) (.c (.s (.z) (.z)) (.z))))))))))))))))))) (.s (.z) (.z))))
theorem V90.vc_eq (B : Nat) (R : Value → World → Prop) (a : Option Addr) (c d : Nat) (f g i : Int) (j : Option Addr) (l m : Nat) (n o p : Int) (w : World) : wpf (V90.cfg B) (V90.cuts B R) V90.code V90.h [] (postOf Try.prog B (Try.f90.results.toList) R) (argE 0 [.agg ⟨[.slice a c d]⟩, .agg ⟨[.int .i64 f, .int .i64 g, .int .i64 i, .slice j l m]⟩, .agg ⟨[.int .i64 n, .int .i64 o, .int .i64 p]⟩]) [] w = V90.vc B R a c d f g i j l m n o p w := by kernel_rfl
theorem V90.obl (B : Nat) (R : Value → World → Prop) : oblP (V90.cfg B) (V90.cuts B R) V90.code V90.h [] (postOf Try.prog B (Try.f90.results.toList) R) := by
  have e : oblP (V90.cfg B) (V90.cuts B R) V90.code V90.h [] (postOf Try.prog B (Try.f90.results.toList) R) = (True ∧ (True ∧ (∀ (a : Bool) (c : Nat) (d f g : Int) (i : Nat) (j l m : Int) (n : Option Addr) (o p q : Nat) (r : Option Addr) (s t : Nat) (w : World), V90.b0 B R a c d f g i j l m n o p q r s t w → V90.b0 B R a c d f g i j l m n o p q r s t w) ∧ ((True ∧ (True ∧ ((True ∧ True) ∧ (True ∧ ((True ∧ True) ∧ ((True ∧ (True ∧ True)) ∧ (∀ (a : Bool) (u : Int) (x : Bool) (c : Nat) (d f g : Int) (i : Nat) (j l m : Int) (n : Option Addr) (o p q : Nat) (r : Option Addr) (s t : Nat) (w : World), V90.b1 B R a u x c d f g i j l m n o p q r s t w → V90.b1 B R a u x c d f g i j l m n o p q r s t w) ∧ ((True ∧ True) ∧ ((True ∧ (True ∧ True)) ∧ (∀ (a : Bool) (u : Int) (y : Bool) (c : Nat) (d f g : Int) (i : Nat) (j l m : Int) (n : Option Addr) (o p q : Nat) (r : Option Addr) (s t : Nat) (w : World), V90.b2 B R a u y c d f g i j l m n o p q r s t w → V90.b2 B R a u y c d f g i j l m n o p q r s t w) ∧ ((True ∧ True) ∧ ((True ∧ (True ∧ True)) ∧ (∀ (a : Bool) (u : Int) (z : Bool) (c : Nat) (d f g : Int) (i : Nat) (j l m : Int) (n : Option Addr) (o p q : Nat) (r : Option Addr) (s t : Nat) (w : World), V90.b3 B R a u z c d f g i j l m n o p q r s t w → V90.b3 B R a u z c d f g i j l m n o p q r s t w) ∧ ((True ∧ True) ∧ ((True ∧ (True ∧ True)) ∧ (∀ (a : Bool) (u : Int) (A : Bool) (c : Nat) (d f g : Int) (i : Nat) (j l m : Int) (n : Option Addr) (o p q : Nat) (r : Option Addr) (s t : Nat) (w : World), V90.b4 B R a u A c d f g i j l m n o p q r s t w → V90.b4 B R a u A c d f g i j l m n o p q r s t w) ∧ ((True ∧ True) ∧ (True ∧ ((True ∧ True) ∧ ((True ∧ (True ∧ (True ∧ (True ∧ (True ∧ (True ∧ (True ∧ (True ∧ (True ∧ (True ∧ True)))))))))) ∧ ((True ∧ True) ∧ True))))))))))))))))) ∧ (∀ (a : Bool) (c : Nat) (d f g : Int) (q : Nat) (r : Option Addr) (s t : Nat) (w : World), V90.b5 B R a c d f g q r s t w → V90.b5 B R a c d f g q r s t w) ∧ (True ∧ True)))) := by kernel_rfl
  rw [e]
  exact ⟨trivial, ⟨trivial, fun a c d f g i j l m n o p q r s t w h => h, ⟨⟨trivial, ⟨trivial, ⟨⟨trivial, trivial⟩, ⟨trivial, ⟨⟨trivial, trivial⟩, ⟨⟨trivial, ⟨trivial, trivial⟩⟩, fun a u x c d f g i j l m n o p q r s t w h => h, ⟨⟨trivial, trivial⟩, ⟨⟨trivial, ⟨trivial, trivial⟩⟩, fun a u y c d f g i j l m n o p q r s t w h => h, ⟨⟨trivial, trivial⟩, ⟨⟨trivial, ⟨trivial, trivial⟩⟩, fun a u z c d f g i j l m n o p q r s t w h => h, ⟨⟨trivial, trivial⟩, ⟨⟨trivial, ⟨trivial, trivial⟩⟩, fun a u A c d f g i j l m n o p q r s t w h => h, ⟨⟨trivial, trivial⟩, ⟨trivial, ⟨⟨trivial, trivial⟩, ⟨⟨trivial, ⟨trivial, ⟨trivial, ⟨trivial, ⟨trivial, ⟨trivial, ⟨trivial, ⟨trivial, ⟨trivial, ⟨trivial, trivial⟩⟩⟩⟩⟩⟩⟩⟩⟩⟩, ⟨⟨trivial, trivial⟩, trivial⟩⟩⟩⟩⟩⟩⟩⟩⟩⟩⟩⟩⟩⟩⟩⟩⟩, fun a c d f g q r s t w h => h, ⟨trivial, trivial⟩⟩⟩⟩
theorem V90.cfgOk (B : Nat) : CfgOk (V90.cfg B) := cfgOk_of (by kernel_rfl) (by kernel_rfl)
theorem V90.sound {a : Option Addr} {d f : Nat} {g i j : Int} {l : Option Addr} {m n : Nat} {o p q : Int} {w : World} {R : Value → World → Prop} (h : V90.vc w.heap.size R a d f g i j l m n o p q w) : Calls Try.prog 90 ⟨[.agg ⟨[.slice a d f]⟩, .agg ⟨[.int .i64 g, .int .i64 i, .int .i64 j, .slice l m n]⟩, .agg ⟨[.int .i64 o, .int .i64 p, .int .i64 q]⟩]⟩ w fun e w' => ∃ v, e = .returned v ∧ R v w' :=
  calls_wpfP (c := V90.cfg w.heap.size) (fn := Try.f90) (x := V90.code) (V90.cuts w.heap.size R) V90.h (V90.cfgOk _) mixed Try.func90 (by kernel_rfl) (by kernel_rfl) (by kernel_rfl) rfl (V90.obl _ _) ((V90.vc_eq _ _ a d f g i j l m n o p q _).symm ▸ h)
def V91.b4 (B : Nat) (R : Value → World → Prop) (a : Option Addr → Nat → Nat → Option Addr → Nat → Nat → Nat → Option Addr → Nat → Nat → World → Prop) (c : Option Addr → Nat → Nat → Option Addr → Nat → Nat → Bool → Option Addr → Nat → Nat → Int → Int → Nat → Option Addr → Nat → Nat → World → Prop) (d : Option Addr → Nat → Nat → Option Addr → Nat → Nat → Bool → Int → Int → Option Addr → Nat → Nat → Int → Int → Option Addr → Nat → Nat → Int → Int → Nat → Option Addr → Nat → Nat → World → Prop) (f : Option Addr) (g i : Nat) (j : Option Addr) (l m : Nat) (n : Bool) (o p q : Int) (r : Option Addr) (s t : Nat) (x y : Int) (z : Option Addr) (A C : Nat) (D E : Int) (F : Bool) (G : Nat) (I : Option Addr) (J L : Nat) (w : World) : Prop :=
  if F = true
  then (Ret B w (R (.tuple ⟨[.slice none 0 0, .int .i64 o, .bool false]⟩)))
  else (∃ M : Addr, j = some M ∧ (0 : Int) ≤ q ∧ q < (l : Int) ∧
  ∃ N : Int, w.cell? (M.add q.toNat) = some (.int .i64 N) ∧
  if (decide (N < 0)) = true
   then (∃ O : Addr, j = some O ∧ (0 : Int) ≤ q ∧ q < (l : Int) ∧
   (∃ u, w.cell? ((O.add q.toNat).add 0) = some u) ∧ w.frozen? ((O.add q.toNat).add 0) = false ∧
   let P := w.setCell ((O.add q.toNat).add 0) (.int .i64 p);
   d f g i j l m true o p r s t x y z A C D (IntKind.wrap .i64 (E + 1)) G I J L P)
   else (d f g i j l m n o p r s t x y z A C D (IntKind.wrap .i64 (E + 1)) G I J L w))
def V91.l3 (B : Nat) (R : Value → World → Prop) (a : Option Addr → Nat → Nat → Option Addr → Nat → Nat → Nat → Option Addr → Nat → Nat → World → Prop) (c : Option Addr → Nat → Nat → Option Addr → Nat → Nat → Bool → Option Addr → Nat → Nat → Int → Int → Nat → Option Addr → Nat → Nat → World → Prop) : Nat → Option Addr → Nat → Nat → Option Addr → Nat → Nat → Bool → Int → Int → Option Addr → Nat → Nat → Int → Int → Option Addr → Nat → Nat → Int → Int → Nat → Option Addr → Nat → Nat → World → Prop
  | 0 => fun _ _ _ _ _ _ _ _ _ _ _ _ _ _ _ _ _ _ _ _ _ _ _ _ => False
  | k + 1 => fun d f g i j l m n o p q r s t u x y z A C D E F w =>
    if (decide (A < z)) = true
    then (∃ G : Addr, u = some G ∧ (0 : Int) ≤ A ∧ A < (x : Int) ∧
    ∃ I : Int, w.cell? (G.add A.toNat) = some (.int .i64 I) ∧
    if (decide (I ≥ (f : Int))) = false
     then (∃ J : Addr, i = some J ∧ (0 : Int) ≤ I ∧ I < (j : Int) ∧
     ∃ L : Int, w.cell? (J.add I.toNat) = some (.int .i64 L) ∧
     if (decide (L ≥ 0)) = true
      then (∃ M : Addr, i = some M ∧ (0 : Int) ≤ I ∧ I < (j : Int) ∧
      ∃ N : Int, w.cell? (M.add I.toNat) = some (.int .i64 N) ∧
      V91.b4 B R a c (V91.l3 B R a c k) d f g i j l m n o I p q r s t u x y z A (N != o) C D E F w)
      else (V91.b4 B R a c (V91.l3 B R a c k) d f g i j l m n o I p q r s t u x y z A false C D E F w))
     else (V91.b4 B R a c (V91.l3 B R a c k) d f g i j l m n o I p q r s t u x y z A true C D E F w))
    else (c d f g i j l m p q r s (IntKind.wrap .i64 (t + 1)) C D E F w)
def V91.l2 (B : Nat) (R : Value → World → Prop) (a : Option Addr → Nat → Nat → Option Addr → Nat → Nat → Nat → Option Addr → Nat → Nat → World → Prop) : Nat → Option Addr → Nat → Nat → Option Addr → Nat → Nat → Bool → Option Addr → Nat → Nat → Int → Int → Nat → Option Addr → Nat → Nat → World → Prop
  | 0 => fun _ _ _ _ _ _ _ _ _ _ _ _ _ _ _ _ _ => False
  | k + 1 => fun c d f g i j l m n o p q r s t u w =>
    if (decide (q < p)) = true
    then (∃ x : Addr, m = some x ∧ (0 : Int) ≤ q ∧ q < (n : Int) ∧
    ∃ y : Int, w.cell? ((x.add (q.toNat * 3)).add 0) = some (.int .i64 y) ∧
    ∃ z : Int, w.cell? ((x.add (q.toNat * 3)).add 1) = some (.int .i64 z) ∧
    ∃ A : Int, w.cell? ((x.add (q.toNat * 3)).add 2) = some (.int .i64 A) ∧
    ∀ C : Nat, w.heap.size ≤ C →
    ∃ D : Addr, g = some D ∧ (0 : Int) ≤ q ∧ q < (i : Int) ∧
    ∃ E : Int, w.cell? (D.add q.toNat) = some (.int .i64 E) ∧
    if (decide (E < 0)) = true
     then ((V91.l2 B R a k) c d f g i j l m n o p (IntKind.wrap .i64 (q + 1)) r s t u w)
     else (∃ F : Addr, g = some F ∧ (0 : Int) ≤ q ∧ q < (i : Int) ∧
     ∃ G : Int, w.cell? (F.add q.toNat) = some (.int .i64 G) ∧
     CallK Try.prog 28 [.agg ⟨[.slice s t u]⟩, .agg ⟨[.int .i64 y, .int .i64 z, .int .i64 A]⟩] B w [C, r] fun v I => 
      ∃ J : Int, v = .int .i64 J ∧ I.cell? (F.add q.toNat) = some (.int .i64 G) ∧
      CallK Try.prog 30 [.agg ⟨[.int .i64 y, .int .i64 z, .int .i64 A]⟩] B I [C, r] fun L M => 
      ∃ N : Int, L = .int .i64 N ∧ M.cell? (F.add q.toNat) = some (.int .i64 G) ∧
      ∃ O : Addr, g = some O ∧ (0 : Int) ≤ q ∧ q < (i : Int) ∧
      ∃ P : Int, M.cell? (O.add q.toNat) = some (.int .i64 P) ∧
      CallK Try.prog 28 [.agg ⟨[.slice s t u]⟩, .agg ⟨[.int .i64 y, .int .i64 z, .int .i64 A]⟩] B M [C, r] fun Q S => 
      ∃ T : Int, Q = .int .i64 T ∧ S.cell? (O.add q.toNat) = some (.int .i64 P) ∧
      if (decide (T > P)) = false
      then (if (decide (IntKind.wrap .i64 (IntKind.wrap .i64 (G - J) + N) > 8)) = true
       then (Ret B S (R (.tuple ⟨[.slice none 0 0, .int .i64 q, .bool false]⟩)))
       else (CallK Try.prog 123 [.int .i64 q, .agg ⟨[.int .i64 y, .int .i64 z, .int .i64 A]⟩] B S [C, r] fun U W => 
        ∃ (X : Option Addr) (Y Z : Nat), U = .slice X Y Z ∧
        ∃ a0, V91.l3 B R a (V91.l2 B R a k) a0 c d f g i j l q (IntKind.wrap .i64 (IntKind.wrap .i64 (G - J) + N)) m n o p q X Y Z (Y : Int) 0 r s t u W))
      else (Ret B S (R (.tuple ⟨[.slice none 0 0, .int .i64 q, .bool false]⟩)))))
    else (if (!l) = true
     then (Ret B w (R (.tuple ⟨[.slice g i j, .int .i64 0, .bool true]⟩)))
     else (a c d f g i j r s t u w))
def V91.l1 (B : Nat) (R : Value → World → Prop) : Nat → Option Addr → Nat → Nat → Option Addr → Nat → Nat → Nat → Option Addr → Nat → Nat → World → Prop
  | 0 => fun _ _ _ _ _ _ _ _ _ _ _ => False
  | k + 1 => fun a c d f g i j l m n w =>
    ∃ o, V91.l2 B R (V91.l1 B R k) o a c d f g i false a c d (c : Int) 0 j l m n w
def V91.l0 (B : Nat) (R : Value → World → Prop) : Nat → Option Addr → Nat → Nat → Option Addr → Nat → Nat → Int → Nat → Option Addr → Nat → Nat → World → Prop
  | 0 => fun _ _ _ _ _ _ _ _ _ _ _ _ => False
  | k + 1 => fun a c d f g i j l m n o w =>
    if (decide (j < (g : Int))) = true
    then (∃ p : Addr, f = some p ∧ (0 : Int) ≤ j ∧ j < (g : Int) ∧
    (∃ u, w.cell? ((p.add j.toNat).add 0) = some u) ∧ w.frozen? ((p.add j.toNat).add 0) = false ∧
    let q := w.setCell ((p.add j.toNat).add 0) (.int .i64 (-1));
    (V91.l0 B R k) a c d f g i (IntKind.wrap .i64 (j + 1)) l m n o q)
    else (∃ r, V91.l1 B R r a c d f g i l m n o w)
def V91.vc (B : Nat) (R : Value → World → Prop) (a : Option Addr) (c d : Nat) (f : Option Addr) (g i : Nat) (w : World) : Prop :=
  ∀ j : Nat, w.heap.size ≤ j →
  RunK Try.prog (Instr.makeSlice 42 (.int .i64 (g : Int)) (.int .i64 (g : Int))) B w [j] fun v l => 
  ∃ (m : Option Addr) (n o : Nat), v = .slice m n o ∧
  ∃ p, V91.l0 B R p f g i m n o 1 j a c d l
noncomputable def V91.cfg (B : Nat) : Cfg := ⟨Try.prog, ⟨107, B⟩, [], hasN [28, 30, 123], hasN []⟩
noncomputable def V91.code : Code := (Try.f91.body).getD .skip
noncomputable def V91.cuts (B : Nat) (R : Value → World → Prop) : Nat → Cut := nthC [⟨[(1, .one (.slice)), (7, .one (.slice)), (8, .one (.int .i64))], [(2, 24, [.slice])], fun fs vs bs w => V91.l0 B R (nthN fs 0) (slA (nthV vs 0)) (slL (nthV vs 0)) (slC (nthV vs 0)) (slA (nthV vs 1)) (slL (nthV vs 1)) (slC (nthV vs 1)) (iV (nthV vs 2)) (nthB bs 0).blk (slA (nthV (nthB bs 0).cells 0)) (slL (nthV (nthB bs 0).cells 0)) (slC (nthV (nthB bs 0).cells 0)) w⟩,
  ⟨[(1, .one (.slice)), (7, .one (.slice))], [(2, 24, [.slice])], fun fs vs bs w => V91.l1 B R (nthN fs 0) (slA (nthV vs 0)) (slL (nthV vs 0)) (slC (nthV vs 0)) (slA (nthV vs 1)) (slL (nthV vs 1)) (slC (nthV vs 1)) (nthB bs 0).blk (slA (nthV (nthB bs 0).cells 0)) (slL (nthV (nthB bs 0).cells 0)) (slC (nthV (nthB bs 0).cells 0)) w⟩,
  ⟨[(1, .one (.slice)), (7, .one (.slice)), (9, .one (.bool)), (27, .one (.slice)), (28, .one (.int .i64)), (29, .one (.int .i64))], [(2, 24, [.slice])], fun fs vs bs w => V91.l2 B R (V91.l1 B R (nthN fs 1)) (nthN fs 0) (slA (nthV vs 0)) (slL (nthV vs 0)) (slC (nthV vs 0)) (slA (nthV vs 1)) (slL (nthV vs 1)) (slC (nthV vs 1)) (bV (nthV vs 2)) (slA (nthV vs 3)) (slL (nthV vs 3)) (slC (nthV vs 3)) (iV (nthV vs 4)) (iV (nthV vs 5)) (nthB bs 0).blk (slA (nthV (nthB bs 0).cells 0)) (slL (nthV (nthB bs 0).cells 0)) (slC (nthV (nthB bs 0).cells 0)) w⟩,
  ⟨[(1, .one (.slice)), (7, .one (.slice)), (9, .one (.bool)), (10, .one (.int .i64)), (12, .one (.int .i64)), (27, .one (.slice)), (28, .one (.int .i64)), (29, .one (.int .i64)), (65, .one (.slice)), (66, .one (.int .i64)), (67, .one (.int .i64))], [(2, 24, [.slice])], fun fs vs bs w => V91.l3 B R (V91.l1 B R (nthN fs 2)) (V91.l2 B R (V91.l1 B R (nthN fs 2)) (nthN fs 1)) (nthN fs 0) (slA (nthV vs 0)) (slL (nthV vs 0)) (slC (nthV vs 0)) (slA (nthV vs 1)) (slL (nthV vs 1)) (slC (nthV vs 1)) (bV (nthV vs 2)) (iV (nthV vs 3)) (iV (nthV vs 4)) (slA (nthV vs 5)) (slL (nthV vs 5)) (slC (nthV vs 5)) (iV (nthV vs 6)) (iV (nthV vs 7)) (slA (nthV vs 8)) (slL (nthV vs 8)) (slC (nthV vs 8)) (iV (nthV vs 9)) (iV (nthV vs 10)) (nthB bs 0).blk (slA (nthV (nthB bs 0).cells 0)) (slL (nthV (nthB bs 0).cells 0)) (slC (nthV (nthB bs 0).cells 0)) w⟩,
  ⟨[(1, .one (.slice)), (7, .one (.slice)), (9, .one (.bool)), (10, .one (.int .i64)), (12, .one (.int .i64)), (14, .one (.int .i64)), (27, .one (.slice)), (28, .one (.int .i64)), (29, .one (.int .i64)), (65, .one (.slice)), (66, .one (.int .i64)), (67, .one (.int .i64)), (71, .one (.bool))], [(2, 24, [.slice])], fun fs vs bs w => V91.b4 B R (V91.l1 B R (nthN fs 2)) (V91.l2 B R (V91.l1 B R (nthN fs 2)) (nthN fs 1)) (V91.l3 B R (V91.l1 B R (nthN fs 2)) (V91.l2 B R (V91.l1 B R (nthN fs 2)) (nthN fs 1)) (nthN fs 0)) (slA (nthV vs 0)) (slL (nthV vs 0)) (slC (nthV vs 0)) (slA (nthV vs 1)) (slL (nthV vs 1)) (slC (nthV vs 1)) (bV (nthV vs 2)) (iV (nthV vs 3)) (iV (nthV vs 4)) (iV (nthV vs 5)) (slA (nthV vs 6)) (slL (nthV vs 6)) (slC (nthV vs 6)) (iV (nthV vs 7)) (iV (nthV vs 8)) (slA (nthV vs 9)) (slL (nthV vs 9)) (slC (nthV vs 9)) (iV (nthV vs 10)) (iV (nthV vs 11)) (bV (nthV vs 12)) (nthB bs 0).blk (slA (nthV (nthB bs 0).cells 0)) (slL (nthV (nthB bs 0).cells 0)) (slC (nthV (nthB bs 0).cells 0)) w⟩]
noncomputable def V91.h : H := .s (.z) (.b (.s (.z) (.s (.s (.z) (.b (.l 0 (.s (.s (.z) (.c (.z) (.z))) (.s (.b (.z)) (.z)))))) (.s (.z) (.s (.b (.l 1 (.b (.s (.z) (.s (.s (.z) (.b (.l 2 (.s (.z) (.s (.c (.z) (.z)) (.s (.b (.s (.z) (.s (.s (.z) (.c (.z) (.z))) (.s (.r [[0, 1, 2, 3, 4, 5, 8, 6, 7, 9, 10, 11]]) (.s (.s (.r [[0, 1, 3, 4, 5, 6, 2, 7, 8, 9, 10, 11]]) (.c (.s (.z) (.z)) (.z))) (.s (.z) (.b (.l 3 (.s (.z) (.s (.c (.z) (.z)) (.s (.b (.s (.z) (.b (.cut 4 (.z) (.c (.s (.z) (.z)) (.s (.z) (.c (.z) (.z)))))))) (.z)))))))))))) (.z))))))) (.s (.z) (.c (.z) (.z)))))))) (.s (.z) (.z)))))))
theorem V91.vc_eq (B : Nat) (R : Value → World → Prop) (a : Option Addr) (c d : Nat) (f : Option Addr) (g i : Nat) (w : World) : wpf (V91.cfg B) (V91.cuts B R) V91.code V91.h [] (postOf Try.prog B (Try.f91.results.toList) R) (argE 0 [.agg ⟨[.slice a c d]⟩, .slice f g i]) [] w = V91.vc B R a c d f g i w := by kernel_rfl
theorem V91.obl (B : Nat) (R : Value → World → Prop) : oblP (V91.cfg B) (V91.cuts B R) V91.code V91.h [] (postOf Try.prog B (Try.f91.results.toList) R) := by
  have e : oblP (V91.cfg B) (V91.cuts B R) V91.code V91.h [] (postOf Try.prog B (Try.f91.results.toList) R) = (True ∧ (True ∧ ((True ∧ ((∀ (a : Option Addr) (c d : Nat) (f : Option Addr) (g i : Nat) (j : Int) (l : Nat) (m : Option Addr) (n o : Nat) (w : World), ¬ V91.l0 B R 0 a c d f g i j l m n o w) ∧ (∀ p, ∀ (a : Option Addr) (c d : Nat) (f : Option Addr) (g i : Nat) (j : Int) (l : Nat) (m : Option Addr) (n o : Nat) (w : World), V91.l0 B R (p + 1) a c d f g i j l m n o w → V91.l0 B R (p + 1) a c d f g i j l m n o w) ∧ ∀ p : Nat, ((True ∧ (True ∧ True)) ∧ (True ∧ True)))) ∧ (True ∧ (((∀ (a : Option Addr) (c d : Nat) (f : Option Addr) (g i l : Nat) (m : Option Addr) (n o : Nat) (w : World), ¬ V91.l1 B R 0 a c d f g i l m n o w) ∧ (∀ q, ∀ (a : Option Addr) (c d : Nat) (f : Option Addr) (g i l : Nat) (m : Option Addr) (n o : Nat) (w : World), V91.l1 B R (q + 1) a c d f g i l m n o w → V91.l1 B R (q + 1) a c d f g i l m n o w) ∧ ∀ q : Nat, (True ∧ ((True ∧ ((∀ (a : Option Addr) (c d : Nat) (f : Option Addr) (g i : Nat) (r : Bool) (s : Option Addr) (t u : Nat) (x y : Int) (l : Nat) (m : Option Addr) (n o : Nat) (w : World), ¬ V91.l2 B R (V91.l1 B R q) 0 a c d f g i r s t u x y l m n o w) ∧ (∀ z, ∀ (a : Option Addr) (c d : Nat) (f : Option Addr) (g i : Nat) (r : Bool) (s : Option Addr) (t u : Nat) (x y : Int) (l : Nat) (m : Option Addr) (n o : Nat) (w : World), V91.l2 B R (V91.l1 B R q) (z + 1) a c d f g i r s t u x y l m n o w → V91.l2 B R (V91.l1 B R q) (z + 1) a c d f g i r s t u x y l m n o w) ∧ ∀ z : Nat, (True ∧ ((True ∧ True) ∧ ((True ∧ ((True ∧ (True ∧ True)) ∧ ((true = true) ∧ (((true = true) ∧ ((True ∧ True) ∧ True)) ∧ (True ∧ ((∀ (a : Option Addr) (c d : Nat) (f : Option Addr) (g i : Nat) (r : Bool) (A C : Int) (s : Option Addr) (t u : Nat) (x y : Int) (D : Option Addr) (E F : Nat) (G I : Int) (l : Nat) (m : Option Addr) (n o : Nat) (w : World), ¬ V91.l3 B R (V91.l1 B R q) (V91.l2 B R (V91.l1 B R q) z) 0 a c d f g i r A C s t u x y D E F G I l m n o w) ∧ (∀ J, ∀ (a : Option Addr) (c d : Nat) (f : Option Addr) (g i : Nat) (r : Bool) (A C : Int) (s : Option Addr) (t u : Nat) (x y : Int) (D : Option Addr) (E F : Nat) (G I : Int) (l : Nat) (m : Option Addr) (n o : Nat) (w : World), V91.l3 B R (V91.l1 B R q) (V91.l2 B R (V91.l1 B R q) z) (J + 1) a c d f g i r A C s t u x y D E F G I l m n o w → V91.l3 B R (V91.l1 B R q) (V91.l2 B R (V91.l1 B R q) z) (J + 1) a c d f g i r A C s t u x y D E F G I l m n o w) ∧ ∀ J : Nat, (True ∧ ((True ∧ True) ∧ ((True ∧ (True ∧ (∀ (a : Option Addr) (c d : Nat) (f : Option Addr) (g i : Nat) (r : Bool) (A C L : Int) (s : Option Addr) (t u : Nat) (x y : Int) (D : Option Addr) (E F : Nat) (G I : Int) (M : Bool) (l : Nat) (m : Option Addr) (n o : Nat) (w : World), V91.b4 B R (V91.l1 B R q) (V91.l2 B R (V91.l1 B R q) z) (V91.l3 B R (V91.l1 B R q) (V91.l2 B R (V91.l1 B R q) z) J) a c d f g i r A C L s t u x y D E F G I M l m n o w → V91.b4 B R (V91.l1 B R q) (V91.l2 B R (V91.l1 B R q) z) (V91.l3 B R (V91.l1 B R q) (V91.l2 B R (V91.l1 B R q) z) J) a c d f g i r A C L s t u x y D E F G I M l m n o w) ∧ ((True ∧ True) ∧ (True ∧ (True ∧ True))))) ∧ True))))))))) ∧ True))))) ∧ (True ∧ (True ∧ True))))) ∧ (True ∧ True)))))) := by kernel_rfl
  rw [e]
  exact ⟨trivial, ⟨trivial, ⟨⟨trivial, ⟨fun a c d f g i j l m n o w h => h, fun _ a c d f g i j l m n o w h => h, fun p => ⟨⟨trivial, ⟨trivial, trivial⟩⟩, ⟨trivial, trivial⟩⟩⟩⟩, ⟨trivial, ⟨⟨fun a c d f g i l m n o w h => h, fun _ a c d f g i l m n o w h => h, fun q => ⟨trivial, ⟨⟨trivial, ⟨fun a c d f g i r s t u x y l m n o w h => h, fun _ a c d f g i r s t u x y l m n o w h => h, fun z => ⟨trivial, ⟨⟨trivial, trivial⟩, ⟨⟨trivial, ⟨⟨trivial, ⟨trivial, trivial⟩⟩, ⟨rfl, ⟨⟨rfl, ⟨⟨trivial, trivial⟩, trivial⟩⟩, ⟨trivial, ⟨fun a c d f g i r A C s t u x y D E F G I l m n o w h => h, fun _ a c d f g i r A C s t u x y D E F G I l m n o w h => h, fun J => ⟨trivial, ⟨⟨trivial, trivial⟩, ⟨⟨trivial, ⟨trivial, fun a c d f g i r A C L s t u x y D E F G I M l m n o w h => h, ⟨⟨trivial, trivial⟩, ⟨trivial, ⟨trivial, trivial⟩⟩⟩⟩⟩, trivial⟩⟩⟩⟩⟩⟩⟩⟩⟩, trivial⟩⟩⟩⟩⟩, ⟨trivial, ⟨trivial, trivial⟩⟩⟩⟩⟩, ⟨trivial, trivial⟩⟩⟩⟩⟩⟩
theorem V91.cfgOk (B : Nat) : CfgOk (V91.cfg B) := cfgOk_of (by kernel_rfl) (by kernel_rfl)
theorem V91.sound {a : Option Addr} {d f : Nat} {g : Option Addr} {i j : Nat} {w : World} {R : Value → World → Prop} (h : V91.vc w.heap.size R a d f g i j w) : Calls Try.prog 91 ⟨[.agg ⟨[.slice a d f]⟩, .slice g i j]⟩ w fun e w' => ∃ v, e = .returned v ∧ R v w' :=
  calls_wpfP (c := V91.cfg w.heap.size) (fn := Try.f91) (x := V91.code) (V91.cuts w.heap.size R) V91.h (V91.cfgOk _) mixed Try.func91 (by kernel_rfl) (by kernel_rfl) (by kernel_rfl) rfl (V91.obl _ _) ((V91.vc_eq _ _ a d f g i j _).symm ▸ h)
def V118.vc (B : Nat) (R : Value → World → Prop) (a c d : Int) (f : Option Addr) (g i : Nat) (w : World) : Prop :=
  ∀ j : Nat, w.heap.size ≤ j →
  if (decide (a ≥ 0)) = true
  then (if (decide (a ≤ 3)) = true
   then (if (decide (c ≥ a)) = true
    then (if (decide (c ≤ 8)) = true
     then (if (decide (d ≥ 0)) = true
      then (if (decide (d ≤ IntKind.wrap .i64 (c - a))) = true
       then (if (decide ((g : Int) ≥ 1)) = true
        then (Ret B w (R (.bool (decide ((g : Int) ≤ 64)))))
        else (Ret B w (R (.bool false))))
       else (Ret B w (R (.bool false))))
      else (Ret B w (R (.bool false))))
     else (Ret B w (R (.bool false))))
    else (Ret B w (R (.bool false))))
   else (Ret B w (R (.bool false))))
  else (Ret B w (R (.bool false)))
noncomputable def V118.cfg (B : Nat) : Cfg := ⟨Try.prog, ⟨50, B⟩, [], hasN [], hasN []⟩
noncomputable def V118.code : Code := (Try.f118.body).getD .skip
noncomputable def V118.cuts (B : Nat) (R : Value → World → Prop) : Nat → Cut := nthC []
noncomputable def V118.h : H := .s (.z) (.s (.z) (.z))
theorem V118.vc_eq (B : Nat) (R : Value → World → Prop) (a c d : Int) (f : Option Addr) (g i : Nat) (w : World) : wpf (V118.cfg B) (V118.cuts B R) V118.code V118.h [] (postOf Try.prog B (Try.f118.results.toList) R) (argE 0 [.agg ⟨[.int .i64 a, .int .i64 c, .int .i64 d, .slice f g i]⟩]) [] w = V118.vc B R a c d f g i w := by kernel_rfl
theorem V118.obl (B : Nat) (R : Value → World → Prop) : oblP (V118.cfg B) (V118.cuts B R) V118.code V118.h [] (postOf Try.prog B (Try.f118.results.toList) R) := by
  have e : oblP (V118.cfg B) (V118.cuts B R) V118.code V118.h [] (postOf Try.prog B (Try.f118.results.toList) R) = (True ∧ (True ∧ True)) := by kernel_rfl
  rw [e]
  exact ⟨trivial, ⟨trivial, trivial⟩⟩
theorem V118.cfgOk (B : Nat) : CfgOk (V118.cfg B) := cfgOk_of (by kernel_rfl) (by kernel_rfl)
theorem V118.sound {a d f : Int} {g : Option Addr} {i j : Nat} {w : World} {R : Value → World → Prop} (h : V118.vc w.heap.size R a d f g i j w) : Calls Try.prog 118 ⟨[.agg ⟨[.int .i64 a, .int .i64 d, .int .i64 f, .slice g i j]⟩]⟩ w fun e w' => ∃ v, e = .returned v ∧ R v w' :=
  calls_wpfP (c := V118.cfg w.heap.size) (fn := Try.f118) (x := V118.code) (V118.cuts w.heap.size R) V118.h (V118.cfgOk _) mixed Try.func118 (by kernel_rfl) (by kernel_rfl) (by kernel_rfl) rfl (V118.obl _ _) ((V118.vc_eq _ _ a d f g i j _).symm ▸ h)
def V119.b0 (B : Nat) (R : Value → World → Prop) (a : Int) (c : Nat) (d f g : Int) (i : Nat) (j l m : Int) (n : Option Addr) (o p q : Nat) (r : Option Addr) (s t : Nat) (w : World) : Prop :=
  if (a == 1) = true
  then (if (decide (f ≥ (-2147483648))) = true
   then (Ret B w (R (.bool (decide (f ≤ 2147483648)))))
   else (Ret B w (R (.bool false))))
  else (if (a == 2) = true
   then (CallK Try.prog 121 [.int .i64 f, .int .i64 6] B w [c, i, q] fun v u => 
    ∃ x : Bool, v = .bool x ∧
    Ret B u (R (.bool x)))
   else (if (a == 3) = true
    then (CallK Try.prog 121 [.int .i64 f, .int .i64 (IntKind.wrap .i64 (l - m))] B w [c, i, q] fun v u => 
     ∃ y : Bool, v = .bool y ∧
     Ret B u (R (.bool y)))
    else (if (a == 4) = true
     then (CallK Try.prog 121 [.int .i64 f, .int .i64 (o : Int)] B w [c, i, q] fun v u => 
      ∃ z : Bool, v = .bool z ∧
      Ret B u (R (.bool z)))
     else (if (a == 5) = true
      then (CallK Try.prog 121 [.int .i64 f, .int .i64 (s : Int)] B w [c, i, q] fun v u => 
       ∃ A : Bool, v = .bool A ∧
       Ret B u (R (.bool A)))
      else (if (a == 6) = true
       then (CallK Try.prog 121 [.int .i64 f, .int .i64 m] B w [c, i, q] fun v u => 
        ∃ C : Bool, v = .bool C ∧
        Ret B u (R (.bool C)))
       else (if (a == 7) = true
        then (CallK Try.prog 121 [.int .i64 f, .int .i64 m] B w [c, i, q] fun v u => 
         ∃ D : Bool, v = .bool D ∧
         if D = true
         then (CallK Try.prog 121 [.int .i64 g, .int .i64 m] B u [c, i, q] fun E F => 
          ∃ G : Bool, E = .bool G ∧
          Ret B F (R (.bool G)))
         else (Ret B u (R (.bool false))))
        else (Ret B w (R (.bool (f == 0))))))))))
def V119.vc (B : Nat) (R : Value → World → Prop) (a : Option Addr) (c d : Nat) (f g i : Int) (j : Option Addr) (l m : Nat) (n o p : Int) (w : World) : Prop :=
  ∀ q : Nat, w.heap.size ≤ q →
  ∀ r : Nat, w.heap.size ≤ r →
  ∀ s : Nat, w.heap.size ≤ s →
  CallK Try.prog 83 [.int .i64 n] B w [s, r, q] fun v t => 
  ∃ (u x y : Int) (z : Bool), v = .tuple ⟨[.int .i64 u, .int .i64 x, .int .i64 y, .bool z]⟩ ∧
  if (!z) = false
  then (if (u != 7) = true
   then (if (p != 0) = true
    then (Ret B t (R (.bool false)))
    else (V119.b0 B R u s n o p r f g i j l m q a c d t))
   else (V119.b0 B R u s n o p r f g i j l m q a c d t))
  else (Ret B t (R (.bool false)))
noncomputable def V119.cfg (B : Nat) : Cfg := ⟨Try.prog, ⟨96, B⟩, [], hasN [83, 121], hasN []⟩
noncomputable def V119.code : Code := (Try.f119.body).getD .skip
noncomputable def V119.cuts (B : Nat) (R : Value → World → Prop) : Nat → Cut := nthC [⟨[(7, .one (.int .i64))], [(5, 26, [.int .i64, .int .i64, .int .i64]), (4, 29, [.int .i64, .int .i64, .int .i64, .slice]), (3, 24, [.slice])], fun fs vs bs w => V119.b0 B R (iV (nthV vs 0)) (nthB bs 0).blk (iV (nthV (nthB bs 0).cells 0)) (iV (nthV (nthB bs 0).cells 1)) (iV (nthV (nthB bs 0).cells 2)) (nthB bs 1).blk (iV (nthV (nthB bs 1).cells 0)) (iV (nthV (nthB bs 1).cells 1)) (iV (nthV (nthB bs 1).cells 2)) (slA (nthV (nthB bs 1).cells 3)) (slL (nthV (nthB bs 1).cells 3)) (slC (nthV (nthB bs 1).cells 3)) (nthB bs 2).blk (slA (nthV (nthB bs 2).cells 0)) (slL (nthV (nthB bs 2).cells 0)) (slC (nthV (nthB bs 2).cells 0)) w⟩]
noncomputable def V119.h : H := .s (.z) (.s (.z) (.cut 0 (.s (.z) (.c (.s (.z) (.z)) (.z))) (.s (.s (.z) (.b (.s (.z) (.c (.s (.z) (.z)) (.s (.z) (.c (.s (.z) (.z)) (.s (.z) (.c (.s (.z) (.z)) (.s (.z) (.c (.s (.z) (.z)) (.s (.z) (.c (.s (.z) (.z)) (.s (.z) (.c (.s (.z) (.z)) (.s (.z) (.c (.s (.z) (.z)) (.z))))))))))))))))) (.s (.z) (.z)))))
theorem V119.vc_eq (B : Nat) (R : Value → World → Prop) (a : Option Addr) (c d : Nat) (f g i : Int) (j : Option Addr) (l m : Nat) (n o p : Int) (w : World) : wpf (V119.cfg B) (V119.cuts B R) V119.code V119.h [] (postOf Try.prog B (Try.f119.results.toList) R) (argE 0 [.agg ⟨[.slice a c d]⟩, .agg ⟨[.int .i64 f, .int .i64 g, .int .i64 i, .slice j l m]⟩, .agg ⟨[.int .i64 n, .int .i64 o, .int .i64 p]⟩]) [] w = V119.vc B R a c d f g i j l m n o p w := by kernel_rfl
theorem V119.obl (B : Nat) (R : Value → World → Prop) : oblP (V119.cfg B) (V119.cuts B R) V119.code V119.h [] (postOf Try.prog B (Try.f119.results.toList) R) := by
  have e : oblP (V119.cfg B) (V119.cuts B R) V119.code V119.h [] (postOf Try.prog B (Try.f119.results.toList) R) = (True ∧ (True ∧ ((True ∧ ((True ∧ True) ∧ True)) ∧ (∀ (a : Int) (c : Nat) (d f g : Int) (i : Nat) (j l m : Int) (n : Option Addr) (o p q : Nat) (r : Option Addr) (s t : Nat) (w : World), V119.b0 B R a c d f g i j l m n o p q r s t w → V119.b0 B R a c d f g i j l m n o p q r s t w) ∧ ((True ∧ (True ∧ ((True ∧ True) ∧ (True ∧ ((True ∧ True) ∧ (True ∧ ((True ∧ True) ∧ (True ∧ ((True ∧ True) ∧ (True ∧ ((True ∧ True) ∧ (True ∧ ((True ∧ True) ∧ (True ∧ ((True ∧ True) ∧ True))))))))))))))) ∧ (True ∧ True))))) := by kernel_rfl
  rw [e]
  exact ⟨trivial, ⟨trivial, ⟨⟨trivial, ⟨⟨trivial, trivial⟩, trivial⟩⟩, fun a c d f g i j l m n o p q r s t w h => h, ⟨⟨trivial, ⟨trivial, ⟨⟨trivial, trivial⟩, ⟨trivial, ⟨⟨trivial, trivial⟩, ⟨trivial, ⟨⟨trivial, trivial⟩, ⟨trivial, ⟨⟨trivial, trivial⟩, ⟨trivial, ⟨⟨trivial, trivial⟩, ⟨trivial, ⟨⟨trivial, trivial⟩, ⟨trivial, ⟨⟨trivial, trivial⟩, trivial⟩⟩⟩⟩⟩⟩⟩⟩⟩⟩⟩⟩⟩⟩⟩, ⟨trivial, trivial⟩⟩⟩⟩⟩
theorem V119.cfgOk (B : Nat) : CfgOk (V119.cfg B) := cfgOk_of (by kernel_rfl) (by kernel_rfl)
theorem V119.sound {a : Option Addr} {d f : Nat} {g i j : Int} {l : Option Addr} {m n : Nat} {o p q : Int} {w : World} {R : Value → World → Prop} (h : V119.vc w.heap.size R a d f g i j l m n o p q w) : Calls Try.prog 119 ⟨[.agg ⟨[.slice a d f]⟩, .agg ⟨[.int .i64 g, .int .i64 i, .int .i64 j, .slice l m n]⟩, .agg ⟨[.int .i64 o, .int .i64 p, .int .i64 q]⟩]⟩ w fun e w' => ∃ v, e = .returned v ∧ R v w' :=
  calls_wpfP (c := V119.cfg w.heap.size) (fn := Try.f119) (x := V119.code) (V119.cuts w.heap.size R) V119.h (V119.cfgOk _) mixed Try.func119 (by kernel_rfl) (by kernel_rfl) (by kernel_rfl) rfl (V119.obl _ _) ((V119.vc_eq _ _ a d f g i j l m n o p q _).symm ▸ h)
def V120.b6 (B : Nat) (R : Value → World → Prop) (a : Option Addr → Nat → Nat → Bool → Nat → Int → Int → Int → Option Addr → Nat → Nat → Nat → Option Addr → Nat → Nat → World → Prop) (c : Option Addr → Nat → Nat → Bool → Int → Nat → Int → Int → Int → Option Addr → Nat → Nat → Nat → Option Addr → Nat → Nat → World → Prop) (d : Option Addr → Nat → Nat → Bool → Int → Int → Option Addr → Nat → Nat → Int → Nat → Int → Int → Int → Option Addr → Nat → Nat → Nat → Option Addr → Nat → Nat → World → Prop) (f : Option Addr) (g i : Nat) (j : Bool) (l m : Int) (n : Option Addr) (o p : Nat) (q r : Int) (s : Nat) (t x y : Int) (z : Option Addr) (A C D : Nat) (E : Option Addr) (F G : Nat) (w : World) : Prop :=
  ∃ I : Addr, f = some I ∧ (0 : Int) ≤ r ∧ r < (g : Int) ∧
  ∃ J : Int, w.cell? (I.add r.toNat) = some (.int .i64 J) ∧
  if (decide (J < 0)) = true
  then (∃ L : Addr, f = some L ∧ (0 : Int) ≤ r ∧ r < (g : Int) ∧
  (∃ u, w.cell? ((L.add r.toNat).add 0) = some u) ∧ w.frozen? ((L.add r.toNat).add 0) = false ∧
  let M := w.setCell ((L.add r.toNat).add 0) (.int .i64 m);
  d f g i true l m n o p (IntKind.wrap .i64 (q + 1)) s t x y z A C D E F G M)
  else (d f g i j l m n o p (IntKind.wrap .i64 (q + 1)) s t x y z A C D E F G w)
def V120.l5 (B : Nat) (R : Value → World → Prop) (a : Option Addr → Nat → Nat → Bool → Nat → Int → Int → Int → Option Addr → Nat → Nat → Nat → Option Addr → Nat → Nat → World → Prop) (c : Option Addr → Nat → Nat → Bool → Int → Nat → Int → Int → Int → Option Addr → Nat → Nat → Nat → Option Addr → Nat → Nat → World → Prop) : Nat → Option Addr → Nat → Nat → Bool → Int → Int → Option Addr → Nat → Nat → Int → Nat → Int → Int → Int → Option Addr → Nat → Nat → Nat → Option Addr → Nat → Nat → World → Prop
  | 0 => fun _ _ _ _ _ _ _ _ _ _ _ _ _ _ _ _ _ _ _ _ _ _ => False
  | k + 1 => fun d f g i j l m n o p q r s t u x y z A C D w =>
    if (decide (p < (n : Int))) = true
    then (∃ E : Addr, m = some E ∧ (0 : Int) ≤ p ∧ p < (n : Int) ∧
    ∃ F : Int, w.cell? (E.add p.toNat) = some (.int .i64 F) ∧
    if (decide (F ≥ (f : Int))) = false
     then (∃ G : Addr, d = some G ∧ (0 : Int) ≤ F ∧ F < (f : Int) ∧
     ∃ I : Int, w.cell? (G.add F.toNat) = some (.int .i64 I) ∧
     if (decide (I ≥ 0)) = true
      then (∃ J : Addr, d = some J ∧ (0 : Int) ≤ F ∧ F < (f : Int) ∧
      ∃ L : Int, w.cell? (J.add F.toNat) = some (.int .i64 L) ∧
      if (L != l) = true
       then (Ret B w (R (.tuple ⟨[.slice none 0 0, .int .i64 j]⟩)))
       else (V120.b6 B R a c (V120.l5 B R a c k) d f g i j l m n o p F q r s t u x y z A C D w))
      else (V120.b6 B R a c (V120.l5 B R a c k) d f g i j l m n o p F q r s t u x y z A C D w))
     else (Ret B w (R (.tuple ⟨[.slice none 0 0, .int .i64 j]⟩))))
    else (c d f g i (IntKind.wrap .i64 (j + 1)) q r s t u x y z A C D w)
def V120.b4 (B : Nat) (R : Value → World → Prop) (a : Option Addr → Nat → Nat → Bool → Nat → Int → Int → Int → Option Addr → Nat → Nat → Nat → Option Addr → Nat → Nat → World → Prop) (c : Option Addr → Nat → Nat → Bool → Int → Nat → Int → Int → Int → Option Addr → Nat → Nat → Nat → Option Addr → Nat → Nat → World → Prop) (d : Option Addr) (f g : Nat) (i : Bool) (j l : Int) (m : Option Addr) (n o p : Nat) (q r s : Int) (t : Option Addr) (u x y : Nat) (z : Option Addr) (A C : Nat) (w : World) : Prop :=
  ∃ D, V120.l5 B R a c D d f g i j l m n o 0 p q r s t u x y z A C w
def V120.b3 (B : Nat) (R : Value → World → Prop) (a : Option Addr → Nat → Nat → Bool → Nat → Int → Int → Int → Option Addr → Nat → Nat → Nat → Option Addr → Nat → Nat → World → Prop) (c : Option Addr → Nat → Nat → Bool → Int → Nat → Int → Int → Int → Option Addr → Nat → Nat → Nat → Option Addr → Nat → Nat → World → Prop) (d : Option Addr) (f g : Nat) (i : Bool) (j l : Int) (m : Option Addr) (n o : Nat) (p : Int) (q : Bool) (r : Nat) (s t u : Int) (x : Nat) (y z A : Int) (C : Option Addr) (D E F : Nat) (G : Option Addr) (I J : Nat) (w : World) : Prop :=
  if q = true
  then (V120.b4 B R a c d f g i j l m n o x y z A C D E F G I J w)
  else (if (p == 15) = true
   then (Expo B w [r, x, F] fun L => 
    Hide [r, x, F] (L.alloc (.cells ⟨[.int .i64 t]⟩ 3)) fun M => 
    RunK Try.prog (Builtin.append_ #[42, 42] 42 ⟨[.slice m n o, .slice (some ⟨L.heap.size, 0, none⟩) 1 1]⟩) B M [r, x, F] fun v N => 
    ∃ (O : Option Addr) (P Q : Nat), v = .slice O P Q ∧
    V120.b4 B R a c d f g i j l O P Q x y z A C D E F G I J N)
   else (if (p == 16) = true
    then (Expo B w [r, x, F] fun L => 
     Hide [r, x, F] (L.alloc (.cells ⟨[.int .i64 t, .int .i64 (IntKind.wrap .i64 (j + 1))]⟩ 3)) fun M => 
     RunK Try.prog (Builtin.append_ #[42, 42] 42 ⟨[.slice m n o, .slice (some ⟨L.heap.size, 0, none⟩) 2 2]⟩) B M [r, x, F] fun v N => 
     ∃ (S : Option Addr) (T U : Nat), v = .slice S T U ∧
     V120.b4 B R a c d f g i j l S T U x y z A C D E F G I J N)
    else (Expo B w [r, x, F] fun L => 
     Hide [r, x, F] (L.alloc (.cells ⟨[.int .i64 (IntKind.wrap .i64 (j + 1))]⟩ 3)) fun M => 
     RunK Try.prog (Builtin.append_ #[42, 42] 42 ⟨[.slice m n o, .slice (some ⟨L.heap.size, 0, none⟩) 1 1]⟩) B M [r, x, F] fun v N => 
     ∃ (W : Option Addr) (X Y : Nat), v = .slice W X Y ∧
     V120.b4 B R a c d f g i j l W X Y x y z A C D E F G I J N)))
def V120.l2 (B : Nat) (R : Value → World → Prop) (a : Option Addr → Nat → Nat → Bool → Nat → Int → Int → Int → Option Addr → Nat → Nat → Nat → Option Addr → Nat → Nat → World → Prop) : Nat → Option Addr → Nat → Nat → Bool → Int → Nat → Int → Int → Int → Option Addr → Nat → Nat → Nat → Option Addr → Nat → Nat → World → Prop
  | 0 => fun _ _ _ _ _ _ _ _ _ _ _ _ _ _ _ _ _ => False
  | k + 1 => fun c d f g i j l m n o p q r s t u w =>
    if (decide (i < (d : Int))) = true
    then (∃ x : Addr, c = some x ∧ (0 : Int) ≤ i ∧ i < (d : Int) ∧
    ∃ y : Int, w.cell? (x.add i.toNat) = some (.int .i64 y) ∧
    if (decide (y < 0)) = true
     then ((V120.l2 B R a k) c d f g (IntKind.wrap .i64 (i + 1)) j l m n o p q r s t u w)
     else (∃ z : Addr, o = some z ∧ (0 : Int) ≤ i ∧ i < (p : Int) ∧
     ∃ A : Int, w.cell? ((z.add (i.toNat * 3)).add 0) = some (.int .i64 A) ∧
     ∃ C : Int, w.cell? ((z.add (i.toNat * 3)).add 1) = some (.int .i64 C) ∧
     ∃ D : Int, w.cell? ((z.add (i.toNat * 3)).add 2) = some (.int .i64 D) ∧
     ∀ E : Nat, w.heap.size ≤ E →
     ∃ F : Addr, c = some F ∧ (0 : Int) ≤ i ∧ i < (d : Int) ∧
     ∃ G : Int, w.cell? (F.add i.toNat) = some (.int .i64 G) ∧
     CallK Try.prog 29 [.agg ⟨[.slice s t u]⟩, .agg ⟨[.int .i64 A, .int .i64 C, .int .i64 D]⟩] B w [E, j, r] fun v I => 
      ∃ J : Int, v = .int .i64 J ∧ I.cell? (F.add i.toNat) = some (.int .i64 G) ∧
      if (decide (IntKind.wrap .i64 (G - J) < 0)) = true
      then (Ret B I (R (.tuple ⟨[.slice none 0 0, .int .i64 i]⟩)))
      else (CallK Try.prog 31 [.agg ⟨[.int .i64 A, .int .i64 C, .int .i64 D]⟩] B I [E, j, r] fun L M => 
       ∃ N : Int, L = .int .i64 N ∧
       if (decide (IntKind.wrap .i64 (IntKind.wrap .i64 (G - J) + N) > 8)) = true
       then (Ret B M (R (.tuple ⟨[.slice none 0 0, .int .i64 i]⟩)))
       else (if (A == 18) = true
        then (V120.b3 B R a (V120.l2 B R a k) c d f g i (IntKind.wrap .i64 (IntKind.wrap .i64 (G - J) + N)) none 0 0 A (A == 18) E A C D j l m n o p q r s t u M)
        else (V120.b3 B R a (V120.l2 B R a k) c d f g i (IntKind.wrap .i64 (IntKind.wrap .i64 (G - J) + N)) none 0 0 A (A == 20) E A C D j l m n o p q r s t u M)))))
    else (a c d f g j l m n o p q r s t u w)
def V120.l1 (B : Nat) (R : Value → World → Prop) : Nat → Option Addr → Nat → Nat → Bool → Nat → Int → Int → Int → Option Addr → Nat → Nat → Nat → Option Addr → Nat → Nat → World → Prop
  | 0 => fun _ _ _ _ _ _ _ _ _ _ _ _ _ _ _ _ => False
  | k + 1 => fun a c d f g i j l m n o p q r s w =>
    if f = true
    then (∃ t, V120.l2 B R (V120.l1 B R k) t a c d false 0 g i j l m n o p q r s w)
    else (Ret B w (R (.tuple ⟨[.slice a c d, .int .i64 (-1)]⟩)))
def V120.l0 (B : Nat) (R : Value → World → Prop) : Nat → Option Addr → Nat → Nat → Int → Nat → Int → Int → Int → Option Addr → Nat → Nat → Nat → Option Addr → Nat → Nat → World → Prop
  | 0 => fun _ _ _ _ _ _ _ _ _ _ _ _ _ _ _ _ => False
  | k + 1 => fun a c d f g i j l m n o p q r s w =>
    if (decide (f < (c : Int))) = true
    then (∃ t : Addr, a = some t ∧ (0 : Int) ≤ f ∧ f < (c : Int) ∧
    (∃ u, w.cell? ((t.add f.toNat).add 0) = some u) ∧ w.frozen? ((t.add f.toNat).add 0) = false ∧
    let x := w.setCell ((t.add f.toNat).add 0) (.int .i64 (-1));
    (V120.l0 B R k) a c d (IntKind.wrap .i64 (f + 1)) g i j l m n o p q r s x)
    else (∃ y, V120.l1 B R y a c d true g i j l m n o p q r s w)
def V120.vc (B : Nat) (R : Value → World → Prop) (a : Option Addr) (c d : Nat) (f g i : Int) (j : Option Addr) (l m : Nat) (w : World) : Prop :=
  ∀ n : Nat, w.heap.size ≤ n →
  ∀ o : Nat, w.heap.size ≤ o →
  RunK Try.prog (Instr.makeSlice 42 (.int .i64 (l : Int)) (.int .i64 (l : Int))) B w [o, n] fun v p => 
  ∃ (q : Option Addr) (r s : Nat), v = .slice q r s ∧
  ∃ t, V120.l0 B R t q r s 1 o f g i j l m n a c d p
noncomputable def V120.cfg (B : Nat) : Cfg := ⟨Try.prog, ⟨129, B⟩, [], hasN [29, 31], hasN []⟩
noncomputable def V120.code : Code := (Try.f120.body).getD .skip
noncomputable def V120.cuts (B : Nat) (R : Value → World → Prop) : Nat → Cut := nthC [⟨[(6, .one (.slice)), (7, .one (.int .i64))], [(3, 29, [.int .i64, .int .i64, .int .i64, .slice]), (2, 24, [.slice])], fun fs vs bs w => V120.l0 B R (nthN fs 0) (slA (nthV vs 0)) (slL (nthV vs 0)) (slC (nthV vs 0)) (iV (nthV vs 1)) (nthB bs 0).blk (iV (nthV (nthB bs 0).cells 0)) (iV (nthV (nthB bs 0).cells 1)) (iV (nthV (nthB bs 0).cells 2)) (slA (nthV (nthB bs 0).cells 3)) (slL (nthV (nthB bs 0).cells 3)) (slC (nthV (nthB bs 0).cells 3)) (nthB bs 1).blk (slA (nthV (nthB bs 1).cells 0)) (slL (nthV (nthB bs 1).cells 0)) (slC (nthV (nthB bs 1).cells 0)) w⟩,
  ⟨[(6, .one (.slice)), (8, .one (.bool))], [(3, 29, [.int .i64, .int .i64, .int .i64, .slice]), (2, 24, [.slice])], fun fs vs bs w => V120.l1 B R (nthN fs 0) (slA (nthV vs 0)) (slL (nthV vs 0)) (slC (nthV vs 0)) (bV (nthV vs 1)) (nthB bs 0).blk (iV (nthV (nthB bs 0).cells 0)) (iV (nthV (nthB bs 0).cells 1)) (iV (nthV (nthB bs 0).cells 2)) (slA (nthV (nthB bs 0).cells 3)) (slL (nthV (nthB bs 0).cells 3)) (slC (nthV (nthB bs 0).cells 3)) (nthB bs 1).blk (slA (nthV (nthB bs 1).cells 0)) (slL (nthV (nthB bs 1).cells 0)) (slC (nthV (nthB bs 1).cells 0)) w⟩,
  ⟨[(6, .one (.slice)), (8, .one (.bool)), (9, .one (.int .i64))], [(3, 29, [.int .i64, .int .i64, .int .i64, .slice]), (2, 24, [.slice])], fun fs vs bs w => V120.l2 B R (V120.l1 B R (nthN fs 1)) (nthN fs 0) (slA (nthV vs 0)) (slL (nthV vs 0)) (slC (nthV vs 0)) (bV (nthV vs 1)) (iV (nthV vs 2)) (nthB bs 0).blk (iV (nthV (nthB bs 0).cells 0)) (iV (nthV (nthB bs 0).cells 1)) (iV (nthV (nthB bs 0).cells 2)) (slA (nthV (nthB bs 0).cells 3)) (slL (nthV (nthB bs 0).cells 3)) (slC (nthV (nthB bs 0).cells 3)) (nthB bs 1).blk (slA (nthV (nthB bs 1).cells 0)) (slL (nthV (nthB bs 1).cells 0)) (slC (nthV (nthB bs 1).cells 0)) w⟩,
  ⟨[(6, .one (.slice)), (8, .one (.bool)), (9, .one (.int .i64)), (11, .one (.int .i64)), (12, .one (.slice)), (64, .one (.int .i64)), (70, .one (.bool))], [(10, 26, [.int .i64, .int .i64, .int .i64]), (3, 29, [.int .i64, .int .i64, .int .i64, .slice]), (2, 24, [.slice])], fun fs vs bs w => V120.b3 B R (V120.l1 B R (nthN fs 1)) (V120.l2 B R (V120.l1 B R (nthN fs 1)) (nthN fs 0)) (slA (nthV vs 0)) (slL (nthV vs 0)) (slC (nthV vs 0)) (bV (nthV vs 1)) (iV (nthV vs 2)) (iV (nthV vs 3)) (slA (nthV vs 4)) (slL (nthV vs 4)) (slC (nthV vs 4)) (iV (nthV vs 5)) (bV (nthV vs 6)) (nthB bs 0).blk (iV (nthV (nthB bs 0).cells 0)) (iV (nthV (nthB bs 0).cells 1)) (iV (nthV (nthB bs 0).cells 2)) (nthB bs 1).blk (iV (nthV (nthB bs 1).cells 0)) (iV (nthV (nthB bs 1).cells 1)) (iV (nthV (nthB bs 1).cells 2)) (slA (nthV (nthB bs 1).cells 3)) (slL (nthV (nthB bs 1).cells 3)) (slC (nthV (nthB bs 1).cells 3)) (nthB bs 2).blk (slA (nthV (nthB bs 2).cells 0)) (slL (nthV (nthB bs 2).cells 0)) (slC (nthV (nthB bs 2).cells 0)) w⟩,
  ⟨[(6, .one (.slice)), (8, .one (.bool)), (9, .one (.int .i64)), (11, .one (.int .i64)), (12, .one (.slice))], [(3, 29, [.int .i64, .int .i64, .int .i64, .slice]), (2, 24, [.slice])], fun fs vs bs w => V120.b4 B R (V120.l1 B R (nthN fs 1)) (V120.l2 B R (V120.l1 B R (nthN fs 1)) (nthN fs 0)) (slA (nthV vs 0)) (slL (nthV vs 0)) (slC (nthV vs 0)) (bV (nthV vs 1)) (iV (nthV vs 2)) (iV (nthV vs 3)) (slA (nthV vs 4)) (slL (nthV vs 4)) (slC (nthV vs 4)) (nthB bs 0).blk (iV (nthV (nthB bs 0).cells 0)) (iV (nthV (nthB bs 0).cells 1)) (iV (nthV (nthB bs 0).cells 2)) (slA (nthV (nthB bs 0).cells 3)) (slL (nthV (nthB bs 0).cells 3)) (slC (nthV (nthB bs 0).cells 3)) (nthB bs 1).blk (slA (nthV (nthB bs 1).cells 0)) (slL (nthV (nthB bs 1).cells 0)) (slC (nthV (nthB bs 1).cells 0)) w⟩,
  ⟨[(6, .one (.slice)), (8, .one (.bool)), (9, .one (.int .i64)), (11, .one (.int .i64)), (12, .one (.slice)), (13, .one (.int .i64))], [(3, 29, [.int .i64, .int .i64, .int .i64, .slice]), (2, 24, [.slice])], fun fs vs bs w => V120.l5 B R (V120.l1 B R (nthN fs 2)) (V120.l2 B R (V120.l1 B R (nthN fs 2)) (nthN fs 1)) (nthN fs 0) (slA (nthV vs 0)) (slL (nthV vs 0)) (slC (nthV vs 0)) (bV (nthV vs 1)) (iV (nthV vs 2)) (iV (nthV vs 3)) (slA (nthV vs 4)) (slL (nthV vs 4)) (slC (nthV vs 4)) (iV (nthV vs 5)) (nthB bs 0).blk (iV (nthV (nthB bs 0).cells 0)) (iV (nthV (nthB bs 0).cells 1)) (iV (nthV (nthB bs 0).cells 2)) (slA (nthV (nthB bs 0).cells 3)) (slL (nthV (nthB bs 0).cells 3)) (slC (nthV (nthB bs 0).cells 3)) (nthB bs 1).blk (slA (nthV (nthB bs 1).cells 0)) (slL (nthV (nthB bs 1).cells 0)) (slC (nthV (nthB bs 1).cells 0)) w⟩,
  ⟨[(6, .one (.slice)), (8, .one (.bool)), (9, .one (.int .i64)), (11, .one (.int .i64)), (12, .one (.slice)), (13, .one (.int .i64)), (14, .one (.int .i64))], [(3, 29, [.int .i64, .int .i64, .int .i64, .slice]), (2, 24, [.slice])], fun fs vs bs w => V120.b6 B R (V120.l1 B R (nthN fs 2)) (V120.l2 B R (V120.l1 B R (nthN fs 2)) (nthN fs 1)) (V120.l5 B R (V120.l1 B R (nthN fs 2)) (V120.l2 B R (V120.l1 B R (nthN fs 2)) (nthN fs 1)) (nthN fs 0)) (slA (nthV vs 0)) (slL (nthV vs 0)) (slC (nthV vs 0)) (bV (nthV vs 1)) (iV (nthV vs 2)) (iV (nthV vs 3)) (slA (nthV vs 4)) (slL (nthV vs 4)) (slC (nthV vs 4)) (iV (nthV vs 5)) (iV (nthV vs 6)) (nthB bs 0).blk (iV (nthV (nthB bs 0).cells 0)) (iV (nthV (nthB bs 0).cells 1)) (iV (nthV (nthB bs 0).cells 2)) (slA (nthV (nthB bs 0).cells 3)) (slL (nthV (nthB bs 0).cells 3)) (slC (nthV (nthB bs 0).cells 3)) (nthB bs 1).blk (slA (nthV (nthB bs 1).cells 0)) (slL (nthV (nthB bs 1).cells 0)) (slC (nthV (nthB bs 1).cells 0)) w⟩]
noncomputable def V120.h : H := .s (.z) (.s (.z) (.s (.s (.z) (.b (.l 0 (.s (.s (.z) (.c (.z) (.z))) (.s (.b (.z)) (.z)))))) (.s (.s (.z) (.b (.l 1 (.s (.s (.z) (.c (.z) (.z))) (.b (.s (.z) (.s (.z) (.b (.l 2 (.s (.s (.z) (.c (.z) (.z))) (.s (.b (.s (.s (.z) (.c (.z) (.z))) (.s (.z) (.s (.r [[0, 1, 2, 3, 4, 5, 6, 7, 8]]) (.s (.s (.z) (.c (.s (.z) (.z)) (.z))) (.s (.z) (.s (.s (.z) (.c (.s (.z) (.z)) (.z))) (.s (.z) (.cut 4 (.s (.z) (.b (.cut 3 (.s (.z) (.c (.z) (.z))) (.c (.z) (.s (.z) (.c (.z) (.s (.z) (.c (.z) (.z))))))))) (.s (.z) (.b (.l 5 (.s (.s (.z) (.c (.z) (.z))) (.s (.b (.s (.z) (.cut 6 (.s (.z) (.c (.s (.z) (.z)) (.z))) (.s (.z) (.c (.s (.z) (.z)) (.z)))))) (.z))))))))))))))) (.z)))))))))))) (.s (.z) (.z)))))
theorem V120.vc_eq (B : Nat) (R : Value → World → Prop) (a : Option Addr) (c d : Nat) (f g i : Int) (j : Option Addr) (l m : Nat) (w : World) : wpf (V120.cfg B) (V120.cuts B R) V120.code V120.h [] (postOf Try.prog B (Try.f120.results.toList) R) (argE 0 [.agg ⟨[.slice a c d]⟩, .agg ⟨[.int .i64 f, .int .i64 g, .int .i64 i, .slice j l m]⟩]) [] w = V120.vc B R a c d f g i j l m w := by kernel_rfl
theorem V120.obl (B : Nat) (R : Value → World → Prop) : oblP (V120.cfg B) (V120.cuts B R) V120.code V120.h [] (postOf Try.prog B (Try.f120.results.toList) R) := by
  have e : oblP (V120.cfg B) (V120.cuts B R) V120.code V120.h [] (postOf Try.prog B (Try.f120.results.toList) R) = (True ∧ (True ∧ ((True ∧ ((∀ (a : Option Addr) (c d : Nat) (f : Int) (g : Nat) (i j l : Int) (m : Option Addr) (n o p : Nat) (q : Option Addr) (r s : Nat) (w : World), ¬ V120.l0 B R 0 a c d f g i j l m n o p q r s w) ∧ (∀ t, ∀ (a : Option Addr) (c d : Nat) (f : Int) (g : Nat) (i j l : Int) (m : Option Addr) (n o p : Nat) (q : Option Addr) (r s : Nat) (w : World), V120.l0 B R (t + 1) a c d f g i j l m n o p q r s w → V120.l0 B R (t + 1) a c d f g i j l m n o p q r s w) ∧ ∀ t : Nat, ((True ∧ (True ∧ True)) ∧ (True ∧ True)))) ∧ ((True ∧ ((∀ (a : Option Addr) (c d : Nat) (u : Bool) (g : Nat) (i j l : Int) (m : Option Addr) (n o p : Nat) (q : Option Addr) (r s : Nat) (w : World), ¬ V120.l1 B R 0 a c d u g i j l m n o p q r s w) ∧ (∀ x, ∀ (a : Option Addr) (c d : Nat) (u : Bool) (g : Nat) (i j l : Int) (m : Option Addr) (n o p : Nat) (q : Option Addr) (r s : Nat) (w : World), V120.l1 B R (x + 1) a c d u g i j l m n o p q r s w → V120.l1 B R (x + 1) a c d u g i j l m n o p q r s w) ∧ ∀ x : Nat, ((True ∧ (True ∧ True)) ∧ (True ∧ (True ∧ ((∀ (a : Option Addr) (c d : Nat) (u : Bool) (y : Int) (g : Nat) (i j l : Int) (m : Option Addr) (n o p : Nat) (q : Option Addr) (r s : Nat) (w : World), ¬ V120.l2 B R (V120.l1 B R x) 0 a c d u y g i j l m n o p q r s w) ∧ (∀ z, ∀ (a : Option Addr) (c d : Nat) (u : Bool) (y : Int) (g : Nat) (i j l : Int) (m : Option Addr) (n o p : Nat) (q : Option Addr) (r s : Nat) (w : World), V120.l2 B R (V120.l1 B R x) (z + 1) a c d u y g i j l m n o p q r s w → V120.l2 B R (V120.l1 B R x) (z + 1) a c d u y g i j l m n o p q r s w) ∧ ∀ z : Nat, ((True ∧ (True ∧ True)) ∧ (((True ∧ (True ∧ True)) ∧ (True ∧ ((true = true) ∧ ((True ∧ ((True ∧ True) ∧ True)) ∧ (True ∧ ((True ∧ ((True ∧ True) ∧ True)) ∧ (True ∧ ((True ∧ ((True ∧ (True ∧ True)) ∧ (∀ (a : Option Addr) (c d : Nat) (u : Bool) (y A : Int) (C : Option Addr) (D E : Nat) (F : Int) (G : Bool) (I : Nat) (J L M : Int) (g : Nat) (i j l : Int) (m : Option Addr) (n o p : Nat) (q : Option Addr) (r s : Nat) (w : World), V120.b3 B R (V120.l1 B R x) (V120.l2 B R (V120.l1 B R x) z) a c d u y A C D E F G I J L M g i j l m n o p q r s w → V120.b3 B R (V120.l1 B R x) (V120.l2 B R (V120.l1 B R x) z) a c d u y A C D E F G I J L M g i j l m n o p q r s w) ∧ (True ∧ (True ∧ (True ∧ (True ∧ (True ∧ True))))))) ∧ (∀ (a : Option Addr) (c d : Nat) (u : Bool) (y A : Int) (C : Option Addr) (D E g : Nat) (i j l : Int) (m : Option Addr) (n o p : Nat) (q : Option Addr) (r s : Nat) (w : World), V120.b4 B R (V120.l1 B R x) (V120.l2 B R (V120.l1 B R x) z) a c d u y A C D E g i j l m n o p q r s w → V120.b4 B R (V120.l1 B R x) (V120.l2 B R (V120.l1 B R x) z) a c d u y A C D E g i j l m n o p q r s w) ∧ (True ∧ ((∀ (a : Option Addr) (c d : Nat) (u : Bool) (y A : Int) (C : Option Addr) (D E : Nat) (N : Int) (g : Nat) (i j l : Int) (m : Option Addr) (n o p : Nat) (q : Option Addr) (r s : Nat) (w : World), ¬ V120.l5 B R (V120.l1 B R x) (V120.l2 B R (V120.l1 B R x) z) 0 a c d u y A C D E N g i j l m n o p q r s w) ∧ (∀ O, ∀ (a : Option Addr) (c d : Nat) (u : Bool) (y A : Int) (C : Option Addr) (D E : Nat) (N : Int) (g : Nat) (i j l : Int) (m : Option Addr) (n o p : Nat) (q : Option Addr) (r s : Nat) (w : World), V120.l5 B R (V120.l1 B R x) (V120.l2 B R (V120.l1 B R x) z) (O + 1) a c d u y A C D E N g i j l m n o p q r s w → V120.l5 B R (V120.l1 B R x) (V120.l2 B R (V120.l1 B R x) z) (O + 1) a c d u y A C D E N g i j l m n o p q r s w) ∧ ∀ O : Nat, ((True ∧ (True ∧ True)) ∧ ((True ∧ ((True ∧ ((True ∧ True) ∧ True)) ∧ (∀ (a : Option Addr) (c d : Nat) (u : Bool) (y A : Int) (C : Option Addr) (D E : Nat) (N P : Int) (g : Nat) (i j l : Int) (m : Option Addr) (n o p : Nat) (q : Option Addr) (r s : Nat) (w : World), V120.b6 B R (V120.l1 B R x) (V120.l2 B R (V120.l1 B R x) z) (V120.l5 B R (V120.l1 B R x) (V120.l2 B R (V120.l1 B R x) z) O) a c d u y A C D E N P g i j l m n o p q r s w → V120.b6 B R (V120.l1 B R x) (V120.l2 B R (V120.l1 B R x) z) (V120.l5 B R (V120.l1 B R x) (V120.l2 B R (V120.l1 B R x) z) O) a c d u y A C D E N P g i j l m n o p q r s w) ∧ (True ∧ ((True ∧ True) ∧ True)))) ∧ True)))))))))))) ∧ True)))))))) ∧ (True ∧ True))))) := by kernel_rfl
  rw [e]
  exact ⟨trivial, ⟨trivial, ⟨⟨trivial, ⟨fun a c d f g i j l m n o p q r s w h => h, fun _ a c d f g i j l m n o p q r s w h => h, fun t => ⟨⟨trivial, ⟨trivial, trivial⟩⟩, ⟨trivial, trivial⟩⟩⟩⟩, ⟨⟨trivial, ⟨fun a c d u g i j l m n o p q r s w h => h, fun _ a c d u g i j l m n o p q r s w h => h, fun x => ⟨⟨trivial, ⟨trivial, trivial⟩⟩, ⟨trivial, ⟨trivial, ⟨fun a c d u y g i j l m n o p q r s w h => h, fun _ a c d u y g i j l m n o p q r s w h => h, fun z => ⟨⟨trivial, ⟨trivial, trivial⟩⟩, ⟨⟨⟨trivial, ⟨trivial, trivial⟩⟩, ⟨trivial, ⟨rfl, ⟨⟨trivial, ⟨⟨trivial, trivial⟩, trivial⟩⟩, ⟨trivial, ⟨⟨trivial, ⟨⟨trivial, trivial⟩, trivial⟩⟩, ⟨trivial, ⟨⟨trivial, ⟨⟨trivial, ⟨trivial, trivial⟩⟩, fun a c d u y A C D E F G I J L M g i j l m n o p q r s w h => h, ⟨trivial, ⟨trivial, ⟨trivial, ⟨trivial, ⟨trivial, trivial⟩⟩⟩⟩⟩⟩⟩, fun a c d u y A C D E g i j l m n o p q r s w h => h, ⟨trivial, ⟨fun a c d u y A C D E N g i j l m n o p q r s w h => h, fun _ a c d u y A C D E N g i j l m n o p q r s w h => h, fun O => ⟨⟨trivial, ⟨trivial, trivial⟩⟩, ⟨⟨trivial, ⟨⟨trivial, ⟨⟨trivial, trivial⟩, trivial⟩⟩, fun a c d u y A C D E N P g i j l m n o p q r s w h => h, ⟨trivial, ⟨⟨trivial, trivial⟩, trivial⟩⟩⟩⟩, trivial⟩⟩⟩⟩⟩⟩⟩⟩⟩⟩⟩⟩, trivial⟩⟩⟩⟩⟩⟩⟩⟩, ⟨trivial, trivial⟩⟩⟩⟩⟩
theorem V120.cfgOk (B : Nat) : CfgOk (V120.cfg B) := cfgOk_of (by kernel_rfl) (by kernel_rfl)
theorem V120.sound {a : Option Addr} {d f : Nat} {g i j : Int} {l : Option Addr} {m n : Nat} {w : World} {R : Value → World → Prop} (h : V120.vc w.heap.size R a d f g i j l m n w) : Calls Try.prog 120 ⟨[.agg ⟨[.slice a d f]⟩, .agg ⟨[.int .i64 g, .int .i64 i, .int .i64 j, .slice l m n]⟩]⟩ w fun e w' => ∃ v, e = .returned v ∧ R v w' :=
  calls_wpfP (c := V120.cfg w.heap.size) (fn := Try.f120) (x := V120.code) (V120.cuts w.heap.size R) V120.h (V120.cfgOk _) mixed Try.func120 (by kernel_rfl) (by kernel_rfl) (by kernel_rfl) rfl (V120.obl _ _) ((V120.vc_eq _ _ a d f g i j l m n _).symm ▸ h)
def V121.vc (B : Nat) (R : Value → World → Prop) (a c : Int) (w : World) : Prop :=
  if (decide (a ≥ 0)) = true
  then (Ret B w (R (.bool (decide (a < c)))))
  else (Ret B w (R (.bool false)))
noncomputable def V121.cfg (B : Nat) : Cfg := ⟨Try.prog, ⟨12, B⟩, [], hasN [], hasN []⟩
noncomputable def V121.code : Code := (Try.f121.body).getD .skip
noncomputable def V121.cuts (B : Nat) (R : Value → World → Prop) : Nat → Cut := nthC []
noncomputable def V121.h : H := .s (.z) (.s (.z) (.z))
theorem V121.vc_eq (B : Nat) (R : Value → World → Prop) (a c : Int) (w : World) : wpf (V121.cfg B) (V121.cuts B R) V121.code V121.h [] (postOf Try.prog B (Try.f121.results.toList) R) (argE 0 [.int .i64 a, .int .i64 c]) [] w = V121.vc B R a c w := by kernel_rfl
theorem V121.obl (B : Nat) (R : Value → World → Prop) : oblP (V121.cfg B) (V121.cuts B R) V121.code V121.h [] (postOf Try.prog B (Try.f121.results.toList) R) := by
  have e : oblP (V121.cfg B) (V121.cuts B R) V121.code V121.h [] (postOf Try.prog B (Try.f121.results.toList) R) = (True ∧ (True ∧ True)) := by kernel_rfl
  rw [e]
  exact ⟨trivial, ⟨trivial, trivial⟩⟩
theorem V121.cfgOk (B : Nat) : CfgOk (V121.cfg B) := cfgOk_of (by kernel_rfl) (by kernel_rfl)
theorem V121.sound {a d : Int} {w : World} {R : Value → World → Prop} (h : V121.vc w.heap.size R a d w) : Calls Try.prog 121 ⟨[.int .i64 a, .int .i64 d]⟩ w fun e w' => ∃ v, e = .returned v ∧ R v w' :=
  calls_wpfP (c := V121.cfg w.heap.size) (fn := Try.f121) (x := V121.code) (V121.cuts w.heap.size R) V121.h (V121.cfgOk _) mixed Try.func121 (by kernel_rfl) (by kernel_rfl) (by kernel_rfl) rfl (V121.obl _ _) ((V121.vc_eq _ _ a d _).symm ▸ h)
def V122.vc (B : Nat) (R : Value → World → Prop) (a c : Int) (w : World) : Prop :=
  if (decide (a ≥ 0)) = true
  then (Ret B w (R (.bool (decide (a < c)))))
  else (Ret B w (R (.bool false)))
noncomputable def V122.cfg (B : Nat) : Cfg := ⟨Try.prog, ⟨12, B⟩, [], hasN [], hasN []⟩
noncomputable def V122.code : Code := (Try.f122.body).getD .skip
noncomputable def V122.cuts (B : Nat) (R : Value → World → Prop) : Nat → Cut := nthC []
noncomputable def V122.h : H := .s (.z) (.s (.z) (.z))
theorem V122.vc_eq (B : Nat) (R : Value → World → Prop) (a c : Int) (w : World) : wpf (V122.cfg B) (V122.cuts B R) V122.code V122.h [] (postOf Try.prog B (Try.f122.results.toList) R) (argE 0 [.int .i64 a, .int .i64 c]) [] w = V122.vc B R a c w := by kernel_rfl
theorem V122.obl (B : Nat) (R : Value → World → Prop) : oblP (V122.cfg B) (V122.cuts B R) V122.code V122.h [] (postOf Try.prog B (Try.f122.results.toList) R) := by
  have e : oblP (V122.cfg B) (V122.cuts B R) V122.code V122.h [] (postOf Try.prog B (Try.f122.results.toList) R) = (True ∧ (True ∧ True)) := by kernel_rfl
  rw [e]
  exact ⟨trivial, ⟨trivial, trivial⟩⟩
theorem V122.cfgOk (B : Nat) : CfgOk (V122.cfg B) := cfgOk_of (by kernel_rfl) (by kernel_rfl)
theorem V122.sound {a d : Int} {w : World} {R : Value → World → Prop} (h : V122.vc w.heap.size R a d w) : Calls Try.prog 122 ⟨[.int .i64 a, .int .i64 d]⟩ w fun e w' => ∃ v, e = .returned v ∧ R v w' :=
  calls_wpfP (c := V122.cfg w.heap.size) (fn := Try.f122) (x := V122.code) (V122.cuts w.heap.size R) V122.h (V122.cfgOk _) mixed Try.func122 (by kernel_rfl) (by kernel_rfl) (by kernel_rfl) rfl (V122.obl _ _) ((V122.vc_eq _ _ a d _).symm ▸ h)
def V123.b0 (B : Nat) (R : Value → World → Prop) (a c : Int) (d : Bool) (f : Nat) (g i j : Int) (w : World) : Prop :=
  if d = true
  then (Ret B w (R (.slice none 0 0)))
  else (if (c == 15) = true
   then (Expo B w [f] fun l => 
    Hide [f] (l.alloc (.cells ⟨[.int .i64 i]⟩ 3)) fun m => 
    Ret B m (R (.slice (some ⟨l.heap.size, 0, none⟩) 1 1)))
   else (if (c == 16) = true
    then (Expo B w [f] fun l => 
     Hide [f] (l.alloc (.cells ⟨[.int .i64 i, .int .i64 (IntKind.wrap .i64 (a + 1))]⟩ 3)) fun m => 
     Ret B m (R (.slice (some ⟨l.heap.size, 0, none⟩) 2 2)))
    else (Expo B w [f] fun l => 
     Hide [f] (l.alloc (.cells ⟨[.int .i64 (IntKind.wrap .i64 (a + 1))]⟩ 3)) fun m => 
     Ret B m (R (.slice (some ⟨l.heap.size, 0, none⟩) 1 1)))))
def V123.vc (B : Nat) (R : Value → World → Prop) (a c d f : Int) (w : World) : Prop :=
  ∀ g : Nat, w.heap.size ≤ g →
  if (c == 18) = true
  then (V123.b0 B R a c (c == 18) g c d f w)
  else (V123.b0 B R a c (c == 20) g c d f w)
noncomputable def V123.cfg (B : Nat) : Cfg := ⟨Try.prog, ⟨25, B⟩, [], hasN [], hasN []⟩
noncomputable def V123.code : Code := (Try.f123.body).getD .skip
noncomputable def V123.cuts (B : Nat) (R : Value → World → Prop) : Nat → Cut := nthC [⟨[(0, .one (.int .i64)), (6, .one (.int .i64)), (7, .one (.bool))], [(3, 26, [.int .i64, .int .i64, .int .i64])], fun fs vs bs w => V123.b0 B R (iV (nthV vs 0)) (iV (nthV vs 1)) (bV (nthV vs 2)) (nthB bs 0).blk (iV (nthV (nthB bs 0).cells 0)) (iV (nthV (nthB bs 0).cells 1)) (iV (nthV (nthB bs 0).cells 2)) w⟩]
noncomputable def V123.h : H := .s (.z) (.s (.s (.z) (.b (.cut 0 (.s (.z) (.c (.z) (.z))) (.c (.s (.z) (.z)) (.s (.z) (.c (.s (.z) (.z)) (.s (.z) (.c (.s (.z) (.z)) (.z))))))))) (.s (.z) (.z)))
theorem V123.vc_eq (B : Nat) (R : Value → World → Prop) (a c d f : Int) (w : World) : wpf (V123.cfg B) (V123.cuts B R) V123.code V123.h [] (postOf Try.prog B (Try.f123.results.toList) R) (argE 0 [.int .i64 a, .agg ⟨[.int .i64 c, .int .i64 d, .int .i64 f]⟩]) [] w = V123.vc B R a c d f w := by kernel_rfl
theorem V123.obl (B : Nat) (R : Value → World → Prop) : oblP (V123.cfg B) (V123.cuts B R) V123.code V123.h [] (postOf Try.prog B (Try.f123.results.toList) R) := by
  have e : oblP (V123.cfg B) (V123.cuts B R) V123.code V123.h [] (postOf Try.prog B (Try.f123.results.toList) R) = (True ∧ ((True ∧ ((True ∧ (True ∧ True)) ∧ (∀ (a c : Int) (d : Bool) (f : Nat) (g i j : Int) (w : World), V123.b0 B R a c d f g i j w → V123.b0 B R a c d f g i j w) ∧ ((True ∧ True) ∧ (True ∧ ((True ∧ True) ∧ (True ∧ ((True ∧ True) ∧ True))))))) ∧ (True ∧ True))) := by kernel_rfl
  rw [e]
  exact ⟨trivial, ⟨⟨trivial, ⟨⟨trivial, ⟨trivial, trivial⟩⟩, fun a c d f g i j w h => h, ⟨⟨trivial, trivial⟩, ⟨trivial, ⟨⟨trivial, trivial⟩, ⟨trivial, ⟨⟨trivial, trivial⟩, trivial⟩⟩⟩⟩⟩⟩⟩, ⟨trivial, trivial⟩⟩⟩
theorem V123.cfgOk (B : Nat) : CfgOk (V123.cfg B) := cfgOk_of (by kernel_rfl) (by kernel_rfl)
theorem V123.sound {a d f g : Int} {w : World} {R : Value → World → Prop} (h : V123.vc w.heap.size R a d f g w) : Calls Try.prog 123 ⟨[.int .i64 a, .agg ⟨[.int .i64 d, .int .i64 f, .int .i64 g]⟩]⟩ w fun e w' => ∃ v, e = .returned v ∧ R v w' :=
  calls_wpfP (c := V123.cfg w.heap.size) (fn := Try.f123) (x := V123.code) (V123.cuts w.heap.size R) V123.h (V123.cfgOk _) mixed Try.func123 (by kernel_rfl) (by kernel_rfl) (by kernel_rfl) rfl (V123.obl _ _) ((V123.vc_eq _ _ a d f g _).symm ▸ h)
end Go.Proofs.Ytlccbaemcfjdoaa
