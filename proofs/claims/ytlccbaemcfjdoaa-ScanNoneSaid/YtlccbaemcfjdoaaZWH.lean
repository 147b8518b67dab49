/-
  What the engine makes of the loaded functions 62, 63, 64, 65, 66, 67, 69, 71, 106, 107, 108, 109, 110, 125, 126: conditions under which a call returns as told, and proofs of that.
  Conditions: none. Printed by a program of this project.
-/
import Derived.Test.YtlccbaemcfjdoaaZWD
set_option linter.unusedVariables false
set_option maxRecDepth 100000
namespace Go.Proofs.Ytlccbaemcfjdoaa
def V62.b0 (B : Nat) (R : Value → World → Prop) (a : Option Addr) (c d f : Nat) (g : Option Addr) (i j : Nat) (l : Value) (m : Option Addr) (n o : Nat) (p : Option Addr) (q r : Nat) (s : Option Addr) (t u : Nat) (x y z : Int) (A : Nat) (C : Option Addr) (D E : Nat) (F : Value) (G : Option Addr) (I J : Nat) (L : Option Addr) (M N : Nat) (O : Option Addr) (P Q : Nat) (S T U : Int) (w : World) : Prop :=
  CallK Try.prog 41 [.int .i64 16, .slice a c d] B w [f, A] fun v W => 
  ∃ (X Y : Option Addr) (Z a0 : Nat), v = .tuple ⟨[.pointer X, .slice Y Z a0]⟩ ∧
  caseP X
  (Ret B W (R (.tuple ⟨[.agg ⟨[.slice g i j, .pointer none, .slice Y Z a0, .slice p q r, .slice s t u, .int .i64 x, .int .i64 y, .int .i64 z]⟩, .bool false]⟩)))
  (fun a1 => Ret B W (R (.tuple ⟨[.agg ⟨[.slice g i j, .pointer (some a1), .slice Y Z a0, .slice p q r, .slice s t u, .int .i64 x, .int .i64 y, .int .i64 z]⟩, .bool true]⟩)))
def V62.vc (B : Nat) (R : Value → World → Prop) (a : Option Addr) (c d : Nat) (f : Option Addr) (g i : Nat) (j : Option Addr) (l m : Nat) (n o : Int) (w : World) : Prop :=
  ∀ p : Nat, w.heap.size ≤ p →
  CallK Try.prog 35 [.slice a c d] B w [p] fun v q => 
  ∃ (r : Option Addr) (s t : Nat), v = .agg ⟨[.slice r s t]⟩ ∧
  ∀ u : Nat, q.heap.size ≤ u →
  RunK Try.prog (Instr.makeSlice 50 (.int .i64 1024) (.int .i64 1024)) B q [u, p] fun x y => 
  ∃ (z : Option Addr) (A C : Nat), x = .slice z A C ∧
  RunK Try.prog (Builtin.copy_ #[50, 50] 3 ⟨[.slice z A C, .slice j l m]⟩) B y [u, p] fun D E => 
  ∃ F : Int, D = .int .i64 F ∧
  CallK Try.prog 58 [.agg ⟨[.slice r s t]⟩, .slice f g i, .int .i64 (IntKind.wrap .i64 (2 * IntKind.wrap .i64 n)), .int .i64 1024, .slice z A C] B E [u, p] fun G I => 
  ∃ (J : Option Addr) (L M : Nat) (N : Option Addr) (O P : Nat) (Q : Option Addr) (S T : Nat) (U : Int), G = .tuple ⟨[.slice J L M, .slice N O P, .slice Q S T, .int .i64 U]⟩ ∧
  if (decide ((O : Int) > 0)) = true
  then (∃ W : Addr, N = some W ∧ (0 : Int) ≤ IntKind.wrap .i64 ((O : Int) - 1) ∧ IntKind.wrap .i64 ((O : Int) - 1) < (O : Int) ∧
  ∃ X : Int, I.cell? (W.add ((IntKind.wrap .i64 ((O : Int) - 1)).toNat)) = some (.int .i64 X) ∧
  V62.b0 B R Q S T u r s t (.pointer none) none 0 0 J L M N O P (IntKind.wrap .i64 (2 * IntKind.wrap .i64 n)) (if IntKind.wrap .i64 (1024 - IntKind.wrap .i64 (2 * IntKind.wrap .i64 n)) < (if 1 > IntKind.wrap .i64 (IntKind.wrap .i64 (U - IntKind.wrap .i64 (2 * IntKind.wrap .i64 n)) + IntKind.wrap .i64 o) then 1 else IntKind.wrap .i64 (IntKind.wrap .i64 (U - IntKind.wrap .i64 (2 * IntKind.wrap .i64 n)) + IntKind.wrap .i64 o)) then IntKind.wrap .i64 (1024 - IntKind.wrap .i64 (2 * IntKind.wrap .i64 n)) else (if 1 > IntKind.wrap .i64 (IntKind.wrap .i64 (U - IntKind.wrap .i64 (2 * IntKind.wrap .i64 n)) + IntKind.wrap .i64 o) then 1 else IntKind.wrap .i64 (IntKind.wrap .i64 (U - IntKind.wrap .i64 (2 * IntKind.wrap .i64 n)) + IntKind.wrap .i64 o))) X p none 0 0 (.pointer none) none 0 0 none 0 0 none 0 0 0 0 0 I)
  else (V62.b0 B R Q S T u r s t (.pointer none) none 0 0 J L M N O P (IntKind.wrap .i64 (2 * IntKind.wrap .i64 n)) (if IntKind.wrap .i64 (1024 - IntKind.wrap .i64 (2 * IntKind.wrap .i64 n)) < (if 1 > IntKind.wrap .i64 (IntKind.wrap .i64 (U - IntKind.wrap .i64 (2 * IntKind.wrap .i64 n)) + IntKind.wrap .i64 o) then 1 else IntKind.wrap .i64 (IntKind.wrap .i64 (U - IntKind.wrap .i64 (2 * IntKind.wrap .i64 n)) + IntKind.wrap .i64 o)) then IntKind.wrap .i64 (1024 - IntKind.wrap .i64 (2 * IntKind.wrap .i64 n)) else (if 1 > IntKind.wrap .i64 (IntKind.wrap .i64 (U - IntKind.wrap .i64 (2 * IntKind.wrap .i64 n)) + IntKind.wrap .i64 o) then 1 else IntKind.wrap .i64 (IntKind.wrap .i64 (U - IntKind.wrap .i64 (2 * IntKind.wrap .i64 n)) + IntKind.wrap .i64 o))) (-1) p none 0 0 (.pointer none) none 0 0 none 0 0 none 0 0 0 0 0 I)
noncomputable def V62.cfg (B : Nat) : Cfg := ⟨Try.prog, ⟨85, B⟩, [], hasN [35, 41, 58], hasN []⟩
noncomputable def V62.code : Code := (Try.f62.body).getD .skip
noncomputable def V62.cuts (B : Nat) (R : Value → World → Prop) : Nat → Cut := nthC [⟨[(13, .one (.slice))], [(12, 101, [.slice, .any, .slice, .slice, .slice, .int .i64, .int .i64, .int .i64]), (10, 101, [.slice, .any, .slice, .slice, .slice, .int .i64, .int .i64, .int .i64])], fun fs vs bs w => V62.b0 B R (slA (nthV vs 0)) (slL (nthV vs 0)) (slC (nthV vs 0)) (nthB bs 0).blk (slA (nthV (nthB bs 0).cells 0)) (slL (nthV (nthB bs 0).cells 0)) (slC (nthV (nthB bs 0).cells 0)) (id (nthV (nthB bs 0).cells 1)) (slA (nthV (nthB bs 0).cells 2)) (slL (nthV (nthB bs 0).cells 2)) (slC (nthV (nthB bs 0).cells 2)) (slA (nthV (nthB bs 0).cells 3)) (slL (nthV (nthB bs 0).cells 3)) (slC (nthV (nthB bs 0).cells 3)) (slA (nthV (nthB bs 0).cells 4)) (slL (nthV (nthB bs 0).cells 4)) (slC (nthV (nthB bs 0).cells 4)) (iV (nthV (nthB bs 0).cells 5)) (iV (nthV (nthB bs 0).cells 6)) (iV (nthV (nthB bs 0).cells 7)) (nthB bs 1).blk (slA (nthV (nthB bs 1).cells 0)) (slL (nthV (nthB bs 1).cells 0)) (slC (nthV (nthB bs 1).cells 0)) (id (nthV (nthB bs 1).cells 1)) (slA (nthV (nthB bs 1).cells 2)) (slL (nthV (nthB bs 1).cells 2)) (slC (nthV (nthB bs 1).cells 2)) (slA (nthV (nthB bs 1).cells 3)) (slL (nthV (nthB bs 1).cells 3)) (slC (nthV (nthB bs 1).cells 3)) (slA (nthV (nthB bs 1).cells 4)) (slL (nthV (nthB bs 1).cells 4)) (slC (nthV (nthB bs 1).cells 4)) (iV (nthV (nthB bs 1).cells 5)) (iV (nthV (nthB bs 1).cells 6)) (iV (nthV (nthB bs 1).cells 7)) w⟩]
noncomputable def V62.h : H := .s (.z) (.s (.z) (.s (.z) (.s (.z) (.s (.z) (.s (.z) (.s (.z) (.s (.z) (.s (.z) (.cut 0 (.s (.z) (.c (.z) (.z))) (.s (.z) (.s (.r [[0, 1, 2, 3, 4, 5]]) (.z))))))))))))
theorem V62.vc_eq (B : Nat) (R : Value → World → Prop) (a : Option Addr) (c d : Nat) (f : Option Addr) (g i : Nat) (j : Option Addr) (l m : Nat) (n o : Int) (w : World) : wpf (V62.cfg B) (V62.cuts B R) V62.code V62.h [] (postOf Try.prog B (Try.f62.results.toList) R) (argE 0 [.slice a c d, .slice f g i, .slice j l m, .int .u8 n, .int .u8 o]) [] w = V62.vc B R a c d f g i j l m n o w := by kernel_rfl
theorem V62.obl (B : Nat) (R : Value → World → Prop) : oblP (V62.cfg B) (V62.cuts B R) V62.code V62.h [] (postOf Try.prog B (Try.f62.results.toList) R) := by
  have e : oblP (V62.cfg B) (V62.cuts B R) V62.code V62.h [] (postOf Try.prog B (Try.f62.results.toList) R) = (True ∧ (True ∧ (True ∧ (True ∧ (True ∧ (True ∧ (True ∧ (True ∧ (True ∧ ((True ∧ (True ∧ True)) ∧ (∀ (a : Option Addr) (c d f : Nat) (g : Option Addr) (i j : Nat) (l : Value) (m : Option Addr) (n o : Nat) (p : Option Addr) (q r : Nat) (s : Option Addr) (t u : Nat) (x y z : Int) (A : Nat) (C : Option Addr) (D E : Nat) (F : Value) (G : Option Addr) (I J : Nat) (L : Option Addr) (M N : Nat) (O : Option Addr) (P Q : Nat) (S T U : Int) (w : World), V62.b0 B R a c d f g i j l m n o p q r s t u x y z A C D E F G I J L M N O P Q S T U w → V62.b0 B R a c d f g i j l m n o p q r s t u x y z A C D E F G I J L M N O P Q S T U w) ∧ (True ∧ ((true = true) ∧ True)))))))))))) := by kernel_rfl
  rw [e]
  exact ⟨trivial, ⟨trivial, ⟨trivial, ⟨trivial, ⟨trivial, ⟨trivial, ⟨trivial, ⟨trivial, ⟨trivial, ⟨⟨trivial, ⟨trivial, trivial⟩⟩, fun a c d f g i j l m n o p q r s t u x y z A C D E F G I J L M N O P Q S T U w h => h, ⟨trivial, ⟨rfl, trivial⟩⟩⟩⟩⟩⟩⟩⟩⟩⟩⟩⟩
theorem V62.cfgOk (B : Nat) : CfgOk (V62.cfg B) := cfgOk_of (by kernel_rfl) (by kernel_rfl)
theorem V62.sound {a : Option Addr} {d f : Nat} {g : Option Addr} {i j : Nat} {l : Option Addr} {m n : Nat} {o p : Int} {w : World} {R : Value → World → Prop} (h : V62.vc w.heap.size R a d f g i j l m n o p w) : Calls Try.prog 62 ⟨[.slice a d f, .slice g i j, .slice l m n, .int .u8 o, .int .u8 p]⟩ w fun e w' => ∃ v, e = .returned v ∧ R v w' :=
  calls_wpfP (c := V62.cfg w.heap.size) (fn := Try.f62) (x := V62.code) (V62.cuts w.heap.size R) V62.h (V62.cfgOk _) mixed Try.func62 (by kernel_rfl) (by kernel_rfl) (by kernel_rfl) rfl (V62.obl _ _) ((V62.vc_eq _ _ a d f g i j l m n o p _).symm ▸ h)
def V63.vc (B : Nat) (R : Value → World → Prop) (a : Option Addr) (c d : Nat) (f : Int) (w : World) : Prop :=
  ∀ g : Nat, w.heap.size ≤ g →
  CallK Try.prog 106 [.agg ⟨[.slice a c d]⟩] B w [g] fun v i => 
  ∃ (j : Option Addr) (l m : Nat), v = .agg ⟨[.slice j l m]⟩ ∧
  Expo B i [g] fun n => 
  Hide [g] (n.alloc (.cells ⟨[.slice j l m, .int .i64 f, .int .i64 0, .int .i64 0, .int .i64 0, .int .i64 0, .int .i64 0, .slice none 0 0, .slice none 0 0]⟩ 162)) fun o => 
  Ret B o (R (.pointer (some (⟨n.heap.size, 0, none⟩))))
noncomputable def V63.cfg (B : Nat) : Cfg := ⟨Try.prog, ⟨10, B⟩, [9], hasN [106], hasN []⟩
noncomputable def V63.code : Code := (Try.f63.body).getD .skip
noncomputable def V63.cuts (B : Nat) (R : Value → World → Prop) : Nat → Cut := nthC []
noncomputable def V63.h : H := .s (.z) (.s (.z) (.z))
theorem V63.vc_eq (B : Nat) (R : Value → World → Prop) (a : Option Addr) (c d : Nat) (f : Int) (w : World) : wpf (V63.cfg B) (V63.cuts B R) V63.code V63.h [] (postOf Try.prog B (Try.f63.results.toList) R) (argE 0 [.agg ⟨[.slice a c d]⟩, .int .i64 f]) [] w = V63.vc B R a c d f w := by kernel_rfl
theorem V63.obl (B : Nat) (R : Value → World → Prop) : oblP (V63.cfg B) (V63.cuts B R) V63.code V63.h [] (postOf Try.prog B (Try.f63.results.toList) R) := by
  have e : oblP (V63.cfg B) (V63.cuts B R) V63.code V63.h [] (postOf Try.prog B (Try.f63.results.toList) R) = (True ∧ (True ∧ True)) := by kernel_rfl
  rw [e]
  exact ⟨trivial, ⟨trivial, trivial⟩⟩
theorem V63.cfgOk (B : Nat) : CfgOk (V63.cfg B) := cfgOk_of (by kernel_rfl) (by kernel_rfl)
theorem V63.sound {a : Option Addr} {d f : Nat} {g : Int} {w : World} {R : Value → World → Prop} (h : V63.vc w.heap.size R a d f g w) : Calls Try.prog 63 ⟨[.agg ⟨[.slice a d f]⟩, .int .i64 g]⟩ w fun e w' => ∃ v, e = .returned v ∧ R v w' :=
  calls_wpfP (c := V63.cfg w.heap.size) (fn := Try.f63) (x := V63.code) (V63.cuts w.heap.size R) V63.h (V63.cfgOk _) mixed Try.func63 (by kernel_rfl) (by kernel_rfl) (by kernel_rfl) rfl (V63.obl _ _) ((V63.vc_eq _ _ a d f g _).symm ▸ h)
def V64.b4 (B : Nat) (R : Value → World → Prop) (a : Addr) (c : Int) (w : World) : Prop :=
  ∃ d : Int, w.cell? (a.add 1) = some (.int .i64 d) ∧
  Ret B w (R (.tuple ⟨[.int .i64 c, .bool (d == (-1)), .int .i64 0]⟩))
def V64.b3 (B : Nat) (R : Value → World → Prop) (a : Addr) (c : Int) (d : Bool) (w : World) : Prop :=
  if d = true
  then (∃ f : Int, w.cell? (a.add 3) = some (.int .i64 f) ∧
  (∃ u, w.cell? ((a.add 1).add 0) = some u) ∧ w.frozen? ((a.add 1).add 0) = false ∧
  let g := w.setCell ((a.add 1).add 0) (.int .i64 f);
  (∃ u_1, g.cell? ((a.add 2).add 0) = some u_1) ∧ g.frozen? ((a.add 2).add 0) = false ∧
  let i := g.setCell ((a.add 2).add 0) (.int .i64 0);
  V64.b4 B R a c i)
  else (V64.b4 B R a c w)
def V64.b2 (B : Nat) (R : Value → World → Prop) (a : Addr) (c : Int) (w : World) : Prop :=
  ∃ d : Int, w.cell? (a.add 2) = some (.int .i64 d) ∧
  (∃ u, w.cell? ((a.add 2).add 0) = some u) ∧ w.frozen? ((a.add 2).add 0) = false ∧
  let f := w.setCell ((a.add 2).add 0) (.int .i64 (IntKind.wrap .i64 (d + 1)));
  ∃ g : Int, f.cell? (a.add 2) = some (.int .i64 g) ∧
  if (decide (g ≥ 2)) = true
  then (∃ i : Int, f.cell? (a.add 2) = some (.int .i64 i) ∧
  ∃ j : Int, f.cell? ((a.add 4).add 2) = some (.int .i64 j) ∧
  V64.b3 B R a c (IntKind.wrap .i64 (i - 2) == j) f)
  else (V64.b3 B R a c false f)
def V64.b1 (B : Nat) (R : Value → World → Prop) (a : Addr) (c d : Int) (f : Bool) (w : World) : Prop :=
  if f = true
  then (CallK Try.prog 108 [.pointer (some a), .int .i64 c, .int .i64 6] B w [] fun v g => 
   ∃ (i : Int) (j : Bool) (l : Int), v = .tuple ⟨[.int .i64 i, .bool j, .int .i64 l]⟩ ∧
   Ret B g (R (.tuple ⟨[.int .i64 i, .bool j, .int .i64 l]⟩)))
  else ((∃ u, w.cell? ((a.add 3).add 0) = some u) ∧ w.frozen? ((a.add 3).add 0) = false ∧
  let g := w.setCell ((a.add 3).add 0) (.int .i64 (IntKind.wrap .i64 (IntKind.wrap .i64 d - 1)));
  V64.b2 B R a c g)
def V64.b0 (B : Nat) (R : Value → World → Prop) (a c : Addr) (d : Int) (w : World) : Prop :=
  CallK Try.prog 57 [.pointer (some c), .int .i64 d] B w [] fun v f => 
  ∃ g i : Int, v = .tuple ⟨[.int .u64 g, .int .i64 i]⟩ ∧
  if (i != 0) = true
  then (CallK Try.prog 108 [.pointer (some a), .int .i64 d, .int .i64 i] B f [] fun j l => 
   ∃ (m : Int) (n : Bool) (o : Int), j = .tuple ⟨[.int .i64 m, .bool n, .int .i64 o]⟩ ∧
   Ret B l (R (.tuple ⟨[.int .i64 m, .bool n, .int .i64 o]⟩)))
  else (∃ p : Int, f.cell? (a.add 2) = some (.int .i64 p) ∧
  if (p == 0) = true
   then (CallK Try.prog 93 [.pointer (some c)] B f [] fun j l => 
    ∃ q : Int, j = .int .i64 q ∧
    if (decide (g > IntKind.wrap .u64 q)) = false
    then (∃ r : Int, l.cell? (a.add 1) = some (.int .i64 r) ∧
    V64.b1 B R a d g (decide (IntKind.wrap .i64 (IntKind.wrap .i64 g - 1) ≥ r)) l)
    else (V64.b1 B R a d g true l))
   else (if (p == 1) = true
    then (∃ (s : Option Addr) (t x : Nat), f.cell? ((a.add 0).add 0) = some (.slice s t x) ∧
    if (decide (g ≥ IntKind.wrap .u64 (t : Int))) = true
     then (CallK Try.prog 108 [.pointer (some a), .int .i64 d, .int .i64 6] B f [] fun j l => 
      ∃ (y : Int) (z : Bool) (A : Int), j = .tuple ⟨[.int .i64 y, .bool z, .int .i64 A]⟩ ∧
      Ret B l (R (.tuple ⟨[.int .i64 y, .bool z, .int .i64 A]⟩)))
     else (∃ (C : Option Addr) (D E : Nat), f.cell? ((a.add 0).add 0) = some (.slice C D E) ∧
     ∃ F : Addr, C = some F ∧ (0 : Int) ≤ g ∧ g < (D : Int) ∧
     ∃ G : Int, f.cell? ((F.add (g.toNat * 4)).add 0) = some (.int .i64 G) ∧
     ∃ I : Int, f.cell? ((F.add (g.toNat * 4)).add 1) = some (.int .i64 I) ∧
     ∃ J : Int, f.cell? ((F.add (g.toNat * 4)).add 2) = some (.int .i64 J) ∧
     ∃ (L : Option Addr) (M N : Nat), f.cell? ((F.add (g.toNat * 4)).add 3) = some (.slice L M N) ∧
     (∃ u, f.cell? ((a.add 4).add 0) = some u) ∧ f.frozen? ((a.add 4).add 0) = false ∧
     let l := f.setCell ((a.add 4).add 0) (.int .i64 G);
     (∃ u_1, l.cell? ((a.add 4).add 1) = some u_1) ∧ l.frozen? ((a.add 4).add 1) = false ∧
     let O := l.setCell ((a.add 4).add 1) (.int .i64 I);
     (∃ u_2, O.cell? ((a.add 4).add 2) = some u_2) ∧ O.frozen? ((a.add 4).add 2) = false ∧
     let P := O.setCell ((a.add 4).add 2) (.int .i64 J);
     (∃ u_3, P.cell? ((a.add 4).add 3) = some u_3) ∧ P.frozen? ((a.add 4).add 3) = false ∧
     let Q := P.setCell ((a.add 4).add 3) (.slice L M N);
     V64.b2 B R a d Q))
    else (if (g != 0) = true
     then (∃ (S : Option Addr) (T U : Nat), f.cell? (a.add 8) = some (.slice S T U) ∧
     Expo B f [] fun l => 
      let O := l.alloc (.cells ⟨[.int .u64 g]⟩ 51);
      RunK Try.prog (Builtin.append_ #[50, 50] 50 ⟨[.slice S T U, .slice (some ⟨l.heap.size, 0, none⟩) 1 1]⟩) B O [] fun j P => 
      ∃ (W : Option Addr) (X Y : Nat), j = .slice W X Y ∧
      (∃ u, P.cell? ((a.add 8).add 0) = some u) ∧ P.frozen? ((a.add 8).add 0) = false ∧
      let Q := P.setCell ((a.add 8).add 0) (.slice W X Y);
      V64.b2 B R a d Q)
     else (V64.b2 B R a d f))))
def V64.vc (B : Nat) (R : Value → World → Prop) (a c : Addr) (w : World) : Prop :=
  ∃ d : Int, w.cell? (a.add 1) = some (.int .i64 d) ∧
  if (d == (-1)) = true
  then (Ret B w (R (.tuple ⟨[.int .i64 (-1), .bool true, .int .i64 0]⟩)))
  else (∃ f : Int, w.cell? (a.add 1) = some (.int .i64 f) ∧
  ∃ g : Int, w.cell? (a.add 2) = some (.int .i64 g) ∧
  ∃ i : Int, w.cell? (a.add 2) = some (.int .i64 i) ∧
  if (decide (i > 1)) = true
   then (∃ j : Int, w.cell? (a.add 1) = some (.int .i64 j) ∧
   ∃ l : Int, w.cell? ((a.add 4).add 0) = some (.int .i64 l) ∧
   ∃ m : Int, w.cell? ((a.add 4).add 1) = some (.int .i64 m) ∧
   ∃ n : Int, w.cell? ((a.add 4).add 2) = some (.int .i64 n) ∧
   ∃ (o : Option Addr) (p q : Nat), w.cell? ((a.add 4).add 3) = some (.slice o p q) ∧
   ∃ r : Int, w.cell? (a.add 2) = some (.int .i64 r) ∧
   CallK Try.prog 107 [.agg ⟨[.int .i64 l, .int .i64 m, .int .i64 n, .slice o p q]⟩] B w [] fun v s => 
    ∃ t : Int, v = .int .i64 t ∧ s.cell? (a.add 2) = some (.int .i64 r) ∧ s.cell? (a.add 1) = some (.int .i64 j) ∧
    V64.b0 B R a c (IntKind.wrap .i64 (IntKind.wrap .i64 (IntKind.wrap .i64 (j + t) + r) - 2)) s)
   else (V64.b0 B R a c (IntKind.wrap .i64 (f + g)) w))
noncomputable def V64.cfg (B : Nat) : Cfg := ⟨Try.prog, ⟨180, B⟩, [], hasN [57, 93, 107, 108], hasN []⟩
noncomputable def V64.code : Code := (Try.f64.body).getD .skip
noncomputable def V64.cuts (B : Nat) (R : Value → World → Prop) : Nat → Cut := nthC [⟨[(0, .one (.ptr)), (1, .one (.ptr)), (4, .one (.int .i64))], [], fun fs vs bs w => V64.b0 B R (pV (nthV vs 0)) (pV (nthV vs 1)) (iV (nthV vs 2)) w⟩,
  ⟨[(0, .one (.ptr)), (4, .one (.int .i64)), (7, .one (.int .u64)), (98, .one (.bool))], [], fun fs vs bs w => V64.b1 B R (pV (nthV vs 0)) (iV (nthV vs 1)) (iV (nthV vs 2)) (bV (nthV vs 3)) w⟩,
  ⟨[(0, .one (.ptr)), (4, .one (.int .i64))], [], fun fs vs bs w => V64.b2 B R (pV (nthV vs 0)) (iV (nthV vs 1)) w⟩,
  ⟨[(0, .one (.ptr)), (4, .one (.int .i64)), (163, .one (.bool))], [], fun fs vs bs w => V64.b3 B R (pV (nthV vs 0)) (iV (nthV vs 1)) (bV (nthV vs 2)) w⟩,
  ⟨[(0, .one (.ptr)), (4, .one (.int .i64))], [], fun fs vs bs w => V64.b4 B R (pV (nthV vs 0)) (iV (nthV vs 1)) w⟩]
noncomputable def V64.h : H := .s (.z) (.s (.b (.s (.z) (.c (.s (.z) (.z)) (.s (.z) (.c (.s (.z) (.z)) (.z)))))) (.s (.r [[0, 1, 2, 3, 4, 5, 6, 7, 8, 9]]) (.cut 0 (.s (.z) (.c (.r [[0, 1, 2, 3, 4, 5, 6, 7, 10, 11, 12, 13, 8, 9, 14, 15, 16]]) (.z))) (.s (.z) (.s (.s (.z) (.c (.s (.z) (.z)) (.z))) (.cut 2 (.s (.z) (.b (.s (.z) (.c (.s (.cut 1 (.z) (.c (.s (.z) (.z)) (.z))) (.z)) (.s (.z) (.c (.s (.s (.z) (.c (.s (.z) (.z)) (.z))) (.z)) (.s (.z) (.c (.z) (.z))))))))) (.s (.z) (.cut 4 (.cut 3 (.r [[0, 1, 2, 3, 4, 5, 6, 7, 8, 9, 10, 11, 12, 13, 14, 15, 16, 17]]) (.c (.z) (.z))) (.s (.r [[0, 1, 2, 3, 4, 5, 6, 7, 8]]) (.z))))))))))
theorem V64.vc_eq (B : Nat) (R : Value → World → Prop) (a c : Addr) (w : World) : wpf (V64.cfg B) (V64.cuts B R) V64.code V64.h [] (postOf Try.prog B (Try.f64.results.toList) R) (argE 0 [.pointer (some a), .pointer (some c)]) [] w = V64.vc B R a c w := by kernel_rfl
theorem V64.obl (B : Nat) (R : Value → World → Prop) : oblP (V64.cfg B) (V64.cuts B R) V64.code V64.h [] (postOf Try.prog B (Try.f64.results.toList) R) := by
  have e : oblP (V64.cfg B) (V64.cuts B R) V64.code V64.h [] (postOf Try.prog B (Try.f64.results.toList) R) = (True ∧ ((True ∧ ((True ∧ True) ∧ (True ∧ ((True ∧ True) ∧ True)))) ∧ ((true = true) ∧ ((True ∧ ((true = true) ∧ True)) ∧ (∀ (a c : Addr) (d : Int) (w : World), V64.b0 B R a c d w → V64.b0 B R a c d w) ∧ (True ∧ ((True ∧ ((True ∧ True) ∧ True)) ∧ ((True ∧ (True ∧ (((True ∧ (∀ (a : Addr) (d f : Int) (g : Bool) (w : World), V64.b1 B R a d f g w → V64.b1 B R a d f g w) ∧ ((True ∧ True) ∧ True)) ∧ True) ∧ (True ∧ (((True ∧ ((True ∧ True) ∧ True)) ∧ True) ∧ (True ∧ (True ∧ True))))))) ∧ (∀ (a : Addr) (d : Int) (w : World), V64.b2 B R a d w → V64.b2 B R a d w) ∧ (True ∧ (((true = true) ∧ (∀ (a : Addr) (d : Int) (i : Bool) (w : World), V64.b3 B R a d i w → V64.b3 B R a d i w) ∧ (True ∧ True)) ∧ (∀ (a : Addr) (d : Int) (w : World), V64.b4 B R a d w → V64.b4 B R a d w) ∧ ((true = true) ∧ True)))))))))) := by kernel_rfl
  rw [e]
  exact ⟨trivial, ⟨⟨trivial, ⟨⟨trivial, trivial⟩, ⟨trivial, ⟨⟨trivial, trivial⟩, trivial⟩⟩⟩⟩, ⟨rfl, ⟨⟨trivial, ⟨rfl, trivial⟩⟩, fun a c d w h => h, ⟨trivial, ⟨⟨trivial, ⟨⟨trivial, trivial⟩, trivial⟩⟩, ⟨⟨trivial, ⟨trivial, ⟨⟨⟨trivial, fun a d f g w h => h, ⟨⟨trivial, trivial⟩, trivial⟩⟩, trivial⟩, ⟨trivial, ⟨⟨⟨trivial, ⟨⟨trivial, trivial⟩, trivial⟩⟩, trivial⟩, ⟨trivial, ⟨trivial, trivial⟩⟩⟩⟩⟩⟩⟩, fun a d w h => h, ⟨trivial, ⟨⟨rfl, fun a d i w h => h, ⟨trivial, trivial⟩⟩, fun a d w h => h, ⟨rfl, trivial⟩⟩⟩⟩⟩⟩⟩⟩⟩⟩
theorem V64.cfgOk (B : Nat) : CfgOk (V64.cfg B) := cfgOk_of (by kernel_rfl) (by kernel_rfl)
theorem V64.sound {a d : Addr} {w : World} {R : Value → World → Prop} (h : V64.vc w.heap.size R a d w) : Calls Try.prog 64 ⟨[.pointer (some a), .pointer (some d)]⟩ w fun e w' => ∃ v, e = .returned v ∧ R v w' :=
  calls_wpfP (c := V64.cfg w.heap.size) (fn := Try.f64) (x := V64.code) (V64.cuts w.heap.size R) V64.h (V64.cfgOk _) mixed Try.func64 (by kernel_rfl) (by kernel_rfl) (by kernel_rfl) rfl (V64.obl _ _) ((V64.vc_eq _ _ a d _).symm ▸ h)
def V65.b1 (B : Nat) (R : Value → World → Prop) (a c : Addr) (d : Nat) (f : Option Addr) (g i : Nat) (w : World) : Prop :=
  CallK Try.prog 70 [.pointer (some a), .int .i64 8, .int .u64 5] B w [d] fun v j => 
  ∃ l : Int, v = .int .i64 l ∧
  if (l != 0) = true
  then (Ret B j (R (.bool false)))
  else (CallK Try.prog 64 [.pointer (some c), .pointer (some a)] B j [d] fun m n => 
   ∃ (o : Int) (p : Bool) (q : Int), m = .tuple ⟨[.int .i64 o, .bool p, .int .i64 q]⟩ ∧
   CallK Try.prog 66 [.pointer (some a), .agg ⟨[.slice f g i]⟩, .int .i64 0] B n [d] fun r s => 
   ∃ (t : Option Addr) (u x : Nat) (y : Int), r = .tuple ⟨[.slice t u x, .int .i64 y]⟩ ∧
   if (o == (-1)) = true
   then (if p = true
    then (if (q == 0) = true
     then (if (y == 0) = true
      then (Expo B s [d] fun z => 
       Hide [d] (z.alloc (.cells ⟨[.int .u64 5]⟩ 51)) fun A => 
       CallK Try.prog 68 [.slice t u x, .slice (some ⟨z.heap.size, 0, none⟩) 1 1] B A [d] fun C D => 
       ∃ E : Bool, C = .bool E ∧
       Ret B D (R (.bool E)))
      else (Ret B s (R (.bool false))))
     else (Ret B s (R (.bool false))))
    else (Ret B s (R (.bool false))))
   else (Ret B s (R (.bool false))))
def V65.b0 (B : Nat) (R : Value → World → Prop) (a : Addr) (c : Nat) (d : Option Addr) (f g : Nat) (w : World) : Prop :=
  CallK Try.prog 63 [.agg ⟨[.slice d f g]⟩, .int .i64 (-1)] B w [c] fun v i => 
  ∃ j : Option Addr, v = .pointer j ∧
  caseP j
  (False)
  (fun l => V65.b1 B R a l c d f g i)
def V65.vc (B : Nat) (R : Value → World → Prop) (w : World) : Prop :=
  Expo B w [] fun a => 
  let c := a.alloc (.cells ⟨[.int .i64 1, .int .i64 0, .int .i64 0, .int .i64 18, .int .i64 0, .int .i64 0]⟩ 26);
  Expo B c [] fun d => 
  let f := d.alloc (.cells ⟨[.int .i64 0, .int .i64 2, .int .i64 2, .slice (some ⟨a.heap.size, 0, none⟩) 2 2]⟩ 29);
  ∀ g : Nat, f.heap.size ≤ g →
  CallK Try.prog 92 [.int .i64 1] B f [g] fun v i => 
  ∃ j : Option Addr, v = .pointer j ∧
  caseP j
  (False)
  (fun l => V65.b0 B R l g (some ⟨d.heap.size, 0, none⟩) 1 1 i)
noncomputable def V65.cfg (B : Nat) : Cfg := ⟨Try.prog, ⟨60, B⟩, [], hasN [63, 64, 66, 68, 70, 92], hasN []⟩
noncomputable def V65.code : Code := (Try.f65.body).getD .skip
noncomputable def V65.cuts (B : Nat) (R : Value → World → Prop) : Nat → Cut := nthC [⟨[(2, .one (.ptr))], [(1, 24, [.slice])], fun fs vs bs w => V65.b0 B R (pV (nthV vs 0)) (nthB bs 0).blk (slA (nthV (nthB bs 0).cells 0)) (slL (nthV (nthB bs 0).cells 0)) (slC (nthV (nthB bs 0).cells 0)) w⟩,
  ⟨[(2, .one (.ptr)), (3, .one (.ptr))], [(1, 24, [.slice])], fun fs vs bs w => V65.b1 B R (pV (nthV vs 0)) (pV (nthV vs 1)) (nthB bs 0).blk (slA (nthV (nthB bs 0).cells 0)) (slL (nthV (nthB bs 0).cells 0)) (slC (nthV (nthB bs 0).cells 0)) w⟩]
noncomputable def V65.h : H := .s (.z) (.s (.z) (.cut 0 (.z) (.cut 1 (.z) (.s (.s (.z) (.c (.s (.z) (.z)) (.z))) (.s (.z) (.s (.z) (.s (.z) (.z))))))))
theorem V65.vc_eq (B : Nat) (R : Value → World → Prop)  (w : World) : wpf (V65.cfg B) (V65.cuts B R) V65.code V65.h [] (postOf Try.prog B (Try.f65.results.toList) R) (argE 0 []) [] w = V65.vc B R  w := by kernel_rfl
theorem V65.obl (B : Nat) (R : Value → World → Prop) : oblP (V65.cfg B) (V65.cuts B R) V65.code V65.h [] (postOf Try.prog B (Try.f65.results.toList) R) := by
  have e : oblP (V65.cfg B) (V65.cuts B R) V65.code V65.h [] (postOf Try.prog B (Try.f65.results.toList) R) = (True ∧ (True ∧ (True ∧ (∀ (a : Addr) (c : Nat) (d : Option Addr) (f g : Nat) (w : World), V65.b0 B R a c d f g w → V65.b0 B R a c d f g w) ∧ (True ∧ (∀ (a i : Addr) (c : Nat) (d : Option Addr) (f g : Nat) (w : World), V65.b1 B R a i c d f g w → V65.b1 B R a i c d f g w) ∧ ((True ∧ ((True ∧ True) ∧ True)) ∧ (True ∧ (True ∧ (True ∧ True)))))))) := by kernel_rfl
  rw [e]
  exact ⟨trivial, ⟨trivial, ⟨trivial, fun a c d f g w h => h, ⟨trivial, fun a i c d f g w h => h, ⟨⟨trivial, ⟨⟨trivial, trivial⟩, trivial⟩⟩, ⟨trivial, ⟨trivial, ⟨trivial, trivial⟩⟩⟩⟩⟩⟩⟩⟩
theorem V65.cfgOk (B : Nat) : CfgOk (V65.cfg B) := cfgOk_of (by kernel_rfl) (by kernel_rfl)
theorem V65.sound  {w : World} {R : Value → World → Prop} (h : V65.vc w.heap.size R  w) : Calls Try.prog 65 ⟨[]⟩ w fun e w' => ∃ v, e = .returned v ∧ R v w' :=
  calls_wpfP (c := V65.cfg w.heap.size) (fn := Try.f65) (x := V65.code) (V65.cuts w.heap.size R) V65.h (V65.cfgOk _) mixed Try.func65 (by kernel_rfl) (by kernel_rfl) (by kernel_rfl) rfl (V65.obl _ _) ((V65.vc_eq _ _  _).symm ▸ h)
def V66.l1 (B : Nat) (R : Value → World → Prop) (a : Addr → Option Addr → Nat → Nat → Option Addr → Nat → Nat → Int → Int → Nat → Option Addr → Nat → Nat → World → Prop) : Nat → Addr → Option Addr → Nat → Nat → Int → Option Addr → Nat → Nat → Int → Int → Nat → Int → Int → Int → Bool → Int → Option Addr → Nat → Nat → Option Addr → Nat → Nat → Option Addr → Nat → Nat → Nat → Option Addr → Nat → Nat → World → Prop
  | 0 => fun _ _ _ _ _ _ _ _ _ _ _ _ _ _ _ _ _ _ _ _ _ _ _ _ _ _ _ _ _ _ => False
  | k + 1 => fun c d f g i j l m n o p q r s t u x y z A C D E F G I J L M w =>
    if (i == (C : Int)) = true
    then (a c d f g j l m n (IntKind.wrap .i64 (o + 1)) I J L M w)
    else (∃ N : Addr, A = some N ∧ (0 : Int) ≤ i ∧ i < (C : Int) ∧
    ∃ O : Int, w.cell? (N.add i.toNat) = some (.int .u64 O) ∧
    if (O != 0) = true
     then (∃ P : Addr, A = some P ∧ (0 : Int) ≤ i ∧ i < (C : Int) ∧
     ∃ Q : Int, w.cell? (P.add i.toNat) = some (.int .u64 Q) ∧
     Expo B w [p, I] fun S => 
      Hide [p, I] (S.alloc (.cells ⟨[.int .u64 Q]⟩ 51)) fun T => 
      RunK Try.prog (Builtin.append_ #[50, 50] 50 ⟨[.slice d f g, .slice (some ⟨S.heap.size, 0, none⟩) 1 1]⟩) B T [p, I] fun v U => 
      ∃ (W : Option Addr) (X Y : Nat), v = .slice W X Y ∧ (V66.l1 B R a k) c W X Y (IntKind.wrap .i64 (i + 1)) j l m n o p q r s t u x y z A C D E F G I J L M U)
     else ((V66.l1 B R a k) c d f g (IntKind.wrap .i64 (i + 1)) j l m n o p q r s t u x y z A C D E F G I J L M w))
def V66.l0 (B : Nat) (R : Value → World → Prop) : Nat → Addr → Option Addr → Nat → Nat → Option Addr → Nat → Nat → Int → Int → Nat → Option Addr → Nat → Nat → World → Prop
  | 0 => fun _ _ _ _ _ _ _ _ _ _ _ _ _ _ => False
  | k + 1 => fun a c d f g i j l m n o p q w =>
    if (decide (m < l)) = true
    then (∃ r : Addr, g = some r ∧ (0 : Int) ≤ m ∧ m < (i : Int) ∧
    ∃ s : Int, w.cell? (r.add m.toNat) = some (.int .i64 s) ∧
    CallK Try.prog 54 [.pointer (some a), .agg ⟨[.slice o p q]⟩, .int .i64 s] B w [n] fun v t => 
     ∃ (u x y : Int) (z : Bool) (A : Int) (C : Option Addr) (D E : Nat) (F : Option Addr) (G I : Nat) (J : Option Addr) (L M : Nat) (N O : Int), v = .tuple ⟨[.agg ⟨[.int .i64 u, .int .i64 x, .int .i64 y, .bool z, .int .u64 A, .slice C D E, .slice F G I, .slice J L M]⟩, .int .i64 N, .int .i64 O]⟩ ∧
     ∀ P : Nat, t.heap.size ≤ P →
     if (O != 0) = true
     then (Ret B t (R (.tuple ⟨[.slice none 0 0, .int .i64 O]⟩)))
     else (∃ Q : Addr, o = some Q ∧ (0 : Int) ≤ u ∧ u < (p : Int) ∧
     ∃ S : Int, t.cell? ((Q.add (u.toNat * 4)).add 0) = some (.int .i64 S) ∧
     ∃ T : Int, t.cell? ((Q.add (u.toNat * 4)).add 1) = some (.int .i64 T) ∧
     ∃ U : Int, t.cell? ((Q.add (u.toNat * 4)).add 2) = some (.int .i64 U) ∧
     ∃ (W : Option Addr) (X Y : Nat), t.cell? ((Q.add (u.toNat * 4)).add 3) = some (.slice W X Y) ∧
     ∀ Z : Nat, t.heap.size ≤ Z →
     ∃ a1, V66.l1 B R (V66.l0 B R k) a1 a c d f (IntKind.wrap .i64 ((G : Int) - U)) g i j l m P u x y z A C D E F G I J L M n o p q t))
    else (Ret B w (R (.tuple ⟨[.slice c d f, .int .i64 0]⟩)))
def V66.vc (B : Nat) (R : Value → World → Prop) (a : Addr) (c : Option Addr) (d f : Nat) (g : Int) (w : World) : Prop :=
  ∀ i : Nat, w.heap.size ≤ i →
  CallK Try.prog 59 [.pointer (some a), .agg ⟨[.slice c d f]⟩, .int .i64 g] B w [i] fun v j => 
  ∃ (l : Option Addr) (m n : Nat) (o : Int), v = .tuple ⟨[.slice l m n, .int .i64 o]⟩ ∧
  if (o != 0) = true
  then (Ret B j (R (.tuple ⟨[.slice none 0 0, .int .i64 o]⟩)))
  else (∃ p, V66.l0 B R p a none 0 0 l m n (m : Int) 0 i c d f j)
noncomputable def V66.cfg (B : Nat) : Cfg := ⟨Try.prog, ⟨82, B⟩, [], hasN [54, 59], hasN []⟩
noncomputable def V66.code : Code := (Try.f66.body).getD .skip
noncomputable def V66.cuts (B : Nat) (R : Value → World → Prop) : Nat → Cut := nthC [⟨[(0, .one (.ptr)), (10, .one (.slice)), (28, .one (.slice)), (29, .one (.int .i64)), (30, .one (.int .i64))], [(4, 24, [.slice])], fun fs vs bs w => V66.l0 B R (nthN fs 0) (pV (nthV vs 0)) (slA (nthV vs 1)) (slL (nthV vs 1)) (slC (nthV vs 1)) (slA (nthV vs 2)) (slL (nthV vs 2)) (slC (nthV vs 2)) (iV (nthV vs 3)) (iV (nthV vs 4)) (nthB bs 0).blk (slA (nthV (nthB bs 0).cells 0)) (slL (nthV (nthB bs 0).cells 0)) (slC (nthV (nthB bs 0).cells 0)) w⟩,
  ⟨[(0, .one (.ptr)), (10, .one (.slice)), (17, .one (.int .i64)), (28, .one (.slice)), (29, .one (.int .i64)), (30, .one (.int .i64))], [(13, 67, [.int .i64, .int .i64, .int .i64, .bool, .int .u64, .slice, .slice, .slice]), (4, 24, [.slice])], fun fs vs bs w => V66.l1 B R (V66.l0 B R (nthN fs 1)) (nthN fs 0) (pV (nthV vs 0)) (slA (nthV vs 1)) (slL (nthV vs 1)) (slC (nthV vs 1)) (iV (nthV vs 2)) (slA (nthV vs 3)) (slL (nthV vs 3)) (slC (nthV vs 3)) (iV (nthV vs 4)) (iV (nthV vs 5)) (nthB bs 0).blk (iV (nthV (nthB bs 0).cells 0)) (iV (nthV (nthB bs 0).cells 1)) (iV (nthV (nthB bs 0).cells 2)) (bV (nthV (nthB bs 0).cells 3)) (iV (nthV (nthB bs 0).cells 4)) (slA (nthV (nthB bs 0).cells 5)) (slL (nthV (nthB bs 0).cells 5)) (slC (nthV (nthB bs 0).cells 5)) (slA (nthV (nthB bs 0).cells 6)) (slL (nthV (nthB bs 0).cells 6)) (slC (nthV (nthB bs 0).cells 6)) (slA (nthV (nthB bs 0).cells 7)) (slL (nthV (nthB bs 0).cells 7)) (slC (nthV (nthB bs 0).cells 7)) (nthB bs 1).blk (slA (nthV (nthB bs 1).cells 0)) (slL (nthV (nthB bs 1).cells 0)) (slC (nthV (nthB bs 1).cells 0)) w⟩]
noncomputable def V66.h : H := .s (.z) (.b (.s (.z) (.s (.s (.z) (.c (.s (.z) (.z)) (.z))) (.s (.z) (.s (.z) (.s (.s (.z) (.b (.l 0 (.s (.z) (.s (.c (.z) (.z)) (.s (.b (.s (.z) (.s (.z) (.s (.s (.z) (.c (.s (.z) (.z)) (.z))) (.s (.z) (.s (.z) (.b (.l 1 (.s (.b (.b (.s (.z) (.c (.z) (.s (.z) (.c (.z) (.z))))))) (.z)))))))))) (.z))))))) (.s (.z) (.z))))))))
theorem V66.vc_eq (B : Nat) (R : Value → World → Prop) (a : Addr) (c : Option Addr) (d f : Nat) (g : Int) (w : World) : wpf (V66.cfg B) (V66.cuts B R) V66.code V66.h [] (postOf Try.prog B (Try.f66.results.toList) R) (argE 0 [.pointer (some a), .agg ⟨[.slice c d f]⟩, .int .i64 g]) [] w = V66.vc B R a c d f g w := by kernel_rfl
theorem V66.obl (B : Nat) (R : Value → World → Prop) : oblP (V66.cfg B) (V66.cuts B R) V66.code V66.h [] (postOf Try.prog B (Try.f66.results.toList) R) := by
  have e : oblP (V66.cfg B) (V66.cuts B R) V66.code V66.h [] (postOf Try.prog B (Try.f66.results.toList) R) = (True ∧ (True ∧ ((True ∧ ((True ∧ True) ∧ True)) ∧ (True ∧ (True ∧ ((True ∧ ((∀ (a : Addr) (c : Option Addr) (d f : Nat) (g : Option Addr) (i j : Nat) (l m : Int) (n : Nat) (o : Option Addr) (p q : Nat) (w : World), ¬ V66.l0 B R 0 a c d f g i j l m n o p q w) ∧ (∀ r, ∀ (a : Addr) (c : Option Addr) (d f : Nat) (g : Option Addr) (i j : Nat) (l m : Int) (n : Nat) (o : Option Addr) (p q : Nat) (w : World), V66.l0 B R (r + 1) a c d f g i j l m n o p q w → V66.l0 B R (r + 1) a c d f g i j l m n o p q w) ∧ ∀ r : Nat, (True ∧ ((True ∧ True) ∧ ((True ∧ (True ∧ ((True ∧ ((True ∧ True) ∧ True)) ∧ (True ∧ (True ∧ ((∀ (a : Addr) (c : Option Addr) (d f : Nat) (s : Int) (g : Option Addr) (i j : Nat) (l m : Int) (t : Nat) (u x y : Int) (z : Bool) (A : Int) (C : Option Addr) (D E : Nat) (F : Option Addr) (G I : Nat) (J : Option Addr) (L M n : Nat) (o : Option Addr) (p q : Nat) (w : World), ¬ V66.l1 B R (V66.l0 B R r) 0 a c d f s g i j l m t u x y z A C D E F G I J L M n o p q w) ∧ (∀ N, ∀ (a : Addr) (c : Option Addr) (d f : Nat) (s : Int) (g : Option Addr) (i j : Nat) (l m : Int) (t : Nat) (u x y : Int) (z : Bool) (A : Int) (C : Option Addr) (D E : Nat) (F : Option Addr) (G I : Nat) (J : Option Addr) (L M n : Nat) (o : Option Addr) (p q : Nat) (w : World), V66.l1 B R (V66.l0 B R r) (N + 1) a c d f s g i j l m t u x y z A C D E F G I J L M n o p q w → V66.l1 B R (V66.l0 B R r) (N + 1) a c d f s g i j l m t u x y z A C D E F G I J L M n o p q w) ∧ ∀ N : Nat, ((True ∧ (True ∧ (True ∧ (True ∧ True)))) ∧ True))))))) ∧ True))))) ∧ (True ∧ True))))))) := by kernel_rfl
  rw [e]
  exact ⟨trivial, ⟨trivial, ⟨⟨trivial, ⟨⟨trivial, trivial⟩, trivial⟩⟩, ⟨trivial, ⟨trivial, ⟨⟨trivial, ⟨fun a c d f g i j l m n o p q w h => h, fun _ a c d f g i j l m n o p q w h => h, fun r => ⟨trivial, ⟨⟨trivial, trivial⟩, ⟨⟨trivial, ⟨trivial, ⟨⟨trivial, ⟨⟨trivial, trivial⟩, trivial⟩⟩, ⟨trivial, ⟨trivial, ⟨fun a c d f s g i j l m t u x y z A C D E F G I J L M n o p q w h => h, fun _ a c d f s g i j l m t u x y z A C D E F G I J L M n o p q w h => h, fun N => ⟨⟨trivial, ⟨trivial, ⟨trivial, ⟨trivial, trivial⟩⟩⟩⟩, trivial⟩⟩⟩⟩⟩⟩⟩, trivial⟩⟩⟩⟩⟩, ⟨trivial, trivial⟩⟩⟩⟩⟩⟩⟩
theorem V66.cfgOk (B : Nat) : CfgOk (V66.cfg B) := cfgOk_of (by kernel_rfl) (by kernel_rfl)
theorem V66.sound {a : Addr} {d : Option Addr} {f g : Nat} {i : Int} {w : World} {R : Value → World → Prop} (h : V66.vc w.heap.size R a d f g i w) : Calls Try.prog 66 ⟨[.pointer (some a), .agg ⟨[.slice d f g]⟩, .int .i64 i]⟩ w fun e w' => ∃ v, e = .returned v ∧ R v w' :=
  calls_wpfP (c := V66.cfg w.heap.size) (fn := Try.f66) (x := V66.code) (V66.cuts w.heap.size R) V66.h (V66.cfgOk _) mixed Try.func66 (by kernel_rfl) (by kernel_rfl) (by kernel_rfl) rfl (V66.obl _ _) ((V66.vc_eq _ _ a d f g i _).symm ▸ h)
def V106.l0 (B : Nat) (R : Value → World → Prop) : Nat → Option Addr → Nat → Nat → Int → Int → Nat → Option Addr → Nat → Nat → Nat → Option Addr → Nat → Nat → World → Prop
  | 0 => fun _ _ _ _ _ _ _ _ _ _ _ _ _ _ => False
  | k + 1 => fun a c d f g i j l m n o p q w =>
    if (decide (g < f)) = true
    then (∃ r : Addr, a = some r ∧ (0 : Int) ≤ g ∧ g < (c : Int) ∧
    ∃ s : Int, w.cell? ((r.add (g.toNat * 4)).add 0) = some (.int .i64 s) ∧
    ∃ t : Int, w.cell? ((r.add (g.toNat * 4)).add 1) = some (.int .i64 t) ∧
    ∃ x : Int, w.cell? ((r.add (g.toNat * 4)).add 2) = some (.int .i64 x) ∧
    ∃ (y : Option Addr) (z A : Nat), w.cell? ((r.add (g.toNat * 4)).add 3) = some (.slice y z A) ∧
    ∀ C : Nat, w.heap.size ≤ C →
    CallK Try.prog 126 [.slice y z A] B w [C, i, n] fun v D => 
     ∃ (E : Option Addr) (F G : Nat), v = .slice E F G ∧
     ∃ I : Addr, o = some I ∧ (0 : Int) ≤ g ∧ g < (p : Int) ∧
     (∃ u, D.cell? (((I.add (g.toNat * 4)).add 3).add 0) = some u) ∧ D.frozen? (((I.add (g.toNat * 4)).add 3).add 0) = false ∧
     let J := D.setCell (((I.add (g.toNat * 4)).add 3).add 0) (.slice E F G);
     (V106.l0 B R k) a c d f (IntKind.wrap .i64 (g + 1)) i j l m n o p q J)
    else (Ret B w (R (.agg ⟨[.slice o p q]⟩)))
def V106.vc (B : Nat) (R : Value → World → Prop) (a : Option Addr) (c d : Nat) (w : World) : Prop :=
  ∀ f : Nat, w.heap.size ≤ f →
  ∀ g : Nat, w.heap.size ≤ g →
  CallK Try.prog 125 [.slice a c d] B w [g, f] fun v i => 
  ∃ (j : Option Addr) (l m : Nat), v = .slice j l m ∧
  ∃ n, V106.l0 B R n j l m (l : Int) 0 g none 0 0 f j l m i
noncomputable def V106.cfg (B : Nat) : Cfg := ⟨Try.prog, ⟨27, B⟩, [], hasN [125, 126], hasN []⟩
noncomputable def V106.code : Code := (Try.f106.body).getD .skip
noncomputable def V106.cuts (B : Nat) (R : Value → World → Prop) : Nat → Cut := nthC [⟨[(10, .one (.slice)), (11, .one (.int .i64)), (12, .one (.int .i64))], [(2, 24, [.slice]), (1, 24, [.slice])], fun fs vs bs w => V106.l0 B R (nthN fs 0) (slA (nthV vs 0)) (slL (nthV vs 0)) (slC (nthV vs 0)) (iV (nthV vs 1)) (iV (nthV vs 2)) (nthB bs 0).blk (slA (nthV (nthB bs 0).cells 0)) (slL (nthV (nthB bs 0).cells 0)) (slC (nthV (nthB bs 0).cells 0)) (nthB bs 1).blk (slA (nthV (nthB bs 1).cells 0)) (slL (nthV (nthB bs 1).cells 0)) (slC (nthV (nthB bs 1).cells 0)) w⟩]
noncomputable def V106.h : H := .s (.z) (.s (.z) (.s (.s (.z) (.b (.l 0 (.s (.z) (.s (.c (.z) (.z)) (.s (.b (.s (.z) (.r [[0, 1, 2, 3, 4, 5, 6, 7, 8]]))) (.z))))))) (.s (.z) (.z))))
theorem V106.vc_eq (B : Nat) (R : Value → World → Prop) (a : Option Addr) (c d : Nat) (w : World) : wpf (V106.cfg B) (V106.cuts B R) V106.code V106.h [] (postOf Try.prog B (Try.f106.results.toList) R) (argE 0 [.agg ⟨[.slice a c d]⟩]) [] w = V106.vc B R a c d w := by kernel_rfl
theorem V106.obl (B : Nat) (R : Value → World → Prop) : oblP (V106.cfg B) (V106.cuts B R) V106.code V106.h [] (postOf Try.prog B (Try.f106.results.toList) R) := by
  have e : oblP (V106.cfg B) (V106.cuts B R) V106.code V106.h [] (postOf Try.prog B (Try.f106.results.toList) R) = (True ∧ (True ∧ ((True ∧ ((∀ (a : Option Addr) (c d : Nat) (f g : Int) (i : Nat) (j : Option Addr) (l m n : Nat) (o : Option Addr) (p q : Nat) (w : World), ¬ V106.l0 B R 0 a c d f g i j l m n o p q w) ∧ (∀ r, ∀ (a : Option Addr) (c d : Nat) (f g : Int) (i : Nat) (j : Option Addr) (l m n : Nat) (o : Option Addr) (p q : Nat) (w : World), V106.l0 B R (r + 1) a c d f g i j l m n o p q w → V106.l0 B R (r + 1) a c d f g i j l m n o p q w) ∧ ∀ r : Nat, (True ∧ ((True ∧ True) ∧ ((True ∧ (true = true)) ∧ True))))) ∧ (True ∧ True)))) := by kernel_rfl
  rw [e]
  exact ⟨trivial, ⟨trivial, ⟨⟨trivial, ⟨fun a c d f g i j l m n o p q w h => h, fun _ a c d f g i j l m n o p q w h => h, fun r => ⟨trivial, ⟨⟨trivial, trivial⟩, ⟨⟨trivial, rfl⟩, trivial⟩⟩⟩⟩⟩, ⟨trivial, trivial⟩⟩⟩⟩
theorem V106.cfgOk (B : Nat) : CfgOk (V106.cfg B) := cfgOk_of (by kernel_rfl) (by kernel_rfl)
theorem V106.sound {a : Option Addr} {d f : Nat} {w : World} {R : Value → World → Prop} (h : V106.vc w.heap.size R a d f w) : Calls Try.prog 106 ⟨[.agg ⟨[.slice a d f]⟩]⟩ w fun e w' => ∃ v, e = .returned v ∧ R v w' :=
  calls_wpfP (c := V106.cfg w.heap.size) (fn := Try.f106) (x := V106.code) (V106.cuts w.heap.size R) V106.h (V106.cfgOk _) mixed Try.func106 (by kernel_rfl) (by kernel_rfl) (by kernel_rfl) rfl (V106.obl _ _) ((V106.vc_eq _ _ a d f _).symm ▸ h)
def V107.vc (B : Nat) (R : Value → World → Prop) (a c d : Int) (f : Option Addr) (g i : Nat) (w : World) : Prop :=
  ∀ j : Nat, w.heap.size ≤ j →
  CallK Try.prog 32 [.agg ⟨[.int .i64 a, .int .i64 c, .int .i64 d, .slice f g i]⟩] B w [j] fun v l => 
  ∃ m : Int, v = .int .i64 m ∧
  Ret B l (R (.int .i64 (IntKind.wrap .i64 (IntKind.wrap .i64 (m - 8) - d))))
noncomputable def V107.cfg (B : Nat) : Cfg := ⟨Try.prog, ⟨9, B⟩, [], hasN [32], hasN []⟩
noncomputable def V107.code : Code := (Try.f107.body).getD .skip
noncomputable def V107.cuts (B : Nat) (R : Value → World → Prop) : Nat → Cut := nthC []
noncomputable def V107.h : H := .s (.z) (.s (.r [[0, 3, 4, 1, 2, 5, 6]]) (.z))
theorem V107.vc_eq (B : Nat) (R : Value → World → Prop) (a c d : Int) (f : Option Addr) (g i : Nat) (w : World) : wpf (V107.cfg B) (V107.cuts B R) V107.code V107.h [] (postOf Try.prog B (Try.f107.results.toList) R) (argE 0 [.agg ⟨[.int .i64 a, .int .i64 c, .int .i64 d, .slice f g i]⟩]) [] w = V107.vc B R a c d f g i w := by kernel_rfl
theorem V107.obl (B : Nat) (R : Value → World → Prop) : oblP (V107.cfg B) (V107.cuts B R) V107.code V107.h [] (postOf Try.prog B (Try.f107.results.toList) R) := by
  have e : oblP (V107.cfg B) (V107.cuts B R) V107.code V107.h [] (postOf Try.prog B (Try.f107.results.toList) R) = (True ∧ ((true = true) ∧ True)) := by kernel_rfl
  rw [e]
  exact ⟨trivial, ⟨rfl, trivial⟩⟩
theorem V107.cfgOk (B : Nat) : CfgOk (V107.cfg B) := cfgOk_of (by kernel_rfl) (by kernel_rfl)
theorem V107.sound {a d f : Int} {g : Option Addr} {i j : Nat} {w : World} {R : Value → World → Prop} (h : V107.vc w.heap.size R a d f g i j w) : Calls Try.prog 107 ⟨[.agg ⟨[.int .i64 a, .int .i64 d, .int .i64 f, .slice g i j]⟩]⟩ w fun e w' => ∃ v, e = .returned v ∧ R v w' :=
  calls_wpfP (c := V107.cfg w.heap.size) (fn := Try.f107) (x := V107.code) (V107.cuts w.heap.size R) V107.h (V107.cfgOk _) mixed Try.func107 (by kernel_rfl) (by kernel_rfl) (by kernel_rfl) rfl (V107.obl _ _) ((V107.vc_eq _ _ a d f g i j _).symm ▸ h)
def V108.vc (B : Nat) (R : Value → World → Prop) (a : Addr) (c d : Int) (w : World) : Prop :=
  (∃ u, w.cell? ((a.add 1).add 0) = some u) ∧ w.frozen? ((a.add 1).add 0) = false ∧
  let f := w.setCell ((a.add 1).add 0) (.int .i64 (-1));
  (∃ u_1, f.cell? ((a.add 8).add 0) = some u_1) ∧ f.frozen? ((a.add 8).add 0) = false ∧
  let g := f.setCell ((a.add 8).add 0) (.slice none 0 0);
  Ret B g (R (.tuple ⟨[.int .i64 c, .bool true, .int .i64 d]⟩))
noncomputable def V108.cfg (B : Nat) : Cfg := ⟨Try.prog, ⟨17, B⟩, [], hasN [], hasN []⟩
noncomputable def V108.code : Code := (Try.f108.body).getD .skip
noncomputable def V108.cuts (B : Nat) (R : Value → World → Prop) : Nat → Cut := nthC []
noncomputable def V108.h : H := .s (.z) (.s (.z) (.s (.z) (.z)))
theorem V108.vc_eq (B : Nat) (R : Value → World → Prop) (a : Addr) (c d : Int) (w : World) : wpf (V108.cfg B) (V108.cuts B R) V108.code V108.h [] (postOf Try.prog B (Try.f108.results.toList) R) (argE 0 [.pointer (some a), .int .i64 c, .int .i64 d]) [] w = V108.vc B R a c d w := by kernel_rfl
theorem V108.obl (B : Nat) (R : Value → World → Prop) : oblP (V108.cfg B) (V108.cuts B R) V108.code V108.h [] (postOf Try.prog B (Try.f108.results.toList) R) := by
  have e : oblP (V108.cfg B) (V108.cuts B R) V108.code V108.h [] (postOf Try.prog B (Try.f108.results.toList) R) = (True ∧ (True ∧ (True ∧ True))) := by kernel_rfl
  rw [e]
  exact ⟨trivial, ⟨trivial, ⟨trivial, trivial⟩⟩⟩
theorem V108.cfgOk (B : Nat) : CfgOk (V108.cfg B) := cfgOk_of (by kernel_rfl) (by kernel_rfl)
theorem V108.sound {a : Addr} {d f : Int} {w : World} {R : Value → World → Prop} (h : V108.vc w.heap.size R a d f w) : Calls Try.prog 108 ⟨[.pointer (some a), .int .i64 d, .int .i64 f]⟩ w fun e w' => ∃ v, e = .returned v ∧ R v w' :=
  calls_wpfP (c := V108.cfg w.heap.size) (fn := Try.f108) (x := V108.code) (V108.cuts w.heap.size R) V108.h (V108.cfgOk _) mixed Try.func108 (by kernel_rfl) (by kernel_rfl) (by kernel_rfl) rfl (V108.obl _ _) ((V108.vc_eq _ _ a d f _).symm ▸ h)
def V125.vc (B : Nat) (R : Value → World → Prop) (a : Option Addr) (c d : Nat) (w : World) : Prop :=
  if (Option.isNone a) = true
  then (Ret B w (R (.slice none 0 0)))
  else (Expo B w [] fun f => 
   let g := f.alloc (.cells ⟨[]⟩ 29);
   RunK Try.prog (Builtin.append_ #[22, 22] 22 ⟨[.slice (some ⟨f.heap.size, 0, none⟩) 0 0, .slice a c d]⟩) B g [] fun v i => 
   ∃ (j : Option Addr) (l m : Nat), v = .slice j l m ∧
   Ret B i (R (.slice j l m)))
noncomputable def V125.cfg (B : Nat) : Cfg := ⟨Try.prog, ⟨8, B⟩, [], hasN [], hasN []⟩
noncomputable def V125.code : Code := (Try.f125.body).getD .skip
noncomputable def V125.cuts (B : Nat) (R : Value → World → Prop) : Nat → Cut := nthC []
noncomputable def V125.h : H := .s (.z) (.s (.s (.z) (.c (.s (.z) (.z)) (.z))) (.s (.z) (.z)))
theorem V125.vc_eq (B : Nat) (R : Value → World → Prop) (a : Option Addr) (c d : Nat) (w : World) : wpf (V125.cfg B) (V125.cuts B R) V125.code V125.h [] (postOf Try.prog B (Try.f125.results.toList) R) (argE 0 [.slice a c d]) [] w = V125.vc B R a c d w := by kernel_rfl
theorem V125.obl (B : Nat) (R : Value → World → Prop) : oblP (V125.cfg B) (V125.cuts B R) V125.code V125.h [] (postOf Try.prog B (Try.f125.results.toList) R) := by
  have e : oblP (V125.cfg B) (V125.cuts B R) V125.code V125.h [] (postOf Try.prog B (Try.f125.results.toList) R) = (True ∧ ((True ∧ ((True ∧ True) ∧ True)) ∧ (True ∧ True))) := by kernel_rfl
  rw [e]
  exact ⟨trivial, ⟨⟨trivial, ⟨⟨trivial, trivial⟩, trivial⟩⟩, ⟨trivial, trivial⟩⟩⟩
theorem V125.cfgOk (B : Nat) : CfgOk (V125.cfg B) := cfgOk_of (by kernel_rfl) (by kernel_rfl)
theorem V125.sound {a : Option Addr} {d f : Nat} {w : World} {R : Value → World → Prop} (h : V125.vc w.heap.size R a d f w) : Calls Try.prog 125 ⟨[.slice a d f]⟩ w fun e w' => ∃ v, e = .returned v ∧ R v w' :=
  calls_wpfP (c := V125.cfg w.heap.size) (fn := Try.f125) (x := V125.code) (V125.cuts w.heap.size R) V125.h (V125.cfgOk _) mixed Try.func125 (by kernel_rfl) (by kernel_rfl) (by kernel_rfl) rfl (V125.obl _ _) ((V125.vc_eq _ _ a d f _).symm ▸ h)
def V126.vc (B : Nat) (R : Value → World → Prop) (a : Option Addr) (c d : Nat) (w : World) : Prop :=
  if (Option.isNone a) = true
  then (Ret B w (R (.slice none 0 0)))
  else (Expo B w [] fun f => 
   let g := f.alloc (.cells ⟨[]⟩ 26);
   RunK Try.prog (Builtin.append_ #[27, 27] 27 ⟨[.slice (some ⟨f.heap.size, 0, none⟩) 0 0, .slice a c d]⟩) B g [] fun v i => 
   ∃ (j : Option Addr) (l m : Nat), v = .slice j l m ∧
   Ret B i (R (.slice j l m)))
noncomputable def V126.cfg (B : Nat) : Cfg := ⟨Try.prog, ⟨8, B⟩, [], hasN [], hasN []⟩
noncomputable def V126.code : Code := (Try.f126.body).getD .skip
noncomputable def V126.cuts (B : Nat) (R : Value → World → Prop) : Nat → Cut := nthC []
noncomputable def V126.h : H := .s (.z) (.s (.s (.z) (.c (.s (.z) (.z)) (.z))) (.s (.z) (.z)))
theorem V126.vc_eq (B : Nat) (R : Value → World → Prop) (a : Option Addr) (c d : Nat) (w : World) : wpf (V126.cfg B) (V126.cuts B R) V126.code V126.h [] (postOf Try.prog B (Try.f126.results.toList) R) (argE 0 [.slice a c d]) [] w = V126.vc B R a c d w := by kernel_rfl
theorem V126.obl (B : Nat) (R : Value → World → Prop) : oblP (V126.cfg B) (V126.cuts B R) V126.code V126.h [] (postOf Try.prog B (Try.f126.results.toList) R) := by
  have e : oblP (V126.cfg B) (V126.cuts B R) V126.code V126.h [] (postOf Try.prog B (Try.f126.results.toList) R) = (True ∧ ((True ∧ ((True ∧ True) ∧ True)) ∧ (True ∧ True))) := by kernel_rfl
  rw [e]
  exact ⟨trivial, ⟨⟨trivial, ⟨⟨trivial, trivial⟩, trivial⟩⟩, ⟨trivial, trivial⟩⟩⟩
theorem V126.cfgOk (B : Nat) : CfgOk (V126.cfg B) := cfgOk_of (by kernel_rfl) (by kernel_rfl)
theorem V126.sound {a : Option Addr} {d f : Nat} {w : World} {R : Value → World → Prop} (h : V126.vc w.heap.size R a d f w) : Calls Try.prog 126 ⟨[.slice a d f]⟩ w fun e w' => ∃ v, e = .returned v ∧ R v w' :=
  calls_wpfP (c := V126.cfg w.heap.size) (fn := Try.f126) (x := V126.code) (V126.cuts w.heap.size R) V126.h (V126.cfgOk _) mixed Try.func126 (by kernel_rfl) (by kernel_rfl) (by kernel_rfl) rfl (V126.obl _ _) ((V126.vc_eq _ _ a d f _).symm ▸ h)
end Go.Proofs.Ytlccbaemcfjdoaa
