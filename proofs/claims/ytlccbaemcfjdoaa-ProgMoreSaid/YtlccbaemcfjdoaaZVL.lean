/-
  What the engine makes of the loaded functions 4, 6, 7, 8, 39: conditions under which a call returns as told, and proofs of that.
  Conditions: none. Printed by a program of this project.
-/
import Derived.Test.YtlccbaemcfjdoaaZVX
set_option linter.unusedVariables false
set_option maxRecDepth 100000
namespace Go.Proofs.Ytlccbaemcfjdoaa
def V4.b1 (B : Nat) (R : Value → World → Prop) (a c d : Int) (f : Nat) (g i j : Int) (l : Option Addr) (m n : Nat) (w : World) : Prop :=
  CallK Try.prog 32 [.agg ⟨[.int .i64 g, .int .i64 i, .int .i64 j, .slice l m n]⟩] B w [f] fun v o => 
  ∃ p : Int, v = .int .i64 p ∧
  if (p == d) = true
  then (CallK Try.prog 32 [.agg ⟨[.int .i64 a, .int .i64 i, .int .i64 c, .slice l m n]⟩] B o [f] fun q r => 
   ∃ s : Int, q = .int .i64 s ∧
   if (s == p) = true
   then (CallK Try.prog 34 [] B r [f] fun t u => 
    ∃ x : Bool, t = .bool x ∧
    Ret B u (R (.bool x)))
   else (Ret B r (R (.bool false))))
  else (Ret B o (R (.bool false)))
def V4.l0 (B : Nat) (R : Value → World → Prop) : Nat → Int → Int → Int → Int → Nat → Int → Int → Int → Option Addr → Nat → Nat → World → Prop
  | 0 => fun _ _ _ _ _ _ _ _ _ _ _ _ => False
  | k + 1 => fun a c d f g i j l m n o w =>
    if (decide (f < (n : Int))) = true
    then (∃ p : Addr, m = some p ∧ (0 : Int) ≤ f ∧ f < (n : Int) ∧
    ∃ q : Int, w.cell? ((p.add (f.toNat * 3)).add 0) = some (.int .i64 q) ∧
    if (q == 19) = true
     then (V4.b1 B R a c (IntKind.wrap .i64 (d + 16)) g i j l m n o w)
     else ((V4.l0 B R k) a c d (IntKind.wrap .i64 (f + 1)) g i j l m n o w))
    else (V4.b1 B R a c d g i j l m n o w)
def V4.vc (B : Nat) (R : Value → World → Prop) (a : Option Addr) (c d : Nat) (f g i : Int) (w : World) : Prop :=
  CallK Try.prog 35 [.slice a c d] B w [] fun v j => 
  ∃ (l : Option Addr) (m n : Nat), v = .agg ⟨[.slice l m n]⟩ ∧
  ∀ o : Nat, j.heap.size ≤ o → (m : Int) ≠ 0 ∧
  ∃ p : Addr, l = some p ∧ (0 : Int) ≤ Int.tmod (IntKind.wrap .i64 f) (m : Int) ∧ Int.tmod (IntKind.wrap .i64 f) (m : Int) < (m : Int) ∧
  ∃ q : Int, j.cell? ((p.add ((Int.tmod (IntKind.wrap .i64 f) (m : Int)).toNat * 4)).add 0) = some (.int .i64 q) ∧
  ∃ r : Int, j.cell? ((p.add ((Int.tmod (IntKind.wrap .i64 f) (m : Int)).toNat * 4)).add 1) = some (.int .i64 r) ∧
  ∃ s : Int, j.cell? ((p.add ((Int.tmod (IntKind.wrap .i64 f) (m : Int)).toNat * 4)).add 2) = some (.int .i64 s) ∧
  ∃ (t : Option Addr) (u x : Nat), j.cell? ((p.add ((Int.tmod (IntKind.wrap .i64 f) (m : Int)).toNat * 4)).add 3) = some (.slice t u x) ∧
  ∀ y : Nat, j.heap.size ≤ y → j.cell? ((p.add ((Int.tmod (IntKind.wrap .i64 f) (m : Int)).toNat * 4)).add 0) = some (.int .i64 q) ∧ j.cell? ((p.add ((Int.tmod (IntKind.wrap .i64 f) (m : Int)).toNat * 4)).add 1) = some (.int .i64 r) ∧ j.cell? ((p.add ((Int.tmod (IntKind.wrap .i64 f) (m : Int)).toNat * 4)).add 2) = some (.int .i64 s) ∧ j.cell? ((p.add ((Int.tmod (IntKind.wrap .i64 f) (m : Int)).toNat * 4)).add 3) = some (.slice t u x) ∧
  ∃ z, V4.l0 B R z g i (IntKind.wrap .i64 (15 + r)) 0 y q r s t u x j
noncomputable def V4.cfg (B : Nat) : Cfg := ⟨Try.prog, ⟨63, B⟩, [], hasN [32, 34, 35], hasN []⟩
noncomputable def V4.code : Code := (Try.f4.body).getD .skip
noncomputable def V4.cuts (B : Nat) (R : Value → World → Prop) : Nat → Cut := nthC [⟨[(2, .one (.int .i64)), (3, .one (.int .i64)), (11, .one (.int .i64)), (12, .one (.int .i64))], [(10, 29, [.int .i64, .int .i64, .int .i64, .slice])], fun fs vs bs w => V4.l0 B R (nthN fs 0) (iV (nthV vs 0)) (iV (nthV vs 1)) (iV (nthV vs 2)) (iV (nthV vs 3)) (nthB bs 0).blk (iV (nthV (nthB bs 0).cells 0)) (iV (nthV (nthB bs 0).cells 1)) (iV (nthV (nthB bs 0).cells 2)) (slA (nthV (nthB bs 0).cells 3)) (slL (nthV (nthB bs 0).cells 3)) (slC (nthV (nthB bs 0).cells 3)) w⟩,
  ⟨[(2, .one (.int .i64)), (3, .one (.int .i64)), (11, .one (.int .i64))], [(10, 29, [.int .i64, .int .i64, .int .i64, .slice])], fun fs vs bs w => V4.b1 B R (iV (nthV vs 0)) (iV (nthV vs 1)) (iV (nthV vs 2)) (nthB bs 0).blk (iV (nthV (nthB bs 0).cells 0)) (iV (nthV (nthB bs 0).cells 1)) (iV (nthV (nthB bs 0).cells 2)) (slA (nthV (nthB bs 0).cells 3)) (slL (nthV (nthB bs 0).cells 3)) (slC (nthV (nthB bs 0).cells 3)) w⟩]
noncomputable def V4.h : H := .s (.z) (.s (.z) (.s (.r [[0, 1, 2, 3, 4, 5, 6, 7, 8, 9, 10, 11]]) (.s (.z) (.cut 1 (.s (.z) (.b (.l 0 (.s (.s (.z) (.c (.z) (.z))) (.s (.b (.s (.z) (.c (.s (.z) (.z)) (.z)))) (.z)))))) (.s (.z) (.s (.z) (.s (.z) (.z))))))))
theorem V4.vc_eq (B : Nat) (R : Value → World → Prop) (a : Option Addr) (c d : Nat) (f g i : Int) (w : World) : wpf (V4.cfg B) (V4.cuts B R) V4.code V4.h [] (postOf Try.prog B (Try.f4.results.toList) R) (argE 0 [.slice a c d, .int .u8 f, .int .i64 g, .int .i64 i]) [] w = V4.vc B R a c d f g i w := by kernel_rfl
theorem V4.obl (B : Nat) (R : Value → World → Prop) : oblP (V4.cfg B) (V4.cuts B R) V4.code V4.h [] (postOf Try.prog B (Try.f4.results.toList) R) := by
  have e : oblP (V4.cfg B) (V4.cuts B R) V4.code V4.h [] (postOf Try.prog B (Try.f4.results.toList) R) = (True ∧ (True ∧ ((true = true) ∧ (True ∧ ((True ∧ ((∀ (a c d f : Int) (g : Nat) (i j l : Int) (m : Option Addr) (n o : Nat) (w : World), ¬ V4.l0 B R 0 a c d f g i j l m n o w) ∧ (∀ p, ∀ (a c d f : Int) (g : Nat) (i j l : Int) (m : Option Addr) (n o : Nat) (w : World), V4.l0 B R (p + 1) a c d f g i j l m n o w → V4.l0 B R (p + 1) a c d f g i j l m n o w) ∧ ∀ p : Nat, ((True ∧ (True ∧ True)) ∧ ((True ∧ ((True ∧ True) ∧ True)) ∧ True)))) ∧ (∀ (a c d : Int) (g : Nat) (i j l : Int) (m : Option Addr) (n o : Nat) (w : World), V4.b1 B R a c d g i j l m n o w → V4.b1 B R a c d g i j l m n o w) ∧ (True ∧ (True ∧ (True ∧ True)))))))) := by kernel_rfl
  rw [e]
  exact ⟨trivial, ⟨trivial, ⟨rfl, ⟨trivial, ⟨⟨trivial, ⟨fun a c d f g i j l m n o w h => h, fun _ a c d f g i j l m n o w h => h, fun p => ⟨⟨trivial, ⟨trivial, trivial⟩⟩, ⟨⟨trivial, ⟨⟨trivial, trivial⟩, trivial⟩⟩, trivial⟩⟩⟩⟩, fun a c d g i j l m n o w h => h, ⟨trivial, ⟨trivial, ⟨trivial, trivial⟩⟩⟩⟩⟩⟩⟩⟩
theorem V4.cfgOk (B : Nat) : CfgOk (V4.cfg B) := cfgOk_of (by kernel_rfl) (by kernel_rfl)
theorem V4.sound {a : Option Addr} {d f : Nat} {g i j : Int} {w : World} {R : Value → World → Prop} (h : V4.vc w.heap.size R a d f g i j w) : Calls Try.prog 4 ⟨[.slice a d f, .int .u8 g, .int .i64 i, .int .i64 j]⟩ w fun e w' => ∃ v, e = .returned v ∧ R v w' :=
  calls_wpfP (c := V4.cfg w.heap.size) (fn := Try.f4) (x := V4.code) (V4.cuts w.heap.size R) V4.h (V4.cfgOk _) mixed Try.func4 (by kernel_rfl) (by kernel_rfl) (by kernel_rfl) rfl (V4.obl _ _) ((V4.vc_eq _ _ a d f g i j _).symm ▸ h)
def V8.b0 (B : Nat) (R : Value → World → Prop) (a c : Int) (d : Option Addr) (f g i : Nat) (j : Option Addr) (l m n : Nat) (o : Option Addr) (p q : Nat) (w : World) : Prop :=
  ∃ r : Addr, o = some r ∧ (0 : Int) ≤ c ∧ c < (p : Int) ∧
  ∃ s : Int, w.cell? ((r.add (c.toNat * 4)).add 0) = some (.int .i64 s) ∧
  ∃ t : Int, w.cell? ((r.add (c.toNat * 4)).add 1) = some (.int .i64 t) ∧
  ∃ x : Int, w.cell? ((r.add (c.toNat * 4)).add 2) = some (.int .i64 x) ∧
  ∃ (y : Option Addr) (z A : Nat), w.cell? ((r.add (c.toNat * 4)).add 3) = some (.slice y z A) ∧
  ∀ C : Nat, w.heap.size ≤ C →
  Expo B w [C, i, n] fun D => 
  Hide [C, i, n] (D.alloc (.cells ⟨[]⟩ 26)) fun E => 
  RunK Try.prog (Builtin.append_ #[27, 27] 27 ⟨[.slice (some ⟨D.heap.size, 0, none⟩) 0 0, .slice y z A]⟩) B E [C, i, n] fun v F => 
  ∃ (G : Option Addr) (I J : Nat), v = .slice G I J ∧
  Expo B F [C, i, n] fun L => 
  Hide [C, i, n] (L.alloc (.cells ⟨[.int .i64 a, .int .i64 0, .int .i64 0]⟩ 26)) fun M => 
  RunK Try.prog (Builtin.append_ #[27, 27] 27 ⟨[.slice G I J, .slice (some ⟨L.heap.size, 0, none⟩) 1 1]⟩) B M [C, i, n] fun N O => 
  ∃ (P : Option Addr) (Q S : Nat), N = .slice P Q S ∧
  ∃ T : Addr, j = some T ∧ (0 : Int) ≤ c ∧ c < (l : Int) ∧
  (∃ u, O.cell? ((T.add (c.toNat * 4)).add 0) = some u) ∧ O.frozen? ((T.add (c.toNat * 4)).add 0) = false ∧
  let U := O.setCell ((T.add (c.toNat * 4)).add 0) (.int .i64 s);
  (∃ u_1, U.cell? ((T.add (c.toNat * 4)).add 1) = some u_1) ∧ U.frozen? ((T.add (c.toNat * 4)).add 1) = false ∧
  let W := U.setCell ((T.add (c.toNat * 4)).add 1) (.int .i64 t);
  (∃ u_2, W.cell? ((T.add (c.toNat * 4)).add 2) = some u_2) ∧ W.frozen? ((T.add (c.toNat * 4)).add 2) = false ∧
  let X := W.setCell ((T.add (c.toNat * 4)).add 2) (.int .i64 x);
  (∃ u_3, X.cell? ((T.add (c.toNat * 4)).add 3) = some u_3) ∧ X.frozen? ((T.add (c.toNat * 4)).add 3) = false ∧
  let Y := X.setCell ((T.add (c.toNat * 4)).add 3) (.slice P Q S);
  CallK Try.prog 37 [.agg ⟨[.slice j l m]⟩] B Y [C, i, n] fun Z a0 => 
  ∃ a1 a2 a3 : Int, Z = .tuple ⟨[.int .i64 a1, .int .i64 a2, .int .i64 a3]⟩ ∧
  if (a1 == 6) = true
  then (if (a2 == c) = true
   then (if (a3 == (f : Int)) = true
    then (CallK Try.prog 34 [] B a0 [C, i, n] fun a4 a5 => 
     ∃ a6 : Bool, a4 = .bool a6 ∧
     Ret B a5 (R (.bool a6)))
    else (Ret B a0 (R (.bool false))))
   else (Ret B a0 (R (.bool false))))
  else (Ret B a0 (R (.bool false)))
def V8.vc (B : Nat) (R : Value → World → Prop) (a : Option Addr) (c d : Nat) (f g : Int) (w : World) : Prop :=
  CallK Try.prog 35 [.slice a c d] B w [] fun v i => 
  ∃ (j : Option Addr) (l m : Nat), v = .agg ⟨[.slice j l m]⟩ ∧
  ∀ n : Nat, i.heap.size ≤ n → (l : Int) ≠ 0 ∧
  CallK Try.prog 38 [.agg ⟨[.slice j l m]⟩, .int .i64 (Int.tmod (IntKind.wrap .i64 g) (l : Int))] B i [n] fun o p => 
  ∃ (q : Option Addr) (r s : Nat), o = .slice q r s ∧
  Expo B p [n] fun t => 
  Hide [n] (t.alloc (.cells ⟨[]⟩ 29)) fun u => 
  RunK Try.prog (Builtin.append_ #[22, 22] 22 ⟨[.slice (some ⟨t.heap.size, 0, none⟩) 0 0, .slice j l m]⟩) B u [n] fun x y => 
  ∃ (z : Option Addr) (A C : Nat), x = .slice z A C ∧
  Expo B y [n] fun D => 
  Hide [n] (D.alloc (.cells ⟨[.int .i64 3, .int .i64 0, .int .i64 0, .int .i64 18, .int .i64 0, .int .i64 0]⟩ 26)) fun E => 
  Expo B E [n] fun F => 
  Hide [n] (F.alloc (.cells ⟨[.int .i64 0, .int .i64 1, .int .i64 0, .slice (some ⟨D.heap.size, 0, none⟩) 2 2]⟩ 29)) fun G => 
  RunK Try.prog (Builtin.append_ #[22, 22] 22 ⟨[.slice z A C, .slice (some ⟨F.heap.size, 0, none⟩) 1 1]⟩) B G [n] fun I J => 
  ∃ (L : Option Addr) (M N : Nat), I = .slice L M N ∧
  ∀ O : Nat, J.heap.size ≤ O →
  CallK Try.prog 37 [.agg ⟨[.slice L M N]⟩] B J [O, n] fun P Q => 
  ∃ S T U : Int, P = .tuple ⟨[.int .i64 S, .int .i64 T, .int .i64 U]⟩ ∧
  if (S != 0) = false
  then (CallK Try.prog 38 [.agg ⟨[.slice L M N]⟩, .int .i64 (Int.tmod (IntKind.wrap .i64 g) (l : Int))] B Q [O, n] fun W X => 
   ∃ (Y : Option Addr) (Z a0 : Nat), W = .slice Y Z a0 ∧
   CallK Try.prog 40 [.slice Y Z a0, .slice q r s] B X [O, n] fun a1 a2 => 
   ∃ a3 : Bool, a1 = .bool a3 ∧
   if (!a3) = false
   then (∃ a4 : Addr, j = some a4 ∧ (0 : Int) ≤ Int.tmod (IntKind.wrap .i64 g) (l : Int) ∧ Int.tmod (IntKind.wrap .i64 g) (l : Int) < (l : Int) ∧
   ∃ (a5 : Option Addr) (a6 a7 : Nat), a2.cell? ((a4.add ((Int.tmod (IntKind.wrap .i64 g) (l : Int)).toNat * 4)).add 3) = some (.slice a5 a6 a7) ∧
   if ((r : Int) != (a6 : Int)) = true
    then (Ret B a2 (R (.bool false)))
    else (if (decide (f ≥ 1)) = true
     then (if (decide (f ≤ 27)) = true
      then (V8.b0 B R 28 (Int.tmod (IntKind.wrap .i64 g) (l : Int)) q r s O L M N n j l m a2)
      else (V8.b0 B R f (Int.tmod (IntKind.wrap .i64 g) (l : Int)) q r s O L M N n j l m a2))
     else (V8.b0 B R f (Int.tmod (IntKind.wrap .i64 g) (l : Int)) q r s O L M N n j l m a2)))
   else (Ret B a2 (R (.bool false))))
  else (Ret B Q (R (.bool false)))
noncomputable def V8.cfg (B : Nat) : Cfg := ⟨Try.prog, ⟨114, B⟩, [], hasN [34, 35, 37, 38, 40], hasN []⟩
noncomputable def V8.code : Code := (Try.f8.body).getD .skip
noncomputable def V8.cuts (B : Nat) (R : Value → World → Prop) : Nat → Cut := nthC [⟨[(1, .one (.int .i64)), (8, .one (.int .i64)), (9, .one (.slice))], [(10, 24, [.slice]), (7, 24, [.slice])], fun fs vs bs w => V8.b0 B R (iV (nthV vs 0)) (iV (nthV vs 1)) (slA (nthV vs 2)) (slL (nthV vs 2)) (slC (nthV vs 2)) (nthB bs 0).blk (slA (nthV (nthB bs 0).cells 0)) (slL (nthV (nthB bs 0).cells 0)) (slC (nthV (nthB bs 0).cells 0)) (nthB bs 1).blk (slA (nthV (nthB bs 1).cells 0)) (slL (nthV (nthB bs 1).cells 0)) (slC (nthV (nthB bs 1).cells 0)) w⟩]
noncomputable def V8.h : H := .s (.z) (.s (.z) (.s (.z) (.s (.z) (.s (.z) (.s (.z) (.s (.s (.z) (.c (.s (.z) (.z)) (.z))) (.cut 0 (.s (.z) (.c (.z) (.z))) (.s (.z) (.s (.z) (.s (.z) (.s (.z) (.s (.z) (.z)))))))))))))
theorem V8.vc_eq (B : Nat) (R : Value → World → Prop) (a : Option Addr) (c d : Nat) (f g : Int) (w : World) : wpf (V8.cfg B) (V8.cuts B R) V8.code V8.h [] (postOf Try.prog B (Try.f8.results.toList) R) (argE 0 [.slice a c d, .int .i64 f, .int .u8 g]) [] w = V8.vc B R a c d f g w := by kernel_rfl
theorem V8.obl (B : Nat) (R : Value → World → Prop) : oblP (V8.cfg B) (V8.cuts B R) V8.code V8.h [] (postOf Try.prog B (Try.f8.results.toList) R) := by
  have e : oblP (V8.cfg B) (V8.cuts B R) V8.code V8.h [] (postOf Try.prog B (Try.f8.results.toList) R) = (True ∧ (True ∧ (True ∧ (True ∧ (True ∧ (True ∧ ((True ∧ ((True ∧ True) ∧ True)) ∧ ((True ∧ (True ∧ True)) ∧ (∀ (a c : Int) (d : Option Addr) (f g i : Nat) (j : Option Addr) (l m n : Nat) (o : Option Addr) (p q : Nat) (w : World), V8.b0 B R a c d f g i j l m n o p q w → V8.b0 B R a c d f g i j l m n o p q w) ∧ (True ∧ (True ∧ (True ∧ (True ∧ (True ∧ True))))))))))))) := by kernel_rfl
  rw [e]
  exact ⟨trivial, ⟨trivial, ⟨trivial, ⟨trivial, ⟨trivial, ⟨trivial, ⟨⟨trivial, ⟨⟨trivial, trivial⟩, trivial⟩⟩, ⟨⟨trivial, ⟨trivial, trivial⟩⟩, fun a c d f g i j l m n o p q w h => h, ⟨trivial, ⟨trivial, ⟨trivial, ⟨trivial, ⟨trivial, trivial⟩⟩⟩⟩⟩⟩⟩⟩⟩⟩⟩⟩⟩
theorem V8.cfgOk (B : Nat) : CfgOk (V8.cfg B) := cfgOk_of (by kernel_rfl) (by kernel_rfl)
theorem V8.sound {a : Option Addr} {d f : Nat} {g i : Int} {w : World} {R : Value → World → Prop} (h : V8.vc w.heap.size R a d f g i w) : Calls Try.prog 8 ⟨[.slice a d f, .int .i64 g, .int .u8 i]⟩ w fun e w' => ∃ v, e = .returned v ∧ R v w' :=
  calls_wpfP (c := V8.cfg w.heap.size) (fn := Try.f8) (x := V8.code) (V8.cuts w.heap.size R) V8.h (V8.cfgOk _) mixed Try.func8 (by kernel_rfl) (by kernel_rfl) (by kernel_rfl) rfl (V8.obl _ _) ((V8.vc_eq _ _ a d f g i _).symm ▸ h)
end Go.Proofs.Ytlccbaemcfjdoaa
