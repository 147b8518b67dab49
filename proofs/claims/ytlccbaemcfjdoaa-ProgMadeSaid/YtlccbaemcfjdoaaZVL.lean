/-
  What the engine makes of the loaded functions 4, 6, 7, 8, 39: conditions under which a call returns as told, and proofs of that.
  Conditions: none. Printed by a program of this project.
-/
import Derived.Test.YtlccbaemcfjdoaaZVX
set_option linter.unusedVariables false
set_option maxRecDepth 100000
namespace Go.Proofs.Ytlccbaemcfjdoaa
def V4.b1 (B : Nat) (R : Value → World → Prop) (a c d : Int) (f : Nat) (g i j : Int) (l : Option Addr) (m n : Nat) (w : World) : Prop :=
  CallK Try.prog 32 [.agg ⟨[.int .i64 g, .int .i64 i, .int .i64 j, .slice l m n]⟩] B w [f] fun v o => 
  ∃ p : Int, v = .int .i64 p ∧
  if (p == d) = true
  then (CallK Try.prog 32 [.agg ⟨[.int .i64 a, .int .i64 i, .int .i64 c, .slice l m n]⟩] B o [f] fun q r => 
   ∃ s : Int, q = .int .i64 s ∧
   if (s == p) = true
   then (CallK Try.prog 34 [] B r [f] fun t u => 
    ∃ x : Bool, t = .bool x ∧
    Ret B u (R (.bool x)))
   else (Ret B r (R (.bool false))))
  else (Ret B o (R (.bool false)))
def V4.l0 (B : Nat) (R : Value → World → Prop) : Nat → Int → Int → Int → Int → Nat → Int → Int → Int → Option Addr → Nat → Nat → World → Prop
  | 0 => fun _ _ _ _ _ _ _ _ _ _ _ _ => False
  | k + 1 => fun a c d f g i j l m n o w =>
    if (decide (f < (n : Int))) = true
    then (∃ p : Addr, m = some p ∧ (0 : Int) ≤ f ∧ f < (n : Int) ∧
    ∃ q : Int, w.cell? ((p.add (f.toNat * 3)).add 0) = some (.int .i64 q) ∧
    if (q == 19) = true
     then (V4.b1 B R a c (IntKind.wrap .i64 (d + 16)) g i j l m n o w)
     else ((V4.l0 B R k) a c d (IntKind.wrap .i64 (f + 1)) g i j l m n o w))
    else (V4.b1 B R a c d g i j l m n o w)
def V4.vc (B : Nat) (R : Value → World → Prop) (a : Option Addr) (c d : Nat) (f g i : Int) (w : World) : Prop :=
  CallK Try.prog 35 [.slice a c d] B w [] fun v j => 
  ∃ (l : Option Addr) (m n : Nat), v = .agg ⟨[.slice l m n]⟩ ∧
  ∀ o : Nat, j.heap.size ≤ o → (m : Int) ≠ 0 ∧
  ∃ p : Addr, l = some p ∧ (0 : Int) ≤ Int.tmod (IntKind.wrap .i64 f) (m : Int) ∧ Int.tmod (IntKind.wrap .i64 f) (m : Int) < (m : Int) ∧
  ∃ q : Int, j.cell? ((p.add ((Int.tmod (IntKind.wrap .i64 f) (m : Int)).toNat * 4)).add 0) = some (.int .i64 q) ∧
  ∃ r : Int, j.cell? ((p.add ((Int.tmod (IntKind.wrap .i64 f) (m : Int)).toNat * 4)).add 1) = some (.int .i64 r) ∧
  ∃ s : Int, j.cell? ((p.add ((Int.tmod (IntKind.wrap .i64 f) (m : Int)).toNat * 4)).add 2) = some (.int .i64 s) ∧
  ∃ (t : Option Addr) (u x : Nat), j.cell? ((p.add ((Int.tmod (IntKind.wrap .i64 f) (m : Int)).toNat * 4)).add 3) = some (.slice t u x) ∧
  ∀ y : Nat, j.heap.size ≤ y → j.cell? ((p.add ((Int.tmod (IntKind.wrap .i64 f) (m : Int)).toNat * 4)).add 0) = some (.int .i64 q) ∧ j.cell? ((p.add ((Int.tmod (IntKind.wrap .i64 f) (m : Int)).toNat * 4)).add 1) = some (.int .i64 r) ∧ j.cell? ((p.add ((Int.tmod (IntKind.wrap .i64 f) (m : Int)).toNat * 4)).add 2) = some (.int .i64 s) ∧ j.cell? ((p.add ((Int.tmod (IntKind.wrap .i64 f) (m : Int)).toNat * 4)).add 3) = some (.slice t u x) ∧
  ∃ z, V4.l0 B R z g i (IntKind.wrap .i64 (15 + r)) 0 y q r s t u x j
noncomputable def V4.cfg (B : Nat) : Cfg := ⟨Try.prog, ⟨63, B⟩, [], hasN [32, 34, 35], hasN []⟩
noncomputable def V4.code : Code := (Try.f4.body).getD .skip
noncomputable def V4.cuts (B : Nat) (R : Value → World → Prop) : Nat → Cut := nthC [⟨[(2, .one (.int .i64)), (3, .one (.int .i64)), (11, .one (.int .i64)), (12, .one (.int .i64))], [(10, 29, [.int .i64, .int .i64, .int .i64, .slice])], fun fs vs bs w => V4.l0 B R (nthN fs 0) (iV (nthV vs 0)) (iV (nthV vs 1)) (iV (nthV vs 2)) (iV (nthV vs 3)) (nthB bs 0).blk (iV (nthV (nthB bs 0).cells 0)) (iV (nthV (nthB bs 0).cells 1)) (iV (nthV (nthB bs 0).cells 2)) (slA (nthV (nthB bs 0).cells 3)) (slL (nthV (nthB bs 0).cells 3)) (slC (nthV (nthB bs 0).cells 3)) w⟩,
  ⟨[(2, .one (.int .i64)), (3, .one (.int .i64)), (11, .one (.int .i64))], [(10, 29, [.int .i64, .int .i64, .int .i64, .slice])], fun fs vs bs w => V4.b1 B R (iV (nthV vs 0)) (iV (nthV vs 1)) (iV (nthV vs 2)) (nthB bs 0).blk (iV (nthV (nthB bs 0).cells 0)) (iV (nthV (nthB bs 0).cells 1)) (iV (nthV (nthB bs 0).cells 2)) (slA (nthV (nthB bs 0).cells 3)) (slL (nthV (nthB bs 0).cells 3)) (slC (nthV (nthB bs 0).cells 3)) w⟩]
noncomputable def V4.h : H := .s (.z) (.s (.z) (.s (.r [[0, 1, 2, 3, 4, 5, 6, 7, 8, 9, 10, 11]]) (.s (.z) (.cut 1 (.s (.z) (.b (.l 0 (.s (.s (.z) (.c (.z) (.z))) (.s (.b (.s (.z) (.c (.s (.z) (.z)) (.z)))) (.z)))))) (.s (.z) (.s (.z) (.s (.z) (.z))))))))
theorem V4.vc_eq (B : Nat) (R : Value → World → Prop) (a : Option Addr) (c d : Nat) (f g i : Int) (w : World) : wpf (V4.cfg B) (V4.cuts B R) V4.code V4.h [] (postOf Try.prog B (Try.f4.results.toList) R) (argE 0 [.slice a c d, .int .u8 f, .int .i64 g, .int .i64 i]) [] w = V4.vc B R a c d f g i w := by kernel_rfl
theorem V4.obl (B : Nat) (R : Value → World → Prop) : oblP (V4.cfg B) (V4.cuts B R) V4.code V4.h [] (postOf Try.prog B (Try.f4.results.toList) R) := by
  have e : oblP (V4.cfg B) (V4.cuts B R) V4.code V4.h [] (postOf Try.prog B (Try.f4.results.toList) R) = (True ∧ (True ∧ ((true = true) ∧ (True ∧ ((True ∧ ((∀ (a c d f : Int) (g : Nat) (i j l : Int) (m : Option Addr) (n o : Nat) (w : World), ¬ V4.l0 B R 0 a c d f g i j l m n o w) ∧ (∀ p, ∀ (a c d f : Int) (g : Nat) (i j l : Int) (m : Option Addr) (n o : Nat) (w : World), V4.l0 B R (p + 1) a c d f g i j l m n o w → V4.l0 B R (p + 1) a c d f g i j l m n o w) ∧ ∀ p : Nat, ((True ∧ (True ∧ True)) ∧ ((True ∧ ((True ∧ True) ∧ True)) ∧ True)))) ∧ (∀ (a c d : Int) (g : Nat) (i j l : Int) (m : Option Addr) (n o : Nat) (w : World), V4.b1 B R a c d g i j l m n o w → V4.b1 B R a c d g i j l m n o w) ∧ (True ∧ (True ∧ (True ∧ True)))))))) := by kernel_rfl
  rw [e]
  exact ⟨trivial, ⟨trivial, ⟨rfl, ⟨trivial, ⟨⟨trivial, ⟨fun a c d f g i j l m n o w h => h, fun _ a c d f g i j l m n o w h => h, fun p => ⟨⟨trivial, ⟨trivial, trivial⟩⟩, ⟨⟨trivial, ⟨⟨trivial, trivial⟩, trivial⟩⟩, trivial⟩⟩⟩⟩, fun a c d g i j l m n o w h => h, ⟨trivial, ⟨trivial, ⟨trivial, trivial⟩⟩⟩⟩⟩⟩⟩⟩
theorem V4.cfgOk (B : Nat) : CfgOk (V4.cfg B) := cfgOk_of (by kernel_rfl) (by kernel_rfl)
theorem V4.sound {a : Option Addr} {d f : Nat} {g i j : Int} {w : World} {R : Value → World → Prop} (h : V4.vc w.heap.size R a d f g i j w) : Calls Try.prog 4 ⟨[.slice a d f, .int .u8 g, .int .i64 i, .int .i64 j]⟩ w fun e w' => ∃ v, e = .returned v ∧ R v w' :=
  calls_wpfP (c := V4.cfg w.heap.size) (fn := Try.f4) (x := V4.code) (V4.cuts w.heap.size R) V4.h (V4.cfgOk _) mixed Try.func4 (by kernel_rfl) (by kernel_rfl) (by kernel_rfl) rfl (V4.obl _ _) ((V4.vc_eq _ _ a d f g i j _).symm ▸ h)
def V6.l1 (B : Nat) (R : Value → World → Prop) (a : Int → Nat → Option Addr → Nat → Nat → World → Prop) : Nat → Int → Option Addr → Nat → Nat → Int → Nat → Option Addr → Nat → Nat → World → Prop
  | 0 => fun _ _ _ _ _ _ _ _ _ _ => False
  | k + 1 => fun c d f g i j l m n w =>
    if (decide (i < (f : Int))) = true
    then (∃ o : Addr, d = some o ∧ (0 : Int) ≤ i ∧ i < (f : Int) ∧
    ∃ p : Int, w.cell? (o.add i.toNat) = some (.int .i64 p) ∧
    if (decide (p < (-1))) = false
     then (∃ q : Addr, d = some q ∧ (0 : Int) ≤ i ∧ i < (f : Int) ∧
     ∃ r : Int, w.cell? (q.add i.toNat) = some (.int .i64 r) ∧
     if (decide (r > 8)) = false
      then (∃ s : Addr, d = some s ∧ (0 : Int) ≤ i ∧ i < (f : Int) ∧
      ∃ t : Int, w.cell? (s.add i.toNat) = some (.int .i64 t) ∧
      if (decide (t ≥ 0)) = true
       then (∃ u : Addr, l = some u ∧ (0 : Int) ≤ c ∧ c < (m : Int) ∧
       ∃ (x : Option Addr) (y z : Nat), w.cell? ((u.add (c.toNat * 4)).add 3) = some (.slice x y z) ∧
       ∃ A : Addr, x = some A ∧ (0 : Int) ≤ i ∧ i < (y : Int) ∧
       ∃ C : Int, w.cell? ((A.add (i.toNat * 3)).add 0) = some (.int .i64 C) ∧
       ∃ D : Int, w.cell? ((A.add (i.toNat * 3)).add 1) = some (.int .i64 D) ∧
       ∃ E : Int, w.cell? ((A.add (i.toNat * 3)).add 2) = some (.int .i64 E) ∧
       ∃ F : Addr, d = some F ∧ (0 : Int) ≤ i ∧ i < (f : Int) ∧
       ∃ G : Int, w.cell? (F.add i.toNat) = some (.int .i64 G) ∧
       CallK Try.prog 28 [.agg ⟨[.slice l m n]⟩, .agg ⟨[.int .i64 C, .int .i64 D, .int .i64 E]⟩] B w [j] fun v I => 
        ∃ J : Int, v = .int .i64 J ∧ I.cell? (F.add i.toNat) = some (.int .i64 G) ∧
        if (decide (J > G)) = false
        then (∃ L : Addr, d = some L ∧ (0 : Int) ≤ i ∧ i < (f : Int) ∧
        ∃ M : Int, I.cell? (L.add i.toNat) = some (.int .i64 M) ∧
        ∃ N : Addr, l = some N ∧ (0 : Int) ≤ c ∧ c < (m : Int) ∧
        ∃ (O : Option Addr) (P Q : Nat), I.cell? ((N.add (c.toNat * 4)).add 3) = some (.slice O P Q) ∧
        ∃ S : Addr, O = some S ∧ (0 : Int) ≤ i ∧ i < (P : Int) ∧
        ∃ T : Int, I.cell? ((S.add (i.toNat * 3)).add 0) = some (.int .i64 T) ∧
        ∃ U : Int, I.cell? ((S.add (i.toNat * 3)).add 1) = some (.int .i64 U) ∧
        ∃ W : Int, I.cell? ((S.add (i.toNat * 3)).add 2) = some (.int .i64 W) ∧
        ∃ X : Addr, l = some X ∧ (0 : Int) ≤ c ∧ c < (m : Int) ∧
        ∃ (Y : Option Addr) (Z a0 : Nat), I.cell? ((X.add (c.toNat * 4)).add 3) = some (.slice Y Z a0) ∧
        ∃ a1 : Addr, Y = some a1 ∧ (0 : Int) ≤ i ∧ i < (Z : Int) ∧
        ∃ a2 : Int, I.cell? ((a1.add (i.toNat * 3)).add 0) = some (.int .i64 a2) ∧
        ∃ a3 : Int, I.cell? ((a1.add (i.toNat * 3)).add 1) = some (.int .i64 a3) ∧
        ∃ a4 : Int, I.cell? ((a1.add (i.toNat * 3)).add 2) = some (.int .i64 a4) ∧
        CallK Try.prog 28 [.agg ⟨[.slice l m n]⟩, .agg ⟨[.int .i64 T, .int .i64 U, .int .i64 W]⟩] B I [j] fun a5 a6 => 
         ∃ a7 : Int, a5 = .int .i64 a7 ∧ a6.cell? ((a1.add (i.toNat * 3)).add 0) = some (.int .i64 a2) ∧ a6.cell? ((a1.add (i.toNat * 3)).add 1) = some (.int .i64 a3) ∧ a6.cell? ((a1.add (i.toNat * 3)).add 2) = some (.int .i64 a4) ∧ a6.cell? ((X.add (c.toNat * 4)).add 3) = some (.slice Y Z a0) ∧ a6.cell? (L.add i.toNat) = some (.int .i64 M) ∧
         CallK Try.prog 30 [.agg ⟨[.int .i64 a2, .int .i64 a3, .int .i64 a4]⟩] B a6 [j] fun a8 a9 => 
         ∃ c0 : Int, a8 = .int .i64 c0 ∧ a9.cell? (L.add i.toNat) = some (.int .i64 M) ∧
         if (decide (IntKind.wrap .i64 (IntKind.wrap .i64 (M - a7) + c0) > 8)) = true
         then (Ret B a9 (R (.bool false)))
         else ((V6.l1 B R a k) c d f g (IntKind.wrap .i64 (i + 1)) j l m n a9))
        else (Ret B I (R (.bool false))))
       else ((V6.l1 B R a k) c d f g (IntKind.wrap .i64 (i + 1)) j l m n w))
      else (Ret B w (R (.bool false))))
     else (Ret B w (R (.bool false))))
    else (a (IntKind.wrap .i64 (c + 1)) j l m n w)
def V6.l0 (B : Nat) (R : Value → World → Prop) : Nat → Int → Nat → Option Addr → Nat → Nat → World → Prop
  | 0 => fun _ _ _ _ _ _ => False
  | k + 1 => fun a c d f g w =>
    if (decide (a < (f : Int))) = true
    then (CallK Try.prog 38 [.agg ⟨[.slice d f g]⟩, .int .i64 a] B w [c] fun v i => 
     ∃ (j : Option Addr) (l m : Nat), v = .slice j l m ∧
     ∃ n : Addr, d = some n ∧ (0 : Int) ≤ a ∧ a < (f : Int) ∧
     ∃ (o : Option Addr) (p q : Nat), i.cell? ((n.add (a.toNat * 4)).add 3) = some (.slice o p q) ∧
     if ((l : Int) != (p : Int)) = false
     then (∃ r : Addr, j = some r ∧ (0 : Int) ≤ 0 ∧ (0 : Int) < (l : Int) ∧
     ∃ s : Int, i.cell? (r.add 0) = some (.int .i64 s) ∧
     if (s != 0) = true
      then (Ret B i (R (.bool false)))
      else (∃ t, V6.l1 B R (V6.l0 B R k) t a j l m 0 c d f g i))
     else (Ret B i (R (.bool false))))
    else (CallK Try.prog 38 [.agg ⟨[.slice d f g]⟩, .int .i64 (-1)] B w [c] fun v i => 
     ∃ (u : Option Addr) (x y : Nat), v = .slice u x y ∧
     if ((x : Int) == 0) = true
     then (CallK Try.prog 38 [.agg ⟨[.slice d f g]⟩, .int .i64 (f : Int)] B i [c] fun z A => 
      ∃ (C : Option Addr) (D E : Nat), z = .slice C D E ∧
      if ((D : Int) == 0) = true
      then (CallK Try.prog 34 [] B A [c] fun F G => 
       ∃ I : Bool, F = .bool I ∧
       Ret B G (R (.bool I)))
      else (Ret B A (R (.bool false))))
     else (Ret B i (R (.bool false))))
def V6.vc (B : Nat) (R : Value → World → Prop) (a : Option Addr) (c d : Nat) (w : World) : Prop :=
  CallK Try.prog 35 [.slice a c d] B w [] fun v f => 
  ∃ (g : Option Addr) (i j : Nat), v = .agg ⟨[.slice g i j]⟩ ∧
  ∀ l : Nat, f.heap.size ≤ l →
  CallK Try.prog 37 [.agg ⟨[.slice g i j]⟩] B f [l] fun m n => 
  ∃ o p q : Int, m = .tuple ⟨[.int .i64 o, .int .i64 p, .int .i64 q]⟩ ∧
  if (o != 0) = false
  then (if (p != 0) = false
   then (if (q != 0) = true
    then (Ret B n (R (.bool false)))
    else (∃ r, V6.l0 B R r 0 l g i j n))
   else (Ret B n (R (.bool false))))
  else (Ret B n (R (.bool false)))
noncomputable def V6.cfg (B : Nat) : Cfg := ⟨Try.prog, ⟨143, B⟩, [], hasN [28, 30, 34, 35, 37, 38], hasN []⟩
noncomputable def V6.code : Code := (Try.f6.body).getD .skip
noncomputable def V6.cuts (B : Nat) (R : Value → World → Prop) : Nat → Cut := nthC [⟨[(7, .one (.int .i64))], [(3, 24, [.slice])], fun fs vs bs w => V6.l0 B R (nthN fs 0) (iV (nthV vs 0)) (nthB bs 0).blk (slA (nthV (nthB bs 0).cells 0)) (slL (nthV (nthB bs 0).cells 0)) (slC (nthV (nthB bs 0).cells 0)) w⟩,
  ⟨[(7, .one (.int .i64)), (8, .one (.slice)), (9, .one (.int .i64))], [(3, 24, [.slice])], fun fs vs bs w => V6.l1 B R (V6.l0 B R (nthN fs 1)) (nthN fs 0) (iV (nthV vs 0)) (slA (nthV vs 1)) (slL (nthV vs 1)) (slC (nthV vs 1)) (iV (nthV vs 2)) (nthB bs 0).blk (slA (nthV (nthB bs 0).cells 0)) (slL (nthV (nthB bs 0).cells 0)) (slC (nthV (nthB bs 0).cells 0)) w⟩]
noncomputable def V6.h : H := .s (.z) (.s (.z) (.s (.z) (.s (.s (.z) (.c (.s (.z) (.z)) (.z))) (.s (.s (.z) (.b (.l 0 (.s (.s (.z) (.c (.z) (.z))) (.s (.b (.s (.z) (.s (.s (.z) (.c (.s (.z) (.z)) (.z))) (.s (.z) (.b (.l 1 (.s (.s (.z) (.c (.z) (.z))) (.s (.b (.s (.r [[0, 1, 2, 3, 4, 5, 6, 7, 8, 9, 10, 11, 12, 13, 14, 15, 16, 17, 18, 19, 20, 21, 22, 23, 24, 25, 26, 27, 28, 30, 31, 32, 33, 29, 34, 35, 36, 37, 38, 39, 40, 41, 42, 43, 44, 45, 46, 47, 48, 49, 52, 53, 54, 55, 56, 57, 58, 59, 60, 50, 51, 61, 62, 63, 64, 65, 66]]) (.c (.s (.z) (.z)) (.z)))) (.z))))))))) (.z)))))) (.s (.z) (.z))))))
theorem V6.vc_eq (B : Nat) (R : Value → World → Prop) (a : Option Addr) (c d : Nat) (w : World) : wpf (V6.cfg B) (V6.cuts B R) V6.code V6.h [] (postOf Try.prog B (Try.f6.results.toList) R) (argE 0 [.slice a c d]) [] w = V6.vc B R a c d w := by kernel_rfl
theorem V6.obl (B : Nat) (R : Value → World → Prop) : oblP (V6.cfg B) (V6.cuts B R) V6.code V6.h [] (postOf Try.prog B (Try.f6.results.toList) R) := by
  have e : oblP (V6.cfg B) (V6.cuts B R) V6.code V6.h [] (postOf Try.prog B (Try.f6.results.toList) R) = (True ∧ (True ∧ (True ∧ ((True ∧ ((True ∧ True) ∧ True)) ∧ ((True ∧ ((∀ (a : Int) (c : Nat) (d : Option Addr) (f g : Nat) (w : World), ¬ V6.l0 B R 0 a c d f g w) ∧ (∀ i, ∀ (a : Int) (c : Nat) (d : Option Addr) (f g : Nat) (w : World), V6.l0 B R (i + 1) a c d f g w → V6.l0 B R (i + 1) a c d f g w) ∧ ∀ i : Nat, ((True ∧ (True ∧ True)) ∧ ((True ∧ ((True ∧ ((True ∧ True) ∧ True)) ∧ (True ∧ ((∀ (a : Int) (j : Option Addr) (l m : Nat) (n : Int) (c : Nat) (d : Option Addr) (f g : Nat) (w : World), ¬ V6.l1 B R (V6.l0 B R i) 0 a j l m n c d f g w) ∧ (∀ o, ∀ (a : Int) (j : Option Addr) (l m : Nat) (n : Int) (c : Nat) (d : Option Addr) (f g : Nat) (w : World), V6.l1 B R (V6.l0 B R i) (o + 1) a j l m n c d f g w → V6.l1 B R (V6.l0 B R i) (o + 1) a j l m n c d f g w) ∧ ∀ o : Nat, ((True ∧ (True ∧ True)) ∧ (((true = true) ∧ ((True ∧ True) ∧ True)) ∧ True)))))) ∧ True)))) ∧ (True ∧ True)))))) := by kernel_rfl
  rw [e]
  exact ⟨trivial, ⟨trivial, ⟨trivial, ⟨⟨trivial, ⟨⟨trivial, trivial⟩, trivial⟩⟩, ⟨⟨trivial, ⟨fun a c d f g w h => h, fun _ a c d f g w h => h, fun i => ⟨⟨trivial, ⟨trivial, trivial⟩⟩, ⟨⟨trivial, ⟨⟨trivial, ⟨⟨trivial, trivial⟩, trivial⟩⟩, ⟨trivial, ⟨fun a j l m n c d f g w h => h, fun _ a j l m n c d f g w h => h, fun o => ⟨⟨trivial, ⟨trivial, trivial⟩⟩, ⟨⟨rfl, ⟨⟨trivial, trivial⟩, trivial⟩⟩, trivial⟩⟩⟩⟩⟩⟩, trivial⟩⟩⟩⟩, ⟨trivial, trivial⟩⟩⟩⟩⟩⟩
theorem V6.cfgOk (B : Nat) : CfgOk (V6.cfg B) := cfgOk_of (by kernel_rfl) (by kernel_rfl)
theorem V6.sound {a : Option Addr} {d f : Nat} {w : World} {R : Value → World → Prop} (h : V6.vc w.heap.size R a d f w) : Calls Try.prog 6 ⟨[.slice a d f]⟩ w fun e w' => ∃ v, e = .returned v ∧ R v w' :=
  calls_wpfP (c := V6.cfg w.heap.size) (fn := Try.f6) (x := V6.code) (V6.cuts w.heap.size R) V6.h (V6.cfgOk _) mixed Try.func6 (by kernel_rfl) (by kernel_rfl) (by kernel_rfl) rfl (V6.obl _ _) ((V6.vc_eq _ _ a d f _).symm ▸ h)
end Go.Proofs.Ytlccbaemcfjdoaa
