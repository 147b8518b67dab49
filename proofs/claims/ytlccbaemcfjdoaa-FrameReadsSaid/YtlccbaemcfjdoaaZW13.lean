/-
  What the engine makes of the loaded functions 13: conditions under which a call returns as told, and proofs of that.
  Conditions: none. Printed by a program of this project.
-/
import Derived.Test.YtlccbaemcfjdoaaZWD
set_option linter.unusedVariables false
set_option maxRecDepth 100000
namespace Go.Proofs.Ytlccbaemcfjdoaa
def V13.l3 (B : Nat) (R : Value → World → Prop) : Nat → Option Addr → Nat → Nat → Addr → Option Addr → Nat → Nat → Int → Int → Nat → Option Addr → Nat → Nat → World → Prop
  | 0 => fun _ _ _ _ _ _ _ _ _ _ _ _ _ _ => False
  | k + 1 => fun a c d f g i j l m n o p q w =>
    if (decide (m < l)) = true
    then (∃ r : Addr, g = some r ∧ (0 : Int) ≤ m ∧ m < (i : Int) ∧
    ∃ s : Int, w.cell? (r.add m.toNat) = some (.int .i64 s) ∧
    CallK Try.prog 54 [.pointer (some f), .agg ⟨[.slice o p q]⟩, .int .i64 s] B w [n] fun v t => 
     ∃ (u x y : Int) (z : Bool) (A : Int) (C : Option Addr) (D E : Nat) (F : Option Addr) (G I : Nat) (J : Option Addr) (L M : Nat) (N O : Int), v = .tuple ⟨[.agg ⟨[.int .i64 u, .int .i64 x, .int .i64 y, .bool z, .int .u64 A, .slice C D E, .slice F G I, .slice J L M]⟩, .int .i64 N, .int .i64 O]⟩ ∧
     ∀ P : Nat, t.heap.size ≤ P →
     CallK Try.prog 55 [.slice a c d, .agg ⟨[.slice o p q]⟩, .int .i64 s] B t [P, n] fun Q S => 
     ∃ (T U W : Int) (X : Bool) (Y : Int) (Z : Option Addr) (a0 a1 : Nat) (a2 : Option Addr) (a3 a4 : Nat) (a5 : Option Addr) (a6 a7 : Nat) (a8 a9 : Int), Q = .tuple ⟨[.agg ⟨[.int .i64 T, .int .i64 U, .int .i64 W, .bool X, .int .u64 Y, .slice Z a0 a1, .slice a2 a3 a4, .slice a5 a6 a7]⟩, .int .i64 a8, .int .i64 a9]⟩ ∧
     ∀ c0 : Nat, S.heap.size ≤ c0 →
     CallK Try.prog 59 [.pointer (some f), .agg ⟨[.slice o p q]⟩, .int .i64 s] B S [c0, P, n] fun c1 c2 => 
     ∃ (c3 : Option Addr) (c4 c5 : Nat) (c6 : Int), c1 = .tuple ⟨[.slice c3 c4 c5, .int .i64 c6]⟩ ∧
     CallK Try.prog 60 [.slice a c d, .agg ⟨[.slice o p q]⟩, .int .i64 s] B c2 [c0, P, n] fun c7 c8 => 
     ∃ (c9 : Option Addr) (d0 d1 : Nat) (d2 : Int), c7 = .tuple ⟨[.slice c9 d0 d1, .int .i64 d2]⟩ ∧
     CallK Try.prog 56 [.agg ⟨[.int .i64 u, .int .i64 x, .int .i64 y, .bool z, .int .u64 A, .slice C D E, .slice F G I, .slice J L M]⟩, .agg ⟨[.int .i64 T, .int .i64 U, .int .i64 W, .bool X, .int .u64 Y, .slice Z a0 a1, .slice a2 a3 a4, .slice a5 a6 a7]⟩] B c8 [c0, P, n] fun d3 d4 => 
     ∃ d5 : Bool, d3 = .bool d5 ∧
     if (!d5) = false
     then (if (N != a8) = false
      then (if (O != a9) = false
       then (CallK Try.prog 40 [.slice c3 c4 c5, .slice c9 d0 d1] B d4 [c0, P, n] fun d6 d7 => 
        ∃ d8 : Bool, d6 = .bool d8 ∧
        if (!d8) = false
        then (if (c6 != d2) = true
         then (Ret B d7 (R (.bool false)))
         else ((V13.l3 B R k) a c d f g i j l (IntKind.wrap .i64 (m + 1)) n o p q d7))
        else (Ret B d7 (R (.bool false))))
       else (Ret B d4 (R (.bool false))))
      else (Ret B d4 (R (.bool false))))
     else (Ret B d4 (R (.bool false))))
    else (CallK Try.prog 46 [.pointer (some f), .slice a c d] B w [n] fun v t => 
     ∃ d9 : Bool, v = .bool d9 ∧
     if d9 = true
     then (CallK Try.prog 47 [] B t [n] fun Q S => 
      ∃ f0 : Bool, Q = .bool f0 ∧
      Ret B S (R (.bool f0)))
     else (Ret B t (R (.bool false))))
def V13.b2 (B : Nat) (R : Value → World → Prop) (a : Option Addr) (c d : Nat) (f : Int) (g : Option Addr) (i j : Nat) (l : Option Addr) (m n : Nat) (o : Addr) (p : Nat) (q : Option Addr) (r s : Nat) (w : World) : Prop :=
  (40 : Int) ≠ 0 ∧
  Expo B w [p] fun t => 
  Hide [p] (t.alloc (.cells ⟨[.int .i64 f, .int .i64 (Int.tmod (c : Int) 40), .int .i64 (-1)]⟩ 3)) fun u => 
  RunK Try.prog (Builtin.append_ #[42, 42] 42 ⟨[.slice l m n, .slice (some ⟨t.heap.size, 0, none⟩) 3 3]⟩) B u [p] fun v x => 
  ∃ (y : Option Addr) (z A : Nat), v = .slice y z A ∧
  ∃ C, V13.l3 B R C g i j o y z A (z : Int) 0 p q r s x
def V13.b1 (B : Nat) (R : Value → World → Prop) (a : Option Addr) (c d : Nat) (f : Int) (g : Option Addr) (i j : Nat) (l : Option Addr) (m n o : Nat) (p : Option Addr) (q r : Nat) (w : World) : Prop :=
  CallK Try.prog 41 [.int .i64 8, .slice g i j] B w [o] fun v s => 
  ∃ (t u : Option Addr) (x y : Nat), v = .tuple ⟨[.pointer t, .slice u x y]⟩ ∧
  caseP t
  (False)
  (fun z => V13.b2 B R a c d f g i j l m n z o p q r s)
def V13.l0 (B : Nat) (R : Value → World → Prop) : Nat → Option Addr → Nat → Nat → Option Addr → Nat → Nat → Int → Option Addr → Nat → Nat → Option Addr → Nat → Nat → Int → Int → Nat → Option Addr → Nat → Nat → World → Prop
  | 0 => fun _ _ _ _ _ _ _ _ _ _ _ _ _ _ _ _ _ _ _ _ => False
  | k + 1 => fun a c d f g i j l m n o p q r s t x y z w =>
    if (decide (IntKind.wrap .i64 (s + 1) < (g : Int))) = true
    then (if (decide (s < 20)) = true
     then (∃ A : Addr, f = some A ∧ (0 : Int) ≤ s ∧ s < (g : Int) ∧
     ∃ C : Int, w.cell? (A.add s.toNat) = some (.int .u8 C) ∧ (if 1 > r then 1 else r) ≠ 0 ∧
     ∃ D : Addr, f = some D ∧ (0 : Int) ≤ IntKind.wrap .i64 (s + 1) ∧ IntKind.wrap .i64 (s + 1) < (g : Int) ∧
     ∃ E : Int, w.cell? (D.add ((IntKind.wrap .i64 (s + 1)).toNat)) = some (.int .u8 E) ∧
     ∃ F : Addr, f = some F ∧ (0 : Int) ≤ s ∧ s < (g : Int) ∧
     ∃ G : Int, w.cell? (F.add s.toNat) = some (.int .u8 G) ∧ (8 : Int) ≠ 0 ∧ (0 : Int) ≤ Int.tmod G 8 ∧
     ∃ I : Addr, l = some I ∧ (0 : Int) ≤ Int.tmod (IntKind.wrap .i64 C) (if 1 > r then 1 else r) ∧ Int.tmod (IntKind.wrap .i64 C) (if 1 > r then 1 else r) < (m : Int) ∧
     (∃ u, w.cell? ((I.add ((Int.tmod (IntKind.wrap .i64 C) (if 1 > r then 1 else r)).toNat)).add 0) = some u) ∧ w.frozen? ((I.add ((Int.tmod (IntKind.wrap .i64 C) (if 1 > r then 1 else r)).toNat)).add 0) = false ∧
     let J := w.setCell ((I.add ((Int.tmod (IntKind.wrap .i64 C) (if 1 > r then 1 else r)).toNat)).add 0) (.int .u64 (Int.fdiv (IntKind.wrap .u64 E) (2 ^ min ((Int.tmod G 8).toNat) 64)));
     (V13.l0 B R k) a c d f g i j l m n o p q r (IntKind.wrap .i64 (s + 2)) t x y z J)
     else (V13.b1 B R a c d j l m n o p q t x y z w))
    else (V13.b1 B R a c d j l m n o p q t x y z w)
def V13.vc (B : Nat) (R : Value → World → Prop) (a : Option Addr) (c d : Nat) (f : Option Addr) (g i : Nat) (j : Option Addr) (l m : Nat) (n : Option Addr) (o p : Nat) (q : Int) (w : World) : Prop :=
  CallK Try.prog 35 [.slice a c d] B w [] fun v r => 
  ∃ (s : Option Addr) (t u : Nat), v = .agg ⟨[.slice s t u]⟩ ∧
  ∀ x : Nat, r.heap.size ≤ x →
  RunK Try.prog (Instr.makeSlice 50 (.int .i64 512) (.int .i64 512)) B r [x] fun y z => 
  ∃ (A : Option Addr) (C D : Nat), y = .slice A C D ∧
  RunK Try.prog (Builtin.copy_ #[50, 50] 3 ⟨[.slice A C D, .slice j l m]⟩) B z [x] fun E F => 
  ∃ G : Int, E = .int .i64 G ∧ (40 : Int) ≠ 0 ∧
  CallK Try.prog 58 [.agg ⟨[.slice s t u]⟩, .slice f g i, .int .i64 (Int.tmod (l : Int) 40), .int .i64 512, .slice A C D] B F [x] fun I J => 
  ∃ (L : Option Addr) (M N : Nat) (O : Option Addr) (P Q : Nat) (S : Option Addr) (T U : Nat) (W : Int), I = .tuple ⟨[.slice L M N, .slice O P Q, .slice S T U, .int .i64 W]⟩ ∧
  ∃ X, V13.l0 B R X j l m n o p q S T U O P Q W 0 x s t u J
noncomputable def V13.cfg (B : Nat) : Cfg := ⟨Try.prog, ⟨163, B⟩, [], hasN [35, 40, 41, 46, 47, 54, 55, 56, 58, 59, 60], hasN []⟩
noncomputable def V13.code : Code := (Try.f13.body).getD .skip
noncomputable def V13.cuts (B : Nat) (R : Value → World → Prop) : Nat → Cut := nthC [⟨[(2, .one (.slice)), (3, .one (.slice)), (4, .one (.int .i64)), (12, .one (.slice)), (14, .one (.slice)), (15, .one (.int .i64)), (16, .one (.int .i64))], [(11, 24, [.slice])], fun fs vs bs w => V13.l0 B R (nthN fs 0) (slA (nthV vs 0)) (slL (nthV vs 0)) (slC (nthV vs 0)) (slA (nthV vs 1)) (slL (nthV vs 1)) (slC (nthV vs 1)) (iV (nthV vs 2)) (slA (nthV vs 3)) (slL (nthV vs 3)) (slC (nthV vs 3)) (slA (nthV vs 4)) (slL (nthV vs 4)) (slC (nthV vs 4)) (iV (nthV vs 5)) (iV (nthV vs 6)) (nthB bs 0).blk (slA (nthV (nthB bs 0).cells 0)) (slL (nthV (nthB bs 0).cells 0)) (slC (nthV (nthB bs 0).cells 0)) w⟩,
  ⟨[(2, .one (.slice)), (4, .one (.int .i64)), (12, .one (.slice)), (14, .one (.slice))], [(11, 24, [.slice])], fun fs vs bs w => V13.b1 B R (slA (nthV vs 0)) (slL (nthV vs 0)) (slC (nthV vs 0)) (iV (nthV vs 1)) (slA (nthV vs 2)) (slL (nthV vs 2)) (slC (nthV vs 2)) (slA (nthV vs 3)) (slL (nthV vs 3)) (slC (nthV vs 3)) (nthB bs 0).blk (slA (nthV (nthB bs 0).cells 0)) (slL (nthV (nthB bs 0).cells 0)) (slC (nthV (nthB bs 0).cells 0)) w⟩,
  ⟨[(2, .one (.slice)), (4, .one (.int .i64)), (12, .one (.slice)), (14, .one (.slice)), (17, .one (.ptr))], [(11, 24, [.slice])], fun fs vs bs w => V13.b2 B R (slA (nthV vs 0)) (slL (nthV vs 0)) (slC (nthV vs 0)) (iV (nthV vs 1)) (slA (nthV vs 2)) (slL (nthV vs 2)) (slC (nthV vs 2)) (slA (nthV vs 3)) (slL (nthV vs 3)) (slC (nthV vs 3)) (pV (nthV vs 4)) (nthB bs 0).blk (slA (nthV (nthB bs 0).cells 0)) (slL (nthV (nthB bs 0).cells 0)) (slC (nthV (nthB bs 0).cells 0)) w⟩,
  ⟨[(12, .one (.slice)), (17, .one (.ptr)), (95, .one (.slice)), (96, .one (.int .i64)), (97, .one (.int .i64))], [(11, 24, [.slice])], fun fs vs bs w => V13.l3 B R (nthN fs 0) (slA (nthV vs 0)) (slL (nthV vs 0)) (slC (nthV vs 0)) (pV (nthV vs 1)) (slA (nthV vs 2)) (slL (nthV vs 2)) (slC (nthV vs 2)) (iV (nthV vs 3)) (iV (nthV vs 4)) (nthB bs 0).blk (slA (nthV (nthB bs 0).cells 0)) (slL (nthV (nthB bs 0).cells 0)) (slC (nthV (nthB bs 0).cells 0)) w⟩]
noncomputable def V13.h : H := .s (.z) (.s (.z) (.s (.z) (.s (.z) (.s (.z) (.cut 1 (.s (.z) (.b (.l 0 (.s (.s (.z) (.c (.z) (.z))) (.s (.b (.r [[0, 1, 2, 3, 4, 5, 6, 7, 8, 9, 10, 11, 12, 13, 14, 15, 16, 17, 18, 19, 20, 21, 22]])) (.z)))))) (.cut 2 (.z) (.s (.s (.z) (.c (.s (.z) (.z)) (.z))) (.s (.s (.z) (.b (.l 3 (.s (.z) (.s (.c (.z) (.z)) (.s (.b (.s (.z) (.s (.z) (.s (.z) (.s (.z) (.s (.z) (.s (.z) (.c (.s (.z) (.z)) (.z))))))))) (.z))))))) (.s (.z) (.z))))))))))
theorem V13.vc_eq (B : Nat) (R : Value → World → Prop) (a : Option Addr) (c d : Nat) (f : Option Addr) (g i : Nat) (j : Option Addr) (l m : Nat) (n : Option Addr) (o p : Nat) (q : Int) (w : World) : wpf (V13.cfg B) (V13.cuts B R) V13.code V13.h [] (postOf Try.prog B (Try.f13.results.toList) R) (argE 0 [.slice a c d, .slice f g i, .slice j l m, .slice n o p, .int .i64 q]) [] w = V13.vc B R a c d f g i j l m n o p q w := by kernel_rfl
theorem V13.obl (B : Nat) (R : Value → World → Prop) : oblP (V13.cfg B) (V13.cuts B R) V13.code V13.h [] (postOf Try.prog B (Try.f13.results.toList) R) := by
  have e : oblP (V13.cfg B) (V13.cuts B R) V13.code V13.h [] (postOf Try.prog B (Try.f13.results.toList) R) = (True ∧ (True ∧ (True ∧ (True ∧ (True ∧ ((True ∧ ((∀ (a : Option Addr) (c d : Nat) (f : Option Addr) (g i : Nat) (j : Int) (l : Option Addr) (m n : Nat) (o : Option Addr) (p q : Nat) (r s : Int) (t : Nat) (u : Option Addr) (x y : Nat) (w : World), ¬ V13.l0 B R 0 a c d f g i j l m n o p q r s t u x y w) ∧ (∀ z, ∀ (a : Option Addr) (c d : Nat) (f : Option Addr) (g i : Nat) (j : Int) (l : Option Addr) (m n : Nat) (o : Option Addr) (p q : Nat) (r s : Int) (t : Nat) (u : Option Addr) (x y : Nat) (w : World), V13.l0 B R (z + 1) a c d f g i j l m n o p q r s t u x y w → V13.l0 B R (z + 1) a c d f g i j l m n o p q r s t u x y w) ∧ ∀ z : Nat, ((True ∧ (True ∧ True)) ∧ ((true = true) ∧ True)))) ∧ (∀ (a : Option Addr) (c d : Nat) (j : Int) (l : Option Addr) (m n : Nat) (o : Option Addr) (p q t : Nat) (u : Option Addr) (x y : Nat) (w : World), V13.b1 B R a c d j l m n o p q t u x y w → V13.b1 B R a c d j l m n o p q t u x y w) ∧ (True ∧ (∀ (a : Option Addr) (c d : Nat) (j : Int) (l : Option Addr) (m n : Nat) (o : Option Addr) (p q : Nat) (A : Addr) (t : Nat) (u : Option Addr) (x y : Nat) (w : World), V13.b2 B R a c d j l m n o p q A t u x y w → V13.b2 B R a c d j l m n o p q A t u x y w) ∧ ((True ∧ ((True ∧ True) ∧ True)) ∧ ((True ∧ ((∀ (l : Option Addr) (m n : Nat) (A : Addr) (C : Option Addr) (D E : Nat) (F G : Int) (t : Nat) (u : Option Addr) (x y : Nat) (w : World), ¬ V13.l3 B R 0 l m n A C D E F G t u x y w) ∧ (∀ I, ∀ (l : Option Addr) (m n : Nat) (A : Addr) (C : Option Addr) (D E : Nat) (F G : Int) (t : Nat) (u : Option Addr) (x y : Nat) (w : World), V13.l3 B R (I + 1) l m n A C D E F G t u x y w → V13.l3 B R (I + 1) l m n A C D E F G t u x y w) ∧ ∀ I : Nat, (True ∧ ((True ∧ True) ∧ ((True ∧ (True ∧ (True ∧ (True ∧ (True ∧ (True ∧ ((True ∧ True) ∧ True))))))) ∧ True))))) ∧ (True ∧ True)))))))))) := by kernel_rfl
  rw [e]
  exact ⟨trivial, ⟨trivial, ⟨trivial, ⟨trivial, ⟨trivial, ⟨⟨trivial, ⟨fun a c d f g i j l m n o p q r s t u x y w h => h, fun _ a c d f g i j l m n o p q r s t u x y w h => h, fun z => ⟨⟨trivial, ⟨trivial, trivial⟩⟩, ⟨rfl, trivial⟩⟩⟩⟩, fun a c d j l m n o p q t u x y w h => h, ⟨trivial, fun a c d j l m n o p q A t u x y w h => h, ⟨⟨trivial, ⟨⟨trivial, trivial⟩, trivial⟩⟩, ⟨⟨trivial, ⟨fun l m n A C D E F G t u x y w h => h, fun _ l m n A C D E F G t u x y w h => h, fun I => ⟨trivial, ⟨⟨trivial, trivial⟩, ⟨⟨trivial, ⟨trivial, ⟨trivial, ⟨trivial, ⟨trivial, ⟨trivial, ⟨⟨trivial, trivial⟩, trivial⟩⟩⟩⟩⟩⟩⟩, trivial⟩⟩⟩⟩⟩, ⟨trivial, trivial⟩⟩⟩⟩⟩⟩⟩⟩⟩⟩
theorem V13.cfgOk (B : Nat) : CfgOk (V13.cfg B) := cfgOk_of (by kernel_rfl) (by kernel_rfl)
theorem V13.sound {a : Option Addr} {d f : Nat} {g : Option Addr} {i j : Nat} {l : Option Addr} {m n : Nat} {o : Option Addr} {p q : Nat} {r : Int} {w : World} {R : Value → World → Prop} (h : V13.vc w.heap.size R a d f g i j l m n o p q r w) : Calls Try.prog 13 ⟨[.slice a d f, .slice g i j, .slice l m n, .slice o p q, .int .i64 r]⟩ w fun e w' => ∃ v, e = .returned v ∧ R v w' :=
  calls_wpfP (c := V13.cfg w.heap.size) (fn := Try.f13) (x := V13.code) (V13.cuts w.heap.size R) V13.h (V13.cfgOk _) mixed Try.func13 (by kernel_rfl) (by kernel_rfl) (by kernel_rfl) rfl (V13.obl _ _) ((V13.vc_eq _ _ a d f g i j l m n o p q r _).symm ▸ h)
end Go.Proofs.Ytlccbaemcfjdoaa
