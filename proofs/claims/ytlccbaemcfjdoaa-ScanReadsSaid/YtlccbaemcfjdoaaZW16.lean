/-
  What the engine makes of the loaded functions 16: conditions under which a call returns as told, and proofs of that.
  Conditions: none. Printed by a program of this project.
-/
import Derived.Test.YtlccbaemcfjdoaaZWH
set_option linter.unusedVariables false
set_option maxRecDepth 100000
namespace Go.Proofs.Ytlccbaemcfjdoaa
def V16.l3 (B : Nat) (R : Value → World → Prop) : Nat → Addr → Int → Int → Option Addr → Nat → Nat → Int → Nat → Option Addr → Nat → Nat → Addr → Option Addr → Nat → Nat → Option Addr → Nat → Nat → Option Addr → Nat → Nat → Int → Int → Int → World → Prop
  | 0 => fun _ _ _ _ _ _ _ _ _ _ _ _ _ _ _ _ _ _ _ _ _ _ _ _ _ => False
  | k + 1 => fun a c d f g i j l m n o p q r s t x y z A C D E F w =>
    if (decide (j < c)) = true
    then (CallK Try.prog 64 [.pointer (some a), .pointer (some p)] B w [l] fun v G => 
     ∃ (I : Int) (J : Bool) (L : Int), v = .tuple ⟨[.int .i64 I, .bool J, .int .i64 L]⟩ ∧
     if (decide (I < D)) = false
     then (if (decide (I ≥ d)) = false
      then (∃ M : Addr, f = some M ∧ (0 : Int) ≤ I ∧ I < (g : Int) ∧
      ∃ N : Bool, G.cell? (M.add I.toNat) = some (.bool N) ∧
      if N = false
       then (if (!(J == (j == IntKind.wrap .i64 (c - 1)))) = false
        then (if (L != 0) = true
         then (Ret B G (R (.bool false)))
         else (∃ O : Addr, f = some O ∧ (0 : Int) ≤ I ∧ I < (g : Int) ∧
         (∃ u, G.cell? ((O.add I.toNat).add 0) = some u) ∧ G.frozen? ((O.add I.toNat).add 0) = false ∧
         let P := G.setCell ((O.add I.toNat).add 0) (.bool true);
         (V16.l3 B R k) a c d f g i (IntKind.wrap .i64 (j + 1)) l m n o p q r s t x y z A C D E F P))
        else (Ret B G (R (.bool false))))
       else (Ret B G (R (.bool false))))
      else (Ret B G (R (.bool false))))
     else (Ret B G (R (.bool false))))
    else (CallK Try.prog 64 [.pointer (some a), .pointer (some p)] B w [l] fun v G => 
     ∃ (Q : Int) (S : Bool) (T : Int), v = .tuple ⟨[.int .i64 Q, .bool S, .int .i64 T]⟩ ∧
     if (Q == (-1)) = true
     then (if S = true
      then (if (T == 0) = true
       then (CallK Try.prog 46 [.pointer (some p), .slice q r s] B G [l] fun U P => 
        ∃ W : Bool, U = .bool W ∧
        if W = true
        then (CallK Try.prog 65 [] B P [l] fun X Y => 
         ∃ Z : Bool, X = .bool Z ∧
         Ret B Y (R (.bool Z)))
        else (Ret B P (R (.bool false))))
       else (Ret B G (R (.bool false))))
      else (Ret B G (R (.bool false))))
     else (Ret B G (R (.bool false))))
def V16.l2 (B : Nat) (R : Value → World → Prop) : Nat → Addr → Int → Int → Int → Nat → Option Addr → Nat → Nat → Addr → Option Addr → Nat → Nat → Option Addr → Nat → Nat → Option Addr → Nat → Nat → Int → Int → Int → World → Prop
  | 0 => fun _ _ _ _ _ _ _ _ _ _ _ _ _ _ _ _ _ _ _ _ _ _ => False
  | k + 1 => fun a c d f g i j l m n o p q r s t u x y z A w =>
    if (decide (f < (r : Int))) = true
    then (∃ C : Addr, q = some C ∧ (0 : Int) ≤ f ∧ f < (r : Int) ∧
    ∃ D : Int, w.cell? ((C.add (f.toNat * 8)).add 0) = some (.int .i64 D) ∧
    ∃ E : Addr, i = some E ∧ (0 : Int) ≤ D ∧ D < (j : Int) ∧
    ∃ F : Int, w.cell? ((E.add (D.toNat * 4)).add 2) = some (.int .i64 F) ∧
    ∃ G : Addr, t = some G ∧ (0 : Int) ≤ f ∧ f < (u : Int) ∧
    ∃ I : Int, w.cell? (G.add f.toNat) = some (.int .i64 I) ∧
    ∃ J : Addr, q = some J ∧ (0 : Int) ≤ f ∧ f < (r : Int) ∧
    ∃ L : Int, w.cell? ((J.add (f.toNat * 8)).add 0) = some (.int .i64 L) ∧
    ∃ M : Addr, i = some M ∧ (0 : Int) ≤ L ∧ L < (j : Int) ∧
    ∃ N : Int, w.cell? ((M.add (L.toNat * 4)).add 0) = some (.int .i64 N) ∧
    ∃ O : Int, w.cell? ((M.add (L.toNat * 4)).add 1) = some (.int .i64 O) ∧
    ∃ P : Int, w.cell? ((M.add (L.toNat * 4)).add 2) = some (.int .i64 P) ∧
    ∃ (Q : Option Addr) (S T : Nat), w.cell? ((M.add (L.toNat * 4)).add 3) = some (.slice Q S T) ∧
    CallK Try.prog 33 [.agg ⟨[.int .i64 N, .int .i64 O, .int .i64 P, .slice Q S T]⟩] B w [g] fun v U => 
     ∃ W : Int, v = .int .i64 W ∧ U.cell? (G.add f.toNat) = some (.int .i64 I) ∧ (V16.l2 B R k) a (IntKind.wrap .i64 (IntKind.wrap .i64 (c + 2) + F)) (IntKind.wrap .i64 (I + W)) (IntKind.wrap .i64 (f + 1)) g i j l m n o p q r s t u x y z A U)
    else (RunK Try.prog (Instr.makeSlice 45 (.int .i64 (o : Int)) (.int .i64 (o : Int))) B w [g] fun v U => 
     ∃ (X : Option Addr) (Y Z : Nat), v = .slice X Y Z ∧
     ∃ a0, V16.l3 B R a0 a c d X Y Z 0 g i j l m n o p q r s t u x y z A U)
def V16.b1 (B : Nat) (R : Value → World → Prop) (a : Addr) (c : Nat) (d : Option Addr) (f g : Nat) (i : Addr) (j : Option Addr) (l m : Nat) (n : Option Addr) (o p : Nat) (q : Option Addr) (r s : Nat) (t u x : Int) (w : World) : Prop :=
  ∃ y, V16.l2 B R y a 0 t 0 c d f g i j l m n o p q r s t u x w
def V16.b0 (B : Nat) (R : Value → World → Prop) (a : Bool) (c : Nat) (d : Option Addr) (f g : Nat) (i : Addr) (j : Option Addr) (l m : Nat) (n : Option Addr) (o p : Nat) (q : Option Addr) (r s : Nat) (t u x : Int) (w : World) : Prop :=
  if (!a) = true
  then (Ret B w (R (.bool false)))
  else (CallK Try.prog 63 [.agg ⟨[.slice d f g]⟩, .int .i64 x] B w [c] fun v y => 
   ∃ z : Option Addr, v = .pointer z ∧
   caseP z
   (False)
   (fun A => V16.b1 B R A c d f g i j l m n o p q r s t u x y))
def V16.vc (B : Nat) (R : Value → World → Prop) (a : Option Addr) (c d : Nat) (f : Option Addr) (g i : Nat) (j : Option Addr) (l m : Nat) (n : Int) (w : World) : Prop :=
  CallK Try.prog 62 [.slice a c d, .slice f g i, .slice j l m, .int .u8 n, .int .u8 0] B w [] fun v o => 
  ∃ (p : Option Addr) (q r : Nat) (s t : Option Addr) (u x : Nat) (y : Option Addr) (z A : Nat) (C : Option Addr) (D E : Nat) (F G I : Int) (J : Bool), v = .tuple ⟨[.agg ⟨[.slice p q r, .pointer s, .slice t u x, .slice y z A, .slice C D E, .int .i64 F, .int .i64 G, .int .i64 I]⟩, .bool J]⟩ ∧
  caseP s
  (∀ L : Nat, o.heap.size ≤ L → False)
  (fun M => ∀ L : Nat, o.heap.size ≤ L →
  V16.b0 B R J L p q r M t u x y z A C D E F G I o)
noncomputable def V16.cfg (B : Nat) : Cfg := ⟨Try.prog, ⟨159, B⟩, [], hasN [33, 46, 62, 63, 64, 65], hasN []⟩
noncomputable def V16.code : Code := (Try.f16.body).getD .skip
noncomputable def V16.cuts (B : Nat) (R : Value → World → Prop) : Nat → Cut := nthC [⟨[(10, .one (.bool))], [(9, 101, [.slice, .ptr, .slice, .slice, .slice, .int .i64, .int .i64, .int .i64])], fun fs vs bs w => V16.b0 B R (bV (nthV vs 0)) (nthB bs 0).blk (slA (nthV (nthB bs 0).cells 0)) (slL (nthV (nthB bs 0).cells 0)) (slC (nthV (nthB bs 0).cells 0)) (pV (nthV (nthB bs 0).cells 1)) (slA (nthV (nthB bs 0).cells 2)) (slL (nthV (nthB bs 0).cells 2)) (slC (nthV (nthB bs 0).cells 2)) (slA (nthV (nthB bs 0).cells 3)) (slL (nthV (nthB bs 0).cells 3)) (slC (nthV (nthB bs 0).cells 3)) (slA (nthV (nthB bs 0).cells 4)) (slL (nthV (nthB bs 0).cells 4)) (slC (nthV (nthB bs 0).cells 4)) (iV (nthV (nthB bs 0).cells 5)) (iV (nthV (nthB bs 0).cells 6)) (iV (nthV (nthB bs 0).cells 7)) w⟩,
  ⟨[(11, .one (.ptr))], [(9, 101, [.slice, .ptr, .slice, .slice, .slice, .int .i64, .int .i64, .int .i64])], fun fs vs bs w => V16.b1 B R (pV (nthV vs 0)) (nthB bs 0).blk (slA (nthV (nthB bs 0).cells 0)) (slL (nthV (nthB bs 0).cells 0)) (slC (nthV (nthB bs 0).cells 0)) (pV (nthV (nthB bs 0).cells 1)) (slA (nthV (nthB bs 0).cells 2)) (slL (nthV (nthB bs 0).cells 2)) (slC (nthV (nthB bs 0).cells 2)) (slA (nthV (nthB bs 0).cells 3)) (slL (nthV (nthB bs 0).cells 3)) (slC (nthV (nthB bs 0).cells 3)) (slA (nthV (nthB bs 0).cells 4)) (slL (nthV (nthB bs 0).cells 4)) (slC (nthV (nthB bs 0).cells 4)) (iV (nthV (nthB bs 0).cells 5)) (iV (nthV (nthB bs 0).cells 6)) (iV (nthV (nthB bs 0).cells 7)) w⟩,
  ⟨[(11, .one (.ptr)), (12, .one (.int .i64)), (13, .one (.int .i64)), (14, .one (.int .i64))], [(9, 101, [.slice, .ptr, .slice, .slice, .slice, .int .i64, .int .i64, .int .i64])], fun fs vs bs w => V16.l2 B R (nthN fs 0) (pV (nthV vs 0)) (iV (nthV vs 1)) (iV (nthV vs 2)) (iV (nthV vs 3)) (nthB bs 0).blk (slA (nthV (nthB bs 0).cells 0)) (slL (nthV (nthB bs 0).cells 0)) (slC (nthV (nthB bs 0).cells 0)) (pV (nthV (nthB bs 0).cells 1)) (slA (nthV (nthB bs 0).cells 2)) (slL (nthV (nthB bs 0).cells 2)) (slC (nthV (nthB bs 0).cells 2)) (slA (nthV (nthB bs 0).cells 3)) (slL (nthV (nthB bs 0).cells 3)) (slC (nthV (nthB bs 0).cells 3)) (slA (nthV (nthB bs 0).cells 4)) (slL (nthV (nthB bs 0).cells 4)) (slC (nthV (nthB bs 0).cells 4)) (iV (nthV (nthB bs 0).cells 5)) (iV (nthV (nthB bs 0).cells 6)) (iV (nthV (nthB bs 0).cells 7)) w⟩,
  ⟨[(11, .one (.ptr)), (12, .one (.int .i64)), (13, .one (.int .i64)), (15, .one (.slice)), (16, .one (.int .i64))], [(9, 101, [.slice, .ptr, .slice, .slice, .slice, .int .i64, .int .i64, .int .i64])], fun fs vs bs w => V16.l3 B R (nthN fs 0) (pV (nthV vs 0)) (iV (nthV vs 1)) (iV (nthV vs 2)) (slA (nthV vs 3)) (slL (nthV vs 3)) (slC (nthV vs 3)) (iV (nthV vs 4)) (nthB bs 0).blk (slA (nthV (nthB bs 0).cells 0)) (slL (nthV (nthB bs 0).cells 0)) (slC (nthV (nthB bs 0).cells 0)) (pV (nthV (nthB bs 0).cells 1)) (slA (nthV (nthB bs 0).cells 2)) (slL (nthV (nthB bs 0).cells 2)) (slC (nthV (nthB bs 0).cells 2)) (slA (nthV (nthB bs 0).cells 3)) (slL (nthV (nthB bs 0).cells 3)) (slC (nthV (nthB bs 0).cells 3)) (slA (nthV (nthB bs 0).cells 4)) (slL (nthV (nthB bs 0).cells 4)) (slC (nthV (nthB bs 0).cells 4)) (iV (nthV (nthB bs 0).cells 5)) (iV (nthV (nthB bs 0).cells 6)) (iV (nthV (nthB bs 0).cells 7)) w⟩]
noncomputable def V16.h : H := .s (.z) (.cut 0 (.z) (.s (.s (.z) (.c (.s (.z) (.z)) (.z))) (.cut 1 (.z) (.s (.s (.z) (.c (.s (.z) (.z)) (.z))) (.s (.r [[0, 1, 2, 3, 4]]) (.s (.s (.z) (.b (.l 2 (.s (.s (.z) (.c (.z) (.z))) (.s (.b (.s (.r [[0, 1, 2, 3, 4, 5, 6, 7, 8, 9, 10, 11, 12, 13, 14, 15]]) (.r [[0, 1, 2, 3, 4, 5, 6, 7, 8, 9, 10, 11, 12, 13, 14, 15, 16, 17, 18]]))) (.z)))))) (.s (.z) (.s (.s (.z) (.b (.l 3 (.s (.s (.z) (.c (.z) (.z))) (.s (.b (.s (.z) (.s (.s (.z) (.c (.s (.z) (.z)) (.z))) (.z)))) (.z)))))) (.s (.z) (.s (.z) (.z)))))))))))
theorem V16.vc_eq (B : Nat) (R : Value → World → Prop) (a : Option Addr) (c d : Nat) (f : Option Addr) (g i : Nat) (j : Option Addr) (l m : Nat) (n : Int) (w : World) : wpf (V16.cfg B) (V16.cuts B R) V16.code V16.h [] (postOf Try.prog B (Try.f16.results.toList) R) (argE 0 [.slice a c d, .slice f g i, .slice j l m, .int .u8 n]) [] w = V16.vc B R a c d f g i j l m n w := by kernel_rfl
theorem V16.obl (B : Nat) (R : Value → World → Prop) : oblP (V16.cfg B) (V16.cuts B R) V16.code V16.h [] (postOf Try.prog B (Try.f16.results.toList) R) := by
  have e : oblP (V16.cfg B) (V16.cuts B R) V16.code V16.h [] (postOf Try.prog B (Try.f16.results.toList) R) = (True ∧ (True ∧ (∀ (a : Bool) (c : Nat) (d : Option Addr) (f g : Nat) (i : Addr) (j : Option Addr) (l m : Nat) (n : Option Addr) (o p : Nat) (q : Option Addr) (r s : Nat) (t u x : Int) (w : World), V16.b0 B R a c d f g i j l m n o p q r s t u x w → V16.b0 B R a c d f g i j l m n o p q r s t u x w) ∧ ((True ∧ ((True ∧ True) ∧ True)) ∧ (True ∧ (∀ (y : Addr) (c : Nat) (d : Option Addr) (f g : Nat) (i : Addr) (j : Option Addr) (l m : Nat) (n : Option Addr) (o p : Nat) (q : Option Addr) (r s : Nat) (t u x : Int) (w : World), V16.b1 B R y c d f g i j l m n o p q r s t u x w → V16.b1 B R y c d f g i j l m n o p q r s t u x w) ∧ ((True ∧ ((True ∧ True) ∧ True)) ∧ ((true = true) ∧ ((True ∧ ((∀ (y : Addr) (z A C : Int) (c : Nat) (d : Option Addr) (f g : Nat) (i : Addr) (j : Option Addr) (l m : Nat) (n : Option Addr) (o p : Nat) (q : Option Addr) (r s : Nat) (t u x : Int) (w : World), ¬ V16.l2 B R 0 y z A C c d f g i j l m n o p q r s t u x w) ∧ (∀ D, ∀ (y : Addr) (z A C : Int) (c : Nat) (d : Option Addr) (f g : Nat) (i : Addr) (j : Option Addr) (l m : Nat) (n : Option Addr) (o p : Nat) (q : Option Addr) (r s : Nat) (t u x : Int) (w : World), V16.l2 B R (D + 1) y z A C c d f g i j l m n o p q r s t u x w → V16.l2 B R (D + 1) y z A C c d f g i j l m n o p q r s t u x w) ∧ ∀ D : Nat, ((True ∧ (True ∧ True)) ∧ (((true = true) ∧ (true = true)) ∧ True)))) ∧ (True ∧ ((True ∧ ((∀ (y : Addr) (z A : Int) (E : Option Addr) (F G : Nat) (I : Int) (c : Nat) (d : Option Addr) (f g : Nat) (i : Addr) (j : Option Addr) (l m : Nat) (n : Option Addr) (o p : Nat) (q : Option Addr) (r s : Nat) (t u x : Int) (w : World), ¬ V16.l3 B R 0 y z A E F G I c d f g i j l m n o p q r s t u x w) ∧ (∀ J, ∀ (y : Addr) (z A : Int) (E : Option Addr) (F G : Nat) (I : Int) (c : Nat) (d : Option Addr) (f g : Nat) (i : Addr) (j : Option Addr) (l m : Nat) (n : Option Addr) (o p : Nat) (q : Option Addr) (r s : Nat) (t u x : Int) (w : World), V16.l3 B R (J + 1) y z A E F G I c d f g i j l m n o p q r s t u x w → V16.l3 B R (J + 1) y z A E F G I c d f g i j l m n o p q r s t u x w) ∧ ∀ J : Nat, ((True ∧ (True ∧ True)) ∧ ((True ∧ ((True ∧ ((True ∧ True) ∧ True)) ∧ True)) ∧ True)))) ∧ (True ∧ (True ∧ True))))))))))) := by kernel_rfl
  rw [e]
  exact ⟨trivial, ⟨trivial, fun a c d f g i j l m n o p q r s t u x w h => h, ⟨⟨trivial, ⟨⟨trivial, trivial⟩, trivial⟩⟩, ⟨trivial, fun y c d f g i j l m n o p q r s t u x w h => h, ⟨⟨trivial, ⟨⟨trivial, trivial⟩, trivial⟩⟩, ⟨rfl, ⟨⟨trivial, ⟨fun y z A C c d f g i j l m n o p q r s t u x w h => h, fun _ y z A C c d f g i j l m n o p q r s t u x w h => h, fun D => ⟨⟨trivial, ⟨trivial, trivial⟩⟩, ⟨⟨rfl, rfl⟩, trivial⟩⟩⟩⟩, ⟨trivial, ⟨⟨trivial, ⟨fun y z A E F G I c d f g i j l m n o p q r s t u x w h => h, fun _ y z A E F G I c d f g i j l m n o p q r s t u x w h => h, fun J => ⟨⟨trivial, ⟨trivial, trivial⟩⟩, ⟨⟨trivial, ⟨⟨trivial, ⟨⟨trivial, trivial⟩, trivial⟩⟩, trivial⟩⟩, trivial⟩⟩⟩⟩, ⟨trivial, ⟨trivial, trivial⟩⟩⟩⟩⟩⟩⟩⟩⟩⟩⟩
theorem V16.cfgOk (B : Nat) : CfgOk (V16.cfg B) := cfgOk_of (by kernel_rfl) (by kernel_rfl)
theorem V16.sound {a : Option Addr} {d f : Nat} {g : Option Addr} {i j : Nat} {l : Option Addr} {m n : Nat} {o : Int} {w : World} {R : Value → World → Prop} (h : V16.vc w.heap.size R a d f g i j l m n o w) : Calls Try.prog 16 ⟨[.slice a d f, .slice g i j, .slice l m n, .int .u8 o]⟩ w fun e w' => ∃ v, e = .returned v ∧ R v w' :=
  calls_wpfP (c := V16.cfg w.heap.size) (fn := Try.f16) (x := V16.code) (V16.cuts w.heap.size R) V16.h (V16.cfgOk _) mixed Try.func16 (by kernel_rfl) (by kernel_rfl) (by kernel_rfl) rfl (V16.obl _ _) ((V16.vc_eq _ _ a d f g i j l m n o _).symm ▸ h)
end Go.Proofs.Ytlccbaemcfjdoaa
