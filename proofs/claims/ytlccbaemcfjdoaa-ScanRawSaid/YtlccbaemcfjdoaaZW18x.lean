/-
  What the engine makes of the loaded functions 18: conditions under which a call returns as told, and proofs of that.
  Conditions: none. Printed by a program of this project.
-/
import Derived.Test.YtlccbaemcfjdoaaZWH
set_option linter.unusedVariables false
set_option maxRecDepth 100000
namespace Go.Proofs.Ytlccbaemcfjdoaa
def V18.l3 (B : Nat) (R : Value → World → Prop) : Nat → Option Addr → Nat → Nat → Option Addr → Nat → Nat → Int → Int → Nat → Option Addr → Nat → Nat → Addr → Option Addr → Nat → Nat → Option Addr → Nat → Nat → Option Addr → Nat → Nat → Int → Int → Int → World → Prop
  | 0 => fun _ _ _ _ _ _ _ _ _ _ _ _ _ _ _ _ _ _ _ _ _ _ _ _ _ _ => False
  | k + 1 => fun a c d f g i j l m n o p q r s t u x y z A C D E F w =>
    if (decide (l < j)) = true
    then (∃ G : Addr, f = some G ∧ (0 : Int) ≤ l ∧ l < (g : Int) ∧
    ∃ I : Int, w.cell? (G.add l.toNat) = some (.int .i64 I) ∧
    CallK Try.prog 66 [.pointer (some q), .agg ⟨[.slice n o p]⟩, .int .i64 I] B w [m] fun v J => 
     ∃ (L : Option Addr) (M N : Nat) (O : Int), v = .tuple ⟨[.slice L M N, .int .i64 O]⟩ ∧
     CallK Try.prog 67 [.slice a c d, .agg ⟨[.slice n o p]⟩, .int .i64 I] B J [m] fun P Q => 
     ∃ (S : Option Addr) (T U : Nat) (W : Int), P = .tuple ⟨[.slice S T U, .int .i64 W]⟩ ∧
     CallK Try.prog 68 [.slice L M N, .slice S T U] B Q [m] fun X Y => 
     ∃ Z : Bool, X = .bool Z ∧
     if (!Z) = false
     then (if (O != W) = false
      then (CallK Try.prog 69 [.pointer (some q), .slice a c d, .agg ⟨[.slice n o p]⟩, .int .i64 I] B Y [m] fun a0 a1 => 
       ∃ a2 : Bool, a0 = .bool a2 ∧
       if (!a2) = true
       then (Ret B a1 (R (.bool false)))
       else ((V18.l3 B R k) a c d f g i j (IntKind.wrap .i64 (l + 1)) m n o p q r s t u x y z A C D E F a1))
      else (Ret B Y (R (.bool false))))
     else (Ret B Y (R (.bool false))))
    else (CallK Try.prog 46 [.pointer (some q), .slice a c d] B w [m] fun v J => 
     ∃ a3 : Bool, v = .bool a3 ∧
     if a3 = true
     then (CallK Try.prog 65 [] B J [m] fun P Q => 
      ∃ a4 : Bool, P = .bool a4 ∧
      Ret B Q (R (.bool a4)))
     else (Ret B J (R (.bool false))))
def V18.b2 (B : Nat) (R : Value → World → Prop) (a : Int) (c : Option Addr) (d f g : Nat) (i : Option Addr) (j l : Nat) (m : Addr) (n : Option Addr) (o p : Nat) (q : Option Addr) (r s : Nat) (t : Option Addr) (u x : Nat) (y z A : Int) (w : World) : Prop :=
  (1024 : Int) ≠ 0 ∧
  Expo B w [g] fun C => 
  Hide [g] (C.alloc (.cells ⟨[.int .i64 A, .int .i64 a, .int .i64 6, .int .i64 (IntKind.wrap .i64 (Int.tmod (IntKind.wrap .u64 a) 1024))]⟩ 3)) fun D => 
  ∃ E, V18.l3 B R E c d f (some ⟨C.heap.size, 0, none⟩) 4 4 ((4 : Nat) : Int) 0 g i j l m n o p q r s t u x y z A D
def V18.l1 (B : Nat) (R : Value → World → Prop) : Nat → Option Addr → Nat → Nat → Int → Option Addr → Nat → Nat → Int → Nat → Option Addr → Nat → Nat → Addr → Option Addr → Nat → Nat → Option Addr → Nat → Nat → Option Addr → Nat → Nat → Int → Int → Int → World → Prop
  | 0 => fun _ _ _ _ _ _ _ _ _ _ _ _ _ _ _ _ _ _ _ _ _ _ _ _ _ _ => False
  | k + 1 => fun a c d f g i j l m n o p q r s t x y z A C D E F G w =>
    if (decide (IntKind.wrap .i64 (l + 1) < (c : Int))) = true
    then (if (decide (l < 20)) = true
     then (∃ I : Addr, a = some I ∧ (0 : Int) ≤ l ∧ l < (c : Int) ∧
     ∃ J : Int, w.cell? (I.add l.toNat) = some (.int .u8 J) ∧
     ∃ L : Addr, a = some L ∧ (0 : Int) ≤ IntKind.wrap .i64 (l + 1) ∧ IntKind.wrap .i64 (l + 1) < (c : Int) ∧
     ∃ M : Int, w.cell? (L.add ((IntKind.wrap .i64 (l + 1)).toNat)) = some (.int .u8 M) ∧
     ∃ N : Addr, a = some N ∧ (0 : Int) ≤ l ∧ l < (c : Int) ∧
     ∃ O : Int, w.cell? (N.add l.toNat) = some (.int .u8 O) ∧ (8 : Int) ≠ 0 ∧ (0 : Int) ≤ Int.tmod O 8 ∧
     ∃ P : Addr, g = some P ∧ (0 : Int) ≤ IntKind.wrap .i64 (IntKind.wrap .i64 J * 2) ∧ IntKind.wrap .i64 (IntKind.wrap .i64 J * 2) < (i : Int) ∧
     (∃ u, w.cell? ((P.add ((IntKind.wrap .i64 (IntKind.wrap .i64 J * 2)).toNat)).add 0) = some u) ∧ w.frozen? ((P.add ((IntKind.wrap .i64 (IntKind.wrap .i64 J * 2)).toNat)).add 0) = false ∧
     let Q := w.setCell ((P.add ((IntKind.wrap .i64 (IntKind.wrap .i64 J * 2)).toNat)).add 0) (.int .u64 (Int.fdiv (IntKind.wrap .u64 M) (2 ^ min ((Int.tmod O 8).toNat) 64)));
     ∃ S : Addr, g = some S ∧ (0 : Int) ≤ IntKind.wrap .i64 (IntKind.wrap .i64 J * 2) ∧ IntKind.wrap .i64 (IntKind.wrap .i64 J * 2) < (i : Int) ∧
     ∃ T : Int, Q.cell? (S.add ((IntKind.wrap .i64 (IntKind.wrap .i64 J * 2)).toNat)) = some (.int .u64 T) ∧
     CallK Try.prog 70 [.pointer (some q), .int .i64 (IntKind.wrap .i64 (IntKind.wrap .i64 J * 2)), .int .u64 T] B Q [m] fun v U => 
      ∃ W : Int, v = .int .i64 W ∧
      if (W != 0) = true
      then (Ret B U (R (.bool false)))
      else ((V18.l1 B R k) a c d f g i j (IntKind.wrap .i64 (l + 2)) m n o p q r s t x y z A C D E F G U))
     else (V18.b2 B R f g i j m n o p q r s t x y z A C D E F G w))
    else (V18.b2 B R f g i j m n o p q r s t x y z A C D E F G w)
def V18.b0 (B : Nat) (R : Value → World → Prop) (a : Option Addr) (c d : Nat) (f : Int) (g : Bool) (i : Nat) (j : Option Addr) (l m : Nat) (n : Addr) (o : Option Addr) (p q : Nat) (r : Option Addr) (s t : Nat) (u : Option Addr) (x y : Nat) (z A C : Int) (w : World) : Prop :=
  if (!g) = true
  then (Ret B w (R (.bool false)))
  else (Expo B w [i] fun D => 
   Hide [i] (D.alloc (.cells ⟨[]⟩ 51)) fun E => 
   RunK Try.prog (Builtin.append_ #[50, 50] 50 ⟨[.slice (some ⟨D.heap.size, 0, none⟩) 0 0, .slice o p q]⟩) B E [i] fun v F => 
   ∃ (G : Option Addr) (I J : Nat), v = .slice G I J ∧
   ∃ L, V18.l1 B R L a c d f G I J 0 i j l m n o p q r s t u x y z A C F)
def V18.vc (B : Nat) (R : Value → World → Prop) (a : Option Addr) (c d : Nat) (f : Option Addr) (g i : Nat) (j : Option Addr) (l m : Nat) (n : Option Addr) (o p : Nat) (q : Int) (w : World) : Prop :=
  CallK Try.prog 62 [.slice a c d, .slice f g i, .slice j l m, .int .u8 3, .int .u8 0] B w [] fun v r => 
  ∃ (s : Option Addr) (t u : Nat) (x y : Option Addr) (z A : Nat) (C : Option Addr) (D E : Nat) (F : Option Addr) (G I : Nat) (J L M : Int) (N : Bool), v = .tuple ⟨[.agg ⟨[.slice s t u, .pointer x, .slice y z A, .slice C D E, .slice F G I, .int .i64 J, .int .i64 L, .int .i64 M]⟩, .bool N]⟩ ∧
  caseP x
  (∀ O : Nat, r.heap.size ≤ O → False)
  (fun P => ∀ O : Nat, r.heap.size ≤ O →
  V18.b0 B R n o p q N O s t u P y z A C D E F G I J L M r)
noncomputable def V18.cfg (B : Nat) : Cfg := ⟨Try.prog, ⟨134, B⟩, [], hasN [46, 62, 65, 66, 67, 68, 69, 70], hasN []⟩
noncomputable def V18.code : Code := (Try.f18.body).getD .skip
noncomputable def V18.cuts (B : Nat) (R : Value → World → Prop) : Nat → Cut := nthC [⟨[(3, .one (.slice)), (4, .one (.int .i64)), (12, .one (.bool))], [(11, 101, [.slice, .ptr, .slice, .slice, .slice, .int .i64, .int .i64, .int .i64])], fun fs vs bs w => V18.b0 B R (slA (nthV vs 0)) (slL (nthV vs 0)) (slC (nthV vs 0)) (iV (nthV vs 1)) (bV (nthV vs 2)) (nthB bs 0).blk (slA (nthV (nthB bs 0).cells 0)) (slL (nthV (nthB bs 0).cells 0)) (slC (nthV (nthB bs 0).cells 0)) (pV (nthV (nthB bs 0).cells 1)) (slA (nthV (nthB bs 0).cells 2)) (slL (nthV (nthB bs 0).cells 2)) (slC (nthV (nthB bs 0).cells 2)) (slA (nthV (nthB bs 0).cells 3)) (slL (nthV (nthB bs 0).cells 3)) (slC (nthV (nthB bs 0).cells 3)) (slA (nthV (nthB bs 0).cells 4)) (slL (nthV (nthB bs 0).cells 4)) (slC (nthV (nthB bs 0).cells 4)) (iV (nthV (nthB bs 0).cells 5)) (iV (nthV (nthB bs 0).cells 6)) (iV (nthV (nthB bs 0).cells 7)) w⟩,
  ⟨[(3, .one (.slice)), (4, .one (.int .i64)), (13, .one (.slice)), (14, .one (.int .i64))], [(11, 101, [.slice, .ptr, .slice, .slice, .slice, .int .i64, .int .i64, .int .i64])], fun fs vs bs w => V18.l1 B R (nthN fs 0) (slA (nthV vs 0)) (slL (nthV vs 0)) (slC (nthV vs 0)) (iV (nthV vs 1)) (slA (nthV vs 2)) (slL (nthV vs 2)) (slC (nthV vs 2)) (iV (nthV vs 3)) (nthB bs 0).blk (slA (nthV (nthB bs 0).cells 0)) (slL (nthV (nthB bs 0).cells 0)) (slC (nthV (nthB bs 0).cells 0)) (pV (nthV (nthB bs 0).cells 1)) (slA (nthV (nthB bs 0).cells 2)) (slL (nthV (nthB bs 0).cells 2)) (slC (nthV (nthB bs 0).cells 2)) (slA (nthV (nthB bs 0).cells 3)) (slL (nthV (nthB bs 0).cells 3)) (slC (nthV (nthB bs 0).cells 3)) (slA (nthV (nthB bs 0).cells 4)) (slL (nthV (nthB bs 0).cells 4)) (slC (nthV (nthB bs 0).cells 4)) (iV (nthV (nthB bs 0).cells 5)) (iV (nthV (nthB bs 0).cells 6)) (iV (nthV (nthB bs 0).cells 7)) w⟩,
  ⟨[(4, .one (.int .i64)), (13, .one (.slice))], [(11, 101, [.slice, .ptr, .slice, .slice, .slice, .int .i64, .int .i64, .int .i64])], fun fs vs bs w => V18.b2 B R (iV (nthV vs 0)) (slA (nthV vs 1)) (slL (nthV vs 1)) (slC (nthV vs 1)) (nthB bs 0).blk (slA (nthV (nthB bs 0).cells 0)) (slL (nthV (nthB bs 0).cells 0)) (slC (nthV (nthB bs 0).cells 0)) (pV (nthV (nthB bs 0).cells 1)) (slA (nthV (nthB bs 0).cells 2)) (slL (nthV (nthB bs 0).cells 2)) (slC (nthV (nthB bs 0).cells 2)) (slA (nthV (nthB bs 0).cells 3)) (slL (nthV (nthB bs 0).cells 3)) (slC (nthV (nthB bs 0).cells 3)) (slA (nthV (nthB bs 0).cells 4)) (slL (nthV (nthB bs 0).cells 4)) (slC (nthV (nthB bs 0).cells 4)) (iV (nthV (nthB bs 0).cells 5)) (iV (nthV (nthB bs 0).cells 6)) (iV (nthV (nthB bs 0).cells 7)) w⟩,
  ⟨[(13, .one (.slice)), (84, .one (.slice)), (85, .one (.int .i64)), (86, .one (.int .i64))], [(11, 101, [.slice, .ptr, .slice, .slice, .slice, .int .i64, .int .i64, .int .i64])], fun fs vs bs w => V18.l3 B R (nthN fs 0) (slA (nthV vs 0)) (slL (nthV vs 0)) (slC (nthV vs 0)) (slA (nthV vs 1)) (slL (nthV vs 1)) (slC (nthV vs 1)) (iV (nthV vs 2)) (iV (nthV vs 3)) (nthB bs 0).blk (slA (nthV (nthB bs 0).cells 0)) (slL (nthV (nthB bs 0).cells 0)) (slC (nthV (nthB bs 0).cells 0)) (pV (nthV (nthB bs 0).cells 1)) (slA (nthV (nthB bs 0).cells 2)) (slL (nthV (nthB bs 0).cells 2)) (slC (nthV (nthB bs 0).cells 2)) (slA (nthV (nthB bs 0).cells 3)) (slL (nthV (nthB bs 0).cells 3)) (slC (nthV (nthB bs 0).cells 3)) (slA (nthV (nthB bs 0).cells 4)) (slL (nthV (nthB bs 0).cells 4)) (slC (nthV (nthB bs 0).cells 4)) (iV (nthV (nthB bs 0).cells 5)) (iV (nthV (nthB bs 0).cells 6)) (iV (nthV (nthB bs 0).cells 7)) w⟩]
noncomputable def V18.h : H := .s (.z) (.cut 0 (.z) (.s (.s (.z) (.c (.s (.z) (.z)) (.z))) (.s (.z) (.cut 2 (.s (.z) (.b (.l 1 (.s (.s (.z) (.c (.z) (.z))) (.s (.b (.s (.z) (.s (.r [[0, 1, 2, 3, 4, 5, 6, 7, 8, 9, 10, 11, 12, 13, 14, 15]]) (.s (.r [[0, 1, 2, 3, 4, 5, 6, 7, 8]]) (.c (.s (.z) (.z)) (.z)))))) (.z)))))) (.s (.s (.z) (.b (.l 3 (.s (.z) (.s (.c (.z) (.z)) (.s (.b (.s (.z) (.s (.z) (.s (.z) (.s (.z) (.c (.s (.z) (.z)) (.z))))))) (.z))))))) (.s (.z) (.z)))))))
theorem V18.vc_eq (B : Nat) (R : Value → World → Prop) (a : Option Addr) (c d : Nat) (f : Option Addr) (g i : Nat) (j : Option Addr) (l m : Nat) (n : Option Addr) (o p : Nat) (q : Int) (w : World) : wpf (V18.cfg B) (V18.cuts B R) V18.code V18.h [] (postOf Try.prog B (Try.f18.results.toList) R) (argE 0 [.slice a c d, .slice f g i, .slice j l m, .slice n o p, .int .i64 q]) [] w = V18.vc B R a c d f g i j l m n o p q w := by kernel_rfl
theorem V18.obl (B : Nat) (R : Value → World → Prop) : oblP (V18.cfg B) (V18.cuts B R) V18.code V18.h [] (postOf Try.prog B (Try.f18.results.toList) R) := by
  have e : oblP (V18.cfg B) (V18.cuts B R) V18.code V18.h [] (postOf Try.prog B (Try.f18.results.toList) R) = (True ∧ (True ∧ (∀ (a : Option Addr) (c d : Nat) (f : Int) (g : Bool) (i : Nat) (j : Option Addr) (l m : Nat) (n : Addr) (o : Option Addr) (p q : Nat) (r : Option Addr) (s t : Nat) (u : Option Addr) (x y : Nat) (z A C : Int) (w : World), V18.b0 B R a c d f g i j l m n o p q r s t u x y z A C w → V18.b0 B R a c d f g i j l m n o p q r s t u x y z A C w) ∧ ((True ∧ ((True ∧ True) ∧ True)) ∧ (True ∧ ((True ∧ ((∀ (a : Option Addr) (c d : Nat) (f : Int) (D : Option Addr) (E F : Nat) (G : Int) (i : Nat) (j : Option Addr) (l m : Nat) (n : Addr) (o : Option Addr) (p q : Nat) (r : Option Addr) (s t : Nat) (u : Option Addr) (x y : Nat) (z A C : Int) (w : World), ¬ V18.l1 B R 0 a c d f D E F G i j l m n o p q r s t u x y z A C w) ∧ (∀ I, ∀ (a : Option Addr) (c d : Nat) (f : Int) (D : Option Addr) (E F : Nat) (G : Int) (i : Nat) (j : Option Addr) (l m : Nat) (n : Addr) (o : Option Addr) (p q : Nat) (r : Option Addr) (s t : Nat) (u : Option Addr) (x y : Nat) (z A C : Int) (w : World), V18.l1 B R (I + 1) a c d f D E F G i j l m n o p q r s t u x y z A C w → V18.l1 B R (I + 1) a c d f D E F G i j l m n o p q r s t u x y z A C w) ∧ ∀ I : Nat, ((True ∧ (True ∧ True)) ∧ ((True ∧ ((true = true) ∧ ((true = true) ∧ ((True ∧ True) ∧ True)))) ∧ True)))) ∧ (∀ (f : Int) (D : Option Addr) (E F i : Nat) (j : Option Addr) (l m : Nat) (n : Addr) (o : Option Addr) (p q : Nat) (r : Option Addr) (s t : Nat) (u : Option Addr) (x y : Nat) (z A C : Int) (w : World), V18.b2 B R f D E F i j l m n o p q r s t u x y z A C w → V18.b2 B R f D E F i j l m n o p q r s t u x y z A C w) ∧ ((True ∧ ((∀ (D : Option Addr) (E F : Nat) (J : Option Addr) (L M : Nat) (N O : Int) (i : Nat) (j : Option Addr) (l m : Nat) (n : Addr) (o : Option Addr) (p q : Nat) (r : Option Addr) (s t : Nat) (u : Option Addr) (x y : Nat) (z A C : Int) (w : World), ¬ V18.l3 B R 0 D E F J L M N O i j l m n o p q r s t u x y z A C w) ∧ (∀ P, ∀ (D : Option Addr) (E F : Nat) (J : Option Addr) (L M : Nat) (N O : Int) (i : Nat) (j : Option Addr) (l m : Nat) (n : Addr) (o : Option Addr) (p q : Nat) (r : Option Addr) (s t : Nat) (u : Option Addr) (x y : Nat) (z A C : Int) (w : World), V18.l3 B R (P + 1) D E F J L M N O i j l m n o p q r s t u x y z A C w → V18.l3 B R (P + 1) D E F J L M N O i j l m n o p q r s t u x y z A C w) ∧ ∀ P : Nat, (True ∧ ((True ∧ True) ∧ ((True ∧ (True ∧ (True ∧ (True ∧ ((True ∧ True) ∧ True))))) ∧ True))))) ∧ (True ∧ True))))))) := by kernel_rfl
  rw [e]
  exact ⟨trivial, ⟨trivial, fun a c d f g i j l m n o p q r s t u x y z A C w h => h, ⟨⟨trivial, ⟨⟨trivial, trivial⟩, trivial⟩⟩, ⟨trivial, ⟨⟨trivial, ⟨fun a c d f D E F G i j l m n o p q r s t u x y z A C w h => h, fun _ a c d f D E F G i j l m n o p q r s t u x y z A C w h => h, fun I => ⟨⟨trivial, ⟨trivial, trivial⟩⟩, ⟨⟨trivial, ⟨rfl, ⟨rfl, ⟨⟨trivial, trivial⟩, trivial⟩⟩⟩⟩, trivial⟩⟩⟩⟩, fun f D E F i j l m n o p q r s t u x y z A C w h => h, ⟨⟨trivial, ⟨fun D E F J L M N O i j l m n o p q r s t u x y z A C w h => h, fun _ D E F J L M N O i j l m n o p q r s t u x y z A C w h => h, fun P => ⟨trivial, ⟨⟨trivial, trivial⟩, ⟨⟨trivial, ⟨trivial, ⟨trivial, ⟨trivial, ⟨⟨trivial, trivial⟩, trivial⟩⟩⟩⟩⟩, trivial⟩⟩⟩⟩⟩, ⟨trivial, trivial⟩⟩⟩⟩⟩⟩⟩
theorem V18.cfgOk (B : Nat) : CfgOk (V18.cfg B) := cfgOk_of (by kernel_rfl) (by kernel_rfl)
theorem V18.sound {a : Option Addr} {d f : Nat} {g : Option Addr} {i j : Nat} {l : Option Addr} {m n : Nat} {o : Option Addr} {p q : Nat} {r : Int} {w : World} {R : Value → World → Prop} (h : V18.vc w.heap.size R a d f g i j l m n o p q r w) : Calls Try.prog 18 ⟨[.slice a d f, .slice g i j, .slice l m n, .slice o p q, .int .i64 r]⟩ w fun e w' => ∃ v, e = .returned v ∧ R v w' :=
  calls_wpfP (c := V18.cfg w.heap.size) (fn := Try.f18) (x := V18.code) (V18.cuts w.heap.size R) V18.h (V18.cfgOk _) mixed Try.func18 (by kernel_rfl) (by kernel_rfl) (by kernel_rfl) rfl (V18.obl _ _) ((V18.vc_eq _ _ a d f g i j l m n o p q r _).symm ▸ h)
end Go.Proofs.Ytlccbaemcfjdoaa
