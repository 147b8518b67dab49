/-
  What the engine makes of the loaded functions 58, 59, 60, 61: conditions under which a call returns as told, and proofs of that.
  Conditions: none. Printed by a program of this project.
-/
import Derived.Test.YtlccbaemcfjdoaaZWE
set_option linter.unusedVariables false
set_option maxRecDepth 100000
namespace Go.Proofs.Ytlccbaemcfjdoaa
def V58.b1 (B : Nat) (R : Value → World → Prop) (a : Option Addr) (c d : Nat) (f : Option Addr) (g i : Nat) (j : Option Addr) (l m : Nat) (n : Int) (w : World) : Prop :=
  Ret B w (R (.tuple ⟨[.slice f g i, .slice j l m, .slice a c d, .int .i64 n]⟩))
def V58.l0 (B : Nat) (R : Value → World → Prop) : Nat → Int → Option Addr → Nat → Nat → Addr → Option Addr → Nat → Nat → Option Addr → Nat → Nat → Int → Int → Int → Nat → Option Addr → Nat → Nat → World → Prop
  | 0 => fun _ _ _ _ _ _ _ _ _ _ _ _ _ _ _ _ _ _ _ => False
  | k + 1 => fun a c d f g i j l m n o p q r s t u x w =>
    if (decide (r > 0)) = true
    then (CallK Try.prog 48 [.pointer (some g), .agg ⟨[.slice t u x]⟩] B w [s] fun v y => 
     ∃ (z A C : Int) (D : Bool) (E : Int) (F : Option Addr) (G I : Nat) (J : Option Addr) (L M : Nat) (N : Option Addr) (O P : Nat), v = .agg ⟨[.int .i64 z, .int .i64 A, .int .i64 C, .bool D, .int .u64 E, .slice F G I, .slice J L M, .slice N O P]⟩ ∧
     ∀ Q : Nat, y.heap.size ≤ Q →
     ∃ S : Addr, t = some S ∧ (0 : Int) ≤ z ∧ z < (u : Int) ∧
     ∃ T : Int, y.cell? ((S.add (z.toNat * 4)).add 0) = some (.int .i64 T) ∧
     ∃ U : Int, y.cell? ((S.add (z.toNat * 4)).add 1) = some (.int .i64 U) ∧
     ∃ W : Int, y.cell? ((S.add (z.toNat * 4)).add 2) = some (.int .i64 W) ∧
     ∃ (X : Option Addr) (Y Z : Nat), y.cell? ((S.add (z.toNat * 4)).add 3) = some (.slice X Y Z) ∧
     CallK Try.prog 33 [.agg ⟨[.int .i64 T, .int .i64 U, .int .i64 W, .slice X Y Z]⟩] B y [Q, s] fun a0 a1 => 
     ∃ a2 : Int, a0 = .int .i64 a2 ∧
     if (decide (a2 > IntKind.wrap .i64 (a - q))) = true
     then (V58.b1 B R c d f i j l m n o q a1)
     else (CallK Try.prog 53 [.slice c d f, .agg ⟨[.slice t u x]⟩, .int .i64 q, .int .i64 p, .agg ⟨[.int .i64 z, .int .i64 A, .int .i64 C, .bool D, .int .u64 E, .slice F G I, .slice J L M, .slice N O P]⟩] B a1 [Q, s] fun a3 a4 => 
      ∃ (a5 : Option Addr) (a6 a7 : Nat) (a8 : Int), a3 = .tuple ⟨[.slice a5 a6 a7, .int .i64 a8]⟩ ∧
      Expo B a4 [Q, s] fun a9 => 
      Hide [Q, s] (a9.alloc (.cells ⟨[.int .i64 z, .int .i64 A, .int .i64 C, .bool D, .int .u64 E, .slice F G I, .slice J L M, .slice N O P]⟩ 67)) fun c0 => 
      RunK Try.prog (Builtin.append_ #[88, 88] 88 ⟨[.slice i j l, .slice (some ⟨a9.heap.size, 0, none⟩) 1 1]⟩) B c0 [Q, s] fun c1 c2 => 
      ∃ (c3 : Option Addr) (c4 c5 : Nat), c1 = .slice c3 c4 c5 ∧
      Expo B c2 [Q, s] fun c6 => 
      Hide [Q, s] (c6.alloc (.cells ⟨[.int .i64 q]⟩ 3)) fun c7 => 
      RunK Try.prog (Builtin.append_ #[42, 42] 42 ⟨[.slice m n o, .slice (some ⟨c6.heap.size, 0, none⟩) 1 1]⟩) B c7 [Q, s] fun c8 c9 => 
      ∃ (d0 : Option Addr) (d1 d2 : Nat), c8 = .slice d0 d1 d2 ∧ (V58.l0 B R k) a a5 a6 a7 g c3 c4 c5 d0 d1 d2 q (IntKind.wrap .i64 (q + a2)) (IntKind.wrap .i64 (r - 1)) s t u x c9))
    else (V58.b1 B R c d f i j l m n o q w)
def V58.vc (B : Nat) (R : Value → World → Prop) (a : Option Addr) (c d : Nat) (f : Option Addr) (g i : Nat) (j l : Int) (m : Option Addr) (n o : Nat) (w : World) : Prop :=
  ∀ p : Nat, w.heap.size ≤ p →
  Expo B w [p] fun q => 
  Hide [p] (q.alloc (.cells ⟨[.slice f g i]⟩ 70)) fun r => 
  CallK Try.prog 51 [.pointer (some (⟨q.heap.size, 0, none⟩))] B r [p] fun v s => 
  ∃ t : Int, v = .int .i64 t ∧ (12 : Int) ≠ 0 ∧
  ∃ u, V58.l0 B R u l m n o (⟨q.heap.size, 0, none⟩) none 0 0 none 0 0 (-1) j (Int.tmod t 12) p a c d s
noncomputable def V58.cfg (B : Nat) : Cfg := ⟨Try.prog, ⟨73, B⟩, [24], hasN [33, 48, 51, 53], hasN []⟩
noncomputable def V58.code : Code := (Try.f58.body).getD .skip
noncomputable def V58.cuts (B : Nat) (R : Value → World → Prop) : Nat → Cut := nthC [⟨[(3, .one (.int .i64)), (4, .one (.slice)), (14, .one (.ptr)), (15, .one (.slice)), (16, .one (.slice)), (17, .one (.int .i64)), (18, .one (.int .i64)), (19, .one (.int .i64))], [(5, 24, [.slice])], fun fs vs bs w => V58.l0 B R (nthN fs 0) (iV (nthV vs 0)) (slA (nthV vs 1)) (slL (nthV vs 1)) (slC (nthV vs 1)) (pV (nthV vs 2)) (slA (nthV vs 3)) (slL (nthV vs 3)) (slC (nthV vs 3)) (slA (nthV vs 4)) (slL (nthV vs 4)) (slC (nthV vs 4)) (iV (nthV vs 5)) (iV (nthV vs 6)) (iV (nthV vs 7)) (nthB bs 0).blk (slA (nthV (nthB bs 0).cells 0)) (slL (nthV (nthB bs 0).cells 0)) (slC (nthV (nthB bs 0).cells 0)) w⟩,
  ⟨[(4, .one (.slice)), (15, .one (.slice)), (16, .one (.slice)), (18, .one (.int .i64))], [], fun fs vs bs w => V58.b1 B R (slA (nthV vs 0)) (slL (nthV vs 0)) (slC (nthV vs 0)) (slA (nthV vs 1)) (slL (nthV vs 1)) (slC (nthV vs 1)) (slA (nthV vs 2)) (slL (nthV vs 2)) (slC (nthV vs 2)) (iV (nthV vs 3)) w⟩]
noncomputable def V58.h : H := .s (.z) (.s (.z) (.s (.z) (.s (.z) (.s (.z) (.cut 1 (.s (.z) (.b (.l 0 (.s (.s (.z) (.c (.z) (.z))) (.s (.b (.s (.z) (.s (.z) (.s (.s (.z) (.c (.z) (.z))) (.s (.z) (.s (.z) (.z))))))) (.z)))))) (.s (.z) (.z)))))))
theorem V58.vc_eq (B : Nat) (R : Value → World → Prop) (a : Option Addr) (c d : Nat) (f : Option Addr) (g i : Nat) (j l : Int) (m : Option Addr) (n o : Nat) (w : World) : wpf (V58.cfg B) (V58.cuts B R) V58.code V58.h [] (postOf Try.prog B (Try.f58.results.toList) R) (argE 0 [.agg ⟨[.slice a c d]⟩, .slice f g i, .int .i64 j, .int .i64 l, .slice m n o]) [] w = V58.vc B R a c d f g i j l m n o w := by kernel_rfl
theorem V58.obl (B : Nat) (R : Value → World → Prop) : oblP (V58.cfg B) (V58.cuts B R) V58.code V58.h [] (postOf Try.prog B (Try.f58.results.toList) R) := by
  have e : oblP (V58.cfg B) (V58.cuts B R) V58.code V58.h [] (postOf Try.prog B (Try.f58.results.toList) R) = (True ∧ (True ∧ (True ∧ (True ∧ (True ∧ ((True ∧ ((∀ (a : Int) (c : Option Addr) (d f : Nat) (g : Addr) (i : Option Addr) (j l : Nat) (m : Option Addr) (n o : Nat) (p q r : Int) (s : Nat) (t : Option Addr) (u x : Nat) (w : World), ¬ V58.l0 B R 0 a c d f g i j l m n o p q r s t u x w) ∧ (∀ y, ∀ (a : Int) (c : Option Addr) (d f : Nat) (g : Addr) (i : Option Addr) (j l : Nat) (m : Option Addr) (n o : Nat) (p q r : Int) (s : Nat) (t : Option Addr) (u x : Nat) (w : World), V58.l0 B R (y + 1) a c d f g i j l m n o p q r s t u x w → V58.l0 B R (y + 1) a c d f g i j l m n o p q r s t u x w) ∧ ∀ y : Nat, ((True ∧ (True ∧ True)) ∧ ((True ∧ (True ∧ ((True ∧ (True ∧ True)) ∧ (True ∧ (True ∧ True))))) ∧ True)))) ∧ (∀ (c : Option Addr) (d f : Nat) (i : Option Addr) (j l : Nat) (m : Option Addr) (n o : Nat) (q : Int) (w : World), V58.b1 B R c d f i j l m n o q w → V58.b1 B R c d f i j l m n o q w) ∧ (True ∧ True))))))) := by kernel_rfl
  rw [e]
  exact ⟨trivial, ⟨trivial, ⟨trivial, ⟨trivial, ⟨trivial, ⟨⟨trivial, ⟨fun a c d f g i j l m n o p q r s t u x w h => h, fun _ a c d f g i j l m n o p q r s t u x w h => h, fun y => ⟨⟨trivial, ⟨trivial, trivial⟩⟩, ⟨⟨trivial, ⟨trivial, ⟨⟨trivial, ⟨trivial, trivial⟩⟩, ⟨trivial, ⟨trivial, trivial⟩⟩⟩⟩⟩, trivial⟩⟩⟩⟩, fun c d f i j l m n o q w h => h, ⟨trivial, trivial⟩⟩⟩⟩⟩⟩⟩
theorem V58.cfgOk (B : Nat) : CfgOk (V58.cfg B) := cfgOk_of (by kernel_rfl) (by kernel_rfl)
theorem V58.sound {a : Option Addr} {d f : Nat} {g : Option Addr} {i j : Nat} {l m : Int} {n : Option Addr} {o p : Nat} {w : World} {R : Value → World → Prop} (h : V58.vc w.heap.size R a d f g i j l m n o p w) : Calls Try.prog 58 ⟨[.agg ⟨[.slice a d f]⟩, .slice g i j, .int .i64 l, .int .i64 m, .slice n o p]⟩ w fun e w' => ∃ v, e = .returned v ∧ R v w' :=
  calls_wpfP (c := V58.cfg w.heap.size) (fn := Try.f58) (x := V58.code) (V58.cuts w.heap.size R) V58.h (V58.cfgOk _) mixed Try.func58 (by kernel_rfl) (by kernel_rfl) (by kernel_rfl) rfl (V58.obl _ _) ((V58.vc_eq _ _ a d f g i j l m n o p _).symm ▸ h)
def V59.b1 (B : Nat) (R : Value → World → Prop) (a : Addr → Option Addr → Nat → Nat → Int → Int → Nat → Option Addr → Nat → Nat → World → Prop) (c : Addr) (d : Option Addr) (f g : Nat) (i j : Int) (l : Nat) (m : Option Addr) (n o : Nat) (w : World) : Prop :=
  Expo B w [l] fun p => 
  Hide [l] (p.alloc (.cells ⟨[.int .i64 i]⟩ 3)) fun q => 
  RunK Try.prog (Builtin.append_ #[42, 42] 42 ⟨[.slice d f g, .slice (some ⟨p.heap.size, 0, none⟩) 1 1]⟩) B q [l] fun v r => 
  ∃ (s : Option Addr) (t u : Nat), v = .slice s t u ∧ a c s t u j i l m n o r
def V59.l0 (B : Nat) (R : Value → World → Prop) : Nat → Addr → Option Addr → Nat → Nat → Int → Int → Nat → Option Addr → Nat → Nat → World → Prop
  | 0 => fun _ _ _ _ _ _ _ _ _ _ _ => False
  | k + 1 => fun a c d f g i j l m n w =>
    if (g != (-1)) = true
    then (CallK Try.prog 54 [.pointer (some a), .agg ⟨[.slice l m n]⟩, .int .i64 g] B w [j] fun v o => 
     ∃ (p q r : Int) (s : Bool) (t : Int) (u : Option Addr) (x y : Nat) (z : Option Addr) (A C : Nat) (D : Option Addr) (E F : Nat) (G I : Int), v = .tuple ⟨[.agg ⟨[.int .i64 p, .int .i64 q, .int .i64 r, .bool s, .int .u64 t, .slice u x y, .slice z A C, .slice D E F]⟩, .int .i64 G, .int .i64 I]⟩ ∧
     ∀ J : Nat, o.heap.size ≤ J →
     if (I != 0) = true
     then (Ret B o (R (.tuple ⟨[.slice none 0 0, .int .i64 I]⟩)))
     else (if (decide ((d : Int) > 0)) = true
      then (∃ L : Addr, l = some L ∧ (0 : Int) ≤ p ∧ p < (m : Int) ∧
      ∃ M : Int, o.cell? ((L.add (p.toNat * 4)).add 0) = some (.int .i64 M) ∧
      ∃ N : Int, o.cell? ((L.add (p.toNat * 4)).add 1) = some (.int .i64 N) ∧
      ∃ O : Int, o.cell? ((L.add (p.toNat * 4)).add 2) = some (.int .i64 O) ∧
      ∃ (P : Option Addr) (Q S : Nat), o.cell? ((L.add (p.toNat * 4)).add 3) = some (.slice P Q S) ∧
      CallK Try.prog 32 [.agg ⟨[.int .i64 M, .int .i64 N, .int .i64 O, .slice P Q S]⟩] B o [J, j] fun T U => 
       ∃ W : Int, T = .int .i64 W ∧
       if (decide (IntKind.wrap .i64 (g + W) > i)) = true
       then (Ret B U (R (.tuple ⟨[.slice none 0 0, .int .i64 6]⟩)))
       else (V59.b1 B R (V59.l0 B R k) a c d f g G j l m n U))
      else (V59.b1 B R (V59.l0 B R k) a c d f g G j l m n o)))
    else (Ret B w (R (.tuple ⟨[.slice c d f, .int .i64 0]⟩)))
def V59.vc (B : Nat) (R : Value → World → Prop) (a : Addr) (c : Option Addr) (d f : Nat) (g : Int) (w : World) : Prop :=
  ∀ i : Nat, w.heap.size ≤ i →
  CallK Try.prog 93 [.pointer (some a)] B w [i] fun v j => 
  ∃ l : Int, v = .int .i64 l ∧
  ∃ m, V59.l0 B R m a none 0 0 g l i c d f j
noncomputable def V59.cfg (B : Nat) : Cfg := ⟨Try.prog, ⟨57, B⟩, [], hasN [32, 54, 93], hasN []⟩
noncomputable def V59.code : Code := (Try.f59.body).getD .skip
noncomputable def V59.cuts (B : Nat) (R : Value → World → Prop) : Nat → Cut := nthC [⟨[(0, .one (.ptr)), (8, .one (.slice)), (9, .one (.int .i64)), (10, .one (.int .i64))], [(4, 24, [.slice])], fun fs vs bs w => V59.l0 B R (nthN fs 0) (pV (nthV vs 0)) (slA (nthV vs 1)) (slL (nthV vs 1)) (slC (nthV vs 1)) (iV (nthV vs 2)) (iV (nthV vs 3)) (nthB bs 0).blk (slA (nthV (nthB bs 0).cells 0)) (slL (nthV (nthB bs 0).cells 0)) (slC (nthV (nthB bs 0).cells 0)) w⟩,
  ⟨[(0, .one (.ptr)), (8, .one (.slice)), (9, .one (.int .i64)), (12, .one (.int .i64))], [(4, 24, [.slice])], fun fs vs bs w => V59.b1 B R (V59.l0 B R (nthN fs 0)) (pV (nthV vs 0)) (slA (nthV vs 1)) (slL (nthV vs 1)) (slC (nthV vs 1)) (iV (nthV vs 2)) (iV (nthV vs 3)) (nthB bs 0).blk (slA (nthV (nthB bs 0).cells 0)) (slL (nthV (nthB bs 0).cells 0)) (slC (nthV (nthB bs 0).cells 0)) w⟩]
noncomputable def V59.h : H := .s (.z) (.s (.s (.z) (.c (.s (.z) (.z)) (.z))) (.s (.z) (.s (.s (.z) (.b (.l 0 (.s (.s (.z) (.c (.z) (.z))) (.b (.s (.z) (.cut 1 (.b (.s (.z) (.c (.s (.z) (.z)) (.s (.z) (.c (.s (.z) (.z)) (.z)))))) (.s (.z) (.z))))))))) (.s (.z) (.z)))))
theorem V59.vc_eq (B : Nat) (R : Value → World → Prop) (a : Addr) (c : Option Addr) (d f : Nat) (g : Int) (w : World) : wpf (V59.cfg B) (V59.cuts B R) V59.code V59.h [] (postOf Try.prog B (Try.f59.results.toList) R) (argE 0 [.pointer (some a), .agg ⟨[.slice c d f]⟩, .int .i64 g]) [] w = V59.vc B R a c d f g w := by kernel_rfl
theorem V59.obl (B : Nat) (R : Value → World → Prop) : oblP (V59.cfg B) (V59.cuts B R) V59.code V59.h [] (postOf Try.prog B (Try.f59.results.toList) R) := by
  have e : oblP (V59.cfg B) (V59.cuts B R) V59.code V59.h [] (postOf Try.prog B (Try.f59.results.toList) R) = (True ∧ ((True ∧ ((True ∧ True) ∧ True)) ∧ (True ∧ ((True ∧ ((∀ (a : Addr) (c : Option Addr) (d f : Nat) (g i : Int) (j : Nat) (l : Option Addr) (m n : Nat) (w : World), ¬ V59.l0 B R 0 a c d f g i j l m n w) ∧ (∀ o, ∀ (a : Addr) (c : Option Addr) (d f : Nat) (g i : Int) (j : Nat) (l : Option Addr) (m n : Nat) (w : World), V59.l0 B R (o + 1) a c d f g i j l m n w → V59.l0 B R (o + 1) a c d f g i j l m n w) ∧ ∀ o : Nat, ((True ∧ (True ∧ True)) ∧ (True ∧ ((True ∧ ((True ∧ True) ∧ (True ∧ ((True ∧ True) ∧ True)))) ∧ (∀ (a : Addr) (c : Option Addr) (d f : Nat) (g p : Int) (j : Nat) (l : Option Addr) (m n : Nat) (w : World), V59.b1 B R (V59.l0 B R o) a c d f g p j l m n w → V59.b1 B R (V59.l0 B R o) a c d f g p j l m n w) ∧ (True ∧ True)))))) ∧ (True ∧ True))))) := by kernel_rfl
  rw [e]
  exact ⟨trivial, ⟨⟨trivial, ⟨⟨trivial, trivial⟩, trivial⟩⟩, ⟨trivial, ⟨⟨trivial, ⟨fun a c d f g i j l m n w h => h, fun _ a c d f g i j l m n w h => h, fun o => ⟨⟨trivial, ⟨trivial, trivial⟩⟩, ⟨trivial, ⟨⟨trivial, ⟨⟨trivial, trivial⟩, ⟨trivial, ⟨⟨trivial, trivial⟩, trivial⟩⟩⟩⟩, fun a c d f g p j l m n w h => h, ⟨trivial, trivial⟩⟩⟩⟩⟩⟩, ⟨trivial, trivial⟩⟩⟩⟩⟩
theorem V59.cfgOk (B : Nat) : CfgOk (V59.cfg B) := cfgOk_of (by kernel_rfl) (by kernel_rfl)
theorem V59.sound {a : Addr} {d : Option Addr} {f g : Nat} {i : Int} {w : World} {R : Value → World → Prop} (h : V59.vc w.heap.size R a d f g i w) : Calls Try.prog 59 ⟨[.pointer (some a), .agg ⟨[.slice d f g]⟩, .int .i64 i]⟩ w fun e w' => ∃ v, e = .returned v ∧ R v w' :=
  calls_wpfP (c := V59.cfg w.heap.size) (fn := Try.f59) (x := V59.code) (V59.cuts w.heap.size R) V59.h (V59.cfgOk _) mixed Try.func59 (by kernel_rfl) (by kernel_rfl) (by kernel_rfl) rfl (V59.obl _ _) ((V59.vc_eq _ _ a d f g i _).symm ▸ h)
def V60.l0 (B : Nat) (R : Value → World → Prop) : Nat → Option Addr → Nat → Nat → Option Addr → Nat → Nat → Int → Nat → Option Addr → Nat → Nat → World → Prop
  | 0 => fun _ _ _ _ _ _ _ _ _ _ _ _ => False
  | k + 1 => fun a c d f g i j l m n o w =>
    if (j != (-1)) = true
    then (CallK Try.prog 55 [.slice a c d, .agg ⟨[.slice m n o]⟩, .int .i64 j] B w [l] fun v p => 
     ∃ (q r s : Int) (t : Bool) (u : Int) (x : Option Addr) (y z : Nat) (A : Option Addr) (C D : Nat) (E : Option Addr) (F G : Nat) (I J : Int), v = .tuple ⟨[.agg ⟨[.int .i64 q, .int .i64 r, .int .i64 s, .bool t, .int .u64 u, .slice x y z, .slice A C D, .slice E F G]⟩, .int .i64 I, .int .i64 J]⟩ ∧
     ∀ L : Nat, p.heap.size ≤ L →
     if (J != 0) = true
     then (Ret B p (R (.tuple ⟨[.slice none 0 0, .int .i64 J]⟩)))
     else (Expo B p [L, l] fun M => 
      Hide [L, l] (M.alloc (.cells ⟨[.int .i64 j]⟩ 3)) fun N => 
      RunK Try.prog (Builtin.append_ #[42, 42] 42 ⟨[.slice f g i, .slice (some ⟨M.heap.size, 0, none⟩) 1 1]⟩) B N [L, l] fun O P => 
      ∃ (Q : Option Addr) (S T : Nat), O = .slice Q S T ∧
      if (decide (I ≥ 0)) = true
      then (CallK Try.prog 55 [.slice a c d, .agg ⟨[.slice m n o]⟩, .int .i64 I] B P [L, l] fun U W => 
       ∃ (X Y Z : Int) (a0 : Bool) (a1 : Int) (a2 : Option Addr) (a3 a4 : Nat) (a5 : Option Addr) (a6 a7 : Nat) (a8 : Option Addr) (a9 c0 : Nat) (c1 c2 : Int), U = .tuple ⟨[.agg ⟨[.int .i64 X, .int .i64 Y, .int .i64 Z, .bool a0, .int .u64 a1, .slice a2 a3 a4, .slice a5 a6 a7, .slice a8 a9 c0]⟩, .int .i64 c1, .int .i64 c2]⟩ ∧
       ∀ c3 : Nat, W.heap.size ≤ c3 →
       if (c2 != 0) = true
       then (Ret B W (R (.tuple ⟨[.slice none 0 0, .int .i64 c2]⟩)))
       else (∃ c4 : Addr, m = some c4 ∧ (0 : Int) ≤ X ∧ X < (n : Int) ∧
       ∃ c5 : Int, W.cell? ((c4.add (X.toNat * 4)).add 0) = some (.int .i64 c5) ∧
       ∃ c6 : Int, W.cell? ((c4.add (X.toNat * 4)).add 1) = some (.int .i64 c6) ∧
       ∃ c7 : Int, W.cell? ((c4.add (X.toNat * 4)).add 2) = some (.int .i64 c7) ∧
       ∃ (c8 : Option Addr) (c9 d0 : Nat), W.cell? ((c4.add (X.toNat * 4)).add 3) = some (.slice c8 c9 d0) ∧
       CallK Try.prog 33 [.agg ⟨[.int .i64 c5, .int .i64 c6, .int .i64 c7, .slice c8 c9 d0]⟩] B W [c3, L, l] fun d1 d2 => 
        ∃ d3 : Int, d1 = .int .i64 d3 ∧
        if (decide (IntKind.wrap .i64 (I + d3) > j)) = true
        then (Ret B d2 (R (.tuple ⟨[.slice none 0 0, .int .i64 6]⟩)))
        else ((V60.l0 B R k) a c d Q S T I l m n o d2)))
      else ((V60.l0 B R k) a c d Q S T I l m n o P)))
    else (Ret B w (R (.tuple ⟨[.slice f g i, .int .i64 0]⟩)))
def V60.vc (B : Nat) (R : Value → World → Prop) (a : Option Addr) (c d : Nat) (f : Option Addr) (g i : Nat) (j : Int) (w : World) : Prop :=
  ∀ l : Nat, w.heap.size ≤ l →
  ∃ m, V60.l0 B R m a c d none 0 0 j l f g i w
noncomputable def V60.cfg (B : Nat) : Cfg := ⟨Try.prog, ⟨60, B⟩, [], hasN [33, 55], hasN []⟩
noncomputable def V60.code : Code := (Try.f60.body).getD .skip
noncomputable def V60.cuts (B : Nat) (R : Value → World → Prop) : Nat → Cut := nthC [⟨[(0, .one (.slice)), (8, .one (.slice)), (9, .one (.int .i64))], [(4, 24, [.slice])], fun fs vs bs w => V60.l0 B R (nthN fs 0) (slA (nthV vs 0)) (slL (nthV vs 0)) (slC (nthV vs 0)) (slA (nthV vs 1)) (slL (nthV vs 1)) (slC (nthV vs 1)) (iV (nthV vs 2)) (nthB bs 0).blk (slA (nthV (nthB bs 0).cells 0)) (slL (nthV (nthB bs 0).cells 0)) (slC (nthV (nthB bs 0).cells 0)) w⟩]
noncomputable def V60.h : H := .s (.z) (.s (.z) (.s (.s (.z) (.b (.l 0 (.s (.s (.z) (.c (.z) (.z))) (.b (.s (.z) (.s (.s (.z) (.c (.s (.z) (.z)) (.z))) (.s (.z) (.s (.s (.z) (.c (.s (.z) (.s (.s (.z) (.c (.s (.z) (.z)) (.z))) (.s (.z) (.c (.s (.z) (.z)) (.z))))) (.z))) (.z)))))))))) (.s (.z) (.z))))
theorem V60.vc_eq (B : Nat) (R : Value → World → Prop) (a : Option Addr) (c d : Nat) (f : Option Addr) (g i : Nat) (j : Int) (w : World) : wpf (V60.cfg B) (V60.cuts B R) V60.code V60.h [] (postOf Try.prog B (Try.f60.results.toList) R) (argE 0 [.slice a c d, .agg ⟨[.slice f g i]⟩, .int .i64 j]) [] w = V60.vc B R a c d f g i j w := by kernel_rfl
theorem V60.obl (B : Nat) (R : Value → World → Prop) : oblP (V60.cfg B) (V60.cuts B R) V60.code V60.h [] (postOf Try.prog B (Try.f60.results.toList) R) := by
  have e : oblP (V60.cfg B) (V60.cuts B R) V60.code V60.h [] (postOf Try.prog B (Try.f60.results.toList) R) = (True ∧ (True ∧ ((True ∧ ((∀ (a : Option Addr) (c d : Nat) (f : Option Addr) (g i : Nat) (j : Int) (l : Nat) (m : Option Addr) (n o : Nat) (w : World), ¬ V60.l0 B R 0 a c d f g i j l m n o w) ∧ (∀ p, ∀ (a : Option Addr) (c d : Nat) (f : Option Addr) (g i : Nat) (j : Int) (l : Nat) (m : Option Addr) (n o : Nat) (w : World), V60.l0 B R (p + 1) a c d f g i j l m n o w → V60.l0 B R (p + 1) a c d f g i j l m n o w) ∧ ∀ p : Nat, ((True ∧ (True ∧ True)) ∧ (True ∧ ((True ∧ ((True ∧ True) ∧ True)) ∧ (True ∧ ((True ∧ ((True ∧ ((True ∧ ((True ∧ True) ∧ True)) ∧ (True ∧ ((True ∧ True) ∧ True)))) ∧ True)) ∧ True))))))) ∧ (True ∧ True)))) := by kernel_rfl
  rw [e]
  exact ⟨trivial, ⟨trivial, ⟨⟨trivial, ⟨fun a c d f g i j l m n o w h => h, fun _ a c d f g i j l m n o w h => h, fun p => ⟨⟨trivial, ⟨trivial, trivial⟩⟩, ⟨trivial, ⟨⟨trivial, ⟨⟨trivial, trivial⟩, trivial⟩⟩, ⟨trivial, ⟨⟨trivial, ⟨⟨trivial, ⟨⟨trivial, ⟨⟨trivial, trivial⟩, trivial⟩⟩, ⟨trivial, ⟨⟨trivial, trivial⟩, trivial⟩⟩⟩⟩, trivial⟩⟩, trivial⟩⟩⟩⟩⟩⟩⟩, ⟨trivial, trivial⟩⟩⟩⟩
theorem V60.cfgOk (B : Nat) : CfgOk (V60.cfg B) := cfgOk_of (by kernel_rfl) (by kernel_rfl)
theorem V60.sound {a : Option Addr} {d f : Nat} {g : Option Addr} {i j : Nat} {l : Int} {w : World} {R : Value → World → Prop} (h : V60.vc w.heap.size R a d f g i j l w) : Calls Try.prog 60 ⟨[.slice a d f, .agg ⟨[.slice g i j]⟩, .int .i64 l]⟩ w fun e w' => ∃ v, e = .returned v ∧ R v w' :=
  calls_wpfP (c := V60.cfg w.heap.size) (fn := Try.f60) (x := V60.code) (V60.cuts w.heap.size R) V60.h (V60.cfgOk _) mixed Try.func60 (by kernel_rfl) (by kernel_rfl) (by kernel_rfl) rfl (V60.obl _ _) ((V60.vc_eq _ _ a d f g i j l _).symm ▸ h)
end Go.Proofs.Ytlccbaemcfjdoaa
