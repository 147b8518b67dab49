/-
  What the engine makes of the loaded functions 12: conditions under which a call returns as told, and proofs of that.
  Conditions: none. Printed by a program of this project.
-/
import Derived.Test.YtlccbaemcfjdoaaZWD
set_option linter.unusedVariables false
set_option maxRecDepth 100000
namespace Go.Proofs.Ytlccbaemcfjdoaa
def V12.l1 (B : Nat) (R : Value → World → Prop) : Nat → Addr → Option Addr → Nat → Nat → Int → Int → Int → World → Prop
  | 0 => fun _ _ _ _ _ _ _ _ => False
  | k + 1 => fun a c d f g i j w =>
    if (decide (j < (d : Int))) = true
    then (CallK Try.prog 57 [.pointer (some a), .int .i64 j] B w [] fun v l => 
     ∃ m n : Int, v = .tuple ⟨[.int .u64 m, .int .i64 n]⟩ ∧
     if (decide (j < g)) = false
     then (if (decide (j ≥ IntKind.wrap .i64 (g + i))) = true
      then (∃ o : Addr, c = some o ∧ (0 : Int) ≤ j ∧ j < (d : Int) ∧
      ∃ p : Int, l.cell? (o.add j.toNat) = some (.int .u64 p) ∧
      if (m != p) = true
       then (Ret B l (R (.bool false)))
       else ((V12.l1 B R k) a c d f g i (IntKind.wrap .i64 (j + 1)) l))
      else ((V12.l1 B R k) a c d f g i (IntKind.wrap .i64 (j + 1)) l))
     else (∃ o : Addr, c = some o ∧ (0 : Int) ≤ j ∧ j < (d : Int) ∧
     ∃ p : Int, l.cell? (o.add j.toNat) = some (.int .u64 p) ∧
     if (m != p) = true
      then (Ret B l (R (.bool false)))
      else ((V12.l1 B R k) a c d f g i (IntKind.wrap .i64 (j + 1)) l)))
    else (CallK Try.prog 47 [] B w [] fun v l => 
     ∃ q : Bool, v = .bool q ∧
     Ret B l (R (.bool q)))
def V12.b0 (B : Nat) (R : Value → World → Prop) (a : Option Addr) (c d : Nat) (f g : Int) (i : Addr) (j : Option Addr) (l m n : Nat) (o : Option Addr) (p q : Nat) (w : World) : Prop :=
  Expo B w [n] fun r => 
  Hide [n] (r.alloc (.cells ⟨[.slice a c d]⟩ 70)) fun s => 
  CallK Try.prog 48 [.pointer (some (⟨r.heap.size, 0, none⟩)), .agg ⟨[.slice o p q]⟩] B s [n] fun v t => 
  ∃ (u x y : Int) (z : Bool) (A : Int) (C : Option Addr) (D E : Nat) (F : Option Addr) (G I : Nat) (J : Option Addr) (L M : Nat), v = .agg ⟨[.int .i64 u, .int .i64 x, .int .i64 y, .bool z, .int .u64 A, .slice C D E, .slice F G I, .slice J L M]⟩ ∧
  ∀ N : Nat, t.heap.size ≤ N → (200 : Int) ≠ 0 ∧
  ∃ O : Addr, o = some O ∧ (0 : Int) ≤ u ∧ u < (p : Int) ∧
  ∃ P : Int, t.cell? ((O.add (u.toNat * 4)).add 0) = some (.int .i64 P) ∧
  ∃ Q : Int, t.cell? ((O.add (u.toNat * 4)).add 1) = some (.int .i64 Q) ∧
  ∃ S : Int, t.cell? ((O.add (u.toNat * 4)).add 2) = some (.int .i64 S) ∧
  ∃ (T : Option Addr) (U W : Nat), t.cell? ((O.add (u.toNat * 4)).add 3) = some (.slice T U W) ∧
  CallK Try.prog 33 [.agg ⟨[.int .i64 P, .int .i64 Q, .int .i64 S, .slice T U W]⟩] B t [N, n] fun X Y => 
  ∃ Z : Int, X = .int .i64 Z ∧
  CallK Try.prog 52 [.pointer (some i), .agg ⟨[.slice o p q]⟩, .int .i64 (Int.tmod (IntKind.wrap .i64 f) 200), .int .i64 (if (-1) > IntKind.wrap .i64 g then (-1) else IntKind.wrap .i64 g), .agg ⟨[.int .i64 u, .int .i64 x, .int .i64 y, .bool z, .int .u64 A, .slice C D E, .slice F G I, .slice J L M]⟩] B Y [N, n] fun a0 a1 => 
  ∃ a2 : Int, a0 = .int .i64 a2 ∧
  CallK Try.prog 54 [.pointer (some i), .agg ⟨[.slice o p q]⟩, .int .i64 (Int.tmod (IntKind.wrap .i64 f) 200)] B a1 [N, n] fun a3 a4 => 
  ∃ (a5 a6 a7 : Int) (a8 : Bool) (a9 : Int) (c0 : Option Addr) (c1 c2 : Nat) (c3 : Option Addr) (c4 c5 : Nat) (c6 : Option Addr) (c7 c8 : Nat) (c9 d0 : Int), a3 = .tuple ⟨[.agg ⟨[.int .i64 a5, .int .i64 a6, .int .i64 a7, .bool a8, .int .u64 a9, .slice c0 c1 c2, .slice c3 c4 c5, .slice c6 c7 c8]⟩, .int .i64 c9, .int .i64 d0]⟩ ∧
  ∀ d1 : Nat, a4.heap.size ≤ d1 →
  if (a2 != 0) = false
  then (if (d0 != 0) = false
   then (if (c9 != (if (-1) > IntKind.wrap .i64 g then (-1) else IntKind.wrap .i64 g)) = false
    then (CallK Try.prog 56 [.agg ⟨[.int .i64 u, .int .i64 x, .int .i64 y, .bool z, .int .u64 A, .slice C D E, .slice F G I, .slice J L M]⟩, .agg ⟨[.int .i64 a5, .int .i64 a6, .int .i64 a7, .bool a8, .int .u64 a9, .slice c0 c1 c2, .slice c3 c4 c5, .slice c6 c7 c8]⟩] B a4 [d1, N, n] fun d2 d3 => 
     ∃ d4 : Bool, d2 = .bool d4 ∧
     if (!d4) = true
     then (Ret B d3 (R (.bool false)))
     else (∃ d5, V12.l1 B R d5 i j l m (Int.tmod (IntKind.wrap .i64 f) 200) Z 0 d3))
    else (Ret B a4 (R (.bool false))))
   else (Ret B a4 (R (.bool false))))
  else (Ret B a4 (R (.bool false)))
def V12.vc (B : Nat) (R : Value → World → Prop) (a : Option Addr) (c d : Nat) (f : Option Addr) (g i : Nat) (j : Option Addr) (l m : Nat) (n o : Int) (w : World) : Prop :=
  CallK Try.prog 35 [.slice a c d] B w [] fun v p => 
  ∃ (q : Option Addr) (r s : Nat), v = .agg ⟨[.slice q r s]⟩ ∧
  ∀ t : Nat, p.heap.size ≤ t →
  CallK Try.prog 41 [.int .i64 4, .slice j l m] B p [t] fun u x => 
  ∃ (y z : Option Addr) (A C : Nat), u = .tuple ⟨[.pointer y, .slice z A C]⟩ ∧
  caseP y
  (False)
  (fun D => V12.b0 B R f g i n o D z A C t q r s x)
noncomputable def V12.cfg (B : Nat) : Cfg := ⟨Try.prog, ⟨116, B⟩, [37], hasN [33, 35, 41, 47, 48, 52, 54, 56, 57], hasN []⟩
noncomputable def V12.code : Code := (Try.f12.body).getD .skip
noncomputable def V12.cuts (B : Nat) (R : Value → World → Prop) : Nat → Cut := nthC [⟨[(1, .one (.slice)), (3, .one (.int .u8)), (4, .one (.int .i8)), (12, .one (.ptr)), (13, .one (.slice))], [(11, 24, [.slice])], fun fs vs bs w => V12.b0 B R (slA (nthV vs 0)) (slL (nthV vs 0)) (slC (nthV vs 0)) (iV (nthV vs 1)) (iV (nthV vs 2)) (pV (nthV vs 3)) (slA (nthV vs 4)) (slL (nthV vs 4)) (slC (nthV vs 4)) (nthB bs 0).blk (slA (nthV (nthB bs 0).cells 0)) (slL (nthV (nthB bs 0).cells 0)) (slC (nthV (nthB bs 0).cells 0)) w⟩,
  ⟨[(12, .one (.ptr)), (13, .one (.slice)), (16, .one (.int .i64)), (18, .one (.int .i64)), (23, .one (.int .i64))], [], fun fs vs bs w => V12.l1 B R (nthN fs 0) (pV (nthV vs 0)) (slA (nthV vs 1)) (slL (nthV vs 1)) (slC (nthV vs 1)) (iV (nthV vs 2)) (iV (nthV vs 3)) (iV (nthV vs 4)) w⟩]
noncomputable def V12.h : H := .s (.z) (.s (.z) (.cut 0 (.z) (.s (.s (.z) (.c (.s (.z) (.z)) (.z))) (.s (.z) (.s (.z) (.s (.z) (.s (.z) (.s (.z) (.s (.s (.z) (.c (.s (.z) (.z)) (.z))) (.s (.s (.z) (.b (.l 1 (.s (.s (.z) (.c (.z) (.z))) (.s (.b (.s (.z) (.s (.z) (.c (.s (.z) (.z)) (.z))))) (.z)))))) (.s (.z) (.z))))))))))))
theorem V12.vc_eq (B : Nat) (R : Value → World → Prop) (a : Option Addr) (c d : Nat) (f : Option Addr) (g i : Nat) (j : Option Addr) (l m : Nat) (n o : Int) (w : World) : wpf (V12.cfg B) (V12.cuts B R) V12.code V12.h [] (postOf Try.prog B (Try.f12.results.toList) R) (argE 0 [.slice a c d, .slice f g i, .slice j l m, .int .u8 n, .int .i8 o]) [] w = V12.vc B R a c d f g i j l m n o w := by kernel_rfl
theorem V12.obl (B : Nat) (R : Value → World → Prop) : oblP (V12.cfg B) (V12.cuts B R) V12.code V12.h [] (postOf Try.prog B (Try.f12.results.toList) R) := by
  have e : oblP (V12.cfg B) (V12.cuts B R) V12.code V12.h [] (postOf Try.prog B (Try.f12.results.toList) R) = (True ∧ (True ∧ (True ∧ (∀ (a : Option Addr) (c d : Nat) (f g : Int) (i : Addr) (j : Option Addr) (l m n : Nat) (o : Option Addr) (p q : Nat) (w : World), V12.b0 B R a c d f g i j l m n o p q w → V12.b0 B R a c d f g i j l m n o p q w) ∧ ((True ∧ ((True ∧ True) ∧ True)) ∧ (True ∧ (True ∧ (True ∧ (True ∧ (True ∧ ((True ∧ ((True ∧ True) ∧ True)) ∧ ((True ∧ ((∀ (i : Addr) (j : Option Addr) (l m : Nat) (r s t : Int) (w : World), ¬ V12.l1 B R 0 i j l m r s t w) ∧ (∀ u, ∀ (i : Addr) (j : Option Addr) (l m : Nat) (r s t : Int) (w : World), V12.l1 B R (u + 1) i j l m r s t w → V12.l1 B R (u + 1) i j l m r s t w) ∧ ∀ u : Nat, ((True ∧ (True ∧ True)) ∧ ((True ∧ (True ∧ ((True ∧ True) ∧ True))) ∧ True)))) ∧ (True ∧ True)))))))))))) := by kernel_rfl
  rw [e]
  exact ⟨trivial, ⟨trivial, ⟨trivial, fun a c d f g i j l m n o p q w h => h, ⟨⟨trivial, ⟨⟨trivial, trivial⟩, trivial⟩⟩, ⟨trivial, ⟨trivial, ⟨trivial, ⟨trivial, ⟨trivial, ⟨⟨trivial, ⟨⟨trivial, trivial⟩, trivial⟩⟩, ⟨⟨trivial, ⟨fun i j l m r s t w h => h, fun _ i j l m r s t w h => h, fun u => ⟨⟨trivial, ⟨trivial, trivial⟩⟩, ⟨⟨trivial, ⟨trivial, ⟨⟨trivial, trivial⟩, trivial⟩⟩⟩, trivial⟩⟩⟩⟩, ⟨trivial, trivial⟩⟩⟩⟩⟩⟩⟩⟩⟩⟩⟩⟩
theorem V12.cfgOk (B : Nat) : CfgOk (V12.cfg B) := cfgOk_of (by kernel_rfl) (by kernel_rfl)
theorem V12.sound {a : Option Addr} {d f : Nat} {g : Option Addr} {i j : Nat} {l : Option Addr} {m n : Nat} {o p : Int} {w : World} {R : Value → World → Prop} (h : V12.vc w.heap.size R a d f g i j l m n o p w) : Calls Try.prog 12 ⟨[.slice a d f, .slice g i j, .slice l m n, .int .u8 o, .int .i8 p]⟩ w fun e w' => ∃ v, e = .returned v ∧ R v w' :=
  calls_wpfP (c := V12.cfg w.heap.size) (fn := Try.f12) (x := V12.code) (V12.cuts w.heap.size R) V12.h (V12.cfgOk _) mixed Try.func12 (by kernel_rfl) (by kernel_rfl) (by kernel_rfl) rfl (V12.obl _ _) ((V12.vc_eq _ _ a d f g i j l m n o p _).symm ▸ h)
end Go.Proofs.Ytlccbaemcfjdoaa
