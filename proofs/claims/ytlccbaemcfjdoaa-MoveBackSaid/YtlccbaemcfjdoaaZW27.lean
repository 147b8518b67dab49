/-
  What the engine makes of the loaded functions 27: conditions under which a call returns as told, and proofs of that.
  Conditions: none. Printed by a program of this project.
-/
import Derived.Test.YtlccbaemcfjdoaaZWM
set_option linter.unusedVariables false
set_option maxRecDepth 100000
namespace Go.Proofs.Ytlccbaemcfjdoaa
def V27.l2 (B : Nat) (R : Value → World → Prop) : Nat → Int → Int → Nat → Int → Int → Int → Nat → Option Addr → Nat → Nat → Addr → Option Addr → Nat → Nat → Option Addr → Nat → Nat → Option Addr → Nat → Nat → Int → Int → Int → World → Prop
  | 0 => fun _ _ _ _ _ _ _ _ _ _ _ _ _ _ _ _ _ _ _ _ _ _ _ _ => False
  | k + 1 => fun a c d f g i j l m n o p q r s t u x y z A C D w =>
    if (decide (c < a)) = true
    then (CallK Try.prog 57 [.pointer (some o), .int .i64 c] B w [d, j] fun v E => 
     ∃ F G : Int, v = .tuple ⟨[.int .u64 F, .int .i64 G]⟩ ∧
     ∃ I : Addr, p = some I ∧ (0 : Int) ≤ c ∧ c < (q : Int) ∧
     ∃ J : Int, E.cell? (I.add c.toNat) = some (.int .u64 J) ∧
     if (F != J) = true
     then (Ret B E (R (.bool false)))
     else ((V27.l2 B R k) a (IntKind.wrap .i64 (c + 1)) d f g i j l m n o p q r s t u x y z A C D E))
    else (CallK Try.prog 81 [.agg ⟨[.slice l m n, .pointer (some o), .slice p q r, .slice s t u, .slice x y z, .int .i64 A, .int .i64 C, .int .i64 D]⟩, .agg ⟨[.int .i64 f, .int .i64 g, .int .i64 i]⟩] B w [d, j] fun v E => 
     ∃ L : Bool, v = .bool L ∧
     if L = true
     then (CallK Try.prog 72 [] B E [d, j] fun M N => 
      ∃ O : Bool, M = .bool O ∧
      Ret B N (R (.bool O)))
     else (Ret B E (R (.bool false))))
def V27.l1 (B : Nat) (R : Value → World → Prop) : Nat → Int → Int → Nat → Int → Int → Int → Nat → Option Addr → Nat → Nat → Addr → Option Addr → Nat → Nat → Option Addr → Nat → Nat → Option Addr → Nat → Nat → Int → Int → Int → World → Prop
  | 0 => fun _ _ _ _ _ _ _ _ _ _ _ _ _ _ _ _ _ _ _ _ _ _ _ _ => False
  | k + 1 => fun a c d f g i j l m n o p q r s t u x y z A C D w =>
    if (decide (c < IntKind.wrap .i64 (A + C))) = true
    then (CallK Try.prog 70 [.pointer (some o), .int .i64 c, .int .u64 77] B w [d, j] fun v E => 
     ∃ F : Int, v = .int .i64 F ∧
     if (F != 0) = true
     then (Ret B E (R (.bool false)))
     else ((V27.l1 B R k) a (IntKind.wrap .i64 (c + 1)) d f g i j l m n o p q r s t u x y z A C D E))
    else (CallK Try.prog 75 [.pointer (some o), .agg ⟨[.slice l m n]⟩, .agg ⟨[.int .i64 f, .int .i64 g, .int .i64 i]⟩, .int .i64 A, .int .i64 C] B w [d, j] fun v E => 
     ∃ G I J L : Int, v = .tuple ⟨[.agg ⟨[.int .i64 G, .int .i64 I, .int .i64 J]⟩, .int .i64 L]⟩ ∧
     ∀ M : Nat, E.heap.size ≤ M →
     CallK Try.prog 73 [.pointer (some o), .agg ⟨[.slice l m n]⟩, .agg ⟨[.int .i64 G, .int .i64 I, .int .i64 J]⟩] B E [M, d, j] fun N O => 
     ∃ P Q : Int, N = .tuple ⟨[.int .i64 P, .int .i64 Q]⟩ ∧
     if (a != 0) = false
     then (if (L != 0) = false
      then (if (Q != 0) = false
       then (if (!((G == A) && ((I == C) && (J == D)))) = true
        then (Ret B O (R (.bool false)))
        else (∃ S, V27.l2 B R S P A M G I J j l m n o p q r s t u x y z A C D O))
       else (Ret B O (R (.bool false))))
      else (Ret B O (R (.bool false))))
     else (Ret B O (R (.bool false))))
def V27.b0 (B : Nat) (R : Value → World → Prop) (a : Int) (c : Bool) (d : Nat) (f : Option Addr) (g i : Nat) (j : Addr) (l : Option Addr) (m n : Nat) (o : Option Addr) (p q : Nat) (r : Option Addr) (s t : Nat) (u x y : Int) (w : World) : Prop :=
  if (!c) = true
  then (Ret B w (R (.bool false)))
  else (CallK Try.prog 80 [.agg ⟨[.slice f g i, .pointer (some j), .slice l m n, .slice o p q, .slice r s t, .int .i64 u, .int .i64 x, .int .i64 y]⟩, .int .u8 a, .int .i64 x] B w [d] fun v z => 
   ∃ A : Int, v = .int .i64 A ∧
   if (decide (IntKind.wrap .i64 (A + x) > 1024)) = true
   then (CallK Try.prog 72 [] B z [d] fun C D => 
    ∃ E : Bool, C = .bool E ∧
    Ret B D (R (.bool E)))
   else (CallK Try.prog 75 [.pointer (some j), .agg ⟨[.slice f g i]⟩, .agg ⟨[.int .i64 u, .int .i64 x, .int .i64 y]⟩, .int .i64 A, .int .i64 x] B z [d] fun C D => 
    ∃ F G I J : Int, C = .tuple ⟨[.agg ⟨[.int .i64 F, .int .i64 G, .int .i64 I]⟩, .int .i64 J]⟩ ∧
    ∀ L : Nat, D.heap.size ≤ L →
    ∃ M, V27.l1 B R M J u L F G I d f g i j l m n o p q r s t u x y D))
def V27.vc (B : Nat) (R : Value → World → Prop) (a : Option Addr) (c d : Nat) (f : Option Addr) (g i : Nat) (j : Option Addr) (l m : Nat) (n o p : Int) (w : World) : Prop :=
  CallK Try.prog 62 [.slice a c d, .slice f g i, .slice j l m, .int .u8 n, .int .u8 o] B w [] fun v q => 
  ∃ (r : Option Addr) (s t : Nat) (u x : Option Addr) (y z : Nat) (A : Option Addr) (C D : Nat) (E : Option Addr) (F G : Nat) (I J L : Int) (M : Bool), v = .tuple ⟨[.agg ⟨[.slice r s t, .pointer u, .slice x y z, .slice A C D, .slice E F G, .int .i64 I, .int .i64 J, .int .i64 L]⟩, .bool M]⟩ ∧
  caseP u
  (∀ N : Nat, q.heap.size ≤ N → False)
  (fun O => ∀ N : Nat, q.heap.size ≤ N →
  V27.b0 B R p M N r s t O x y z A C D E F G I J L q)
noncomputable def V27.cfg (B : Nat) : Cfg := ⟨Try.prog, ⟨151, B⟩, [], hasN [57, 62, 70, 72, 73, 75, 80, 81], hasN [99]⟩
noncomputable def V27.code : Code := (Try.f27.body).getD .skip
noncomputable def V27.cuts (B : Nat) (R : Value → World → Prop) : Nat → Cut := nthC [⟨[(5, .one (.int .u8)), (14, .one (.bool))], [(13, 101, [.slice, .ptr, .slice, .slice, .slice, .int .i64, .int .i64, .int .i64])], fun fs vs bs w => V27.b0 B R (iV (nthV vs 0)) (bV (nthV vs 1)) (nthB bs 0).blk (slA (nthV (nthB bs 0).cells 0)) (slL (nthV (nthB bs 0).cells 0)) (slC (nthV (nthB bs 0).cells 0)) (pV (nthV (nthB bs 0).cells 1)) (slA (nthV (nthB bs 0).cells 2)) (slL (nthV (nthB bs 0).cells 2)) (slC (nthV (nthB bs 0).cells 2)) (slA (nthV (nthB bs 0).cells 3)) (slL (nthV (nthB bs 0).cells 3)) (slC (nthV (nthB bs 0).cells 3)) (slA (nthV (nthB bs 0).cells 4)) (slL (nthV (nthB bs 0).cells 4)) (slC (nthV (nthB bs 0).cells 4)) (iV (nthV (nthB bs 0).cells 5)) (iV (nthV (nthB bs 0).cells 6)) (iV (nthV (nthB bs 0).cells 7)) w⟩,
  ⟨[(17, .one (.int .i64)), (18, .one (.int .i64))], [(16, 99, [.int .i64, .int .i64, .int .i64]), (13, 101, [.slice, .ptr, .slice, .slice, .slice, .int .i64, .int .i64, .int .i64])], fun fs vs bs w => V27.l1 B R (nthN fs 0) (iV (nthV vs 0)) (iV (nthV vs 1)) (nthB bs 0).blk (iV (nthV (nthB bs 0).cells 0)) (iV (nthV (nthB bs 0).cells 1)) (iV (nthV (nthB bs 0).cells 2)) (nthB bs 1).blk (slA (nthV (nthB bs 1).cells 0)) (slL (nthV (nthB bs 1).cells 0)) (slC (nthV (nthB bs 1).cells 0)) (pV (nthV (nthB bs 1).cells 1)) (slA (nthV (nthB bs 1).cells 2)) (slL (nthV (nthB bs 1).cells 2)) (slC (nthV (nthB bs 1).cells 2)) (slA (nthV (nthB bs 1).cells 3)) (slL (nthV (nthB bs 1).cells 3)) (slC (nthV (nthB bs 1).cells 3)) (slA (nthV (nthB bs 1).cells 4)) (slL (nthV (nthB bs 1).cells 4)) (slC (nthV (nthB bs 1).cells 4)) (iV (nthV (nthB bs 1).cells 5)) (iV (nthV (nthB bs 1).cells 6)) (iV (nthV (nthB bs 1).cells 7)) w⟩,
  ⟨[(21, .one (.int .i64)), (23, .one (.int .i64))], [(19, 99, [.int .i64, .int .i64, .int .i64]), (13, 101, [.slice, .ptr, .slice, .slice, .slice, .int .i64, .int .i64, .int .i64])], fun fs vs bs w => V27.l2 B R (nthN fs 0) (iV (nthV vs 0)) (iV (nthV vs 1)) (nthB bs 0).blk (iV (nthV (nthB bs 0).cells 0)) (iV (nthV (nthB bs 0).cells 1)) (iV (nthV (nthB bs 0).cells 2)) (nthB bs 1).blk (slA (nthV (nthB bs 1).cells 0)) (slL (nthV (nthB bs 1).cells 0)) (slC (nthV (nthB bs 1).cells 0)) (pV (nthV (nthB bs 1).cells 1)) (slA (nthV (nthB bs 1).cells 2)) (slL (nthV (nthB bs 1).cells 2)) (slC (nthV (nthB bs 1).cells 2)) (slA (nthV (nthB bs 1).cells 3)) (slL (nthV (nthB bs 1).cells 3)) (slC (nthV (nthB bs 1).cells 3)) (slA (nthV (nthB bs 1).cells 4)) (slL (nthV (nthB bs 1).cells 4)) (slC (nthV (nthB bs 1).cells 4)) (iV (nthV (nthB bs 1).cells 5)) (iV (nthV (nthB bs 1).cells 6)) (iV (nthV (nthB bs 1).cells 7)) w⟩]
noncomputable def V27.h : H := .s (.z) (.cut 0 (.z) (.s (.s (.z) (.c (.s (.z) (.z)) (.z))) (.s (.z) (.s (.s (.z) (.c (.s (.z) (.z)) (.z))) (.s (.z) (.s (.s (.z) (.b (.l 1 (.s (.s (.z) (.c (.z) (.z))) (.s (.b (.s (.z) (.c (.s (.z) (.z)) (.z)))) (.z)))))) (.s (.z) (.s (.z) (.s (.s (.z) (.c (.s (.z) (.z)) (.z))) (.s (.s (.z) (.b (.l 2 (.s (.s (.z) (.c (.z) (.z))) (.s (.b (.s (.z) (.s (.z) (.c (.s (.z) (.z)) (.z))))) (.z)))))) (.s (.z) (.z))))))))))))
theorem V27.vc_eq (B : Nat) (R : Value → World → Prop) (a : Option Addr) (c d : Nat) (f : Option Addr) (g i : Nat) (j : Option Addr) (l m : Nat) (n o p : Int) (w : World) : wpf (V27.cfg B) (V27.cuts B R) V27.code V27.h [] (postOf Try.prog B (Try.f27.results.toList) R) (argE 0 [.slice a c d, .slice f g i, .slice j l m, .int .u8 n, .int .u8 o, .int .u8 p]) [] w = V27.vc B R a c d f g i j l m n o p w := by kernel_rfl
theorem V27.obl (B : Nat) (R : Value → World → Prop) : oblP (V27.cfg B) (V27.cuts B R) V27.code V27.h [] (postOf Try.prog B (Try.f27.results.toList) R) := by
  have e : oblP (V27.cfg B) (V27.cuts B R) V27.code V27.h [] (postOf Try.prog B (Try.f27.results.toList) R) = (True ∧ (True ∧ (∀ (a : Int) (c : Bool) (d : Nat) (f : Option Addr) (g i : Nat) (j : Addr) (l : Option Addr) (m n : Nat) (o : Option Addr) (p q : Nat) (r : Option Addr) (s t : Nat) (u x y : Int) (w : World), V27.b0 B R a c d f g i j l m n o p q r s t u x y w → V27.b0 B R a c d f g i j l m n o p q r s t u x y w) ∧ ((True ∧ ((True ∧ True) ∧ True)) ∧ (True ∧ ((True ∧ ((True ∧ True) ∧ True)) ∧ (True ∧ ((True ∧ ((∀ (z A : Int) (C : Nat) (D E F : Int) (d : Nat) (f : Option Addr) (g i : Nat) (j : Addr) (l : Option Addr) (m n : Nat) (o : Option Addr) (p q : Nat) (r : Option Addr) (s t : Nat) (u x y : Int) (w : World), ¬ V27.l1 B R 0 z A C D E F d f g i j l m n o p q r s t u x y w) ∧ (∀ G, ∀ (z A : Int) (C : Nat) (D E F : Int) (d : Nat) (f : Option Addr) (g i : Nat) (j : Addr) (l : Option Addr) (m n : Nat) (o : Option Addr) (p q : Nat) (r : Option Addr) (s t : Nat) (u x y : Int) (w : World), V27.l1 B R (G + 1) z A C D E F d f g i j l m n o p q r s t u x y w → V27.l1 B R (G + 1) z A C D E F d f g i j l m n o p q r s t u x y w) ∧ ∀ G : Nat, ((True ∧ (True ∧ True)) ∧ ((True ∧ ((True ∧ True) ∧ True)) ∧ True)))) ∧ (True ∧ (True ∧ ((True ∧ ((True ∧ True) ∧ True)) ∧ ((True ∧ ((∀ (I J : Int) (L : Nat) (M N O : Int) (d : Nat) (f : Option Addr) (g i : Nat) (j : Addr) (l : Option Addr) (m n : Nat) (o : Option Addr) (p q : Nat) (r : Option Addr) (s t : Nat) (u x y : Int) (w : World), ¬ V27.l2 B R 0 I J L M N O d f g i j l m n o p q r s t u x y w) ∧ (∀ P, ∀ (I J : Int) (L : Nat) (M N O : Int) (d : Nat) (f : Option Addr) (g i : Nat) (j : Addr) (l : Option Addr) (m n : Nat) (o : Option Addr) (p q : Nat) (r : Option Addr) (s t : Nat) (u x y : Int) (w : World), V27.l2 B R (P + 1) I J L M N O d f g i j l m n o p q r s t u x y w → V27.l2 B R (P + 1) I J L M N O d f g i j l m n o p q r s t u x y w) ∧ ∀ P : Nat, ((True ∧ (True ∧ True)) ∧ ((True ∧ (True ∧ ((True ∧ True) ∧ True))) ∧ True)))) ∧ (True ∧ True)))))))))))) := by kernel_rfl
  rw [e]
  exact ⟨trivial, ⟨trivial, fun a c d f g i j l m n o p q r s t u x y w h => h, ⟨⟨trivial, ⟨⟨trivial, trivial⟩, trivial⟩⟩, ⟨trivial, ⟨⟨trivial, ⟨⟨trivial, trivial⟩, trivial⟩⟩, ⟨trivial, ⟨⟨trivial, ⟨fun z A C D E F d f g i j l m n o p q r s t u x y w h => h, fun _ z A C D E F d f g i j l m n o p q r s t u x y w h => h, fun G => ⟨⟨trivial, ⟨trivial, trivial⟩⟩, ⟨⟨trivial, ⟨⟨trivial, trivial⟩, trivial⟩⟩, trivial⟩⟩⟩⟩, ⟨trivial, ⟨trivial, ⟨⟨trivial, ⟨⟨trivial, trivial⟩, trivial⟩⟩, ⟨⟨trivial, ⟨fun I J L M N O d f g i j l m n o p q r s t u x y w h => h, fun _ I J L M N O d f g i j l m n o p q r s t u x y w h => h, fun P => ⟨⟨trivial, ⟨trivial, trivial⟩⟩, ⟨⟨trivial, ⟨trivial, ⟨⟨trivial, trivial⟩, trivial⟩⟩⟩, trivial⟩⟩⟩⟩, ⟨trivial, trivial⟩⟩⟩⟩⟩⟩⟩⟩⟩⟩⟩⟩
theorem V27.cfgOk (B : Nat) : CfgOk (V27.cfg B) := cfgOk_of (by kernel_rfl) (by kernel_rfl)
theorem V27.sound {a : Option Addr} {d f : Nat} {g : Option Addr} {i j : Nat} {l : Option Addr} {m n : Nat} {o p q : Int} {w : World} {R : Value → World → Prop} (h : V27.vc w.heap.size R a d f g i j l m n o p q w) : Calls Try.prog 27 ⟨[.slice a d f, .slice g i j, .slice l m n, .int .u8 o, .int .u8 p, .int .u8 q]⟩ w fun e w' => ∃ v, e = .returned v ∧ R v w' :=
  calls_wpfP (c := V27.cfg w.heap.size) (fn := Try.f27) (x := V27.code) (V27.cuts w.heap.size R) V27.h (V27.cfgOk _) mixed Try.func27 (by kernel_rfl) (by kernel_rfl) (by kernel_rfl) rfl (V27.obl _ _) ((V27.vc_eq _ _ a d f g i j l m n o p q _).symm ▸ h)
end Go.Proofs.Ytlccbaemcfjdoaa
