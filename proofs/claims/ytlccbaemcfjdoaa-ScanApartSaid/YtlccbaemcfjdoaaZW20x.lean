/-
  What the engine makes of the loaded functions 20: conditions under which a call returns as told, and proofs of that.
  Conditions: none. Printed by a program of this project.
-/
import Derived.Test.YtlccbaemcfjdoaaZWH
set_option linter.unusedVariables false
set_option maxRecDepth 100000
namespace Go.Proofs.Ytlccbaemcfjdoaa
def V20.l5 (B : Nat) (R : Value → World → Prop) : Nat → Addr → Option Addr → Nat → Nat → Int → Nat → Option Addr → Nat → Nat → Addr → Option Addr → Nat → Nat → Option Addr → Nat → Nat → Option Addr → Nat → Nat → Int → Int → Int → World → Prop
  | 0 => fun _ _ _ _ _ _ _ _ _ _ _ _ _ _ _ _ _ _ _ _ _ _ _ => False
  | k + 1 => fun a c d f g i j l m n o p q r s t u x y z A C w =>
    if (decide (g < 1024)) = true
    then (CallK Try.prog 70 [.pointer (some n), .int .i64 g, .int .u64 1] B w [i] fun v D => 
     ∃ E : Int, v = .int .i64 E ∧
     if (E != 0) = true
     then (Ret B D (R (.bool false)))
     else ((V20.l5 B R k) a c d f (IntKind.wrap .i64 (g + 1)) i j l m n o p q r s t u x y z A C D))
    else (CallK Try.prog 67 [.slice o p q, .agg ⟨[.slice j l m]⟩, .int .i64 C] B w [i] fun v D => 
     ∃ (F : Option Addr) (G I : Nat) (J : Int), v = .tuple ⟨[.slice F G I, .int .i64 J]⟩ ∧
     if (J == 0) = true
     then (CallK Try.prog 68 [.slice c d f, .slice F G I] B D [i] fun L M => 
      ∃ N : Bool, L = .bool N ∧
      if N = true
      then (CallK Try.prog 71 [.pointer (some a)] B M [i] fun O P => 
       ∃ (Q : Option Addr) (S T : Nat), O = .slice Q S T ∧
       CallK Try.prog 68 [.slice Q S T, .slice F G I] B P [i] fun U W => 
       ∃ X : Bool, U = .bool X ∧
       if X = true
       then (CallK Try.prog 65 [] B W [i] fun Y Z => 
        ∃ a0 : Bool, Y = .bool a0 ∧
        Ret B Z (R (.bool a0)))
       else (Ret B W (R (.bool false))))
      else (Ret B M (R (.bool false))))
     else (Ret B D (R (.bool false))))
def V20.b4 (B : Nat) (R : Value → World → Prop) (a : Addr) (c : Nat) (d : Option Addr) (f g : Nat) (i : Addr) (j : Option Addr) (l m : Nat) (n : Option Addr) (o p : Nat) (q : Option Addr) (r s : Nat) (t u x : Int) (w : World) : Prop :=
  CallK Try.prog 71 [.pointer (some a)] B w [c] fun v y => 
  ∃ (z : Option Addr) (A C : Nat), v = .slice z A C ∧
  ∃ D, V20.l5 B R D a z A C t c d f g i j l m n o p q r s t u x y
def V20.b3 (B : Nat) (R : Value → World → Prop) (a : Option Addr → Nat → Nat → Addr → Addr → Int → Nat → Option Addr → Nat → Nat → Addr → Option Addr → Nat → Nat → Option Addr → Nat → Nat → Option Addr → Nat → Nat → Int → Int → Int → World → Prop) (c : Option Addr) (d f : Nat) (g i : Addr) (j : Int) (l : Nat) (m : Option Addr) (n o : Nat) (p : Addr) (q : Option Addr) (r s : Nat) (t : Option Addr) (u x : Nat) (y : Option Addr) (z A : Nat) (C D E : Int) (w : World) : Prop :=
  CallK Try.prog 64 [.pointer (some g), .pointer (some p)] B w [l] fun v F => 
  ∃ (G : Int) (I : Bool) (J : Int), v = .tuple ⟨[.int .i64 G, .bool I, .int .i64 J]⟩ ∧
  if (J != 0) = true
  then (Ret B F (R (.bool false)))
  else (if I = true
   then (V20.b4 B R g l m n o p q r s t u x y z A C D E F)
   else (a c d f g i (IntKind.wrap .i64 (j + 1)) l m n o p q r s t u x y z A C D E F))
def V20.l2 (B : Nat) (R : Value → World → Prop) : Nat → Option Addr → Nat → Nat → Addr → Addr → Int → Nat → Option Addr → Nat → Nat → Addr → Option Addr → Nat → Nat → Option Addr → Nat → Nat → Option Addr → Nat → Nat → Int → Int → Int → World → Prop
  | 0 => fun _ _ _ _ _ _ _ _ _ _ _ _ _ _ _ _ _ _ _ _ _ _ _ _ => False
  | k + 1 => fun a c d f g i j l m n o p q r s t u x y z A C D w =>
    if (decide (i < 2000)) = true
    then (if (decide (i < (c : Int))) = true
     then (if (decide (i < 500)) = true
      then (∃ E : Addr, a = some E ∧ (0 : Int) ≤ i ∧ i < (c : Int) ∧
      ∃ F : Bool, w.cell? (E.add i.toNat) = some (.bool F) ∧
      if F = true
       then (CallK Try.prog 64 [.pointer (some g), .pointer (some o)] B w [j] fun v G => 
        ∃ (I : Int) (J : Bool) (L : Int), v = .tuple ⟨[.int .i64 I, .bool J, .int .i64 L]⟩ ∧ (V20.l2 B R k) a c d f g (IntKind.wrap .i64 (i + 1)) j l m n o p q r s t u x y z A C D G)
       else (V20.b3 B R (V20.l2 B R k) a c d f g i j l m n o p q r s t u x y z A C D w))
      else (V20.b3 B R (V20.l2 B R k) a c d f g i j l m n o p q r s t u x y z A C D w))
     else (V20.b3 B R (V20.l2 B R k) a c d f g i j l m n o p q r s t u x y z A C D w))
    else (V20.b4 B R f j l m n o p q r s t u x y z A C D w)
def V20.b1 (B : Nat) (R : Value → World → Prop) (a : Option Addr) (c d : Nat) (f g : Addr) (i : Nat) (j : Option Addr) (l m : Nat) (n : Addr) (o : Option Addr) (p q : Nat) (r : Option Addr) (s t : Nat) (u : Option Addr) (x y : Nat) (z A C : Int) (w : World) : Prop :=
  ∃ D, V20.l2 B R D a c d f g 0 i j l m n o p q r s t u x y z A C w
def V20.b0 (B : Nat) (R : Value → World → Prop) (a : Option Addr) (c d : Nat) (f : Bool) (g : Nat) (i : Option Addr) (j l : Nat) (m : Addr) (n : Option Addr) (o p : Nat) (q : Option Addr) (r s : Nat) (t : Option Addr) (u x : Nat) (y z A : Int) (w : World) : Prop :=
  if (!f) = true
  then (Ret B w (R (.bool false)))
  else (CallK Try.prog 63 [.agg ⟨[.slice i j l]⟩, .int .i64 A] B w [g] fun v C => 
   ∃ D : Option Addr, v = .pointer D ∧
   caseP D
   (CallK Try.prog 63 [.agg ⟨[.slice i j l]⟩, .int .i64 A] B C [g] fun E F => 
    ∃ G : Option Addr, E = .pointer G ∧
    caseP G
    (False)
    (fun I => False))
   (fun J => CallK Try.prog 63 [.agg ⟨[.slice i j l]⟩, .int .i64 A] B C [g] fun E F => 
    ∃ G : Option Addr, E = .pointer G ∧
    caseP G
    (False)
    (fun I => V20.b1 B R a c d J I g i j l m n o p q r s t u x y z A F)))
def V20.vc (B : Nat) (R : Value → World → Prop) (a : Option Addr) (c d : Nat) (f : Option Addr) (g i : Nat) (j : Int) (l : Option Addr) (m n : Nat) (w : World) : Prop :=
  CallK Try.prog 62 [.slice a c d, .slice f g i, .slice none 0 0, .int .u8 j, .int .u8 0] B w [] fun v o => 
  ∃ (p : Option Addr) (q r : Nat) (s t : Option Addr) (u x : Nat) (y : Option Addr) (z A : Nat) (C : Option Addr) (D E : Nat) (F G I : Int) (J : Bool), v = .tuple ⟨[.agg ⟨[.slice p q r, .pointer s, .slice t u x, .slice y z A, .slice C D E, .int .i64 F, .int .i64 G, .int .i64 I]⟩, .bool J]⟩ ∧
  caseP s
  (∀ L : Nat, o.heap.size ≤ L → False)
  (fun M => ∀ L : Nat, o.heap.size ≤ L →
  V20.b0 B R l m n J L p q r M t u x y z A C D E F G I o)
noncomputable def V20.cfg (B : Nat) : Cfg := ⟨Try.prog, ⟨122, B⟩, [], hasN [62, 63, 64, 65, 67, 68, 70, 71], hasN []⟩
noncomputable def V20.code : Code := (Try.f20.body).getD .skip
noncomputable def V20.cuts (B : Nat) (R : Value → World → Prop) : Nat → Cut := nthC [⟨[(3, .one (.slice)), (10, .one (.bool))], [(9, 101, [.slice, .ptr, .slice, .slice, .slice, .int .i64, .int .i64, .int .i64])], fun fs vs bs w => V20.b0 B R (slA (nthV vs 0)) (slL (nthV vs 0)) (slC (nthV vs 0)) (bV (nthV vs 1)) (nthB bs 0).blk (slA (nthV (nthB bs 0).cells 0)) (slL (nthV (nthB bs 0).cells 0)) (slC (nthV (nthB bs 0).cells 0)) (pV (nthV (nthB bs 0).cells 1)) (slA (nthV (nthB bs 0).cells 2)) (slL (nthV (nthB bs 0).cells 2)) (slC (nthV (nthB bs 0).cells 2)) (slA (nthV (nthB bs 0).cells 3)) (slL (nthV (nthB bs 0).cells 3)) (slC (nthV (nthB bs 0).cells 3)) (slA (nthV (nthB bs 0).cells 4)) (slL (nthV (nthB bs 0).cells 4)) (slC (nthV (nthB bs 0).cells 4)) (iV (nthV (nthB bs 0).cells 5)) (iV (nthV (nthB bs 0).cells 6)) (iV (nthV (nthB bs 0).cells 7)) w⟩,
  ⟨[(3, .one (.slice)), (11, .one (.ptr)), (12, .one (.ptr))], [(9, 101, [.slice, .ptr, .slice, .slice, .slice, .int .i64, .int .i64, .int .i64])], fun fs vs bs w => V20.b1 B R (slA (nthV vs 0)) (slL (nthV vs 0)) (slC (nthV vs 0)) (pV (nthV vs 1)) (pV (nthV vs 2)) (nthB bs 0).blk (slA (nthV (nthB bs 0).cells 0)) (slL (nthV (nthB bs 0).cells 0)) (slC (nthV (nthB bs 0).cells 0)) (pV (nthV (nthB bs 0).cells 1)) (slA (nthV (nthB bs 0).cells 2)) (slL (nthV (nthB bs 0).cells 2)) (slC (nthV (nthB bs 0).cells 2)) (slA (nthV (nthB bs 0).cells 3)) (slL (nthV (nthB bs 0).cells 3)) (slC (nthV (nthB bs 0).cells 3)) (slA (nthV (nthB bs 0).cells 4)) (slL (nthV (nthB bs 0).cells 4)) (slC (nthV (nthB bs 0).cells 4)) (iV (nthV (nthB bs 0).cells 5)) (iV (nthV (nthB bs 0).cells 6)) (iV (nthV (nthB bs 0).cells 7)) w⟩,
  ⟨[(3, .one (.slice)), (11, .one (.ptr)), (12, .one (.ptr)), (13, .one (.int .i64))], [(9, 101, [.slice, .ptr, .slice, .slice, .slice, .int .i64, .int .i64, .int .i64])], fun fs vs bs w => V20.l2 B R (nthN fs 0) (slA (nthV vs 0)) (slL (nthV vs 0)) (slC (nthV vs 0)) (pV (nthV vs 1)) (pV (nthV vs 2)) (iV (nthV vs 3)) (nthB bs 0).blk (slA (nthV (nthB bs 0).cells 0)) (slL (nthV (nthB bs 0).cells 0)) (slC (nthV (nthB bs 0).cells 0)) (pV (nthV (nthB bs 0).cells 1)) (slA (nthV (nthB bs 0).cells 2)) (slL (nthV (nthB bs 0).cells 2)) (slC (nthV (nthB bs 0).cells 2)) (slA (nthV (nthB bs 0).cells 3)) (slL (nthV (nthB bs 0).cells 3)) (slC (nthV (nthB bs 0).cells 3)) (slA (nthV (nthB bs 0).cells 4)) (slL (nthV (nthB bs 0).cells 4)) (slC (nthV (nthB bs 0).cells 4)) (iV (nthV (nthB bs 0).cells 5)) (iV (nthV (nthB bs 0).cells 6)) (iV (nthV (nthB bs 0).cells 7)) w⟩,
  ⟨[(3, .one (.slice)), (11, .one (.ptr)), (12, .one (.ptr)), (13, .one (.int .i64))], [(9, 101, [.slice, .ptr, .slice, .slice, .slice, .int .i64, .int .i64, .int .i64])], fun fs vs bs w => V20.b3 B R (V20.l2 B R (nthN fs 0)) (slA (nthV vs 0)) (slL (nthV vs 0)) (slC (nthV vs 0)) (pV (nthV vs 1)) (pV (nthV vs 2)) (iV (nthV vs 3)) (nthB bs 0).blk (slA (nthV (nthB bs 0).cells 0)) (slL (nthV (nthB bs 0).cells 0)) (slC (nthV (nthB bs 0).cells 0)) (pV (nthV (nthB bs 0).cells 1)) (slA (nthV (nthB bs 0).cells 2)) (slL (nthV (nthB bs 0).cells 2)) (slC (nthV (nthB bs 0).cells 2)) (slA (nthV (nthB bs 0).cells 3)) (slL (nthV (nthB bs 0).cells 3)) (slC (nthV (nthB bs 0).cells 3)) (slA (nthV (nthB bs 0).cells 4)) (slL (nthV (nthB bs 0).cells 4)) (slC (nthV (nthB bs 0).cells 4)) (iV (nthV (nthB bs 0).cells 5)) (iV (nthV (nthB bs 0).cells 6)) (iV (nthV (nthB bs 0).cells 7)) w⟩,
  ⟨[(11, .one (.ptr))], [(9, 101, [.slice, .ptr, .slice, .slice, .slice, .int .i64, .int .i64, .int .i64])], fun fs vs bs w => V20.b4 B R (pV (nthV vs 0)) (nthB bs 0).blk (slA (nthV (nthB bs 0).cells 0)) (slL (nthV (nthB bs 0).cells 0)) (slC (nthV (nthB bs 0).cells 0)) (pV (nthV (nthB bs 0).cells 1)) (slA (nthV (nthB bs 0).cells 2)) (slL (nthV (nthB bs 0).cells 2)) (slC (nthV (nthB bs 0).cells 2)) (slA (nthV (nthB bs 0).cells 3)) (slL (nthV (nthB bs 0).cells 3)) (slC (nthV (nthB bs 0).cells 3)) (slA (nthV (nthB bs 0).cells 4)) (slL (nthV (nthB bs 0).cells 4)) (slC (nthV (nthB bs 0).cells 4)) (iV (nthV (nthB bs 0).cells 5)) (iV (nthV (nthB bs 0).cells 6)) (iV (nthV (nthB bs 0).cells 7)) w⟩,
  ⟨[(11, .one (.ptr)), (17, .one (.slice)), (18, .one (.int .i64))], [(9, 101, [.slice, .ptr, .slice, .slice, .slice, .int .i64, .int .i64, .int .i64])], fun fs vs bs w => V20.l5 B R (nthN fs 0) (pV (nthV vs 0)) (slA (nthV vs 1)) (slL (nthV vs 1)) (slC (nthV vs 1)) (iV (nthV vs 2)) (nthB bs 0).blk (slA (nthV (nthB bs 0).cells 0)) (slL (nthV (nthB bs 0).cells 0)) (slC (nthV (nthB bs 0).cells 0)) (pV (nthV (nthB bs 0).cells 1)) (slA (nthV (nthB bs 0).cells 2)) (slL (nthV (nthB bs 0).cells 2)) (slC (nthV (nthB bs 0).cells 2)) (slA (nthV (nthB bs 0).cells 3)) (slL (nthV (nthB bs 0).cells 3)) (slC (nthV (nthB bs 0).cells 3)) (slA (nthV (nthB bs 0).cells 4)) (slL (nthV (nthB bs 0).cells 4)) (slC (nthV (nthB bs 0).cells 4)) (iV (nthV (nthB bs 0).cells 5)) (iV (nthV (nthB bs 0).cells 6)) (iV (nthV (nthB bs 0).cells 7)) w⟩]
noncomputable def V20.h : H := .s (.z) (.cut 0 (.z) (.s (.s (.z) (.c (.s (.z) (.z)) (.z))) (.cut 1 (.r [[0, 1, 2, 3, 4, 6, 7, 8, 9, 10, 5, 11, 12, 13]]) (.s (.s (.z) (.c (.s (.z) (.z)) (.z))) (.cut 4 (.s (.z) (.b (.l 2 (.s (.s (.z) (.c (.z) (.z))) (.s (.b (.cut 3 (.s (.z) (.c (.s (.z) (.z)) (.z))) (.s (.z) (.s (.s (.z) (.c (.s (.z) (.z)) (.z))) (.s (.z) (.c (.z) (.z))))))) (.z)))))) (.s (.z) (.s (.s (.z) (.b (.l 5 (.s (.s (.z) (.c (.z) (.z))) (.s (.b (.s (.z) (.c (.s (.z) (.z)) (.z)))) (.z)))))) (.s (.z) (.s (.z) (.z))))))))))
theorem V20.vc_eq (B : Nat) (R : Value → World → Prop) (a : Option Addr) (c d : Nat) (f : Option Addr) (g i : Nat) (j : Int) (l : Option Addr) (m n : Nat) (w : World) : wpf (V20.cfg B) (V20.cuts B R) V20.code V20.h [] (postOf Try.prog B (Try.f20.results.toList) R) (argE 0 [.slice a c d, .slice f g i, .int .u8 j, .slice l m n]) [] w = V20.vc B R a c d f g i j l m n w := by kernel_rfl
theorem V20.obl (B : Nat) (R : Value → World → Prop) : oblP (V20.cfg B) (V20.cuts B R) V20.code V20.h [] (postOf Try.prog B (Try.f20.results.toList) R) := by
  have e : oblP (V20.cfg B) (V20.cuts B R) V20.code V20.h [] (postOf Try.prog B (Try.f20.results.toList) R) = (True ∧ (True ∧ (∀ (a : Option Addr) (c d : Nat) (f : Bool) (g : Nat) (i : Option Addr) (j l : Nat) (m : Addr) (n : Option Addr) (o p : Nat) (q : Option Addr) (r s : Nat) (t : Option Addr) (u x : Nat) (y z A : Int) (w : World), V20.b0 B R a c d f g i j l m n o p q r s t u x y z A w → V20.b0 B R a c d f g i j l m n o p q r s t u x y z A w) ∧ ((True ∧ ((True ∧ True) ∧ True)) ∧ ((true = true) ∧ (∀ (a : Option Addr) (c d : Nat) (C D : Addr) (g : Nat) (i : Option Addr) (j l : Nat) (m : Addr) (n : Option Addr) (o p : Nat) (q : Option Addr) (r s : Nat) (t : Option Addr) (u x : Nat) (y z A : Int) (w : World), V20.b1 B R a c d C D g i j l m n o p q r s t u x y z A w → V20.b1 B R a c d C D g i j l m n o p q r s t u x y z A w) ∧ ((True ∧ ((True ∧ True) ∧ True)) ∧ ((True ∧ ((∀ (a : Option Addr) (c d : Nat) (C D : Addr) (E : Int) (g : Nat) (i : Option Addr) (j l : Nat) (m : Addr) (n : Option Addr) (o p : Nat) (q : Option Addr) (r s : Nat) (t : Option Addr) (u x : Nat) (y z A : Int) (w : World), ¬ V20.l2 B R 0 a c d C D E g i j l m n o p q r s t u x y z A w) ∧ (∀ F, ∀ (a : Option Addr) (c d : Nat) (C D : Addr) (E : Int) (g : Nat) (i : Option Addr) (j l : Nat) (m : Addr) (n : Option Addr) (o p : Nat) (q : Option Addr) (r s : Nat) (t : Option Addr) (u x : Nat) (y z A : Int) (w : World), V20.l2 B R (F + 1) a c d C D E g i j l m n o p q r s t u x y z A w → V20.l2 B R (F + 1) a c d C D E g i j l m n o p q r s t u x y z A w) ∧ ∀ F : Nat, ((True ∧ (True ∧ True)) ∧ (((True ∧ ((True ∧ True) ∧ True)) ∧ (∀ (a : Option Addr) (c d : Nat) (C D : Addr) (E : Int) (g : Nat) (i : Option Addr) (j l : Nat) (m : Addr) (n : Option Addr) (o p : Nat) (q : Option Addr) (r s : Nat) (t : Option Addr) (u x : Nat) (y z A : Int) (w : World), V20.b3 B R (V20.l2 B R F) a c d C D E g i j l m n o p q r s t u x y z A w → V20.b3 B R (V20.l2 B R F) a c d C D E g i j l m n o p q r s t u x y z A w) ∧ (True ∧ ((True ∧ ((True ∧ True) ∧ True)) ∧ (True ∧ (True ∧ True))))) ∧ True)))) ∧ (∀ (C : Addr) (g : Nat) (i : Option Addr) (j l : Nat) (m : Addr) (n : Option Addr) (o p : Nat) (q : Option Addr) (r s : Nat) (t : Option Addr) (u x : Nat) (y z A : Int) (w : World), V20.b4 B R C g i j l m n o p q r s t u x y z A w → V20.b4 B R C g i j l m n o p q r s t u x y z A w) ∧ (True ∧ ((True ∧ ((∀ (C : Addr) (G : Option Addr) (I J : Nat) (L : Int) (g : Nat) (i : Option Addr) (j l : Nat) (m : Addr) (n : Option Addr) (o p : Nat) (q : Option Addr) (r s : Nat) (t : Option Addr) (u x : Nat) (y z A : Int) (w : World), ¬ V20.l5 B R 0 C G I J L g i j l m n o p q r s t u x y z A w) ∧ (∀ M, ∀ (C : Addr) (G : Option Addr) (I J : Nat) (L : Int) (g : Nat) (i : Option Addr) (j l : Nat) (m : Addr) (n : Option Addr) (o p : Nat) (q : Option Addr) (r s : Nat) (t : Option Addr) (u x : Nat) (y z A : Int) (w : World), V20.l5 B R (M + 1) C G I J L g i j l m n o p q r s t u x y z A w → V20.l5 B R (M + 1) C G I J L g i j l m n o p q r s t u x y z A w) ∧ ∀ M : Nat, ((True ∧ (True ∧ True)) ∧ ((True ∧ ((True ∧ True) ∧ True)) ∧ True)))) ∧ (True ∧ (True ∧ True)))))))))) := by kernel_rfl
  rw [e]
  exact ⟨trivial, ⟨trivial, fun a c d f g i j l m n o p q r s t u x y z A w h => h, ⟨⟨trivial, ⟨⟨trivial, trivial⟩, trivial⟩⟩, ⟨rfl, fun a c d C D g i j l m n o p q r s t u x y z A w h => h, ⟨⟨trivial, ⟨⟨trivial, trivial⟩, trivial⟩⟩, ⟨⟨trivial, ⟨fun a c d C D E g i j l m n o p q r s t u x y z A w h => h, fun _ a c d C D E g i j l m n o p q r s t u x y z A w h => h, fun F => ⟨⟨trivial, ⟨trivial, trivial⟩⟩, ⟨⟨⟨trivial, ⟨⟨trivial, trivial⟩, trivial⟩⟩, fun a c d C D E g i j l m n o p q r s t u x y z A w h => h, ⟨trivial, ⟨⟨trivial, ⟨⟨trivial, trivial⟩, trivial⟩⟩, ⟨trivial, ⟨trivial, trivial⟩⟩⟩⟩⟩, trivial⟩⟩⟩⟩, fun C g i j l m n o p q r s t u x y z A w h => h, ⟨trivial, ⟨⟨trivial, ⟨fun C G I J L g i j l m n o p q r s t u x y z A w h => h, fun _ C G I J L g i j l m n o p q r s t u x y z A w h => h, fun M => ⟨⟨trivial, ⟨trivial, trivial⟩⟩, ⟨⟨trivial, ⟨⟨trivial, trivial⟩, trivial⟩⟩, trivial⟩⟩⟩⟩, ⟨trivial, ⟨trivial, trivial⟩⟩⟩⟩⟩⟩⟩⟩⟩⟩
theorem V20.cfgOk (B : Nat) : CfgOk (V20.cfg B) := cfgOk_of (by kernel_rfl) (by kernel_rfl)
theorem V20.sound {a : Option Addr} {d f : Nat} {g : Option Addr} {i j : Nat} {l : Int} {m : Option Addr} {n o : Nat} {w : World} {R : Value → World → Prop} (h : V20.vc w.heap.size R a d f g i j l m n o w) : Calls Try.prog 20 ⟨[.slice a d f, .slice g i j, .int .u8 l, .slice m n o]⟩ w fun e w' => ∃ v, e = .returned v ∧ R v w' :=
  calls_wpfP (c := V20.cfg w.heap.size) (fn := Try.f20) (x := V20.code) (V20.cuts w.heap.size R) V20.h (V20.cfgOk _) mixed Try.func20 (by kernel_rfl) (by kernel_rfl) (by kernel_rfl) rfl (V20.obl _ _) ((V20.vc_eq _ _ a d f g i j l m n o _).symm ▸ h)
end Go.Proofs.Ytlccbaemcfjdoaa
