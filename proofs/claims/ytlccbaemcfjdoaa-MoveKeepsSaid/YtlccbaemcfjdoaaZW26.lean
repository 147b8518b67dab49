/-
  What the engine makes of the loaded functions 26: conditions under which a call returns as told, and proofs of that.
  Conditions: none. Printed by a program of this project.
-/
import Derived.Test.YtlccbaemcfjdoaaZWM
set_option linter.unusedVariables false
set_option maxRecDepth 100000
namespace Go.Proofs.Ytlccbaemcfjdoaa
def V26.l2 (B : Nat) (R : Value → World → Prop) : Nat → Int → Int → Int → Nat → Option Addr → Nat → Nat → Addr → Option Addr → Nat → Nat → Option Addr → Nat → Nat → Option Addr → Nat → Nat → Int → Int → Int → World → Prop
  | 0 => fun _ _ _ _ _ _ _ _ _ _ _ _ _ _ _ _ _ _ _ _ _ => False
  | k + 1 => fun a c d f g i j l m n o p q r s t u x y z w =>
    if (decide (d < (n : Int))) = true
    then (CallK Try.prog 57 [.pointer (some l), .int .i64 d] B w [f] fun v A => 
     ∃ C D : Int, v = .tuple ⟨[.int .u64 C, .int .i64 D]⟩ ∧
     if (decide (d < c)) = false
     then (if (decide (d ≥ IntKind.wrap .i64 (IntKind.wrap .i64 (c + a) - x))) = true
      then (∃ E : Addr, m = some E ∧ (0 : Int) ≤ d ∧ d < (n : Int) ∧
      ∃ F : Int, A.cell? (E.add d.toNat) = some (.int .u64 F) ∧
      if (C != F) = true
       then (Ret B A (R (.bool false)))
       else ((V26.l2 B R k) a c (IntKind.wrap .i64 (d + 1)) f g i j l m n o p q r s t u x y z A))
      else ((V26.l2 B R k) a c (IntKind.wrap .i64 (d + 1)) f g i j l m n o p q r s t u x y z A))
     else (∃ E : Addr, m = some E ∧ (0 : Int) ≤ d ∧ d < (n : Int) ∧
     ∃ F : Int, A.cell? (E.add d.toNat) = some (.int .u64 F) ∧
     if (C != F) = true
      then (Ret B A (R (.bool false)))
      else ((V26.l2 B R k) a c (IntKind.wrap .i64 (d + 1)) f g i j l m n o p q r s t u x y z A)))
    else (CallK Try.prog 81 [.agg ⟨[.slice g i j, .pointer (some l), .slice m n o, .slice p q r, .slice s t u, .int .i64 x, .int .i64 y, .int .i64 z]⟩, .agg ⟨[.int .i64 x, .int .i64 y, .int .i64 z]⟩] B w [f] fun v A => 
     ∃ G : Bool, v = .bool G ∧
     if G = true
     then (CallK Try.prog 72 [] B A [f] fun I J => 
      ∃ L : Bool, I = .bool L ∧
      Ret B J (R (.bool L)))
     else (Ret B A (R (.bool false))))
def V26.b1 (B : Nat) (R : Value → World → Prop) (a c d f : Int) (g : Bool) (i : Nat) (j : Option Addr) (l m : Nat) (n : Addr) (o : Option Addr) (p q : Nat) (r : Option Addr) (s t : Nat) (u : Option Addr) (x y : Nat) (z A C : Int) (w : World) : Prop :=
  if g = true
  then (if (c == 0) = true
   then (CallK Try.prog 72 [] B w [i] fun v D => 
    ∃ E : Bool, v = .bool E ∧
    Ret B D (R (.bool E)))
   else (Ret B w (R (.bool false))))
  else (CallK Try.prog 75 [.pointer (some n), .agg ⟨[.slice j l m]⟩, .agg ⟨[.int .i64 z, .int .i64 A, .int .i64 C]⟩, .int .i64 f, .int .i64 d] B w [i] fun v D => 
   ∃ F G I J : Int, v = .tuple ⟨[.agg ⟨[.int .i64 F, .int .i64 G, .int .i64 I]⟩, .int .i64 J]⟩ ∧
   ∀ L : Nat, D.heap.size ≤ L →
   if (J != 0) = false
   then (if (F != f) = false
    then (if (G != d) = false
     then (CallK Try.prog 81 [.agg ⟨[.slice j l m, .pointer (some n), .slice o p q, .slice r s t, .slice u x y, .int .i64 z, .int .i64 A, .int .i64 C]⟩, .agg ⟨[.int .i64 F, .int .i64 G, .int .i64 I]⟩] B D [L, i] fun M N => 
      ∃ O : Bool, M = .bool O ∧
      if (!O) = true
      then (Ret B N (R (.bool false)))
      else (∃ P, V26.l2 B R P a f 0 i j l m n o p q r s t u x y z A C N))
     else (Ret B D (R (.bool false))))
    else (Ret B D (R (.bool false))))
   else (Ret B D (R (.bool false))))
def V26.b0 (B : Nat) (R : Value → World → Prop) (a c : Int) (d : Bool) (f : Nat) (g : Option Addr) (i j : Nat) (l : Addr) (m : Option Addr) (n o : Nat) (p : Option Addr) (q r : Nat) (s : Option Addr) (t u : Nat) (x y z : Int) (w : World) : Prop :=
  if (!d) = true
  then (Ret B w (R (.bool false)))
  else (CallK Try.prog 73 [.pointer (some l), .agg ⟨[.slice g i j]⟩, .agg ⟨[.int .i64 x, .int .i64 y, .int .i64 z]⟩] B w [f] fun v A => 
   ∃ C D : Int, v = .tuple ⟨[.int .i64 C, .int .i64 D]⟩ ∧
   CallK Try.prog 80 [.agg ⟨[.slice g i j, .pointer (some l), .slice m n o, .slice p q r, .slice s t u, .int .i64 x, .int .i64 y, .int .i64 z]⟩, .int .u8 a, .int .i64 (if 1 > IntKind.wrap .i64 (IntKind.wrap .i64 (C - x) + IntKind.wrap .i64 c) then 1 else IntKind.wrap .i64 (IntKind.wrap .i64 (C - x) + IntKind.wrap .i64 c))] B A [f] fun E F => 
   ∃ G : Int, E = .int .i64 G ∧
   if (D != 0) = false
   then (V26.b1 B R C D (if 1 > IntKind.wrap .i64 (IntKind.wrap .i64 (C - x) + IntKind.wrap .i64 c) then 1 else IntKind.wrap .i64 (IntKind.wrap .i64 (C - x) + IntKind.wrap .i64 c)) G (decide (IntKind.wrap .i64 (G + (if 1 > IntKind.wrap .i64 (IntKind.wrap .i64 (C - x) + IntKind.wrap .i64 c) then 1 else IntKind.wrap .i64 (IntKind.wrap .i64 (C - x) + IntKind.wrap .i64 c))) > 1024)) f g i j l m n o p q r s t u x y z F)
   else (V26.b1 B R C D (if 1 > IntKind.wrap .i64 (IntKind.wrap .i64 (C - x) + IntKind.wrap .i64 c) then 1 else IntKind.wrap .i64 (IntKind.wrap .i64 (C - x) + IntKind.wrap .i64 c)) G true f g i j l m n o p q r s t u x y z F))
def V26.vc (B : Nat) (R : Value → World → Prop) (a : Option Addr) (c d : Nat) (f : Option Addr) (g i : Nat) (j : Option Addr) (l m : Nat) (n o p q : Int) (w : World) : Prop :=
  CallK Try.prog 62 [.slice a c d, .slice f g i, .slice j l m, .int .u8 n, .int .u8 o] B w [] fun v r => 
  ∃ (s : Option Addr) (t u : Nat) (x y : Option Addr) (z A : Nat) (C : Option Addr) (D E : Nat) (F : Option Addr) (G I : Nat) (J L M : Int) (N : Bool), v = .tuple ⟨[.agg ⟨[.slice s t u, .pointer x, .slice y z A, .slice C D E, .slice F G I, .int .i64 J, .int .i64 L, .int .i64 M]⟩, .bool N]⟩ ∧
  caseP x
  (∀ O : Nat, r.heap.size ≤ O → False)
  (fun P => ∀ O : Nat, r.heap.size ≤ O →
  V26.b0 B R p q N O s t u P y z A C D E F G I J L M r)
noncomputable def V26.cfg (B : Nat) : Cfg := ⟨Try.prog, ⟨149, B⟩, [], hasN [57, 62, 72, 73, 75, 80, 81], hasN []⟩
noncomputable def V26.code : Code := (Try.f26.body).getD .skip
noncomputable def V26.cuts (B : Nat) (R : Value → World → Prop) : Nat → Cut := nthC [⟨[(5, .one (.int .u8)), (6, .one (.int .u8)), (16, .one (.bool))], [(15, 101, [.slice, .ptr, .slice, .slice, .slice, .int .i64, .int .i64, .int .i64])], fun fs vs bs w => V26.b0 B R (iV (nthV vs 0)) (iV (nthV vs 1)) (bV (nthV vs 2)) (nthB bs 0).blk (slA (nthV (nthB bs 0).cells 0)) (slL (nthV (nthB bs 0).cells 0)) (slC (nthV (nthB bs 0).cells 0)) (pV (nthV (nthB bs 0).cells 1)) (slA (nthV (nthB bs 0).cells 2)) (slL (nthV (nthB bs 0).cells 2)) (slC (nthV (nthB bs 0).cells 2)) (slA (nthV (nthB bs 0).cells 3)) (slL (nthV (nthB bs 0).cells 3)) (slC (nthV (nthB bs 0).cells 3)) (slA (nthV (nthB bs 0).cells 4)) (slL (nthV (nthB bs 0).cells 4)) (slC (nthV (nthB bs 0).cells 4)) (iV (nthV (nthB bs 0).cells 5)) (iV (nthV (nthB bs 0).cells 6)) (iV (nthV (nthB bs 0).cells 7)) w⟩,
  ⟨[(17, .one (.int .i64)), (18, .one (.int .i64)), (19, .one (.int .i64)), (20, .one (.int .i64)), (67, .one (.bool))], [(15, 101, [.slice, .ptr, .slice, .slice, .slice, .int .i64, .int .i64, .int .i64])], fun fs vs bs w => V26.b1 B R (iV (nthV vs 0)) (iV (nthV vs 1)) (iV (nthV vs 2)) (iV (nthV vs 3)) (bV (nthV vs 4)) (nthB bs 0).blk (slA (nthV (nthB bs 0).cells 0)) (slL (nthV (nthB bs 0).cells 0)) (slC (nthV (nthB bs 0).cells 0)) (pV (nthV (nthB bs 0).cells 1)) (slA (nthV (nthB bs 0).cells 2)) (slL (nthV (nthB bs 0).cells 2)) (slC (nthV (nthB bs 0).cells 2)) (slA (nthV (nthB bs 0).cells 3)) (slL (nthV (nthB bs 0).cells 3)) (slC (nthV (nthB bs 0).cells 3)) (slA (nthV (nthB bs 0).cells 4)) (slL (nthV (nthB bs 0).cells 4)) (slC (nthV (nthB bs 0).cells 4)) (iV (nthV (nthB bs 0).cells 5)) (iV (nthV (nthB bs 0).cells 6)) (iV (nthV (nthB bs 0).cells 7)) w⟩,
  ⟨[(17, .one (.int .i64)), (20, .one (.int .i64)), (23, .one (.int .i64))], [(15, 101, [.slice, .ptr, .slice, .slice, .slice, .int .i64, .int .i64, .int .i64])], fun fs vs bs w => V26.l2 B R (nthN fs 0) (iV (nthV vs 0)) (iV (nthV vs 1)) (iV (nthV vs 2)) (nthB bs 0).blk (slA (nthV (nthB bs 0).cells 0)) (slL (nthV (nthB bs 0).cells 0)) (slC (nthV (nthB bs 0).cells 0)) (pV (nthV (nthB bs 0).cells 1)) (slA (nthV (nthB bs 0).cells 2)) (slL (nthV (nthB bs 0).cells 2)) (slC (nthV (nthB bs 0).cells 2)) (slA (nthV (nthB bs 0).cells 3)) (slL (nthV (nthB bs 0).cells 3)) (slC (nthV (nthB bs 0).cells 3)) (slA (nthV (nthB bs 0).cells 4)) (slL (nthV (nthB bs 0).cells 4)) (slC (nthV (nthB bs 0).cells 4)) (iV (nthV (nthB bs 0).cells 5)) (iV (nthV (nthB bs 0).cells 6)) (iV (nthV (nthB bs 0).cells 7)) w⟩]
noncomputable def V26.h : H := .s (.z) (.cut 0 (.z) (.s (.s (.z) (.c (.s (.z) (.z)) (.z))) (.s (.z) (.s (.z) (.s (.z) (.s (.cut 1 (.z) (.c (.s (.z) (.z)) (.z))) (.s (.z) (.s (.s (.z) (.c (.s (.z) (.z)) (.z))) (.s (.s (.z) (.b (.l 2 (.s (.s (.z) (.c (.z) (.z))) (.s (.b (.s (.z) (.s (.z) (.c (.s (.z) (.z)) (.z))))) (.z)))))) (.s (.z) (.z)))))))))))
theorem V26.vc_eq (B : Nat) (R : Value → World → Prop) (a : Option Addr) (c d : Nat) (f : Option Addr) (g i : Nat) (j : Option Addr) (l m : Nat) (n o p q : Int) (w : World) : wpf (V26.cfg B) (V26.cuts B R) V26.code V26.h [] (postOf Try.prog B (Try.f26.results.toList) R) (argE 0 [.slice a c d, .slice f g i, .slice j l m, .int .u8 n, .int .u8 o, .int .u8 p, .int .u8 q]) [] w = V26.vc B R a c d f g i j l m n o p q w := by kernel_rfl
theorem V26.obl (B : Nat) (R : Value → World → Prop) : oblP (V26.cfg B) (V26.cuts B R) V26.code V26.h [] (postOf Try.prog B (Try.f26.results.toList) R) := by
  have e : oblP (V26.cfg B) (V26.cuts B R) V26.code V26.h [] (postOf Try.prog B (Try.f26.results.toList) R) = (True ∧ (True ∧ (∀ (a c : Int) (d : Bool) (f : Nat) (g : Option Addr) (i j : Nat) (l : Addr) (m : Option Addr) (n o : Nat) (p : Option Addr) (q r : Nat) (s : Option Addr) (t u : Nat) (x y z : Int) (w : World), V26.b0 B R a c d f g i j l m n o p q r s t u x y z w → V26.b0 B R a c d f g i j l m n o p q r s t u x y z w) ∧ ((True ∧ ((True ∧ True) ∧ True)) ∧ (True ∧ (True ∧ (True ∧ ((True ∧ (∀ (A C D E : Int) (F : Bool) (f : Nat) (g : Option Addr) (i j : Nat) (l : Addr) (m : Option Addr) (n o : Nat) (p : Option Addr) (q r : Nat) (s : Option Addr) (t u : Nat) (x y z : Int) (w : World), V26.b1 B R A C D E F f g i j l m n o p q r s t u x y z w → V26.b1 B R A C D E F f g i j l m n o p q r s t u x y z w) ∧ ((True ∧ True) ∧ True)) ∧ (True ∧ ((True ∧ ((True ∧ True) ∧ True)) ∧ ((True ∧ ((∀ (A E G : Int) (f : Nat) (g : Option Addr) (i j : Nat) (l : Addr) (m : Option Addr) (n o : Nat) (p : Option Addr) (q r : Nat) (s : Option Addr) (t u : Nat) (x y z : Int) (w : World), ¬ V26.l2 B R 0 A E G f g i j l m n o p q r s t u x y z w) ∧ (∀ I, ∀ (A E G : Int) (f : Nat) (g : Option Addr) (i j : Nat) (l : Addr) (m : Option Addr) (n o : Nat) (p : Option Addr) (q r : Nat) (s : Option Addr) (t u : Nat) (x y z : Int) (w : World), V26.l2 B R (I + 1) A E G f g i j l m n o p q r s t u x y z w → V26.l2 B R (I + 1) A E G f g i j l m n o p q r s t u x y z w) ∧ ∀ I : Nat, ((True ∧ (True ∧ True)) ∧ ((True ∧ (True ∧ ((True ∧ True) ∧ True))) ∧ True)))) ∧ (True ∧ True))))))))))) := by kernel_rfl
  rw [e]
  exact ⟨trivial, ⟨trivial, fun a c d f g i j l m n o p q r s t u x y z w h => h, ⟨⟨trivial, ⟨⟨trivial, trivial⟩, trivial⟩⟩, ⟨trivial, ⟨trivial, ⟨trivial, ⟨⟨trivial, fun A C D E F f g i j l m n o p q r s t u x y z w h => h, ⟨⟨trivial, trivial⟩, trivial⟩⟩, ⟨trivial, ⟨⟨trivial, ⟨⟨trivial, trivial⟩, trivial⟩⟩, ⟨⟨trivial, ⟨fun A E G f g i j l m n o p q r s t u x y z w h => h, fun _ A E G f g i j l m n o p q r s t u x y z w h => h, fun I => ⟨⟨trivial, ⟨trivial, trivial⟩⟩, ⟨⟨trivial, ⟨trivial, ⟨⟨trivial, trivial⟩, trivial⟩⟩⟩, trivial⟩⟩⟩⟩, ⟨trivial, trivial⟩⟩⟩⟩⟩⟩⟩⟩⟩⟩⟩
theorem V26.cfgOk (B : Nat) : CfgOk (V26.cfg B) := cfgOk_of (by kernel_rfl) (by kernel_rfl)
theorem V26.sound {a : Option Addr} {d f : Nat} {g : Option Addr} {i j : Nat} {l : Option Addr} {m n : Nat} {o p q r : Int} {w : World} {R : Value → World → Prop} (h : V26.vc w.heap.size R a d f g i j l m n o p q r w) : Calls Try.prog 26 ⟨[.slice a d f, .slice g i j, .slice l m n, .int .u8 o, .int .u8 p, .int .u8 q, .int .u8 r]⟩ w fun e w' => ∃ v, e = .returned v ∧ R v w' :=
  calls_wpfP (c := V26.cfg w.heap.size) (fn := Try.f26) (x := V26.code) (V26.cuts w.heap.size R) V26.h (V26.cfgOk _) mixed Try.func26 (by kernel_rfl) (by kernel_rfl) (by kernel_rfl) rfl (V26.obl _ _) ((V26.vc_eq _ _ a d f g i j l m n o p q r _).symm ▸ h)
end Go.Proofs.Ytlccbaemcfjdoaa
