import Derived.Test.YtidcpndlloppdaaZMB
/-
  What the engine makes of the loaded functions 12, 3, 4: conditions under which a call returns as told, and proofs of that.
  Conditions: none. Printed by a program of this project.
-/
set_option linter.unusedVariables false
set_option maxRecDepth 100000
namespace Go.Proofs.Ytidcpndlloppdaa
def V4.b4 (B : Nat) (R : Value → World → Prop) (a c : Int) (d : Option Addr) (f g : Nat) (i : Addr) (w : World) : Prop :=
  CallK Try.prog 13 [.pointer (some i)] B w [] fun v j => 
  ∃ l : Bool, v = .bool l ∧
  if l = true
  then (CallK Try.prog 15 [.pointer (some i)] B j [] fun m n => 
   ∃ (o : Option Addr) (p q : Nat), m = .slice o p q ∧
   Expo B n [] fun r => 
   let s := r.alloc (.cells ⟨[.int .i64 a, .int .u64 c]⟩ 31);
   RunK Try.prog (Builtin.append_ #[27, 27] 27 ⟨[.slice d f g, .slice (some ⟨r.heap.size, 0, none⟩) 1 1]⟩) B s [] fun t u => 
   ∃ (x : Option Addr) (y z : Nat), t = .slice x y z ∧
   CallK Try.prog 14 [.slice o p q, .slice x y z] B u [] fun A C => 
   ∃ D : Bool, A = .bool D ∧
   if D = true
   then (CallK Try.prog 16 [] B C [] fun E F => 
    ∃ G : Bool, E = .bool G ∧
    Ret B F (R (.bool G)))
   else (Ret B C (R (.bool false))))
  else (Ret B j (R (.bool false)))
def V4.l3 (B : Nat) (R : Value → World → Prop) : Nat → Option Addr → Nat → Nat → Int → Int → Option Addr → Nat → Nat → Int → Nat → Int → Int → Int → Option Addr → Nat → Nat → Nat → Int → Int → Int → Option Addr → Nat → Nat → World → Prop
  | 0 => fun _ _ _ _ _ _ _ _ _ _ _ _ _ _ _ _ _ _ _ _ _ _ _ _ => False
  | k + 1 => fun a c d f g i j l m n o p q r s t u x y z A C D w =>
    if (decide (m ≥ 0)) = true
    then (∃ E : Addr, a = some E ∧ (0 : Int) ≤ m ∧ m < (c : Int) ∧
    ∃ F : Int, w.cell? (E.add m.toNat) = some (.int .i8 F) ∧
    CallK Try.prog 10 [.int .i64 (IntKind.wrap .i64 F)] B w [n, u] fun v G => 
     ∃ I : Int, v = .int .u64 I ∧
     Expo B G [n, u] fun J => 
     Hide [n, u] (J.alloc (.cells ⟨[.int .i64 1, .int .u64 I]⟩ 31)) fun L => 
     RunK Try.prog (Builtin.append_ #[27, 27] 27 ⟨[.slice i j l, .slice (some ⟨J.heap.size, 0, none⟩) 1 1]⟩) B L [n, u] fun M N => 
     ∃ (O : Option Addr) (P Q : Nat), M = .slice O P Q ∧ (V4.l3 B R k) a c d f g O P Q (IntKind.wrap .i64 (m - 1)) n o p q r s t u x y z A C D N)
    else (Expo B w [n, u] fun G => 
     Hide [n, u] (G.alloc (.cells ⟨[.int .i64 o, .int .i64 p, .int .i64 q, .slice r s t, .int .i64 x, .int .i64 y, .int .i64 z, .slice A C D]⟩ 26)) fun J => 
     CallK Try.prog 11 [.agg ⟨[.slice (some ⟨G.heap.size, 0, none⟩) 2 2]⟩, .int .i64 100] B J [n, u] fun v L => 
     ∃ S : Option Addr, v = .pointer S ∧
     caseP S
     (False)
     (fun T => V4.b4 B R f g i j l T L))
def V4.b2 (B : Nat) (R : Value → World → Prop) (a : Option Addr) (c d : Nat) (f g i : Int) (j : Nat) (l m n : Int) (o : Option Addr) (p q r : Nat) (s t u : Int) (x : Option Addr) (y z : Nat) (w : World) : Prop :=
  ∃ A, V4.l3 B R A a c d g i none 0 0 (IntKind.wrap .i64 ((if 4 < f then 4 else f) - 1)) j l m n o p q r s t u x y z w
def V4.b1 (B : Nat) (R : Value → World → Prop) (a : Option Addr) (c d : Nat) (f g i j : Int) (l : Nat) (m n o : Int) (p : Nat) (q r s : Int) (t : Option Addr) (u x y : Nat) (z A C : Int) (D : Option Addr) (E F : Nat) (w : World) : Prop :=
  Expo B w [l, p, y] fun G => 
  Hide [l, p, y] (G.alloc (.cells ⟨[.int .i64 1, .int .i64 (IntKind.wrap .i64 f), .int .i64 0, .int .i64 m, .int .i64 n, .int .i64 o]⟩ 23)) fun I => 
  RunK Try.prog (Builtin.append_ #[24, 24] 24 ⟨[.slice t u x, .slice (some ⟨G.heap.size, 0, none⟩) 2 2]⟩) B I [l, p, y] fun v J => 
  ∃ (L : Option Addr) (M N : Nat), v = .slice L M N ∧
  if (g == 5) = true
  then (CallK Try.prog 10 [.int .i64 1] B J [l, p, y] fun O P => 
   ∃ Q : Int, O = .int .u64 Q ∧
   CallK Try.prog 10 [.int .i64 0] B P [l, p, y] fun S T => 
   ∃ U : Int, S = .int .u64 U ∧
   CallK Try.prog 17 [.int .u64 Q, .int .u64 U] B T [l, p, y] fun W X => 
   ∃ Y : Int, W = .int .u64 Y ∧
   V4.b2 B R a c d g 4 Y p q r s L M N y z A C D E F X)
  else (V4.b2 B R a c d g i j p q r s L M N y z A C D E F J)
def V4.l0 (B : Nat) (R : Value → World → Prop) : Nat → Option Addr → Nat → Nat → Bool → Int → Int → Int → Nat → Int → Int → Int → Option Addr → Nat → Nat → Nat → Int → Int → Int → Option Addr → Nat → Nat → World → Prop
  | 0 => fun _ _ _ _ _ _ _ _ _ _ _ _ _ _ _ _ _ _ _ _ _ _ => False
  | k + 1 => fun a c d f g i j l m n o p q r s t u x y z A w =>
    if (decide (j < i)) = true
    then (∃ C : Addr, a = some C ∧ (0 : Int) ≤ j ∧ j < (c : Int) ∧
    ∃ D : Int, w.cell? (C.add j.toNat) = some (.int .i8 D) ∧
    Expo B w [l, s] fun E => 
     Hide [l, s] (E.alloc (.cells ⟨[.int .i64 1, .int .i64 (IntKind.wrap .i64 D), .int .i64 0, .int .i64 19, .int .i64 1, .int .i64 0]⟩ 23)) fun F => 
     RunK Try.prog (Builtin.append_ #[24, 24] 24 ⟨[.slice p q r, .slice (some ⟨E.heap.size, 0, none⟩) 2 2]⟩) B F [l, s] fun v G => 
     ∃ (I : Option Addr) (J L : Nat), v = .slice I J L ∧ (V4.l0 B R k) a c d f g i (IntKind.wrap .i64 (j + 1)) l m n o I J L s t u x y z A G)
    else (∀ M : Nat, w.heap.size ≤ M →
    CallK Try.prog 10 [.int .i64 (IntKind.wrap .i64 g)] B w [M, l, s] fun v E => 
     ∃ N : Int, v = .int .u64 N ∧
     if f = true
     then (V4.b1 B R a c d g i 4 N M 20 0 0 l m n o p q r s t u x y z A E)
     else (V4.b1 B R a c d g i 3 N M 18 0 0 l m n o p q r s t u x y z A E))
def V4.vc (B : Nat) (R : Value → World → Prop) (a : Option Addr) (c d : Nat) (f : Bool) (g : Int) (w : World) : Prop :=
  Expo B w [] fun i => 
  let j := i.alloc (.cells ⟨[.int .i64 3, .int .i64 0, .int .i64 0, .int .i64 22, .int .i64 0, .int .i64 0, .int .i64 3, .int .i64 0, .int .i64 0, .int .i64 18, .int .i64 0, .int .i64 0]⟩ 23);
  ∀ l : Nat, j.heap.size ≤ l →
  ∀ m : Nat, j.heap.size ≤ m →
  ∃ n, V4.l0 B R n a c d f g (if 5 < (c : Int) then 5 else (c : Int)) 0 m 0 0 0 none 0 0 l 1 1 0 (some ⟨i.heap.size, 0, none⟩) 4 4 j
noncomputable def V4.cfg (B : Nat) : Cfg := ⟨Try.prog, ⟨106, B⟩, [], hasN [10, 11, 13, 14, 15, 16, 17], hasN [], look []⟩
noncomputable def V4.code : Code := (Try.f4.body).getD .skip
noncomputable def V4.cuts (B : Nat) (R : Value → World → Prop) : Nat → Cut := nthC [⟨[(0, .one (.slice)), (1, .one (.bool)), (2, .one (.int .i16)), (7, .one (.int .i64)), (10, .one (.int .i64))], [(9, 26, [.int .i64, .int .i64, .int .i64, .slice]), (8, 26, [.int .i64, .int .i64, .int .i64, .slice])], fun fs vs bs w => V4.l0 B R (nthN fs 0) (slA (nthV vs 0)) (slL (nthV vs 0)) (slC (nthV vs 0)) (bV (nthV vs 1)) (iV (nthV vs 2)) (iV (nthV vs 3)) (iV (nthV vs 4)) (nthB bs 0).blk (iV (nthV (nthB bs 0).cells 0)) (iV (nthV (nthB bs 0).cells 1)) (iV (nthV (nthB bs 0).cells 2)) (slA (nthV (nthB bs 0).cells 3)) (slL (nthV (nthB bs 0).cells 3)) (slC (nthV (nthB bs 0).cells 3)) (nthB bs 1).blk (iV (nthV (nthB bs 1).cells 0)) (iV (nthV (nthB bs 1).cells 1)) (iV (nthV (nthB bs 1).cells 2)) (slA (nthV (nthB bs 1).cells 3)) (slL (nthV (nthB bs 1).cells 3)) (slC (nthV (nthB bs 1).cells 3)) w⟩,
  ⟨[(0, .one (.slice)), (2, .one (.int .i16)), (7, .one (.int .i64)), (12, .one (.int .i64)), (13, .one (.int .u64))], [(11, 23, [.int .i64, .int .i64, .int .i64]), (9, 26, [.int .i64, .int .i64, .int .i64, .slice]), (8, 26, [.int .i64, .int .i64, .int .i64, .slice])], fun fs vs bs w => V4.b1 B R (slA (nthV vs 0)) (slL (nthV vs 0)) (slC (nthV vs 0)) (iV (nthV vs 1)) (iV (nthV vs 2)) (iV (nthV vs 3)) (iV (nthV vs 4)) (nthB bs 0).blk (iV (nthV (nthB bs 0).cells 0)) (iV (nthV (nthB bs 0).cells 1)) (iV (nthV (nthB bs 0).cells 2)) (nthB bs 1).blk (iV (nthV (nthB bs 1).cells 0)) (iV (nthV (nthB bs 1).cells 1)) (iV (nthV (nthB bs 1).cells 2)) (slA (nthV (nthB bs 1).cells 3)) (slL (nthV (nthB bs 1).cells 3)) (slC (nthV (nthB bs 1).cells 3)) (nthB bs 2).blk (iV (nthV (nthB bs 2).cells 0)) (iV (nthV (nthB bs 2).cells 1)) (iV (nthV (nthB bs 2).cells 2)) (slA (nthV (nthB bs 2).cells 3)) (slL (nthV (nthB bs 2).cells 3)) (slC (nthV (nthB bs 2).cells 3)) w⟩,
  ⟨[(0, .one (.slice)), (7, .one (.int .i64)), (12, .one (.int .i64)), (13, .one (.int .u64))], [(9, 26, [.int .i64, .int .i64, .int .i64, .slice]), (8, 26, [.int .i64, .int .i64, .int .i64, .slice])], fun fs vs bs w => V4.b2 B R (slA (nthV vs 0)) (slL (nthV vs 0)) (slC (nthV vs 0)) (iV (nthV vs 1)) (iV (nthV vs 2)) (iV (nthV vs 3)) (nthB bs 0).blk (iV (nthV (nthB bs 0).cells 0)) (iV (nthV (nthB bs 0).cells 1)) (iV (nthV (nthB bs 0).cells 2)) (slA (nthV (nthB bs 0).cells 3)) (slL (nthV (nthB bs 0).cells 3)) (slC (nthV (nthB bs 0).cells 3)) (nthB bs 1).blk (iV (nthV (nthB bs 1).cells 0)) (iV (nthV (nthB bs 1).cells 1)) (iV (nthV (nthB bs 1).cells 2)) (slA (nthV (nthB bs 1).cells 3)) (slL (nthV (nthB bs 1).cells 3)) (slC (nthV (nthB bs 1).cells 3)) w⟩,
  ⟨[(0, .one (.slice)), (12, .one (.int .i64)), (13, .one (.int .u64)), (14, .one (.slice)), (15, .one (.int .i64))], [(9, 26, [.int .i64, .int .i64, .int .i64, .slice]), (8, 26, [.int .i64, .int .i64, .int .i64, .slice])], fun fs vs bs w => V4.l3 B R (nthN fs 0) (slA (nthV vs 0)) (slL (nthV vs 0)) (slC (nthV vs 0)) (iV (nthV vs 1)) (iV (nthV vs 2)) (slA (nthV vs 3)) (slL (nthV vs 3)) (slC (nthV vs 3)) (iV (nthV vs 4)) (nthB bs 0).blk (iV (nthV (nthB bs 0).cells 0)) (iV (nthV (nthB bs 0).cells 1)) (iV (nthV (nthB bs 0).cells 2)) (slA (nthV (nthB bs 0).cells 3)) (slL (nthV (nthB bs 0).cells 3)) (slC (nthV (nthB bs 0).cells 3)) (nthB bs 1).blk (iV (nthV (nthB bs 1).cells 0)) (iV (nthV (nthB bs 1).cells 1)) (iV (nthV (nthB bs 1).cells 2)) (slA (nthV (nthB bs 1).cells 3)) (slL (nthV (nthB bs 1).cells 3)) (slC (nthV (nthB bs 1).cells 3)) w⟩,
  ⟨[(12, .one (.int .i64)), (13, .one (.int .u64)), (14, .one (.slice)), (16, .one (.ptr))], [], fun fs vs bs w => V4.b4 B R (iV (nthV vs 0)) (iV (nthV vs 1)) (slA (nthV vs 2)) (slL (nthV vs 2)) (slC (nthV vs 2)) (pV (nthV vs 3)) w⟩]
noncomputable def V4.h : H := .s (.z) (.s (.z) (.s (.z) (.s (.z) (.s (.s (.z) (.b (.l 0 (.s (.s (.z) (.c (.z) (.z))) (.s (.b (.r [[0, 1, 2, 3, 4, 5, 6, 7, 8, 9, 10, 11, 12]])) (.z)))))) (.s (.z) (.s (.z) (.cut 1 (.s (.z) (.c (.s (.z) (.z)) (.z))) (.s (.z) (.cut 2 (.s (.z) (.c (.z) (.z))) (.s (.z) (.s (.s (.z) (.b (.l 3 (.s (.s (.z) (.c (.z) (.z))) (.s (.b (.z)) (.z)))))) (.cut 4 (.z) (.s (.z) (.z))))))))))))))
theorem V4.vc_eq (B : Nat) (R : Value → World → Prop) (a : Option Addr) (c d : Nat) (f : Bool) (g : Int) (w : World) : wpf (V4.cfg B) (V4.cuts B R) V4.code V4.h [] (postOf Try.prog B (Try.f4.results.toList) R) (argE 0 [.slice a c d, .bool f, .int .i16 g]) [] w = V4.vc B R a c d f g w := by kernel_rfl
theorem V4.obl (B : Nat) (R : Value → World → Prop) : oblP (V4.cfg B) (V4.cuts B R) V4.code V4.h [] (postOf Try.prog B (Try.f4.results.toList) R) := by
  have e : oblP (V4.cfg B) (V4.cuts B R) V4.code V4.h [] (postOf Try.prog B (Try.f4.results.toList) R) = (True ∧ (True ∧ (True ∧ (True ∧ ((True ∧ ((∀ (a : Option Addr) (c d : Nat) (f : Bool) (g i j : Int) (l : Nat) (m n o : Int) (p : Option Addr) (q r s : Nat) (t u x : Int) (y : Option Addr) (z A : Nat) (w : World), ¬ V4.l0 B R 0 a c d f g i j l m n o p q r s t u x y z A w) ∧ (∀ C, ∀ (a : Option Addr) (c d : Nat) (f : Bool) (g i j : Int) (l : Nat) (m n o : Int) (p : Option Addr) (q r s : Nat) (t u x : Int) (y : Option Addr) (z A : Nat) (w : World), V4.l0 B R (C + 1) a c d f g i j l m n o p q r s t u x y z A w → V4.l0 B R (C + 1) a c d f g i j l m n o p q r s t u x y z A w) ∧ ∀ C : Nat, ((True ∧ (True ∧ True)) ∧ ((true = true) ∧ True)))) ∧ (True ∧ (True ∧ ((True ∧ ((True ∧ True) ∧ True)) ∧ (∀ (a : Option Addr) (c d : Nat) (g i D E : Int) (F : Nat) (G I J : Int) (l : Nat) (m n o : Int) (p : Option Addr) (q r s : Nat) (t u x : Int) (y : Option Addr) (z A : Nat) (w : World), V4.b1 B R a c d g i D E F G I J l m n o p q r s t u x y z A w → V4.b1 B R a c d g i D E F G I J l m n o p q r s t u x y z A w) ∧ (True ∧ ((True ∧ (True ∧ True)) ∧ (∀ (a : Option Addr) (c d : Nat) (i D E : Int) (l : Nat) (m n o : Int) (p : Option Addr) (q r s : Nat) (t u x : Int) (y : Option Addr) (z A : Nat) (w : World), V4.b2 B R a c d i D E l m n o p q r s t u x y z A w → V4.b2 B R a c d i D E l m n o p q r s t u x y z A w) ∧ (True ∧ ((True ∧ ((∀ (a : Option Addr) (c d : Nat) (D E : Int) (L : Option Addr) (M N : Nat) (O : Int) (l : Nat) (m n o : Int) (p : Option Addr) (q r s : Nat) (t u x : Int) (y : Option Addr) (z A : Nat) (w : World), ¬ V4.l3 B R 0 a c d D E L M N O l m n o p q r s t u x y z A w) ∧ (∀ P, ∀ (a : Option Addr) (c d : Nat) (D E : Int) (L : Option Addr) (M N : Nat) (O : Int) (l : Nat) (m n o : Int) (p : Option Addr) (q r s : Nat) (t u x : Int) (y : Option Addr) (z A : Nat) (w : World), V4.l3 B R (P + 1) a c d D E L M N O l m n o p q r s t u x y z A w → V4.l3 B R (P + 1) a c d D E L M N O l m n o p q r s t u x y z A w) ∧ ∀ P : Nat, ((True ∧ (True ∧ True)) ∧ (True ∧ True)))) ∧ (True ∧ (∀ (D E : Int) (L : Option Addr) (M N : Nat) (Q : Addr) (w : World), V4.b4 B R D E L M N Q w → V4.b4 B R D E L M N Q w) ∧ (True ∧ True)))))))))))))) := by kernel_rfl
  exact e.mpr (⟨trivial, ⟨trivial, ⟨trivial, ⟨trivial, ⟨⟨trivial, ⟨fun a c d f g i j l m n o p q r s t u x y z A w h => h, fun _ a c d f g i j l m n o p q r s t u x y z A w h => h, fun C => ⟨⟨trivial, ⟨trivial, trivial⟩⟩, ⟨rfl, trivial⟩⟩⟩⟩, ⟨trivial, ⟨trivial, ⟨⟨trivial, ⟨⟨trivial, trivial⟩, trivial⟩⟩, fun a c d g i D E F G I J l m n o p q r s t u x y z A w h => h, ⟨trivial, ⟨⟨trivial, ⟨trivial, trivial⟩⟩, fun a c d i D E l m n o p q r s t u x y z A w h => h, ⟨trivial, ⟨⟨trivial, ⟨fun a c d D E L M N O l m n o p q r s t u x y z A w h => h, fun _ a c d D E L M N O l m n o p q r s t u x y z A w h => h, fun P => ⟨⟨trivial, ⟨trivial, trivial⟩⟩, ⟨trivial, trivial⟩⟩⟩⟩, ⟨trivial, fun D E L M N Q w h => h, ⟨trivial, trivial⟩⟩⟩⟩⟩⟩⟩⟩⟩⟩⟩⟩⟩⟩)
theorem V4.cfgOk (B : Nat) : CfgOk (V4.cfg B) := cfgOk_of (by kernel_rfl) (by kernel_rfl) extNil
theorem V4.sound {a : Option Addr} {d f : Nat} {g : Bool} {i : Int} {w : World} {R : Value → World → Prop} (h : V4.vc w.heap.size R a d f g i w) : Calls Try.prog 4 ⟨[.slice a d f, .bool g, .int .i16 i]⟩ w fun e w' => ∃ v, e = .returned v ∧ R v w' :=
  calls_wpfP (c := V4.cfg w.heap.size) (fn := Try.f4) (x := V4.code) (V4.cuts w.heap.size R) V4.h (V4.cfgOk _) mixed Try.func4 (by kernel_rfl) (by kernel_rfl) (by kernel_rfl) rfl (V4.obl _ _) ((V4.vc_eq _ _ a d f g i _).symm ▸ h)
end Go.Proofs.Ytidcpndlloppdaa
