import Derived.Test.YtidcpndlloppdaaZMB
/-
  What the engine makes of the loaded functions 12, 3, 4: conditions under which a call returns as told, and proofs of that.
  Conditions: none. Printed by a program of this project.
-/
set_option linter.unusedVariables false
set_option maxRecDepth 100000
namespace Go.Proofs.Ytidcpndlloppdaa
def V12.vc (B : Nat) (R : Value → World → Prop) (a : Option Addr) (c d : Nat) (w : World) : Prop :=
  ∀ f : Nat, w.heap.size ≤ f →
  CallK Try.prog 33 [.agg ⟨[.slice a c d]⟩] B w [f] fun v g => 
  ∃ i j l : Int, v = .tuple ⟨[.int .i64 i, .int .i64 j, .int .i64 l]⟩ ∧
  Ret B g (R (.bool (i == 0)))
noncomputable def V12.cfg (B : Nat) : Cfg := ⟨Try.prog, ⟨14, B⟩, [], hasN [33], hasN [], look []⟩
noncomputable def V12.code : Code := (Try.f12.body).getD .skip
noncomputable def V12.cuts (B : Nat) (R : Value → World → Prop) : Nat → Cut := nthC []
noncomputable def V12.h : H := .s (.z) (.s (.z) (.s (.z) (.z)))
theorem V12.vc_eq (B : Nat) (R : Value → World → Prop) (a : Option Addr) (c d : Nat) (w : World) : wpf (V12.cfg B) (V12.cuts B R) V12.code V12.h [] (postOf Try.prog B (Try.f12.results.toList) R) (argE 0 [.agg ⟨[.slice a c d]⟩]) [] w = V12.vc B R a c d w := by kernel_rfl
theorem V12.obl (B : Nat) (R : Value → World → Prop) : oblP (V12.cfg B) (V12.cuts B R) V12.code V12.h [] (postOf Try.prog B (Try.f12.results.toList) R) := by
  have e : oblP (V12.cfg B) (V12.cuts B R) V12.code V12.h [] (postOf Try.prog B (Try.f12.results.toList) R) = (True ∧ (True ∧ (True ∧ True))) := by kernel_rfl
  exact e.mpr (⟨trivial, ⟨trivial, ⟨trivial, trivial⟩⟩⟩)
theorem V12.cfgOk (B : Nat) : CfgOk (V12.cfg B) := cfgOk_of (by kernel_rfl) (by kernel_rfl) extNil
theorem V12.sound {a : Option Addr} {d f : Nat} {w : World} {R : Value → World → Prop} (h : V12.vc w.heap.size R a d f w) : Calls Try.prog 12 ⟨[.agg ⟨[.slice a d f]⟩]⟩ w fun e w' => ∃ v, e = .returned v ∧ R v w' :=
  calls_wpfP (c := V12.cfg w.heap.size) (fn := Try.f12) (x := V12.code) (V12.cuts w.heap.size R) V12.h (V12.cfgOk _) mixed Try.func12 (by kernel_rfl) (by kernel_rfl) (by kernel_rfl) rfl (V12.obl _ _) ((V12.vc_eq _ _ a d f _).symm ▸ h)
def V3.b3 (B : Nat) (R : Value → World → Prop) (a : Option Addr) (c d : Nat) (f : Addr) (w : World) : Prop :=
  CallK Try.prog 13 [.pointer (some f)] B w [] fun v g => 
  ∃ i : Bool, v = .bool i ∧
  if i = true
  then (CallK Try.prog 15 [.pointer (some f)] B g [] fun j l => 
   ∃ (m : Option Addr) (n o : Nat), j = .slice m n o ∧
   CallK Try.prog 14 [.slice m n o, .slice a c d] B l [] fun p q => 
   ∃ r : Bool, p = .bool r ∧
   if r = true
   then (CallK Try.prog 16 [] B q [] fun s t => 
    ∃ u : Bool, s = .bool u ∧
    Ret B t (R (.bool u)))
   else (Ret B q (R (.bool false))))
  else (Ret B g (R (.bool false)))
def V3.b2 (B : Nat) (R : Value → World → Prop) (a : Int) (c : Bool) (d : Option Addr) (f g : Nat) (i : Addr) (j : Nat) (l : Option Addr) (m n : Nat) (w : World) : Prop :=
  CallK Try.prog 12 [.agg ⟨[.slice l m n]⟩] B w [j] fun v o => 
  ∃ p : Bool, v = .bool p ∧
  if (!p) = true
  then (Ret B o (R (.bool false)))
  else (if c = true
   then (CallK Try.prog 10 [.int .i64 (IntKind.wrap .i64 a)] B o [j] fun q r => 
    ∃ s : Int, q = .int .u64 s ∧
    Expo B r [j] fun t => 
    Hide [j] (t.alloc (.cells ⟨[.int .i64 4, .int .u64 s]⟩ 31)) fun u => 
    RunK Try.prog (Builtin.append_ #[27, 27] 27 ⟨[.slice d f g, .slice (some ⟨t.heap.size, 0, none⟩) 1 1]⟩) B u [j] fun x y => 
    ∃ (z : Option Addr) (A C : Nat), x = .slice z A C ∧
    V3.b3 B R z A C i y)
   else (CallK Try.prog 10 [.int .i64 (IntKind.wrap .i64 a)] B o [j] fun q r => 
    ∃ D : Int, q = .int .u64 D ∧
    CallK Try.prog 10 [.int .i64 0] B r [j] fun x t => 
    ∃ E : Int, x = .int .u64 E ∧
    Expo B t [j] fun u => 
    Hide [j] (u.alloc (.cells ⟨[.int .i64 2, .int .u64 D, .int .i64 3, .int .u64 E]⟩ 31)) fun y => 
    RunK Try.prog (Builtin.append_ #[27, 27] 27 ⟨[.slice d f g, .slice (some ⟨u.heap.size, 0, none⟩) 2 2]⟩) B y [j] fun F G => 
    ∃ (I : Option Addr) (J L : Nat), F = .slice I J L ∧
    V3.b3 B R I J L i G))
def V3.l1 (B : Nat) (R : Value → World → Prop) : Nat → Int → Bool → Int → Option Addr → Nat → Nat → Int → Nat → Int → Int → Int → Option Addr → Nat → Nat → Nat → Int → Int → Int → Option Addr → Nat → Nat → Nat → Int → Int → Int → Option Addr → Nat → Nat → World → Prop
  | 0 => fun _ _ _ _ _ _ _ _ _ _ _ _ _ _ _ _ _ _ _ _ _ _ _ _ _ _ _ _ _ => False
  | k + 1 => fun a c d f g i j l m n o p q r s t u x y z A C D E F G I J w =>
    (5 : Int) ≠ 0 ∧
  if (decide (j < Int.tmod (IntKind.wrap .i64 d) 5)) = true
    then (Expo B w [l, s, C] fun L => 
     Hide [l, s, C] (L.alloc (.cells ⟨[.int .i64 1, .int .i64 j, .int .i64 0, .int .i64 22, .int .i64 0, .int .i64 0]⟩ 23)) fun M => 
     RunK Try.prog (Builtin.append_ #[24, 24] 24 ⟨[.slice p q r, .slice (some ⟨L.heap.size, 0, none⟩) 2 2]⟩) B M [l, s, C] fun v N => 
     ∃ (O : Option Addr) (P Q : Nat), v = .slice O P Q ∧
     CallK Try.prog 10 [.int .i64 j] B N [l, s, C] fun S T => 
     ∃ U : Int, S = .int .u64 U ∧
     Expo B T [l, s, C] fun W => 
     Hide [l, s, C] (W.alloc (.cells ⟨[.int .i64 1, .int .u64 U]⟩ 31)) fun X => 
     RunK Try.prog (Builtin.append_ #[27, 27] 27 ⟨[.slice f g i, .slice (some ⟨W.heap.size, 0, none⟩) 1 1]⟩) B X [l, s, C] fun Y Z => 
     ∃ (a0 : Option Addr) (a1 a2 : Nat), Y = .slice a0 a1 a2 ∧ (V3.l1 B R k) a c d a0 a1 a2 (IntKind.wrap .i64 (j + 1)) l m n o O P Q s t u x y z A C D E F G I J Z)
    else (Expo B w [l, s, C] fun L => 
     Hide [l, s, C] (L.alloc (.cells ⟨[.int .i64 1, .int .i64 (IntKind.wrap .i64 a), .int .i64 0, .int .i64 20, .int .i64 0, .int .i64 0]⟩ 23)) fun M => 
     RunK Try.prog (Builtin.append_ #[24, 24] 24 ⟨[.slice p q r, .slice (some ⟨L.heap.size, 0, none⟩) 2 2]⟩) B M [l, s, C] fun v N => 
     ∃ (a3 : Option Addr) (a4 a5 : Nat), v = .slice a3 a4 a5 ∧
     Expo B N [l, s, C] fun T => 
     Hide [l, s, C] (T.alloc (.cells ⟨[.int .i64 m, .int .i64 n, .int .i64 o, .slice a3 a4 a5, .int .i64 t, .int .i64 u, .int .i64 x, .slice y z A, .int .i64 D, .int .i64 E, .int .i64 F, .slice G I J]⟩ 26)) fun W => 
     ∀ a6 : Nat, W.heap.size ≤ a6 →
     CallK Try.prog 11 [.agg ⟨[.slice (some ⟨T.heap.size, 0, none⟩) 3 3]⟩, .int .i64 60] B W [a6, l, s, C] fun S X => 
     ∃ a7 : Option Addr, S = .pointer a7 ∧
     caseP a7
     (False)
     (fun a8 => V3.b2 B R a c f g i a8 a6 (some ⟨T.heap.size, 0, none⟩) 3 3 X))
def V3.b0 (B : Nat) (R : Value → World → Prop) (a : Int) (c : Bool) (d : Int) (f : Nat) (g i j : Int) (l : Option Addr) (m n o : Nat) (p q r : Int) (s : Option Addr) (t u : Nat) (w : World) : Prop :=
  Expo B w [f, o] fun x => 
  Hide [f, o] (x.alloc (.cells ⟨[.int .i64 19, .int .i64 1, .int .i64 0]⟩ 23)) fun y => 
  ∀ z : Nat, y.heap.size ≤ z →
  Expo B y [z, f, o] fun A => 
  Hide [z, f, o] (A.alloc (.cells ⟨[]⟩ 31)) fun C => 
  ∃ D, V3.l1 B R D a c d (some ⟨A.heap.size, 0, none⟩) 0 0 0 z 0 0 0 (some ⟨x.heap.size, 0, none⟩) 1 1 f g i j l m n o p q r s t u C
def V3.vc (B : Nat) (R : Value → World → Prop) (a : Int) (c : Bool) (d : Int) (w : World) : Prop :=
  Expo B w [] fun f => 
  let g := f.alloc (.cells ⟨[.int .i64 21, .int .i64 0, .int .i64 0, .int .i64 27, .int .i64 0, .int .i64 0, .int .i64 18, .int .i64 0, .int .i64 0]⟩ 23);
  ∀ i : Nat, g.heap.size ≤ i →
  ∀ j : Nat, g.heap.size ≤ j →
  if c = true
  then (Expo B g [j, i] fun l => 
   Hide [j, i] (l.alloc (.cells ⟨[.int .i64 17, .int .i64 2, .int .i64 0, .int .i64 18, .int .i64 0, .int .i64 0]⟩ 23)) fun m => 
   V3.b0 B R a c d j 0 0 0 (some ⟨l.heap.size, 0, none⟩) 2 2 i 0 0 0 (some ⟨f.heap.size, 0, none⟩) 3 3 m)
  else (V3.b0 B R a c d j 0 0 0 (some ⟨f.heap.size, 0, none⟩) 3 3 i 0 0 0 (some ⟨f.heap.size, 0, none⟩) 3 3 g)
noncomputable def V3.cfg (B : Nat) : Cfg := ⟨Try.prog, ⟨101, B⟩, [], hasN [10, 11, 12, 13, 14, 15, 16], hasN [], look []⟩
noncomputable def V3.code : Code := (Try.f3.body).getD .skip
noncomputable def V3.cuts (B : Nat) (R : Value → World → Prop) : Nat → Cut := nthC [⟨[(0, .one (.int .i32)), (1, .one (.bool)), (2, .one (.int .u8))], [(8, 26, [.int .i64, .int .i64, .int .i64, .slice]), (7, 26, [.int .i64, .int .i64, .int .i64, .slice])], fun fs vs bs w => V3.b0 B R (iV (nthV vs 0)) (bV (nthV vs 1)) (iV (nthV vs 2)) (nthB bs 0).blk (iV (nthV (nthB bs 0).cells 0)) (iV (nthV (nthB bs 0).cells 1)) (iV (nthV (nthB bs 0).cells 2)) (slA (nthV (nthB bs 0).cells 3)) (slL (nthV (nthB bs 0).cells 3)) (slC (nthV (nthB bs 0).cells 3)) (nthB bs 1).blk (iV (nthV (nthB bs 1).cells 0)) (iV (nthV (nthB bs 1).cells 1)) (iV (nthV (nthB bs 1).cells 2)) (slA (nthV (nthB bs 1).cells 3)) (slL (nthV (nthB bs 1).cells 3)) (slC (nthV (nthB bs 1).cells 3)) w⟩,
  ⟨[(0, .one (.int .i32)), (1, .one (.bool)), (2, .one (.int .u8)), (10, .one (.slice)), (11, .one (.int .i64))], [(9, 26, [.int .i64, .int .i64, .int .i64, .slice]), (8, 26, [.int .i64, .int .i64, .int .i64, .slice]), (7, 26, [.int .i64, .int .i64, .int .i64, .slice])], fun fs vs bs w => V3.l1 B R (nthN fs 0) (iV (nthV vs 0)) (bV (nthV vs 1)) (iV (nthV vs 2)) (slA (nthV vs 3)) (slL (nthV vs 3)) (slC (nthV vs 3)) (iV (nthV vs 4)) (nthB bs 0).blk (iV (nthV (nthB bs 0).cells 0)) (iV (nthV (nthB bs 0).cells 1)) (iV (nthV (nthB bs 0).cells 2)) (slA (nthV (nthB bs 0).cells 3)) (slL (nthV (nthB bs 0).cells 3)) (slC (nthV (nthB bs 0).cells 3)) (nthB bs 1).blk (iV (nthV (nthB bs 1).cells 0)) (iV (nthV (nthB bs 1).cells 1)) (iV (nthV (nthB bs 1).cells 2)) (slA (nthV (nthB bs 1).cells 3)) (slL (nthV (nthB bs 1).cells 3)) (slC (nthV (nthB bs 1).cells 3)) (nthB bs 2).blk (iV (nthV (nthB bs 2).cells 0)) (iV (nthV (nthB bs 2).cells 1)) (iV (nthV (nthB bs 2).cells 2)) (slA (nthV (nthB bs 2).cells 3)) (slL (nthV (nthB bs 2).cells 3)) (slC (nthV (nthB bs 2).cells 3)) w⟩,
  ⟨[(0, .one (.int .i32)), (1, .one (.bool)), (10, .one (.slice)), (13, .one (.ptr))], [(12, 34, [.slice])], fun fs vs bs w => V3.b2 B R (iV (nthV vs 0)) (bV (nthV vs 1)) (slA (nthV vs 2)) (slL (nthV vs 2)) (slC (nthV vs 2)) (pV (nthV vs 3)) (nthB bs 0).blk (slA (nthV (nthB bs 0).cells 0)) (slL (nthV (nthB bs 0).cells 0)) (slC (nthV (nthB bs 0).cells 0)) w⟩,
  ⟨[(10, .one (.slice)), (13, .one (.ptr))], [], fun fs vs bs w => V3.b3 B R (slA (nthV vs 0)) (slL (nthV vs 0)) (slC (nthV vs 0)) (pV (nthV vs 1)) w⟩]
noncomputable def V3.h : H := .s (.z) (.s (.z) (.s (.z) (.cut 0 (.s (.z) (.c (.z) (.z))) (.s (.z) (.s (.z) (.s (.s (.z) (.b (.l 1 (.s (.s (.z) (.c (.z) (.z))) (.s (.b (.s (.z) (.z))) (.z)))))) (.s (.z) (.s (.z) (.cut 2 (.z) (.s (.s (.z) (.c (.s (.z) (.z)) (.z))) (.cut 3 (.s (.z) (.c (.z) (.z))) (.s (.z) (.z)))))))))))))
theorem V3.vc_eq (B : Nat) (R : Value → World → Prop) (a : Int) (c : Bool) (d : Int) (w : World) : wpf (V3.cfg B) (V3.cuts B R) V3.code V3.h [] (postOf Try.prog B (Try.f3.results.toList) R) (argE 0 [.int .i32 a, .bool c, .int .u8 d]) [] w = V3.vc B R a c d w := by kernel_rfl
theorem V3.obl (B : Nat) (R : Value → World → Prop) : oblP (V3.cfg B) (V3.cuts B R) V3.code V3.h [] (postOf Try.prog B (Try.f3.results.toList) R) := by
  have e : oblP (V3.cfg B) (V3.cuts B R) V3.code V3.h [] (postOf Try.prog B (Try.f3.results.toList) R) = (True ∧ (True ∧ (True ∧ ((True ∧ (True ∧ True)) ∧ (∀ (a : Int) (c : Bool) (d : Int) (f : Nat) (g i j : Int) (l : Option Addr) (m n o : Nat) (p q r : Int) (s : Option Addr) (t u : Nat) (w : World), V3.b0 B R a c d f g i j l m n o p q r s t u w → V3.b0 B R a c d f g i j l m n o p q r s t u w) ∧ (True ∧ (True ∧ ((True ∧ ((∀ (a : Int) (c : Bool) (d : Int) (x : Option Addr) (y z : Nat) (A : Int) (C : Nat) (D E F : Int) (G : Option Addr) (I J f : Nat) (g i j : Int) (l : Option Addr) (m n o : Nat) (p q r : Int) (s : Option Addr) (t u : Nat) (w : World), ¬ V3.l1 B R 0 a c d x y z A C D E F G I J f g i j l m n o p q r s t u w) ∧ (∀ L, ∀ (a : Int) (c : Bool) (d : Int) (x : Option Addr) (y z : Nat) (A : Int) (C : Nat) (D E F : Int) (G : Option Addr) (I J f : Nat) (g i j : Int) (l : Option Addr) (m n o : Nat) (p q r : Int) (s : Option Addr) (t u : Nat) (w : World), V3.l1 B R (L + 1) a c d x y z A C D E F G I J f g i j l m n o p q r s t u w → V3.l1 B R (L + 1) a c d x y z A C D E F G I J f g i j l m n o p q r s t u w) ∧ ∀ L : Nat, ((True ∧ (True ∧ True)) ∧ ((True ∧ True) ∧ True)))) ∧ (True ∧ (True ∧ (True ∧ (∀ (a : Int) (c : Bool) (x : Option Addr) (y z : Nat) (M : Addr) (N : Nat) (O : Option Addr) (P Q : Nat) (w : World), V3.b2 B R a c x y z M N O P Q w → V3.b2 B R a c x y z M N O P Q w) ∧ ((True ∧ ((True ∧ True) ∧ True)) ∧ ((True ∧ (True ∧ True)) ∧ (∀ (x : Option Addr) (y z : Nat) (M : Addr) (w : World), V3.b3 B R x y z M w → V3.b3 B R x y z M w) ∧ (True ∧ True))))))))))))) := by kernel_rfl
  exact e.mpr (⟨trivial, ⟨trivial, ⟨trivial, ⟨⟨trivial, ⟨trivial, trivial⟩⟩, fun a c d f g i j l m n o p q r s t u w h => h, ⟨trivial, ⟨trivial, ⟨⟨trivial, ⟨fun a c d x y z A C D E F G I J f g i j l m n o p q r s t u w h => h, fun _ a c d x y z A C D E F G I J f g i j l m n o p q r s t u w h => h, fun L => ⟨⟨trivial, ⟨trivial, trivial⟩⟩, ⟨⟨trivial, trivial⟩, trivial⟩⟩⟩⟩, ⟨trivial, ⟨trivial, ⟨trivial, fun a c x y z M N O P Q w h => h, ⟨⟨trivial, ⟨⟨trivial, trivial⟩, trivial⟩⟩, ⟨⟨trivial, ⟨trivial, trivial⟩⟩, fun x y z M w h => h, ⟨trivial, trivial⟩⟩⟩⟩⟩⟩⟩⟩⟩⟩⟩⟩⟩)
theorem V3.cfgOk (B : Nat) : CfgOk (V3.cfg B) := cfgOk_of (by kernel_rfl) (by kernel_rfl) extNil
theorem V3.sound {a : Int} {d : Bool} {f : Int} {w : World} {R : Value → World → Prop} (h : V3.vc w.heap.size R a d f w) : Calls Try.prog 3 ⟨[.int .i32 a, .bool d, .int .u8 f]⟩ w fun e w' => ∃ v, e = .returned v ∧ R v w' :=
  calls_wpfP (c := V3.cfg w.heap.size) (fn := Try.f3) (x := V3.code) (V3.cuts w.heap.size R) V3.h (V3.cfgOk _) mixed Try.func3 (by kernel_rfl) (by kernel_rfl) (by kernel_rfl) rfl (V3.obl _ _) ((V3.vc_eq _ _ a d f _).symm ▸ h)
end Go.Proofs.Ytidcpndlloppdaa
