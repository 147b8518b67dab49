import Derived.Test.YtidcpndlloppdaaZMB
/-
 What the engine makes of the loaded functions 5: conditions under which a call returns as told, and proofs of that.
 Conditions: none. Printed by a program of this project.
-/
set_option linter.unusedVariables false
set_option maxRecDepth 100000
namespace Go.Proofs.Ytidcpndlloppdaa
def V5.l3 (B : Nat) (R : Value → World → Prop) : Nat → Addr → Addr → Option Addr → Nat → Nat → Int → World → Prop
 | 0 => fun _ _ _ _ _ _ _ => False
 | k + 1 => fun a c d f g i w =>
 if (decide (i < 4)) = true
 then ((0 : Int) ≤ i ∧ i < 4 ∧
 ∃ j : Int, w.cell? (a.add i.toNat) = some (.int .u64 j) ∧
 if (j != 0) = true
 then ((0 : Int) ≤ i ∧ i < 4 ∧
 ∃ l : Int, w.cell? (a.add i.toNat) = some (.int .u64 l) ∧
 Expo B w [] fun m => 
 let n := m.alloc (.cells ⟨[.int .u64 l]⟩ 28);
 RunK Try.prog (Builtin.append_ #[49, 49] 49 ⟨[.slice d f g, .slice (some ⟨m.heap.size, 0, none⟩) 1 1]⟩) B n [] fun v o => 
 ∃ (p : Option Addr) (q r : Nat), v = .slice p q r ∧ (V5.l3 B R k) a c p q r (IntKind.wrap .i64 (i + 1)) o)
 else ((V5.l3 B R k) a c d f g (IntKind.wrap .i64 (i + 1)) w))
 else (CallK Try.prog 19 [.pointer (some c)] B w [] fun v m => 
 ∃ (s : Option Addr) (t u : Nat), v = .slice s t u ∧
 CallK Try.prog 18 [.slice s t u, .slice d f g] B m [] fun x n => 
 ∃ y : Bool, x = .bool y ∧
 if y = true
 then (CallK Try.prog 20 [.pointer (some c)] B n [] fun z o => 
 ∃ (A : Option Addr) (C D : Nat), z = .slice A C D ∧
 if ((C : Int) == 1) = true
 then (CallK Try.prog 16 [] B o [] fun E F => 
 ∃ G : Bool, E = .bool G ∧
 Ret B F (R (.bool G)))
 else (Ret B o (R (.bool false))))
 else (Ret B n (R (.bool false))))
def V5.b2 (B : Nat) (R : Value → World → Prop) (a c : Addr) (w : World) : Prop :=
 ∃ d, V5.l3 B R d a c none 0 0 0 w
def V5.b1 (B : Nat) (R : Value → World → Prop) (a : Addr) (c : Nat) (d f g : Int) (i : Option Addr) (j l : Nat) (w : World) : Prop :=
 Expo B w [c] fun m => 
 Hide [c] (m.alloc (.cells ⟨[.int .i64 1, .int .i64 0, .int .i64 0, .int .i64 18, .int .i64 0, .int .i64 0]⟩ 23)) fun n => 
 RunK Try.prog (Builtin.append_ #[24, 24] 24 ⟨[.slice i j l, .slice (some ⟨m.heap.size, 0, none⟩) 2 2]⟩) B n [c] fun v o => 
 ∃ (p : Option Addr) (q r : Nat), v = .slice p q r ∧
 Expo B o [c] fun s => 
 Hide [c] (s.alloc (.cells ⟨[.int .i64 d, .int .i64 f, .int .i64 g, .slice p q r]⟩ 26)) fun t => 
 ∀ u : Nat, t.heap.size ≤ u →
 CallK Try.prog 11 [.agg ⟨[.slice (some ⟨s.heap.size, 0, none⟩) 1 1]⟩, .int .i64 (IntKind.wrap .i64 ((j : Int) + 1))] B t [u, c] fun x y => 
 ∃ z : Option Addr, x = .pointer z ∧
 caseP z
 (False)
 (fun A => V5.b2 B R a A y)
def V5.l0 (B : Nat) (R : Value → World → Prop) : Nat → Option Addr → Nat → Nat → Addr → Int → Int → Nat → Int → Int → Int → Option Addr → Nat → Nat → World → Prop
 | 0 => fun _ _ _ _ _ _ _ _ _ _ _ _ _ _ => False
 | k + 1 => fun a c d f g i j l m n o p q w =>
 if (decide (i < (c : Int))) = true
 then (if (decide (i < 50)) = true
 then (∃ r : Addr, a = some r ∧ (0 : Int) ≤ i ∧ i < (c : Int) ∧
 ∃ s : Int, w.cell? (r.add i.toNat) = some (.int .u8 s) ∧ (4 : Int) ≠ 0 ∧
 ∃ t : Addr, a = some t ∧ (0 : Int) ≤ i ∧ i < (c : Int) ∧
 ∃ x : Int, w.cell? (t.add i.toNat) = some (.int .u8 x) ∧ (4 : Int) ≠ 0 ∧ (4 : Int) ≠ 0 ∧
 ∃ y : Addr, a = some y ∧ (0 : Int) ≤ i ∧ i < (c : Int) ∧
 ∃ z : Int, w.cell? (y.add i.toNat) = some (.int .u8 z) ∧ (16 : Int) ≠ 0 ∧ (4 : Int) ≠ 0 ∧
 if (Int.tmod (IntKind.wrap .u8 (Int.tdiv z 16)) 4 == 0) = true
 then (Expo B w [j] fun A => 
 Hide [j] (A.alloc (.cells ⟨[.int .i64 24, .int .i64 (Int.tmod (IntKind.wrap .i64 s) 4), .int .i64 (Int.tmod (IntKind.wrap .i64 (Int.tdiv (IntKind.wrap .i64 x) 4)) 4)]⟩ 23)) fun C => 
 RunK Try.prog (Builtin.append_ #[24, 24] 24 ⟨[.slice o p q, .slice (some ⟨A.heap.size, 0, none⟩) 1 1]⟩) B C [j] fun v D => 
 ∃ (E : Option Addr) (F G : Nat), v = .slice E F G ∧ (0 : Int) ≤ Int.tmod (IntKind.wrap .i64 (Int.tdiv (IntKind.wrap .i64 x) 4)) 4 ∧ Int.tmod (IntKind.wrap .i64 (Int.tdiv (IntKind.wrap .i64 x) 4)) 4 < 4 ∧
 ∃ I : Int, D.cell? (f.add ((Int.tmod (IntKind.wrap .i64 (Int.tdiv (IntKind.wrap .i64 x) 4)) 4).toNat)) = some (.int .u64 I) ∧ (0 : Int) ≤ Int.tmod (IntKind.wrap .i64 s) 4 ∧ Int.tmod (IntKind.wrap .i64 s) 4 < 4 ∧
 (∃ u, D.cell? ((f.add ((Int.tmod (IntKind.wrap .i64 s) 4).toNat)).add 0) = some u) ∧ D.frozen? ((f.add ((Int.tmod (IntKind.wrap .i64 s) 4).toNat)).add 0) = false ∧
 let J := D.setCell ((f.add ((Int.tmod (IntKind.wrap .i64 s) 4).toNat)).add 0) (.int .u64 I);
 (V5.l0 B R k) a c d f g (IntKind.wrap .i64 (i + 1)) j l m n E F G J)
 else (if (Int.tmod (IntKind.wrap .u8 (Int.tdiv z 16)) 4 == 1) = true
 then (Expo B w [j] fun A => 
 Hide [j] (A.alloc (.cells ⟨[.int .i64 25, .int .i64 (Int.tmod (IntKind.wrap .i64 s) 4), .int .i64 0]⟩ 23)) fun C => 
 RunK Try.prog (Builtin.append_ #[24, 24] 24 ⟨[.slice o p q, .slice (some ⟨A.heap.size, 0, none⟩) 1 1]⟩) B C [j] fun v D => 
 ∃ (L : Option Addr) (M N : Nat), v = .slice L M N ∧ (0 : Int) ≤ Int.tmod (IntKind.wrap .i64 s) 4 ∧ Int.tmod (IntKind.wrap .i64 s) 4 < 4 ∧
 (∃ u, D.cell? ((f.add ((Int.tmod (IntKind.wrap .i64 s) 4).toNat)).add 0) = some u) ∧ D.frozen? ((f.add ((Int.tmod (IntKind.wrap .i64 s) 4).toNat)).add 0) = false ∧
 let J := D.setCell ((f.add ((Int.tmod (IntKind.wrap .i64 s) 4).toNat)).add 0) (.int .u64 0);
 (V5.l0 B R k) a c d f g (IntKind.wrap .i64 (i + 1)) j l m n L M N J)
 else (Expo B w [j] fun A => 
 Hide [j] (A.alloc (.cells ⟨[.int .i64 23, .int .i64 (Int.tmod (IntKind.wrap .i64 s) 4), .int .i64 0]⟩ 23)) fun C => 
 RunK Try.prog (Builtin.append_ #[24, 24] 24 ⟨[.slice o p q, .slice (some ⟨A.heap.size, 0, none⟩) 1 1]⟩) B C [j] fun v D => 
 ∃ (O : Option Addr) (P Q : Nat), v = .slice O P Q ∧ (0 : Int) ≤ Int.tmod (IntKind.wrap .i64 s) 4 ∧ Int.tmod (IntKind.wrap .i64 s) 4 < 4 ∧
 (∃ u, D.cell? ((f.add ((Int.tmod (IntKind.wrap .i64 s) 4).toNat)).add 0) = some u) ∧ D.frozen? ((f.add ((Int.tmod (IntKind.wrap .i64 s) 4).toNat)).add 0) = false ∧
 let J := D.setCell ((f.add ((Int.tmod (IntKind.wrap .i64 s) 4).toNat)).add 0) (.int .u64 (IntKind.wrap .u64 (g + 1)));
 (V5.l0 B R k) a c d f (IntKind.wrap .u64 (g + 1)) (IntKind.wrap .i64 (i + 1)) j l m n O P Q J)))
 else (V5.b1 B R f j l m n o p q w))
 else (V5.b1 B R f j l m n o p q w)
def V5.vc (B : Nat) (R : Value → World → Prop) (a : Option Addr) (c d : Nat) (w : World) : Prop :=
 ∀ f : Nat, w.heap.size ≤ f →
 Expo B w [f] fun g => 
 Hide [f] (g.alloc (.cells ⟨[.int .u64 0, .int .u64 0, .int .u64 0, .int .u64 0]⟩ 48)) fun i => 
 ∃ j, V5.l0 B R j a c d (⟨g.heap.size, 0, none⟩ : Addr) 0 0 f 0 4 4 none 0 0 i
noncomputable def V5.cfg (B : Nat) : Cfg := ⟨Try.prog, ⟨128, B⟩, [4], hasN [11, 16, 18, 19, 20], hasN [], look []⟩
noncomputable def V5.code : Code := (Try.f5.body).getD .skip
noncomputable def V5.cuts (B : Nat) (R : Value → World → Prop) : Nat → Cut := nthC [⟨[(0, .one (.slice)), (4, .one (.ptr)), (5, .one (.int .u64)), (6, .one (.int .i64))], [(3, 26, [.int .i64, .int .i64, .int .i64, .slice])], fun fs vs bs w => V5.l0 B R (nthN fs 0) (slA (nthV vs 0)) (slL (nthV vs 0)) (slC (nthV vs 0)) (pV (nthV vs 1)) (iV (nthV vs 2)) (iV (nthV vs 3)) (nthB bs 0).blk (iV (nthV (nthB bs 0).cells 0)) (iV (nthV (nthB bs 0).cells 1)) (iV (nthV (nthB bs 0).cells 2)) (slA (nthV (nthB bs 0).cells 3)) (slL (nthV (nthB bs 0).cells 3)) (slC (nthV (nthB bs 0).cells 3)) w⟩,
 ⟨[(4, .one (.ptr))], [(3, 26, [.int .i64, .int .i64, .int .i64, .slice])], fun fs vs bs w => V5.b1 B R (pV (nthV vs 0)) (nthB bs 0).blk (iV (nthV (nthB bs 0).cells 0)) (iV (nthV (nthB bs 0).cells 1)) (iV (nthV (nthB bs 0).cells 2)) (slA (nthV (nthB bs 0).cells 3)) (slL (nthV (nthB bs 0).cells 3)) (slC (nthV (nthB bs 0).cells 3)) w⟩,
 ⟨[(4, .one (.ptr)), (11, .one (.ptr))], [], fun fs vs bs w => V5.b2 B R (pV (nthV vs 0)) (pV (nthV vs 1)) w⟩,
 ⟨[(4, .one (.ptr)), (11, .one (.ptr)), (12, .one (.slice)), (13, .one (.int .i64))], [], fun fs vs bs w => V5.l3 B R (nthN fs 0) (pV (nthV vs 0)) (pV (nthV vs 1)) (slA (nthV vs 2)) (slL (nthV vs 2)) (slC (nthV vs 2)) (iV (nthV vs 3)) w⟩]
noncomputable def V5.h : H := .s (.z) (.s (.z) (.s (.z) (.s (.z) (.cut 1 (.s (.z) (.b (.l 0 (.s (.s (.z) (.c (.z) (.z))) (.s (.b (.s (.r [[0, 1, 2, 3, 4, 5, 6, 7, 8, 9, 10, 11, 12, 13, 14]]) (.s (.z) (.b (.s (.z) (.c (.s (.z) (.z)) (.s (.z) (.c (.s (.z) (.z)) (.s (.z) (.s (.z) (.z))))))))))) (.z)))))) (.s (.z) (.s (.z) (.s (.z) (.cut 2 (.z) (.s (.s (.z) (.c (.s (.z) (.z)) (.z))) (.s (.z) (.s (.s (.z) (.b (.l 3 (.s (.s (.z) (.c (.z) (.z))) (.s (.b (.s (.z) (.c (.z) (.z)))) (.z)))))) (.s (.z) (.z)))))))))))))
theorem V5.vc_eq (B : Nat) (R : Value → World → Prop) (a : Option Addr) (c d : Nat) (w : World) : wpf (V5.cfg B) (V5.cuts B R) V5.code V5.h [] (postOf Try.prog B (Try.f5.results.toList) R) (argE 0 [.slice a c d]) [] w = V5.vc B R a c d w := by kernel_rfl
theorem V5.obl (B : Nat) (R : Value → World → Prop) : oblP (V5.cfg B) (V5.cuts B R) V5.code V5.h [] (postOf Try.prog B (Try.f5.results.toList) R) := by
 have e : oblP (V5.cfg B) (V5.cuts B R) V5.code V5.h [] (postOf Try.prog B (Try.f5.results.toList) R) = (True ∧ (True ∧ (True ∧ (True ∧ ((True ∧ ((∀ (a : Option Addr) (c d : Nat) (f : Addr) (g i : Int) (j : Nat) (l m n : Int) (o : Option Addr) (p q : Nat) (w : World), ¬ V5.l0 B R 0 a c d f g i j l m n o p q w) ∧ (∀ r, ∀ (a : Option Addr) (c d : Nat) (f : Addr) (g i : Int) (j : Nat) (l m n : Int) (o : Option Addr) (p q : Nat) (w : World), V5.l0 B R (r + 1) a c d f g i j l m n o p q w → V5.l0 B R (r + 1) a c d f g i j l m n o p q w) ∧ ∀ r : Nat, ((True ∧ (True ∧ True)) ∧ (((true = true) ∧ (True ∧ (True ∧ ((True ∧ True) ∧ (True ∧ ((True ∧ True) ∧ (True ∧ (True ∧ True)))))))) ∧ True)))) ∧ (∀ (f : Addr) (j : Nat) (l m n : Int) (o : Option Addr) (p q : Nat) (w : World), V5.b1 B R f j l m n o p q w → V5.b1 B R f j l m n o p q w) ∧ (True ∧ (True ∧ (True ∧ (True ∧ (∀ (f s : Addr) (w : World), V5.b2 B R f s w → V5.b2 B R f s w) ∧ ((True ∧ ((True ∧ True) ∧ True)) ∧ (True ∧ ((True ∧ ((∀ (f s : Addr) (t : Option Addr) (u x : Nat) (y : Int) (w : World), ¬ V5.l3 B R 0 f s t u x y w) ∧ (∀ z, ∀ (f s : Addr) (t : Option Addr) (u x : Nat) (y : Int) (w : World), V5.l3 B R (z + 1) f s t u x y w → V5.l3 B R (z + 1) f s t u x y w) ∧ ∀ z : Nat, ((True ∧ (True ∧ True)) ∧ ((True ∧ (True ∧ True)) ∧ True)))) ∧ (True ∧ True))))))))))))) := by kernel_rfl
 exact e.mpr (⟨trivial, ⟨trivial, ⟨trivial, ⟨trivial, ⟨⟨trivial, ⟨fun a c d f g i j l m n o p q w h => h, fun _ a c d f g i j l m n o p q w h => h, fun r => ⟨⟨trivial, ⟨trivial, trivial⟩⟩, ⟨⟨rfl, ⟨trivial, ⟨trivial, ⟨⟨trivial, trivial⟩, ⟨trivial, ⟨⟨trivial, trivial⟩, ⟨trivial, ⟨trivial, trivial⟩⟩⟩⟩⟩⟩⟩⟩, trivial⟩⟩⟩⟩, fun f j l m n o p q w h => h, ⟨trivial, ⟨trivial, ⟨trivial, ⟨trivial, fun f s w h => h, ⟨⟨trivial, ⟨⟨trivial, trivial⟩, trivial⟩⟩, ⟨trivial, ⟨⟨trivial, ⟨fun f s t u x y w h => h, fun _ f s t u x y w h => h, fun z => ⟨⟨trivial, ⟨trivial, trivial⟩⟩, ⟨⟨trivial, ⟨trivial, trivial⟩⟩, trivial⟩⟩⟩⟩, ⟨trivial, trivial⟩⟩⟩⟩⟩⟩⟩⟩⟩⟩⟩⟩⟩)
theorem V5.cfgOk (B : Nat) : CfgOk (V5.cfg B) := cfgOk_of (by kernel_rfl) (by kernel_rfl) extNil
theorem V5.sound {a : Option Addr} {d f : Nat} {w : World} {R : Value → World → Prop} (h : V5.vc w.heap.size R a d f w) : Calls Try.prog 5 ⟨[.slice a d f]⟩ w fun e w' => ∃ v, e = .returned v ∧ R v w' :=
 calls_wpfP (c := V5.cfg w.heap.size) (fn := Try.f5) (x := V5.code) (V5.cuts w.heap.size R) V5.h (V5.cfgOk _) mixed Try.func5 (by kernel_rfl) (by kernel_rfl) (by kernel_rfl) rfl (V5.obl _ _) ((V5.vc_eq _ _ a d f _).symm ▸ h)
end Go.Proofs.Ytidcpndlloppdaa
