import Derived.Test.YtidcpndlloppdaaZFF
import Derived.Test.YtidcpndlloppdaaZVB
import Derived.Test.YtidcpndlloppdaaZWH
/-
 What the engine makes of the loaded functions 13, 27, 22, 60, 44, 24, 70, 41, 69, 43, 23, 15, 20, 26, 34, 71, 94, 65, 85, 86, 87: conditions under which a call returns as told, and proofs of that.
 Conditions: none. Printed by a program of this project.
-/
set_option linter.unusedVariables false
set_option maxRecDepth 100000
namespace Go.Proofs.Ytidcpndlloppdaa
def V13.vc (B : Nat) (R : Value → World → Prop) (a : Addr) (w : World) : Prop :=
 ∃ c : Bool, w.cell? (a.add 3) = some (.bool c) ∧
 Ret B w (R (.bool c))
noncomputable def V13.cfg (B : Nat) : Cfg := ⟨Try.prog, ⟨11, B⟩, [], hasN [], hasN [], look []⟩
noncomputable def V13.code : Code := (Try.f13.body).getD .skip
noncomputable def V13.cuts (B : Nat) (R : Value → World → Prop) : Nat → Cut := nthC []
noncomputable def V13.h : H := .s (.z) (.s (.z) (.z))
theorem V13.vc_eq (B : Nat) (R : Value → World → Prop) (a : Addr) (w : World) : wpf (V13.cfg B) (V13.cuts B R) V13.code V13.h [] (postOf Try.prog B (Try.f13.results.toList) R) (argE 0 [.pointer (some a)]) [] w = V13.vc B R a w := by kernel_rfl
theorem V13.obl (B : Nat) (R : Value → World → Prop) : oblP (V13.cfg B) (V13.cuts B R) V13.code V13.h [] (postOf Try.prog B (Try.f13.results.toList) R) := by
 have e : oblP (V13.cfg B) (V13.cuts B R) V13.code V13.h [] (postOf Try.prog B (Try.f13.results.toList) R) = (True ∧ (True ∧ True)) := by kernel_rfl
 exact e.mpr (⟨trivial, ⟨trivial, trivial⟩⟩)
theorem V13.cfgOk (B : Nat) : CfgOk (V13.cfg B) := cfgOk_of (by kernel_rfl) (by kernel_rfl) extNil
theorem V13.sound {a : Addr} {w : World} {R : Value → World → Prop} (h : V13.vc w.heap.size R a w) : Calls Try.prog 13 ⟨[.pointer (some a)]⟩ w fun e w' => ∃ v, e = .returned v ∧ R v w' :=
 calls_wpfP (c := V13.cfg w.heap.size) (fn := Try.f13) (x := V13.code) (V13.cuts w.heap.size R) V13.h (V13.cfgOk _) mixed Try.func13 (by kernel_rfl) (by kernel_rfl) (by kernel_rfl) rfl (V13.obl _ _) ((V13.vc_eq _ _ a _).symm ▸ h)
def V22.vc (B : Nat) (R : Value → World → Prop) (a : Addr) (w : World) : Prop :=
 (∃ u, w.cell? ((a.add 4).add 0) = some u) ∧ w.frozen? ((a.add 4).add 0) = false ∧
 let c := w.setCell ((a.add 4).add 0) (.bool false);
 Ret B c (R (.tuple ⟨[]⟩))
noncomputable def V22.cfg (B : Nat) : Cfg := ⟨Try.prog, ⟨7, B⟩, [], hasN [], hasN [], look []⟩
noncomputable def V22.code : Code := (Try.f22.body).getD .skip
noncomputable def V22.cuts (B : Nat) (R : Value → World → Prop) : Nat → Cut := nthC []
noncomputable def V22.h : H := .s (.z) (.c (.z) (.z))
theorem V22.vc_eq (B : Nat) (R : Value → World → Prop) (a : Addr) (w : World) : wpf (V22.cfg B) (V22.cuts B R) V22.code V22.h [] (postOf Try.prog B (Try.f22.results.toList) R) (argE 0 [.pointer (some a)]) [] w = V22.vc B R a w := by kernel_rfl
theorem V22.obl (B : Nat) (R : Value → World → Prop) : oblP (V22.cfg B) (V22.cuts B R) V22.code V22.h [] (postOf Try.prog B (Try.f22.results.toList) R) := by
 have e : oblP (V22.cfg B) (V22.cuts B R) V22.code V22.h [] (postOf Try.prog B (Try.f22.results.toList) R) = (True ∧ (True ∧ True)) := by kernel_rfl
 exact e.mpr (⟨trivial, ⟨trivial, trivial⟩⟩)
theorem V22.cfgOk (B : Nat) : CfgOk (V22.cfg B) := cfgOk_of (by kernel_rfl) (by kernel_rfl) extNil
theorem V22.sound {a : Addr} {w : World} {R : Value → World → Prop} (h : V22.vc w.heap.size R a w) : Calls Try.prog 22 ⟨[.pointer (some a)]⟩ w fun e w' => ∃ v, e = .returned v ∧ R v w' :=
 calls_wpfP (c := V22.cfg w.heap.size) (fn := Try.f22) (x := V22.code) (V22.cuts w.heap.size R) V22.h (V22.cfgOk _) mixed Try.func22 (by kernel_rfl) (by kernel_rfl) (by kernel_rfl) rfl (V22.obl _ _) ((V22.vc_eq _ _ a _).symm ▸ h)
def V60.vc (B : Nat) (R : Value → World → Prop) (a : Addr) (w : World) : Prop :=
 ∀ c : Nat, w.heap.size ≤ c →
 ∃ (d : Option Addr) (f g : Nat), w.cell? (a.add 6) = some (.slice d f g) ∧
 ∃ (i : Option Addr) (j l : Nat), w.cell? (a.add 6) = some (.slice i j l) ∧
 ∃ m : Addr, d = some m ∧ (0 : Int) ≤ IntKind.wrap .i64 ((j : Int) - 1) ∧ IntKind.wrap .i64 ((j : Int) - 1) < (f : Int) ∧
 ∃ n : Int, w.cell? ((m.add ((IntKind.wrap .i64 ((j : Int) - 1)).toNat * 8)).add 0) = some (.int .i64 n) ∧
 ∃ o : Int, w.cell? ((m.add ((IntKind.wrap .i64 ((j : Int) - 1)).toNat * 8)).add 1) = some (.int .i64 o) ∧
 ∃ p : Int, w.cell? ((m.add ((IntKind.wrap .i64 ((j : Int) - 1)).toNat * 8)).add 2) = some (.int .i64 p) ∧
 ∃ q : Bool, w.cell? ((m.add ((IntKind.wrap .i64 ((j : Int) - 1)).toNat * 8)).add 3) = some (.bool q) ∧
 ∃ r : Int, w.cell? ((m.add ((IntKind.wrap .i64 ((j : Int) - 1)).toNat * 8)).add 4) = some (.int .u64 r) ∧
 ∃ (s : Option Addr) (t u : Nat), w.cell? ((m.add ((IntKind.wrap .i64 ((j : Int) - 1)).toNat * 8)).add 5) = some (.slice s t u) ∧
 ∃ (x : Option Addr) (y z : Nat), w.cell? ((m.add ((IntKind.wrap .i64 ((j : Int) - 1)).toNat * 8)).add 6) = some (.slice x y z) ∧
 ∃ (A : Option Addr) (C D : Nat), w.cell? ((m.add ((IntKind.wrap .i64 ((j : Int) - 1)).toNat * 8)).add 7) = some (.slice A C D) ∧
 ∀ E : Nat, w.heap.size ≤ E → w.cell? ((m.add ((IntKind.wrap .i64 ((j : Int) - 1)).toNat * 8)).add 0) = some (.int .i64 n) ∧ w.cell? ((m.add ((IntKind.wrap .i64 ((j : Int) - 1)).toNat * 8)).add 1) = some (.int .i64 o) ∧ w.cell? ((m.add ((IntKind.wrap .i64 ((j : Int) - 1)).toNat * 8)).add 2) = some (.int .i64 p) ∧ w.cell? ((m.add ((IntKind.wrap .i64 ((j : Int) - 1)).toNat * 8)).add 3) = some (.bool q) ∧ w.cell? ((m.add ((IntKind.wrap .i64 ((j : Int) - 1)).toNat * 8)).add 4) = some (.int .u64 r) ∧ w.cell? ((m.add ((IntKind.wrap .i64 ((j : Int) - 1)).toNat * 8)).add 5) = some (.slice s t u) ∧ w.cell? ((m.add ((IntKind.wrap .i64 ((j : Int) - 1)).toNat * 8)).add 6) = some (.slice x y z) ∧ w.cell? ((m.add ((IntKind.wrap .i64 ((j : Int) - 1)).toNat * 8)).add 7) = some (.slice A C D) ∧ w.cell? (a.add 6) = some (.slice i j l) ∧ w.cell? (a.add 6) = some (.slice d f g) ∧
 ∃ (F : Option Addr) (G I : Nat), w.cell? ((a.add 0).add 0) = some (.slice F G I) ∧
 ∃ J : Addr, F = some J ∧ (0 : Int) ≤ n ∧ n < (G : Int) ∧
 ∃ (L : Option Addr) (M N : Nat), w.cell? ((J.add (n.toNat * 4)).add 3) = some (.slice L M N) ∧
 ∃ O : Addr, L = some O ∧ (0 : Int) ≤ o ∧ o < (M : Int) ∧
 ∃ P : Int, w.cell? ((O.add (o.toNat * 3)).add 0) = some (.int .i64 P) ∧
 ∃ Q : Int, w.cell? ((O.add (o.toNat * 3)).add 1) = some (.int .i64 Q) ∧
 ∃ S : Int, w.cell? ((O.add (o.toNat * 3)).add 2) = some (.int .i64 S) ∧
 Ret B w (R (.agg ⟨[.int .i64 P, .int .i64 Q, .int .i64 S]⟩))
noncomputable def V60.cfg (B : Nat) : Cfg := ⟨Try.prog, ⟨30, B⟩, [], hasN [], hasN [], look []⟩
noncomputable def V60.code : Code := (Try.f60.body).getD .skip
noncomputable def V60.cuts (B : Nat) (R : Value → World → Prop) : Nat → Cut := nthC []
noncomputable def V60.h : H := .s (.z) (.s (.r [[0, 1, 2, 3, 4, 5, 6, 7, 8, 9, 10, 11, 12, 13]]) (.s (.r [[0, 1, 2, 3, 4, 5, 6, 7, 8, 9, 10, 11, 12, 13, 14]]) (.z)))
theorem V60.vc_eq (B : Nat) (R : Value → World → Prop) (a : Addr) (w : World) : wpf (V60.cfg B) (V60.cuts B R) V60.code V60.h [] (postOf Try.prog B (Try.f60.results.toList) R) (argE 0 [.pointer (some a)]) [] w = V60.vc B R a w := by kernel_rfl
theorem V60.obl (B : Nat) (R : Value → World → Prop) : oblP (V60.cfg B) (V60.cuts B R) V60.code V60.h [] (postOf Try.prog B (Try.f60.results.toList) R) := by
 have e : oblP (V60.cfg B) (V60.cuts B R) V60.code V60.h [] (postOf Try.prog B (Try.f60.results.toList) R) = (True ∧ ((true = true) ∧ ((true = true) ∧ True))) := by kernel_rfl
 exact e.mpr (⟨trivial, ⟨rfl, ⟨rfl, trivial⟩⟩⟩)
theorem V60.cfgOk (B : Nat) : CfgOk (V60.cfg B) := cfgOk_of (by kernel_rfl) (by kernel_rfl) extNil
theorem V60.sound {a : Addr} {w : World} {R : Value → World → Prop} (h : V60.vc w.heap.size R a w) : Calls Try.prog 60 ⟨[.pointer (some a)]⟩ w fun e w' => ∃ v, e = .returned v ∧ R v w' :=
 calls_wpfP (c := V60.cfg w.heap.size) (fn := Try.f60) (x := V60.code) (V60.cuts w.heap.size R) V60.h (V60.cfgOk _) mixed Try.func60 (by kernel_rfl) (by kernel_rfl) (by kernel_rfl) rfl (V60.obl _ _) ((V60.vc_eq _ _ a _).symm ▸ h)
def V70.vc (B : Nat) (R : Value → World → Prop) (a : Addr) (c d : Int) (w : World) : Prop :=
 ∃ (f : Option Addr) (g i : Nat), w.cell? (a.add 7) = some (.slice f g i) ∧
 Expo B w [] fun j => 
 let l := j.alloc (.cells ⟨[.int .i64 c, .int .u64 d]⟩ 31);
 RunK Try.prog (Builtin.append_ #[27, 27] 27 ⟨[.slice f g i, .slice (some ⟨j.heap.size, 0, none⟩) 1 1]⟩) B l [] fun v m => 
 ∃ (n : Option Addr) (o p : Nat), v = .slice n o p ∧
 (∃ u, m.cell? ((a.add 7).add 0) = some u) ∧ m.frozen? ((a.add 7).add 0) = false ∧
 let q := m.setCell ((a.add 7).add 0) (.slice n o p);
 Ret B q (R (.tuple ⟨[]⟩))
noncomputable def V70.cfg (B : Nat) : Cfg := ⟨Try.prog, ⟨18, B⟩, [], hasN [], hasN [], look []⟩
noncomputable def V70.code : Code := (Try.f70.body).getD .skip
noncomputable def V70.cuts (B : Nat) (R : Value → World → Prop) : Nat → Cut := nthC []
noncomputable def V70.h : H := .z
theorem V70.vc_eq (B : Nat) (R : Value → World → Prop) (a : Addr) (c d : Int) (w : World) : wpf (V70.cfg B) (V70.cuts B R) V70.code V70.h [] (postOf Try.prog B (Try.f70.results.toList) R) (argE 0 [.pointer (some a), .int .i64 c, .int .u64 d]) [] w = V70.vc B R a c d w := by kernel_rfl
theorem V70.obl (B : Nat) (R : Value → World → Prop) : oblP (V70.cfg B) (V70.cuts B R) V70.code V70.h [] (postOf Try.prog B (Try.f70.results.toList) R) := by
 have e : oblP (V70.cfg B) (V70.cuts B R) V70.code V70.h [] (postOf Try.prog B (Try.f70.results.toList) R) = True := by kernel_rfl
 exact e.mpr (trivial)
theorem V70.cfgOk (B : Nat) : CfgOk (V70.cfg B) := cfgOk_of (by kernel_rfl) (by kernel_rfl) extNil
theorem V70.sound {a : Addr} {d f : Int} {w : World} {R : Value → World → Prop} (h : V70.vc w.heap.size R a d f w) : Calls Try.prog 70 ⟨[.pointer (some a), .int .i64 d, .int .u64 f]⟩ w fun e w' => ∃ v, e = .returned v ∧ R v w' :=
 calls_wpfP (c := V70.cfg w.heap.size) (fn := Try.f70) (x := V70.code) (V70.cuts w.heap.size R) V70.h (V70.cfgOk _) mixed Try.func70 (by kernel_rfl) (by kernel_rfl) (by kernel_rfl) rfl (V70.obl _ _) ((V70.vc_eq _ _ a d f _).symm ▸ h)
def V41.vc (B : Nat) (R : Value → World → Prop) (a : Addr) (c : Int) (d : Option Addr) (f g : Nat) (i : Bool) (w : World) : Prop :=
 ∃ (j : Option Addr) (l m : Nat), w.cell? ((a.add 0).add 0) = some (.slice j l m) ∧
 ∃ n : Addr, j = some n ∧ (0 : Int) ≤ c ∧ c < (l : Int) ∧
 ∃ o : Int, w.cell? ((n.add (c.toNat * 4)).add 1) = some (.int .i64 o) ∧
 RunK Try.prog (Instr.makeSlice 49 (.int .i64 o) (.int .i64 o)) B w [] fun v p => 
 ∃ (q : Option Addr) (r s : Nat), v = .slice q r s ∧
 RunK Try.prog (Builtin.copy_ #[49, 49] 3 ⟨[.slice q r s, .slice d f g]⟩) B p [] fun t x => 
 ∃ y : Int, t = .int .i64 y ∧
 ∃ (z : Option Addr) (A C : Nat), x.cell? (a.add 6) = some (.slice z A C) ∧
 Expo B x [] fun D => 
 let E := D.alloc (.cells ⟨[.int .i64 c, .int .i64 0, .int .i64 0, .bool i, .int .u64 0, .slice none 0 0, .slice q r s, .slice none 0 0]⟩ 66);
 RunK Try.prog (Builtin.append_ #[52, 52] 52 ⟨[.slice z A C, .slice (some ⟨D.heap.size, 0, none⟩) 1 1]⟩) B E [] fun F G => 
 ∃ (I : Option Addr) (J L : Nat), F = .slice I J L ∧
 (∃ u, G.cell? ((a.add 6).add 0) = some u) ∧ G.frozen? ((a.add 6).add 0) = false ∧
 let M := G.setCell ((a.add 6).add 0) (.slice I J L);
 Ret B M (R (.tuple ⟨[]⟩))
noncomputable def V41.cfg (B : Nat) : Cfg := ⟨Try.prog, ⟨35, B⟩, [], hasN [], hasN [], look []⟩
noncomputable def V41.code : Code := (Try.f41.body).getD .skip
noncomputable def V41.cuts (B : Nat) (R : Value → World → Prop) : Nat → Cut := nthC []
noncomputable def V41.h : H := .s (.z) (.s (.z) (.z))
theorem V41.vc_eq (B : Nat) (R : Value → World → Prop) (a : Addr) (c : Int) (d : Option Addr) (f g : Nat) (i : Bool) (w : World) : wpf (V41.cfg B) (V41.cuts B R) V41.code V41.h [] (postOf Try.prog B (Try.f41.results.toList) R) (argE 0 [.pointer (some a), .int .i64 c, .slice d f g, .bool i]) [] w = V41.vc B R a c d f g i w := by kernel_rfl
theorem V41.obl (B : Nat) (R : Value → World → Prop) : oblP (V41.cfg B) (V41.cuts B R) V41.code V41.h [] (postOf Try.prog B (Try.f41.results.toList) R) := by
 have e : oblP (V41.cfg B) (V41.cuts B R) V41.code V41.h [] (postOf Try.prog B (Try.f41.results.toList) R) = (True ∧ (True ∧ True)) := by kernel_rfl
 exact e.mpr (⟨trivial, ⟨trivial, trivial⟩⟩)
theorem V41.cfgOk (B : Nat) : CfgOk (V41.cfg B) := cfgOk_of (by kernel_rfl) (by kernel_rfl) extNil
theorem V41.sound {a : Addr} {d : Int} {f : Option Addr} {g i : Nat} {j : Bool} {w : World} {R : Value → World → Prop} (h : V41.vc w.heap.size R a d f g i j w) : Calls Try.prog 41 ⟨[.pointer (some a), .int .i64 d, .slice f g i, .bool j]⟩ w fun e w' => ∃ v, e = .returned v ∧ R v w' :=
 calls_wpfP (c := V41.cfg w.heap.size) (fn := Try.f41) (x := V41.code) (V41.cuts w.heap.size R) V41.h (V41.cfgOk _) mixed Try.func41 (by kernel_rfl) (by kernel_rfl) (by kernel_rfl) rfl (V41.obl _ _) ((V41.vc_eq _ _ a d f g i j _).symm ▸ h)
def V69.vc (B : Nat) (R : Value → World → Prop) (a : Addr) (w : World) : Prop :=
 ∃ (c : Option Addr) (d f : Nat), w.cell? (a.add 6) = some (.slice c d f) ∧
 ∃ (g : Option Addr) (i j : Nat), w.cell? (a.add 6) = some (.slice g i j) ∧
 ∃ l : Addr, g = some l ∧ (0 : Int) ≤ IntKind.wrap .i64 ((d : Int) - 1) ∧ IntKind.wrap .i64 ((d : Int) - 1) < (i : Int) ∧
 ∃ m : Bool, w.cell? ((l.add ((IntKind.wrap .i64 ((d : Int) - 1)).toNat * 8)).add 3) = some (.bool m) ∧
 if (!m) = false
 then (∃ (n : Option Addr) (o p : Nat), w.cell? (a.add 6) = some (.slice n o p) ∧
 ∃ q : Addr, n = some q ∧ (0 : Int) ≤ IntKind.wrap .i64 ((d : Int) - 2) ∧ IntKind.wrap .i64 ((d : Int) - 2) < (o : Int) ∧
 ∃ r : Int, w.cell? ((q.add ((IntKind.wrap .i64 ((d : Int) - 2)).toNat * 8)).add 2) = some (.int .i64 r) ∧
 if (r != 2) = true
 then (CallK Try.prog 10 [.int .i64 0] B w [] fun v s => 
 ∃ t : Int, v = .int .u64 t ∧
 CallK Try.prog 10 [.int .i64 0] B s [] fun x y => 
 ∃ z : Int, x = .int .u64 z ∧
 Expo B y [] fun A => 
 let C := A.alloc (.cells ⟨[.int .u64 t, .int .u64 z]⟩ 28);
 Ret B C (R (.slice (some ⟨A.heap.size, 0, none⟩) 2 2)))
 else (∃ (D : Option Addr) (E F : Nat), w.cell? (a.add 6) = some (.slice D E F) ∧
 ∃ G : Addr, D = some G ∧ (0 : Int) ≤ IntKind.wrap .i64 ((d : Int) - 2) ∧ IntKind.wrap .i64 ((d : Int) - 2) < (E : Int) ∧
 ∃ I : Int, w.cell? ((G.add ((IntKind.wrap .i64 ((d : Int) - 2)).toNat * 8)).add 4) = some (.int .u64 I) ∧
 CallK Try.prog 70 [.pointer (some a), .int .i64 2, .int .u64 I] B w [] fun v s => 
 v = .tuple ⟨[]⟩ ∧
 CallK Try.prog 10 [.int .i64 0] B s [] fun x y => 
 ∃ J : Int, x = .int .u64 J ∧
 (∃ u, y.cell? (((G.add ((IntKind.wrap .i64 ((d : Int) - 2)).toNat * 8)).add 2).add 0) = some u) ∧ y.frozen? (((G.add ((IntKind.wrap .i64 ((d : Int) - 2)).toNat * 8)).add 2).add 0) = false ∧
 let A := y.setCell (((G.add ((IntKind.wrap .i64 ((d : Int) - 2)).toNat * 8)).add 2).add 0) (.int .i64 1);
 (∃ u_1, A.cell? (((G.add ((IntKind.wrap .i64 ((d : Int) - 2)).toNat * 8)).add 4).add 0) = some u_1) ∧ A.frozen? (((G.add ((IntKind.wrap .i64 ((d : Int) - 2)).toNat * 8)).add 4).add 0) = false ∧
 let C := A.setCell (((G.add ((IntKind.wrap .i64 ((d : Int) - 2)).toNat * 8)).add 4).add 0) (.int .u64 J);
 CallK Try.prog 10 [.int .i64 1] B C [] fun L M => 
 ∃ N : Int, L = .int .u64 N ∧
 Expo B M [] fun O => 
 let P := O.alloc (.cells ⟨[.int .u64 I, .int .u64 N]⟩ 28);
 Ret B P (R (.slice (some ⟨O.heap.size, 0, none⟩) 2 2))))
 else (CallK Try.prog 10 [.int .i64 0] B w [] fun v s => 
 ∃ t : Int, v = .int .u64 t ∧
 CallK Try.prog 10 [.int .i64 0] B s [] fun x y => 
 ∃ z : Int, x = .int .u64 z ∧
 Expo B y [] fun A => 
 let C := A.alloc (.cells ⟨[.int .u64 t, .int .u64 z]⟩ 28);
 Ret B C (R (.slice (some ⟨A.heap.size, 0, none⟩) 2 2)))
noncomputable def V69.cfg (B : Nat) : Cfg := ⟨Try.prog, ⟨60, B⟩, [], hasN [10, 70], hasN [], look []⟩
noncomputable def V69.code : Code := (Try.f69.body).getD .skip
noncomputable def V69.cuts (B : Nat) (R : Value → World → Prop) : Nat → Cut := nthC []
noncomputable def V69.h : H := .s (.z) (.s (.z) (.s (.s (.z) (.c (.s (.z) (.z)) (.z))) (.s (.z) (.s (.z) (.s (.z) (.s (.z) (.s (.z) (.z))))))))
theorem V69.vc_eq (B : Nat) (R : Value → World → Prop) (a : Addr) (w : World) : wpf (V69.cfg B) (V69.cuts B R) V69.code V69.h [] (postOf Try.prog B (Try.f69.results.toList) R) (argE 0 [.pointer (some a)]) [] w = V69.vc B R a w := by kernel_rfl
theorem V69.obl (B : Nat) (R : Value → World → Prop) : oblP (V69.cfg B) (V69.cuts B R) V69.code V69.h [] (postOf Try.prog B (Try.f69.results.toList) R) := by
 have e : oblP (V69.cfg B) (V69.cuts B R) V69.code V69.h [] (postOf Try.prog B (Try.f69.results.toList) R) = (True ∧ (True ∧ ((True ∧ ((True ∧ True) ∧ True)) ∧ (True ∧ (True ∧ (True ∧ (True ∧ (True ∧ True)))))))) := by kernel_rfl
 exact e.mpr (⟨trivial, ⟨trivial, ⟨⟨trivial, ⟨⟨trivial, trivial⟩, trivial⟩⟩, ⟨trivial, ⟨trivial, ⟨trivial, ⟨trivial, ⟨trivial, trivial⟩⟩⟩⟩⟩⟩⟩⟩)
theorem V69.cfgOk (B : Nat) : CfgOk (V69.cfg B) := cfgOk_of (by kernel_rfl) (by kernel_rfl) extNil
theorem V69.sound {a : Addr} {w : World} {R : Value → World → Prop} (h : V69.vc w.heap.size R a w) : Calls Try.prog 69 ⟨[.pointer (some a)]⟩ w fun e w' => ∃ v, e = .returned v ∧ R v w' :=
 calls_wpfP (c := V69.cfg w.heap.size) (fn := Try.f69) (x := V69.code) (V69.cuts w.heap.size R) V69.h (V69.cfgOk _) mixed Try.func69 (by kernel_rfl) (by kernel_rfl) (by kernel_rfl) rfl (V69.obl _ _) ((V69.vc_eq _ _ a _).symm ▸ h)
def V43.b0 (B : Nat) (R : Value → World → Prop) (a : Addr) (c : Int) (d f : Bool) (g : Nat) (i j l : Int) (m : Bool) (n : Int) (o : Option Addr) (p q : Nat) (r : Option Addr) (s t : Nat) (x : Option Addr) (y z : Nat) (w : World) : Prop :=
 if f = true
 then ((∃ u, w.cell? ((a.add 3).add 0) = some u) ∧ w.frozen? ((a.add 3).add 0) = false ∧
 let A := w.setCell ((a.add 3).add 0) (.bool true);
 CallK Try.prog 70 [.pointer (some a), .int .i64 4, .int .u64 n] B A [g] fun v C => 
 v = .tuple ⟨[]⟩ ∧
 Ret B C (R (.tuple ⟨[]⟩)))
 else (if (c == 1) = true
 then ((∃ u, w.cell? ((a.add 3).add 0) = some u) ∧ w.frozen? ((a.add 3).add 0) = false ∧
 let A := w.setCell ((a.add 3).add 0) (.bool true);
 CallK Try.prog 70 [.pointer (some a), .int .i64 3, .int .u64 n] B A [g] fun v C => 
 v = .tuple ⟨[]⟩ ∧
 Ret B C (R (.tuple ⟨[]⟩)))
 else (if d = true
 then (∃ (D : Option Addr) (E F : Nat), w.cell? (a.add 6) = some (.slice D E F) ∧
 ∃ (G : Option Addr) (I J : Nat), w.cell? (a.add 6) = some (.slice G I J) ∧
 ∃ L : Addr, D = some L ∧ (0 : Int) ≤ IntKind.wrap .i64 (c - 2) ∧ IntKind.wrap .i64 (c - 2) < (E : Int) ∧
 (∃ u, w.cell? (((L.add ((IntKind.wrap .i64 (c - 2)).toNat * 8)).add 2).add 0) = some u) ∧ w.frozen? (((L.add ((IntKind.wrap .i64 (c - 2)).toNat * 8)).add 2).add 0) = false ∧
 let A := w.setCell (((L.add ((IntKind.wrap .i64 (c - 2)).toNat * 8)).add 2).add 0) (.int .i64 2);
 ∃ M : Addr, G = some M ∧ (0 : Int) ≤ IntKind.wrap .i64 (c - 2) ∧ IntKind.wrap .i64 (c - 2) < (I : Int) ∧
 (∃ u_1, A.cell? (((M.add ((IntKind.wrap .i64 (c - 2)).toNat * 8)).add 4).add 0) = some u_1) ∧ A.frozen? (((M.add ((IntKind.wrap .i64 (c - 2)).toNat * 8)).add 4).add 0) = false ∧
 let C := A.setCell (((M.add ((IntKind.wrap .i64 (c - 2)).toNat * 8)).add 4).add 0) (.int .u64 n);
 Ret B C (R (.tuple ⟨[]⟩)))
 else (if (!m) = true
 then (∃ (N : Option Addr) (O P : Nat), w.cell? (a.add 6) = some (.slice N O P) ∧
 ∃ (Q : Option Addr) (S T : Nat), w.cell? (a.add 6) = some (.slice Q S T) ∧
 ∃ U : Addr, Q = some U ∧ (0 : Int) ≤ IntKind.wrap .i64 (c - 2) ∧ IntKind.wrap .i64 (c - 2) < (S : Int) ∧
 ∃ (W : Option Addr) (X Y : Nat), w.cell? ((U.add ((IntKind.wrap .i64 (c - 2)).toNat * 8)).add 7) = some (.slice W X Y) ∧
 Expo B w [g] fun A => 
 Hide [g] (A.alloc (.cells ⟨[.int .u64 n]⟩ 28)) fun C => 
 C.cell? ((U.add ((IntKind.wrap .i64 (c - 2)).toNat * 8)).add 7) = some (.slice W X Y) ∧ C.cell? (a.add 6) = some (.slice Q S T) ∧ C.cell? (a.add 6) = some (.slice N O P) ∧
 RunK Try.prog (Builtin.append_ #[49, 49] 49 ⟨[.slice W X Y, .slice (some ⟨A.heap.size, 0, none⟩) 1 1]⟩) B C [g] fun v Z => 
 ∃ (a0 : Option Addr) (a1 a2 : Nat), v = .slice a0 a1 a2 ∧ Z.cell? (a.add 6) = some (.slice N O P) ∧
 ∃ a3 : Addr, N = some a3 ∧ (0 : Int) ≤ IntKind.wrap .i64 (c - 2) ∧ IntKind.wrap .i64 (c - 2) < (O : Int) ∧
 (∃ u, Z.cell? (((a3.add ((IntKind.wrap .i64 (c - 2)).toNat * 8)).add 7).add 0) = some u) ∧ Z.frozen? (((a3.add ((IntKind.wrap .i64 (c - 2)).toNat * 8)).add 7).add 0) = false ∧
 let a4 := Z.setCell (((a3.add ((IntKind.wrap .i64 (c - 2)).toNat * 8)).add 7).add 0) (.slice a0 a1 a2);
 Ret B a4 (R (.tuple ⟨[]⟩)))
 else (Ret B w (R (.tuple ⟨[]⟩))))))
def V43.vc (B : Nat) (R : Value → World → Prop) (c : Addr) (w : World) : Prop :=
 ∃ (d : Option Addr) (f g : Nat), w.cell? (c.add 6) = some (.slice d f g) ∧
 ∃ (i : Option Addr) (j l : Nat), w.cell? (c.add 6) = some (.slice i j l) ∧
 ∃ m : Addr, i = some m ∧ (0 : Int) ≤ IntKind.wrap .i64 ((f : Int) - 1) ∧ IntKind.wrap .i64 ((f : Int) - 1) < (j : Int) ∧
 ∃ (n : Option Addr) (o p : Nat), w.cell? ((m.add ((IntKind.wrap .i64 ((f : Int) - 1)).toNat * 8)).add 5) = some (.slice n o p) ∧
 if (decide ((o : Int) > 0)) = true
 then (∃ (q : Option Addr) (r s : Nat), w.cell? ((m.add ((IntKind.wrap .i64 ((f : Int) - 1)).toNat * 8)).add 5) = some (.slice q r s) ∧
 ∃ t : Addr, q = some t ∧ (0 : Int) ≤ IntKind.wrap .i64 ((o : Int) - 1) ∧ IntKind.wrap .i64 ((o : Int) - 1) < (r : Int) ∧
 ∃ x : Int, w.cell? ((t.add ((IntKind.wrap .i64 ((o : Int) - 1)).toNat * 2)).add 0) = some (.int .i64 x) ∧
 ∃ (y : Option Addr) (z A : Nat), w.cell? ((t.add ((IntKind.wrap .i64 ((o : Int) - 1)).toNat * 2)).add 1) = some (.slice y z A) ∧
 ∀ C : Nat, w.heap.size ≤ C →
 ∃ (D : Option Addr) (E F : Nat), w.cell? ((m.add ((IntKind.wrap .i64 ((f : Int) - 1)).toNat * 8)).add 5) = some (.slice D E F) ∧ (0 : Int) ≤ IntKind.wrap .i64 ((o : Int) - 1) ∧ IntKind.wrap .i64 ((o : Int) - 1) ≤ (F : Int) ∧
 (∃ u, w.cell? (((m.add ((IntKind.wrap .i64 ((f : Int) - 1)).toNat * 8)).add 5).add 0) = some u) ∧ w.frozen? (((m.add ((IntKind.wrap .i64 ((f : Int) - 1)).toNat * 8)).add 5).add 0) = false ∧
 let G := w.setCell (((m.add ((IntKind.wrap .i64 ((f : Int) - 1)).toNat * 8)).add 5).add 0) (.slice (if F = 0 then D else Option.map (fun a => a.add (0 * 2)) D) (((IntKind.wrap .i64 ((o : Int) - 1)).toNat) - 0) (F - 0));
 CallK Try.prog 41 [.pointer (some c), .int .i64 x, .slice y z A, .bool true] B G [C] fun v I => 
 v = .tuple ⟨[]⟩ ∧
 Ret B I (R (.tuple ⟨[]⟩)))
 else (∃ J : Int, w.cell? ((m.add ((IntKind.wrap .i64 ((f : Int) - 1)).toNat * 8)).add 0) = some (.int .i64 J) ∧
 ∃ L : Int, w.cell? ((m.add ((IntKind.wrap .i64 ((f : Int) - 1)).toNat * 8)).add 1) = some (.int .i64 L) ∧
 ∃ M : Int, w.cell? ((m.add ((IntKind.wrap .i64 ((f : Int) - 1)).toNat * 8)).add 2) = some (.int .i64 M) ∧
 ∃ N : Bool, w.cell? ((m.add ((IntKind.wrap .i64 ((f : Int) - 1)).toNat * 8)).add 3) = some (.bool N) ∧
 ∃ O : Int, w.cell? ((m.add ((IntKind.wrap .i64 ((f : Int) - 1)).toNat * 8)).add 4) = some (.int .u64 O) ∧
 ∃ (P : Option Addr) (Q S : Nat), w.cell? ((m.add ((IntKind.wrap .i64 ((f : Int) - 1)).toNat * 8)).add 5) = some (.slice P Q S) ∧
 ∃ (T : Option Addr) (U W : Nat), w.cell? ((m.add ((IntKind.wrap .i64 ((f : Int) - 1)).toNat * 8)).add 6) = some (.slice T U W) ∧
 ∃ (X : Option Addr) (Y Z : Nat), w.cell? ((m.add ((IntKind.wrap .i64 ((f : Int) - 1)).toNat * 8)).add 7) = some (.slice X Y Z) ∧
 ∀ q6 : Nat, w.heap.size ≤ q6 →
 ∃ (a1 : Option Addr) (a2 a3 : Nat), w.cell? (c.add 6) = some (.slice a1 a2 a3) ∧ (0 : Int) ≤ IntKind.wrap .i64 ((f : Int) - 1) ∧ IntKind.wrap .i64 ((f : Int) - 1) ≤ (a3 : Int) ∧
 (∃ u, w.cell? ((c.add 6).add 0) = some u) ∧ w.frozen? ((c.add 6).add 0) = false ∧
 let G := w.setCell ((c.add 6).add 0) (.slice (if a3 = 0 then a1 else Option.map (fun a => a.add (0 * 8)) a1) (((IntKind.wrap .i64 ((f : Int) - 1)).toNat) - 0) (a3 - 0));
 if ((f : Int) == 1) = true
 then (V43.b0 B R c (f : Int) (M == 2) (M == 2) q6 J L M N O P Q S T U W X Y Z G)
 else (V43.b0 B R c (f : Int) (M == 2) false q6 J L M N O P Q S T U W X Y Z G))
noncomputable def V43.cfg (B : Nat) : Cfg := ⟨Try.prog, ⟨135, B⟩, [], hasN [41, 70], hasN [], look []⟩
noncomputable def V43.code : Code := (Try.f43.body).getD .skip
noncomputable def V43.cuts (B : Nat) (R : Value → World → Prop) : Nat → Cut := nthC [⟨[(0, .one (.ptr)), (2, .one (.int .i64)), (7, .one (.bool)), (67, .one (.bool))], [(6, 66, [.int .i64, .int .i64, .int .i64, .bool, .int .u64, .slice, .slice, .slice])], fun fs vs bs w => V43.b0 B R (pV (nthV vs 0)) (iV (nthV vs 1)) (bV (nthV vs 2)) (bV (nthV vs 3)) (nthB bs 0).blk (iV (nthV (nthB bs 0).cells 0)) (iV (nthV (nthB bs 0).cells 1)) (iV (nthV (nthB bs 0).cells 2)) (bV (nthV (nthB bs 0).cells 3)) (iV (nthV (nthB bs 0).cells 4)) (slA (nthV (nthB bs 0).cells 5)) (slL (nthV (nthB bs 0).cells 5)) (slC (nthV (nthB bs 0).cells 5)) (slA (nthV (nthB bs 0).cells 6)) (slL (nthV (nthB bs 0).cells 6)) (slC (nthV (nthB bs 0).cells 6)) (slA (nthV (nthB bs 0).cells 7)) (slL (nthV (nthB bs 0).cells 7)) (slC (nthV (nthB bs 0).cells 7)) w⟩]
noncomputable def V43.h : H := .s (.z) (.s (.z) (.s (.s (.z) (.s (.z) (.c (.s (.z) (.s (.z) (.s (.z) (.z)))) (.z)))) (.s (.z) (.s (.z) (.s (.z) (.b (.cut 0 (.z) (.c (.s (.z) (.z)) (.s (.z) (.c (.s (.z) (.z)) (.s (.z) (.c (.r [[0, 1, 2, 3, 4, 5, 6, 7, 8, 9, 10, 11, 12, 13, 14, 15, 16, 17, 18, 19]]) (.s (.z) (.c (.r [[0, 1, 2, 3, 4, 5, 6, 7, 8, 9, 10, 11, 12, 13, 14, 15, 16, 17, 18, 19, 20, 21]]) (.z)))))))))))))))
theorem V43.vc_eq (B : Nat) (R : Value → World → Prop) (a : Addr) (w : World) : wpf (V43.cfg B) (V43.cuts B R) V43.code V43.h [] (postOf Try.prog B (Try.f43.results.toList) R) (argE 0 [.pointer (some a)]) [] w = V43.vc B R a w := by kernel_rfl
theorem V43.obl (B : Nat) (R : Value → World → Prop) : oblP (V43.cfg B) (V43.cuts B R) V43.code V43.h [] (postOf Try.prog B (Try.f43.results.toList) R) := by
 have e : oblP (V43.cfg B) (V43.cuts B R) V43.code V43.h [] (postOf Try.prog B (Try.f43.results.toList) R) = (True ∧ (True ∧ ((True ∧ (True ∧ ((True ∧ (True ∧ (True ∧ True))) ∧ True))) ∧ (True ∧ (True ∧ (True ∧ (True ∧ (∀ (a : Addr) (c : Int) (d f : Bool) (g : Nat) (i j l : Int) (m : Bool) (n : Int) (o : Option Addr) (p q : Nat) (r : Option Addr) (s t : Nat) (u : Option Addr) (x y : Nat) (w : World), V43.b0 B R a c d f g i j l m n o p q r s t u x y w → V43.b0 B R a c d f g i j l m n o p q r s t u x y w) ∧ ((True ∧ True) ∧ (True ∧ ((True ∧ True) ∧ (True ∧ ((true = true) ∧ (True ∧ ((true = true) ∧ True)))))))))))))) := by kernel_rfl
 exact e.mpr (⟨trivial, ⟨trivial, ⟨⟨trivial, ⟨trivial, ⟨⟨trivial, ⟨trivial, ⟨trivial, trivial⟩⟩⟩, trivial⟩⟩⟩, ⟨trivial, ⟨trivial, ⟨trivial, ⟨trivial, fun a c d f g i j l m n o p q r s t u x y w h => h, ⟨⟨trivial, trivial⟩, ⟨trivial, ⟨⟨trivial, trivial⟩, ⟨trivial, ⟨rfl, ⟨trivial, ⟨rfl, trivial⟩⟩⟩⟩⟩⟩⟩⟩⟩⟩⟩⟩⟩⟩)
theorem V43.cfgOk (B : Nat) : CfgOk (V43.cfg B) := cfgOk_of (by kernel_rfl) (by kernel_rfl) extNil
theorem V43.sound {a : Addr} {w : World} {R : Value → World → Prop} (h : V43.vc w.heap.size R a w) : Calls Try.prog 43 ⟨[.pointer (some a)]⟩ w fun e w' => ∃ v, e = .returned v ∧ R v w' :=
 calls_wpfP (c := V43.cfg w.heap.size) (fn := Try.f43) (x := V43.code) (V43.cuts w.heap.size R) V43.h (V43.cfgOk _) mixed Try.func43 (by kernel_rfl) (by kernel_rfl) (by kernel_rfl) rfl (V43.obl _ _) ((V43.vc_eq _ _ a _).symm ▸ h)
def V23.vc (B : Nat) (R : Value → World → Prop) (a : Addr) (w : World) : Prop :=
 ∃ c : Bool, w.cell? (a.add 3) = some (.bool c) ∧
 if c = true
 then (Ret B w (R (.int .i64 7)))
 else (∃ d : Bool, w.cell? (a.add 4) = some (.bool d) ∧
 if d = true
 then (Ret B w (R (.int .i64 8)))
 else (∃ f : Bool, w.cell? (a.add 2) = some (.bool f) ∧
 if (!f) = true
 then ((∃ u, w.cell? ((a.add 2).add 0) = some u) ∧ w.frozen? ((a.add 2).add 0) = false ∧
 let g := w.setCell ((a.add 2).add 0) (.bool true);
 ∃ i : Int, g.cell? (a.add 1) = some (.int .i64 i) ∧
 CallK Try.prog 41 [.pointer (some a), .int .i64 i, .slice none 0 0, .bool false] B g [] fun v j => 
 v = .tuple ⟨[]⟩ ∧
 Ret B j (R (.int .i64 0)))
 else (∃ (l : Option Addr) (m n : Nat), w.cell? (a.add 6) = some (.slice l m n) ∧
 ∃ (o : Option Addr) (p q : Nat), w.cell? (a.add 6) = some (.slice o p q) ∧
 ∃ r : Addr, l = some r ∧ (0 : Int) ≤ IntKind.wrap .i64 ((p : Int) - 1) ∧ IntKind.wrap .i64 ((p : Int) - 1) < (m : Int) ∧
 ∃ s : Int, w.cell? ((r.add ((IntKind.wrap .i64 ((p : Int) - 1)).toNat * 8)).add 2) = some (.int .i64 s) ∧
 if (s == 0) = true
 then (CallK Try.prog 42 [.pointer (some a)] B w [] fun v g => 
 v = .tuple ⟨[]⟩ ∧
 Ret B g (R (.int .i64 0)))
 else (CallK Try.prog 43 [.pointer (some a)] B w [] fun v g => 
 v = .tuple ⟨[]⟩ ∧
 Ret B g (R (.int .i64 0))))))
noncomputable def V23.cfg (B : Nat) : Cfg := ⟨Try.prog, ⟨50, B⟩, [], hasN [41, 42, 43], hasN [], look []⟩
noncomputable def V23.code : Code := (Try.f23.body).getD .skip
noncomputable def V23.cuts (B : Nat) (R : Value → World → Prop) : Nat → Cut := nthC []
noncomputable def V23.h : H := .s (.z) (.s (.b (.s (.z) (.c (.s (.z) (.z)) (.s (.z) (.c (.s (.z) (.z)) (.s (.z) (.c (.s (.z) (.z)) (.s (.z) (.c (.s (.z) (.z)) (.s (.r [[0, 1, 2, 3, 4, 5, 6, 7, 8, 9, 10, 11, 12, 13, 14]]) (.c (.z) (.z)))))))))))) (.s (.z) (.z)))
theorem V23.vc_eq (B : Nat) (R : Value → World → Prop) (a : Addr) (w : World) : wpf (V23.cfg B) (V23.cuts B R) V23.code V23.h [] (postOf Try.prog B (Try.f23.results.toList) R) (argE 0 [.pointer (some a)]) [] w = V23.vc B R a w := by kernel_rfl
theorem V23.obl (B : Nat) (R : Value → World → Prop) : oblP (V23.cfg B) (V23.cuts B R) V23.code V23.h [] (postOf Try.prog B (Try.f23.results.toList) R) := by
 have e : oblP (V23.cfg B) (V23.cuts B R) V23.code V23.h [] (postOf Try.prog B (Try.f23.results.toList) R) = (True ∧ ((True ∧ ((True ∧ True) ∧ (True ∧ ((True ∧ True) ∧ (True ∧ ((True ∧ True) ∧ (True ∧ ((True ∧ True) ∧ ((true = true) ∧ (True ∧ True)))))))))) ∧ (True ∧ True))) := by kernel_rfl
 exact e.mpr (⟨trivial, ⟨⟨trivial, ⟨⟨trivial, trivial⟩, ⟨trivial, ⟨⟨trivial, trivial⟩, ⟨trivial, ⟨⟨trivial, trivial⟩, ⟨trivial, ⟨⟨trivial, trivial⟩, ⟨rfl, ⟨trivial, trivial⟩⟩⟩⟩⟩⟩⟩⟩⟩⟩, ⟨trivial, trivial⟩⟩⟩)
theorem V23.cfgOk (B : Nat) : CfgOk (V23.cfg B) := cfgOk_of (by kernel_rfl) (by kernel_rfl) extNil
theorem V23.sound {a : Addr} {w : World} {R : Value → World → Prop} (h : V23.vc w.heap.size R a w) : Calls Try.prog 23 ⟨[.pointer (some a)]⟩ w fun e w' => ∃ v, e = .returned v ∧ R v w' :=
 calls_wpfP (c := V23.cfg w.heap.size) (fn := Try.f23) (x := V23.code) (V23.cuts w.heap.size R) V23.h (V23.cfgOk _) mixed Try.func23 (by kernel_rfl) (by kernel_rfl) (by kernel_rfl) rfl (V23.obl _ _) ((V23.vc_eq _ _ a _).symm ▸ h)
def V15.vc (B : Nat) (R : Value → World → Prop) (a : Addr) (w : World) : Prop :=
 ∃ (c : Option Addr) (d f : Nat), w.cell? (a.add 7) = some (.slice c d f) ∧
 CallK Try.prog 34 [.slice c d f] B w [] fun v g => 
 ∃ (i : Option Addr) (j l : Nat), v = .slice i j l ∧
 Ret B g (R (.slice i j l))
noncomputable def V15.cfg (B : Nat) : Cfg := ⟨Try.prog, ⟨10, B⟩, [], hasN [34], hasN [], look []⟩
noncomputable def V15.code : Code := (Try.f15.body).getD .skip
noncomputable def V15.cuts (B : Nat) (R : Value → World → Prop) : Nat → Cut := nthC []
noncomputable def V15.h : H := .s (.z) (.s (.s (.z) (.c (.s (.z) (.z)) (.z))) (.s (.z) (.z)))
theorem V15.vc_eq (B : Nat) (R : Value → World → Prop) (a : Addr) (w : World) : wpf (V15.cfg B) (V15.cuts B R) V15.code V15.h [] (postOf Try.prog B (Try.f15.results.toList) R) (argE 0 [.pointer (some a)]) [] w = V15.vc B R a w := by kernel_rfl
theorem V15.obl (B : Nat) (R : Value → World → Prop) : oblP (V15.cfg B) (V15.cuts B R) V15.code V15.h [] (postOf Try.prog B (Try.f15.results.toList) R) := by
 have e : oblP (V15.cfg B) (V15.cuts B R) V15.code V15.h [] (postOf Try.prog B (Try.f15.results.toList) R) = (True ∧ ((True ∧ ((True ∧ True) ∧ True)) ∧ (True ∧ True))) := by kernel_rfl
 exact e.mpr (⟨trivial, ⟨⟨trivial, ⟨⟨trivial, trivial⟩, trivial⟩⟩, ⟨trivial, trivial⟩⟩⟩)
theorem V15.cfgOk (B : Nat) : CfgOk (V15.cfg B) := cfgOk_of (by kernel_rfl) (by kernel_rfl) extNil
theorem V15.sound {a : Addr} {w : World} {R : Value → World → Prop} (h : V15.vc w.heap.size R a w) : Calls Try.prog 15 ⟨[.pointer (some a)]⟩ w fun e w' => ∃ v, e = .returned v ∧ R v w' :=
 calls_wpfP (c := V15.cfg w.heap.size) (fn := Try.f15) (x := V15.code) (V15.cuts w.heap.size R) V15.h (V15.cfgOk _) mixed Try.func15 (by kernel_rfl) (by kernel_rfl) (by kernel_rfl) rfl (V15.obl _ _) ((V15.vc_eq _ _ a _).symm ▸ h)
def V20.l1 (B : Nat) (R : Value → World → Prop) (a : Option Addr → Nat → Nat → Option Addr → Nat → Nat → Int → Int → World → Prop) : Nat → Option Addr → Nat → Nat → Option Addr → Nat → Nat → Option Addr → Nat → Nat → Int → Int → Option Addr → Nat → Nat → Int → Int → Nat → Int → Int → Int → Bool → Int → Option Addr → Nat → Nat → Option Addr → Nat → Nat → Option Addr → Nat → Nat → World → Prop
 | 0 => fun _ _ _ _ _ _ _ _ _ _ _ _ _ _ _ _ _ _ _ _ _ _ _ _ _ _ _ _ _ _ _ _ => False
 | k + 1 => fun c d f g i j l m n o p q r s t u x y z A C D E F G I J L M N O w =>
 if (decide (u < t)) = true
 then (∃ P : Addr, q = some P ∧ (0 : Int) ≤ u ∧ u < (r : Int) ∧
 ∃ Q : Int, w.cell? ((P.add (u.toNat * 2)).add 0) = some (.int .i64 Q) ∧
 ∃ (S : Option Addr) (T U : Nat), w.cell? ((P.add (u.toNat * 2)).add 1) = some (.slice S T U) ∧
 ∀ W : Nat, w.heap.size ≤ W →
 CallK Try.prog 38 [.slice S T U] B w [W, x] fun v X => 
 ∃ (Y : Option Addr) (Z a0 : Nat), v = .slice Y Z a0 ∧
 Expo B X [W, x] fun a1 => 
 Hide [W, x] (a1.alloc (.cells ⟨[.int .i64 Q, .slice Y Z a0]⟩ 85)) fun a2 => 
 RunK Try.prog (Builtin.append_ #[64, 64] 64 ⟨[.slice g i j, .slice (some ⟨a1.heap.size, 0, none⟩) 1 1]⟩) B a2 [W, x] fun a3 a4 => 
 ∃ (a5 : Option Addr) (a6 a7 : Nat), a3 = .slice a5 a6 a7 ∧ (V20.l1 B R a k) c d f a5 a6 a7 l m n o p q r s t (IntKind.wrap .i64 (u + 1)) x y z A C D E F G I J L M N O a4)
 else (Expo B w [x] fun X => 
 Hide [x] (X.alloc (.cells ⟨[.int .i64 y, .int .i64 z, .int .i64 A, .bool C, .int .u64 D, .slice g i j, .slice I J L, .slice M N O]⟩ 66)) fun a1 => 
 RunK Try.prog (Builtin.append_ #[52, 52] 52 ⟨[.slice c d f, .slice (some ⟨X.heap.size, 0, none⟩) 1 1]⟩) B a1 [x] fun v a2 => 
 ∃ (a8 : Option Addr) (a9 c0 : Nat), v = .slice a8 a9 c0 ∧ a a8 a9 c0 l m n o (IntKind.wrap .i64 (p + 1)) a2)
def V20.l0 (B : Nat) (R : Value → World → Prop) : Nat → Option Addr → Nat → Nat → Option Addr → Nat → Nat → Int → Int → World → Prop
 | 0 => fun _ _ _ _ _ _ _ _ _ => False
 | k + 1 => fun a c d f g i j l w =>
 if (decide (l < j)) = true
 then (∃ m : Addr, f = some m ∧ (0 : Int) ≤ l ∧ l < (g : Int) ∧
 ∃ n : Int, w.cell? ((m.add (l.toNat * 8)).add 0) = some (.int .i64 n) ∧
 ∃ o : Int, w.cell? ((m.add (l.toNat * 8)).add 1) = some (.int .i64 o) ∧
 ∃ p : Int, w.cell? ((m.add (l.toNat * 8)).add 2) = some (.int .i64 p) ∧
 ∃ q : Bool, w.cell? ((m.add (l.toNat * 8)).add 3) = some (.bool q) ∧
 ∃ r : Int, w.cell? ((m.add (l.toNat * 8)).add 4) = some (.int .u64 r) ∧
 ∃ (s : Option Addr) (t u : Nat), w.cell? ((m.add (l.toNat * 8)).add 5) = some (.slice s t u) ∧
 ∃ (x : Option Addr) (y z : Nat), w.cell? ((m.add (l.toNat * 8)).add 6) = some (.slice x y z) ∧
 ∃ (A : Option Addr) (C D : Nat), w.cell? ((m.add (l.toNat * 8)).add 7) = some (.slice A C D) ∧
 ∀ E : Nat, w.heap.size ≤ E →
 CallK Try.prog 38 [.slice x y z] B w [E] fun v F => 
 ∃ (G : Option Addr) (I J : Nat), v = .slice G I J ∧
 CallK Try.prog 38 [.slice A C D] B F [E] fun L M => 
 ∃ (N : Option Addr) (O P : Nat), L = .slice N O P ∧
 ∃ Q, V20.l1 B R (V20.l0 B R k) Q a c d none 0 0 f g i j l s t u (t : Int) 0 E n o p q r s t u G I J N O P M)
 else (Ret B w (R (.slice a c d)))
def V20.vc (B : Nat) (R : Value → World → Prop) (a : Addr) (w : World) : Prop :=
 ∃ (c : Option Addr) (d f : Nat), w.cell? (a.add 6) = some (.slice c d f) ∧
 ∃ g, V20.l0 B R g none 0 0 c d f (d : Int) 0 w
noncomputable def V20.cfg (B : Nat) : Cfg := ⟨Try.prog, ⟨53, B⟩, [], hasN [38], hasN [], look []⟩
noncomputable def V20.code : Code := (Try.f20.body).getD .skip
noncomputable def V20.cuts (B : Nat) (R : Value → World → Prop) : Nat → Cut := nthC [⟨[(3, .one (.slice)), (14, .one (.slice)), (15, .one (.int .i64)), (16, .one (.int .i64))], [], fun fs vs bs w => V20.l0 B R (nthN fs 0) (slA (nthV vs 0)) (slL (nthV vs 0)) (slC (nthV vs 0)) (slA (nthV vs 1)) (slL (nthV vs 1)) (slC (nthV vs 1)) (iV (nthV vs 2)) (iV (nthV vs 3)) w⟩,
 ⟨[(3, .one (.slice)), (6, .one (.slice)), (14, .one (.slice)), (15, .one (.int .i64)), (16, .one (.int .i64)), (29, .one (.slice)), (30, .one (.int .i64)), (31, .one (.int .i64))], [(5, 66, [.int .i64, .int .i64, .int .i64, .bool, .int .u64, .slice, .slice, .slice])], fun fs vs bs w => V20.l1 B R (V20.l0 B R (nthN fs 1)) (nthN fs 0) (slA (nthV vs 0)) (slL (nthV vs 0)) (slC (nthV vs 0)) (slA (nthV vs 1)) (slL (nthV vs 1)) (slC (nthV vs 1)) (slA (nthV vs 2)) (slL (nthV vs 2)) (slC (nthV vs 2)) (iV (nthV vs 3)) (iV (nthV vs 4)) (slA (nthV vs 5)) (slL (nthV vs 5)) (slC (nthV vs 5)) (iV (nthV vs 6)) (iV (nthV vs 7)) (nthB bs 0).blk (iV (nthV (nthB bs 0).cells 0)) (iV (nthV (nthB bs 0).cells 1)) (iV (nthV (nthB bs 0).cells 2)) (bV (nthV (nthB bs 0).cells 3)) (iV (nthV (nthB bs 0).cells 4)) (slA (nthV (nthB bs 0).cells 5)) (slL (nthV (nthB bs 0).cells 5)) (slC (nthV (nthB bs 0).cells 5)) (slA (nthV (nthB bs 0).cells 6)) (slL (nthV (nthB bs 0).cells 6)) (slC (nthV (nthB bs 0).cells 6)) (slA (nthV (nthB bs 0).cells 7)) (slL (nthV (nthB bs 0).cells 7)) (slC (nthV (nthB bs 0).cells 7)) w⟩]
noncomputable def V20.h : H := .s (.z) (.s (.s (.z) (.c (.s (.z) (.z)) (.z))) (.s (.z) (.s (.s (.z) (.b (.l 0 (.s (.z) (.s (.c (.z) (.z)) (.s (.b (.s (.z) (.s (.r [[0, 1, 3, 4, 2, 6, 5, 7, 8, 9]]) (.s (.z) (.s (.s (.z) (.b (.l 1 (.s (.z) (.s (.c (.z) (.z)) (.s (.b (.s (.z) (.r [[0, 1, 2, 3, 4, 5, 6, 7, 8, 9]]))) (.z))))))) (.s (.z) (.z))))))) (.z))))))) (.s (.z) (.z)))))
theorem V20.vc_eq (B : Nat) (R : Value → World → Prop) (a : Addr) (w : World) : wpf (V20.cfg B) (V20.cuts B R) V20.code V20.h [] (postOf Try.prog B (Try.f20.results.toList) R) (argE 0 [.pointer (some a)]) [] w = V20.vc B R a w := by kernel_rfl
theorem V20.obl (B : Nat) (R : Value → World → Prop) : oblP (V20.cfg B) (V20.cuts B R) V20.code V20.h [] (postOf Try.prog B (Try.f20.results.toList) R) := by
 have e : oblP (V20.cfg B) (V20.cuts B R) V20.code V20.h [] (postOf Try.prog B (Try.f20.results.toList) R) = (True ∧ ((True ∧ ((True ∧ True) ∧ True)) ∧ (True ∧ ((True ∧ ((∀ (a : Option Addr) (c d : Nat) (f : Option Addr) (g i : Nat) (j l : Int) (w : World), ¬ V20.l0 B R 0 a c d f g i j l w) ∧ (∀ m, ∀ (a : Option Addr) (c d : Nat) (f : Option Addr) (g i : Nat) (j l : Int) (w : World), V20.l0 B R (m + 1) a c d f g i j l w → V20.l0 B R (m + 1) a c d f g i j l w) ∧ ∀ m : Nat, (True ∧ ((True ∧ True) ∧ ((True ∧ ((true = true) ∧ (True ∧ ((True ∧ ((∀ (a : Option Addr) (c d : Nat) (n : Option Addr) (o p : Nat) (f : Option Addr) (g i : Nat) (j l : Int) (q : Option Addr) (r s : Nat) (t u : Int) (x : Nat) (y z A : Int) (C : Bool) (D : Int) (E : Option Addr) (F G : Nat) (I : Option Addr) (J L : Nat) (M : Option Addr) (N O : Nat) (w : World), ¬ V20.l1 B R (V20.l0 B R m) 0 a c d n o p f g i j l q r s t u x y z A C D E F G I J L M N O w) ∧ (∀ P, ∀ (a : Option Addr) (c d : Nat) (n : Option Addr) (o p : Nat) (f : Option Addr) (g i : Nat) (j l : Int) (q : Option Addr) (r s : Nat) (t u : Int) (x : Nat) (y z A : Int) (C : Bool) (D : Int) (E : Option Addr) (F G : Nat) (I : Option Addr) (J L : Nat) (M : Option Addr) (N O : Nat) (w : World), V20.l1 B R (V20.l0 B R m) (P + 1) a c d n o p f g i j l q r s t u x y z A C D E F G I J L M N O w → V20.l1 B R (V20.l0 B R m) (P + 1) a c d n o p f g i j l q r s t u x y z A C D E F G I J L M N O w) ∧ ∀ P : Nat, (True ∧ ((True ∧ True) ∧ ((True ∧ (true = true)) ∧ True))))) ∧ (True ∧ True))))) ∧ True))))) ∧ (True ∧ True))))) := by kernel_rfl
 exact e.mpr (⟨trivial, ⟨⟨trivial, ⟨⟨trivial, trivial⟩, trivial⟩⟩, ⟨trivial, ⟨⟨trivial, ⟨fun a c d f g i j l w h => h, fun _ a c d f g i j l w h => h, fun m => ⟨trivial, ⟨⟨trivial, trivial⟩, ⟨⟨trivial, ⟨rfl, ⟨trivial, ⟨⟨trivial, ⟨fun a c d n o p f g i j l q r s t u x y z A C D E F G I J L M N O w h => h, fun _ a c d n o p f g i j l q r s t u x y z A C D E F G I J L M N O w h => h, fun P => ⟨trivial, ⟨⟨trivial, trivial⟩, ⟨⟨trivial, rfl⟩, trivial⟩⟩⟩⟩⟩, ⟨trivial, trivial⟩⟩⟩⟩⟩, trivial⟩⟩⟩⟩⟩, ⟨trivial, trivial⟩⟩⟩⟩⟩)
theorem V20.cfgOk (B : Nat) : CfgOk (V20.cfg B) := cfgOk_of (by kernel_rfl) (by kernel_rfl) extNil
theorem V20.sound {a : Addr} {w : World} {R : Value → World → Prop} (h : V20.vc w.heap.size R a w) : Calls Try.prog 20 ⟨[.pointer (some a)]⟩ w fun e w' => ∃ v, e = .returned v ∧ R v w' :=
 calls_wpfP (c := V20.cfg w.heap.size) (fn := Try.f20) (x := V20.code) (V20.cuts w.heap.size R) V20.h (V20.cfgOk _) mixed Try.func20 (by kernel_rfl) (by kernel_rfl) (by kernel_rfl) rfl (V20.obl _ _) ((V20.vc_eq _ _ a _).symm ▸ h)
def V26.vc (B : Nat) (R : Value → World → Prop) (a : Option Addr) (c d : Nat) (f : Int) (w : World) : Prop :=
 ∀ g : Nat, w.heap.size ≤ g →
 CallK Try.prog 45 [.agg ⟨[.slice a c d]⟩] B w [g] fun v i => 
 ∃ j l m : Int, v = .tuple ⟨[.int .i64 j, .int .i64 l, .int .i64 m]⟩ ∧
 if (j != 0) = false
 then (if (decide (f < 0)) = false
 then (if (decide (f ≥ (c : Int))) = false
 then (∃ n : Addr, a = some n ∧ (0 : Int) ≤ f ∧ f < (c : Int) ∧
 ∃ o : Int, i.cell? ((n.add (f.toNat * 4)).add 0) = some (.int .i64 o) ∧
 if (o != 0) = true
 then (Ret B i (R (.pointer none)))
 else (CallK Try.prog 46 [.agg ⟨[.slice a c d]⟩] B i [g] fun p q => 
 ∃ (r : Option Addr) (s t : Nat), p = .agg ⟨[.slice r s t]⟩ ∧
 Expo B q [g] fun u => 
 Hide [g] (u.alloc (.cells ⟨[.slice r s t, .int .i64 f, .bool false, .bool false, .bool false, .int .u64 0, .slice none 0 0, .slice none 0 0]⟩ 76)) fun x => 
 Ret B x (R (.pointer (some (⟨u.heap.size, 0, none⟩ : Addr))))))
 else (Ret B i (R (.pointer none))))
 else (Ret B i (R (.pointer none))))
 else (Ret B i (R (.pointer none)))
noncomputable def V26.cfg (B : Nat) : Cfg := ⟨Try.prog, ⟨41, B⟩, [40], hasN [45, 46], hasN [], look []⟩
noncomputable def V26.code : Code := (Try.f26.body).getD .skip
noncomputable def V26.cuts (B : Nat) (R : Value → World → Prop) : Nat → Cut := nthC []
noncomputable def V26.h : H := .s (.z) (.s (.s (.z) (.s (.z) (.c (.s (.z) (.z)) (.z)))) (.s (.z) (.z)))
theorem V26.vc_eq (B : Nat) (R : Value → World → Prop) (a : Option Addr) (c d : Nat) (f : Int) (w : World) : wpf (V26.cfg B) (V26.cuts B R) V26.code V26.h [] (postOf Try.prog B (Try.f26.results.toList) R) (argE 0 [.agg ⟨[.slice a c d]⟩, .int .i64 f]) [] w = V26.vc B R a c d f w := by kernel_rfl
theorem V26.obl (B : Nat) (R : Value → World → Prop) : oblP (V26.cfg B) (V26.cuts B R) V26.code V26.h [] (postOf Try.prog B (Try.f26.results.toList) R) := by
 have e : oblP (V26.cfg B) (V26.cuts B R) V26.code V26.h [] (postOf Try.prog B (Try.f26.results.toList) R) = (True ∧ ((True ∧ (True ∧ ((True ∧ True) ∧ True))) ∧ (True ∧ True))) := by kernel_rfl
 exact e.mpr (⟨trivial, ⟨⟨trivial, ⟨trivial, ⟨⟨trivial, trivial⟩, trivial⟩⟩⟩, ⟨trivial, trivial⟩⟩⟩)
theorem V26.cfgOk (B : Nat) : CfgOk (V26.cfg B) := cfgOk_of (by kernel_rfl) (by kernel_rfl) extNil
theorem V26.sound {a : Option Addr} {d f : Nat} {g : Int} {w : World} {R : Value → World → Prop} (h : V26.vc w.heap.size R a d f g w) : Calls Try.prog 26 ⟨[.agg ⟨[.slice a d f]⟩, .int .i64 g]⟩ w fun e w' => ∃ v, e = .returned v ∧ R v w' :=
 calls_wpfP (c := V26.cfg w.heap.size) (fn := Try.f26) (x := V26.code) (V26.cuts w.heap.size R) V26.h (V26.cfgOk _) mixed Try.func26 (by kernel_rfl) (by kernel_rfl) (by kernel_rfl) rfl (V26.obl _ _) ((V26.vc_eq _ _ a d f g _).symm ▸ h)
def V34.vc (B : Nat) (R : Value → World → Prop) (a : Option Addr) (c d : Nat) (w : World) : Prop :=
 if (Option.isNone a) = true
 then (Ret B w (R (.slice none 0 0)))
 else (Expo B w [] fun f => 
 let g := f.alloc (.cells ⟨[]⟩ 31);
 RunK Try.prog (Builtin.append_ #[27, 27] 27 ⟨[.slice (some ⟨f.heap.size, 0, none⟩) 0 0, .slice a c d]⟩) B g [] fun v i => 
 ∃ (j : Option Addr) (l m : Nat), v = .slice j l m ∧
 Ret B i (R (.slice j l m)))
noncomputable def V34.cfg (B : Nat) : Cfg := ⟨Try.prog, ⟨8, B⟩, [], hasN [], hasN [], look []⟩
noncomputable def V34.code : Code := (Try.f34.body).getD .skip
noncomputable def V34.cuts (B : Nat) (R : Value → World → Prop) : Nat → Cut := nthC []
noncomputable def V34.h : H := .s (.z) (.s (.s (.z) (.c (.s (.z) (.z)) (.z))) (.s (.z) (.z)))
theorem V34.vc_eq (B : Nat) (R : Value → World → Prop) (a : Option Addr) (c d : Nat) (w : World) : wpf (V34.cfg B) (V34.cuts B R) V34.code V34.h [] (postOf Try.prog B (Try.f34.results.toList) R) (argE 0 [.slice a c d]) [] w = V34.vc B R a c d w := by kernel_rfl
theorem V34.obl (B : Nat) (R : Value → World → Prop) : oblP (V34.cfg B) (V34.cuts B R) V34.code V34.h [] (postOf Try.prog B (Try.f34.results.toList) R) := by
 have e : oblP (V34.cfg B) (V34.cuts B R) V34.code V34.h [] (postOf Try.prog B (Try.f34.results.toList) R) = (True ∧ ((True ∧ ((True ∧ True) ∧ True)) ∧ (True ∧ True))) := by kernel_rfl
 exact e.mpr (⟨trivial, ⟨⟨trivial, ⟨⟨trivial, trivial⟩, trivial⟩⟩, ⟨trivial, trivial⟩⟩⟩)
theorem V34.cfgOk (B : Nat) : CfgOk (V34.cfg B) := cfgOk_of (by kernel_rfl) (by kernel_rfl) extNil
theorem V34.sound {a : Option Addr} {d f : Nat} {w : World} {R : Value → World → Prop} (h : V34.vc w.heap.size R a d f w) : Calls Try.prog 34 ⟨[.slice a d f]⟩ w fun e w' => ∃ v, e = .returned v ∧ R v w' :=
 calls_wpfP (c := V34.cfg w.heap.size) (fn := Try.f34) (x := V34.code) (V34.cuts w.heap.size R) V34.h (V34.cfgOk _) mixed Try.func34 (by kernel_rfl) (by kernel_rfl) (by kernel_rfl) rfl (V34.obl _ _) ((V34.vc_eq _ _ a d f _).symm ▸ h)
def V71.vc (B : Nat) (R : Value → World → Prop) (a c d : Int) (w : World) : Prop :=
 if (a == 5) = true
 then (CallK Try.prog 89 [.int .u64 c, .int .u64 d] B w [] fun v f => 
 ∃ g : Int, v = .int .u64 g ∧
 Ret B f (R (.int .u64 g)))
 else (if (a == 6) = true
 then (CallK Try.prog 90 [.int .u64 c, .int .u64 d] B w [] fun v f => 
 ∃ i : Int, v = .int .u64 i ∧
 Ret B f (R (.int .u64 i)))
 else (if (a == 7) = true
 then (CallK Try.prog 91 [.int .u64 c, .int .u64 d] B w [] fun v f => 
 ∃ j : Int, v = .int .u64 j ∧
 Ret B f (R (.int .u64 j)))
 else (if (a == 8) = true
 then (CallK Try.prog 17 [.int .u64 c, .int .u64 d] B w [] fun v f => 
 ∃ l : Int, v = .int .u64 l ∧
 Ret B f (R (.int .u64 l)))
 else (if (a == 11) = true
 then (CallK Try.prog 92 [.int .u64 c, .int .u64 d] B w [] fun v f => 
 ∃ m : Int, v = .int .u64 m ∧
 Ret B f (R (.int .u64 m)))
 else (if (a == 12) = true
 then (CallK Try.prog 93 [.int .u64 c, .int .u64 d] B w [] fun v f => 
 ∃ n : Int, v = .int .u64 n ∧
 Ret B f (R (.int .u64 n)))
 else (if (a == 13) = true
 then (CallK Try.prog 95 [.int .u64 c, .int .u64 d] B w [] fun v f => 
 ∃ o : Bool, v = .bool o ∧
 CallK Try.prog 94 [.bool o] B f [] fun p q => 
 ∃ r : Int, p = .int .u64 r ∧
 Ret B q (R (.int .u64 r)))
 else (CallK Try.prog 96 [.int .u64 c, .int .u64 d] B w [] fun v f => 
 ∃ s : Bool, v = .bool s ∧
 CallK Try.prog 94 [.bool s] B f [] fun p q => 
 ∃ t : Int, p = .int .u64 t ∧
 Ret B q (R (.int .u64 t)))))))))
noncomputable def V71.cfg (B : Nat) : Cfg := ⟨Try.prog, ⟨48, B⟩, [], hasN [17, 89, 90, 91, 92, 93, 94, 95, 96], hasN [], look []⟩
noncomputable def V71.code : Code := (Try.f71.body).getD .skip
noncomputable def V71.cuts (B : Nat) (R : Value → World → Prop) : Nat → Cut := nthC []
noncomputable def V71.h : H := .s (.z) (.s (.s (.z) (.b (.s (.z) (.c (.s (.z) (.z)) (.s (.z) (.c (.s (.z) (.z)) (.s (.z) (.c (.s (.z) (.z)) (.s (.z) (.c (.s (.z) (.z)) (.s (.z) (.c (.s (.z) (.z)) (.s (.z) (.c (.s (.z) (.z)) (.s (.z) (.c (.s (.z) (.z)) (.z))))))))))))))))) (.s (.z) (.z)))
theorem V71.vc_eq (B : Nat) (R : Value → World → Prop) (a c d : Int) (w : World) : wpf (V71.cfg B) (V71.cuts B R) V71.code V71.h [] (postOf Try.prog B (Try.f71.results.toList) R) (argE 0 [.int .i64 a, .int .u64 c, .int .u64 d]) [] w = V71.vc B R a c d w := by kernel_rfl
theorem V71.obl (B : Nat) (R : Value → World → Prop) : oblP (V71.cfg B) (V71.cuts B R) V71.code V71.h [] (postOf Try.prog B (Try.f71.results.toList) R) := by
 have e : oblP (V71.cfg B) (V71.cuts B R) V71.code V71.h [] (postOf Try.prog B (Try.f71.results.toList) R) = (True ∧ ((True ∧ (True ∧ ((True ∧ True) ∧ (True ∧ ((True ∧ True) ∧ (True ∧ ((True ∧ True) ∧ (True ∧ ((True ∧ True) ∧ (True ∧ ((True ∧ True) ∧ (True ∧ ((True ∧ True) ∧ (True ∧ ((True ∧ True) ∧ True))))))))))))))) ∧ (True ∧ True))) := by kernel_rfl
 exact e.mpr (⟨trivial, ⟨⟨trivial, ⟨trivial, ⟨⟨trivial, trivial⟩, ⟨trivial, ⟨⟨trivial, trivial⟩, ⟨trivial, ⟨⟨trivial, trivial⟩, ⟨trivial, ⟨⟨trivial, trivial⟩, ⟨trivial, ⟨⟨trivial, trivial⟩, ⟨trivial, ⟨⟨trivial, trivial⟩, ⟨trivial, ⟨⟨trivial, trivial⟩, trivial⟩⟩⟩⟩⟩⟩⟩⟩⟩⟩⟩⟩⟩⟩⟩, ⟨trivial, trivial⟩⟩⟩)
theorem V71.cfgOk (B : Nat) : CfgOk (V71.cfg B) := cfgOk_of (by kernel_rfl) (by kernel_rfl) extNil
theorem V71.sound {a d f : Int} {w : World} {R : Value → World → Prop} (h : V71.vc w.heap.size R a d f w) : Calls Try.prog 71 ⟨[.int .i64 a, .int .u64 d, .int .u64 f]⟩ w fun e w' => ∃ v, e = .returned v ∧ R v w' :=
 calls_wpfP (c := V71.cfg w.heap.size) (fn := Try.f71) (x := V71.code) (V71.cuts w.heap.size R) V71.h (V71.cfgOk _) mixed Try.func71 (by kernel_rfl) (by kernel_rfl) (by kernel_rfl) rfl (V71.obl _ _) ((V71.vc_eq _ _ a d f _).symm ▸ h)
def V94.vc (B : Nat) (R : Value → World → Prop) (a : Bool) (w : World) : Prop :=
 if a = true
 then (CallK Try.prog 10 [.int .i64 1] B w [] fun v c => 
 ∃ d : Int, v = .int .u64 d ∧
 Ret B c (R (.int .u64 d)))
 else (CallK Try.prog 10 [.int .i64 0] B w [] fun v c => 
 ∃ f : Int, v = .int .u64 f ∧
 Ret B c (R (.int .u64 f)))
noncomputable def V94.cfg (B : Nat) : Cfg := ⟨Try.prog, ⟨6, B⟩, [], hasN [10], hasN [], look []⟩
noncomputable def V94.code : Code := (Try.f94.body).getD .skip
noncomputable def V94.cuts (B : Nat) (R : Value → World → Prop) : Nat → Cut := nthC []
noncomputable def V94.h : H := .s (.z) (.s (.s (.z) (.c (.s (.z) (.z)) (.z))) (.s (.z) (.z)))
theorem V94.vc_eq (B : Nat) (R : Value → World → Prop) (a : Bool) (w : World) : wpf (V94.cfg B) (V94.cuts B R) V94.code V94.h [] (postOf Try.prog B (Try.f94.results.toList) R) (argE 0 [.bool a]) [] w = V94.vc B R a w := by kernel_rfl
theorem V94.obl (B : Nat) (R : Value → World → Prop) : oblP (V94.cfg B) (V94.cuts B R) V94.code V94.h [] (postOf Try.prog B (Try.f94.results.toList) R) := by
 have e : oblP (V94.cfg B) (V94.cuts B R) V94.code V94.h [] (postOf Try.prog B (Try.f94.results.toList) R) = (True ∧ ((True ∧ ((True ∧ True) ∧ True)) ∧ (True ∧ True))) := by kernel_rfl
 exact e.mpr (⟨trivial, ⟨⟨trivial, ⟨⟨trivial, trivial⟩, trivial⟩⟩, ⟨trivial, trivial⟩⟩⟩)
theorem V94.cfgOk (B : Nat) : CfgOk (V94.cfg B) := cfgOk_of (by kernel_rfl) (by kernel_rfl) extNil
theorem V94.sound {a : Bool} {w : World} {R : Value → World → Prop} (h : V94.vc w.heap.size R a w) : Calls Try.prog 94 ⟨[.bool a]⟩ w fun e w' => ∃ v, e = .returned v ∧ R v w' :=
 calls_wpfP (c := V94.cfg w.heap.size) (fn := Try.f94) (x := V94.code) (V94.cuts w.heap.size R) V94.h (V94.cfgOk _) mixed Try.func94 (by kernel_rfl) (by kernel_rfl) (by kernel_rfl) rfl (V94.obl _ _) ((V94.vc_eq _ _ a _).symm ▸ h)
def V65.vc (B : Nat) (R : Value → World → Prop) (a : Int) (w : World) : Prop :=
 CallK Try.prog 85 [] B w [] fun v c => 
 ∃ d : Nat, v = .float .f64 d ∧
 CallK Try.prog 86 [.int .i64 1] B c [] fun f g => 
 ∃ i : Nat, f = .float .f64 i ∧
 CallK Try.prog 86 [.int .i64 (-1)] B g [] fun j l => 
 ∃ m : Nat, j = .float .f64 m ∧
 CallK Try.prog 87 [.float .f64 0, .float .f64 13830554455654793216] B l [] fun n o => 
 ∃ p : Nat, n = .float .f64 p ∧ (0 : Int) ≤ a ∧ a < 6 ∧
 CallK Try.prog 32 [.float .f64 (([d, i, m, p, 9218868437227405311, 1] : List Nat).getD a.toNat 0)] B o [] fun q r => 
 ∃ s : Int, q = .int .u64 s ∧
 Ret B r (R (.int .u64 s))
noncomputable def V65.cfg (B : Nat) : Cfg := ⟨Try.prog, ⟨11, B⟩, [], hasN [32, 85, 86, 87], hasN [], look []⟩
noncomputable def V65.code : Code := (Try.f65.body).getD .skip
noncomputable def V65.cuts (B : Nat) (R : Value → World → Prop) : Nat → Cut := nthC []
noncomputable def V65.h : H := .s (.z) (.s (.z) (.z))
theorem V65.vc_eq (B : Nat) (R : Value → World → Prop) (a : Int) (w : World) : wpf (V65.cfg B) (V65.cuts B R) V65.code V65.h [] (postOf Try.prog B (Try.f65.results.toList) R) (argE 0 [.int .i64 a]) [] w = V65.vc B R a w := by kernel_rfl
theorem V65.obl (B : Nat) (R : Value → World → Prop) : oblP (V65.cfg B) (V65.cuts B R) V65.code V65.h [] (postOf Try.prog B (Try.f65.results.toList) R) := by
 have e : oblP (V65.cfg B) (V65.cuts B R) V65.code V65.h [] (postOf Try.prog B (Try.f65.results.toList) R) = (True ∧ (True ∧ True)) := by kernel_rfl
 exact e.mpr (⟨trivial, ⟨trivial, trivial⟩⟩)
theorem V65.cfgOk (B : Nat) : CfgOk (V65.cfg B) := cfgOk_of (by kernel_rfl) (by kernel_rfl) extNil
theorem V65.sound {a : Int} {w : World} {R : Value → World → Prop} (h : V65.vc w.heap.size R a w) : Calls Try.prog 65 ⟨[.int .i64 a]⟩ w fun e w' => ∃ v, e = .returned v ∧ R v w' :=
 calls_wpfP (c := V65.cfg w.heap.size) (fn := Try.f65) (x := V65.code) (V65.cuts w.heap.size R) V65.h (V65.cfgOk _) mixed Try.func65 (by kernel_rfl) (by kernel_rfl) (by kernel_rfl) rfl (V65.obl _ _) ((V65.vc_eq _ _ a _).symm ▸ h)
def V85.vc (B : Nat) (R : Value → World → Prop) (w : World) : Prop :=
 RunK Try.prog (V55.ext [.int .u64 9221120237041090561]) B w [] fun v a => 
 ∃ c : Nat, v = .float .f64 c ∧
 Ret B a (R (.float .f64 c))
noncomputable def V85.cfg (B : Nat) : Cfg := ⟨Try.prog, ⟨2, B⟩, [], hasN [], hasN [], look [(55, V55.ext)]⟩
noncomputable def V85.code : Code := (Try.f85.body).getD .skip
noncomputable def V85.cuts (B : Nat) (R : Value → World → Prop) : Nat → Cut := nthC []
noncomputable def V85.h : H := .s (.z) (.s (.z) (.z))
theorem V85.vc_eq (B : Nat) (R : Value → World → Prop)  (w : World) : wpf (V85.cfg B) (V85.cuts B R) V85.code V85.h [] (postOf Try.prog B (Try.f85.results.toList) R) (argE 0 []) [] w = V85.vc B R  w := by kernel_rfl
theorem V85.obl (B : Nat) (R : Value → World → Prop) : oblP (V85.cfg B) (V85.cuts B R) V85.code V85.h [] (postOf Try.prog B (Try.f85.results.toList) R) := by
 have e : oblP (V85.cfg B) (V85.cuts B R) V85.code V85.h [] (postOf Try.prog B (Try.f85.results.toList) R) = (True ∧ (True ∧ True)) := by kernel_rfl
 exact e.mpr (⟨trivial, ⟨trivial, trivial⟩⟩)
theorem V85.cfgOk (B : Nat) : CfgOk (V85.cfg B) := cfgOk_of (by kernel_rfl) (by kernel_rfl) (extCons V55.extOk extNil)
theorem V85.sound  {w : World} {R : Value → World → Prop} (h : V85.vc w.heap.size R  w) : Calls Try.prog 85 ⟨[]⟩ w fun e w' => ∃ v, e = .returned v ∧ R v w' :=
 calls_wpfP (c := V85.cfg w.heap.size) (fn := Try.f85) (x := V85.code) (V85.cuts w.heap.size R) V85.h (V85.cfgOk _) mixed Try.func85 (by kernel_rfl) (by kernel_rfl) (by kernel_rfl) rfl (V85.obl _ _) ((V85.vc_eq _ _  _).symm ▸ h)
def V86.vc (B : Nat) (R : Value → World → Prop) (a : Int) (w : World) : Prop :=
 if (decide (a ≥ 0)) = true
 then (RunK Try.prog (V55.ext [.int .u64 9218868437227405312]) B w [] fun v c => 
 ∃ d : Nat, v = .float .f64 d ∧
 Ret B c (R (.float .f64 d)))
 else (RunK Try.prog (V55.ext [.int .u64 18442240474082181120]) B w [] fun v c => 
 ∃ d : Nat, v = .float .f64 d ∧
 Ret B c (R (.float .f64 d)))
noncomputable def V86.cfg (B : Nat) : Cfg := ⟨Try.prog, ⟨8, B⟩, [], hasN [], hasN [], look [(55, V55.ext)]⟩
noncomputable def V86.code : Code := (Try.f86.body).getD .skip
noncomputable def V86.cuts (B : Nat) (R : Value → World → Prop) : Nat → Cut := nthC []
noncomputable def V86.h : H := .s (.z) (.s (.z) (.s (.s (.z) (.c (.z) (.z))) (.s (.z) (.z))))
theorem V86.vc_eq (B : Nat) (R : Value → World → Prop) (a : Int) (w : World) : wpf (V86.cfg B) (V86.cuts B R) V86.code V86.h [] (postOf Try.prog B (Try.f86.results.toList) R) (argE 0 [.int .i64 a]) [] w = V86.vc B R a w := by kernel_rfl
theorem V86.obl (B : Nat) (R : Value → World → Prop) : oblP (V86.cfg B) (V86.cuts B R) V86.code V86.h [] (postOf Try.prog B (Try.f86.results.toList) R) := by
 have e : oblP (V86.cfg B) (V86.cuts B R) V86.code V86.h [] (postOf Try.prog B (Try.f86.results.toList) R) = (True ∧ (True ∧ ((True ∧ (True ∧ True)) ∧ (True ∧ True)))) := by kernel_rfl
 exact e.mpr (⟨trivial, ⟨trivial, ⟨⟨trivial, ⟨trivial, trivial⟩⟩, ⟨trivial, trivial⟩⟩⟩⟩)
theorem V86.cfgOk (B : Nat) : CfgOk (V86.cfg B) := cfgOk_of (by kernel_rfl) (by kernel_rfl) (extCons V55.extOk extNil)
theorem V86.sound {a : Int} {w : World} {R : Value → World → Prop} (h : V86.vc w.heap.size R a w) : Calls Try.prog 86 ⟨[.int .i64 a]⟩ w fun e w' => ∃ v, e = .returned v ∧ R v w' :=
 calls_wpfP (c := V86.cfg w.heap.size) (fn := Try.f86) (x := V86.code) (V86.cuts w.heap.size R) V86.h (V86.cfgOk _) mixed Try.func86 (by kernel_rfl) (by kernel_rfl) (by kernel_rfl) rfl (V86.obl _ _) ((V86.vc_eq _ _ a _).symm ▸ h)
def V87.vc (B : Nat) (R : Value → World → Prop) (a c : Nat) (w : World) : Prop :=
 RunK Try.prog (V51.ext [.float .f64 a]) B w [] fun v d => 
 ∃ f : Int, v = .int .u64 f ∧
 RunK Try.prog (V51.ext [.float .f64 c]) B d [] fun g i => 
 ∃ j : Int, g = .int .u64 j ∧
 RunK Try.prog (V55.ext [.int .u64 (IntKind.wrap .u64 (((BitVec.ofInt 64 (IntKind.wrap .u64 (((BitVec.ofInt 64 f &&& ~~~ BitVec.ofInt 64 9223372036854775808).toNat : Nat) : Int)) ||| BitVec.ofInt 64 (IntKind.wrap .u64 (((BitVec.ofInt 64 j &&& BitVec.ofInt 64 9223372036854775808).toNat : Nat) : Int))).toNat : Nat) : Int))]) B i [] fun l m => 
 ∃ n : Nat, l = .float .f64 n ∧
 Ret B m (R (.float .f64 n))
noncomputable def V87.cfg (B : Nat) : Cfg := ⟨Try.prog, ⟨13, B⟩, [], hasN [], hasN [], look [(51, V51.ext), (55, V55.ext)]⟩
noncomputable def V87.code : Code := (Try.f87.body).getD .skip
noncomputable def V87.cuts (B : Nat) (R : Value → World → Prop) : Nat → Cut := nthC []
noncomputable def V87.h : H := .s (.z) (.s (.z) (.z))
theorem V87.vc_eq (B : Nat) (R : Value → World → Prop) (a c : Nat) (w : World) : wpf (V87.cfg B) (V87.cuts B R) V87.code V87.h [] (postOf Try.prog B (Try.f87.results.toList) R) (argE 0 [.float .f64 a, .float .f64 c]) [] w = V87.vc B R a c w := by kernel_rfl
theorem V87.obl (B : Nat) (R : Value → World → Prop) : oblP (V87.cfg B) (V87.cuts B R) V87.code V87.h [] (postOf Try.prog B (Try.f87.results.toList) R) := by
 have e : oblP (V87.cfg B) (V87.cuts B R) V87.code V87.h [] (postOf Try.prog B (Try.f87.results.toList) R) = (True ∧ (True ∧ True)) := by kernel_rfl
 exact e.mpr (⟨trivial, ⟨trivial, trivial⟩⟩)
theorem V87.cfgOk (B : Nat) : CfgOk (V87.cfg B) := cfgOk_of (by kernel_rfl) (by kernel_rfl) (extCons V51.extOk (extCons V55.extOk extNil))
theorem V87.sound {a d : Nat} {w : World} {R : Value → World → Prop} (h : V87.vc w.heap.size R a d w) : Calls Try.prog 87 ⟨[.float .f64 a, .float .f64 d]⟩ w fun e w' => ∃ v, e = .returned v ∧ R v w' :=
 calls_wpfP (c := V87.cfg w.heap.size) (fn := Try.f87) (x := V87.code) (V87.cuts w.heap.size R) V87.h (V87.cfgOk _) mixed Try.func87 (by kernel_rfl) (by kernel_rfl) (by kernel_rfl) rfl (V87.obl _ _) ((V87.vc_eq _ _ a d _).symm ▸ h)
end Go.Proofs.Ytidcpndlloppdaa
