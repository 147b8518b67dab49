import Derived.Test.YtidcpndlloppdaaGreatDoorZFF
import Derived.Test.YtidcpndlloppdaaGreatDoorZM17
import Derived.Test.YtidcpndlloppdaaGreatDoorZWH
/-
 What the engine makes of the loaded functions 36, 38, 87, 98, 62, 97, 64, 37, 39, 35, 65, 99, 130, 93, 122, 123, 112: conditions under which a call returns as told, and proofs of that.
 Conditions: none. Printed by a program of this project.
-/
set_option linter.unusedVariables false
set_option maxRecDepth 100000
namespace Go.Proofs.YtidcpndlloppdaaGreatDoor
def V36.vc (B : Nat) (R : Value → World → Prop) (a : Addr) (w : World) : Prop :=
 ∃ c : Bool, w.cell? (a.add 3) = some (.bool c) ∧
 Ret B w (R (.bool c))
noncomputable def V36.cfg (B : Nat) : Cfg := ⟨Tryz.prog, ⟨11, B⟩, [], hasN [], hasN [], look []⟩
noncomputable def V36.code : Code := (Tryz.f36.body).getD .skip
noncomputable def V36.cuts (B : Nat) (R : Value → World → Prop) : Nat → Cut := nthC []
noncomputable def V36.h : H := .s (.z) (.s (.z) (.z))
theorem V36.vc_eq (B : Nat) (R : Value → World → Prop) (a : Addr) (w : World) : wpf (V36.cfg B) (V36.cuts B R) V36.code V36.h [] (postOf Tryz.prog B (Tryz.f36.results.toList) R) (argE 0 [.pointer (some a)]) [] w = V36.vc B R a w := by kernel_rfl
theorem V36.obl (B : Nat) (R : Value → World → Prop) : oblP (V36.cfg B) (V36.cuts B R) V36.code V36.h [] (postOf Tryz.prog B (Tryz.f36.results.toList) R) := by
 have e : oblP (V36.cfg B) (V36.cuts B R) V36.code V36.h [] (postOf Tryz.prog B (Tryz.f36.results.toList) R) = (True ∧ (True ∧ True)) := by kernel_rfl
 exact e.mpr (⟨trivial, ⟨trivial, trivial⟩⟩)
theorem V36.cfgOk (B : Nat) : CfgOk (V36.cfg B) := cfgOk_of (by kernel_rfl) (by kernel_rfl) extNil
theorem V36.sound {a : Addr} {w : World} {R : Value → World → Prop} (h : V36.vc w.heap.size R a w) : Calls Tryz.prog 36 ⟨[.pointer (some a)]⟩ w fun e w' => ∃ v, e = .returned v ∧ R v w' :=
 calls_wpfP (c := V36.cfg w.heap.size) (fn := Tryz.f36) (x := V36.code) (V36.cuts w.heap.size R) V36.h (V36.cfgOk _) mixed Tryz.func36 (by kernel_rfl) (by kernel_rfl) (by kernel_rfl) rfl (V36.obl _ _) ((V36.vc_eq _ _ a _).symm ▸ h)
def V38.vc (B : Nat) (R : Value → World → Prop) (a : Addr) (w : World) : Prop :=
 (∃ u, w.cell? ((a.add 4).add 0) = some u) ∧ w.frozen? ((a.add 4).add 0) = false ∧
 let c := w.setCell ((a.add 4).add 0) (.bool false);
 Ret B c (R (.tuple ⟨[]⟩))
noncomputable def V38.cfg (B : Nat) : Cfg := ⟨Tryz.prog, ⟨7, B⟩, [], hasN [], hasN [], look []⟩
noncomputable def V38.code : Code := (Tryz.f38.body).getD .skip
noncomputable def V38.cuts (B : Nat) (R : Value → World → Prop) : Nat → Cut := nthC []
noncomputable def V38.h : H := .s (.z) (.c (.z) (.z))
theorem V38.vc_eq (B : Nat) (R : Value → World → Prop) (a : Addr) (w : World) : wpf (V38.cfg B) (V38.cuts B R) V38.code V38.h [] (postOf Tryz.prog B (Tryz.f38.results.toList) R) (argE 0 [.pointer (some a)]) [] w = V38.vc B R a w := by kernel_rfl
theorem V38.obl (B : Nat) (R : Value → World → Prop) : oblP (V38.cfg B) (V38.cuts B R) V38.code V38.h [] (postOf Tryz.prog B (Tryz.f38.results.toList) R) := by
 have e : oblP (V38.cfg B) (V38.cuts B R) V38.code V38.h [] (postOf Tryz.prog B (Tryz.f38.results.toList) R) = (True ∧ (True ∧ True)) := by kernel_rfl
 exact e.mpr (⟨trivial, ⟨trivial, trivial⟩⟩)
theorem V38.cfgOk (B : Nat) : CfgOk (V38.cfg B) := cfgOk_of (by kernel_rfl) (by kernel_rfl) extNil
theorem V38.sound {a : Addr} {w : World} {R : Value → World → Prop} (h : V38.vc w.heap.size R a w) : Calls Tryz.prog 38 ⟨[.pointer (some a)]⟩ w fun e w' => ∃ v, e = .returned v ∧ R v w' :=
 calls_wpfP (c := V38.cfg w.heap.size) (fn := Tryz.f38) (x := V38.code) (V38.cuts w.heap.size R) V38.h (V38.cfgOk _) mixed Tryz.func38 (by kernel_rfl) (by kernel_rfl) (by kernel_rfl) rfl (V38.obl _ _) ((V38.vc_eq _ _ a _).symm ▸ h)
def V87.vc (B : Nat) (R : Value → World → Prop) (a : Addr) (w : World) : Prop :=
 ∀ c : Nat, w.heap.size ≤ c →
 ∃ (d : Option Addr) (f g : Nat), w.cell? (a.add 6) = some (.slice d f g) ∧
 ∃ (i : Option Addr) (j l : Nat), w.cell? (a.add 6) = some (.slice i j l) ∧
 ∃ m : Addr, d = some m ∧ (0 : Int) ≤ IntKind.wrap .i64 ((j : Int) - 1) ∧ IntKind.wrap .i64 ((j : Int) - 1) < (f : Int) ∧
 ∃ n : Int, w.cell? ((m.add ((IntKind.wrap .i64 ((j : Int) - 1)).toNat * 8)).add 0) = some (.int .i64 n) ∧
 ∃ o : Int, w.cell? ((m.add ((IntKind.wrap .i64 ((j : Int) - 1)).toNat * 8)).add 1) = some (.int .i64 o) ∧
 ∃ p : Int, w.cell? ((m.add ((IntKind.wrap .i64 ((j : Int) - 1)).toNat * 8)).add 2) = some (.int .i64 p) ∧
 ∃ q : Bool, w.cell? ((m.add ((IntKind.wrap .i64 ((j : Int) - 1)).toNat * 8)).add 3) = some (.bool q) ∧
 ∃ r : Int, w.cell? ((m.add ((IntKind.wrap .i64 ((j : Int) - 1)).toNat * 8)).add 4) = some (.int .u64 r) ∧
 ∃ (s : Option Addr) (t u : Nat), w.cell? ((m.add ((IntKind.wrap .i64 ((j : Int) - 1)).toNat * 8)).add 5) = some (.slice s t u) ∧
 ∃ (x : Option Addr) (y z : Nat), w.cell? ((m.add ((IntKind.wrap .i64 ((j : Int) - 1)).toNat * 8)).add 6) = some (.slice x y z) ∧
 ∃ (A : Option Addr) (C D : Nat), w.cell? ((m.add ((IntKind.wrap .i64 ((j : Int) - 1)).toNat * 8)).add 7) = some (.slice A C D) ∧
 ∀ E : Nat, w.heap.size ≤ E → w.cell? ((m.add ((IntKind.wrap .i64 ((j : Int) - 1)).toNat * 8)).add 0) = some (.int .i64 n) ∧ w.cell? ((m.add ((IntKind.wrap .i64 ((j : Int) - 1)).toNat * 8)).add 1) = some (.int .i64 o) ∧ w.cell? ((m.add ((IntKind.wrap .i64 ((j : Int) - 1)).toNat * 8)).add 2) = some (.int .i64 p) ∧ w.cell? ((m.add ((IntKind.wrap .i64 ((j : Int) - 1)).toNat * 8)).add 3) = some (.bool q) ∧ w.cell? ((m.add ((IntKind.wrap .i64 ((j : Int) - 1)).toNat * 8)).add 4) = some (.int .u64 r) ∧ w.cell? ((m.add ((IntKind.wrap .i64 ((j : Int) - 1)).toNat * 8)).add 5) = some (.slice s t u) ∧ w.cell? ((m.add ((IntKind.wrap .i64 ((j : Int) - 1)).toNat * 8)).add 6) = some (.slice x y z) ∧ w.cell? ((m.add ((IntKind.wrap .i64 ((j : Int) - 1)).toNat * 8)).add 7) = some (.slice A C D) ∧ w.cell? (a.add 6) = some (.slice i j l) ∧ w.cell? (a.add 6) = some (.slice d f g) ∧
 ∃ (F : Option Addr) (G I : Nat), w.cell? ((a.add 0).add 0) = some (.slice F G I) ∧
 ∃ J : Addr, F = some J ∧ (0 : Int) ≤ n ∧ n < (G : Int) ∧
 ∃ (L : Option Addr) (M N : Nat), w.cell? ((J.add (n.toNat * 4)).add 3) = some (.slice L M N) ∧
 ∃ O : Addr, L = some O ∧ (0 : Int) ≤ o ∧ o < (M : Int) ∧
 ∃ P : Int, w.cell? ((O.add (o.toNat * 3)).add 0) = some (.int .i64 P) ∧
 ∃ Q : Int, w.cell? ((O.add (o.toNat * 3)).add 1) = some (.int .i64 Q) ∧
 ∃ S : Int, w.cell? ((O.add (o.toNat * 3)).add 2) = some (.int .i64 S) ∧
 Ret B w (R (.agg ⟨[.int .i64 P, .int .i64 Q, .int .i64 S]⟩))
noncomputable def V87.cfg (B : Nat) : Cfg := ⟨Tryz.prog, ⟨30, B⟩, [], hasN [], hasN [], look []⟩
noncomputable def V87.code : Code := (Tryz.f87.body).getD .skip
noncomputable def V87.cuts (B : Nat) (R : Value → World → Prop) : Nat → Cut := nthC []
noncomputable def V87.h : H := .s (.z) (.s (.r [[0, 1, 2, 3, 4, 5, 6, 7, 8, 9, 10, 11, 12, 13]]) (.s (.r [[0, 1, 2, 3, 4, 5, 6, 7, 8, 9, 10, 11, 12, 13, 14]]) (.z)))
theorem V87.vc_eq (B : Nat) (R : Value → World → Prop) (a : Addr) (w : World) : wpf (V87.cfg B) (V87.cuts B R) V87.code V87.h [] (postOf Tryz.prog B (Tryz.f87.results.toList) R) (argE 0 [.pointer (some a)]) [] w = V87.vc B R a w := by kernel_rfl
theorem V87.obl (B : Nat) (R : Value → World → Prop) : oblP (V87.cfg B) (V87.cuts B R) V87.code V87.h [] (postOf Tryz.prog B (Tryz.f87.results.toList) R) := by
 have e : oblP (V87.cfg B) (V87.cuts B R) V87.code V87.h [] (postOf Tryz.prog B (Tryz.f87.results.toList) R) = (True ∧ ((true = true) ∧ ((true = true) ∧ True))) := by kernel_rfl
 exact e.mpr (⟨trivial, ⟨rfl, ⟨rfl, trivial⟩⟩⟩)
theorem V87.cfgOk (B : Nat) : CfgOk (V87.cfg B) := cfgOk_of (by kernel_rfl) (by kernel_rfl) extNil
theorem V87.sound {a : Addr} {w : World} {R : Value → World → Prop} (h : V87.vc w.heap.size R a w) : Calls Tryz.prog 87 ⟨[.pointer (some a)]⟩ w fun e w' => ∃ v, e = .returned v ∧ R v w' :=
 calls_wpfP (c := V87.cfg w.heap.size) (fn := Tryz.f87) (x := V87.code) (V87.cuts w.heap.size R) V87.h (V87.cfgOk _) mixed Tryz.func87 (by kernel_rfl) (by kernel_rfl) (by kernel_rfl) rfl (V87.obl _ _) ((V87.vc_eq _ _ a _).symm ▸ h)
def V98.vc (B : Nat) (R : Value → World → Prop) (a : Addr) (c d : Int) (w : World) : Prop :=
 ∃ (f : Option Addr) (g i : Nat), w.cell? (a.add 7) = some (.slice f g i) ∧
 Expo B w [] fun j => 
 let l := j.alloc (.cells ⟨[.int .i64 c, .int .u64 d]⟩ 41);
 RunK Tryz.prog (Builtin.append_ #[27, 27] 27 ⟨[.slice f g i, .slice (some ⟨j.heap.size, 0, none⟩) 1 1]⟩) B l [] fun v m => 
 ∃ (n : Option Addr) (o p : Nat), v = .slice n o p ∧
 (∃ u, m.cell? ((a.add 7).add 0) = some u) ∧ m.frozen? ((a.add 7).add 0) = false ∧
 let q := m.setCell ((a.add 7).add 0) (.slice n o p);
 Ret B q (R (.tuple ⟨[]⟩))
noncomputable def V98.cfg (B : Nat) : Cfg := ⟨Tryz.prog, ⟨18, B⟩, [], hasN [], hasN [], look []⟩
noncomputable def V98.code : Code := (Tryz.f98.body).getD .skip
noncomputable def V98.cuts (B : Nat) (R : Value → World → Prop) : Nat → Cut := nthC []
noncomputable def V98.h : H := .z
theorem V98.vc_eq (B : Nat) (R : Value → World → Prop) (a : Addr) (c d : Int) (w : World) : wpf (V98.cfg B) (V98.cuts B R) V98.code V98.h [] (postOf Tryz.prog B (Tryz.f98.results.toList) R) (argE 0 [.pointer (some a), .int .i64 c, .int .u64 d]) [] w = V98.vc B R a c d w := by kernel_rfl
theorem V98.obl (B : Nat) (R : Value → World → Prop) : oblP (V98.cfg B) (V98.cuts B R) V98.code V98.h [] (postOf Tryz.prog B (Tryz.f98.results.toList) R) := by
 have e : oblP (V98.cfg B) (V98.cuts B R) V98.code V98.h [] (postOf Tryz.prog B (Tryz.f98.results.toList) R) = True := by kernel_rfl
 exact e.mpr (trivial)
theorem V98.cfgOk (B : Nat) : CfgOk (V98.cfg B) := cfgOk_of (by kernel_rfl) (by kernel_rfl) extNil
theorem V98.sound {a : Addr} {d f : Int} {w : World} {R : Value → World → Prop} (h : V98.vc w.heap.size R a d f w) : Calls Tryz.prog 98 ⟨[.pointer (some a), .int .i64 d, .int .u64 f]⟩ w fun e w' => ∃ v, e = .returned v ∧ R v w' :=
 calls_wpfP (c := V98.cfg w.heap.size) (fn := Tryz.f98) (x := V98.code) (V98.cuts w.heap.size R) V98.h (V98.cfgOk _) mixed Tryz.func98 (by kernel_rfl) (by kernel_rfl) (by kernel_rfl) rfl (V98.obl _ _) ((V98.vc_eq _ _ a d f _).symm ▸ h)
def V62.vc (B : Nat) (R : Value → World → Prop) (a : Addr) (c : Int) (d : Option Addr) (f g : Nat) (i : Bool) (w : World) : Prop :=
 ∃ (j : Option Addr) (l m : Nat), w.cell? ((a.add 0).add 0) = some (.slice j l m) ∧
 ∃ n : Addr, j = some n ∧ (0 : Int) ≤ c ∧ c < (l : Int) ∧
 ∃ o : Int, w.cell? ((n.add (c.toNat * 4)).add 1) = some (.int .i64 o) ∧
 RunK Tryz.prog (Instr.makeSlice 88 (.int .i64 o) (.int .i64 o)) B w [] fun v p => 
 ∃ (q : Option Addr) (r s : Nat), v = .slice q r s ∧
 RunK Tryz.prog (Builtin.copy_ #[88, 88] 3 ⟨[.slice q r s, .slice d f g]⟩) B p [] fun t x => 
 ∃ y : Int, t = .int .i64 y ∧
 ∃ (z : Option Addr) (A C : Nat), x.cell? (a.add 6) = some (.slice z A C) ∧
 Expo B x [] fun D => 
 let E := D.alloc (.cells ⟨[.int .i64 c, .int .i64 0, .int .i64 0, .bool i, .int .u64 0, .slice none 0 0, .slice q r s, .slice none 0 0]⟩ 90);
 RunK Tryz.prog (Builtin.append_ #[52, 52] 52 ⟨[.slice z A C, .slice (some ⟨D.heap.size, 0, none⟩) 1 1]⟩) B E [] fun F G => 
 ∃ (I : Option Addr) (J L : Nat), F = .slice I J L ∧
 (∃ u, G.cell? ((a.add 6).add 0) = some u) ∧ G.frozen? ((a.add 6).add 0) = false ∧
 let M := G.setCell ((a.add 6).add 0) (.slice I J L);
 Ret B M (R (.tuple ⟨[]⟩))
noncomputable def V62.cfg (B : Nat) : Cfg := ⟨Tryz.prog, ⟨35, B⟩, [], hasN [], hasN [], look []⟩
noncomputable def V62.code : Code := (Tryz.f62.body).getD .skip
noncomputable def V62.cuts (B : Nat) (R : Value → World → Prop) : Nat → Cut := nthC []
noncomputable def V62.h : H := .s (.z) (.s (.z) (.z))
theorem V62.vc_eq (B : Nat) (R : Value → World → Prop) (a : Addr) (c : Int) (d : Option Addr) (f g : Nat) (i : Bool) (w : World) : wpf (V62.cfg B) (V62.cuts B R) V62.code V62.h [] (postOf Tryz.prog B (Tryz.f62.results.toList) R) (argE 0 [.pointer (some a), .int .i64 c, .slice d f g, .bool i]) [] w = V62.vc B R a c d f g i w := by kernel_rfl
theorem V62.obl (B : Nat) (R : Value → World → Prop) : oblP (V62.cfg B) (V62.cuts B R) V62.code V62.h [] (postOf Tryz.prog B (Tryz.f62.results.toList) R) := by
 have e : oblP (V62.cfg B) (V62.cuts B R) V62.code V62.h [] (postOf Tryz.prog B (Tryz.f62.results.toList) R) = (True ∧ (True ∧ True)) := by kernel_rfl
 exact e.mpr (⟨trivial, ⟨trivial, trivial⟩⟩)
theorem V62.cfgOk (B : Nat) : CfgOk (V62.cfg B) := cfgOk_of (by kernel_rfl) (by kernel_rfl) extNil
theorem V62.sound {a : Addr} {d : Int} {f : Option Addr} {g i : Nat} {j : Bool} {w : World} {R : Value → World → Prop} (h : V62.vc w.heap.size R a d f g i j w) : Calls Tryz.prog 62 ⟨[.pointer (some a), .int .i64 d, .slice f g i, .bool j]⟩ w fun e w' => ∃ v, e = .returned v ∧ R v w' :=
 calls_wpfP (c := V62.cfg w.heap.size) (fn := Tryz.f62) (x := V62.code) (V62.cuts w.heap.size R) V62.h (V62.cfgOk _) mixed Tryz.func62 (by kernel_rfl) (by kernel_rfl) (by kernel_rfl) rfl (V62.obl _ _) ((V62.vc_eq _ _ a d f g i j _).symm ▸ h)
def V97.vc (B : Nat) (R : Value → World → Prop) (a : Addr) (w : World) : Prop :=
 ∃ (c : Option Addr) (d f : Nat), w.cell? (a.add 6) = some (.slice c d f) ∧
 ∃ (g : Option Addr) (i j : Nat), w.cell? (a.add 6) = some (.slice g i j) ∧
 ∃ l : Addr, g = some l ∧ (0 : Int) ≤ IntKind.wrap .i64 ((d : Int) - 1) ∧ IntKind.wrap .i64 ((d : Int) - 1) < (i : Int) ∧
 ∃ m : Bool, w.cell? ((l.add ((IntKind.wrap .i64 ((d : Int) - 1)).toNat * 8)).add 3) = some (.bool m) ∧
 if (!m) = false
 then (∃ (n : Option Addr) (o p : Nat), w.cell? (a.add 6) = some (.slice n o p) ∧
 ∃ q : Addr, n = some q ∧ (0 : Int) ≤ IntKind.wrap .i64 ((d : Int) - 2) ∧ IntKind.wrap .i64 ((d : Int) - 2) < (o : Int) ∧
 ∃ r : Int, w.cell? ((q.add ((IntKind.wrap .i64 ((d : Int) - 2)).toNat * 8)).add 2) = some (.int .i64 r) ∧
 if (r != 2) = true
 then (CallK Tryz.prog 19 [.int .i64 0] B w [] fun v s => 
 ∃ t : Int, v = .int .u64 t ∧
 CallK Tryz.prog 19 [.int .i64 0] B s [] fun x y => 
 ∃ z : Int, x = .int .u64 z ∧
 Expo B y [] fun A => 
 let C := A.alloc (.cells ⟨[.int .u64 t, .int .u64 z]⟩ 39);
 Ret B C (R (.slice (some ⟨A.heap.size, 0, none⟩) 2 2)))
 else (∃ (D : Option Addr) (E F : Nat), w.cell? (a.add 6) = some (.slice D E F) ∧
 ∃ G : Addr, D = some G ∧ (0 : Int) ≤ IntKind.wrap .i64 ((d : Int) - 2) ∧ IntKind.wrap .i64 ((d : Int) - 2) < (E : Int) ∧
 ∃ I : Int, w.cell? ((G.add ((IntKind.wrap .i64 ((d : Int) - 2)).toNat * 8)).add 4) = some (.int .u64 I) ∧
 CallK Tryz.prog 98 [.pointer (some a), .int .i64 2, .int .u64 I] B w [] fun v s => 
 v = .tuple ⟨[]⟩ ∧
 CallK Tryz.prog 19 [.int .i64 0] B s [] fun x y => 
 ∃ J : Int, x = .int .u64 J ∧
 (∃ u, y.cell? (((G.add ((IntKind.wrap .i64 ((d : Int) - 2)).toNat * 8)).add 2).add 0) = some u) ∧ y.frozen? (((G.add ((IntKind.wrap .i64 ((d : Int) - 2)).toNat * 8)).add 2).add 0) = false ∧
 let A := y.setCell (((G.add ((IntKind.wrap .i64 ((d : Int) - 2)).toNat * 8)).add 2).add 0) (.int .i64 1);
 (∃ u_1, A.cell? (((G.add ((IntKind.wrap .i64 ((d : Int) - 2)).toNat * 8)).add 4).add 0) = some u_1) ∧ A.frozen? (((G.add ((IntKind.wrap .i64 ((d : Int) - 2)).toNat * 8)).add 4).add 0) = false ∧
 let C := A.setCell (((G.add ((IntKind.wrap .i64 ((d : Int) - 2)).toNat * 8)).add 4).add 0) (.int .u64 J);
 CallK Tryz.prog 19 [.int .i64 1] B C [] fun L M => 
 ∃ N : Int, L = .int .u64 N ∧
 Expo B M [] fun O => 
 let P := O.alloc (.cells ⟨[.int .u64 I, .int .u64 N]⟩ 39);
 Ret B P (R (.slice (some ⟨O.heap.size, 0, none⟩) 2 2))))
 else (CallK Tryz.prog 19 [.int .i64 0] B w [] fun v s => 
 ∃ t : Int, v = .int .u64 t ∧
 CallK Tryz.prog 19 [.int .i64 0] B s [] fun x y => 
 ∃ z : Int, x = .int .u64 z ∧
 Expo B y [] fun A => 
 let C := A.alloc (.cells ⟨[.int .u64 t, .int .u64 z]⟩ 39);
 Ret B C (R (.slice (some ⟨A.heap.size, 0, none⟩) 2 2)))
noncomputable def V97.cfg (B : Nat) : Cfg := ⟨Tryz.prog, ⟨60, B⟩, [], hasN [19, 98], hasN [], look []⟩
noncomputable def V97.code : Code := (Tryz.f97.body).getD .skip
noncomputable def V97.cuts (B : Nat) (R : Value → World → Prop) : Nat → Cut := nthC []
noncomputable def V97.h : H := .s (.z) (.s (.z) (.s (.s (.z) (.c (.s (.z) (.z)) (.z))) (.s (.z) (.s (.z) (.s (.z) (.s (.z) (.s (.z) (.z))))))))
theorem V97.vc_eq (B : Nat) (R : Value → World → Prop) (a : Addr) (w : World) : wpf (V97.cfg B) (V97.cuts B R) V97.code V97.h [] (postOf Tryz.prog B (Tryz.f97.results.toList) R) (argE 0 [.pointer (some a)]) [] w = V97.vc B R a w := by kernel_rfl
theorem V97.obl (B : Nat) (R : Value → World → Prop) : oblP (V97.cfg B) (V97.cuts B R) V97.code V97.h [] (postOf Tryz.prog B (Tryz.f97.results.toList) R) := by
 have e : oblP (V97.cfg B) (V97.cuts B R) V97.code V97.h [] (postOf Tryz.prog B (Tryz.f97.results.toList) R) = (True ∧ (True ∧ ((True ∧ ((True ∧ True) ∧ True)) ∧ (True ∧ (True ∧ (True ∧ (True ∧ (True ∧ True)))))))) := by kernel_rfl
 exact e.mpr (⟨trivial, ⟨trivial, ⟨⟨trivial, ⟨⟨trivial, trivial⟩, trivial⟩⟩, ⟨trivial, ⟨trivial, ⟨trivial, ⟨trivial, ⟨trivial, trivial⟩⟩⟩⟩⟩⟩⟩⟩)
theorem V97.cfgOk (B : Nat) : CfgOk (V97.cfg B) := cfgOk_of (by kernel_rfl) (by kernel_rfl) extNil
theorem V97.sound {a : Addr} {w : World} {R : Value → World → Prop} (h : V97.vc w.heap.size R a w) : Calls Tryz.prog 97 ⟨[.pointer (some a)]⟩ w fun e w' => ∃ v, e = .returned v ∧ R v w' :=
 calls_wpfP (c := V97.cfg w.heap.size) (fn := Tryz.f97) (x := V97.code) (V97.cuts w.heap.size R) V97.h (V97.cfgOk _) mixed Tryz.func97 (by kernel_rfl) (by kernel_rfl) (by kernel_rfl) rfl (V97.obl _ _) ((V97.vc_eq _ _ a _).symm ▸ h)
def V64.b0 (B : Nat) (R : Value → World → Prop) (a : Addr) (c : Int) (d f : Bool) (g : Nat) (i j l : Int) (m : Bool) (n : Int) (o : Option Addr) (p q : Nat) (r : Option Addr) (s t : Nat) (x : Option Addr) (y z : Nat) (w : World) : Prop :=
 if f = true
 then ((∃ u, w.cell? ((a.add 3).add 0) = some u) ∧ w.frozen? ((a.add 3).add 0) = false ∧
 let A := w.setCell ((a.add 3).add 0) (.bool true);
 CallK Tryz.prog 98 [.pointer (some a), .int .i64 4, .int .u64 n] B A [g] fun v C => 
 v = .tuple ⟨[]⟩ ∧
 Ret B C (R (.tuple ⟨[]⟩)))
 else (if (c == 1) = true
 then ((∃ u, w.cell? ((a.add 3).add 0) = some u) ∧ w.frozen? ((a.add 3).add 0) = false ∧
 let A := w.setCell ((a.add 3).add 0) (.bool true);
 CallK Tryz.prog 98 [.pointer (some a), .int .i64 3, .int .u64 n] B A [g] fun v C => 
 v = .tuple ⟨[]⟩ ∧
 Ret B C (R (.tuple ⟨[]⟩)))
 else (if d = true
 then (∃ (D : Option Addr) (E F : Nat), w.cell? (a.add 6) = some (.slice D E F) ∧
 ∃ (G : Option Addr) (I J : Nat), w.cell? (a.add 6) = some (.slice G I J) ∧
 ∃ L : Addr, D = some L ∧ (0 : Int) ≤ IntKind.wrap .i64 (c - 2) ∧ IntKind.wrap .i64 (c - 2) < (E : Int) ∧
 (∃ u, w.cell? (((L.add ((IntKind.wrap .i64 (c - 2)).toNat * 8)).add 2).add 0) = some u) ∧ w.frozen? (((L.add ((IntKind.wrap .i64 (c - 2)).toNat * 8)).add 2).add 0) = false ∧
 let A := w.setCell (((L.add ((IntKind.wrap .i64 (c - 2)).toNat * 8)).add 2).add 0) (.int .i64 2);
 ∃ M : Addr, G = some M ∧ (0 : Int) ≤ IntKind.wrap .i64 (c - 2) ∧ IntKind.wrap .i64 (c - 2) < (I : Int) ∧
 (∃ u_1, A.cell? (((M.add ((IntKind.wrap .i64 (c - 2)).toNat * 8)).add 4).add 0) = some u_1) ∧ A.frozen? (((M.add ((IntKind.wrap .i64 (c - 2)).toNat * 8)).add 4).add 0) = false ∧
 let C := A.setCell (((M.add ((IntKind.wrap .i64 (c - 2)).toNat * 8)).add 4).add 0) (.int .u64 n);
 Ret B C (R (.tuple ⟨[]⟩)))
 else (if (!m) = true
 then (∃ (N : Option Addr) (O P : Nat), w.cell? (a.add 6) = some (.slice N O P) ∧
 ∃ (Q : Option Addr) (S T : Nat), w.cell? (a.add 6) = some (.slice Q S T) ∧
 ∃ U : Addr, Q = some U ∧ (0 : Int) ≤ IntKind.wrap .i64 (c - 2) ∧ IntKind.wrap .i64 (c - 2) < (S : Int) ∧
 ∃ (W : Option Addr) (X Y : Nat), w.cell? ((U.add ((IntKind.wrap .i64 (c - 2)).toNat * 8)).add 7) = some (.slice W X Y) ∧
 Expo B w [g] fun A => 
 Hide [g] (A.alloc (.cells ⟨[.int .u64 n]⟩ 39)) fun C => 
 C.cell? ((U.add ((IntKind.wrap .i64 (c - 2)).toNat * 8)).add 7) = some (.slice W X Y) ∧ C.cell? (a.add 6) = some (.slice Q S T) ∧ C.cell? (a.add 6) = some (.slice N O P) ∧
 RunK Tryz.prog (Builtin.append_ #[88, 88] 88 ⟨[.slice W X Y, .slice (some ⟨A.heap.size, 0, none⟩) 1 1]⟩) B C [g] fun v Z => 
 ∃ (a0 : Option Addr) (a1 a2 : Nat), v = .slice a0 a1 a2 ∧ Z.cell? (a.add 6) = some (.slice N O P) ∧
 ∃ a3 : Addr, N = some a3 ∧ (0 : Int) ≤ IntKind.wrap .i64 (c - 2) ∧ IntKind.wrap .i64 (c - 2) < (O : Int) ∧
 (∃ u, Z.cell? (((a3.add ((IntKind.wrap .i64 (c - 2)).toNat * 8)).add 7).add 0) = some u) ∧ Z.frozen? (((a3.add ((IntKind.wrap .i64 (c - 2)).toNat * 8)).add 7).add 0) = false ∧
 let a4 := Z.setCell (((a3.add ((IntKind.wrap .i64 (c - 2)).toNat * 8)).add 7).add 0) (.slice a0 a1 a2);
 Ret B a4 (R (.tuple ⟨[]⟩)))
 else (Ret B w (R (.tuple ⟨[]⟩))))))
def V64.vc (B : Nat) (R : Value → World → Prop) (c : Addr) (w : World) : Prop :=
 ∃ (d : Option Addr) (f g : Nat), w.cell? (c.add 6) = some (.slice d f g) ∧
 ∃ (i : Option Addr) (j l : Nat), w.cell? (c.add 6) = some (.slice i j l) ∧
 ∃ m : Addr, i = some m ∧ (0 : Int) ≤ IntKind.wrap .i64 ((f : Int) - 1) ∧ IntKind.wrap .i64 ((f : Int) - 1) < (j : Int) ∧
 ∃ (n : Option Addr) (o p : Nat), w.cell? ((m.add ((IntKind.wrap .i64 ((f : Int) - 1)).toNat * 8)).add 5) = some (.slice n o p) ∧
 if (decide ((o : Int) > 0)) = true
 then (∃ (q : Option Addr) (r s : Nat), w.cell? ((m.add ((IntKind.wrap .i64 ((f : Int) - 1)).toNat * 8)).add 5) = some (.slice q r s) ∧
 ∃ t : Addr, q = some t ∧ (0 : Int) ≤ IntKind.wrap .i64 ((o : Int) - 1) ∧ IntKind.wrap .i64 ((o : Int) - 1) < (r : Int) ∧
 ∃ x : Int, w.cell? ((t.add ((IntKind.wrap .i64 ((o : Int) - 1)).toNat * 2)).add 0) = some (.int .i64 x) ∧
 ∃ (y : Option Addr) (z A : Nat), w.cell? ((t.add ((IntKind.wrap .i64 ((o : Int) - 1)).toNat * 2)).add 1) = some (.slice y z A) ∧
 ∀ C : Nat, w.heap.size ≤ C →
 ∃ (D : Option Addr) (E F : Nat), w.cell? ((m.add ((IntKind.wrap .i64 ((f : Int) - 1)).toNat * 8)).add 5) = some (.slice D E F) ∧ (0 : Int) ≤ IntKind.wrap .i64 ((o : Int) - 1) ∧ IntKind.wrap .i64 ((o : Int) - 1) ≤ (F : Int) ∧
 (∃ u, w.cell? (((m.add ((IntKind.wrap .i64 ((f : Int) - 1)).toNat * 8)).add 5).add 0) = some u) ∧ w.frozen? (((m.add ((IntKind.wrap .i64 ((f : Int) - 1)).toNat * 8)).add 5).add 0) = false ∧
 let G := w.setCell (((m.add ((IntKind.wrap .i64 ((f : Int) - 1)).toNat * 8)).add 5).add 0) (.slice (if F = 0 then D else Option.map (fun a => a.add (0 * 2)) D) (((IntKind.wrap .i64 ((o : Int) - 1)).toNat) - 0) (F - 0));
 CallK Tryz.prog 62 [.pointer (some c), .int .i64 x, .slice y z A, .bool true] B G [C] fun v I => 
 v = .tuple ⟨[]⟩ ∧
 Ret B I (R (.tuple ⟨[]⟩)))
 else (∃ J : Int, w.cell? ((m.add ((IntKind.wrap .i64 ((f : Int) - 1)).toNat * 8)).add 0) = some (.int .i64 J) ∧
 ∃ L : Int, w.cell? ((m.add ((IntKind.wrap .i64 ((f : Int) - 1)).toNat * 8)).add 1) = some (.int .i64 L) ∧
 ∃ M : Int, w.cell? ((m.add ((IntKind.wrap .i64 ((f : Int) - 1)).toNat * 8)).add 2) = some (.int .i64 M) ∧
 ∃ N : Bool, w.cell? ((m.add ((IntKind.wrap .i64 ((f : Int) - 1)).toNat * 8)).add 3) = some (.bool N) ∧
 ∃ O : Int, w.cell? ((m.add ((IntKind.wrap .i64 ((f : Int) - 1)).toNat * 8)).add 4) = some (.int .u64 O) ∧
 ∃ (P : Option Addr) (Q S : Nat), w.cell? ((m.add ((IntKind.wrap .i64 ((f : Int) - 1)).toNat * 8)).add 5) = some (.slice P Q S) ∧
 ∃ (T : Option Addr) (U W : Nat), w.cell? ((m.add ((IntKind.wrap .i64 ((f : Int) - 1)).toNat * 8)).add 6) = some (.slice T U W) ∧
 ∃ (X : Option Addr) (Y Z : Nat), w.cell? ((m.add ((IntKind.wrap .i64 ((f : Int) - 1)).toNat * 8)).add 7) = some (.slice X Y Z) ∧
 ∀ q6 : Nat, w.heap.size ≤ q6 →
 ∃ (a1 : Option Addr) (a2 a3 : Nat), w.cell? (c.add 6) = some (.slice a1 a2 a3) ∧ (0 : Int) ≤ IntKind.wrap .i64 ((f : Int) - 1) ∧ IntKind.wrap .i64 ((f : Int) - 1) ≤ (a3 : Int) ∧
 (∃ u, w.cell? ((c.add 6).add 0) = some u) ∧ w.frozen? ((c.add 6).add 0) = false ∧
 let G := w.setCell ((c.add 6).add 0) (.slice (if a3 = 0 then a1 else Option.map (fun a => a.add (0 * 8)) a1) (((IntKind.wrap .i64 ((f : Int) - 1)).toNat) - 0) (a3 - 0));
 if ((f : Int) == 1) = true
 then (V64.b0 B R c (f : Int) (M == 2) (M == 2) q6 J L M N O P Q S T U W X Y Z G)
 else (V64.b0 B R c (f : Int) (M == 2) false q6 J L M N O P Q S T U W X Y Z G))
noncomputable def V64.cfg (B : Nat) : Cfg := ⟨Tryz.prog, ⟨135, B⟩, [], hasN [62, 98], hasN [], look []⟩
noncomputable def V64.code : Code := (Tryz.f64.body).getD .skip
noncomputable def V64.cuts (B : Nat) (R : Value → World → Prop) : Nat → Cut := nthC [⟨[(0, .one (.ptr)), (2, .one (.int .i64)), (7, .one (.bool)), (67, .one (.bool))], [(6, 90, [.int .i64, .int .i64, .int .i64, .bool, .int .u64, .slice, .slice, .slice])], fun fs vs bs w => V64.b0 B R (pV (nthV vs 0)) (iV (nthV vs 1)) (bV (nthV vs 2)) (bV (nthV vs 3)) (nthB bs 0).blk (iV (nthV (nthB bs 0).cells 0)) (iV (nthV (nthB bs 0).cells 1)) (iV (nthV (nthB bs 0).cells 2)) (bV (nthV (nthB bs 0).cells 3)) (iV (nthV (nthB bs 0).cells 4)) (slA (nthV (nthB bs 0).cells 5)) (slL (nthV (nthB bs 0).cells 5)) (slC (nthV (nthB bs 0).cells 5)) (slA (nthV (nthB bs 0).cells 6)) (slL (nthV (nthB bs 0).cells 6)) (slC (nthV (nthB bs 0).cells 6)) (slA (nthV (nthB bs 0).cells 7)) (slL (nthV (nthB bs 0).cells 7)) (slC (nthV (nthB bs 0).cells 7)) w⟩]
noncomputable def V64.h : H := .s (.z) (.s (.z) (.s (.s (.z) (.s (.z) (.c (.s (.z) (.s (.z) (.s (.z) (.z)))) (.z)))) (.s (.z) (.s (.z) (.s (.z) (.b (.cut 0 (.z) (.c (.s (.z) (.z)) (.s (.z) (.c (.s (.z) (.z)) (.s (.z) (.c (.r [[0, 1, 2, 3, 4, 5, 6, 7, 8, 9, 10, 11, 12, 13, 14, 15, 16, 17, 18, 19]]) (.s (.z) (.c (.r [[0, 1, 2, 3, 4, 5, 6, 7, 8, 9, 10, 11, 12, 13, 14, 15, 16, 17, 18, 19, 20, 21]]) (.z)))))))))))))))
theorem V64.vc_eq (B : Nat) (R : Value → World → Prop) (a : Addr) (w : World) : wpf (V64.cfg B) (V64.cuts B R) V64.code V64.h [] (postOf Tryz.prog B (Tryz.f64.results.toList) R) (argE 0 [.pointer (some a)]) [] w = V64.vc B R a w := by kernel_rfl
theorem V64.obl (B : Nat) (R : Value → World → Prop) : oblP (V64.cfg B) (V64.cuts B R) V64.code V64.h [] (postOf Tryz.prog B (Tryz.f64.results.toList) R) := by
 have e : oblP (V64.cfg B) (V64.cuts B R) V64.code V64.h [] (postOf Tryz.prog B (Tryz.f64.results.toList) R) = (True ∧ (True ∧ ((True ∧ (True ∧ ((True ∧ (True ∧ (True ∧ True))) ∧ True))) ∧ (True ∧ (True ∧ (True ∧ (True ∧ (∀ (a : Addr) (c : Int) (d f : Bool) (g : Nat) (i j l : Int) (m : Bool) (n : Int) (o : Option Addr) (p q : Nat) (r : Option Addr) (s t : Nat) (u : Option Addr) (x y : Nat) (w : World), V64.b0 B R a c d f g i j l m n o p q r s t u x y w → V64.b0 B R a c d f g i j l m n o p q r s t u x y w) ∧ ((True ∧ True) ∧ (True ∧ ((True ∧ True) ∧ (True ∧ ((true = true) ∧ (True ∧ ((true = true) ∧ True)))))))))))))) := by kernel_rfl
 exact e.mpr (⟨trivial, ⟨trivial, ⟨⟨trivial, ⟨trivial, ⟨⟨trivial, ⟨trivial, ⟨trivial, trivial⟩⟩⟩, trivial⟩⟩⟩, ⟨trivial, ⟨trivial, ⟨trivial, ⟨trivial, fun a c d f g i j l m n o p q r s t u x y w h => h, ⟨⟨trivial, trivial⟩, ⟨trivial, ⟨⟨trivial, trivial⟩, ⟨trivial, ⟨rfl, ⟨trivial, ⟨rfl, trivial⟩⟩⟩⟩⟩⟩⟩⟩⟩⟩⟩⟩⟩⟩)
theorem V64.cfgOk (B : Nat) : CfgOk (V64.cfg B) := cfgOk_of (by kernel_rfl) (by kernel_rfl) extNil
theorem V64.sound {a : Addr} {w : World} {R : Value → World → Prop} (h : V64.vc w.heap.size R a w) : Calls Tryz.prog 64 ⟨[.pointer (some a)]⟩ w fun e w' => ∃ v, e = .returned v ∧ R v w' :=
 calls_wpfP (c := V64.cfg w.heap.size) (fn := Tryz.f64) (x := V64.code) (V64.cuts w.heap.size R) V64.h (V64.cfgOk _) mixed Tryz.func64 (by kernel_rfl) (by kernel_rfl) (by kernel_rfl) rfl (V64.obl _ _) ((V64.vc_eq _ _ a _).symm ▸ h)
def V37.vc (B : Nat) (R : Value → World → Prop) (a : Addr) (w : World) : Prop :=
 ∃ c : Bool, w.cell? (a.add 3) = some (.bool c) ∧
 if c = true
 then (Ret B w (R (.int .i64 7)))
 else (∃ d : Bool, w.cell? (a.add 4) = some (.bool d) ∧
 if d = true
 then (Ret B w (R (.int .i64 8)))
 else (∃ f : Bool, w.cell? (a.add 2) = some (.bool f) ∧
 if (!f) = true
 then ((∃ u, w.cell? ((a.add 2).add 0) = some u) ∧ w.frozen? ((a.add 2).add 0) = false ∧
 let g := w.setCell ((a.add 2).add 0) (.bool true);
 ∃ i : Int, g.cell? (a.add 1) = some (.int .i64 i) ∧
 CallK Tryz.prog 62 [.pointer (some a), .int .i64 i, .slice none 0 0, .bool false] B g [] fun v j => 
 v = .tuple ⟨[]⟩ ∧
 Ret B j (R (.int .i64 0)))
 else (∃ (l : Option Addr) (m n : Nat), w.cell? (a.add 6) = some (.slice l m n) ∧
 ∃ (o : Option Addr) (p q : Nat), w.cell? (a.add 6) = some (.slice o p q) ∧
 ∃ r : Addr, l = some r ∧ (0 : Int) ≤ IntKind.wrap .i64 ((p : Int) - 1) ∧ IntKind.wrap .i64 ((p : Int) - 1) < (m : Int) ∧
 ∃ s : Int, w.cell? ((r.add ((IntKind.wrap .i64 ((p : Int) - 1)).toNat * 8)).add 2) = some (.int .i64 s) ∧
 if (s == 0) = true
 then (CallK Tryz.prog 63 [.pointer (some a)] B w [] fun v g => 
 v = .tuple ⟨[]⟩ ∧
 Ret B g (R (.int .i64 0)))
 else (CallK Tryz.prog 64 [.pointer (some a)] B w [] fun v g => 
 v = .tuple ⟨[]⟩ ∧
 Ret B g (R (.int .i64 0))))))
noncomputable def V37.cfg (B : Nat) : Cfg := ⟨Tryz.prog, ⟨50, B⟩, [], hasN [62, 63, 64], hasN [], look []⟩
noncomputable def V37.code : Code := (Tryz.f37.body).getD .skip
noncomputable def V37.cuts (B : Nat) (R : Value → World → Prop) : Nat → Cut := nthC []
noncomputable def V37.h : H := .s (.z) (.s (.b (.s (.z) (.c (.s (.z) (.z)) (.s (.z) (.c (.s (.z) (.z)) (.s (.z) (.c (.s (.z) (.z)) (.s (.z) (.c (.s (.z) (.z)) (.s (.r [[0, 1, 2, 3, 4, 5, 6, 7, 8, 9, 10, 11, 12, 13, 14]]) (.c (.z) (.z)))))))))))) (.s (.z) (.z)))
theorem V37.vc_eq (B : Nat) (R : Value → World → Prop) (a : Addr) (w : World) : wpf (V37.cfg B) (V37.cuts B R) V37.code V37.h [] (postOf Tryz.prog B (Tryz.f37.results.toList) R) (argE 0 [.pointer (some a)]) [] w = V37.vc B R a w := by kernel_rfl
theorem V37.obl (B : Nat) (R : Value → World → Prop) : oblP (V37.cfg B) (V37.cuts B R) V37.code V37.h [] (postOf Tryz.prog B (Tryz.f37.results.toList) R) := by
 have e : oblP (V37.cfg B) (V37.cuts B R) V37.code V37.h [] (postOf Tryz.prog B (Tryz.f37.results.toList) R) = (True ∧ ((True ∧ ((True ∧ True) ∧ (True ∧ ((True ∧ True) ∧ (True ∧ ((True ∧ True) ∧ (True ∧ ((True ∧ True) ∧ ((true = true) ∧ (True ∧ True)))))))))) ∧ (True ∧ True))) := by kernel_rfl
 exact e.mpr (⟨trivial, ⟨⟨trivial, ⟨⟨trivial, trivial⟩, ⟨trivial, ⟨⟨trivial, trivial⟩, ⟨trivial, ⟨⟨trivial, trivial⟩, ⟨trivial, ⟨⟨trivial, trivial⟩, ⟨rfl, ⟨trivial, trivial⟩⟩⟩⟩⟩⟩⟩⟩⟩⟩, ⟨trivial, trivial⟩⟩⟩)
theorem V37.cfgOk (B : Nat) : CfgOk (V37.cfg B) := cfgOk_of (by kernel_rfl) (by kernel_rfl) extNil
theorem V37.sound {a : Addr} {w : World} {R : Value → World → Prop} (h : V37.vc w.heap.size R a w) : Calls Tryz.prog 37 ⟨[.pointer (some a)]⟩ w fun e w' => ∃ v, e = .returned v ∧ R v w' :=
 calls_wpfP (c := V37.cfg w.heap.size) (fn := Tryz.f37) (x := V37.code) (V37.cuts w.heap.size R) V37.h (V37.cfgOk _) mixed Tryz.func37 (by kernel_rfl) (by kernel_rfl) (by kernel_rfl) rfl (V37.obl _ _) ((V37.vc_eq _ _ a _).symm ▸ h)
def V39.vc (B : Nat) (R : Value → World → Prop) (a : Addr) (w : World) : Prop :=
 ∃ (c : Option Addr) (d f : Nat), w.cell? (a.add 7) = some (.slice c d f) ∧
 CallK Tryz.prog 65 [.slice c d f] B w [] fun v g => 
 ∃ (i : Option Addr) (j l : Nat), v = .slice i j l ∧
 Ret B g (R (.slice i j l))
noncomputable def V39.cfg (B : Nat) : Cfg := ⟨Tryz.prog, ⟨10, B⟩, [], hasN [65], hasN [], look []⟩
noncomputable def V39.code : Code := (Tryz.f39.body).getD .skip
noncomputable def V39.cuts (B : Nat) (R : Value → World → Prop) : Nat → Cut := nthC []
noncomputable def V39.h : H := .s (.z) (.s (.s (.z) (.c (.s (.z) (.z)) (.z))) (.s (.z) (.z)))
theorem V39.vc_eq (B : Nat) (R : Value → World → Prop) (a : Addr) (w : World) : wpf (V39.cfg B) (V39.cuts B R) V39.code V39.h [] (postOf Tryz.prog B (Tryz.f39.results.toList) R) (argE 0 [.pointer (some a)]) [] w = V39.vc B R a w := by kernel_rfl
theorem V39.obl (B : Nat) (R : Value → World → Prop) : oblP (V39.cfg B) (V39.cuts B R) V39.code V39.h [] (postOf Tryz.prog B (Tryz.f39.results.toList) R) := by
 have e : oblP (V39.cfg B) (V39.cuts B R) V39.code V39.h [] (postOf Tryz.prog B (Tryz.f39.results.toList) R) = (True ∧ ((True ∧ ((True ∧ True) ∧ True)) ∧ (True ∧ True))) := by kernel_rfl
 exact e.mpr (⟨trivial, ⟨⟨trivial, ⟨⟨trivial, trivial⟩, trivial⟩⟩, ⟨trivial, trivial⟩⟩⟩)
theorem V39.cfgOk (B : Nat) : CfgOk (V39.cfg B) := cfgOk_of (by kernel_rfl) (by kernel_rfl) extNil
theorem V39.sound {a : Addr} {w : World} {R : Value → World → Prop} (h : V39.vc w.heap.size R a w) : Calls Tryz.prog 39 ⟨[.pointer (some a)]⟩ w fun e w' => ∃ v, e = .returned v ∧ R v w' :=
 calls_wpfP (c := V39.cfg w.heap.size) (fn := Tryz.f39) (x := V39.code) (V39.cuts w.heap.size R) V39.h (V39.cfgOk _) mixed Tryz.func39 (by kernel_rfl) (by kernel_rfl) (by kernel_rfl) rfl (V39.obl _ _) ((V39.vc_eq _ _ a _).symm ▸ h)
def V35.vc (B : Nat) (R : Value → World → Prop) (a : Option Addr) (c d : Nat) (f : Int) (w : World) : Prop :=
 ∀ g : Nat, w.heap.size ≤ g →
 CallK Tryz.prog 60 [.agg ⟨[.slice a c d]⟩] B w [g] fun v i => 
 ∃ j l m : Int, v = .tuple ⟨[.int .i64 j, .int .i64 l, .int .i64 m]⟩ ∧
 if (j != 0) = false
 then (if (decide (f < 0)) = false
 then (if (decide (f ≥ (c : Int))) = false
 then (∃ n : Addr, a = some n ∧ (0 : Int) ≤ f ∧ f < (c : Int) ∧
 ∃ o : Int, i.cell? ((n.add (f.toNat * 4)).add 0) = some (.int .i64 o) ∧
 if (o != 0) = true
 then (Ret B i (R (.pointer none)))
 else (CallK Tryz.prog 61 [.agg ⟨[.slice a c d]⟩] B i [g] fun p q => 
 ∃ (r : Option Addr) (s t : Nat), p = .agg ⟨[.slice r s t]⟩ ∧
 Expo B q [g] fun u => 
 Hide [g] (u.alloc (.cells ⟨[.slice r s t, .int .i64 f, .bool false, .bool false, .bool false, .int .u64 0, .slice none 0 0, .slice none 0 0]⟩ 106)) fun x => 
 Ret B x (R (.pointer (some (⟨u.heap.size, 0, none⟩ : Addr))))))
 else (Ret B i (R (.pointer none))))
 else (Ret B i (R (.pointer none))))
 else (Ret B i (R (.pointer none)))
noncomputable def V35.cfg (B : Nat) : Cfg := ⟨Tryz.prog, ⟨41, B⟩, [40], hasN [60, 61], hasN [], look []⟩
noncomputable def V35.code : Code := (Tryz.f35.body).getD .skip
noncomputable def V35.cuts (B : Nat) (R : Value → World → Prop) : Nat → Cut := nthC []
noncomputable def V35.h : H := .s (.z) (.s (.s (.z) (.s (.z) (.c (.s (.z) (.z)) (.z)))) (.s (.z) (.z)))
theorem V35.vc_eq (B : Nat) (R : Value → World → Prop) (a : Option Addr) (c d : Nat) (f : Int) (w : World) : wpf (V35.cfg B) (V35.cuts B R) V35.code V35.h [] (postOf Tryz.prog B (Tryz.f35.results.toList) R) (argE 0 [.agg ⟨[.slice a c d]⟩, .int .i64 f]) [] w = V35.vc B R a c d f w := by kernel_rfl
theorem V35.obl (B : Nat) (R : Value → World → Prop) : oblP (V35.cfg B) (V35.cuts B R) V35.code V35.h [] (postOf Tryz.prog B (Tryz.f35.results.toList) R) := by
 have e : oblP (V35.cfg B) (V35.cuts B R) V35.code V35.h [] (postOf Tryz.prog B (Tryz.f35.results.toList) R) = (True ∧ ((True ∧ (True ∧ ((True ∧ True) ∧ True))) ∧ (True ∧ True))) := by kernel_rfl
 exact e.mpr (⟨trivial, ⟨⟨trivial, ⟨trivial, ⟨⟨trivial, trivial⟩, trivial⟩⟩⟩, ⟨trivial, trivial⟩⟩⟩)
theorem V35.cfgOk (B : Nat) : CfgOk (V35.cfg B) := cfgOk_of (by kernel_rfl) (by kernel_rfl) extNil
theorem V35.sound {a : Option Addr} {d f : Nat} {g : Int} {w : World} {R : Value → World → Prop} (h : V35.vc w.heap.size R a d f g w) : Calls Tryz.prog 35 ⟨[.agg ⟨[.slice a d f]⟩, .int .i64 g]⟩ w fun e w' => ∃ v, e = .returned v ∧ R v w' :=
 calls_wpfP (c := V35.cfg w.heap.size) (fn := Tryz.f35) (x := V35.code) (V35.cuts w.heap.size R) V35.h (V35.cfgOk _) mixed Tryz.func35 (by kernel_rfl) (by kernel_rfl) (by kernel_rfl) rfl (V35.obl _ _) ((V35.vc_eq _ _ a d f g _).symm ▸ h)
def V65.vc (B : Nat) (R : Value → World → Prop) (a : Option Addr) (c d : Nat) (w : World) : Prop :=
 if (Option.isNone a) = true
 then (Ret B w (R (.slice none 0 0)))
 else (Expo B w [] fun f => 
 let g := f.alloc (.cells ⟨[]⟩ 41);
 RunK Tryz.prog (Builtin.append_ #[27, 27] 27 ⟨[.slice (some ⟨f.heap.size, 0, none⟩) 0 0, .slice a c d]⟩) B g [] fun v i => 
 ∃ (j : Option Addr) (l m : Nat), v = .slice j l m ∧
 Ret B i (R (.slice j l m)))
noncomputable def V65.cfg (B : Nat) : Cfg := ⟨Tryz.prog, ⟨8, B⟩, [], hasN [], hasN [], look []⟩
noncomputable def V65.code : Code := (Tryz.f65.body).getD .skip
noncomputable def V65.cuts (B : Nat) (R : Value → World → Prop) : Nat → Cut := nthC []
noncomputable def V65.h : H := .s (.z) (.s (.s (.z) (.c (.s (.z) (.z)) (.z))) (.s (.z) (.z)))
theorem V65.vc_eq (B : Nat) (R : Value → World → Prop) (a : Option Addr) (c d : Nat) (w : World) : wpf (V65.cfg B) (V65.cuts B R) V65.code V65.h [] (postOf Tryz.prog B (Tryz.f65.results.toList) R) (argE 0 [.slice a c d]) [] w = V65.vc B R a c d w := by kernel_rfl
theorem V65.obl (B : Nat) (R : Value → World → Prop) : oblP (V65.cfg B) (V65.cuts B R) V65.code V65.h [] (postOf Tryz.prog B (Tryz.f65.results.toList) R) := by
 have e : oblP (V65.cfg B) (V65.cuts B R) V65.code V65.h [] (postOf Tryz.prog B (Tryz.f65.results.toList) R) = (True ∧ ((True ∧ ((True ∧ True) ∧ True)) ∧ (True ∧ True))) := by kernel_rfl
 exact e.mpr (⟨trivial, ⟨⟨trivial, ⟨⟨trivial, trivial⟩, trivial⟩⟩, ⟨trivial, trivial⟩⟩⟩)
theorem V65.cfgOk (B : Nat) : CfgOk (V65.cfg B) := cfgOk_of (by kernel_rfl) (by kernel_rfl) extNil
theorem V65.sound {a : Option Addr} {d f : Nat} {w : World} {R : Value → World → Prop} (h : V65.vc w.heap.size R a d f w) : Calls Tryz.prog 65 ⟨[.slice a d f]⟩ w fun e w' => ∃ v, e = .returned v ∧ R v w' :=
 calls_wpfP (c := V65.cfg w.heap.size) (fn := Tryz.f65) (x := V65.code) (V65.cuts w.heap.size R) V65.h (V65.cfgOk _) mixed Tryz.func65 (by kernel_rfl) (by kernel_rfl) (by kernel_rfl) rfl (V65.obl _ _) ((V65.vc_eq _ _ a d f _).symm ▸ h)
def V99.vc (B : Nat) (R : Value → World → Prop) (a c d : Int) (w : World) : Prop :=
 if (a == 5) = true
 then (CallK Tryz.prog 124 [.int .u64 c, .int .u64 d] B w [] fun v f => 
 ∃ g : Int, v = .int .u64 g ∧
 Ret B f (R (.int .u64 g)))
 else (if (a == 6) = true
 then (CallK Tryz.prog 125 [.int .u64 c, .int .u64 d] B w [] fun v f => 
 ∃ i : Int, v = .int .u64 i ∧
 Ret B f (R (.int .u64 i)))
 else (if (a == 7) = true
 then (CallK Tryz.prog 126 [.int .u64 c, .int .u64 d] B w [] fun v f => 
 ∃ j : Int, v = .int .u64 j ∧
 Ret B f (R (.int .u64 j)))
 else (if (a == 8) = true
 then (CallK Tryz.prog 127 [.int .u64 c, .int .u64 d] B w [] fun v f => 
 ∃ l : Int, v = .int .u64 l ∧
 Ret B f (R (.int .u64 l)))
 else (if (a == 11) = true
 then (CallK Tryz.prog 128 [.int .u64 c, .int .u64 d] B w [] fun v f => 
 ∃ m : Int, v = .int .u64 m ∧
 Ret B f (R (.int .u64 m)))
 else (if (a == 12) = true
 then (CallK Tryz.prog 129 [.int .u64 c, .int .u64 d] B w [] fun v f => 
 ∃ n : Int, v = .int .u64 n ∧
 Ret B f (R (.int .u64 n)))
 else (if (a == 13) = true
 then (CallK Tryz.prog 131 [.int .u64 c, .int .u64 d] B w [] fun v f => 
 ∃ o : Bool, v = .bool o ∧
 CallK Tryz.prog 130 [.bool o] B f [] fun p q => 
 ∃ r : Int, p = .int .u64 r ∧
 Ret B q (R (.int .u64 r)))
 else (CallK Tryz.prog 132 [.int .u64 c, .int .u64 d] B w [] fun v f => 
 ∃ s : Bool, v = .bool s ∧
 CallK Tryz.prog 130 [.bool s] B f [] fun p q => 
 ∃ t : Int, p = .int .u64 t ∧
 Ret B q (R (.int .u64 t)))))))))
noncomputable def V99.cfg (B : Nat) : Cfg := ⟨Tryz.prog, ⟨48, B⟩, [], hasN [124, 125, 126, 127, 128, 129, 130, 131, 132], hasN [], look []⟩
noncomputable def V99.code : Code := (Tryz.f99.body).getD .skip
noncomputable def V99.cuts (B : Nat) (R : Value → World → Prop) : Nat → Cut := nthC []
noncomputable def V99.h : H := .s (.z) (.s (.s (.z) (.b (.s (.z) (.c (.s (.z) (.z)) (.s (.z) (.c (.s (.z) (.z)) (.s (.z) (.c (.s (.z) (.z)) (.s (.z) (.c (.s (.z) (.z)) (.s (.z) (.c (.s (.z) (.z)) (.s (.z) (.c (.s (.z) (.z)) (.s (.z) (.c (.s (.z) (.z)) (.z))))))))))))))))) (.s (.z) (.z)))
theorem V99.vc_eq (B : Nat) (R : Value → World → Prop) (a c d : Int) (w : World) : wpf (V99.cfg B) (V99.cuts B R) V99.code V99.h [] (postOf Tryz.prog B (Tryz.f99.results.toList) R) (argE 0 [.int .i64 a, .int .u64 c, .int .u64 d]) [] w = V99.vc B R a c d w := by kernel_rfl
theorem V99.obl (B : Nat) (R : Value → World → Prop) : oblP (V99.cfg B) (V99.cuts B R) V99.code V99.h [] (postOf Tryz.prog B (Tryz.f99.results.toList) R) := by
 have e : oblP (V99.cfg B) (V99.cuts B R) V99.code V99.h [] (postOf Tryz.prog B (Tryz.f99.results.toList) R) = (True ∧ ((True ∧ (True ∧ ((True ∧ True) ∧ (True ∧ ((True ∧ True) ∧ (True ∧ ((True ∧ True) ∧ (True ∧ ((True ∧ True) ∧ (True ∧ ((True ∧ True) ∧ (True ∧ ((True ∧ True) ∧ (True ∧ ((True ∧ True) ∧ True))))))))))))))) ∧ (True ∧ True))) := by kernel_rfl
 exact e.mpr (⟨trivial, ⟨⟨trivial, ⟨trivial, ⟨⟨trivial, trivial⟩, ⟨trivial, ⟨⟨trivial, trivial⟩, ⟨trivial, ⟨⟨trivial, trivial⟩, ⟨trivial, ⟨⟨trivial, trivial⟩, ⟨trivial, ⟨⟨trivial, trivial⟩, ⟨trivial, ⟨⟨trivial, trivial⟩, ⟨trivial, ⟨⟨trivial, trivial⟩, trivial⟩⟩⟩⟩⟩⟩⟩⟩⟩⟩⟩⟩⟩⟩⟩, ⟨trivial, trivial⟩⟩⟩)
theorem V99.cfgOk (B : Nat) : CfgOk (V99.cfg B) := cfgOk_of (by kernel_rfl) (by kernel_rfl) extNil
theorem V99.sound {a d f : Int} {w : World} {R : Value → World → Prop} (h : V99.vc w.heap.size R a d f w) : Calls Tryz.prog 99 ⟨[.int .i64 a, .int .u64 d, .int .u64 f]⟩ w fun e w' => ∃ v, e = .returned v ∧ R v w' :=
 calls_wpfP (c := V99.cfg w.heap.size) (fn := Tryz.f99) (x := V99.code) (V99.cuts w.heap.size R) V99.h (V99.cfgOk _) mixed Tryz.func99 (by kernel_rfl) (by kernel_rfl) (by kernel_rfl) rfl (V99.obl _ _) ((V99.vc_eq _ _ a d f _).symm ▸ h)
def V130.vc (B : Nat) (R : Value → World → Prop) (a : Bool) (w : World) : Prop :=
 if a = true
 then (CallK Tryz.prog 19 [.int .i64 1] B w [] fun v c => 
 ∃ d : Int, v = .int .u64 d ∧
 Ret B c (R (.int .u64 d)))
 else (CallK Tryz.prog 19 [.int .i64 0] B w [] fun v c => 
 ∃ f : Int, v = .int .u64 f ∧
 Ret B c (R (.int .u64 f)))
noncomputable def V130.cfg (B : Nat) : Cfg := ⟨Tryz.prog, ⟨6, B⟩, [], hasN [19], hasN [], look []⟩
noncomputable def V130.code : Code := (Tryz.f130.body).getD .skip
noncomputable def V130.cuts (B : Nat) (R : Value → World → Prop) : Nat → Cut := nthC []
noncomputable def V130.h : H := .s (.z) (.s (.s (.z) (.c (.s (.z) (.z)) (.z))) (.s (.z) (.z)))
theorem V130.vc_eq (B : Nat) (R : Value → World → Prop) (a : Bool) (w : World) : wpf (V130.cfg B) (V130.cuts B R) V130.code V130.h [] (postOf Tryz.prog B (Tryz.f130.results.toList) R) (argE 0 [.bool a]) [] w = V130.vc B R a w := by kernel_rfl
theorem V130.obl (B : Nat) (R : Value → World → Prop) : oblP (V130.cfg B) (V130.cuts B R) V130.code V130.h [] (postOf Tryz.prog B (Tryz.f130.results.toList) R) := by
 have e : oblP (V130.cfg B) (V130.cuts B R) V130.code V130.h [] (postOf Tryz.prog B (Tryz.f130.results.toList) R) = (True ∧ ((True ∧ ((True ∧ True) ∧ True)) ∧ (True ∧ True))) := by kernel_rfl
 exact e.mpr (⟨trivial, ⟨⟨trivial, ⟨⟨trivial, trivial⟩, trivial⟩⟩, ⟨trivial, trivial⟩⟩⟩)
theorem V130.cfgOk (B : Nat) : CfgOk (V130.cfg B) := cfgOk_of (by kernel_rfl) (by kernel_rfl) extNil
theorem V130.sound {a : Bool} {w : World} {R : Value → World → Prop} (h : V130.vc w.heap.size R a w) : Calls Tryz.prog 130 ⟨[.bool a]⟩ w fun e w' => ∃ v, e = .returned v ∧ R v w' :=
 calls_wpfP (c := V130.cfg w.heap.size) (fn := Tryz.f130) (x := V130.code) (V130.cuts w.heap.size R) V130.h (V130.cfgOk _) mixed Tryz.func130 (by kernel_rfl) (by kernel_rfl) (by kernel_rfl) rfl (V130.obl _ _) ((V130.vc_eq _ _ a _).symm ▸ h)
def V93.vc (B : Nat) (R : Value → World → Prop) (a : Int) (w : World) : Prop :=
 CallK Tryz.prog 122 [] B w [] fun v c => 
 ∃ d : Nat, v = .float .f64 d ∧
 CallK Tryz.prog 123 [.int .i64 1] B c [] fun f g => 
 ∃ i : Nat, f = .float .f64 i ∧
 CallK Tryz.prog 123 [.int .i64 (-1)] B g [] fun j l => 
 ∃ m : Nat, j = .float .f64 m ∧
 CallK Tryz.prog 112 [.float .f64 0, .float .f64 13830554455654793216] B l [] fun n o => 
 ∃ p : Nat, n = .float .f64 p ∧ (0 : Int) ≤ a ∧ a < 6 ∧
 CallK Tryz.prog 34 [.float .f64 (([d, i, m, p, 9218868437227405311, 1] : List Nat).getD a.toNat 0)] B o [] fun q r => 
 ∃ s : Int, q = .int .u64 s ∧
 Ret B r (R (.int .u64 s))
noncomputable def V93.cfg (B : Nat) : Cfg := ⟨Tryz.prog, ⟨11, B⟩, [], hasN [34, 112, 122, 123], hasN [], look []⟩
noncomputable def V93.code : Code := (Tryz.f93.body).getD .skip
noncomputable def V93.cuts (B : Nat) (R : Value → World → Prop) : Nat → Cut := nthC []
noncomputable def V93.h : H := .s (.z) (.s (.z) (.z))
theorem V93.vc_eq (B : Nat) (R : Value → World → Prop) (a : Int) (w : World) : wpf (V93.cfg B) (V93.cuts B R) V93.code V93.h [] (postOf Tryz.prog B (Tryz.f93.results.toList) R) (argE 0 [.int .i64 a]) [] w = V93.vc B R a w := by kernel_rfl
theorem V93.obl (B : Nat) (R : Value → World → Prop) : oblP (V93.cfg B) (V93.cuts B R) V93.code V93.h [] (postOf Tryz.prog B (Tryz.f93.results.toList) R) := by
 have e : oblP (V93.cfg B) (V93.cuts B R) V93.code V93.h [] (postOf Tryz.prog B (Tryz.f93.results.toList) R) = (True ∧ (True ∧ True)) := by kernel_rfl
 exact e.mpr (⟨trivial, ⟨trivial, trivial⟩⟩)
theorem V93.cfgOk (B : Nat) : CfgOk (V93.cfg B) := cfgOk_of (by kernel_rfl) (by kernel_rfl) extNil
theorem V93.sound {a : Int} {w : World} {R : Value → World → Prop} (h : V93.vc w.heap.size R a w) : Calls Tryz.prog 93 ⟨[.int .i64 a]⟩ w fun e w' => ∃ v, e = .returned v ∧ R v w' :=
 calls_wpfP (c := V93.cfg w.heap.size) (fn := Tryz.f93) (x := V93.code) (V93.cuts w.heap.size R) V93.h (V93.cfgOk _) mixed Tryz.func93 (by kernel_rfl) (by kernel_rfl) (by kernel_rfl) rfl (V93.obl _ _) ((V93.vc_eq _ _ a _).symm ▸ h)
def V122.vc (B : Nat) (R : Value → World → Prop) (w : World) : Prop :=
 RunK Tryz.prog (V77.ext [.int .u64 9221120237041090561]) B w [] fun v a => 
 ∃ c : Nat, v = .float .f64 c ∧
 Ret B a (R (.float .f64 c))
noncomputable def V122.cfg (B : Nat) : Cfg := ⟨Tryz.prog, ⟨2, B⟩, [], hasN [], hasN [], look [(77, V77.ext)]⟩
noncomputable def V122.code : Code := (Tryz.f122.body).getD .skip
noncomputable def V122.cuts (B : Nat) (R : Value → World → Prop) : Nat → Cut := nthC []
noncomputable def V122.h : H := .s (.z) (.s (.z) (.z))
theorem V122.vc_eq (B : Nat) (R : Value → World → Prop)  (w : World) : wpf (V122.cfg B) (V122.cuts B R) V122.code V122.h [] (postOf Tryz.prog B (Tryz.f122.results.toList) R) (argE 0 []) [] w = V122.vc B R  w := by kernel_rfl
theorem V122.obl (B : Nat) (R : Value → World → Prop) : oblP (V122.cfg B) (V122.cuts B R) V122.code V122.h [] (postOf Tryz.prog B (Tryz.f122.results.toList) R) := by
 have e : oblP (V122.cfg B) (V122.cuts B R) V122.code V122.h [] (postOf Tryz.prog B (Tryz.f122.results.toList) R) = (True ∧ (True ∧ True)) := by kernel_rfl
 exact e.mpr (⟨trivial, ⟨trivial, trivial⟩⟩)
theorem V122.cfgOk (B : Nat) : CfgOk (V122.cfg B) := cfgOk_of (by kernel_rfl) (by kernel_rfl) (extCons V77.extOk extNil)
theorem V122.sound  {w : World} {R : Value → World → Prop} (h : V122.vc w.heap.size R  w) : Calls Tryz.prog 122 ⟨[]⟩ w fun e w' => ∃ v, e = .returned v ∧ R v w' :=
 calls_wpfP (c := V122.cfg w.heap.size) (fn := Tryz.f122) (x := V122.code) (V122.cuts w.heap.size R) V122.h (V122.cfgOk _) mixed Tryz.func122 (by kernel_rfl) (by kernel_rfl) (by kernel_rfl) rfl (V122.obl _ _) ((V122.vc_eq _ _  _).symm ▸ h)
def V123.vc (B : Nat) (R : Value → World → Prop) (a : Int) (w : World) : Prop :=
 if (decide (a ≥ 0)) = true
 then (RunK Tryz.prog (V77.ext [.int .u64 9218868437227405312]) B w [] fun v c => 
 ∃ d : Nat, v = .float .f64 d ∧
 Ret B c (R (.float .f64 d)))
 else (RunK Tryz.prog (V77.ext [.int .u64 18442240474082181120]) B w [] fun v c => 
 ∃ d : Nat, v = .float .f64 d ∧
 Ret B c (R (.float .f64 d)))
noncomputable def V123.cfg (B : Nat) : Cfg := ⟨Tryz.prog, ⟨8, B⟩, [], hasN [], hasN [], look [(77, V77.ext)]⟩
noncomputable def V123.code : Code := (Tryz.f123.body).getD .skip
noncomputable def V123.cuts (B : Nat) (R : Value → World → Prop) : Nat → Cut := nthC []
noncomputable def V123.h : H := .s (.z) (.s (.z) (.s (.s (.z) (.c (.z) (.z))) (.s (.z) (.z))))
theorem V123.vc_eq (B : Nat) (R : Value → World → Prop) (a : Int) (w : World) : wpf (V123.cfg B) (V123.cuts B R) V123.code V123.h [] (postOf Tryz.prog B (Tryz.f123.results.toList) R) (argE 0 [.int .i64 a]) [] w = V123.vc B R a w := by kernel_rfl
theorem V123.obl (B : Nat) (R : Value → World → Prop) : oblP (V123.cfg B) (V123.cuts B R) V123.code V123.h [] (postOf Tryz.prog B (Tryz.f123.results.toList) R) := by
 have e : oblP (V123.cfg B) (V123.cuts B R) V123.code V123.h [] (postOf Tryz.prog B (Tryz.f123.results.toList) R) = (True ∧ (True ∧ ((True ∧ (True ∧ True)) ∧ (True ∧ True)))) := by kernel_rfl
 exact e.mpr (⟨trivial, ⟨trivial, ⟨⟨trivial, ⟨trivial, trivial⟩⟩, ⟨trivial, trivial⟩⟩⟩⟩)
theorem V123.cfgOk (B : Nat) : CfgOk (V123.cfg B) := cfgOk_of (by kernel_rfl) (by kernel_rfl) (extCons V77.extOk extNil)
theorem V123.sound {a : Int} {w : World} {R : Value → World → Prop} (h : V123.vc w.heap.size R a w) : Calls Tryz.prog 123 ⟨[.int .i64 a]⟩ w fun e w' => ∃ v, e = .returned v ∧ R v w' :=
 calls_wpfP (c := V123.cfg w.heap.size) (fn := Tryz.f123) (x := V123.code) (V123.cuts w.heap.size R) V123.h (V123.cfgOk _) mixed Tryz.func123 (by kernel_rfl) (by kernel_rfl) (by kernel_rfl) rfl (V123.obl _ _) ((V123.vc_eq _ _ a _).symm ▸ h)
def V112.vc (B : Nat) (R : Value → World → Prop) (a c : Nat) (w : World) : Prop :=
 RunK Tryz.prog (V59.ext [.float .f64 a]) B w [] fun v d => 
 ∃ f : Int, v = .int .u64 f ∧
 RunK Tryz.prog (V59.ext [.float .f64 c]) B d [] fun g i => 
 ∃ j : Int, g = .int .u64 j ∧
 RunK Tryz.prog (V77.ext [.int .u64 (IntKind.wrap .u64 (((BitVec.ofInt 64 (IntKind.wrap .u64 (((BitVec.ofInt 64 f &&& ~~~ BitVec.ofInt 64 9223372036854775808).toNat : Nat) : Int)) ||| BitVec.ofInt 64 (IntKind.wrap .u64 (((BitVec.ofInt 64 j &&& BitVec.ofInt 64 9223372036854775808).toNat : Nat) : Int))).toNat : Nat) : Int))]) B i [] fun l m => 
 ∃ n : Nat, l = .float .f64 n ∧
 Ret B m (R (.float .f64 n))
noncomputable def V112.cfg (B : Nat) : Cfg := ⟨Tryz.prog, ⟨13, B⟩, [], hasN [], hasN [], look [(59, V59.ext), (77, V77.ext)]⟩
noncomputable def V112.code : Code := (Tryz.f112.body).getD .skip
noncomputable def V112.cuts (B : Nat) (R : Value → World → Prop) : Nat → Cut := nthC []
noncomputable def V112.h : H := .s (.z) (.s (.z) (.z))
theorem V112.vc_eq (B : Nat) (R : Value → World → Prop) (a c : Nat) (w : World) : wpf (V112.cfg B) (V112.cuts B R) V112.code V112.h [] (postOf Tryz.prog B (Tryz.f112.results.toList) R) (argE 0 [.float .f64 a, .float .f64 c]) [] w = V112.vc B R a c w := by kernel_rfl
theorem V112.obl (B : Nat) (R : Value → World → Prop) : oblP (V112.cfg B) (V112.cuts B R) V112.code V112.h [] (postOf Tryz.prog B (Tryz.f112.results.toList) R) := by
 have e : oblP (V112.cfg B) (V112.cuts B R) V112.code V112.h [] (postOf Tryz.prog B (Tryz.f112.results.toList) R) = (True ∧ (True ∧ True)) := by kernel_rfl
 exact e.mpr (⟨trivial, ⟨trivial, trivial⟩⟩)
theorem V112.cfgOk (B : Nat) : CfgOk (V112.cfg B) := cfgOk_of (by kernel_rfl) (by kernel_rfl) (extCons V59.extOk (extCons V77.extOk extNil))
theorem V112.sound {a d : Nat} {w : World} {R : Value → World → Prop} (h : V112.vc w.heap.size R a d w) : Calls Tryz.prog 112 ⟨[.float .f64 a, .float .f64 d]⟩ w fun e w' => ∃ v, e = .returned v ∧ R v w' :=
 calls_wpfP (c := V112.cfg w.heap.size) (fn := Tryz.f112) (x := V112.code) (V112.cuts w.heap.size R) V112.h (V112.cfgOk _) mixed Tryz.func112 (by kernel_rfl) (by kernel_rfl) (by kernel_rfl) rfl (V112.obl _ _) ((V112.vc_eq _ _ a d _).symm ▸ h)
end Go.Proofs.YtidcpndlloppdaaGreatDoor
