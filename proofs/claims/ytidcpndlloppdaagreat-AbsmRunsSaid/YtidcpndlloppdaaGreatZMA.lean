import Derived.Test.YtidcpndlloppdaaGreatZFF
import Derived.Test.YtidcpndlloppdaaGreatZM17
import Derived.Test.YtidcpndlloppdaaGreatZWH
/-
 What the engine makes of the loaded functions 40,81,46,119,127,82,124,77,123,79,39,41,83,37,55,107,154,102,143,144,145: conditions under which a call returns as told,and proofs of that.
 Conditions: none. Printed by a program of this project.
-/
set_option linter.unusedVariables false
set_option maxRecDepth 100000
namespace Go.Proofs.YtidcpndlloppdaaGreat
def V40.vc (B : Nat) (R : Value → World → Prop) (a : Addr) (w : World) : Prop :=
 ∃ c : Bool,w.cell? (a.add 3) = some (.bool c) ∧
 Ret B w (R (.bool c))
noncomputable def V40.cfg (B : Nat) : Cfg := ⟨Tryz.prog,⟨11,B⟩,[],hasN [],hasN [],look []⟩
noncomputable def V40.code : Code := (Tryz.f40.body).getD .skip
noncomputable def V40.cuts (B : Nat) (R : Value → World → Prop) : Nat → Cut := nthC []
noncomputable def V40.h : H := .s (.z) (.s (.z) (.z))
theorem V40.vc_eq (B : Nat) (R : Value → World → Prop) (a : Addr) (w : World) : wpf (V40.cfg B) (V40.cuts B R) V40.code V40.h [] (postOf Tryz.prog B (Tryz.f40.results.toList) R) (argE 0 [.pointer (some a)]) [] w = V40.vc B R a w := by kernel_rfl
theorem V40.obl (B : Nat) (R : Value → World → Prop) : oblP (V40.cfg B) (V40.cuts B R) V40.code V40.h [] (postOf Tryz.prog B (Tryz.f40.results.toList) R) := by
 have e : oblP (V40.cfg B) (V40.cuts B R) V40.code V40.h [] (postOf Tryz.prog B (Tryz.f40.results.toList) R) = (True ∧ (True ∧ True)) := by kernel_rfl
 exact e.mpr (⟨trivial,⟨trivial,trivial⟩⟩)
theorem V40.cfgOk (B : Nat) : CfgOk (V40.cfg B) := cfgOk_of (by kernel_rfl) (by kernel_rfl) extNil
theorem V40.sound {a : Addr} {w : World} {R : Value → World → Prop} (h : V40.vc w.heap.size R a w) : Calls Tryz.prog 40 ⟨[.pointer (some a)]⟩ w fun e w' => ∃ v,e = .returned v ∧ R v w' :=
 calls_wpfP (c := V40.cfg w.heap.size) (fn := Tryz.f40) (x := V40.code) (V40.cuts w.heap.size R) V40.h (V40.cfgOk _) mixed Tryz.func40 (by kernel_rfl) (by kernel_rfl) (by kernel_rfl) rfl (V40.obl _ _) ((V40.vc_eq _ _ a _).symm ▸ h)
def V81.vc (B : Nat) (R : Value → World → Prop) (a : Addr) (w : World) : Prop :=
 ∃ c : Bool,w.cell? (a.add 4) = some (.bool c) ∧
 Ret B w (R (.bool c))
noncomputable def V81.cfg (B : Nat) : Cfg := ⟨Tryz.prog,⟨11,B⟩,[],hasN [],hasN [],look []⟩
noncomputable def V81.code : Code := (Tryz.f81.body).getD .skip
noncomputable def V81.cuts (B : Nat) (R : Value → World → Prop) : Nat → Cut := nthC []
noncomputable def V81.h : H := .s (.z) (.s (.z) (.z))
theorem V81.vc_eq (B : Nat) (R : Value → World → Prop) (a : Addr) (w : World) : wpf (V81.cfg B) (V81.cuts B R) V81.code V81.h [] (postOf Tryz.prog B (Tryz.f81.results.toList) R) (argE 0 [.pointer (some a)]) [] w = V81.vc B R a w := by kernel_rfl
theorem V81.obl (B : Nat) (R : Value → World → Prop) : oblP (V81.cfg B) (V81.cuts B R) V81.code V81.h [] (postOf Tryz.prog B (Tryz.f81.results.toList) R) := by
 have e : oblP (V81.cfg B) (V81.cuts B R) V81.code V81.h [] (postOf Tryz.prog B (Tryz.f81.results.toList) R) = (True ∧ (True ∧ True)) := by kernel_rfl
 exact e.mpr (⟨trivial,⟨trivial,trivial⟩⟩)
theorem V81.cfgOk (B : Nat) : CfgOk (V81.cfg B) := cfgOk_of (by kernel_rfl) (by kernel_rfl) extNil
theorem V81.sound {a : Addr} {w : World} {R : Value → World → Prop} (h : V81.vc w.heap.size R a w) : Calls Tryz.prog 81 ⟨[.pointer (some a)]⟩ w fun e w' => ∃ v,e = .returned v ∧ R v w' :=
 calls_wpfP (c := V81.cfg w.heap.size) (fn := Tryz.f81) (x := V81.code) (V81.cuts w.heap.size R) V81.h (V81.cfgOk _) mixed Tryz.func81 (by kernel_rfl) (by kernel_rfl) (by kernel_rfl) rfl (V81.obl _ _) ((V81.vc_eq _ _ a _).symm ▸ h)
def V46.vc (B : Nat) (R : Value → World → Prop) (a : Addr) (w : World) : Prop :=
 (∃ u,w.cell? ((a.add 4).add 0) = some u) ∧ w.frozen? ((a.add 4).add 0) = false ∧
 let c := w.setCell ((a.add 4).add 0) (.bool false);
 Ret B c (R (.tuple ⟨[]⟩))
noncomputable def V46.cfg (B : Nat) : Cfg := ⟨Tryz.prog,⟨7,B⟩,[],hasN [],hasN [],look []⟩
noncomputable def V46.code : Code := (Tryz.f46.body).getD .skip
noncomputable def V46.cuts (B : Nat) (R : Value → World → Prop) : Nat → Cut := nthC []
noncomputable def V46.h : H := .s (.z) (.c (.z) (.z))
theorem V46.vc_eq (B : Nat) (R : Value → World → Prop) (a : Addr) (w : World) : wpf (V46.cfg B) (V46.cuts B R) V46.code V46.h [] (postOf Tryz.prog B (Tryz.f46.results.toList) R) (argE 0 [.pointer (some a)]) [] w = V46.vc B R a w := by kernel_rfl
theorem V46.obl (B : Nat) (R : Value → World → Prop) : oblP (V46.cfg B) (V46.cuts B R) V46.code V46.h [] (postOf Tryz.prog B (Tryz.f46.results.toList) R) := by
 have e : oblP (V46.cfg B) (V46.cuts B R) V46.code V46.h [] (postOf Tryz.prog B (Tryz.f46.results.toList) R) = (True ∧ (True ∧ True)) := by kernel_rfl
 exact e.mpr (⟨trivial,⟨trivial,trivial⟩⟩)
theorem V46.cfgOk (B : Nat) : CfgOk (V46.cfg B) := cfgOk_of (by kernel_rfl) (by kernel_rfl) extNil
theorem V46.sound {a : Addr} {w : World} {R : Value → World → Prop} (h : V46.vc w.heap.size R a w) : Calls Tryz.prog 46 ⟨[.pointer (some a)]⟩ w fun e w' => ∃ v,e = .returned v ∧ R v w' :=
 calls_wpfP (c := V46.cfg w.heap.size) (fn := Tryz.f46) (x := V46.code) (V46.cuts w.heap.size R) V46.h (V46.cfgOk _) mixed Tryz.func46 (by kernel_rfl) (by kernel_rfl) (by kernel_rfl) rfl (V46.obl _ _) ((V46.vc_eq _ _ a _).symm ▸ h)
def V119.vc (B : Nat) (R : Value → World → Prop) (a : Addr) (w : World) : Prop :=
 ∀ c : Nat,w.heap.size ≤ c →
 ∃ (d : Option Addr) (f g : Nat),w.cell? (a.add 6) = some (.slice d f g) ∧
 ∃ (i : Option Addr) (j l : Nat),w.cell? (a.add 6) = some (.slice i j l) ∧
 ∃ m : Addr,d = some m ∧ (0 : Int) ≤ IntKind.wrap .i64 ((j : Int) - 1) ∧ IntKind.wrap .i64 ((j : Int) - 1) < (f : Int) ∧
 ∃ n : Int,w.cell? ((m.add ((IntKind.wrap .i64 ((j : Int) - 1)).toNat * 8)).add 0) = some (.int .i64 n) ∧
 ∃ o : Int,w.cell? ((m.add ((IntKind.wrap .i64 ((j : Int) - 1)).toNat * 8)).add 1) = some (.int .i64 o) ∧
 ∃ p : Int,w.cell? ((m.add ((IntKind.wrap .i64 ((j : Int) - 1)).toNat * 8)).add 2) = some (.int .i64 p) ∧
 ∃ q : Bool,w.cell? ((m.add ((IntKind.wrap .i64 ((j : Int) - 1)).toNat * 8)).add 3) = some (.bool q) ∧
 ∃ r : Int,w.cell? ((m.add ((IntKind.wrap .i64 ((j : Int) - 1)).toNat * 8)).add 4) = some (.int .u64 r) ∧
 ∃ (s : Option Addr) (t u : Nat),w.cell? ((m.add ((IntKind.wrap .i64 ((j : Int) - 1)).toNat * 8)).add 5) = some (.slice s t u) ∧
 ∃ (x : Option Addr) (y z : Nat),w.cell? ((m.add ((IntKind.wrap .i64 ((j : Int) - 1)).toNat * 8)).add 6) = some (.slice x y z) ∧
 ∃ (A : Option Addr) (C D : Nat),w.cell? ((m.add ((IntKind.wrap .i64 ((j : Int) - 1)).toNat * 8)).add 7) = some (.slice A C D) ∧
 ∀ E : Nat,w.heap.size ≤ E → w.cell? ((m.add ((IntKind.wrap .i64 ((j : Int) - 1)).toNat * 8)).add 0) = some (.int .i64 n) ∧ w.cell? ((m.add ((IntKind.wrap .i64 ((j : Int) - 1)).toNat * 8)).add 1) = some (.int .i64 o) ∧ w.cell? ((m.add ((IntKind.wrap .i64 ((j : Int) - 1)).toNat * 8)).add 2) = some (.int .i64 p) ∧ w.cell? ((m.add ((IntKind.wrap .i64 ((j : Int) - 1)).toNat * 8)).add 3) = some (.bool q) ∧ w.cell? ((m.add ((IntKind.wrap .i64 ((j : Int) - 1)).toNat * 8)).add 4) = some (.int .u64 r) ∧ w.cell? ((m.add ((IntKind.wrap .i64 ((j : Int) - 1)).toNat * 8)).add 5) = some (.slice s t u) ∧ w.cell? ((m.add ((IntKind.wrap .i64 ((j : Int) - 1)).toNat * 8)).add 6) = some (.slice x y z) ∧ w.cell? ((m.add ((IntKind.wrap .i64 ((j : Int) - 1)).toNat * 8)).add 7) = some (.slice A C D) ∧ w.cell? (a.add 6) = some (.slice i j l) ∧ w.cell? (a.add 6) = some (.slice d f g) ∧
 ∃ (F : Option Addr) (G I : Nat),w.cell? ((a.add 0).add 0) = some (.slice F G I) ∧
 ∃ J : Addr,F = some J ∧ (0 : Int) ≤ n ∧ n < (G : Int) ∧
 ∃ (L : Option Addr) (M N : Nat),w.cell? ((J.add (n.toNat * 4)).add 3) = some (.slice L M N) ∧
 ∃ O : Addr,L = some O ∧ (0 : Int) ≤ o ∧ o < (M : Int) ∧
 ∃ P : Int,w.cell? ((O.add (o.toNat * 3)).add 0) = some (.int .i64 P) ∧
 ∃ Q : Int,w.cell? ((O.add (o.toNat * 3)).add 1) = some (.int .i64 Q) ∧
 ∃ S : Int,w.cell? ((O.add (o.toNat * 3)).add 2) = some (.int .i64 S) ∧
 Ret B w (R (.agg ⟨[.int .i64 P,.int .i64 Q,.int .i64 S]⟩))
noncomputable def V119.cfg (B : Nat) : Cfg := ⟨Tryz.prog,⟨30,B⟩,[],hasN [],hasN [],look []⟩
noncomputable def V119.code : Code := (Tryz.f119.body).getD .skip
noncomputable def V119.cuts (B : Nat) (R : Value → World → Prop) : Nat → Cut := nthC []
noncomputable def V119.h : H := .s (.z) (.s (.r [[0,1,2,3,4,5,6,7,8,9,10,11,12,13]]) (.s (.r [[0,1,2,3,4,5,6,7,8,9,10,11,12,13,14]]) (.z)))
theorem V119.vc_eq (B : Nat) (R : Value → World → Prop) (a : Addr) (w : World) : wpf (V119.cfg B) (V119.cuts B R) V119.code V119.h [] (postOf Tryz.prog B (Tryz.f119.results.toList) R) (argE 0 [.pointer (some a)]) [] w = V119.vc B R a w := by kernel_rfl
theorem V119.obl (B : Nat) (R : Value → World → Prop) : oblP (V119.cfg B) (V119.cuts B R) V119.code V119.h [] (postOf Tryz.prog B (Tryz.f119.results.toList) R) := by
 have e : oblP (V119.cfg B) (V119.cuts B R) V119.code V119.h [] (postOf Tryz.prog B (Tryz.f119.results.toList) R) = (True ∧ ((true = true) ∧ ((true = true) ∧ True))) := by kernel_rfl
 exact e.mpr (⟨trivial,⟨rfl,⟨rfl,trivial⟩⟩⟩)
theorem V119.cfgOk (B : Nat) : CfgOk (V119.cfg B) := cfgOk_of (by kernel_rfl) (by kernel_rfl) extNil
theorem V119.sound {a : Addr} {w : World} {R : Value → World → Prop} (h : V119.vc w.heap.size R a w) : Calls Tryz.prog 119 ⟨[.pointer (some a)]⟩ w fun e w' => ∃ v,e = .returned v ∧ R v w' :=
 calls_wpfP (c := V119.cfg w.heap.size) (fn := Tryz.f119) (x := V119.code) (V119.cuts w.heap.size R) V119.h (V119.cfgOk _) mixed Tryz.func119 (by kernel_rfl) (by kernel_rfl) (by kernel_rfl) rfl (V119.obl _ _) ((V119.vc_eq _ _ a _).symm ▸ h)
def V127.b0 (B : Nat) (R : Value → World → Prop) (a : Addr) (c : Bool) (w : World) : Prop :=
 if c = true
 then (Ret B w (R (.tuple ⟨[.int .i64 0,.bool false]⟩)))
 else (∃ d : Bool,w.cell? (a.add 2) = some (.bool d) ∧
 if (!d) = true
 then (∃ f : Int,w.cell? (a.add 1) = some (.int .i64 f) ∧
 Ret B w (R (.tuple ⟨[.int .i64 f,.bool true]⟩)))
 else (∃ (g : Option Addr) (i j : Nat),w.cell? (a.add 6) = some (.slice g i j) ∧
 ∃ (l : Option Addr) (m n : Nat),w.cell? (a.add 6) = some (.slice l m n) ∧
 ∃ o : Addr,g = some o ∧ (0 : Int) ≤ IntKind.wrap .i64 ((m : Int) - 1) ∧ IntKind.wrap .i64 ((m : Int) - 1) < (i : Int) ∧
 ∃ p : Int,w.cell? ((o.add ((IntKind.wrap .i64 ((m : Int) - 1)).toNat * 8)).add 0) = some (.int .i64 p) ∧
 ∃ q : Int,w.cell? ((o.add ((IntKind.wrap .i64 ((m : Int) - 1)).toNat * 8)).add 1) = some (.int .i64 q) ∧
 ∃ r : Int,w.cell? ((o.add ((IntKind.wrap .i64 ((m : Int) - 1)).toNat * 8)).add 2) = some (.int .i64 r) ∧
 ∃ s : Bool,w.cell? ((o.add ((IntKind.wrap .i64 ((m : Int) - 1)).toNat * 8)).add 3) = some (.bool s) ∧
 ∃ t : Int,w.cell? ((o.add ((IntKind.wrap .i64 ((m : Int) - 1)).toNat * 8)).add 4) = some (.int .u64 t) ∧
 ∃ (u : Option Addr) (x y : Nat),w.cell? ((o.add ((IntKind.wrap .i64 ((m : Int) - 1)).toNat * 8)).add 5) = some (.slice u x y) ∧
 ∃ (z : Option Addr) (A C : Nat),w.cell? ((o.add ((IntKind.wrap .i64 ((m : Int) - 1)).toNat * 8)).add 6) = some (.slice z A C) ∧
 ∃ (D : Option Addr) (E F : Nat),w.cell? ((o.add ((IntKind.wrap .i64 ((m : Int) - 1)).toNat * 8)).add 7) = some (.slice D E F) ∧
 ∀ G : Nat,w.heap.size ≤ G → w.cell? ((o.add ((IntKind.wrap .i64 ((m : Int) - 1)).toNat * 8)).add 0) = some (.int .i64 p) ∧ w.cell? ((o.add ((IntKind.wrap .i64 ((m : Int) - 1)).toNat * 8)).add 1) = some (.int .i64 q) ∧ w.cell? ((o.add ((IntKind.wrap .i64 ((m : Int) - 1)).toNat * 8)).add 2) = some (.int .i64 r) ∧ w.cell? ((o.add ((IntKind.wrap .i64 ((m : Int) - 1)).toNat * 8)).add 3) = some (.bool s) ∧ w.cell? ((o.add ((IntKind.wrap .i64 ((m : Int) - 1)).toNat * 8)).add 4) = some (.int .u64 t) ∧ w.cell? ((o.add ((IntKind.wrap .i64 ((m : Int) - 1)).toNat * 8)).add 5) = some (.slice u x y) ∧ w.cell? ((o.add ((IntKind.wrap .i64 ((m : Int) - 1)).toNat * 8)).add 6) = some (.slice z A C) ∧ w.cell? ((o.add ((IntKind.wrap .i64 ((m : Int) - 1)).toNat * 8)).add 7) = some (.slice D E F) ∧ w.cell? (a.add 6) = some (.slice l m n) ∧ w.cell? (a.add 6) = some (.slice g i j) ∧
 if (r != 0) = true
 then (if (decide ((x : Int) > 0)) = true
 then (∃ I : Addr,u = some I ∧ (0 : Int) ≤ IntKind.wrap .i64 ((x : Int) - 1) ∧ IntKind.wrap .i64 ((x : Int) - 1) < (x : Int) ∧
 ∃ J : Int,w.cell? ((I.add ((IntKind.wrap .i64 ((x : Int) - 1)).toNat * 2)).add 0) = some (.int .i64 J) ∧
 Ret B w (R (.tuple ⟨[.int .i64 J,.bool true]⟩)))
 else (Ret B w (R (.tuple ⟨[.int .i64 0,.bool false]⟩))))
 else (CallK Tryz.prog 119 [.pointer (some a)] B w [G] fun v L => 
 ∃ M N O : Int,v = .agg ⟨[.int .i64 M,.int .i64 N,.int .i64 O]⟩ ∧
 ∀ P : Nat,L.heap.size ≤ P →
 Ret B L (R (.tuple ⟨[.int .i64 N,.bool (M == 17)]⟩)))))
def V127.vc (B : Nat) (R : Value → World → Prop) (a : Addr) (w : World) : Prop :=
 ∃ c : Bool,w.cell? (a.add 3) = some (.bool c) ∧
 if c = false
 then (∃ d : Bool,w.cell? (a.add 4) = some (.bool d) ∧
 V127.b0 B R a d w)
 else (V127.b0 B R a true w)
noncomputable def V127.cfg (B : Nat) : Cfg := ⟨Tryz.prog,⟨66,B⟩,[],hasN [119],hasN [],look []⟩
noncomputable def V127.code : Code := (Tryz.f127.body).getD .skip
noncomputable def V127.cuts (B : Nat) (R : Value → World → Prop) : Nat → Cut := nthC [⟨[(0,.one (.ptr)),(7,.one (.bool))],[],fun fs vs bs w => V127.b0 B R (pV (nthV vs 0)) (bV (nthV vs 1)) w⟩]
noncomputable def V127.h : H := .s (.z) (.s (.b (.cut 0 (.z) (.c (.s (.z) (.z)) (.s (.z) (.c (.s (.z) (.z)) (.z)))))) (.s (.r [[0,1,2,3,4,5,6,7,8,9,10,11,12,13]]) (.s (.s (.z) (.c (.s (.s (.z) (.s (.z) (.c (.s (.z) (.z)) (.z)))) (.s (.z) (.z))) (.z))) (.s (.z) (.s (.r [[0,1,2,3,4,5,6]]) (.z))))))
theorem V127.vc_eq (B : Nat) (R : Value → World → Prop) (a : Addr) (w : World) : wpf (V127.cfg B) (V127.cuts B R) V127.code V127.h [] (postOf Tryz.prog B (Tryz.f127.results.toList) R) (argE 0 [.pointer (some a)]) [] w = V127.vc B R a w := by kernel_rfl
theorem V127.obl (B : Nat) (R : Value → World → Prop) : oblP (V127.cfg B) (V127.cuts B R) V127.code V127.h [] (postOf Tryz.prog B (Tryz.f127.results.toList) R) := by
 have e : oblP (V127.cfg B) (V127.cuts B R) V127.code V127.h [] (postOf Tryz.prog B (Tryz.f127.results.toList) R) = (True ∧ ((True ∧ (∀ (a : Addr) (c : Bool) (w : World),V127.b0 B R a c w → V127.b0 B R a c w) ∧ ((True ∧ True) ∧ (True ∧ ((True ∧ True) ∧ True)))) ∧ ((true = true) ∧ ((True ∧ (((True ∧ (True ∧ ((True ∧ True) ∧ True))) ∧ (True ∧ True)) ∧ True)) ∧ (True ∧ ((true = true) ∧ True)))))) := by kernel_rfl
 exact e.mpr (⟨trivial,⟨⟨trivial,fun a c w h => h,⟨⟨trivial,trivial⟩,⟨trivial,⟨⟨trivial,trivial⟩,trivial⟩⟩⟩⟩,⟨rfl,⟨⟨trivial,⟨⟨⟨trivial,⟨trivial,⟨⟨trivial,trivial⟩,trivial⟩⟩⟩,⟨trivial,trivial⟩⟩,trivial⟩⟩,⟨trivial,⟨rfl,trivial⟩⟩⟩⟩⟩⟩)
theorem V127.cfgOk (B : Nat) : CfgOk (V127.cfg B) := cfgOk_of (by kernel_rfl) (by kernel_rfl) extNil
theorem V127.sound {a : Addr} {w : World} {R : Value → World → Prop} (h : V127.vc w.heap.size R a w) : Calls Tryz.prog 127 ⟨[.pointer (some a)]⟩ w fun e w' => ∃ v,e = .returned v ∧ R v w' :=
 calls_wpfP (c := V127.cfg w.heap.size) (fn := Tryz.f127) (x := V127.code) (V127.cuts w.heap.size R) V127.h (V127.cfgOk _) mixed Tryz.func127 (by kernel_rfl) (by kernel_rfl) (by kernel_rfl) rfl (V127.obl _ _) ((V127.vc_eq _ _ a _).symm ▸ h)
def V82.vc (B : Nat) (R : Value → World → Prop) (a : Addr) (w : World) : Prop :=
 CallK Tryz.prog 127 [.pointer (some a)] B w [] fun v c => 
 ∃ (d : Int) (f : Bool),v = .tuple ⟨[.int .i64 d,.bool f]⟩ ∧
 if (!f) = true
 then (Ret B c (R (.int .i64 0)))
 else (∃ (g : Option Addr) (i j : Nat),c.cell? ((a.add 0).add 0) = some (.slice g i j) ∧
 ∃ l : Addr,g = some l ∧ (0 : Int) ≤ d ∧ d < (i : Int) ∧
 ∃ m : Int,c.cell? ((l.add (d.toNat * 4)).add 0) = some (.int .i64 m) ∧
 ∃ n : Int,c.cell? ((l.add (d.toNat * 4)).add 1) = some (.int .i64 n) ∧
 ∃ o : Int,c.cell? ((l.add (d.toNat * 4)).add 2) = some (.int .i64 o) ∧
 ∃ (p : Option Addr) (q r : Nat),c.cell? ((l.add (d.toNat * 4)).add 3) = some (.slice p q r) ∧
 CallK Tryz.prog 61 [.agg ⟨[.int .i64 m,.int .i64 n,.int .i64 o,.slice p q r]⟩] B c [] fun s t => 
 ∃ u : Int,s = .int .i64 u ∧
 Ret B t (R (.int .i64 u)))
noncomputable def V82.cfg (B : Nat) : Cfg := ⟨Tryz.prog,⟨21,B⟩,[],hasN [61,127],hasN [],look []⟩
noncomputable def V82.code : Code := (Tryz.f82.body).getD .skip
noncomputable def V82.cuts (B : Nat) (R : Value → World → Prop) : Nat → Cut := nthC []
noncomputable def V82.h : H := .s (.z) (.s (.z) (.s (.s (.z) (.c (.s (.z) (.z)) (.z))) (.s (.z) (.z))))
theorem V82.vc_eq (B : Nat) (R : Value → World → Prop) (a : Addr) (w : World) : wpf (V82.cfg B) (V82.cuts B R) V82.code V82.h [] (postOf Tryz.prog B (Tryz.f82.results.toList) R) (argE 0 [.pointer (some a)]) [] w = V82.vc B R a w := by kernel_rfl
theorem V82.obl (B : Nat) (R : Value → World → Prop) : oblP (V82.cfg B) (V82.cuts B R) V82.code V82.h [] (postOf Tryz.prog B (Tryz.f82.results.toList) R) := by
 have e : oblP (V82.cfg B) (V82.cuts B R) V82.code V82.h [] (postOf Tryz.prog B (Tryz.f82.results.toList) R) = (True ∧ (True ∧ ((True ∧ ((True ∧ True) ∧ True)) ∧ (True ∧ True)))) := by kernel_rfl
 exact e.mpr (⟨trivial,⟨trivial,⟨⟨trivial,⟨⟨trivial,trivial⟩,trivial⟩⟩,⟨trivial,trivial⟩⟩⟩⟩)
theorem V82.cfgOk (B : Nat) : CfgOk (V82.cfg B) := cfgOk_of (by kernel_rfl) (by kernel_rfl) extNil
theorem V82.sound {a : Addr} {w : World} {R : Value → World → Prop} (h : V82.vc w.heap.size R a w) : Calls Tryz.prog 82 ⟨[.pointer (some a)]⟩ w fun e w' => ∃ v,e = .returned v ∧ R v w' :=
 calls_wpfP (c := V82.cfg w.heap.size) (fn := Tryz.f82) (x := V82.code) (V82.cuts w.heap.size R) V82.h (V82.cfgOk _) mixed Tryz.func82 (by kernel_rfl) (by kernel_rfl) (by kernel_rfl) rfl (V82.obl _ _) ((V82.vc_eq _ _ a _).symm ▸ h)
def V124.vc (B : Nat) (R : Value → World → Prop) (a : Addr) (c d : Int) (w : World) : Prop :=
 ∃ (f : Option Addr) (g i : Nat),w.cell? (a.add 7) = some (.slice f g i) ∧
 Expo B w [] fun j => 
 let l := j.alloc (.cells ⟨[.int .i64 c,.int .u64 d]⟩ 57);
 RunK Tryz.prog (Builtin.append_ #[45,45] 45 ⟨[.slice f g i,.slice (some ⟨j.heap.size,0,none⟩) 1 1]⟩) B l [] fun v m => 
 ∃ (n : Option Addr) (o p : Nat),v = .slice n o p ∧
 (∃ u,m.cell? ((a.add 7).add 0) = some u) ∧ m.frozen? ((a.add 7).add 0) = false ∧
 let q := m.setCell ((a.add 7).add 0) (.slice n o p);
 Ret B q (R (.tuple ⟨[]⟩))
noncomputable def V124.cfg (B : Nat) : Cfg := ⟨Tryz.prog,⟨18,B⟩,[],hasN [],hasN [],look []⟩
noncomputable def V124.code : Code := (Tryz.f124.body).getD .skip
noncomputable def V124.cuts (B : Nat) (R : Value → World → Prop) : Nat → Cut := nthC []
noncomputable def V124.h : H := .z
theorem V124.vc_eq (B : Nat) (R : Value → World → Prop) (a : Addr) (c d : Int) (w : World) : wpf (V124.cfg B) (V124.cuts B R) V124.code V124.h [] (postOf Tryz.prog B (Tryz.f124.results.toList) R) (argE 0 [.pointer (some a),.int .i64 c,.int .u64 d]) [] w = V124.vc B R a c d w := by kernel_rfl
theorem V124.obl (B : Nat) (R : Value → World → Prop) : oblP (V124.cfg B) (V124.cuts B R) V124.code V124.h [] (postOf Tryz.prog B (Tryz.f124.results.toList) R) := by
 have e : oblP (V124.cfg B) (V124.cuts B R) V124.code V124.h [] (postOf Tryz.prog B (Tryz.f124.results.toList) R) = True := by kernel_rfl
 exact e.mpr (trivial)
theorem V124.cfgOk (B : Nat) : CfgOk (V124.cfg B) := cfgOk_of (by kernel_rfl) (by kernel_rfl) extNil
theorem V124.sound {a : Addr} {d f : Int} {w : World} {R : Value → World → Prop} (h : V124.vc w.heap.size R a d f w) : Calls Tryz.prog 124 ⟨[.pointer (some a),.int .i64 d,.int .u64 f]⟩ w fun e w' => ∃ v,e = .returned v ∧ R v w' :=
 calls_wpfP (c := V124.cfg w.heap.size) (fn := Tryz.f124) (x := V124.code) (V124.cuts w.heap.size R) V124.h (V124.cfgOk _) mixed Tryz.func124 (by kernel_rfl) (by kernel_rfl) (by kernel_rfl) rfl (V124.obl _ _) ((V124.vc_eq _ _ a d f _).symm ▸ h)
def V77.vc (B : Nat) (R : Value → World → Prop) (a : Addr) (c : Int) (d : Option Addr) (f g : Nat) (i : Bool) (w : World) : Prop :=
 ∃ (j : Option Addr) (l m : Nat),w.cell? ((a.add 0).add 0) = some (.slice j l m) ∧
 ∃ n : Addr,j = some n ∧ (0 : Int) ≤ c ∧ c < (l : Int) ∧
 ∃ o : Int,w.cell? ((n.add (c.toNat * 4)).add 1) = some (.int .i64 o) ∧
 RunK Tryz.prog (Instr.makeSlice 31 (.int .i64 o) (.int .i64 o)) B w [] fun v p => 
 ∃ (q : Option Addr) (r s : Nat),v = .slice q r s ∧
 RunK Tryz.prog (Builtin.copy_ #[31,31] 3 ⟨[.slice q r s,.slice d f g]⟩) B p [] fun t x => 
 ∃ y : Int,t = .int .i64 y ∧
 ∃ (z : Option Addr) (A C : Nat),x.cell? (a.add 6) = some (.slice z A C) ∧
 Expo B x [] fun D => 
 let E := D.alloc (.cells ⟨[.int .i64 c,.int .i64 0,.int .i64 0,.bool i,.int .u64 0,.slice none 0 0,.slice q r s,.slice none 0 0]⟩ 99);
 RunK Tryz.prog (Builtin.append_ #[40,40] 40 ⟨[.slice z A C,.slice (some ⟨D.heap.size,0,none⟩) 1 1]⟩) B E [] fun F G => 
 ∃ (I : Option Addr) (J L : Nat),F = .slice I J L ∧
 (∃ u,G.cell? ((a.add 6).add 0) = some u) ∧ G.frozen? ((a.add 6).add 0) = false ∧
 let M := G.setCell ((a.add 6).add 0) (.slice I J L);
 Ret B M (R (.tuple ⟨[]⟩))
noncomputable def V77.cfg (B : Nat) : Cfg := ⟨Tryz.prog,⟨35,B⟩,[],hasN [],hasN [],look []⟩
noncomputable def V77.code : Code := (Tryz.f77.body).getD .skip
noncomputable def V77.cuts (B : Nat) (R : Value → World → Prop) : Nat → Cut := nthC []
noncomputable def V77.h : H := .s (.z) (.s (.z) (.z))
theorem V77.vc_eq (B : Nat) (R : Value → World → Prop) (a : Addr) (c : Int) (d : Option Addr) (f g : Nat) (i : Bool) (w : World) : wpf (V77.cfg B) (V77.cuts B R) V77.code V77.h [] (postOf Tryz.prog B (Tryz.f77.results.toList) R) (argE 0 [.pointer (some a),.int .i64 c,.slice d f g,.bool i]) [] w = V77.vc B R a c d f g i w := by kernel_rfl
theorem V77.obl (B : Nat) (R : Value → World → Prop) : oblP (V77.cfg B) (V77.cuts B R) V77.code V77.h [] (postOf Tryz.prog B (Tryz.f77.results.toList) R) := by
 have e : oblP (V77.cfg B) (V77.cuts B R) V77.code V77.h [] (postOf Tryz.prog B (Tryz.f77.results.toList) R) = (True ∧ (True ∧ True)) := by kernel_rfl
 exact e.mpr (⟨trivial,⟨trivial,trivial⟩⟩)
theorem V77.cfgOk (B : Nat) : CfgOk (V77.cfg B) := cfgOk_of (by kernel_rfl) (by kernel_rfl) extNil
theorem V77.sound {a : Addr} {d : Int} {f : Option Addr} {g i : Nat} {j : Bool} {w : World} {R : Value → World → Prop} (h : V77.vc w.heap.size R a d f g i j w) : Calls Tryz.prog 77 ⟨[.pointer (some a),.int .i64 d,.slice f g i,.bool j]⟩ w fun e w' => ∃ v,e = .returned v ∧ R v w' :=
 calls_wpfP (c := V77.cfg w.heap.size) (fn := Tryz.f77) (x := V77.code) (V77.cuts w.heap.size R) V77.h (V77.cfgOk _) mixed Tryz.func77 (by kernel_rfl) (by kernel_rfl) (by kernel_rfl) rfl (V77.obl _ _) ((V77.vc_eq _ _ a d f g i j _).symm ▸ h)
def V123.vc (B : Nat) (R : Value → World → Prop) (a : Addr) (w : World) : Prop :=
 ∃ (c : Option Addr) (d f : Nat),w.cell? (a.add 6) = some (.slice c d f) ∧
 ∃ (g : Option Addr) (i j : Nat),w.cell? (a.add 6) = some (.slice g i j) ∧
 ∃ l : Addr,g = some l ∧ (0 : Int) ≤ IntKind.wrap .i64 ((d : Int) - 1) ∧ IntKind.wrap .i64 ((d : Int) - 1) < (i : Int) ∧
 ∃ m : Bool,w.cell? ((l.add ((IntKind.wrap .i64 ((d : Int) - 1)).toNat * 8)).add 3) = some (.bool m) ∧
 if (!m) = false
 then (∃ (n : Option Addr) (o p : Nat),w.cell? (a.add 6) = some (.slice n o p) ∧
 ∃ q : Addr,n = some q ∧ (0 : Int) ≤ IntKind.wrap .i64 ((d : Int) - 2) ∧ IntKind.wrap .i64 ((d : Int) - 2) < (o : Int) ∧
 ∃ r : Int,w.cell? ((q.add ((IntKind.wrap .i64 ((d : Int) - 2)).toNat * 8)).add 2) = some (.int .i64 r) ∧
 if (r != 2) = true
 then (CallK Tryz.prog 42 [.int .i64 0] B w [] fun v s => 
 ∃ t : Int,v = .int .u64 t ∧
 CallK Tryz.prog 42 [.int .i64 0] B s [] fun x y => 
 ∃ z : Int,x = .int .u64 z ∧
 Expo B y [] fun A => 
 let C := A.alloc (.cells ⟨[.int .u64 t,.int .u64 z]⟩ 55);
 Ret B C (R (.slice (some ⟨A.heap.size,0,none⟩) 2 2)))
 else (∃ (D : Option Addr) (E F : Nat),w.cell? (a.add 6) = some (.slice D E F) ∧
 ∃ G : Addr,D = some G ∧ (0 : Int) ≤ IntKind.wrap .i64 ((d : Int) - 2) ∧ IntKind.wrap .i64 ((d : Int) - 2) < (E : Int) ∧
 ∃ I : Int,w.cell? ((G.add ((IntKind.wrap .i64 ((d : Int) - 2)).toNat * 8)).add 4) = some (.int .u64 I) ∧
 CallK Tryz.prog 124 [.pointer (some a),.int .i64 2,.int .u64 I] B w [] fun v s => 
 v = .tuple ⟨[]⟩ ∧
 CallK Tryz.prog 42 [.int .i64 0] B s [] fun x y => 
 ∃ J : Int,x = .int .u64 J ∧
 (∃ u,y.cell? (((G.add ((IntKind.wrap .i64 ((d : Int) - 2)).toNat * 8)).add 2).add 0) = some u) ∧ y.frozen? (((G.add ((IntKind.wrap .i64 ((d : Int) - 2)).toNat * 8)).add 2).add 0) = false ∧
 let A := y.setCell (((G.add ((IntKind.wrap .i64 ((d : Int) - 2)).toNat * 8)).add 2).add 0) (.int .i64 1);
 (∃ u_1,A.cell? (((G.add ((IntKind.wrap .i64 ((d : Int) - 2)).toNat * 8)).add 4).add 0) = some u_1) ∧ A.frozen? (((G.add ((IntKind.wrap .i64 ((d : Int) - 2)).toNat * 8)).add 4).add 0) = false ∧
 let C := A.setCell (((G.add ((IntKind.wrap .i64 ((d : Int) - 2)).toNat * 8)).add 4).add 0) (.int .u64 J);
 CallK Tryz.prog 42 [.int .i64 1] B C [] fun L M => 
 ∃ N : Int,L = .int .u64 N ∧
 Expo B M [] fun O => 
 let P := O.alloc (.cells ⟨[.int .u64 I,.int .u64 N]⟩ 55);
 Ret B P (R (.slice (some ⟨O.heap.size,0,none⟩) 2 2))))
 else (CallK Tryz.prog 42 [.int .i64 0] B w [] fun v s => 
 ∃ t : Int,v = .int .u64 t ∧
 CallK Tryz.prog 42 [.int .i64 0] B s [] fun x y => 
 ∃ z : Int,x = .int .u64 z ∧
 Expo B y [] fun A => 
 let C := A.alloc (.cells ⟨[.int .u64 t,.int .u64 z]⟩ 55);
 Ret B C (R (.slice (some ⟨A.heap.size,0,none⟩) 2 2)))
noncomputable def V123.cfg (B : Nat) : Cfg := ⟨Tryz.prog,⟨60,B⟩,[],hasN [42,124],hasN [],look []⟩
noncomputable def V123.code : Code := (Tryz.f123.body).getD .skip
noncomputable def V123.cuts (B : Nat) (R : Value → World → Prop) : Nat → Cut := nthC []
noncomputable def V123.h : H := .s (.z) (.s (.z) (.s (.s (.z) (.c (.s (.z) (.z)) (.z))) (.s (.z) (.s (.z) (.s (.z) (.s (.z) (.s (.z) (.z))))))))
theorem V123.vc_eq (B : Nat) (R : Value → World → Prop) (a : Addr) (w : World) : wpf (V123.cfg B) (V123.cuts B R) V123.code V123.h [] (postOf Tryz.prog B (Tryz.f123.results.toList) R) (argE 0 [.pointer (some a)]) [] w = V123.vc B R a w := by kernel_rfl
theorem V123.obl (B : Nat) (R : Value → World → Prop) : oblP (V123.cfg B) (V123.cuts B R) V123.code V123.h [] (postOf Tryz.prog B (Tryz.f123.results.toList) R) := by
 have e : oblP (V123.cfg B) (V123.cuts B R) V123.code V123.h [] (postOf Tryz.prog B (Tryz.f123.results.toList) R) = (True ∧ (True ∧ ((True ∧ ((True ∧ True) ∧ True)) ∧ (True ∧ (True ∧ (True ∧ (True ∧ (True ∧ True)))))))) := by kernel_rfl
 exact e.mpr (⟨trivial,⟨trivial,⟨⟨trivial,⟨⟨trivial,trivial⟩,trivial⟩⟩,⟨trivial,⟨trivial,⟨trivial,⟨trivial,⟨trivial,trivial⟩⟩⟩⟩⟩⟩⟩⟩)
theorem V123.cfgOk (B : Nat) : CfgOk (V123.cfg B) := cfgOk_of (by kernel_rfl) (by kernel_rfl) extNil
theorem V123.sound {a : Addr} {w : World} {R : Value → World → Prop} (h : V123.vc w.heap.size R a w) : Calls Tryz.prog 123 ⟨[.pointer (some a)]⟩ w fun e w' => ∃ v,e = .returned v ∧ R v w' :=
 calls_wpfP (c := V123.cfg w.heap.size) (fn := Tryz.f123) (x := V123.code) (V123.cuts w.heap.size R) V123.h (V123.cfgOk _) mixed Tryz.func123 (by kernel_rfl) (by kernel_rfl) (by kernel_rfl) rfl (V123.obl _ _) ((V123.vc_eq _ _ a _).symm ▸ h)
def V79.b0 (B : Nat) (R : Value → World → Prop) (a : Addr) (c : Int) (d f : Bool) (g : Nat) (i j l : Int) (m : Bool) (n : Int) (o : Option Addr) (p q : Nat) (r : Option Addr) (s t : Nat) (x : Option Addr) (y z : Nat) (w : World) : Prop :=
 if f = true
 then ((∃ u,w.cell? ((a.add 3).add 0) = some u) ∧ w.frozen? ((a.add 3).add 0) = false ∧
 let A := w.setCell ((a.add 3).add 0) (.bool true);
 CallK Tryz.prog 124 [.pointer (some a),.int .i64 4,.int .u64 n] B A [g] fun v C => 
 v = .tuple ⟨[]⟩ ∧
 Ret B C (R (.tuple ⟨[]⟩)))
 else (if (c == 1) = true
 then ((∃ u,w.cell? ((a.add 3).add 0) = some u) ∧ w.frozen? ((a.add 3).add 0) = false ∧
 let A := w.setCell ((a.add 3).add 0) (.bool true);
 CallK Tryz.prog 124 [.pointer (some a),.int .i64 3,.int .u64 n] B A [g] fun v C => 
 v = .tuple ⟨[]⟩ ∧
 Ret B C (R (.tuple ⟨[]⟩)))
 else (if d = true
 then (∃ (D : Option Addr) (E F : Nat),w.cell? (a.add 6) = some (.slice D E F) ∧
 ∃ (G : Option Addr) (I J : Nat),w.cell? (a.add 6) = some (.slice G I J) ∧
 ∃ L : Addr,D = some L ∧ (0 : Int) ≤ IntKind.wrap .i64 (c - 2) ∧ IntKind.wrap .i64 (c - 2) < (E : Int) ∧
 (∃ u,w.cell? (((L.add ((IntKind.wrap .i64 (c - 2)).toNat * 8)).add 2).add 0) = some u) ∧ w.frozen? (((L.add ((IntKind.wrap .i64 (c - 2)).toNat * 8)).add 2).add 0) = false ∧
 let A := w.setCell (((L.add ((IntKind.wrap .i64 (c - 2)).toNat * 8)).add 2).add 0) (.int .i64 2);
 ∃ M : Addr,G = some M ∧ (0 : Int) ≤ IntKind.wrap .i64 (c - 2) ∧ IntKind.wrap .i64 (c - 2) < (I : Int) ∧
 (∃ u_1,A.cell? (((M.add ((IntKind.wrap .i64 (c - 2)).toNat * 8)).add 4).add 0) = some u_1) ∧ A.frozen? (((M.add ((IntKind.wrap .i64 (c - 2)).toNat * 8)).add 4).add 0) = false ∧
 let C := A.setCell (((M.add ((IntKind.wrap .i64 (c - 2)).toNat * 8)).add 4).add 0) (.int .u64 n);
 Ret B C (R (.tuple ⟨[]⟩)))
 else (if (!m) = true
 then (∃ (N : Option Addr) (O P : Nat),w.cell? (a.add 6) = some (.slice N O P) ∧
 ∃ (Q : Option Addr) (S T : Nat),w.cell? (a.add 6) = some (.slice Q S T) ∧
 ∃ U : Addr,Q = some U ∧ (0 : Int) ≤ IntKind.wrap .i64 (c - 2) ∧ IntKind.wrap .i64 (c - 2) < (S : Int) ∧
 ∃ (W : Option Addr) (X Y : Nat),w.cell? ((U.add ((IntKind.wrap .i64 (c - 2)).toNat * 8)).add 7) = some (.slice W X Y) ∧
 Expo B w [g] fun A => 
 Hide [g] (A.alloc (.cells ⟨[.int .u64 n]⟩ 55)) fun C => 
 C.cell? ((U.add ((IntKind.wrap .i64 (c - 2)).toNat * 8)).add 7) = some (.slice W X Y) ∧ C.cell? (a.add 6) = some (.slice Q S T) ∧ C.cell? (a.add 6) = some (.slice N O P) ∧
 RunK Tryz.prog (Builtin.append_ #[31,31] 31 ⟨[.slice W X Y,.slice (some ⟨A.heap.size,0,none⟩) 1 1]⟩) B C [g] fun v Z => 
 ∃ (a0 : Option Addr) (a1 a2 : Nat),v = .slice a0 a1 a2 ∧ Z.cell? (a.add 6) = some (.slice N O P) ∧
 ∃ a3 : Addr,N = some a3 ∧ (0 : Int) ≤ IntKind.wrap .i64 (c - 2) ∧ IntKind.wrap .i64 (c - 2) < (O : Int) ∧
 (∃ u,Z.cell? (((a3.add ((IntKind.wrap .i64 (c - 2)).toNat * 8)).add 7).add 0) = some u) ∧ Z.frozen? (((a3.add ((IntKind.wrap .i64 (c - 2)).toNat * 8)).add 7).add 0) = false ∧
 let a4 := Z.setCell (((a3.add ((IntKind.wrap .i64 (c - 2)).toNat * 8)).add 7).add 0) (.slice a0 a1 a2);
 Ret B a4 (R (.tuple ⟨[]⟩)))
 else (Ret B w (R (.tuple ⟨[]⟩))))))
def V79.vc (B : Nat) (R : Value → World → Prop) (c : Addr) (w : World) : Prop :=
 ∃ (d : Option Addr) (f g : Nat),w.cell? (c.add 6) = some (.slice d f g) ∧
 ∃ (i : Option Addr) (j l : Nat),w.cell? (c.add 6) = some (.slice i j l) ∧
 ∃ m : Addr,i = some m ∧ (0 : Int) ≤ IntKind.wrap .i64 ((f : Int) - 1) ∧ IntKind.wrap .i64 ((f : Int) - 1) < (j : Int) ∧
 ∃ (n : Option Addr) (o p : Nat),w.cell? ((m.add ((IntKind.wrap .i64 ((f : Int) - 1)).toNat * 8)).add 5) = some (.slice n o p) ∧
 if (decide ((o : Int) > 0)) = true
 then (∃ (q : Option Addr) (r s : Nat),w.cell? ((m.add ((IntKind.wrap .i64 ((f : Int) - 1)).toNat * 8)).add 5) = some (.slice q r s) ∧
 ∃ t : Addr,q = some t ∧ (0 : Int) ≤ IntKind.wrap .i64 ((o : Int) - 1) ∧ IntKind.wrap .i64 ((o : Int) - 1) < (r : Int) ∧
 ∃ x : Int,w.cell? ((t.add ((IntKind.wrap .i64 ((o : Int) - 1)).toNat * 2)).add 0) = some (.int .i64 x) ∧
 ∃ (y : Option Addr) (z A : Nat),w.cell? ((t.add ((IntKind.wrap .i64 ((o : Int) - 1)).toNat * 2)).add 1) = some (.slice y z A) ∧
 ∀ C : Nat,w.heap.size ≤ C →
 ∃ (D : Option Addr) (E F : Nat),w.cell? ((m.add ((IntKind.wrap .i64 ((f : Int) - 1)).toNat * 8)).add 5) = some (.slice D E F) ∧ (0 : Int) ≤ IntKind.wrap .i64 ((o : Int) - 1) ∧ IntKind.wrap .i64 ((o : Int) - 1) ≤ (F : Int) ∧
 (∃ u,w.cell? (((m.add ((IntKind.wrap .i64 ((f : Int) - 1)).toNat * 8)).add 5).add 0) = some u) ∧ w.frozen? (((m.add ((IntKind.wrap .i64 ((f : Int) - 1)).toNat * 8)).add 5).add 0) = false ∧
 let G := w.setCell (((m.add ((IntKind.wrap .i64 ((f : Int) - 1)).toNat * 8)).add 5).add 0) (.slice (if F = 0 then D else Option.map (fun a => a.add (0 * 2)) D) (((IntKind.wrap .i64 ((o : Int) - 1)).toNat) - 0) (F - 0));
 CallK Tryz.prog 77 [.pointer (some c),.int .i64 x,.slice y z A,.bool true] B G [C] fun v I => 
 v = .tuple ⟨[]⟩ ∧
 Ret B I (R (.tuple ⟨[]⟩)))
 else (∃ J : Int,w.cell? ((m.add ((IntKind.wrap .i64 ((f : Int) - 1)).toNat * 8)).add 0) = some (.int .i64 J) ∧
 ∃ L : Int,w.cell? ((m.add ((IntKind.wrap .i64 ((f : Int) - 1)).toNat * 8)).add 1) = some (.int .i64 L) ∧
 ∃ M : Int,w.cell? ((m.add ((IntKind.wrap .i64 ((f : Int) - 1)).toNat * 8)).add 2) = some (.int .i64 M) ∧
 ∃ N : Bool,w.cell? ((m.add ((IntKind.wrap .i64 ((f : Int) - 1)).toNat * 8)).add 3) = some (.bool N) ∧
 ∃ O : Int,w.cell? ((m.add ((IntKind.wrap .i64 ((f : Int) - 1)).toNat * 8)).add 4) = some (.int .u64 O) ∧
 ∃ (P : Option Addr) (Q S : Nat),w.cell? ((m.add ((IntKind.wrap .i64 ((f : Int) - 1)).toNat * 8)).add 5) = some (.slice P Q S) ∧
 ∃ (T : Option Addr) (U W : Nat),w.cell? ((m.add ((IntKind.wrap .i64 ((f : Int) - 1)).toNat * 8)).add 6) = some (.slice T U W) ∧
 ∃ (X : Option Addr) (Y Z : Nat),w.cell? ((m.add ((IntKind.wrap .i64 ((f : Int) - 1)).toNat * 8)).add 7) = some (.slice X Y Z) ∧
 ∀ q6 : Nat,w.heap.size ≤ q6 →
 ∃ (a1 : Option Addr) (a2 a3 : Nat),w.cell? (c.add 6) = some (.slice a1 a2 a3) ∧ (0 : Int) ≤ IntKind.wrap .i64 ((f : Int) - 1) ∧ IntKind.wrap .i64 ((f : Int) - 1) ≤ (a3 : Int) ∧
 (∃ u,w.cell? ((c.add 6).add 0) = some u) ∧ w.frozen? ((c.add 6).add 0) = false ∧
 let G := w.setCell ((c.add 6).add 0) (.slice (if a3 = 0 then a1 else Option.map (fun a => a.add (0 * 8)) a1) (((IntKind.wrap .i64 ((f : Int) - 1)).toNat) - 0) (a3 - 0));
 if ((f : Int) == 1) = true
 then (V79.b0 B R c (f : Int) (M == 2) (M == 2) q6 J L M N O P Q S T U W X Y Z G)
 else (V79.b0 B R c (f : Int) (M == 2) false q6 J L M N O P Q S T U W X Y Z G))
noncomputable def V79.cfg (B : Nat) : Cfg := ⟨Tryz.prog,⟨135,B⟩,[],hasN [77,124],hasN [],look []⟩
noncomputable def V79.code : Code := (Tryz.f79.body).getD .skip
noncomputable def V79.cuts (B : Nat) (R : Value → World → Prop) : Nat → Cut := nthC [⟨[(0,.one (.ptr)),(2,.one (.int .i64)),(7,.one (.bool)),(67,.one (.bool))],[(6,99,[.int .i64,.int .i64,.int .i64,.bool,.int .u64,.slice,.slice,.slice])],fun fs vs bs w => V79.b0 B R (pV (nthV vs 0)) (iV (nthV vs 1)) (bV (nthV vs 2)) (bV (nthV vs 3)) (nthB bs 0).blk (iV (nthV (nthB bs 0).cells 0)) (iV (nthV (nthB bs 0).cells 1)) (iV (nthV (nthB bs 0).cells 2)) (bV (nthV (nthB bs 0).cells 3)) (iV (nthV (nthB bs 0).cells 4)) (slA (nthV (nthB bs 0).cells 5)) (slL (nthV (nthB bs 0).cells 5)) (slC (nthV (nthB bs 0).cells 5)) (slA (nthV (nthB bs 0).cells 6)) (slL (nthV (nthB bs 0).cells 6)) (slC (nthV (nthB bs 0).cells 6)) (slA (nthV (nthB bs 0).cells 7)) (slL (nthV (nthB bs 0).cells 7)) (slC (nthV (nthB bs 0).cells 7)) w⟩]
noncomputable def V79.h : H := .s (.z) (.s (.z) (.s (.s (.z) (.s (.z) (.c (.s (.z) (.s (.z) (.s (.z) (.z)))) (.z)))) (.s (.z) (.s (.z) (.s (.z) (.b (.cut 0 (.z) (.c (.s (.z) (.z)) (.s (.z) (.c (.s (.z) (.z)) (.s (.z) (.c (.r [[0,1,2,3,4,5,6,7,8,9,10,11,12,13,14,15,16,17,18,19]]) (.s (.z) (.c (.r [[0,1,2,3,4,5,6,7,8,9,10,11,12,13,14,15,16,17,18,19,20,21]]) (.z)))))))))))))))
theorem V79.vc_eq (B : Nat) (R : Value → World → Prop) (a : Addr) (w : World) : wpf (V79.cfg B) (V79.cuts B R) V79.code V79.h [] (postOf Tryz.prog B (Tryz.f79.results.toList) R) (argE 0 [.pointer (some a)]) [] w = V79.vc B R a w := by kernel_rfl
theorem V79.obl (B : Nat) (R : Value → World → Prop) : oblP (V79.cfg B) (V79.cuts B R) V79.code V79.h [] (postOf Tryz.prog B (Tryz.f79.results.toList) R) := by
 have e : oblP (V79.cfg B) (V79.cuts B R) V79.code V79.h [] (postOf Tryz.prog B (Tryz.f79.results.toList) R) = (True ∧ (True ∧ ((True ∧ (True ∧ ((True ∧ (True ∧ (True ∧ True))) ∧ True))) ∧ (True ∧ (True ∧ (True ∧ (True ∧ (∀ (a : Addr) (c : Int) (d f : Bool) (g : Nat) (i j l : Int) (m : Bool) (n : Int) (o : Option Addr) (p q : Nat) (r : Option Addr) (s t : Nat) (u : Option Addr) (x y : Nat) (w : World),V79.b0 B R a c d f g i j l m n o p q r s t u x y w → V79.b0 B R a c d f g i j l m n o p q r s t u x y w) ∧ ((True ∧ True) ∧ (True ∧ ((True ∧ True) ∧ (True ∧ ((true = true) ∧ (True ∧ ((true = true) ∧ True)))))))))))))) := by kernel_rfl
 exact e.mpr (⟨trivial,⟨trivial,⟨⟨trivial,⟨trivial,⟨⟨trivial,⟨trivial,⟨trivial,trivial⟩⟩⟩,trivial⟩⟩⟩,⟨trivial,⟨trivial,⟨trivial,⟨trivial,fun a c d f g i j l m n o p q r s t u x y w h => h,⟨⟨trivial,trivial⟩,⟨trivial,⟨⟨trivial,trivial⟩,⟨trivial,⟨rfl,⟨trivial,⟨rfl,trivial⟩⟩⟩⟩⟩⟩⟩⟩⟩⟩⟩⟩⟩⟩)
theorem V79.cfgOk (B : Nat) : CfgOk (V79.cfg B) := cfgOk_of (by kernel_rfl) (by kernel_rfl) extNil
theorem V79.sound {a : Addr} {w : World} {R : Value → World → Prop} (h : V79.vc w.heap.size R a w) : Calls Tryz.prog 79 ⟨[.pointer (some a)]⟩ w fun e w' => ∃ v,e = .returned v ∧ R v w' :=
 calls_wpfP (c := V79.cfg w.heap.size) (fn := Tryz.f79) (x := V79.code) (V79.cuts w.heap.size R) V79.h (V79.cfgOk _) mixed Tryz.func79 (by kernel_rfl) (by kernel_rfl) (by kernel_rfl) rfl (V79.obl _ _) ((V79.vc_eq _ _ a _).symm ▸ h)
def V39.vc (B : Nat) (R : Value → World → Prop) (a : Addr) (w : World) : Prop :=
 ∃ c : Bool,w.cell? (a.add 3) = some (.bool c) ∧
 if c = true
 then (Ret B w (R (.int .i64 7)))
 else (∃ d : Bool,w.cell? (a.add 4) = some (.bool d) ∧
 if d = true
 then (Ret B w (R (.int .i64 8)))
 else (∃ f : Bool,w.cell? (a.add 2) = some (.bool f) ∧
 if (!f) = true
 then ((∃ u,w.cell? ((a.add 2).add 0) = some u) ∧ w.frozen? ((a.add 2).add 0) = false ∧
 let g := w.setCell ((a.add 2).add 0) (.bool true);
 ∃ i : Int,g.cell? (a.add 1) = some (.int .i64 i) ∧
 CallK Tryz.prog 77 [.pointer (some a),.int .i64 i,.slice none 0 0,.bool false] B g [] fun v j => 
 v = .tuple ⟨[]⟩ ∧
 Ret B j (R (.int .i64 0)))
 else (∃ (l : Option Addr) (m n : Nat),w.cell? (a.add 6) = some (.slice l m n) ∧
 ∃ (o : Option Addr) (p q : Nat),w.cell? (a.add 6) = some (.slice o p q) ∧
 ∃ r : Addr,l = some r ∧ (0 : Int) ≤ IntKind.wrap .i64 ((p : Int) - 1) ∧ IntKind.wrap .i64 ((p : Int) - 1) < (m : Int) ∧
 ∃ s : Int,w.cell? ((r.add ((IntKind.wrap .i64 ((p : Int) - 1)).toNat * 8)).add 2) = some (.int .i64 s) ∧
 if (s == 0) = true
 then (CallK Tryz.prog 78 [.pointer (some a)] B w [] fun v g => 
 v = .tuple ⟨[]⟩ ∧
 Ret B g (R (.int .i64 0)))
 else (CallK Tryz.prog 79 [.pointer (some a)] B w [] fun v g => 
 v = .tuple ⟨[]⟩ ∧
 Ret B g (R (.int .i64 0))))))
noncomputable def V39.cfg (B : Nat) : Cfg := ⟨Tryz.prog,⟨50,B⟩,[],hasN [77,78,79],hasN [],look []⟩
noncomputable def V39.code : Code := (Tryz.f39.body).getD .skip
noncomputable def V39.cuts (B : Nat) (R : Value → World → Prop) : Nat → Cut := nthC []
noncomputable def V39.h : H := .s (.z) (.s (.b (.s (.z) (.c (.s (.z) (.z)) (.s (.z) (.c (.s (.z) (.z)) (.s (.z) (.c (.s (.z) (.z)) (.s (.z) (.c (.s (.z) (.z)) (.s (.r [[0,1,2,3,4,5,6,7,8,9,10,11,12,13,14]]) (.c (.z) (.z)))))))))))) (.s (.z) (.z)))
theorem V39.vc_eq (B : Nat) (R : Value → World → Prop) (a : Addr) (w : World) : wpf (V39.cfg B) (V39.cuts B R) V39.code V39.h [] (postOf Tryz.prog B (Tryz.f39.results.toList) R) (argE 0 [.pointer (some a)]) [] w = V39.vc B R a w := by kernel_rfl
theorem V39.obl (B : Nat) (R : Value → World → Prop) : oblP (V39.cfg B) (V39.cuts B R) V39.code V39.h [] (postOf Tryz.prog B (Tryz.f39.results.toList) R) := by
 have e : oblP (V39.cfg B) (V39.cuts B R) V39.code V39.h [] (postOf Tryz.prog B (Tryz.f39.results.toList) R) = (True ∧ ((True ∧ ((True ∧ True) ∧ (True ∧ ((True ∧ True) ∧ (True ∧ ((True ∧ True) ∧ (True ∧ ((True ∧ True) ∧ ((true = true) ∧ (True ∧ True)))))))))) ∧ (True ∧ True))) := by kernel_rfl
 exact e.mpr (⟨trivial,⟨⟨trivial,⟨⟨trivial,trivial⟩,⟨trivial,⟨⟨trivial,trivial⟩,⟨trivial,⟨⟨trivial,trivial⟩,⟨trivial,⟨⟨trivial,trivial⟩,⟨rfl,⟨trivial,trivial⟩⟩⟩⟩⟩⟩⟩⟩⟩⟩,⟨trivial,trivial⟩⟩⟩)
theorem V39.cfgOk (B : Nat) : CfgOk (V39.cfg B) := cfgOk_of (by kernel_rfl) (by kernel_rfl) extNil
theorem V39.sound {a : Addr} {w : World} {R : Value → World → Prop} (h : V39.vc w.heap.size R a w) : Calls Tryz.prog 39 ⟨[.pointer (some a)]⟩ w fun e w' => ∃ v,e = .returned v ∧ R v w' :=
 calls_wpfP (c := V39.cfg w.heap.size) (fn := Tryz.f39) (x := V39.code) (V39.cuts w.heap.size R) V39.h (V39.cfgOk _) mixed Tryz.func39 (by kernel_rfl) (by kernel_rfl) (by kernel_rfl) rfl (V39.obl _ _) ((V39.vc_eq _ _ a _).symm ▸ h)
def V41.vc (B : Nat) (R : Value → World → Prop) (a : Addr) (w : World) : Prop :=
 ∃ (c : Option Addr) (d f : Nat),w.cell? (a.add 7) = some (.slice c d f) ∧
 CallK Tryz.prog 55 [.slice c d f] B w [] fun v g => 
 ∃ (i : Option Addr) (j l : Nat),v = .slice i j l ∧
 Ret B g (R (.slice i j l))
noncomputable def V41.cfg (B : Nat) : Cfg := ⟨Tryz.prog,⟨10,B⟩,[],hasN [55],hasN [],look []⟩
noncomputable def V41.code : Code := (Tryz.f41.body).getD .skip
noncomputable def V41.cuts (B : Nat) (R : Value → World → Prop) : Nat → Cut := nthC []
noncomputable def V41.h : H := .s (.z) (.s (.s (.z) (.c (.s (.z) (.z)) (.z))) (.s (.z) (.z)))
theorem V41.vc_eq (B : Nat) (R : Value → World → Prop) (a : Addr) (w : World) : wpf (V41.cfg B) (V41.cuts B R) V41.code V41.h [] (postOf Tryz.prog B (Tryz.f41.results.toList) R) (argE 0 [.pointer (some a)]) [] w = V41.vc B R a w := by kernel_rfl
theorem V41.obl (B : Nat) (R : Value → World → Prop) : oblP (V41.cfg B) (V41.cuts B R) V41.code V41.h [] (postOf Tryz.prog B (Tryz.f41.results.toList) R) := by
 have e : oblP (V41.cfg B) (V41.cuts B R) V41.code V41.h [] (postOf Tryz.prog B (Tryz.f41.results.toList) R) = (True ∧ ((True ∧ ((True ∧ True) ∧ True)) ∧ (True ∧ True))) := by kernel_rfl
 exact e.mpr (⟨trivial,⟨⟨trivial,⟨⟨trivial,trivial⟩,trivial⟩⟩,⟨trivial,trivial⟩⟩⟩)
theorem V41.cfgOk (B : Nat) : CfgOk (V41.cfg B) := cfgOk_of (by kernel_rfl) (by kernel_rfl) extNil
theorem V41.sound {a : Addr} {w : World} {R : Value → World → Prop} (h : V41.vc w.heap.size R a w) : Calls Tryz.prog 41 ⟨[.pointer (some a)]⟩ w fun e w' => ∃ v,e = .returned v ∧ R v w' :=
 calls_wpfP (c := V41.cfg w.heap.size) (fn := Tryz.f41) (x := V41.code) (V41.cuts w.heap.size R) V41.h (V41.cfgOk _) mixed Tryz.func41 (by kernel_rfl) (by kernel_rfl) (by kernel_rfl) rfl (V41.obl _ _) ((V41.vc_eq _ _ a _).symm ▸ h)
def V83.l1 (B : Nat) (R : Value → World → Prop) (a : Option Addr → Nat → Nat → Option Addr → Nat → Nat → Int → Int → World → Prop) : Nat → Option Addr → Nat → Nat → Option Addr → Nat → Nat → Option Addr → Nat → Nat → Int → Int → Option Addr → Nat → Nat → Int → Int → Nat → Int → Int → Int → Bool → Int → Option Addr → Nat → Nat → Option Addr → Nat → Nat → Option Addr → Nat → Nat → World → Prop
 | 0 => fun _ _ _ _ _ _ _ _ _ _ _ _ _ _ _ _ _ _ _ _ _ _ _ _ _ _ _ _ _ _ _ _ => False
 | k + 1 => fun c d f g i j l m n o p q r s t u x y z A C D E F G I J L M N O w =>
 if (decide (u < t)) = true
 then (∃ P : Addr,q = some P ∧ (0 : Int) ≤ u ∧ u < (r : Int) ∧
 ∃ Q : Int,w.cell? ((P.add (u.toNat * 2)).add 0) = some (.int .i64 Q) ∧
 ∃ (S : Option Addr) (T U : Nat),w.cell? ((P.add (u.toNat * 2)).add 1) = some (.slice S T U) ∧
 ∀ W : Nat,w.heap.size ≤ W →
 CallK Tryz.prog 100 [.slice S T U] B w [W,x] fun v X => 
 ∃ (Y : Option Addr) (Z a0 : Nat),v = .slice Y Z a0 ∧
 Expo B X [W,x] fun a1 => 
 Hide [W,x] (a1.alloc (.cells ⟨[.int .i64 Q,.slice Y Z a0]⟩ 149)) fun a2 => 
 RunK Tryz.prog (Builtin.append_ #[97,97] 97 ⟨[.slice g i j,.slice (some ⟨a1.heap.size,0,none⟩) 1 1]⟩) B a2 [W,x] fun a3 a4 => 
 ∃ (a5 : Option Addr) (a6 a7 : Nat),a3 = .slice a5 a6 a7 ∧ (V83.l1 B R a k) c d f a5 a6 a7 l m n o p q r s t (IntKind.wrap .i64 (u + 1)) x y z A C D E F G I J L M N O a4)
 else (Expo B w [x] fun X => 
 Hide [x] (X.alloc (.cells ⟨[.int .i64 y,.int .i64 z,.int .i64 A,.bool C,.int .u64 D,.slice g i j,.slice I J L,.slice M N O]⟩ 99)) fun a1 => 
 RunK Tryz.prog (Builtin.append_ #[40,40] 40 ⟨[.slice c d f,.slice (some ⟨X.heap.size,0,none⟩) 1 1]⟩) B a1 [x] fun v a2 => 
 ∃ (a8 : Option Addr) (a9 c0 : Nat),v = .slice a8 a9 c0 ∧ a a8 a9 c0 l m n o (IntKind.wrap .i64 (p + 1)) a2)
def V83.l0 (B : Nat) (R : Value → World → Prop) : Nat → Option Addr → Nat → Nat → Option Addr → Nat → Nat → Int → Int → World → Prop
 | 0 => fun _ _ _ _ _ _ _ _ _ => False
 | k + 1 => fun a c d f g i j l w =>
 if (decide (l < j)) = true
 then (∃ m : Addr,f = some m ∧ (0 : Int) ≤ l ∧ l < (g : Int) ∧
 ∃ n : Int,w.cell? ((m.add (l.toNat * 8)).add 0) = some (.int .i64 n) ∧
 ∃ o : Int,w.cell? ((m.add (l.toNat * 8)).add 1) = some (.int .i64 o) ∧
 ∃ p : Int,w.cell? ((m.add (l.toNat * 8)).add 2) = some (.int .i64 p) ∧
 ∃ q : Bool,w.cell? ((m.add (l.toNat * 8)).add 3) = some (.bool q) ∧
 ∃ r : Int,w.cell? ((m.add (l.toNat * 8)).add 4) = some (.int .u64 r) ∧
 ∃ (s : Option Addr) (t u : Nat),w.cell? ((m.add (l.toNat * 8)).add 5) = some (.slice s t u) ∧
 ∃ (x : Option Addr) (y z : Nat),w.cell? ((m.add (l.toNat * 8)).add 6) = some (.slice x y z) ∧
 ∃ (A : Option Addr) (C D : Nat),w.cell? ((m.add (l.toNat * 8)).add 7) = some (.slice A C D) ∧
 ∀ E : Nat,w.heap.size ≤ E →
 CallK Tryz.prog 100 [.slice x y z] B w [E] fun v F => 
 ∃ (G : Option Addr) (I J : Nat),v = .slice G I J ∧
 CallK Tryz.prog 100 [.slice A C D] B F [E] fun L M => 
 ∃ (N : Option Addr) (O P : Nat),L = .slice N O P ∧
 ∃ Q,V83.l1 B R (V83.l0 B R k) Q a c d none 0 0 f g i j l s t u (t : Int) 0 E n o p q r s t u G I J N O P M)
 else (Ret B w (R (.slice a c d)))
def V83.vc (B : Nat) (R : Value → World → Prop) (a : Addr) (w : World) : Prop :=
 ∃ (c : Option Addr) (d f : Nat),w.cell? (a.add 6) = some (.slice c d f) ∧
 ∃ g,V83.l0 B R g none 0 0 c d f (d : Int) 0 w
noncomputable def V83.cfg (B : Nat) : Cfg := ⟨Tryz.prog,⟨53,B⟩,[],hasN [100],hasN [],look []⟩
noncomputable def V83.code : Code := (Tryz.f83.body).getD .skip
noncomputable def V83.cuts (B : Nat) (R : Value → World → Prop) : Nat → Cut := nthC [⟨[(3,.one (.slice)),(14,.one (.slice)),(15,.one (.int .i64)),(16,.one (.int .i64))],[],fun fs vs bs w => V83.l0 B R (nthN fs 0) (slA (nthV vs 0)) (slL (nthV vs 0)) (slC (nthV vs 0)) (slA (nthV vs 1)) (slL (nthV vs 1)) (slC (nthV vs 1)) (iV (nthV vs 2)) (iV (nthV vs 3)) w⟩,
 ⟨[(3,.one (.slice)),(6,.one (.slice)),(14,.one (.slice)),(15,.one (.int .i64)),(16,.one (.int .i64)),(29,.one (.slice)),(30,.one (.int .i64)),(31,.one (.int .i64))],[(5,99,[.int .i64,.int .i64,.int .i64,.bool,.int .u64,.slice,.slice,.slice])],fun fs vs bs w => V83.l1 B R (V83.l0 B R (nthN fs 1)) (nthN fs 0) (slA (nthV vs 0)) (slL (nthV vs 0)) (slC (nthV vs 0)) (slA (nthV vs 1)) (slL (nthV vs 1)) (slC (nthV vs 1)) (slA (nthV vs 2)) (slL (nthV vs 2)) (slC (nthV vs 2)) (iV (nthV vs 3)) (iV (nthV vs 4)) (slA (nthV vs 5)) (slL (nthV vs 5)) (slC (nthV vs 5)) (iV (nthV vs 6)) (iV (nthV vs 7)) (nthB bs 0).blk (iV (nthV (nthB bs 0).cells 0)) (iV (nthV (nthB bs 0).cells 1)) (iV (nthV (nthB bs 0).cells 2)) (bV (nthV (nthB bs 0).cells 3)) (iV (nthV (nthB bs 0).cells 4)) (slA (nthV (nthB bs 0).cells 5)) (slL (nthV (nthB bs 0).cells 5)) (slC (nthV (nthB bs 0).cells 5)) (slA (nthV (nthB bs 0).cells 6)) (slL (nthV (nthB bs 0).cells 6)) (slC (nthV (nthB bs 0).cells 6)) (slA (nthV (nthB bs 0).cells 7)) (slL (nthV (nthB bs 0).cells 7)) (slC (nthV (nthB bs 0).cells 7)) w⟩]
noncomputable def V83.h : H := .s (.z) (.s (.s (.z) (.c (.s (.z) (.z)) (.z))) (.s (.z) (.s (.s (.z) (.b (.l 0 (.s (.z) (.s (.c (.z) (.z)) (.s (.b (.s (.z) (.s (.r [[0,1,3,4,2,6,5,7,8,9]]) (.s (.z) (.s (.s (.z) (.b (.l 1 (.s (.z) (.s (.c (.z) (.z)) (.s (.b (.s (.z) (.r [[0,1,2,3,4,5,6,7,8,9]]))) (.z))))))) (.s (.z) (.z))))))) (.z))))))) (.s (.z) (.z)))))
theorem V83.vc_eq (B : Nat) (R : Value → World → Prop) (a : Addr) (w : World) : wpf (V83.cfg B) (V83.cuts B R) V83.code V83.h [] (postOf Tryz.prog B (Tryz.f83.results.toList) R) (argE 0 [.pointer (some a)]) [] w = V83.vc B R a w := by kernel_rfl
theorem V83.obl (B : Nat) (R : Value → World → Prop) : oblP (V83.cfg B) (V83.cuts B R) V83.code V83.h [] (postOf Tryz.prog B (Tryz.f83.results.toList) R) := by
 have e : oblP (V83.cfg B) (V83.cuts B R) V83.code V83.h [] (postOf Tryz.prog B (Tryz.f83.results.toList) R) = (True ∧ ((True ∧ ((True ∧ True) ∧ True)) ∧ (True ∧ ((True ∧ ((∀ (a : Option Addr) (c d : Nat) (f : Option Addr) (g i : Nat) (j l : Int) (w : World),¬ V83.l0 B R 0 a c d f g i j l w) ∧ (∀ m,∀ (a : Option Addr) (c d : Nat) (f : Option Addr) (g i : Nat) (j l : Int) (w : World),V83.l0 B R (m + 1) a c d f g i j l w → V83.l0 B R (m + 1) a c d f g i j l w) ∧ ∀ m : Nat,(True ∧ ((True ∧ True) ∧ ((True ∧ ((true = true) ∧ (True ∧ ((True ∧ ((∀ (a : Option Addr) (c d : Nat) (n : Option Addr) (o p : Nat) (f : Option Addr) (g i : Nat) (j l : Int) (q : Option Addr) (r s : Nat) (t u : Int) (x : Nat) (y z A : Int) (C : Bool) (D : Int) (E : Option Addr) (F G : Nat) (I : Option Addr) (J L : Nat) (M : Option Addr) (N O : Nat) (w : World),¬ V83.l1 B R (V83.l0 B R m) 0 a c d n o p f g i j l q r s t u x y z A C D E F G I J L M N O w) ∧ (∀ P,∀ (a : Option Addr) (c d : Nat) (n : Option Addr) (o p : Nat) (f : Option Addr) (g i : Nat) (j l : Int) (q : Option Addr) (r s : Nat) (t u : Int) (x : Nat) (y z A : Int) (C : Bool) (D : Int) (E : Option Addr) (F G : Nat) (I : Option Addr) (J L : Nat) (M : Option Addr) (N O : Nat) (w : World),V83.l1 B R (V83.l0 B R m) (P + 1) a c d n o p f g i j l q r s t u x y z A C D E F G I J L M N O w → V83.l1 B R (V83.l0 B R m) (P + 1) a c d n o p f g i j l q r s t u x y z A C D E F G I J L M N O w) ∧ ∀ P : Nat,(True ∧ ((True ∧ True) ∧ ((True ∧ (true = true)) ∧ True))))) ∧ (True ∧ True))))) ∧ True))))) ∧ (True ∧ True))))) := by kernel_rfl
 exact e.mpr (⟨trivial,⟨⟨trivial,⟨⟨trivial,trivial⟩,trivial⟩⟩,⟨trivial,⟨⟨trivial,⟨fun a c d f g i j l w h => h,fun _ a c d f g i j l w h => h,fun m => ⟨trivial,⟨⟨trivial,trivial⟩,⟨⟨trivial,⟨rfl,⟨trivial,⟨⟨trivial,⟨fun a c d n o p f g i j l q r s t u x y z A C D E F G I J L M N O w h => h,fun _ a c d n o p f g i j l q r s t u x y z A C D E F G I J L M N O w h => h,fun P => ⟨trivial,⟨⟨trivial,trivial⟩,⟨⟨trivial,rfl⟩,trivial⟩⟩⟩⟩⟩,⟨trivial,trivial⟩⟩⟩⟩⟩,trivial⟩⟩⟩⟩⟩,⟨trivial,trivial⟩⟩⟩⟩⟩)
theorem V83.cfgOk (B : Nat) : CfgOk (V83.cfg B) := cfgOk_of (by kernel_rfl) (by kernel_rfl) extNil
theorem V83.sound {a : Addr} {w : World} {R : Value → World → Prop} (h : V83.vc w.heap.size R a w) : Calls Tryz.prog 83 ⟨[.pointer (some a)]⟩ w fun e w' => ∃ v,e = .returned v ∧ R v w' :=
 calls_wpfP (c := V83.cfg w.heap.size) (fn := Tryz.f83) (x := V83.code) (V83.cuts w.heap.size R) V83.h (V83.cfgOk _) mixed Tryz.func83 (by kernel_rfl) (by kernel_rfl) (by kernel_rfl) rfl (V83.obl _ _) ((V83.vc_eq _ _ a _).symm ▸ h)
def V37.vc (B : Nat) (R : Value → World → Prop) (a : Option Addr) (c d : Nat) (f : Int) (w : World) : Prop :=
 ∀ g : Nat,w.heap.size ≤ g →
 CallK Tryz.prog 67 [.agg ⟨[.slice a c d]⟩] B w [g] fun v i => 
 ∃ j l m : Int,v = .tuple ⟨[.int .i64 j,.int .i64 l,.int .i64 m]⟩ ∧
 if (j != 0) = false
 then (if (decide (f < 0)) = false
 then (if (decide (f ≥ (c : Int))) = false
 then (∃ n : Addr,a = some n ∧ (0 : Int) ≤ f ∧ f < (c : Int) ∧
 ∃ o : Int,i.cell? ((n.add (f.toNat * 4)).add 0) = some (.int .i64 o) ∧
 if (o != 0) = true
 then (Ret B i (R (.pointer none)))
 else (CallK Tryz.prog 68 [.agg ⟨[.slice a c d]⟩] B i [g] fun p q => 
 ∃ (r : Option Addr) (s t : Nat),p = .agg ⟨[.slice r s t]⟩ ∧
 Expo B q [g] fun u => 
 Hide [g] (u.alloc (.cells ⟨[.slice r s t,.int .i64 f,.bool false,.bool false,.bool false,.int .u64 0,.slice none 0 0,.slice none 0 0]⟩ 130)) fun x => 
 Ret B x (R (.pointer (some (⟨u.heap.size,0,none⟩ : Addr))))))
 else (Ret B i (R (.pointer none))))
 else (Ret B i (R (.pointer none))))
 else (Ret B i (R (.pointer none)))
noncomputable def V37.cfg (B : Nat) : Cfg := ⟨Tryz.prog,⟨41,B⟩,[40],hasN [67,68],hasN [],look []⟩
noncomputable def V37.code : Code := (Tryz.f37.body).getD .skip
noncomputable def V37.cuts (B : Nat) (R : Value → World → Prop) : Nat → Cut := nthC []
noncomputable def V37.h : H := .s (.z) (.s (.s (.z) (.s (.z) (.c (.s (.z) (.z)) (.z)))) (.s (.z) (.z)))
theorem V37.vc_eq (B : Nat) (R : Value → World → Prop) (a : Option Addr) (c d : Nat) (f : Int) (w : World) : wpf (V37.cfg B) (V37.cuts B R) V37.code V37.h [] (postOf Tryz.prog B (Tryz.f37.results.toList) R) (argE 0 [.agg ⟨[.slice a c d]⟩,.int .i64 f]) [] w = V37.vc B R a c d f w := by kernel_rfl
theorem V37.obl (B : Nat) (R : Value → World → Prop) : oblP (V37.cfg B) (V37.cuts B R) V37.code V37.h [] (postOf Tryz.prog B (Tryz.f37.results.toList) R) := by
 have e : oblP (V37.cfg B) (V37.cuts B R) V37.code V37.h [] (postOf Tryz.prog B (Tryz.f37.results.toList) R) = (True ∧ ((True ∧ (True ∧ ((True ∧ True) ∧ True))) ∧ (True ∧ True))) := by kernel_rfl
 exact e.mpr (⟨trivial,⟨⟨trivial,⟨trivial,⟨⟨trivial,trivial⟩,trivial⟩⟩⟩,⟨trivial,trivial⟩⟩⟩)
theorem V37.cfgOk (B : Nat) : CfgOk (V37.cfg B) := cfgOk_of (by kernel_rfl) (by kernel_rfl) extNil
theorem V37.sound {a : Option Addr} {d f : Nat} {g : Int} {w : World} {R : Value → World → Prop} (h : V37.vc w.heap.size R a d f g w) : Calls Tryz.prog 37 ⟨[.agg ⟨[.slice a d f]⟩,.int .i64 g]⟩ w fun e w' => ∃ v,e = .returned v ∧ R v w' :=
 calls_wpfP (c := V37.cfg w.heap.size) (fn := Tryz.f37) (x := V37.code) (V37.cuts w.heap.size R) V37.h (V37.cfgOk _) mixed Tryz.func37 (by kernel_rfl) (by kernel_rfl) (by kernel_rfl) rfl (V37.obl _ _) ((V37.vc_eq _ _ a d f g _).symm ▸ h)
def V55.vc (B : Nat) (R : Value → World → Prop) (a : Option Addr) (c d : Nat) (w : World) : Prop :=
 if (Option.isNone a) = true
 then (Ret B w (R (.slice none 0 0)))
 else (Expo B w [] fun f => 
 let g := f.alloc (.cells ⟨[]⟩ 57);
 RunK Tryz.prog (Builtin.append_ #[45,45] 45 ⟨[.slice (some ⟨f.heap.size,0,none⟩) 0 0,.slice a c d]⟩) B g [] fun v i => 
 ∃ (j : Option Addr) (l m : Nat),v = .slice j l m ∧
 Ret B i (R (.slice j l m)))
noncomputable def V55.cfg (B : Nat) : Cfg := ⟨Tryz.prog,⟨8,B⟩,[],hasN [],hasN [],look []⟩
noncomputable def V55.code : Code := (Tryz.f55.body).getD .skip
noncomputable def V55.cuts (B : Nat) (R : Value → World → Prop) : Nat → Cut := nthC []
noncomputable def V55.h : H := .s (.z) (.s (.s (.z) (.c (.s (.z) (.z)) (.z))) (.s (.z) (.z)))
theorem V55.vc_eq (B : Nat) (R : Value → World → Prop) (a : Option Addr) (c d : Nat) (w : World) : wpf (V55.cfg B) (V55.cuts B R) V55.code V55.h [] (postOf Tryz.prog B (Tryz.f55.results.toList) R) (argE 0 [.slice a c d]) [] w = V55.vc B R a c d w := by kernel_rfl
theorem V55.obl (B : Nat) (R : Value → World → Prop) : oblP (V55.cfg B) (V55.cuts B R) V55.code V55.h [] (postOf Tryz.prog B (Tryz.f55.results.toList) R) := by
 have e : oblP (V55.cfg B) (V55.cuts B R) V55.code V55.h [] (postOf Tryz.prog B (Tryz.f55.results.toList) R) = (True ∧ ((True ∧ ((True ∧ True) ∧ True)) ∧ (True ∧ True))) := by kernel_rfl
 exact e.mpr (⟨trivial,⟨⟨trivial,⟨⟨trivial,trivial⟩,trivial⟩⟩,⟨trivial,trivial⟩⟩⟩)
theorem V55.cfgOk (B : Nat) : CfgOk (V55.cfg B) := cfgOk_of (by kernel_rfl) (by kernel_rfl) extNil
theorem V55.sound {a : Option Addr} {d f : Nat} {w : World} {R : Value → World → Prop} (h : V55.vc w.heap.size R a d f w) : Calls Tryz.prog 55 ⟨[.slice a d f]⟩ w fun e w' => ∃ v,e = .returned v ∧ R v w' :=
 calls_wpfP (c := V55.cfg w.heap.size) (fn := Tryz.f55) (x := V55.code) (V55.cuts w.heap.size R) V55.h (V55.cfgOk _) mixed Tryz.func55 (by kernel_rfl) (by kernel_rfl) (by kernel_rfl) rfl (V55.obl _ _) ((V55.vc_eq _ _ a d f _).symm ▸ h)
def V107.vc (B : Nat) (R : Value → World → Prop) (a c d : Int) (w : World) : Prop :=
 if (a == 5) = true
 then (CallK Tryz.prog 148 [.int .u64 c,.int .u64 d] B w [] fun v f => 
 ∃ g : Int,v = .int .u64 g ∧
 Ret B f (R (.int .u64 g)))
 else (if (a == 6) = true
 then (CallK Tryz.prog 149 [.int .u64 c,.int .u64 d] B w [] fun v f => 
 ∃ i : Int,v = .int .u64 i ∧
 Ret B f (R (.int .u64 i)))
 else (if (a == 7) = true
 then (CallK Tryz.prog 150 [.int .u64 c,.int .u64 d] B w [] fun v f => 
 ∃ j : Int,v = .int .u64 j ∧
 Ret B f (R (.int .u64 j)))
 else (if (a == 8) = true
 then (CallK Tryz.prog 151 [.int .u64 c,.int .u64 d] B w [] fun v f => 
 ∃ l : Int,v = .int .u64 l ∧
 Ret B f (R (.int .u64 l)))
 else (if (a == 11) = true
 then (CallK Tryz.prog 152 [.int .u64 c,.int .u64 d] B w [] fun v f => 
 ∃ m : Int,v = .int .u64 m ∧
 Ret B f (R (.int .u64 m)))
 else (if (a == 12) = true
 then (CallK Tryz.prog 153 [.int .u64 c,.int .u64 d] B w [] fun v f => 
 ∃ n : Int,v = .int .u64 n ∧
 Ret B f (R (.int .u64 n)))
 else (if (a == 13) = true
 then (CallK Tryz.prog 155 [.int .u64 c,.int .u64 d] B w [] fun v f => 
 ∃ o : Bool,v = .bool o ∧
 CallK Tryz.prog 154 [.bool o] B f [] fun p q => 
 ∃ r : Int,p = .int .u64 r ∧
 Ret B q (R (.int .u64 r)))
 else (CallK Tryz.prog 156 [.int .u64 c,.int .u64 d] B w [] fun v f => 
 ∃ s : Bool,v = .bool s ∧
 CallK Tryz.prog 154 [.bool s] B f [] fun p q => 
 ∃ t : Int,p = .int .u64 t ∧
 Ret B q (R (.int .u64 t)))))))))
noncomputable def V107.cfg (B : Nat) : Cfg := ⟨Tryz.prog,⟨48,B⟩,[],hasN [148,149,150,151,152,153,154,155,156],hasN [],look []⟩
noncomputable def V107.code : Code := (Tryz.f107.body).getD .skip
noncomputable def V107.cuts (B : Nat) (R : Value → World → Prop) : Nat → Cut := nthC []
noncomputable def V107.h : H := .s (.z) (.s (.s (.z) (.b (.s (.z) (.c (.s (.z) (.z)) (.s (.z) (.c (.s (.z) (.z)) (.s (.z) (.c (.s (.z) (.z)) (.s (.z) (.c (.s (.z) (.z)) (.s (.z) (.c (.s (.z) (.z)) (.s (.z) (.c (.s (.z) (.z)) (.s (.z) (.c (.s (.z) (.z)) (.z))))))))))))))))) (.s (.z) (.z)))
theorem V107.vc_eq (B : Nat) (R : Value → World → Prop) (a c d : Int) (w : World) : wpf (V107.cfg B) (V107.cuts B R) V107.code V107.h [] (postOf Tryz.prog B (Tryz.f107.results.toList) R) (argE 0 [.int .i64 a,.int .u64 c,.int .u64 d]) [] w = V107.vc B R a c d w := by kernel_rfl
theorem V107.obl (B : Nat) (R : Value → World → Prop) : oblP (V107.cfg B) (V107.cuts B R) V107.code V107.h [] (postOf Tryz.prog B (Tryz.f107.results.toList) R) := by
 have e : oblP (V107.cfg B) (V107.cuts B R) V107.code V107.h [] (postOf Tryz.prog B (Tryz.f107.results.toList) R) = (True ∧ ((True ∧ (True ∧ ((True ∧ True) ∧ (True ∧ ((True ∧ True) ∧ (True ∧ ((True ∧ True) ∧ (True ∧ ((True ∧ True) ∧ (True ∧ ((True ∧ True) ∧ (True ∧ ((True ∧ True) ∧ (True ∧ ((True ∧ True) ∧ True))))))))))))))) ∧ (True ∧ True))) := by kernel_rfl
 exact e.mpr (⟨trivial,⟨⟨trivial,⟨trivial,⟨⟨trivial,trivial⟩,⟨trivial,⟨⟨trivial,trivial⟩,⟨trivial,⟨⟨trivial,trivial⟩,⟨trivial,⟨⟨trivial,trivial⟩,⟨trivial,⟨⟨trivial,trivial⟩,⟨trivial,⟨⟨trivial,trivial⟩,⟨trivial,⟨⟨trivial,trivial⟩,trivial⟩⟩⟩⟩⟩⟩⟩⟩⟩⟩⟩⟩⟩⟩⟩,⟨trivial,trivial⟩⟩⟩)
theorem V107.cfgOk (B : Nat) : CfgOk (V107.cfg B) := cfgOk_of (by kernel_rfl) (by kernel_rfl) extNil
theorem V107.sound {a d f : Int} {w : World} {R : Value → World → Prop} (h : V107.vc w.heap.size R a d f w) : Calls Tryz.prog 107 ⟨[.int .i64 a,.int .u64 d,.int .u64 f]⟩ w fun e w' => ∃ v,e = .returned v ∧ R v w' :=
 calls_wpfP (c := V107.cfg w.heap.size) (fn := Tryz.f107) (x := V107.code) (V107.cuts w.heap.size R) V107.h (V107.cfgOk _) mixed Tryz.func107 (by kernel_rfl) (by kernel_rfl) (by kernel_rfl) rfl (V107.obl _ _) ((V107.vc_eq _ _ a d f _).symm ▸ h)
def V154.vc (B : Nat) (R : Value → World → Prop) (a : Bool) (w : World) : Prop :=
 if a = true
 then (CallK Tryz.prog 42 [.int .i64 1] B w [] fun v c => 
 ∃ d : Int,v = .int .u64 d ∧
 Ret B c (R (.int .u64 d)))
 else (CallK Tryz.prog 42 [.int .i64 0] B w [] fun v c => 
 ∃ f : Int,v = .int .u64 f ∧
 Ret B c (R (.int .u64 f)))
noncomputable def V154.cfg (B : Nat) : Cfg := ⟨Tryz.prog,⟨6,B⟩,[],hasN [42],hasN [],look []⟩
noncomputable def V154.code : Code := (Tryz.f154.body).getD .skip
noncomputable def V154.cuts (B : Nat) (R : Value → World → Prop) : Nat → Cut := nthC []
noncomputable def V154.h : H := .s (.z) (.s (.s (.z) (.c (.s (.z) (.z)) (.z))) (.s (.z) (.z)))
theorem V154.vc_eq (B : Nat) (R : Value → World → Prop) (a : Bool) (w : World) : wpf (V154.cfg B) (V154.cuts B R) V154.code V154.h [] (postOf Tryz.prog B (Tryz.f154.results.toList) R) (argE 0 [.bool a]) [] w = V154.vc B R a w := by kernel_rfl
theorem V154.obl (B : Nat) (R : Value → World → Prop) : oblP (V154.cfg B) (V154.cuts B R) V154.code V154.h [] (postOf Tryz.prog B (Tryz.f154.results.toList) R) := by
 have e : oblP (V154.cfg B) (V154.cuts B R) V154.code V154.h [] (postOf Tryz.prog B (Tryz.f154.results.toList) R) = (True ∧ ((True ∧ ((True ∧ True) ∧ True)) ∧ (True ∧ True))) := by kernel_rfl
 exact e.mpr (⟨trivial,⟨⟨trivial,⟨⟨trivial,trivial⟩,trivial⟩⟩,⟨trivial,trivial⟩⟩⟩)
theorem V154.cfgOk (B : Nat) : CfgOk (V154.cfg B) := cfgOk_of (by kernel_rfl) (by kernel_rfl) extNil
theorem V154.sound {a : Bool} {w : World} {R : Value → World → Prop} (h : V154.vc w.heap.size R a w) : Calls Tryz.prog 154 ⟨[.bool a]⟩ w fun e w' => ∃ v,e = .returned v ∧ R v w' :=
 calls_wpfP (c := V154.cfg w.heap.size) (fn := Tryz.f154) (x := V154.code) (V154.cuts w.heap.size R) V154.h (V154.cfgOk _) mixed Tryz.func154 (by kernel_rfl) (by kernel_rfl) (by kernel_rfl) rfl (V154.obl _ _) ((V154.vc_eq _ _ a _).symm ▸ h)
def V102.vc (B : Nat) (R : Value → World → Prop) (a : Int) (w : World) : Prop :=
 CallK Tryz.prog 143 [] B w [] fun v c => 
 ∃ d : Nat,v = .float .f64 d ∧
 CallK Tryz.prog 144 [.int .i64 1] B c [] fun f g => 
 ∃ i : Nat,f = .float .f64 i ∧
 CallK Tryz.prog 144 [.int .i64 (-1)] B g [] fun j l => 
 ∃ m : Nat,j = .float .f64 m ∧
 CallK Tryz.prog 145 [.float .f64 0,.float .f64 13830554455654793216] B l [] fun n o => 
 ∃ p : Nat,n = .float .f64 p ∧ (0 : Int) ≤ a ∧ a < 6 ∧
 CallK Tryz.prog 80 [.float .f64 (([d,i,m,p,9218868437227405311,1] : List Nat).getD a.toNat 0)] B o [] fun q r => 
 ∃ s : Int,q = .int .u64 s ∧
 Ret B r (R (.int .u64 s))
noncomputable def V102.cfg (B : Nat) : Cfg := ⟨Tryz.prog,⟨11,B⟩,[],hasN [80,143,144,145],hasN [],look []⟩
noncomputable def V102.code : Code := (Tryz.f102.body).getD .skip
noncomputable def V102.cuts (B : Nat) (R : Value → World → Prop) : Nat → Cut := nthC []
noncomputable def V102.h : H := .s (.z) (.s (.z) (.z))
theorem V102.vc_eq (B : Nat) (R : Value → World → Prop) (a : Int) (w : World) : wpf (V102.cfg B) (V102.cuts B R) V102.code V102.h [] (postOf Tryz.prog B (Tryz.f102.results.toList) R) (argE 0 [.int .i64 a]) [] w = V102.vc B R a w := by kernel_rfl
theorem V102.obl (B : Nat) (R : Value → World → Prop) : oblP (V102.cfg B) (V102.cuts B R) V102.code V102.h [] (postOf Tryz.prog B (Tryz.f102.results.toList) R) := by
 have e : oblP (V102.cfg B) (V102.cuts B R) V102.code V102.h [] (postOf Tryz.prog B (Tryz.f102.results.toList) R) = (True ∧ (True ∧ True)) := by kernel_rfl
 exact e.mpr (⟨trivial,⟨trivial,trivial⟩⟩)
theorem V102.cfgOk (B : Nat) : CfgOk (V102.cfg B) := cfgOk_of (by kernel_rfl) (by kernel_rfl) extNil
theorem V102.sound {a : Int} {w : World} {R : Value → World → Prop} (h : V102.vc w.heap.size R a w) : Calls Tryz.prog 102 ⟨[.int .i64 a]⟩ w fun e w' => ∃ v,e = .returned v ∧ R v w' :=
 calls_wpfP (c := V102.cfg w.heap.size) (fn := Tryz.f102) (x := V102.code) (V102.cuts w.heap.size R) V102.h (V102.cfgOk _) mixed Tryz.func102 (by kernel_rfl) (by kernel_rfl) (by kernel_rfl) rfl (V102.obl _ _) ((V102.vc_eq _ _ a _).symm ▸ h)
def V143.vc (B : Nat) (R : Value → World → Prop) (w : World) : Prop :=
 RunK Tryz.prog (V177.ext [.int .u64 9221120237041090561]) B w [] fun v a => 
 ∃ c : Nat,v = .float .f64 c ∧
 Ret B a (R (.float .f64 c))
noncomputable def V143.cfg (B : Nat) : Cfg := ⟨Tryz.prog,⟨2,B⟩,[],hasN [],hasN [],look [(177,V177.ext)]⟩
noncomputable def V143.code : Code := (Tryz.f143.body).getD .skip
noncomputable def V143.cuts (B : Nat) (R : Value → World → Prop) : Nat → Cut := nthC []
noncomputable def V143.h : H := .s (.z) (.s (.z) (.z))
theorem V143.vc_eq (B : Nat) (R : Value → World → Prop)  (w : World) : wpf (V143.cfg B) (V143.cuts B R) V143.code V143.h [] (postOf Tryz.prog B (Tryz.f143.results.toList) R) (argE 0 []) [] w = V143.vc B R  w := by kernel_rfl
theorem V143.obl (B : Nat) (R : Value → World → Prop) : oblP (V143.cfg B) (V143.cuts B R) V143.code V143.h [] (postOf Tryz.prog B (Tryz.f143.results.toList) R) := by
 have e : oblP (V143.cfg B) (V143.cuts B R) V143.code V143.h [] (postOf Tryz.prog B (Tryz.f143.results.toList) R) = (True ∧ (True ∧ True)) := by kernel_rfl
 exact e.mpr (⟨trivial,⟨trivial,trivial⟩⟩)
theorem V143.cfgOk (B : Nat) : CfgOk (V143.cfg B) := cfgOk_of (by kernel_rfl) (by kernel_rfl) (extCons V177.extOk extNil)
theorem V143.sound  {w : World} {R : Value → World → Prop} (h : V143.vc w.heap.size R  w) : Calls Tryz.prog 143 ⟨[]⟩ w fun e w' => ∃ v,e = .returned v ∧ R v w' :=
 calls_wpfP (c := V143.cfg w.heap.size) (fn := Tryz.f143) (x := V143.code) (V143.cuts w.heap.size R) V143.h (V143.cfgOk _) mixed Tryz.func143 (by kernel_rfl) (by kernel_rfl) (by kernel_rfl) rfl (V143.obl _ _) ((V143.vc_eq _ _  _).symm ▸ h)
def V144.vc (B : Nat) (R : Value → World → Prop) (a : Int) (w : World) : Prop :=
 if (decide (a ≥ 0)) = true
 then (RunK Tryz.prog (V177.ext [.int .u64 9218868437227405312]) B w [] fun v c => 
 ∃ d : Nat,v = .float .f64 d ∧
 Ret B c (R (.float .f64 d)))
 else (RunK Tryz.prog (V177.ext [.int .u64 18442240474082181120]) B w [] fun v c => 
 ∃ d : Nat,v = .float .f64 d ∧
 Ret B c (R (.float .f64 d)))
noncomputable def V144.cfg (B : Nat) : Cfg := ⟨Tryz.prog,⟨8,B⟩,[],hasN [],hasN [],look [(177,V177.ext)]⟩
noncomputable def V144.code : Code := (Tryz.f144.body).getD .skip
noncomputable def V144.cuts (B : Nat) (R : Value → World → Prop) : Nat → Cut := nthC []
noncomputable def V144.h : H := .s (.z) (.s (.z) (.s (.s (.z) (.c (.z) (.z))) (.s (.z) (.z))))
theorem V144.vc_eq (B : Nat) (R : Value → World → Prop) (a : Int) (w : World) : wpf (V144.cfg B) (V144.cuts B R) V144.code V144.h [] (postOf Tryz.prog B (Tryz.f144.results.toList) R) (argE 0 [.int .i64 a]) [] w = V144.vc B R a w := by kernel_rfl
theorem V144.obl (B : Nat) (R : Value → World → Prop) : oblP (V144.cfg B) (V144.cuts B R) V144.code V144.h [] (postOf Tryz.prog B (Tryz.f144.results.toList) R) := by
 have e : oblP (V144.cfg B) (V144.cuts B R) V144.code V144.h [] (postOf Tryz.prog B (Tryz.f144.results.toList) R) = (True ∧ (True ∧ ((True ∧ (True ∧ True)) ∧ (True ∧ True)))) := by kernel_rfl
 exact e.mpr (⟨trivial,⟨trivial,⟨⟨trivial,⟨trivial,trivial⟩⟩,⟨trivial,trivial⟩⟩⟩⟩)
theorem V144.cfgOk (B : Nat) : CfgOk (V144.cfg B) := cfgOk_of (by kernel_rfl) (by kernel_rfl) (extCons V177.extOk extNil)
theorem V144.sound {a : Int} {w : World} {R : Value → World → Prop} (h : V144.vc w.heap.size R a w) : Calls Tryz.prog 144 ⟨[.int .i64 a]⟩ w fun e w' => ∃ v,e = .returned v ∧ R v w' :=
 calls_wpfP (c := V144.cfg w.heap.size) (fn := Tryz.f144) (x := V144.code) (V144.cuts w.heap.size R) V144.h (V144.cfgOk _) mixed Tryz.func144 (by kernel_rfl) (by kernel_rfl) (by kernel_rfl) rfl (V144.obl _ _) ((V144.vc_eq _ _ a _).symm ▸ h)
def V145.vc (B : Nat) (R : Value → World → Prop) (a c : Nat) (w : World) : Prop :=
 RunK Tryz.prog (V126.ext [.float .f64 a]) B w [] fun v d => 
 ∃ f : Int,v = .int .u64 f ∧
 RunK Tryz.prog (V126.ext [.float .f64 c]) B d [] fun g i => 
 ∃ j : Int,g = .int .u64 j ∧
 RunK Tryz.prog (V177.ext [.int .u64 (IntKind.wrap .u64 (((BitVec.ofInt 64 (IntKind.wrap .u64 (((BitVec.ofInt 64 f &&& ~~~ BitVec.ofInt 64 9223372036854775808).toNat : Nat) : Int)) ||| BitVec.ofInt 64 (IntKind.wrap .u64 (((BitVec.ofInt 64 j &&& BitVec.ofInt 64 9223372036854775808).toNat : Nat) : Int))).toNat : Nat) : Int))]) B i [] fun l m => 
 ∃ n : Nat,l = .float .f64 n ∧
 Ret B m (R (.float .f64 n))
noncomputable def V145.cfg (B : Nat) : Cfg := ⟨Tryz.prog,⟨13,B⟩,[],hasN [],hasN [],look [(126,V126.ext),(177,V177.ext)]⟩
noncomputable def V145.code : Code := (Tryz.f145.body).getD .skip
noncomputable def V145.cuts (B : Nat) (R : Value → World → Prop) : Nat → Cut := nthC []
noncomputable def V145.h : H := .s (.z) (.s (.z) (.z))
theorem V145.vc_eq (B : Nat) (R : Value → World → Prop) (a c : Nat) (w : World) : wpf (V145.cfg B) (V145.cuts B R) V145.code V145.h [] (postOf Tryz.prog B (Tryz.f145.results.toList) R) (argE 0 [.float .f64 a,.float .f64 c]) [] w = V145.vc B R a c w := by kernel_rfl
theorem V145.obl (B : Nat) (R : Value → World → Prop) : oblP (V145.cfg B) (V145.cuts B R) V145.code V145.h [] (postOf Tryz.prog B (Tryz.f145.results.toList) R) := by
 have e : oblP (V145.cfg B) (V145.cuts B R) V145.code V145.h [] (postOf Tryz.prog B (Tryz.f145.results.toList) R) = (True ∧ (True ∧ True)) := by kernel_rfl
 exact e.mpr (⟨trivial,⟨trivial,trivial⟩⟩)
theorem V145.cfgOk (B : Nat) : CfgOk (V145.cfg B) := cfgOk_of (by kernel_rfl) (by kernel_rfl) (extCons V126.extOk (extCons V177.extOk extNil))
theorem V145.sound {a d : Nat} {w : World} {R : Value → World → Prop} (h : V145.vc w.heap.size R a d w) : Calls Tryz.prog 145 ⟨[.float .f64 a,.float .f64 d]⟩ w fun e w' => ∃ v,e = .returned v ∧ R v w' :=
 calls_wpfP (c := V145.cfg w.heap.size) (fn := Tryz.f145) (x := V145.code) (V145.cuts w.heap.size R) V145.h (V145.cfgOk _) mixed Tryz.func145 (by kernel_rfl) (by kernel_rfl) (by kernel_rfl) rfl (V145.obl _ _) ((V145.vc_eq _ _ a d _).symm ▸ h)
end Go.Proofs.YtidcpndlloppdaaGreat
