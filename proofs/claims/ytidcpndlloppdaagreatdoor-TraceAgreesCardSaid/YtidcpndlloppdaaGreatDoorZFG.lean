import Derived.Test.YtidcpndlloppdaaGreatDoorZFF
/-
 What the engine makes of the loaded functions 16, 15, 7, 18, 24, 30, 31: conditions under which a call returns as told, and proofs of that.
 Conditions: none. Printed by a program of this project.
-/
set_option linter.unusedVariables false
set_option maxRecDepth 100000
namespace Go.Proofs.YtidcpndlloppdaaGreatDoor
def V16.l0 (B : Nat) (R : Value → World → Prop) : Nat → Option Addr → Nat → Nat → Option Addr → Nat → Nat → Int → World → Prop
 | 0 => fun _ _ _ _ _ _ _ _ => False
 | k + 1 => fun a c d f g i j w =>
 if (decide (IntKind.wrap .i64 (j + 1) < (c : Int))) = true
 then (if (decide (j < 60)) = true
 then (∃ l : Addr, a = some l ∧ (0 : Int) ≤ j ∧ j < (c : Int) ∧
 ∃ m : Int, w.cell? (l.add j.toNat) = some (.int .u8 m) ∧ (8 : Int) ≠ 0 ∧
 ∃ n : Addr, a = some n ∧ (0 : Int) ≤ j ∧ j < (c : Int) ∧
 ∃ o : Int, w.cell? (n.add j.toNat) = some (.int .u8 o) ∧ (128 : Int) ≠ 0 ∧
 ∃ p : Addr, a = some p ∧ (0 : Int) ≤ IntKind.wrap .i64 (j + 1) ∧ IntKind.wrap .i64 (j + 1) < (c : Int) ∧
 ∃ q : Int, w.cell? (p.add ((IntKind.wrap .i64 (j + 1)).toNat)) = some (.int .u8 q) ∧
 CallK Tryz.prog 19 [.int .i64 (IntKind.wrap .i64 (IntKind.wrap .i64 q - 100))] B w [] fun v r => 
 ∃ s : Int, v = .int .u64 s ∧ r.cell? (n.add j.toNat) = some (.int .u8 o) ∧ r.cell? (l.add j.toNat) = some (.int .u8 m) ∧
 Expo B r [] fun t => 
 let u := t.alloc (.cells ⟨[.int .i64 (IntKind.wrap .i64 (Int.tmod (IntKind.wrap .i64 m) 8 - IntKind.wrap .i64 (Int.tdiv (IntKind.wrap .i64 o) 128))), .int .u64 s]⟩ 41);
 RunK Tryz.prog (Builtin.append_ #[27, 27] 27 ⟨[.slice f g i, .slice (some ⟨t.heap.size, 0, none⟩) 1 1]⟩) B u [] fun x y => 
 ∃ (z : Option Addr) (A C : Nat), x = .slice z A C ∧ (V16.l0 B R k) a c d z A C (IntKind.wrap .i64 (j + 2)) y)
 else (Ret B w (R (.slice f g i))))
 else (Ret B w (R (.slice f g i)))
def V15.vc (B : Nat) (R : Value → World → Prop) (c : Option Addr) (d f : Nat) (g : Option Addr) (i j : Nat) (w : World) : Prop :=
 if (decide ((d : Int) ≤ (i : Int))) = true
 then ((0 : Int) ≤ (d : Int) ∧ (d : Int) ≤ (j : Int) ∧
 CallK Tryz.prog 24 [.slice c d f, .slice (if j = 0 then g else Option.map (fun a => a.add (0 * 2)) g) (((d : Int).toNat) - 0) (j - 0)] B w [] fun v l => 
 ∃ m : Bool, v = .bool m ∧
 Ret B l (R (.bool m)))
 else (Ret B w (R (.bool false)))
noncomputable def V15.cfg (B : Nat) : Cfg := ⟨Tryz.prog, ⟨18, B⟩, [], hasN [24], hasN [], look []⟩
noncomputable def V15.code : Code := (Tryz.f15.body).getD .skip
noncomputable def V15.cuts (B : Nat) (R : Value → World → Prop) : Nat → Cut := nthC []
noncomputable def V15.h : H := .s (.z) (.s (.z) (.z))
theorem V15.vc_eq (B : Nat) (R : Value → World → Prop) (a : Option Addr) (c d : Nat) (f : Option Addr) (g i : Nat) (w : World) : wpf (V15.cfg B) (V15.cuts B R) V15.code V15.h [] (postOf Tryz.prog B (Tryz.f15.results.toList) R) (argE 0 [.slice a c d, .slice f g i]) [] w = V15.vc B R a c d f g i w := by kernel_rfl
theorem V15.obl (B : Nat) (R : Value → World → Prop) : oblP (V15.cfg B) (V15.cuts B R) V15.code V15.h [] (postOf Tryz.prog B (Tryz.f15.results.toList) R) := by
 have e : oblP (V15.cfg B) (V15.cuts B R) V15.code V15.h [] (postOf Tryz.prog B (Tryz.f15.results.toList) R) = (True ∧ (True ∧ True)) := by kernel_rfl
 exact e.mpr (⟨trivial, ⟨trivial, trivial⟩⟩)
theorem V15.cfgOk (B : Nat) : CfgOk (V15.cfg B) := cfgOk_of (by kernel_rfl) (by kernel_rfl) extNil
theorem V15.sound {a : Option Addr} {d f : Nat} {g : Option Addr} {i j : Nat} {w : World} {R : Value → World → Prop} (h : V15.vc w.heap.size R a d f g i j w) : Calls Tryz.prog 15 ⟨[.slice a d f, .slice g i j]⟩ w fun e w' => ∃ v, e = .returned v ∧ R v w' :=
 calls_wpfP (c := V15.cfg w.heap.size) (fn := Tryz.f15) (x := V15.code) (V15.cuts w.heap.size R) V15.h (V15.cfgOk _) mixed Tryz.func15 (by kernel_rfl) (by kernel_rfl) (by kernel_rfl) rfl (V15.obl _ _) ((V15.vc_eq _ _ a d f g i j _).symm ▸ h)
def V7.vc (B : Nat) (R : Value → World → Prop) (w : World) : Prop :=
 CallK Tryz.prog 19 [.int .i64 1] B w [] fun v a => 
 ∃ c : Int, v = .int .u64 c ∧
 Expo B a [] fun d => 
 let f := d.alloc (.cells ⟨[.int .i64 1, .int .u64 c, .int .i64 5, .int .u64 0]⟩ 41);
 CallK Tryz.prog 18 [.slice (some ⟨d.heap.size, 0, none⟩) 2 2] B f [] fun g i => 
 ∃ j : ByteArray, g = .string j ∧
 if (j.toList == ({ data := #[111, 117, 116, 32, 49, 10, 111, 111, 109, 10] } : ByteArray).toList) = true
 then (Expo B i [] fun l => 
 let m := l.alloc (.cells ⟨[.int .i64 5, .int .u64 0]⟩ 41);
 CallK Tryz.prog 15 [.slice none 0 0, .slice (some ⟨l.heap.size, 0, none⟩) 1 1] B m [] fun n o => 
 ∃ p : Bool, n = .bool p ∧
 Ret B o (R (.bool p)))
 else (Ret B i (R (.bool false)))
noncomputable def V7.cfg (B : Nat) : Cfg := ⟨Tryz.prog, ⟨12, B⟩, [], hasN [15, 18, 19], hasN [], look []⟩
noncomputable def V7.code : Code := (Tryz.f7.body).getD .skip
noncomputable def V7.cuts (B : Nat) (R : Value → World → Prop) : Nat → Cut := nthC []
noncomputable def V7.h : H := .s (.z) (.s (.z) (.z))
theorem V7.vc_eq (B : Nat) (R : Value → World → Prop)  (w : World) : wpf (V7.cfg B) (V7.cuts B R) V7.code V7.h [] (postOf Tryz.prog B (Tryz.f7.results.toList) R) (argE 0 []) [] w = V7.vc B R  w := by kernel_rfl
theorem V7.obl (B : Nat) (R : Value → World → Prop) : oblP (V7.cfg B) (V7.cuts B R) V7.code V7.h [] (postOf Tryz.prog B (Tryz.f7.results.toList) R) := by
 have e : oblP (V7.cfg B) (V7.cuts B R) V7.code V7.h [] (postOf Tryz.prog B (Tryz.f7.results.toList) R) = (True ∧ (True ∧ True)) := by kernel_rfl
 exact e.mpr (⟨trivial, ⟨trivial, trivial⟩⟩)
theorem V7.cfgOk (B : Nat) : CfgOk (V7.cfg B) := cfgOk_of (by kernel_rfl) (by kernel_rfl) extNil
theorem V7.sound  {w : World} {R : Value → World → Prop} (h : V7.vc w.heap.size R  w) : Calls Tryz.prog 7 ⟨[]⟩ w fun e w' => ∃ v, e = .returned v ∧ R v w' :=
 calls_wpfP (c := V7.cfg w.heap.size) (fn := Tryz.f7) (x := V7.code) (V7.cuts w.heap.size R) V7.h (V7.cfgOk _) mixed Tryz.func7 (by kernel_rfl) (by kernel_rfl) (by kernel_rfl) rfl (V7.obl _ _) ((V7.vc_eq _ _  _).symm ▸ h)
def V18.l0 (B : Nat) (R : Value → World → Prop) : Nat → Addr → Option Addr → Nat → Nat → Int → Int → World → Prop
 | 0 => fun _ _ _ _ _ _ _ => False
 | k + 1 => fun a c d f g i w =>
 if (decide (i < g)) = true
 then (∃ j : Addr, c = some j ∧ (0 : Int) ≤ i ∧ i < (d : Int) ∧
 ∃ l : Int, w.cell? ((j.add (i.toNat * 2)).add 0) = some (.int .i64 l) ∧
 ∃ m : Int, w.cell? ((j.add (i.toNat * 2)).add 1) = some (.int .u64 m) ∧
 ∀ n : Nat, w.heap.size ≤ n →
 CallK Tryz.prog 30 [.int .i64 l] B w [n] fun v o => 
 ∃ (p : ByteArray) (q : Bool), v = .tuple ⟨[.string p, .bool q]⟩ ∧
 CallK Tryz.prog 31 [.pointer (some a), .string p] B o [n] fun r s => 
 ∃ (t : Int) (u : Value), r = .tuple ⟨[.int .i64 t, u]⟩ ∧ partV u fun x => 
 if q = true
 then (CallK Tryz.prog 32 [.int .u64 m] B s [n] fun y z => 
 ∃ A : ByteArray, y = .string A ∧ ({ data := #[32] } : ByteArray).size + A.size ≤ 9223372036854775807 ∧
 CallK Tryz.prog 31 [.pointer (some a), .string (({ data := #[32] } : ByteArray) ++ A)] B z [n] fun C D => 
 ∃ (E : Int) (F : Value), C = .tuple ⟨[.int .i64 E, F]⟩ ∧ partV F fun G => 
 CallK Tryz.prog 31 [.pointer (some a), .string ({ data := #[10] } : ByteArray)] B D [n] fun I J => 
 ∃ (L : Int) (M : Value), I = .tuple ⟨[.int .i64 L, M]⟩ ∧ partV M fun N => 
 (V18.l0 B R k) a c d f g (IntKind.wrap .i64 (i + 1)) J)
 else (CallK Tryz.prog 31 [.pointer (some a), .string ({ data := #[10] } : ByteArray)] B s [n] fun y z => 
 ∃ (L : Int) (M : Value), y = .tuple ⟨[.int .i64 L, M]⟩ ∧ partV M fun N => 
 (V18.l0 B R k) a c d f g (IntKind.wrap .i64 (i + 1)) z))
 else (CallK Tryz.prog 33 [.pointer (some a)] B w [] fun v o => 
 ∃ O : ByteArray, v = .string O ∧
 Ret B o (R (.string O)))
def V18.vc (B : Nat) (R : Value → World → Prop) (a : Option Addr) (c d : Nat) (w : World) : Prop :=
 Expo B w [] fun f => 
 let g := f.alloc (.cells ⟨[.pointer none, .slice none 0 0]⟩ 72);
 ∃ i, V18.l0 B R i (⟨f.heap.size, 0, none⟩ : Addr) a c d (c : Int) 0 g
noncomputable def V18.cfg (B : Nat) : Cfg := ⟨Tryz.prog, ⟨31, B⟩, [3], hasN [30, 31, 32, 33], hasN [], look []⟩
noncomputable def V18.code : Code := (Tryz.f18.body).getD .skip
noncomputable def V18.cuts (B : Nat) (R : Value → World → Prop) : Nat → Cut := nthC [⟨[(3, .one (.ptr)), (8, .one (.slice)), (9, .one (.int .i64)), (10, .one (.int .i64))], [], fun fs vs bs w => V18.l0 B R (nthN fs 0) (pV (nthV vs 0)) (slA (nthV vs 1)) (slL (nthV vs 1)) (slC (nthV vs 1)) (iV (nthV vs 2)) (iV (nthV vs 3)) w⟩]
noncomputable def V18.h : H := .s (.z) (.s (.z) (.s (.s (.z) (.b (.l 0 (.s (.z) (.s (.c (.z) (.z)) (.s (.b (.s (.z) (.s (.z) (.s (.z) (.s (.s (.z) (.c (.z) (.z))) (.z)))))) (.z))))))) (.s (.z) (.z))))
theorem V18.vc_eq (B : Nat) (R : Value → World → Prop) (a : Option Addr) (c d : Nat) (w : World) : wpf (V18.cfg B) (V18.cuts B R) V18.code V18.h [] (postOf Tryz.prog B (Tryz.f18.results.toList) R) (argE 0 [.slice a c d]) [] w = V18.vc B R a c d w := by kernel_rfl
theorem V18.obl (B : Nat) (R : Value → World → Prop) : oblP (V18.cfg B) (V18.cuts B R) V18.code V18.h [] (postOf Tryz.prog B (Tryz.f18.results.toList) R) := by
 have e : oblP (V18.cfg B) (V18.cuts B R) V18.code V18.h [] (postOf Tryz.prog B (Tryz.f18.results.toList) R) = (True ∧ (True ∧ ((True ∧ ((∀ (a : Addr) (c : Option Addr) (d f : Nat) (g i : Int) (w : World), ¬ V18.l0 B R 0 a c d f g i w) ∧ (∀ j, ∀ (a : Addr) (c : Option Addr) (d f : Nat) (g i : Int) (w : World), V18.l0 B R (j + 1) a c d f g i w → V18.l0 B R (j + 1) a c d f g i w) ∧ ∀ j : Nat, (True ∧ ((True ∧ True) ∧ ((True ∧ (True ∧ (True ∧ ((True ∧ (True ∧ True)) ∧ True)))) ∧ True))))) ∧ (True ∧ True)))) := by kernel_rfl
 exact e.mpr (⟨trivial, ⟨trivial, ⟨⟨trivial, ⟨fun a c d f g i w h => h, fun _ a c d f g i w h => h, fun j => ⟨trivial, ⟨⟨trivial, trivial⟩, ⟨⟨trivial, ⟨trivial, ⟨trivial, ⟨⟨trivial, ⟨trivial, trivial⟩⟩, trivial⟩⟩⟩⟩, trivial⟩⟩⟩⟩⟩, ⟨trivial, trivial⟩⟩⟩⟩)
theorem V18.cfgOk (B : Nat) : CfgOk (V18.cfg B) := cfgOk_of (by kernel_rfl) (by kernel_rfl) extNil
theorem V18.sound {a : Option Addr} {d f : Nat} {w : World} {R : Value → World → Prop} (h : V18.vc w.heap.size R a d f w) : Calls Tryz.prog 18 ⟨[.slice a d f]⟩ w fun e w' => ∃ v, e = .returned v ∧ R v w' :=
 calls_wpfP (c := V18.cfg w.heap.size) (fn := Tryz.f18) (x := V18.code) (V18.cuts w.heap.size R) V18.h (V18.cfgOk _) mixed Tryz.func18 (by kernel_rfl) (by kernel_rfl) (by kernel_rfl) rfl (V18.obl _ _) ((V18.vc_eq _ _ a d f _).symm ▸ h)
def V24.l0 (B : Nat) (R : Value → World → Prop) : Nat → Option Addr → Nat → Nat → Option Addr → Nat → Nat → Int → Int → World → Prop
 | 0 => fun _ _ _ _ _ _ _ _ _ => False
 | k + 1 => fun a c d f g i j l w =>
 if (decide (l < j)) = true
 then (∃ m : Addr, a = some m ∧ (0 : Int) ≤ l ∧ l < (c : Int) ∧
 ∃ n : Int, w.cell? ((m.add (l.toNat * 2)).add 0) = some (.int .i64 n) ∧
 ∃ o : Int, w.cell? ((m.add (l.toNat * 2)).add 1) = some (.int .u64 o) ∧
 ∃ p : Addr, f = some p ∧ (0 : Int) ≤ l ∧ l < (g : Int) ∧
 ∃ q : Int, w.cell? ((p.add (l.toNat * 2)).add 0) = some (.int .i64 q) ∧
 ∃ r : Int, w.cell? ((p.add (l.toNat * 2)).add 1) = some (.int .u64 r) ∧
 if (!((n == q) && (o == r))) = true
 then (Ret B w (R (.bool false)))
 else ((V24.l0 B R k) a c d f g i j (IntKind.wrap .i64 (l + 1)) w))
 else (Ret B w (R (.bool true)))
def V24.vc (B : Nat) (R : Value → World → Prop) (a : Option Addr) (c d : Nat) (f : Option Addr) (g i : Nat) (w : World) : Prop :=
 if ((c : Int) != (g : Int)) = true
 then (Ret B w (R (.bool false)))
 else (∃ j, V24.l0 B R j a c d f g i (c : Int) 0 w)
noncomputable def V24.cfg (B : Nat) : Cfg := ⟨Tryz.prog, ⟨26, B⟩, [], hasN [], hasN [41], look []⟩
noncomputable def V24.code : Code := (Tryz.f24.body).getD .skip
noncomputable def V24.cuts (B : Nat) (R : Value → World → Prop) : Nat → Cut := nthC [⟨[(0, .one (.slice)), (1, .one (.slice)), (12, .one (.int .i64)), (13, .one (.int .i64))], [], fun fs vs bs w => V24.l0 B R (nthN fs 0) (slA (nthV vs 0)) (slL (nthV vs 0)) (slC (nthV vs 0)) (slA (nthV vs 1)) (slL (nthV vs 1)) (slC (nthV vs 1)) (iV (nthV vs 2)) (iV (nthV vs 3)) w⟩]
noncomputable def V24.h : H := .s (.z) (.s (.s (.z) (.c (.s (.z) (.z)) (.z))) (.s (.s (.z) (.b (.l 0 (.s (.z) (.s (.c (.z) (.z)) (.s (.b (.s (.z) (.s (.r [[0, 1, 2, 3, 4, 5, 6, 7, 8]]) (.c (.s (.z) (.z)) (.z))))) (.z))))))) (.s (.z) (.z))))
theorem V24.vc_eq (B : Nat) (R : Value → World → Prop) (a : Option Addr) (c d : Nat) (f : Option Addr) (g i : Nat) (w : World) : wpf (V24.cfg B) (V24.cuts B R) V24.code V24.h [] (postOf Tryz.prog B (Tryz.f24.results.toList) R) (argE 0 [.slice a c d, .slice f g i]) [] w = V24.vc B R a c d f g i w := by kernel_rfl
theorem V24.obl (B : Nat) (R : Value → World → Prop) : oblP (V24.cfg B) (V24.cuts B R) V24.code V24.h [] (postOf Tryz.prog B (Tryz.f24.results.toList) R) := by
 have e : oblP (V24.cfg B) (V24.cuts B R) V24.code V24.h [] (postOf Tryz.prog B (Tryz.f24.results.toList) R) = (True ∧ ((True ∧ ((True ∧ True) ∧ True)) ∧ ((True ∧ ((∀ (a : Option Addr) (c d : Nat) (f : Option Addr) (g i : Nat) (j l : Int) (w : World), ¬ V24.l0 B R 0 a c d f g i j l w) ∧ (∀ m, ∀ (a : Option Addr) (c d : Nat) (f : Option Addr) (g i : Nat) (j l : Int) (w : World), V24.l0 B R (m + 1) a c d f g i j l w → V24.l0 B R (m + 1) a c d f g i j l w) ∧ ∀ m : Nat, (True ∧ ((True ∧ True) ∧ ((True ∧ ((true = true) ∧ ((True ∧ True) ∧ True))) ∧ True))))) ∧ (True ∧ True)))) := by kernel_rfl
 exact e.mpr (⟨trivial, ⟨⟨trivial, ⟨⟨trivial, trivial⟩, trivial⟩⟩, ⟨⟨trivial, ⟨fun a c d f g i j l w h => h, fun _ a c d f g i j l w h => h, fun m => ⟨trivial, ⟨⟨trivial, trivial⟩, ⟨⟨trivial, ⟨rfl, ⟨⟨trivial, trivial⟩, trivial⟩⟩⟩, trivial⟩⟩⟩⟩⟩, ⟨trivial, trivial⟩⟩⟩⟩)
theorem V24.cfgOk (B : Nat) : CfgOk (V24.cfg B) := cfgOk_of (by kernel_rfl) (by kernel_rfl) extNil
theorem V24.sound {a : Option Addr} {d f : Nat} {g : Option Addr} {i j : Nat} {w : World} {R : Value → World → Prop} (h : V24.vc w.heap.size R a d f g i j w) : Calls Tryz.prog 24 ⟨[.slice a d f, .slice g i j]⟩ w fun e w' => ∃ v, e = .returned v ∧ R v w' :=
 calls_wpfP (c := V24.cfg w.heap.size) (fn := Tryz.f24) (x := V24.code) (V24.cuts w.heap.size R) V24.h (V24.cfgOk _) mixed Tryz.func24 (by kernel_rfl) (by kernel_rfl) (by kernel_rfl) rfl (V24.obl _ _) ((V24.vc_eq _ _ a d f g i j _).symm ▸ h)
def V30.vc (B : Nat) (R : Value → World → Prop) (a : Int) (w : World) : Prop :=
 if (a == 1) = true
 then (Ret B w (R (.tuple ⟨[.string ({ data := #[111, 117, 116] } : ByteArray), .bool true]⟩)))
 else (if (a == 2) = true
 then (Ret B w (R (.tuple ⟨[.string ({ data := #[103, 111, 116] } : ByteArray), .bool true]⟩)))
 else (if (a == 3) = true
 then (Ret B w (R (.tuple ⟨[.string ({ data := #[100, 111, 110, 101] } : ByteArray), .bool true]⟩)))
 else (if (a == 4) = true
 then (Ret B w (R (.tuple ⟨[.string ({ data := #[102, 101, 108, 108] } : ByteArray), .bool true]⟩)))
 else (if (a == 5) = true
 then (Ret B w (R (.tuple ⟨[.string ({ data := #[111, 111, 109] } : ByteArray), .bool false]⟩)))
 else (if (a == 6) = true
 then (Ret B w (R (.tuple ⟨[.string ({ data := #[108, 105, 109, 105, 116] } : ByteArray), .bool false]⟩)))
 else (Ret B w (R (.tuple ⟨[.string ({ data := #[63] } : ByteArray), .bool false]⟩))))))))
noncomputable def V30.cfg (B : Nat) : Cfg := ⟨Tryz.prog, ⟨17, B⟩, [], hasN [], hasN [], look []⟩
noncomputable def V30.code : Code := (Tryz.f30.body).getD .skip
noncomputable def V30.cuts (B : Nat) (R : Value → World → Prop) : Nat → Cut := nthC []
noncomputable def V30.h : H := .s (.z) (.s (.s (.z) (.b (.s (.z) (.c (.s (.z) (.z)) (.s (.z) (.c (.s (.z) (.z)) (.s (.z) (.c (.s (.z) (.z)) (.s (.z) (.c (.s (.z) (.z)) (.s (.z) (.c (.s (.z) (.z)) (.s (.z) (.c (.s (.z) (.z)) (.z))))))))))))))) (.s (.z) (.z)))
theorem V30.vc_eq (B : Nat) (R : Value → World → Prop) (a : Int) (w : World) : wpf (V30.cfg B) (V30.cuts B R) V30.code V30.h [] (postOf Tryz.prog B (Tryz.f30.results.toList) R) (argE 0 [.int .i64 a]) [] w = V30.vc B R a w := by kernel_rfl
theorem V30.obl (B : Nat) (R : Value → World → Prop) : oblP (V30.cfg B) (V30.cuts B R) V30.code V30.h [] (postOf Tryz.prog B (Tryz.f30.results.toList) R) := by
 have e : oblP (V30.cfg B) (V30.cuts B R) V30.code V30.h [] (postOf Tryz.prog B (Tryz.f30.results.toList) R) = (True ∧ ((True ∧ (True ∧ ((True ∧ True) ∧ (True ∧ ((True ∧ True) ∧ (True ∧ ((True ∧ True) ∧ (True ∧ ((True ∧ True) ∧ (True ∧ ((True ∧ True) ∧ (True ∧ ((True ∧ True) ∧ True))))))))))))) ∧ (True ∧ True))) := by kernel_rfl
 exact e.mpr (⟨trivial, ⟨⟨trivial, ⟨trivial, ⟨⟨trivial, trivial⟩, ⟨trivial, ⟨⟨trivial, trivial⟩, ⟨trivial, ⟨⟨trivial, trivial⟩, ⟨trivial, ⟨⟨trivial, trivial⟩, ⟨trivial, ⟨⟨trivial, trivial⟩, ⟨trivial, ⟨⟨trivial, trivial⟩, trivial⟩⟩⟩⟩⟩⟩⟩⟩⟩⟩⟩⟩⟩, ⟨trivial, trivial⟩⟩⟩)
theorem V30.cfgOk (B : Nat) : CfgOk (V30.cfg B) := cfgOk_of (by kernel_rfl) (by kernel_rfl) extNil
theorem V30.sound {a : Int} {w : World} {R : Value → World → Prop} (h : V30.vc w.heap.size R a w) : Calls Tryz.prog 30 ⟨[.int .i64 a]⟩ w fun e w' => ∃ v, e = .returned v ∧ R v w' :=
 calls_wpfP (c := V30.cfg w.heap.size) (fn := Tryz.f30) (x := V30.code) (V30.cuts w.heap.size R) V30.h (V30.cfgOk _) mixed Tryz.func30 (by kernel_rfl) (by kernel_rfl) (by kernel_rfl) rfl (V30.obl _ _) ((V30.vc_eq _ _ a _).symm ▸ h)
def V31.vc (B : Nat) (R : Value → World → Prop) (a : Addr) (c : ByteArray) (w : World) : Prop :=
 CallK Tryz.prog 50 [.pointer (some a)] B w [] fun v d => 
 v = .tuple ⟨[]⟩ ∧
 ∃ (f : Option Addr) (g i : Nat), d.cell? (a.add 1) = some (.slice f g i) ∧
 RunK Tryz.prog (Builtin.append_ #[36, 9] 36 ⟨[.slice f g i, .string c]⟩) B d [] fun j l => 
 ∃ (m : Option Addr) (n o : Nat), j = .slice m n o ∧
 (∃ u, l.cell? ((a.add 1).add 0) = some u) ∧ l.frozen? ((a.add 1).add 0) = false ∧
 let p := l.setCell ((a.add 1).add 0) (.slice m n o);
 Ret B p (R (.tuple ⟨[.int .i64 ((c.size : Nat) : Int), Go.Value.nilIface]⟩))
noncomputable def V31.cfg (B : Nat) : Cfg := ⟨Tryz.prog, ⟨19, B⟩, [], hasN [50], hasN [], look []⟩
noncomputable def V31.code : Code := (Tryz.f31.body).getD .skip
noncomputable def V31.cuts (B : Nat) (R : Value → World → Prop) : Nat → Cut := nthC []
noncomputable def V31.h : H := .s (.z) (.s (.z) (.s (.z) (.s (.z) (.z))))
theorem V31.vc_eq (B : Nat) (R : Value → World → Prop) (a : Addr) (c : ByteArray) (w : World) : wpf (V31.cfg B) (V31.cuts B R) V31.code V31.h [] (postOf Tryz.prog B (Tryz.f31.results.toList) R) (argE 0 [.pointer (some a), .string c]) [] w = V31.vc B R a c w := by kernel_rfl
theorem V31.obl (B : Nat) (R : Value → World → Prop) : oblP (V31.cfg B) (V31.cuts B R) V31.code V31.h [] (postOf Tryz.prog B (Tryz.f31.results.toList) R) := by
 have e : oblP (V31.cfg B) (V31.cuts B R) V31.code V31.h [] (postOf Tryz.prog B (Tryz.f31.results.toList) R) = (True ∧ (True ∧ (True ∧ (True ∧ True)))) := by kernel_rfl
 exact e.mpr (⟨trivial, ⟨trivial, ⟨trivial, ⟨trivial, trivial⟩⟩⟩⟩)
theorem V31.cfgOk (B : Nat) : CfgOk (V31.cfg B) := cfgOk_of (by kernel_rfl) (by kernel_rfl) extNil
theorem V31.sound {a : Addr} {d : ByteArray} {w : World} {R : Value → World → Prop} (h : V31.vc w.heap.size R a d w) : Calls Tryz.prog 31 ⟨[.pointer (some a), .string d]⟩ w fun e w' => ∃ v, e = .returned v ∧ R v w' :=
 calls_wpfP (c := V31.cfg w.heap.size) (fn := Tryz.f31) (x := V31.code) (V31.cuts w.heap.size R) V31.h (V31.cfgOk _) mixed Tryz.func31 (by kernel_rfl) (by kernel_rfl) (by kernel_rfl) rfl (V31.obl _ _) ((V31.vc_eq _ _ a d _).symm ▸ h)
end Go.Proofs.YtidcpndlloppdaaGreatDoor
