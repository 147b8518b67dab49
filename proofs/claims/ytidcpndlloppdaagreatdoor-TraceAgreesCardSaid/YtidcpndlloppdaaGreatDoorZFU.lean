import Derived.Test.YtidcpndlloppdaaGreatDoorZFT
/-
 What the engine makes of the loaded functions 81, 117: conditions under which a call returns as told, and proofs of that.
 Conditions: none. Printed by a program of this project.
-/
set_option linter.unusedVariables false
set_option maxRecDepth 100000
namespace Go.Proofs.YtidcpndlloppdaaGreatDoor
def V81.vc (B : Nat) (R : Value → World → Prop) (a c : Int) (w : World) : Prop :=
 if (c == 10) = true
 then (if (decide (a < 100)) = true
 then (CallK Tryz.prog 114 [.int .i64 (IntKind.wrap .i64 a)] B w [] fun v d => 
 ∃ f : ByteArray, v = .string f ∧
 Ret B d (R (.string f)))
 else (Expo B w [] fun d => 
 let g := d.alloc (.cells ⟨[.int .u8 0, .int .u8 0, .int .u8 0, .int .u8 0, .int .u8 0, .int .u8 0, .int .u8 0, .int .u8 0, .int .u8 0, .int .u8 0, .int .u8 0, .int .u8 0, .int .u8 0, .int .u8 0, .int .u8 0, .int .u8 0, .int .u8 0, .int .u8 0, .int .u8 0, .int .u8 0, .int .u8 0, .int .u8 0, .int .u8 0, .int .u8 0]⟩ 135);
 CallK Tryz.prog 115 [.int .u64 a] B g [] fun v i => 
 ∃ j : Int, v = .int .i64 j ∧ (0 : Int) ≤ j ∧ j ≤ ((24 : Nat) : Int) ∧
 CallK Tryz.prog 116 [.slice (some (if 24 = 0 then (⟨d.heap.size, 0, none⟩ : Addr) else (⟨d.heap.size, 0, none⟩ : Addr).add 0)) (j.toNat - 0) (24 - 0), .int .u64 a] B i [] fun l m => 
 l = .tuple ⟨[]⟩ ∧ (0 : Int) ≤ j ∧ j ≤ ((24 : Nat) : Int) ∧
 RunK Tryz.prog (Go.convert 36 9 (.slice (some (if 24 = 0 then (⟨d.heap.size, 0, none⟩ : Addr) else (⟨d.heap.size, 0, none⟩ : Addr).add 0)) (j.toNat - 0) (24 - 0))) B m [] fun n o => 
 ∃ p : ByteArray, n = .string p ∧
 Ret B o (R (.string p))))
 else (CallK Tryz.prog 117 [.slice none 0 0, .int .u64 a, .int .i64 c, .bool false, .bool false] B w [] fun v d => 
 ∃ (q : Option Addr) (r s : Nat) (t : ByteArray), v = .tuple ⟨[.slice q r s, .string t]⟩ ∧
 Ret B d (R (.string t)))
noncomputable def V81.cfg (B : Nat) : Cfg := ⟨Tryz.prog, ⟨32, B⟩, [5], hasN [114, 115, 116, 117], hasN [], look []⟩
noncomputable def V81.code : Code := (Tryz.f81.body).getD .skip
noncomputable def V81.cuts (B : Nat) (R : Value → World → Prop) : Nat → Cut := nthC []
noncomputable def V81.h : H := .s (.z) (.s (.s (.z) (.c (.s (.s (.z) (.c (.s (.z) (.z)) (.z))) (.s (.z) (.s (.z) (.s (.z) (.s (.z) (.z)))))) (.z))) (.s (.z) (.s (.z) (.z))))
theorem V81.vc_eq (B : Nat) (R : Value → World → Prop) (a c : Int) (w : World) : wpf (V81.cfg B) (V81.cuts B R) V81.code V81.h [] (postOf Tryz.prog B (Tryz.f81.results.toList) R) (argE 0 [.int .u64 a, .int .i64 c]) [] w = V81.vc B R a c w := by kernel_rfl
theorem V81.obl (B : Nat) (R : Value → World → Prop) : oblP (V81.cfg B) (V81.cuts B R) V81.code V81.h [] (postOf Tryz.prog B (Tryz.f81.results.toList) R) := by
 have e : oblP (V81.cfg B) (V81.cuts B R) V81.code V81.h [] (postOf Tryz.prog B (Tryz.f81.results.toList) R) = (True ∧ ((True ∧ (((True ∧ ((True ∧ True) ∧ True)) ∧ (True ∧ (True ∧ (True ∧ (True ∧ True))))) ∧ True)) ∧ (True ∧ (True ∧ True)))) := by kernel_rfl
 exact e.mpr (⟨trivial, ⟨⟨trivial, ⟨⟨⟨trivial, ⟨⟨trivial, trivial⟩, trivial⟩⟩, ⟨trivial, ⟨trivial, ⟨trivial, ⟨trivial, trivial⟩⟩⟩⟩⟩, trivial⟩⟩, ⟨trivial, ⟨trivial, trivial⟩⟩⟩⟩)
theorem V81.cfgOk (B : Nat) : CfgOk (V81.cfg B) := cfgOk_of (by kernel_rfl) (by kernel_rfl) extNil
theorem V81.sound {a d : Int} {w : World} {R : Value → World → Prop} (h : V81.vc w.heap.size R a d w) : Calls Tryz.prog 81 ⟨[.int .u64 a, .int .i64 d]⟩ w fun e w' => ∃ v, e = .returned v ∧ R v w' :=
 calls_wpfP (c := V81.cfg w.heap.size) (fn := Tryz.f81) (x := V81.code) (V81.cuts w.heap.size R) V81.h (V81.cfgOk _) mixed Tryz.func81 (by kernel_rfl) (by kernel_rfl) (by kernel_rfl) rfl (V81.obl _ _) ((V81.vc_eq _ _ a d _).symm ▸ h)
def V117.b4 (B : Nat) (R : Value → World → Prop) (a : Option Addr) (c d : Nat) (f : Bool) (g : Option Addr) (i j : Nat) (l : ByteArray) (m : Addr) (n : Int) (w : World) : Prop :=
 if f = true
 then ((0 : Int) ≤ n ∧ n ≤ ((65 : Nat) : Int) ∧
 RunK Tryz.prog (Builtin.append_ #[36, 36] 36 ⟨[.slice a c d, .slice (some (if 65 = n.toNat then m else m.add n.toNat)) (65 - n.toNat) (65 - n.toNat)]⟩) B w [] fun v o => 
 ∃ (p : Option Addr) (q r : Nat), v = .slice p q r ∧
 Ret B o (R (.tuple ⟨[.slice p q r, .string l]⟩)))
 else ((0 : Int) ≤ n ∧ n ≤ ((65 : Nat) : Int) ∧
 RunK Tryz.prog (Go.convert 36 9 (.slice (some (if 65 = n.toNat then m else m.add n.toNat)) (65 - n.toNat) (65 - n.toNat))) B w [] fun v o => 
 ∃ s : ByteArray, v = .string s ∧
 Ret B o (R (.tuple ⟨[.slice g i j, .string s]⟩)))
def V117.b3 (B : Nat) (R : Value → World → Prop) (a : Option Addr) (c d : Nat) (f g : Bool) (i : Option Addr) (j l : Nat) (m : ByteArray) (n : Addr) (o : Int) (w : World) : Prop :=
 if f = true
 then ((0 : Int) ≤ IntKind.wrap .i64 (o - 1) ∧ IntKind.wrap .i64 (o - 1) < 65 ∧
 (∃ u, w.cell? ((n.add ((IntKind.wrap .i64 (o - 1)).toNat)).add 0) = some u) ∧ w.frozen? ((n.add ((IntKind.wrap .i64 (o - 1)).toNat)).add 0) = false ∧
 let p := w.setCell ((n.add ((IntKind.wrap .i64 (o - 1)).toNat)).add 0) (.int .u8 45);
 V117.b4 B R a c d g i j l m n (IntKind.wrap .i64 (o - 1)) p)
 else (V117.b4 B R a c d g i j l m n o w)
def V117.l1 (B : Nat) (R : Value → World → Prop) : Nat → Option Addr → Nat → Nat → Int → Bool → Bool → Option Addr → Nat → Nat → ByteArray → Addr → Int → Int → Int → Int → World → Prop
 | 0 => fun _ _ _ _ _ _ _ _ _ _ _ _ _ _ _ _ => False
 | k + 1 => fun a c d f g i j l m n o p q r s w =>
 if (decide (f ≥ r)) = true
 then (∃ t : UInt8, (0 : Int) ≤ IntKind.wrap .u64 (((BitVec.ofInt 64 f &&& BitVec.ofInt 64 s).toNat : Nat) : Int) ∧ ({ data := #[48, 49, 50, 51, 52, 53, 54, 55, 56, 57, 97, 98, 99, 100, 101, 102, 103, 104, 105, 106, 107, 108, 109, 110, 111, 112, 113, 114, 115, 116, 117, 118, 119, 120, 121, 122] } : ByteArray)[(IntKind.wrap .u64 (((BitVec.ofInt 64 f &&& BitVec.ofInt 64 s).toNat : Nat) : Int)).toNat]? = some t ∧ (0 : Int) ≤ IntKind.wrap .i64 (p - 1) ∧ IntKind.wrap .i64 (p - 1) < 65 ∧
 (∃ u, w.cell? ((o.add ((IntKind.wrap .i64 (p - 1)).toNat)).add 0) = some u) ∧ w.frozen? ((o.add ((IntKind.wrap .i64 (p - 1)).toNat)).add 0) = false ∧
 let x := w.setCell ((o.add ((IntKind.wrap .i64 (p - 1)).toNat)).add 0) (.int .u8 ((t.toNat : Nat) : Int));
 (0 : Int) ≤ q ∧ (V117.l1 B R k) a c d (Int.fdiv f (2 ^ min q.toNat 64)) g i j l m n o (IntKind.wrap .i64 (p - 1)) q r s x)
 else (∃ y : UInt8, (0 : Int) ≤ f ∧ ({ data := #[48, 49, 50, 51, 52, 53, 54, 55, 56, 57, 97, 98, 99, 100, 101, 102, 103, 104, 105, 106, 107, 108, 109, 110, 111, 112, 113, 114, 115, 116, 117, 118, 119, 120, 121, 122] } : ByteArray)[f.toNat]? = some y ∧ (0 : Int) ≤ IntKind.wrap .i64 (p - 1) ∧ IntKind.wrap .i64 (p - 1) < 65 ∧
 (∃ u, w.cell? ((o.add ((IntKind.wrap .i64 (p - 1)).toNat)).add 0) = some u) ∧ w.frozen? ((o.add ((IntKind.wrap .i64 (p - 1)).toNat)).add 0) = false ∧
 let x := w.setCell ((o.add ((IntKind.wrap .i64 (p - 1)).toNat)).add 0) (.int .u8 ((y.toNat : Nat) : Int));
 V117.b3 B R a c d g i j l m n o (IntKind.wrap .i64 (p - 1)) x)
def V117.l2 (B : Nat) (R : Value → World → Prop) : Nat → Option Addr → Nat → Nat → Int → Bool → Bool → Option Addr → Nat → Nat → ByteArray → Addr → Int → Int → World → Prop
 | 0 => fun _ _ _ _ _ _ _ _ _ _ _ _ _ _ => False
 | k + 1 => fun a c d f g i j l m n o p q w =>
 if (decide (f ≥ q)) = true
 then (q ≠ 0 ∧
 ∃ r : UInt8, (0 : Int) ≤ IntKind.wrap .u64 (f - IntKind.wrap .u64 (IntKind.wrap .u64 (Int.tdiv f q) * q)) ∧ ({ data := #[48, 49, 50, 51, 52, 53, 54, 55, 56, 57, 97, 98, 99, 100, 101, 102, 103, 104, 105, 106, 107, 108, 109, 110, 111, 112, 113, 114, 115, 116, 117, 118, 119, 120, 121, 122] } : ByteArray)[(IntKind.wrap .u64 (f - IntKind.wrap .u64 (IntKind.wrap .u64 (Int.tdiv f q) * q))).toNat]? = some r ∧ (0 : Int) ≤ IntKind.wrap .i64 (p - 1) ∧ IntKind.wrap .i64 (p - 1) < 65 ∧
 (∃ u, w.cell? ((o.add ((IntKind.wrap .i64 (p - 1)).toNat)).add 0) = some u) ∧ w.frozen? ((o.add ((IntKind.wrap .i64 (p - 1)).toNat)).add 0) = false ∧
 let s := w.setCell ((o.add ((IntKind.wrap .i64 (p - 1)).toNat)).add 0) (.int .u8 ((r.toNat : Nat) : Int));
 (V117.l2 B R k) a c d (IntKind.wrap .u64 (Int.tdiv f q)) g i j l m n o (IntKind.wrap .i64 (p - 1)) q s)
 else (∃ t : UInt8, (0 : Int) ≤ f ∧ ({ data := #[48, 49, 50, 51, 52, 53, 54, 55, 56, 57, 97, 98, 99, 100, 101, 102, 103, 104, 105, 106, 107, 108, 109, 110, 111, 112, 113, 114, 115, 116, 117, 118, 119, 120, 121, 122] } : ByteArray)[f.toNat]? = some t ∧ (0 : Int) ≤ IntKind.wrap .i64 (p - 1) ∧ IntKind.wrap .i64 (p - 1) < 65 ∧
 (∃ u, w.cell? ((o.add ((IntKind.wrap .i64 (p - 1)).toNat)).add 0) = some u) ∧ w.frozen? ((o.add ((IntKind.wrap .i64 (p - 1)).toNat)).add 0) = false ∧
 let s := w.setCell ((o.add ((IntKind.wrap .i64 (p - 1)).toNat)).add 0) (.int .u8 ((t.toNat : Nat) : Int));
 V117.b3 B R a c d g i j l m n o (IntKind.wrap .i64 (p - 1)) s)
def V117.b0 (B : Nat) (R : Value → World → Prop) (a : Option Addr) (c d : Nat) (f g : Int) (i j : Bool) (l : Option Addr) (m n : Nat) (o : ByteArray) (p : Addr) (q : Int) (w : World) : Prop :=
 CallK Tryz.prog 139 [.int .i64 g] B w [] fun v r => 
 ∃ s : Bool, v = .bool s ∧
 if s = true
 then (CallK Tryz.prog 140 [.int .u64 (IntKind.wrap .u64 g)] B r [] fun t u => 
 ∃ x : Int, t = .int .i64 x ∧
 ∃ y, V117.l1 B R y a c d f i j l m n o p q (IntKind.wrap .u64 x) (IntKind.wrap .u64 g) (IntKind.wrap .u64 (IntKind.wrap .u64 g - 1)) u)
 else (∃ y, V117.l2 B R y a c d f i j l m n o p q (IntKind.wrap .u64 g) r)
def V117.vc (B : Nat) (R : Value → World → Prop) (a : Option Addr) (c d : Nat) (f g : Int) (i j : Bool) (w : World) : Prop :=
 if (decide (g < 2)) = false
 then (if (g == 10) = false
 then (if (decide (g > 36)) = true
 then (False)
 else (Expo B w [] fun l => 
 let m := l.alloc (.cells ⟨[.int .u8 0, .int .u8 0, .int .u8 0, .int .u8 0, .int .u8 0, .int .u8 0, .int .u8 0, .int .u8 0, .int .u8 0, .int .u8 0, .int .u8 0, .int .u8 0, .int .u8 0, .int .u8 0, .int .u8 0, .int .u8 0, .int .u8 0, .int .u8 0, .int .u8 0, .int .u8 0, .int .u8 0, .int .u8 0, .int .u8 0, .int .u8 0, .int .u8 0, .int .u8 0, .int .u8 0, .int .u8 0, .int .u8 0, .int .u8 0, .int .u8 0, .int .u8 0, .int .u8 0, .int .u8 0, .int .u8 0, .int .u8 0, .int .u8 0, .int .u8 0, .int .u8 0, .int .u8 0, .int .u8 0, .int .u8 0, .int .u8 0, .int .u8 0, .int .u8 0, .int .u8 0, .int .u8 0, .int .u8 0, .int .u8 0, .int .u8 0, .int .u8 0, .int .u8 0, .int .u8 0, .int .u8 0, .int .u8 0, .int .u8 0, .int .u8 0, .int .u8 0, .int .u8 0, .int .u8 0, .int .u8 0, .int .u8 0, .int .u8 0, .int .u8 0, .int .u8 0]⟩ 150);
 if i = true
 then (V117.b0 B R a c d (IntKind.wrap .u64 (0 - f)) g i j none 0 0 ({ data := #[] } : ByteArray) (⟨l.heap.size, 0, none⟩ : Addr) 65 m)
 else (V117.b0 B R a c d f g i j none 0 0 ({ data := #[] } : ByteArray) (⟨l.heap.size, 0, none⟩ : Addr) 65 m)))
 else (False))
 else (False)
noncomputable def V117.cfg (B : Nat) : Cfg := ⟨Tryz.prog, ⟨102, B⟩, [12], hasN [139, 140], hasN [], look []⟩
noncomputable def V117.code : Code := (Tryz.f117.body).getD .skip
noncomputable def V117.cuts (B : Nat) (R : Value → World → Prop) : Nat → Cut := nthC [⟨[(0, .one (.slice)), (1, .one (.int .u64)), (2, .one (.int .i64)), (3, .one (.bool)), (4, .one (.bool)), (10, .one (.slice)), (11, .one (.str)), (12, .one (.ptr)), (13, .one (.int .i64))], [], fun fs vs bs w => V117.b0 B R (slA (nthV vs 0)) (slL (nthV vs 0)) (slC (nthV vs 0)) (iV (nthV vs 1)) (iV (nthV vs 2)) (bV (nthV vs 3)) (bV (nthV vs 4)) (slA (nthV vs 5)) (slL (nthV vs 5)) (slC (nthV vs 5)) (sV (nthV vs 6)) (pV (nthV vs 7)) (iV (nthV vs 8)) w⟩,
 ⟨[(0, .one (.slice)), (1, .one (.int .u64)), (3, .one (.bool)), (4, .one (.bool)), (10, .one (.slice)), (11, .one (.str)), (12, .one (.ptr)), (13, .one (.int .i64)), (14, .one (.int .u64)), (15, .one (.int .u64)), (16, .one (.int .u64))], [], fun fs vs bs w => V117.l1 B R (nthN fs 0) (slA (nthV vs 0)) (slL (nthV vs 0)) (slC (nthV vs 0)) (iV (nthV vs 1)) (bV (nthV vs 2)) (bV (nthV vs 3)) (slA (nthV vs 4)) (slL (nthV vs 4)) (slC (nthV vs 4)) (sV (nthV vs 5)) (pV (nthV vs 6)) (iV (nthV vs 7)) (iV (nthV vs 8)) (iV (nthV vs 9)) (iV (nthV vs 10)) w⟩,
 ⟨[(0, .one (.slice)), (1, .one (.int .u64)), (3, .one (.bool)), (4, .one (.bool)), (10, .one (.slice)), (11, .one (.str)), (12, .one (.ptr)), (13, .one (.int .i64)), (17, .one (.int .u64))], [], fun fs vs bs w => V117.l2 B R (nthN fs 0) (slA (nthV vs 0)) (slL (nthV vs 0)) (slC (nthV vs 0)) (iV (nthV vs 1)) (bV (nthV vs 2)) (bV (nthV vs 3)) (slA (nthV vs 4)) (slL (nthV vs 4)) (slC (nthV vs 4)) (sV (nthV vs 5)) (pV (nthV vs 6)) (iV (nthV vs 7)) (iV (nthV vs 8)) w⟩,
 ⟨[(0, .one (.slice)), (3, .one (.bool)), (4, .one (.bool)), (10, .one (.slice)), (11, .one (.str)), (12, .one (.ptr)), (13, .one (.int .i64))], [], fun fs vs bs w => V117.b3 B R (slA (nthV vs 0)) (slL (nthV vs 0)) (slC (nthV vs 0)) (bV (nthV vs 1)) (bV (nthV vs 2)) (slA (nthV vs 3)) (slL (nthV vs 3)) (slC (nthV vs 3)) (sV (nthV vs 4)) (pV (nthV vs 5)) (iV (nthV vs 6)) w⟩,
 ⟨[(0, .one (.slice)), (4, .one (.bool)), (10, .one (.slice)), (11, .one (.str)), (12, .one (.ptr)), (13, .one (.int .i64))], [], fun fs vs bs w => V117.b4 B R (slA (nthV vs 0)) (slL (nthV vs 0)) (slC (nthV vs 0)) (bV (nthV vs 1)) (slA (nthV vs 2)) (slL (nthV vs 2)) (slC (nthV vs 2)) (sV (nthV vs 3)) (pV (nthV vs 4)) (iV (nthV vs 5)) w⟩]
noncomputable def V117.h : H := .s (.z) (.s (.s (.z) (.c (.z) (.z))) (.s (.z) (.s (.z) (.cut 0 (.s (.z) (.c (.z) (.z))) (.cut 3 (.s (.z) (.c (.s (.z) (.s (.z) (.s (.z) (.s (.b (.l 1 (.s (.s (.z) (.c (.z) (.z))) (.b (.s (.z) (.s (.z) (.z))))))) (.s (.z) (.z)))))) (.s (.z) (.s (.b (.l 2 (.s (.s (.z) (.c (.z) (.z))) (.b (.s (.z) (.s (.z) (.s (.z) (.z)))))))) (.s (.z) (.z)))))) (.cut 4 (.s (.z) (.c (.s (.z) (.z)) (.z))) (.s (.s (.z) (.c (.s (.z) (.z)) (.z))) (.s (.z) (.z)))))))))
theorem V117.vc_eq (B : Nat) (R : Value → World → Prop) (a : Option Addr) (c d : Nat) (f g : Int) (i j : Bool) (w : World) : wpf (V117.cfg B) (V117.cuts B R) V117.code V117.h [] (postOf Tryz.prog B (Tryz.f117.results.toList) R) (argE 0 [.slice a c d, .int .u64 f, .int .i64 g, .bool i, .bool j]) [] w = V117.vc B R a c d f g i j w := by kernel_rfl
theorem V117.obl (B : Nat) (R : Value → World → Prop) : oblP (V117.cfg B) (V117.cuts B R) V117.code V117.h [] (postOf Tryz.prog B (Tryz.f117.results.toList) R) := by
 have e : oblP (V117.cfg B) (V117.cuts B R) V117.code V117.h [] (postOf Tryz.prog B (Tryz.f117.results.toList) R) = (True ∧ ((True ∧ (True ∧ True)) ∧ (True ∧ (True ∧ ((True ∧ (True ∧ True)) ∧ (∀ (a : Option Addr) (c d : Nat) (f g : Int) (i j : Bool) (l : Option Addr) (m n : Nat) (o : ByteArray) (p : Addr) (q : Int) (w : World), V117.b0 B R a c d f g i j l m n o p q w → V117.b0 B R a c d f g i j l m n o p q w) ∧ ((True ∧ ((True ∧ (True ∧ (True ∧ (((∀ (a : Option Addr) (c d : Nat) (f : Int) (i j : Bool) (l : Option Addr) (m n : Nat) (o : ByteArray) (p : Addr) (q r s t : Int) (w : World), ¬ V117.l1 B R 0 a c d f i j l m n o p q r s t w) ∧ (∀ u, ∀ (a : Option Addr) (c d : Nat) (f : Int) (i j : Bool) (l : Option Addr) (m n : Nat) (o : ByteArray) (p : Addr) (q r s t : Int) (w : World), V117.l1 B R (u + 1) a c d f i j l m n o p q r s t w → V117.l1 B R (u + 1) a c d f i j l m n o p q r s t w) ∧ ∀ u : Nat, ((True ∧ (True ∧ True)) ∧ (True ∧ (True ∧ True)))) ∧ (True ∧ True))))) ∧ (True ∧ (((∀ (a : Option Addr) (c d : Nat) (f : Int) (i j : Bool) (l : Option Addr) (m n : Nat) (o : ByteArray) (p : Addr) (q x : Int) (w : World), ¬ V117.l2 B R 0 a c d f i j l m n o p q x w) ∧ (∀ y, ∀ (a : Option Addr) (c d : Nat) (f : Int) (i j : Bool) (l : Option Addr) (m n : Nat) (o : ByteArray) (p : Addr) (q x : Int) (w : World), V117.l2 B R (y + 1) a c d f i j l m n o p q x w → V117.l2 B R (y + 1) a c d f i j l m n o p q x w) ∧ ∀ y : Nat, ((True ∧ (True ∧ True)) ∧ (True ∧ (True ∧ (True ∧ True))))) ∧ (True ∧ True))))) ∧ (∀ (a : Option Addr) (c d : Nat) (i j : Bool) (l : Option Addr) (m n : Nat) (o : ByteArray) (p : Addr) (q : Int) (w : World), V117.b3 B R a c d i j l m n o p q w → V117.b3 B R a c d i j l m n o p q w) ∧ ((True ∧ ((True ∧ True) ∧ True)) ∧ (∀ (a : Option Addr) (c d : Nat) (j : Bool) (l : Option Addr) (m n : Nat) (o : ByteArray) (p : Addr) (q : Int) (w : World), V117.b4 B R a c d j l m n o p q w → V117.b4 B R a c d j l m n o p q w) ∧ ((True ∧ ((True ∧ True) ∧ True)) ∧ (True ∧ True))))))))) := by kernel_rfl
 exact e.mpr (⟨trivial, ⟨⟨trivial, ⟨trivial, trivial⟩⟩, ⟨trivial, ⟨trivial, ⟨⟨trivial, ⟨trivial, trivial⟩⟩, fun a c d f g i j l m n o p q w h => h, ⟨⟨trivial, ⟨⟨trivial, ⟨trivial, ⟨trivial, ⟨⟨fun a c d f i j l m n o p q r s t w h => h, fun _ a c d f i j l m n o p q r s t w h => h, fun u => ⟨⟨trivial, ⟨trivial, trivial⟩⟩, ⟨trivial, ⟨trivial, trivial⟩⟩⟩⟩, ⟨trivial, trivial⟩⟩⟩⟩⟩, ⟨trivial, ⟨⟨fun a c d f i j l m n o p q x w h => h, fun _ a c d f i j l m n o p q x w h => h, fun y => ⟨⟨trivial, ⟨trivial, trivial⟩⟩, ⟨trivial, ⟨trivial, ⟨trivial, trivial⟩⟩⟩⟩⟩, ⟨trivial, trivial⟩⟩⟩⟩⟩, fun a c d i j l m n o p q w h => h, ⟨⟨trivial, ⟨⟨trivial, trivial⟩, trivial⟩⟩, fun a c d j l m n o p q w h => h, ⟨⟨trivial, ⟨⟨trivial, trivial⟩, trivial⟩⟩, ⟨trivial, trivial⟩⟩⟩⟩⟩⟩⟩⟩⟩)
theorem V117.cfgOk (B : Nat) : CfgOk (V117.cfg B) := cfgOk_of (by kernel_rfl) (by kernel_rfl) extNil
theorem V117.sound {a : Option Addr} {d f : Nat} {g i : Int} {j l : Bool} {w : World} {R : Value → World → Prop} (h : V117.vc w.heap.size R a d f g i j l w) : Calls Tryz.prog 117 ⟨[.slice a d f, .int .u64 g, .int .i64 i, .bool j, .bool l]⟩ w fun e w' => ∃ v, e = .returned v ∧ R v w' :=
 calls_wpfP (c := V117.cfg w.heap.size) (fn := Tryz.f117) (x := V117.code) (V117.cuts w.heap.size R) V117.h (V117.cfgOk _) mixed Tryz.func117 (by kernel_rfl) (by kernel_rfl) (by kernel_rfl) rfl (V117.obl _ _) ((V117.vc_eq _ _ a d f g i j l _).symm ▸ h)
end Go.Proofs.YtidcpndlloppdaaGreatDoor
