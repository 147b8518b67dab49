import Derived.Test.YtidcpndlloppdaaZMB
import Derived.Test.YtidcpndlloppdaaZEngS
/-
 What the engine makes of pieces of loaded functions (V19p, V19a, V19b): conditions under which they end as told.
 Conditions: none. Printed by a program of this project.
-/
set_option linter.unusedVariables false
set_option maxRecDepth 100000
namespace Go.Proofs.Ytidcpndlloppdaa
def V19p.vc (B : Nat) (R : Value → Nat → Option Addr → Nat → Nat → Nat → Addr → World → Prop) (m0 : Addr) (w : World) : Prop :=
 ∀ q1 : Nat, w.heap.size ≤ q1 →
 ∀ q3 : Nat, w.heap.size ≤ q3 →
 ∃ (A13 : Option Addr) (A13l A13c : Nat), w.cell? (m0.add 6) = some (.slice A13 A13l A13c) ∧
 CallK Try.prog 37 [.slice A13 A13l A13c] B w [q3, q1] fun v w_1 => 
 ∃ v14 : Value, v = v14 ∧ partV v14 fun uv14 => 
 R uv14 q3 none 0 0 q1 m0 w_1
noncomputable def V19p.cfg (B : Nat) : Cfg := ⟨Try.prog, ⟨47, B⟩, [], hasN [37], hasN [], look []⟩
noncomputable def V19p.code : Code := (.seq (cL ((Try.f19.body).getD .skip)) (.seq (cL (cR ((Try.f19.body).getD .skip))) (.seq (cL (cR (cR ((Try.f19.body).getD .skip)))) (cL (cL (cR (cR (cR ((Try.f19.body).getD .skip)))))))))
noncomputable def V19p.fin (R : Value → Nat → Option Addr → Nat → Nat → Nat → Addr → World → Prop) : Cut := ⟨[(14, .one (.any))], [(3, 49, [.slice]), (1, 35, [.ptr])], fun fs vs bs w => R (id (nthV vs 0)) (nthB bs 0).blk (slA (nthV (nthB bs 0).cells 0)) (slL (nthV (nthB bs 0).cells 0)) (slC (nthV (nthB bs 0).cells 0)) (nthB bs 1).blk (pV (nthV (nthB bs 1).cells 0)) w⟩
noncomputable def V19p.cuts (B : Nat) (R : Value → Nat → Option Addr → Nat → Nat → Nat → Addr → World → Prop) : Nat → Cut := nthC []
noncomputable def V19p.h : H := .s (.z) (.s (.s (.z) (.c (.s (.z) (.z)) (.z))) (.s (.z) (.z)))
theorem V19p.vc_eq (B : Nat) (R : Value → Nat → Option Addr → Nat → Nat → Nat → Addr → World → Prop) (m0 : Addr) (w : World) : wpf (V19p.cfg B) (V19p.cuts B R) V19p.code V19p.h [] (postCut (V19p.fin R)) [(0, .v (.pointer (some m0)))] [] w = V19p.vc B R m0 w := by kernel_rfl
theorem V19p.obl (B : Nat) (R : Value → Nat → Option Addr → Nat → Nat → Nat → Addr → World → Prop) : oblP (V19p.cfg B) (V19p.cuts B R) V19p.code V19p.h [] (postCut (V19p.fin R)) := by
 have e : oblP (V19p.cfg B) (V19p.cuts B R) V19p.code V19p.h [] (postCut (V19p.fin R)) = (True ∧ ((True ∧ ((True ∧ True) ∧ True)) ∧ (True ∧ True))) := by kernel_rfl
 exact e.mpr (⟨trivial, ⟨⟨trivial, ⟨⟨trivial, trivial⟩, trivial⟩⟩, ⟨trivial, trivial⟩⟩⟩)
theorem V19p.cfgOk (B : Nat) : CfgOk (V19p.cfg B) := cfgOk_of (by kernel_rfl) (by kernel_rfl) extNil
def V19a.vc (B : Nat) (R : Addr → Addr → Nat → Int → Int → Int → Bool → Int → Option Addr → Nat → Nat → Option Addr → Nat → Nat → Option Addr → Nat → Nat → World → Prop) (m1 out3 : Addr) (x16 x16_1 x16_2 : Int) (b16 : Bool) (x16_3 : Int) (A16 : Option Addr) (A16l A16c : Nat) (A16_1 : Option Addr) (A16_1l A16_1c : Nat) (A16_2 : Option Addr) (A16_2l A16_2c : Nat) (w : World) : Prop :=
 ∀ q5 : Nat, w.heap.size ≤ q5 → R m1 out3 q5 x16 x16_1 x16_2 b16 x16_3 A16 A16l A16c A16_1 A16_1l A16_1c A16_2 A16_2l A16_2c w
noncomputable def V19a.cfg (B : Nat) : Cfg := ⟨Try.prog, ⟨47, B⟩, [], hasN [], hasN [], look []⟩
noncomputable def V19a.code : Code := (cA (cB (cR (cL (cR (cR (cR ((Try.f19.body).getD .skip))))))))
noncomputable def V19a.fin (R : Addr → Addr → Nat → Int → Int → Int → Bool → Int → Option Addr → Nat → Nat → Option Addr → Nat → Nat → Option Addr → Nat → Nat → World → Prop) : Cut := ⟨[(1, .one (.ptr)), (3, .one (.ptr))], [(5, 66, [.int .i64, .int .i64, .int .i64, .bool, .int .u64, .slice, .slice, .slice])], fun fs vs bs w => R (pV (nthV vs 0)) (pV (nthV vs 1)) (nthB bs 0).blk (iV (nthV (nthB bs 0).cells 0)) (iV (nthV (nthB bs 0).cells 1)) (iV (nthV (nthB bs 0).cells 2)) (bV (nthV (nthB bs 0).cells 3)) (iV (nthV (nthB bs 0).cells 4)) (slA (nthV (nthB bs 0).cells 5)) (slL (nthV (nthB bs 0).cells 5)) (slC (nthV (nthB bs 0).cells 5)) (slA (nthV (nthB bs 0).cells 6)) (slL (nthV (nthB bs 0).cells 6)) (slC (nthV (nthB bs 0).cells 6)) (slA (nthV (nthB bs 0).cells 7)) (slL (nthV (nthB bs 0).cells 7)) (slC (nthV (nthB bs 0).cells 7)) w⟩
noncomputable def V19a.cuts (B : Nat) (R : Addr → Addr → Nat → Int → Int → Int → Bool → Int → Option Addr → Nat → Nat → Option Addr → Nat → Nat → Option Addr → Nat → Nat → World → Prop) : Nat → Cut := nthC []
noncomputable def V19a.h : H := .z
theorem V19a.vc_eq (B : Nat) (R : Addr → Addr → Nat → Int → Int → Int → Bool → Int → Option Addr → Nat → Nat → Option Addr → Nat → Nat → Option Addr → Nat → Nat → World → Prop) (m1 out3 : Addr) (x16 x16_1 x16_2 : Int) (b16 : Bool) (x16_3 : Int) (A16 : Option Addr) (A16l A16c : Nat) (A16_1 : Option Addr) (A16_1l A16_1c : Nat) (A16_2 : Option Addr) (A16_2l A16_2c : Nat) (w : World) : wpf (V19a.cfg B) (V19a.cuts B R) V19a.code V19a.h [] (postCut (V19a.fin R)) [(1, .v (.pointer (some m1))), (3, .v (.pointer (some out3))), (16, .v (.agg ⟨[.int .i64 x16, .int .i64 x16_1, .int .i64 x16_2, .bool b16, .int .u64 x16_3, .slice A16 A16l A16c, .slice A16_1 A16_1l A16_1c, .slice A16_2 A16_2l A16_2c]⟩))] [] w = V19a.vc B R m1 out3 x16 x16_1 x16_2 b16 x16_3 A16 A16l A16c A16_1 A16_1l A16_1c A16_2 A16_2l A16_2c w := by kernel_rfl
theorem V19a.obl (B : Nat) (R : Addr → Addr → Nat → Int → Int → Int → Bool → Int → Option Addr → Nat → Nat → Option Addr → Nat → Nat → Option Addr → Nat → Nat → World → Prop) : oblP (V19a.cfg B) (V19a.cuts B R) V19a.code V19a.h [] (postCut (V19a.fin R)) := by
 have e : oblP (V19a.cfg B) (V19a.cuts B R) V19a.code V19a.h [] (postCut (V19a.fin R)) = True := by kernel_rfl
 exact e.mpr (trivial)
theorem V19a.cfgOk (B : Nat) : CfgOk (V19a.cfg B) := cfgOk_of (by kernel_rfl) (by kernel_rfl) extNil
theorem V19a.codeIn : codeIn V19a.code = true := by kernel_rfl
def V19b.l0 (B : Nat) (R : World → Prop) : Nat → Addr → Option Addr → Nat → Nat → Int → Int → World → Prop
 | 0 => fun _ _ _ _ _ _ _ => False
 | k + 1 => fun out3 A33 A33l A33c x34 x35 w =>
 if (decide (x35 < x34)) = true
 then (∃ p37 : Addr, A33 = some p37 ∧ (0 : Int) ≤ x35 ∧ x35 < (A33l : Int) ∧
 ∃ x38 : Int, w.cell? (p37.add x35.toNat) = some (.int .u64 x38) ∧
 if (x38 != 0) = true
 then (∃ (A41 : Option Addr) (A41l A41c : Nat), w.cell? out3 = some (.slice A41 A41l A41c) ∧
 Expo B w [] fun w_1 => 
 let w_2 := w_1.alloc (.cells ⟨[.int .u64 x38]⟩ 28);
 RunK Try.prog (Builtin.append_ #[49, 49] 49 ⟨[.slice A41 A41l A41c, .slice (some ⟨w_1.heap.size, 0, none⟩) 1 1]⟩) B w_2 [] fun v w_3 => 
 ∃ (A44 : Option Addr) (A44l A44c : Nat), v = .slice A44 A44l A44c ∧
 (∃ u, w_3.cell? (out3.add 0) = some u) ∧ w_3.frozen? (out3.add 0) = false ∧
 let w_4 := w_3.setCell (out3.add 0) (.slice A44 A44l A44c);
 (V19b.l0 B R k) out3 A33 A33l A33c x34 (IntKind.wrap .i64 (x35 + 1)) w_4)
 else ((V19b.l0 B R k) out3 A33 A33l A33c x34 (IntKind.wrap .i64 (x35 + 1)) w))
 else (R w)
def V19b.vc (B : Nat) (R : World → Prop) (m1 out3 : Addr) (q5 : Nat) (x5 x5_1 x5_2 : Int) (x5_3 : Bool) (x5_4 : Int) (x5_5 : Option Addr) (x5_5l x5_5c : Nat) (x5_6 : Option Addr) (x5_6l x5_6c : Nat) (x5_7 : Option Addr) (x5_7l x5_7c : Nat) (w : World) : Prop :=
 ∃ op22 : Option Addr, w.cell? m1 = some (.pointer op22) ∧
 caseP op22
 (False)
 (fun p22 => ∃ (A26 : Option Addr) (A26l A26c : Nat), w.cell? ((p22.add 0).add 0) = some (.slice A26 A26l A26c) ∧
 ∃ p29 : Addr, A26 = some p29 ∧ (0 : Int) ≤ x5 ∧ x5 < (A26l : Int) ∧
 ∃ x31 : Int, w.cell? ((p29.add (x5.toNat * 4)).add 2) = some (.int .i64 x31) ∧ (0 : Int) ≤ IntKind.wrap .i64 ((x5_6l : Int) - x31) ∧ IntKind.wrap .i64 ((x5_6l : Int) - x31) ≤ (x5_6l : Int) ∧
 ∃ k_1, V19b.l0 B R k_1 out3 (if x5_6c = (IntKind.wrap .i64 ((x5_6l : Int) - x31)).toNat then x5_6 else Option.map (fun a => a.add ((IntKind.wrap .i64 ((x5_6l : Int) - x31)).toNat)) x5_6) (x5_6l - ((IntKind.wrap .i64 ((x5_6l : Int) - x31)).toNat)) (x5_6c - ((IntKind.wrap .i64 ((x5_6l : Int) - x31)).toNat)) ((x5_6l - ((IntKind.wrap .i64 ((x5_6l : Int) - x31)).toNat) : Nat) : Int) 0 w)
noncomputable def V19b.cfg (B : Nat) : Cfg := ⟨Try.prog, ⟨47, B⟩, [], hasN [], hasN [], look []⟩
noncomputable def V19b.code : Code := (cD (cB (cR (cL (cR (cR (cR ((Try.f19.body).getD .skip))))))))
noncomputable def V19b.fin (R : World → Prop) : Cut := ⟨[], [], fun fs vs bs w => R  w⟩
noncomputable def V19b.cuts (B : Nat) (R : World → Prop) : Nat → Cut := nthC [⟨[(3, .one (.ptr)), (33, .one (.slice)), (34, .one (.int .i64)), (35, .one (.int .i64))], [], fun fs vs bs w => V19b.l0 B R (nthN fs 0) (pV (nthV vs 0)) (slA (nthV vs 1)) (slL (nthV vs 1)) (slC (nthV vs 1)) (iV (nthV vs 2)) (iV (nthV vs 3)) w⟩]
noncomputable def V19b.h : H := .b (.s (.r [[0, 1, 2, 3, 4, 5, 6, 7, 8, 9, 10, 11, 12, 13, 14, 15, 16, 17, 18]]) (.b (.l 0 (.s (.z) (.s (.c (.z) (.z)) (.s (.b (.s (.z) (.s (.z) (.c (.z) (.z))))) (.z)))))))
theorem V19b.vc_eq (B : Nat) (R : World → Prop) (m1 out3 : Addr) (q5 : Nat) (x5 x5_1 x5_2 : Int) (x5_3 : Bool) (x5_4 : Int) (x5_5 : Option Addr) (x5_5l x5_5c : Nat) (x5_6 : Option Addr) (x5_6l x5_6c : Nat) (x5_7 : Option Addr) (x5_7l x5_7c : Nat) (w : World) : wpf (V19b.cfg B) (V19b.cuts B R) V19b.code V19b.h [] (postCut (V19b.fin R)) [(1, .v (.pointer (some m1))), (3, .v (.pointer (some out3))), (5, .bx 5 0)] [(5, ⟨q5, 66, [.int .i64 x5, .int .i64 x5_1, .int .i64 x5_2, .bool x5_3, .int .u64 x5_4, .slice x5_5 x5_5l x5_5c, .slice x5_6 x5_6l x5_6c, .slice x5_7 x5_7l x5_7c]⟩)] w = V19b.vc B R m1 out3 q5 x5 x5_1 x5_2 x5_3 x5_4 x5_5 x5_5l x5_5c x5_6 x5_6l x5_6c x5_7 x5_7l x5_7c w := by kernel_rfl
theorem V19b.obl (B : Nat) (R : World → Prop) : oblP (V19b.cfg B) (V19b.cuts B R) V19b.code V19b.h [] (postCut (V19b.fin R)) := by
 have e : oblP (V19b.cfg B) (V19b.cuts B R) V19b.code V19b.h [] (postCut (V19b.fin R)) = ((true = true) ∧ ((∀ (out3 : Addr) (A33 : Option Addr) (A33l A33c : Nat) (x34 x35 : Int) (w : World), ¬ V19b.l0 B R 0 out3 A33 A33l A33c x34 x35 w) ∧ (∀ k0, ∀ (out3 : Addr) (A33 : Option Addr) (A33l A33c : Nat) (x34 x35 : Int) (w : World), V19b.l0 B R (k0 + 1) out3 A33 A33l A33c x34 x35 w → V19b.l0 B R (k0 + 1) out3 A33 A33l A33c x34 x35 w) ∧ ∀ k0 : Nat, (True ∧ ((True ∧ True) ∧ ((True ∧ (True ∧ (True ∧ True))) ∧ True))))) := by kernel_rfl
 exact e.mpr (⟨rfl, ⟨fun out3 A33 A33l A33c x34 x35 w h => h, fun _ out3 A33 A33l A33c x34 x35 w h => h, fun k0 => ⟨trivial, ⟨⟨trivial, trivial⟩, ⟨⟨trivial, ⟨trivial, ⟨trivial, trivial⟩⟩⟩, trivial⟩⟩⟩⟩⟩)
theorem V19b.cfgOk (B : Nat) : CfgOk (V19b.cfg B) := cfgOk_of (by kernel_rfl) (by kernel_rfl) extNil
theorem V19b.codeIn : codeIn V19b.code = true := by kernel_rfl
end Go.Proofs.Ytidcpndlloppdaa
