import Derived.Test.YtidcpndlloppdaaZP21d
import Derived.Test.YtidcpndlloppdaaZVB
/-
  Layer 21, plain: runs, and what their traces are.
  Conditions: the program is right.
-/
set_option linter.unusedVariables false
set_option linter.unusedSimpArgs false
set_option maxRecDepth 20000
namespace Go.Proofs.Ytidcpndlloppdaa
def playM (p : List Fnc) (m : Mach) : Nat → Mach
  | 0 => m
  | n + 1 => (stepM p (wakeM (playM p m n))).1
theorem play_ok {p : List Fnc} (hr : Rt p) {m : Mach} (h : MOk p m) {k : Nat} (hl : Lim m k) : ∀ n, k + n < 1000000000 → MOk p (playM p m n) ∧ Lim (playM p m n) (k + n)
  | 0, _ => ⟨h, hl⟩
  | n + 1, hn => by
    obtain ⟨a, b⟩ := play_ok hr h hl n (by omega)
    exact step_ok (n := k + n) hr (wake_ok a) (wake_lim b) (by omega)
theorem step_over {p : List Fnc} {m : Mach} (h : m.ended = true) : stepM p m = (m, 7) := by unfold stepM; rw [if_pos h]
end Go.Proofs.Ytidcpndlloppdaa

/-
 What the engine makes of the loaded functions : conditions under which a call returns as told, and proofs of that.
 Conditions: none. Printed by a program of this project.
-/
set_option linter.unusedVariables false
set_option maxRecDepth 100000
namespace Go.Proofs.Ytidcpndlloppdaa
end Go.Proofs.Ytidcpndlloppdaa

/-
 What the engine makes of the loaded functions : conditions under which a call returns as told, and proofs of that.
 Conditions: none. Printed by a program of this project.
-/
set_option linter.unusedVariables false
set_option maxRecDepth 100000
namespace Go.Proofs.Ytidcpndlloppdaa
end Go.Proofs.Ytidcpndlloppdaa

/-
 What the engine makes of the loaded functions 46, 74, 75: conditions under which a call returns as told, and proofs of that.
 Conditions: none. Printed by a program of this project.
-/
set_option linter.unusedVariables false
set_option maxRecDepth 100000
namespace Go.Proofs.Ytidcpndlloppdaa
def V46.l0 (B : Nat) (R : Value → World → Prop) : Nat → Option Addr → Nat → Nat → Int → Int → Nat → Option Addr → Nat → Nat → Nat → Option Addr → Nat → Nat → World → Prop
 | 0 => fun _ _ _ _ _ _ _ _ _ _ _ _ _ _ => False
 | k + 1 => fun a c d f g i j l m n o p q w =>
 if (decide (g < f)) = true
 then (∃ r : Addr, a = some r ∧ (0 : Int) ≤ g ∧ g < (c : Int) ∧
 ∃ s : Int, w.cell? ((r.add (g.toNat * 4)).add 0) = some (.int .i64 s) ∧
 ∃ t : Int, w.cell? ((r.add (g.toNat * 4)).add 1) = some (.int .i64 t) ∧
 ∃ x : Int, w.cell? ((r.add (g.toNat * 4)).add 2) = some (.int .i64 x) ∧
 ∃ (y : Option Addr) (z A : Nat), w.cell? ((r.add (g.toNat * 4)).add 3) = some (.slice y z A) ∧
 ∀ C : Nat, w.heap.size ≤ C →
 CallK Try.prog 75 [.slice y z A] B w [C, i, n] fun v D => 
 ∃ (E : Option Addr) (F G : Nat), v = .slice E F G ∧
 ∃ I : Addr, o = some I ∧ (0 : Int) ≤ g ∧ g < (p : Int) ∧
 (∃ u, D.cell? (((I.add (g.toNat * 4)).add 3).add 0) = some u) ∧ D.frozen? (((I.add (g.toNat * 4)).add 3).add 0) = false ∧
 let J := D.setCell (((I.add (g.toNat * 4)).add 3).add 0) (.slice E F G);
 (V46.l0 B R k) a c d f (IntKind.wrap .i64 (g + 1)) i j l m n o p q J)
 else (Ret B w (R (.agg ⟨[.slice o p q]⟩)))
def V46.vc (B : Nat) (R : Value → World → Prop) (a : Option Addr) (c d : Nat) (w : World) : Prop :=
 ∀ f : Nat, w.heap.size ≤ f →
 ∀ g : Nat, w.heap.size ≤ g →
 CallK Try.prog 74 [.slice a c d] B w [g, f] fun v i => 
 ∃ (j : Option Addr) (l m : Nat), v = .slice j l m ∧
 ∃ n, V46.l0 B R n j l m (l : Int) 0 g none 0 0 f j l m i
noncomputable def V46.cfg (B : Nat) : Cfg := ⟨Try.prog, ⟨27, B⟩, [], hasN [74, 75], hasN [], look []⟩
noncomputable def V46.code : Code := (Try.f46.body).getD .skip
noncomputable def V46.cuts (B : Nat) (R : Value → World → Prop) : Nat → Cut := nthC [⟨[(10, .one (.slice)), (11, .one (.int .i64)), (12, .one (.int .i64))], [(2, 34, [.slice]), (1, 34, [.slice])], fun fs vs bs w => V46.l0 B R (nthN fs 0) (slA (nthV vs 0)) (slL (nthV vs 0)) (slC (nthV vs 0)) (iV (nthV vs 1)) (iV (nthV vs 2)) (nthB bs 0).blk (slA (nthV (nthB bs 0).cells 0)) (slL (nthV (nthB bs 0).cells 0)) (slC (nthV (nthB bs 0).cells 0)) (nthB bs 1).blk (slA (nthV (nthB bs 1).cells 0)) (slL (nthV (nthB bs 1).cells 0)) (slC (nthV (nthB bs 1).cells 0)) w⟩]
noncomputable def V46.h : H := .s (.z) (.s (.z) (.s (.s (.z) (.b (.l 0 (.s (.z) (.s (.c (.z) (.z)) (.s (.b (.s (.z) (.r [[0, 1, 2, 3, 4, 5, 6, 7, 8]]))) (.z))))))) (.s (.z) (.z))))
theorem V46.vc_eq (B : Nat) (R : Value → World → Prop) (a : Option Addr) (c d : Nat) (w : World) : wpf (V46.cfg B) (V46.cuts B R) V46.code V46.h [] (postOf Try.prog B (Try.f46.results.toList) R) (argE 0 [.agg ⟨[.slice a c d]⟩]) [] w = V46.vc B R a c d w := by kernel_rfl
theorem V46.obl (B : Nat) (R : Value → World → Prop) : oblP (V46.cfg B) (V46.cuts B R) V46.code V46.h [] (postOf Try.prog B (Try.f46.results.toList) R) := by
 have e : oblP (V46.cfg B) (V46.cuts B R) V46.code V46.h [] (postOf Try.prog B (Try.f46.results.toList) R) = (True ∧ (True ∧ ((True ∧ ((∀ (a : Option Addr) (c d : Nat) (f g : Int) (i : Nat) (j : Option Addr) (l m n : Nat) (o : Option Addr) (p q : Nat) (w : World), ¬ V46.l0 B R 0 a c d f g i j l m n o p q w) ∧ (∀ r, ∀ (a : Option Addr) (c d : Nat) (f g : Int) (i : Nat) (j : Option Addr) (l m n : Nat) (o : Option Addr) (p q : Nat) (w : World), V46.l0 B R (r + 1) a c d f g i j l m n o p q w → V46.l0 B R (r + 1) a c d f g i j l m n o p q w) ∧ ∀ r : Nat, (True ∧ ((True ∧ True) ∧ ((True ∧ (true = true)) ∧ True))))) ∧ (True ∧ True)))) := by kernel_rfl
 exact e.mpr (⟨trivial, ⟨trivial, ⟨⟨trivial, ⟨fun a c d f g i j l m n o p q w h => h, fun _ a c d f g i j l m n o p q w h => h, fun r => ⟨trivial, ⟨⟨trivial, trivial⟩, ⟨⟨trivial, rfl⟩, trivial⟩⟩⟩⟩⟩, ⟨trivial, trivial⟩⟩⟩⟩)
theorem V46.cfgOk (B : Nat) : CfgOk (V46.cfg B) := cfgOk_of (by kernel_rfl) (by kernel_rfl) extNil
theorem V46.sound {a : Option Addr} {d f : Nat} {w : World} {R : Value → World → Prop} (h : V46.vc w.heap.size R a d f w) : Calls Try.prog 46 ⟨[.agg ⟨[.slice a d f]⟩]⟩ w fun e w' => ∃ v, e = .returned v ∧ R v w' :=
 calls_wpfP (c := V46.cfg w.heap.size) (fn := Try.f46) (x := V46.code) (V46.cuts w.heap.size R) V46.h (V46.cfgOk _) mixed Try.func46 (by kernel_rfl) (by kernel_rfl) (by kernel_rfl) rfl (V46.obl _ _) ((V46.vc_eq _ _ a d f _).symm ▸ h)
def V74.vc (B : Nat) (R : Value → World → Prop) (a : Option Addr) (c d : Nat) (w : World) : Prop :=
 if (Option.isNone a) = true
 then (Ret B w (R (.slice none 0 0)))
 else (Expo B w [] fun f => 
 let g := f.alloc (.cells ⟨[]⟩ 26);
 RunK Try.prog (Builtin.append_ #[32, 32] 32 ⟨[.slice (some ⟨f.heap.size, 0, none⟩) 0 0, .slice a c d]⟩) B g [] fun v i => 
 ∃ (j : Option Addr) (l m : Nat), v = .slice j l m ∧
 Ret B i (R (.slice j l m)))
noncomputable def V74.cfg (B : Nat) : Cfg := ⟨Try.prog, ⟨8, B⟩, [], hasN [], hasN [], look []⟩
noncomputable def V74.code : Code := (Try.f74.body).getD .skip
noncomputable def V74.cuts (B : Nat) (R : Value → World → Prop) : Nat → Cut := nthC []
noncomputable def V74.h : H := .s (.z) (.s (.s (.z) (.c (.s (.z) (.z)) (.z))) (.s (.z) (.z)))
theorem V74.vc_eq (B : Nat) (R : Value → World → Prop) (a : Option Addr) (c d : Nat) (w : World) : wpf (V74.cfg B) (V74.cuts B R) V74.code V74.h [] (postOf Try.prog B (Try.f74.results.toList) R) (argE 0 [.slice a c d]) [] w = V74.vc B R a c d w := by kernel_rfl
theorem V74.obl (B : Nat) (R : Value → World → Prop) : oblP (V74.cfg B) (V74.cuts B R) V74.code V74.h [] (postOf Try.prog B (Try.f74.results.toList) R) := by
 have e : oblP (V74.cfg B) (V74.cuts B R) V74.code V74.h [] (postOf Try.prog B (Try.f74.results.toList) R) = (True ∧ ((True ∧ ((True ∧ True) ∧ True)) ∧ (True ∧ True))) := by kernel_rfl
 exact e.mpr (⟨trivial, ⟨⟨trivial, ⟨⟨trivial, trivial⟩, trivial⟩⟩, ⟨trivial, trivial⟩⟩⟩)
theorem V74.cfgOk (B : Nat) : CfgOk (V74.cfg B) := cfgOk_of (by kernel_rfl) (by kernel_rfl) extNil
theorem V74.sound {a : Option Addr} {d f : Nat} {w : World} {R : Value → World → Prop} (h : V74.vc w.heap.size R a d f w) : Calls Try.prog 74 ⟨[.slice a d f]⟩ w fun e w' => ∃ v, e = .returned v ∧ R v w' :=
 calls_wpfP (c := V74.cfg w.heap.size) (fn := Try.f74) (x := V74.code) (V74.cuts w.heap.size R) V74.h (V74.cfgOk _) mixed Try.func74 (by kernel_rfl) (by kernel_rfl) (by kernel_rfl) rfl (V74.obl _ _) ((V74.vc_eq _ _ a d f _).symm ▸ h)
def V75.vc (B : Nat) (R : Value → World → Prop) (a : Option Addr) (c d : Nat) (w : World) : Prop :=
 if (Option.isNone a) = true
 then (Ret B w (R (.slice none 0 0)))
 else (Expo B w [] fun f => 
 let g := f.alloc (.cells ⟨[]⟩ 23);
 RunK Try.prog (Builtin.append_ #[24, 24] 24 ⟨[.slice (some ⟨f.heap.size, 0, none⟩) 0 0, .slice a c d]⟩) B g [] fun v i => 
 ∃ (j : Option Addr) (l m : Nat), v = .slice j l m ∧
 Ret B i (R (.slice j l m)))
noncomputable def V75.cfg (B : Nat) : Cfg := ⟨Try.prog, ⟨8, B⟩, [], hasN [], hasN [], look []⟩
noncomputable def V75.code : Code := (Try.f75.body).getD .skip
noncomputable def V75.cuts (B : Nat) (R : Value → World → Prop) : Nat → Cut := nthC []
noncomputable def V75.h : H := .s (.z) (.s (.s (.z) (.c (.s (.z) (.z)) (.z))) (.s (.z) (.z)))
theorem V75.vc_eq (B : Nat) (R : Value → World → Prop) (a : Option Addr) (c d : Nat) (w : World) : wpf (V75.cfg B) (V75.cuts B R) V75.code V75.h [] (postOf Try.prog B (Try.f75.results.toList) R) (argE 0 [.slice a c d]) [] w = V75.vc B R a c d w := by kernel_rfl
theorem V75.obl (B : Nat) (R : Value → World → Prop) : oblP (V75.cfg B) (V75.cuts B R) V75.code V75.h [] (postOf Try.prog B (Try.f75.results.toList) R) := by
 have e : oblP (V75.cfg B) (V75.cuts B R) V75.code V75.h [] (postOf Try.prog B (Try.f75.results.toList) R) = (True ∧ ((True ∧ ((True ∧ True) ∧ True)) ∧ (True ∧ True))) := by kernel_rfl
 exact e.mpr (⟨trivial, ⟨⟨trivial, ⟨⟨trivial, trivial⟩, trivial⟩⟩, ⟨trivial, trivial⟩⟩⟩)
theorem V75.cfgOk (B : Nat) : CfgOk (V75.cfg B) := cfgOk_of (by kernel_rfl) (by kernel_rfl) extNil
theorem V75.sound {a : Option Addr} {d f : Nat} {w : World} {R : Value → World → Prop} (h : V75.vc w.heap.size R a d f w) : Calls Try.prog 75 ⟨[.slice a d f]⟩ w fun e w' => ∃ v, e = .returned v ∧ R v w' :=
 calls_wpfP (c := V75.cfg w.heap.size) (fn := Try.f75) (x := V75.code) (V75.cuts w.heap.size R) V75.h (V75.cfgOk _) mixed Try.func75 (by kernel_rfl) (by kernel_rfl) (by kernel_rfl) rfl (V75.obl _ _) ((V75.vc_eq _ _ a d f _).symm ▸ h)
end Go.Proofs.Ytidcpndlloppdaa
