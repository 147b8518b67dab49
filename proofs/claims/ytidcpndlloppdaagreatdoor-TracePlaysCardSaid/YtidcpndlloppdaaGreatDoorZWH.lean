import Derived.Test.YtidcpndlloppdaaGreatDoorZP21d
import Derived.Test.YtidcpndlloppdaaGreatDoorZVB
/-
  Layer 21, plain: runs, and what their traces are.
  Conditions: the program is right.
-/
set_option linter.unusedVariables false
set_option linter.unusedSimpArgs false
set_option maxRecDepth 20000
namespace Go.Proofs.YtidcpndlloppdaaGreatDoor
def playM (p : List Fnc) (m : Mach) : Nat → Mach
  | 0 => m
  | n + 1 => (stepM p (wakeM (playM p m n))).1
theorem playM_succ (p : List Fnc) (m : Mach) : ∀ n, playM p m (n + 1) = playM p (stepM p (wakeM m)).1 n
  | 0 => rfl
  | n + 1 => by
    have h : playM p m (n + 1 + 1) = (stepM p (wakeM (playM p m (n + 1)))).1 := rfl
    rw [h, playM_succ p m n]; rfl
theorem playM_add (p : List Fnc) (m : Mach) (a : Nat) : ∀ b, playM p m (a + b) = playM p (playM p m a) b
  | 0 => rfl
  | b + 1 => by
    have h : playM p m (a + b + 1) = (stepM p (wakeM (playM p m (a + b)))).1 := rfl
    rw [← Nat.add_assoc, h, playM_add p m a b]; rfl
theorem play_ok {p : List Fnc} (hr : Rt p) {m : Mach} (h : MOk p m) {k : Nat} (hl : Lim m k) : ∀ n, k + n < 1000000000 → MOk p (playM p m n) ∧ Lim (playM p m n) (k + n)
  | 0, _ => ⟨h, hl⟩
  | n + 1, hn => by
    obtain ⟨a, b⟩ := play_ok hr h hl n (by omega)
    exact step_ok (n := k + n) hr (wake_ok a) (wake_lim b) (by omega)
theorem step_over {p : List Fnc} {m : Mach} (h : m.ended = true) : stepM p m = (m, 7) := by unfold stepM; rw [if_pos h]
theorem play_over {p : List Fnc} {m : Mach} (h : m.ended = true) : ∀ n, (playM p m n).trace = m.trace ∧ (playM p m n).ended = true ∧ (playM p m n).frames = m.frames
  | 0 => ⟨rfl, h, rfl⟩
  | n + 1 => by
    obtain ⟨a, b, c⟩ := play_over (p := p) h n
    have e : playM p m (n + 1) = wakeM (playM p m n) := by
      show (stepM p (wakeM (playM p m n))).1 = _
      rw [step_over (show (wakeM (playM p m n)).ended = true from b)]
    rw [e]
    exact ⟨a, b, c⟩
end Go.Proofs.YtidcpndlloppdaaGreatDoor

/-
  What the engine makes of the loaded functions : conditions under which a call returns as told, and proofs of that.
  Conditions: none. Printed by a program of this project.
-/
set_option linter.unusedVariables false
set_option maxRecDepth 100000
namespace Go.Proofs.YtidcpndlloppdaaGreatDoor
end Go.Proofs.YtidcpndlloppdaaGreatDoor

/-
  What the engine makes of the loaded functions : conditions under which a call returns as told, and proofs of that.
  Conditions: none. Printed by a program of this project.
-/
set_option linter.unusedVariables false
set_option maxRecDepth 100000
namespace Go.Proofs.YtidcpndlloppdaaGreatDoor
end Go.Proofs.YtidcpndlloppdaaGreatDoor

/-
  What the engine makes of the loaded functions 61, 85, 86: conditions under which a call returns as told, and proofs of that.
  Conditions: none. Printed by a program of this project.
-/
set_option linter.unusedVariables false
set_option maxRecDepth 100000
namespace Go.Proofs.YtidcpndlloppdaaGreatDoor
def V61.l0 (B : Nat) (R : Value → World → Prop) : Nat → Option Addr → Nat → Nat → Int → Int → Nat → Option Addr → Nat → Nat → Nat → Option Addr → Nat → Nat → World → Prop
  | 0 => fun _ _ _ _ _ _ _ _ _ _ _ _ _ _ => False
  | k + 1 => fun a c d f g i j l m n o p q w =>
    if (decide (g < f)) = true
    then (∃ r : Addr, a = some r ∧ (0 : Int) ≤ g ∧ g < (c : Int) ∧
    ∃ s : Int, w.cell? ((r.add (g.toNat * 4)).add 0) = some (.int .i64 s) ∧
    ∃ t : Int, w.cell? ((r.add (g.toNat * 4)).add 1) = some (.int .i64 t) ∧
    ∃ x : Int, w.cell? ((r.add (g.toNat * 4)).add 2) = some (.int .i64 x) ∧
    ∃ (y : Option Addr) (z A : Nat), w.cell? ((r.add (g.toNat * 4)).add 3) = some (.slice y z A) ∧
    ∀ C : Nat, w.heap.size ≤ C →
    CallK Tryz.prog 86 [.slice y z A] B w [C, i, n] fun v D => 
     ∃ (E : Option Addr) (F G : Nat), v = .slice E F G ∧
     ∃ I : Addr, o = some I ∧ (0 : Int) ≤ g ∧ g < (p : Int) ∧
     (∃ u, D.cell? (((I.add (g.toNat * 4)).add 3).add 0) = some u) ∧ D.frozen? (((I.add (g.toNat * 4)).add 3).add 0) = false ∧
     let J := D.setCell (((I.add (g.toNat * 4)).add 3).add 0) (.slice E F G);
     (V61.l0 B R k) a c d f (IntKind.wrap .i64 (g + 1)) i j l m n o p q J)
    else (Ret B w (R (.agg ⟨[.slice o p q]⟩)))
def V61.vc (B : Nat) (R : Value → World → Prop) (a : Option Addr) (c d : Nat) (w : World) : Prop :=
  ∀ f : Nat, w.heap.size ≤ f →
  ∀ g : Nat, w.heap.size ≤ g →
  CallK Tryz.prog 85 [.slice a c d] B w [g, f] fun v i => 
  ∃ (j : Option Addr) (l m : Nat), v = .slice j l m ∧
  ∃ n, V61.l0 B R n j l m (l : Int) 0 g none 0 0 f j l m i
noncomputable def V61.cfg (B : Nat) : Cfg := ⟨Tryz.prog, ⟨27, B⟩, [], hasN [85, 86], hasN [], look []⟩
noncomputable def V61.code : Code := (Tryz.f61.body).getD .skip
noncomputable def V61.cuts (B : Nat) (R : Value → World → Prop) : Nat → Cut := nthC [⟨[(10, .one (.slice)), (11, .one (.int .i64)), (12, .one (.int .i64))], [(2, 24, [.slice]), (1, 24, [.slice])], fun fs vs bs w => V61.l0 B R (nthN fs 0) (slA (nthV vs 0)) (slL (nthV vs 0)) (slC (nthV vs 0)) (iV (nthV vs 1)) (iV (nthV vs 2)) (nthB bs 0).blk (slA (nthV (nthB bs 0).cells 0)) (slL (nthV (nthB bs 0).cells 0)) (slC (nthV (nthB bs 0).cells 0)) (nthB bs 1).blk (slA (nthV (nthB bs 1).cells 0)) (slL (nthV (nthB bs 1).cells 0)) (slC (nthV (nthB bs 1).cells 0)) w⟩]
noncomputable def V61.h : H := .s (.z) (.s (.z) (.s (.s (.z) (.b (.l 0 (.s (.z) (.s (.c (.z) (.z)) (.s (.b (.s (.z) (.r [[0, 1, 2, 3, 4, 5, 6, 7, 8]]))) (.z))))))) (.s (.z) (.z))))
theorem V61.vc_eq (B : Nat) (R : Value → World → Prop) (a : Option Addr) (c d : Nat) (w : World) : wpf (V61.cfg B) (V61.cuts B R) V61.code V61.h [] (postOf Tryz.prog B (Tryz.f61.results.toList) R) (argE 0 [.agg ⟨[.slice a c d]⟩]) [] w = V61.vc B R a c d w := by kernel_rfl
theorem V61.obl (B : Nat) (R : Value → World → Prop) : oblP (V61.cfg B) (V61.cuts B R) V61.code V61.h [] (postOf Tryz.prog B (Tryz.f61.results.toList) R) := by
  have e : oblP (V61.cfg B) (V61.cuts B R) V61.code V61.h [] (postOf Tryz.prog B (Tryz.f61.results.toList) R) = (True ∧ (True ∧ ((True ∧ ((∀ (a : Option Addr) (c d : Nat) (f g : Int) (i : Nat) (j : Option Addr) (l m n : Nat) (o : Option Addr) (p q : Nat) (w : World), ¬ V61.l0 B R 0 a c d f g i j l m n o p q w) ∧ (∀ r, ∀ (a : Option Addr) (c d : Nat) (f g : Int) (i : Nat) (j : Option Addr) (l m n : Nat) (o : Option Addr) (p q : Nat) (w : World), V61.l0 B R (r + 1) a c d f g i j l m n o p q w → V61.l0 B R (r + 1) a c d f g i j l m n o p q w) ∧ ∀ r : Nat, (True ∧ ((True ∧ True) ∧ ((True ∧ (true = true)) ∧ True))))) ∧ (True ∧ True)))) := by kernel_rfl
  exact e.mpr (⟨trivial, ⟨trivial, ⟨⟨trivial, ⟨fun a c d f g i j l m n o p q w h => h, fun _ a c d f g i j l m n o p q w h => h, fun r => ⟨trivial, ⟨⟨trivial, trivial⟩, ⟨⟨trivial, rfl⟩, trivial⟩⟩⟩⟩⟩, ⟨trivial, trivial⟩⟩⟩⟩)
theorem V61.cfgOk (B : Nat) : CfgOk (V61.cfg B) := cfgOk_of (by kernel_rfl) (by kernel_rfl) extNil
theorem V61.sound {a : Option Addr} {d f : Nat} {w : World} {R : Value → World → Prop} (h : V61.vc w.heap.size R a d f w) : Calls Tryz.prog 61 ⟨[.agg ⟨[.slice a d f]⟩]⟩ w fun e w' => ∃ v, e = .returned v ∧ R v w' :=
  calls_wpfP (c := V61.cfg w.heap.size) (fn := Tryz.f61) (x := V61.code) (V61.cuts w.heap.size R) V61.h (V61.cfgOk _) mixed Tryz.func61 (by kernel_rfl) (by kernel_rfl) (by kernel_rfl) rfl (V61.obl _ _) ((V61.vc_eq _ _ a d f _).symm ▸ h)
def V85.vc (B : Nat) (R : Value → World → Prop) (a : Option Addr) (c d : Nat) (w : World) : Prop :=
  if (Option.isNone a) = true
  then (Ret B w (R (.slice none 0 0)))
  else (Expo B w [] fun f => 
   let g := f.alloc (.cells ⟨[]⟩ 63);
   RunK Tryz.prog (Builtin.append_ #[22, 22] 22 ⟨[.slice (some ⟨f.heap.size, 0, none⟩) 0 0, .slice a c d]⟩) B g [] fun v i => 
   ∃ (j : Option Addr) (l m : Nat), v = .slice j l m ∧
   Ret B i (R (.slice j l m)))
noncomputable def V85.cfg (B : Nat) : Cfg := ⟨Tryz.prog, ⟨8, B⟩, [], hasN [], hasN [], look []⟩
noncomputable def V85.code : Code := (Tryz.f85.body).getD .skip
noncomputable def V85.cuts (B : Nat) (R : Value → World → Prop) : Nat → Cut := nthC []
noncomputable def V85.h : H := .s (.z) (.s (.s (.z) (.c (.s (.z) (.z)) (.z))) (.s (.z) (.z)))
theorem V85.vc_eq (B : Nat) (R : Value → World → Prop) (a : Option Addr) (c d : Nat) (w : World) : wpf (V85.cfg B) (V85.cuts B R) V85.code V85.h [] (postOf Tryz.prog B (Tryz.f85.results.toList) R) (argE 0 [.slice a c d]) [] w = V85.vc B R a c d w := by kernel_rfl
theorem V85.obl (B : Nat) (R : Value → World → Prop) : oblP (V85.cfg B) (V85.cuts B R) V85.code V85.h [] (postOf Tryz.prog B (Tryz.f85.results.toList) R) := by
  have e : oblP (V85.cfg B) (V85.cuts B R) V85.code V85.h [] (postOf Tryz.prog B (Tryz.f85.results.toList) R) = (True ∧ ((True ∧ ((True ∧ True) ∧ True)) ∧ (True ∧ True))) := by kernel_rfl
  exact e.mpr (⟨trivial, ⟨⟨trivial, ⟨⟨trivial, trivial⟩, trivial⟩⟩, ⟨trivial, trivial⟩⟩⟩)
theorem V85.cfgOk (B : Nat) : CfgOk (V85.cfg B) := cfgOk_of (by kernel_rfl) (by kernel_rfl) extNil
theorem V85.sound {a : Option Addr} {d f : Nat} {w : World} {R : Value → World → Prop} (h : V85.vc w.heap.size R a d f w) : Calls Tryz.prog 85 ⟨[.slice a d f]⟩ w fun e w' => ∃ v, e = .returned v ∧ R v w' :=
  calls_wpfP (c := V85.cfg w.heap.size) (fn := Tryz.f85) (x := V85.code) (V85.cuts w.heap.size R) V85.h (V85.cfgOk _) mixed Tryz.func85 (by kernel_rfl) (by kernel_rfl) (by kernel_rfl) rfl (V85.obl _ _) ((V85.vc_eq _ _ a d f _).symm ▸ h)
def V86.vc (B : Nat) (R : Value → World → Prop) (a : Option Addr) (c d : Nat) (w : World) : Prop :=
  if (Option.isNone a) = true
  then (Ret B w (R (.slice none 0 0)))
  else (Expo B w [] fun f => 
   let g := f.alloc (.cells ⟨[]⟩ 67);
   RunK Tryz.prog (Builtin.append_ #[61, 61] 61 ⟨[.slice (some ⟨f.heap.size, 0, none⟩) 0 0, .slice a c d]⟩) B g [] fun v i => 
   ∃ (j : Option Addr) (l m : Nat), v = .slice j l m ∧
   Ret B i (R (.slice j l m)))
noncomputable def V86.cfg (B : Nat) : Cfg := ⟨Tryz.prog, ⟨8, B⟩, [], hasN [], hasN [], look []⟩
noncomputable def V86.code : Code := (Tryz.f86.body).getD .skip
noncomputable def V86.cuts (B : Nat) (R : Value → World → Prop) : Nat → Cut := nthC []
noncomputable def V86.h : H := .s (.z) (.s (.s (.z) (.c (.s (.z) (.z)) (.z))) (.s (.z) (.z)))
theorem V86.vc_eq (B : Nat) (R : Value → World → Prop) (a : Option Addr) (c d : Nat) (w : World) : wpf (V86.cfg B) (V86.cuts B R) V86.code V86.h [] (postOf Tryz.prog B (Tryz.f86.results.toList) R) (argE 0 [.slice a c d]) [] w = V86.vc B R a c d w := by kernel_rfl
theorem V86.obl (B : Nat) (R : Value → World → Prop) : oblP (V86.cfg B) (V86.cuts B R) V86.code V86.h [] (postOf Tryz.prog B (Tryz.f86.results.toList) R) := by
  have e : oblP (V86.cfg B) (V86.cuts B R) V86.code V86.h [] (postOf Tryz.prog B (Tryz.f86.results.toList) R) = (True ∧ ((True ∧ ((True ∧ True) ∧ True)) ∧ (True ∧ True))) := by kernel_rfl
  exact e.mpr (⟨trivial, ⟨⟨trivial, ⟨⟨trivial, trivial⟩, trivial⟩⟩, ⟨trivial, trivial⟩⟩⟩)
theorem V86.cfgOk (B : Nat) : CfgOk (V86.cfg B) := cfgOk_of (by kernel_rfl) (by kernel_rfl) extNil
theorem V86.sound {a : Option Addr} {d f : Nat} {w : World} {R : Value → World → Prop} (h : V86.vc w.heap.size R a d f w) : Calls Tryz.prog 86 ⟨[.slice a d f]⟩ w fun e w' => ∃ v, e = .returned v ∧ R v w' :=
  calls_wpfP (c := V86.cfg w.heap.size) (fn := Tryz.f86) (x := V86.code) (V86.cuts w.heap.size R) V86.h (V86.cfgOk _) mixed Tryz.func86 (by kernel_rfl) (by kernel_rfl) (by kernel_rfl) rfl (V86.obl _ _) ((V86.vc_eq _ _ a d f _).symm ▸ h)
end Go.Proofs.YtidcpndlloppdaaGreatDoor
