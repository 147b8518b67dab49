import Derived.Test.YtidcpndlloppdaaGreatDoorZN21
import Derived.Test.YtidcpndlloppdaaGreatDoorZMB
import Derived.Test.YtidcpndlloppdaaGreatDoorZN29
import Derived.Test.YtidcpndlloppdaaGreatDoorZME
/-
  Layer 29, plain: what a machine shows by so many acts; traces that agree.
  Conditions: the program is right.
-/
set_option linter.unusedVariables false
set_option linter.unusedSimpArgs false
set_option maxRecDepth 20000
namespace Go.Proofs.YtidcpndlloppdaaGreatDoor
end Go.Proofs.YtidcpndlloppdaaGreatDoor

/-
  What the engine makes of the loaded functions 20, 8, 12, 11, 5: conditions under which a call returns as told, and proofs of that.
  Conditions: none. Printed by a program of this project.
-/
set_option linter.unusedVariables false
set_option maxRecDepth 100000
namespace Go.Proofs.YtidcpndlloppdaaGreatDoor
def V20.b2 (B : Nat) (R : Value → World → Prop) (a : Addr) (w : World) : Prop :=
  CallK Tryz.prog 39 [.pointer (some a)] B w [] fun v c => 
  ∃ (d : Option Addr) (f g : Nat), v = .slice d f g ∧
  CallK Tryz.prog 36 [.pointer (some a)] B c [] fun i j => 
  ∃ l : Bool, i = .bool l ∧
  Ret B j (R (.tuple ⟨[.slice d f g, .bool l, .bool true]⟩))
def V20.l1 (B : Nat) (R : Value → World → Prop) : Nat → Addr → Int → World → Prop
  | 0 => fun _ _ _ => False
  | k + 1 => fun a c w =>
    if (decide (c > 0)) = true
    then (CallK Tryz.prog 36 [.pointer (some a)] B w [] fun v d => 
     ∃ f : Bool, v = .bool f ∧
     if (!f) = true
     then (CallK Tryz.prog 37 [.pointer (some a)] B d [] fun g i => 
      ∃ j : Int, g = .int .i64 j ∧
      CallK Tryz.prog 38 [.pointer (some a)] B i [] fun l m => 
      l = .tuple ⟨[]⟩ ∧ (V20.l1 B R k) a (IntKind.wrap .i64 (c - 1)) m)
     else (V20.b2 B R a d))
    else (V20.b2 B R a w)
def V20.b0 (B : Nat) (R : Value → World → Prop) (a : Int) (c : Addr) (w : World) : Prop :=
  ∃ d, V20.l1 B R d c (if 1048576 < a then 1048576 else a) w
def V20.vc (B : Nat) (R : Value → World → Prop) (a : Option Addr) (c d : Nat) (f g : Int) (w : World) : Prop :=
  ∀ i : Nat, w.heap.size ≤ i →
  CallK Tryz.prog 35 [.agg ⟨[.slice a c d]⟩, .int .i64 f] B w [i] fun v j => 
  ∃ l : Option Addr, v = .pointer l ∧
  caseP l
  (False)
  (fun m => V20.b0 B R g m j)
noncomputable def V20.cfg (B : Nat) : Cfg := ⟨Tryz.prog, ⟨35, B⟩, [], hasN [35, 36, 37, 38, 39], hasN [], look []⟩
noncomputable def V20.code : Code := (Tryz.f20.body).getD .skip
noncomputable def V20.cuts (B : Nat) (R : Value → World → Prop) : Nat → Cut := nthC [⟨[(2, .one (.int .i64)), (9, .one (.ptr))], [], fun fs vs bs w => V20.b0 B R (iV (nthV vs 0)) (pV (nthV vs 1)) w⟩,
  ⟨[(9, .one (.ptr)), (10, .one (.int .i64))], [], fun fs vs bs w => V20.l1 B R (nthN fs 0) (pV (nthV vs 0)) (iV (nthV vs 1)) w⟩,
  ⟨[(9, .one (.ptr))], [], fun fs vs bs w => V20.b2 B R (pV (nthV vs 0)) w⟩]
noncomputable def V20.h : H := .s (.z) (.cut 0 (.z) (.s (.s (.z) (.c (.s (.z) (.z)) (.z))) (.cut 2 (.s (.z) (.b (.l 1 (.s (.s (.z) (.c (.z) (.z))) (.s (.b (.s (.z) (.z))) (.z)))))) (.s (.z) (.z)))))
theorem V20.vc_eq (B : Nat) (R : Value → World → Prop) (a : Option Addr) (c d : Nat) (f g : Int) (w : World) : wpf (V20.cfg B) (V20.cuts B R) V20.code V20.h [] (postOf Tryz.prog B (Tryz.f20.results.toList) R) (argE 0 [.agg ⟨[.slice a c d]⟩, .int .i64 f, .int .i64 g]) [] w = V20.vc B R a c d f g w := by kernel_rfl
theorem V20.obl (B : Nat) (R : Value → World → Prop) : oblP (V20.cfg B) (V20.cuts B R) V20.code V20.h [] (postOf Tryz.prog B (Tryz.f20.results.toList) R) := by
  have e : oblP (V20.cfg B) (V20.cuts B R) V20.code V20.h [] (postOf Tryz.prog B (Tryz.f20.results.toList) R) = (True ∧ (True ∧ (∀ (a : Int) (c : Addr) (w : World), V20.b0 B R a c w → V20.b0 B R a c w) ∧ ((True ∧ ((True ∧ True) ∧ True)) ∧ ((True ∧ ((∀ (c : Addr) (d : Int) (w : World), ¬ V20.l1 B R 0 c d w) ∧ (∀ f, ∀ (c : Addr) (d : Int) (w : World), V20.l1 B R (f + 1) c d w → V20.l1 B R (f + 1) c d w) ∧ ∀ f : Nat, ((True ∧ (True ∧ True)) ∧ ((True ∧ True) ∧ True)))) ∧ (∀ (c : Addr) (w : World), V20.b2 B R c w → V20.b2 B R c w) ∧ (True ∧ True))))) := by kernel_rfl
  exact e.mpr (⟨trivial, ⟨trivial, fun a c w h => h, ⟨⟨trivial, ⟨⟨trivial, trivial⟩, trivial⟩⟩, ⟨⟨trivial, ⟨fun c d w h => h, fun _ c d w h => h, fun f => ⟨⟨trivial, ⟨trivial, trivial⟩⟩, ⟨⟨trivial, trivial⟩, trivial⟩⟩⟩⟩, fun c w h => h, ⟨trivial, trivial⟩⟩⟩⟩⟩)
theorem V20.cfgOk (B : Nat) : CfgOk (V20.cfg B) := cfgOk_of (by kernel_rfl) (by kernel_rfl) extNil
theorem V20.sound {a : Option Addr} {d f : Nat} {g i : Int} {w : World} {R : Value → World → Prop} (h : V20.vc w.heap.size R a d f g i w) : Calls Tryz.prog 20 ⟨[.agg ⟨[.slice a d f]⟩, .int .i64 g, .int .i64 i]⟩ w fun e w' => ∃ v, e = .returned v ∧ R v w' :=
  calls_wpfP (c := V20.cfg w.heap.size) (fn := Tryz.f20) (x := V20.code) (V20.cuts w.heap.size R) V20.h (V20.cfgOk _) mixed Tryz.func20 (by kernel_rfl) (by kernel_rfl) (by kernel_rfl) rfl (V20.obl _ _) ((V20.vc_eq _ _ a d f g i _).symm ▸ h)
def V8.vc (B : Nat) (R : Value → World → Prop) (a : Option Addr) (c d : Nat) (f g : Int) (w : World) : Prop :=
  ∀ i : Nat, w.heap.size ≤ i →
  CallK Tryz.prog 20 [.agg ⟨[.slice a c d]⟩, .int .i64 f, .int .i64 g] B w [i] fun v j => 
  ∃ (l : Option Addr) (m n : Nat) (o p : Bool), v = .tuple ⟨[.slice l m n, .bool o, .bool p]⟩ ∧
  Ret B j (R (.tuple ⟨[.slice l m n, .bool o]⟩))
noncomputable def V8.cfg (B : Nat) : Cfg := ⟨Tryz.prog, ⟨21, B⟩, [], hasN [20], hasN [], look []⟩
noncomputable def V8.code : Code := (Tryz.f8.body).getD .skip
noncomputable def V8.cuts (B : Nat) (R : Value → World → Prop) : Nat → Cut := nthC []
noncomputable def V8.h : H := .s (.z) (.s (.z) (.s (.z) (.z)))
theorem V8.vc_eq (B : Nat) (R : Value → World → Prop) (a : Option Addr) (c d : Nat) (f g : Int) (w : World) : wpf (V8.cfg B) (V8.cuts B R) V8.code V8.h [] (postOf Tryz.prog B (Tryz.f8.results.toList) R) (argE 0 [.agg ⟨[.slice a c d]⟩, .int .i64 f, .int .i64 g]) [] w = V8.vc B R a c d f g w := by kernel_rfl
theorem V8.obl (B : Nat) (R : Value → World → Prop) : oblP (V8.cfg B) (V8.cuts B R) V8.code V8.h [] (postOf Tryz.prog B (Tryz.f8.results.toList) R) := by
  have e : oblP (V8.cfg B) (V8.cuts B R) V8.code V8.h [] (postOf Tryz.prog B (Tryz.f8.results.toList) R) = (True ∧ (True ∧ (True ∧ True))) := by kernel_rfl
  exact e.mpr (⟨trivial, ⟨trivial, ⟨trivial, trivial⟩⟩⟩)
theorem V8.cfgOk (B : Nat) : CfgOk (V8.cfg B) := cfgOk_of (by kernel_rfl) (by kernel_rfl) extNil
theorem V8.sound {a : Option Addr} {d f : Nat} {g i : Int} {w : World} {R : Value → World → Prop} (h : V8.vc w.heap.size R a d f g i w) : Calls Tryz.prog 8 ⟨[.agg ⟨[.slice a d f]⟩, .int .i64 g, .int .i64 i]⟩ w fun e w' => ∃ v, e = .returned v ∧ R v w' :=
  calls_wpfP (c := V8.cfg w.heap.size) (fn := Tryz.f8) (x := V8.code) (V8.cuts w.heap.size R) V8.h (V8.cfgOk _) mixed Tryz.func8 (by kernel_rfl) (by kernel_rfl) (by kernel_rfl) rfl (V8.obl _ _) ((V8.vc_eq _ _ a d f g i _).symm ▸ h)
end Go.Proofs.YtidcpndlloppdaaGreatDoor

/-
  Layer 29: play, Play, Agrees.
  Conditions: the program is right.
-/
set_option linter.unusedVariables false
set_option linter.unusedSimpArgs false
set_option maxRecDepth 20000
namespace Go.Proofs.YtidcpndlloppdaaGreatDoor
open Go.RowKit
def PlayR (tr : List Mk) (over : Bool) (w : World) : Value → World → Prop := fun v w' => ∃ A c, v = .tuple ⟨[.slice A tr.length c, .bool over, .bool true]⟩ ∧ OwnMs w' w.heap.size (.slice A tr.length c) tr
section
variable {p : List Fnc} {f : Int} {fn : Fnc} (hr : Rt p) (hf : fnAt p f = some fn) (h0 : fn.params = 0)
include hr hf h0
theorem shown_ok (n : Nat) (hn : n ≤ 100000) : MOk p (playM p (newM f) n) ∧ Lim (playM p (newM f) n) n := by
  have := play_ok hr (newM_ok hf h0) (newM_lim f) n (by omega)
  rwa [Nat.zero_add] at this
theorem b2_20 {w0 w : World} {n i : Nat} (hn : n ≤ 3000) (hi : i ≤ n) (hs : i = n ∨ (playM p (newM f) i).ended = true) {g : Nat} {C : Option Addr} {c : Nat} {F T : Value} {ss : List Sl} (hw : Below w0.heap.size w0 w) (h : MachAt w w0.heap.size g C c p (wakeM (playM p (newM f) i)) F T ss) :
    V20.b2 w0.heap.size (IsQ w0 (PlayR (playM p (newM f) n).trace (playM p (newM f) n).ended w0)) ⟨g, 0, none⟩ w := by
  unfold V20.b2
  have e : (playM p (newM f) n).trace = (playM p (newM f) i).trace ∧ (playM p (newM f) n).ended = (playM p (newM f) i).ended := by
    rcases hs with rfl | hs
    · exact ⟨rfl, rfl⟩
    · obtain ⟨d, rfl⟩ := Nat.le.dest hi
      rw [playM_add]
      obtain ⟨a, b, _⟩ := play_over (p := p) hs d
      exact ⟨a, b.trans hs.symm⟩
  rw [e.1, e.2]
  have hl := (shown_ok hr hf h0 i (by omega)).2.trace
  refine call_yieldsX (Q := fun w1 v w2 => OwnMs w2 w1.heap.size v (playM p (newM f) i).trace) hw.size (fun w1 e1 => yields39 (m := wakeM (playM p (newM f) i)) (h.ext e1) (by show (playM p (newM f) i).trace.length ≤ _; omega)) fun w1 v w2 w' hs hQ hnew he => ?_
  have ho : OwnMs w' w.heap.size v (playM p (newM f) i).trace := owns_down (owns_other hQ fun j hj => hnew j (hQ.lt j hj).1) hs
  obtain ⟨A', c', hv⟩ := owns_slice0 ho
  subst hv
  refine ⟨A', _, c', rfl, ?_⟩
  have hw' := he.after hw
  refine call_gives hw' (fun w3 e3 _ => gives36 ((h.ext he).ext e3)) fun w3 e3 hw3 => ⟨_, rfl, ?_⟩
  exact ret_q hw3 fun w4 e4 => ⟨A', c', rfl, owns_down ((e3.trans e4).owns ho) hw.size⟩
theorem l1_20 {w0 : World} {n : Nat} (hn : n ≤ 3000) : ∀ (k i : Nat) (w : World) (g : Nat) (C : Option Addr) (c : Nat) (F T : Value) (ss : List Sl), n < i + k → i ≤ n → Below w0.heap.size w0 w → MachAt w w0.heap.size g C c p (wakeM (playM p (newM f) i)) F T ss →
    V20.l1 w0.heap.size (IsQ w0 (PlayR (playM p (newM f) n).trace (playM p (newM f) n).ended w0)) k ⟨g, 0, none⟩ ((n : Int) - (i : Int)) w
  | 0, i, w, g, C, c, F, T, ss, hk, hi, _, _ => by omega
  | k + 1, i, w, g, C, c, F, T, ss, hk, hi, hw, h => by
    dsimp -zeta only [V20.l1]
    obtain ⟨ho, hl⟩ := shown_ok hr hf h0 i (by omega)
    by_cases hin : i < n
    · rw [if_pos (by simp; omega)]
      refine call_gives hw (fun w1 e1 _ => gives36 (h.ext e1)) fun w1 e1 hw1 => ⟨_, rfl, ?_⟩
      have h1 := h.ext e1
      by_cases hov : (playM p (newM f) i).ended = true
      · rw [if_neg (by show ¬ (!(playM p (newM f) i).ended) = true; rw [hov]; simp)]
        exact b2_20 hr hf h0 hn hi (.inr hov) hw1 h1
      · rw [if_pos (by show (!(playM p (newM f) i).ended) = true; simpa using hov)]
        refine call_step hw1.size hr h1 (wake_ok ho) (wake_lim hl) (by omega) fun w2 F2 T2 ss2 h2 e2 hf2 => ⟨_, rfl, ?_⟩
        have hw2 := e2.after (fun j hj => (h1.ty hj).1) hw1
        refine call_wake hw2.size h2 fun w3 F3 T3 ss3 h3 e3 hf3 => ⟨rfl, ?_⟩
        have hw3 := e3.after (fun j hj => (h2.ty hj).1) hw2
        rw [wrap_id (n := (n : Int) - (i : Int) - 1) (by omega) (by omega), show (n : Int) - (i : Int) - 1 = (n : Int) - ((i + 1 : Nat) : Int) by omega]
        exact l1_20 hn k (i + 1) w3 g C c F3 T3 ss3 (by omega) (by omega) hw3 h3
    · have : i = n := by omega
      subst this
      rw [if_neg (by simp)]
      exact b2_20 hr hf h0 hn (Nat.le_refl _) (.inl rfl) hw h
def Acts (most : Int) (n : Nat) : Prop := n ≤ 3000 ∧ (most = (n : Int) ∨ most ≤ 0 ∧ n = 0)
theorem yields20 {w : World} {P : Option Addr} {cap n : Nat} {most : Int} (hp : ProgAt w P p.length p) (hn : Acts most n) : Yields Tryz.prog 20 [.agg ⟨[.slice P p.length cap]⟩, .int .i64 f, .int .i64 most] w (PlayR (playM p (newM f) n).trace (playM p (newM f) n).ended w) := by
  obtain ⟨hn3, hm⟩ := hn
  refine yields_of (V20.sound ?_)
  intro d _
  refine call_newO (Nat.le_refl _) hp hr hf h0 fun g C c w1 h1 e1 => ⟨_, rfl, ?_⟩
  simp only [caseP]
  unfold V20.b0
  have hw1 := e1.after (Below.refl _ _)
  rw [if_neg (by omega)]
  rcases hm with rfl | ⟨hm, rfl⟩
  · refine ⟨n + 1, ?_⟩
    have := l1_20 (n := n) hr hf h0 hn3 (n + 1) 0 w1 g C c N0 N0 [] (by omega) (by omega) hw1 h1.mach
    simpa using this
  · refine ⟨1, ?_⟩
    dsimp -zeta only [V20.l1]
    rw [if_neg (by simp; omega)]
    exact b2_20 (n := 0) (i := 0) hr hf h0 (by omega) (Nat.le_refl _) (.inl rfl) hw1 h1.mach
theorem call_play {w0 w : World} {bs : List Nat} {P : Option Addr} {cap n : Nat} {most : Int} {K : Value → World → Prop} (hB : w0.heap.size ≤ w.heap.size) (hp : ProgAt w P p.length p) (hn : Acts most n)
    (hk : ∀ A c w', Ext w0.heap.size w w' → OwnMs w' w.heap.size (.slice A (playM p (newM f) n).trace.length c) (playM p (newM f) n).trace → K (.tuple ⟨[.slice A (playM p (newM f) n).trace.length c, .bool (playM p (newM f) n).ended, .bool true]⟩) w') :
    CallK Tryz.prog 20 [.agg ⟨[.slice P p.length cap]⟩, .int .i64 f, .int .i64 most] w0.heap.size w bs K := by
  refine call_yieldsX (Q := fun w1 => PlayR (playM p (newM f) n).trace (playM p (newM f) n).ended w1) hB (fun w1 e1 => yields20 hr hf h0 (RowAt.keep FncE.kept hp (ext_keeps e1)) hn) fun w1 v w2 w' hs hQ hnew he => ?_
  obtain ⟨A, c, rfl, ho⟩ := hQ
  exact hk A c w' he (owns_down (owns_other ho fun j hj => hnew j (ho.lt j hj).1) hs)
def ShowR (tr : List Mk) (over : Bool) (w : World) : Value → World → Prop := fun v w' => ∃ A c, v = .tuple ⟨[.slice A tr.length c, .bool over]⟩ ∧ OwnMs w' w.heap.size (.slice A tr.length c) tr
theorem yields8 {w : World} {P : Option Addr} {cap n : Nat} {most : Int} (hp : ProgAt w P p.length p) (hn : Acts most n) : Yields Tryz.prog 8 [.agg ⟨[.slice P p.length cap]⟩, .int .i64 f, .int .i64 most] w (ShowR (playM p (newM f) n).trace (playM p (newM f) n).ended w) := by
  refine yields_of (V8.sound ?_)
  intro d _
  refine call_play hr hf h0 (Nat.le_refl _) hp hn fun A c w1 e1 ho => ⟨A, _, c, _, _, rfl, ?_⟩
  exact ret_q (e1.after (Below.refl _ _)) fun w2 e2 => ⟨A, c, rfl, e2.owns ho⟩
theorem call_show {w0 w : World} {bs : List Nat} {P : Option Addr} {cap n : Nat} {most : Int} {K : Value → World → Prop} (hB : w0.heap.size ≤ w.heap.size) (hp : ProgAt w P p.length p) (hn : Acts most n)
    (hk : ∀ A c w', Ext w0.heap.size w w' → OwnMs w' w.heap.size (.slice A (playM p (newM f) n).trace.length c) (playM p (newM f) n).trace → K (.tuple ⟨[.slice A (playM p (newM f) n).trace.length c, .bool (playM p (newM f) n).ended]⟩) w') :
    CallK Tryz.prog 8 [.agg ⟨[.slice P p.length cap]⟩, .int .i64 f, .int .i64 most] w0.heap.size w bs K := by
  refine call_yieldsX (Q := fun w1 => ShowR (playM p (newM f) n).trace (playM p (newM f) n).ended w1) hB (fun w1 e1 => yields8 hr hf h0 (RowAt.keep FncE.kept hp (ext_keeps e1)) hn) fun w1 v w2 w' hs hQ hnew he => ?_
  obtain ⟨A, c, rfl, ho⟩ := hQ
  exact hk A c w' he (owns_down (owns_other ho fun j hj => hnew j (ho.lt j hj).1) hs)
end
end Go.Proofs.YtidcpndlloppdaaGreatDoor

/-
  What the engine makes of the loaded functions 9, 20: conditions under which a call returns as told, and proofs of that.
  Conditions: none. Printed by a program of this project.
-/
set_option linter.unusedVariables false
set_option maxRecDepth 100000
namespace Go.Proofs.YtidcpndlloppdaaGreatDoor
def V9p.b1 (B : Nat) (R : Value → World → Prop) (a : Addr) (w : World) : Prop :=
  ∃ (c : Option Addr) (d f : Nat), w.cell? (a.add 7) = some (.slice c d f) ∧
  ∃ g : Bool, w.cell? (a.add 3) = some (.bool g) ∧
  Ret B w (R (.tuple ⟨[.slice c d f, .bool g]⟩))
def V9p.l0 (B : Nat) (R : Value → World → Prop) : Nat → Int → Addr → Int → World → Prop
  | 0 => fun _ _ _ _ => False
  | k + 1 => fun a c d w =>
    if (decide (d < a)) = true
    then (if (decide (d < 1048576)) = true
     then (∃ f : Bool, w.cell? (c.add 3) = some (.bool f) ∧
     if (!f) = true
      then ((∃ u, w.cell? ((c.add 4).add 0) = some u) ∧ w.frozen? ((c.add 4).add 0) = false ∧
      let g := w.setCell ((c.add 4).add 0) (.bool false);
      CallK Tryz.prog 22 [.pointer (some c)] B g [] fun v i => 
       ∃ j : Int, v = .int .i64 j ∧ (V9p.l0 B R k) a c (IntKind.wrap .i64 (d + 1)) i)
      else (V9p.b1 B R c w))
     else (V9p.b1 B R c w))
    else (V9p.b1 B R c w)
def V9p.vc (B : Nat) (R : Value → World → Prop) (a : Option Addr) (c d : Nat) (f g : Int) (w : World) : Prop :=
  ∀ i : Nat, w.heap.size ≤ i →
  CallK Tryz.prog 21 [.agg ⟨[.slice a c d]⟩, .int .i64 f] B w [i] fun v j => 
  ∃ l : Option Addr, v = .pointer l ∧
  caseP l
  (Ret B j (R (.tuple ⟨[.slice none 0 0, .bool false]⟩)))
  (fun m => ∃ n, V9p.l0 B R n g m 0 j)
noncomputable def V9p.cfg (B : Nat) : Cfg := ⟨Tryz.prog, ⟨44, B⟩, [], hasN [21, 22], hasN [], look []⟩
noncomputable def V9p.code : Code := (Tryz.f9.body).getD .skip
noncomputable def V9p.cuts (B : Nat) (R : Value → World → Prop) : Nat → Cut := nthC [⟨[(2, .one (.int .i64)), (8, .one (.ptr)), (9, .one (.int .i64))], [], fun fs vs bs w => V9p.l0 B R (nthN fs 0) (iV (nthV vs 0)) (pV (nthV vs 1)) (iV (nthV vs 2)) w⟩,
  ⟨[(8, .one (.ptr))], [], fun fs vs bs w => V9p.b1 B R (pV (nthV vs 0)) w⟩]
noncomputable def V9p.h : H := .s (.z) (.s (.z) (.s (.s (.z) (.c (.s (.z) (.z)) (.z))) (.cut 1 (.s (.z) (.b (.l 0 (.s (.s (.z) (.c (.z) (.z))) (.s (.b (.s (.z) (.z))) (.z)))))) (.s (.r [[0, 1, 2, 3, 4, 5, 6, 7, 8, 9]]) (.z)))))
theorem V9p.vc_eq (B : Nat) (R : Value → World → Prop) (a : Option Addr) (c d : Nat) (f g : Int) (w : World) : wpf (V9p.cfg B) (V9p.cuts B R) V9p.code V9p.h [] (postOf Tryz.prog B (Tryz.f9.results.toList) R) (argE 0 [.agg ⟨[.slice a c d]⟩, .int .i64 f, .int .i64 g]) [] w = V9p.vc B R a c d f g w := by kernel_rfl
theorem V9p.obl (B : Nat) (R : Value → World → Prop) : oblP (V9p.cfg B) (V9p.cuts B R) V9p.code V9p.h [] (postOf Tryz.prog B (Tryz.f9.results.toList) R) := by
  have e : oblP (V9p.cfg B) (V9p.cuts B R) V9p.code V9p.h [] (postOf Tryz.prog B (Tryz.f9.results.toList) R) = (True ∧ (True ∧ ((True ∧ ((True ∧ True) ∧ True)) ∧ ((True ∧ ((∀ (a : Int) (c : Addr) (d : Int) (w : World), ¬ V9p.l0 B R 0 a c d w) ∧ (∀ f, ∀ (a : Int) (c : Addr) (d : Int) (w : World), V9p.l0 B R (f + 1) a c d w → V9p.l0 B R (f + 1) a c d w) ∧ ∀ f : Nat, ((True ∧ (True ∧ True)) ∧ ((True ∧ True) ∧ True)))) ∧ (∀ (c : Addr) (w : World), V9p.b1 B R c w → V9p.b1 B R c w) ∧ ((true = true) ∧ True))))) := by kernel_rfl
  exact e.mpr (⟨trivial, ⟨trivial, ⟨⟨trivial, ⟨⟨trivial, trivial⟩, trivial⟩⟩, ⟨⟨trivial, ⟨fun a c d w h => h, fun _ a c d w h => h, fun f => ⟨⟨trivial, ⟨trivial, trivial⟩⟩, ⟨⟨trivial, trivial⟩, trivial⟩⟩⟩⟩, fun c w h => h, ⟨rfl, trivial⟩⟩⟩⟩⟩)
theorem V9p.cfgOk (B : Nat) : CfgOk (V9p.cfg B) := cfgOk_of (by kernel_rfl) (by kernel_rfl) extNil
theorem V9p.sound {a : Option Addr} {d f : Nat} {g i : Int} {w : World} {R : Value → World → Prop} (h : V9p.vc w.heap.size R a d f g i w) : Calls Tryz.prog 9 ⟨[.agg ⟨[.slice a d f]⟩, .int .i64 g, .int .i64 i]⟩ w fun e w' => ∃ v, e = .returned v ∧ R v w' :=
  calls_wpfP (c := V9p.cfg w.heap.size) (fn := Tryz.f9) (x := V9p.code) (V9p.cuts w.heap.size R) V9p.h (V9p.cfgOk _) mixed Tryz.func9 (by kernel_rfl) (by kernel_rfl) (by kernel_rfl) rfl (V9p.obl _ _) ((V9p.vc_eq _ _ a d f g i _).symm ▸ h)
def V20p.b1 (B : Nat) (R : Value → World → Prop) (a : Addr) (w : World) : Prop :=
  CallK Tryz.prog 39 [.pointer (some a)] B w [] fun v c => 
  ∃ (d : Option Addr) (f g : Nat), v = .slice d f g ∧
  CallK Tryz.prog 36 [.pointer (some a)] B c [] fun i j => 
  ∃ l : Bool, i = .bool l ∧
  Ret B j (R (.tuple ⟨[.slice d f g, .bool l, .bool true]⟩))
def V20p.l0 (B : Nat) (R : Value → World → Prop) : Nat → Addr → Int → World → Prop
  | 0 => fun _ _ _ => False
  | k + 1 => fun a c w =>
    if (decide (c > 0)) = true
    then (CallK Tryz.prog 36 [.pointer (some a)] B w [] fun v d => 
     ∃ f : Bool, v = .bool f ∧
     if (!f) = true
     then (CallK Tryz.prog 37 [.pointer (some a)] B d [] fun g i => 
      ∃ j : Int, g = .int .i64 j ∧
      CallK Tryz.prog 38 [.pointer (some a)] B i [] fun l m => 
      l = .tuple ⟨[]⟩ ∧ (V20p.l0 B R k) a (IntKind.wrap .i64 (c - 1)) m)
     else (V20p.b1 B R a d))
    else (V20p.b1 B R a w)
def V20p.vc (B : Nat) (R : Value → World → Prop) (a : Option Addr) (c d : Nat) (f g : Int) (w : World) : Prop :=
  ∀ i : Nat, w.heap.size ≤ i →
  CallK Tryz.prog 35 [.agg ⟨[.slice a c d]⟩, .int .i64 f] B w [i] fun v j => 
  ∃ l : Option Addr, v = .pointer l ∧
  caseP l
  (Ret B j (R (.tuple ⟨[.slice none 0 0, .bool false, .bool false]⟩)))
  (fun m => ∃ n, V20p.l0 B R n m (if 1048576 < g then 1048576 else g) j)
noncomputable def V20p.cfg (B : Nat) : Cfg := ⟨Tryz.prog, ⟨35, B⟩, [], hasN [35, 36, 37, 38, 39], hasN [], look []⟩
noncomputable def V20p.code : Code := (Tryz.f20.body).getD .skip
noncomputable def V20p.cuts (B : Nat) (R : Value → World → Prop) : Nat → Cut := nthC [⟨[(9, .one (.ptr)), (10, .one (.int .i64))], [], fun fs vs bs w => V20p.l0 B R (nthN fs 0) (pV (nthV vs 0)) (iV (nthV vs 1)) w⟩,
  ⟨[(9, .one (.ptr))], [], fun fs vs bs w => V20p.b1 B R (pV (nthV vs 0)) w⟩]
noncomputable def V20p.h : H := .s (.z) (.s (.z) (.s (.s (.z) (.c (.s (.z) (.z)) (.z))) (.cut 1 (.s (.z) (.b (.l 0 (.s (.s (.z) (.c (.z) (.z))) (.s (.b (.s (.z) (.z))) (.z)))))) (.s (.z) (.z)))))
theorem V20p.vc_eq (B : Nat) (R : Value → World → Prop) (a : Option Addr) (c d : Nat) (f g : Int) (w : World) : wpf (V20p.cfg B) (V20p.cuts B R) V20p.code V20p.h [] (postOf Tryz.prog B (Tryz.f20.results.toList) R) (argE 0 [.agg ⟨[.slice a c d]⟩, .int .i64 f, .int .i64 g]) [] w = V20p.vc B R a c d f g w := by kernel_rfl
theorem V20p.obl (B : Nat) (R : Value → World → Prop) : oblP (V20p.cfg B) (V20p.cuts B R) V20p.code V20p.h [] (postOf Tryz.prog B (Tryz.f20.results.toList) R) := by
  have e : oblP (V20p.cfg B) (V20p.cuts B R) V20p.code V20p.h [] (postOf Tryz.prog B (Tryz.f20.results.toList) R) = (True ∧ (True ∧ ((True ∧ ((True ∧ True) ∧ True)) ∧ ((True ∧ ((∀ (a : Addr) (c : Int) (w : World), ¬ V20p.l0 B R 0 a c w) ∧ (∀ d, ∀ (a : Addr) (c : Int) (w : World), V20p.l0 B R (d + 1) a c w → V20p.l0 B R (d + 1) a c w) ∧ ∀ d : Nat, ((True ∧ (True ∧ True)) ∧ ((True ∧ True) ∧ True)))) ∧ (∀ (a : Addr) (w : World), V20p.b1 B R a w → V20p.b1 B R a w) ∧ (True ∧ True))))) := by kernel_rfl
  exact e.mpr (⟨trivial, ⟨trivial, ⟨⟨trivial, ⟨⟨trivial, trivial⟩, trivial⟩⟩, ⟨⟨trivial, ⟨fun a c w h => h, fun _ a c w h => h, fun d => ⟨⟨trivial, ⟨trivial, trivial⟩⟩, ⟨⟨trivial, trivial⟩, trivial⟩⟩⟩⟩, fun a w h => h, ⟨trivial, trivial⟩⟩⟩⟩⟩)
theorem V20p.cfgOk (B : Nat) : CfgOk (V20p.cfg B) := cfgOk_of (by kernel_rfl) (by kernel_rfl) extNil
theorem V20p.sound {a : Option Addr} {d f : Nat} {g i : Int} {w : World} {R : Value → World → Prop} (h : V20p.vc w.heap.size R a d f g i w) : Calls Tryz.prog 20 ⟨[.agg ⟨[.slice a d f]⟩, .int .i64 g, .int .i64 i]⟩ w fun e w' => ∃ v, e = .returned v ∧ R v w' :=
  calls_wpfP (c := V20p.cfg w.heap.size) (fn := Tryz.f20) (x := V20p.code) (V20p.cuts w.heap.size R) V20p.h (V20p.cfgOk _) mixed Tryz.func20 (by kernel_rfl) (by kernel_rfl) (by kernel_rfl) rfl (V20p.obl _ _) ((V20p.vc_eq _ _ a d f g i _).symm ▸ h)
end Go.Proofs.YtidcpndlloppdaaGreatDoor
