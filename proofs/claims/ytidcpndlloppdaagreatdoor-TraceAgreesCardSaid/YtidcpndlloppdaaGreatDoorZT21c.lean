import Derived.Test.YtidcpndlloppdaaGreatDoorZME
import Derived.Test.YtidcpndlloppdaaGreatDoorZR21i
import Derived.Test.YtidcpndlloppdaaGreatDoorZT21b
/-
 What the engine makes of the loaded functions 9, 20: conditions under which a call returns as told, and proofs of that.
 Conditions: none. Printed by a program of this project.
-/
set_option linter.unusedVariables false
set_option maxRecDepth 100000
namespace Go.Proofs.YtidcpndlloppdaaGreatDoor
def V9p.b1 (B : Nat) (R : Value → World → Prop) (a : Addr) (w : World) : Prop :=
 ∃ (c : Option Addr) (d f : Nat), w.cell? (a.add 7) = some (.slice c d f) ∧
 ∃ g : Bool, w.cell? (a.add 3) = some (.bool g) ∧
 Ret B w (R (.tuple ⟨[.slice c d f, .bool g]⟩))
def V9p.l0 (B : Nat) (R : Value → World → Prop) : Nat → Int → Addr → Int → World → Prop
 | 0 => fun _ _ _ _ => False
 | k + 1 => fun a c d w =>
 if (decide (d < a)) = true
 then (if (decide (d < 1048576)) = true
 then (∃ f : Bool, w.cell? (c.add 3) = some (.bool f) ∧
 if (!f) = true
 then ((∃ u, w.cell? ((c.add 4).add 0) = some u) ∧ w.frozen? ((c.add 4).add 0) = false ∧
 let g := w.setCell ((c.add 4).add 0) (.bool false);
 CallK Tryz.prog 22 [.pointer (some c)] B g [] fun v i => 
 ∃ j : Int, v = .int .i64 j ∧ (V9p.l0 B R k) a c (IntKind.wrap .i64 (d + 1)) i)
 else (V9p.b1 B R c w))
 else (V9p.b1 B R c w))
 else (V9p.b1 B R c w)
def V9p.vc (B : Nat) (R : Value → World → Prop) (a : Option Addr) (c d : Nat) (f g : Int) (w : World) : Prop :=
 ∀ i : Nat, w.heap.size ≤ i →
 CallK Tryz.prog 21 [.agg ⟨[.slice a c d]⟩, .int .i64 f] B w [i] fun v j => 
 ∃ l : Option Addr, v = .pointer l ∧
 caseP l
 (Ret B j (R (.tuple ⟨[.slice none 0 0, .bool false]⟩)))
 (fun m => ∃ n, V9p.l0 B R n g m 0 j)
noncomputable def V9p.cfg (B : Nat) : Cfg := ⟨Tryz.prog, ⟨44, B⟩, [], hasN [21, 22], hasN [], look []⟩
noncomputable def V9p.code : Code := (Tryz.f9.body).getD .skip
noncomputable def V9p.cuts (B : Nat) (R : Value → World → Prop) : Nat → Cut := nthC [⟨[(2, .one (.int .i64)), (8, .one (.ptr)), (9, .one (.int .i64))], [], fun fs vs bs w => V9p.l0 B R (nthN fs 0) (iV (nthV vs 0)) (pV (nthV vs 1)) (iV (nthV vs 2)) w⟩,
 ⟨[(8, .one (.ptr))], [], fun fs vs bs w => V9p.b1 B R (pV (nthV vs 0)) w⟩]
noncomputable def V9p.h : H := .s (.z) (.s (.z) (.s (.s (.z) (.c (.s (.z) (.z)) (.z))) (.cut 1 (.s (.z) (.b (.l 0 (.s (.s (.z) (.c (.z) (.z))) (.s (.b (.s (.z) (.z))) (.z)))))) (.s (.r [[0, 1, 2, 3, 4, 5, 6, 7, 8, 9]]) (.z)))))
theorem V9p.vc_eq (B : Nat) (R : Value → World → Prop) (a : Option Addr) (c d : Nat) (f g : Int) (w : World) : wpf (V9p.cfg B) (V9p.cuts B R) V9p.code V9p.h [] (postOf Tryz.prog B (Tryz.f9.results.toList) R) (argE 0 [.agg ⟨[.slice a c d]⟩, .int .i64 f, .int .i64 g]) [] w = V9p.vc B R a c d f g w := by kernel_rfl
theorem V9p.obl (B : Nat) (R : Value → World → Prop) : oblP (V9p.cfg B) (V9p.cuts B R) V9p.code V9p.h [] (postOf Tryz.prog B (Tryz.f9.results.toList) R) := by
 have e : oblP (V9p.cfg B) (V9p.cuts B R) V9p.code V9p.h [] (postOf Tryz.prog B (Tryz.f9.results.toList) R) = (True ∧ (True ∧ ((True ∧ ((True ∧ True) ∧ True)) ∧ ((True ∧ ((∀ (a : Int) (c : Addr) (d : Int) (w : World), ¬ V9p.l0 B R 0 a c d w) ∧ (∀ f, ∀ (a : Int) (c : Addr) (d : Int) (w : World), V9p.l0 B R (f + 1) a c d w → V9p.l0 B R (f + 1) a c d w) ∧ ∀ f : Nat, ((True ∧ (True ∧ True)) ∧ ((True ∧ True) ∧ True)))) ∧ (∀ (c : Addr) (w : World), V9p.b1 B R c w → V9p.b1 B R c w) ∧ ((true = true) ∧ True))))) := by kernel_rfl
 exact e.mpr (⟨trivial, ⟨trivial, ⟨⟨trivial, ⟨⟨trivial, trivial⟩, trivial⟩⟩, ⟨⟨trivial, ⟨fun a c d w h => h, fun _ a c d w h => h, fun f => ⟨⟨trivial, ⟨trivial, trivial⟩⟩, ⟨⟨trivial, trivial⟩, trivial⟩⟩⟩⟩, fun c w h => h, ⟨rfl, trivial⟩⟩⟩⟩⟩)
theorem V9p.cfgOk (B : Nat) : CfgOk (V9p.cfg B) := cfgOk_of (by kernel_rfl) (by kernel_rfl) extNil
theorem V9p.sound {a : Option Addr} {d f : Nat} {g i : Int} {w : World} {R : Value → World → Prop} (h : V9p.vc w.heap.size R a d f g i w) : Calls Tryz.prog 9 ⟨[.agg ⟨[.slice a d f]⟩, .int .i64 g, .int .i64 i]⟩ w fun e w' => ∃ v, e = .returned v ∧ R v w' :=
 calls_wpfP (c := V9p.cfg w.heap.size) (fn := Tryz.f9) (x := V9p.code) (V9p.cuts w.heap.size R) V9p.h (V9p.cfgOk _) mixed Tryz.func9 (by kernel_rfl) (by kernel_rfl) (by kernel_rfl) rfl (V9p.obl _ _) ((V9p.vc_eq _ _ a d f g i _).symm ▸ h)
def V20p.b1 (B : Nat) (R : Value → World → Prop) (a : Addr) (w : World) : Prop :=
 CallK Tryz.prog 39 [.pointer (some a)] B w [] fun v c => 
 ∃ (d : Option Addr) (f g : Nat), v = .slice d f g ∧
 CallK Tryz.prog 36 [.pointer (some a)] B c [] fun i j => 
 ∃ l : Bool, i = .bool l ∧
 Ret B j (R (.tuple ⟨[.slice d f g, .bool l, .bool true]⟩))
def V20p.l0 (B : Nat) (R : Value → World → Prop) : Nat → Addr → Int → World → Prop
 | 0 => fun _ _ _ => False
 | k + 1 => fun a c w =>
 if (decide (c > 0)) = true
 then (CallK Tryz.prog 36 [.pointer (some a)] B w [] fun v d => 
 ∃ f : Bool, v = .bool f ∧
 if (!f) = true
 then (CallK Tryz.prog 37 [.pointer (some a)] B d [] fun g i => 
 ∃ j : Int, g = .int .i64 j ∧
 CallK Tryz.prog 38 [.pointer (some a)] B i [] fun l m => 
 l = .tuple ⟨[]⟩ ∧ (V20p.l0 B R k) a (IntKind.wrap .i64 (c - 1)) m)
 else (V20p.b1 B R a d))
 else (V20p.b1 B R a w)
def V20p.vc (B : Nat) (R : Value → World → Prop) (a : Option Addr) (c d : Nat) (f g : Int) (w : World) : Prop :=
 ∀ i : Nat, w.heap.size ≤ i →
 CallK Tryz.prog 35 [.agg ⟨[.slice a c d]⟩, .int .i64 f] B w [i] fun v j => 
 ∃ l : Option Addr, v = .pointer l ∧
 caseP l
 (Ret B j (R (.tuple ⟨[.slice none 0 0, .bool false, .bool false]⟩)))
 (fun m => ∃ n, V20p.l0 B R n m (if 1048576 < g then 1048576 else g) j)
noncomputable def V20p.cfg (B : Nat) : Cfg := ⟨Tryz.prog, ⟨35, B⟩, [], hasN [35, 36, 37, 38, 39], hasN [], look []⟩
noncomputable def V20p.code : Code := (Tryz.f20.body).getD .skip
noncomputable def V20p.cuts (B : Nat) (R : Value → World → Prop) : Nat → Cut := nthC [⟨[(9, .one (.ptr)), (10, .one (.int .i64))], [], fun fs vs bs w => V20p.l0 B R (nthN fs 0) (pV (nthV vs 0)) (iV (nthV vs 1)) w⟩,
 ⟨[(9, .one (.ptr))], [], fun fs vs bs w => V20p.b1 B R (pV (nthV vs 0)) w⟩]
noncomputable def V20p.h : H := .s (.z) (.s (.z) (.s (.s (.z) (.c (.s (.z) (.z)) (.z))) (.cut 1 (.s (.z) (.b (.l 0 (.s (.s (.z) (.c (.z) (.z))) (.s (.b (.s (.z) (.z))) (.z)))))) (.s (.z) (.z)))))
theorem V20p.vc_eq (B : Nat) (R : Value → World → Prop) (a : Option Addr) (c d : Nat) (f g : Int) (w : World) : wpf (V20p.cfg B) (V20p.cuts B R) V20p.code V20p.h [] (postOf Tryz.prog B (Tryz.f20.results.toList) R) (argE 0 [.agg ⟨[.slice a c d]⟩, .int .i64 f, .int .i64 g]) [] w = V20p.vc B R a c d f g w := by kernel_rfl
theorem V20p.obl (B : Nat) (R : Value → World → Prop) : oblP (V20p.cfg B) (V20p.cuts B R) V20p.code V20p.h [] (postOf Tryz.prog B (Tryz.f20.results.toList) R) := by
 have e : oblP (V20p.cfg B) (V20p.cuts B R) V20p.code V20p.h [] (postOf Tryz.prog B (Tryz.f20.results.toList) R) = (True ∧ (True ∧ ((True ∧ ((True ∧ True) ∧ True)) ∧ ((True ∧ ((∀ (a : Addr) (c : Int) (w : World), ¬ V20p.l0 B R 0 a c w) ∧ (∀ d, ∀ (a : Addr) (c : Int) (w : World), V20p.l0 B R (d + 1) a c w → V20p.l0 B R (d + 1) a c w) ∧ ∀ d : Nat, ((True ∧ (True ∧ True)) ∧ ((True ∧ True) ∧ True)))) ∧ (∀ (a : Addr) (w : World), V20p.b1 B R a w → V20p.b1 B R a w) ∧ (True ∧ True))))) := by kernel_rfl
 exact e.mpr (⟨trivial, ⟨trivial, ⟨⟨trivial, ⟨⟨trivial, trivial⟩, trivial⟩⟩, ⟨⟨trivial, ⟨fun a c w h => h, fun _ a c w h => h, fun d => ⟨⟨trivial, ⟨trivial, trivial⟩⟩, ⟨⟨trivial, trivial⟩, trivial⟩⟩⟩⟩, fun a w h => h, ⟨trivial, trivial⟩⟩⟩⟩⟩)
theorem V20p.cfgOk (B : Nat) : CfgOk (V20p.cfg B) := cfgOk_of (by kernel_rfl) (by kernel_rfl) extNil
theorem V20p.sound {a : Option Addr} {d f : Nat} {g i : Int} {w : World} {R : Value → World → Prop} (h : V20p.vc w.heap.size R a d f g i w) : Calls Tryz.prog 20 ⟨[.agg ⟨[.slice a d f]⟩, .int .i64 g, .int .i64 i]⟩ w fun e w' => ∃ v, e = .returned v ∧ R v w' :=
 calls_wpfP (c := V20p.cfg w.heap.size) (fn := Tryz.f20) (x := V20p.code) (V20p.cuts w.heap.size R) V20p.h (V20p.cfgOk _) mixed Tryz.func20 (by kernel_rfl) (by kernel_rfl) (by kernel_rfl) rfl (V20p.obl _ _) ((V20p.vc_eq _ _ a d f g i _).symm ▸ h)
end Go.Proofs.YtidcpndlloppdaaGreatDoor

/-
  Layers 21, 29: the document's machine: a step; Play.
  Conditions: the program is right.
-/
set_option linter.unusedVariables false
set_option linter.unusedSimpArgs false
set_option maxRecDepth 20000
namespace Go.Proofs.YtidcpndlloppdaaGreatDoor
open Go.RowKit
section
variable {w : World} {B g : Nat} {P : Option Addr} {pc : Nat} {p : List Fnc} {m : Mach} {A : Option Addr} {c : Nat} {T : Value} {qs : List (Frm × Sls)} {Z : Nat → Prop}
theorem ref_after {w' : World} {v : Value} {m' : Mach} {A' : Option Addr} {c' : Nat} {T' : Value} {qs' : List (Frm × Sls)} {Z' : Nat → Prop} {z : World} (hc : Chg (MutR g T) w z) (he : ExtS w.heap.size (MutR g T) z w') (h' : RefAt w' B g P pc p m' A' c' T' qs' Z') (hT : ∀ k, T'.ownBlock = some k → T.ownBlock = some k ∨ z.heap.size ≤ k) (hZ : ∀ k, Z' k → Z k ∨ z.heap.size ≤ k) :
    Ret w.heap.size w' (IsT w (MutR g T) (fun u w' => u = v ∧ RefQ w B g P pc p T Z m' w') v) :=
  ref_ret (he.chg hc fun k _ hk => hk) h' (fun k hk => (hT k hk).imp id fun h => Nat.le_trans hc.size h) fun k hk => (hZ k hk).imp id fun h => Nat.le_trans hc.size h
theorem turns22 (hr : Rt p) (h : RefAt w B g P pc p m A c T qs Z) (ho : MOk p m) {n : Nat} (hl : Lim m n) (hn : n ≤ 80000) : RefT 22 [.pointer (some ⟨g, 0, none⟩)] w B g P pc p T Z (.int .i64 (stepM p m).2) (stepM p m).1 := by
  have l1 := hl.refs
  have l2 := hl.frames
  have l3 := hl.trace
  refine turns_of (V22.sound ?_)
  unfold V22.vc
  simp only [own_add, bx_add, Nat.add_zero]
  refine ⟨m.ended, h.cell (i := 3) rfl, ?_⟩
  have same : Chg (MutR g T) w w := Chg.refl _ _
  unfold stepM
  by_cases he : m.ended = true
  · rw [if_pos he, if_pos he]
    exact ref_ret same h (fun k hk => .inl hk) fun k hk => .inl hk
  rw [if_neg he, if_neg he]
  refine ⟨m.parked, h.cell (i := 4) rfl, ?_⟩
  by_cases hp : m.parked = true
  · rw [if_pos hp, if_pos hp]
    exact ref_ret same h (fun k hk => .inl hk) fun k hk => .inl hk
  rw [if_neg hp, if_neg hp]
  refine ⟨m.begun, h.cell (i := 2) rfl, ?_⟩
  unfold goM
  cases hb : m.begun with
  | false =>
    rw [if_pos (by rfl), if_pos rfl]
    refine ⟨⟨_, h.cell (i := 2) rfl⟩, h.fz 2, ?_⟩
    have h1 := h.setHead (i := 2) (v := .bool true) (m' := { m with begun := true }) rfl rfl rfl
    have c1 : Chg (MutR g T) w (w.setCell ⟨g, 2, none⟩ (.bool true)) := Chg.setCell (a := ⟨g, 2, none⟩) same _ fun _ => .inl rfl
    refine ⟨m.first, h1.cell (i := 1) rfl, ?_⟩
    obtain ⟨fn, hfn, hpar⟩ := ho.first
    have hsz := sized_bd (hr.sized fn (fnAt_mem hfn).1)
    exact call_ref (bs := []) c1.size h1 (fun w2 _ h2 => turns40 (args := []) hr h2 (by show m.frames.length ≤ _; omega) hfn (nums_nil _ _) (by show (0 : Int) ≤ _; omega) false) fun w' A' c' T' qs' Z' h' he hT hZ => ⟨rfl, ref_after (m' := { m with begun := true, frames := newF p m.first [] false :: m.frames }) c1 he h' hT hZ⟩
  | true =>
    rw [if_neg (by simp), if_neg (by simp)]
    have hne : m.frames ≠ [] := fun e => he ((ho.gone hb).2 e)
    rcases hm : m.frames with _ | ⟨x, r⟩
    · exact absurd hm hne
    have hrl : r.length < n := by rw [hm] at l2; simp only [List.length_cons] at l2; omega
    have hqm := h.frames
    rw [hm] at hqm
    obtain ⟨qs2, s, rfl, hr1, hk2⟩ := top_split hqm
    have hlq : (qs2 ++ [(x, s)]).length = r.length + 1 := by rw [List.length_append, hk2]; rfl
    obtain ⟨a, ha, hcell⟩ := h.frs.get (last_at hk2)
    have c6 := h.cell (i := 6) rfl
    rw [hlq] at c6
    refine ⟨_, _, _, c6, _, _, _, c6, a, ha, ?_⟩
    rw [top_ix (by omega)]
    simp only [Int.toNat_natCast]
    refine ⟨by omega, by omega, x.mode, hcell 2 _ rfl, ?_⟩
    by_cases h0 : x.mode = 0
    · rw [if_pos (by simpa using h0), if_pos h0]
      exact call_ref (bs := []) (Nat.le_refl _) h (fun w1 _ h1 => turns41 hr h1 ho hm h0 (by omega) (by omega) (by omega)) fun w' A' c' T' qs' Z' h' he hT hZ => ⟨rfl, ref_after same he h' hT hZ⟩
    · rw [if_neg (by simpa using h0), if_neg h0]
      exact call_ref (bs := []) (Nat.le_refl _) h (fun w1 _ h1 => turns42 hr h1 ho hm h0 (by omega) (by omega)) fun w' A' c' T' qs' Z' h' he hT hZ => ⟨rfl, ref_after same he h' hT hZ⟩
end
theorem b1_9 {p : List Fnc} {f : Int} {w0 w : World} {n i : Nat} (hn : n ≤ 3000) (hi : i ≤ n) (hs : i = n ∨ (playM p (newM f) i).ended = true) {g : Nat} {P : Option Addr} {pc : Nat} {A : Option Addr} {c : Nat} {T : Value} {qs : List (Frm × Sls)} {Z : Nat → Prop} (hw : Below w0.heap.size w0 w) (h : RefAt w w0.heap.size g P pc p (playM p (newM f) i) A c T qs Z) :
    V9p.b1 w0.heap.size (IsQ w0 (ShowR (playM p (newM f) n).trace (playM p (newM f) n).ended w0)) ⟨g, 0, none⟩ w := by
  unfold V9p.b1
  simp only [own_add]
  have e : (playM p (newM f) n).trace = (playM p (newM f) i).trace ∧ (playM p (newM f) n).ended = (playM p (newM f) i).ended := by
    rcases hs with rfl | hs
    · exact ⟨rfl, rfl⟩
    · obtain ⟨d, rfl⟩ := Nat.le.dest hi
      rw [playM_add]
      obtain ⟨a, b, _⟩ := play_over (p := p) hs d
      exact ⟨a, b.trans hs.symm⟩
  rw [e.1, e.2]
  have htr := h.trace
  obtain ⟨TA, cap, hT⟩ := owns_slice0 htr
  subst hT
  refine ⟨TA, _, cap, h.cell (i := 7) rfl, _, h.cell (i := 3) rfl, ret_q hw fun w1 e1 => ⟨TA, cap, rfl, e1.owns htr⟩⟩
section
variable {p : List Fnc} {f : Int} {fn : Fnc} (hr : Rt p) (hf : fnAt p f = some fn) (h0 : fn.params = 0)
include hr hf h0
theorem l0_9 {w0 : World} {n : Nat} {most : Int} (hn : n ≤ 3000) (hm : most = (n : Int) ∨ most ≤ 0 ∧ n = 0) {g : Nat} {P : Option Addr} {pc : Nat} : ∀ (k i : Nat) (w : World) (A : Option Addr) (c : Nat) (T : Value) (qs : List (Frm × Sls)) (Z : Nat → Prop), n < i + k → i ≤ n → Below w0.heap.size w0 w → RefAt w w0.heap.size g P pc p (playM p (newM f) i) A c T qs Z →
    V9p.l0 w0.heap.size (IsQ w0 (ShowR (playM p (newM f) n).trace (playM p (newM f) n).ended w0)) k most ⟨g, 0, none⟩ (i : Int) w
  | 0, i, w, A, c, T, qs, Z, hk, hi, _, _ => by omega
  | k + 1, i, w, A, c, T, qs, Z, hk, hi, hw, h => by
    dsimp -zeta only [V9p.l0]
    obtain ⟨ho, hl⟩ := shown_ok hr hf h0 i (by omega)
    by_cases hin : i < n
    · rw [if_pos (by simp; omega), if_pos (by simp; omega)]
      simp only [own_add, bx_add, Nat.add_zero]
      refine ⟨_, h.cell (i := 3) rfl, ?_⟩
      by_cases hov : (playM p (newM f) i).ended = true
      · rw [if_neg (by rw [hov]; simp)]
        exact b1_9 hn hi (.inr hov) hw h
      · rw [if_pos (by simpa using hov)]
        refine ⟨⟨_, h.cell (i := 4) rfl⟩, h.fz 4, ?_⟩
        have h1 := h.setHead (i := 4) (v := .bool false) (m' := wakeM (playM p (newM f) i)) rfl rfl rfl
        have hw1 : Below w0.heap.size w0 (w.setCell ⟨g, 4, none⟩ (.bool false)) := hw.setCell (by exact h.base) _
        refine call_ref (bs := []) hw1.size h1 (fun w2 _ h2 => turns22 hr h2 (wake_ok ho) (wake_lim hl) (by omega)) fun w' A' c' T' qs' Z' h' he hT hZ => ⟨_, rfl, ?_⟩
        have hw2 := he.after (fun j hj => (h1.ty hj).1) hw1
        rw [wrap_id (n := (i : Int) + 1) (by omega) (by omega)]
        exact l0_9 hn hm k (i + 1) w' A' c' T' qs' Z' (by omega) (by omega) hw2 h'
    · have : i = n := by omega
      subst this
      rw [if_neg (by simp; omega)]
      exact b1_9 hn (Nat.le_refl _) (.inl rfl) hw h
theorem yields9 {w : World} {P : Option Addr} {cap n : Nat} {most : Int} (hp : ProgAt w P p.length p) (hn : Acts most n) : Yields Tryz.prog 9 [.agg ⟨[.slice P p.length cap]⟩, .int .i64 f, .int .i64 most] w (ShowR (playM p (newM f) n).trace (playM p (newM f) n).ended w) := by
  obtain ⟨hn3, hm⟩ := hn
  refine yields_of (V9p.sound ?_)
  intro d _
  refine call_newR (w0 := w) (Nat.le_refl _) hp hf h0 fun g w1 hg h1 e1 => ⟨_, rfl, ?_⟩
  simp only [caseP]
  exact ⟨n + 1, l0_9 (n := n) hr hf h0 hn3 hm (n + 1) 0 w1 none 0 N0 [] _ (by omega) (by omega) (e1.after (Below.refl _ _)) h1⟩
theorem call_showR {w0 w : World} {bs : List Nat} {P : Option Addr} {cap n : Nat} {most : Int} {K : Value → World → Prop} (hB : w0.heap.size ≤ w.heap.size) (hp : ProgAt w P p.length p) (hn : Acts most n)
    (hk : ∀ A c w', Ext w0.heap.size w w' → OwnMs w' w.heap.size (.slice A (playM p (newM f) n).trace.length c) (playM p (newM f) n).trace → K (.tuple ⟨[.slice A (playM p (newM f) n).trace.length c, .bool (playM p (newM f) n).ended]⟩) w') :
    CallK Tryz.prog 9 [.agg ⟨[.slice P p.length cap]⟩, .int .i64 f, .int .i64 most] w0.heap.size w bs K := by
  refine call_yieldsX (Q := fun w1 => ShowR (playM p (newM f) n).trace (playM p (newM f) n).ended w1) hB (fun w1 e1 => yields9 hr hf h0 (RowAt.keep FncE.kept hp (ext_keeps e1)) hn) fun w1 v w2 w' hs hQ hnew he => ?_
  obtain ⟨A, c, rfl, ho⟩ := hQ
  exact hk A c w' he (owns_down (owns_other ho fun j hj => hnew j (ho.lt j hj).1) hs)
end
end Go.Proofs.YtidcpndlloppdaaGreatDoor

/-
  Layer 29: cutTrace; TraceMore's function returns true.
  Conditions: the arguments' memory says what their values are.
-/
set_option linter.unusedVariables false
set_option linter.unusedSimpArgs false
set_option maxRecDepth 20000
namespace Go.Proofs.YtidcpndlloppdaaGreatDoor
open Go.RowKit
def CutQ (xs : List Mk) (w : World) : Value → World → Prop := fun v w' => ∃ A c, v = .slice A xs.length c ∧ OwnMs w' w.heap.size (.slice A xs.length c) xs
theorem mcs_setw : ∀ {xs : List Mk} {k : Nat} {d : Mk} {u : Nat}, xs[k]? = some d → (mcs xs).set (k * 2 + 1) (.int .u64 (u : Int)) = mcs (xs.set k { d with w := u })
  | x :: r, 0, d, u, h => by simp at h; subst h; rfl
  | x :: r, k + 1, d, u, h => by
    have := mcs_setw (xs := r) (k := k) (d := d) (u := u) (by simpa using h)
    show ([Value.int .i64 x.k, .int .u64 (x.w : Int)] ++ mcs r).set ((k + 1) * 2 + 1) _ = [Value.int .i64 x.k, .int .u64 (x.w : Int)] ++ mcs (r.set k { d with w := u })
    rw [← this, show (k + 1) * 2 + 1 = k * 2 + 1 + 1 + 1 by omega]
    rfl
  | [], k, d, u, h => by simp at h
theorem yields11 {w : World} {A A' : Option Addr} {l c l' c' : Nat} {t ms : List Mk} (ht : Marks w A l t) (hc : l ≤ c) (hA : A = none → c = 0) (hlen : l ≤ 5000) (hms : Marks w A' l' ms) (hA' : A' = none → c' = 0) (hlen' : l' ≤ 1000) {cut how : Int} (hcut : 0 ≤ cut ∧ cut < 256) (hhow : 0 ≤ how ∧ how < 256)
    (hwd : ∀ d ∈ t, d.w < 18446744073709551616) : Yields Tryz.prog 11 [.slice A l c, .int .u8 cut, .slice A' l' c', .int .u8 how] w (CutQ (cutM t cut ms how) w) := by
  refine yields_of (V11.sound ?_)
  unfold V11.vc
  obtain rfl := ht.len
  obtain rfl := hms.len
  rw [wrap_id (n := ((t.length : Nat) : Int) + 1) (by omega) (by omega), wrap_id (n := cut) (by omega) (by omega)]
  have e1 : Int.tmod cut ((t.length : Int) + 1) = cut % ((t.length : Int) + 1) := Int.tmod_eq_emod_of_nonneg hcut.1
  have e2 : Int.tmod how 6 = how % 6 := Int.tmod_eq_emod_of_nonneg hhow.1
  rw [e1, e2]
  have k0 : 0 ≤ cut % ((t.length : Int) + 1) := Int.emod_nonneg _ (by omega)
  have k1 : cut % ((t.length : Int) + 1) < (t.length : Int) + 1 := Int.emod_lt_of_pos _ (by omega)
  unfold cutM
  obtain ⟨K, hK⟩ : ∃ K : Nat, cut % ((t.length : Int) + 1) = (K : Int) := ⟨(cut % ((t.length : Int) + 1)).toNat, by omega⟩
  rw [hK] at k0 k1 ⊢
  simp only [Int.toNat_natCast]
  rw [sub_same, Nat.sub_zero, Nat.sub_zero]
  refine ⟨by omega, ?_⟩
  intro w1 x1 _
  obtain ⟨x2, ho2⟩ := alloc1 (.cells ⟨[]⟩ 41) x1 (Nat.le_refl _)
  have hs1 := x1.size
  have hlt2 := lt_of_some ho2
  generalize w1.alloc (.cells ⟨[]⟩ 41) = w2 at *
  have hw2 := x2.after (Below.refl _ _)
  refine ⟨by omega, by omega, ?_⟩
  have htk : Marks w2 A K (t.take K) := Marks.take (RowAt.keep MarkE.kept ht (ext_keeps x2)) (by omega)
  refine append_ms (xs := []) hw2.size (b0 := w1.heap.size) (Nat.le_of_lt hlt2) (owns_empty ho2 (Nat.le_refl _)) htk hA (by simp; omega) fun v3 w3 x3 ho3 => ?_
  rw [List.nil_append] at ho3
  have hkl : (t.take K).length = K := by rw [List.length_take]; omega
  have hw3 := x3.after (fun j hj => by cases hj; exact hs1) hw2
  have hold3 : ∀ q u, w.cell? q = some u → w3.cell? q = some u := fun q u hq => x3.cell (x2.cell hq) fun hj => by have hj' : w1.heap.size = q.block := Option.some.inj hj; have := cell_lt hq; omega
  obtain ⟨A3, c3, hv3⟩ := owns_slice0 ho3
  subst hv3
  refine ⟨A3, _, c3, rfl, by omega, ?_⟩
  have done : ∀ {w4 : World} {A4 : Option Addr} {c4 n4 : Nat} {xs : List Mk}, Below w.heap.size w w4 → OwnMs w4 w1.heap.size (.slice A4 n4 c4) xs → Ret w.heap.size w4 (IsQ w (CutQ xs w) (.slice A4 n4 c4)) := fun {w4 A4 c4 n4 xs} hw4 ho4 => by
    obtain ⟨A5, c5, hv5⟩ := owns_slice0 ho4
    cases hv5
    exact ret_q hw4 fun w5 x5 => ⟨A4, c4, rfl, owns_down (x5.owns ho4) hs1⟩
  have app : ∀ {ys : List Mk} {A4 : Option Addr} {n4 c4 : Nat} {w4 : World}, Ext w.heap.size w3 w4 → Marks w4 A4 n4 ys → (A4 = none → c4 = 0) → n4 ≤ 1000 →
      RunK Tryz.prog (Builtin.append_ #[27, 27] 27 ⟨[.slice A3 (t.take K).length c3, .slice A4 n4 c4]⟩) w.heap.size w4 [] fun t_1 x => ∃ (y : Option Addr) (z A : Nat), t_1 = .slice y z A ∧ Ret w.heap.size x (IsQ w (CutQ (t.take K ++ ys) w) (.slice y z A)) := fun {ys A4 n4 c4 w4} x4 hy hn hl => by
    have ho4 : OwnMs w4 w1.heap.size (.slice A3 (t.take K).length c3) (t.take K) := x4.owns ho3
    have hw4 := x4.after hw3
    refine append_ms hw4.size (Nat.le_trans (Nat.le_of_lt hlt2) (Nat.le_trans x3.size x4.size)) ho4 hy hn (by omega) fun v5 w5 x5 ho5 => ?_
    obtain ⟨A5, c5, hv5⟩ := owns_slice0 ho5
    subst hv5
    exact ⟨A5, _, c5, rfl, done (x5.after (fun j hj => by have := (ho4.lt j hj).1; omega) hw4) ho5⟩
  have none_ : ∀ {a : Addr} {c : Nat}, (some a = none → c = 0) := fun h => by cases h
  have m0 : 0 ≤ how % 6 ∧ how % 6 < 6 := by omega
  by_cases c0 : how % 6 = 0
  · rw [if_pos (by simpa using c0), if_pos c0]
    exact app (Ext.refl _ _) (RowAt.keep MarkE.kept hms hold3) hA' hlen'
  rw [if_neg (by simpa using c0), if_neg c0]
  by_cases c1' : how % 6 = 1
  · rw [if_pos (by simpa using c1'), if_pos c1']
    by_cases hk0 : 0 < K
    · rw [if_pos (by simp; omega), if_pos hk0, wrap_id (n := (K : Int) - 1) (by omega) (by omega)]
      have hix : ((K : Int) - 1).toNat = K - 1 := by omega
      rw [hix]
      obtain ⟨g, cap, hv, hown, hbg⟩ := owns_some ho3 (by omega)
      cases hv
      obtain ⟨d, hd⟩ : ∃ d, (t.take K)[K - 1]? = some d := ⟨_, List.getElem?_eq_getElem (by omega)⟩
      obtain ⟨g1, g2⟩ := mcs_get hd
      have hc2 := owns_cell ho3 g2
      have hdw := hwd d (List.mem_of_mem_take (List.mem_of_getElem? hd))
      have ea : ((((⟨g, 0, none⟩ : Addr).add ((K - 1) * 2)).add 1).add 0) = ⟨g, (K - 1) * 2 + 1, none⟩ := by simp only [own_add, bx_add, Nat.add_zero, Nat.zero_add]
      have eb : (((⟨g, 0, none⟩ : Addr).add ((K - 1) * 2)).add 1) = ⟨g, (K - 1) * 2 + 1, none⟩ := by simp only [own_add, bx_add, Nat.zero_add]
      refine ⟨⟨g, 0, none⟩, rfl, by omega, by rw [hkl]; omega, (d.w : Int), by rw [eb]; exact hc2, ⟨g, 0, none⟩, rfl, by omega, by rw [hkl]; omega, ⟨_, by rw [ea]; exact hc2⟩, by rw [ea]; exact owns_frozen ho3 _, ?_⟩
      rw [ea]
      have hwr : IntKind.wrap .u64 ((d.w : Int) + 1) = (((d.w + 1) % 18446744073709551616 : Nat) : Int) := by
        rw [IntKind.wrap]; simp [IntKind.bits, IntKind.signed]
      rw [hwr]
      have hset := owns_set ho3 ((K - 1) * 2 + 1) (.int .u64 (((d.w + 1) % 18446744073709551616 : Nat) : Int)) (by omega)
      rw [mcs_setw hd] at hset
      have hbump : bumpM (t.take K) (K - 1) = (t.take K).set (K - 1) { d with w := (d.w + 1) % 18446744073709551616 } := by unfold bumpM; rw [hd]
      rw [hbump]
      have hset' : OwnMs (w3.setCell ⟨g, (K - 1) * 2 + 1, none⟩ (.int .u64 (((d.w + 1) % 18446744073709551616 : Nat) : Int))) w1.heap.size (.slice (some ⟨g, 0, none⟩) (t.take K).length c3) ((t.take K).set (K - 1) { d with w := (d.w + 1) % 18446744073709551616 }) := by
        unfold OwnMs
        rw [List.length_set]; exact hset
      exact done (hw3.setCell (by show w.heap.size ≤ g; omega) _) hset'
    · rw [if_neg (by simp; omega), if_neg hk0]
      exact done hw3 ho3
  rw [if_neg (by simpa using c1'), if_neg c1']
  have one : ∀ k : Int, Expo w.heap.size w3 [] fun x =>
      let F := x.alloc (.cells ⟨[.int .i64 k, .int .u64 0]⟩ 41);
      RunK Tryz.prog (Builtin.append_ #[27, 27] 27 ⟨[.slice A3 (t.take K).length c3, .slice (some ⟨x.heap.size, 0, none⟩) 1 1]⟩) w.heap.size F [] fun t_1 G =>
      ∃ (I : Option Addr) (J L : Nat), t_1 = .slice I J L ∧ Ret w.heap.size G (IsQ w (CutQ (t.take K ++ [⟨k, 0⟩]) w) (.slice I J L)) := fun k => by
    intro w4 x4 _
    obtain ⟨x5, ho5⟩ := alloc1 (.cells ⟨[.int .i64 k, .int .u64 0]⟩ 41) x4 hw3.size
    simp only
    generalize w4.alloc (.cells ⟨[.int .i64 k, .int .u64 0]⟩ 41) = w5 at *
    exact app x5 (marks_block (ms := [⟨k, 0⟩]) ho5 (by simp)) none_ (by omega)
  by_cases c2 : how % 6 = 2
  · rw [if_pos (by simpa using c2), if_pos c2]
    exact one 5
  rw [if_neg (by simpa using c2), if_neg c2]
  by_cases c3' : how % 6 = 3
  · rw [if_pos (by simpa using c3'), if_pos c3']
    exact one 6
  rw [if_neg (by simpa using c3'), if_neg c3']
  by_cases c4 : how % 6 = 4
  · rw [if_pos (by simpa using c4), if_pos c4]
    intro w4 x4 _
    obtain ⟨x5, ho5⟩ := alloc1 (.cells ⟨[]⟩ 41) x4 hw3.size
    have hs4 := x4.size
    have hlt5 := lt_of_some ho5
    try simp only
    generalize w4.alloc (.cells ⟨[]⟩ 41) = w5 at *
    have hw5 := x5.after hw3
    have hww : w.heap.size ≤ w4.heap.size := Nat.le_trans hw3.size hs4
    refine append_ms (xs := []) hw5.size (b0 := w4.heap.size) (Nat.le_of_lt hlt5) (owns_empty ho5 (Nat.le_refl _)) (RowAt.keep MarkE.kept ht fun q v hq => x5.cell (hold3 q v hq)) hA (by simp; omega) fun v6 w6 x6 ho6 => ?_
    rw [List.nil_append] at ho6
    obtain ⟨A6, c6, hv6⟩ := owns_slice0 ho6
    subst hv6
    refine ⟨A6, _, c6, rfl, ?_⟩
    exact ret_q (x6.after (fun j hj => by cases hj; exact hww) hw5) fun w7 x7 => ⟨A6, c6, rfl, owns_down (x7.owns ho6) hww⟩
  rw [if_neg (by simpa using c4), if_neg c4]
  exact done hw3 ho3
theorem call_cut {w0 w : World} {bs : List Nat} {A A' : Option Addr} {l c l' c' : Nat} {t ms : List Mk} {K : Value → World → Prop} (hB : w0.heap.size ≤ w.heap.size) (ht : Marks w A l t) (hc : l ≤ c) (hA : A = none → c = 0) (hlen : l ≤ 5000) (hms : Marks w A' l' ms) (hA' : A' = none → c' = 0) (hlen' : l' ≤ 1000) {cut how : Int} (hcut : 0 ≤ cut ∧ cut < 256) (hhow : 0 ≤ how ∧ how < 256)
    (hwd : ∀ d ∈ t, d.w < 18446744073709551616) (hk : ∀ A c w', Ext w0.heap.size w w' → OwnMs w' w.heap.size (.slice A (cutM t cut ms how).length c) (cutM t cut ms how) → K (.slice A (cutM t cut ms how).length c) w') : CallK Tryz.prog 11 [.slice A l c, .int .u8 cut, .slice A' l' c', .int .u8 how] w0.heap.size w bs K := by
  refine call_yieldsX (Q := fun w1 => CutQ (cutM t cut ms how) w1) hB (fun w1 e1 => yields11 (RowAt.keep MarkE.kept ht (ext_keeps e1)) hc hA hlen (RowAt.keep MarkE.kept hms (ext_keeps e1)) hA' hlen' hcut hhow hwd) fun w1 v w2 w' hs hQ hnew he => ?_
  obtain ⟨A, c, rfl, ho⟩ := hQ
  exact hk A c w' he (owns_down (owns_other ho fun j hj => hnew j (ho.lt j hj).1) hs)
theorem cutM_len (t : List Mk) (cut : Int) (ms : List Mk) (how : Int) : (cutM t cut ms how).length ≤ t.length + ms.length + 1 := by
  have hb : ∀ (x : List Mk) k, (bumpM x k).length = x.length := fun x k => by unfold bumpM; split <;> simp
  unfold cutM
  split
  · rw [List.length_append, List.length_take]; omega
  split
  · split
    · rw [hb, List.length_take]; omega
    · rw [List.length_take]; omega
  split
  · rw [List.length_append, List.length_take]; simp only [List.length_cons, List.length_nil]; omega
  split
  · rw [List.length_append, List.length_take]; simp only [List.length_cons, List.length_nil]; omega
  split
  · omega
  · rw [List.length_take]; omega
end Go.Proofs.YtidcpndlloppdaaGreatDoor
