import Derived.Test.YtidcpndlloppdaaZM21m
import Derived.Test.YtidcpndlloppdaaZP21i
import Derived.Test.YtidcpndlloppdaaZMB
/-
  Layer 21: played; AbsmTrace's function returns true.
  Conditions: the arguments' memory says what their values are.
-/
set_option linter.unusedVariables false
set_option linter.unusedSimpArgs false
set_option maxRecDepth 20000
namespace Go.Proofs.Ytidcpndlloppdaa
open Go.RowKit
structure Own (w : World) (n0 : Nat) (B g : Nat) (C : Option Addr) (c : Nat) (p : List Fnc) (m : Mach) (F T : Value) (ss : List Sl) : Prop where
  mach : MachAt w B g C c p m F T ss
  foot : ∀ k, Foot g F T ss k → n0 ≤ k
  prog : Aside (fun w => ProgAt w C p.length p) (fun k => k < n0 ∨ Foot g F T ss k) w
section
variable {w w' : World} {n0 B g : Nat} {C : Option Addr} {c : Nat} {p : List Fnc} {m m' : Mach} {F T : Value} {ss : List Sl}
theorem Own.turn {F' T' : Value} {ss' : List Sl} {B0 : Nat} (h : Own w n0 B g C c p m F T ss) (hn : n0 ≤ w.heap.size) (h' : MachAt w' B g C c p m' F' T' ss') (he : ExtS B0 (Foot g F T ss) w w') (hf : ∀ k, Foot g F' T' ss' k → Foot g F T ss k ∨ w.heap.size ≤ k) : Own w' n0 B g C c p m' F' T' ss' :=
  ⟨h', fun k hk => (hf k hk).elim (h.foot k) fun h => by omega, h.prog.keep ((keepsOff_exts he).mono fun k hk => .inr hk) fun k hk => by
    rcases hk with hk | hk
    · exact .inl (.inl hk)
    · exact (hf k hk).imp .inr id⟩
theorem Own.ext {B0 : Nat} (h : Own w n0 B g C c p m F T ss) (he : Ext B0 w w') : Own w' n0 B g C c p m F T ss := ⟨h.mach.ext he, h.foot, h.prog.ext he⟩
theorem Own.same (h : Own w n0 B g C c p m F T ss) (hs : ∀ k, n0 ≤ k → w'.heap[k]? = w.heap[k]?) : Own w' n0 B g C c p m F T ss := by
  have hP : Aside (fun w => ProgAt w C p.length p) (fun k => k < n0 ∨ Foot g F T ss k) w' := by
    obtain ⟨w1, h1, h2⟩ := h.prog
    refine ⟨w1, h1, fun q v hq => ?_⟩
    obtain ⟨k1, k2⟩ := h2 q v hq
    exact ⟨(cell_same (hs _ (Nat.le_of_not_lt fun h => k2 (.inl h)))).trans k1, k2⟩
  have hf : ∀ k, Foot g F T ss k → w'.heap[k]? = w.heap[k]? := fun k hk => hs k (h.foot k hk)
  exact ⟨⟨h.mach.base, by rw [hf g (.inl rfl)]; exact h.mach.head, h.mach.pcs.same fun k hk => hf k (.inr hk), (hP.mono fun k hk => .inr hk).poff⟩, h.foot, hP⟩
theorem Own.low {B' : Nat} (h : Own w n0 B g C c p m F T ss) (hB : B' ≤ B) : Own w n0 B' g C c p m F T ss := by
  have fr : ∀ {fs : List Frm} {ss : List Sl}, FrmsM w B fs ss → FrmsM w B' fs ss := by
    intro fs
    induction fs with
    | nil => intro ss h; cases ss with
      | nil => trivial
      | cons _ _ => exact h.elim
    | cons x r ih => intro ss h; cases ss with
      | nil => exact h.elim
      | cons s t =>
        have ar : ∀ {ds : List Dfr} {vs : List Value}, ArgsM w B ds vs → ArgsM w B' ds vs := by
          intro ds
          induction ds with
          | nil => intro vs h; cases vs with
            | nil => trivial
            | cons _ _ => exact h.elim
          | cons d r ih => intro vs h; cases vs with
            | nil => exact h.elim
            | cons a u => exact ⟨owns_down h.1 hB, ih h.2⟩
        exact ⟨⟨owns_down h.1.D hB, ar h.1.args, owns_down h.1.L hB, owns_down h.1.O hB⟩, ih h.2⟩
  exact ⟨⟨Nat.le_trans hB h.mach.base, h.mach.head, ⟨owns_down h.mach.pcs.frames hB, owns_down h.mach.pcs.trace hB, fr h.mach.pcs.each, h.mach.pcs.apart⟩, h.mach.prog⟩, h.foot, h.prog⟩
theorem call_newO {w0 w : World} {bs : List Nat} {P : Option Addr} {cap : Nat} {p : List Fnc} {f : Int} {fn : Fnc} {K : Value → World → Prop} (hB : w0.heap.size ≤ w.heap.size) (hp : ProgAt w P p.length p) (hr : Rt p) (hf : fnAt p f = some fn) (h0 : fn.params = 0)
    (hk : ∀ g C c w', Own w' w.heap.size w0.heap.size g C c p (newM f) N0 N0 [] → Ext w0.heap.size w w' → K (.pointer (some ⟨g, 0, none⟩)) w') :
    CallK Try.prog 26 [.agg ⟨[.slice P p.length cap]⟩, .int .i64 f] w0.heap.size w bs K :=
  call_newM hB hp hr hf h0 fun g C c w' hg h ha he => hk g C c w' ⟨h, fun k hk => (by
    rcases hk with hk | hk | hk | ⟨s, hs, _⟩
    · omega
    · cases hk
    · cases hk
    · cases hs), ha.mono fun k hk => (by
    rcases hk with hk | hk | hk | hk | ⟨s, hs, _⟩
    · exact .inl hk
    · exact .inr hk
    · cases hk
    · cases hk
    · cases hs)⟩ he
end
def PlayQ (p : List Fnc) (n : Nat) (w : World) : Value → World → Prop := fun v w' => ∃ g C c F T ss, v = .pointer (some ⟨g, 0, none⟩) ∧ Own w' w.heap.size w.heap.size g C c p (playM p (newM 0) n) F T ss
section
variable {p : List Fnc} {fn : Fnc} (hr : Rt p) (hf : fnAt p 0 = some fn) (h0 : fn.params = 0)
include hr hf h0
theorem played_ok (n : Nat) (hn : n ≤ 100000) : MOk p (playM p (newM 0) n) ∧ Lim (playM p (newM 0) n) n := by
  have := play_ok hr (newM_ok hf h0) (newM_lim 0) n (by omega)
  rwa [Nat.zero_add] at this
theorem l1_11 {w0 : World} {n : Nat} (hn : n ≤ 100000) : ∀ (k i : Nat) (w : World) (g : Nat) (C : Option Addr) (c : Nat) (F T : Value) (ss : List Sl), n < i + k → i ≤ n → Below w0.heap.size w0 w → Own w w0.heap.size w0.heap.size g C c p (playM p (newM 0) i) F T ss →
    V11.l1 w0.heap.size (IsQ w0 (PlayQ p n w0)) k (n : Int) ⟨g, 0, none⟩ (i : Int) w
  | 0, i, w, g, C, c, F, T, ss, hk, hi, _, _ => by omega
  | k + 1, i, w, g, C, c, F, T, ss, hk, hi, hw, h => by
    dsimp -zeta only [V11.l1]
    obtain ⟨ho, hl⟩ := played_ok hr hf h0 i (by omega)
    by_cases hin : i < n
    · rw [if_pos (by simp; omega)]
      refine call_wake hw.size h.mach fun w1 F1 T1 ss1 h1 e1 hf1 => ⟨rfl, ?_⟩
      have hO1 := h.turn hw.size h1 e1 hf1
      have hw1 := e1.after (fun j hj => (h.mach.ty hj).1) hw
      refine call_step hw1.size hr h1 (wake_ok ho) (wake_lim hl) (by omega) fun w2 F2 T2 ss2 h2 e2 hf2 => ⟨_, rfl, ?_⟩
      have hO2 := hO1.turn hw1.size h2 e2 hf2
      have hw2 := e2.after (fun j hj => (h1.ty hj).1) hw1
      rw [wrap_id (by omega) (by omega)]
      exact l1_11 hn k (i + 1) w2 g C c F2 T2 ss2 (by omega) (by omega) hw2 hO2
    · have : i = n := by omega
      subst this
      rw [if_neg (by simp)]
      exact ret_q hw fun w1 e1 => ⟨g, C, c, F, T, ss, rfl, h.ext e1⟩
theorem yields11 {w : World} {P : Option Addr} {cap n : Nat} (hp : ProgAt w P p.length p) (hn : n ≤ 100000) : Yields Try.prog 11 [.agg ⟨[.slice P p.length cap]⟩, .int .i64 (n : Int)] w (PlayQ p n w) := by
  refine yields_of (V11.sound ?_)
  intro d _
  refine call_newO (Nat.le_refl _) hp hr hf h0 fun g C c w1 h1 e1 => ⟨_, rfl, ?_⟩
  simp only [caseP]
  exact ⟨n + 1, l1_11 hr hf h0 hn (n + 1) 0 w1 g C c _ _ _ (by omega) (by omega) (e1.after (Below.refl _ _)) h1⟩
theorem call_played {w0 w : World} {bs : List Nat} {P : Option Addr} {cap n : Nat} {K : Value → World → Prop} (hB : w0.heap.size ≤ w.heap.size) (hp : ProgAt w P p.length p) (hn : n ≤ 100000)
    (hk : ∀ g C c F T ss w', Own w' w.heap.size w0.heap.size g C c p (playM p (newM 0) n) F T ss → Ext w0.heap.size w w' → K (.pointer (some ⟨g, 0, none⟩)) w') :
    CallK Try.prog 11 [.agg ⟨[.slice P p.length cap]⟩, .int .i64 (n : Int)] w0.heap.size w bs K := by
  refine call_yieldsX (Q := fun w1 => PlayQ p n w1) hB (fun w1 e1 => yields11 hr hf h0 (RowAt.keep FncE.kept hp (ext_keeps e1)) hn) fun w1 v w2 w' hs hQ hnew he => ?_
  obtain ⟨g, C, c, F, T, ss, rfl, h⟩ := hQ
  have h1 := (h.same hnew).low (Nat.le_trans hB hs)
  refine hk g C c F T ss w' ⟨h1.mach, fun k hk => Nat.le_trans hs (h1.foot k hk), h1.prog.mono fun k hk => ?_⟩ he
  rcases hk with hk | hk
  · exact .inl (by omega)
  · exact .inr hk
end
end Go.Proofs.Ytidcpndlloppdaa

/-
  Layer 21, plain: the machine on the programs of AbsmRecovers.
  Conditions: none.
-/
set_option linter.unusedVariables false
set_option maxRecDepth 20000
namespace Go.Proofs.Ytidcpndlloppdaa
end Go.Proofs.Ytidcpndlloppdaa

/-
 What the engine makes of the loaded functions 12, 3, 4: conditions under which a call returns as told, and proofs of that.
 Conditions: none. Printed by a program of this project.
-/
set_option linter.unusedVariables false
set_option maxRecDepth 100000
namespace Go.Proofs.Ytidcpndlloppdaa
end Go.Proofs.Ytidcpndlloppdaa

/-
  Layer 21: code and marks that grow; AbsmRecovers's function returns true.
  Conditions: the arguments' memory says what their values are.
-/
set_option linter.unusedVariables false
set_option linter.unusedSimpArgs false
set_option maxRecDepth 20000
namespace Go.Proofs.Ytidcpndlloppdaa
open Go.RowKit
theorem insV_one {xs : List Ins} : ∀ u ∈ xs.flatMap insV, u.oneCell' = true := fun u hu => by
  obtain ⟨x, _, hx⟩ := List.mem_flatMap.1 hu
  simp only [insV, List.mem_cons, List.not_mem_nil, or_false] at hx
  rcases hx with rfl | rfl | rfl <;> rfl
theorem insV_len : ∀ xs : List Ins, (xs.flatMap insV).length = xs.length * 3
  | [] => rfl
  | x :: r => by rw [List.flatMap_cons, List.length_append, insV_len r]; simp only [insV, List.length_cons, List.length_nil]; omega
section
variable {w0 w w' : World} {xs : List Ins} {ms : List Mk} {vP vW : Value} {Q : World → Prop}
end
theorem Own.off {w w' : World} {n0 B g : Nat} {C : Option Addr} {c : Nat} {p : List Fnc} {m : Mach} {F T : Value} {ss : List Sl} (h : Own w n0 B g C c p m F T ss) (hs : ∀ (k : Nat) (c : Array Value) (e : TypeId) (f : Nat × Nat), n0 ≤ k → w.heap[k]? = some (.cells c e f) → w'.heap[k]? = some (.cells c e f)) : Own w' n0 B g C c p m F T ss := by
  have hcell : ∀ {q v}, w.cell? q = some v → n0 ≤ q.block → w'.cell? q = some v := fun {q v} hq hn => by
    obtain ⟨c, t, f, hb⟩ := cell_block hq
    exact (cell_same (by rw [hs _ _ _ _ hn hb, hb])).trans hq
  have hP : Aside (fun w => ProgAt w C p.length p) (fun k => k < n0 ∨ Foot g F T ss k) w' := by
    obtain ⟨w1, h1, h2⟩ := h.prog
    refine ⟨w1, h1, fun q v hq => ?_⟩
    obtain ⟨k1, k2⟩ := h2 q v hq
    exact ⟨hcell k1 (Nat.le_of_not_lt fun h => k2 (.inl h)), k2⟩
  have hf : ∀ k, Foot g F T ss k → w'.heap[k]? = w.heap[k]? := fun k hk => by
    obtain ⟨_, _, cc, e, ff, hh⟩ := h.mach.ty hk
    rw [hh]; exact hs _ _ _ _ (h.foot k hk) hh
  exact ⟨⟨h.mach.base, by rw [hf g (.inl rfl)]; exact h.mach.head, h.mach.pcs.same fun k hk => hf k (.inr hk), (hP.mono fun k hk => .inr hk).poff⟩, h.foot, hP⟩
section
variable {w0 : World} {v : Int} (hv : -2147483648 ≤ v ∧ v ≤ 2147483647) {deep : Bool} {k0 : Nat} (hk0 : k0 < 5)
include hv hk0
end
end Go.Proofs.Ytidcpndlloppdaa

/-
  Layer 21: AbsmDefers's function returns true.
  Conditions: the arguments' memory says what their values are.
-/
set_option linter.unusedVariables false
set_option linter.unusedSimpArgs false
set_option maxRecDepth 20000
namespace Go.Proofs.Ytidcpndlloppdaa
open Go.RowKit
theorem take_getN {α : Type} {l : List α} {i : Nat} {x : α} (h : l[i]? = some x) : l.take (i + 1) = l.take i ++ [x] := by
  rw [List.take_add_one, h]; rfl
section
variable {w0 : World} {v : Int} (hv : -32768 ≤ v ∧ v ≤ 32767) {falls : Bool} {ns : List Int} {S : Option Addr} {l c : Nat} (hns : Nums .i8 w0 S l ns) (hbd : ∀ n ∈ ns, -128 ≤ n ∧ n ≤ 127) {n : Nat} (hn : n = min l 5)
include hv hns hbd hn
end
end Go.Proofs.Ytidcpndlloppdaa

/-
  Layer 21: AbsmTrace's function returns true.
  Conditions: the arguments' memory says what their values are.
-/
set_option linter.unusedVariables false
set_option linter.unusedSimpArgs false
set_option maxRecDepth 20000
namespace Go.Proofs.Ytidcpndlloppdaa
open Go.RowKit
section
variable {p : List Fnc} {fn : Fnc} (hr : Rt p) (hf : fnAt p 0 = some fn) (h0 : fn.params = 0)
include hr hf h0
end
end Go.Proofs.Ytidcpndlloppdaa
