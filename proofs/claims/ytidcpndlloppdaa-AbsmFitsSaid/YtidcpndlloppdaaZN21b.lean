import Derived.Test.YtidcpndlloppdaaZM21m
/-
  Layer 21: played; AbsmTrace's function returns true.
  Conditions: the arguments' memory says what their values are.
-/
set_option linter.unusedVariables false
set_option linter.unusedSimpArgs false
set_option maxRecDepth 20000
namespace Go.Proofs.Ytidcpndlloppdaa
open Go.RowKit
structure Own (w : World) (n0 : Nat) (B g : Nat) (C : Option Addr) (c : Nat) (p : List Fnc) (m : Mach) (F T : Value) (ss : List Sl) : Prop where
  mach : MachAt w B g C c p m F T ss
  foot : ∀ k, Foot g F T ss k → n0 ≤ k
  prog : Aside (fun w => ProgAt w C p.length p) (fun k => k < n0 ∨ Foot g F T ss k) w
section
variable {w w' : World} {n0 B g : Nat} {C : Option Addr} {c : Nat} {p : List Fnc} {m m' : Mach} {F T : Value} {ss : List Sl}
theorem Own.turn {F' T' : Value} {ss' : List Sl} {B0 : Nat} (h : Own w n0 B g C c p m F T ss) (hn : n0 ≤ w.heap.size) (h' : MachAt w' B g C c p m' F' T' ss') (he : ExtS B0 (Foot g F T ss) w w') (hf : ∀ k, Foot g F' T' ss' k → Foot g F T ss k ∨ w.heap.size ≤ k) : Own w' n0 B g C c p m' F' T' ss' :=
  ⟨h', fun k hk => (hf k hk).elim (h.foot k) fun h => by omega, h.prog.keep ((keepsOff_exts he).mono fun k hk => .inr hk) fun k hk => by
    rcases hk with hk | hk
    · exact .inl (.inl hk)
    · exact (hf k hk).imp .inr id⟩
theorem Own.ext {B0 : Nat} (h : Own w n0 B g C c p m F T ss) (he : Ext B0 w w') : Own w' n0 B g C c p m F T ss := ⟨h.mach.ext he, h.foot, h.prog.ext he⟩
theorem Own.same (h : Own w n0 B g C c p m F T ss) (hs : ∀ k, n0 ≤ k → w'.heap[k]? = w.heap[k]?) : Own w' n0 B g C c p m F T ss := by
  have hP : Aside (fun w => ProgAt w C p.length p) (fun k => k < n0 ∨ Foot g F T ss k) w' := by
    obtain ⟨w1, h1, h2⟩ := h.prog
    refine ⟨w1, h1, fun q v hq => ?_⟩
    obtain ⟨k1, k2⟩ := h2 q v hq
    exact ⟨(cell_same (hs _ (Nat.le_of_not_lt fun h => k2 (.inl h)))).trans k1, k2⟩
  have hf : ∀ k, Foot g F T ss k → w'.heap[k]? = w.heap[k]? := fun k hk => hs k (h.foot k hk)
  exact ⟨⟨h.mach.base, by rw [hf g (.inl rfl)]; exact h.mach.head, h.mach.pcs.same fun k hk => hf k (.inr hk), (hP.mono fun k hk => .inr hk).poff⟩, h.foot, hP⟩
theorem Own.low {B' : Nat} (h : Own w n0 B g C c p m F T ss) (hB : B' ≤ B) : Own w n0 B' g C c p m F T ss := by
  have fr : ∀ {fs : List Frm} {ss : List Sl}, FrmsM w B fs ss → FrmsM w B' fs ss := by
    intro fs
    induction fs with
    | nil => intro ss h; cases ss with
      | nil => trivial
      | cons _ _ => exact h.elim
    | cons x r ih => intro ss h; cases ss with
      | nil => exact h.elim
      | cons s t =>
        have ar : ∀ {ds : List Dfr} {vs : List Value}, ArgsM w B ds vs → ArgsM w B' ds vs := by
          intro ds
          induction ds with
          | nil => intro vs h; cases vs with
            | nil => trivial
            | cons _ _ => exact h.elim
          | cons d r ih => intro vs h; cases vs with
            | nil => exact h.elim
            | cons a u => exact ⟨owns_down h.1 hB, ih h.2⟩
        exact ⟨⟨owns_down h.1.D hB, ar h.1.args, owns_down h.1.L hB, owns_down h.1.O hB⟩, ih h.2⟩
  exact ⟨⟨Nat.le_trans hB h.mach.base, h.mach.head, ⟨owns_down h.mach.pcs.frames hB, owns_down h.mach.pcs.trace hB, fr h.mach.pcs.each, h.mach.pcs.apart⟩, h.mach.prog⟩, h.foot, h.prog⟩
theorem call_newO {w0 w : World} {bs : List Nat} {P : Option Addr} {cap : Nat} {p : List Fnc} {f : Int} {fn : Fnc} {K : Value → World → Prop} (hB : w0.heap.size ≤ w.heap.size) (hp : ProgAt w P p.length p) (hr : Rt p) (hf : fnAt p f = some fn) (h0 : fn.params = 0)
    (hk : ∀ g C c w', Own w' w.heap.size w0.heap.size g C c p (newM f) N0 N0 [] → Ext w0.heap.size w w' → K (.pointer (some ⟨g, 0, none⟩)) w') :
    CallK Try.prog 26 [.agg ⟨[.slice P p.length cap]⟩, .int .i64 f] w0.heap.size w bs K :=
  call_newM hB hp hr hf h0 fun g C c w' hg h ha he => hk g C c w' ⟨h, fun k hk => (by
    rcases hk with hk | hk | hk | ⟨s, hs, _⟩
    · omega
    · cases hk
    · cases hk
    · cases hs), ha.mono fun k hk => (by
    rcases hk with hk | hk | hk | hk | ⟨s, hs, _⟩
    · exact .inl hk
    · exact .inr hk
    · cases hk
    · cases hk
    · cases hs)⟩ he
end
section
variable {p : List Fnc} {fn : Fnc} (hr : Rt p) (hf : fnAt p 0 = some fn) (h0 : fn.params = 0)
include hr hf h0
theorem played_ok (n : Nat) (hn : n ≤ 100000) : MOk p (playM p (newM 0) n) ∧ Lim (playM p (newM 0) n) n := by
  have := play_ok hr (newM_ok hf h0) (newM_lim 0) n (by omega)
  rwa [Nat.zero_add] at this
end
end Go.Proofs.Ytidcpndlloppdaa

/-
  Layer 21: AbsmTrace's function returns true.
  Conditions: the arguments' memory says what their values are.
-/
set_option linter.unusedVariables false
set_option linter.unusedSimpArgs false
set_option maxRecDepth 20000
namespace Go.Proofs.Ytidcpndlloppdaa
open Go.RowKit
theorem made_rt {p : List Fnc} (h : MadeOk p) : Rt p := rt_of (by rw [h.check])
theorem made_first {p : List Fnc} (h : MadeOk p) : ∃ fn, fnAt p 0 = some fn ∧ fn.params = 0 := by
  obtain ⟨fn, hfn⟩ := fnAt_in (p := p) (f := 0) (by omega) (by have := h.pos; omega)
  exact ⟨fn, hfn, h.zero fn (fnAt_mem hfn).2.2.1⟩
section
variable {p : List Fnc} {fn : Fnc} (hr : Rt p) (hf : fnAt p 0 = some fn) (h0 : fn.params = 0)
include hr hf h0
end
end Go.Proofs.Ytidcpndlloppdaa
