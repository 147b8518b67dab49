import Derived.Test.YtidcpndlloppdaaGreatDoorZR21i
import Derived.Test.YtidcpndlloppdaaGreatDoorZMF
import Derived.Test.YtidcpndlloppdaaGreatDoorRows
/-
  Layers 21, 29: the document's machine: a step; Play.
  Conditions: the program is right.
-/
set_option linter.unusedVariables false
set_option linter.unusedSimpArgs false
set_option maxRecDepth 20000
namespace Go.Proofs.YtidcpndlloppdaaGreatDoor
open Go.RowKit
section
variable {w : World} {B g : Nat} {P : Option Addr} {pc : Nat} {p : List Fnc} {m : Mach} {A : Option Addr} {c : Nat} {T : Value} {qs : List (Frm × Sls)} {Z : Nat → Prop}
theorem ref_after {w' : World} {v : Value} {m' : Mach} {A' : Option Addr} {c' : Nat} {T' : Value} {qs' : List (Frm × Sls)} {Z' : Nat → Prop} {z : World} (hc : Chg (MutR g T) w z) (he : ExtS w.heap.size (MutR g T) z w') (h' : RefAt w' B g P pc p m' A' c' T' qs' Z') (hT : ∀ k, T'.ownBlock = some k → T.ownBlock = some k ∨ z.heap.size ≤ k) (hZ : ∀ k, Z' k → Z k ∨ z.heap.size ≤ k) :
    Ret w.heap.size w' (IsT w (MutR g T) (fun u w' => u = v ∧ RefQ w B g P pc p T Z m' w') v) :=
  ref_ret (he.chg hc fun k _ hk => hk) h' (fun k hk => (hT k hk).imp id fun h => Nat.le_trans hc.size h) fun k hk => (hZ k hk).imp id fun h => Nat.le_trans hc.size h
theorem turns22 (hr : Rt p) (h : RefAt w B g P pc p m A c T qs Z) (ho : MOk p m) {n : Nat} (hl : Lim m n) (hn : n ≤ 80000) : RefT 22 [.pointer (some ⟨g, 0, none⟩)] w B g P pc p T Z (.int .i64 (stepM p m).2) (stepM p m).1 := by
  have l1 := hl.refs
  have l2 := hl.frames
  have l3 := hl.trace
  refine turns_of (V22.sound ?_)
  unfold V22.vc
  simp only [own_add, bx_add, Nat.add_zero]
  refine ⟨m.ended, h.cell (i := 3) rfl, ?_⟩
  have same : Chg (MutR g T) w w := Chg.refl _ _
  unfold stepM
  by_cases he : m.ended = true
  · rw [if_pos he, if_pos he]
    exact ref_ret same h (fun k hk => .inl hk) fun k hk => .inl hk
  rw [if_neg he, if_neg he]
  refine ⟨m.parked, h.cell (i := 4) rfl, ?_⟩
  by_cases hp : m.parked = true
  · rw [if_pos hp, if_pos hp]
    exact ref_ret same h (fun k hk => .inl hk) fun k hk => .inl hk
  rw [if_neg hp, if_neg hp]
  refine ⟨m.begun, h.cell (i := 2) rfl, ?_⟩
  unfold goM
  cases hb : m.begun with
  | false =>
    rw [if_pos (by rfl), if_pos rfl]
    refine ⟨⟨_, h.cell (i := 2) rfl⟩, h.fz 2, ?_⟩
    have h1 := h.setHead (i := 2) (v := .bool true) (m' := { m with begun := true }) rfl rfl rfl
    have c1 : Chg (MutR g T) w (w.setCell ⟨g, 2, none⟩ (.bool true)) := Chg.setCell (a := ⟨g, 2, none⟩) same _ fun _ => .inl rfl
    refine ⟨m.first, h1.cell (i := 1) rfl, ?_⟩
    obtain ⟨fn, hfn, hpar⟩ := ho.first
    have hsz := sized_bd (hr.sized fn (fnAt_mem hfn).1)
    exact call_ref (bs := []) c1.size h1 (fun w2 _ h2 => turns40 (args := []) hr h2 (by show m.frames.length ≤ _; omega) hfn (nums_nil _ _) (by show (0 : Int) ≤ _; omega) false) fun w' A' c' T' qs' Z' h' he hT hZ => ⟨rfl, ref_after (m' := { m with begun := true, frames := newF p m.first [] false :: m.frames }) c1 he h' hT hZ⟩
  | true =>
    rw [if_neg (by simp), if_neg (by simp)]
    have hne : m.frames ≠ [] := fun e => he ((ho.gone hb).2 e)
    rcases hm : m.frames with _ | ⟨x, r⟩
    · exact absurd hm hne
    have hrl : r.length < n := by rw [hm] at l2; simp only [List.length_cons] at l2; omega
    have hqm := h.frames
    rw [hm] at hqm
    obtain ⟨qs2, s, rfl, hr1, hk2⟩ := top_split hqm
    have hlq : (qs2 ++ [(x, s)]).length = r.length + 1 := by rw [List.length_append, hk2]; rfl
    obtain ⟨a, ha, hcell⟩ := h.frs.get (last_at hk2)
    have c6 := h.cell (i := 6) rfl
    rw [hlq] at c6
    refine ⟨_, _, _, c6, _, _, _, c6, a, ha, ?_⟩
    rw [top_ix (by omega)]
    simp only [Int.toNat_natCast]
    refine ⟨by omega, by omega, x.mode, hcell 2 _ rfl, ?_⟩
    by_cases h0 : x.mode = 0
    · rw [if_pos (by simpa using h0), if_pos h0]
      exact call_ref (bs := []) (Nat.le_refl _) h (fun w1 _ h1 => turns41 hr h1 ho hm h0 (by omega) (by omega) (by omega)) fun w' A' c' T' qs' Z' h' he hT hZ => ⟨rfl, ref_after same he h' hT hZ⟩
    · rw [if_neg (by simpa using h0), if_neg h0]
      exact call_ref (bs := []) (Nat.le_refl _) h (fun w1 _ h1 => turns42 hr h1 ho hm h0 (by omega) (by omega)) fun w' A' c' T' qs' Z' h' he hT hZ => ⟨rfl, ref_after same he h' hT hZ⟩
end
theorem b1_9 {p : List Fnc} {f : Int} {w0 w : World} {n i : Nat} (hn : n ≤ 3000) (hi : i ≤ n) (hs : i = n ∨ (playM p (newM f) i).ended = true) {g : Nat} {P : Option Addr} {pc : Nat} {A : Option Addr} {c : Nat} {T : Value} {qs : List (Frm × Sls)} {Z : Nat → Prop} (hw : Below w0.heap.size w0 w) (h : RefAt w w0.heap.size g P pc p (playM p (newM f) i) A c T qs Z) :
    V9p.b1 w0.heap.size (IsQ w0 (ShowR (playM p (newM f) n).trace (playM p (newM f) n).ended w0)) ⟨g, 0, none⟩ w := by
  unfold V9p.b1
  simp only [own_add]
  have e : (playM p (newM f) n).trace = (playM p (newM f) i).trace ∧ (playM p (newM f) n).ended = (playM p (newM f) i).ended := by
    rcases hs with rfl | hs
    · exact ⟨rfl, rfl⟩
    · obtain ⟨d, rfl⟩ := Nat.le.dest hi
      rw [playM_add]
      obtain ⟨a, b, _⟩ := play_over (p := p) hs d
      exact ⟨a, b.trans hs.symm⟩
  rw [e.1, e.2]
  have htr := h.trace
  obtain ⟨TA, cap, hT⟩ := owns_slice0 htr
  subst hT
  refine ⟨TA, _, cap, h.cell (i := 7) rfl, _, h.cell (i := 3) rfl, ret_q hw fun w1 e1 => ⟨TA, cap, rfl, e1.owns htr⟩⟩
section
variable {p : List Fnc} {f : Int} {fn : Fnc} (hr : Rt p) (hf : fnAt p f = some fn) (h0 : fn.params = 0)
include hr hf h0
theorem l0_9 {w0 : World} {n : Nat} {most : Int} (hn : n ≤ 3000) (hm : most = (n : Int) ∨ most ≤ 0 ∧ n = 0) {g : Nat} {P : Option Addr} {pc : Nat} : ∀ (k i : Nat) (w : World) (A : Option Addr) (c : Nat) (T : Value) (qs : List (Frm × Sls)) (Z : Nat → Prop), n < i + k → i ≤ n → Below w0.heap.size w0 w → RefAt w w0.heap.size g P pc p (playM p (newM f) i) A c T qs Z →
    V9p.l0 w0.heap.size (IsQ w0 (ShowR (playM p (newM f) n).trace (playM p (newM f) n).ended w0)) k most ⟨g, 0, none⟩ (i : Int) w
  | 0, i, w, A, c, T, qs, Z, hk, hi, _, _ => by omega
  | k + 1, i, w, A, c, T, qs, Z, hk, hi, hw, h => by
    dsimp -zeta only [V9p.l0]
    obtain ⟨ho, hl⟩ := shown_ok hr hf h0 i (by omega)
    by_cases hin : i < n
    · rw [if_pos (by simp; omega), if_pos (by simp; omega)]
      simp only [own_add, bx_add, Nat.add_zero]
      refine ⟨_, h.cell (i := 3) rfl, ?_⟩
      by_cases hov : (playM p (newM f) i).ended = true
      · rw [if_neg (by rw [hov]; simp)]
        exact b1_9 hn hi (.inr hov) hw h
      · rw [if_pos (by simpa using hov)]
        refine ⟨⟨_, h.cell (i := 4) rfl⟩, h.fz 4, ?_⟩
        have h1 := h.setHead (i := 4) (v := .bool false) (m' := wakeM (playM p (newM f) i)) rfl rfl rfl
        have hw1 : Below w0.heap.size w0 (w.setCell ⟨g, 4, none⟩ (.bool false)) := hw.setCell (by exact h.base) _
        refine call_ref (bs := []) hw1.size h1 (fun w2 _ h2 => turns22 hr h2 (wake_ok ho) (wake_lim hl) (by omega)) fun w' A' c' T' qs' Z' h' he hT hZ => ⟨_, rfl, ?_⟩
        have hw2 := he.after (fun j hj => (h1.ty hj).1) hw1
        rw [wrap_id (n := (i : Int) + 1) (by omega) (by omega)]
        exact l0_9 hn hm k (i + 1) w' A' c' T' qs' Z' (by omega) (by omega) hw2 h'
    · have : i = n := by omega
      subst this
      rw [if_neg (by simp; omega)]
      exact b1_9 hn (Nat.le_refl _) (.inl rfl) hw h
theorem yields9 {w : World} {P : Option Addr} {cap n : Nat} {most : Int} (hp : ProgAt w P p.length p) (hn : Acts most n) : Yields Tryz.prog 9 [.agg ⟨[.slice P p.length cap]⟩, .int .i64 f, .int .i64 most] w (ShowR (playM p (newM f) n).trace (playM p (newM f) n).ended w) := by
  obtain ⟨hn3, hm⟩ := hn
  refine yields_of (V9p.sound ?_)
  intro d _
  refine call_newR (w0 := w) (Nat.le_refl _) hp hf h0 fun g w1 hg h1 e1 => ⟨_, rfl, ?_⟩
  simp only [caseP]
  exact ⟨n + 1, l0_9 (n := n) hr hf h0 hn3 hm (n + 1) 0 w1 none 0 N0 [] _ (by omega) (by omega) (e1.after (Below.refl _ _)) h1⟩
theorem call_showR {w0 w : World} {bs : List Nat} {P : Option Addr} {cap n : Nat} {most : Int} {K : Value → World → Prop} (hB : w0.heap.size ≤ w.heap.size) (hp : ProgAt w P p.length p) (hn : Acts most n)
    (hk : ∀ A c w', Ext w0.heap.size w w' → OwnMs w' w.heap.size (.slice A (playM p (newM f) n).trace.length c) (playM p (newM f) n).trace → K (.tuple ⟨[.slice A (playM p (newM f) n).trace.length c, .bool (playM p (newM f) n).ended]⟩) w') :
    CallK Tryz.prog 9 [.agg ⟨[.slice P p.length cap]⟩, .int .i64 f, .int .i64 most] w0.heap.size w bs K := by
  refine call_yieldsX (Q := fun w1 => ShowR (playM p (newM f) n).trace (playM p (newM f) n).ended w1) hB (fun w1 e1 => yields9 hr hf h0 (RowAt.keep FncE.kept hp (ext_keeps e1)) hn) fun w1 v w2 w' hs hQ hnew he => ?_
  obtain ⟨A, c, rfl, ho⟩ := hQ
  exact hk A c w' he (owns_down (owns_other ho fun j hj => hnew j (ho.lt j hj).1) hs)
end
end Go.Proofs.YtidcpndlloppdaaGreatDoor

/-
  Layer 29: cutTrace; TraceMore's function returns true.
  Conditions: the arguments' memory says what their values are.
-/
set_option linter.unusedVariables false
set_option linter.unusedSimpArgs false
set_option maxRecDepth 20000
namespace Go.Proofs.YtidcpndlloppdaaGreatDoor
open Go.RowKit
end Go.Proofs.YtidcpndlloppdaaGreatDoor

/-
  Layer 29: where there is no machine; Agrees of the document; TracePlays's, TraceAgrees's functions return true.
  Conditions: the arguments' memory says what their values are.
-/
set_option linter.unusedVariables false
set_option linter.unusedSimpArgs false
set_option maxRecDepth 20000
namespace Go.Proofs.YtidcpndlloppdaaGreatDoor
open Go.RowKit
def NoM (p : List Fnc) (f : Int) : Prop := f < 0 ∨ (p.length : Int) ≤ f ∨ ∃ fn, p[f.toNat]? = some fn ∧ fn.params ≠ 0
theorem mach_or (p : List Fnc) (f : Int) : (∃ fn, fnAt p f = some fn ∧ fn.params = 0) ∨ NoM p f := by
  by_cases h0 : f < 0
  · exact .inr (.inl h0)
  by_cases h1 : (p.length : Int) ≤ f
  · exact .inr (.inr (.inl h1))
  obtain ⟨fn, hf⟩ := fnAt_in (p := p) (f := f) (by omega) (by omega)
  by_cases h2 : fn.params = 0
  · exact .inl ⟨fn, hf, h2⟩
  · exact .inr (.inr (.inr ⟨fn, (fnAt_mem hf).2.2.1, h2⟩))
section
variable {w : World} {P : Option Addr} {cap : Nat} {p : List Fnc} (hp : ProgAt w P p.length p) {f : Int} (hf : NoM p f)
include hp hf
theorem gives21n : Gives Tryz.prog 21 [.agg ⟨[.slice P p.length cap]⟩, .int .i64 f] w (.pointer none) := by
  refine gives_of (V21.sound ?_)
  intro q1 _
  by_cases h0 : f < 0
  · rw [if_neg (by simp; omega)]
    exact ret_is (Below.refl _ _) rfl
  rw [if_pos (by simp; omega)]
  by_cases hl : (p.length : Int) ≤ f
  · rw [if_neg (by simp; omega)]
    exact ret_is (Below.refl _ _) rfl
  rw [if_pos (by simp; omega)]
  rcases hf with h | h | ⟨fn, hfn, hpar⟩
  · omega
  · omega
  obtain ⟨f', a, C, c, hf', ha, c0, c1, c2, c3, hc⟩ := prog_at hp (i := f.toNat) (by omega)
  rw [hfn] at hf'; cases hf'
  refine ⟨a, ha, by omega, by omega, fn.params, c0, ?_⟩
  rw [if_pos (by simpa using hpar)]
  exact ret_is (Below.refl _ _) rfl
theorem gives9n (most : Int) : Gives Tryz.prog 9 [.agg ⟨[.slice P p.length cap]⟩, .int .i64 f, .int .i64 most] w (.tuple ⟨[.slice none 0 0, .bool false]⟩) := by
  refine gives_of (V9p.sound ?_)
  intro q1 _
  refine call_gives (Below.refl _ _) (fun w1 _ hb => gives21n (hp.keep hb) hf) fun w1 _ h1 => ⟨_, rfl, ?_⟩
  simp only [caseP]
  exact ret_is h1 rfl
variable (hr : Rt p)
include hr
theorem gives35n : Gives Tryz.prog 35 [.agg ⟨[.slice P p.length cap]⟩, .int .i64 f] w (.pointer none) := by
  refine gives_of (V35.sound ?_)
  intro q1 _
  refine call_gives (Below.refl _ _) (fun w1 _ hb => gives60 (hp.keep hb)) fun w1 e1 hw1 => ⟨_, _, _, rfl, ?_⟩
  rw [if_pos (by rw [hr.check]; rfl)]
  by_cases h0 : f < 0
  · rw [if_neg (by simp; omega)]
    exact ret_is hw1 rfl
  rw [if_pos (by simp; omega)]
  by_cases hl : (p.length : Int) ≤ f
  · rw [if_neg (by simp; omega)]
    exact ret_is hw1 rfl
  rw [if_pos (by simp; omega)]
  rcases hf with h | h | ⟨fn, hfn, hpar⟩
  · omega
  · omega
  obtain ⟨f', a, C, c, hf', ha, c0, c1, c2, c3, hc⟩ := prog_at (hp.keep hw1) (i := f.toNat) (by omega)
  rw [hfn] at hf'; cases hf'
  refine ⟨a, ha, by omega, by omega, fn.params, c0, ?_⟩
  rw [if_pos (by simpa using hpar)]
  exact ret_is hw1 rfl
theorem gives20n (most : Int) : Gives Tryz.prog 20 [.agg ⟨[.slice P p.length cap]⟩, .int .i64 f, .int .i64 most] w (.tuple ⟨[.slice none 0 0, .bool false, .bool false]⟩) := by
  refine gives_of (V20p.sound ?_)
  intro q1 _
  refine call_gives (Below.refl _ _) (fun w1 _ hb => gives35n (hp.keep hb) hf hr) fun w1 _ h1 => ⟨_, rfl, ?_⟩
  simp only [caseP]
  exact ret_is h1 rfl
theorem gives8n (most : Int) : Gives Tryz.prog 8 [.agg ⟨[.slice P p.length cap]⟩, .int .i64 f, .int .i64 most] w (.tuple ⟨[.slice none 0 0, .bool false]⟩) := by
  refine gives_of (V8.sound ?_)
  intro q1 _
  exact call_gives (Below.refl _ _) (fun w1 _ hb => gives20n (hp.keep hb) hf hr most) fun w1 _ h1 => ⟨_, _, _, _, _, rfl, ret_is h1 rfl⟩
end
theorem gives6 {w : World} {A : Option Addr} {p : List Fnc} {c : Nat} (hp : ProgAt w A p.length p) : Gives Tryz.prog 6 [.agg ⟨[.slice A p.length c]⟩] w (.bool ((checkM p).1 == 0)) := by
  refine gives_of (V6.sound ?_)
  intro q1 _
  exact call_gives (Below.refl _ _) (fun w1 _ hb => gives17 (hp.keep hb)) fun w1 _ h1 => ⟨_, _, _, rfl, ret_is h1 rfl⟩
theorem eqMs_self (a : List Mk) : eqMs a a = true := (eqMs_iff a a).2 rfl
theorem b0_3 {w0 w : World} (htab : Tabs w0) (hw : Below w0.heap.size w0 w) {P : Option Addr} {p : List Fnc} {cap : Nat} (hp : ProgAt w P p.length p) (hr : Rt p) (f : Int) {most : Int} {n : Nat} (hn : Acts most n) (d : Nat) :
    V3.b0 w0.heap.size (IsV w0 (.bool true)) f most d P p.length cap w := by
  unfold V3.b0
  rcases mach_or p f with ⟨fn, hf, h0⟩ | hno
  · have hlt := (shown_ok hr hf h0 n (by have := hn.1; omega)).2.trace
    have hn1 := hn.1
    refine call_show hr hf h0 hw.size hp hn fun A1 c1 w1 e1 ho1 => ⟨_, _, _, _, rfl, ?_⟩
    have hw1 := e1.after hw
    refine call_showR hr hf h0 hw1.size (RowAt.keep FncE.kept hp (ext_keeps e1)) hn fun A2 c2 w2 e2 ho2 => ⟨_, _, _, _, rfl, ?_⟩
    have hw2 := e2.after hw1
    have m1 := marks_own (e2.owns ho1) (by omega)
    have m2 := marks_own ho2 (by omega)
    refine call_gives hw2 (fun w3 e3 _ => gives10 (RowAt.keep MarkE.kept m1 (ext_keeps e3)) (RowAt.keep MarkE.kept m2 (ext_keeps e3))) fun w3 e3 hw3 => ⟨_, rfl, ?_⟩
    rw [if_pos (eqMs_self _), if_pos (by simp)]
    exact call_gives hw3 (fun w4 _ h4 => gives7 (htab.on h4)) fun w4 _ h4 => ⟨_, rfl, ret_is h4 rfl⟩
  · refine call_gives hw (fun w1 e1 _ => gives8n (RowAt.keep FncE.kept hp (ext_keeps e1)) hno hr most) fun w1 e1 hw1 => ⟨_, _, _, _, rfl, ?_⟩
    refine call_gives hw1 (fun w2 e2 _ => gives9n (RowAt.keep FncE.kept hp (ext_keeps (e1.trans e2))) hno most) fun w2 e2 hw2 => ⟨_, _, _, _, rfl, ?_⟩
    refine call_gives hw2 (fun w3 e3 _ => gives10 (xs := []) (ys := []) ⟨rfl, Nat.zero_le _, fun i x h => by simp at h⟩ ⟨rfl, Nat.zero_le _, fun i x h => by simp at h⟩) fun w3 e3 hw3 => ⟨_, rfl, ?_⟩
    rw [if_pos (eqMs_self _), if_pos (by simp)]
    exact call_gives hw3 (fun w4 _ h4 => gives7 (htab.on h4)) fun w4 _ h4 => ⟨_, rfl, ret_is h4 rfl⟩
theorem acts_of {most : Int} (h : most ≤ 3000) : Acts most most.toNat := ⟨by omega, by omega⟩
theorem gives3 {w : World} (htab : Tabs w) {P : Option Addr} {p : List Fnc} {cap : Nat} (hp : ProgAt w P p.length p) (f most : Int) (hm : most ≤ 9223372036854775807) : Gives Tryz.prog 3 [.agg ⟨[.slice P p.length cap]⟩, .int .i64 f, .int .i64 most] w (.bool true) := by
  refine gives_of (V3.sound ?_)
  intro q1 _
  refine call_gives (Below.refl _ _) (fun w1 _ hb => gives6 (hp.keep hb)) fun w1 e1 hw1 => ⟨_, rfl, ?_⟩
  by_cases hr : (checkM p).1 = 0
  · rw [if_neg (by simp [hr])]
    have hrt := rt_of hr
    by_cases h : most > 1500
    · rw [if_pos (by simpa using h)]
      have e : Int.tmod most 1500 = most % 1500 := Int.tmod_eq_emod_of_nonneg (by omega)
      rw [e]
      exact ⟨by decide, b0_3 htab hw1 (hp.keep hw1) hrt f (acts_of (by omega)) q1⟩
    · rw [if_neg (by simpa using h)]
      exact b0_3 htab hw1 (hp.keep hw1) hrt f (acts_of (by omega)) q1
  · rw [if_pos (by simpa using hr)]
    exact call_gives hw1 (fun w4 _ h4 => gives7 (htab.on h4)) fun w4 _ h4 => ⟨_, rfl, ret_is h4 rfl⟩
end Go.Proofs.YtidcpndlloppdaaGreatDoor

/-
  The head of the word that tells the program's make is laid open; what a row's frame asks of it.
  Conditions: none.
-/
set_option maxRecDepth 100000
namespace Go.Proofs.YtidcpndlloppdaaGreatDoor
noncomputable def initL : List Char := [Char.ofNat 104, Char.ofNat 97, Char.ofNat 114, Char.ofNat 110, Char.ofNat 101, Char.ofNat 115, Char.ofNat 115, Char.ofNat 32, Char.ofNat 53, Char.ofNat 100, Char.ofNat 52, Char.ofNat 51, Char.ofNat 50, Char.ofNat 57, Char.ofNat 101, Char.ofNat 55, Char.ofNat 97, Char.ofNat 102, Char.ofNat 53, Char.ofNat 48, Char.ofNat 100, Char.ofNat 101, Char.ofNat 102, Char.ofNat 49, Char.ofNat 102, Char.ofNat 56, Char.ofNat 56, Char.ofNat 53, Char.ofNat 54, Char.ofNat 101, Char.ofNat 102, Char.ofNat 97, Char.ofNat 48, Char.ofNat 53, Char.ofNat 49, Char.ofNat 51, Char.ofNat 55, Char.ofNat 50, Char.ofNat 50, Char.ofNat 50, Char.ofNat 98, Char.ofNat 56, Char.ofNat 102, Char.ofNat 49, Char.ofNat 52, Char.ofNat 50, Char.ofNat 100, Char.ofNat 52, Char.ofNat 98, Char.ofNat 101, Char.ofNat 50, Char.ofNat 57, Char.ofNat 52, Char.ofNat 53, Char.ofNat 51, Char.ofNat 101, Char.ofNat 98, Char.ofNat 101, Char.ofNat 99, Char.ofNat 48, Char.ofNat 52, Char.ofNat 57, Char.ofNat 56, Char.ofNat 48, Char.ofNat 52, Char.ofNat 54, Char.ofNat 100, Char.ofNat 56, Char.ofNat 51, Char.ofNat 101, Char.ofNat 53, Char.ofNat 100, Char.ofNat 32, Char.ofNat 99, Char.ofNat 117, Char.ofNat 116, Char.ofNat 32, Char.ofNat 97, Char.ofNat 116, Char.ofNat 32, Char.ofNat 114, Char.ofNat 105, Char.ofNat 99, Char.ofNat 107, Char.ofNat 121, Char.ofNat 97, Char.ofNat 114, Char.ofNat 100, Char.ofNat 47, Char.ofNat 114, Char.ofNat 105, Char.ofNat 99, Char.ofNat 107, Char.ofNat 121, Char.ofNat 97, Char.ofNat 114, Char.ofNat 100, Char.ofNat 108, Char.ofNat 97, Char.ofNat 119, Char.ofNat 50, Char.ofNat 57, Char.ofNat 46, Char.ofNat 84, Char.ofNat 114, Char.ofNat 97, Char.ofNat 99, Char.ofNat 101, Char.ofNat 80, Char.ofNat 108, Char.ofNat 97, Char.ofNat 121, Char.ofNat 115, Char.ofNat 32, Char.ofNat 114, Char.ofNat 105, Char.ofNat 99, Char.ofNat 107, Char.ofNat 121, Char.ofNat 97, Char.ofNat 114, Char.ofNat 100, Char.ofNat 47, Char.ofNat 114, Char.ofNat 105, Char.ofNat 99, Char.ofNat 107, Char.ofNat 121, Char.ofNat 97, Char.ofNat 114, Char.ofNat 100, Char.ofNat 108, Char.ofNat 97, Char.ofNat 119, Char.ofNat 50, Char.ofNat 57, Char.ofNat 46, Char.ofNat 84, Char.ofNat 114, Char.ofNat 97, Char.ofNat 99, Char.ofNat 101, Char.ofNat 65, Char.ofNat 103, Char.ofNat 114, Char.ofNat 101, Char.ofNat 101, Char.ofNat 115, Char.ofNat 32, Char.ofNat 114, Char.ofNat 105, Char.ofNat 99, Char.ofNat 107, Char.ofNat 121, Char.ofNat 97, Char.ofNat 114, Char.ofNat 100, Char.ofNat 47, Char.ofNat 114, Char.ofNat 105, Char.ofNat 99, Char.ofNat 107, Char.ofNat 121, Char.ofNat 97, Char.ofNat 114, Char.ofNat 100, Char.ofNat 108, Char.ofNat 97, Char.ofNat 119, Char.ofNat 50, Char.ofNat 57, Char.ofNat 46, Char.ofNat 84, Char.ofNat 114, Char.ofNat 97, Char.ofNat 99, Char.ofNat 101, Char.ofNat 77, Char.ofNat 111, Char.ofNat 114, Char.ofNat 101]
noncomputable def initR : List Char := [Char.ofNat 97, Char.ofNat 116, Char.ofNat 32, Char.ofNat 114, Char.ofNat 105, Char.ofNat 99, Char.ofNat 107, Char.ofNat 121, Char.ofNat 97, Char.ofNat 114, Char.ofNat 100, Char.ofNat 47, Char.ofNat 114, Char.ofNat 105, Char.ofNat 99, Char.ofNat 107, Char.ofNat 121, Char.ofNat 97, Char.ofNat 114, Char.ofNat 100, Char.ofNat 108, Char.ofNat 97, Char.ofNat 119, Char.ofNat 50, Char.ofNat 57, Char.ofNat 46, Char.ofNat 84, Char.ofNat 114, Char.ofNat 97, Char.ofNat 99, Char.ofNat 101, Char.ofNat 80, Char.ofNat 108, Char.ofNat 97, Char.ofNat 121, Char.ofNat 115, Char.ofNat 32, Char.ofNat 114, Char.ofNat 105, Char.ofNat 99, Char.ofNat 107, Char.ofNat 121, Char.ofNat 97, Char.ofNat 114, Char.ofNat 100, Char.ofNat 47, Char.ofNat 114, Char.ofNat 105, Char.ofNat 99, Char.ofNat 107, Char.ofNat 121, Char.ofNat 97, Char.ofNat 114, Char.ofNat 100, Char.ofNat 108, Char.ofNat 97, Char.ofNat 119, Char.ofNat 50, Char.ofNat 57, Char.ofNat 46, Char.ofNat 84, Char.ofNat 114, Char.ofNat 97, Char.ofNat 99, Char.ofNat 101, Char.ofNat 65, Char.ofNat 103, Char.ofNat 114, Char.ofNat 101, Char.ofNat 101, Char.ofNat 115, Char.ofNat 32, Char.ofNat 114, Char.ofNat 105, Char.ofNat 99, Char.ofNat 107, Char.ofNat 121, Char.ofNat 97, Char.ofNat 114, Char.ofNat 100, Char.ofNat 47, Char.ofNat 114, Char.ofNat 105, Char.ofNat 99, Char.ofNat 107, Char.ofNat 121, Char.ofNat 97, Char.ofNat 114, Char.ofNat 100, Char.ofNat 108, Char.ofNat 97, Char.ofNat 119, Char.ofNat 50, Char.ofNat 57, Char.ofNat 46, Char.ofNat 84, Char.ofNat 114, Char.ofNat 97, Char.ofNat 99, Char.ofNat 101, Char.ofNat 77, Char.ofNat 111, Char.ofNat 114, Char.ofNat 101]
theorem initS : Tryz.prog.initOrder = String.ofList initL := by kernel_rfl
theorem init_eq : Tryz.prog.initOrder.toList = initL := by rw [initS, String.toList_ofList]
theorem words_cons : ∀ (a : List Char) (r : List Char), a.all (fun c => !decide (c = Char.ofNat 32)) = true → wordsSigns (a ++ Char.ofNat 32 :: r) = a :: wordsSigns r
  | [], r, _ => rfl
  | c :: a, r, h => by
    simp only [List.all_cons, Bool.and_eq_true, Bool.not_eq_true', decide_eq_false_iff_not] at h
    have ih := words_cons a r h.2
    rw [List.cons_append, wordsSigns.eq_3 _ _ (fun e => h.1 e), ih]
theorem init_words : wordsSigns Tryz.prog.initOrder.toList = [Char.ofNat 104, Char.ofNat 97, Char.ofNat 114, Char.ofNat 110, Char.ofNat 101, Char.ofNat 115, Char.ofNat 115] :: [Char.ofNat 53, Char.ofNat 100, Char.ofNat 52, Char.ofNat 51, Char.ofNat 50, Char.ofNat 57, Char.ofNat 101, Char.ofNat 55, Char.ofNat 97, Char.ofNat 102, Char.ofNat 53, Char.ofNat 48, Char.ofNat 100, Char.ofNat 101, Char.ofNat 102, Char.ofNat 49, Char.ofNat 102, Char.ofNat 56, Char.ofNat 56, Char.ofNat 53, Char.ofNat 54, Char.ofNat 101, Char.ofNat 102, Char.ofNat 97, Char.ofNat 48, Char.ofNat 53, Char.ofNat 49, Char.ofNat 51, Char.ofNat 55, Char.ofNat 50, Char.ofNat 50, Char.ofNat 50, Char.ofNat 98, Char.ofNat 56, Char.ofNat 102, Char.ofNat 49, Char.ofNat 52, Char.ofNat 50, Char.ofNat 100, Char.ofNat 52, Char.ofNat 98, Char.ofNat 101, Char.ofNat 50, Char.ofNat 57, Char.ofNat 52, Char.ofNat 53, Char.ofNat 51, Char.ofNat 101, Char.ofNat 98, Char.ofNat 101, Char.ofNat 99, Char.ofNat 48, Char.ofNat 52, Char.ofNat 57, Char.ofNat 56, Char.ofNat 48, Char.ofNat 52, Char.ofNat 54, Char.ofNat 100, Char.ofNat 56, Char.ofNat 51, Char.ofNat 101, Char.ofNat 53, Char.ofNat 100] :: [Char.ofNat 99, Char.ofNat 117, Char.ofNat 116] :: wordsSigns initR := by
  rw [init_eq, show initL = [Char.ofNat 104, Char.ofNat 97, Char.ofNat 114, Char.ofNat 110, Char.ofNat 101, Char.ofNat 115, Char.ofNat 115] ++ Char.ofNat 32 :: ([Char.ofNat 53, Char.ofNat 100, Char.ofNat 52, Char.ofNat 51, Char.ofNat 50, Char.ofNat 57, Char.ofNat 101, Char.ofNat 55, Char.ofNat 97, Char.ofNat 102, Char.ofNat 53, Char.ofNat 48, Char.ofNat 100, Char.ofNat 101, Char.ofNat 102, Char.ofNat 49, Char.ofNat 102, Char.ofNat 56, Char.ofNat 56, Char.ofNat 53, Char.ofNat 54, Char.ofNat 101, Char.ofNat 102, Char.ofNat 97, Char.ofNat 48, Char.ofNat 53, Char.ofNat 49, Char.ofNat 51, Char.ofNat 55, Char.ofNat 50, Char.ofNat 50, Char.ofNat 50, Char.ofNat 98, Char.ofNat 56, Char.ofNat 102, Char.ofNat 49, Char.ofNat 52, Char.ofNat 50, Char.ofNat 100, Char.ofNat 52, Char.ofNat 98, Char.ofNat 101, Char.ofNat 50, Char.ofNat 57, Char.ofNat 52, Char.ofNat 53, Char.ofNat 51, Char.ofNat 101, Char.ofNat 98, Char.ofNat 101, Char.ofNat 99, Char.ofNat 48, Char.ofNat 52, Char.ofNat 57, Char.ofNat 56, Char.ofNat 48, Char.ofNat 52, Char.ofNat 54, Char.ofNat 100, Char.ofNat 56, Char.ofNat 51, Char.ofNat 101, Char.ofNat 53, Char.ofNat 100] ++ Char.ofNat 32 :: ([Char.ofNat 99, Char.ofNat 117, Char.ofNat 116] ++ Char.ofNat 32 :: initR)) from by kernel_rfl,
    words_cons _ _ (by kernel_rfl), words_cons _ _ (by kernel_rfl), words_cons _ _ (by kernel_rfl)]
theorem bh (X : List (List Char)) : behindMainWord ([Char.ofNat 104, Char.ofNat 97, Char.ofNat 114, Char.ofNat 110, Char.ofNat 101, Char.ofNat 115, Char.ofNat 115] :: [Char.ofNat 53, Char.ofNat 100, Char.ofNat 52, Char.ofNat 51, Char.ofNat 50, Char.ofNat 57, Char.ofNat 101, Char.ofNat 55, Char.ofNat 97, Char.ofNat 102, Char.ofNat 53, Char.ofNat 48, Char.ofNat 100, Char.ofNat 101, Char.ofNat 102, Char.ofNat 49, Char.ofNat 102, Char.ofNat 56, Char.ofNat 56, Char.ofNat 53, Char.ofNat 54, Char.ofNat 101, Char.ofNat 102, Char.ofNat 97, Char.ofNat 48, Char.ofNat 53, Char.ofNat 49, Char.ofNat 51, Char.ofNat 55, Char.ofNat 50, Char.ofNat 50, Char.ofNat 50, Char.ofNat 98, Char.ofNat 56, Char.ofNat 102, Char.ofNat 49, Char.ofNat 52, Char.ofNat 50, Char.ofNat 100, Char.ofNat 52, Char.ofNat 98, Char.ofNat 101, Char.ofNat 50, Char.ofNat 57, Char.ofNat 52, Char.ofNat 53, Char.ofNat 51, Char.ofNat 101, Char.ofNat 98, Char.ofNat 101, Char.ofNat 99, Char.ofNat 48, Char.ofNat 52, Char.ofNat 57, Char.ofNat 56, Char.ofNat 48, Char.ofNat 52, Char.ofNat 54, Char.ofNat 100, Char.ofNat 56, Char.ofNat 51, Char.ofNat 101, Char.ofNat 53, Char.ofNat 100] :: [Char.ofNat 99, Char.ofNat 117, Char.ofNat 116] :: X) = [Char.ofNat 99, Char.ofNat 117, Char.ofNat 116] :: X := by kernel_rfl
theorem init_bh : behindMainWord (wordsSigns Tryz.prog.initOrder.toList) = [Char.ofNat 99, Char.ofNat 117, Char.ofNat 116] :: wordsSigns initR := by rw [init_words, bh]
theorem strip_cut (X : List (List Char)) : stripLifts liftWords ([Char.ofNat 99, Char.ofNat 117, Char.ofNat 116] :: X) = ([], [Char.ofNat 99, Char.ofNat 117, Char.ofNat 116] :: X) := by kernel_rfl
theorem make_of {P : Program} {X : List (List Char)} (h : behindMainWord (wordsSigns P.initOrder.toList) = [Char.ofNat 99, Char.ofNat 117, Char.ofNat 116] :: X) : P.make = some .cut := by
  unfold Program.make; rw [h]; kernel_rfl
theorem lifts_of {P : Program} {X : List (List Char)} (h : behindMainWord (wordsSigns P.initOrder.toList) = [Char.ofNat 99, Char.ofNat 117, Char.ofNat 116] :: X) : P.liftsFinal = false := by
  unfold Program.liftsFinal Program.headLifts; rw [h]; simp only [strip_cut]; kernel_rfl
theorem enter_of {P : Program} {X : List (List Char)} (h : behindMainWord (wordsSigns P.initOrder.toList) = [Char.ofNat 99, Char.ofNat 117, Char.ofNat 116] :: X) (h1 : P.laysLater = false) (h2 : P.bearsReflect = false) (h3 : P.doorFits [] = true) : P.mayEnter = true := by
  unfold Program.mayEnter; rw [h]; simp only [strip_cut, h1, h2, h3]; kernel_rfl
theorem mayEnter_ok : Tryz.prog.mayEnter = true := enter_of init_bh (by kernel_rfl) (by kernel_rfl) (by kernel_rfl)
theorem liftsFinal_ok : Tryz.prog.liftsFinal = false := lifts_of init_bh
theorem make_ok : Tryz.prog.make = some .cut := make_of init_bh
end Go.Proofs.YtidcpndlloppdaaGreatDoor
