import Derived.Test.YtidcpndlloppdaaGreatDoorZT21
import Derived.Test.YtidcpndlloppdaaGreatDoorZN29
import Derived.Test.YtidcpndlloppdaaGreatDoorZMD
/-
  Layer 29: play, Play, Agrees.
  Conditions: the program is right.
-/
set_option linter.unusedVariables false
set_option linter.unusedSimpArgs false
set_option maxRecDepth 20000
namespace Go.Proofs.YtidcpndlloppdaaGreatDoor
open Go.RowKit
def PlayR (tr : List Mk) (over : Bool) (w : World) : Value → World → Prop := fun v w' => ∃ A c, v = .tuple ⟨[.slice A tr.length c, .bool over, .bool true]⟩ ∧ OwnMs w' w.heap.size (.slice A tr.length c) tr
theorem b1_12 {w0 w : World} {A A' : Option Addr} {l c l' c' : Nat} {t tr : List Mk} (hw : Below w0.heap.size w0 w) (ht : Marks w A l t) (hc : l ≤ c) (htr : Marks w A' l' tr) (hc' : l' ≤ c') (hpos : 0 < l) (hlen : l ≤ 100000) (m : Bool) :
    V12.b1 w0.heap.size (IsV w0 (.bool (if m = true then begM t.dropLast tr else begM t tr))) A l c A' l' c' (l : Int) m w := by
  unfold V12.b1
  obtain rfl := ht.len
  cases m with
  | true =>
    rw [if_pos rfl, wrap_id (n := ((t.length : Nat) : Int) - 1) (by omega) (by omega)]
    refine ⟨by omega, by omega, ?_⟩
    have e : (((t.length : Nat) : Int) - 1).toNat - 0 = t.length - 1 := by omega
    rw [sub_same, e, Nat.sub_zero]
    have hd : t.dropLast = t.take (t.length - 1) := List.dropLast_eq_take
    refine call_gives hw (fun w1 e1 _ => gives15 (Marks.take (RowAt.keep MarkE.kept ht (ext_keeps e1)) (k := t.length - 1) (by omega)) (RowAt.keep MarkE.kept htr (ext_keeps e1)) hc') fun w1 _ h1 => ⟨_, rfl, ret_is h1 ?_⟩
    rw [if_pos rfl, hd]
  | false =>
    rw [if_neg (by simp)]
    refine call_gives hw (fun w1 e1 _ => gives15 (RowAt.keep MarkE.kept ht (ext_keeps e1)) (RowAt.keep MarkE.kept htr (ext_keeps e1)) hc') fun w1 _ h1 => ⟨_, rfl, ret_is h1 ?_⟩
    rw [if_neg (by simp)]
section
variable {p : List Fnc} {f : Int} {fn : Fnc} (hr : Rt p) (hf : fnAt p f = some fn) (h0 : fn.params = 0)
include hr hf h0
theorem shown_ok (n : Nat) (hn : n ≤ 100000) : MOk p (playM p (newM f) n) ∧ Lim (playM p (newM f) n) n := by
  have := play_ok hr (newM_ok hf h0) (newM_lim f) n (by omega)
  rwa [Nat.zero_add] at this
theorem b2_20 {w0 w : World} {n i : Nat} (hn : n ≤ 3000) (hi : i ≤ n) (hs : i = n ∨ (playM p (newM f) i).ended = true) {g : Nat} {C : Option Addr} {c : Nat} {F T : Value} {ss : List Sl} (hw : Below w0.heap.size w0 w) (h : MachAt w w0.heap.size g C c p (wakeM (playM p (newM f) i)) F T ss) :
    V20.b2 w0.heap.size (IsQ w0 (PlayR (playM p (newM f) n).trace (playM p (newM f) n).ended w0)) ⟨g, 0, none⟩ w := by
  unfold V20.b2
  have e : (playM p (newM f) n).trace = (playM p (newM f) i).trace ∧ (playM p (newM f) n).ended = (playM p (newM f) i).ended := by
    rcases hs with rfl | hs
    · exact ⟨rfl, rfl⟩
    · obtain ⟨d, rfl⟩ := Nat.le.dest hi
      rw [playM_add]
      obtain ⟨a, b, _⟩ := play_over (p := p) hs d
      exact ⟨a, b.trans hs.symm⟩
  rw [e.1, e.2]
  have hl := (shown_ok hr hf h0 i (by omega)).2.trace
  refine call_yieldsX (Q := fun w1 v w2 => OwnMs w2 w1.heap.size v (playM p (newM f) i).trace) hw.size (fun w1 e1 => yields39 (m := wakeM (playM p (newM f) i)) (h.ext e1) (by show (playM p (newM f) i).trace.length ≤ _; omega)) fun w1 v w2 w' hs hQ hnew he => ?_
  have ho : OwnMs w' w.heap.size v (playM p (newM f) i).trace := owns_down (owns_other hQ fun j hj => hnew j (hQ.lt j hj).1) hs
  obtain ⟨A', c', hv⟩ := owns_slice0 ho
  subst hv
  refine ⟨A', _, c', rfl, ?_⟩
  have hw' := he.after hw
  refine call_gives hw' (fun w3 e3 _ => gives36 ((h.ext he).ext e3)) fun w3 e3 hw3 => ⟨_, rfl, ?_⟩
  exact ret_q hw3 fun w4 e4 => ⟨A', c', rfl, owns_down ((e3.trans e4).owns ho) hw.size⟩
theorem l1_20 {w0 : World} {n : Nat} (hn : n ≤ 3000) : ∀ (k i : Nat) (w : World) (g : Nat) (C : Option Addr) (c : Nat) (F T : Value) (ss : List Sl), n < i + k → i ≤ n → Below w0.heap.size w0 w → MachAt w w0.heap.size g C c p (wakeM (playM p (newM f) i)) F T ss →
    V20.l1 w0.heap.size (IsQ w0 (PlayR (playM p (newM f) n).trace (playM p (newM f) n).ended w0)) k ⟨g, 0, none⟩ ((n : Int) - (i : Int)) w
  | 0, i, w, g, C, c, F, T, ss, hk, hi, _, _ => by omega
  | k + 1, i, w, g, C, c, F, T, ss, hk, hi, hw, h => by
    dsimp -zeta only [V20.l1]
    obtain ⟨ho, hl⟩ := shown_ok hr hf h0 i (by omega)
    by_cases hin : i < n
    · rw [if_pos (by simp; omega)]
      refine call_gives hw (fun w1 e1 _ => gives36 (h.ext e1)) fun w1 e1 hw1 => ⟨_, rfl, ?_⟩
      have h1 := h.ext e1
      by_cases hov : (playM p (newM f) i).ended = true
      · rw [if_neg (by show ¬ (!(playM p (newM f) i).ended) = true; rw [hov]; simp)]
        exact b2_20 hr hf h0 hn hi (.inr hov) hw1 h1
      · rw [if_pos (by show (!(playM p (newM f) i).ended) = true; simpa using hov)]
        refine call_step hw1.size hr h1 (wake_ok ho) (wake_lim hl) (by omega) fun w2 F2 T2 ss2 h2 e2 hf2 => ⟨_, rfl, ?_⟩
        have hw2 := e2.after (fun j hj => (h1.ty hj).1) hw1
        refine call_wake hw2.size h2 fun w3 F3 T3 ss3 h3 e3 hf3 => ⟨rfl, ?_⟩
        have hw3 := e3.after (fun j hj => (h2.ty hj).1) hw2
        rw [wrap_id (n := (n : Int) - (i : Int) - 1) (by omega) (by omega), show (n : Int) - (i : Int) - 1 = (n : Int) - ((i + 1 : Nat) : Int) by omega]
        exact l1_20 hn k (i + 1) w3 g C c F3 T3 ss3 (by omega) (by omega) hw3 h3
    · have : i = n := by omega
      subst this
      rw [if_neg (by simp)]
      exact b2_20 hr hf h0 hn (Nat.le_refl _) (.inl rfl) hw h
def Acts (most : Int) (n : Nat) : Prop := n ≤ 3000 ∧ (most = (n : Int) ∨ most ≤ 0 ∧ n = 0)
theorem yields20 {w : World} {P : Option Addr} {cap n : Nat} {most : Int} (hp : ProgAt w P p.length p) (hn : Acts most n) : Yields Tryz.prog 20 [.agg ⟨[.slice P p.length cap]⟩, .int .i64 f, .int .i64 most] w (PlayR (playM p (newM f) n).trace (playM p (newM f) n).ended w) := by
  obtain ⟨hn3, hm⟩ := hn
  refine yields_of (V20.sound ?_)
  intro d _
  refine call_newO (Nat.le_refl _) hp hr hf h0 fun g C c w1 h1 e1 => ⟨_, rfl, ?_⟩
  simp only [caseP]
  unfold V20.b0
  have hw1 := e1.after (Below.refl _ _)
  rw [if_neg (by omega)]
  rcases hm with rfl | ⟨hm, rfl⟩
  · refine ⟨n + 1, ?_⟩
    have := l1_20 (n := n) hr hf h0 hn3 (n + 1) 0 w1 g C c N0 N0 [] (by omega) (by omega) hw1 h1.mach
    simpa using this
  · refine ⟨1, ?_⟩
    dsimp -zeta only [V20.l1]
    rw [if_neg (by simp; omega)]
    exact b2_20 (n := 0) (i := 0) hr hf h0 (by omega) (Nat.le_refl _) (.inl rfl) hw1 h1.mach
theorem call_play {w0 w : World} {bs : List Nat} {P : Option Addr} {cap n : Nat} {most : Int} {K : Value → World → Prop} (hB : w0.heap.size ≤ w.heap.size) (hp : ProgAt w P p.length p) (hn : Acts most n)
    (hk : ∀ A c w', Ext w0.heap.size w w' → OwnMs w' w.heap.size (.slice A (playM p (newM f) n).trace.length c) (playM p (newM f) n).trace → K (.tuple ⟨[.slice A (playM p (newM f) n).trace.length c, .bool (playM p (newM f) n).ended, .bool true]⟩) w') :
    CallK Tryz.prog 20 [.agg ⟨[.slice P p.length cap]⟩, .int .i64 f, .int .i64 most] w0.heap.size w bs K := by
  refine call_yieldsX (Q := fun w1 => PlayR (playM p (newM f) n).trace (playM p (newM f) n).ended w1) hB (fun w1 e1 => yields20 hr hf h0 (RowAt.keep FncE.kept hp (ext_keeps e1)) hn) fun w1 v w2 w' hs hQ hnew he => ?_
  obtain ⟨A, c, rfl, ho⟩ := hQ
  exact hk A c w' he (owns_down (owns_other ho fun j hj => hnew j (ho.lt j hj).1) hs)
def ShowR (tr : List Mk) (over : Bool) (w : World) : Value → World → Prop := fun v w' => ∃ A c, v = .tuple ⟨[.slice A tr.length c, .bool over]⟩ ∧ OwnMs w' w.heap.size (.slice A tr.length c) tr
theorem yields8 {w : World} {P : Option Addr} {cap n : Nat} {most : Int} (hp : ProgAt w P p.length p) (hn : Acts most n) : Yields Tryz.prog 8 [.agg ⟨[.slice P p.length cap]⟩, .int .i64 f, .int .i64 most] w (ShowR (playM p (newM f) n).trace (playM p (newM f) n).ended w) := by
  refine yields_of (V8.sound ?_)
  intro d _
  refine call_play hr hf h0 (Nat.le_refl _) hp hn fun A c w1 e1 ho => ⟨A, _, c, _, _, rfl, ?_⟩
  exact ret_q (e1.after (Below.refl _ _)) fun w2 e2 => ⟨A, c, rfl, e2.owns ho⟩
theorem call_show {w0 w : World} {bs : List Nat} {P : Option Addr} {cap n : Nat} {most : Int} {K : Value → World → Prop} (hB : w0.heap.size ≤ w.heap.size) (hp : ProgAt w P p.length p) (hn : Acts most n)
    (hk : ∀ A c w', Ext w0.heap.size w w' → OwnMs w' w.heap.size (.slice A (playM p (newM f) n).trace.length c) (playM p (newM f) n).trace → K (.tuple ⟨[.slice A (playM p (newM f) n).trace.length c, .bool (playM p (newM f) n).ended]⟩) w') :
    CallK Tryz.prog 8 [.agg ⟨[.slice P p.length cap]⟩, .int .i64 f, .int .i64 most] w0.heap.size w bs K := by
  refine call_yieldsX (Q := fun w1 => ShowR (playM p (newM f) n).trace (playM p (newM f) n).ended w1) hB (fun w1 e1 => yields8 hr hf h0 (RowAt.keep FncE.kept hp (ext_keeps e1)) hn) fun w1 v w2 w' hs hQ hnew he => ?_
  obtain ⟨A, c, rfl, ho⟩ := hQ
  exact hk A c w' he (owns_down (owns_other ho fun j hj => hnew j (ho.lt j hj).1) hs)
theorem gives12 {w : World} {P : Option Addr} {cap n : Nat} {most : Int} (hp : ProgAt w P p.length p) (hn : Acts most n) {A : Option Addr} {l c : Nat} {t : List Mk} (ht : Marks w A l t) (hc : l ≤ c) (hlen : l ≤ 100000) :
    Gives Tryz.prog 12 [.agg ⟨[.slice P p.length cap]⟩, .int .i64 f, .int .i64 most, .slice A l c] w (.bool (agrM (playM p (newM f) n).trace (playM p (newM f) n).ended t)) := by
  refine gives_of (V12.sound ?_)
  intro d _
  refine call_play hr hf h0 (Nat.le_refl _) hp hn fun A1 c1 w1 e1 ho => ⟨A1, _, c1, _, _, rfl, ?_⟩
  have hw1 := e1.after (Below.refl _ _)
  rw [if_pos (by rfl)]
  obtain rfl := ht.len
  have ht1 := RowAt.keep MarkE.kept ht (ext_keeps e1)
  have hlt := (shown_ok hr hf h0 n (by have := hn.1; omega)).2.trace
  have hn1 := hn.1
  have htr := marks_own ho (by omega)
  have hcap := (marks_of ho (by omega)).2.2
  by_cases hz : t.length = 0
  · have hnil : t = [] := List.eq_nil_of_length_eq_zero hz
    subst hnil
    rw [if_pos (by simp)]
    exact ret_is hw1 rfl
  · rw [if_neg (by simp; intro h; rw [h] at hz; simp at hz), wrap_id (n := ((t.length : Nat) : Int) - 1) (by omega) (by omega)]
    obtain ⟨d, q, hd, hq, d0, d1⟩ := Marks.cells ht1 (i := t.length - 1) (by omega)
    have hlast : t.getLast? = some d := by rw [List.getLast?_eq_getElem?]; exact hd
    have hix : (((t.length : Nat) : Int) - 1).toNat = t.length - 1 := by omega
    rw [hix]
    refine ⟨q, hq, by omega, by omega, d.k, d0, ?_⟩
    unfold agrM
    rw [hlast]
    simp only
    have ends : (d.k = 3 ∨ d.k = 4) → V12.b0 w.heap.size (IsV w (.bool ((playM p (newM f) n).ended && eqMs (playM p (newM f) n).trace t))) A t.length c A1 (playM p (newM f) n).trace.length c1 (playM p (newM f) n).ended ((t.length : Nat) : Int) d.k true w1 := fun _ => by
      unfold V12.b0
      rw [if_pos rfl]
      cases (playM p (newM f) n).ended with
      | true =>
        rw [if_pos rfl]
        exact call_gives hw1 (fun w2 e2 _ => gives24 (RowAt.keep MarkE.kept htr (ext_keeps e2)) (RowAt.keep MarkE.kept ht1 (ext_keeps e2))) fun w2 _ h2 => ⟨_, rfl, ret_is h2 rfl⟩
      | false =>
        rw [if_neg (by simp)]
        exact ret_is hw1 rfl
    by_cases h3 : d.k = 3
    · rw [if_pos (by simpa using h3), if_pos (.inl h3)]
      have := ends (.inl h3)
      rw [show (d.k == 3) = true by simpa using h3]
      exact this
    · rw [if_neg (by simpa using h3)]
      by_cases h4 : d.k = 4
      · rw [if_pos (.inr h4), show (d.k == 4) = true by simpa using h4]
        exact ends (.inr h4)
      · rw [if_neg (by omega), show (d.k == 4) = false by simpa using h4]
        unfold V12.b0
        rw [if_neg (by simp)]
        by_cases h5 : d.k = 5
        · rw [if_pos (by simpa using h5), if_pos (.inl h5)]
          have := b1_12 (w0 := w) hw1 ht1 hc htr hcap (by omega) hlen (d.k == 5)
          rw [show (d.k == 5) = true by simpa using h5] at this ⊢
          rw [if_pos rfl] at this
          exact this
        · rw [if_neg (by simpa using h5)]
          have := b1_12 (w0 := w) hw1 ht1 hc htr hcap (by omega) hlen (d.k == 6)
          by_cases h6 : d.k = 6
          · rw [if_pos (.inr h6)]
            rw [show (d.k == 6) = true by simpa using h6] at this ⊢
            rw [if_pos rfl] at this
            exact this
          · rw [if_neg (by omega)]
            rw [show (d.k == 6) = false by simpa using h6] at this ⊢
            rw [if_neg (by simp)] at this
            exact this
end
end Go.Proofs.YtidcpndlloppdaaGreatDoor
