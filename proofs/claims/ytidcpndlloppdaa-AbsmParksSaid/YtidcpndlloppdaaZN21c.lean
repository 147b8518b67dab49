import Derived.Test.YtidcpndlloppdaaZN21b
import Derived.Test.YtidcpndlloppdaaZM21o
import Derived.Test.YtidcpndlloppdaaZMD
/-
  Layer 21: AbsmParks's function returns true.
  Conditions: the arguments' memory says what their values are.
-/
set_option linter.unusedVariables false
set_option linter.unusedSimpArgs false
set_option maxRecDepth 20000
namespace Go.Proofs.Ytidcpndlloppdaa
open Go.RowKit
theorem smallF_of {p : List Fnc} (hr : Rt p) {x : Frm} (h : FrOk p x) : SmallF x := by
  obtain ⟨g, hx⟩ := h.inn
  have hs := sized_bd (hx.wrap hr).2
  have h8 := hx.ops
  have hl := hx.locals
  have hd4 : x.dfs.length ≤ 4 := by have := hx.room; unfold roomM at this; split at this <;> omega
  refine ⟨by omega, by omega, by omega, fun d hd => ?_⟩
  have := hx.dfs d hd
  unfold dfrM at this
  split at this
  · rename_i fd hfd
    have hb := sized_bd (hr.sized fd (fnAt_mem hfd).1)
    have : (d.args.length : Int) = fd.params := by simpa using this
    omega
  · cases this
theorem wake_same {m : Mach} (h : m.parked = false) : wakeM m = m := by cases m; simp only [wakeM] at *; rw [h]
def DuoAt (w0 w : World) (p : List Fnc) (g g' : Nat) (m m' : Mach) : Prop := ∃ C c F T ss C' c' F' T' ss', Duo w w0.heap.size p g C c m F T ss g' C' c' m' F' T' ss' ∧ Below w0.heap.size w0 w
section
variable {w0 w : World} {p : List Fnc} {g g' : Nat} {m m' : Mach}
theorem DuoAt.swap (h : DuoAt w0 w p g g' m m') : DuoAt w0 w p g' g m' m := by
  obtain ⟨C, c, F, T, ss, C', c', F', T', ss', h, hw⟩ := h
  exact ⟨C', c', F', T', ss', C, c, F, T, ss, h.swap, hw⟩
theorem DuoAt.below (h : DuoAt w0 w p g g' m m') : Below w0.heap.size w0 w := by
  obtain ⟨C, c, F, T, ss, C', c', F', T', ss', h, hw⟩ := h
  exact hw
theorem DuoAt.ext {w' : World} (h : DuoAt w0 w p g g' m m') (he : Ext w0.heap.size w w') : DuoAt w0 w' p g g' m m' := by
  obtain ⟨C, c, F, T, ss, C', c', F', T', ss', h, hw⟩ := h
  exact ⟨C, c, F, T, ss, C', c', F', T', ss', h.ext he, he.after hw⟩
theorem DuoAt.size (h : DuoAt w0 w p g g' m m') : w0.heap.size ≤ w.heap.size := h.below.size
theorem DuoAt.call (h : DuoAt w0 w p g g' m m') {f : Nat} {args : List Value} {bs : List Nat} {v : Value} {n : Mach} {K : Value → World → Prop}
    (hc : ∀ w1 C c F T ss, MachAt w1 w0.heap.size g C c p m F T ss → MachT f args w1 w0.heap.size g C c p F T ss v n) (hk : ∀ w1, DuoAt w0 w1 p g g' n m' → K v w1) : CallK Try.prog f args w0.heap.size w bs K := by
  obtain ⟨C, c, F, T, ss, C', c', F', T', ss', h, hw⟩ := h
  exact h.call hw.size (fun w1 h1 => hc w1 C c F T ss h1) fun w1 F1 T1 ss1 h1 e1 hf => hk w1 ⟨C, c, F1, T1, ss1, C', c', F', T', ss', h1, e1.after (fun j hj => (h.a.ty hj).1) hw⟩
theorem DuoAt.step (h : DuoAt w0 w p g g' m m') (hr : Rt p) (ho : MOk p m) {n : Nat} (hl : Lim m n) (hn : n ≤ 100000000) {bs : List Nat} {K : Value → World → Prop} (hk : ∀ w1, DuoAt w0 w1 p g g' (stepM p m).1 m' → K (.int .i64 (stepM p m).2) w1) : CallK Try.prog 23 [.pointer (some ⟨g, 0, none⟩)] w0.heap.size w bs K :=
  h.call (fun w1 C c F T ss h1 => turns23 hr h1 ho hl hn) hk
theorem DuoAt.wake (h : DuoAt w0 w p g g' m m') {bs : List Nat} {K : Value → World → Prop} (hk : ∀ w1, DuoAt w0 w1 p g g' (wakeM m) m' → K (.tuple ⟨[]⟩) w1) : CallK Try.prog 22 [.pointer (some ⟨g, 0, none⟩)] w0.heap.size w bs K :=
  h.call (fun w1 C c F T ss h1 => turns22 h1) hk
theorem DuoAt.give (h : DuoAt w0 w p g g' m m') {f : Nat} {args : List Value} {bs : List Nat} {v : Value} {K : Value → World → Prop}
    (hc : ∀ w1 C c F T ss, MachAt w1 w0.heap.size g C c p m F T ss → Gives Try.prog f args w1 v) (hk : ∀ w1, DuoAt w0 w1 p g g' m m' → K v w1) : CallK Try.prog f args w0.heap.size w bs K := by
  obtain ⟨C, c, F, T, ss, C', c', F', T', ss', h, hw⟩ := h
  exact call_givesX hw.size (fun w1 e1 => hc w1 C c F T ss (h.a.ext e1)) fun w1 e1 => hk w1 ⟨C, c, F, T, ss, C', c', F', T', ss', h.ext e1, e1.after hw⟩
theorem DuoAt.frames (h : DuoAt w0 w p g g' m m') (hr : Rt p) (ho : MOk p m) (hn : m.frames.length ≤ 100000) {bs : List Nat} {K : Value → World → Prop} (hk : ∀ A c' w1, DuoAt w0 w1 p g g' m m' → K (.slice A m.frames.length c') w1) : CallK Try.prog 20 [.pointer (some ⟨g, 0, none⟩)] w0.heap.size w bs K := by
  obtain ⟨C, c, F, T, ss, C', c', F', T', ss', h, hw⟩ := h
  exact call_frames hw.size h.a (fun x hx => smallF_of hr (ho.frames x hx)) hn fun A c1 w1 ss1 e1 _ _ => hk A c1 w1 ⟨C, c, F, T, ss, C', c', F', T', ss', h.ext e1, e1.after hw⟩
end
section
variable {p : List Fnc} {fn : Fnc} (hr : Rt p) (hf : fnAt p 0 = some fn) (h0 : fn.params = 0)
include hr hf h0
theorem b4_7 {w0 : World} {i : Nat} (hi : i ≤ 120) {L : Option Addr → Nat → Nat → Addr → Addr → Int → World → Prop} {A : Option Addr} {l c : Nat} {g g' : Nat} {X : Mach} (hX : (stepM p X).1 = playM p (newM 0) (i + 1)) (ho : MOk p X) (hl : Lim X i) {w : World} (h : DuoAt w0 w p g g' X (playM p (newM 0) (i + 1)))
    (hk : ∀ w1, DuoAt w0 w1 p g g' (playM p (newM 0) (i + 1)) (playM p (newM 0) (i + 1)) → L A l c ⟨g, 0, none⟩ ⟨g', 0, none⟩ ((i + 1 : Nat) : Int) w1) : V7.b4 w0.heap.size (IsV w0 (.bool true)) L A l c ⟨g, 0, none⟩ ⟨g', 0, none⟩ (i : Int) w := by
  unfold V7.b4
  obtain ⟨o1, l1⟩ := played_ok hr hf h0 (i + 1) (by omega)
  have lf := l1.frames
  refine h.step hr ho hl (by omega) fun w1 h1 => ⟨_, rfl, ?_⟩
  rw [hX] at h1
  refine h1.give (fun w2 C c F T ss h2 => gives13 h2) fun w2 h2 => ⟨_, rfl, ?_⟩
  refine h2.swap.give (fun w3 C c F T ss h3 => gives13 h3) fun w3 h3 => ⟨_, rfl, ?_⟩
  rw [if_pos (by simp)]
  refine h3.swap.give (fun w4 C c F T ss h4 => gives27 h4) fun w4 h4 => ⟨_, rfl, ?_⟩
  refine h4.swap.give (fun w5 C c F T ss h5 => gives27 h5) fun w5 h5 => ⟨_, rfl, ?_⟩
  rw [if_pos (by simp)]
  refine h5.swap.frames hr o1 (by omega) fun A1 c1 w6 h6 => ⟨_, _, _, rfl, ?_⟩
  refine h6.swap.frames hr o1 (by omega) fun A2 c2 w7 h7 => ⟨_, _, _, rfl, ?_⟩
  rw [if_neg (by simp), wrap_id (n := (i : Int) + 1) (by omega) (by omega)]
  exact hk w7 h7.swap
theorem l3_7 {w0 : World} {i : Nat} (hi : i ≤ 120) {L : Option Addr → Nat → Nat → Addr → Addr → Int → World → Prop} {A : Option Addr} {l c : Nat} {g g' : Nat} (hp : (playM p (newM 0) i).parked = true) {n : Nat} (hn : n ≤ 4) {A3 : Option Addr} {c3 : Nat}
    (hk : ∀ w1, DuoAt w0 w1 p g g' (playM p (newM 0) (i + 1)) (playM p (newM 0) (i + 1)) → L A l c ⟨g, 0, none⟩ ⟨g', 0, none⟩ ((i + 1 : Nat) : Int) w1) :
    ∀ (k j : Nat) (w : World) (C : Option Addr) (c1 : Nat) (F T : Value) (ss : List Sl) (C' : Option Addr) (c' : Nat) (F' T' : Value) (ss' : List Sl), n < j + k → j ≤ n → Below w0.heap.size w0 w → Duo w w0.heap.size p g C c1 (playM p (newM 0) i) F T ss g' C' c' (playM p (newM 0) (i + 1)) F' T' ss' →
      Aside (fun w => Marks w A3 (playM p (newM 0) i).trace.length (playM p (newM 0) i).trace) (Foot g F T ss) w →
      V7.l3 w0.heap.size (IsV w0 (.bool true)) L k A l c ⟨g, 0, none⟩ ⟨g', 0, none⟩ (i : Int) (n : Int) A3 (playM p (newM 0) i).trace.length c3 (j : Int) w
  | 0, j, w, C, c1, F, T, ss, C', c', F', T', ss', hk', hj, _, _, _ => by omega
  | k + 1, j, w, C, c1, F, T, ss, C', c', F', T', ss', hk', hj, hw, h, hM => by
    dsimp -zeta only [V7.l3]
    obtain ⟨o1, l1⟩ := played_ok hr hf h0 i (by omega)
    have lt := l1.trace
    have lf := l1.frames
    have hst := step_wait (p := p) hp (play_pk p 0 i)
    by_cases hjn : j < n
    · rw [if_pos (by simp; omega)]
      refine h.call hw.size (fun w1 h1 => turns23 hr h1 o1 l1 (by omega)) fun w1 F1 T1 ss1 h1 e1 hf1 => ⟨_, rfl, ?_⟩
      rw [hst] at h1
      dsimp only at h1
      have hw1 := e1.after (fun j hj => (h.a.ty hj).1) hw
      have hM1 := hM.keep (keepsOff_exts e1) hf1
      rw [if_pos (by rw [hst]; rfl)]
      refine call_gives hw1 (fun w2 e2 _ => gives24 hr (h1.a.ext e2) o1 (by omega) fun f hc => call_in hr o1 hc) fun w2 e2 hw2 => ⟨_, rfl, ?_⟩
      rw [if_pos (by rw [need_wait (.inl hp)]; rfl)]
      have h2 := h1.ext e2
      refine call_gives hw2 (fun w3 e3 _ => gives27 (h2.a.ext e3)) fun w3 e3 hw3 => ⟨_, rfl, ?_⟩
      rw [if_neg (by rw [hp]; simp), wrap_id (n := (j : Int) + 1) (by omega) (by omega)]
      exact l3_7 hi hp hn hk k (j + 1) w3 C c1 F1 T1 ss1 C' c' F' T' ss' (by omega) (by omega) hw3 (h2.ext e3) ((hM1.ext e2).ext e3)
    · have : j = n := by omega
      subst this
      rw [if_neg (by simp)]
      refine call_trace hw.size h.a (by omega) fun A4 c4 w1 e1 hm1 hc1 => ⟨_, _, _, rfl, ?_⟩
      have hw1 := e1.after hw
      have h1 := h.ext e1
      have k1 := (hM.ext e1).get (marks_kept _ _ _)
      have k2 : Marks w1 A4 _ _ := RowAt.keep MarkE.kept hm1 fun q v hq => (newW_cell.1 hq).1
      refine call_gives hw1 (fun w2 e2 _ => gives28 (RowAt.keep MarkE.kept k2 (ext_keeps e2)) (RowAt.keep MarkE.kept k1 (ext_keeps e2))) fun w2 e2 hw2 => ⟨_, rfl, ?_⟩
      rw [(eqMs_iff _ _).2 rfl, if_neg (by simp)]
      have hd : DuoAt w0 w2 p g g' _ _ := ⟨C, c1, F, T, ss, C', c', F', T', ss', h1.ext e2, hw2⟩
      refine hd.wake fun w3 h3 => ⟨rfl, ?_⟩
      exact b4_7 hr hf h0 hi (X := wakeM (playM p (newM 0) i)) rfl (wake_ok o1) (wake_lim l1) h3 hk
theorem l1_7 {w0 : World} {A : Option Addr} {l c : Nat} {ts : List Int} (hts : BytesAt w0 A l c ts) {g g' : Nat} : ∀ (k i : Nat) (w : World), 120 < i + k → i ≤ 120 → DuoAt w0 w p g g' (playM p (newM 0) i) (playM p (newM 0) i) →
    V7.l1 w0.heap.size (IsV w0 (.bool true)) k A l c ⟨g, 0, none⟩ ⟨g', 0, none⟩ (i : Int) w
  | 0, i, w, hk, hi, _ => by omega
  | k + 1, i, w, hk, hi, h => by
    dsimp -zeta only [V7.l1]
    obtain ⟨o1, l1⟩ := played_ok hr hf h0 i (by omega)
    have lt := l1.trace
    by_cases hlt : i < 120
    · rw [if_pos (by simp; omega)]
      have next := fun w1 (h1 : DuoAt w0 w1 p g g' (playM p (newM 0) (i + 1)) (playM p (newM 0) (i + 1))) => l1_7 hts k (i + 1) w1 (by omega) (by omega) h1
      refine h.swap.wake fun w1 h1 => ⟨rfl, ?_⟩
      refine h1.step hr (wake_ok o1) (wake_lim l1) (by omega) fun w2 h2 => ⟨_, rfl, ?_⟩
      have h2 : DuoAt w0 w2 p g' g (playM p (newM 0) (i + 1)) (playM p (newM 0) i) := h2
      refine h2.swap.give (fun w3 C c F T ss h3 => gives27 h3) fun w3 h3 => ⟨_, rfl, ?_⟩
      by_cases hp : (playM p (newM 0) i).parked = true
      · rw [if_pos hp]
        have tries : ∀ n : Nat, n ≤ 4 → V7.b2 w0.heap.size (IsV w0 (.bool true)) (V7.l1 w0.heap.size (IsV w0 (.bool true)) k) A l c ⟨g, 0, none⟩ ⟨g', 0, none⟩ (i : Int) (n : Int) w3 := fun n hn => by
          unfold V7.b2
          obtain ⟨C, c1, F, T, ss, C', c', F', T', ss', hd, hw3⟩ := h3
          refine call_trace hw3.size hd.a (by omega) fun A3 c3 w4 e4 hm4 hc4 => ⟨_, _, _, rfl, n + 1, ?_⟩
          exact l3_7 hr hf h0 hi hp hn next (n + 1) 0 w4 C c1 F T ss C' c' F' T' ss' (by omega) (by omega) (e4.after hw3) (hd.ext e4) (Aside.new hm4 fun k hk => (hd.a.ty hk).2.1)
        by_cases hil : i < l
        · rw [if_pos (by simp; omega)]
          obtain ⟨x, q, hx, hq, hc⟩ := hts.nums.at hil
          have hb := hts.byte x (List.mem_of_getElem? hx)
          refine ⟨q, hq, by omega, by omega, x, ?_, by omega, ?_⟩
          · rw [Int.toNat_natCast]; exact below_keeps h3.below _ _ hc
          · rw [wrap_id (n := x) (by omega) (by omega)]
            obtain ⟨t1, t2⟩ := tm hb.1 (n := 4) (by omega)
            have e : Int.tmod x 4 = ((Int.tmod x 4).toNat : Int) := by omega
            rw [e]
            exact tries _ (by omega)
        · rw [if_neg (by simp; omega)]
          exact tries 1 (by omega)
      · rw [if_neg hp]
        have hpf : (playM p (newM 0) i).parked = false := by simpa using hp
        exact b4_7 hr hf h0 hi (X := playM p (newM 0) i) (by show _ = (stepM p (wakeM (playM p (newM 0) i))).1; rw [wake_same hpf]) o1 l1 h3 next
    · have : i = 120 := by omega
      subst this
      rw [if_neg (by simp)]
      obtain ⟨C, c1, F, T, ss, C', c', F', T', ss', h, hw⟩ := h
      refine call_trace hw.size h.a (by omega) fun A3 c3 w1 e1 hm1 hc1 => ⟨_, _, _, rfl, ?_⟩
      have hw1 := e1.after hw
      have h1 := h.ext e1
      refine call_trace hw1.size h1.b (by omega) fun A4 c4 w2 e2 hm2 hc2 => ⟨_, _, _, rfl, ?_⟩
      have hw2 := e2.after hw1
      have k1 : Marks w2 A3 _ _ := RowAt.keep MarkE.kept hm1 fun q v hq => e2.cell (newW_cell.1 hq).1
      have k2 : Marks w2 A4 _ _ := RowAt.keep MarkE.kept hm2 fun q v hq => (newW_cell.1 hq).1
      refine call_gives hw2 (fun w3 e3 _ => gives28 (RowAt.keep MarkE.kept k1 (ext_keeps e3)) (RowAt.keep MarkE.kept k2 (ext_keeps e3))) fun w3 e3 hw3 => ⟨_, rfl, ?_⟩
      rw [if_pos ((eqMs_iff _ _).2 rfl)]
      exact call_gives hw3 (fun _ _ _ => gives16) fun w4 e4 hw4 => ⟨_, rfl, ret_is hw4 rfl⟩
end
theorem gives7 {w : World} {A A' : Option Addr} {l c l' c' : Nat} {ns ts : List Int} (hns : BytesAt w A l c ns) (hts : BytesAt w A' l' c' ts) : Gives Try.prog 7 [.slice A l c, .slice A' l' c'] w (.bool true) := by
  refine gives_of (V7.sound ?_)
  unfold V7.vc
  refine call_made (Below.refl _ _) hns fun p P cap w1 hmade hp hcap hq e1 hw1 => ⟨_, _, _, rfl, fun o _ => ?_⟩
  obtain ⟨fn, hfn, hf0⟩ := made_first hmade
  have hr := made_rt hmade
  refine call_newO hw1.size hp hr hfn hf0 fun g C c1 w2 h2 e2 => ⟨_, rfl, ?_⟩
  have hw2 := e2.after hw1
  simp only [caseP]
  refine call_newO hw2.size (RowAt.keep FncE.kept hp (ext_keeps e2)) hr hfn hf0 fun g' C' c2 w3 h3 e3 => ⟨_, rfl, ?_⟩
  have hw3 := e3.after hw2
  simp only [caseP]
  unfold V7.b0
  have hlt : ∀ k, Foot g N0 N0 [] k → k < w2.heap.size := fun k hk => (h2.mach.ty hk).2.1
  have hd : Duo w3 w.heap.size p g C c1 (newM 0) N0 N0 [] g' C' c2 (newM 0) N0 N0 [] := ⟨h2.mach.ext e3, h3.mach, fun k hk hk' => by have := hlt k hk; have := h3.foot k hk'; omega,
    (h2.prog.keep (keepsOff_ext e3) fun k hk => by
      rcases hk with hk | hk
      · exact .inl (.inr hk)
      · exact .inr (h3.foot k hk)).poff,
    (h3.prog.mono fun k hk => by
      rcases hk with hk | hk
      · exact .inl (hlt k hk)
      · exact .inr hk).poff⟩
  exact ⟨121, l1_7 hr hfn hf0 hts 121 0 w3 (by omega) (by omega) ⟨_, _, _, _, _, _, _, _, _, _, hd, hw3⟩⟩
end Go.Proofs.Ytidcpndlloppdaa
