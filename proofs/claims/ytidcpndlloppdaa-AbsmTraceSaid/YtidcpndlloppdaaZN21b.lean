import Derived.Test.YtidcpndlloppdaaZN21
/-
  Layer 21: AbsmTrace's function returns true.
  Conditions: the arguments' memory says what their values are.
-/
set_option linter.unusedVariables false
set_option linter.unusedSimpArgs false
set_option maxRecDepth 20000
namespace Go.Proofs.Ytidcpndlloppdaa
open Go.RowKit
theorem made_rt {p : List Fnc} (h : MadeOk p) : Rt p := rt_of (by rw [h.check])
theorem made_first {p : List Fnc} (h : MadeOk p) : ∃ fn, fnAt p 0 = some fn ∧ fn.params = 0 := by
  obtain ⟨fn, hfn⟩ := fnAt_in (p := p) (f := 0) (by omega) (by have := h.pos; omega)
  exact ⟨fn, hfn, h.zero fn (fnAt_mem hfn).2.2.1⟩
theorem gives20_nil {w : World} {B g : Nat} {C : Option Addr} {c : Nat} {p : List Fnc} {m : Mach} {F T : Value} {ss : List Sl} (h : MachAt w B g C c p m F T ss) (hm : m.frames = []) : Gives Try.prog 20 [.pointer (some ⟨g, 0, none⟩)] w N0 := by
  refine gives_of (V20.sound ?_)
  unfold V20.vc
  have hF := h.pcs.frames
  rw [hm] at hF
  obtain ⟨A, cap, hv⟩ := owns_slice0 hF
  subst hv
  rw [own_add]
  refine ⟨A, _, cap, h.cell (i := 6) rfl, 1, ?_⟩
  dsimp -zeta only [V20.l0]
  rw [if_neg (by simp)]
  exact ret_is (Below.refl _ _) rfl
theorem tr_marks {m : Mach} (h : TrOk m) {i : Nat} {d : Mk} (hd : m.trace[i]? = some d) : (1 ≤ d.k ∧ d.k ≤ 4) ∧ ((d.k = 3 ∨ d.k = 4) ↔ (m.ended = true ∧ i + 1 = m.trace.length)) := by
  have hmem := List.mem_of_getElem? hd
  cases he : m.ended with
  | false =>
    have := h.live he d hmem
    unfold MidK at this
    exact ⟨by omega, fun h => by omega, fun h => by cases h.1⟩
  | true =>
    obtain ⟨t, e, ht, hek, hmid⟩ := h.over he
    rw [ht] at hd ⊢
    by_cases hi : i < t.length
    · rw [List.getElem?_append_left hi] at hd
      have := hmid d (List.mem_of_getElem? hd)
      unfold MidK at this
      refine ⟨by omega, ?_⟩
      rw [List.length_append]
      simp only [List.length_cons, List.length_nil, true_and]
      omega
    · rw [List.getElem?_append_right (by omega)] at hd
      have hi' := (List.getElem?_eq_some_iff.1 hd).1
      simp only [List.length_cons, List.length_nil] at hi'
      have : i - t.length = 0 := by omega
      rw [this] at hd
      cases hd
      unfold EndK at hek
      refine ⟨by omega, ?_⟩
      rw [List.length_append]
      simp only [List.length_cons, List.length_nil, true_and]
      omega
section
variable {p : List Fnc} {fn : Fnc} (hr : Rt p) (hf : fnAt p 0 = some fn) (h0 : fn.params = 0)
include hr hf h0
theorem l3_6 {w0 : World} {n more : Nat} (hn : n ≤ 300) (hmore : more ≤ 300) {A : Option Addr} {cA : Nat} (hcA : (playM p (newM 0) n).trace.length ≤ cA) : ∀ (k j : Nat) (w : World) (g : Nat) (C : Option Addr) (c : Nat) (F T : Value) (ss : List Sl), more < j + k → j ≤ more → Below w0.heap.size w0 w →
    MachAt w w0.heap.size g C c p (playM p (newM 0) (n + j)) F T ss → Aside (fun w => Marks w A (playM p (newM 0) n).trace.length (playM p (newM 0) n).trace) (Foot g F T ss) w →
    V6.l3 w0.heap.size (IsV w0 (.bool true)) k (more : Int) ⟨g, 0, none⟩ A (playM p (newM 0) n).trace.length cA (playM p (newM 0) n).ended (j : Int) w
  | 0, j, w, g, C, c, F, T, ss, hk, hj, _, _, _ => by omega
  | k + 1, j, w, g, C, c, F, T, ss, hk, hj, hw, h, hM => by
    dsimp -zeta only [V6.l3]
    obtain ⟨ho, hl⟩ := played_ok hr hf h0 (n + j) (by omega)
    obtain ⟨ho0, hl0⟩ := played_ok hr hf h0 n (by omega)
    have hlt := hl.trace
    have htr : TrOk (playM p (newM 0) n) := play_tr (newM_tr 0) n
    rw [wrap_id (n := (more : Int)) (by omega) (by omega)]
    by_cases hjm : j < more
    · rw [if_pos (by simp; omega)]
      refine call_wake hw.size h fun w1 F1 T1 ss1 h1 e1 hf1 => ⟨rfl, ?_⟩
      have hM1 := hM.keep (keepsOff_exts e1) hf1
      have hw1 := e1.after (fun j hj => (h.ty hj).1) hw
      refine call_step hw1.size hr h1 (wake_ok ho) (wake_lim hl) (by omega) fun w2 F2 T2 ss2 h2 e2 hf2 => ⟨_, rfl, ?_⟩
      have hM2 := hM1.keep (keepsOff_exts e2) hf2
      have hw2 := e2.after (fun j hj => (h1.ty hj).1) hw1
      have next := l3_6 hn hmore hcA k (j + 1) w2 g C c F2 T2 ss2 (by omega) (by omega) hw2 h2 hM2
      rw [wrap_id (n := (j : Int) + 1) (by omega) (by omega)]
      by_cases hov : (playM p (newM 0) n).ended = true
      · have hov2 : (playM p (newM 0) (n + j)).ended = true := by rw [playM_add]; exact (play_over hov j).2.1
        rw [if_pos hov, if_neg (by rw [step_over (show (wakeM (playM p (newM 0) (n + j))).ended = true from hov2)]; simp)]
        exact next
      · rw [if_neg hov]
        exact next
    · have : j = more := by omega
      subst this
      rw [if_neg (by simp)]
      refine call_trace hw.size h (by omega) fun A2 c2 w1 e1 hm1 hc1 => ⟨_, _, _, rfl, ?_⟩
      have hw1 := e1.after hw
      have h1 := h.ext e1
      obtain ⟨t, ht⟩ := play_more htr j
      rw [← playM_add] at ht
      have hpre : begM (playM p (newM 0) n).trace (playM p (newM 0) (n + j)).trace = true := by rw [ht]; exact beg_app _ _
      have fin : ∀ {w2 : World}, Ext w0.heap.size w1 w2 → Below w0.heap.size w0 w2 → CallK Try.prog 25 [.slice A (playM p (newM 0) n).trace.length cA, .slice A2 (playM p (newM 0) (n + j)).trace.length c2] w0.heap.size w2 [] fun m n =>
          ∃ G : Bool, m = .bool G ∧ if G = true then (CallK Try.prog 16 [] w0.heap.size n [] fun t u => ∃ L : Bool, t = .bool L ∧ Ret w0.heap.size u (IsV w0 (.bool true) (.bool L))) else (Ret w0.heap.size n (IsV w0 (.bool true) (.bool false))) := fun {w2} e2 hw2 => by
        have k1 := ((hM.ext e1).ext e2).get (marks_kept _ _ _)
        have k2 : Marks w2 A2 _ _ := RowAt.keep MarkE.kept hm1 fun q v hq => e2.cell (newW_cell.1 hq).1
        refine call_gives hw2 (fun w3 e3 _ => gives25 (RowAt.keep MarkE.kept k1 (ext_keeps e3)) (RowAt.keep MarkE.kept k2 (ext_keeps e3))) fun w3 e3 hw3 => ⟨_, rfl, ?_⟩
        rw [if_pos hpre]
        exact call_gives hw3 (fun _ _ _ => gives16) fun w4 e4 hw4 => ⟨_, rfl, ret_is hw4 rfl⟩
      by_cases hov : (playM p (newM 0) n).ended = true
      · obtain ⟨o1, o2, o3⟩ := play_over (p := p) hov j
        rw [← playM_add] at o1 o2 o3
        obtain ⟨t', d, htd, _⟩ := htr.over hov
        have hpos : 0 < (playM p (newM 0) n).trace.length := by rw [htd]; simp
        rw [if_pos (by rw [hov]; rfl), if_pos (by simpa using hpos), if_pos (by rw [o1]; simp)]
        refine call_gives hw1 (fun w2 e2 _ => gives13 (h1.ext e2)) fun w2 e2 hw2 => ⟨_, rfl, ?_⟩
        rw [if_pos o2]
        have hfr : (playM p (newM 0) (n + j)).frames = [] := (ho.gone (ho.goneB o2)).1 o2
        have h2 := h1.ext e2
        refine call_gives hw2 (fun w3 e3 _ => gives20_nil (h2.ext e3) hfr) fun w3 e3 hw3 => ⟨_, _, _, rfl, ?_⟩
        rw [if_pos (by rfl)]
        have h3 := h2.ext e3
        refine call_gives hw3 (fun w4 e4 _ => gives24 hr (h3.ext e4) ho (by have := hl.frames; omega) fun f hc => call_in hr ho hc) fun w4 e4 hw4 => ⟨_, rfl, ?_⟩
        rw [if_pos (by rw [need_wait (.inr o2)]; rfl)]
        exact fin ((e2.trans e3).trans e4) hw4
      · rw [if_neg (by simpa using hov)]
        exact fin (Ext.refl _ _) hw1
theorem l1_6 {w0 : World} {n more : Nat} (hn : n ≤ 300) (hmore : more ≤ 300) {A : Option Addr} {cA : Nat} (hcA : (playM p (newM 0) n).trace.length ≤ cA) {w : World} {g : Nat} {C : Option Addr} {c : Nat} {F T : Value} {ss : List Sl} (hw : Below w0.heap.size w0 w)
    (h : MachAt w w0.heap.size g C c p (playM p (newM 0) n) F T ss) (hM : Aside (fun w => Marks w A (playM p (newM 0) n).trace.length (playM p (newM 0) n).trace) (Foot g F T ss) w) : ∀ (k i : Nat), (playM p (newM 0) n).trace.length < i + k → i ≤ (playM p (newM 0) n).trace.length →
    V6.l1 w0.heap.size (IsV w0 (.bool true)) k (more : Int) ⟨g, 0, none⟩ A (playM p (newM 0) n).trace.length cA (playM p (newM 0) n).ended (i : Int) w
  | 0, i, hk, hi => by omega
  | k + 1, i, hk, hi => by
    dsimp -zeta only [V6.l1]
    have htr : TrOk (playM p (newM 0) n) := play_tr (newM_tr 0) n
    have hlt := (played_ok hr hf h0 n (by omega)).2.trace
    by_cases hil : i < (playM p (newM 0) n).trace.length
    · rw [if_pos (by simp; omega)]
      obtain ⟨d, q, hd, hq, c0, c1⟩ := Marks.cells (hM.get (marks_kept _ _ _)) hil
      obtain ⟨hk14, hlast⟩ := tr_marks htr hd
      have next := l1_6 hn hmore hcA hw h hM k (i + 1) (by omega) (by omega)
      have piece : ∀ b : Bool, (b = true ↔ (d.k = 3 ∨ d.k = 4)) → V6.b2 w0.heap.size (IsV w0 (.bool true)) (V6.l1 w0.heap.size (IsV w0 (.bool true)) k) (more : Int) ⟨g, 0, none⟩ A (playM p (newM 0) n).trace.length cA (playM p (newM 0) n).ended (i : Int) b w := fun b hb => by
        unfold V6.b2
        refine ⟨q, hq, by omega, by omega, d.k, c0, ?_⟩
        rw [if_pos (by simp; omega)]
        refine ⟨q, hq, by omega, by omega, d.k, c0, ?_⟩
        rw [if_pos (by simp; omega), wrap_id (n := (i : Int) + 1) (by omega) (by omega), wrap_id (n := (((playM p (newM 0) n).trace.length : Nat) : Int) - 1) (by omega) (by omega)]
        have hb' := hb.trans hlast
        cases hov : (playM p (newM 0) n).ended with
        | true =>
          rw [if_pos rfl]
          have : (b == ((i : Int) == (((playM p (newM 0) n).trace.length : Nat) : Int) - 1)) = true := by
            rw [hov] at hb'
            simp only [true_and] at hb'
            cases b with
            | true => have := hb'.1 rfl; simp; omega
            | false =>
              have : ¬ (i + 1 = (playM p (newM 0) n).trace.length) := fun h => by have := hb'.2 h; cases this
              simp; omega
          rw [this, if_neg (by simp)]
          rw [hov] at next
          exact next
        | false =>
          rw [if_neg (by simp)]
          have : b = false := by
            cases b with
            | false => rfl
            | true => have := (hb'.1 rfl).1; rw [hov] at this; cases this
          subst this
          rw [if_neg (by simp)]
          rw [hov] at next
          exact next
      refine ⟨q, hq, by omega, by omega, d.k, c0, ?_⟩
      by_cases h3 : d.k = 3
      · rw [if_neg (by simp [h3])]
        exact piece true (by simp [h3])
      · rw [if_pos (by simp [h3])]
        refine ⟨q, hq, by omega, by omega, d.k, c0, ?_⟩
        exact piece (d.k == 4) (by simp [h3])
    · have : i = (playM p (newM 0) n).trace.length := by omega
      subst this
      rw [if_neg (by simp)]
      exact ⟨more + 1, l3_6 hr hf h0 hn hmore hcA (more + 1) 0 w g C c F T ss (by omega) (by omega) hw h hM⟩
end
theorem gives6 {w : World} {A : Option Addr} {l c : Nat} {ns : List Int} (hns : BytesAt w A l c ns) {n more : Int} (hn : 0 ≤ n ∧ n < 256) (hmore : 0 ≤ more ∧ more < 256) : Gives Try.prog 6 [.slice A l c, .int .u8 n, .int .u8 more] w (.bool true) := by
  refine gives_of (V6.sound ?_)
  unfold V6.vc
  refine call_made (Below.refl _ _) hns fun p P cap w1 hmade hp hcap hq e1 hw1 => ⟨_, _, _, rfl, ?_⟩
  obtain ⟨fn, hfn, hf0⟩ := made_first hmade
  have hr := made_rt hmade
  rw [wrap_id (n := n) (by omega) (by omega), show n = ((n.toNat : Nat) : Int) by omega]
  refine call_played hr hfn hf0 hw1.size hp (by omega) fun g C cc F T ss w2 h2 e2 => ⟨_, rfl, ?_⟩
  have hw2 := e2.after hw1
  simp only [caseP]
  unfold V6.b0
  obtain ⟨ho, hl⟩ := played_ok hr hfn hf0 n.toNat (by omega)
  refine call_trace hw2.size h2.mach (by have := hl.trace; omega) fun A3 c3 w3 e3 hm3 hc3 => ⟨_, _, _, rfl, ?_⟩
  have hw3 := e3.after hw2
  refine call_gives hw3 (fun w4 e4 _ => gives13 ((h2.mach.ext e3).ext e4)) fun w4 e4 hw4 => ⟨_, rfl, ?_⟩
  have h4 := (h2.mach.ext e3).ext e4
  have hM : Aside (fun w => Marks w A3 (playM p (newM 0) n.toNat).trace.length (playM p (newM 0) n.toNat).trace) (Foot g F T ss) w4 := (Aside.new hm3 fun k hk => (h2.mach.ty hk).2.1).ext e4
  rw [show more = ((more.toNat : Nat) : Int) by omega]
  exact ⟨_, l1_6 hr hfn hf0 (by omega) (by omega) hc3 hw4 h4 hM ((playM p (newM 0) n.toNat).trace.length + 1) 0 (by omega) (by omega)⟩
end Go.Proofs.Ytidcpndlloppdaa
