import Derived.Test.YtidcpndlloppdaaZP21d
import Derived.Test.YtidcpndlloppdaaZWB
/-
  Layer 21, plain: runs, and what their traces are.
  Conditions: the program is right.
-/
set_option linter.unusedVariables false
set_option linter.unusedSimpArgs false
set_option maxRecDepth 20000
namespace Go.Proofs.Ytidcpndlloppdaa
def playM (p : List Fnc) (m : Mach) : Nat → Mach
  | 0 => m
  | n + 1 => (stepM p (wakeM (playM p m n))).1
theorem playM_add (p : List Fnc) (m : Mach) (a : Nat) : ∀ b, playM p m (a + b) = playM p (playM p m a) b
  | 0 => rfl
  | b + 1 => by
    have h : playM p m (a + b + 1) = (stepM p (wakeM (playM p m (a + b)))).1 := rfl
    rw [← Nat.add_assoc, h, playM_add p m a b]; rfl
theorem play_ok {p : List Fnc} (hr : Rt p) {m : Mach} (h : MOk p m) {k : Nat} (hl : Lim m k) : ∀ n, k + n < 1000000000 → MOk p (playM p m n) ∧ Lim (playM p m n) (k + n)
  | 0, _ => ⟨h, hl⟩
  | n + 1, hn => by
    obtain ⟨a, b⟩ := play_ok hr h hl n (by omega)
    exact step_ok (n := k + n) hr (wake_ok a) (wake_lim b) (by omega)
def EndK (d : Mk) : Prop := d.k = 3 ∨ d.k = 4
def MidK (d : Mk) : Prop := d.k = 1 ∨ d.k = 2
structure TrOk (m : Mach) : Prop where
  live : m.ended = false → ∀ d ∈ m.trace, MidK d
  over : m.ended = true → ∃ t d, m.trace = t ++ [d] ∧ EndK d ∧ ∀ c ∈ t, MidK c
theorem newM_tr (f : Int) : TrOk (newM f) := ⟨fun _ d hd => by simp [newM] at hd, fun h => by simp [newM] at h⟩
theorem wake_tr {m : Mach} (h : TrOk m) : TrOk (wakeM m) := ⟨h.live, h.over⟩
theorem TrOk.same {m m' : Mach} (h : TrOk m) (h1 : m'.trace = m.trace) (h2 : m'.ended = m.ended) : TrOk m' := ⟨fun e => by rw [h1]; exact h.live (by rw [← h2]; exact e), fun e => by rw [h1]; exact h.over (by rw [← h2]; exact e)⟩
theorem TrOk.mid {m m' : Mach} (h : TrOk m) (hn : m.ended = false) {d : Mk} (hd : MidK d) (h1 : m'.trace = m.trace ++ [d]) (h2 : m'.ended = m.ended) : TrOk m' := ⟨fun e c hc => by
  rw [h1] at hc
  rcases List.mem_append.1 hc with hc | hc
  · exact h.live hn c hc
  · rw [List.mem_singleton] at hc; subst hc; exact hd, fun e => by rw [h2, hn] at e; cases e⟩
theorem actM_tr {p : List Fnc} {m : Mach} (h : TrOk m) (hn : m.ended = false) (g : Fnc) (i : Ins) (l : List Int) (y : Frm) (r : List Frm) : TrOk (actM p m g i l y r) ∧ (actM p m g i l y r).ended = m.ended ∧ ∃ t, (actM p m g i l y r).trace = m.trace ++ t := by
  have nil : ∀ {m' : Mach}, m'.trace = m.trace → m'.ended = m.ended → TrOk m' ∧ m'.ended = m.ended ∧ ∃ t, m'.trace = m.trace ++ t := fun {m'} a b => ⟨h.same a b, b, [], by rw [a, List.append_nil]⟩
  have one : ∀ {m' : Mach} {d : Mk}, MidK d → m'.trace = m.trace ++ [d] → m'.ended = m.ended → TrOk m' ∧ m'.ended = m.ended ∧ ∃ t, m'.trace = m.trace ++ t := fun {m' d} a b c => ⟨h.mid hn a b c, c, [d], b⟩
  unfold actM
  split
  · exact nil rfl rfl
  split
  · unfold recvM
    split
    · split
      · exact one (.inr rfl) rfl rfl
      · exact nil rfl rfl
    · exact nil rfl rfl
  split
  · exact one (.inl rfl) rfl rfl
  split
  · exact nil rfl rfl
  split
  · exact nil rfl rfl
  split
  · exact nil rfl rfl
  split
  · exact nil rfl rfl
  · exact nil rfl rfl
theorem step_tr {p : List Fnc} {m : Mach} (h : TrOk m) : TrOk (stepM p m).1 ∧ ∃ t, (stepM p m).1.trace = m.trace ++ t := by
  have nil : TrOk m ∧ ∃ t, m.trace = m.trace ++ t := ⟨h, [], by rw [List.append_nil]⟩
  unfold stepM
  split
  · exact nil
  rename_i he
  have hn : m.ended = false := by simpa using he
  split
  · exact nil
  unfold goM
  simp only
  split
  · exact ⟨h.same rfl rfl, [], by rw [List.append_nil]⟩
  split
  · exact nil
  rename_i x r hm
  split
  · obtain ⟨a, _, b⟩ := actM_tr (p := p) h hn (fnD p x.f) (insAt (fnD p x.f) x.pc) (popL p (insAt (fnD p x.f) x.pc) x) (popF p (insAt (fnD p x.f) x.pc) x) r
    exact ⟨a, b⟩
  · unfold leaveM
    split
    · exact ⟨h.same rfl rfl, [], by rw [List.append_nil]⟩
    split
    · refine ⟨⟨fun e => by simp at e, fun _ => ⟨m.trace, _, rfl, ?_, h.live hn⟩⟩, _, rfl⟩
      unfold EndK
      simp only
      split
      · exact .inr rfl
      · exact .inl rfl
    split
    · exact ⟨h.same rfl rfl, [], by rw [List.append_nil]⟩
    split
    · exact ⟨h.same rfl rfl, [], by rw [List.append_nil]⟩
    · exact ⟨h.same rfl rfl, [], by rw [List.append_nil]⟩
theorem step_over {p : List Fnc} {m : Mach} (h : m.ended = true) : stepM p m = (m, 7) := by unfold stepM; rw [if_pos h]
theorem play_tr {p : List Fnc} {m : Mach} (h : TrOk m) : ∀ n, TrOk (playM p m n)
  | 0 => h
  | n + 1 => (step_tr (wake_tr (play_tr h n))).1
theorem play_more {p : List Fnc} {m : Mach} (h : TrOk m) : ∀ n, ∃ t, (playM p m n).trace = m.trace ++ t
  | 0 => ⟨[], (List.append_nil _).symm⟩
  | n + 1 => by
    obtain ⟨t, ht⟩ := play_more (p := p) h n
    obtain ⟨u, hu⟩ := (step_tr (p := p) (wake_tr (play_tr (p := p) h n))).2
    exact ⟨t ++ u, by rw [← List.append_assoc, ← ht]; exact hu⟩
theorem play_over {p : List Fnc} {m : Mach} (h : m.ended = true) : ∀ n, (playM p m n).trace = m.trace ∧ (playM p m n).ended = true ∧ (playM p m n).frames = m.frames
  | 0 => ⟨rfl, h, rfl⟩
  | n + 1 => by
    obtain ⟨a, b, c⟩ := play_over (p := p) h n
    have e : playM p m (n + 1) = wakeM (playM p m n) := by
      show (stepM p (wakeM (playM p m n))).1 = _
      rw [step_over (show (wakeM (playM p m n)).ended = true from b)]
    rw [e]
    exact ⟨a, b, c⟩
end Go.Proofs.Ytidcpndlloppdaa

/-
  What the engine makes of the loaded functions : conditions under which a call returns as told, and proofs of that.
  Conditions: none. Printed by a program of this project.
-/
set_option linter.unusedVariables false
set_option maxRecDepth 100000
namespace Go.Proofs.Ytidcpndlloppdaa
end Go.Proofs.Ytidcpndlloppdaa

/-
  What the engine makes of the loaded functions : conditions under which a call returns as told, and proofs of that.
  Conditions: none. Printed by a program of this project.
-/
set_option linter.unusedVariables false
set_option maxRecDepth 100000
namespace Go.Proofs.Ytidcpndlloppdaa
end Go.Proofs.Ytidcpndlloppdaa
