import Derived.Test.YtidcpndlloppdaaZC17h
import Derived.Test.YtidcpndlloppdaaZWH
/-
  Layer 17: the reference's Check, and both Depths, return what one plain rule tells; the document's examples hold.
  Conditions: the arguments' memory says what their values are.
-/
set_option linter.unusedVariables false
set_option linter.unusedSimpArgs false
namespace Go.Proofs.Ytidcpndlloppdaa
open Go.RowKit
section
variable {w0 : World} {v : Int × Int × Int} {cP q1 : Nat} {A : Option Addr} {p : List Fnc}
end
theorem yields30 {w : World} {A : Option Addr} {p : List Fnc} {c : Nat} (hp : ProgAt w A p.length p) (f : Int) : Yields Try.prog 30 [.agg ⟨[.slice A p.length c]⟩, .int .i64 f] w (FreshNums (depthsOf p f) w) := by
  refine yields_of (V30.sound ?_)
  intro q2 _
  have nil : ∀ w1, Below w.heap.size w w1 → ((checkM p).1 ≠ 0 ∨ f < 0 ∨ (p.length : Int) ≤ f) → Ret w.heap.size w1 (IsQ w (FreshNums (depthsOf p f) w) (.slice none 0 0)) := by
    intro w1 hw1 h
    rw [depthsOf_out h]
    exact ret_q hw1 fun w2 _ => ⟨none, 0, 0, rfl, nums_nil _ _, fun q hq => by cases hq⟩
  refine call_gives (Below.refl _ _) (fun w1 _ hb => gives45 (hp.keep hb)) fun w1 _ hw1 => ⟨_, _, _, rfl, ?_⟩
  by_cases h0 : (checkM p).1 = 0
  · rw [if_pos (by simpa using h0)]
    by_cases hf : f < 0
    · rw [if_neg (by simpa using hf)]
      exact nil w1 hw1 (.inr (.inl hf))
    · rw [if_pos (by simpa using hf)]
      by_cases hl : (p.length : Int) ≤ f
      · rw [if_pos (by simpa using hl)]
        exact nil w1 hw1 (.inr (.inr hl))
      · rw [if_neg (by simpa using hl)]
        obtain ⟨x, a, C, cc, hx, ha, c0, c1, c2, c3, hc⟩ := prog_at (hp.keep hw1) (i := f.toNat) (by omega)
        have hm := List.mem_of_getElem? hx
        obtain ⟨hfew, hlen, hjmp, hflow, _⟩ := check_ok h0
        obtain ⟨d, hd⟩ := flowsM_all hflow x hm
        have hdo : depthsOf p f = d := by unfold depthsOf; rw [if_pos ⟨h0, by omega⟩, hx]; simp only [hd]
        refine ⟨a, ha, by omega, by omega, C, x.code.length, cc, c3, ?_⟩
        refine call_yields (Q := DepthsQ p x.code) hw1 (fun w2 e2 hb => yields49 (hp.keep hb) hfew (RowAt.keep InsE.kept hc (ext_keeps e2)) (hjmp x hm) (hlen x hm)) fun w4 u w5 w6 hs _ hQ _ hnew he6 hw6 => ?_
        unfold DepthsQ at hQ
        simp only [hd] at hQ
        obtain ⟨g, hg, rfl, ho⟩ := hQ
        refine ⟨_, _, _, 0, true, rfl, ret_q hw6 fun w7 h7 => ?_⟩
        have hdl : d.length = x.code.length := by
          have := fixM_len hfew (hjmp x hm) (start_ok _) hd
          exact this.1
        have ho6 : OwnI w6 g .i64 3 d := by unfold OwnI; rw [hnew g hg]; exact ho
        have hn := (ho6.ext h7).nums (by rw [hdl]; exact len_ok (hlen x hm))
        rw [hdo]
        refine ⟨_, _, _, rfl, by rw [← hdl]; exact hn, fun q hq => ?_⟩
        cases hq
        have := hw1.size
        exact Nat.le_trans this (Nat.le_trans hs hg)
  · rw [if_neg (by simpa using h0)]
    exact nil w1 hw1 (.inl h0)
end Go.Proofs.Ytidcpndlloppdaa

/-
  Layer 21, plain: what is parked, what an act needs, the document's example.
  Conditions: the program is right.
-/
set_option linter.unusedVariables false
set_option linter.unusedSimpArgs false
set_option maxRecDepth 20000
namespace Go.Proofs.Ytidcpndlloppdaa
theorem need_wait {p : List Fnc} {m : Mach} (h : m.parked = true ∨ m.ended = true) : needM p m = 0 := by
  unfold needM callM
  rw [if_pos (by rcases h with h | h <;> simp [h])]
theorem call_in {p : List Fnc} (hr : Rt p) {m : Mach} (h : MOk p m) {f : Int} (hc : callM p m = some f) : ∃ g, fnAt p f = some g := by
  unfold callM at hc
  split at hc
  · cases hc
  split at hc
  · obtain ⟨g, hg, _⟩ := h.first
    cases hc; exact ⟨g, hg⟩
  split at hc
  · cases hc
  rename_i x r hm
  have hxo := h.frames x (by rw [hm]; exact List.mem_cons_self)
  obtain ⟨f', hx⟩ := hxo.inn
  split at hc
  · rename_i h0
    split at hc
    · rename_i h17
      cases hc
      have ht := h.top x r hm h0
      obtain ⟨hi, hmem⟩ := ins_in hr hx ht
      obtain ⟨hgp, hsz⟩ := hx.wrap hr
      have hsh := shape_a hi.shape hsz
      rw [fnD_eq hx.fn] at h17 ⊢
      have ha := hsh.2.2.2.1 (by rw [h17]; rfl)
      exact fnAt_in ha.1 ha.2
    · cases hc
  · rename_i h0
    cases hl : x.dfs.getLast? with
    | none => rw [hl] at hc; cases hc
    | some d =>
      rw [hl] at hc
      cases hc
      have hdm := hx.dfs d (getLast_mem hl).1
      unfold dfrM at hdm
      split at hdm
      · exact ⟨_, by assumption⟩
      · cases hdm
theorem sizeF_pos (g : Fnc) : 0 < sizeF' g := by
  unfold sizeF' sizeM
  have := clampL_bd g.locals
  split <;> omega
theorem step_call {p : List Fnc} (hr : Rt p) {m : Mach} (h : MOk p m) (hp : m.parked = false) :
    (∀ f, callM p m = some f → m.ended = false ∧ ∃ x r, (stepM p m).1.frames = x :: r ∧ x.f = f ∧ r.length = m.frames.length) ∧
    (callM p m = none → (stepM p m).1.frames.length ≤ m.frames.length) := by
  unfold stepM
  by_cases he : m.ended = true
  · rw [if_pos he]
    have : callM p m = none := by unfold callM; rw [if_pos (.inl he)]
    rw [this]
    exact ⟨fun f hf => (by cases hf), fun _ => Nat.le_refl _⟩
  have hn : m.ended = false := by simpa using he
  rw [if_neg he, if_neg (by simp [hp])]
  unfold callM
  rw [if_neg (by simp [hn, hp])]
  unfold goM
  simp only
  by_cases hb : m.begun = false
  · rw [if_pos hb, if_pos hb]
    exact ⟨fun f hf => by cases hf; exact ⟨hn, _, _, rfl, rfl, rfl⟩, fun hf => by cases hf⟩
  rw [if_neg hb, if_neg hb]
  cases hm : m.frames with
  | nil => exact ⟨fun f hf => (by cases hf), fun _ => by simp [hm]⟩
  | cons x r =>
    simp only
    have hxo := h.frames x (by rw [hm]; exact List.mem_cons_self)
    obtain ⟨f', hx⟩ := hxo.inn
    by_cases h0 : x.mode = 0
    · rw [if_pos h0, if_pos h0]
      unfold runMach actM
      by_cases h17 : (insAt (fnD p x.f) x.pc).op = 17
      · rw [if_pos h17, if_pos h17]
        exact ⟨fun f hf => by cases hf; exact ⟨hn, _, _, rfl, rfl, by simp⟩, fun hf => by cases hf⟩
      · rw [if_neg h17, if_neg h17]
        refine ⟨fun f hf => (by cases hf), fun _ => ?_⟩
        split
        · unfold recvM
          split
          · split <;> simp
          · simp
        split
        · simp
        split
        · simp
        split
        · simp
        split
        · simp
        split
        · simp
        · simp
    · rw [if_neg h0, if_neg h0]
      unfold leaveM
      cases hl : x.dfs.getLast? with
      | some d => exact ⟨fun f hf => by cases hf; exact ⟨hn, _, _, rfl, rfl, by simp⟩, fun hf => by cases hf⟩
      | none =>
        refine ⟨fun f hf => (by cases hf), fun _ => ?_⟩
        simp only
        split
        · simp
        split
        · simp
        split <;> simp
theorem step_code {p : List Fnc} {m : Mach} (hp : m.parked = false) : (stepM p m).2 = if m.ended = true then 7 else 0 := by
  unfold stepM
  split
  · rfl
  · rw [if_neg (by simp [hp])]
def outsP (a b : Int) : List Fnc := [⟨0, 0, 0, [⟨1, a, 0⟩, ⟨22, 0, 0⟩, ⟨1, b, 0⟩, ⟨18, 0, 0⟩]⟩]
def goN (p : List Fnc) (m : Mach) : Nat → Mach
  | 0 => m
  | n + 1 => (stepM p (goN p m n)).1
theorem go_ok {p : List Fnc} (hr : Rt p) {m : Mach} (h : MOk p m) {k : Nat} (hl : Lim m k) : ∀ n, k + n < 1000000000 → MOk p (goN p m n) ∧ Lim (goN p m n) (k + n)
  | 0, _ => ⟨h, hl⟩
  | n + 1, hn => by
    obtain ⟨a, b⟩ := go_ok hr h hl n (by omega)
    exact step_ok (n := k + n) hr a b (by omega)
theorem outs_check : checkM (outsP 1 2) = (0, 0, 0) := by kernel_rfl
theorem outs_codes : ∀ i : Fin 6, (stepM (outsP 1 2) (goN (outsP 1 2) (newM 0) i.val)).2 = 0 := by decide
theorem outs_end : (goN (outsP 1 2) (newM 0) 6).ended = true ∧ (goN (outsP 1 2) (newM 0) 6).trace = [⟨1, nw 1⟩, ⟨3, nw 2⟩] := ⟨by kernel_rfl, by kernel_rfl⟩
theorem outs_over : (stepM (outsP 1 2) (goN (outsP 1 2) (newM 0) 6)).2 = 7 := by kernel_rfl
theorem outs_first : fnAt (outsP 1 2) 0 = some ⟨0, 0, 0, [⟨1, 1, 0⟩, ⟨22, 0, 0⟩, ⟨1, 2, 0⟩, ⟨18, 0, 0⟩]⟩ := rfl
end Go.Proofs.Ytidcpndlloppdaa

/-
  Layer 21, plain: the programs of AbsmRecovers and AbsmDefers, run.
  Conditions: none.
-/
set_option linter.unusedVariables false
set_option linter.unusedSimpArgs false
set_option maxRecDepth 20000
namespace Go.Proofs.Ytidcpndlloppdaa
def hF : Fnc := ⟨0, 0, 0, [⟨21, 0, 0⟩, ⟨27, 0, 0⟩, ⟨18, 0, 0⟩]⟩
end Go.Proofs.Ytidcpndlloppdaa

/-
  Layer 21, plain: the machine on the programs of AbsmDefers.
  Conditions: none.
-/
set_option linter.unusedVariables false
set_option maxRecDepth 20000
namespace Go.Proofs.Ytidcpndlloppdaa
end Go.Proofs.Ytidcpndlloppdaa
