/-
  Layer 17: the reference's Check, and both Depths, return what one plain rule tells; the document's examples hold.
  Conditions: the arguments' memory says what their values are.
-/
import Derived.Test.YtlccbaemcfjdoaaZC17h
set_option linter.unusedVariables false
set_option linter.unusedSimpArgs false
namespace Go.Proofs.Ytlccbaemcfjdoaa
open Go.RowKit
section
variable {w0 : World} {v : Int × Int × Int} {cP q1 : Nat} {A : Option Addr} {p : List Fnc}
end
theorem yields38 {w : World} {A : Option Addr} {p : List Fnc} {c : Nat} (hp : ProgAt w A p.length p) (f : Int) : Yields Try.prog 38 [.agg ⟨[.slice A p.length c]⟩, .int .i64 f] w (FreshNums (depthsOf p f) w) := by
  refine yields_of (V38.sound ?_)
  intro q2 _
  have nil : ∀ w1, Below w.heap.size w w1 → ((checkM p).1 ≠ 0 ∨ f < 0 ∨ (p.length : Int) ≤ f) → Ret w.heap.size w1 (IsQ w (FreshNums (depthsOf p f) w) (.slice none 0 0)) := by
    intro w1 hw1 h
    rw [depthsOf_out h]
    exact ret_q hw1 fun w2 _ => ⟨none, 0, 0, rfl, nums_nil _ _, fun q hq => by cases hq⟩
  refine call_gives (Below.refl _ _) (fun w1 _ hb => gives37 (hp.keep hb)) fun w1 _ hw1 => ⟨_, _, _, rfl, ?_⟩
  by_cases h0 : (checkM p).1 = 0
  · rw [if_pos (by simpa using h0)]
    by_cases hf : f < 0
    · rw [if_neg (by simpa using hf)]
      exact nil w1 hw1 (.inr (.inl hf))
    · rw [if_pos (by simpa using hf)]
      by_cases hl : (p.length : Int) ≤ f
      · rw [if_pos (by simpa using hl)]
        exact nil w1 hw1 (.inr (.inr hl))
      · rw [if_neg (by simpa using hl)]
        obtain ⟨x, a, C, cc, hx, ha, c0, c1, c2, c3, hc⟩ := prog_at (hp.keep hw1) (i := f.toNat) (by omega)
        have hm := List.mem_of_getElem? hx
        obtain ⟨hfew, hlen, hjmp, hflow, _⟩ := check_ok h0
        obtain ⟨d, hd⟩ := flowsM_all hflow x hm
        have hdo : depthsOf p f = d := by unfold depthsOf; rw [if_pos ⟨h0, by omega⟩, hx]; simp only [hd]
        refine ⟨a, ha, by omega, by omega, C, x.code.length, cc, c3, ?_⟩
        refine call_yields (Q := DepthsQ p x.code) hw1 (fun w2 e2 hb => yields91 (hp.keep hb) hfew (RowAt.keep InsE.kept hc (ext_keeps e2)) (hjmp x hm) (hlen x hm)) fun w4 u w5 w6 hs _ hQ _ hnew he6 hw6 => ?_
        unfold DepthsQ at hQ
        simp only [hd] at hQ
        obtain ⟨g, hg, rfl, ho⟩ := hQ
        refine ⟨_, _, _, 0, true, rfl, ret_q hw6 fun w7 h7 => ?_⟩
        have hdl : d.length = x.code.length := by
          have := fixM_len hfew (hjmp x hm) (start_ok _) hd
          exact this.1
        have ho6 : OwnI w6 g .i64 3 d := by unfold OwnI; rw [hnew g hg]; exact ho
        have hn := (ho6.ext h7).nums (by rw [hdl]; exact len_ok (hlen x hm))
        rw [hdo]
        refine ⟨_, _, _, rfl, by rw [← hdl]; exact hn, fun q hq => ?_⟩
        cases hq
        have := hw1.size
        exact Nat.le_trans this (Nat.le_trans hs hg)
  · rw [if_neg (by simpa using h0)]
    exact nil w1 hw1 (.inl h0)
end Go.Proofs.Ytlccbaemcfjdoaa
