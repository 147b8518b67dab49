/-
  Layer 20: the law's function ScanSame returns true.
  Conditions: the numbers, and the words, lie in memory as told.
-/
import Derived.Test.YtlccbaemcfjdoaaZN20
import Derived.Test.YtlccbaemcfjdoaaZW19
set_option linter.unusedVariables false
set_option linter.unusedSimpArgs false
namespace Go.Proofs.Ytlccbaemcfjdoaa
open Go.RowKit
theorem YardAt.run {w : World} {p : List Fnc} {mem0 : List Int} {lo : Int} {xs : List Frm} {P FA TA : Option Addr} {g b m : Nat} (h : YardAt w p mem0 lo xs P FA TA g b m) :
    RunOk p (stk p mem0 lo xs).mem lo (stk p mem0 lo xs).fin (wk0 (stk p mem0 lo xs).below) (countX p xs xs.length) (rootsX p xs xs.length) := by
  have hall := h.all
  have hl := h.chain.len
  refine chain_run h.sized h.chain (fun a ha => ?_) xs.length _ _ (Nat.le_refl _) (stk_below _ _ _ _) rfl fun x a h0 hx ha => (hall.fit _ x a hx ha).2
  obtain ⟨i, hi⟩ := List.mem_iff_getElem?.1 ha
  have hil := (List.getElem?_eq_some_iff.1 hi).1
  rw [hl] at hil
  exact (hall.fit i _ a (List.getElem?_eq_getElem hil) hi).1
theorem YardAt.roots {w : World} {p : List Fnc} {mem0 : List Int} {lo : Int} {xs : List Frm} {P FA TA : Option Addr} {g b m : Nat} (h : YardAt w p mem0 lo xs P FA TA g b m) : rootsM p (stk p mem0 lo xs).mem (stk p mem0 lo xs).below = (rootsX p xs xs.length, 0) := by
  rw [stk_below]
  exact roots_chain h.sized h.pl.2 h.chain (by have := h.ok.few; have := h.mlen; omega)
theorem YardAt.count {w : World} {p : List Fnc} {mem0 : List Int} {lo : Int} {xs : List Frm} {P FA TA : Option Addr} {g b m : Nat} (h : YardAt w p mem0 lo xs P FA TA g b m) : countX p xs xs.length ≤ 110 := by
  have := countX_le h.sized h.ok.may xs.length (Nat.le_refl _)
  have := h.ok.few
  omega
theorem run_look {p : List Fnc} {M : List Int} {lo fin : Int} {s : Wk} {n : Nat} {R : List Int} (h : RunOk p M lo fin s n R) (h0 : n = 0 → s.at_ = -1) {i : Nat} (hi : i < n ∨ i = 0) :
    (stepW p M (runW p M i s).1).2.2.2 = 0 ∧ (stepW p M (runW p M i s).1).2.2.1 = decide (n ≤ i + 1) ∧ (n ≤ i + 1 → (runW p M (i + 1) s).1.roots = s.roots ++ R ∧ (runW p M (i + 1) s).1.at_ = -1) := by
  by_cases hn : n = 0
  · subst hn
    obtain rfl : i = 0 := by omega
    have hst : stepW p M s = (s, (-1, true, 0)) := by unfold stepW; rw [if_pos (h0 rfl)]
    have hr := h.roots
    simp only [runW] at hr
    refine ⟨by simp [runW, hst], by simp [runW, hst], fun _ => ?_⟩
    simp only [runW, hst]
    exact ⟨hr, h0 rfl⟩
  · have hi' : i < n := by omega
    have hg := runW_get (p := p) (mem := M) n s hi'
    refine ⟨h.zero _ (List.mem_of_getElem? hg), ?_, fun hle => ?_⟩
    · have hd := h.done (by omega)
      have h1 := congrArg (fun l => l[i]?) hd
      simp only [List.getElem?_map, hg, Option.map_some] at h1
      unfold dones at h1
      by_cases hl : i = n - 1
      · rw [List.getElem?_append_right (by simp; omega)] at h1
        rw [List.length_replicate, show i - (n - 1) = 0 by omega] at h1
        simp only [List.getElem?_cons_zero, Option.some.injEq] at h1
        rw [h1, decide_eq_true (by omega)]
      · rw [List.getElem?_append_left (by simp; omega), List.getElem?_replicate, if_pos (by omega)] at h1
        simp only [Option.some.injEq] at h1
        rw [h1, decide_eq_false (by omega)]
    · obtain rfl : n = i + 1 := by omega
      exact ⟨h.roots, h.at_⟩
section
variable {w0 wy : World} {p : List Fnc} {mem0 : List Int} {lo : Int} {xs : List Frm} {P FA TA : Option Addr} {g b m pc fc tc q9 : Nat}
end
end Go.Proofs.Ytlccbaemcfjdoaa
