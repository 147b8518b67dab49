/-
  The maker's steps, as a plain rule: what it keeps true of its program, its depths.
  Conditions: none.
-/
import Derived.Test.YtlccbaemcfjdoaaP17
import Derived.Test.YtlccbaemcfjdoaaM17
set_option linter.unusedVariables false
set_option linter.unusedSimpArgs false
namespace Go.Proofs.Ytlccbaemcfjdoaa
open Go.RowKit

theorem push_get {p : List Fnc} {f i : Nat} {ins : Ins} {x : Fnc} (h : (p.modify f (·.push ins))[i]? = some x) : ∃ y, p[i]? = some y ∧ ((i = f ∧ x = y.push ins) ∨ (i ≠ f ∧ x = y)) := by
  rw [List.getElem?_modify] at h
  cases hp : p[i]? with
  | none => rw [hp] at h; simp at h
  | some y =>
    rw [hp] at h
    refine ⟨y, rfl, ?_⟩
    by_cases e : f = i
    · subst e; left; simp at h; exact ⟨rfl, h.symm⟩
    · right; simp [e] at h; exact ⟨fun h => e h.symm, h.symm⟩
theorem paramsM_push (p : List Fnc) (f : Nat) (ins : Ins) (a : Int) : paramsM (p.modify f (·.push ins)) a = paramsM p a := by
  unfold paramsM
  split
  · rfl
  · cases h : (p.modify f (·.push ins))[a.toNat]? with
    | none =>
      have h2 : p[a.toNat]? = none := by
        have := List.getElem?_eq_none_iff.1 h
        rw [List.length_modify] at this
        exact List.getElem?_eq_none this
      rw [h2]
    | some x =>
      obtain ⟨y, hy, ⟨_, rfl⟩ | ⟨_, rfl⟩⟩ := push_get h
      · rw [hy]; rfl
      · rw [hy]
theorem popsM_push (p : List Fnc) (f : Nat) (ins : Ins) : popsM (p.modify f (·.push ins)) = popsM p := by
  funext op a
  unfold popsM
  rw [paramsM_push]
/-- The maker is at a function; E: what depths are promised behind the next instruction. -/
structure Cur (s : MSt) (E : List Int) : Prop where
  pos : 1 ≤ s.p.length
  few : s.p.length ≤ 5
  f : s.f < s.p.length
  heads : ∀ x ∈ s.p, HeadOk x
  zero : ∀ x, s.p[0]? = some x → x.params = 0
  done : ∀ i x, i < s.f → s.p[i]? = some x → DoneF s.p.length (popsM s.p) x
  todo : ∀ i x, s.f < i → s.p[i]? = some x → x.code = []
  run : ∀ x, s.p[s.f]? = some x → Run (popsM s.p) x.code s.depth (s.now :: E) ∧ ∀ i ∈ x.code, FormOk s.p.length x i
  start : (s.depth ++ [s.now])[0]? = some 0
  now : 0 ≤ s.now ∧ s.now ≤ 8
theorem Cur.more {s : MSt} {E : List Int} (h : Cur s E) (E' : List Int) : Cur s (E ++ E') :=
  { h with run := fun x hx => ⟨by have := (h.run x hx).1.more E'; simpa using this, (h.run x hx).2⟩ }
theorem Cur.add {s : MSt} {E : List Int} {e : Int} (h : Cur s (e :: E)) (op a b : Int) (hf : ∀ x, s.p[s.f]? = some x → FormOk s.p.length x ⟨op, a, b⟩) (hp : popsM s.p op a ≤ s.now)
    (he : e = s.now - popsM s.p op a + pushesI op) (h8 : e ≤ 8) (ht : ∀ t ∈ nextM s.depth.length op a, 0 ≤ t ∧ (s.depth ++ s.now :: e :: E)[t.toNat]? = some e) : Cur (s.add op a b) E := by
  have hl : (s.add op a b).p.length = s.p.length := by simp [MSt.add]
  have hpops : popsM (s.add op a b).p = popsM s.p := popsM_push _ _ _
  have hnow : (s.add op a b).now = e := he.symm
  have hff : (s.add op a b).f = s.f := rfl
  have hd : (s.add op a b).depth = s.depth ++ [s.now] := rfl
  have hget : ∀ {i : Nat} {x : Fnc}, (s.add op a b).p[i]? = some x → ∃ y, s.p[i]? = some y ∧ ((i = s.f ∧ x = y.push ⟨op, a, b⟩) ∨ (i ≠ s.f ∧ x = y)) := fun h => push_get h
  have hpu := rowT_bd op
  refine ⟨by rw [hl]; exact h.pos, by rw [hl]; exact h.few, by rw [hl, hff]; exact h.f, fun x hx => ?_, fun x hx => ?_, fun i x hi hx => ?_, fun i x hi hx => ?_, fun x hx => ?_, ?_, by rw [hnow]; omega⟩
  · obtain ⟨i, hi⟩ := List.mem_iff_getElem?.1 hx
    obtain ⟨y, hy, ⟨_, rfl⟩ | ⟨_, rfl⟩⟩ := hget hi
    · exact h.heads y (List.mem_of_getElem? hy)
    · exact h.heads _ (List.mem_of_getElem? hy)
  · obtain ⟨y, hy, ⟨_, rfl⟩ | ⟨_, rfl⟩⟩ := hget hx
    · exact h.zero y hy
    · exact h.zero _ hy
  · rw [hl, hpops]
    rw [hff] at hi
    obtain ⟨y, hy, ⟨rfl, rfl⟩ | ⟨_, rfl⟩⟩ := hget hx
    · omega
    · exact h.done i _ hi hy
  · rw [hff] at hi
    obtain ⟨y, hy, ⟨rfl, rfl⟩ | ⟨_, rfl⟩⟩ := hget hx
    · omega
    · exact h.todo i _ hi hy
  · rw [hff] at hx
    obtain ⟨y, hy, ⟨_, rfl⟩ | ⟨hne, _⟩⟩ := hget hx
    · rw [hl, hpops, hnow, hd]
      obtain ⟨h1, h2⟩ := h.run y hy
      refine ⟨h1.add h.now.1 ⟨op, a, b⟩ hp (by rw [← he]; exact h8) (by rw [← h1.len, ← he]; exact ht), fun i hi => ?_⟩
      rcases List.mem_append.1 hi with hi | hi
      · exact h2 i hi
      · simp at hi; subst hi; exact hf y hy
    · exact absurd rfl hne
  · rw [hd, hnow]
    exact get_more h.start
theorem get_two {l : List Int} {x y : Int} {n : Int} (hn : n = (l.length : Int) + 1) : 0 ≤ n ∧ (l ++ [x, y])[n.toNat]? = some y := by
  subst hn
  refine ⟨by omega, ?_⟩
  rw [List.getElem?_append_right (by omega)]
  rw [show ((l.length : Int) + 1).toNat - l.length = 1 by omega]
  rfl
/-- A step to the next place. -/
theorem Cur.step {s : MSt} (h : Cur s []) (op a b : Int) (hn : nextM s.depth.length op a = [(s.depth.length : Int) + 1]) (hf : ∀ x, s.p[s.f]? = some x → FormOk s.p.length x ⟨op, a, b⟩) (hp : popsM s.p op a ≤ s.now)
    (h8 : s.now - popsM s.p op a + pushesI op ≤ 8) : Cur (s.add op a b) [] := by
  refine (h.more [s.now - popsM s.p op a + pushesI op]).add op a b hf hp rfl h8 fun t ht => ?_
  rw [hn] at ht
  simp at ht
  exact get_two ht
/-- All is promised that is behind. -/
theorem Cur.fin {s : MSt} (h : Cur s []) (hnow : 1 ≤ s.now) (hlen : s.depth.length ≤ 61) : ∀ x, (s.add 18 0 0).p[s.f]? = some x → DoneF s.p.length (popsM s.p) x := by
  intro x hx
  obtain ⟨y, hy, ⟨_, rfl⟩ | ⟨hne, _⟩⟩ := push_get hx
  · obtain ⟨h1, h2⟩ := h.run y hy
    have hp : popsM s.p 18 0 = 1 := by simp [popsM, rowT]
    have hq : pushesI 18 = 0 := by simp [pushesI, rowT]
    have hr := h1.add h.now.1 ⟨18, 0, 0⟩ (by rw [hp]; exact hnow) (by simp only [hp, hq]; have := h.now.2; omega) (by intro t ht; simp [nextM] at ht)
    have hl := h1.len
    refine ⟨by simp [Fnc.push], by simp [Fnc.push]; omega, fun i hi => ?_, _, hr, h.start⟩
    rcases List.mem_append.1 hi with hi | hi
    · exact h2 i hi
    · simp at hi; subst hi
      intro n _
      simp [shapedM, kindM, rowT]
  · exact absurd rfl hne
end Go.Proofs.Ytlccbaemcfjdoaa
