/-
  The maker of programs by numbers, as a plain rule; how it lies in memory; calls of its functions.
  Conditions: none.
-/
import Derived.Test.YtlccbaemcfjdoaaEngG
import Derived.Test.YtlccbaemcfjdoaaK17
import Derived.Test.YtlccbaemcfjdoaaVB
set_option linter.unusedVariables false
set_option linter.unusedSimpArgs false
namespace Go.Proofs.Ytlccbaemcfjdoaa
open Go.RowKit

/-- What the maker holds: the numbers that are left, the program, the function, the depth ahead of each instruction, and now. -/
structure MSt where
  ns : List Int
  p : List Fnc
  f : Nat
  depth : List Int
  now : Int
def Fnc.push (x : Fnc) (i : Ins) : Fnc := { x with code := x.code ++ [i] }
def MSt.add (s : MSt) (op a b : Int) : MSt :=
  { s with p := s.p.modify s.f (·.push ⟨op, a, b⟩), depth := s.depth ++ [s.now], now := s.now - popsM s.p op a + pushesI op }
/-- The cells of a program's functions, their code's slices given. -/
def fncV (x : Fnc) (c : Value) : List Value := [.int .i64 x.params, .int .i64 x.locals, .int .i64 x.refs, c]
def fncsV : List Fnc → List Value → List Value
  | x :: p, c :: cs => fncV x c ++ fncsV p cs
  | _, _ => []
theorem fncs_get : ∀ {p : List Fnc} {cs : List Value} {i : Nat} {x : Fnc} {c : Value}, p[i]? = some x → cs[i]? = some c →
    (fncsV p cs)[i * 4]? = some (.int .i64 x.params) ∧ (fncsV p cs)[i * 4 + 1]? = some (.int .i64 x.locals) ∧ (fncsV p cs)[i * 4 + 2]? = some (.int .i64 x.refs) ∧ (fncsV p cs)[i * 4 + 3]? = some c
  | [], cs, i, x, c, h, _ => by simp at h
  | y :: p, [], i, x, c, _, h => by simp at h
  | y :: p, d :: cs, 0, x, c, h, hc => by
    simp at h hc; subst h; subst hc
    simp [fncsV, fncV]
  | y :: p, d :: cs, i + 1, x, c, h, hc => by
    obtain ⟨h1, h2, h3, h4⟩ := fncs_get (p := p) (cs := cs) (i := i) (by simpa using h) (by simpa using hc)
    have e : ∀ j, (fncsV (y :: p) (d :: cs))[(i + 1) * 4 + j]? = (fncsV p cs)[i * 4 + j]? := fun j => by
      rw [show (i + 1) * 4 + j = (i * 4 + j) + 4 by omega]
      rfl
    exact ⟨by have := e 0; rw [Nat.add_zero, Nat.add_zero] at this; rw [this]; exact h1, by rw [e]; exact h2, by rw [e]; exact h3, by rw [e]; exact h4⟩
theorem fncs_len : ∀ {p : List Fnc} {cs : List Value}, cs.length = p.length → (fncsV p cs).length = p.length * 4
  | [], cs, h => by simp [fncsV]
  | y :: p, [], h => by simp at h
  | y :: p, d :: cs, h => by
    have := fncs_len (p := p) (cs := cs) (by simpa using h)
    simp [fncsV, fncV, this]; omega
theorem fncs_set (ins : Ins) (v : Value) : ∀ {p : List Fnc} {cs : List Value} (f : Nat), (fncsV p cs).set (f * 4 + 3) v = fncsV (p.modify f (·.push ins)) (cs.set f v)
  | [], cs, f => by simp [fncsV]
  | y :: p, [], f => by cases f <;> simp [fncsV]
  | y :: p, d :: cs, 0 => rfl
  | y :: p, d :: cs, f + 1 => by
    have := fncs_set ins v (p := p) (cs := cs) f
    rw [show (f + 1) * 4 + 3 = (f * 4 + 3) + 4 by omega]
    simp only [fncsV, fncV, List.modify_succ_cons, List.set_cons_succ, List.cons_append, List.nil_append]
    rw [← this]
theorem fncs_snoc (x : Fnc) (c : Value) : ∀ {p : List Fnc} {cs : List Value}, cs.length = p.length → fncsV (p ++ [x]) (cs ++ [c]) = fncsV p cs ++ fncV x c
  | [], [], h => by simp [fncsV]
  | [], d :: cs, h => by simp at h
  | y :: p, [], h => by simp at h
  | y :: p, d :: cs, h => by
    have := fncs_snoc x c (p := p) (cs := cs) (by simpa using h)
    simp only [List.cons_append, fncsV, this, List.append_assoc]

/-- No block stands at two places. -/
def Apart (O : List (Option Nat)) : Prop := ∀ (i j k : Nat), O[i]? = some (some k) → O[j]? = some (some k) → i = j
theorem Apart.set {O : List (Option Nat)} (h : Apart O) {i : Nat} {o : Option Nat} (ho : ∀ k, o = some k → O[i]? = some (some k) ∨ ∀ j : Nat, O[j]? ≠ some (some k)) : Apart (O.set i o) := by
  have key : ∀ a k, (O.set i o)[a]? = some (some k) → (a = i ∧ o = some k) ∨ (a ≠ i ∧ O[a]? = some (some k)) := fun a k ha => by
    rw [List.getElem?_set] at ha
    split at ha
    · rename_i e
      split at ha
      · simp at ha; exact .inl ⟨e.symm, ha⟩
      · simp at ha
    · rename_i e; exact .inr ⟨fun h => e h.symm, ha⟩
  intro a b k ha hb
  rcases key a k ha with ⟨rfl, hk⟩ | ⟨h1, ha'⟩
  · rcases key b k hb with ⟨rfl, _⟩ | ⟨h2, hb'⟩
    · rfl
    · rcases ho k hk with h3 | h3
      · exact absurd (h _ _ k hb' h3) h2
      · exact absurd hb' (h3 b)
  · rcases key b k hb with ⟨rfl, hk⟩ | ⟨h2, hb'⟩
    · rcases ho k hk with h3 | h3
      · exact absurd (h _ _ k ha' h3) h1
      · exact absurd ha' (h3 a)
    · exact h _ _ k ha' hb'
theorem Apart.none {O : List (Option Nat)} (h : Apart O) : Apart (O ++ [none]) := by
  have key : ∀ (a k : Nat), (O ++ [Option.none])[a]? = some (some k) → O[a]? = some (some k) := fun a k ha => by
    by_cases hl : a < O.length
    · rwa [List.getElem?_append_left hl] at ha
    · rw [List.getElem?_append_right (by omega)] at ha
      cases hx : a - O.length with
      | zero => rw [hx] at ha; simp at ha
      | succ m => rw [hx] at ha; simp at ha
  exact fun a b k ha hb => h a b k (key a k ha) (key b k hb)
theorem nums_block1 {k : IntKind} {w w' : World} {A : Option Addr} {l : Nat} {xs : List Int} (h : Nums k w A l xs) (hw : ∀ p, A = some p → 0 < l → w'.heap[p.block]? = w.heap[p.block]?) : Nums k w' A l xs :=
  ⟨h.len, h.small, fun i x hx => by
    obtain ⟨p, hp, he⟩ := h.get i x hx
    refine ⟨p, hp, ?_⟩
    have : ((p.add (i * 1)).block) = p.block := add_block _ _
    have hl := (List.getElem?_eq_some_iff.1 hx).1
    exact (cell_same (by rw [this]; exact hw p hp (by rw [← h.len]; omega))).trans he⟩
abbrev ownO (g : Nat) (vF vD : Value) (cs : List Value) : List (Option Nat) := some g :: vF.ownBlock :: vD.ownBlock :: cs.map Value.ownBlock
/-- The maker lies in block g; vF, vD: its slices; cs: its functions' code. -/
structure MakerAt (B : Nat) (w : World) (g : Nat) (s : MSt) (A : Option Addr) (ln cn : Nat) (vF vD : Value) (cs : List Value) : Prop where
  cells : w.heap[g]? = some (.cells ⟨[.slice A ln cn, vF, .int .i64 s.f, vD, .int .i64 s.now]⟩ 142 (0, 0))
  ns : Nums .u8 w A ln s.ns
  byte : ∀ n ∈ s.ns, 0 ≤ n ∧ n < 256
  old : ∀ q, A = some q → 0 < ln → q.block < B
  cap : ln ≤ cn
  fns : w.ownsRow B 29 4 vF s.p.length (fncsV s.p cs)
  len : cs.length = s.p.length
  code : ∀ (i : Nat) (x : Fnc) (c : Value), s.p[i]? = some x → cs[i]? = some c → w.ownsRow B 26 3 c x.code.length (x.code.flatMap insV)
  dep : w.ownsRow B 3 1 vD s.depth.length (s.depth.map (.int .i64))
  above : B ≤ g
  apart : Apart (ownO g vF vD cs)
section
variable {B g : Nat} {w : World} {s : MSt} {A : Option Addr} {ln cn : Nat} {vF vD : Value} {cs : List Value}
theorem MakerAt.at (h : MakerAt B w g s A ln cn vF vD cs) {i : Nat} (hi : i < s.p.length) : ∃ x c, s.p[i]? = some x ∧ cs[i]? = some c := by
  exact ⟨_, _, List.getElem?_eq_getElem hi, List.getElem?_eq_getElem (by rw [h.len]; exact hi)⟩
theorem MakerAt.cs_at (h : MakerAt B w g s A ln cn vF vD cs) {i : Nat} {c : Value} (hc : cs[i]? = some c) : ∃ x, s.p[i]? = some x := by
  have := (List.getElem?_eq_some_iff.1 hc).1
  exact ⟨_, List.getElem?_eq_getElem (by rw [← h.len]; exact this)⟩
theorem MakerAt.blocks (h : MakerAt B w g s A ln cn vF vD cs) {k : Nat} (hk : some k ∈ ownO g vF vD cs) : B ≤ k ∧ ∃ c t f, w.heap[k]? = some (Obj.cells c t f) := by
  have one : ∀ {e : TypeId} {size n : Nat} {v : Value} {xs : List Value}, w.ownsRow B e size v n xs → some k = v.ownBlock → B ≤ k ∧ ∃ c t f, w.heap[k]? = some (Obj.cells c t f) := fun ho hv => by
    rcases ho.2 with ⟨rfl, _⟩ | ⟨g', cap, cur, rfl, hb, hg, _⟩
    · cases hv
    · cases hv; exact ⟨hb, _, _, _, hg⟩
  rcases List.mem_cons.1 hk with e | hk
  · cases e; exact ⟨h.above, _, _, _, h.cells⟩
  · rcases List.mem_cons.1 hk with e | hk
    · exact one h.fns e
    · rcases List.mem_cons.1 hk with e | hk
      · exact one h.dep e
      · obtain ⟨c, hc, e⟩ := List.mem_map.1 hk
        obtain ⟨i, hi⟩ := List.mem_iff_getElem?.1 hc
        obtain ⟨x, hx⟩ := h.cs_at hi
        exact one (h.code i x c hx hi) e.symm
theorem MakerAt.lt (h : MakerAt B w g s A ln cn vF vD cs) {k : Nat} (hk : some k ∈ ownO g vF vD cs) : k < w.heap.size := by
  obtain ⟨_, c, t, f, hh⟩ := h.blocks hk
  exact lt_of_some hh
/-- The same blocks, the same old memory: the same maker. -/
theorem MakerAt.same (h : MakerAt B w g s A ln cn vF vD cs) {w' : World} (hk : ∀ k, some k ∈ ownO g vF vD cs → w'.heap[k]? = w.heap[k]?) (hB : ∀ k, k < B → w'.heap[k]? = w.heap[k]?) : MakerAt B w' g s A ln cn vF vD cs :=
  { h with
    cells := by rw [hk g (by simp)]; exact h.cells
    ns := nums_block1 h.ns fun q hq hl => hB _ (h.old q hq hl)
    fns := owns_other h.fns fun k e => hk k (by simp [e])
    code := fun i x c hx hc => owns_other (h.code i x c hx hc) fun k e => hk k (by
      simp only [List.mem_cons, List.mem_map]
      exact .inr (.inr (.inr ⟨c, List.mem_of_getElem? hc, e⟩)))
    dep := owns_other h.dep fun k e => hk k (by simp [e]) }
theorem MakerAt.ext (h : MakerAt B w g s A ln cn vF vD cs) {w' : World} {B' : Nat} (he : Ext B' w w') (hB : B ≤ B') : MakerAt B w' g s A ln cn vF vD cs :=
  h.same (fun k hk => by obtain ⟨_, c, t, f, hh⟩ := h.blocks hk; rw [hh, he.row _ _ _ _ hh]) fun k hk => he.low k (Nat.lt_of_lt_of_le hk hB)
end
/-- A call of one of the maker's functions: from s it returns, and leaves what R tells. -/
def Works (f : Nat) (args : List Value) (B g : Nat) (s : MSt) (R : Value → MSt → Prop) : Prop :=
  ∀ (w : World) (A : Option Addr) (ln cn : Nat) (vF vD : Value) (cs : List Value), MakerAt B w g s A ln cn vF vD cs → B ≤ w.heap.size →
    Turns Try.prog f args w (fun k => some k ∈ ownO g vF vD cs) fun v w' => ∃ s' A' ln' cn' vF' vD' cs', R v s' ∧ MakerAt B w' g s' A' ln' cn' vF' vD' cs' ∧ ∀ k, some k ∈ ownO g vF' vD' cs' → some k ∈ ownO g vF vD cs ∨ w.heap.size ≤ k
/-- In a function that began at w0, with the maker's blocks in S then. -/
structure MK (B g : Nat) (S : Nat → Prop) (w0 w : World) (s : MSt) (A : Option Addr) (ln cn : Nat) (vF vD : Value) (cs : List Value) : Prop where
  mem : MakerAt B w g s A ln cn vF vD cs
  chg : Chg S w0 w
  blk : ∀ k, some k ∈ ownO g vF vD cs → S k ∨ w0.heap.size ≤ k
  low : B ≤ w0.heap.size
/-- What a function of the maker's leaves. -/
def MkQ (B g : Nat) (S : Nat → Prop) (w0 : World) (R : Value → MSt → Prop) : Value → World → Prop := fun v w' => ∃ s' A' ln' cn' vF' vD' cs', R v s' ∧ MakerAt B w' g s' A' ln' cn' vF' vD' cs' ∧ ∀ k, some k ∈ ownO g vF' vD' cs' → S k ∨ w0.heap.size ≤ k
section
variable {B g : Nat} {S : Nat → Prop} {w0 w : World} {s : MSt} {A : Option Addr} {ln cn : Nat} {vF vD : Value} {cs : List Value}
theorem MK.begin (h : MakerAt B w g s A ln cn vF vD cs) (hB : B ≤ w.heap.size) : MK B g (fun k => some k ∈ ownO g vF vD cs) w w s A ln cn vF vD cs :=
  ⟨h, ⟨rfl, rfl, rfl, Nat.le_refl _, fun _ _ _ => rfl⟩, fun k hk => .inl hk, hB⟩
theorem MK.ext (h : MK B g S w0 w s A ln cn vF vD cs) {w' : World} (he : Ext w0.heap.size w w') : MK B g S w0 w' s A ln cn vF vD cs :=
  ⟨h.mem.ext he h.low, ext_chg h.chg he, h.blk, h.low⟩
theorem ret_mk (h : MK B g S w0 w s A ln cn vF vD cs) {R : Value → MSt → Prop} {u : Value} (hr : R u s) : Ret w0.heap.size w (IsT w0 S (MkQ B g S w0 R) u) :=
  ret_t h.chg fun w1 he => ⟨s, A, ln, cn, vF, vD, cs, hr, (h.ext he).mem, h.blk⟩
theorem call_mk {f : Nat} {args : List Value} {bs : List Nat} {R : Value → MSt → Prop} {K : Value → World → Prop} (h : MK B g S w0 w s A ln cn vF vD cs) (hc : Works f args B g s R)
    (hk : ∀ v s' w' A' ln' cn' vF' vD' cs', R v s' → MK B g S w0 w' s' A' ln' cn' vF' vD' cs' → K v w') : CallK Try.prog f args w0.heap.size w bs K := by
  refine call_turns (S := fun k => some k ∈ ownO g vF vD cs) (Q := fun w1 v w2 => ∃ s' A' ln' cn' vF' vD' cs', R v s' ∧ MakerAt B w2 g s' A' ln' cn' vF' vD' cs' ∧ ∀ k, some k ∈ ownO g vF' vD' cs' → some k ∈ ownO g vF vD cs ∨ w1.heap.size ≤ k)
    h.chg.size (fun k hk => (h.mem.blocks hk).2) (fun w1 he => hc w1 A ln cn vF vD cs (h.mem.ext he h.low) (Nat.le_trans h.low (Nat.le_trans h.chg.size he.size))) ?_
  intro w1 v w2 w' hsz he hchg ⟨s', A', ln', cn', vF', vD', cs', hR, hm, hown⟩ hS hnew hrow hlow hos htape hout hsz2
  have hblk : ∀ k, some k ∈ ownO g vF' vD' cs' → w'.heap[k]? = w2.heap[k]? := fun k hk => by
    rcases hown k hk with h1 | h1
    · exact hS k h1
    · exact hnew k h1
  have hold : ∀ k, k < B → w'.heap[k]? = w2.heap[k]? := fun k hk => by
    have hns : ¬ some k ∈ ownO g vF vD cs := fun hin => by have := (h.mem.blocks hin).1; omega
    have hk0 : k < w0.heap.size := Nat.lt_of_lt_of_le hk h.low
    have hk1 : k < w1.heap.size := Nat.lt_of_lt_of_le hk0 (Nat.le_trans h.chg.size hsz)
    rw [hlow k hk0 hns, hchg.block k hk1 hns, he.low k hk0]
  refine hk v s' w' A' ln' cn' vF' vD' cs' hR ⟨hm.same hblk hold, ⟨hos.trans h.chg.os, htape.trans h.chg.tape, hout.trans h.chg.output, Nat.le_trans h.chg.size (Nat.le_trans hsz hsz2), fun k hk hnS => ?_⟩, fun k hk => ?_, h.low⟩
  · have hns : ¬ some k ∈ ownO g vF vD cs := fun hin => by
      rcases h.blk k hin with h1 | h1
      · exact hnS h1
      · omega
    rw [hlow k hk hns, h.chg.block k hk hnS]
  · rcases hown k hk with h1 | h1
    · exact h.blk k h1
    · exact .inr (Nat.le_trans (Nat.le_trans h.chg.size hsz) h1)
end
end Go.Proofs.Ytlccbaemcfjdoaa
