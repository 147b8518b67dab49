import Derived.Test.YtidcpndlloppdaaGreatDoorZEngD
import Derived.Test.YtidcpndlloppdaaGreatDoorZK17
import Derived.Test.YtidcpndlloppdaaGreatDoorZVB
/-
  The maker of programs by numbers, as a plain rule; how it lies in memory; calls of its functions.
  Conditions: none.
-/
set_option linter.unusedVariables false
set_option linter.unusedSimpArgs false
namespace Go.Proofs.YtidcpndlloppdaaGreatDoor
open Go.RowKit
structure MSt where
  ns : List Int
  p : List Fnc
  f : Nat
  depth : List Int
  now : Int
def Fnc.push (x : Fnc) (i : Ins) : Fnc := { x with code := x.code ++ [i] }
def MSt.add (s : MSt) (op a b : Int) : MSt :=
  { s with p := s.p.modify s.f (·.push ⟨op, a, b⟩), depth := s.depth ++ [s.now], now := s.now - popsM s.p op a + pushesI op }
def fncV (x : Fnc) (c : Value) : List Value := [.int .i64 x.params, .int .i64 x.locals, .int .i64 x.refs, c]
def fncsV : List Fnc → List Value → List Value
  | x :: p, c :: cs => fncV x c ++ fncsV p cs
  | _, _ => []
theorem fncs_get : ∀ {p : List Fnc} {cs : List Value} {i : Nat} {x : Fnc} {c : Value}, p[i]? = some x → cs[i]? = some c →
    (fncsV p cs)[i * 4]? = some (.int .i64 x.params) ∧ (fncsV p cs)[i * 4 + 1]? = some (.int .i64 x.locals) ∧ (fncsV p cs)[i * 4 + 2]? = some (.int .i64 x.refs) ∧ (fncsV p cs)[i * 4 + 3]? = some c
  | [], cs, i, x, c, h, _ => by simp at h
  | y :: p, [], i, x, c, _, h => by simp at h
  | y :: p, d :: cs, 0, x, c, h, hc => by
    simp at h hc; subst h; subst hc
    simp [fncsV, fncV]
  | y :: p, d :: cs, i + 1, x, c, h, hc => by
    obtain ⟨h1, h2, h3, h4⟩ := fncs_get (p := p) (cs := cs) (i := i) (by simpa using h) (by simpa using hc)
    have e : ∀ j, (fncsV (y :: p) (d :: cs))[(i + 1) * 4 + j]? = (fncsV p cs)[i * 4 + j]? := fun j => by
      rw [show (i + 1) * 4 + j = (i * 4 + j) + 4 by omega]
      rfl
    exact ⟨by have := e 0; rw [Nat.add_zero, Nat.add_zero] at this; rw [this]; exact h1, by rw [e]; exact h2, by rw [e]; exact h3, by rw [e]; exact h4⟩
theorem fncs_set (ins : Ins) (v : Value) : ∀ {p : List Fnc} {cs : List Value} (f : Nat), (fncsV p cs).set (f * 4 + 3) v = fncsV (p.modify f (·.push ins)) (cs.set f v)
  | [], cs, f => by simp [fncsV]
  | y :: p, [], f => by cases f <;> simp [fncsV]
  | y :: p, d :: cs, 0 => rfl
  | y :: p, d :: cs, f + 1 => by
    have := fncs_set ins v (p := p) (cs := cs) f
    rw [show (f + 1) * 4 + 3 = (f * 4 + 3) + 4 by omega]
    simp only [fncsV, fncV, List.modify_succ_cons, List.set_cons_succ, List.cons_append, List.nil_append]
    rw [← this]
theorem fncs_snoc (x : Fnc) (c : Value) : ∀ {p : List Fnc} {cs : List Value}, cs.length = p.length → fncsV (p ++ [x]) (cs ++ [c]) = fncsV p cs ++ fncV x c
  | [], [], h => by simp [fncsV]
  | [], d :: cs, h => by simp at h
  | y :: p, [], h => by simp at h
  | y :: p, d :: cs, h => by
    have := fncs_snoc x c (p := p) (cs := cs) (by simpa using h)
    simp only [List.cons_append, fncsV, this, List.append_assoc]
def Apart (O : List (Option Nat)) : Prop := ∀ (i j k : Nat), O[i]? = some (some k) → O[j]? = some (some k) → i = j
theorem Apart.set {O : List (Option Nat)} (h : Apart O) {i : Nat} {o : Option Nat} (ho : ∀ k, o = some k → O[i]? = some (some k) ∨ ∀ j : Nat, O[j]? ≠ some (some k)) : Apart (O.set i o) := by
  have key : ∀ a k, (O.set i o)[a]? = some (some k) → (a = i ∧ o = some k) ∨ (a ≠ i ∧ O[a]? = some (some k)) := fun a k ha => by
    rw [List.getElem?_set] at ha
    split at ha
    · rename_i e
      split at ha
      · simp at ha; exact .inl ⟨e.symm, ha⟩
      · simp at ha
    · rename_i e; exact .inr ⟨fun h => e h.symm, ha⟩
  intro a b k ha hb
  rcases key a k ha with ⟨rfl, hk⟩ | ⟨h1, ha'⟩
  · rcases key b k hb with ⟨rfl, _⟩ | ⟨h2, hb'⟩
    · rfl
    · rcases ho k hk with h3 | h3
      · exact absurd (h _ _ k hb' h3) h2
      · exact absurd hb' (h3 b)
  · rcases key b k hb with ⟨rfl, hk⟩ | ⟨h2, hb'⟩
    · rcases ho k hk with h3 | h3
      · exact absurd (h _ _ k ha' h3) h1
      · exact absurd ha' (h3 a)
    · exact h _ _ k ha' hb'
theorem Apart.none {O : List (Option Nat)} (h : Apart O) : Apart (O ++ [none]) := by
  have key : ∀ (a k : Nat), (O ++ [Option.none])[a]? = some (some k) → O[a]? = some (some k) := fun a k ha => by
    by_cases hl : a < O.length
    · rwa [List.getElem?_append_left hl] at ha
    · rw [List.getElem?_append_right (by omega)] at ha
      cases hx : a - O.length with
      | zero => rw [hx] at ha; simp at ha
      | succ m => rw [hx] at ha; simp at ha
  exact fun a b k ha hb => h a b k (key a k ha) (key b k hb)
theorem nums_block1 {k : IntKind} {w w' : World} {A : Option Addr} {l : Nat} {xs : List Int} (h : Nums k w A l xs) (hw : ∀ p, A = some p → 0 < l → w'.heap[p.block]? = w.heap[p.block]?) : Nums k w' A l xs :=
  ⟨h.len, h.small, fun i x hx => by
    obtain ⟨p, hp, he⟩ := h.get i x hx
    refine ⟨p, hp, ?_⟩
    have : ((p.add (i * 1)).block) = p.block := add_block _ _
    have hl := (List.getElem?_eq_some_iff.1 hx).1
    exact (cell_same (by rw [this]; exact hw p hp (by rw [← h.len]; omega))).trans he⟩
abbrev ownO (g : Nat) (vF vD : Value) (cs : List Value) : List (Option Nat) := some g :: vF.ownBlock :: vD.ownBlock :: cs.map Value.ownBlock
structure MakerAt (B : Nat) (w : World) (g : Nat) (s : MSt) (A : Option Addr) (ln cn : Nat) (vF vD : Value) (cs : List Value) : Prop where
  cells : w.heap[g]? = some (.cells ⟨[.slice A ln cn, vF, .int .i64 s.f, vD, .int .i64 s.now]⟩ 59 (0, 0))
  ns : Nums .u8 w A ln s.ns
  byte : ∀ n ∈ s.ns, 0 ≤ n ∧ n < 256
  old : ∀ q, A = some q → 0 < ln → q.block < B
  cap : ln ≤ cn
  fns : w.ownsRow B 63 4 vF s.p.length (fncsV s.p cs)
  len : cs.length = s.p.length
  code : ∀ (i : Nat) (x : Fnc) (c : Value), s.p[i]? = some x → cs[i]? = some c → w.ownsRow B 67 3 c x.code.length (x.code.flatMap insV)
  dep : w.ownsRow B 3 1 vD s.depth.length (s.depth.map (.int .i64))
  above : B ≤ g
  apart : Apart (ownO g vF vD cs)
section
variable {B g : Nat} {w : World} {s : MSt} {A : Option Addr} {ln cn : Nat} {vF vD : Value} {cs : List Value}
theorem MakerAt.at (h : MakerAt B w g s A ln cn vF vD cs) {i : Nat} (hi : i < s.p.length) : ∃ x c, s.p[i]? = some x ∧ cs[i]? = some c := by
  exact ⟨_, _, List.getElem?_eq_getElem hi, List.getElem?_eq_getElem (by rw [h.len]; exact hi)⟩
theorem MakerAt.cs_at (h : MakerAt B w g s A ln cn vF vD cs) {i : Nat} {c : Value} (hc : cs[i]? = some c) : ∃ x, s.p[i]? = some x := by
  have := (List.getElem?_eq_some_iff.1 hc).1
  exact ⟨_, List.getElem?_eq_getElem (by rw [← h.len]; exact this)⟩
theorem MakerAt.blocks (h : MakerAt B w g s A ln cn vF vD cs) {k : Nat} (hk : some k ∈ ownO g vF vD cs) : B ≤ k ∧ ∃ c t f, w.heap[k]? = some (Obj.cells c t f) := by
  have one : ∀ {e : TypeId} {size n : Nat} {v : Value} {xs : List Value}, w.ownsRow B e size v n xs → some k = v.ownBlock → B ≤ k ∧ ∃ c t f, w.heap[k]? = some (Obj.cells c t f) := fun ho hv => by
    rcases ho.2 with ⟨rfl, _⟩ | ⟨g', cap, cur, rfl, hb, hg, _⟩
    · cases hv
    · cases hv; exact ⟨hb, _, _, _, hg⟩
  rcases List.mem_cons.1 hk with e | hk
  · cases e; exact ⟨h.above, _, _, _, h.cells⟩
  · rcases List.mem_cons.1 hk with e | hk
    · exact one h.fns e
    · rcases List.mem_cons.1 hk with e | hk
      · exact one h.dep e
      · obtain ⟨c, hc, e⟩ := List.mem_map.1 hk
        obtain ⟨i, hi⟩ := List.mem_iff_getElem?.1 hc
        obtain ⟨x, hx⟩ := h.cs_at hi
        exact one (h.code i x c hx hi) e.symm
theorem MakerAt.lt (h : MakerAt B w g s A ln cn vF vD cs) {k : Nat} (hk : some k ∈ ownO g vF vD cs) : k < w.heap.size := by
  obtain ⟨_, c, t, f, hh⟩ := h.blocks hk
  exact lt_of_some hh
theorem MakerAt.same (h : MakerAt B w g s A ln cn vF vD cs) {w' : World} (hk : ∀ k, some k ∈ ownO g vF vD cs → w'.heap[k]? = w.heap[k]?) (hB : ∀ k, k < B → w'.heap[k]? = w.heap[k]?) : MakerAt B w' g s A ln cn vF vD cs :=
  { h with
    cells := by rw [hk g (by simp)]; exact h.cells
    ns := nums_block1 h.ns fun q hq hl => hB _ (h.old q hq hl)
    fns := owns_other h.fns fun k e => hk k (by simp [e])
    code := fun i x c hx hc => owns_other (h.code i x c hx hc) fun k e => hk k (by
      simp only [List.mem_cons, List.mem_map]
      exact .inr (.inr (.inr ⟨c, List.mem_of_getElem? hc, e⟩)))
    dep := owns_other h.dep fun k e => hk k (by simp [e]) }
theorem MakerAt.ext (h : MakerAt B w g s A ln cn vF vD cs) {w' : World} {B' : Nat} (he : Ext B' w w') (hB : B ≤ B') : MakerAt B w' g s A ln cn vF vD cs :=
  h.same (fun k hk => by obtain ⟨_, c, t, f, hh⟩ := h.blocks hk; rw [hh, he.row _ _ _ _ hh]) fun k hk => he.low k (Nat.lt_of_lt_of_le hk hB)
end
def Works (f : Nat) (args : List Value) (B g : Nat) (s : MSt) (R : Value → MSt → Prop) : Prop :=
  ∀ (w : World) (A : Option Addr) (ln cn : Nat) (vF vD : Value) (cs : List Value), MakerAt B w g s A ln cn vF vD cs → B ≤ w.heap.size →
    Turns Tryz.prog f args w (fun k => some k ∈ ownO g vF vD cs) fun v w' => ∃ s' A' ln' cn' vF' vD' cs', R v s' ∧ MakerAt B w' g s' A' ln' cn' vF' vD' cs' ∧ ∀ k, some k ∈ ownO g vF' vD' cs' → some k ∈ ownO g vF vD cs ∨ w.heap.size ≤ k
structure MK (B g : Nat) (S : Nat → Prop) (w0 w : World) (s : MSt) (A : Option Addr) (ln cn : Nat) (vF vD : Value) (cs : List Value) : Prop where
  mem : MakerAt B w g s A ln cn vF vD cs
  chg : Chg S w0 w
  blk : ∀ k, some k ∈ ownO g vF vD cs → S k ∨ w0.heap.size ≤ k
  low : B ≤ w0.heap.size
def MkQ (B g : Nat) (S : Nat → Prop) (w0 : World) (R : Value → MSt → Prop) : Value → World → Prop := fun v w' => ∃ s' A' ln' cn' vF' vD' cs', R v s' ∧ MakerAt B w' g s' A' ln' cn' vF' vD' cs' ∧ ∀ k, some k ∈ ownO g vF' vD' cs' → S k ∨ w0.heap.size ≤ k
section
variable {B g : Nat} {S : Nat → Prop} {w0 w : World} {s : MSt} {A : Option Addr} {ln cn : Nat} {vF vD : Value} {cs : List Value}
theorem MK.begin (h : MakerAt B w g s A ln cn vF vD cs) (hB : B ≤ w.heap.size) : MK B g (fun k => some k ∈ ownO g vF vD cs) w w s A ln cn vF vD cs :=
  ⟨h, ⟨rfl, rfl, rfl, Nat.le_refl _, fun _ _ _ => rfl⟩, fun k hk => .inl hk, hB⟩
theorem MK.ext (h : MK B g S w0 w s A ln cn vF vD cs) {w' : World} (he : Ext w0.heap.size w w') : MK B g S w0 w' s A ln cn vF vD cs :=
  ⟨h.mem.ext he h.low, ext_chg h.chg he, h.blk, h.low⟩
theorem ret_mk (h : MK B g S w0 w s A ln cn vF vD cs) {R : Value → MSt → Prop} {u : Value} (hr : R u s) : Ret w0.heap.size w (IsT w0 S (MkQ B g S w0 R) u) :=
  ret_t h.chg fun w1 he => ⟨s, A, ln, cn, vF, vD, cs, hr, (h.ext he).mem, h.blk⟩
theorem call_mk {f : Nat} {args : List Value} {bs : List Nat} {R : Value → MSt → Prop} {K : Value → World → Prop} (h : MK B g S w0 w s A ln cn vF vD cs) (hc : Works f args B g s R)
    (hk : ∀ v s' w' A' ln' cn' vF' vD' cs', R v s' → MK B g S w0 w' s' A' ln' cn' vF' vD' cs' → K v w') : CallK Tryz.prog f args w0.heap.size w bs K := by
  refine call_turns (S := fun k => some k ∈ ownO g vF vD cs) (Q := fun w1 v w2 => ∃ s' A' ln' cn' vF' vD' cs', R v s' ∧ MakerAt B w2 g s' A' ln' cn' vF' vD' cs' ∧ ∀ k, some k ∈ ownO g vF' vD' cs' → some k ∈ ownO g vF vD cs ∨ w1.heap.size ≤ k)
    h.chg.size (fun k hk => (h.mem.blocks hk).2) (fun w1 he => hc w1 A ln cn vF vD cs (h.mem.ext he h.low) (Nat.le_trans h.low (Nat.le_trans h.chg.size he.size))) ?_
  intro w1 v w2 w' hsz he hchg ⟨s', A', ln', cn', vF', vD', cs', hR, hm, hown⟩ hS hnew hrow hlow hos htape hout hsz2
  have hblk : ∀ k, some k ∈ ownO g vF' vD' cs' → w'.heap[k]? = w2.heap[k]? := fun k hk => by
    rcases hown k hk with h1 | h1
    · exact hS k h1
    · exact hnew k h1
  have hold : ∀ k, k < B → w'.heap[k]? = w2.heap[k]? := fun k hk => by
    have hns : ¬ some k ∈ ownO g vF vD cs := fun hin => by have := (h.mem.blocks hin).1; omega
    have hk0 : k < w0.heap.size := Nat.lt_of_lt_of_le hk h.low
    have hk1 : k < w1.heap.size := Nat.lt_of_lt_of_le hk0 (Nat.le_trans h.chg.size hsz)
    rw [hlow k hk0 hns, hchg.block k hk1 hns, he.low k hk0]
  refine hk v s' w' A' ln' cn' vF' vD' cs' hR ⟨hm.same hblk hold, ⟨hos.trans h.chg.os, htape.trans h.chg.tape, hout.trans h.chg.output, Nat.le_trans h.chg.size (Nat.le_trans hsz hsz2), fun k hk hnS => ?_⟩, fun k hk => ?_, h.low⟩
  · have hns : ¬ some k ∈ ownO g vF vD cs := fun hin => by
      rcases h.blk k hin with h1 | h1
      · exact hnS h1
      · omega
    rw [hlow k hk hns, h.chg.block k hk hnS]
  · rcases hown k hk with h1 | h1
    · exact h.blk k h1
    · exact .inr (Nat.le_trans (Nat.le_trans h.chg.size hsz) h1)
end
end Go.Proofs.YtidcpndlloppdaaGreatDoor
set_option linter.unusedVariables false
set_option linter.unusedSimpArgs false
namespace Go.Proofs.YtidcpndlloppdaaGreatDoor
open Go.RowKit
structure Run (P : Int → Int → Int) (xs : List Ins) (D E : List Int) : Prop where
  len : D.length = xs.length
  low : ∀ d ∈ D, 0 ≤ d
  ok : ∀ j x d, xs[j]? = some x → D[j]? = some d → P x.op x.a ≤ d ∧ d - P x.op x.a + pushesI x.op ≤ 8 ∧
    ∀ t ∈ nextM j x.op x.a, 0 ≤ t ∧ (D ++ E)[t.toNat]? = some (d - P x.op x.a + pushesI x.op)
theorem Run.nil (P : Int → Int → Int) (E : List Int) : Run P [] [] E := ⟨rfl, fun d h => (by cases h), fun j x d h => (by simp at h)⟩
theorem get_more {α : Type} {l r : List α} {i : Nat} {x : α} (h : l[i]? = some x) : (l ++ r)[i]? = some x := by
  obtain ⟨hlt, rfl⟩ := List.getElem?_eq_some_iff.1 h
  rw [List.getElem?_append_left hlt, List.getElem?_eq_getElem hlt]
theorem Run.more {P : Int → Int → Int} {xs : List Ins} {D E : List Int} (h : Run P xs D E) (E' : List Int) : Run P xs D (E ++ E') :=
  ⟨h.len, h.low, fun j x d hx hd => by
    obtain ⟨h1, h2, h3⟩ := h.ok j x d hx hd
    exact ⟨h1, h2, fun t ht => ⟨(h3 t ht).1, by rw [← List.append_assoc]; exact get_more (h3 t ht).2⟩⟩⟩
theorem snoc_get {α : Type} {l : List α} {x y : α} {i : Nat} (h : (l ++ [x])[i]? = some y) : (l[i]? = some y) ∨ (i = l.length ∧ y = x) := by
  by_cases hi : i < l.length
  · rw [List.getElem?_append_left hi] at h; exact .inl h
  · rw [List.getElem?_append_right (by omega)] at h
    have : i - l.length = 0 := by
      rcases Nat.eq_zero_or_pos (i - l.length) with h0 | h0
      · exact h0
      · obtain ⟨m, hm⟩ : ∃ m, i - l.length = m + 1 := ⟨i - l.length - 1, by omega⟩
        rw [hm] at h; simp at h
    rw [this] at h
    simp at h
    exact .inr ⟨by omega, h.symm⟩
theorem Run.add {P : Int → Int → Int} {xs : List Ins} {D E : List Int} {d : Int} (h : Run P xs D (d :: E)) (hd : 0 ≤ d) (x : Ins) (hp : P x.op x.a ≤ d) (h8 : d - P x.op x.a + pushesI x.op ≤ 8)
    (ht : ∀ t ∈ nextM xs.length x.op x.a, 0 ≤ t ∧ (D ++ d :: E)[t.toNat]? = some (d - P x.op x.a + pushesI x.op)) : Run P (xs ++ [x]) (D ++ [d]) E := by
  refine ⟨by simp [h.len], fun e he => ?_, fun j y e hy he => ?_⟩
  · rcases List.mem_append.1 he with he | he
    · exact h.low e he
    · simp at he; omega
  · have hsame : D ++ [d] ++ E = D ++ d :: E := by simp
    rw [hsame]
    rcases snoc_get hy with hy | ⟨rfl, rfl⟩
    · rcases snoc_get he with he | ⟨rfl, rfl⟩
      · exact h.ok j y e hy he
      · have := (List.getElem?_eq_some_iff.1 hy).1
        have := h.len; omega
    · rcases snoc_get he with he | ⟨_, rfl⟩
      · have := (List.getElem?_eq_some_iff.1 he).1
        have := h.len; omega
      · exact ⟨hp, h8, ht⟩
def Sub (d D : List Int) : Prop := d.length = D.length ∧ ∀ j, d.getD j 0 < 0 ∨ d.getD j 0 = D.getD j 0
theorem Sub.set {d D : List Int} (h : Sub d D) {i : Nat} {x : Int} (hx : D.getD i 0 = x) (hi : i < d.length) : Sub (d.set i x) D := by
  refine ⟨by simp [h.1], fun j => ?_⟩
  by_cases e : i = j
  · subst e
    right
    simp [List.getD, hi, hx] at hx ⊢
    exact hx.symm
  · have : (d.set i x).getD j 0 = d.getD j 0 := by simp [List.getD, List.getElem?_set_ne e]
    rw [this]; exact h.2 j
theorem tosM_sub {D : List Int} {behind : Int} : ∀ {ts d : List Int} {fresh : Bool}, Sub d D → (∀ t ∈ ts, 0 ≤ t ∧ D[t.toNat]? = some behind) → ∃ d' f', tosM D.length behind ts d fresh = some (d', f') ∧ Sub d' D
  | [], d, fresh, h, _ => ⟨d, fresh, rfl, h⟩
  | t :: ts, d, fresh, h, ht => by
    obtain ⟨h0, hd⟩ := ht t List.mem_cons_self
    have ht' : ∀ u ∈ ts, 0 ≤ u ∧ D[u.toNat]? = some behind := fun u hu => ht u (List.mem_cons_of_mem _ hu)
    have hlt := (List.getElem?_eq_some_iff.1 hd).1
    have hg : D.getD t.toNat 0 = behind := by simp [List.getD, hd]
    unfold tosM
    rw [if_neg (by omega)]
    by_cases hneg : 0 ≤ d.getD t.toNat 0
    · rw [if_pos hneg, if_pos (by rcases h.2 t.toNat with h | h; omega; rw [h, hg])]
      exact tosM_sub h ht'
    · rw [if_neg hneg]
      exact tosM_sub (h.set hg (by rw [h.1]; exact hlt)) ht'
theorem scanM_sub {p : List Fnc} {D : List Int} : ∀ {xs : List Ins} {i : Nat} {d : List Int} {fresh : Bool}, Sub d D →
    (∀ j x e, xs[j]? = some x → D[i + j]? = some e → popsM p x.op x.a ≤ e ∧ e - popsM p x.op x.a + pushesI x.op ≤ 8 ∧ ∀ t ∈ nextM (i + j) x.op x.a, 0 ≤ t ∧ D[t.toNat]? = some (e - popsM p x.op x.a + pushesI x.op)) →
    i + xs.length ≤ D.length → ∃ d' f', scanM p D.length xs i d fresh = .inr (d', f') ∧ Sub d' D
  | [], i, d, fresh, h, _, _ => ⟨d, fresh, rfl, h⟩
  | x :: r, i, d, fresh, h, hx, hl => by
    have hl' : i + 1 + r.length ≤ D.length := by simp at hl; omega
    have hx' : ∀ j y e, r[j]? = some y → D[i + 1 + j]? = some e → popsM p y.op y.a ≤ e ∧ e - popsM p y.op y.a + pushesI y.op ≤ 8 ∧ ∀ t ∈ nextM (i + 1 + j) y.op y.a, 0 ≤ t ∧ D[t.toNat]? = some (e - popsM p y.op y.a + pushesI y.op) := fun j y e hy he => by
      have := hx (j + 1) y e (by simpa using hy) (by rw [← he]; congr 1; omega)
      rwa [show i + (j + 1) = i + 1 + j by omega] at this
    unfold scanM
    by_cases hneg : d.getD i 0 < 0
    · rw [if_pos hneg]
      exact scanM_sub h hx' hl'
    · rw [if_neg hneg]
      have hi : i < D.length := by simp at hl; omega
      have he : d.getD i 0 = D.getD i 0 := by rcases h.2 i with h | h; omega; exact h
      obtain ⟨h1, h2, h3⟩ := hx 0 x (D.getD i 0) rfl (by rw [Nat.add_zero]; exact getD_get hi)
      rw [he, if_neg (by omega)]
      obtain ⟨d1, f1, ht, hs⟩ := tosM_sub (fresh := fresh) h (by rw [Nat.add_zero] at h3; exact h3)
      rw [ht]
      exact scanM_sub hs hx' hl'
theorem fixM_sub {p : List Fnc} {xs : List Ins} {D : List Int} (h : Run (popsM p) xs D []) : ∀ {k : Nat} {d : List Int}, Sub d D → ∃ d', fixM p xs k d = .inr d'
  | 0, d, _ => ⟨d, rfl⟩
  | k + 1, d, hd => by
    obtain ⟨d1, f1, hs, hd1⟩ := scanM_sub (p := p) (xs := xs) (i := 0) (fresh := false) hd (fun j x e hx he => by
      have := h.ok j x e hx (by rwa [Nat.zero_add] at he)
      rwa [List.append_nil, ← Nat.zero_add j] at this) (by rw [h.len]; omega)
    unfold fixM
    rw [← h.len, hs]
    cases f1 with
    | false => exact ⟨d1, rfl⟩
    | true => exact fixM_sub h hd1
theorem start_get {n j : Nat} : (start n).getD j 0 < 0 ∨ j = 0 ∨ n ≤ j := by
  by_cases h0 : j = 0
  · exact .inr (.inl h0)
  · by_cases hj : j < n
    · left
      have : (start n)[j]? = some (-1) := by
        unfold start initM
        rw [List.getElem?_map, List.getElem?_range hj]
        simp [h0, hj]
      simp [List.getD, this]
    · exact .inr (.inr (by omega))
theorem depthsM_run {p : List Fnc} {xs : List Ins} {D : List Int} (h : Run (popsM p) xs D []) (h0 : D[0]? = some 0) : ∃ d, depthsM p xs = .inr d := by
  refine fixM_sub h ⟨by rw [(start_ok _).1, h.len], fun j => ?_⟩
  rcases start_get (n := xs.length) (j := j) with h | rfl | hj
  · exact .inl h
  · right
    have hl : 0 < xs.length := by have := (List.getElem?_eq_some_iff.1 h0).1; rw [h.len] at this; exact this
    have : (start xs.length)[0]? = some 0 := by
      unfold start initM
      rw [List.getElem?_map, List.getElem?_range hl]; rfl
    simp [List.getD, this, h0]
  · right
    simp [List.getD, List.getElem?_eq_none (show (start xs.length).length ≤ j by rw [(start_ok _).1]; exact hj), List.getElem?_eq_none (show D.length ≤ j by rw [h.len]; exact hj)]
def HeadOk (x : Fnc) : Prop := 0 ≤ x.params ∧ x.params ≤ 3 ∧ x.params ≤ x.locals ∧ x.locals ≤ x.params + 4 ∧ 0 ≤ x.refs ∧ x.refs ≤ x.locals - x.params
def FormOk (np : Nat) (x : Fnc) (i : Ins) : Prop := ∀ n : Nat, (i.op = 15 ∨ i.op = 16 → 0 ≤ i.a ∧ i.a < n) → shapedM np x.locals x.refs n i.op i.a i.b = true
def DoneF (np : Nat) (P : Int → Int → Int) (x : Fnc) : Prop := 1 ≤ x.code.length ∧ x.code.length ≤ 62 ∧ (∀ i ∈ x.code, FormOk np x i) ∧ ∃ D, Run P x.code D [] ∧ D[0]? = some 0
structure MadeOk (p : List Fnc) : Prop where
  pos : 1 ≤ p.length
  few : p.length ≤ 5
  heads : ∀ x ∈ p, HeadOk x
  zero : ∀ x, p[0]? = some x → x.params = 0
  done : ∀ x ∈ p, DoneF p.length (popsM p) x
theorem done_shape {np : Nat} {P : Int → Int → Int} {x : Fnc} (h : DoneF np P x) : ∀ i ∈ x.code, shapedI np x i = true := by
  obtain ⟨h1, h2, h3, D, hr, h0⟩ := h
  intro i hi
  refine h3 i hi _ fun ho => ?_
  obtain ⟨j, hj⟩ := List.mem_iff_getElem?.1 hi
  have hjl := (List.getElem?_eq_some_iff.1 hj).1
  obtain ⟨_, _, h⟩ := hr.ok j i (D.getD j 0) hj (getD_get (by rw [hr.len]; exact hjl))
  have hm : i.a ∈ nextM j i.op i.a := by
    unfold nextM
    rcases ho with ho | ho
    · rw [if_neg (by omega), if_pos ho]; simp
    · rw [if_neg (by omega), if_neg (by omega), if_pos ho]; simp
  obtain ⟨ha, hb⟩ := h _ hm
  rw [List.append_nil] at hb
  have := (List.getElem?_eq_some_iff.1 hb).1
  rw [hr.len] at this
  exact ⟨ha, by omega⟩
theorem firstNot_none {α : Type} {f : α → Bool} : ∀ {l : List α} {i : Nat}, (∀ x ∈ l, f x = true) → firstNot f l i = none
  | [], i, h => rfl
  | y :: r, i, h => by
    unfold firstNot
    rw [if_pos (h y List.mem_cons_self)]
    exact firstNot_none fun x hx => h x (List.mem_cons_of_mem _ hx)
theorem shapesM_none {np : Nat} : ∀ {l : List Fnc} {i : Nat}, (∀ f ∈ l, ∀ x ∈ f.code, shapedI np f x = true) → shapesM np l i = none
  | [], i, h => rfl
  | y :: r, i, h => by
    unfold shapesM
    rw [firstNot_none (h y List.mem_cons_self)]
    exact shapesM_none fun f hf => h f (List.mem_cons_of_mem _ hf)
theorem flowsM_none {p : List Fnc} : ∀ {l : List Fnc} {i : Nat}, (∀ f ∈ l, ∃ d, depthsM p f.code = .inr d) → flowsM p l i = none
  | [], i, h => rfl
  | y :: r, i, h => by
    unfold flowsM
    obtain ⟨d, hd⟩ := h y List.mem_cons_self
    rw [hd]
    exact flowsM_none fun f hf => h f (List.mem_cons_of_mem _ hf)
theorem check_zero {p : List Fnc} (h1 : 1 ≤ p.length) (h8 : p.length ≤ 8) (hs : ∀ x ∈ p, sizedF x = true) (hf : ∀ f ∈ p, ∀ x ∈ f.code, shapedI p.length f x = true) (hd : ∀ f ∈ p, ∃ d, depthsM p f.code = .inr d) : checkM p = (0, 0, 0) := by
  unfold checkM
  rw [if_neg (by omega), firstNot_none hs]
  simp only
  rw [shapesM_none hf]
  simp only
  rw [flowsM_none hd]
theorem done_sized {np : Nat} {P : Int → Int → Int} {x : Fnc} (h : DoneF np P x) (hh : HeadOk x) : sizedF x = true := by
  obtain ⟨h1, h2, _⟩ := h
  obtain ⟨a1, a2, a3, a4, a5, a6⟩ := hh
  unfold sizedF sizedM
  exact decide_eq_true (by omega)
theorem MadeOk.depths {p : List Fnc} (h : MadeOk p) {x : Fnc} (hx : x ∈ p) : ∃ d, depthsM p x.code = .inr d := by
  obtain ⟨_, _, _, D, hr, h0⟩ := h.done x hx
  exact depthsM_run hr h0
theorem MadeOk.check {p : List Fnc} (h : MadeOk p) : checkM p = (0, 0, 0) :=
  check_zero h.pos (by have := h.few; omega) (fun x hx => done_sized (h.done x hx) (h.heads x hx)) (fun f hf => done_shape (h.done f hf)) fun f hf => h.depths hf
end Go.Proofs.YtidcpndlloppdaaGreatDoor
set_option linter.unusedVariables false
set_option linter.unusedSimpArgs false
namespace Go.Proofs.YtidcpndlloppdaaGreatDoor
open Go.RowKit
theorem push_get {p : List Fnc} {f i : Nat} {ins : Ins} {x : Fnc} (h : (p.modify f (·.push ins))[i]? = some x) : ∃ y, p[i]? = some y ∧ ((i = f ∧ x = y.push ins) ∨ (i ≠ f ∧ x = y)) := by
  rw [List.getElem?_modify] at h
  cases hp : p[i]? with
  | none => rw [hp] at h; simp at h
  | some y =>
    rw [hp] at h
    refine ⟨y, rfl, ?_⟩
    by_cases e : f = i
    · subst e; left; simp at h; exact ⟨rfl, h.symm⟩
    · right; simp [e] at h; exact ⟨fun h => e h.symm, h.symm⟩
theorem paramsM_push (p : List Fnc) (f : Nat) (ins : Ins) (a : Int) : paramsM (p.modify f (·.push ins)) a = paramsM p a := by
  unfold paramsM
  split
  · rfl
  · cases h : (p.modify f (·.push ins))[a.toNat]? with
    | none =>
      have h2 : p[a.toNat]? = none := by
        have := List.getElem?_eq_none_iff.1 h
        rw [List.length_modify] at this
        exact List.getElem?_eq_none this
      rw [h2]
    | some x =>
      obtain ⟨y, hy, ⟨_, rfl⟩ | ⟨_, rfl⟩⟩ := push_get h
      · rw [hy]; rfl
      · rw [hy]
theorem popsM_push (p : List Fnc) (f : Nat) (ins : Ins) : popsM (p.modify f (·.push ins)) = popsM p := by
  funext op a
  unfold popsM
  rw [paramsM_push]
structure Cur (s : MSt) (E : List Int) : Prop where
  pos : 1 ≤ s.p.length
  few : s.p.length ≤ 5
  f : s.f < s.p.length
  heads : ∀ x ∈ s.p, HeadOk x
  zero : ∀ x, s.p[0]? = some x → x.params = 0
  done : ∀ i x, i < s.f → s.p[i]? = some x → DoneF s.p.length (popsM s.p) x
  todo : ∀ i x, s.f < i → s.p[i]? = some x → x.code = []
  run : ∀ x, s.p[s.f]? = some x → Run (popsM s.p) x.code s.depth (s.now :: E) ∧ ∀ i ∈ x.code, FormOk s.p.length x i
  start : (s.depth ++ [s.now])[0]? = some 0
  now : 0 ≤ s.now ∧ s.now ≤ 8
theorem Cur.more {s : MSt} {E : List Int} (h : Cur s E) (E' : List Int) : Cur s (E ++ E') :=
  { h with run := fun x hx => ⟨by have := (h.run x hx).1.more E'; simpa using this, (h.run x hx).2⟩ }
theorem Cur.add {s : MSt} {E : List Int} {e : Int} (h : Cur s (e :: E)) (op a b : Int) (hf : ∀ x, s.p[s.f]? = some x → FormOk s.p.length x ⟨op, a, b⟩) (hp : popsM s.p op a ≤ s.now)
    (he : e = s.now - popsM s.p op a + pushesI op) (h8 : e ≤ 8) (ht : ∀ t ∈ nextM s.depth.length op a, 0 ≤ t ∧ (s.depth ++ s.now :: e :: E)[t.toNat]? = some e) : Cur (s.add op a b) E := by
  have hl : (s.add op a b).p.length = s.p.length := by simp [MSt.add]
  have hpops : popsM (s.add op a b).p = popsM s.p := popsM_push _ _ _
  have hnow : (s.add op a b).now = e := he.symm
  have hff : (s.add op a b).f = s.f := rfl
  have hd : (s.add op a b).depth = s.depth ++ [s.now] := rfl
  have hget : ∀ {i : Nat} {x : Fnc}, (s.add op a b).p[i]? = some x → ∃ y, s.p[i]? = some y ∧ ((i = s.f ∧ x = y.push ⟨op, a, b⟩) ∨ (i ≠ s.f ∧ x = y)) := fun h => push_get h
  have hpu := rowT_bd op
  refine ⟨by rw [hl]; exact h.pos, by rw [hl]; exact h.few, by rw [hl, hff]; exact h.f, fun x hx => ?_, fun x hx => ?_, fun i x hi hx => ?_, fun i x hi hx => ?_, fun x hx => ?_, ?_, by rw [hnow]; omega⟩
  · obtain ⟨i, hi⟩ := List.mem_iff_getElem?.1 hx
    obtain ⟨y, hy, ⟨_, rfl⟩ | ⟨_, rfl⟩⟩ := hget hi
    · exact h.heads y (List.mem_of_getElem? hy)
    · exact h.heads _ (List.mem_of_getElem? hy)
  · obtain ⟨y, hy, ⟨_, rfl⟩ | ⟨_, rfl⟩⟩ := hget hx
    · exact h.zero y hy
    · exact h.zero _ hy
  · rw [hl, hpops]
    rw [hff] at hi
    obtain ⟨y, hy, ⟨rfl, rfl⟩ | ⟨_, rfl⟩⟩ := hget hx
    · omega
    · exact h.done i _ hi hy
  · rw [hff] at hi
    obtain ⟨y, hy, ⟨rfl, rfl⟩ | ⟨_, rfl⟩⟩ := hget hx
    · omega
    · exact h.todo i _ hi hy
  · rw [hff] at hx
    obtain ⟨y, hy, ⟨_, rfl⟩ | ⟨hne, _⟩⟩ := hget hx
    · rw [hl, hpops, hnow, hd]
      obtain ⟨h1, h2⟩ := h.run y hy
      refine ⟨h1.add h.now.1 ⟨op, a, b⟩ hp (by rw [← he]; exact h8) (by rw [← h1.len, ← he]; exact ht), fun i hi => ?_⟩
      rcases List.mem_append.1 hi with hi | hi
      · exact h2 i hi
      · simp at hi; subst hi; exact hf y hy
    · exact absurd rfl hne
  · rw [hd, hnow]
    exact get_more h.start
theorem get_two {l : List Int} {x y : Int} {n : Int} (hn : n = (l.length : Int) + 1) : 0 ≤ n ∧ (l ++ [x, y])[n.toNat]? = some y := by
  subst hn
  refine ⟨by omega, ?_⟩
  rw [List.getElem?_append_right (by omega)]
  rw [show ((l.length : Int) + 1).toNat - l.length = 1 by omega]
  rfl
theorem Cur.step {s : MSt} (h : Cur s []) (op a b : Int) (hn : nextM s.depth.length op a = [(s.depth.length : Int) + 1]) (hf : ∀ x, s.p[s.f]? = some x → FormOk s.p.length x ⟨op, a, b⟩) (hp : popsM s.p op a ≤ s.now)
    (h8 : s.now - popsM s.p op a + pushesI op ≤ 8) : Cur (s.add op a b) [] := by
  refine (h.more [s.now - popsM s.p op a + pushesI op]).add op a b hf hp rfl h8 fun t ht => ?_
  rw [hn] at ht
  simp at ht
  exact get_two ht
theorem Cur.fin {s : MSt} (h : Cur s []) (hnow : 1 ≤ s.now) (hlen : s.depth.length ≤ 61) : ∀ x, (s.add 18 0 0).p[s.f]? = some x → DoneF s.p.length (popsM s.p) x := by
  intro x hx
  obtain ⟨y, hy, ⟨_, rfl⟩ | ⟨hne, _⟩⟩ := push_get hx
  · obtain ⟨h1, h2⟩ := h.run y hy
    have hp : popsM s.p 18 0 = 1 := by simp [popsM, rowT]
    have hq : pushesI 18 = 0 := by simp [pushesI, rowT]
    have hr := h1.add h.now.1 ⟨18, 0, 0⟩ (by rw [hp]; exact hnow) (by simp only [hp, hq]; have := h.now.2; omega) (by intro t ht; simp [nextM] at ht)
    have hl := h1.len
    refine ⟨by simp [Fnc.push], by simp [Fnc.push]; omega, fun i hi => ?_, _, hr, h.start⟩
    rcases List.mem_append.1 hi with hi | hi
    · exact h2 i hi
    · simp at hi; subst hi
      intro n _
      simp [shapedM, kindM, rowT]
  · exact absurd rfl hne
end Go.Proofs.YtidcpndlloppdaaGreatDoor
set_option linter.unusedVariables false
set_option linter.unusedSimpArgs false
namespace Go.Proofs.YtidcpndlloppdaaGreatDoor
open Go.RowKit
theorem form_none {np : Nat} {x : Fnc} {op : Int} (h : (rowT op).2.2.2 = true) (h1 : (rowT op).1 = 0) : FormOk np x ⟨op, 0, 0⟩ := fun n _ => by simp [shapedM, kindM, h, h1]
theorem form_push {np : Nat} {x : Fnc} {a : Int} (h : -2147483648 ≤ a ∧ a ≤ 2147483648) : FormOk np x ⟨1, a, 0⟩ := fun n _ => by simp [shapedM, kindM, rowT]; omega
theorem form_odd {np : Nat} {x : Fnc} {a : Int} (h : 0 ≤ a ∧ a < 6) : FormOk np x ⟨2, a, 0⟩ := fun n _ => by simp [shapedM, kindM, rowT, withinM]; omega
theorem form_local {np : Nat} {x : Fnc} {op a : Int} (ho : op = 3 ∨ op = 4) (hx : HeadOk x) (h : 0 ≤ a ∧ a < x.locals - x.refs) : FormOk np x ⟨op, a, 0⟩ := fun n _ => by
  obtain ⟨h1, h2, h3, h4, h5, h6⟩ := hx
  have hw : IntKind.wrap .i64 (x.locals - x.refs) = x.locals - x.refs := wrap_id (by omega) (by omega)
  rcases ho with rfl | rfl <;> simp [shapedM, kindM, rowT, withinM, hw] <;> omega
theorem form_jump {np : Nat} {x : Fnc} {op a : Int} (ho : op = 15 ∨ op = 16) : FormOk np x ⟨op, a, 0⟩ := fun n h => by
  have := h ho
  simp only at this
  rcases ho with rfl | rfl <;> simp [shapedM, kindM, rowT, withinM] <;> omega
theorem form_call {np : Nat} {x : Fnc} {op a : Int} (ho : op = 17 ∨ op = 19) (h : 0 ≤ a ∧ a < np) : FormOk np x ⟨op, a, 0⟩ := fun n _ => by
  rcases ho with rfl | rfl <;> simp [shapedM, kindM, rowT, withinM] <;> omega
theorem form_ref {np : Nat} {x : Fnc} {op a : Int} (ho : op = 23 ∨ op = 25) (h : 0 ≤ a ∧ a < x.refs) : FormOk np x ⟨op, a, 0⟩ := fun n _ => by
  rcases ho with rfl | rfl <;> simp [shapedM, kindM, rowT, withinM] <;> omega
theorem form_same {np : Nat} {x : Fnc} {a b : Int} (h : 0 ≤ a ∧ a < x.refs) (hb : 0 ≤ b ∧ b < x.refs) : FormOk np x ⟨24, a, b⟩ := fun n _ => by
  simp [shapedM, kindM, rowT, withinM]; omega
structure Ph (p : List Fnc) (k : Nat) : Prop where
  pos : 1 ≤ p.length
  few : p.length ≤ 5
  heads : ∀ x ∈ p, HeadOk x
  zero : ∀ x, p[0]? = some x → x.params = 0
  done : ∀ i x, i < k → p[i]? = some x → DoneF p.length (popsM p) x
  todo : ∀ i x, k ≤ i → p[i]? = some x → x.code = []
theorem Ph.begin {p : List Fnc} {k : Nat} (h : Ph p k) (hk : k < p.length) (ns : List Int) : Cur ⟨ns, p, k, [], 0⟩ [] :=
  ⟨h.pos, h.few, hk, h.heads, h.zero, h.done, fun i x hi hx => h.todo i x (Nat.le_of_lt hi) hx, fun x hx => by
    have hc := h.todo k x (Nat.le_refl _) hx
    rw [hc]
    exact ⟨Run.nil _ _, fun i hi => by cases hi⟩, rfl, by simp⟩
theorem Cur.finish {s : MSt} (h : Cur s []) (hnow : 1 ≤ s.now) (hlen : s.depth.length ≤ 61) : Ph (s.add 18 0 0).p (s.f + 1) := by
  have hp : popsM s.p 18 0 = 1 := by simp [popsM, rowT]
  have hq : pushesI 18 = 0 := by simp [pushesI, rowT]
  have hd := h.fin hnow hlen
  have hc := (h.more [s.now - 1]).add 18 0 0 (fun x _ => form_none (by simp [rowT]) (by simp [rowT])) (by rw [hp]; exact hnow) (by rw [hp, hq]; omega) (by have := h.now; omega) (by intro t ht; simp [nextM] at ht)
  have hl : (s.add 18 0 0).p.length = s.p.length := by simp [MSt.add]
  have hpops : popsM (s.add 18 0 0).p = popsM s.p := popsM_push _ _ _
  refine ⟨hc.pos, hc.few, hc.heads, hc.zero, fun i x hi hx => ?_, fun i x hi hx => hc.todo i x hi hx⟩
  by_cases he : i = s.f
  · subst he
    rw [hl, hpops]
    exact hd x hx
  · exact hc.done i x (show i < s.f by omega) hx
theorem Ph.made {p : List Fnc} (h : Ph p p.length) : MadeOk p :=
  ⟨h.pos, h.few, h.heads, h.zero, fun x hx => by
    obtain ⟨i, hi⟩ := List.mem_iff_getElem?.1 hx
    exact h.done i x (List.getElem?_eq_some_iff.1 hi).1 hi⟩
theorem get_at {α : Type} (l r : List α) (i : Nat) : (l ++ r)[l.length + i]? = r[i]? := by
  rw [List.getElem?_append_right (by omega), Nat.add_sub_cancel_left]
theorem at_get {l r : List Int} {n : Int} {i : Nat} {x : Int} (hn : n = (l.length : Int) + (i : Int)) (hx : r[i]? = some x) : 0 ≤ n ∧ (l ++ r)[n.toNat]? = some x := by
  subst hn
  refine ⟨by omega, ?_⟩
  rw [show ((l.length : Int) + (i : Int)).toNat = l.length + i by omega, get_at]
  exact hx
theorem nextM_on {op : Int} (h : op ≠ 15 ∧ op ≠ 16 ∧ op ≠ 18 ∧ op ≠ 20) (n : Nat) (a : Int) : nextM n op a = [(n : Int) + 1] := by
  unfold nextM
  rw [if_neg (by omega), if_neg (by omega), if_neg (by omega)]
theorem add_len (s : MSt) (op a b : Int) : (s.add op a b).depth.length = s.depth.length + 1 := by simp [MSt.add]
theorem add_f (s : MSt) (op a b : Int) : (s.add op a b).f = s.f := rfl
theorem add_plen (s : MSt) (op a b : Int) : (s.add op a b).p.length = s.p.length := by simp [MSt.add]
theorem Cur.over {s : MSt} (h : Cur s []) (h8 : s.now < 8) (a c : Int) {op : Int} (ho : op = 18 ∨ op = 20) (ha : -2147483648 ≤ a ∧ a ≤ 2147483648) (hc : -2147483648 ≤ c ∧ c ≤ 2147483648) :
    Cur (s.add 1 a 0) [s.now, s.now + 1, s.now] ∧ Cur ((s.add 1 a 0).add 16 ((s.depth.length : Int) + 4) 0) [s.now + 1, s.now] ∧ Cur (((s.add 1 a 0).add 16 ((s.depth.length : Int) + 4) 0).add 1 c 0) [s.now] ∧
    Cur ((((s.add 1 a 0).add 16 ((s.depth.length : Int) + 4) 0).add 1 c 0).add op 0 0) [] := by
  have hp1 : ∀ p : List Fnc, ∀ a, popsM p 1 a = 0 := fun p a => by simp [popsM, rowT]
  have hp16 : ∀ p : List Fnc, ∀ a, popsM p 16 a = 1 := fun p a => by simp [popsM, rowT]
  have hpo : ∀ p : List Fnc, popsM p op 0 = 1 := fun p => by rcases ho with rfl | rfl <;> simp [popsM, rowT]
  have hq1 : pushesI 1 = 1 := by simp [pushesI, rowT]
  have hq16 : pushesI 16 = 0 := by simp [pushesI, rowT]
  have hqo : pushesI op = 0 := by rcases ho with rfl | rfl <;> simp [pushesI, rowT]
  have hn0 := h.now
  have c0 := h.more [s.now + 1, s.now, s.now + 1, s.now]
  have c1 : Cur (s.add 1 a 0) [s.now, s.now + 1, s.now] := c0.add 1 a 0 (fun x _ => form_push ha) (by rw [hp1]; omega) (by rw [hp1, hq1]; omega) (by omega) fun t ht => by
    rw [nextM_on (by omega)] at ht
    simp at ht
    exact at_get (i := 1) ht rfl
  have n1 : (s.add 1 a 0).now = s.now + 1 := by simp [MSt.add, hp1, hq1]
  have c2 : Cur ((s.add 1 a 0).add 16 ((s.depth.length : Int) + 4) 0) [s.now + 1, s.now] := c1.add 16 _ 0 (fun x _ => form_jump (.inr rfl)) (by rw [hp16, n1]; omega) (by rw [hp16, hq16, n1]; omega) (by omega) fun t ht => by
    simp [nextM] at ht
    rcases ht with ht | ht
    · exact at_get (i := 3) (by rw [add_len]; omega) rfl
    · exact at_get (i := 1) (by omega) rfl
  have n2 : ((s.add 1 a 0).add 16 ((s.depth.length : Int) + 4) 0).now = s.now := by
    show (s.add 1 a 0).now - popsM _ 16 _ + pushesI 16 = _
    rw [n1, hp16, hq16]; omega
  have c3 : Cur (((s.add 1 a 0).add 16 ((s.depth.length : Int) + 4) 0).add 1 c 0) [s.now] := c2.add 1 c 0 (fun x _ => form_push hc) (by rw [hp1, n2]; omega) (by rw [hp1, hq1, n2]; omega) (by omega) fun t ht => by
    rw [nextM_on (by omega)] at ht
    simp at ht
    exact at_get (i := 1) ht rfl
  have n3 : (((s.add 1 a 0).add 16 ((s.depth.length : Int) + 4) 0).add 1 c 0).now = s.now + 1 := by
    show ((s.add 1 a 0).add 16 ((s.depth.length : Int) + 4) 0).now - popsM _ 1 _ + pushesI 1 = _
    rw [n2, hp1, hq1]; omega
  refine ⟨c1, c2, c3, ?_⟩
  exact c3.add op 0 0 (fun x _ => form_none (by rcases ho with rfl | rfl <;> simp [rowT]) (by rcases ho with rfl | rfl <;> simp [rowT])) (by rw [hpo, n3]; omega) (by rw [hpo, hqo, n3]; omega) (by omega) fun t ht => by
    rcases ho with rfl | rfl <;> simp [nextM] at ht
theorem Cur.header {s : MSt} (h : Cur s []) (hd : s.depth = []) (hs : s.now = 0) (hx : ∀ x, s.p[s.f]? = some x → 0 < x.params) {c : Int} (hc : -2147483648 ≤ c ∧ c ≤ 2147483648) :
    Cur (s.add 3 0 0) [0, 1, 0] ∧ Cur ((s.add 3 0 0).add 16 4 0) [1, 0] ∧ Cur (((s.add 3 0 0).add 16 4 0).add 1 c 0) [0] ∧
    Cur ((((s.add 3 0 0).add 16 4 0).add 1 c 0).add 18 0 0) [] ∧ ((((s.add 3 0 0).add 16 4 0).add 1 c 0).add 18 0 0).now = 0 := by
  have hp1 : ∀ p : List Fnc, ∀ a, popsM p 1 a = 0 := fun p a => by simp [popsM, rowT]
  have hp3 : ∀ p : List Fnc, ∀ a, popsM p 3 a = 0 := fun p a => by simp [popsM, rowT]
  have hp16 : ∀ p : List Fnc, ∀ a, popsM p 16 a = 1 := fun p a => by simp [popsM, rowT]
  have hpo : ∀ p : List Fnc, popsM p 18 0 = 1 := fun p => by simp [popsM, rowT]
  have hq1 : pushesI 1 = 1 := by simp [pushesI, rowT]
  have hq3 : pushesI 3 = 1 := by simp [pushesI, rowT]
  have hq16 : pushesI 16 = 0 := by simp [pushesI, rowT]
  have hqo : pushesI 18 = 0 := by simp [pushesI, rowT]
  have c0 := h.more [1, 0, 1, 0]
  have c1 : Cur (s.add 3 0 0) [0, 1, 0] := c0.add 3 0 0 (fun x hxx => form_local (.inl rfl) (h.heads x (List.mem_of_getElem? hxx)) (by
      have h1 := hx x hxx
      obtain ⟨a1, a2, a3, a4, a5, a6⟩ := h.heads x (List.mem_of_getElem? hxx)
      omega)) (by rw [hp3, hs]; omega) (by rw [hp3, hq3, hs]; rfl) (by omega) fun t ht => by
    rw [nextM_on (by omega)] at ht
    simp at ht
    exact at_get (i := 1) ht rfl
  have n1 : (s.add 3 0 0).now = 1 := by simp [MSt.add, hp3, hq3, hs]
  have d1 : (s.add 3 0 0).depth.length = 1 := by rw [add_len, hd]; rfl
  have c2 : Cur ((s.add 3 0 0).add 16 4 0) [1, 0] := c1.add 16 4 0 (fun x _ => form_jump (.inr rfl)) (by rw [hp16, n1]; omega) (by rw [hp16, hq16, n1]; rfl) (by omega) fun t ht => by
    simp [nextM] at ht
    rcases ht with ht | ht
    · exact at_get (i := 3) (by rw [d1, ht]; rfl) rfl
    · exact at_get (i := 1) (by omega) rfl
  have n2 : ((s.add 3 0 0).add 16 4 0).now = 0 := by
    show (s.add 3 0 0).now - popsM _ 16 _ + pushesI 16 = _
    rw [n1, hp16, hq16]; omega
  have c3 : Cur (((s.add 3 0 0).add 16 4 0).add 1 c 0) [0] := c2.add 1 c 0 (fun x _ => form_push hc) (by rw [hp1, n2]; omega) (by rw [hp1, hq1, n2]; rfl) (by omega) fun t ht => by
    rw [nextM_on (by omega)] at ht
    simp at ht
    exact at_get (i := 1) ht rfl
  have n3 : (((s.add 3 0 0).add 16 4 0).add 1 c 0).now = 1 := by
    show ((s.add 3 0 0).add 16 4 0).now - popsM _ 1 _ + pushesI 1 = _
    rw [n2, hp1, hq1]; omega
  refine ⟨c1, c2, c3, c3.add 18 0 0 (fun x _ => form_none (by simp [rowT]) (by simp [rowT])) (by rw [hpo, n3]; omega) (by rw [hpo, hqo, n3]; rfl) (by omega) fun t ht => by simp [nextM] at ht, ?_⟩
  show (((s.add 3 0 0).add 16 4 0).add 1 c 0).now - popsM _ 18 _ + pushesI 18 = _
  rw [n3, hpo, hqo]; omega
end Go.Proofs.YtidcpndlloppdaaGreatDoor
set_option linter.unusedVariables false
set_option linter.unusedSimpArgs false
namespace Go.Proofs.YtidcpndlloppdaaGreatDoor
open Go.RowKit
section
variable {B g : Nat} {w : World} {s : MSt} {A : Option Addr} {ln cn : Nat} {vF vD : Value} {cs : List Value}
theorem MakerAt.c0 (h : MakerAt B w g s A ln cn vF vD cs) : w.cell? ⟨g, 0, none⟩ = some (.slice A ln cn) := at_cell h.cells rfl
theorem MakerAt.c1 (h : MakerAt B w g s A ln cn vF vD cs) : w.cell? ⟨g, 1, none⟩ = some vF := at_cell h.cells rfl
theorem MakerAt.c2 (h : MakerAt B w g s A ln cn vF vD cs) : w.cell? ⟨g, 2, none⟩ = some (.int .i64 s.f) := at_cell h.cells rfl
theorem MakerAt.c3 (h : MakerAt B w g s A ln cn vF vD cs) : w.cell? ⟨g, 3, none⟩ = some vD := at_cell h.cells rfl
theorem MakerAt.c4 (h : MakerAt B w g s A ln cn vF vD cs) : w.cell? ⟨g, 4, none⟩ = some (.int .i64 s.now) := at_cell h.cells rfl
theorem MakerAt.fz (h : MakerAt B w g s A ln cn vF vD cs) (i : Nat) : w.frozen? ⟨g, i, none⟩ = false := at_frozen h.cells i
theorem MakerAt.neF (h : MakerAt B w g s A ln cn vF vD cs) : ∀ k, vF.ownBlock = some k → k ≠ g := fun k hk e => by
  subst e
  have := h.apart 0 1 k rfl (by simp [hk])
  omega
theorem MakerAt.neD (h : MakerAt B w g s A ln cn vF vD cs) : ∀ k, vD.ownBlock = some k → k ≠ g := fun k hk e => by
  subst e
  have := h.apart 0 2 k rfl (by simp [hk])
  omega
theorem own_at {g : Nat} {vF vD : Value} {cs : List Value} {i : Nat} {c : Value} (hc : cs[i]? = some c) : (ownO g vF vD cs)[i + 3]? = some c.ownBlock := by
  simp [ownO, hc]
theorem MakerAt.neC (h : MakerAt B w g s A ln cn vF vD cs) {i : Nat} {c : Value} (hc : cs[i]? = some c) : ∀ k, c.ownBlock = some k → k ≠ g := fun k hk e => by
  subst e
  have := h.apart 0 (i + 3) k rfl (by rw [own_at hc, hk])
  omega
theorem MakerAt.neFC (h : MakerAt B w g s A ln cn vF vD cs) {i : Nat} {c : Value} (hc : cs[i]? = some c) : ∀ k, c.ownBlock = some k → vF.ownBlock ≠ some k := fun k hk e => by
  have := h.apart 1 (i + 3) k (by simp [e]) (by rw [own_at hc, hk])
  omega
theorem MakerAt.neDC (h : MakerAt B w g s A ln cn vF vD cs) {i : Nat} {c : Value} (hc : cs[i]? = some c) : ∀ k, c.ownBlock = some k → vD.ownBlock ≠ some k := fun k hk e => by
  have := h.apart 2 (i + 3) k (by simp [e]) (by rw [own_at hc, hk])
  omega
theorem MakerAt.neFD (h : MakerAt B w g s A ln cn vF vD cs) : ∀ k, vF.ownBlock = some k → vD.ownBlock ≠ some k := fun k hk e => by
  have := h.apart 1 2 k (by simp [hk]) (by simp [e])
  omega
theorem MakerAt.neCC (h : MakerAt B w g s A ln cn vF vD cs) {i j : Nat} {c d : Value} (hc : cs[i]? = some c) (hd : cs[j]? = some d) (hij : i ≠ j) : ∀ k, c.ownBlock = some k → d.ownBlock ≠ some k := fun k hk e => by
  have := h.apart (i + 3) (j + 3) k (by rw [own_at hc, hk]) (by rw [own_at hd, e])
  omega
theorem MakerAt.inF (h : MakerAt B w g s A ln cn vF vD cs) {k : Nat} (hk : vF.ownBlock = some k) : some k ∈ ownO g vF vD cs := by simp [ownO, hk]
theorem MakerAt.inD (h : MakerAt B w g s A ln cn vF vD cs) {k : Nat} (hk : vD.ownBlock = some k) : some k ∈ ownO g vF vD cs := by simp [ownO, hk]
theorem MakerAt.inC (h : MakerAt B w g s A ln cn vF vD cs) {i : Nat} {c : Value} (hc : cs[i]? = some c) {k : Nat} (hk : c.ownBlock = some k) : some k ∈ ownO g vF vD cs := List.mem_of_getElem? (by rw [own_at hc, hk])
theorem MakerAt.put (h : MakerAt B w g s A ln cn vF vD cs) {i : Nat} {v : Value} (s' : MSt) (hp : s'.p = s.p) (hd : s'.depth = s.depth) (A' : Option Addr) (ln' cn' : Nat)
    (hc : [.slice A ln cn, vF, .int .i64 s.f, vD, .int .i64 s.now].set i v = [.slice A' ln' cn', vF, .int .i64 s'.f, vD, .int .i64 s'.now])
    (hns : Nums .u8 w A' ln' s'.ns) (hbyte : ∀ n ∈ s'.ns, 0 ≤ n ∧ n < 256) (hold : ∀ q, A' = some q → 0 < ln' → q.block < B) (hcap : ln' ≤ cn') : MakerAt B (w.setCell ⟨g, i, none⟩ v) g s' A' ln' cn' vF vD cs where
  cells := by rw [at_set h.cells i v, hc]
  ns := nums_block1 hns fun q hq hl => at_other (by have := hold q hq hl; have := h.above; omega)
  byte := hbyte
  old := hold
  cap := hcap
  fns := by rw [hp]; exact owns_other h.fns fun k hk => at_other (h.neF k hk)
  len := by rw [hp]; exact h.len
  code := fun j x c hx hcc => by rw [hp] at hx; exact owns_other (h.code j x c hx hcc) fun k hk => at_other (h.neC hcc k hk)
  dep := by rw [hd]; exact owns_other h.dep fun k hk => at_other (h.neD k hk)
  above := h.above
  apart := h.apart
theorem MakerAt.put_now (h : MakerAt B w g s A ln cn vF vD cs) (n : Int) : MakerAt B (w.setCell ⟨g, 4, none⟩ (.int .i64 n)) g { s with now := n } A ln cn vF vD cs :=
  h.put { s with now := n } rfl rfl A ln cn rfl h.ns h.byte h.old h.cap
theorem MakerAt.put_f (h : MakerAt B w g s A ln cn vF vD cs) (n : Nat) : MakerAt B (w.setCell ⟨g, 2, none⟩ (.int .i64 n)) g { s with f := n } A ln cn vF vD cs :=
  h.put { s with f := n } rfl rfl A ln cn rfl h.ns h.byte h.old h.cap
theorem MakerAt.put_dep (h : MakerAt B w g s A ln cn vF vD cs) {w1 : World} {B' : Nat} (hB : B ≤ B') (he : ExtS B' (fun k => vD.ownBlock = some k) w w1) {v : Value} {ds : List Int}
    (hv : w1.ownsRow B 3 1 v ds.length (ds.map (.int .i64))) (hnew : ∀ k, v.ownBlock = some k → vD.ownBlock = some k ∨ w.heap.size ≤ k) : MakerAt B (w1.setCell ⟨g, 3, none⟩ v) g { s with depth := ds } A ln cn vF v cs where
  cells := by
    have hc := he.row g _ _ _ (fun e => h.neD g e rfl) h.cells
    rw [at_set hc 3 v]; rfl
  ns := nums_block1 h.ns fun q hq hl => by
    have hq1 := h.old q hq hl
    rw [at_other (by have := h.above; omega), he.low _ (by omega) (fun e => by have := (h.blocks (h.inD e)).1; omega)]
  byte := h.byte
  old := h.old
  cap := h.cap
  fns := owns_other (he.owns h.fns fun k hk => h.neFD k hk) fun k hk => at_other (h.neF k hk)
  len := h.len
  code := fun j x c hx hcc => owns_other (he.owns (h.code j x c hx hcc) fun k hk => h.neDC hcc k hk) fun k hk => at_other (h.neC hcc k hk)
  dep := owns_other hv fun k hk => at_other fun e => by
    subst e
    rcases hnew k hk with h1 | h1
    · exact h.neD k h1 rfl
    · have := lt_of_some h.cells; omega
  above := h.above
  apart := by
    have : ownO g vF v cs = (ownO g vF vD cs).set 2 v.ownBlock := rfl
    rw [this]
    refine h.apart.set fun k hk => ?_
    rcases hnew k hk with h1 | h1
    · left; simp [h1]
    · right; intro j hj
      have := h.lt (List.mem_of_getElem? hj); omega
theorem ownO_dep {g : Nat} {vF vD v : Value} {cs : List Value} {n : Nat} (hnew : ∀ k, v.ownBlock = some k → vD.ownBlock = some k ∨ n ≤ k) {k : Nat} (hk : some k ∈ ownO g vF v cs) : some k ∈ ownO g vF vD cs ∨ n ≤ k := by
  simp only [ownO, List.mem_cons] at hk ⊢
  rcases hk with h | h | h | h
  · exact .inl (.inl h)
  · exact .inl (.inr (.inl h))
  · rcases hnew k h.symm with h1 | h1
    · exact .inl (.inr (.inr (.inl h1.symm)))
    · exact .inr h1
  · exact .inl (.inr (.inr (.inr h)))
theorem MakerAt.put_code (h : MakerAt B w g s A ln cn vF vD cs) {w1 : World} {B' : Nat} (hB : B ≤ B') {f : Nat} {x : Fnc} {c : Value} (hx : s.p[f]? = some x) (hc : cs[f]? = some c) (he : ExtS B' (fun k => c.ownBlock = some k) w w1) {gF cap : Nat}
    (hF : vF = .slice (some ⟨gF, 0, none⟩) s.p.length cap) {v : Value} {ins : Ins} (hv : w1.ownsRow B 67 3 v (x.code.length + 1) (x.code.flatMap insV ++ insV ins)) (hnew : ∀ k, v.ownBlock = some k → c.ownBlock = some k ∨ w.heap.size ≤ k) :
    MakerAt B (w1.setCell ⟨gF, f * 4 + 3, none⟩ v) g { s with p := s.p.modify f (·.push ins) } A ln cn vF vD (cs.set f v) := by
  subst hF
  have hlt : f < s.p.length := (List.getElem?_eq_some_iff.1 hx).1
  have hFin : some gF ∈ ownO g (.slice (some ⟨gF, 0, none⟩) s.p.length cap) vD cs := h.inF rfl
  have hgF := h.lt hFin
  have hneF : ∀ k, c.ownBlock = some k → k ≠ gF := fun k hk e => h.neFC hc k hk (by rw [e]; rfl)
  have hvF : ∀ k, v.ownBlock = some k → k ≠ gF := fun k hk e => by
    rcases hnew k hk with h1 | h1
    · exact hneF k h1 e
    · omega
  refine ⟨?_, ?_, h.byte, h.old, h.cap, ?_, ?_, fun j y d hy hd => ?_, ?_, h.above, ?_⟩
  · have hg := he.row g _ _ _ (fun e => h.neC hc g e rfl) h.cells
    rw [at_other (fun e => h.neF gF rfl e.symm)]
    exact hg
  · exact nums_block1 h.ns fun q hq hl => by
      have hq1 := h.old q hq hl
      have hgB := (h.blocks hFin).1
      rw [at_other (by omega), he.low _ (by omega) (fun e => by have := (h.blocks (h.inC hc e)).1; omega)]
  · have h1 := he.owns h.fns (fun k hk e => h.neFC hc k e hk)
    have := owns_set h1 (f * 4 + 3) v (by omega)
    rw [fncs_set ins v f] at this
    simpa using this
  · simp [h.len]
  · rw [List.getElem?_set] at hd
    split at hd
    · rename_i e
      subst e
      split at hd
      · simp at hd; subst hd
        obtain ⟨y', hy', ⟨_, rfl⟩ | ⟨hne, _⟩⟩ := push_get hy
        · rw [hx] at hy'; cases hy'
          have := owns_other (w' := w1.setCell ⟨gF, f * 4 + 3, none⟩ v) hv fun k hk => at_other (hvF k hk)
          simpa [Fnc.push] using this
        · exact absurd rfl hne
      · cases hd
    · rename_i hne
      obtain ⟨y', hy', ⟨e, _⟩ | ⟨_, rfl⟩⟩ := push_get hy
      · exact absurd e.symm hne
      · refine owns_other (he.owns (h.code j y d hy' hd) fun k hk e => h.neCC hd hc (fun e => hne e.symm) k hk e) fun k hk => at_other fun e => ?_
        exact h.neFC hd k hk (by rw [e]; rfl)
  · exact owns_other (he.owns h.dep fun k hk e => h.neDC hc k e hk) fun k hk => at_other fun e => h.neFD gF rfl (by rw [hk, e])
  · have : ownO g (.slice (some ⟨gF, 0, none⟩) s.p.length cap) vD (cs.set f v) = (ownO g (.slice (some ⟨gF, 0, none⟩) s.p.length cap) vD cs).set (f + 3) v.ownBlock := by
      simp [ownO, List.map_set]
    rw [this]
    refine h.apart.set fun k hk => ?_
    rcases hnew k hk with h1 | h1
    · left; rw [own_at hc, h1]
    · right; intro j hj
      have := h.lt (List.mem_of_getElem? hj); omega
theorem ownO_code {g : Nat} {vF vD v c : Value} {cs : List Value} {f n : Nat} (hc : cs[f]? = some c) (hnew : ∀ k, v.ownBlock = some k → c.ownBlock = some k ∨ n ≤ k) {k : Nat} (hk : some k ∈ ownO g vF vD (cs.set f v)) : some k ∈ ownO g vF vD cs ∨ n ≤ k := by
  simp only [ownO, List.mem_cons, List.mem_map] at hk ⊢
  rcases hk with h | h | h | ⟨d, hd, h⟩
  · exact .inl (.inl h)
  · exact .inl (.inr (.inl h))
  · exact .inl (.inr (.inr (.inl h)))
  · rcases List.mem_or_eq_of_mem_set hd with hd | rfl
    · exact .inl (.inr (.inr (.inr ⟨d, hd, h⟩)))
    · rcases hnew k h with h1 | h1
      · exact .inl (.inr (.inr (.inr ⟨c, List.mem_of_getElem? hc, h1⟩)))
      · exact .inr h1
end
def MSt.left (s : MSt) : MSt := { s with ns := s.ns.drop 1 }
theorem works85 {B g : Nat} {s : MSt} : Works 25 [.pointer (some ⟨g, 0, none⟩)] B g s fun v s' => ∃ n, v = .int .i64 n ∧ 0 ≤ n ∧ n < 256 ∧ ∃ l, s' = { s with ns := l } := by
  intro w A ln cn vF vD cs hm hB
  refine turns_of (V25.sound ?_)
  have h := MK.begin hm hB
  unfold V25.vc
  simp only [own_add, bx_add, Nat.add_zero, Nat.zero_add]
  refine ⟨A, ln, cn, hm.c0, ?_⟩
  by_cases h0 : ln = 0
  · rw [if_pos (by simp [h0])]
    exact ret_mk h ⟨0, rfl, by omega, by omega, s.ns, rfl⟩
  · rw [if_neg (by simp; omega)]
    obtain ⟨n, q, hn, hq, hcell⟩ := hm.ns.at (i := 0) (by omega)
    subst hq
    refine ⟨_, ln, cn, hm.c0, q, rfl, by omega, by omega, n, hcell, _, ln, cn, hm.c0, by omega, by omega, ⟨_, hm.c0⟩, hm.fz 0, ?_⟩
    have hbyte := hm.byte n (List.mem_of_getElem? hn)
    have hlen := hm.ns.len
    have hm' : MakerAt B (w.setCell ⟨g, 0, none⟩ (.slice (if cn = 1 then some q else Option.map (fun a => a.add 1) (some q)) (ln - 1) (cn - 1))) g { s with ns := s.ns.drop 1 } (if cn = 1 then some q else Option.map (fun a => a.add 1) (some q)) (ln - 1) (cn - 1) vF vD cs := by
      refine hm.put { s with ns := s.ns.drop 1 } rfl rfl _ _ _ rfl ?_ (fun m hmm => hm.byte m (List.mem_of_mem_drop hmm)) (fun r hr _ => ?_) (by have := hm.cap; omega)
      · refine ⟨by simp [hlen], by have := hm.ns.small; omega, fun i x hx => ?_⟩
        have hx' : s.ns[1 + i]? = some x := by rwa [List.getElem?_drop] at hx
        obtain ⟨q', hq', he⟩ := hm.ns.get (1 + i) x hx'
        cases hq'
        have hlt := (List.getElem?_eq_some_iff.1 hx').1
        rw [if_neg (by have := hm.cap; omega)]
        refine ⟨q.add 1, rfl, ?_⟩
        rw [Nat.mul_one] at he ⊢
        rwa [show (q.add 1).add i = q.add (1 + i) from adr_add _ _ _]
      · have := hm.old q rfl (by omega)
        split at hr
        · cases hr; exact this
        · cases hr; rw [add_block]; exact this
    have h' : MK B g (fun k => some k ∈ ownO g vF vD cs) w _ _ _ _ _ vF vD cs := ⟨hm', (Chg.refl _ _).setCell _ (fun _ => by simp), fun k hk => .inl hk, hB⟩
    have hw : IntKind.wrap .i64 n = n := wrap_id (by omega) (by omega)
    exact ret_mk h' ⟨_, rfl, by rw [hw]; omega, by rw [hw]; omega, _, rfl⟩
theorem works116 {B g : Nat} {s : MSt} (hl : s.depth.length ≤ 1000) : Works 44 [.pointer (some ⟨g, 0, none⟩)] B g s fun v s' => v = .int .i64 (s.depth.length : Int) ∧ s' = s := by
  intro w A ln cn vF vD cs hm hB
  refine turns_of (V44.sound ?_)
  have h := MK.begin hm hB
  unfold V44.vc
  simp only [own_add]
  obtain ⟨A3, c3, hv, _, _⟩ := owns_nums hm.dep (len_ok hl)
  exact ⟨A3, _, c3, by rw [← hv]; exact hm.c3, ret_mk h ⟨rfl, rfl⟩⟩
end Go.Proofs.YtidcpndlloppdaaGreatDoor
set_option linter.unusedVariables false
set_option linter.unusedSimpArgs false
namespace Go.Proofs.YtidcpndlloppdaaGreatDoor
open Go.RowKit
theorem owns_slice {w : World} {B : Nat} {e : TypeId} {size : Nat} {v : Value} {n : Nat} {xs : List Value} (h : w.ownsRow B e size v n xs) : ∃ A c, v = .slice A n c := by
  rcases h.2 with ⟨rfl, rfl⟩ | ⟨g, cap, cur, rfl, _⟩
  · exact ⟨none, 0, rfl⟩
  · exact ⟨_, cap, rfl⟩
theorem owns_code {w : World} {B : Nat} {v : Value} {xs : List Ins} (h : w.ownsRow B 67 3 v xs.length (xs.flatMap insV)) (hl : xs.length ≤ 1000) : ∃ A c, v = .slice A xs.length c ∧ CodeAt (newW B w) A xs.length xs := by
  rcases h.2 with ⟨rfl, h0⟩ | ⟨g, cap, cur, rfl, hb, hg, _⟩
  · have : xs = [] := List.eq_nil_of_length_eq_zero h0
    subst this
    exact ⟨none, 0, rfl, rfl, Nat.zero_le _, fun i x hi => by simp at hi⟩
  · refine ⟨_, cap, rfl, rfl, len_ok hl, fun i x hi => ⟨_, rfl, ?_⟩⟩
    obtain ⟨h1, h2, h3⟩ := flat_get hi
    have k1 := h.cells (g := g) rfl _ _ h1
    have k2 := h.cells (g := g) rfl _ _ h2
    have k3 := h.cells (g := g) rfl _ _ h3
    simp only [own_add] at k1 k2 k3
    unfold InsE
    simp only [own_add, bx_add, Nat.add_zero, Nat.zero_add]
    exact ⟨newW_cell.2 ⟨k1, hb⟩, newW_cell.2 ⟨k2, hb⟩, newW_cell.2 ⟨k3, hb⟩⟩
theorem MakerAt.prog {B g : Nat} {w : World} {s : MSt} {A : Option Addr} {ln cn : Nat} {vF vD : Value} {cs : List Value} (h : MakerAt B w g s A ln cn vF vD cs) (hs : s.p.length ≤ 8) (hc : ∀ x ∈ s.p, x.code.length ≤ 1000) :
    ∃ C c, vF = .slice C s.p.length c ∧ ProgAt (newW B w) C s.p.length s.p := by
  rcases h.fns.2 with ⟨hv, h0⟩ | ⟨gF, cap, cur, hv, hbF, _⟩
  · have : s.p = [] := List.eq_nil_of_length_eq_zero h0
    rw [this]
    exact ⟨none, 0, hv, rfl, Nat.zero_le _, fun i x hi => by simp at hi⟩
  · refine ⟨_, cap, hv, rfl, len_ok (by omega), fun i x hx => ⟨_, rfl, ?_⟩⟩
    obtain ⟨x', c, hx', hcc⟩ := h.at (List.getElem?_eq_some_iff.1 hx).1
    rw [hx] at hx'; cases hx'
    obtain ⟨h1, h2, h3, h4⟩ := fncs_get hx hcc
    subst hv
    have k := fun (j : Nat) (u : Value) (hj : (fncsV s.p cs)[j]? = some u) => owns_cell h.fns hj
    obtain ⟨C, c', rfl, hcode⟩ := owns_code (h.code i x c hx hcc) (hc x (List.mem_of_getElem? hx))
    unfold FncE
    simp only [own_add, bx_add, Nat.add_zero, Nat.zero_add]
    exact ⟨newW_cell.2 ⟨k _ _ h1, hbF⟩, newW_cell.2 ⟨k _ _ h2, hbF⟩, newW_cell.2 ⟨k _ _ h3, hbF⟩, C, _, c', newW_cell.2 ⟨k _ _ h4, hbF⟩, hcode⟩
structure Small (s : MSt) : Prop where
  f : s.f < s.p.length
  few : s.p.length ≤ 8
  code : ∀ x ∈ s.p, x.code.length ≤ 500
  par : Few s.p
  dep : s.depth.length ≤ 500
  now : -100 ≤ s.now ∧ s.now ≤ 100
theorem works115 {B g : Nat} {s : MSt} (hs : Small s) (op a b : Int) : Works 43 [.pointer (some ⟨g, 0, none⟩), .int .i64 op, .int .i64 a, .int .i64 b] B g s fun v s' => v = .tuple ⟨[]⟩ ∧ s' = s.add op a b := by
  intro w A ln cn vF vD cs hm hB
  refine turns_of (V43.sound ?_)
  have h := MK.begin hm hB
  unfold V43.vc
  simp only [own_add, bx_add, Nat.add_zero, Nat.zero_add]
  intro q8 _
  obtain ⟨gF, cap, hv, hbF, hbB⟩ := owns_some hm.fns (by have := hs.f; omega)
  obtain ⟨x, c, hx, hc⟩ := hm.at hs.f
  have hxm := List.mem_of_getElem? hx
  obtain ⟨C, cc, hcv, _⟩ := owns_code (hm.code s.f x c hx hc) (by have := hs.code x hxm; omega)
  have h1 := hm.c1
  have hf := hs.f
  have hcellF : w.cell? ⟨gF, s.f * 4 + 3, none⟩ = some c := by
    have hfn := hm.fns
    rw [hv] at hfn
    exact owns_cell hfn (fncs_get hx hc).2.2.2
  refine ⟨_, _, cap, by rw [← hv]; exact h1, _, hm.c2, _, _, cap, by rw [← hv]; exact h1, _, hm.c2, _, rfl, by omega, by omega, C, x.code.length, cc, ?_, ?_⟩
  · rw [← hcv]; simpa only [bx_add, Int.toNat_natCast, Nat.zero_add] using hcellF
  refine expo_alloc (Nat.le_refl _) fun w1 w2 hs1 he1 _ ho1 => ?_
  have hm2 := hm.ext he1 hB
  have hcellF2 := he1.cell hcellF
  refine ⟨by rw [← hcv]; simpa only [bx_add, Int.toNat_natCast, Nat.zero_add] using hcellF2, hm2.c2, by rw [← hv]; exact hm2.c1, hm2.c2, by rw [← hv]; exact hm2.c1, ?_⟩
  have hb26 : Tryz.t67.bytes = 24 := by kernel_rfl
  have hxs := hs.code x hxm
  rw [← hcv]
  refine append_own (t := 61) (e := 67) (i := Tryz.t67) (z := .agg ⟨[.int .i64 0, .int .i64 0, .int .i64 0]⟩) (size := 3) (bytes := 24) (by kernel_rfl) (by kernel_rfl) (by kernel_rfl) (by kernel_rfl) hb26 rfl (by omega) (hm2.code s.f x c hx hc) (news := insV ⟨op, a, b⟩)
    rfl (fun j u hj => ?_) (fun u hu => ?_) (by simp only [maxLen]; omega) (by omega) he1.size (Nat.le_trans hB he1.size) fun v' w3 he3 ho3 hn3 => ?_
  · rw [own_add]
    exact at_cell (L := insV ⟨op, a, b⟩) ho1 hj
  · simp only [insV, List.mem_cons, List.not_mem_nil, or_false] at hu
    rcases hu with rfl | rfl | rfl <;> rfl
  obtain ⟨A3, c3, rfl⟩ := owns_slice ho3
  have hneg : ¬ c.ownBlock = some g := fun e => hm.neC hc g e rfl
  have hneF : ¬ c.ownBlock = some gF := fun e => hm.neFC hc gF e hbF
  have k1 : w3.cell? ⟨g, 1, none⟩ = some vF := he3.cell hm2.c1 hneg
  have k2 : w3.cell? ⟨g, 2, none⟩ = some (.int .i64 s.f) := he3.cell hm2.c2 hneg
  have kF : w3.cell? ⟨gF, s.f * 4 + 3, none⟩ = some c := he3.cell hcellF2 hneF
  refine ⟨A3, x.code.length + 1, c3, rfl, k2, by rw [← hv]; exact k1, _, rfl, by omega, by omega, ⟨c, by simpa only [bx_add, Int.toNat_natCast, Nat.zero_add, Nat.add_zero] using kF⟩, ?_, ?_⟩
  · have := he3.owns hm2.fns fun k hk e => hm.neFC hc k e hk
    rw [hv] at this
    simpa only [bx_add, Int.toNat_natCast, Nat.zero_add, Nat.add_zero] using owns_frozen this (s.f * 4 + 3)
  simp only [bx_add, Int.toNat_natCast, Nat.zero_add, Nat.add_zero]
  have hm4 := hm2.put_code (w1 := w3) hB hx hc he3 hv (ins := ⟨op, a, b⟩) ho3 hn3
  have hown4 : ∀ k, some k ∈ ownO g vF vD (cs.set s.f (.slice A3 (x.code.length + 1) c3)) → some k ∈ ownO g vF vD cs ∨ w2.heap.size ≤ k := fun k hk => ownO_code hc hn3 hk
  have hchg4 : Chg (fun k => some k ∈ ownO g vF vD cs) w (w3.setCell ⟨gF, s.f * 4 + 3, none⟩ (.slice A3 (x.code.length + 1) c3)) :=
    (he3.chg (ext_chg h.chg he1) fun k _ hk => hm.inC hc hk).setCell _ fun _ => hm.inF hbF
  have hsz4 : w2.heap.size ≤ (w3.setCell ⟨gF, s.f * 4 + 3, none⟩ (.slice A3 (x.code.length + 1) c3)).heap.size := by simpa using he3.size
  generalize (w3.setCell ⟨gF, s.f * 4 + 3, none⟩ (.slice A3 (x.code.length + 1) c3)) = w4 at *
  obtain ⟨AD, cD, hvD⟩ := owns_slice hm4.dep
  refine ⟨AD, s.depth.length, cD, by rw [← hvD]; exact hm4.c3, _, hm4.c4, ?_⟩
  have hB4 : B ≤ w4.heap.size := Nat.le_trans hB hchg4.size
  refine expo_alloc hchg4.size fun w5 w6 hs5 he5 _ ho5 => ?_
  have hm6 := hm4.ext he5 hB
  refine ⟨by rw [← hvD]; exact hm6.c3, ?_⟩
  have hb3 : Tryz.t3.bytes = 8 := by kernel_rfl
  have hdl := hs.dep
  rw [← hvD]
  refine append_own (t := 57) (e := 3) (i := Tryz.t3) (z := .int .i64 0) (size := 1) (bytes := 8) (by kernel_rfl) (by kernel_rfl) (by kernel_rfl) (by kernel_rfl) hb3 rfl (by omega) hm6.dep (news := [.int .i64 s.now])
    rfl (fun j u hj => ?_) (fun u hu => ?_) (by simp only [maxLen]; omega) (by simp only; omega) (Nat.le_trans hchg4.size he5.size) (Nat.le_trans hB4 he5.size) fun vD' w7 he7 ho7 hn7 => ?_
  · rw [own_add]
    exact at_cell (L := [.int .i64 s.now]) ho5 hj
  · simp at hu; subst hu; rfl
  obtain ⟨A7, c7, rfl⟩ := owns_slice ho7
  have hneg7 : ¬ vD.ownBlock = some g := fun e => hm.neD g e rfl
  refine ⟨A7, s.depth.length + 1, c7, rfl, ⟨_, he7.cell hm6.c3 hneg7⟩, at_frozen (he7.row g _ _ _ hneg7 hm6.cells) 3, ?_⟩
  have ho7' : w7.ownsRow B 3 1 (.slice A7 (s.depth.length + 1) c7) (s.depth ++ [s.now]).length ((s.depth ++ [s.now]).map (.int .i64)) := by
    simpa using ho7
  have hm8 := hm6.put_dep (w1 := w7) hB he7 ho7' hn7
  have hown8 : ∀ k, some k ∈ ownO g vF (.slice A7 (s.depth.length + 1) c7) (cs.set s.f (.slice A3 (x.code.length + 1) c3)) → some k ∈ ownO g vF vD cs ∨ w.heap.size ≤ k := fun k hk => by
    rcases ownO_dep hn7 hk with h1 | h1
    · rcases hown4 k h1 with h2 | h2
      · exact .inl h2
      · exact .inr (Nat.le_trans he1.size h2)
    · exact .inr (Nat.le_trans (Nat.le_trans hchg4.size he5.size) h1)
  have hchg8 : Chg (fun k => some k ∈ ownO g vF vD cs) w (w7.setCell ⟨g, 3, none⟩ (.slice A7 (s.depth.length + 1) c7)) :=
    (he7.chg (ext_chg hchg4 he5) fun k _ hk => hm.inD hk).setCell _ fun _ => by simp [ownO]
  have h8 : MK B g (fun k => some k ∈ ownO g vF vD cs) w _ _ _ _ _ vF _ _ := ⟨hm8, hchg8, hown8, hB⟩
  generalize (w7.setCell ⟨g, 3, none⟩ (.slice A7 (s.depth.length + 1) c7)) = w8 at *
  -- the calls
  have hp8 : ∀ x ∈ s.p.modify s.f (·.push ⟨op, a, b⟩), x.code.length ≤ 1000 := fun y hy => by
    obtain ⟨i, hi⟩ := List.mem_iff_getElem?.1 hy
    obtain ⟨z, hz, ⟨_, rfl⟩ | ⟨_, rfl⟩⟩ := push_get hi
    · have := hs.code z (List.mem_of_getElem? hz); simp [Fnc.push]; omega
    · have := hs.code y (List.mem_of_getElem? hz); omega
  obtain ⟨C8, c8, hv8, hpr8⟩ := hm8.prog (by simp only [List.length_modify]; exact hs.few) hp8
  refine ⟨_, hm8.c4, C8, _, c8, by rw [← hv8]; exact hm8.c1, ?_⟩
  have hpopeq : popsM (s.p.modify s.f (·.push ⟨op, a, b⟩)) = popsM s.p := popsM_push _ _ _
  have he8 : ∀ {w9 : World}, Ext w.heap.size w8 w9 → ProgAt w9 C8 (s.p.modify s.f (·.push ⟨op, a, b⟩)).length (s.p.modify s.f (·.push ⟨op, a, b⟩)) := fun he => RowAt.keep FncE.kept (RowAt.keep FncE.kept hpr8 newW_in) (ext_keeps he)
  refine call_turns (S := fun _ => False) (Q := fun w1 v w2 => v = .int .i64 (popsM s.p op a)) hchg8.size (fun k hk => hk.elim) (fun w9 he9 => ?_) ?_
  · refine Calls.mono (gives48 (he8 he9) op a b) fun e w' ⟨he, hb⟩ => ⟨_, he, ?_, ⟨hb.os, hb.tape, hb.output, hb.size, fun k hk _ => hb.block k hk⟩⟩
    rw [hpopeq]
  intro w9 v w10 w11 hs9 he9 hc9 hq9 _ hnew9 hrow9 hlow9 hos9 ht9 hou9 hsz9
  have he11 : Ext w.heap.size w8 w11 := ⟨hos9, ht9, hou9, Nat.le_trans hs9 hsz9, fun k c t f hk => hrow9 k c t f (fun h => h) hk, fun k hk => hlow9 k hk (fun h => h)⟩
  have h11 := h8.ext he11
  refine ⟨_, hq9, h11.mem.c4, ?_⟩
  refine call_turns (S := fun _ => False) (Q := fun w1 v w2 => v = .int .i64 (pushesI op)) h11.chg.size (fun k hk => hk.elim) (fun w12 he12 => ?_) ?_
  · exact Calls.mono (gives49 op a b w12) fun e w' ⟨he, hb⟩ => ⟨_, he, rfl, ⟨hb.os, hb.tape, hb.output, hb.size, fun k hk _ => hb.block k hk⟩⟩
  intro w12 v2 w13 w14 hs12 he12 hc12 hq12 _ hnew12 hrow12 hlow12 hos12 ht12 hou12 hsz12
  have he14 : Ext w.heap.size w11 w14 := ⟨hos12, ht12, hou12, Nat.le_trans hs12 hsz12, fun k c t f hk => hrow12 k c t f (fun h => h) hk, fun k hk => hlow12 k hk (fun h => h)⟩
  have h14 := h11.ext he14
  refine ⟨_, hq12, h14.mem.c4, ⟨_, h14.mem.c4⟩, h14.mem.fz 4, ?_⟩
  have hpb := popsM_bd hs.par op a
  have hqb := rowT_bd op
  have hnb := hs.now
  have hwr : IntKind.wrap .i64 (IntKind.wrap .i64 (s.now - popsM s.p op a) + pushesI op) = s.now - popsM s.p op a + pushesI op := by
    rw [wrap_id (n := s.now - popsM s.p op a) (by omega) (by omega)]
    exact wrap_id (by omega) (by omega)
  simp only [hwr]
  have h15 : MK B g (fun k => some k ∈ ownO g vF vD cs) w _ _ _ _ _ vF _ _ := ⟨h14.mem.put_now (s.now - popsM s.p op a + pushesI op), h14.chg.setCell _ (fun _ => by simp [ownO]), h14.blk, hB⟩
  exact ret_mk h15 ⟨rfl, rfl⟩
end Go.Proofs.YtidcpndlloppdaaGreatDoor
set_option linter.unusedVariables false
set_option linter.unusedSimpArgs false
namespace Go.Proofs.YtidcpndlloppdaaGreatDoor
open Go.RowKit
theorem Cur.small {s : MSt} {E : List Int} (h : Cur s E) (hl : s.depth.length ≤ 100) : Small s where
  f := h.f
  few := by have := h.few; omega
  code := fun x hx => by
    obtain ⟨i, hi⟩ := List.mem_iff_getElem?.1 hx
    rcases Nat.lt_trichotomy i s.f with hlt | rfl | hgt
    · have := (h.done i x hlt hi).2.1; omega
    · have := (h.run x hi).1.len; omega
    · rw [h.todo i x hgt hi]; simp
  par := fun x hx => (h.heads x hx).2.1
  dep := by omega
  now := by have := h.now; omega
structure Step (n : Nat) (s s' : MSt) : Prop where
  cur : Cur s' []
  f : s'.f = s.f
  p : s'.p.length = s.p.length
  pops : popsM s'.p = popsM s.p
  dep : s'.depth.length ≤ s.depth.length + n
theorem Step.one {s : MSt} {op a b : Int} (h : Cur (s.add op a b) []) : Step 1 s (s.add op a b) := ⟨h, rfl, add_plen _ _ _ _, popsM_push _ _ _, by rw [add_len]; omega⟩
theorem Step.refl {s : MSt} (h : Cur s []) : Step 0 s s := ⟨h, rfl, rfl, rfl, Nat.le_refl _⟩
theorem Step.trans {m n : Nat} {a b c : MSt} (h : Step m a b) (k : Step n b c) : Step (m + n) a c := ⟨k.cur, k.f.trans h.f, k.p.trans h.p, k.pops.trans h.pops, by have := h.dep; have := k.dep; omega⟩
theorem Step.mono {m n : Nat} {a b : MSt} (h : Step m a b) (hmn : m ≤ n) : Step n a b := { h with dep := by have := h.dep; omega }
theorem tm {b n : Int} (hb : 0 ≤ b) (hn : 0 < n) : 0 ≤ Int.tmod b n ∧ Int.tmod b n < n := ⟨Int.tmod_nonneg _ hb, Int.tmod_lt_of_pos _ hn⟩
theorem td {b n : Int} (hb : 0 ≤ b) (hn : 0 < n) : 0 ≤ Int.tdiv b n ∧ Int.tdiv b n ≤ b := ⟨Int.tdiv_nonneg hb (Int.le_of_lt hn), by rw [Int.tdiv_eq_ediv_of_nonneg hb]; exact Int.ediv_le_self _ hb⟩
theorem push_cur {s : MSt} (h : Cur s []) (h8 : s.now < 8) {a : Int} (ha : -2147483648 ≤ a ∧ a ≤ 2147483648) : Cur (s.add 1 a 0) [] ∧ (s.add 1 a 0).now = s.now + 1 := by
  have hp : popsM s.p 1 a = 0 := by simp [popsM, rowT]
  have hq : pushesI 1 = 1 := by simp [pushesI, rowT]
  exact ⟨h.step 1 a 0 (nextM_on (by omega) _ _) (fun x _ => form_push ha) (by rw [hp]; exact h.now.1) (by rw [hp, hq]; omega), by simp [MSt.add, hp, hq]⟩
theorem row_cur {s : MSt} (h : Cur s []) {op n m : Int} (hrow : rowT op = (0, n, m, true)) (hn : 0 ≤ n) (hne : op ≠ 15 ∧ op ≠ 16 ∧ op ≠ 18 ∧ op ≠ 20) (h1 : n ≤ s.now) (h8 : s.now - n + m ≤ 8) :
    Cur (s.add op 0 0) [] ∧ (s.add op 0 0).now = s.now - n + m := by
  have hp : popsM s.p op 0 = n := by unfold popsM; rw [hrow]; simp only; rw [if_neg (by omega)]
  have hq : pushesI op = m := by unfold pushesI; rw [hrow]
  exact ⟨h.step op 0 0 (nextM_on hne _ _) (fun x _ => form_none (by rw [hrow]) (by rw [hrow])) (by rw [hp]; exact h1) (by rw [hp, hq]; exact h8), by simp [MSt.add, hp, hq]⟩
theorem ref_cur {s : MSt} (h : Cur s []) {op a b : Int} (ho : op = 23 ∨ op = 24 ∨ op = 25) (hb : op = 24 ∨ b = 0) (hf : ∀ x, s.p[s.f]? = some x → 0 ≤ a ∧ a < x.refs ∧ 0 ≤ b ∧ b < x.refs) : Cur (s.add op a b) [] := by
  have hp : popsM s.p op a = 0 := by rcases ho with rfl | rfl | rfl <;> simp [popsM, rowT]
  have hq : pushesI op = 0 := by rcases ho with rfl | rfl | rfl <;> simp [pushesI, rowT]
  refine h.step op a b (nextM_on (by omega) _ _) (fun x hx => ?_) (by rw [hp]; exact h.now.1) (by rw [hp, hq]; have := h.now; omega)
  obtain ⟨h1, h2, h3, h4⟩ := hf x hx
  rcases ho with rfl | rfl | rfl
  · rcases hb with hb | rfl
    · omega
    · exact form_ref (.inl rfl) ⟨h1, h2⟩
  · exact form_same ⟨h1, h2⟩ ⟨h3, h4⟩
  · rcases hb with hb | rfl
    · omega
    · exact form_ref (.inr rfl) ⟨h1, h2⟩
theorem local_cur {s : MSt} (h : Cur s []) {op a : Int} (ho : op = 3 ∨ op = 4) (hf : ∀ x, s.p[s.f]? = some x → 0 ≤ a ∧ a < x.locals - x.refs) (h3 : op = 3 → s.now < 8) (h4 : op = 4 → 0 < s.now) : Cur (s.add op a 0) [] ∧ (op = 3 → (s.add op a 0).now = s.now + 1) := by
  have hp3 : popsM s.p 3 a = 0 := by simp [popsM, rowT]
  have hq3 : pushesI 3 = 1 := by simp [pushesI, rowT]
  have hp4 : popsM s.p 4 a = 1 := by simp [popsM, rowT]
  have hq4 : pushesI 4 = 0 := by simp [pushesI, rowT]
  have hn := h.now
  rcases ho with rfl | rfl
  · have := h3 rfl
    exact ⟨h.step 3 a 0 (nextM_on (by omega) _ _) (fun x hx => form_local (.inl rfl) (h.heads x (List.mem_of_getElem? hx)) (hf x hx)) (by rw [hp3]; omega) (by rw [hp3, hq3]; omega), fun _ => by simp [MSt.add, hp3, hq3]⟩
  · have := h4 rfl
    exact ⟨h.step 4 a 0 (nextM_on (by omega) _ _) (fun x hx => form_local (.inr rfl) (h.heads x (List.mem_of_getElem? hx)) (hf x hx)) (by rw [hp4]; omega) (by rw [hp4, hq4]; omega), fun h => by omega⟩
theorem call_cur {s : MSt} (h : Cur s []) {op a k : Int} (ho : op = 17 ∨ op = 19) (ha : 0 ≤ a ∧ a < s.p.length) (hk : popsM s.p 17 a = k) (h1 : k ≤ s.now) (h8 : op = 17 → s.now - k < 8) : Cur (s.add op a 0) [] := by
  have hp : popsM s.p op a = k := by rcases ho with rfl | rfl <;> rw [← hk] <;> simp [popsM, rowT]
  have hq : pushesI 17 = 1 := by simp [pushesI, rowT]
  have hq9 : pushesI 19 = 0 := by simp [pushesI, rowT]
  have hn := h.now
  have hpar : 0 ≤ k := by rw [← hk]; exact (popsM_bd (fun x hx => (h.heads x hx).2.1) _ _).1
  rcases ho with rfl | rfl
  · exact h.step 17 a 0 (nextM_on (by omega) _ _) (fun x hx => form_call (.inl rfl) ha) (by rw [hp]; exact h1) (by rw [hp, hq]; have := h8 rfl; omega)
  · exact h.step 19 a 0 (nextM_on (by omega) _ _) (fun x hx => form_call (.inr rfl) ha) (by rw [hp]; exact h1) (by rw [hp, hq9]; omega)
section
variable {B g : Nat} {S : Nat → Prop} {w0 w : World} {s : MSt} {A : Option Addr} {ln cn : Nat} {vF vD : Value} {cs : List Value}
theorem call_add {bs : List Nat} {K : Value → World → Prop} {op a b : Int} (h : MK B g S w0 w s A ln cn vF vD cs) {E : List Int} (hc : Cur s E) (hl : s.depth.length ≤ 100)
    (hk : ∀ w' A' ln' cn' vF' vD' cs', MK B g S w0 w' (s.add op a b) A' ln' cn' vF' vD' cs' → K (.tuple ⟨[]⟩) w') : CallK Tryz.prog 43 [.pointer (some ⟨g, 0, none⟩), .int .i64 op, .int .i64 a, .int .i64 b] w0.heap.size w bs K :=
  call_mk h (works115 (hc.small hl) op a b) fun v s' w' A' ln' cn' vF' vD' cs' hR h' => by
    obtain ⟨rfl, rfl⟩ := hR
    exact hk w' A' ln' cn' vF' vD' cs' h'
theorem fin_add {bs : List Nat} {op a b : Int} {R : Value → MSt → Prop} {u : Value} (h : MK B g S w0 w s A ln cn vF vD cs) {E : List Int} (hc : Cur s E) (hl : s.depth.length ≤ 100) (hr : R u (s.add op a b)) :
    CallK Tryz.prog 43 [.pointer (some ⟨g, 0, none⟩), .int .i64 op, .int .i64 a, .int .i64 b] w0.heap.size w bs fun v w_1 => v = .tuple ⟨[]⟩ ∧ Ret w0.heap.size w_1 (IsT w0 S (MkQ B g S w0 R) u) :=
  call_add h hc hl fun w' A' ln' cn' vF' vD' cs' h' => ⟨rfl, ret_mk h' hr⟩
end
def PieceQ (n : Nat) (s : MSt) : Value → MSt → Prop := fun v s' => (v = .bool true ∧ Step n s s') ∨ (v = .bool false ∧ s' = s)
theorem works127 {B g : Nat} {s : MSt} (hc : Cur s []) {n : Nat} {b : Int} (hb : 0 ≤ b ∧ b < 256) (hn : s.now + n ≤ 8) (hl : s.depth.length ≤ 70) : Works 74 [.pointer (some ⟨g, 0, none⟩), .int .i64 n, .int .i64 b] B g s fun v s' => v = .tuple ⟨[]⟩ ∧ Step n s s' ∧ s'.now = s.now + n := by
  intro w0 A ln cn vF vD cs hm hB
  refine turns_of (V74.sound ?_)
  have h0 := MK.begin hm hB
  have hn0 := hc.now
  unfold V74.vc
  have main : ∀ (k i : Nat) (w : World) (s' : MSt) (A1 : Option Addr) (ln1 cn1 : Nat) (vF1 vD1 : Value) (cs1 : List Value), n < i + k → i ≤ n → MK B g (fun k => some k ∈ ownO g vF vD cs) w0 w s' A1 ln1 cn1 vF1 vD1 cs1 → Step i s s' → s'.now = s.now + i →
      V74.l0 w0.heap.size (IsT w0 (fun k => some k ∈ ownO g vF vD cs) (MkQ B g (fun k => some k ∈ ownO g vF vD cs) w0 fun v s' => v = .tuple ⟨[]⟩ ∧ Step n s s' ∧ s'.now = s.now + n)) k ⟨g, 0, none⟩ n b i w := by
    intro k
    induction k with
    | zero => intros; omega
    | succ k ih =>
      intro i w s' A1 ln1 cn1 vF1 vD1 cs1 hk hi h hst hnow
      dsimp -zeta only [V74.l0]
      by_cases hlt : i < n
      · rw [if_pos (by simpa using hlt)]
        refine ⟨by omega, ?_⟩
        have hd := hst.dep
        have hwr : IntKind.wrap .i64 (b + (i : Int)) = b + (i : Int) := wrap_id (by omega) (by omega)
        have ht := tm (b := b + (i : Int)) (n := 12) (by omega) (by omega)
        rw [hwr]
        refine call_add h hst.cur (by omega) fun w' A' ln' cn' vF' vD' cs' h' => ⟨rfl, ?_⟩
        obtain ⟨c1, n1⟩ := push_cur hst.cur (by omega) (a := Int.tmod (b + (i : Int)) 12) (by omega)
        have hwi : IntKind.wrap .i64 ((i : Int) + 1) = ((i + 1 : Nat) : Int) := by rw [wrap_id (by omega) (by omega)]; rfl
        rw [hwi]
        exact ih (i + 1) w' _ A' ln' cn' vF' vD' cs' (by omega) (by omega) h' (hst.trans (Step.one c1)) (by rw [n1, hnow]; push_cast; omega)
      · rw [if_neg (by simpa using hlt)]
        have : i = n := by omega
        subst this
        exact ret_mk h ⟨rfl, hst, hnow⟩
  exact ⟨n + 1, main (n + 1) 0 w0 s A ln cn vF vD cs (by omega) (by omega) h0 (Step.refl hc) (by simp)⟩
end Go.Proofs.YtidcpndlloppdaaGreatDoor
set_option linter.unusedVariables false
set_option linter.unusedSimpArgs false
namespace Go.Proofs.YtidcpndlloppdaaGreatDoor
open Go.RowKit
theorem works128 {B g : Nat} {s : MSt} (hc : Cur s []) {kind b : Int} (hb : 0 ≤ b ∧ b < 256) (hl : s.depth.length ≤ 70) : Works 75 [.pointer (some ⟨g, 0, none⟩), .int .i64 kind, .int .i64 b] B g s (PieceQ 1 s) := by
  intro w A ln cn vF vD cs hm hB
  refine turns_of (V75.sound ?_)
  have h := MK.begin hm hB
  have hn0 := hc.now
  have hl' : s.depth.length ≤ 100 := by omega
  unfold V75.vc
  simp only [own_add, bx_add, Nat.add_zero, Nat.zero_add]
  have hs := hc.small hl'
  obtain ⟨gF, cap, hv, hbF, hbB⟩ := owns_some hm.fns (by have := hs.f; omega)
  obtain ⟨x, c, hx, hcc⟩ := hm.at hs.f
  have hxm := List.mem_of_getElem? hx
  obtain ⟨C, cc, hcv, _⟩ := owns_code (hm.code s.f x c hx hcc) (by have := hs.code x hxm; omega)
  have hf := hs.f
  have hfn := hm.fns
  rw [hv] at hfn
  obtain ⟨g0, g1, g2, g3⟩ := fncs_get hx hcc
  have k := fun (j : Nat) (u : Value) (hj : (fncsV s.p cs)[j]? = some u) => owns_cell hfn hj
  have k0 := k _ _ g0; have k1 := k _ _ g1; have k2 := k _ _ g2; have k3 := k _ _ g3
  rw [hcv] at k3
  refine ⟨some ⟨gF, 0, none⟩, s.p.length, cap, by rw [← hv]; exact hm.c1, (s.f : Int), hm.c2, ⟨gF, 0, none⟩, rfl, by omega, by omega, x.params, ?_, x.locals, ?_, x.refs, ?_, C, x.code.length, cc, ?_, ?_⟩
  · simpa only [own_add, bx_add, Int.toNat_natCast, Nat.zero_add, Nat.add_zero] using k0
  · simpa only [own_add, bx_add, Int.toNat_natCast, Nat.zero_add, Nat.add_zero] using k1
  · simpa only [own_add, bx_add, Int.toNat_natCast, Nat.zero_add, Nat.add_zero] using k2
  · simpa only [own_add, bx_add, Int.toNat_natCast, Nat.zero_add, Nat.add_zero] using k3
  intro q7 _
  refine ⟨?_, ?_, ?_, ?_, hm.c2, by rw [← hv]; exact hm.c1, ?_⟩
  · simpa only [own_add, bx_add, Int.toNat_natCast, Nat.zero_add, Nat.add_zero] using k0
  · simpa only [own_add, bx_add, Int.toNat_natCast, Nat.zero_add, Nat.add_zero] using k1
  · simpa only [own_add, bx_add, Int.toNat_natCast, Nat.zero_add, Nat.add_zero] using k2
  · simpa only [own_add, bx_add, Int.toNat_natCast, Nat.zero_add, Nat.add_zero] using k3
  obtain ⟨a1, a2, a3, a4, a5, a6⟩ := hc.heads x hxm
  have hnum : IntKind.wrap .i64 (x.locals - x.refs) = x.locals - x.refs := wrap_id (by omega) (by omega)
  rw [hnum]
  have hat : ∀ y, s.p[s.f]? = some y → y = x := fun y hy => by rw [hx] at hy; exact (Option.some.inj hy).symm
  have fail : Ret w.heap.size w (IsT w (fun k => some k ∈ ownO g vF vD cs) (MkQ B g (fun k => some k ∈ ownO g vF vD cs) w (PieceQ 1 s)) (.bool false)) := ret_mk h (.inr ⟨rfl, rfl⟩)
  have done : ∀ {op a b' : Int}, Cur (s.add op a b') [] → PieceQ 1 s (.bool true) (s.add op a b') := fun hcu => .inl ⟨rfl, Step.one hcu⟩
  have hcases : kind = 0 ∨ kind = 1 ∨ kind = 2 ∨ kind = 3 ∨ kind = 4 ∨ kind = 5 ∨ kind = 6 ∨ kind = 7 ∨ kind = 8 ∨ kind = 11 ∨ kind = 12 ∨ kind = 13 ∨ (kind ≠ 0 ∧ kind ≠ 1 ∧ kind ≠ 2 ∧ kind ≠ 3 ∧ kind ≠ 4 ∧ kind ≠ 5 ∧ kind ≠ 6 ∧ kind ≠ 7 ∧ kind ≠ 8 ∧ kind ≠ 11 ∧ kind ≠ 12 ∧ kind ≠ 13) := by omega
  have binary : ∀ w', Ext w.heap.size w w' → MK B g (fun k => some k ∈ ownO g vF vD cs) w w' s A ln cn vF vD cs := fun w' he => h.ext he
  rcases hcases with rfl | rfl | rfl | rfl | rfl | rfl | rfl | rfl | rfl | rfl | rfl | rfl | ⟨h0, h1, h2, h3, h4, h5, h6, h7, h8, h11, h12, h13⟩
  · -- 0
    simp only [V75.b0, V75.b1, V75.b2, V75.b3, V75.b4, V75.b5, V75.b6, V75.b7, V75.b8, V75.b9, V75.b10, Int.reduceBEq, Bool.false_eq_true, Bool.true_eq_false, if_true, if_false, decide_eq_true_eq, own_add]
    refine ⟨_, hm.c4, ?_⟩
    split
    · rename_i h8
      rw [wrap_id (n := b - 100) (by omega) (by omega)]
      exact fin_add h hc hl' (done (push_cur hc h8 (by omega)).1)
    · exact fail
  · -- 1
    simp only [V75.b0, V75.b1, V75.b2, V75.b3, V75.b4, V75.b5, V75.b6, V75.b7, V75.b8, V75.b9, V75.b10, Int.reduceBEq, Bool.false_eq_true, Bool.true_eq_false, if_true, if_false, decide_eq_true_eq, own_add]
    refine ⟨_, hm.c4, ?_⟩
    split
    · rename_i h8
      refine ⟨by omega, fin_add h hc hl' (done ?_)⟩
      have ht := tm hb.1 (n := 6) (by omega)
      have hp : popsM s.p 2 (Int.tmod b 6) = 0 := by simp [popsM, rowT]
      have hq : pushesI 2 = 1 := by simp [pushesI, rowT]
      exact hc.step 2 _ 0 (nextM_on (by omega) _ _) (fun x _ => form_odd ht) (by rw [hp]; omega) (by rw [hp, hq]; omega)
    · exact fail
  · -- 2
    simp only [V75.b0, V75.b1, V75.b2, V75.b3, V75.b4, V75.b5, V75.b6, V75.b7, V75.b8, V75.b9, V75.b10, Int.reduceBEq, Bool.false_eq_true, Bool.true_eq_false, if_true, if_false, decide_eq_true_eq, own_add]
    refine ⟨_, hm.c4, ?_⟩
    split
    · rename_i h8
      split
      · rename_i hpos
        refine ⟨by omega, fin_add h hc hl' (done ?_)⟩
        exact (local_cur hc (.inl rfl) (fun y hy => by rw [hat y hy]; exact tm hb.1 hpos) (fun _ => h8) (fun h => by omega)).1
      · exact fail
    · exact fail
  · -- 3
    simp only [V75.b0, V75.b1, V75.b2, V75.b3, V75.b4, V75.b5, V75.b6, V75.b7, V75.b8, V75.b9, V75.b10, Int.reduceBEq, Bool.false_eq_true, Bool.true_eq_false, if_true, if_false, decide_eq_true_eq, own_add]
    refine ⟨_, hm.c4, ?_⟩
    split
    · rename_i h8
      split
      · rename_i hpos
        refine ⟨by omega, fin_add h hc hl' (done ?_)⟩
        exact (local_cur hc (.inr rfl) (fun y hy => by rw [hat y hy]; exact tm hb.1 hpos) (fun h => by omega) (fun _ => h8)).1
      · exact fail
    · exact fail
  iterate 2
    · -- 4, 5
      simp only [V75.b0, V75.b1, V75.b2, V75.b3, V75.b4, V75.b5, V75.b6, V75.b7, V75.b8, V75.b9, V75.b10, Int.reduceBEq, Bool.false_eq_true, Bool.true_eq_false, if_true, if_false, decide_eq_true_eq, own_add]
      refine ⟨_, hm.c4, ?_⟩
      split
      · rename_i h8
        refine expo_alloc (Nat.le_refl _) fun w1 w2 hs1 he1 _ ho1 => ?_
        have ht := tm hb.1 (n := 8) (by omega)
        obtain ⟨o, ho, hrow, hne⟩ : ∃ o : Int, ([.int .i64 5, .int .i64 6, .int .i64 7, .int .i64 8, .int .i64 11, .int .i64 12, .int .i64 13, .int .i64 14] : List Value)[(Int.tmod b 8).toNat]? = some (.int .i64 o) ∧ rowT o = (0, 2, 1, true) ∧ (o ≠ 15 ∧ o ≠ 16 ∧ o ≠ 18 ∧ o ≠ 20) := by
          have hcs : Int.tmod b 8 = 0 ∨ Int.tmod b 8 = 1 ∨ Int.tmod b 8 = 2 ∨ Int.tmod b 8 = 3 ∨ Int.tmod b 8 = 4 ∨ Int.tmod b 8 = 5 ∨ Int.tmod b 8 = 6 ∨ Int.tmod b 8 = 7 := by omega
          rcases hcs with e | e | e | e | e | e | e | e <;> rw [e] <;> refine ⟨_, rfl, ?_, ?_⟩ <;> simp [rowT]
        refine ⟨by omega, _, rfl, ht.1, ht.2, o, by rw [bx_add, Nat.zero_add]; exact at_cell ho1 ho, ?_⟩
        exact fin_add (h.ext he1) hc hl' (done (row_cur hc hrow (by omega) hne (by omega) (by omega)).1)
      · exact fail
  · -- 6
    simp only [V75.b0, V75.b1, V75.b2, V75.b3, V75.b4, V75.b5, V75.b6, V75.b7, V75.b8, V75.b9, V75.b10, Int.reduceBEq, Bool.false_eq_true, Bool.true_eq_false, if_true, if_false, decide_eq_true_eq, own_add]
    refine ⟨_, hm.c4, ?_⟩
    split
    · rename_i h8
      have ht := tm hb.1 (n := 2) (by omega)
      refine ⟨by omega, ?_⟩
      rw [wrap_id (n := 9 + Int.tmod b 2) (by omega) (by omega)]
      have hcs : 9 + Int.tmod b 2 = 9 ∨ 9 + Int.tmod b 2 = 10 := by omega
      refine fin_add h hc hl' (done (row_cur (n := 1) (m := 1) hc ?_ (by omega) (by omega) (by omega) (by omega)).1)
      rcases hcs with e | e <;> rw [e] <;> simp [rowT]
    · exact fail
  · -- 7
    simp only [V75.b0, V75.b1, V75.b2, V75.b3, V75.b4, V75.b5, V75.b6, V75.b7, V75.b8, V75.b9, V75.b10, Int.reduceBEq, Bool.false_eq_true, Bool.true_eq_false, if_true, if_false, decide_eq_true_eq, own_add]
    refine ⟨_, hm.c4, ?_⟩
    split
    · rename_i h8
      exact fin_add h hc hl' (done (row_cur (op := 22) (n := 1) (m := 0) hc (by simp [rowT]) (by omega) (by omega) (by omega) (by omega)).1)
    · exact fail
  · -- 8
    simp only [V75.b0, V75.b1, V75.b2, V75.b3, V75.b4, V75.b5, V75.b6, V75.b7, V75.b8, V75.b9, V75.b10, Int.reduceBEq, Bool.false_eq_true, Bool.true_eq_false, if_true, if_false, decide_eq_true_eq, own_add]
    refine ⟨_, hm.c4, ?_⟩
    split
    · rename_i h8
      refine expo_alloc (Nat.le_refl _) fun w1 w2 hs1 he1 _ ho1 => ?_
      have ht := tm hb.1 (n := 2) (by omega)
      obtain ⟨o, ho, hrow, hne⟩ : ∃ o : Int, ([.int .i64 27, .int .i64 22] : List Value)[(Int.tmod b 2).toNat]? = some (.int .i64 o) ∧ rowT o = (0, 1, 0, true) ∧ (o ≠ 15 ∧ o ≠ 16 ∧ o ≠ 18 ∧ o ≠ 20) := by
        have hcs : Int.tmod b 2 = 0 ∨ Int.tmod b 2 = 1 := by omega
        rcases hcs with e | e <;> rw [e] <;> refine ⟨_, rfl, ?_, ?_⟩ <;> simp [rowT]
      refine ⟨by omega, _, rfl, ht.1, ht.2, o, by rw [bx_add, Nat.zero_add]; exact at_cell ho1 ho, ?_⟩
      exact fin_add (h.ext he1) hc hl' (done (row_cur hc hrow (by omega) hne (by omega) (by omega)).1)
    · exact fail
  · -- 11
    simp only [V75.b0, V75.b1, V75.b2, V75.b3, V75.b4, V75.b5, V75.b6, V75.b7, V75.b8, V75.b9, V75.b10, Int.reduceBEq, Bool.false_eq_true, Bool.true_eq_false, if_true, if_false, decide_eq_true_eq, own_add]
    refine ⟨_, hm.c4, ?_⟩
    rw [wrap_id (n := s.now + 2) (by omega) (by omega)]
    split
    · rename_i h8
      exact fin_add h hc hl' (done (row_cur (op := 21) (n := 0) (m := 2) hc (by simp [rowT]) (by omega) (by omega) (by omega) (by omega)).1)
    · exact fail
  · -- 12
    simp only [V75.b0, V75.b1, V75.b2, V75.b3, V75.b4, V75.b5, V75.b6, V75.b7, V75.b8, V75.b9, V75.b10, Int.reduceBEq, Bool.false_eq_true, Bool.true_eq_false, if_true, if_false, decide_eq_true_eq, own_add]
    split
    · rename_i hpos
      have h5 := td hb.1 (n := 5) (by omega)
      have h7 := td hb.1 (n := 7) (by omega)
      rw [wrap_id (n := Int.tdiv b 5) (by omega) (by omega), wrap_id (n := Int.tdiv b 7) (by omega) (by omega)]
      have t5 := tm h5.1 hpos
      have t7 := tm h7.1 hpos
      refine ⟨by omega, ?_⟩
      split
      · exact ⟨by omega, by omega, fin_add h hc hl' (done (ref_cur hc (.inr (.inr rfl)) (.inr rfl) fun y hy => by rw [hat y hy]; omega))⟩
      · split
        · exact ⟨by omega, by omega, by omega, by omega, fin_add h hc hl' (done (ref_cur hc (.inr (.inl rfl)) (.inl rfl) fun y hy => by rw [hat y hy]; omega))⟩
        · exact ⟨by omega, by omega, fin_add h hc hl' (done (ref_cur hc (.inl rfl) (.inr rfl) fun y hy => by rw [hat y hy]; omega))⟩
    · exact fail
  · -- 13
    simp only [V75.b0, V75.b1, V75.b2, V75.b3, V75.b4, V75.b5, V75.b6, V75.b7, V75.b8, V75.b9, V75.b10, Int.reduceBEq, Bool.false_eq_true, Bool.true_eq_false, if_true, if_false, decide_eq_true_eq, own_add]
    refine ⟨by omega, ?_⟩
    split
    · exact fin_add h hc hl' (done (row_cur (op := 26) (n := 0) (m := 0) hc (by simp [rowT]) (by omega) (by omega) (by omega) (by omega)).1)
    · refine call_mk h (works116 (by omega)) fun v s' w' A' ln' cn' vF' vD' cs' hR h' => ?_
      obtain ⟨rfl, rfl⟩ := hR
      refine ⟨_, rfl, ?_⟩
      rw [wrap_id (n := (s'.depth.length : Int) + 1) (by omega) (by omega)]
      refine fin_add h' hc hl' (done ?_)
      have hp : popsM s'.p 15 ((s'.depth.length : Int) + 1) = 0 := by simp [popsM, rowT]
      have hq : pushesI 15 = 0 := by simp [pushesI, rowT]
      exact hc.step 15 _ 0 (by simp [nextM]) (fun x _ => form_jump (.inl rfl)) (by rw [hp]; omega) (by rw [hp, hq]; omega)
  · -- others
    have e0 : (kind == 0) = false := beq_eq_false_iff_ne.2 h0
    have e1 : (kind == 1) = false := beq_eq_false_iff_ne.2 h1
    have e2 : (kind == 2) = false := beq_eq_false_iff_ne.2 h2
    have e3 : (kind == 3) = false := beq_eq_false_iff_ne.2 h3
    have e4 : (kind == 4) = false := beq_eq_false_iff_ne.2 h4
    have e5 : (kind == 5) = false := beq_eq_false_iff_ne.2 h5
    have e6 : (kind == 6) = false := beq_eq_false_iff_ne.2 h6
    have e7 : (kind == 7) = false := beq_eq_false_iff_ne.2 h7
    have e8 : (kind == 8) = false := beq_eq_false_iff_ne.2 h8
    have e11 : (kind == 11) = false := beq_eq_false_iff_ne.2 h11
    have e12 : (kind == 12) = false := beq_eq_false_iff_ne.2 h12
    have e13 : (kind == 13) = false := beq_eq_false_iff_ne.2 h13
    simp only [V75.b0, V75.b1, V75.b2, V75.b3, V75.b4, V75.b5, V75.b6, V75.b7, V75.b8, V75.b9, V75.b10, e0, e1, e2, e3, e4, e5, e6, e7, e8, e11, e12, e13, Bool.false_eq_true, Bool.true_eq_false, if_true, if_false]
    exact fail
end Go.Proofs.YtidcpndlloppdaaGreatDoor
set_option linter.unusedVariables false
set_option linter.unusedSimpArgs false
namespace Go.Proofs.YtidcpndlloppdaaGreatDoor
open Go.RowKit
theorem add_pops (s : MSt) (op a b : Int) : popsM (s.add op a b).p = popsM s.p := popsM_push _ _ _
theorem popsM_in {p : List Fnc} {i : Int} {x : Fnc} (h0 : 0 ≤ i) (hx : p[i.toNat]? = some x) (hp : 0 ≤ x.params) : popsM p 17 i = x.params := by
  unfold popsM
  rw [if_pos (by simp [rowT]), paramsM_in (by omega) hx, if_neg (by omega)]
theorem if_cur {s : MSt} (h : Cur s []) {j : Nat} (hj : s.depth[j]? = some (s.now - 1)) (hn : 0 < s.now) : Cur (s.add 16 (j : Int) 0) [] := by
  have hp : popsM s.p 16 (j : Int) = 1 := by simp [popsM, rowT]
  have hq : pushesI 16 = 0 := by simp [pushesI, rowT]
  have hb := h.now
  refine (h.more [s.now - 1]).add 16 _ 0 (fun x _ => form_jump (.inr rfl)) (by rw [hp]; omega) (by rw [hp, hq]; omega) (by omega) fun t ht => ?_
  simp [nextM] at ht
  rcases ht with rfl | rfl
  · exact ⟨by omega, by rw [Int.toNat_natCast]; exact get_more hj⟩
  · exact at_get (i := 1) (by omega) rfl
theorem works117 {B g : Nat} {s : MSt} (hc : Cur s []) {kind b : Int} (hb : 0 ≤ b ∧ b < 256) (hl : s.depth.length ≤ 60) : Works 45 [.pointer (some ⟨g, 0, none⟩), .int .i64 kind, .int .i64 b] B g s (PieceQ 6 s) := by
  intro w A ln cn vF vD cs hm hB
  refine turns_of (V45.sound ?_)
  have h := MK.begin hm hB
  have hn0 := hc.now
  have hl' : s.depth.length ≤ 100 := by omega
  unfold V45.vc
  simp only [own_add, bx_add, Nat.add_zero, Nat.zero_add]
  have hs := hc.small hl'
  have hf := hs.f
  have hfew := hc.few
  obtain ⟨gF, cap, hv, hbF, hbB⟩ := owns_some hm.fns (by omega)
  have hfn := hm.fns
  rw [hv] at hfn
  have tg := tm hb.1 (n := (s.p.length : Int)) (by omega)
  obtain ⟨x, c, hx, hcc⟩ := hm.at (i := (Int.tmod b (s.p.length : Int)).toNat) (by omega)
  have hxm := List.mem_of_getElem? hx
  obtain ⟨a1, a2, a3, a4, a5, a6⟩ := hc.heads x hxm
  have kx := owns_cell hfn (fncs_get hx hcc).1
  have hpop : popsM s.p 17 (Int.tmod b (s.p.length : Int)) = x.params := popsM_in tg.1 hx a1
  obtain ⟨y, d, hy, hd⟩ := hm.at hf
  have ky := owns_cell hfn (fncs_get hy hd).1
  obtain ⟨y1, y2, y3, y4, y5, y6⟩ := hc.heads y (List.mem_of_getElem? hy)
  have hat : ∀ z, s.p[s.f]? = some z → z = y := fun z hz => by rw [hy] at hz; exact (Option.some.inj hz).symm
  refine ⟨some ⟨gF, 0, none⟩, s.p.length, cap, by rw [← hv]; exact hm.c1, by omega, some ⟨gF, 0, none⟩, s.p.length, cap, by rw [← hv]; exact hm.c1, ⟨gF, 0, none⟩, rfl, tg.1, tg.2, x.params, ?_, ?_⟩
  · simpa only [own_add, bx_add, Nat.zero_add, Nat.add_zero] using kx
  generalize hg : Int.tmod b (s.p.length : Int) = G at *
  generalize hk : x.params = k at *
  have plain : ∀ kd : Int, CallK Tryz.prog 75 [.pointer (some ⟨g, 0, none⟩), .int .i64 kd, .int .i64 b] w.heap.size w [] fun v w_1 => ∃ b30 : Bool, v = .bool b30 ∧ Ret w.heap.size w_1 (IsT w (fun k => some k ∈ ownO g vF vD cs) (MkQ B g (fun k => some k ∈ ownO g vF vD cs) w (PieceQ 6 s)) (.bool b30)) := fun kd =>
    call_mk h (works128 hc hb (by omega)) fun v s' w' A' ln' cn' vF' vD' cs' hR h' => by
      rcases hR with ⟨rfl, hst⟩ | ⟨rfl, rfl⟩
      · exact ⟨true, rfl, ret_mk h' (.inl ⟨rfl, hst.mono (by omega)⟩)⟩
      · exact ⟨false, rfl, ret_mk h' (.inr ⟨rfl, rfl⟩)⟩
  have fail : Ret w.heap.size w (IsT w (fun k => some k ∈ ownO g vF vD cs) (MkQ B g (fun k => some k ∈ ownO g vF vD cs) w (PieceQ 6 s)) (.bool false)) := ret_mk h (.inr ⟨rfl, rfl⟩)
  have done : ∀ {op a b' : Int}, Cur (s.add op a b') [] → PieceQ 6 s (.bool true) (s.add op a b') := fun hcu => .inl ⟨rfl, (Step.one hcu).mono (by omega)⟩
  have hcases : kind = 9 ∨ kind = 10 ∨ kind = 14 ∨ kind = 15 ∨ kind = 16 ∨ kind = 17 ∨ kind = 18 ∨ kind = 19 ∨ (kind ≠ 9 ∧ kind ≠ 10 ∧ kind ≠ 14 ∧ kind ≠ 15 ∧ kind ≠ 16 ∧ kind ≠ 17 ∧ kind ≠ 18 ∧ kind ≠ 19) := by omega
  rcases hcases with rfl | rfl | rfl | rfl | rfl | rfl | rfl | rfl | ⟨h9, h10, h14, h15, h16, h17, h18, h19⟩
  · -- 9
    simp only [V45.b0, V45.b1, V45.b2, V45.b4, V45.b5, V45.b6, V45.b7, Int.reduceBEq, Bool.false_eq_true, Bool.true_eq_false, if_true, if_false, decide_eq_true_eq, own_add]
    refine ⟨_, hm.c4, ?_⟩
    split
    · refine ⟨_, hm.c4, ?_⟩
      rw [wrap_id (n := s.now - k) (by omega) (by omega)]
      split
      · exact fin_add h hc hl' (done (call_cur hc (.inl rfl) tg hpop (by omega) (fun _ => by omega)))
      · exact plain 9
    · exact plain 9
  · -- 10
    simp only [V45.b0, V45.b1, V45.b2, V45.b4, V45.b5, V45.b6, V45.b7, Int.reduceBEq, Bool.false_eq_true, Bool.true_eq_false, if_true, if_false, decide_eq_true_eq, own_add]
    refine ⟨_, hm.c4, ?_⟩
    split
    · exact fin_add h hc hl' (done (call_cur hc (.inr rfl) tg hpop (by omega) (fun h => by omega)))
    · exact plain 10
  · -- 14
    simp only [V45.b0, V45.b1, V45.b2, V45.b4, V45.b5, V45.b6, V45.b7, Int.reduceBEq, Bool.false_eq_true, Bool.true_eq_false, if_true, if_false, decide_eq_true_eq, own_add]
    refine ⟨_, hm.c4, ?_⟩
    split
    · rename_i hpos
      refine call_mk h (works116 (by omega)) fun v s' w' A' ln' cn' vF' vD' cs' hR h' => ?_
      obtain ⟨rfl, rfl⟩ := hR
      have t7 := tm hb.1 (n := 7) (by omega)
      have hwr : IntKind.wrap .i64 (IntKind.wrap .i64 ((s'.depth.length : Int) - 1) - Int.tmod b 7) = (s'.depth.length : Int) - 1 - Int.tmod b 7 := by
        rw [wrap_id (n := (s'.depth.length : Int) - 1) (by omega) (by omega)]
        exact wrap_id (by omega) (by omega)
      refine ⟨_, rfl, by omega, 64, ?_⟩
      rw [hwr]
      have fail' : Ret w.heap.size w' (IsT w (fun k => some k ∈ ownO g vF vD cs) (MkQ B g (fun k => some k ∈ ownO g vF vD cs) w (PieceQ 6 s')) (.bool false)) := ret_mk h' (.inr ⟨rfl, rfl⟩)
      have loop : ∀ (n : Nat) (j : Int), -1000 ≤ j → j < s'.depth.length → j + 1 < n ∧ 1 ≤ n → V45.l3 w.heap.size (IsT w (fun k => some k ∈ ownO g vF vD cs) (MkQ B g (fun k => some k ∈ ownO g vF vD cs) w (PieceQ 6 s'))) n ⟨g, 0, none⟩ j w' := by
        intro n
        induction n with
        | zero => intro j h1 h2 h3; omega
        | succ n ih =>
          intro j h1 h2 h3
          dsimp -zeta only [V45.l3]
          by_cases hj : 0 ≤ j
          · rw [if_pos (by simpa using hj)]
            obtain ⟨AD, cD, hvD, hnD, _⟩ := owns_nums h'.mem.dep (len_ok (by omega))
            obtain ⟨e, p, he, hp, hce⟩ := hnD.at (i := j.toNat) (by omega)
            simp only [own_add]
            refine ⟨AD, _, cD, by rw [← hvD]; exact h'.mem.c3, p, hp, hj, by omega, e, hce, _, h'.mem.c4, ?_⟩
            rw [wrap_id (n := s'.now - 1) (by omega) (by omega)]
            by_cases heq : e = s'.now - 1
            · rw [if_pos (by simpa using heq)]
              subst heq
              have hcu := if_cur hc he hpos
              rw [Int.toNat_of_nonneg hj] at hcu
              exact fin_add h' hc hl' (done hcu)
            · rw [if_neg (by simpa using heq), wrap_id (n := j - 1) (by omega) (by omega)]
              exact ih (j - 1) (by omega) (by omega) (by omega)
          · rw [if_neg (by simpa using hj)]
            exact fail'
      exact loop 64 _ (by omega) (by omega) (by omega)
    · exact plain 14
  · -- 15
    simp only [V45.b0, V45.b1, V45.b2, V45.b4, V45.b5, V45.b6, V45.b7, Int.reduceBEq, Bool.false_eq_true, Bool.true_eq_false, if_true, if_false, decide_eq_true_eq, own_add]
    refine ⟨_, hm.c4, ?_⟩
    split
    · rename_i h8
      have t3 := tm hb.1 (n := 3) (by omega)
      obtain ⟨op, hop, hoo⟩ : ∃ op : Int, ([.int .i64 20, .int .i64 18] : List Value)[0]? = some (.int .i64 op) ∧ (op = 18 ∨ op = 20) := ⟨_, rfl, by omega⟩
      obtain ⟨c1, c2, c3, c4⟩ := hc.over h8 (Int.tmod b 3) b hoo (by omega) (by omega)
      refine ⟨by omega, ?_⟩
      refine call_add h hc hl' fun w1 A1 ln1 cn1 vF1 vD1 cs1 h1 => ⟨rfl, ?_⟩
      have d1 := add_len s 1 (Int.tmod b 3) 0
      refine call_mk h1 (works116 (by omega)) fun v s' w2 A2 ln2 cn2 vF2 vD2 cs2 hR h2 => ?_
      obtain ⟨rfl, rfl⟩ := hR
      refine ⟨_, rfl, ?_⟩
      have hto : IntKind.wrap .i64 (((s.add 1 (Int.tmod b 3) 0).depth.length : Int) + 3) = (s.depth.length : Int) + 4 := by
        rw [d1]; push_cast
        rw [wrap_id (by omega) (by omega)]; omega
      rw [hto]
      refine call_add h2 c1 (by omega) fun w3 A3 ln3 cn3 vF3 vD3 cs3 h3 => ⟨rfl, ?_⟩
      have d2 := add_len (s.add 1 (Int.tmod b 3) 0) 16 ((s.depth.length : Int) + 4) 0
      refine call_add h3 c2 (by omega) fun w4 A4 ln4 cn4 vF4 vD4 cs4 h4 => ⟨rfl, ?_⟩
      have d3 := add_len ((s.add 1 (Int.tmod b 3) 0).add 16 ((s.depth.length : Int) + 4) 0) 1 b 0
      intro w5 e5 _
      obtain ⟨he5, ho5⟩ := alloc0 (.cells ⟨[.int .i64 20, .int .i64 18]⟩ 3) e5 h4.chg.size
      refine ⟨_, rfl, by decide, by decide, op, at_cell (L := [.int .i64 20, .int .i64 18]) ho5 hop, ?_⟩
      have hst : Step 4 s ((((s.add 1 (Int.tmod b 3) 0).add 16 ((s.depth.length : Int) + 4) 0).add 1 b 0).add op 0 0) :=
        ⟨c4, rfl, by simp [add_plen], by simp only [add_pops], by simp only [add_len]; omega⟩
      exact fin_add (h4.ext he5) c3 (by omega) (.inl ⟨rfl, hst.mono (by omega)⟩)
    · exact plain 15
  · -- 16
    simp only [V45.b0, V45.b1, V45.b2, V45.b4, V45.b5, V45.b6, V45.b7, Int.reduceBEq, Bool.false_eq_true, Bool.true_eq_false, if_true, if_false, decide_eq_true_eq, own_add]
    refine ⟨_, hm.c4, ?_⟩
    split
    · rename_i h8
      have t3 := tm hb.1 (n := 3) (by omega)
      obtain ⟨op, hop, hoo⟩ : ∃ op : Int, ([.int .i64 20, .int .i64 18] : List Value)[1]? = some (.int .i64 op) ∧ (op = 18 ∨ op = 20) := ⟨_, rfl, by omega⟩
      obtain ⟨c1, c2, c3, c4⟩ := hc.over h8 (Int.tmod b 3) b hoo (by omega) (by omega)
      refine ⟨by omega, ?_⟩
      refine call_add h hc hl' fun w1 A1 ln1 cn1 vF1 vD1 cs1 h1 => ⟨rfl, ?_⟩
      have d1 := add_len s 1 (Int.tmod b 3) 0
      refine call_mk h1 (works116 (by omega)) fun v s' w2 A2 ln2 cn2 vF2 vD2 cs2 hR h2 => ?_
      obtain ⟨rfl, rfl⟩ := hR
      refine ⟨_, rfl, ?_⟩
      have hto : IntKind.wrap .i64 (((s.add 1 (Int.tmod b 3) 0).depth.length : Int) + 3) = (s.depth.length : Int) + 4 := by
        rw [d1]; push_cast
        rw [wrap_id (by omega) (by omega)]; omega
      rw [hto]
      refine call_add h2 c1 (by omega) fun w3 A3 ln3 cn3 vF3 vD3 cs3 h3 => ⟨rfl, ?_⟩
      have d2 := add_len (s.add 1 (Int.tmod b 3) 0) 16 ((s.depth.length : Int) + 4) 0
      refine call_add h3 c2 (by omega) fun w4 A4 ln4 cn4 vF4 vD4 cs4 h4 => ⟨rfl, ?_⟩
      have d3 := add_len ((s.add 1 (Int.tmod b 3) 0).add 16 ((s.depth.length : Int) + 4) 0) 1 b 0
      intro w5 e5 _
      obtain ⟨he5, ho5⟩ := alloc0 (.cells ⟨[.int .i64 20, .int .i64 18]⟩ 3) e5 h4.chg.size
      refine ⟨_, rfl, by decide, by decide, op, at_cell (L := [.int .i64 20, .int .i64 18]) ho5 hop, ?_⟩
      have hst : Step 4 s ((((s.add 1 (Int.tmod b 3) 0).add 16 ((s.depth.length : Int) + 4) 0).add 1 b 0).add op 0 0) :=
        ⟨c4, rfl, by simp [add_plen], by simp only [add_pops], by simp only [add_len]; omega⟩
      exact fin_add (h4.ext he5) c3 (by omega) (.inl ⟨rfl, hst.mono (by omega)⟩)
    · exact plain 16
  · -- 17
    simp only [V45.b0, V45.b1, V45.b2, V45.b4, V45.b5, V45.b6, V45.b7, Int.reduceBEq, Bool.false_eq_true, Bool.true_eq_false, if_true, if_false, decide_eq_true_eq, own_add]
    refine ⟨_, hm.c4, ?_⟩
    rw [wrap_id (n := s.now + k) (by omega) (by omega)]
    split
    · refine ⟨_, hm.c4, ?_⟩
      split
      · have hkn : ((k.toNat : Nat) : Int) = k := Int.toNat_of_nonneg a1
        have w127 := works127 (B := B) (g := g) hc (n := k.toNat) hb (by omega) (by omega)
        rw [hkn] at w127
        refine call_mk h w127 fun v s' w' A' ln' cn' vF' vD' cs' hR h' => ?_
        obtain ⟨rfl, hst, hnow⟩ := hR
        have hd := hst.dep
        refine ⟨rfl, fin_add h' hst.cur (by omega) (.inl ⟨rfl, (hst.trans (Step.one (call_cur (k := k) hst.cur (.inl rfl) (by rw [hst.p]; exact tg) (by rw [hst.pops]; exact hpop) (by omega) (fun _ => by omega)))).mono (by omega)⟩)⟩
      · exact plain 17
    · exact plain 17
  · -- 18
    simp only [V45.b0, V45.b1, V45.b2, V45.b4, V45.b5, V45.b6, V45.b7, Int.reduceBEq, Bool.false_eq_true, Bool.true_eq_false, if_true, if_false, decide_eq_true_eq, own_add]
    split
    · rename_i hkpos
      refine ⟨_, hm.c4, ?_⟩
      have hmx : (if 2 > k then 2 else k) ≤ 3 ∧ 2 ≤ (if 2 > k then (2 : Int) else k) ∧ k ≤ (if 2 > k then (2 : Int) else k) := by split <;> omega
      generalize (if 2 > k then (2 : Int) else k) = M at *
      rw [wrap_id (n := s.now + M) (by omega) (by omega)]
      split
      · refine ⟨some ⟨gF, 0, none⟩, s.p.length, cap, by rw [← hv]; exact hm.c1, (s.f : Int), hm.c2, ⟨gF, 0, none⟩, rfl, by omega, by omega, y.params, by simpa only [own_add, bx_add, Int.toNat_natCast, Nat.zero_add, Nat.add_zero] using ky, ?_⟩
        split
        · rename_i hpp
          have hkn : (((k - 1).toNat : Nat) : Int) = k - 1 := Int.toNat_of_nonneg (by omega)
          obtain ⟨c1, n1⟩ := local_cur hc (op := 3) (a := 0) (.inl rfl) (fun z hz => by rw [hat z hz]; omega) (fun _ => by omega) (fun h => by omega)
          have n1 := n1 rfl
          have d1 := add_len s 3 0 0
          obtain ⟨c2, n2⟩ := push_cur c1 (by omega) (a := 1) (by omega)
          have d2 := add_len (s.add 3 0 0) 1 1 0
          obtain ⟨c3, n3⟩ := row_cur c2 (op := 6) (n := 2) (m := 1) (by simp [rowT]) (by omega) (by omega) (by omega) (by omega)
          have d3 := add_len ((s.add 3 0 0).add 1 1 0) 6 0 0
          have st3 : Step 3 s (((s.add 3 0 0).add 1 1 0).add 6 0 0) := ((Step.one c1).trans (Step.one c2)).trans (Step.one c3)
          refine call_add h hc hl' fun w1 A1 ln1 cn1 vF1 vD1 cs1 h1 => ⟨rfl, ?_⟩
          refine call_add h1 c1 (by omega) fun w2 A2 ln2 cn2 vF2 vD2 cs2 h2 => ⟨rfl, ?_⟩
          refine call_add h2 c2 (by omega) fun w3 A3 ln3 cn3 vF3 vD3 cs3 h3 => ⟨rfl, ?_⟩
          rw [wrap_id (n := k - 1) (by omega) (by omega)]
          have w127 := works127 (B := B) (g := g) c3 (n := (k - 1).toNat) hb (by omega) (by omega)
          rw [hkn] at w127
          refine call_mk h3 w127 fun v s' w' A' ln' cn' vF' vD' cs' hR h' => ?_
          obtain ⟨rfl, hst, hnow⟩ := hR
          have hd := hst.dep
          have st := st3.trans hst
          refine ⟨rfl, fin_add h' hst.cur (by omega) (.inl ⟨rfl, (st.trans (Step.one (call_cur (k := k) st.cur (.inl rfl) (by rw [st.p]; exact tg) (by rw [st.pops]; exact hpop) (by omega) (fun _ => by omega)))).mono (by omega)⟩)⟩
        · exact plain 18
      · exact plain 18
    · exact plain 18
  · -- 19
    simp only [V45.b0, V45.b1, V45.b2, V45.b4, V45.b5, V45.b6, V45.b7, Int.reduceBEq, Bool.false_eq_true, Bool.true_eq_false, if_true, if_false, decide_eq_true_eq, own_add]
    refine ⟨_, hm.c4, ?_⟩
    rw [wrap_id (n := s.now + k) (by omega) (by omega)]
    split
    · have hkn : ((k.toNat : Nat) : Int) = k := Int.toNat_of_nonneg a1
      have w127 := works127 (B := B) (g := g) hc (n := k.toNat) hb (by omega) (by omega)
      rw [hkn] at w127
      refine call_mk h w127 fun v s' w' A' ln' cn' vF' vD' cs' hR h' => ?_
      obtain ⟨rfl, hst, hnow⟩ := hR
      have hd := hst.dep
      refine ⟨rfl, fin_add h' hst.cur (by omega) (.inl ⟨rfl, (hst.trans (Step.one (call_cur (k := k) hst.cur (.inr rfl) (by rw [hst.p]; exact tg) (by rw [hst.pops]; exact hpop) (by omega) (fun h => by omega)))).mono (by omega)⟩)⟩
    · exact plain 19
  · -- others
    have e9 : (kind == 9) = false := beq_eq_false_iff_ne.2 h9
    have e10 : (kind == 10) = false := beq_eq_false_iff_ne.2 h10
    have e14 : (kind == 14) = false := beq_eq_false_iff_ne.2 h14
    have e15 : (kind == 15) = false := beq_eq_false_iff_ne.2 h15
    have e16 : (kind == 16) = false := beq_eq_false_iff_ne.2 h16
    have e17 : (kind == 17) = false := beq_eq_false_iff_ne.2 h17
    have e18 : (kind == 18) = false := beq_eq_false_iff_ne.2 h18
    have e19 : (kind == 19) = false := beq_eq_false_iff_ne.2 h19
    simp only [V45.b0, V45.b1, V45.b2, V45.b4, V45.b5, V45.b6, V45.b7, e9, e10, e14, e15, e16, e17, e18, e19, Bool.false_eq_true, Bool.true_eq_false, if_true, if_false]
    exact plain kind
end Go.Proofs.YtidcpndlloppdaaGreatDoor
set_option linter.unusedVariables false
set_option linter.unusedSimpArgs false
namespace Go.Proofs.YtidcpndlloppdaaGreatDoor
open Go.RowKit
theorem now_eq {s : MSt} {n : Int} (h : s.now = n) : { s with now := n } = s := by subst h; rfl
theorem MakerAt.put_zero {B g : Nat} {w : World} {s : MSt} {A : Option Addr} {ln cn : Nat} {vF vD : Value} {cs : List Value} (h : MakerAt B w g s A ln cn vF vD cs) (h0 : s.now = 0) : MakerAt B (w.setCell ⟨g, 4, none⟩ (.int .i64 0)) g s A ln cn vF vD cs := by
  have := h.put_now 0
  rwa [now_eq h0] at this
theorem Cur.ns {s : MSt} {E : List Int} (h : Cur s E) (l : List Int) : Cur { s with ns := l } E := ⟨h.pos, h.few, h.f, h.heads, h.zero, h.done, h.todo, h.run, h.start, h.now⟩
theorem Step.ns {s : MSt} (h : Cur s []) (l : List Int) : Step 0 s { s with ns := l } := ⟨h.ns l, rfl, rfl, rfl, Nat.le_refl _⟩
def CodeQ (s : MSt) : Value → MSt → Prop := fun v s' => v = .tuple ⟨[]⟩ ∧ Ph s'.p (s.f + 1) ∧ s'.p.length = s.p.length
section
variable {B g : Nat} {w0 : World} {vF0 vD0 : Value} {cs0 : List Value}
theorem b2_26 {S : Nat → Prop} {s0 s : MSt} {w : World} {A : Option Addr} {ln cn : Nat} {vF vD : Value} {cs : List Value} (h : MK B g S w0 w s A ln cn vF vD cs) (hc : Cur s []) (hf : s.f = s0.f) (hp : s.p.length = s0.p.length) (hl : s.depth.length ≤ 60) :
    V26.b2 w0.heap.size (IsT w0 S (MkQ B g S w0 (CodeQ s0))) ⟨g, 0, none⟩ w := by
  unfold V26.b2
  simp only [own_add]
  have hn := hc.now
  refine ⟨_, h.mem.c4, ?_⟩
  by_cases h0 : s.now = 0
  · rw [if_pos (by simpa using h0)]
    obtain ⟨c1, n1⟩ := push_cur hc (by omega) (a := 7) (by omega)
    have d1 := add_len s 1 7 0
    refine call_add h hc (by omega) fun w1 A1 ln1 cn1 vF1 vD1 cs1 h1 => ⟨rfl, ?_⟩
    refine fin_add h1 c1 (by omega) ⟨rfl, ?_, by rw [add_plen, add_plen, hp]⟩
    have := c1.finish (by omega) (by omega)
    rw [add_f, hf] at this
    exact this
  · rw [if_neg (by simpa using h0)]
    refine fin_add h hc (by omega) ⟨rfl, ?_, by rw [add_plen, hp]⟩
    have := hc.finish (by omega) (by omega)
    rw [hf] at this
    exact this
theorem l1_26 {S : Nat → Prop} {s0 : MSt} {n : Nat} (hn : n ≤ 16) : ∀ (k i : Nat) (w : World) (s : MSt) (A : Option Addr) (ln cn : Nat) (vF vD : Value) (cs : List Value), n < i + k → i ≤ n → MK B g S w0 w s A ln cn vF vD cs → Cur s [] → s.f = s0.f → s.p.length = s0.p.length → s.depth.length ≤ 60 →
    V26.l1 w0.heap.size (IsT w0 S (MkQ B g S w0 (CodeQ s0))) k ⟨g, 0, none⟩ n i w := by
  intro k
  induction k with
  | zero => intros; omega
  | succ k ih =>
    intro i w s A ln cn vF vD cs hk hi h hc hf hp hl
    dsimp -zeta only [V26.l1]
    by_cases hlt : i < n
    · rw [if_pos (by simpa using hlt)]
      refine call_mk h (works116 (by omega)) fun v s' w1 A1 ln1 cn1 vF1 vD1 cs1 hR h1 => ?_
      obtain ⟨rfl, rfl⟩ := hR
      refine ⟨_, rfl, ?_⟩
      by_cases h54 : s'.depth.length < 54
      · rw [if_pos (by simp; omega)]
        refine call_mk h1 works85 fun v s2 w2 A2 ln2 cn2 vF2 vD2 cs2 hR h2 => ?_
        obtain ⟨x, rfl, hx0, hx1, l2, rfl⟩ := hR
        refine ⟨x, rfl, by omega, ?_⟩
        refine call_mk h2 works85 fun v s3 w3 A3 ln3 cn3 vF3 vD3 cs3 hR h3 => ?_
        obtain ⟨b, rfl, hb0, hb1, l3, rfl⟩ := hR
        refine ⟨b, rfl, ?_⟩
        have c3 : Cur { s' with ns := l3 } [] := hc.ns l3
        refine call_mk h3 (works117 (kind := Int.tmod x 20) c3 ⟨hb0, hb1⟩ (by show s'.depth.length ≤ 60; omega)) fun v s4 w4 A4 ln4 cn4 vF4 vD4 cs4 hR h4 => ?_
        have hwi : IntKind.wrap .i64 ((i : Int) + 1) = ((i + 1 : Nat) : Int) := by rw [wrap_id (by omega) (by omega)]; rfl
        rcases hR with ⟨rfl, hst⟩ | ⟨rfl, rfl⟩
        · refine ⟨true, rfl, ?_⟩
          rw [if_pos rfl, hwi]
          have hd := hst.dep
          exact ih (i + 1) w4 s4 A4 ln4 cn4 vF4 vD4 cs4 (by omega) (by omega) h4 hst.cur (by rw [hst.f]; exact hf) (by rw [hst.p]; exact hp) (by have : s4.depth.length ≤ s'.depth.length + 6 := hd; omega)
        · refine ⟨false, rfl, ?_⟩
          rw [if_neg (by simp)]
          simp only [own_add]
          refine ⟨_, h4.mem.c4, ?_⟩
          have hcn : 0 ≤ s'.now ∧ s'.now ≤ 8 := hc.now
          by_cases h8 : s'.now < 8
          · rw [if_pos (by simpa using h8)]
            have t9 := tm hb0 (n := 9) (by omega)
            obtain ⟨c5, n5⟩ := push_cur c3 h8 (a := Int.tmod b 9) (by omega)
            refine ⟨by omega, call_add h4 c3 (by show s'.depth.length ≤ 100; omega) fun w5 A5 ln5 cn5 vF5 vD5 cs5 h5 => ⟨rfl, ?_⟩⟩
            rw [hwi]
            exact ih (i + 1) w5 _ A5 ln5 cn5 vF5 vD5 cs5 (by omega) (by omega) h5 c5 hf (by rw [add_plen]; exact hp) (by rw [add_len]; show s'.depth.length + 1 ≤ 60; omega)
          · rw [if_neg (by simpa using h8)]
            obtain ⟨c5, n5⟩ := row_cur c3 (op := 27) (n := 1) (m := 0) (by simp [rowT]) (by omega) (by omega) (by show 1 ≤ s'.now; omega) (by show s'.now - 1 + 0 ≤ 8; omega)
            refine call_add h4 c3 (by show s'.depth.length ≤ 100; omega) fun w5 A5 ln5 cn5 vF5 vD5 cs5 h5 => ⟨rfl, ?_⟩
            rw [hwi]
            exact ih (i + 1) w5 _ A5 ln5 cn5 vF5 vD5 cs5 (by omega) (by omega) h5 c5 hf (by rw [add_plen]; exact hp) (by rw [add_len]; show s'.depth.length + 1 ≤ 60; omega)
      · rw [if_neg (by simp; omega)]
        exact b2_26 h1 hc hf hp hl
    · rw [if_neg (by simpa using hlt)]
      exact b2_26 h hc hf hp hl
theorem b0_26 {S : Nat → Prop} {s0 s : MSt} {w : World} {A : Option Addr} {ln cn : Nat} {vF vD : Value} {cs : List Value} (h : MK B g S w0 w s A ln cn vF vD cs) (hc : Cur s []) (hf : s.f = s0.f) (hp : s.p.length = s0.p.length) (hl : s.depth.length ≤ 60) :
    V26.b0 w0.heap.size (IsT w0 S (MkQ B g S w0 (CodeQ s0))) ⟨g, 0, none⟩ w := by
  unfold V26.b0
  refine call_mk h works85 fun v s2 w2 A2 ln2 cn2 vF2 vD2 cs2 hR h2 => ?_
  obtain ⟨x, rfl, hx0, hx1, l2, rfl⟩ := hR
  have t := tm hx0 (n := 16) (by omega)
  have hxn : ((Int.tmod x 16).toNat : Int) = Int.tmod x 16 := Int.toNat_of_nonneg t.1
  refine ⟨x, rfl, by omega, (Int.tmod x 16).toNat + 1, ?_⟩
  have := l1_26 (B := B) (g := g) (w0 := w0) (S := S) (s0 := s0) (n := (Int.tmod x 16).toNat) (by omega) ((Int.tmod x 16).toNat + 1) 0 w2 _ A2 ln2 cn2 vF2 vD2 cs2 (by omega) (by omega) h2 (hc.ns l2) hf hp hl
  rw [hxn] at this
  exact this
end
theorem works86 {B g : Nat} {s : MSt} (hph : Ph s.p s.f) (hf : s.f < s.p.length) : Works 26 [.pointer (some ⟨g, 0, none⟩)] B g s (CodeQ s) := by
  intro w A ln cn vF vD cs hm hB
  refine turns_of (V26.sound ?_)
  unfold V26.vc
  simp only [own_add, bx_add, Nat.add_zero, Nat.zero_add]
  refine ⟨⟨_, hm.c3⟩, hm.fz 3, ?_⟩
  have hc0 : Chg (fun k => some k ∈ ownO g vF vD cs) w w := Chg.refl _ _
  have hm1 : MakerAt B (w.setCell ⟨g, 3, none⟩ (.slice none 0 0)) g { s with depth := [] } A ln cn vF (.slice none 0 0) cs :=
    hm.put_dep (w1 := w) (B' := w.heap.size) (v := .slice none 0 0) (ds := []) hB ⟨rfl, rfl, rfl, Nat.le_refl _, fun k c t f _ hk => hk, fun k _ _ => rfl⟩ (World.ownsRow_nil _ _ _ _) (fun k hk => by cases hk)
  have hc1 : Chg (fun k => some k ∈ ownO g vF vD cs) w (w.setCell ⟨g, 3, none⟩ (.slice none 0 0)) := hc0.setCell _ fun _ => by simp [ownO]
  have hb1 : ∀ k, some k ∈ ownO g vF (.slice none 0 0) cs → some k ∈ ownO g vF vD cs ∨ w.heap.size ≤ k := fun k hk => ownO_dep (fun k hk => by cases hk) hk
  generalize (w.setCell ⟨g, 3, none⟩ (.slice none 0 0)) = w1 at *
  refine ⟨⟨_, hm1.c4⟩, hm1.fz 4, ?_⟩
  have hm2 := hm1.put_now 0
  have hc2 : Chg (fun k => some k ∈ ownO g vF vD cs) w (w1.setCell ⟨g, 4, none⟩ (.int .i64 0)) := hc1.setCell _ fun _ => by simp [ownO]
  generalize (w1.setCell ⟨g, 4, none⟩ (.int .i64 0)) = w2 at *
  have h2 : MK B g (fun k => some k ∈ ownO g vF vD cs) w w2 { s with depth := [], now := 0 } A ln cn vF (.slice none 0 0) cs := ⟨hm2, hc2, hb1, hB⟩
  have cur2 : Cur { s with depth := [], now := 0 } [] := hph.begin hf s.ns
  obtain ⟨gF, cap, hv, hbF, hbB⟩ := owns_some hm2.fns (by show 0 < s.p.length; omega)
  have hfn := hm2.fns
  rw [hv] at hfn
  obtain ⟨x, c, hx, hcc⟩ := hm2.at hf
  have kx := owns_cell hfn (fncs_get hx hcc).1
  obtain ⟨a1, a2, a3, a4, a5, a6⟩ := cur2.heads x (List.mem_of_getElem? hx)
  refine ⟨some ⟨gF, 0, none⟩, s.p.length, cap, by rw [show (Value.slice (some ⟨gF, 0, none⟩) s.p.length cap) = vF from hv.symm]; exact hm2.c1, (s.f : Int), hm2.c2, ⟨gF, 0, none⟩, rfl, by omega, by omega, x.params, by simpa only [own_add, bx_add, Int.toNat_natCast, Nat.zero_add, Nat.add_zero] using kx, ?_⟩
  have hpl : s.p.length ≤ 5 := cur2.few
  split
  · rename_i hpos
    have hpos : x.params > 0 := by simpa using hpos
    have hat : ∀ y, s.p[s.f]? = some y → 0 < y.params := fun y hy => by rw [show s.p[s.f]? = some x from hx] at hy; cases hy; exact hpos
    obtain ⟨c1, c2, c3, c4, n4⟩ := cur2.header rfl rfl hat (c := (s.f : Int)) (by omega)
    refine call_add h2 cur2 (by simp) fun w3 A3 ln3 cn3 vF3 vD3 cs3 h3 => ⟨rfl, ?_⟩
    refine call_add h3 c1 (by simp [MSt.add]) fun w4 A4 ln4 cn4 vF4 vD4 cs4 h4 => ⟨rfl, ?_⟩
    refine ⟨_, h4.mem.c2, ?_⟩
    refine call_add h4 c2 (by simp [MSt.add]) fun w5 A5 ln5 cn5 vF5 vD5 cs5 h5 => ⟨rfl, ?_⟩
    refine call_add h5 c3 (by simp [MSt.add]) fun w6 A6 ln6 cn6 vF6 vD6 cs6 h6 => ⟨rfl, ?_⟩
    refine ⟨⟨_, h6.mem.c4⟩, h6.mem.fz 4, ?_⟩
    have h7 : MK B g (fun k => some k ∈ ownO g vF vD cs) w (w6.setCell ⟨g, 4, none⟩ (.int .i64 0)) _ A6 ln6 cn6 vF6 vD6 cs6 := ⟨h6.mem.put_zero n4, h6.chg.setCell _ (fun hk => by simp [ownO]), h6.blk, hB⟩
    exact b0_26 h7 c4 rfl (by simp [MSt.add]) (by simp [MSt.add])
  · exact b0_26 h2 cur2 rfl rfl (by simp)
end Go.Proofs.YtidcpndlloppdaaGreatDoor
set_option linter.unusedVariables false
set_option linter.unusedSimpArgs false
namespace Go.Proofs.YtidcpndlloppdaaGreatDoor
open Go.RowKit
theorem MakerAt.put_fns {B g : Nat} {w : World} {s : MSt} {A : Option Addr} {ln cn : Nat} {vF vD : Value} {cs : List Value} (h : MakerAt B w g s A ln cn vF vD cs) {w1 : World} {B' : Nat} (hB : B ≤ B') (he : ExtS B' (fun k => vF.ownBlock = some k) w w1) {v : Value} {x : Fnc} (hx : x.code = [])
    (hv : w1.ownsRow B 63 4 v (s.p.length + 1) (fncsV s.p cs ++ fncV x (.slice none 0 0))) (hnew : ∀ k, v.ownBlock = some k → vF.ownBlock = some k ∨ w.heap.size ≤ k) :
    MakerAt B (w1.setCell ⟨g, 1, none⟩ v) g { s with p := s.p ++ [x] } A ln cn v vD (cs ++ [.slice none 0 0]) where
  cells := by
    have hc := he.row g _ _ _ (fun e => h.neF g e rfl) h.cells
    rw [at_set hc 1 v]; rfl
  ns := nums_block1 h.ns fun q hq hl => by
    have hq1 := h.old q hq hl
    rw [at_other (by have := h.above; omega), he.low _ (by omega) (fun e => by have := (h.blocks (h.inF e)).1; omega)]
  byte := h.byte
  old := h.old
  cap := h.cap
  fns := by
    have : w1.ownsRow B 63 4 v (s.p ++ [x]).length (fncsV (s.p ++ [x]) (cs ++ [.slice none 0 0])) := by
      rw [fncs_snoc x _ h.len]; simpa using hv
    refine owns_other this fun k hk => at_other fun e => ?_
    subst e
    rcases hnew k hk with h1 | h1
    · exact h.neF k h1 rfl
    · have := lt_of_some h.cells; omega
  len := by simp [h.len]
  code := fun j y c hy hc => by
    by_cases hj : j < s.p.length
    · rw [List.getElem?_append_left hj] at hy
      rw [List.getElem?_append_left (by rw [h.len]; exact hj)] at hc
      exact owns_other (he.owns (h.code j y c hy hc) fun k hk e => h.neFC hc k hk e) fun k hk => at_other (h.neC hc k hk)
    · have hj' : j = s.p.length := by have := (List.getElem?_eq_some_iff.1 hy).1; simp at this; omega
      subst hj'
      have h1 : y = x := by simpa using hy.symm
      have h2 : c = .slice none 0 0 := by rw [← h.len] at hc; simpa using hc.symm
      subst h1; subst h2
      rw [hx]
      exact World.ownsRow_nil _ _ _ _
  dep := owns_other (he.owns h.dep fun k hk e => h.neFD k e hk) fun k hk => at_other (h.neD k hk)
  above := h.above
  apart := by
    have : ownO g v vD (cs ++ [.slice none 0 0]) = (ownO g vF vD cs).set 1 v.ownBlock ++ [none] := by
      simp [ownO, Value.ownBlock]
    rw [this]
    refine (h.apart.set fun k hk => ?_).none
    rcases hnew k hk with h1 | h1
    · left; simp [h1]
    · right; intro j hj
      have := h.lt (List.mem_of_getElem? hj); omega
def MadeQ (w : World) : Value → World → Prop := fun v w' => ∃ p C c, v = .agg ⟨[.slice C p.length c]⟩ ∧ MadeOk p ∧ ProgAt (newW w.heap.size w') C p.length p ∧ p.length ≤ c ∧ ∀ q, C = some q → w.heap.size ≤ q.block
structure Begun (p : List Fnc) : Prop where
  heads : ∀ x ∈ p, HeadOk x ∧ x.code = []
  zero : ∀ x, p[0]? = some x → x.params = 0
theorem Begun.ph {p : List Fnc} (h : Begun p) (h1 : 1 ≤ p.length) (h5 : p.length ≤ 5) : Ph p 0 :=
  ⟨h1, h5, fun x hx => (h.heads x hx).1, h.zero, fun i x hi _ => by omega, fun i x _ hx => (h.heads x (List.mem_of_getElem? hx)).2⟩
theorem owns_prog {w : World} {B : Nat} {v : Value} {n : Nat} {xs : List Value} (h : w.ownsRow B 63 4 v n xs) : ∃ C c, v = .slice C n c ∧ n ≤ c ∧ ∀ q, C = some q → B ≤ q.block := by
  rcases h.2 with ⟨rfl, h0⟩ | ⟨g, cap, cur, rfl, hb, _, hc, _⟩
  · subst h0; exact ⟨none, 0, rfl, Nat.le_refl _, fun q hq => by cases hq⟩
  · exact ⟨_, cap, rfl, hc, fun q hq => by cases hq; exact hb⟩
abbrev Off : Nat → Prop := fun _ => False
theorem chg_below {w0 w : World} (h : Chg Off w0 w) : Below w0.heap.size w0 w := ⟨h.os, h.tape, h.output, h.size, fun k hk => h.block k hk (fun h => h)⟩
section
variable {w0 : World} {g : Nat} {q2 : Nat}
theorem l2_14 {n : Nat} (hn5 : n ≤ 5) (hn1 : 1 ≤ n) : ∀ (k i : Nat) (w : World) (s : MSt) (A : Option Addr) (ln cn : Nat) (vF vD : Value) (cs : List Value), n < i + k → i ≤ n → MK w0.heap.size g Off w0 w s A ln cn vF vD cs → Ph s.p i → s.p.length = n →
    V14.l2 w0.heap.size (IsQ w0 (MadeQ w0)) k ⟨g, 0, none⟩ n i q2 none 0 0 w := by
  intro k
  induction k with
  | zero => intros; omega
  | succ k ih =>
    intro i w s A ln cn vF vD cs hk hi h hph hp
    dsimp -zeta only [V14.l2]
    simp only [own_add, bx_add, Nat.add_zero, Nat.zero_add]
    by_cases hlt : i < n
    · rw [if_pos (by simpa using hlt)]
      refine ⟨⟨_, h.mem.c2⟩, h.mem.fz 2, ?_⟩
      have h1 : MK w0.heap.size g Off w0 (w.setCell ⟨g, 2, none⟩ (.int .i64 i)) { s with f := i } A ln cn vF vD cs :=
        ⟨h.mem.put_f i, h.chg.setCell _ (fun hk => absurd hk (by have := h.mem.above; simp only; omega)), h.blk, h.low⟩
      refine call_mk h1 (works86 hph (by show i < s.p.length; omega)) fun v s' w' A' ln' cn' vF' vD' cs' hR h' => ?_
      obtain ⟨rfl, hph', hl'⟩ := hR
      have hwi : IntKind.wrap .i64 ((i : Int) + 1) = ((i + 1 : Nat) : Int) := by rw [wrap_id (by omega) (by omega)]; rfl
      rw [hwi]
      exact ⟨rfl, ih (i + 1) w' s' A' ln' cn' vF' vD' cs' (by omega) (by omega) h' hph' (hl'.trans hp)⟩
    · rw [if_neg (by simpa using hlt)]
      have hin : i = n := by omega
      subst hin
      rw [← hp] at hph
      have hmade := hph.made
      obtain ⟨C, c, hv, hpr⟩ := h.mem.prog (by omega) (fun x hx => by have := (hmade.done x hx).2.1; omega)
      obtain ⟨C', c', hv', hcap, hbl⟩ := owns_prog h.mem.fns
      rw [hv] at hv'
      cases hv'
      refine ⟨C, s.p.length, c, by rw [← hv]; exact h.mem.c1, ret_q (chg_below h.chg) fun w1 he => ?_⟩
      exact ⟨s.p, C, c, rfl, hmade, RowAt.keep FncE.kept hpr (newW_keep (Nat.le_refl _) (ext_keeps he)), hcap, hbl⟩
theorem b1_14 {L : Addr → Int → Int → Nat → Option Addr → Nat → Nat → World → Prop} {n i : Nat} {q6 : Nat} {P : Int} (hP : 0 ≤ P ∧ P ≤ 3) {w : World} {s : MSt} {A : Option Addr} {ln cn : Nat} {vF vD : Value} {cs : List Value} (h : MK w0.heap.size g Off w0 w s A ln cn vF vD cs)
    (hb : Begun s.p) (hl : s.p.length ≤ 5) (hz : s.p.length = 0 → P = 0)
    (hL : ∀ w' s' A' ln' cn' vF' vD' cs', MK w0.heap.size g Off w0 w' s' A' ln' cn' vF' vD' cs' → Begun s'.p → s'.p.length = s.p.length + 1 → L ⟨g, 0, none⟩ n (IntKind.wrap .i64 ((i : Int) + 1)) q2 none 0 0 w') :
    V14.b1 w0.heap.size (IsQ w0 (MadeQ w0)) L ⟨g, 0, none⟩ n i q6 P 0 0 none 0 0 q2 none 0 0 w := by
  unfold V14.b1
  refine call_mk h works85 fun v s1 w1 A1 ln1 cn1 vF1 vD1 cs1 hR h1 => ?_
  obtain ⟨b, rfl, hb0, hb1, l2, rfl⟩ := hR
  simp only [own_add, bx_add, Nat.add_zero, Nat.zero_add]
  refine ⟨b, rfl, by omega, by omega, by omega, by omega, ?_⟩
  have t5 := tm hb0 (n := 5) (by omega)
  have d5 := td hb0 (n := 5) (by omega)
  have t4 := tm d5.1 (n := 4) (by omega)
  rw [wrap_id (n := Int.tdiv b 5) (by omega) (by omega), wrap_id (n := P + Int.tmod b 5) (by omega) (by omega)]
  have hmin : 0 ≤ (if Int.tmod (Int.tdiv b 5) 4 < Int.tmod b 5 then Int.tmod (Int.tdiv b 5) 4 else Int.tmod b 5) ∧ (if Int.tmod (Int.tdiv b 5) 4 < Int.tmod b 5 then Int.tmod (Int.tdiv b 5) 4 else Int.tmod b 5) ≤ Int.tmod b 5 := by
    split <;> omega
  generalize (if Int.tmod (Int.tdiv b 5) 4 < Int.tmod b 5 then Int.tmod (Int.tdiv b 5) 4 else Int.tmod b 5) = M at hmin ⊢
  obtain ⟨C, c, hv, hcap, _⟩ := owns_prog h1.mem.fns
  refine ⟨C, s.p.length, c, by rw [show Value.slice C s.p.length c = vF1 from hv.symm]; exact h1.mem.c1, ?_⟩
  refine expo_alloc h1.chg.size fun w2 w3 hs2 he2 _ ho2 => ?_
  have h3 := h1.ext he2
  refine ⟨by rw [show Value.slice C s.p.length c = vF1 from hv.symm]; exact h3.mem.c1, ?_⟩
  rw [show Value.slice C s.p.length c = vF1 from hv.symm]
  have hb29 : Tryz.t63.bytes = 48 := by kernel_rfl
  have hsz3 : w0.heap.size ≤ w3.heap.size := h3.chg.size
  refine append_own (t := 22) (e := 63) (i := Tryz.t63) (z := .agg ⟨[.int .i64 0, .int .i64 0, .int .i64 0, .slice none 0 0]⟩) (size := 4) (bytes := 48) (by kernel_rfl) (by kernel_rfl) (by kernel_rfl) (by kernel_rfl) hb29 rfl (by omega) h3.mem.fns
    (news := fncV ⟨P, P + Int.tmod b 5, M, []⟩ (.slice none 0 0)) rfl (fun j u hj => ?_) (fun u hu => ?_) (by simp only [maxLen]; omega) (by simp only; omega) hsz3 hsz3 fun v' w4 he4 ho4 hn4 => ?_
  · rw [own_add]
    exact at_cell (L := fncV ⟨P, P + Int.tmod b 5, M, []⟩ (.slice none 0 0)) ho2 hj
  · simp only [fncV, List.mem_cons, List.not_mem_nil, or_false] at hu
    rcases hu with rfl | rfl | rfl | rfl <;> rfl
  obtain ⟨C4, c4, hv4, _, _⟩ := owns_prog ho4
  subst hv4
  have hneF : ¬ vF1.ownBlock = some g := fun e => h3.mem.neF g e rfl
  refine ⟨C4, s.p.length + 1, c4, rfl, ⟨_, he4.cell h3.mem.c1 hneF⟩, at_frozen (he4.row g _ _ _ hneF h3.mem.cells) 1, ?_⟩
  have hm5 := h3.mem.put_fns (B' := w0.heap.size) (Nat.le_refl _) he4 (x := ⟨P, P + Int.tmod b 5, M, []⟩) rfl ho4 hn4
  have hc5 : Chg Off w0 (w4.setCell ⟨g, 1, none⟩ (.slice C4 (s.p.length + 1) c4)) :=
    (he4.chg h3.chg fun k hk e => by have := (h3.mem.blocks (h3.mem.inF e)).1; omega).setCell _ fun hk => absurd hk (by have := h3.mem.above; simp only; omega)
  have h5 : MK w0.heap.size g Off w0 _ _ _ _ _ _ _ _ := ⟨hm5, hc5, fun k hk => .inr ((hm5.blocks hk).1), Nat.le_refl _⟩
  refine hL _ _ _ _ _ _ _ _ h5 ⟨fun x hx => ?_, fun x hx => ?_⟩ (by simp)
  · rcases List.mem_append.1 hx with hx | hx
    · exact hb.heads x hx
    · simp at hx; subst hx
      refine ⟨?_, rfl⟩
      unfold HeadOk
      simp only
      omega
  · by_cases h0 : s.p.length = 0
    · have hnil : s.p = [] := List.eq_nil_of_length_eq_zero h0
      have hx' : (s.p ++ [(⟨P, P + Int.tmod b 5, M, []⟩ : Fnc)])[0]? = some x := hx
      rw [hnil] at hx'
      simp at hx'
      subst hx'
      exact hz h0
    · have hx' : (s.p ++ [(⟨P, P + Int.tmod b 5, M, []⟩ : Fnc)])[0]? = some x := hx
      rw [List.getElem?_append_left (by omega)] at hx'
      exact hb.zero x hx'
theorem l0_14 {n : Nat} (hn5 : n ≤ 5) (hn1 : 1 ≤ n) : ∀ (k i : Nat) (w : World) (s : MSt) (A : Option Addr) (ln cn : Nat) (vF vD : Value) (cs : List Value), n < i + k → i ≤ n → MK w0.heap.size g Off w0 w s A ln cn vF vD cs → Begun s.p → s.p.length = i →
    V14.l0 w0.heap.size (IsQ w0 (MadeQ w0)) k ⟨g, 0, none⟩ n i q2 none 0 0 w := by
  intro k
  induction k with
  | zero => intros; omega
  | succ k ih =>
    intro i w s A ln cn vF vD cs hk hi h hb hp
    dsimp -zeta only [V14.l0]
    have hwi : IntKind.wrap .i64 ((i : Int) + 1) = ((i + 1 : Nat) : Int) := by rw [wrap_id (by omega) (by omega)]; rfl
    have next : ∀ {w' s' A' ln' cn' vF' vD' cs'}, MK w0.heap.size g Off w0 w' s' A' ln' cn' vF' vD' cs' → Begun s'.p → s'.p.length = i + 1 → i < n → V14.l0 w0.heap.size (IsQ w0 (MadeQ w0)) k ⟨g, 0, none⟩ n (IntKind.wrap .i64 ((i : Int) + 1)) q2 none 0 0 w' := fun h' hb' hp' hin => by
      rw [hwi]
      exact ih (i + 1) _ _ _ _ _ _ _ _ (by omega) (by omega) h' hb' hp'
    by_cases hlt : i < n
    · rw [if_pos (by simpa using hlt)]
      intro q6 _
      by_cases h0 : 0 < i
      · rw [if_pos (by simpa using h0)]
        refine call_mk h works85 fun v s1 w1 A1 ln1 cn1 vF1 vD1 cs1 hR h1 => ?_
        obtain ⟨x, rfl, hx0, hx1, l2, rfl⟩ := hR
        have t4 := tm hx0 (n := 4) (by omega)
        refine ⟨x, rfl, by omega, b1_14 ⟨t4.1, by omega⟩ h1 hb (by show s.p.length ≤ 5; omega) (fun e => by have : s.p.length = 0 := e; omega) fun w' s' A' ln' cn' vF' vD' cs' h' hb' hp' => next h' hb' (by rw [hp']; show s.p.length + 1 = _; omega) hlt⟩
      · rw [if_neg (by simpa using h0)]
        exact b1_14 ⟨by omega, by omega⟩ h hb (by omega) (fun _ => rfl) fun w' s' A' ln' cn' vF' vD' cs' h' hb' hp' => next h' hb' (by rw [hp']; omega) hlt
    · rw [if_neg (by simpa using hlt)]
      have hin : i = n := by omega
      subst hin
      refine ⟨i + 1, ?_⟩
      have := l2_14 (w0 := w0) (g := g) (q2 := q2) hn5 hn1 (i + 1) 0 w s A ln cn vF vD cs (by omega) (by omega) h (hb.ph (by omega) (by omega)) hp
      exact this
end
theorem yields14 {w : World} {A : Option Addr} {l c : Nat} {ns : List Int} (hns : Nums .u8 w A l ns) (hbyte : ∀ n ∈ ns, 0 ≤ n ∧ n < 256) (hcap : l ≤ c) : Yields Tryz.prog 14 [.slice A l c] w (MadeQ w) := by
  refine yields_of (V14.sound ?_)
  unfold V14.vc
  intro q2 _
  refine expo_alloc (Nat.le_refl _) fun w1 w2 hs1 he1 hlt1 ho1 => ?_
  have hm : MakerAt w.heap.size w2 w1.heap.size ⟨ns, [], 0, [], 0⟩ A l c (.slice none 0 0) (.slice none 0 0) [] :=
    ⟨ho1, RowAt.keep (NumE.kept .u8) hns (ext_keeps he1), hbyte, fun q hq hl => (by
      obtain ⟨n, p, _, hp, hc⟩ := hns.at hl
      rw [hq] at hp; cases hp
      have := cell_lt hc
      rwa [add_block] at this), hcap, World.ownsRow_nil _ _ _ _, rfl, fun i x c hx => by simp at hx, World.ownsRow_nil _ _ _ _, hs1, fun i j k hi hj => by
      have one : ∀ (a : Nat), (ownO w1.heap.size (.slice none 0 0) (.slice none 0 0) [])[a]? = some (some k) → a = 0 := fun a ha => by
        match a with
        | 0 => rfl
        | 1 => simp [ownO, Value.ownBlock] at ha
        | 2 => simp [ownO, Value.ownBlock] at ha
        | a + 3 => simp [ownO] at ha
      rw [one i hi, one j hj]⟩
  have h : MK w.heap.size w1.heap.size Off w w2 ⟨ns, [], 0, [], 0⟩ A l c (.slice none 0 0) (.slice none 0 0) [] :=
    ⟨hm, ⟨he1.os, he1.tape, he1.output, he1.size, fun k hk _ => he1.low k hk⟩, fun k hk => .inr (hm.blocks hk).1, Nat.le_refl _⟩
  refine call_mk h works85 fun v s3 w3 A3 ln3 cn3 vF3 vD3 cs3 hR h3 => ?_
  obtain ⟨x, rfl, hx0, hx1, l2, rfl⟩ := hR
  have t5 := tm hx0 (n := 5) (by omega)
  have hxn : (((1 + Int.tmod x 5).toNat : Nat) : Int) = 1 + Int.tmod x 5 := Int.toNat_of_nonneg (by omega)
  refine ⟨x, rfl, by omega, (1 + Int.tmod x 5).toNat + 1, ?_⟩
  rw [wrap_id (n := 1 + Int.tmod x 5) (by omega) (by omega)]
  have := l0_14 (w0 := w) (g := w1.heap.size) (q2 := q2) (n := (1 + Int.tmod x 5).toNat) (by omega) (by omega) ((1 + Int.tmod x 5).toNat + 1) 0 w3 _ A3 ln3 cn3 vF3 vD3 cs3 (by omega) (by omega) h3 ⟨fun x hx => by simp at hx, fun x hx => by simp at hx⟩ rfl
  rw [hxn] at this
  exact this
theorem call_madeN {w0 w : World} {bs : List Nat} {A : Option Addr} {l c : Nat} {ns : List Int} {K : Value → World → Prop} (h0 : Below w0.heap.size w0 w) (hn : BytesAt w0 A l c ns)
    (hk : ∀ p C c' w', MadeOk p → ProgAt (newW w.heap.size w') C p.length p → p.length ≤ c' → Ext w0.heap.size w w' → Below w0.heap.size w0 w' → K (.agg ⟨[.slice C p.length c']⟩) w') :
    CallK Tryz.prog 14 [.slice A l c] w0.heap.size w bs K := by
  refine call_yields (Q := MadeQ) h0 (fun w1 _ hb => yields14 (RowAt.keep (NumE.kept .u8) hn.nums (below_keeps hb)) hn.byte hn.cap) fun w1 v w2 w' hs hb hQ _ hnew he hw => ?_
  obtain ⟨p, C, c', rfl, hmade, hp, hc, hq⟩ := hQ
  refine hk p C c' w' hmade (RowAt.keep FncE.kept hp fun q v hv => ?_) hc he hw
  obtain ⟨h1, h2⟩ := newW_cell.1 hv
  exact newW_cell.2 ⟨(cell_same (hnew _ h2)).trans h1, Nat.le_trans hs h2⟩
theorem call_made {w0 w : World} {A : Option Addr} {l c : Nat} {ns : List Int} {K : Value → World → Prop} (h0 : Below w0.heap.size w0 w) (hn : BytesAt w0 A l c ns)
    (hk : ∀ p C c' w', MadeOk p → ProgAt w' C p.length p → p.length ≤ c' → (∀ q, C = some q → w.heap.size ≤ q.block) → Ext w0.heap.size w w' → Below w0.heap.size w0 w' → K (.agg ⟨[.slice C p.length c']⟩) w') :
    CallK Tryz.prog 14 [.slice A l c] w0.heap.size w [] K :=
  call_madeN h0 hn fun p C c' w' hm hp hc he hw => hk p C c' w' hm (RowAt.keep FncE.kept hp newW_in) hc (fun q hq => by
    obtain ⟨_, a, _, _, _, ha, c0, _⟩ := prog_at hp hm.pos
    rw [hq] at ha; cases ha
    have := (newW_cell.1 c0).2
    rwa [add_block, add_block] at this) he hw
theorem MadeOk.sized {p : List Fnc} (h : MadeOk p) : ∀ f ∈ p, sizedF f = true := fun f hf => done_sized (h.done f hf) (h.heads f hf)
end Go.Proofs.YtidcpndlloppdaaGreatDoor
