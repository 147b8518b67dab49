import Derived.Test.YtidcpndlloppdaaZEngD
import Derived.Test.YtidcpndlloppdaaZK17
import Derived.Test.YtidcpndlloppdaaZVB
/-
  The maker of programs by numbers, as a plain rule; how it lies in memory; calls of its functions.
  Conditions: none.
-/
set_option linter.unusedVariables false
set_option linter.unusedSimpArgs false
namespace Go.Proofs.Ytidcpndlloppdaa
open Go.RowKit
structure MSt where
  ns : List Int
  p : List Fnc
  f : Nat
  depth : List Int
  now : Int
def Fnc.push (x : Fnc) (i : Ins) : Fnc := { x with code := x.code ++ [i] }
def MSt.add (s : MSt) (op a b : Int) : MSt :=
  { s with p := s.p.modify s.f (·.push ⟨op, a, b⟩), depth := s.depth ++ [s.now], now := s.now - popsM s.p op a + pushesI op }
def fncV (x : Fnc) (c : Value) : List Value := [.int .i64 x.params, .int .i64 x.locals, .int .i64 x.refs, c]
def fncsV : List Fnc → List Value → List Value
  | x :: p, c :: cs => fncV x c ++ fncsV p cs
  | _, _ => []
theorem fncs_get : ∀ {p : List Fnc} {cs : List Value} {i : Nat} {x : Fnc} {c : Value}, p[i]? = some x → cs[i]? = some c →
    (fncsV p cs)[i * 4]? = some (.int .i64 x.params) ∧ (fncsV p cs)[i * 4 + 1]? = some (.int .i64 x.locals) ∧ (fncsV p cs)[i * 4 + 2]? = some (.int .i64 x.refs) ∧ (fncsV p cs)[i * 4 + 3]? = some c
  | [], cs, i, x, c, h, _ => by simp at h
  | y :: p, [], i, x, c, _, h => by simp at h
  | y :: p, d :: cs, 0, x, c, h, hc => by
    simp at h hc; subst h; subst hc
    simp [fncsV, fncV]
  | y :: p, d :: cs, i + 1, x, c, h, hc => by
    obtain ⟨h1, h2, h3, h4⟩ := fncs_get (p := p) (cs := cs) (i := i) (by simpa using h) (by simpa using hc)
    have e : ∀ j, (fncsV (y :: p) (d :: cs))[(i + 1) * 4 + j]? = (fncsV p cs)[i * 4 + j]? := fun j => by
      rw [show (i + 1) * 4 + j = (i * 4 + j) + 4 by omega]
      rfl
    exact ⟨by have := e 0; rw [Nat.add_zero, Nat.add_zero] at this; rw [this]; exact h1, by rw [e]; exact h2, by rw [e]; exact h3, by rw [e]; exact h4⟩
def Apart (O : List (Option Nat)) : Prop := ∀ (i j k : Nat), O[i]? = some (some k) → O[j]? = some (some k) → i = j
theorem Apart.set {O : List (Option Nat)} (h : Apart O) {i : Nat} {o : Option Nat} (ho : ∀ k, o = some k → O[i]? = some (some k) ∨ ∀ j : Nat, O[j]? ≠ some (some k)) : Apart (O.set i o) := by
  have key : ∀ a k, (O.set i o)[a]? = some (some k) → (a = i ∧ o = some k) ∨ (a ≠ i ∧ O[a]? = some (some k)) := fun a k ha => by
    rw [List.getElem?_set] at ha
    split at ha
    · rename_i e
      split at ha
      · simp at ha; exact .inl ⟨e.symm, ha⟩
      · simp at ha
    · rename_i e; exact .inr ⟨fun h => e h.symm, ha⟩
  intro a b k ha hb
  rcases key a k ha with ⟨rfl, hk⟩ | ⟨h1, ha'⟩
  · rcases key b k hb with ⟨rfl, _⟩ | ⟨h2, hb'⟩
    · rfl
    · rcases ho k hk with h3 | h3
      · exact absurd (h _ _ k hb' h3) h2
      · exact absurd hb' (h3 b)
  · rcases key b k hb with ⟨rfl, hk⟩ | ⟨h2, hb'⟩
    · rcases ho k hk with h3 | h3
      · exact absurd (h _ _ k ha' h3) h1
      · exact absurd ha' (h3 a)
    · exact h _ _ k ha' hb'
theorem Apart.none {O : List (Option Nat)} (h : Apart O) : Apart (O ++ [none]) := by
  have key : ∀ (a k : Nat), (O ++ [Option.none])[a]? = some (some k) → O[a]? = some (some k) := fun a k ha => by
    by_cases hl : a < O.length
    · rwa [List.getElem?_append_left hl] at ha
    · rw [List.getElem?_append_right (by omega)] at ha
      cases hx : a - O.length with
      | zero => rw [hx] at ha; simp at ha
      | succ m => rw [hx] at ha; simp at ha
  exact fun a b k ha hb => h a b k (key a k ha) (key b k hb)
theorem nums_block1 {k : IntKind} {w w' : World} {A : Option Addr} {l : Nat} {xs : List Int} (h : Nums k w A l xs) (hw : ∀ p, A = some p → 0 < l → w'.heap[p.block]? = w.heap[p.block]?) : Nums k w' A l xs :=
  ⟨h.len, h.small, fun i x hx => by
    obtain ⟨p, hp, he⟩ := h.get i x hx
    refine ⟨p, hp, ?_⟩
    have : ((p.add (i * 1)).block) = p.block := add_block _ _
    have hl := (List.getElem?_eq_some_iff.1 hx).1
    exact (cell_same (by rw [this]; exact hw p hp (by rw [← h.len]; omega))).trans he⟩
abbrev ownO (g : Nat) (vF vD : Value) (cs : List Value) : List (Option Nat) := some g :: vF.ownBlock :: vD.ownBlock :: cs.map Value.ownBlock
structure MakerAt (B : Nat) (w : World) (g : Nat) (s : MSt) (A : Option Addr) (ln cn : Nat) (vF vD : Value) (cs : List Value) : Prop where
  cells : w.heap[g]? = some (.cells ⟨[.slice A ln cn, vF, .int .i64 s.f, vD, .int .i64 s.now]⟩ 88 (0, 0))
  ns : Nums .u8 w A ln s.ns
  byte : ∀ n ∈ s.ns, 0 ≤ n ∧ n < 256
  old : ∀ q, A = some q → 0 < ln → q.block < B
  cap : ln ≤ cn
  fns : w.ownsRow B 26 4 vF s.p.length (fncsV s.p cs)
  len : cs.length = s.p.length
  code : ∀ (i : Nat) (x : Fnc) (c : Value), s.p[i]? = some x → cs[i]? = some c → w.ownsRow B 23 3 c x.code.length (x.code.flatMap insV)
  dep : w.ownsRow B 3 1 vD s.depth.length (s.depth.map (.int .i64))
  above : B ≤ g
  apart : Apart (ownO g vF vD cs)
section
variable {B g : Nat} {w : World} {s : MSt} {A : Option Addr} {ln cn : Nat} {vF vD : Value} {cs : List Value}
theorem MakerAt.at (h : MakerAt B w g s A ln cn vF vD cs) {i : Nat} (hi : i < s.p.length) : ∃ x c, s.p[i]? = some x ∧ cs[i]? = some c := by
  exact ⟨_, _, List.getElem?_eq_getElem hi, List.getElem?_eq_getElem (by rw [h.len]; exact hi)⟩
theorem MakerAt.cs_at (h : MakerAt B w g s A ln cn vF vD cs) {i : Nat} {c : Value} (hc : cs[i]? = some c) : ∃ x, s.p[i]? = some x := by
  have := (List.getElem?_eq_some_iff.1 hc).1
  exact ⟨_, List.getElem?_eq_getElem (by rw [← h.len]; exact this)⟩
theorem MakerAt.blocks (h : MakerAt B w g s A ln cn vF vD cs) {k : Nat} (hk : some k ∈ ownO g vF vD cs) : B ≤ k ∧ ∃ c t f, w.heap[k]? = some (Obj.cells c t f) := by
  have one : ∀ {e : TypeId} {size n : Nat} {v : Value} {xs : List Value}, w.ownsRow B e size v n xs → some k = v.ownBlock → B ≤ k ∧ ∃ c t f, w.heap[k]? = some (Obj.cells c t f) := fun ho hv => by
    rcases ho.2 with ⟨rfl, _⟩ | ⟨g', cap, cur, rfl, hb, hg, _⟩
    · cases hv
    · cases hv; exact ⟨hb, _, _, _, hg⟩
  rcases List.mem_cons.1 hk with e | hk
  · cases e; exact ⟨h.above, _, _, _, h.cells⟩
  · rcases List.mem_cons.1 hk with e | hk
    · exact one h.fns e
    · rcases List.mem_cons.1 hk with e | hk
      · exact one h.dep e
      · obtain ⟨c, hc, e⟩ := List.mem_map.1 hk
        obtain ⟨i, hi⟩ := List.mem_iff_getElem?.1 hc
        obtain ⟨x, hx⟩ := h.cs_at hi
        exact one (h.code i x c hx hi) e.symm
theorem MakerAt.lt (h : MakerAt B w g s A ln cn vF vD cs) {k : Nat} (hk : some k ∈ ownO g vF vD cs) : k < w.heap.size := by
  obtain ⟨_, c, t, f, hh⟩ := h.blocks hk
  exact lt_of_some hh
theorem MakerAt.same (h : MakerAt B w g s A ln cn vF vD cs) {w' : World} (hk : ∀ k, some k ∈ ownO g vF vD cs → w'.heap[k]? = w.heap[k]?) (hB : ∀ k, k < B → w'.heap[k]? = w.heap[k]?) : MakerAt B w' g s A ln cn vF vD cs :=
  { h with
    cells := by rw [hk g (by simp)]; exact h.cells
    ns := nums_block1 h.ns fun q hq hl => hB _ (h.old q hq hl)
    fns := owns_other h.fns fun k e => hk k (by simp [e])
    code := fun i x c hx hc => owns_other (h.code i x c hx hc) fun k e => hk k (by
      simp only [List.mem_cons, List.mem_map]
      exact .inr (.inr (.inr ⟨c, List.mem_of_getElem? hc, e⟩)))
    dep := owns_other h.dep fun k e => hk k (by simp [e]) }
theorem MakerAt.ext (h : MakerAt B w g s A ln cn vF vD cs) {w' : World} {B' : Nat} (he : Ext B' w w') (hB : B ≤ B') : MakerAt B w' g s A ln cn vF vD cs :=
  h.same (fun k hk => by obtain ⟨_, c, t, f, hh⟩ := h.blocks hk; rw [hh, he.row _ _ _ _ hh]) fun k hk => he.low k (Nat.lt_of_lt_of_le hk hB)
end
structure MK (B g : Nat) (S : Nat → Prop) (w0 w : World) (s : MSt) (A : Option Addr) (ln cn : Nat) (vF vD : Value) (cs : List Value) : Prop where
  mem : MakerAt B w g s A ln cn vF vD cs
  chg : Chg S w0 w
  blk : ∀ k, some k ∈ ownO g vF vD cs → S k ∨ w0.heap.size ≤ k
  low : B ≤ w0.heap.size
section
variable {B g : Nat} {S : Nat → Prop} {w0 w : World} {s : MSt} {A : Option Addr} {ln cn : Nat} {vF vD : Value} {cs : List Value}
theorem MK.ext (h : MK B g S w0 w s A ln cn vF vD cs) {w' : World} (he : Ext w0.heap.size w w') : MK B g S w0 w' s A ln cn vF vD cs :=
  ⟨h.mem.ext he h.low, ext_chg h.chg he, h.blk, h.low⟩
end
end Go.Proofs.Ytidcpndlloppdaa
set_option linter.unusedVariables false
set_option linter.unusedSimpArgs false
namespace Go.Proofs.Ytidcpndlloppdaa
open Go.RowKit
structure Run (P : Int → Int → Int) (xs : List Ins) (D E : List Int) : Prop where
  len : D.length = xs.length
  low : ∀ d ∈ D, 0 ≤ d
  ok : ∀ j x d, xs[j]? = some x → D[j]? = some d → P x.op x.a ≤ d ∧ d - P x.op x.a + pushesI x.op ≤ 8 ∧
    ∀ t ∈ nextM j x.op x.a, 0 ≤ t ∧ (D ++ E)[t.toNat]? = some (d - P x.op x.a + pushesI x.op)
theorem Run.nil (P : Int → Int → Int) (E : List Int) : Run P [] [] E := ⟨rfl, fun d h => (by cases h), fun j x d h => (by simp at h)⟩
theorem get_more {α : Type} {l r : List α} {i : Nat} {x : α} (h : l[i]? = some x) : (l ++ r)[i]? = some x := by
  obtain ⟨hlt, rfl⟩ := List.getElem?_eq_some_iff.1 h
  rw [List.getElem?_append_left hlt, List.getElem?_eq_getElem hlt]
theorem Run.more {P : Int → Int → Int} {xs : List Ins} {D E : List Int} (h : Run P xs D E) (E' : List Int) : Run P xs D (E ++ E') :=
  ⟨h.len, h.low, fun j x d hx hd => by
    obtain ⟨h1, h2, h3⟩ := h.ok j x d hx hd
    exact ⟨h1, h2, fun t ht => ⟨(h3 t ht).1, by rw [← List.append_assoc]; exact get_more (h3 t ht).2⟩⟩⟩
theorem snoc_get {α : Type} {l : List α} {x y : α} {i : Nat} (h : (l ++ [x])[i]? = some y) : (l[i]? = some y) ∨ (i = l.length ∧ y = x) := by
  by_cases hi : i < l.length
  · rw [List.getElem?_append_left hi] at h; exact .inl h
  · rw [List.getElem?_append_right (by omega)] at h
    have : i - l.length = 0 := by
      rcases Nat.eq_zero_or_pos (i - l.length) with h0 | h0
      · exact h0
      · obtain ⟨m, hm⟩ : ∃ m, i - l.length = m + 1 := ⟨i - l.length - 1, by omega⟩
        rw [hm] at h; simp at h
    rw [this] at h
    simp at h
    exact .inr ⟨by omega, h.symm⟩
theorem Run.add {P : Int → Int → Int} {xs : List Ins} {D E : List Int} {d : Int} (h : Run P xs D (d :: E)) (hd : 0 ≤ d) (x : Ins) (hp : P x.op x.a ≤ d) (h8 : d - P x.op x.a + pushesI x.op ≤ 8)
    (ht : ∀ t ∈ nextM xs.length x.op x.a, 0 ≤ t ∧ (D ++ d :: E)[t.toNat]? = some (d - P x.op x.a + pushesI x.op)) : Run P (xs ++ [x]) (D ++ [d]) E := by
  refine ⟨by simp [h.len], fun e he => ?_, fun j y e hy he => ?_⟩
  · rcases List.mem_append.1 he with he | he
    · exact h.low e he
    · simp at he; omega
  · have hsame : D ++ [d] ++ E = D ++ d :: E := by simp
    rw [hsame]
    rcases snoc_get hy with hy | ⟨rfl, rfl⟩
    · rcases snoc_get he with he | ⟨rfl, rfl⟩
      · exact h.ok j y e hy he
      · have := (List.getElem?_eq_some_iff.1 hy).1
        have := h.len; omega
    · rcases snoc_get he with he | ⟨_, rfl⟩
      · have := (List.getElem?_eq_some_iff.1 he).1
        have := h.len; omega
      · exact ⟨hp, h8, ht⟩
def Sub (d D : List Int) : Prop := d.length = D.length ∧ ∀ j, d.getD j 0 < 0 ∨ d.getD j 0 = D.getD j 0
theorem Sub.set {d D : List Int} (h : Sub d D) {i : Nat} {x : Int} (hx : D.getD i 0 = x) (hi : i < d.length) : Sub (d.set i x) D := by
  refine ⟨by simp [h.1], fun j => ?_⟩
  by_cases e : i = j
  · subst e
    right
    simp [List.getD, hi, hx] at hx ⊢
    exact hx.symm
  · have : (d.set i x).getD j 0 = d.getD j 0 := by simp [List.getD, List.getElem?_set_ne e]
    rw [this]; exact h.2 j
theorem tosM_sub {D : List Int} {behind : Int} : ∀ {ts d : List Int} {fresh : Bool}, Sub d D → (∀ t ∈ ts, 0 ≤ t ∧ D[t.toNat]? = some behind) → ∃ d' f', tosM D.length behind ts d fresh = some (d', f') ∧ Sub d' D
  | [], d, fresh, h, _ => ⟨d, fresh, rfl, h⟩
  | t :: ts, d, fresh, h, ht => by
    obtain ⟨h0, hd⟩ := ht t List.mem_cons_self
    have ht' : ∀ u ∈ ts, 0 ≤ u ∧ D[u.toNat]? = some behind := fun u hu => ht u (List.mem_cons_of_mem _ hu)
    have hlt := (List.getElem?_eq_some_iff.1 hd).1
    have hg : D.getD t.toNat 0 = behind := by simp [List.getD, hd]
    unfold tosM
    rw [if_neg (by omega)]
    by_cases hneg : 0 ≤ d.getD t.toNat 0
    · rw [if_pos hneg, if_pos (by rcases h.2 t.toNat with h | h; omega; rw [h, hg])]
      exact tosM_sub h ht'
    · rw [if_neg hneg]
      exact tosM_sub (h.set hg (by rw [h.1]; exact hlt)) ht'
theorem scanM_sub {p : List Fnc} {D : List Int} : ∀ {xs : List Ins} {i : Nat} {d : List Int} {fresh : Bool}, Sub d D →
    (∀ j x e, xs[j]? = some x → D[i + j]? = some e → popsM p x.op x.a ≤ e ∧ e - popsM p x.op x.a + pushesI x.op ≤ 8 ∧ ∀ t ∈ nextM (i + j) x.op x.a, 0 ≤ t ∧ D[t.toNat]? = some (e - popsM p x.op x.a + pushesI x.op)) →
    i + xs.length ≤ D.length → ∃ d' f', scanM p D.length xs i d fresh = .inr (d', f') ∧ Sub d' D
  | [], i, d, fresh, h, _, _ => ⟨d, fresh, rfl, h⟩
  | x :: r, i, d, fresh, h, hx, hl => by
    have hl' : i + 1 + r.length ≤ D.length := by simp at hl; omega
    have hx' : ∀ j y e, r[j]? = some y → D[i + 1 + j]? = some e → popsM p y.op y.a ≤ e ∧ e - popsM p y.op y.a + pushesI y.op ≤ 8 ∧ ∀ t ∈ nextM (i + 1 + j) y.op y.a, 0 ≤ t ∧ D[t.toNat]? = some (e - popsM p y.op y.a + pushesI y.op) := fun j y e hy he => by
      have := hx (j + 1) y e (by simpa using hy) (by rw [← he]; congr 1; omega)
      rwa [show i + (j + 1) = i + 1 + j by omega] at this
    unfold scanM
    by_cases hneg : d.getD i 0 < 0
    · rw [if_pos hneg]
      exact scanM_sub h hx' hl'
    · rw [if_neg hneg]
      have hi : i < D.length := by simp at hl; omega
      have he : d.getD i 0 = D.getD i 0 := by rcases h.2 i with h | h; omega; exact h
      obtain ⟨h1, h2, h3⟩ := hx 0 x (D.getD i 0) rfl (by rw [Nat.add_zero]; exact getD_get hi)
      rw [he, if_neg (by omega)]
      obtain ⟨d1, f1, ht, hs⟩ := tosM_sub (fresh := fresh) h (by rw [Nat.add_zero] at h3; exact h3)
      rw [ht]
      exact scanM_sub hs hx' hl'
theorem fixM_sub {p : List Fnc} {xs : List Ins} {D : List Int} (h : Run (popsM p) xs D []) : ∀ {k : Nat} {d : List Int}, Sub d D → ∃ d', fixM p xs k d = .inr d'
  | 0, d, _ => ⟨d, rfl⟩
  | k + 1, d, hd => by
    obtain ⟨d1, f1, hs, hd1⟩ := scanM_sub (p := p) (xs := xs) (i := 0) (fresh := false) hd (fun j x e hx he => by
      have := h.ok j x e hx (by rwa [Nat.zero_add] at he)
      rwa [List.append_nil, ← Nat.zero_add j] at this) (by rw [h.len]; omega)
    unfold fixM
    rw [← h.len, hs]
    cases f1 with
    | false => exact ⟨d1, rfl⟩
    | true => exact fixM_sub h hd1
theorem start_get {n j : Nat} : (start n).getD j 0 < 0 ∨ j = 0 ∨ n ≤ j := by
  by_cases h0 : j = 0
  · exact .inr (.inl h0)
  · by_cases hj : j < n
    · left
      have : (start n)[j]? = some (-1) := by
        unfold start initM
        rw [List.getElem?_map, List.getElem?_range hj]
        simp [h0, hj]
      simp [List.getD, this]
    · exact .inr (.inr (by omega))
theorem depthsM_run {p : List Fnc} {xs : List Ins} {D : List Int} (h : Run (popsM p) xs D []) (h0 : D[0]? = some 0) : ∃ d, depthsM p xs = .inr d := by
  refine fixM_sub h ⟨by rw [(start_ok _).1, h.len], fun j => ?_⟩
  rcases start_get (n := xs.length) (j := j) with h | rfl | hj
  · exact .inl h
  · right
    have hl : 0 < xs.length := by have := (List.getElem?_eq_some_iff.1 h0).1; rw [h.len] at this; exact this
    have : (start xs.length)[0]? = some 0 := by
      unfold start initM
      rw [List.getElem?_map, List.getElem?_range hl]; rfl
    simp [List.getD, this, h0]
  · right
    simp [List.getD, List.getElem?_eq_none (show (start xs.length).length ≤ j by rw [(start_ok _).1]; exact hj), List.getElem?_eq_none (show D.length ≤ j by rw [h.len]; exact hj)]
def HeadOk (x : Fnc) : Prop := 0 ≤ x.params ∧ x.params ≤ 3 ∧ x.params ≤ x.locals ∧ x.locals ≤ x.params + 4 ∧ 0 ≤ x.refs ∧ x.refs ≤ x.locals - x.params
def FormOk (np : Nat) (x : Fnc) (i : Ins) : Prop := ∀ n : Nat, (i.op = 15 ∨ i.op = 16 → 0 ≤ i.a ∧ i.a < n) → shapedM np x.locals x.refs n i.op i.a i.b = true
def DoneF (np : Nat) (P : Int → Int → Int) (x : Fnc) : Prop := 1 ≤ x.code.length ∧ x.code.length ≤ 62 ∧ (∀ i ∈ x.code, FormOk np x i) ∧ ∃ D, Run P x.code D [] ∧ D[0]? = some 0
structure MadeOk (p : List Fnc) : Prop where
  pos : 1 ≤ p.length
  few : p.length ≤ 5
  heads : ∀ x ∈ p, HeadOk x
  zero : ∀ x, p[0]? = some x → x.params = 0
  done : ∀ x ∈ p, DoneF p.length (popsM p) x
theorem done_shape {np : Nat} {P : Int → Int → Int} {x : Fnc} (h : DoneF np P x) : ∀ i ∈ x.code, shapedI np x i = true := by
  obtain ⟨h1, h2, h3, D, hr, h0⟩ := h
  intro i hi
  refine h3 i hi _ fun ho => ?_
  obtain ⟨j, hj⟩ := List.mem_iff_getElem?.1 hi
  have hjl := (List.getElem?_eq_some_iff.1 hj).1
  obtain ⟨_, _, h⟩ := hr.ok j i (D.getD j 0) hj (getD_get (by rw [hr.len]; exact hjl))
  have hm : i.a ∈ nextM j i.op i.a := by
    unfold nextM
    rcases ho with ho | ho
    · rw [if_neg (by omega), if_pos ho]; simp
    · rw [if_neg (by omega), if_neg (by omega), if_pos ho]; simp
  obtain ⟨ha, hb⟩ := h _ hm
  rw [List.append_nil] at hb
  have := (List.getElem?_eq_some_iff.1 hb).1
  rw [hr.len] at this
  exact ⟨ha, by omega⟩
theorem firstNot_none {α : Type} {f : α → Bool} : ∀ {l : List α} {i : Nat}, (∀ x ∈ l, f x = true) → firstNot f l i = none
  | [], i, h => rfl
  | y :: r, i, h => by
    unfold firstNot
    rw [if_pos (h y List.mem_cons_self)]
    exact firstNot_none fun x hx => h x (List.mem_cons_of_mem _ hx)
theorem shapesM_none {np : Nat} : ∀ {l : List Fnc} {i : Nat}, (∀ f ∈ l, ∀ x ∈ f.code, shapedI np f x = true) → shapesM np l i = none
  | [], i, h => rfl
  | y :: r, i, h => by
    unfold shapesM
    rw [firstNot_none (h y List.mem_cons_self)]
    exact shapesM_none fun f hf => h f (List.mem_cons_of_mem _ hf)
theorem flowsM_none {p : List Fnc} : ∀ {l : List Fnc} {i : Nat}, (∀ f ∈ l, ∃ d, depthsM p f.code = .inr d) → flowsM p l i = none
  | [], i, h => rfl
  | y :: r, i, h => by
    unfold flowsM
    obtain ⟨d, hd⟩ := h y List.mem_cons_self
    rw [hd]
    exact flowsM_none fun f hf => h f (List.mem_cons_of_mem _ hf)
theorem check_zero {p : List Fnc} (h1 : 1 ≤ p.length) (h8 : p.length ≤ 8) (hs : ∀ x ∈ p, sizedF x = true) (hf : ∀ f ∈ p, ∀ x ∈ f.code, shapedI p.length f x = true) (hd : ∀ f ∈ p, ∃ d, depthsM p f.code = .inr d) : checkM p = (0, 0, 0) := by
  unfold checkM
  rw [if_neg (by omega), firstNot_none hs]
  simp only
  rw [shapesM_none hf]
  simp only
  rw [flowsM_none hd]
theorem done_sized {np : Nat} {P : Int → Int → Int} {x : Fnc} (h : DoneF np P x) (hh : HeadOk x) : sizedF x = true := by
  obtain ⟨h1, h2, _⟩ := h
  obtain ⟨a1, a2, a3, a4, a5, a6⟩ := hh
  unfold sizedF sizedM
  exact decide_eq_true (by omega)
theorem MadeOk.depths {p : List Fnc} (h : MadeOk p) {x : Fnc} (hx : x ∈ p) : ∃ d, depthsM p x.code = .inr d := by
  obtain ⟨_, _, _, D, hr, h0⟩ := h.done x hx
  exact depthsM_run hr h0
theorem MadeOk.check {p : List Fnc} (h : MadeOk p) : checkM p = (0, 0, 0) :=
  check_zero h.pos (by have := h.few; omega) (fun x hx => done_sized (h.done x hx) (h.heads x hx)) (fun f hf => done_shape (h.done f hf)) fun f hf => h.depths hf
end Go.Proofs.Ytidcpndlloppdaa
set_option linter.unusedVariables false
set_option linter.unusedSimpArgs false
namespace Go.Proofs.Ytidcpndlloppdaa
open Go.RowKit
theorem push_get {p : List Fnc} {f i : Nat} {ins : Ins} {x : Fnc} (h : (p.modify f (·.push ins))[i]? = some x) : ∃ y, p[i]? = some y ∧ ((i = f ∧ x = y.push ins) ∨ (i ≠ f ∧ x = y)) := by
  rw [List.getElem?_modify] at h
  cases hp : p[i]? with
  | none => rw [hp] at h; simp at h
  | some y =>
    rw [hp] at h
    refine ⟨y, rfl, ?_⟩
    by_cases e : f = i
    · subst e; left; simp at h; exact ⟨rfl, h.symm⟩
    · right; simp [e] at h; exact ⟨fun h => e h.symm, h.symm⟩
theorem paramsM_push (p : List Fnc) (f : Nat) (ins : Ins) (a : Int) : paramsM (p.modify f (·.push ins)) a = paramsM p a := by
  unfold paramsM
  split
  · rfl
  · cases h : (p.modify f (·.push ins))[a.toNat]? with
    | none =>
      have h2 : p[a.toNat]? = none := by
        have := List.getElem?_eq_none_iff.1 h
        rw [List.length_modify] at this
        exact List.getElem?_eq_none this
      rw [h2]
    | some x =>
      obtain ⟨y, hy, ⟨_, rfl⟩ | ⟨_, rfl⟩⟩ := push_get h
      · rw [hy]; rfl
      · rw [hy]
theorem popsM_push (p : List Fnc) (f : Nat) (ins : Ins) : popsM (p.modify f (·.push ins)) = popsM p := by
  funext op a
  unfold popsM
  rw [paramsM_push]
structure Cur (s : MSt) (E : List Int) : Prop where
  pos : 1 ≤ s.p.length
  few : s.p.length ≤ 5
  f : s.f < s.p.length
  heads : ∀ x ∈ s.p, HeadOk x
  zero : ∀ x, s.p[0]? = some x → x.params = 0
  done : ∀ i x, i < s.f → s.p[i]? = some x → DoneF s.p.length (popsM s.p) x
  todo : ∀ i x, s.f < i → s.p[i]? = some x → x.code = []
  run : ∀ x, s.p[s.f]? = some x → Run (popsM s.p) x.code s.depth (s.now :: E) ∧ ∀ i ∈ x.code, FormOk s.p.length x i
  start : (s.depth ++ [s.now])[0]? = some 0
  now : 0 ≤ s.now ∧ s.now ≤ 8
theorem Cur.more {s : MSt} {E : List Int} (h : Cur s E) (E' : List Int) : Cur s (E ++ E') :=
  { h with run := fun x hx => ⟨by have := (h.run x hx).1.more E'; simpa using this, (h.run x hx).2⟩ }
theorem Cur.add {s : MSt} {E : List Int} {e : Int} (h : Cur s (e :: E)) (op a b : Int) (hf : ∀ x, s.p[s.f]? = some x → FormOk s.p.length x ⟨op, a, b⟩) (hp : popsM s.p op a ≤ s.now)
    (he : e = s.now - popsM s.p op a + pushesI op) (h8 : e ≤ 8) (ht : ∀ t ∈ nextM s.depth.length op a, 0 ≤ t ∧ (s.depth ++ s.now :: e :: E)[t.toNat]? = some e) : Cur (s.add op a b) E := by
  have hl : (s.add op a b).p.length = s.p.length := by simp [MSt.add]
  have hpops : popsM (s.add op a b).p = popsM s.p := popsM_push _ _ _
  have hnow : (s.add op a b).now = e := he.symm
  have hff : (s.add op a b).f = s.f := rfl
  have hd : (s.add op a b).depth = s.depth ++ [s.now] := rfl
  have hget : ∀ {i : Nat} {x : Fnc}, (s.add op a b).p[i]? = some x → ∃ y, s.p[i]? = some y ∧ ((i = s.f ∧ x = y.push ⟨op, a, b⟩) ∨ (i ≠ s.f ∧ x = y)) := fun h => push_get h
  have hpu := rowT_bd op
  refine ⟨by rw [hl]; exact h.pos, by rw [hl]; exact h.few, by rw [hl, hff]; exact h.f, fun x hx => ?_, fun x hx => ?_, fun i x hi hx => ?_, fun i x hi hx => ?_, fun x hx => ?_, ?_, by rw [hnow]; omega⟩
  · obtain ⟨i, hi⟩ := List.mem_iff_getElem?.1 hx
    obtain ⟨y, hy, ⟨_, rfl⟩ | ⟨_, rfl⟩⟩ := hget hi
    · exact h.heads y (List.mem_of_getElem? hy)
    · exact h.heads _ (List.mem_of_getElem? hy)
  · obtain ⟨y, hy, ⟨_, rfl⟩ | ⟨_, rfl⟩⟩ := hget hx
    · exact h.zero y hy
    · exact h.zero _ hy
  · rw [hl, hpops]
    rw [hff] at hi
    obtain ⟨y, hy, ⟨rfl, rfl⟩ | ⟨_, rfl⟩⟩ := hget hx
    · omega
    · exact h.done i _ hi hy
  · rw [hff] at hi
    obtain ⟨y, hy, ⟨rfl, rfl⟩ | ⟨_, rfl⟩⟩ := hget hx
    · omega
    · exact h.todo i _ hi hy
  · rw [hff] at hx
    obtain ⟨y, hy, ⟨_, rfl⟩ | ⟨hne, _⟩⟩ := hget hx
    · rw [hl, hpops, hnow, hd]
      obtain ⟨h1, h2⟩ := h.run y hy
      refine ⟨h1.add h.now.1 ⟨op, a, b⟩ hp (by rw [← he]; exact h8) (by rw [← h1.len, ← he]; exact ht), fun i hi => ?_⟩
      rcases List.mem_append.1 hi with hi | hi
      · exact h2 i hi
      · simp at hi; subst hi; exact hf y hy
    · exact absurd rfl hne
  · rw [hd, hnow]
    exact get_more h.start
theorem get_two {l : List Int} {x y : Int} {n : Int} (hn : n = (l.length : Int) + 1) : 0 ≤ n ∧ (l ++ [x, y])[n.toNat]? = some y := by
  subst hn
  refine ⟨by omega, ?_⟩
  rw [List.getElem?_append_right (by omega)]
  rw [show ((l.length : Int) + 1).toNat - l.length = 1 by omega]
  rfl
theorem Cur.step {s : MSt} (h : Cur s []) (op a b : Int) (hn : nextM s.depth.length op a = [(s.depth.length : Int) + 1]) (hf : ∀ x, s.p[s.f]? = some x → FormOk s.p.length x ⟨op, a, b⟩) (hp : popsM s.p op a ≤ s.now)
    (h8 : s.now - popsM s.p op a + pushesI op ≤ 8) : Cur (s.add op a b) [] := by
  refine (h.more [s.now - popsM s.p op a + pushesI op]).add op a b hf hp rfl h8 fun t ht => ?_
  rw [hn] at ht
  simp at ht
  exact get_two ht
theorem Cur.fin {s : MSt} (h : Cur s []) (hnow : 1 ≤ s.now) (hlen : s.depth.length ≤ 61) : ∀ x, (s.add 18 0 0).p[s.f]? = some x → DoneF s.p.length (popsM s.p) x := by
  intro x hx
  obtain ⟨y, hy, ⟨_, rfl⟩ | ⟨hne, _⟩⟩ := push_get hx
  · obtain ⟨h1, h2⟩ := h.run y hy
    have hp : popsM s.p 18 0 = 1 := by simp [popsM, rowT]
    have hq : pushesI 18 = 0 := by simp [pushesI, rowT]
    have hr := h1.add h.now.1 ⟨18, 0, 0⟩ (by rw [hp]; exact hnow) (by simp only [hp, hq]; have := h.now.2; omega) (by intro t ht; simp [nextM] at ht)
    have hl := h1.len
    refine ⟨by simp [Fnc.push], by simp [Fnc.push]; omega, fun i hi => ?_, _, hr, h.start⟩
    rcases List.mem_append.1 hi with hi | hi
    · exact h2 i hi
    · simp at hi; subst hi
      intro n _
      simp [shapedM, kindM, rowT]
  · exact absurd rfl hne
end Go.Proofs.Ytidcpndlloppdaa
set_option linter.unusedVariables false
set_option linter.unusedSimpArgs false
namespace Go.Proofs.Ytidcpndlloppdaa
open Go.RowKit
theorem form_none {np : Nat} {x : Fnc} {op : Int} (h : (rowT op).2.2.2 = true) (h1 : (rowT op).1 = 0) : FormOk np x ⟨op, 0, 0⟩ := fun n _ => by simp [shapedM, kindM, h, h1]
theorem form_push {np : Nat} {x : Fnc} {a : Int} (h : -2147483648 ≤ a ∧ a ≤ 2147483648) : FormOk np x ⟨1, a, 0⟩ := fun n _ => by simp [shapedM, kindM, rowT]; omega
theorem form_jump {np : Nat} {x : Fnc} {op a : Int} (ho : op = 15 ∨ op = 16) : FormOk np x ⟨op, a, 0⟩ := fun n h => by
  have := h ho
  simp only at this
  rcases ho with rfl | rfl <;> simp [shapedM, kindM, rowT, withinM] <;> omega
theorem get_at {α : Type} (l r : List α) (i : Nat) : (l ++ r)[l.length + i]? = r[i]? := by
  rw [List.getElem?_append_right (by omega), Nat.add_sub_cancel_left]
theorem at_get {l r : List Int} {n : Int} {i : Nat} {x : Int} (hn : n = (l.length : Int) + (i : Int)) (hx : r[i]? = some x) : 0 ≤ n ∧ (l ++ r)[n.toNat]? = some x := by
  subst hn
  refine ⟨by omega, ?_⟩
  rw [show ((l.length : Int) + (i : Int)).toNat = l.length + i by omega, get_at]
  exact hx
theorem nextM_on {op : Int} (h : op ≠ 15 ∧ op ≠ 16 ∧ op ≠ 18 ∧ op ≠ 20) (n : Nat) (a : Int) : nextM n op a = [(n : Int) + 1] := by
  unfold nextM
  rw [if_neg (by omega), if_neg (by omega), if_neg (by omega)]
theorem add_len (s : MSt) (op a b : Int) : (s.add op a b).depth.length = s.depth.length + 1 := by simp [MSt.add]
theorem add_plen (s : MSt) (op a b : Int) : (s.add op a b).p.length = s.p.length := by simp [MSt.add]
theorem Cur.over {s : MSt} (h : Cur s []) (h8 : s.now < 8) (a c : Int) {op : Int} (ho : op = 18 ∨ op = 20) (ha : -2147483648 ≤ a ∧ a ≤ 2147483648) (hc : -2147483648 ≤ c ∧ c ≤ 2147483648) :
    Cur (s.add 1 a 0) [s.now, s.now + 1, s.now] ∧ Cur ((s.add 1 a 0).add 16 ((s.depth.length : Int) + 4) 0) [s.now + 1, s.now] ∧ Cur (((s.add 1 a 0).add 16 ((s.depth.length : Int) + 4) 0).add 1 c 0) [s.now] ∧
    Cur ((((s.add 1 a 0).add 16 ((s.depth.length : Int) + 4) 0).add 1 c 0).add op 0 0) [] := by
  have hp1 : ∀ p : List Fnc, ∀ a, popsM p 1 a = 0 := fun p a => by simp [popsM, rowT]
  have hp16 : ∀ p : List Fnc, ∀ a, popsM p 16 a = 1 := fun p a => by simp [popsM, rowT]
  have hpo : ∀ p : List Fnc, popsM p op 0 = 1 := fun p => by rcases ho with rfl | rfl <;> simp [popsM, rowT]
  have hq1 : pushesI 1 = 1 := by simp [pushesI, rowT]
  have hq16 : pushesI 16 = 0 := by simp [pushesI, rowT]
  have hqo : pushesI op = 0 := by rcases ho with rfl | rfl <;> simp [pushesI, rowT]
  have hn0 := h.now
  have c0 := h.more [s.now + 1, s.now, s.now + 1, s.now]
  have c1 : Cur (s.add 1 a 0) [s.now, s.now + 1, s.now] := c0.add 1 a 0 (fun x _ => form_push ha) (by rw [hp1]; omega) (by rw [hp1, hq1]; omega) (by omega) fun t ht => by
    rw [nextM_on (by omega)] at ht
    simp at ht
    exact at_get (i := 1) ht rfl
  have n1 : (s.add 1 a 0).now = s.now + 1 := by simp [MSt.add, hp1, hq1]
  have c2 : Cur ((s.add 1 a 0).add 16 ((s.depth.length : Int) + 4) 0) [s.now + 1, s.now] := c1.add 16 _ 0 (fun x _ => form_jump (.inr rfl)) (by rw [hp16, n1]; omega) (by rw [hp16, hq16, n1]; omega) (by omega) fun t ht => by
    simp [nextM] at ht
    rcases ht with ht | ht
    · exact at_get (i := 3) (by rw [add_len]; omega) rfl
    · exact at_get (i := 1) (by omega) rfl
  have n2 : ((s.add 1 a 0).add 16 ((s.depth.length : Int) + 4) 0).now = s.now := by
    show (s.add 1 a 0).now - popsM _ 16 _ + pushesI 16 = _
    rw [n1, hp16, hq16]; omega
  have c3 : Cur (((s.add 1 a 0).add 16 ((s.depth.length : Int) + 4) 0).add 1 c 0) [s.now] := c2.add 1 c 0 (fun x _ => form_push hc) (by rw [hp1, n2]; omega) (by rw [hp1, hq1, n2]; omega) (by omega) fun t ht => by
    rw [nextM_on (by omega)] at ht
    simp at ht
    exact at_get (i := 1) ht rfl
  have n3 : (((s.add 1 a 0).add 16 ((s.depth.length : Int) + 4) 0).add 1 c 0).now = s.now + 1 := by
    show ((s.add 1 a 0).add 16 ((s.depth.length : Int) + 4) 0).now - popsM _ 1 _ + pushesI 1 = _
    rw [n2, hp1, hq1]; omega
  refine ⟨c1, c2, c3, ?_⟩
  exact c3.add op 0 0 (fun x _ => form_none (by rcases ho with rfl | rfl <;> simp [rowT]) (by rcases ho with rfl | rfl <;> simp [rowT])) (by rw [hpo, n3]; omega) (by rw [hpo, hqo, n3]; omega) (by omega) fun t ht => by
    rcases ho with rfl | rfl <;> simp [nextM] at ht
end Go.Proofs.Ytidcpndlloppdaa
set_option linter.unusedVariables false
set_option linter.unusedSimpArgs false
namespace Go.Proofs.Ytidcpndlloppdaa
open Go.RowKit
section
variable {B g : Nat} {w : World} {s : MSt} {A : Option Addr} {ln cn : Nat} {vF vD : Value} {cs : List Value}
theorem MakerAt.c0 (h : MakerAt B w g s A ln cn vF vD cs) : w.cell? ⟨g, 0, none⟩ = some (.slice A ln cn) := at_cell h.cells rfl
theorem MakerAt.c1 (h : MakerAt B w g s A ln cn vF vD cs) : w.cell? ⟨g, 1, none⟩ = some vF := at_cell h.cells rfl
theorem MakerAt.c2 (h : MakerAt B w g s A ln cn vF vD cs) : w.cell? ⟨g, 2, none⟩ = some (.int .i64 s.f) := at_cell h.cells rfl
theorem MakerAt.c3 (h : MakerAt B w g s A ln cn vF vD cs) : w.cell? ⟨g, 3, none⟩ = some vD := at_cell h.cells rfl
theorem MakerAt.c4 (h : MakerAt B w g s A ln cn vF vD cs) : w.cell? ⟨g, 4, none⟩ = some (.int .i64 s.now) := at_cell h.cells rfl
theorem MakerAt.neF (h : MakerAt B w g s A ln cn vF vD cs) : ∀ k, vF.ownBlock = some k → k ≠ g := fun k hk e => by
  subst e
  have := h.apart 0 1 k rfl (by simp [hk])
  omega
theorem MakerAt.neD (h : MakerAt B w g s A ln cn vF vD cs) : ∀ k, vD.ownBlock = some k → k ≠ g := fun k hk e => by
  subst e
  have := h.apart 0 2 k rfl (by simp [hk])
  omega
theorem own_at {g : Nat} {vF vD : Value} {cs : List Value} {i : Nat} {c : Value} (hc : cs[i]? = some c) : (ownO g vF vD cs)[i + 3]? = some c.ownBlock := by
  simp [ownO, hc]
theorem MakerAt.neC (h : MakerAt B w g s A ln cn vF vD cs) {i : Nat} {c : Value} (hc : cs[i]? = some c) : ∀ k, c.ownBlock = some k → k ≠ g := fun k hk e => by
  subst e
  have := h.apart 0 (i + 3) k rfl (by rw [own_at hc, hk])
  omega
theorem MakerAt.put (h : MakerAt B w g s A ln cn vF vD cs) {i : Nat} {v : Value} (s' : MSt) (hp : s'.p = s.p) (hd : s'.depth = s.depth) (A' : Option Addr) (ln' cn' : Nat)
    (hc : [.slice A ln cn, vF, .int .i64 s.f, vD, .int .i64 s.now].set i v = [.slice A' ln' cn', vF, .int .i64 s'.f, vD, .int .i64 s'.now])
    (hns : Nums .u8 w A' ln' s'.ns) (hbyte : ∀ n ∈ s'.ns, 0 ≤ n ∧ n < 256) (hold : ∀ q, A' = some q → 0 < ln' → q.block < B) (hcap : ln' ≤ cn') : MakerAt B (w.setCell ⟨g, i, none⟩ v) g s' A' ln' cn' vF vD cs where
  cells := by rw [at_set h.cells i v, hc]
  ns := nums_block1 hns fun q hq hl => at_other (by have := hold q hq hl; have := h.above; omega)
  byte := hbyte
  old := hold
  cap := hcap
  fns := by rw [hp]; exact owns_other h.fns fun k hk => at_other (h.neF k hk)
  len := by rw [hp]; exact h.len
  code := fun j x c hx hcc => by rw [hp] at hx; exact owns_other (h.code j x c hx hcc) fun k hk => at_other (h.neC hcc k hk)
  dep := by rw [hd]; exact owns_other h.dep fun k hk => at_other (h.neD k hk)
  above := h.above
  apart := h.apart
end
end Go.Proofs.Ytidcpndlloppdaa
set_option linter.unusedVariables false
set_option linter.unusedSimpArgs false
namespace Go.Proofs.Ytidcpndlloppdaa
open Go.RowKit
theorem owns_code {w : World} {B : Nat} {v : Value} {xs : List Ins} (h : w.ownsRow B 23 3 v xs.length (xs.flatMap insV)) (hl : xs.length ≤ 1000) : ∃ A c, v = .slice A xs.length c ∧ CodeAt (newW B w) A xs.length xs := by
  rcases h.2 with ⟨rfl, h0⟩ | ⟨g, cap, cur, rfl, hb, hg, _⟩
  · have : xs = [] := List.eq_nil_of_length_eq_zero h0
    subst this
    exact ⟨none, 0, rfl, rfl, Nat.zero_le _, fun i x hi => by simp at hi⟩
  · refine ⟨_, cap, rfl, rfl, len_ok hl, fun i x hi => ⟨_, rfl, ?_⟩⟩
    obtain ⟨h1, h2, h3⟩ := flat_get hi
    have k1 := h.cells (g := g) rfl _ _ h1
    have k2 := h.cells (g := g) rfl _ _ h2
    have k3 := h.cells (g := g) rfl _ _ h3
    simp only [own_add] at k1 k2 k3
    unfold InsE
    simp only [own_add, bx_add, Nat.add_zero, Nat.zero_add]
    exact ⟨newW_cell.2 ⟨k1, hb⟩, newW_cell.2 ⟨k2, hb⟩, newW_cell.2 ⟨k3, hb⟩⟩
theorem MakerAt.prog {B g : Nat} {w : World} {s : MSt} {A : Option Addr} {ln cn : Nat} {vF vD : Value} {cs : List Value} (h : MakerAt B w g s A ln cn vF vD cs) (hs : s.p.length ≤ 8) (hc : ∀ x ∈ s.p, x.code.length ≤ 1000) :
    ∃ C c, vF = .slice C s.p.length c ∧ ProgAt (newW B w) C s.p.length s.p := by
  rcases h.fns.2 with ⟨hv, h0⟩ | ⟨gF, cap, cur, hv, hbF, _⟩
  · have : s.p = [] := List.eq_nil_of_length_eq_zero h0
    rw [this]
    exact ⟨none, 0, hv, rfl, Nat.zero_le _, fun i x hi => by simp at hi⟩
  · refine ⟨_, cap, hv, rfl, len_ok (by omega), fun i x hx => ⟨_, rfl, ?_⟩⟩
    obtain ⟨x', c, hx', hcc⟩ := h.at (List.getElem?_eq_some_iff.1 hx).1
    rw [hx] at hx'; cases hx'
    obtain ⟨h1, h2, h3, h4⟩ := fncs_get hx hcc
    subst hv
    have k := fun (j : Nat) (u : Value) (hj : (fncsV s.p cs)[j]? = some u) => owns_cell h.fns hj
    obtain ⟨C, c', rfl, hcode⟩ := owns_code (h.code i x c hx hcc) (hc x (List.mem_of_getElem? hx))
    unfold FncE
    simp only [own_add, bx_add, Nat.add_zero, Nat.zero_add]
    exact ⟨newW_cell.2 ⟨k _ _ h1, hbF⟩, newW_cell.2 ⟨k _ _ h2, hbF⟩, newW_cell.2 ⟨k _ _ h3, hbF⟩, C, _, c', newW_cell.2 ⟨k _ _ h4, hbF⟩, hcode⟩
structure Small (s : MSt) : Prop where
  f : s.f < s.p.length
  few : s.p.length ≤ 8
  code : ∀ x ∈ s.p, x.code.length ≤ 500
  par : Few s.p
  dep : s.depth.length ≤ 500
  now : -100 ≤ s.now ∧ s.now ≤ 100
end Go.Proofs.Ytidcpndlloppdaa
set_option linter.unusedVariables false
set_option linter.unusedSimpArgs false
namespace Go.Proofs.Ytidcpndlloppdaa
open Go.RowKit
theorem Cur.small {s : MSt} {E : List Int} (h : Cur s E) (hl : s.depth.length ≤ 100) : Small s where
  f := h.f
  few := by have := h.few; omega
  code := fun x hx => by
    obtain ⟨i, hi⟩ := List.mem_iff_getElem?.1 hx
    rcases Nat.lt_trichotomy i s.f with hlt | rfl | hgt
    · have := (h.done i x hlt hi).2.1; omega
    · have := (h.run x hi).1.len; omega
    · rw [h.todo i x hgt hi]; simp
  par := fun x hx => (h.heads x hx).2.1
  dep := by omega
  now := by have := h.now; omega
structure Step (n : Nat) (s s' : MSt) : Prop where
  cur : Cur s' []
  f : s'.f = s.f
  p : s'.p.length = s.p.length
  pops : popsM s'.p = popsM s.p
  dep : s'.depth.length ≤ s.depth.length + n
theorem Step.one {s : MSt} {op a b : Int} (h : Cur (s.add op a b) []) : Step 1 s (s.add op a b) := ⟨h, rfl, add_plen _ _ _ _, popsM_push _ _ _, by rw [add_len]; omega⟩
theorem Step.refl {s : MSt} (h : Cur s []) : Step 0 s s := ⟨h, rfl, rfl, rfl, Nat.le_refl _⟩
theorem Step.trans {m n : Nat} {a b c : MSt} (h : Step m a b) (k : Step n b c) : Step (m + n) a c := ⟨k.cur, k.f.trans h.f, k.p.trans h.p, k.pops.trans h.pops, by have := h.dep; have := k.dep; omega⟩
theorem Step.mono {m n : Nat} {a b : MSt} (h : Step m a b) (hmn : m ≤ n) : Step n a b := { h with dep := by have := h.dep; omega }
section
variable {B g : Nat} {S : Nat → Prop} {w0 w : World} {s : MSt} {A : Option Addr} {ln cn : Nat} {vF vD : Value} {cs : List Value}
end
end Go.Proofs.Ytidcpndlloppdaa
set_option linter.unusedVariables false
set_option linter.unusedSimpArgs false
namespace Go.Proofs.Ytidcpndlloppdaa
open Go.RowKit
end Go.Proofs.Ytidcpndlloppdaa
set_option linter.unusedVariables false
set_option linter.unusedSimpArgs false
namespace Go.Proofs.Ytidcpndlloppdaa
open Go.RowKit
end Go.Proofs.Ytidcpndlloppdaa
set_option linter.unusedVariables false
set_option linter.unusedSimpArgs false
namespace Go.Proofs.Ytidcpndlloppdaa
open Go.RowKit
theorem Cur.ns {s : MSt} {E : List Int} (h : Cur s E) (l : List Int) : Cur { s with ns := l } E := ⟨h.pos, h.few, h.f, h.heads, h.zero, h.done, h.todo, h.run, h.start, h.now⟩
theorem Step.ns {s : MSt} (h : Cur s []) (l : List Int) : Step 0 s { s with ns := l } := ⟨h.ns l, rfl, rfl, rfl, Nat.le_refl _⟩
section
variable {B g : Nat} {w0 : World} {vF0 vD0 : Value} {cs0 : List Value}
end
end Go.Proofs.Ytidcpndlloppdaa
set_option linter.unusedVariables false
set_option linter.unusedSimpArgs false
namespace Go.Proofs.Ytidcpndlloppdaa
open Go.RowKit
section
variable {w0 : World} {g : Nat} {q2 : Nat}
end
theorem MadeOk.sized {p : List Fnc} (h : MadeOk p) : ∀ f ∈ p, sizedF f = true := fun f hf => done_sized (h.done f hf) (h.heads f hf)
end Go.Proofs.Ytidcpndlloppdaa
