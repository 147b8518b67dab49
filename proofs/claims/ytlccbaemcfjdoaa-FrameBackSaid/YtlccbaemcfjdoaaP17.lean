/-
  Programs that are made by numbers, as plain lists: what the maker keeps true of them, and that they are let through.
  Conditions: none.
-/
import Derived.Test.YtlccbaemcfjdoaaK17
set_option linter.unusedVariables false
set_option linter.unusedSimpArgs false
namespace Go.Proofs.Ytlccbaemcfjdoaa
open Go.RowKit

/-! ### Depths that fit a code -/
/-- D: the depth ahead of each instruction; E: the depths ahead of the places behind the last one. -/
structure Run (P : Int → Int → Int) (xs : List Ins) (D E : List Int) : Prop where
  len : D.length = xs.length
  low : ∀ d ∈ D, 0 ≤ d
  ok : ∀ j x d, xs[j]? = some x → D[j]? = some d → P x.op x.a ≤ d ∧ d - P x.op x.a + pushesI x.op ≤ 8 ∧
    ∀ t ∈ nextM j x.op x.a, 0 ≤ t ∧ (D ++ E)[t.toNat]? = some (d - P x.op x.a + pushesI x.op)
theorem Run.nil (P : Int → Int → Int) (E : List Int) : Run P [] [] E := ⟨rfl, fun d h => (by cases h), fun j x d h => (by simp at h)⟩
theorem get_more {α : Type} {l r : List α} {i : Nat} {x : α} (h : l[i]? = some x) : (l ++ r)[i]? = some x := by
  obtain ⟨hlt, rfl⟩ := List.getElem?_eq_some_iff.1 h
  rw [List.getElem?_append_left hlt, List.getElem?_eq_getElem hlt]
theorem Run.more {P : Int → Int → Int} {xs : List Ins} {D E : List Int} (h : Run P xs D E) (E' : List Int) : Run P xs D (E ++ E') :=
  ⟨h.len, h.low, fun j x d hx hd => by
    obtain ⟨h1, h2, h3⟩ := h.ok j x d hx hd
    exact ⟨h1, h2, fun t ht => ⟨(h3 t ht).1, by rw [← List.append_assoc]; exact get_more (h3 t ht).2⟩⟩⟩
theorem snoc_get {α : Type} {l : List α} {x y : α} {i : Nat} (h : (l ++ [x])[i]? = some y) : (l[i]? = some y) ∨ (i = l.length ∧ y = x) := by
  by_cases hi : i < l.length
  · rw [List.getElem?_append_left hi] at h; exact .inl h
  · rw [List.getElem?_append_right (by omega)] at h
    have : i - l.length = 0 := by
      rcases Nat.eq_zero_or_pos (i - l.length) with h0 | h0
      · exact h0
      · obtain ⟨m, hm⟩ : ∃ m, i - l.length = m + 1 := ⟨i - l.length - 1, by omega⟩
        rw [hm] at h; simp at h
    rw [this] at h
    simp at h
    exact .inr ⟨by omega, h.symm⟩
theorem Run.add {P : Int → Int → Int} {xs : List Ins} {D E : List Int} {d : Int} (h : Run P xs D (d :: E)) (hd : 0 ≤ d) (x : Ins) (hp : P x.op x.a ≤ d) (h8 : d - P x.op x.a + pushesI x.op ≤ 8)
    (ht : ∀ t ∈ nextM xs.length x.op x.a, 0 ≤ t ∧ (D ++ d :: E)[t.toNat]? = some (d - P x.op x.a + pushesI x.op)) : Run P (xs ++ [x]) (D ++ [d]) E := by
  refine ⟨by simp [h.len], fun e he => ?_, fun j y e hy he => ?_⟩
  · rcases List.mem_append.1 he with he | he
    · exact h.low e he
    · simp at he; omega
  · have hsame : D ++ [d] ++ E = D ++ d :: E := by simp
    rw [hsame]
    rcases snoc_get hy with hy | ⟨rfl, rfl⟩
    · rcases snoc_get he with he | ⟨rfl, rfl⟩
      · exact h.ok j y e hy he
      · have := (List.getElem?_eq_some_iff.1 hy).1
        have := h.len; omega
    · rcases snoc_get he with he | ⟨_, rfl⟩
      · have := (List.getElem?_eq_some_iff.1 he).1
        have := h.len; omega
      · exact ⟨hp, h8, ht⟩

/-! ### Depths that fit are found -/
/-- What is known of depths is what D tells. -/
def Sub (d D : List Int) : Prop := d.length = D.length ∧ ∀ j, d.getD j 0 < 0 ∨ d.getD j 0 = D.getD j 0
theorem Sub.set {d D : List Int} (h : Sub d D) {i : Nat} {x : Int} (hx : D.getD i 0 = x) (hi : i < d.length) : Sub (d.set i x) D := by
  refine ⟨by simp [h.1], fun j => ?_⟩
  by_cases e : i = j
  · subst e
    right
    simp [List.getD, hi, hx] at hx ⊢
    exact hx.symm
  · have : (d.set i x).getD j 0 = d.getD j 0 := by simp [List.getD, List.getElem?_set_ne e]
    rw [this]; exact h.2 j
theorem tosM_sub {D : List Int} {behind : Int} : ∀ {ts d : List Int} {fresh : Bool}, Sub d D → (∀ t ∈ ts, 0 ≤ t ∧ D[t.toNat]? = some behind) → ∃ d' f', tosM D.length behind ts d fresh = some (d', f') ∧ Sub d' D
  | [], d, fresh, h, _ => ⟨d, fresh, rfl, h⟩
  | t :: ts, d, fresh, h, ht => by
    obtain ⟨h0, hd⟩ := ht t List.mem_cons_self
    have ht' : ∀ u ∈ ts, 0 ≤ u ∧ D[u.toNat]? = some behind := fun u hu => ht u (List.mem_cons_of_mem _ hu)
    have hlt := (List.getElem?_eq_some_iff.1 hd).1
    have hg : D.getD t.toNat 0 = behind := by simp [List.getD, hd]
    unfold tosM
    rw [if_neg (by omega)]
    by_cases hneg : 0 ≤ d.getD t.toNat 0
    · rw [if_pos hneg, if_pos (by rcases h.2 t.toNat with h | h; omega; rw [h, hg])]
      exact tosM_sub h ht'
    · rw [if_neg hneg]
      exact tosM_sub (h.set hg (by rw [h.1]; exact hlt)) ht'
theorem scanM_sub {p : List Fnc} {D : List Int} : ∀ {xs : List Ins} {i : Nat} {d : List Int} {fresh : Bool}, Sub d D →
    (∀ j x e, xs[j]? = some x → D[i + j]? = some e → popsM p x.op x.a ≤ e ∧ e - popsM p x.op x.a + pushesI x.op ≤ 8 ∧ ∀ t ∈ nextM (i + j) x.op x.a, 0 ≤ t ∧ D[t.toNat]? = some (e - popsM p x.op x.a + pushesI x.op)) →
    i + xs.length ≤ D.length → ∃ d' f', scanM p D.length xs i d fresh = .inr (d', f') ∧ Sub d' D
  | [], i, d, fresh, h, _, _ => ⟨d, fresh, rfl, h⟩
  | x :: r, i, d, fresh, h, hx, hl => by
    have hl' : i + 1 + r.length ≤ D.length := by simp at hl; omega
    have hx' : ∀ j y e, r[j]? = some y → D[i + 1 + j]? = some e → popsM p y.op y.a ≤ e ∧ e - popsM p y.op y.a + pushesI y.op ≤ 8 ∧ ∀ t ∈ nextM (i + 1 + j) y.op y.a, 0 ≤ t ∧ D[t.toNat]? = some (e - popsM p y.op y.a + pushesI y.op) := fun j y e hy he => by
      have := hx (j + 1) y e (by simpa using hy) (by rw [← he]; congr 1; omega)
      rwa [show i + (j + 1) = i + 1 + j by omega] at this
    unfold scanM
    by_cases hneg : d.getD i 0 < 0
    · rw [if_pos hneg]
      exact scanM_sub h hx' hl'
    · rw [if_neg hneg]
      have hi : i < D.length := by simp at hl; omega
      have he : d.getD i 0 = D.getD i 0 := by rcases h.2 i with h | h; omega; exact h
      obtain ⟨h1, h2, h3⟩ := hx 0 x (D.getD i 0) rfl (by rw [Nat.add_zero]; exact getD_get hi)
      rw [he, if_neg (by omega)]
      obtain ⟨d1, f1, ht, hs⟩ := tosM_sub (fresh := fresh) h (by rw [Nat.add_zero] at h3; exact h3)
      rw [ht]
      exact scanM_sub hs hx' hl'
theorem fixM_sub {p : List Fnc} {xs : List Ins} {D : List Int} (h : Run (popsM p) xs D []) : ∀ {k : Nat} {d : List Int}, Sub d D → ∃ d', fixM p xs k d = .inr d'
  | 0, d, _ => ⟨d, rfl⟩
  | k + 1, d, hd => by
    obtain ⟨d1, f1, hs, hd1⟩ := scanM_sub (p := p) (xs := xs) (i := 0) (fresh := false) hd (fun j x e hx he => by
      have := h.ok j x e hx (by rwa [Nat.zero_add] at he)
      rwa [List.append_nil, ← Nat.zero_add j] at this) (by rw [h.len]; omega)
    unfold fixM
    rw [← h.len, hs]
    cases f1 with
    | false => exact ⟨d1, rfl⟩
    | true => exact fixM_sub h hd1
theorem start_get {n j : Nat} : (start n).getD j 0 < 0 ∨ j = 0 ∨ n ≤ j := by
  by_cases h0 : j = 0
  · exact .inr (.inl h0)
  · by_cases hj : j < n
    · left
      have : (start n)[j]? = some (-1) := by
        unfold start initM
        rw [List.getElem?_map, List.getElem?_range hj]
        simp [h0, hj]
      simp [List.getD, this]
    · exact .inr (.inr (by omega))
theorem depthsM_run {p : List Fnc} {xs : List Ins} {D : List Int} (h : Run (popsM p) xs D []) (h0 : D[0]? = some 0) : ∃ d, depthsM p xs = .inr d := by
  refine fixM_sub h ⟨by rw [(start_ok _).1, h.len], fun j => ?_⟩
  rcases start_get (n := xs.length) (j := j) with h | rfl | hj
  · exact .inl h
  · right
    have hl : 0 < xs.length := by have := (List.getElem?_eq_some_iff.1 h0).1; rw [h.len] at this; exact this
    have : (start xs.length)[0]? = some 0 := by
      unfold start initM
      rw [List.getElem?_map, List.getElem?_range hl]; rfl
    simp [List.getD, this, h0]
  · right
    simp [List.getD, List.getElem?_eq_none (show (start xs.length).length ≤ j by rw [(start_ok _).1]; exact hj), List.getElem?_eq_none (show D.length ≤ j by rw [h.len]; exact hj)]

/-! ### Programs that are let through -/
def HeadOk (x : Fnc) : Prop := 0 ≤ x.params ∧ x.params ≤ 3 ∧ x.params ≤ x.locals ∧ x.locals ≤ x.params + 4 ∧ 0 ≤ x.refs ∧ x.refs ≤ x.locals - x.params
/-- An instruction may be, but for where it jumps. -/
def FormOk (np : Nat) (x : Fnc) (i : Ins) : Prop := ∀ n : Nat, (i.op = 15 ∨ i.op = 16 → 0 ≤ i.a ∧ i.a < n) → shapedM np x.locals x.refs n i.op i.a i.b = true
/-- A function is done. -/
def DoneF (np : Nat) (P : Int → Int → Int) (x : Fnc) : Prop := 1 ≤ x.code.length ∧ x.code.length ≤ 62 ∧ (∀ i ∈ x.code, FormOk np x i) ∧ ∃ D, Run P x.code D [] ∧ D[0]? = some 0
/-- A program by numbers. -/
structure MadeOk (p : List Fnc) : Prop where
  pos : 1 ≤ p.length
  few : p.length ≤ 5
  heads : ∀ x ∈ p, HeadOk x
  zero : ∀ x, p[0]? = some x → x.params = 0
  done : ∀ x ∈ p, DoneF p.length (popsM p) x
theorem done_shape {np : Nat} {P : Int → Int → Int} {x : Fnc} (h : DoneF np P x) : ∀ i ∈ x.code, shapedI np x i = true := by
  obtain ⟨h1, h2, h3, D, hr, h0⟩ := h
  intro i hi
  refine h3 i hi _ fun ho => ?_
  obtain ⟨j, hj⟩ := List.mem_iff_getElem?.1 hi
  have hjl := (List.getElem?_eq_some_iff.1 hj).1
  obtain ⟨_, _, h⟩ := hr.ok j i (D.getD j 0) hj (getD_get (by rw [hr.len]; exact hjl))
  have hm : i.a ∈ nextM j i.op i.a := by
    unfold nextM
    rcases ho with ho | ho
    · rw [if_neg (by omega), if_pos ho]; simp
    · rw [if_neg (by omega), if_neg (by omega), if_pos ho]; simp
  obtain ⟨ha, hb⟩ := h _ hm
  rw [List.append_nil] at hb
  have := (List.getElem?_eq_some_iff.1 hb).1
  rw [hr.len] at this
  exact ⟨ha, by omega⟩
theorem firstNot_none {α : Type} {f : α → Bool} : ∀ {l : List α} {i : Nat}, (∀ x ∈ l, f x = true) → firstNot f l i = none
  | [], i, h => rfl
  | y :: r, i, h => by
    unfold firstNot
    rw [if_pos (h y List.mem_cons_self)]
    exact firstNot_none fun x hx => h x (List.mem_cons_of_mem _ hx)
theorem shapesM_none {np : Nat} : ∀ {l : List Fnc} {i : Nat}, (∀ f ∈ l, ∀ x ∈ f.code, shapedI np f x = true) → shapesM np l i = none
  | [], i, h => rfl
  | y :: r, i, h => by
    unfold shapesM
    rw [firstNot_none (h y List.mem_cons_self)]
    exact shapesM_none fun f hf => h f (List.mem_cons_of_mem _ hf)
theorem flowsM_none {p : List Fnc} : ∀ {l : List Fnc} {i : Nat}, (∀ f ∈ l, ∃ d, depthsM p f.code = .inr d) → flowsM p l i = none
  | [], i, h => rfl
  | y :: r, i, h => by
    unfold flowsM
    obtain ⟨d, hd⟩ := h y List.mem_cons_self
    rw [hd]
    exact flowsM_none fun f hf => h f (List.mem_cons_of_mem _ hf)
theorem check_zero {p : List Fnc} (h1 : 1 ≤ p.length) (h8 : p.length ≤ 8) (hs : ∀ x ∈ p, sizedF x = true) (hf : ∀ f ∈ p, ∀ x ∈ f.code, shapedI p.length f x = true) (hd : ∀ f ∈ p, ∃ d, depthsM p f.code = .inr d) : checkM p = (0, 0, 0) := by
  unfold checkM
  rw [if_neg (by omega), firstNot_none hs]
  simp only
  rw [shapesM_none hf]
  simp only
  rw [flowsM_none hd]
theorem done_sized {np : Nat} {P : Int → Int → Int} {x : Fnc} (h : DoneF np P x) (hh : HeadOk x) : sizedF x = true := by
  obtain ⟨h1, h2, _⟩ := h
  obtain ⟨a1, a2, a3, a4, a5, a6⟩ := hh
  unfold sizedF sizedM
  exact decide_eq_true (by omega)
theorem MadeOk.depths {p : List Fnc} (h : MadeOk p) {x : Fnc} (hx : x ∈ p) : ∃ d, depthsM p x.code = .inr d := by
  obtain ⟨_, _, _, D, hr, h0⟩ := h.done x hx
  exact depthsM_run hr h0
theorem MadeOk.check {p : List Fnc} (h : MadeOk p) : checkM p = (0, 0, 0) :=
  check_zero h.pos (by have := h.few; omega) (fun x hx => done_sized (h.done x hx) (h.heads x hx)) (fun f hf => done_shape (h.done f hf)) fun f hf => h.depths hf
end Go.Proofs.Ytlccbaemcfjdoaa
