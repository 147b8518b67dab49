/-
  The maker's pieces, as a plain rule: forms, phases, a further function, a further instruction.
  Conditions: none.
-/
import Derived.Test.YtlccbaemcfjdoaaS17
set_option linter.unusedVariables false
set_option linter.unusedSimpArgs false
namespace Go.Proofs.Ytlccbaemcfjdoaa
open Go.RowKit

/-! ### Forms -/
theorem form_none {np : Nat} {x : Fnc} {op : Int} (h : (rowT op).2.2.2 = true) (h1 : (rowT op).1 = 0) : FormOk np x ⟨op, 0, 0⟩ := fun n _ => by simp [shapedM, kindM, h, h1]
theorem form_push {np : Nat} {x : Fnc} {a : Int} (h : -2147483648 ≤ a ∧ a ≤ 2147483648) : FormOk np x ⟨1, a, 0⟩ := fun n _ => by simp [shapedM, kindM, rowT]; omega
theorem form_odd {np : Nat} {x : Fnc} {a : Int} (h : 0 ≤ a ∧ a < 6) : FormOk np x ⟨2, a, 0⟩ := fun n _ => by simp [shapedM, kindM, rowT, withinM]; omega
theorem form_local {np : Nat} {x : Fnc} {op a : Int} (ho : op = 3 ∨ op = 4) (hx : HeadOk x) (h : 0 ≤ a ∧ a < x.locals - x.refs) : FormOk np x ⟨op, a, 0⟩ := fun n _ => by
  obtain ⟨h1, h2, h3, h4, h5, h6⟩ := hx
  have hw : IntKind.wrap .i64 (x.locals - x.refs) = x.locals - x.refs := wrap_id (by omega) (by omega)
  rcases ho with rfl | rfl <;> simp [shapedM, kindM, rowT, withinM, hw] <;> omega
theorem form_jump {np : Nat} {x : Fnc} {op a : Int} (ho : op = 15 ∨ op = 16) : FormOk np x ⟨op, a, 0⟩ := fun n h => by
  have := h ho
  simp only at this
  rcases ho with rfl | rfl <;> simp [shapedM, kindM, rowT, withinM] <;> omega
theorem form_call {np : Nat} {x : Fnc} {op a : Int} (ho : op = 17 ∨ op = 19) (h : 0 ≤ a ∧ a < np) : FormOk np x ⟨op, a, 0⟩ := fun n _ => by
  rcases ho with rfl | rfl <;> simp [shapedM, kindM, rowT, withinM] <;> omega
theorem form_ref {np : Nat} {x : Fnc} {op a : Int} (ho : op = 23 ∨ op = 25) (h : 0 ≤ a ∧ a < x.refs) : FormOk np x ⟨op, a, 0⟩ := fun n _ => by
  rcases ho with rfl | rfl <;> simp [shapedM, kindM, rowT, withinM] <;> omega
theorem form_same {np : Nat} {x : Fnc} {a b : Int} (h : 0 ≤ a ∧ a < x.refs) (hb : 0 ≤ b ∧ b < x.refs) : FormOk np x ⟨24, a, b⟩ := fun n _ => by
  simp [shapedM, kindM, rowT, withinM]; omega

/-! ### Phases -/
/-- The functions below k are done, the others have no code. -/
structure Ph (p : List Fnc) (k : Nat) : Prop where
  pos : 1 ≤ p.length
  few : p.length ≤ 5
  heads : ∀ x ∈ p, HeadOk x
  zero : ∀ x, p[0]? = some x → x.params = 0
  done : ∀ i x, i < k → p[i]? = some x → DoneF p.length (popsM p) x
  todo : ∀ i x, k ≤ i → p[i]? = some x → x.code = []
theorem Ph.begin {p : List Fnc} {k : Nat} (h : Ph p k) (hk : k < p.length) (ns : List Int) : Cur ⟨ns, p, k, [], 0⟩ [] :=
  ⟨h.pos, h.few, hk, h.heads, h.zero, h.done, fun i x hi hx => h.todo i x (Nat.le_of_lt hi) hx, fun x hx => by
    have hc := h.todo k x (Nat.le_refl _) hx
    rw [hc]
    exact ⟨Run.nil _ _, fun i hi => by cases hi⟩, rfl, by simp⟩
theorem Cur.finish {s : MSt} (h : Cur s []) (hnow : 1 ≤ s.now) (hlen : s.depth.length ≤ 61) : Ph (s.add 18 0 0).p (s.f + 1) := by
  have hp : popsM s.p 18 0 = 1 := by simp [popsM, rowT]
  have hq : pushesI 18 = 0 := by simp [pushesI, rowT]
  have hd := h.fin hnow hlen
  have hc := (h.more [s.now - 1]).add 18 0 0 (fun x _ => form_none (by simp [rowT]) (by simp [rowT])) (by rw [hp]; exact hnow) (by rw [hp, hq]; omega) (by have := h.now; omega) (by intro t ht; simp [nextM] at ht)
  have hl : (s.add 18 0 0).p.length = s.p.length := by simp [MSt.add]
  have hpops : popsM (s.add 18 0 0).p = popsM s.p := popsM_push _ _ _
  refine ⟨hc.pos, hc.few, hc.heads, hc.zero, fun i x hi hx => ?_, fun i x hi hx => hc.todo i x hi hx⟩
  by_cases he : i = s.f
  · subst he
    rw [hl, hpops]
    exact hd x hx
  · exact hc.done i x (show i < s.f by omega) hx
theorem Ph.made {p : List Fnc} (h : Ph p p.length) : MadeOk p :=
  ⟨h.pos, h.few, h.heads, h.zero, fun x hx => by
    obtain ⟨i, hi⟩ := List.mem_iff_getElem?.1 hx
    exact h.done i x (List.getElem?_eq_some_iff.1 hi).1 hi⟩

/-! ### Pieces of some instructions -/
theorem get_at {α : Type} (l r : List α) (i : Nat) : (l ++ r)[l.length + i]? = r[i]? := by
  rw [List.getElem?_append_right (by omega), Nat.add_sub_cancel_left]
theorem at_get {l r : List Int} {n : Int} {i : Nat} {x : Int} (hn : n = (l.length : Int) + (i : Int)) (hx : r[i]? = some x) : 0 ≤ n ∧ (l ++ r)[n.toNat]? = some x := by
  subst hn
  refine ⟨by omega, ?_⟩
  rw [show ((l.length : Int) + (i : Int)).toNat = l.length + i by omega, get_at]
  exact hx
theorem nextM_on {op : Int} (h : op ≠ 15 ∧ op ≠ 16 ∧ op ≠ 18 ∧ op ≠ 20) (n : Nat) (a : Int) : nextM n op a = [(n : Int) + 1] := by
  unfold nextM
  rw [if_neg (by omega), if_neg (by omega), if_neg (by omega)]
theorem add_len (s : MSt) (op a b : Int) : (s.add op a b).depth.length = s.depth.length + 1 := by simp [MSt.add]
theorem add_f (s : MSt) (op a b : Int) : (s.add op a b).f = s.f := rfl
theorem add_ns (s : MSt) (op a b : Int) : (s.add op a b).ns = s.ns := rfl
theorem add_plen (s : MSt) (op a b : Int) : (s.add op a b).p.length = s.p.length := by simp [MSt.add]
/-- If a push leads over a push and an end. -/
theorem Cur.over {s : MSt} (h : Cur s []) (h8 : s.now < 8) (a c : Int) {op : Int} (ho : op = 18 ∨ op = 20) (ha : -2147483648 ≤ a ∧ a ≤ 2147483648) (hc : -2147483648 ≤ c ∧ c ≤ 2147483648) :
    Cur (s.add 1 a 0) [s.now, s.now + 1, s.now] ∧ Cur ((s.add 1 a 0).add 16 ((s.depth.length : Int) + 4) 0) [s.now + 1, s.now] ∧ Cur (((s.add 1 a 0).add 16 ((s.depth.length : Int) + 4) 0).add 1 c 0) [s.now] ∧
    Cur ((((s.add 1 a 0).add 16 ((s.depth.length : Int) + 4) 0).add 1 c 0).add op 0 0) [] := by
  have hp1 : ∀ p : List Fnc, ∀ a, popsM p 1 a = 0 := fun p a => by simp [popsM, rowT]
  have hp16 : ∀ p : List Fnc, ∀ a, popsM p 16 a = 1 := fun p a => by simp [popsM, rowT]
  have hpo : ∀ p : List Fnc, popsM p op 0 = 1 := fun p => by rcases ho with rfl | rfl <;> simp [popsM, rowT]
  have hq1 : pushesI 1 = 1 := by simp [pushesI, rowT]
  have hq16 : pushesI 16 = 0 := by simp [pushesI, rowT]
  have hqo : pushesI op = 0 := by rcases ho with rfl | rfl <;> simp [pushesI, rowT]
  have hn0 := h.now
  have c0 := h.more [s.now + 1, s.now, s.now + 1, s.now]
  have c1 : Cur (s.add 1 a 0) [s.now, s.now + 1, s.now] := c0.add 1 a 0 (fun x _ => form_push ha) (by rw [hp1]; omega) (by rw [hp1, hq1]; omega) (by omega) fun t ht => by
    rw [nextM_on (by omega)] at ht
    simp at ht
    exact at_get (i := 1) ht rfl
  have n1 : (s.add 1 a 0).now = s.now + 1 := by simp [MSt.add, hp1, hq1]
  have c2 : Cur ((s.add 1 a 0).add 16 ((s.depth.length : Int) + 4) 0) [s.now + 1, s.now] := c1.add 16 _ 0 (fun x _ => form_jump (.inr rfl)) (by rw [hp16, n1]; omega) (by rw [hp16, hq16, n1]; omega) (by omega) fun t ht => by
    simp [nextM] at ht
    rcases ht with ht | ht
    · exact at_get (i := 3) (by rw [add_len]; omega) rfl
    · exact at_get (i := 1) (by omega) rfl
  have n2 : ((s.add 1 a 0).add 16 ((s.depth.length : Int) + 4) 0).now = s.now := by
    show (s.add 1 a 0).now - popsM _ 16 _ + pushesI 16 = _
    rw [n1, hp16, hq16]; omega
  have c3 : Cur (((s.add 1 a 0).add 16 ((s.depth.length : Int) + 4) 0).add 1 c 0) [s.now] := c2.add 1 c 0 (fun x _ => form_push hc) (by rw [hp1, n2]; omega) (by rw [hp1, hq1, n2]; omega) (by omega) fun t ht => by
    rw [nextM_on (by omega)] at ht
    simp at ht
    exact at_get (i := 1) ht rfl
  have n3 : (((s.add 1 a 0).add 16 ((s.depth.length : Int) + 4) 0).add 1 c 0).now = s.now + 1 := by
    show ((s.add 1 a 0).add 16 ((s.depth.length : Int) + 4) 0).now - popsM _ 1 _ + pushesI 1 = _
    rw [n2, hp1, hq1]; omega
  refine ⟨c1, c2, c3, ?_⟩
  exact c3.add op 0 0 (fun x _ => form_none (by rcases ho with rfl | rfl <;> simp [rowT]) (by rcases ho with rfl | rfl <;> simp [rowT])) (by rw [hpo, n3]; omega) (by rw [hpo, hqo, n3]; omega) (by omega) fun t ht => by
    rcases ho with rfl | rfl <;> simp [nextM] at ht
/-- The head of a function that is handed numbers. -/
theorem Cur.header {s : MSt} (h : Cur s []) (hd : s.depth = []) (hs : s.now = 0) (hx : ∀ x, s.p[s.f]? = some x → 0 < x.params) {c : Int} (hc : -2147483648 ≤ c ∧ c ≤ 2147483648) :
    Cur (s.add 3 0 0) [0, 1, 0] ∧ Cur ((s.add 3 0 0).add 16 4 0) [1, 0] ∧ Cur (((s.add 3 0 0).add 16 4 0).add 1 c 0) [0] ∧
    Cur ((((s.add 3 0 0).add 16 4 0).add 1 c 0).add 18 0 0) [] ∧ ((((s.add 3 0 0).add 16 4 0).add 1 c 0).add 18 0 0).now = 0 := by
  have hp1 : ∀ p : List Fnc, ∀ a, popsM p 1 a = 0 := fun p a => by simp [popsM, rowT]
  have hp3 : ∀ p : List Fnc, ∀ a, popsM p 3 a = 0 := fun p a => by simp [popsM, rowT]
  have hp16 : ∀ p : List Fnc, ∀ a, popsM p 16 a = 1 := fun p a => by simp [popsM, rowT]
  have hpo : ∀ p : List Fnc, popsM p 18 0 = 1 := fun p => by simp [popsM, rowT]
  have hq1 : pushesI 1 = 1 := by simp [pushesI, rowT]
  have hq3 : pushesI 3 = 1 := by simp [pushesI, rowT]
  have hq16 : pushesI 16 = 0 := by simp [pushesI, rowT]
  have hqo : pushesI 18 = 0 := by simp [pushesI, rowT]
  have c0 := h.more [1, 0, 1, 0]
  have c1 : Cur (s.add 3 0 0) [0, 1, 0] := c0.add 3 0 0 (fun x hxx => form_local (.inl rfl) (h.heads x (List.mem_of_getElem? hxx)) (by
      have h1 := hx x hxx
      obtain ⟨a1, a2, a3, a4, a5, a6⟩ := h.heads x (List.mem_of_getElem? hxx)
      omega)) (by rw [hp3, hs]; omega) (by rw [hp3, hq3, hs]; rfl) (by omega) fun t ht => by
    rw [nextM_on (by omega)] at ht
    simp at ht
    exact at_get (i := 1) ht rfl
  have n1 : (s.add 3 0 0).now = 1 := by simp [MSt.add, hp3, hq3, hs]
  have d1 : (s.add 3 0 0).depth.length = 1 := by rw [add_len, hd]; rfl
  have c2 : Cur ((s.add 3 0 0).add 16 4 0) [1, 0] := c1.add 16 4 0 (fun x _ => form_jump (.inr rfl)) (by rw [hp16, n1]; omega) (by rw [hp16, hq16, n1]; rfl) (by omega) fun t ht => by
    simp [nextM] at ht
    rcases ht with ht | ht
    · exact at_get (i := 3) (by rw [d1, ht]; rfl) rfl
    · exact at_get (i := 1) (by omega) rfl
  have n2 : ((s.add 3 0 0).add 16 4 0).now = 0 := by
    show (s.add 3 0 0).now - popsM _ 16 _ + pushesI 16 = _
    rw [n1, hp16, hq16]; omega
  have c3 : Cur (((s.add 3 0 0).add 16 4 0).add 1 c 0) [0] := c2.add 1 c 0 (fun x _ => form_push hc) (by rw [hp1, n2]; omega) (by rw [hp1, hq1, n2]; rfl) (by omega) fun t ht => by
    rw [nextM_on (by omega)] at ht
    simp at ht
    exact at_get (i := 1) ht rfl
  have n3 : (((s.add 3 0 0).add 16 4 0).add 1 c 0).now = 1 := by
    show ((s.add 3 0 0).add 16 4 0).now - popsM _ 1 _ + pushesI 1 = _
    rw [n2, hp1, hq1]; omega
  refine ⟨c1, c2, c3, c3.add 18 0 0 (fun x _ => form_none (by simp [rowT]) (by simp [rowT])) (by rw [hpo, n3]; omega) (by rw [hpo, hqo, n3]; rfl) (by omega) fun t ht => by simp [nextM] at ht, ?_⟩
  show (((s.add 3 0 0).add 16 4 0).add 1 c 0).now - popsM _ 18 _ + pushesI 18 = _
  rw [n3, hpo, hqo]; omega

/-! ### A further function, a further instruction -/
theorem scanM_congr {p q : List Fnc} (h : popsM p = popsM q) (n : Nat) : ∀ (xs : List Ins) (i : Nat) (d : List Int) (fresh : Bool), scanM p n xs i d fresh = scanM q n xs i d fresh
  | [], i, d, fresh => rfl
  | x :: r, i, d, fresh => by
    unfold scanM
    rw [h]
    simp only [scanM_congr h n r]
theorem fixM_congr {p q : List Fnc} (h : popsM p = popsM q) (xs : List Ins) : ∀ (k : Nat) (d : List Int), fixM p xs k d = fixM q xs k d
  | 0, d => rfl
  | k + 1, d => by
    unfold fixM
    rw [scanM_congr h]
    simp only [fixM_congr h xs k]
theorem depthsM_congr {p q : List Fnc} (h : popsM p = popsM q) (xs : List Ins) : depthsM p xs = depthsM q xs := fixM_congr h xs _ _
def furtherF : Fnc := ⟨0, 1, 0, [⟨3, 0, 0⟩, ⟨18, 0, 0⟩]⟩
theorem popsM_further (p : List Fnc) : popsM (p ++ [furtherF]) = popsM p := by
  funext op a
  have : paramsM (p ++ [furtherF]) a = paramsM p a := by
    unfold paramsM
    split
    · rfl
    · by_cases h : a.toNat < p.length
      · rw [List.getElem?_append_left h]
      · rw [List.getElem?_eq_none (l := p) (by omega)]
        by_cases h2 : a.toNat = p.length
        · rw [h2]; simp [furtherF]
        · rw [List.getElem?_eq_none (by simp; omega)]
  unfold popsM
  rw [this]
theorem kindM_mono {np np' : Nat} {l r : Int} {n n' : Nat} {k a b : Int} (h : kindM np l r n k a b = true) (hp : np ≤ np') (hn : n ≤ n') : kindM np' l r n' k a b = true := by
  by_cases e1 : k = 1
  · simpa [kindM, e1] using h
  by_cases e2 : k = 2
  · simpa [kindM, e2] using h
  by_cases e3 : k = 3
  · simpa [kindM, e3] using h
  by_cases e4 : k = 4
  · simp [kindM, e4, withinM] at h ⊢; omega
  by_cases e5 : k = 5
  · simp [kindM, e5, withinM] at h ⊢; omega
  by_cases e6 : k = 6
  · simpa [kindM, e6] using h
  by_cases e7 : k = 7
  · simpa [kindM, e7] using h
  simpa [kindM, e1, e2, e3, e4, e5, e6, e7] using h
theorem shapedM_mono {np np' : Nat} {l r : Int} {n n' : Nat} {op a b : Int} (h : shapedM np l r n op a b = true) (hp : np ≤ np') (hn : n ≤ n') : shapedM np' l r n' op a b = true := by
  unfold shapedM at h ⊢
  simp only [Bool.and_eq_true] at h ⊢
  exact ⟨h.1, kindM_mono h.2 hp hn⟩
theorem MadeOk.further {p : List Fnc} (h : MadeOk p) : checkM (p ++ [furtherF]) = (0, 0, 0) := by
  have hl : (p ++ [furtherF]).length = p.length + 1 := by simp
  have hcase : ∀ x ∈ p ++ [furtherF], x ∈ p ∨ x = furtherF := fun x hx => by simpa using hx
  refine check_zero (by rw [hl]; omega) (by rw [hl]; have := h.few; omega) (fun x hx => ?_) (fun f hf x hx => ?_) fun f hf => ?_
  · rcases hcase x hx with hx | rfl
    · exact done_sized (h.done x hx) (h.heads x hx)
    · rfl
  · rcases hcase f hf with hf | rfl
    · exact shapedM_mono (done_shape (h.done f hf) x hx) (by rw [hl]; omega) (Nat.le_refl _)
    · simp [furtherF] at hx
      rcases hx with rfl | rfl
      · exact form_local (.inl rfl) (by simp [HeadOk, furtherF]) (by simp [furtherF]) _ (by simp)
      · exact form_none (by simp [rowT]) (by simp [rowT]) _ (by simp)
  · rcases hcase f hf with hf | rfl
    · rw [depthsM_congr (popsM_further p)]
      exact h.depths hf
    · have hr0 : Run (popsM (p ++ [furtherF])) [] [] [0, 1] := Run.nil _ _
      have hr1 := hr0.add (Int.le_refl 0) ⟨3, 0, 0⟩ (by simp [popsM, rowT]) (by simp [popsM, rowT, pushesI]) (by
        intro t ht
        rw [nextM_on (op := 3) (by omega)] at ht
        simp at ht
        subst ht
        exact ⟨by decide, by simp [popsM, rowT, pushesI]⟩)
      have hr2 := Run.add (d := 1) hr1 (by omega) ⟨18, 0, 0⟩ (by simp [popsM, rowT]) (by simp [popsM, rowT, pushesI]) (by intro t ht; simp [nextM] at ht)
      exact depthsM_run hr2 rfl
theorem firstNot_snoc {α : Type} {f : α → Bool} {y : α} : ∀ {l : List α} {i : Nat}, (∀ x ∈ l, f x = true) → f y = false → firstNot f (l ++ [y]) i = some (i + l.length)
  | [], i, h, hy => by simp [firstNot, hy]
  | x :: r, i, h, hy => by
    show firstNot f (x :: (r ++ [y])) i = _
    unfold firstNot
    rw [if_pos (h x List.mem_cons_self), firstNot_snoc (fun z hz => h z (List.mem_cons_of_mem _ hz)) hy]
    simp; omega
theorem shapesM_at {np : Nat} {g : Fnc} {j : Nat} (hg : firstNot (shapedI np g) g.code 0 = some j) : ∀ {l : List Fnc} {k i : Nat}, (∀ (m : Nat) f, m < k → l[m]? = some f → ∀ x ∈ f.code, shapedI np f x = true) → l[k]? = some g → shapesM np l i = some (i + k, j)
  | [], k, i, h, hk => by simp at hk
  | y :: r, 0, i, h, hk => by
    simp at hk; subst hk
    unfold shapesM
    rw [hg]; rfl
  | y :: r, k + 1, i, h, hk => by
    unfold shapesM
    rw [firstNot_none (h 0 y (by omega) rfl)]
    simp only
    rw [shapesM_at (k := k) hg (fun m f hm hf => h (m + 1) f (by omega) (by simpa using hf)) (by simpa using hk)]
    congr 2; omega
theorem rowT_out {op : Int} (h : ¬ (1 ≤ op ∧ op ≤ 27)) : (rowT op).2.2.2 = false := by
  unfold rowT
  repeat rw [if_neg (by omega)]
theorem MadeOk.wrong {p : List Fnc} (h : MadeOk p) {k : Nat} {x : Fnc} (hk : p[k]? = some x) {op : Int} (ho : ¬ (1 ≤ op ∧ op ≤ 27)) : checkM ((p ++ [furtherF]).set k { x with code := x.code ++ [⟨op, 0, 0⟩] }) = (6, (k : Int), (x.code.length : Int)) := by
  have hkl := (List.getElem?_eq_some_iff.1 hk).1
  have hx := List.mem_of_getElem? hk
  generalize hg : ({ x with code := x.code ++ [⟨op, 0, 0⟩] } : Fnc) = g
  have hgc : g.code = x.code ++ [⟨op, 0, 0⟩] := by rw [← hg]
  have hl : ((p ++ [furtherF]).set k g).length = p.length + 1 := by simp
  obtain ⟨e1, e2, e3, D, e4, e5⟩ := h.done x hx
  have hsz : ∀ y ∈ (p ++ [furtherF]).set k g, sizedF y = true := fun y hy => by
    rcases List.mem_or_eq_of_mem_set hy with hy | rfl
    · have : y ∈ p ∨ y = furtherF := by simpa using hy
      rcases this with hy | rfl
      · exact done_sized (h.done y hy) (h.heads y hy)
      · rfl
    · obtain ⟨a1, a2, a3, a4, a5, a6⟩ := h.heads x hx
      rw [← hg]
      unfold sizedF sizedM
      simp only [List.length_append, List.length_cons, List.length_nil]
      exact decide_eq_true (by omega)
  have hfn : firstNot (shapedI (p.length + 1) g) g.code 0 = some x.code.length := by
    have := firstNot_snoc (f := shapedI (p.length + 1) g) (y := ⟨op, 0, 0⟩) (l := x.code) (i := 0) (fun i hi => by
      have hsh := done_shape (h.done x hx) i hi
      unfold shapedI at hsh ⊢
      have := shapedM_mono hsh (np' := p.length + 1) (n' := g.code.length) (by omega) (by rw [hgc]; simp)
      rw [← hg] at this ⊢
      exact this) (by unfold shapedI shapedM; rw [rowT_out ho]; rfl)
    rw [hgc, this, Nat.zero_add]
  have hsm := shapesM_at hfn (l := (p ++ [furtherF]).set k g) (k := k) (i := 0) (fun m f hm hf y hy => by
    have hmp : m < p.length := by omega
    rw [List.getElem?_set_ne (by omega), List.getElem?_append_left hmp] at hf
    exact shapedM_mono (np := p.length) (np' := p.length + 1) (n := f.code.length) (n' := f.code.length) (done_shape (h.done f (List.mem_of_getElem? hf)) y hy) (by omega) (Nat.le_refl _)) (by
      rw [List.getElem?_set_self (by simp; omega)])
  unfold checkM
  rw [if_neg (by rw [hl]; have := h.few; omega), firstNot_none hsz]
  simp only
  rw [hl, hsm]
  simp
end Go.Proofs.Ytlccbaemcfjdoaa
