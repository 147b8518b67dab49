/-
  The function of layer 17 that reckons depths: what its calls return.
  Conditions: the arguments' memory says what their values are; jumps do not go below nought; few numbers are handed.
-/
import Derived.Test.YtlccbaemcfjdoaaC17b
set_option linter.unusedVariables false
set_option linter.unusedSimpArgs false
namespace Go.Proofs.Ytlccbaemcfjdoaa
open Go.RowKit

/-! ### Places that follow -/
def nextM (at_ : Nat) (op a : Int) : List Int := if op = 18 ∨ op = 20 then [] else if op = 15 then [a] else if op = 16 then [a, (at_ : Int) + 1] else [(at_ : Int) + 1]
/-- A slice of these numbers, in memory that is new since w1. -/
def FreshNums (xs : List Int) (w1 : World) : Value → World → Prop := fun v w2 => ∃ A l c, v = .slice A l c ∧ Nums .i64 w2 A l xs ∧ ∀ p, A = some p → w1.heap.size ≤ p.block
theorem fresh_row {w1 w' : World} {xs : List Int} {e : TypeId} (ho : w'.heap[w1.heap.size]? = some (.cells (xs.map (.int .i64)).toArray e (0, 0))) (hl : xs.length ≤ maxLen) : Nums .i64 w' (some ⟨w1.heap.size, 0, none⟩) xs.length xs :=
  OwnI.nums (w := w') (g := w1.heap.size) (e := e) ho hl
theorem len_ok {n : Nat} (h : n ≤ 1000) : n ≤ maxLen := by simp only [maxLen]; omega
theorem fresh_ret {w0 w wa w' : World} {xs : List Int} {e : TypeId} (hw : Below w0.heap.size w0 w) (hs : w.heap.size ≤ wa.heap.size) (he : Ext w0.heap.size w w') (ho : w'.heap[wa.heap.size]? = some (.cells (xs.map (.int .i64)).toArray e (0, 0))) (hl : xs.length ≤ 1000) :
    Ret w0.heap.size w' (IsQ w0 (FreshNums xs w0) (.slice (some ⟨wa.heap.size, 0, none⟩) xs.length xs.length)) := by
  refine ret_q (he.after hw) fun w1 h1 => ⟨_, _, _, rfl, fresh_row (w1 := wa) (h1.row _ _ _ _ ho) (len_ok hl), fun p hp => ?_⟩
  cases hp
  exact Nat.le_trans hw.size hs
theorem yields123 (at_ : Nat) (op a b : Int) (hat : at_ < maxLen) (w : World) : Yields Try.prog 123 [.int .i64 at_, .agg ⟨[.int .i64 op, .int .i64 a, .int .i64 b]⟩] w (FreshNums (nextM at_ op a) w) := by
  refine yields_of (V123.sound ?_)
  intro q3 _
  have hw1 : IntKind.wrap .i64 ((at_ : Int) + 1) = (at_ : Int) + 1 := by rw [wrap_succ hat (Nat.le_refl _)]; rfl
  have nil : ∀ b7 : Bool, b7 = true → (op = 18 ∨ op = 20) → V123.b0 w.heap.size (IsQ w (FreshNums (nextM at_ op a) w)) at_ op b7 q3 op a b w := by
    intro b7 h1 h2
    unfold V123.b0
    rw [if_pos h1]
    refine ret_q (Below.refl _ _) fun w1 h1 => ⟨_, _, _, rfl, ?_, fun p hp => by cases hp⟩
    have : nextM at_ op a = [] := by unfold nextM; rw [if_pos h2]
    rw [this]
    exact nums_nil _ _
  have rest : ∀ b7 : Bool, b7 = false → ¬ (op = 18 ∨ op = 20) → V123.b0 w.heap.size (IsQ w (FreshNums (nextM at_ op a) w)) at_ op b7 q3 op a b w := by
    intro b7 h1 h2
    unfold V123.b0
    rw [if_neg (by simp [h1]), hw1]
    by_cases h15 : op = 15
    · rw [if_pos (by simpa using h15)]
      have hx : nextM at_ op a = [a] := by unfold nextM; rw [if_neg h2, if_pos h15]
      rw [hx]
      exact expo_alloc (Nat.le_refl _) fun wa w' hs he _ ho => fresh_ret (xs := [a]) (Below.refl _ _) hs he ho (by simp)
    · rw [if_neg (by simpa using h15)]
      by_cases h16 : op = 16
      · rw [if_pos (by simpa using h16)]
        have hx : nextM at_ op a = [a, (at_ : Int) + 1] := by unfold nextM; rw [if_neg h2, if_neg h15, if_pos h16]
        rw [hx]
        exact expo_alloc (Nat.le_refl _) fun wa w' hs he _ ho => fresh_ret (xs := [a, (at_ : Int) + 1]) (Below.refl _ _) hs he ho (by simp)
      · rw [if_neg (by simpa using h16)]
        have hx : nextM at_ op a = [(at_ : Int) + 1] := by unfold nextM; rw [if_neg h2, if_neg h15, if_neg h16]
        rw [hx]
        exact expo_alloc (Nat.le_refl _) fun wa w' hs he _ ho => fresh_ret (xs := [(at_ : Int) + 1]) (Below.refl _ _) hs he ho (by simp)
  by_cases h18 : op = 18
  · rw [if_pos (by simpa using h18)]
    exact nil _ (by simpa using h18) (.inl h18)
  · rw [if_neg (by simpa using h18)]
    by_cases h20 : op = 20
    · exact nil _ (by simpa using h20) (.inr h20)
    · exact rest _ (by simpa using h20) (by simp [h18, h20])

/-! ### The plain rule -/
def tosM (n : Nat) (behind : Int) : List Int → List Int → Bool → Option (List Int × Bool)
  | [], d, fresh => some (d, fresh)
  | to :: r, d, fresh =>
    if (n : Int) ≤ to then none else if 0 ≤ d.getD to.toNat 0 then (if d.getD to.toNat 0 = behind then tosM n behind r d fresh else none)
    else tosM n behind r (d.set to.toNat behind) true
def scanM (p : List Fnc) (n : Nat) : List Ins → Nat → List Int → Bool → Nat ⊕ (List Int × Bool)
  | [], _, d, fresh => .inr (d, fresh)
  | x :: r, i, d, fresh =>
    if d.getD i 0 < 0 then scanM p n r (i + 1) d fresh
    else if d.getD i 0 < popsM p x.op x.a ∨ 8 < d.getD i 0 - popsM p x.op x.a + pushesI x.op then .inl i
    else match tosM n (d.getD i 0 - popsM p x.op x.a + pushesI x.op) (nextM i x.op x.a) d fresh with
      | none => .inl i
      | some (d', fresh') => scanM p n r (i + 1) d' fresh'
def fixM (p : List Fnc) (code : List Ins) : Nat → List Int → Nat ⊕ List Int
  | 0, d => .inr d
  | k + 1, d => match scanM p code.length code 0 d false with
    | .inl i => .inl i
    | .inr (d', true) => fixM p code k d'
    | .inr (d', false) => .inr d'
def initM (n i : Nat) : List Int := (List.range n).map fun j => if j ≠ 0 ∧ j < i then -1 else 0
def start (n : Nat) : List Int := initM n n
def depthsM (p : List Fnc) (code : List Ins) : Nat ⊕ List Int := fixM p code (code.length + 1) (start code.length)
def negs (d : List Int) : Nat := (d.filter fun x => decide (x < 0)).length
/-- A row of depths: as long as the code, none above 8, none below -1. -/
def DOk (n : Nat) (d : List Int) : Prop := d.length = n ∧ ∀ x ∈ d, -1 ≤ x ∧ x ≤ 8
theorem negs_set : ∀ {d : List Int} {i : Nat} {x : Int}, i < d.length → d.getD i 0 < 0 → 0 ≤ x → negs (d.set i x) + 1 = negs d
  | [], i, x, h, _, _ => by simp at h
  | y :: r, 0, x, _, h1, h2 => by
    have h1 : y < 0 := by simpa using h1
    simp [negs, h1, Int.not_lt.2 h2]
  | y :: r, i + 1, x, h, h1, h2 => by
    have := negs_set (d := r) (i := i) (x := x) (by simpa using h) (by simpa using h1) h2
    simp only [negs, List.set_cons_succ, List.filter_cons] at this ⊢
    split
    · simp only [List.length_cons]; omega
    · exact this
theorem tosM_ok {n : Nat} {behind : Int} (hb : 0 ≤ behind ∧ behind ≤ 8) : ∀ {ts : List Int} {d : List Int} {fresh : Bool} {d' : List Int} {fresh' : Bool}, DOk n d → (∀ t ∈ ts, 0 ≤ t) → tosM n behind ts d fresh = some (d', fresh') →
    DOk n d' ∧ negs d' ≤ negs d ∧ (fresh' = true → fresh = true ∨ negs d' < negs d) ∧ (∀ i, 0 ≤ d.getD i 0 → d'.getD i 0 = d.getD i 0)
  | [], d, fresh, d', fresh', hd, _, h => by
    simp only [tosM, Option.some.injEq, Prod.mk.injEq] at h
    obtain ⟨rfl, rfl⟩ := h
    exact ⟨hd, Nat.le_refl _, .inl, fun _ _ => rfl⟩
  | t :: ts, d, fresh, d', fresh', hd, ht, h => by
    have ht' : ∀ u ∈ ts, 0 ≤ u := fun u hu => ht u (List.mem_cons_of_mem _ hu)
    have ht0 := ht t List.mem_cons_self
    unfold tosM at h
    split at h
    · cases h
    · rename_i hn
      split at h
      · split at h
        · exact tosM_ok hb hd ht' h
        · cases h
      · rename_i hneg
        have hlt : t.toNat < d.length := by rw [hd.1]; omega
        have hs : DOk n (d.set t.toNat behind) := ⟨by simp [hd.1], fun x hx => by
          rcases List.mem_or_eq_of_mem_set hx with hx | rfl
          · exact hd.2 x hx
          · omega⟩
        obtain ⟨h1, h2, h3, h4⟩ := tosM_ok hb hs ht' h
        have hset := negs_set hlt (by omega) hb.1
        refine ⟨h1, by omega, fun _ => .inr (by omega), fun i hi => ?_⟩
        have hne : i ≠ t.toNat := fun e => by subst e; omega
        have hsame : (d.set t.toNat behind).getD i 0 = d.getD i 0 := by simp [List.getElem?_set_ne (Ne.symm hne)]
        rw [h4 i (by rw [hsame]; exact hi), hsame]
theorem nextM_pos {i : Nat} {op a : Int} (h : op = 15 ∨ op = 16 → 0 ≤ a) : ∀ t ∈ nextM i op a, 0 ≤ t := by
  intro t ht
  unfold nextM at ht
  split at ht
  · cases ht
  · split at ht
    · rename_i h15; simp at ht; subst ht; exact h (.inl h15)
    · split at ht
      · rename_i h16; simp at ht; rcases ht with rfl | rfl
        · exact h (.inr h16)
        · omega
      · simp at ht; omega
theorem rowT_bd (op : Int) : -1 ≤ (rowT op).2.1 ∧ (rowT op).2.1 ≤ 2 ∧ 0 ≤ pushesI op ∧ pushesI op ≤ 2 := by
  unfold pushesI
  rcases op_cases op with h | h | h | h | h | h | h | h | h | h | h | h | h | h | h | h | h | h | h | h | h | h | h | h | h | h | h | hd
  all_goals first
    | (subst h; decide)
    | (obtain ⟨h1, h2, h3, h4, h5, h6, h7, h8, h9, h10, h11, h12, h13, h14, h15, h16, h17, h18, h19, h20, h21, h22, h23, h24, h25, h26, h27⟩ := hd; simp [rowT, *])
/-- Few numbers are handed. -/
def Few (p : List Fnc) : Prop := ∀ f ∈ p, f.params ≤ 3
theorem popsM_bd {p : List Fnc} (hp : Few p) (op a : Int) : 0 ≤ popsM p op a ∧ popsM p op a ≤ 3 := by
  have := rowT_bd op
  unfold popsM
  split
  · unfold paramsM
    split
    · omega
    · split
      · rename_i x hx
        have := hp x (List.mem_of_getElem? hx)
        split <;> omega
      · omega
  · omega
theorem scanM_ok {p : List Fnc} {n : Nat} (hp : Few p) : ∀ {xs : List Ins} {i : Nat} {d : List Int} {fresh : Bool} {d' : List Int} {fresh' : Bool}, DOk n d → (∀ x ∈ xs, x.op = 15 ∨ x.op = 16 → 0 ≤ x.a) → scanM p n xs i d fresh = .inr (d', fresh') →
    DOk n d' ∧ negs d' ≤ negs d ∧ (fresh' = true → fresh = true ∨ negs d' < negs d) ∧ (∀ i, 0 ≤ d.getD i 0 → d'.getD i 0 = d.getD i 0)
  | [], i, d, fresh, d', fresh', hd, _, h => by
    simp only [scanM, Sum.inr.injEq, Prod.mk.injEq] at h
    obtain ⟨rfl, rfl⟩ := h
    exact ⟨hd, Nat.le_refl _, .inl, fun _ _ => rfl⟩
  | x :: r, i, d, fresh, d', fresh', hd, hx, h => by
    have hx' : ∀ y ∈ r, y.op = 15 ∨ y.op = 16 → 0 ≤ y.a := fun y hy => hx y (List.mem_cons_of_mem _ hy)
    unfold scanM at h
    split at h
    · exact scanM_ok hp hd hx' h
    · rename_i hneg
      split at h
      · cases h
      · rename_i hok
        have hpb := popsM_bd hp x.op x.a
        have hrb := rowT_bd x.op
        split at h
        · cases h
        · rename_i d1 f1 ht
          obtain ⟨h1, h2, h3, h4⟩ := tosM_ok (by omega) hd (nextM_pos (hx x List.mem_cons_self)) ht
          obtain ⟨g1, g2, g3, g4⟩ := scanM_ok hp h1 hx' h
          refine ⟨g1, by omega, fun hf => ?_, fun i hi => ?_⟩
          · rcases g3 hf with h5 | h5
            · rcases h3 h5 with h6 | h6
              · exact .inl h6
              · exact .inr (by omega)
            · exact .inr (by omega)
          · rw [g4 i (by rw [h4 i hi]; exact hi), h4 i hi]
end Go.Proofs.Ytlccbaemcfjdoaa
