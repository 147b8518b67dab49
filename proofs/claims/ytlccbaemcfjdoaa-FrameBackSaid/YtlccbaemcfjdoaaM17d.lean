/-
  The maker's functions that push arguments and make a piece of one instruction: what their calls leave.
  Conditions: the maker lies in memory as told; what it keeps, it keeps.
-/
import Derived.Test.YtlccbaemcfjdoaaM17c
set_option linter.unusedVariables false
set_option linter.unusedSimpArgs false
namespace Go.Proofs.Ytlccbaemcfjdoaa
open Go.RowKit

theorem Cur.small {s : MSt} {E : List Int} (h : Cur s E) (hl : s.depth.length ≤ 100) : Small s where
  f := h.f
  few := by have := h.few; omega
  code := fun x hx => by
    obtain ⟨i, hi⟩ := List.mem_iff_getElem?.1 hx
    rcases Nat.lt_trichotomy i s.f with hlt | rfl | hgt
    · have := (h.done i x hlt hi).2.1; omega
    · have := (h.run x hi).1.len; omega
    · rw [h.todo i x hgt hi]; simp
  par := fun x hx => (h.heads x hx).2.1
  dep := by omega
  now := by have := h.now; omega
/-- A piece was made: n instructions at most. -/
structure Step (n : Nat) (s s' : MSt) : Prop where
  cur : Cur s' []
  f : s'.f = s.f
  p : s'.p.length = s.p.length
  pops : popsM s'.p = popsM s.p
  dep : s'.depth.length ≤ s.depth.length + n
theorem Step.one {s : MSt} {op a b : Int} (h : Cur (s.add op a b) []) : Step 1 s (s.add op a b) := ⟨h, rfl, add_plen _ _ _ _, popsM_push _ _ _, by rw [add_len]; omega⟩
theorem Step.refl {s : MSt} (h : Cur s []) : Step 0 s s := ⟨h, rfl, rfl, rfl, Nat.le_refl _⟩
theorem Step.trans {m n : Nat} {a b c : MSt} (h : Step m a b) (k : Step n b c) : Step (m + n) a c := ⟨k.cur, k.f.trans h.f, k.p.trans h.p, k.pops.trans h.pops, by have := h.dep; have := k.dep; omega⟩
theorem Step.mono {m n : Nat} {a b : MSt} (h : Step m a b) (hmn : m ≤ n) : Step n a b := { h with dep := by have := h.dep; omega }
theorem tm {b n : Int} (hb : 0 ≤ b) (hn : 0 < n) : 0 ≤ Int.tmod b n ∧ Int.tmod b n < n := ⟨Int.tmod_nonneg _ hb, Int.tmod_lt_of_pos _ hn⟩
theorem td {b n : Int} (hb : 0 ≤ b) (hn : 0 < n) : 0 ≤ Int.tdiv b n ∧ Int.tdiv b n ≤ b := ⟨Int.tdiv_nonneg hb (Int.le_of_lt hn), by rw [Int.tdiv_eq_ediv_of_nonneg hb]; exact Int.ediv_le_self _ hb⟩
theorem push_cur {s : MSt} (h : Cur s []) (h8 : s.now < 8) {a : Int} (ha : -2147483648 ≤ a ∧ a ≤ 2147483648) : Cur (s.add 1 a 0) [] ∧ (s.add 1 a 0).now = s.now + 1 := by
  have hp : popsM s.p 1 a = 0 := by simp [popsM, rowT]
  have hq : pushesI 1 = 1 := by simp [pushesI, rowT]
  exact ⟨h.step 1 a 0 (nextM_on (by omega) _ _) (fun x _ => form_push ha) (by rw [hp]; exact h.now.1) (by rw [hp, hq]; omega), by simp [MSt.add, hp, hq]⟩
theorem row_cur {s : MSt} (h : Cur s []) {op n m : Int} (hrow : rowT op = (0, n, m, true)) (hn : 0 ≤ n) (hne : op ≠ 15 ∧ op ≠ 16 ∧ op ≠ 18 ∧ op ≠ 20) (h1 : n ≤ s.now) (h8 : s.now - n + m ≤ 8) :
    Cur (s.add op 0 0) [] ∧ (s.add op 0 0).now = s.now - n + m := by
  have hp : popsM s.p op 0 = n := by unfold popsM; rw [hrow]; simp only; rw [if_neg (by omega)]
  have hq : pushesI op = m := by unfold pushesI; rw [hrow]
  exact ⟨h.step op 0 0 (nextM_on hne _ _) (fun x _ => form_none (by rw [hrow]) (by rw [hrow])) (by rw [hp]; exact h1) (by rw [hp, hq]; exact h8), by simp [MSt.add, hp, hq]⟩
theorem ref_cur {s : MSt} (h : Cur s []) {op a b : Int} (ho : op = 23 ∨ op = 24 ∨ op = 25) (hb : op = 24 ∨ b = 0) (hf : ∀ x, s.p[s.f]? = some x → 0 ≤ a ∧ a < x.refs ∧ 0 ≤ b ∧ b < x.refs) : Cur (s.add op a b) [] := by
  have hp : popsM s.p op a = 0 := by rcases ho with rfl | rfl | rfl <;> simp [popsM, rowT]
  have hq : pushesI op = 0 := by rcases ho with rfl | rfl | rfl <;> simp [pushesI, rowT]
  refine h.step op a b (nextM_on (by omega) _ _) (fun x hx => ?_) (by rw [hp]; exact h.now.1) (by rw [hp, hq]; have := h.now; omega)
  obtain ⟨h1, h2, h3, h4⟩ := hf x hx
  rcases ho with rfl | rfl | rfl
  · rcases hb with hb | rfl
    · omega
    · exact form_ref (.inl rfl) ⟨h1, h2⟩
  · exact form_same ⟨h1, h2⟩ ⟨h3, h4⟩
  · rcases hb with hb | rfl
    · omega
    · exact form_ref (.inr rfl) ⟨h1, h2⟩
theorem local_cur {s : MSt} (h : Cur s []) {op a : Int} (ho : op = 3 ∨ op = 4) (hf : ∀ x, s.p[s.f]? = some x → 0 ≤ a ∧ a < x.locals - x.refs) (h3 : op = 3 → s.now < 8) (h4 : op = 4 → 0 < s.now) : Cur (s.add op a 0) [] ∧ (op = 3 → (s.add op a 0).now = s.now + 1) := by
  have hp3 : popsM s.p 3 a = 0 := by simp [popsM, rowT]
  have hq3 : pushesI 3 = 1 := by simp [pushesI, rowT]
  have hp4 : popsM s.p 4 a = 1 := by simp [popsM, rowT]
  have hq4 : pushesI 4 = 0 := by simp [pushesI, rowT]
  have hn := h.now
  rcases ho with rfl | rfl
  · have := h3 rfl
    exact ⟨h.step 3 a 0 (nextM_on (by omega) _ _) (fun x hx => form_local (.inl rfl) (h.heads x (List.mem_of_getElem? hx)) (hf x hx)) (by rw [hp3]; omega) (by rw [hp3, hq3]; omega), fun _ => by simp [MSt.add, hp3, hq3]⟩
  · have := h4 rfl
    exact ⟨h.step 4 a 0 (nextM_on (by omega) _ _) (fun x hx => form_local (.inr rfl) (h.heads x (List.mem_of_getElem? hx)) (hf x hx)) (by rw [hp4]; omega) (by rw [hp4, hq4]; omega), fun h => by omega⟩
/-- A call of a function whose arguments are there, or one that is deferred. -/
theorem call_cur {s : MSt} (h : Cur s []) {op a k : Int} (ho : op = 17 ∨ op = 19) (ha : 0 ≤ a ∧ a < s.p.length) (hk : popsM s.p 17 a = k) (h1 : k ≤ s.now) (h8 : op = 17 → s.now - k < 8) : Cur (s.add op a 0) [] := by
  have hp : popsM s.p op a = k := by rcases ho with rfl | rfl <;> rw [← hk] <;> simp [popsM, rowT]
  have hq : pushesI 17 = 1 := by simp [pushesI, rowT]
  have hq9 : pushesI 19 = 0 := by simp [pushesI, rowT]
  have hn := h.now
  have hpar : 0 ≤ k := by rw [← hk]; exact (popsM_bd (fun x hx => (h.heads x hx).2.1) _ _).1
  rcases ho with rfl | rfl
  · exact h.step 17 a 0 (nextM_on (by omega) _ _) (fun x hx => form_call (.inl rfl) ha) (by rw [hp]; exact h1) (by rw [hp, hq]; have := h8 rfl; omega)
  · exact h.step 19 a 0 (nextM_on (by omega) _ _) (fun x hx => form_call (.inr rfl) ha) (by rw [hp]; exact h1) (by rw [hp, hq9]; omega)

section
variable {B g : Nat} {S : Nat → Prop} {w0 w : World} {s : MSt} {A : Option Addr} {ln cn : Nat} {vF vD : Value} {cs : List Value}
theorem call_add {bs : List Nat} {K : Value → World → Prop} {op a b : Int} (h : MK B g S w0 w s A ln cn vF vD cs) {E : List Int} (hc : Cur s E) (hl : s.depth.length ≤ 100)
    (hk : ∀ w' A' ln' cn' vF' vD' cs', MK B g S w0 w' (s.add op a b) A' ln' cn' vF' vD' cs' → K (.tuple ⟨[]⟩) w') : CallK Try.prog 115 [.pointer (some ⟨g, 0, none⟩), .int .i64 op, .int .i64 a, .int .i64 b] w0.heap.size w bs K :=
  call_mk h (works115 (hc.small hl) op a b) fun v s' w' A' ln' cn' vF' vD' cs' hR h' => by
    obtain ⟨rfl, rfl⟩ := hR
    exact hk w' A' ln' cn' vF' vD' cs' h'
theorem fin_add {bs : List Nat} {op a b : Int} {R : Value → MSt → Prop} {u : Value} (h : MK B g S w0 w s A ln cn vF vD cs) {E : List Int} (hc : Cur s E) (hl : s.depth.length ≤ 100) (hr : R u (s.add op a b)) :
    CallK Try.prog 115 [.pointer (some ⟨g, 0, none⟩), .int .i64 op, .int .i64 a, .int .i64 b] w0.heap.size w bs fun v w_1 => v = .tuple ⟨[]⟩ ∧ Ret w0.heap.size w_1 (IsT w0 S (MkQ B g S w0 R) u) :=
  call_add h hc hl fun w' A' ln' cn' vF' vD' cs' h' => ⟨rfl, ret_mk h' hr⟩
end
/-- What a piece leaves. -/
def PieceQ (n : Nat) (s : MSt) : Value → MSt → Prop := fun v s' => (v = .bool true ∧ Step n s s') ∨ (v = .bool false ∧ s' = s)
theorem works127 {B g : Nat} {s : MSt} (hc : Cur s []) {n : Nat} {b : Int} (hb : 0 ≤ b ∧ b < 256) (hn : s.now + n ≤ 8) (hl : s.depth.length ≤ 70) : Works 127 [.pointer (some ⟨g, 0, none⟩), .int .i64 n, .int .i64 b] B g s fun v s' => v = .tuple ⟨[]⟩ ∧ Step n s s' ∧ s'.now = s.now + n := by
  intro w0 A ln cn vF vD cs hm hB
  refine turns_of (V127.sound ?_)
  have h0 := MK.begin hm hB
  have hn0 := hc.now
  unfold V127.vc
  have main : ∀ (k i : Nat) (w : World) (s' : MSt) (A1 : Option Addr) (ln1 cn1 : Nat) (vF1 vD1 : Value) (cs1 : List Value), n < i + k → i ≤ n → MK B g (fun k => some k ∈ ownO g vF vD cs) w0 w s' A1 ln1 cn1 vF1 vD1 cs1 → Step i s s' → s'.now = s.now + i →
      V127.l0 w0.heap.size (IsT w0 (fun k => some k ∈ ownO g vF vD cs) (MkQ B g (fun k => some k ∈ ownO g vF vD cs) w0 fun v s' => v = .tuple ⟨[]⟩ ∧ Step n s s' ∧ s'.now = s.now + n)) k ⟨g, 0, none⟩ n b i w := by
    intro k
    induction k with
    | zero => intros; omega
    | succ k ih =>
      intro i w s' A1 ln1 cn1 vF1 vD1 cs1 hk hi h hst hnow
      dsimp -zeta only [V127.l0]
      by_cases hlt : i < n
      · rw [if_pos (by simpa using hlt)]
        refine ⟨by omega, ?_⟩
        have hd := hst.dep
        have hwr : IntKind.wrap .i64 (b + (i : Int)) = b + (i : Int) := wrap_id (by omega) (by omega)
        have ht := tm (b := b + (i : Int)) (n := 12) (by omega) (by omega)
        rw [hwr]
        refine call_add h hst.cur (by omega) fun w' A' ln' cn' vF' vD' cs' h' => ⟨rfl, ?_⟩
        obtain ⟨c1, n1⟩ := push_cur hst.cur (by omega) (a := Int.tmod (b + (i : Int)) 12) (by omega)
        have hwi : IntKind.wrap .i64 ((i : Int) + 1) = ((i + 1 : Nat) : Int) := by rw [wrap_id (by omega) (by omega)]; rfl
        rw [hwi]
        exact ih (i + 1) w' _ A' ln' cn' vF' vD' cs' (by omega) (by omega) h' (hst.trans (Step.one c1)) (by rw [n1, hnow]; push_cast; omega)
      · rw [if_neg (by simpa using hlt)]
        have : i = n := by omega
        subst this
        exact ret_mk h ⟨rfl, hst, hnow⟩
  exact ⟨n + 1, main (n + 1) 0 w0 s A ln cn vF vD cs (by omega) (by omega) h0 (Step.refl hc) (by simp)⟩
end Go.Proofs.Ytlccbaemcfjdoaa
