import Derived.Test.YtidcpndlloppdaaZEngD
import Derived.Test.YtidcpndlloppdaaZK17
import Derived.Test.YtidcpndlloppdaaZVB
/-
  The maker of programs by numbers, as a plain rule; how it lies in memory; calls of its functions.
  Conditions: none.
-/
set_option linter.unusedVariables false
set_option linter.unusedSimpArgs false
namespace Go.Proofs.Ytidcpndlloppdaa
open Go.RowKit
structure MSt where
  ns : List Int
  p : List Fnc
  f : Nat
  depth : List Int
  now : Int
section
variable {B g : Nat} {w : World} {s : MSt} {A : Option Addr} {ln cn : Nat} {vF vD : Value} {cs : List Value}
end
section
variable {B g : Nat} {S : Nat → Prop} {w0 w : World} {s : MSt} {A : Option Addr} {ln cn : Nat} {vF vD : Value} {cs : List Value}
end
end Go.Proofs.Ytidcpndlloppdaa
set_option linter.unusedVariables false
set_option linter.unusedSimpArgs false
namespace Go.Proofs.Ytidcpndlloppdaa
open Go.RowKit
structure Run (P : Int → Int → Int) (xs : List Ins) (D E : List Int) : Prop where
  len : D.length = xs.length
  low : ∀ d ∈ D, 0 ≤ d
  ok : ∀ j x d, xs[j]? = some x → D[j]? = some d → P x.op x.a ≤ d ∧ d - P x.op x.a + pushesI x.op ≤ 8 ∧
    ∀ t ∈ nextM j x.op x.a, 0 ≤ t ∧ (D ++ E)[t.toNat]? = some (d - P x.op x.a + pushesI x.op)
def Sub (d D : List Int) : Prop := d.length = D.length ∧ ∀ j, d.getD j 0 < 0 ∨ d.getD j 0 = D.getD j 0
theorem Sub.set {d D : List Int} (h : Sub d D) {i : Nat} {x : Int} (hx : D.getD i 0 = x) (hi : i < d.length) : Sub (d.set i x) D := by
  refine ⟨by simp [h.1], fun j => ?_⟩
  by_cases e : i = j
  · subst e
    right
    simp [List.getD, hi, hx] at hx ⊢
    exact hx.symm
  · have : (d.set i x).getD j 0 = d.getD j 0 := by simp [List.getD, List.getElem?_set_ne e]
    rw [this]; exact h.2 j
theorem tosM_sub {D : List Int} {behind : Int} : ∀ {ts d : List Int} {fresh : Bool}, Sub d D → (∀ t ∈ ts, 0 ≤ t ∧ D[t.toNat]? = some behind) → ∃ d' f', tosM D.length behind ts d fresh = some (d', f') ∧ Sub d' D
  | [], d, fresh, h, _ => ⟨d, fresh, rfl, h⟩
  | t :: ts, d, fresh, h, ht => by
    obtain ⟨h0, hd⟩ := ht t List.mem_cons_self
    have ht' : ∀ u ∈ ts, 0 ≤ u ∧ D[u.toNat]? = some behind := fun u hu => ht u (List.mem_cons_of_mem _ hu)
    have hlt := (List.getElem?_eq_some_iff.1 hd).1
    have hg : D.getD t.toNat 0 = behind := by simp [List.getD, hd]
    unfold tosM
    rw [if_neg (by omega)]
    by_cases hneg : 0 ≤ d.getD t.toNat 0
    · rw [if_pos hneg, if_pos (by rcases h.2 t.toNat with h | h; omega; rw [h, hg])]
      exact tosM_sub h ht'
    · rw [if_neg hneg]
      exact tosM_sub (h.set hg (by rw [h.1]; exact hlt)) ht'
theorem scanM_sub {p : List Fnc} {D : List Int} : ∀ {xs : List Ins} {i : Nat} {d : List Int} {fresh : Bool}, Sub d D →
    (∀ j x e, xs[j]? = some x → D[i + j]? = some e → popsM p x.op x.a ≤ e ∧ e - popsM p x.op x.a + pushesI x.op ≤ 8 ∧ ∀ t ∈ nextM (i + j) x.op x.a, 0 ≤ t ∧ D[t.toNat]? = some (e - popsM p x.op x.a + pushesI x.op)) →
    i + xs.length ≤ D.length → ∃ d' f', scanM p D.length xs i d fresh = .inr (d', f') ∧ Sub d' D
  | [], i, d, fresh, h, _, _ => ⟨d, fresh, rfl, h⟩
  | x :: r, i, d, fresh, h, hx, hl => by
    have hl' : i + 1 + r.length ≤ D.length := by simp at hl; omega
    have hx' : ∀ j y e, r[j]? = some y → D[i + 1 + j]? = some e → popsM p y.op y.a ≤ e ∧ e - popsM p y.op y.a + pushesI y.op ≤ 8 ∧ ∀ t ∈ nextM (i + 1 + j) y.op y.a, 0 ≤ t ∧ D[t.toNat]? = some (e - popsM p y.op y.a + pushesI y.op) := fun j y e hy he => by
      have := hx (j + 1) y e (by simpa using hy) (by rw [← he]; congr 1; omega)
      rwa [show i + (j + 1) = i + 1 + j by omega] at this
    unfold scanM
    by_cases hneg : d.getD i 0 < 0
    · rw [if_pos hneg]
      exact scanM_sub h hx' hl'
    · rw [if_neg hneg]
      have hi : i < D.length := by simp at hl; omega
      have he : d.getD i 0 = D.getD i 0 := by rcases h.2 i with h | h; omega; exact h
      obtain ⟨h1, h2, h3⟩ := hx 0 x (D.getD i 0) rfl (by rw [Nat.add_zero]; exact getD_get hi)
      rw [he, if_neg (by omega)]
      obtain ⟨d1, f1, ht, hs⟩ := tosM_sub (fresh := fresh) h (by rw [Nat.add_zero] at h3; exact h3)
      rw [ht]
      exact scanM_sub hs hx' hl'
theorem fixM_sub {p : List Fnc} {xs : List Ins} {D : List Int} (h : Run (popsM p) xs D []) : ∀ {k : Nat} {d : List Int}, Sub d D → ∃ d', fixM p xs k d = .inr d'
  | 0, d, _ => ⟨d, rfl⟩
  | k + 1, d, hd => by
    obtain ⟨d1, f1, hs, hd1⟩ := scanM_sub (p := p) (xs := xs) (i := 0) (fresh := false) hd (fun j x e hx he => by
      have := h.ok j x e hx (by rwa [Nat.zero_add] at he)
      rwa [List.append_nil, ← Nat.zero_add j] at this) (by rw [h.len]; omega)
    unfold fixM
    rw [← h.len, hs]
    cases f1 with
    | false => exact ⟨d1, rfl⟩
    | true => exact fixM_sub h hd1
theorem start_get {n j : Nat} : (start n).getD j 0 < 0 ∨ j = 0 ∨ n ≤ j := by
  by_cases h0 : j = 0
  · exact .inr (.inl h0)
  · by_cases hj : j < n
    · left
      have : (start n)[j]? = some (-1) := by
        unfold start initM
        rw [List.getElem?_map, List.getElem?_range hj]
        simp [h0, hj]
      simp [List.getD, this]
    · exact .inr (.inr (by omega))
theorem depthsM_run {p : List Fnc} {xs : List Ins} {D : List Int} (h : Run (popsM p) xs D []) (h0 : D[0]? = some 0) : ∃ d, depthsM p xs = .inr d := by
  refine fixM_sub h ⟨by rw [(start_ok _).1, h.len], fun j => ?_⟩
  rcases start_get (n := xs.length) (j := j) with h | rfl | hj
  · exact .inl h
  · right
    have hl : 0 < xs.length := by have := (List.getElem?_eq_some_iff.1 h0).1; rw [h.len] at this; exact this
    have : (start xs.length)[0]? = some 0 := by
      unfold start initM
      rw [List.getElem?_map, List.getElem?_range hl]; rfl
    simp [List.getD, this, h0]
  · right
    simp [List.getD, List.getElem?_eq_none (show (start xs.length).length ≤ j by rw [(start_ok _).1]; exact hj), List.getElem?_eq_none (show D.length ≤ j by rw [h.len]; exact hj)]
def HeadOk (x : Fnc) : Prop := 0 ≤ x.params ∧ x.params ≤ 3 ∧ x.params ≤ x.locals ∧ x.locals ≤ x.params + 4 ∧ 0 ≤ x.refs ∧ x.refs ≤ x.locals - x.params
def FormOk (np : Nat) (x : Fnc) (i : Ins) : Prop := ∀ n : Nat, (i.op = 15 ∨ i.op = 16 → 0 ≤ i.a ∧ i.a < n) → shapedM np x.locals x.refs n i.op i.a i.b = true
def DoneF (np : Nat) (P : Int → Int → Int) (x : Fnc) : Prop := 1 ≤ x.code.length ∧ x.code.length ≤ 62 ∧ (∀ i ∈ x.code, FormOk np x i) ∧ ∃ D, Run P x.code D [] ∧ D[0]? = some 0
theorem firstNot_none {α : Type} {f : α → Bool} : ∀ {l : List α} {i : Nat}, (∀ x ∈ l, f x = true) → firstNot f l i = none
  | [], i, h => rfl
  | y :: r, i, h => by
    unfold firstNot
    rw [if_pos (h y List.mem_cons_self)]
    exact firstNot_none fun x hx => h x (List.mem_cons_of_mem _ hx)
theorem shapesM_none {np : Nat} : ∀ {l : List Fnc} {i : Nat}, (∀ f ∈ l, ∀ x ∈ f.code, shapedI np f x = true) → shapesM np l i = none
  | [], i, h => rfl
  | y :: r, i, h => by
    unfold shapesM
    rw [firstNot_none (h y List.mem_cons_self)]
    exact shapesM_none fun f hf => h f (List.mem_cons_of_mem _ hf)
theorem flowsM_none {p : List Fnc} : ∀ {l : List Fnc} {i : Nat}, (∀ f ∈ l, ∃ d, depthsM p f.code = .inr d) → flowsM p l i = none
  | [], i, h => rfl
  | y :: r, i, h => by
    unfold flowsM
    obtain ⟨d, hd⟩ := h y List.mem_cons_self
    rw [hd]
    exact flowsM_none fun f hf => h f (List.mem_cons_of_mem _ hf)
theorem check_zero {p : List Fnc} (h1 : 1 ≤ p.length) (h8 : p.length ≤ 8) (hs : ∀ x ∈ p, sizedF x = true) (hf : ∀ f ∈ p, ∀ x ∈ f.code, shapedI p.length f x = true) (hd : ∀ f ∈ p, ∃ d, depthsM p f.code = .inr d) : checkM p = (0, 0, 0) := by
  unfold checkM
  rw [if_neg (by omega), firstNot_none hs]
  simp only
  rw [shapesM_none hf]
  simp only
  rw [flowsM_none hd]
end Go.Proofs.Ytidcpndlloppdaa
set_option linter.unusedVariables false
set_option linter.unusedSimpArgs false
namespace Go.Proofs.Ytidcpndlloppdaa
open Go.RowKit
structure Cur (s : MSt) (E : List Int) : Prop where
  pos : 1 ≤ s.p.length
  few : s.p.length ≤ 5
  f : s.f < s.p.length
  heads : ∀ x ∈ s.p, HeadOk x
  zero : ∀ x, s.p[0]? = some x → x.params = 0
  done : ∀ i x, i < s.f → s.p[i]? = some x → DoneF s.p.length (popsM s.p) x
  todo : ∀ i x, s.f < i → s.p[i]? = some x → x.code = []
  run : ∀ x, s.p[s.f]? = some x → Run (popsM s.p) x.code s.depth (s.now :: E) ∧ ∀ i ∈ x.code, FormOk s.p.length x i
  start : (s.depth ++ [s.now])[0]? = some 0
  now : 0 ≤ s.now ∧ s.now ≤ 8
end Go.Proofs.Ytidcpndlloppdaa
set_option linter.unusedVariables false
set_option linter.unusedSimpArgs false
namespace Go.Proofs.Ytidcpndlloppdaa
open Go.RowKit
theorem nextM_on {op : Int} (h : op ≠ 15 ∧ op ≠ 16 ∧ op ≠ 18 ∧ op ≠ 20) (n : Nat) (a : Int) : nextM n op a = [(n : Int) + 1] := by
  unfold nextM
  rw [if_neg (by omega), if_neg (by omega), if_neg (by omega)]
end Go.Proofs.Ytidcpndlloppdaa
set_option linter.unusedVariables false
set_option linter.unusedSimpArgs false
namespace Go.Proofs.Ytidcpndlloppdaa
open Go.RowKit
section
variable {B g : Nat} {w : World} {s : MSt} {A : Option Addr} {ln cn : Nat} {vF vD : Value} {cs : List Value}
end
end Go.Proofs.Ytidcpndlloppdaa
set_option linter.unusedVariables false
set_option linter.unusedSimpArgs false
namespace Go.Proofs.Ytidcpndlloppdaa
open Go.RowKit
theorem owns_code {w : World} {B : Nat} {v : Value} {xs : List Ins} (h : w.ownsRow B 23 3 v xs.length (xs.flatMap insV)) (hl : xs.length ≤ 1000) : ∃ A c, v = .slice A xs.length c ∧ CodeAt (newW B w) A xs.length xs := by
  rcases h.2 with ⟨rfl, h0⟩ | ⟨g, cap, cur, rfl, hb, hg, _⟩
  · have : xs = [] := List.eq_nil_of_length_eq_zero h0
    subst this
    exact ⟨none, 0, rfl, rfl, Nat.zero_le _, fun i x hi => by simp at hi⟩
  · refine ⟨_, cap, rfl, rfl, len_ok hl, fun i x hi => ⟨_, rfl, ?_⟩⟩
    obtain ⟨h1, h2, h3⟩ := flat_get hi
    have k1 := h.cells (g := g) rfl _ _ h1
    have k2 := h.cells (g := g) rfl _ _ h2
    have k3 := h.cells (g := g) rfl _ _ h3
    simp only [own_add] at k1 k2 k3
    unfold InsE
    simp only [own_add, bx_add, Nat.add_zero, Nat.zero_add]
    exact ⟨newW_cell.2 ⟨k1, hb⟩, newW_cell.2 ⟨k2, hb⟩, newW_cell.2 ⟨k3, hb⟩⟩
end Go.Proofs.Ytidcpndlloppdaa
set_option linter.unusedVariables false
set_option linter.unusedSimpArgs false
namespace Go.Proofs.Ytidcpndlloppdaa
open Go.RowKit
structure Step (n : Nat) (s s' : MSt) : Prop where
  cur : Cur s' []
  f : s'.f = s.f
  p : s'.p.length = s.p.length
  pops : popsM s'.p = popsM s.p
  dep : s'.depth.length ≤ s.depth.length + n
section
variable {B g : Nat} {S : Nat → Prop} {w0 w : World} {s : MSt} {A : Option Addr} {ln cn : Nat} {vF vD : Value} {cs : List Value}
end
end Go.Proofs.Ytidcpndlloppdaa
set_option linter.unusedVariables false
set_option linter.unusedSimpArgs false
namespace Go.Proofs.Ytidcpndlloppdaa
open Go.RowKit
end Go.Proofs.Ytidcpndlloppdaa
set_option linter.unusedVariables false
set_option linter.unusedSimpArgs false
namespace Go.Proofs.Ytidcpndlloppdaa
open Go.RowKit
end Go.Proofs.Ytidcpndlloppdaa
set_option linter.unusedVariables false
set_option linter.unusedSimpArgs false
namespace Go.Proofs.Ytidcpndlloppdaa
open Go.RowKit
section
variable {B g : Nat} {w0 : World} {vF0 vD0 : Value} {cs0 : List Value}
end
end Go.Proofs.Ytidcpndlloppdaa
set_option linter.unusedVariables false
set_option linter.unusedSimpArgs false
namespace Go.Proofs.Ytidcpndlloppdaa
open Go.RowKit
section
variable {w0 : World} {g : Nat} {q2 : Nat}
end
end Go.Proofs.Ytidcpndlloppdaa
