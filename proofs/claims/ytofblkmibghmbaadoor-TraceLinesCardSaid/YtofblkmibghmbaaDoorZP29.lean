/-
  Layer 29, plain: texts of traces, one trace ahead of another, traces by numbers.
  Conditions: none.
-/
import Derived.Test.YtofblkmibghmbaaDoorZF7
set_option linter.unusedVariables false
set_option linter.unusedSimpArgs false
set_option maxRecDepth 20000
namespace Go.Proofs.YtofblkmibghmbaaDoor
open Ieee
theorem itoa_bytes (n : Int) : ∀ c ∈ Lib.itoa n, c.toNat = 45 ∨ 48 ≤ c.toNat := by
  intro c hc
  unfold Lib.itoa at hc
  split at hc
  · rcases List.mem_cons.1 hc with rfl | h
    · exact .inl rfl
    · exact .inr (dec_all _ _ h).1
  · exact .inr (dec_all _ _ hc).1
theorem hxd_b : ∀ a : Fin 16, 48 ≤ (hxd a.val).toNat := by decide
theorem hexL_bytes : ∀ (k u : Nat), ∀ c ∈ hexL k u, 48 ≤ c.toNat
  | 0, u, c, h => by cases h
  | k + 1, u, c, h => by
    simp only [hexL, List.mem_append, List.mem_singleton] at h
    rcases h with h | rfl
    · exact hexL_bytes k _ c h
    · exact hxd_b ⟨u % 16, Nat.mod_lt _ (by omega)⟩
theorem text_bytes (a : Nat) : ∀ c ∈ textF a, c.toNat ≠ 10 := by
  intro c hc
  unfold textF at hc
  split at hc
  · revert c; decide
  split at hc
  · revert c; decide
  split at hc
  · revert c; decide
  split at hc
  · revert c; decide
  split at hc
  · have := itoa_bytes _ c hc; omega
  · rcases List.mem_cons.1 hc with rfl | h
    · decide
    rcases List.mem_cons.1 h with rfl | h
    · decide
    · have := hexL_bytes _ _ c h; omega
theorem dec_len : ∀ (k u : Nat), u < 10 ^ (k + 1) → (Lib.decDigits u).length ≤ k + 1
  | k, u, h => by
    by_cases h1 : u < 10
    · rw [Lib.decDigits, dif_pos h1]; simp
    · rw [Lib.decDigits, dif_neg h1]
      cases k with
      | zero => simp at h; omega
      | succ k =>
        have := dec_len k (u / 10) (by rw [Nat.pow_succ 10 (k + 1)] at h; omega)
        simp; omega
theorem itoa_len {n : Int} (h : n.natAbs < 10 ^ 20) : (Lib.itoa n).length ≤ 21 := by
  unfold Lib.itoa
  split
  · have := dec_len 19 n.natAbs h; simp; omega
  · have := dec_len 19 n.toNat (by omega); omega
theorem text_len {a : Nat} (ha : a < 2 * SW) : (textF a).length ≤ 24 := by
  unfold textF
  split
  · decide
  split
  · decide
  split
  · decide
  split
  · decide
  rename_i hz
  split
  · rename_i hw
    obtain ⟨z, h1, _, _, h2⟩ := whole_int ha hw hz
    rw [h2]
    have h3 : 2 * BN < 10 ^ 20 := by decide
    have := itoa_len (n := z) (by omega)
    omega
  · simp [hexL_len]
structure Mk where
  k : Int
  w : Nat
def wordM (k : Int) : List UInt8 :=
  if k = 1 then [111, 117, 116] else if k = 2 then [103, 111, 116] else if k = 3 then [100, 111, 110, 101] else if k = 4 then [102, 101, 108, 108] else if k = 5 then [111, 111, 109] else if k = 6 then [108, 105, 109, 105, 116] else [63]
def moreM (k : Int) : Bool := decide (1 ≤ k ∧ k ≤ 4)
def tailM (m : Mk) : List UInt8 := if moreM m.k = true then 32 :: textF m.w else []
def lineM (m : Mk) : List UInt8 := wordM m.k ++ tailM m ++ [10]
def traceM (l : List Mk) : List UInt8 := l.flatMap lineM
theorem traceM_app (a b : List Mk) : traceM (a ++ b) = traceM a ++ traceM b := by simp [traceM, List.flatMap_append]
theorem traceM_snoc (a : List Mk) (m : Mk) : traceM (a ++ [m]) = traceM a ++ lineM m := by rw [traceM_app]; simp [traceM]
theorem wordM_facts (k : Int) : (wordM k).length ≤ 5 ∧ ∀ c ∈ wordM k, c.toNat ≠ 10 := by
  unfold wordM
  repeat' split
  all_goals decide
theorem lineM_len {m : Mk} (h : m.w < 2 * SW) : (lineM m).length ≤ 31 := by
  have h1 := (wordM_facts m.k).1
  have h2 := text_len h
  unfold lineM tailM
  split <;> simp <;> omega
def OkMs (l : List Mk) : Prop := ∀ m ∈ l, m.w < 2 * SW
theorem traceM_len : ∀ {l : List Mk}, OkMs l → (traceM l).length ≤ 31 * l.length
  | [], _ => by simp [traceM]
  | m :: l, h => by
    have h1 := lineM_len (h m List.mem_cons_self)
    have h2 := traceM_len (l := l) fun x hx => h x (List.mem_cons_of_mem _ hx)
    have e : traceM (m :: l) = lineM m ++ traceM l := by simp [traceM]
    rw [e]; simp; omega
theorem lineM_count (m : Mk) : (lineM m).count 10 = 1 := by
  have h1 : (wordM m.k).count 10 = 0 := List.count_eq_zero.2 fun h => (wordM_facts m.k).2 _ h rfl
  have h2 : (tailM m).count 10 = 0 := by
    refine List.count_eq_zero.2 fun h => ?_
    unfold tailM at h
    split at h
    · rcases List.mem_cons.1 h with h | h
      · exact absurd h (by decide)
      · exact text_bytes _ _ h rfl
    · cases h
  unfold lineM
  rw [List.count_append, List.count_append, h1, h2]; rfl
theorem traceM_count : ∀ l : List Mk, (traceM l).count 10 = l.length
  | [] => rfl
  | m :: l => by
    have e : traceM (m :: l) = lineM m ++ traceM l := by simp [traceM]
    rw [e, List.count_append, lineM_count, traceM_count l]; simp; omega
def eqM (a b : Mk) : Bool := a.k == b.k && a.w == b.w
theorem eqM_iff (a b : Mk) : eqM a b = true ↔ a = b := by
  cases a; cases b
  simp [eqM]
def eqMs : List Mk → List Mk → Bool
  | [], [] => true
  | a :: l, b :: m => eqM a b && eqMs l m
  | _, _ => false
theorem eqMs_iff : ∀ (l m : List Mk), eqMs l m = true ↔ l = m
  | [], [] => by simp [eqMs]
  | [], _ :: _ => by simp [eqMs]
  | _ :: _, [] => by simp [eqMs]
  | a :: l, b :: m => by simp [eqMs, eqM_iff, eqMs_iff l m]
def begM (a b : List Mk) : Bool := decide (a.length ≤ b.length) && eqMs a (b.take a.length)
theorem begM_true {a b : List Mk} (h : a = b.take a.length) : begM a b = true := by
  have hl : a.length ≤ b.length := by have := congrArg List.length h; simp at this; omega
  unfold begM
  rw [decide_eq_true hl, (eqMs_iff _ _).2 h]; rfl
theorem beg_nil (c : List Mk) : begM [] c = true := begM_true (by simp)
end Go.Proofs.YtofblkmibghmbaaDoor
