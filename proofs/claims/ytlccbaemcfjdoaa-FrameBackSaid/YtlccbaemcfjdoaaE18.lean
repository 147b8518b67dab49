/-
  Layer 18: a frame's head read: the program's answer and the document's, by one plain rule.
  Conditions: the arena, and the words, lie in memory as told.
-/
import Derived.Test.YtlccbaemcfjdoaaF18
set_option linter.unusedVariables false
set_option linter.unusedSimpArgs false
namespace Go.Proofs.Ytlccbaemcfjdoaa
open Go.RowKit

structure Hd where
  below : Int
  f : Int
  pc : Int
  mode : Int
  dfd : Bool
  value : Int
  dfs : Int
  ops : Int
def hdV (h : Hd) : Value := .agg ⟨[.int .i64 h.below, .int .i64 h.f, .int .i64 h.pc, .int .i64 h.mode, .bool h.dfd, .int .u64 h.value, .int .i64 h.dfs, .int .i64 h.ops]⟩
def hd0 : Hd := ⟨0, 0, 0, 0, false, 0, 0, 0⟩
def headOf (l : Nat → Int) : Hd := ⟨l 0 - 1, l 1, l 2, l 3 % 4, decide (4 ≤ l 3), l 4, l 5, l 6⟩
/-- May these words be a head's? -/
def headOk (n : Nat) (l : Nat → Int) : Bool := decide (l 0 ≤ n ∧ l 1 ≤ 2147483648 ∧ l 2 ≤ 2147483648 ∧ l 5 ≤ 2147483648 ∧ l 6 ≤ 2147483648 ∧ l 3 ≤ 6 ∧ l 3 ≠ 3)
def wordAt (mem : List Int) (at_ : Int) (i : Nat) : Int := mem.getD (at_.toNat + i) 0
def getM (mem : List Int) (at_ : Int) : Hd × Int :=
  if inM mem.length at_ 7 = true then (if headOk mem.length (wordAt mem at_) = true then (headOf (wordAt mem at_), 0) else (hd0, 6)) else (hd0, 1)
def getV (mem : List Int) (at_ : Int) : Value := .tuple ⟨[hdV (getM mem at_).1, .int .i64 (getM mem at_).2]⟩
/-- Words in a slice. -/
structure WordsAt (w : World) (A : Option Addr) (l c : Nat) (xs : List Int) : Prop where
  nums : Nums .u64 w A l xs
  wd : Wd xs
  cap : l ≤ c
  small : l ≤ 1000000000
theorem WordsAt.keep {w w' : World} {A : Option Addr} {l c : Nat} {xs : List Int} (h : WordsAt w A l c xs) (hw : ∀ q v, w.cell? q = some v → w'.cell? q = some v) : WordsAt w' A l c xs := ⟨RowAt.keep (NumE.kept _) h.nums hw, h.wd, h.cap, h.small⟩
theorem wordAt_wd {mem : List Int} (h : Wd mem) (at_ : Int) (i : Nat) : 0 ≤ wordAt mem at_ i ∧ wordAt mem at_ i < 18446744073709551616 := getD_wd h _
theorem wrap_u64 {n : Int} (h0 : 0 ≤ n) (h1 : n < 18446744073709551616) : IntKind.wrap .u64 n = n := by
  simp only [IntKind.wrap, IntKind.bits, IntKind.signed]
  simp
  omega
/-- The bit for 4 taken away. -/
theorem mask4 {x : Int} (h0 : 0 ≤ x) (h1 : x < 18446744073709551616) : (((BitVec.ofInt 64 x &&& ~~~ BitVec.ofInt 64 4).toNat : Nat) : Int) = ((x.toNat &&& 18446744073709551611 : Nat) : Int) := by
  congr 1
  rw [BitVec.toNat_and, BitVec.toNat_not]
  have e1 : (BitVec.ofInt 64 x).toNat = x.toNat := by
    rw [BitVec.toNat_ofInt]
    omega
  have e2 : (BitVec.ofInt 64 4).toNat = 4 := by decide
  rw [e1, e2]
theorem and_big {n : Nat} (h : 8 ≤ n) (h1 : n < 18446744073709551616) : 8 ≤ n &&& 18446744073709551611 := by
  have h2 : (n &&& 18446744073709551611) / 2 ^ 3 = n / 2 ^ 3 &&& 18446744073709551611 / 2 ^ 3 := Nat.and_div_two_pow
  have h3 : (18446744073709551611 : Nat) / 2 ^ 3 = 2 ^ 61 - 1 := by decide
  rw [h3, Nat.and_two_pow_sub_one_eq_mod, Nat.mod_eq_of_lt (by omega)] at h2
  omega
theorem mode_cases {x : Int} (h0 : 0 ≤ x) (h1 : x < 18446744073709551616) : ∃ m : Int, IntKind.wrap .u64 (((BitVec.ofInt 64 x &&& ~~~ BitVec.ofInt 64 4).toNat : Nat) : Int) = m ∧ ((m > 2 ∧ ¬ (x ≤ 6 ∧ x ≠ 3)) ∨ (m ≤ 2 ∧ (x ≤ 6 ∧ x ≠ 3) ∧ m = x % 4 ∧ (x ≠ m ↔ 4 ≤ x) ∧ 0 ≤ m)) := by
  refine ⟨_, rfl, ?_⟩
  rw [mask4 h0 h1]
  by_cases h8 : x < 8
  · have hc : x = 0 ∨ x = 1 ∨ x = 2 ∨ x = 3 ∨ x = 4 ∨ x = 5 ∨ x = 6 ∨ x = 7 := by omega
    rcases hc with rfl | rfl | rfl | rfl | rfl | rfl | rfl | rfl
    all_goals first
      | (right; decide)
      | (left; decide)
  · left
    have := and_big (n := x.toNat) (by omega) (by omega)
    have hle : x.toNat &&& 18446744073709551611 ≤ x.toNat := Nat.and_le_left
    rw [wrap_u64 (by omega) (by omega)]
    omega
section
variable {w : World} {g b : Nat} {mem : List Int}
theorem word_in {at_ : Int} (hin : inM mem.length at_ 7 = true) {i : Nat} (hi : i < 7) : mem[at_.toNat + i]? = some (wordAt mem at_ i) := by
  have := of_decide_eq_true hin
  exact getD_get (by omega)
theorem get_ok {at_ : Int} (hin : inM mem.length at_ 7 = true) (hok : headOk mem.length (wordAt mem at_) = true) : getV mem at_ = .tuple ⟨[hdV (headOf (wordAt mem at_)), .int .i64 0]⟩ := by
  unfold getV getM; rw [if_pos hin, if_pos hok]
theorem get_form {at_ : Int} (hin : inM mem.length at_ 7 = true) (hok : headOk mem.length (wordAt mem at_) = false) : getV mem at_ = .tuple ⟨[hdV hd0, .int .i64 6]⟩ := by
  unfold getV getM; rw [if_pos hin, hok]; rfl
theorem get_arg {at_ : Int} (hin : inM mem.length at_ 7 = false) : getV mem at_ = .tuple ⟨[hdV hd0, .int .i64 1]⟩ := by
  unfold getV getM; rw [hin]; rfl
theorem gives43 {A : Option Addr} {l c : Nat} (hx : WordsAt w A l c mem) (at_ : Int) : Gives Try.prog 43 [.slice A l c, .int .i64 at_] w (getV mem at_) := by
  refine gives_of (V43.sound ?_)
  intro q4 _
  obtain rfl := hx.nums.len
  have hsm := hx.small
  refine call_gives (Below.refl _ _) (fun w1 _ _ => gives95 hx.nums.small at_ 7) fun w1 e1 hw1 => ⟨_, rfl, ?_⟩
  have heq : allM mem.length at_ 7 = inM mem.length at_ 7 := by unfold allM inM; exact decide_eq_decide.2 (by omega)
  rw [heq]
  cases hin : inM mem.length at_ 7 with
  | false =>
    rw [if_pos (by simp)]
    exact ret_is hw1 (get_arg hin).symm
  | true =>
    rw [if_neg (by simp)]
    have hi := of_decide_eq_true hin
    have hcap := hx.cap
    rw [wrap_id (n := at_ + 7) (by omega) (by omega)]
    refine ⟨by omega, by omega, by omega, by omega, ?_⟩
    have hlt : (at_ + 7).toNat - at_.toNat = 7 := by omega
    have hne : ¬ c = at_.toNat := by omega
    have hx1 := hx.keep (ext_keeps e1)
    obtain ⟨a, rfl⟩ : ∃ a, A = some a := by
      obtain ⟨_, p, _, hp, _⟩ := hx.nums.at (i := 0) (by omega)
      exact ⟨p, hp⟩
    rw [if_neg hne, hlt]
    have rd : ∀ i, i < 7 → w1.cell? ((a.add at_.toNat).add i) = some (.int .u64 (wordAt mem at_ i)) := fun i hi => by
      obtain ⟨p, hp, he⟩ := hx1.nums.get _ _ (word_in hin hi)
      cases hp
      rw [adr_add]
      simpa [NumE] using he
    have hw0 := wordAt_wd hx.wd at_ 0
    have hw3 := wordAt_wd hx.wd at_ 3
    have bad : headOk mem.length (wordAt mem at_) = false → Ret w.heap.size w1 (IsV w (getV mem at_) (.tuple ⟨[hdV hd0, .int .i64 6]⟩)) := fun h => ret_is hw1 (get_form hin h).symm
    refine ⟨_, rfl, by decide, by decide, _, rd 0 (by decide), ?_⟩
    rw [wrap_u64 (n := (mem.length : Int)) (by omega) (by omega)]
    by_cases t0 : wordAt mem at_ 0 > mem.length
    · rw [if_neg (by simpa using t0)]; exact bad (by unfold headOk; exact decide_eq_false (by omega))
    rw [if_pos (by simpa using t0)]
    refine ⟨_, rfl, by decide, by decide, _, rd 1 (by decide), ?_⟩
    by_cases t1 : wordAt mem at_ 1 > 2147483648
    · rw [if_neg (by simpa using t1)]; exact bad (by unfold headOk; exact decide_eq_false (by omega))
    rw [if_pos (by simpa using t1)]
    refine ⟨_, rfl, by decide, by decide, _, rd 2 (by decide), ?_⟩
    by_cases t2 : wordAt mem at_ 2 > 2147483648
    · rw [if_neg (by simpa using t2)]; exact bad (by unfold headOk; exact decide_eq_false (by omega))
    rw [if_pos (by simpa using t2)]
    refine ⟨_, rfl, by decide, by decide, _, rd 5 (by decide), ?_⟩
    by_cases t5 : wordAt mem at_ 5 > 2147483648
    · rw [if_neg (by simpa using t5)]; exact bad (by unfold headOk; exact decide_eq_false (by omega))
    rw [if_pos (by simpa using t5)]
    refine ⟨_, rfl, by decide, by decide, _, rd 6 (by decide), ?_⟩
    by_cases t6 : wordAt mem at_ 6 > 2147483648
    · rw [if_neg (by simpa using t6)]; exact bad (by unfold headOk; exact decide_eq_false (by omega))
    rw [if_pos (by simpa using t6)]
    refine ⟨_, rfl, by decide, by decide, _, rd 3 (by decide), ?_⟩
    by_cases t3 : wordAt mem at_ 3 > 6
    · rw [if_neg (by simpa using t3)]; exact bad (by unfold headOk; exact decide_eq_false (by omega))
    rw [if_pos (by simpa using t3)]
    refine ⟨_, rfl, by decide, by decide, _, rd 3 (by decide), ?_⟩
    by_cases t3' : wordAt mem at_ 3 = 3
    · rw [if_pos (by simpa using t3')]; exact bad (by unfold headOk; exact decide_eq_false (by omega))
    rw [if_neg (by simpa using t3')]
    refine ⟨_, rfl, by decide, by decide, _, rd 0 (by decide), _, rfl, by decide, by decide, _, rd 1 (by decide), _, rfl, by decide, by decide, _, rd 2 (by decide), _, rfl, by decide, by decide, _, rd 3 (by decide), by decide, _, rfl, by decide, by decide, _, rd 3 (by decide),
      _, rfl, by decide, by decide, _, rd 4 (by decide), _, rfl, by decide, by decide, _, rd 5 (by decide), _, rfl, by decide, by decide, _, rd 6 (by decide), ret_is hw1 ?_⟩
    have h1' := wordAt_wd hx.wd at_ 1
    have h2' := wordAt_wd hx.wd at_ 2
    have h5' := wordAt_wd hx.wd at_ 5
    have h6' := wordAt_wd hx.wd at_ 6
    have hok : headOk mem.length (wordAt mem at_) = true := by unfold headOk; exact decide_eq_true (by omega)
    rw [get_ok hin hok]
    unfold hdV headOf
    have htm : Int.tmod (wordAt mem at_ 3) 4 = wordAt mem at_ 3 % 4 := Int.tmod_eq_emod_of_nonneg hw3.1
    rw [htm, wrap_id (n := wordAt mem at_ 0) (by omega) (by omega), wrap_id (n := wordAt mem at_ 0 - 1) (by omega) (by omega), wrap_id (n := wordAt mem at_ 1) (by omega) (by omega), wrap_id (n := wordAt mem at_ 2) (by omega) (by omega),
      wrap_id (n := wordAt mem at_ 3 % 4) (by omega) (by omega), wrap_id (n := wordAt mem at_ 5) (by omega) (by omega), wrap_id (n := wordAt mem at_ 6) (by omega) (by omega)]
theorem gives42 (h : ArenaAt w g b mem) (at_ : Int) : Gives Try.prog 42 [.pointer (some ⟨g, 0, none⟩), .int .i64 at_] w (getV mem at_) := by
  refine gives_of (V42.sound ?_)
  intro q4 _
  have hl := h.len
  refine call_slice (Below.refl _ _) h fun A l c w1 e1 hw1 _ hn _ => ?_
  unfold errV
  refine ⟨_, _, _, _, rfl, ?_⟩
  cases hin : inM mem.length at_ 7 with
  | false =>
    simp only [Bool.false_eq_true, if_false]
    rw [if_pos (by simp)]
    exact ret_is hw1 (get_arg hin).symm
  | true =>
    simp only [if_true]
    rw [if_neg (by simp)]
    rw [hin, if_pos rfl] at hn
    have hls : l = 7 := by rw [← hn.len, sub_len hin]; rfl
    subst hls
    obtain ⟨a, rfl⟩ : ∃ a, A = some a := by
      obtain ⟨_, p, _, hp, _⟩ := hn.at (i := 0) (by omega)
      exact ⟨p, hp⟩
    have rd1 : ∀ i, i < 7 → w1.cell? (a.add i) = some (.int .u64 (wordAt mem at_ i)) := fun i hi => by
      obtain ⟨x, p, hx, hp, he⟩ := hn.at hi
      cases hp
      have h1 := (sub_get hx).1
      rw [word_in hin hi] at h1
      cases h1
      exact he
    have hw0 := wordAt_wd h.wd at_ 0
    have hw3 := wordAt_wd h.wd at_ 3
    refine ⟨a, rfl, by decide, by decide, _, rd1 3 (by decide), a, rfl, by decide, by decide, _, rd1 0 (by decide), ?_⟩
    refine call_gives hw1 (fun w2 e2 _ => gives93 ((h.ext e1).ext e2)) fun w2 e2 hw2 => ⟨_, rfl, e2.cell (rd1 0 (by decide)), ?_⟩
    have rd : ∀ i, i < 7 → w2.cell? (a.add i) = some (.int .u64 (wordAt mem at_ i)) := fun i hi => e2.cell (rd1 i hi)
    rw [wrap_u64 (n := (mem.length : Int)) (by omega) (by omega)]
    have bad : headOk mem.length (wordAt mem at_) = false → Ret w.heap.size w2 (IsV w (getV mem at_) (.tuple ⟨[hdV hd0, .int .i64 6]⟩)) := fun h => ret_is hw2 (get_form hin h).symm
    by_cases t0 : wordAt mem at_ 0 > mem.length
    · rw [if_neg (by simpa using t0)]; exact bad (by unfold headOk; exact decide_eq_false (by omega))
    rw [if_pos (by simpa using t0)]
    obtain ⟨m, hm, hcase⟩ := mode_cases hw3.1 hw3.2
    rw [hm]
    rcases hcase with ⟨m1, m2⟩ | ⟨m1, m2, m3, m4, m5⟩
    · rw [if_pos (by simpa using m1)]; exact bad (by unfold headOk; exact decide_eq_false (fun h => m2 ⟨h.2.2.2.2.2.1, h.2.2.2.2.2.2⟩))
    rw [if_neg (by simpa using m1)]
    refine ⟨5, ?_⟩
    have h1' := wordAt_wd h.wd at_ 1
    have h2' := wordAt_wd h.wd at_ 2
    have h5' := wordAt_wd h.wd at_ 5
    have h6' := wordAt_wd h.wd at_ 6
    have w01 : IntKind.wrap .i64 ((0 : Int) + 1) = 1 := by decide
    have w12 : IntKind.wrap .i64 ((1 : Int) + 1) = 2 := by decide
    have w23 : IntKind.wrap .i64 ((2 : Int) + 1) = 3 := by decide
    have w34 : IntKind.wrap .i64 ((3 : Int) + 1) = 4 := by decide
    dsimp -zeta only [V42.l0]
    rw [if_pos (by decide)]
    refine ⟨by decide, by decide, a, rfl, by decide, by decide, _, rd 1 (by decide), ?_⟩
    by_cases t1 : wordAt mem at_ 1 > 2147483648
    · rw [if_pos (by simpa using t1)]; exact bad (by unfold headOk; exact decide_eq_false (by omega))
    rw [if_neg (by simpa using t1), w01, if_pos (by decide)]
    refine ⟨by decide, by decide, a, rfl, by decide, by decide, _, rd 2 (by decide), ?_⟩
    by_cases t2 : wordAt mem at_ 2 > 2147483648
    · rw [if_pos (by simpa using t2)]; exact bad (by unfold headOk; exact decide_eq_false (by omega))
    rw [if_neg (by simpa using t2), w12, if_pos (by decide)]
    refine ⟨by decide, by decide, a, rfl, by decide, by decide, _, rd 5 (by decide), ?_⟩
    by_cases t5 : wordAt mem at_ 5 > 2147483648
    · rw [if_pos (by simpa using t5)]; exact bad (by unfold headOk; exact decide_eq_false (by omega))
    rw [if_neg (by simpa using t5), w23, if_pos (by decide)]
    refine ⟨by decide, by decide, a, rfl, by decide, by decide, _, rd 6 (by decide), ?_⟩
    by_cases t6 : wordAt mem at_ 6 > 2147483648
    · rw [if_pos (by simpa using t6)]; exact bad (by unfold headOk; exact decide_eq_false (by omega))
    rw [if_neg (by simpa using t6), w34, if_neg (by decide)]
    refine ⟨a, rfl, by decide, by decide, _, rd 0 (by decide), a, rfl, by decide, by decide, _, rd 1 (by decide), a, rfl, by decide, by decide, _, rd 2 (by decide), a, rfl, by decide, by decide, _, rd 3 (by decide), a, rfl, by decide, by decide, _, rd 4 (by decide), a, rfl, by decide, by decide, _, rd 5 (by decide), a, rfl, by decide, by decide, _, rd 6 (by decide), ret_is hw2 ?_⟩
    have hok : headOk mem.length (wordAt mem at_) = true := by unfold headOk; exact decide_eq_true (by omega)
    rw [get_ok hin hok]
    unfold hdV headOf
    have hbool : (wordAt mem at_ 3 != m) = decide (4 ≤ wordAt mem at_ 3) := by
      by_cases h4 : 4 ≤ wordAt mem at_ 3
      · rw [decide_eq_true h4]; simpa using m4.2 h4
      · rw [decide_eq_false h4]; simpa using fun e => h4 (m4.1 e)
    rw [hbool, wrap_id (n := wordAt mem at_ 0) (by omega) (by omega), wrap_id (n := wordAt mem at_ 0 - 1) (by omega) (by omega), wrap_id (n := wordAt mem at_ 1) (by omega) (by omega), wrap_id (n := wordAt mem at_ 2) (by omega) (by omega),
      wrap_id (n := m) (by omega) (by omega), wrap_id (n := wordAt mem at_ 5) (by omega) (by omega), wrap_id (n := wordAt mem at_ 6) (by omega) (by omega), m3]
end
end Go.Proofs.Ytlccbaemcfjdoaa
