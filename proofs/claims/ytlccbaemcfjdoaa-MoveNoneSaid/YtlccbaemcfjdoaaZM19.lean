/-
  Layer 19: where a stack ends, words fixed, stacks moved: the program's answer and the document's, by one plain rule.
  Conditions: the arena, the words, and the program, lie in memory as told; the stack's frames are one right behind the other.
-/
import Derived.Test.YtlccbaemcfjdoaaZP19
import Derived.Test.YtlccbaemcfjdoaaZX20
import Derived.Test.YtlccbaemcfjdoaaZWM
import Derived.Laws.CopyRow
set_option linter.unusedVariables false
set_option linter.unusedSimpArgs false
set_option maxRecDepth 100000
namespace Go.Proofs.Ytlccbaemcfjdoaa
open Go.RowKit
def stV (s : St) : Value := .agg ⟨[.int .i64 s.lo, .int .i64 s.words, .int .i64 s.top]⟩
section
variable {w : World} {g b : Nat} {mem : List Int} {p : List Fnc} {P : Option Addr} {cap : Nat}
theorem gives73 (ha : ArenaAt w g b mem) (hp : ProgAt w P p.length p) (hs : Sized p) (s : St) : Gives Try.prog 73 [.pointer (some ⟨g, 0, none⟩), .agg ⟨[.slice P p.length cap]⟩, stV s] w (.tuple ⟨[.int .i64 (endM p mem s).1, .int .i64 (endM p mem s).2]⟩) := by
  refine gives_of (V73.sound ?_)
  intro q4 _ q5 _
  generalize hr : endM p mem s = r
  unfold endM at hr
  by_cases ht : s.top = -1
  · rw [if_pos ht] at hr
    subst hr
    rw [if_pos (by simpa using ht)]
    exact ret_is (Below.refl _ _) rfl
  · rw [if_neg ht] at hr
    rw [if_neg (by simpa using ht)]
    refine call_gives (Below.refl _ _) (fun w1 e1 _ => gives42 (ha.ext e1) s.top) fun w1 e1 hw1 => ⟨_, _, _, _, _, _, _, _, _, rfl, ?_⟩
    intro q8 _
    by_cases h0 : (getM mem s.top).2 = 0
    · rw [if_neg (by simpa using h0)] at hr
      rw [if_neg (by simpa using h0)]
      obtain ⟨hin, f0, f1, _⟩ := get_zero ha.wd h0
      have hi := of_decide_eq_true hin
      have hml := ha.len
      by_cases hf : (getM mem s.top).1.f ≥ p.length
      · rw [fnAt_none (.inr hf)] at hr
        subst hr
        rw [if_pos (by simpa using hf)]
        exact ret_is hw1 rfl
      · rw [if_neg (by simpa using hf)]
        obtain ⟨G, q', C, cc, hG, hq', c0, cl1, cl2, c3, hcode⟩ := prog_at (RowAt.keep FncE.kept hp (ext_keeps e1)) (i := (getM mem s.top).1.f.toNat) (by omega)
        rw [fnAt_some (by omega) hG] at hr
        subst hr
        have hGs := hs G (List.mem_of_getElem? hG)
        have hbd := sized_bd hGs
        have hsF := sizeF_eq hGs
        have hah : 7 ≤ aheadM G ∧ aheadM G ≤ 23 := by unfold aheadM; split <;> omega
        refine ⟨q', hq', by omega, by omega, _, c0, _, cl1, _, cl2, _, _, _, c3, ?_⟩
        refine call_gives hw1 (fun w2 e2 _ => gives32 (RowAt.keep InsE.kept hcode (ext_keeps e2)) _ _ _) fun w2 e2 hw2 => ⟨_, rfl, ret_is hw2 ?_⟩
        show Value.tuple ⟨[.int .i64 (IntKind.wrap .i64 (s.top + sizeF G)), .int .i64 0]⟩ = _
        rw [wrap_id (by omega) (by omega)]
    · rw [if_pos (by simpa using h0)] at hr
      subst hr
      rw [if_pos (by simpa using h0)]
      exact ret_is hw1 rfl
theorem fixW_wd {mem : List Int} (h : Wd mem) (hl : mem.length ≤ 1000000000) (at_ by_ : Int) : Wd (fixW mem at_ by_).1 := by
  unfold fixW
  split
  · split
    · exact h
    · split
      · exact h
      · exact h.set _ (by omega)
  · exact h
def fixV (r : List Int × Int × Int) : Value := .tuple ⟨[.int .i64 r.2.1, .int .i64 r.2.2]⟩
theorem puts77 (ha : ArenaAt w g b mem) (at_ : Int) {by_ : Int} (hby : -9223372036854775808 ≤ by_ ∧ by_ ≤ 9223372036854775807) : Puts Try.prog 77 [.pointer (some ⟨g, 0, none⟩), .int .i64 at_, .int .i64 by_] w b (fixV (fixW mem at_ by_)) .u64 51 (fixW mem at_ by_).1 := by
  refine puts_of (V77.sound ?_)
  unfold V77.vc
  have hml := ha.len
  refine call_gives (Below.refl _ _) (fun w1 e1 _ => gives57 (ha.ext e1) at_) fun w1 e1 hw1 => ?_
  have ha1 := ha.ext e1
  unfold loadV fixW
  by_cases hin : inM mem.length at_ 1 = true
  · rw [if_pos hin, if_pos hin]
    have hi := of_decide_eq_true hin
    refine ⟨_, _, rfl, ?_⟩
    have hx := getD_wd ha.wd at_.toNat
    generalize hxx : mem.getD at_.toNat 0 = x at hx
    rw [if_neg (by simp)]
    by_cases h0 : x = 0
    · rw [if_pos (by simpa using h0), if_pos h0]
      exact ret_p (below_chg hw1) rfl ha1.words
    · rw [if_neg (by simpa using h0), if_neg h0]
      refine call_gives hw1 (fun w2 e2 _ => gives93 (ha1.ext e2)) fun w2 e2 hw2 => ⟨_, rfl, ?_⟩
      have ha2 := ha1.ext e2
      rw [wrap_u64 (n := (mem.length : Int)) (by omega) (by omega)]
      by_cases h1 : (mem.length : Int) < x
      · rw [if_pos (by simpa using h1), if_pos (.inl h1)]
        exact ret_p (below_chg hw2) rfl ha2.words
      · rw [if_neg (by simpa using h1), wrap_id (n := x) (by omega) (by omega), wrap_id (n := 1 - x) (by omega) (by omega)]
        by_cases h2 : by_ < 1 - x
        · rw [if_neg (by simpa using h2), if_pos (.inr (.inl (by omega)))]
          exact ret_p (below_chg hw2) rfl ha2.words
        · rw [if_pos (by simpa using h2)]
          refine call_gives hw2 (fun w3 e3 _ => gives93 (ha2.ext e3)) fun w3 e3 hw3 => ⟨_, rfl, ?_⟩
          have ha3 := ha2.ext e3
          rw [wrap_id (n := (mem.length : Int) - x) (by omega) (by omega)]
          by_cases h3 : by_ > (mem.length : Int) - x
          · rw [if_pos (by simpa using h3), if_pos (.inr (.inr (by omega)))]
            exact ret_p (below_chg hw3) rfl ha3.words
          · rw [if_neg (by simpa using h3), if_neg (by omega)]
            rw [wrap_id (n := x + by_) (by omega) (by omega), wrap_u64 (n := x + by_) (by omega) (by omega), wrap_id (n := x + by_ - 1) (by omega) (by omega)]
            refine call_puts hw3.size ha3.words (fun w4 e4 => puts70 (ha3.ext e4) at_ (x + by_)) fun w4 e4 ho4 => ⟨_, rfl, ?_⟩
            have hst : storeV mem at_ (x + by_) = mem.set at_.toNat (x + by_) := by unfold storeV; rw [if_pos hin]
            rw [hst] at ho4
            exact ret_p (e4.chgS (below_chg hw3)) rfl ho4
  · rw [if_neg hin, if_neg hin]
    refine ⟨_, _, rfl, ?_⟩
    rw [if_pos (by simp)]
    exact ret_p (below_chg hw1) rfl ha1.words
theorem gives112 (w : World) (a n c m : Int) : Gives Try.prog 112 [.int .i64 a, .int .i64 n, .int .i64 c, .int .i64 m] w (.bool (overM a n c m)) := by
  refine gives_of (V112.sound ?_)
  have no : ∀ {w'}, overM a n c m = false → Below w.heap.size w w' → Ret w.heap.size w' (IsV w (.bool (overM a n c m)) (.bool false)) := fun hn hw => ret_is hw (by rw [hn])
  refine ⟨3, ?_⟩
  dsimp -zeta only [V112.l0]
  rw [if_pos (by simp)]
  refine ⟨by omega, by omega, ?_⟩
  simp only [Int.toNat_zero, List.getD_cons_zero, wrap_id (n := 0 + 1) (by omega) (by omega), wrap_id (n := 0 + 1 + 1) (by omega) (by omega)]
  by_cases h1 : a < 0
  · rw [if_neg (by simpa using h1)]; exact no (by unfold overM; exact decide_eq_false (by omega)) (Below.refl _ _)
  rw [if_pos (by simpa using h1)]
  by_cases h2 : a > 2305843009213693952
  · rw [if_pos (by simpa using h2)]; exact no (by unfold overM; exact decide_eq_false (by omega)) (Below.refl _ _)
  rw [if_neg (by simpa using h2), if_pos (by simp)]
  refine ⟨by omega, by omega, ?_⟩
  rw [show ([a, c] : List Int).getD (0 + 1 : Int).toNat 0 = c from rfl]
  by_cases h3 : c < 0
  · rw [if_neg (by simpa using h3)]; exact no (by unfold overM; exact decide_eq_false (by omega)) (Below.refl _ _)
  rw [if_pos (by simpa using h3)]
  by_cases h4 : c > 2305843009213693952
  · rw [if_pos (by simpa using h4)]; exact no (by unfold overM; exact decide_eq_false (by omega)) (Below.refl _ _)
  rw [if_neg (by simpa using h4), if_neg (by simp)]
  refine ⟨3, ?_⟩
  dsimp -zeta only [V112.l1]
  rw [if_pos (by simp)]
  refine ⟨by omega, by omega, ?_⟩
  simp only [Int.toNat_zero, List.getD_cons_zero, wrap_id (n := 0 + 1) (by omega) (by omega), wrap_id (n := 0 + 1 + 1) (by omega) (by omega)]
  by_cases h5 : n < 1
  · rw [if_neg (by simpa using h5)]; exact no (by unfold overM; exact decide_eq_false (by omega)) (Below.refl _ _)
  rw [if_pos (by simpa using h5)]
  by_cases h6 : n > 2305843009213693952
  · rw [if_pos (by simpa using h6)]; exact no (by unfold overM; exact decide_eq_false (by omega)) (Below.refl _ _)
  rw [if_neg (by simpa using h6), if_pos (by simp)]
  refine ⟨by omega, by omega, ?_⟩
  rw [show ([n, m] : List Int).getD (0 + 1 : Int).toNat 0 = m from rfl]
  by_cases h7 : m < 1
  · rw [if_neg (by simpa using h7)]; exact no (by unfold overM; exact decide_eq_false (by omega)) (Below.refl _ _)
  rw [if_pos (by simpa using h7)]
  by_cases h8 : m > 2305843009213693952
  · rw [if_pos (by simpa using h8)]; exact no (by unfold overM; exact decide_eq_false (by omega)) (Below.refl _ _)
  rw [if_neg (by simpa using h8), if_neg (by simp)]
  rw [wrap_id (n := c + m) (by omega) (by omega), wrap_id (n := a + n) (by omega) (by omega)]
  by_cases h9 : a < c + m
  · rw [if_pos (decide_eq_true h9)]
    exact ret_is (Below.refl _ _) (congrArg Value.bool (by unfold overM; exact decide_eq_decide.2 (by omega)))
  · rw [if_neg (by simpa using h9)]; exact no (by unfold overM; exact decide_eq_false (by omega)) (Below.refl _ _)
end
end Go.Proofs.Ytlccbaemcfjdoaa
