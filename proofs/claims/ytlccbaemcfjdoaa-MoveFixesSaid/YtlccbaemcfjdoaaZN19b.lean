/-
  Layer 19: the law's functions MoveFixes, MoveRefuses return true.
  Conditions: the numbers, and the words, lie in memory as told.
-/
import Derived.Test.YtlccbaemcfjdoaaZN19
import Derived.Test.YtlccbaemcfjdoaaZW23
import Derived.Test.YtlccbaemcfjdoaaZW24
set_option linter.unusedVariables false
set_option linter.unusedSimpArgs false
set_option maxRecDepth 100000
namespace Go.Proofs.Ytlccbaemcfjdoaa
open Go.RowKit
theorem l1_23 {w0 : World} {g b : Nat} {at_ by_ u : Int} (hbB : w0.heap.size ≤ b) (hby : -9223372036854775808 ≤ by_ ∧ by_ ≤ 9223372036854775807) (hu : 0 ≤ u ∧ u < 18446744073709551616) : ∀ (k i : Nat) (w : World) (M : List Int) (A : Option Addr) (c : Nat), 2 < i + k → i ≤ 2 → Below w0.heap.size w0 w → ArenaAt w g b M → M.length = 128 →
    (∃ gm, A = some ⟨gm, 0, none⟩ ∧ gm ≠ b ∧ gm ≠ g ∧ w.ownsRow w0.heap.size 51 1 (.slice A 128 c) 128 (M.map (.int .u64))) →
      V23.l1 w0.heap.size (IsV w0 (.bool true)) k at_ by_ u ⟨g, 0, none⟩ A 128 c i w := by
  intro k
  induction k with
  | zero => intros; omega
  | succ k ih =>
    intro i w M A c hk hi hw ha hMl hA
    obtain ⟨gm, rfl, hgb, hgg, ho⟩ := hA
    dsimp -zeta only [V23.l1]
    by_cases hlt : i < 2
    · have hlt' : (i : Int) < 2 := by omega
      rw [if_pos (decide_eq_true hlt')]
      have hwi : IntKind.wrap .i64 ((i : Int) + 1) = ((i + 1 : Nat) : Int) := by rw [wrap_id (by omega) (by omega)]; rfl
      rw [hwi]
      refine call_puts hw.size ha.words (fun w1 e1 => puts77 (ha.ext e1) at_ hby) fun w1 e1 ho1 => ⟨_, _, rfl, ?_⟩
      have hw1 := e1.after (fun k hk => by subst hk; exact hbB) hw
      have hFw := fixW_wd ha.wd (by omega) at_ by_
      have hFl := fixW_len M at_ by_
      have ha1 := ha.turned e1 ho1 hFl hFw
      have hor1 : w1.ownsRow w0.heap.size 51 1 (.slice (some ⟨gm, 0, none⟩) 128 c) 128 (M.map (.int .u64)) := e1.owns ho fun k hk e => by
        have hk2 : gm = k := Option.some.inj hk
        omega
      have hm1 : WordsAt w1 (some ⟨gm, 0, none⟩) 128 c M := by
        obtain ⟨A', c', hv, hN, _⟩ := owns_nums hor1 (by simp only [maxLen]; omega)
        cases hv
        exact ⟨hN, ha.wd, (owns_cap hor1).2, by omega⟩
      refine call_yieldsX (Q := fun w2 => FixQ (some ⟨gm, 0, none⟩) c M (fixW M at_ by_) w2) hw1.size (fun w2 e2 => yields78 (hm1.keep (ext_keeps e2)) (by omega) at_ hby) fun w2 v w3 w4 hsz hQ hnew e4 => ?_
      obtain ⟨A2, c2, rfl, _, hor⟩ := hQ
      rw [hMl] at hor ⊢
      refine ⟨A2, _, c2, _, _, rfl, ?_⟩
      rw [if_pos (by simp), if_pos (by simp)]
      have hw4 := e4.after hw1
      have ha4 := ha1.ext e4
      obtain ⟨g2, hA2, hg2b, hg2g, ho4⟩ : ∃ g2, A2 = some ⟨g2, 0, none⟩ ∧ g2 ≠ b ∧ g2 ≠ g ∧ w4.ownsRow w0.heap.size 51 1 (.slice A2 128 c2) 128 ((fixW M at_ by_).1.map (.int .u64)) := by
        rcases hor with ⟨rfl, rfl, heq⟩ | ⟨g2, rfl, ho2⟩
        · refine ⟨gm, rfl, hgb, hgg, ?_⟩
          rw [heq]
          exact e4.owns hor1
        · have h1 := lt_of_some ha1.head
          have h2 := lt_of_some ha1.words
          have hg2 := (ho2.lt g2 rfl).1
          have hw1s := hw1.size
          refine ⟨g2, rfl, by omega, by omega, ?_⟩
          exact owns_base (B := w2.heap.size) (owns_other ho2 fun k hk => hnew k (by have hk2 : g2 = k := Option.some.inj hk; omega)) (by omega)
      subst hA2
      obtain ⟨A', c', hv, hN4, _⟩ := owns_nums ho4 (by simp only [maxLen]; omega)
      cases hv
      refine call_gives hw4 (fun w5 e5 _ => gives46 (ha4.ext e5) (RowAt.keep (NumE.kept _) hN4 (ext_keeps e5))) fun w5 e5 hw5 => ⟨_, rfl, ?_⟩
      rw [if_neg (by simp)]
      have ha5 := ha4.ext e5
      have ho5 := e5.owns ho4
      refine call_gives hw5 (fun w6 _ _ => gives79 (by simp only [maxLen]; omega) at_ 1) fun w6 e6 hw6 => ⟨_, rfl, ?_⟩
      have ha6 := ha5.ext e6
      have ho6 := e6.owns ho5
      by_cases hin : inM 128 at_ 1 = true
      · rw [if_pos hin]
        have hi2 := of_decide_eq_true hin
        obtain ⟨j, hj⟩ : ∃ j : Nat, at_ = j := ⟨at_.toNat, by omega⟩
        subst hj
        have hjl : j < 128 := by omega
        have hget : ((fixW M (j : Int) by_).1.map (Value.int .u64))[j]? = some (.int .u64 ((fixW M (j : Int) by_).1[j]'(by omega))) := by rw [List.getElem?_map, List.getElem?_eq_getElem (by omega)]; rfl
        have ht : 0 ≤ Int.tmod u 200 ∧ Int.tmod u 200 < 200 := ⟨Int.tmod_nonneg _ hu.1, Int.tmod_lt_of_pos _ (by omega)⟩
        generalize Int.tmod u 200 = v at ht ⊢
        refine ⟨by omega, _, rfl, by omega, by omega, ?_⟩
        simp only [own_add, bx_add, Nat.add_zero, Nat.zero_add, Int.toNat_natCast]
        refine ⟨⟨_, owns_cell ho6 hget⟩, owns_frozen ho6 j, ?_⟩
        have hset := owns_set ho6 j (.int .u64 v) (by omega)
        rw [← List.map_set] at hset
        have hw7 : Below w0.heap.size w0 (w6.setCell ⟨g2, j, none⟩ (.int .u64 v)) := hw6.setCell (ho6.lt g2 rfl).1 _
        have ha7 : ArenaAt (w6.setCell ⟨g2, j, none⟩ (.int .u64 v)) g b (fixW M (j : Int) by_).1 := ⟨by rw [at_other (Ne.symm hg2g)]; exact ha6.head, by unfold OwnI; rw [at_other (Ne.symm hg2b)]; exact ha6.words, ha6.wd, ha6.len⟩
        generalize w6.setCell ⟨g2, j, none⟩ (.int .u64 v) = w7 at *
        refine ⟨by omega, ?_⟩
        refine call_puts hw7.size ha7.words (fun w8 e8 => puts70 (ha7.ext e8) j v) fun w8 e8 ho8 => ⟨_, rfl, ?_⟩
        have hin' : inM (fixW M (j : Int) by_).1.length (j : Int) 1 = true := by rw [hFl, hMl]; exact hin
        rw [if_neg (by rw [hin']; simp)]
        have hst : storeV (fixW M (j : Int) by_).1 (j : Int) v = (fixW M (j : Int) by_).1.set j v := by unfold storeV; rw [if_pos hin', Int.toNat_natCast]
        rw [hst] at ho8
        refine ih (i + 1) w8 ((fixW M (j : Int) by_).1.set j v) _ c2 (by omega) (by omega) (e8.after (fun k hk => by subst hk; exact hbB) hw7) (ha7.turned e8 ho8 (by simp) (hFw.set _ (by omega))) (by simp [hFl, hMl]) ⟨g2, rfl, hg2b, hg2g, e8.owns hset fun k hk e => by have hk2 : g2 = k := Option.some.inj hk; omega⟩
      · rw [if_neg hin]
        exact ih (i + 1) w6 (fixW M at_ by_).1 _ c2 (by omega) (by omega) hw6 ha6 (by rw [hFl, hMl]) ⟨g2, rfl, hg2b, hg2g, ho6⟩
    · have hlt' : ¬ (i : Int) < 2 := by omega
      rw [if_neg (by simpa using hlt')]
      exact call_gives hw (fun w1 _ _ => gives72 w1) fun w1 _ hw1 => ⟨_, rfl, ret_is hw1 rfl⟩
theorem gives23 {w : World} {A : Option Addr} {l c : Nat} {ws : List Int} (hws : Nums .u64 w A l ws) (hwd : Wd ws) (at_ : Int) {by_ u : Int} (hby : -9223372036854775808 ≤ by_ ∧ by_ ≤ 9223372036854775807) (hu : 0 ≤ u ∧ u < 18446744073709551616) :
    Gives Try.prog 23 [.slice A l c, .int .i64 at_, .int .i64 by_, .int .u64 u] w (.bool true) := by
  refine gives_of (V23.sound ?_)
  unfold V23.vc
  refine call_laid (pages := 2) (by decide) (Below.refl _ _) hws hwd fun g b m mem w1 e1 hw1 ha hm hl hg hb hm0 hmb => ⟨_, _, _, _, rfl, ?_⟩
  show V23.b0 _ _ at_ by_ u ⟨g, 0, none⟩ (some ⟨m, 0, none⟩) 128 128 w1
  unfold V23.b0
  refine ⟨3, ?_⟩
  have hgm : m ≠ g := fun e => by
    subst e
    have h1 := ha.head
    unfold OwnI at hm
    rw [hm] at h1
    simp only [Option.some.injEq, Obj.cells.injEq] at h1
    exact absurd h1.2.1 (by decide)
  exact l1_23 hb hby hu 3 0 w1 mem _ 128 (by omega) (by omega) hw1 ha (by omega) ⟨m, rfl, hmb, hgm, owns_of (k := .u64) hm (by omega) hm0 (by simp only [maxLen]; omega)⟩
section
variable {w : World} {p : List Fnc} {mem0 : List Int} {lo : Int} {xs : List Frm} {P FA TA : Option Addr} {g b m : Nat}
end
section
variable {w0 : World} {p : List Fnc} {mem0 : List Int} {lo : Int} {xs : List Frm} {P FA TA : Option Addr} {g b m pc fc tc : Nat}
end
end Go.Proofs.Ytlccbaemcfjdoaa
