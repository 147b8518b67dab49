/-
  Layer 18: the law's function FramePuts returns true.
  Conditions: the words lie in memory as told.
-/
import Derived.Test.YtlccbaemcfjdoaaZT18
import Derived.Test.YtlccbaemcfjdoaaZW9
set_option linter.unusedVariables false
set_option linter.unusedSimpArgs false
namespace Go.Proofs.Ytlccbaemcfjdoaa
open Go.RowKit
theorem own_words {w : World} {m : Nat} {mem : List Int} {n : Nat} (h : OwnI w m .u64 51 mem) (hw : Wd mem) (hl : mem.length = n) (hn : n ≤ 16384) : WordsAt w (some ⟨m, 0, none⟩) n n mem := by
  subst hl
  exact ⟨h.nums (by simp only [maxLen]; omega), hw, Nat.le_refl _, by omega⟩
theorem ownws_words {w : World} {B : Nat} {v : Value} {xs : List Int} (h : OwnWs w B v xs) (hw : Wd xs) (hl : xs.length ≤ 1000000000) : ∃ A c, v = .slice A xs.length c ∧ WordsAt w A xs.length c xs ∧ ∀ p, A = some p → B ≤ p.block := by
  obtain ⟨A, c, hv, hn, hb⟩ := ownws_nums h (by omega)
  subst hv
  exact ⟨A, c, rfl, ⟨hn, hw, (owns_cap h).2, hl⟩, hb⟩
theorem call_rput {w0 w : World} {bs : List Nat} {A : Option Addr} {l c : Nat} {mem : List Int} {K : Value → World → Prop} (hB : w0.heap.size ≤ w.heap.size) (hx : WordsAt w A l c mem) (at_ : Int) {hd : Hd} (hv : 0 ≤ hd.value ∧ hd.value < 18446744073709551616)
    (hk : ∀ A' c' w', Ext w0.heap.size w w' → WordsAt w' A' l c' (putM mem at_ hd) → K (.tuple ⟨[.slice A' l c', .int .i64 (putE mem.length at_ hd)]⟩) w') : CallK Try.prog 45 [.slice A l c, .int .i64 at_, hdV hd] w0.heap.size w bs K := by
  obtain rfl := hx.nums.len
  refine call_yieldsX (Q := RPutQ A mem.length c mem at_ hd) hB (fun w1 e1 => yields45 (hx.keep (ext_keeps e1)) at_ hv) fun w1 u w2 w' hs hQ hnew he => ?_
  unfold RPutQ at hQ
  have hsm := hx.small
  by_cases hp : putOk mem.length at_ hd = true
  · rw [if_pos hp] at hQ
    obtain ⟨v, rfl, ho⟩ := hQ
    have ho' : OwnWs w' w1.heap.size v (putM mem at_ hd) := owns_other ho fun j hj => hnew j (ho.lt j hj).1
    have hl := putM_len mem at_ hd
    obtain ⟨A', c', rfl, hw, _⟩ := ownws_words ho' (putM_wd hx.wd at_ hv hsm) (by omega)
    rw [hl] at hw
    rw [hl]
    have hE : putE mem.length at_ hd = 0 := by unfold putE; rw [if_pos hp]
    rw [← hE]
    exact hk A' c' w' he hw
  · rw [if_neg hp] at hQ
    subst hQ
    have hE : putE mem.length at_ hd = 1 := by unfold putE; rw [if_neg hp]
    have hM : putM mem at_ hd = mem := by unfold putM; rw [if_neg hp]
    rw [← hE]
    exact hk A c w' he (by rw [hM]; exact hx.keep (ext_keeps he))
theorem gives9 {w : World} {A : Option Addr} {l c : Nat} {ws : List Int} (hws : Nums .u64 w A l ws) (hwd : Wd ws) (at_ : Int) {hd : Hd} (hv : 0 ≤ hd.value ∧ hd.value < 18446744073709551616) : Gives Try.prog 9 [.slice A l c, .int .i64 at_, hdV hd] w (.bool true) := by
  refine gives_of (V9.sound ?_)
  intro q5 _
  refine call_laid (pages := 1) (by decide) (Below.refl _ _) hws hwd fun g b m mem w1 e1 hw1 ha hm hl hg hb hm0 hmb => ?_
  refine ⟨_, _, _, _, rfl, ?_⟩
  show V9.b0 _ _ at_ ⟨g, 0, none⟩ (some ⟨m, 0, none⟩) 64 64 q5 hd.below hd.f hd.pc hd.mode hd.dfd hd.value hd.dfs hd.ops w1
  unfold V9.b0
  have hM1 : WordsAt w1 (some ⟨m, 0, none⟩) 64 64 mem := own_words hm ha.wd hl (by decide)
  have hl64 : mem.length = 64 := hl
  refine call_gives hw1 (fun w2 e2 _ => gives42 (ha.ext e2) at_) fun w2 e2 hw2 => ⟨_, _, _, _, _, _, _, _, _, rfl, ?_⟩
  intro q9 _
  have hM2 := hM1.keep (ext_keeps e2)
  refine call_gives hw2 (fun w3 e3 _ => gives43 (hM2.keep (ext_keeps e3)) at_) fun w3 e3 hw3 => ⟨_, _, _, _, _, _, _, _, _, rfl, ?_⟩
  intro q11 _
  have ha3 := (ha.ext e2).ext e3
  have hM3 := hM2.keep (ext_keeps e3)
  have ho3 : OwnI w3 m .u64 51 mem := (hm.ext e2).ext e3
  refine call_puts hw3.size ha3.words (fun w4 e4 => puts44 (ha3.ext e4) at_ hv) fun w4 e4 ho4 => ⟨_, rfl, ?_⟩
  have hw4 := e4.after (fun k h => by subst h; exact hb) hw3
  have ha4 := ha3.turned e4 ho4 (putM_len _ _ _) (putM_wd ha.wd at_ hv (by omega))
  have hM4 : WordsAt w4 (some ⟨m, 0, none⟩) 64 64 mem := own_words (e4.row _ _ _ _ hmb ho3) ha.wd hl64 (by decide)
  refine call_rput hw4.size hM4 at_ hv fun A5 c5 w5 e5 hM5 => ⟨_, _, _, _, rfl, ?_⟩
  have hw5 := e5.after hw4
  refine call_gives hw5 (fun w6 e6 _ => gives42 ((ha4.ext e5).ext e6) at_) fun w6 e6 hw6 => ⟨_, _, _, _, _, _, _, _, _, rfl, ?_⟩
  intro q16 _
  have hM6 := hM5.keep (ext_keeps e6)
  refine call_gives hw6 (fun w7 e7 _ => gives43 (hM6.keep (ext_keeps e7)) at_) fun w7 e7 hw7 => ⟨_, _, _, _, _, _, _, _, _, rfl, ?_⟩
  intro q18 _
  have hM7 := hM6.keep (ext_keeps e7)
  have ha7 := ((ha4.ext e5).ext e6).ext e7
  rw [if_pos (by simp), if_pos (by simp), if_pos (by simp), if_pos (by simp), if_pos (by simp)]
  refine call_gives hw7 (fun w8 e8 _ => gives46 (ha7.ext e8) (hM7.keep (ext_keeps e8)).nums) fun w8 e8 hw8 => ⟨_, rfl, ?_⟩
  rw [if_pos (by simp)]
  exact call_gives hw8 (fun w9 _ _ => gives47 w9) fun w9 _ hw9 => ⟨_, rfl, ret_is hw9 rfl⟩
end Go.Proofs.Ytlccbaemcfjdoaa
