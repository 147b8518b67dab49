/-
  Layer 19: the law's functions MoveFixes, MoveRefuses return true.
  Conditions: the numbers, and the words, lie in memory as told.
-/
import Derived.Test.YtlccbaemcfjdoaaZN19
import Derived.Test.YtlccbaemcfjdoaaZW23
import Derived.Test.YtlccbaemcfjdoaaZW24
set_option linter.unusedVariables false
set_option linter.unusedSimpArgs false
set_option maxRecDepth 100000
namespace Go.Proofs.Ytlccbaemcfjdoaa
open Go.RowKit
theorem callK_mono {P : Program} {f : Nat} {args : List Value} {B : Nat} {w : World} {bs : List Nat} {K K' : Value → World → Prop} (h : CallK P f args B w bs K) (hk : ∀ v w', K v w' → K' v w') : CallK P f args B w bs K' := fun w1 h1 hx =>
  Calls.mono (h w1 h1 hx) fun e w2 ⟨v, he, hkp, hh⟩ => ⟨v, he, hkp, hide_mono (hk v) hh⟩
section
variable {w : World} {p : List Fnc} {mem0 : List Int} {lo : Int} {xs : List Frm} {P FA TA : Option Addr} {g b m : Nat}
theorem call_refuse {w0 : World} {bs : List Nat} (hY : YardAt w p mem0 lo xs P FA TA g b m) (hB : w0.heap.size ≤ w.heap.size) {pc : Nat} {W : Int} (hW : -9223372036854775808 ≤ W ∧ W ≤ 9223372036854775807) {to words e : Int} (hto : -9223372036854775808 ≤ to ∧ to ≤ 9223372036854775807) (hwo : -9223372036854775808 ≤ words ∧ words ≤ 9223372036854775807)
    (hr : moveM (stk p mem0 lo xs).mem (stk p mem0 lo xs).ats xs.length lo (stk p mem0 lo xs).fin W to words = ((stk p mem0 lo xs).mem, st0, e)) {K : Value → World → Prop} (hk : ∀ w', Ext w0.heap.size w w' → K (.tuple ⟨[.agg ⟨[.int .i64 0, .int .i64 0, .int .i64 0]⟩, .int .i64 e]⟩) w') :
    CallK Try.prog 75 [.pointer (some ⟨g, 0, none⟩), .agg ⟨[.slice P p.length pc]⟩, .agg ⟨[.int .i64 lo, .int .i64 W, .int .i64 (prevA (stk p mem0 lo xs).ats xs.length)]⟩, .int .i64 to, .int .i64 words] w0.heap.size w bs K := by
  refine call_puts hB hY.arena.words (fun w4 e4 => puts75 (hY.has e4.has).arena (hY.has e4.has).prog hY.sized hY.pl.2 hY.stackIn (W := W) hW hto hwo) fun w4 e4 ho4 => ?_
  rw [hr] at ho4 ⊢
  have he : Ext w0.heap.size w w4 := by
    refine ⟨e4.os, e4.tape, e4.output, e4.size, fun k c t f hk => ?_, fun k hk => ?_⟩
    · by_cases hkb : k = b
      · subst hkb
        have h1 := hY.arena.words
        unfold OwnI at h1 ho4
        rw [h1] at hk
        rw [ho4]
        exact hk
      · exact e4.row _ _ _ _ hkb hk
    · by_cases hkb : k = b
      · subst hkb
        have h1 := hY.arena.words
        unfold OwnI at h1 ho4
        rw [h1, ho4]
      · exact e4.low k hk hkb
  exact hk w4 he
end
section
variable {w0 : World} {p : List Fnc} {mem0 : List Int} {lo : Int} {xs : List Frm} {P FA TA : Option Addr} {g b m pc fc tc : Nat}
theorem b2_24 {w : World} (hw : Below w0.heap.size w0 w) (hY : YardAt w p mem0 lo xs P FA TA g b m) {W : Int} (hW : 1 ≤ W ∧ (stk p mem0 lo xs).fin - lo ≤ W ∧ lo + W ≤ 1024) {over far n : Int} (hov : 0 ≤ over ∧ over < 256) (hfar : -9223372036854775808 ≤ far ∧ far ≤ 9223372036854775807) (hn : n = (stk p mem0 lo xs).fin - lo) {q24 q17 : Nat} :
    V24.b2 w0.heap.size (IsV w0 (.bool true)) over far 0 n 3 1 q24 0 0 0 q17 P p.length pc ⟨g, 0, none⟩ (some ⟨m, 0, none⟩) 1024 1024 FA xs.length fc TA xs.length tc lo W (prevA (stk p mem0 lo xs).ats xs.length) w := by
  unfold V24.b2
  have hs := hY.stackIn
  have h1 := hs.le
  have h2 := hY.ok.fin
  have h3 := hY.len
  have h4 := hY.lo0
  have hml := hY.mlen
  have hN : (if 1 > n then 1 else n) = (if 1 > n then 1 else n) := rfl
  have hNb : 1 ≤ (if 1 > n then 1 else n) ∧ (if 1 > n then 1 else n) ≤ 1024 ∧ n ≤ (if 1 > n then 1 else n) := by split <;> omega
  generalize (if 1 > n then 1 else n) = N at hNb
  clear hN
  have hf0 : 0 ≤ (if 0 > far then 0 else far) := by split <;> omega
  generalize (if 0 > far then 0 else far) = F at hf0
  have ht : 0 ≤ Int.tmod F 4000 ∧ Int.tmod F 4000 < 4000 := ⟨Int.tmod_nonneg _ hf0, Int.tmod_lt_of_pos _ (by omega)⟩
  refine ⟨by omega, ?_⟩
  rw [wrap_id (n := 1025 + Int.tmod F 4000) (by omega) (by omega), wrap_id (n := over) (by omega) (by omega), wrap_id (n := (-1) - over) (by omega) (by omega)]
  refine call_refuse (e := 1) hY hw.size (by omega) (by omega) (by omega) (by
    unfold moveM
    rw [if_neg (by omega), if_neg (fun hc => by have := of_decide_eq_true hc.1; omega)]) fun w1 e1 => ⟨_, _, _, _, rfl, ?_⟩
  intro q26 _
  have hw1 := e1.after hw
  have hY1 := hY.has e1.has
  refine call_refuse (e := 1) hY1 hw1.size (by omega) (by omega) (by omega) (by
    unfold moveM
    rw [if_neg (by omega), if_neg (fun hc => by have := of_decide_eq_true hc.1; omega)]) fun w2 e2 => ⟨_, _, _, _, rfl, ?_⟩
  intro q28 _
  have hw2 := e2.after hw1
  have hY2 := hY1.has e2.has
  rw [if_pos (by simp), if_pos (by simp), if_pos (by simp), if_pos (by simp), if_pos (by simp), if_pos (by simp)]
  refine call_gives hw2 (fun w3 e3 _ => gives46 (hY2.has e3.has).arena (hY2.has e3.has).mems.nums) fun w3 e3 hw3 => ⟨_, rfl, ?_⟩
  rw [if_pos (by simp)]
  exact call_gives hw3 (fun w4 _ _ => gives72 w4) fun w4 _ hw4 => ⟨_, rfl, ret_is hw4 rfl⟩
theorem b1_24 {w : World} (hw : Below w0.heap.size w0 w) (hY : YardAt w p mem0 lo xs P FA TA g b m) {W : Int} (hW : 1 ≤ W ∧ (stk p mem0 lo xs).fin - lo ≤ W ∧ lo + W ≤ 1024) {over far n : Int} (hov : 0 ≤ over ∧ over < 256) (hfar : -9223372036854775808 ≤ far ∧ far ≤ 9223372036854775807) (hn : n = (stk p mem0 lo xs).fin - lo) {q17 : Nat} :
    V24.b1 w0.heap.size (IsV w0 (.bool true)) over far 0 n 3 q17 P p.length pc ⟨g, 0, none⟩ (some ⟨m, 0, none⟩) 1024 1024 FA xs.length fc TA xs.length tc lo W (prevA (stk p mem0 lo xs).ats xs.length) w := by
  unfold V24.b1
  have hs := hY.stackIn
  have h1 := hs.le
  have h2 := hY.ok.fin
  have h3 := hY.len
  have h4 := hY.lo0
  have hml := hY.mlen
  have ht : 0 ≤ Int.tmod over W ∧ Int.tmod over W < W := ⟨Int.tmod_nonneg _ hov.1, Int.tmod_lt_of_pos _ (by omega)⟩
  have hNb : 1 ≤ (if 1 > n then 1 else n) ∧ (if 1 > n then 1 else n) ≤ 1024 ∧ n ≤ (if 1 > n then 1 else n) := by split <;> omega
  have hr : ∀ N T : Int, 1 ≤ N ∧ N ≤ 1024 ∧ n ≤ N → 0 ≤ T ∧ T < W → moveM (stk p mem0 lo xs).mem (stk p mem0 lo xs).ats xs.length lo (stk p mem0 lo xs).fin W (lo + T) N = ((stk p mem0 lo xs).mem, st0, 1) := fun N T hN hT => by
    unfold moveM
    rw [if_neg (by omega), if_neg (fun hc => by
      have := hc.2
      unfold overM at this
      have := of_decide_eq_false this
      omega)]
  have hb : ∀ (bs : List Nat), CallK Try.prog 75 [.pointer (some ⟨g, 0, none⟩), .agg ⟨[.slice P p.length pc]⟩, .agg ⟨[.int .i64 lo, .int .i64 W, .int .i64 (prevA (stk p mem0 lo xs).ats xs.length)]⟩, .int .i64 (IntKind.wrap .i64 (lo + Int.tmod (IntKind.wrap .i64 over) W)), .int .i64 (if 1 > n then 1 else n)] w0.heap.size w bs fun v w' => v = .tuple ⟨[.agg ⟨[.int .i64 0, .int .i64 0, .int .i64 0]⟩, .int .i64 1]⟩ ∧ Ext w0.heap.size w w' := fun bs => by
    rw [wrap_id (n := over) (by omega) (by omega), wrap_id (n := lo + Int.tmod over W) (by omega) (by omega)]
    exact call_refuse (e := 1) hY hw.size (by omega) (by omega) (by omega) (hr _ _ hNb ht) fun w1 e1 => ⟨rfl, e1⟩
  refine ⟨⟨by omega, ?_⟩, by omega, ?_⟩
  · refine callK_mono (hb _) fun v w1 ⟨hv, e1⟩ => ?_
    subst hv
    refine ⟨_, _, _, _, rfl, ?_⟩
    intro q24 _
    exact b2_24 (e1.after hw) (hY.has e1.has) hW hov hfar hn
  · intro q24 _
    refine callK_mono (hb _) fun v w1 ⟨hv, e1⟩ => ?_
    subst hv
    exact ⟨_, _, _, _, rfl, b2_24 (e1.after hw) (hY.has e1.has) hW hov hfar hn⟩
end
theorem gives24 {w : World} {A A1 A2 : Option Addr} {l c l1 c1 l2 c2 : Nat} {ns fs ws : List Int} (hns : BytesAt w A l c ns) (hfs : BytesAt w A1 l1 c1 fs) (hws : Nums .u64 w A2 l2 ws) (hwd : Wd ws) {lo room : Int} (hlo : 0 ≤ lo ∧ lo < 256) (hroom : 0 ≤ room ∧ room < 256) {less over far : Int} (hless : 0 ≤ less ∧ less < 256) (hov : 0 ≤ over ∧ over < 256) (hfar : -9223372036854775808 ≤ far ∧ far ≤ 9223372036854775807) :
    Gives Try.prog 24 [.slice A l c, .slice A1 l1 c1, .slice A2 l2 c2, .int .u8 lo, .int .u8 room, .int .u8 less, .int .u8 over, .int .i64 far] w (.bool true) := by
  refine gives_of (V24.sound ?_)
  unfold V24.vc
  refine call_yard (Nat.le_refl _) hns hfs hws hwd hlo hroom fun p P pc xs FA fc TA tc g b m w1 e1 hY0 => ⟨_, _, _, _, _, _, _, _, _, _, _, _, _, _, _, _, _, rfl, ?_⟩
  intro q17 _
  have hY := hY0.has (has_newW _ _)
  have hYs := hY.stackIn
  have hbel := stk_below p (padM 1024 ws) (2 * lo) xs
  have hwbd := hY.words_bd hroom
  have hlo0 := hY.lo0
  have hml := hY.mlen
  have h1 := hYs.le
  have h2 := hY.ok.fin
  have h3 := hY.len
  show V24.b0 _ _ less over far true q17 P p.length pc ⟨g, 0, none⟩ (some ⟨m, 0, none⟩) 1024 1024 FA xs.length fc TA xs.length tc (2 * lo) (yardWords (2 * lo) (stk p (padM 1024 ws) (2 * lo) xs).fin room) (stk p (padM 1024 ws) (2 * lo) xs).below w1
  rw [hbel]
  unfold V24.b0
  rw [if_neg (by simp)]
  have hw1 := e1.after (Below.refl _ _)
  have hend := hYs.end_ hY.sized hY.pl.2 (yardWords (2 * lo) (stk p (padM 1024 ws) (2 * lo) xs).fin room)
  refine call_gives hw1 (fun w2 e2 _ => gives73 (hY.has e2.has).arena (hY.has e2.has).prog' hY.sized ⟨2 * lo, yardWords (2 * lo) (stk p (padM 1024 ws) (2 * lo) xs).fin room, prevA (stk p (padM 1024 ws) (2 * lo) xs).ats xs.length⟩) fun w2 e2 hw2 => ?_
  rw [hend]
  refine ⟨_, _, rfl, ?_⟩
  have hY2 := hY.has e2.has
  rw [wrap_id (n := (stk p (padM 1024 ws) (2 * lo) xs).fin - 2 * lo) (by omega) (by omega)]
  obtain ⟨n, hn⟩ : ∃ n : Int, n = (stk p (padM 1024 ws) (2 * lo) xs).fin - 2 * lo := ⟨_, rfl⟩
  rw [← hn]
  have hNb : 1 ≤ (if 1 > n then 1 else n) ∧ (if 1 > n then 1 else n) ≤ 1024 := by split <;> omega
  have ht : 0 ≤ Int.tmod less (if 1 > n then 1 else n) ∧ Int.tmod less (if 1 > n then 1 else n) < (if 1 > n then 1 else n) := ⟨Int.tmod_nonneg _ hless.1, Int.tmod_lt_of_pos _ (by omega)⟩
  rw [wrap_id (n := less) (by omega) (by omega), wrap_id (n := n - 1) (by omega) (by omega), wrap_id (n := n - 1 - Int.tmod less (if 1 > n then 1 else n)) (by omega) (by omega)]
  have hb : ∀ (bs : List Nat), CallK Try.prog 75 [.pointer (some ⟨g, 0, none⟩), .agg ⟨[.slice P p.length pc]⟩, .agg ⟨[.int .i64 (2 * lo), .int .i64 (yardWords (2 * lo) (stk p (padM 1024 ws) (2 * lo) xs).fin room), .int .i64 (prevA (stk p (padM 1024 ws) (2 * lo) xs).ats xs.length)]⟩, .int .i64 0, .int .i64 (n - 1 - Int.tmod less (if 1 > n then 1 else n))] w.heap.size w2 bs fun v w' => v = .tuple ⟨[.agg ⟨[.int .i64 0, .int .i64 0, .int .i64 0]⟩, .int .i64 3]⟩ ∧ Ext w.heap.size w2 w' := fun bs =>
    call_refuse (e := 3) hY2 hw2.size (by omega) (by omega) (by omega) (by unfold moveM; rw [if_pos (by omega)]) fun w3 e3 => ⟨rfl, e3⟩
  refine ⟨⟨by omega, ?_⟩, by omega, ?_⟩
  · refine callK_mono (hb _) fun v w3 ⟨hv, e3⟩ => ?_
    subst hv
    refine ⟨_, _, _, _, rfl, ?_⟩
    intro q22 _
    exact b1_24 (e3.after hw2) (hY2.has e3.has) hwbd hov hfar hn
  · intro q22 _
    refine callK_mono (hb _) fun v w3 ⟨hv, e3⟩ => ?_
    subst hv
    exact ⟨_, _, _, _, rfl, b1_24 (e3.after hw2) (hY2.has e3.has) hwbd hov hfar hn⟩
end Go.Proofs.Ytlccbaemcfjdoaa
