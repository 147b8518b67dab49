/-
  Layer 20: the law's function ScanRaw returns true.
  Conditions: the numbers, and the words, lie in memory as told.
-/
import Derived.Test.YtlccbaemcfjdoaaZX20
import Derived.Test.YtlccbaemcfjdoaaZN20
import Derived.Test.YtlccbaemcfjdoaaZW18x
set_option linter.unusedVariables false
set_option linter.unusedSimpArgs false
namespace Go.Proofs.Ytlccbaemcfjdoaa
open Go.RowKit
section
variable {w0 : World} {p : List Fnc} {P : Option Addr} {pc : Nat}
theorem l3_18 (hs : Sized p) (hpl : 1 ≤ p.length ∧ p.length ≤ 1000) {M : List Int} (hM : M.length = 1024) {g b gm mc : Nat} {ks : List Int} {A : Option Addr} {c : Nat} (hks : ks.length ≤ 100) (hkb : ∀ k ∈ ks, -9223372036854775808 ≤ k ∧ k ≤ 9223372036854775807) {q11 : Nat} {M2 FA TA : Option Addr} {m2 mc2 fl fc tl tc : Nat} {y5 y6 y7 : Int} : ∀ (k i : Nat) (w : World), ks.length < i + k → i ≤ ks.length → Below w0.heap.size w0 w → ArenaAt w g b M → WordsAt w (some ⟨gm, 0, none⟩) 1024 mc M → ProgAt w P p.length p → Nums .i64 w A ks.length ks →
    V18.l3 w0.heap.size (IsV w0 (.bool true)) k (some ⟨gm, 0, none⟩) 1024 mc A ks.length c ks.length i q11 P p.length pc ⟨g, 0, none⟩ M2 m2 mc2 FA fl fc TA tl tc y5 y6 y7 w := by
  intro k
  induction k with
  | zero => intros; omega
  | succ k ih =>
    intro i w hk hi hw ha hW hp hT
    dsimp -zeta only [V18.l3]
    by_cases hlt : i < ks.length
    · rw [if_pos (by simpa using hlt)]
      obtain ⟨x, q, hx, hq, hc⟩ := Nums.at hT hlt
      have hxb := hkb x (List.mem_of_getElem? hx)
      refine ⟨q, hq, by omega, by omega, x, by rw [Int.toNat_natCast]; exact hc, ?_⟩
      refine call_roots hw.size ha hp hs hpl.2 fun A3 c3 w2 e2 hN2 => ⟨_, _, _, _, rfl, ?_⟩
      have hw2 := e2.after hw
      refine call_rroots hw2.size (hW.keep (ext_keeps e2)) (by rw [hM]; omega) (RowAt.keep FncE.kept hp (ext_keeps e2)) hs hpl.2 fun A4 c4 w3 e3 hN3 => ⟨_, _, _, _, rfl, ?_⟩
      have hw3 := e3.after hw2
      refine call_gives hw3 (fun w4 e4 _ => gives68 (RowAt.keep (NumE.kept _) (RowAt.keep (NumE.kept _) (RowAt.keep (NumE.kept _) hN2 newW_in) (ext_keeps e3)) (ext_keeps e4)) (RowAt.keep (NumE.kept _) (RowAt.keep (NumE.kept _) hN3 newW_in) (ext_keeps e4))) fun w4 e4 hw4 => ⟨_, rfl, ?_⟩
      rw [if_pos (by simp), if_pos (by simp)]
      have E4 := (e2.trans e3).trans e4
      refine call_gives hw4 (fun w5 e5 _ => gives69 (ha.ext (E4.trans e5)) (hW.keep (ext_keeps (E4.trans e5))) (by rw [hM]; omega) (RowAt.keep FncE.kept hp (ext_keeps (E4.trans e5))) hs hpl hxb) fun w5 e5 hw5 => ⟨_, rfl, ?_⟩
      rw [if_neg (by simp)]
      have E5 := E4.trans e5
      have hwi : IntKind.wrap .i64 ((i : Int) + 1) = ((i + 1 : Nat) : Int) := by rw [wrap_id (by omega) (by omega)]; rfl
      rw [hwi]
      exact ih (i + 1) w5 (by omega) (by omega) hw5 (ha.ext E5) (hW.keep (ext_keeps E5)) (RowAt.keep FncE.kept hp (ext_keeps E5)) (RowAt.keep (NumE.kept _) hT (ext_keeps E5))
    · rw [if_neg (by simpa using hlt)]
      refine call_gives hw (fun w1 e1 _ => gives46 (ha.ext e1) (hW.keep (ext_keeps e1)).nums) fun w1 e1 hw1 => ⟨_, rfl, ?_⟩
      rw [if_pos (by simp)]
      exact call_gives hw1 (fun w2 _ _ => gives65 w2) fun w2 _ hw2 => ⟨_, rfl, ret_is hw2 rfl⟩
theorem l1_18 (hs : Sized p) (hpl : 1 ≤ p.length ∧ p.length ≤ 1000) {g b gm mc : Nat} {wp : World} (hP : ProgAt wp P p.length p) (hb : w0.heap.size ≤ b) (hgmb : gm ≠ b) (hgg : gm ≠ g) (hpb : ∀ q v, wp.cell? q = some v → q.block ≠ b ∧ q.block ≠ gm) {ts : List Int} {A3 : Option Addr} {l3 c3 : Nat} (hts : BytesAt w0 A3 l3 c3 ts) {top : Int} (htop : -9223372036854775808 ≤ top ∧ top ≤ 9223372036854775807) {q11 : Nat} {M2 FA TA : Option Addr} {m2 mc2 fl fc tl tc : Nat} {y5 y6 y7 : Int} (hy7 : -1 ≤ y7 ∧ y7 < 1024) :
    ∀ (k i : Nat) (w : World) (M : List Int), 22 < i + k → i ≤ 21 → Below w0.heap.size w0 w → M.length = 1024 → Wd M → w.ownsRow w0.heap.size 51 1 (.slice (some ⟨gm, 0, none⟩) 1024 mc) 1024 (M.map (.int .u64)) → (∀ q v, wp.cell? q = some v → w.cell? q = some v) → ArenaAt w g b M →
      V18.l1 w0.heap.size (IsV w0 (.bool true)) k A3 l3 c3 top (some ⟨gm, 0, none⟩) 1024 mc i q11 P p.length pc ⟨g, 0, none⟩ M2 m2 mc2 FA fl fc TA tl tc y5 y6 y7 w := by
  intro k
  induction k with
  | zero => intros; omega
  | succ k ih =>
    intro i w M hk hi hw hMl hMw hM hp ha
    dsimp -zeta only [V18.l1]
    have done : V18.b2 w0.heap.size (IsV w0 (.bool true)) top (some ⟨gm, 0, none⟩) 1024 mc q11 P p.length pc ⟨g, 0, none⟩ M2 m2 mc2 FA fl fc TA tl tc y5 y6 y7 w := by
      unfold V18.b2
      refine ⟨by omega, ?_⟩
      refine expo_alloc hw.size fun w2 w3 hs2 e3 _ ho3 => ?_
      have hw3 := e3.after hw
      have ht : 0 ≤ Int.tmod (IntKind.wrap .u64 top) 1024 ∧ Int.tmod (IntKind.wrap .u64 top) 1024 < 1024 := by
        have h0 : 0 ≤ IntKind.wrap .u64 top := by
          simp only [IntKind.wrap, IntKind.bits, IntKind.signed]
          simp
          omega
        exact ⟨Int.tmod_nonneg _ h0, Int.tmod_lt_of_pos _ (by omega)⟩
      generalize Int.tmod (IntKind.wrap .u64 top) 1024 = t at ht ho3
      rw [wrap_id (n := t) (by omega) (by omega)] at ho3
      have hn3 := OwnI.nums (xs := [y7, top, 6, t]) (e := 3) ho3 (by simp [maxLen])
      have hMl3 := hMl
      obtain ⟨Am, cm, hv, hN, _⟩ := owns_nums (e3.owns hM) (by simp only [maxLen]; omega)
      cases hv
      refine ⟨5, ?_⟩
      exact l3_18 (w0 := w0) (P := P) (pc := pc) hs hpl hMl (ks := [y7, top, 6, t]) (by simp) (fun x hx => by
        simp only [List.mem_cons, List.not_mem_nil, or_false] at hx
        rcases hx with rfl | rfl | rfl | rfl <;> omega) (q11 := q11) 5 0 w3 (by simp) (by simp) hw3 (ha.ext e3) ⟨hN, hMw, (owns_cap hM).2, by omega⟩ (RowAt.keep FncE.kept hP fun q v hq => e3.cell (hp q v hq)) hn3
    have hll := hts.nums.len
    have hls := hts.nums.small
    have hw1 : IntKind.wrap .i64 ((i : Int) + 1) = ((i + 1 : Nat) : Int) := by rw [wrap_id (by omega) (by omega)]; rfl
    have hw2 : IntKind.wrap .i64 ((i : Int) + 2) = ((i + 2 : Nat) : Int) := by rw [wrap_id (by omega) (by omega)]; rfl
    rw [hw1, hw2]
    by_cases h1 : i + 1 < l3
    · rw [if_pos (by simpa using (by omega : ((i + 1 : Nat) : Int) < (l3 : Int)))]
      by_cases h2 : i < 20
      · rw [if_pos (by simpa using (by omega : (i : Int) < 20))]
        obtain ⟨x, q, hx, hq, hc⟩ := hts.nums.at (i := i) (by omega)
        obtain ⟨y, q', hy, hq', hd⟩ := hts.nums.at (i := i + 1) (by omega)
        rw [hq] at hq'; cases hq'
        have hxb := hts.byte x (List.mem_of_getElem? hx)
        have hyb := hts.byte y (List.mem_of_getElem? hy)
        have hc' := below_keeps hw _ _ hc
        have hd' := below_keeps hw _ _ hd
        have t8 : 0 ≤ Int.tmod x 8 := Int.tmod_nonneg _ hxb.1
        refine ⟨q, hq, by omega, by omega, x, by rw [Int.toNat_natCast]; exact hc', q, hq, by omega, by omega, y, by rw [Int.toNat_natCast]; exact hd', q, hq, by omega, by omega, x, by rw [Int.toNat_natCast]; exact hc', by omega, t8, ?_⟩
        rw [wrap_id (n := x) (by omega) (by omega), wrap_id (n := x * 2) (by omega) (by omega), wrap_u64 (n := y) (by omega) (by omega)]
        have hbd := fdiv_bd (x := y) (y := y) hyb (min ((Int.tmod x 8).toNat) 64)
        generalize Int.fdiv y (2 ^ min ((Int.tmod x 8).toNat) 64) = v at hbd ⊢
        obtain ⟨j, hj, hjl⟩ : ∃ j : Nat, x * 2 = j ∧ j < 1024 := ⟨(x * 2).toNat, by omega, by omega⟩
        rw [hj]
        have hget : (M.map (Value.int .u64))[j]? = some (.int .u64 (M[j]'(by omega))) := by rw [List.getElem?_map, List.getElem?_eq_getElem (by omega)]; rfl
        simp only [own_add, bx_add, Nat.add_zero, Nat.zero_add, Int.toNat_natCast]
        refine ⟨_, rfl, by omega, by omega, ?_⟩
        simp only [own_add, bx_add, Nat.add_zero, Nat.zero_add, Int.toNat_natCast]
        refine ⟨⟨_, owns_cell hM hget⟩, owns_frozen hM j, ?_⟩
        have hset := owns_set hM j (.int .u64 v) (by omega)
        rw [← List.map_set] at hset
        have hgms : w0.heap.size ≤ gm := (hM.lt gm rfl).1
        have hw3 : Below w0.heap.size w0 (w.setCell ⟨gm, j, none⟩ (.int .u64 v)) := hw.setCell hgms _
        have ha3 : ArenaAt (w.setCell ⟨gm, j, none⟩ (.int .u64 v)) g b M := ⟨by rw [at_other (Ne.symm hgg)]; exact ha.head, by unfold OwnI; rw [at_other (Ne.symm hgmb)]; exact ha.words, ha.wd, ha.len⟩
        have hp3 : ∀ q u, wp.cell? q = some u → (w.setCell ⟨gm, j, none⟩ (.int .u64 v)).cell? q = some u := fun q' u hq' => by
          have := hpb q' u hq'
          rw [← hp q' u hq']
          exact cell_same (at_other this.2)
        generalize w.setCell ⟨gm, j, none⟩ (.int .u64 v) = w3 at *
        refine ⟨_, rfl, by omega, by omega, v, ?_, ?_⟩
        · simp only [own_add, bx_add, Nat.add_zero, Nat.zero_add, Int.toNat_natCast]
          exact owns_cell hset (by rw [List.getElem?_map, List.getElem?_set, if_pos rfl, if_pos (by omega)]; rfl)
        · refine call_puts hw3.size ha3.words (fun w4 e4 => puts70 (ha3.ext e4) j v) fun w4 e4 ho4 => ⟨_, rfl, ?_⟩
          have hin : inM M.length (j : Int) 1 = true := by unfold inM; exact decide_eq_true (by omega)
          rw [if_neg (by rw [hin]; simp)]
          have hst : storeV M (j : Int) v = M.set j v := by unfold storeV; rw [if_pos hin, Int.toNat_natCast]
          rw [hst] at ho4
          refine ih (i + 2) w4 (M.set j v) (by omega) (by omega) (e4.after (fun k hk => by subst hk; exact hb) hw3) (by simpa using hMl) (hMw.set _ hbd) (e4.owns hset fun k hk e => by cases hk; exact hgmb e) (fun q' u hq' => e4.cell (hp3 q' u hq') (hpb q' u hq').1) (ha3.turned e4 ho4 (by simp) (hMw.set _ hbd))
      · rw [if_neg (by simp; omega)]
        exact done
    · rw [if_neg (by simp; omega)]
      exact done
end
theorem gives18 {w : World} {A A1 A2 A3 : Option Addr} {l c l1 c1 l2 c2 l3 c3 : Nat} {ns fs ws ts : List Int} (hns : BytesAt w A l c ns) (hfs : BytesAt w A1 l1 c1 fs) (hws : Nums .u64 w A2 l2 ws) (hwd : Wd ws) (hts : BytesAt w A3 l3 c3 ts) {top : Int} (htop : -9223372036854775808 ≤ top ∧ top ≤ 9223372036854775807) :
    Gives Try.prog 18 [.slice A l c, .slice A1 l1 c1, .slice A2 l2 c2, .slice A3 l3 c3, .int .i64 top] w (.bool true) := by
  refine gives_of (V18.sound ?_)
  unfold V18.vc
  refine call_yard (Nat.le_refl _) hns hfs hws hwd (lo := 3) (by omega) (by omega) fun p P pc xs FA fc TA tc g b m w1 e1 hY0 => ⟨_, _, _, _, _, _, _, _, _, _, _, _, _, _, _, _, _, rfl, ?_⟩
  intro q11 _
  show V18.b0 _ _ A3 l3 c3 top true q11 P p.length pc ⟨g, 0, none⟩ (some ⟨m, 0, none⟩) 1024 1024 FA xs.length fc TA xs.length tc _ _ _ w1
  unfold V18.b0
  rw [if_neg (by simp)]
  have hw1 := e1.after (Below.refl _ _)
  have hY := hY0.has (has_newW _ _)
  have hbel := hY.below_bd
  have hbn : w.heap.size ≤ b := (newW_row hY0.arena.words).1
  refine expo_alloc hw1.size fun w2 w3 hs2 e3 _ ho3 => ?_
  have hw3 := e3.after hw1
  have hY3 := hY.has e3.has
  have hY03 := hY0.has (e3.has.newW (Nat.le_refl w.heap.size))
  refine append_any (w0 := w) (v := .slice (some ⟨w2.heap.size, 0, none⟩) 0 0) (n := 0) (xs := []) (b0 := w2.heap.size) hw3.size (by have := lt_of_some ho3; omega) (owns_empty (e := 51) ho3 (Nat.le_refl _)) hY3.mems.nums (fun h => by cases h) (by omega) fun v w4 e4 ho4 => ?_
  rw [Nat.zero_add, List.nil_append] at ho4
  obtain ⟨gm, cm, hv, hgb, hle⟩ := owns_some ho4 (by omega)
  subst hv
  have hgm : w2.heap.size ≤ gm := (ho4.lt gm rfl).1
  have hs2w : w.heap.size ≤ w1.heap.size ∧ w1.heap.size ≤ w2.heap.size := ⟨hw1.size, hs2⟩
  refine ⟨_, _, _, rfl, ?_⟩
  have hw4 := e4.after (fun j hj => by have hj' : w2.heap.size = j := Option.some.inj hj; omega) hw3
  have hsz1 := hw1.size
  have hH : Has w1 w4 := fun k cc t f hk => e4.row _ _ _ _ (fun h => by have hj' : w2.heap.size = k := Option.some.inj h; have := lt_of_some hk; omega) (e3.row _ _ _ _ hk)
  have hY4 := hY.has hH
  have hlg := lt_of_some hY.arena.head
  have hlb := lt_of_some hY.arena.words
  refine ⟨23, ?_⟩
  refine l1_18 (w0 := w) (P := P) (pc := pc) (wp := off b w1) hY.sized hY.pl hY.prog hbn (by omega) (by omega) (fun q v hq => ?_) hts htop hbel 23 0 w4 (stk p (padM 1024 ws) (2 * 3) xs).mem (by omega) (by omega) hw4 hY.mlen hY.arena.wd (owns_base ho4 (by omega)) (fun q v hq => hH.cell _ _ (off_in _ _ hq)) hY4.arena
  obtain ⟨h1, h2⟩ := off_cell.1 hq
  exact ⟨h2, by have := cell_lt h1; omega⟩
end Go.Proofs.Ytlccbaemcfjdoaa
