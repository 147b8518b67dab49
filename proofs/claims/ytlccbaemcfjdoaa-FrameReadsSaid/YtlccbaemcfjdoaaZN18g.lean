/-
  Layer 18: the law's function FrameReads returns true.
  Conditions: the numbers, and the words, lie in memory as told.
-/
import Derived.Test.YtlccbaemcfjdoaaZN18e
import Derived.Test.YtlccbaemcfjdoaaZW13
import Derived.Laws.CopyRow
import Derived.Laws.IdiomCopy
set_option linter.unusedVariables false
set_option linter.unusedSimpArgs false
namespace Go.Proofs.Ytlccbaemcfjdoaa
open Go.RowKit
theorem copy_nums {P : Program} {B : Nat} {w : World} {bs : List Nat} {t ty e : TypeId} {k : IntKind} {K : Value → World → Prop} (ht : P.underlying t = some (.slice e)) (hs : (P.info? e).map (·.size) = some 1) {g n c : Nat} {zs : List Int} (ho : OwnI w g k e zs) (hz : zs.length = n)
    {A : Option Addr} {l c' : Nat} {xs : List Int} (hx : Nums k w A l xs) (hB : B ≤ w.heap.size)
    (hk : ∀ w', ExtS B (fun j => j = g) w w' → OwnI w' g k e (xs.take n ++ zs.drop l) → K (.int .i64 ((min l n : Nat) : Int)) w') :
    RunK P (Builtin.copy_ #[t, t] ty ⟨[.slice (some ⟨g, 0, none⟩) n c, .slice A l c']⟩) B w bs K := by
  intro w1 he hxx
  have hB1 : B ≤ w1.heap.size := Nat.le_trans hB he.size
  have ho1 := ho.ext he
  have hgb : g ∉ bs := fun h => (hxx g h).2.1 _ _ _ ho
  have hlx := hx.len
  by_cases hmin : Nat.min l n = 0
  · have hr := run_copy_none (P := P) w1 t t ty e (some ⟨g, 0, none⟩) A n c l c' ht hs hmin
    refine ⟨_, w1, hr, ⟨Nat.le_refl _, fun _ _ => rfl⟩, hide_any fun w' hm => ?_⟩
    have h1 := masked he hxx hB1 (Below.refl _ _) hm
    have hmin' : min l n = 0 := hmin
    have := hk w' h1.toS (by
      have h2 := ho.ext h1
      by_cases h0 : l = 0
      · have : xs = [] := List.eq_nil_of_length_eq_zero (by omega)
        subst this
        rw [h0]; simpa using h2
      · have hn : n = 0 := by omega
        have : zs = [] := List.eq_nil_of_length_eq_zero (by omega)
        subst this
        rw [hn]; simpa using h2)
    rw [hmin'] at this
    exact this
  · have hmin' : ¬ min l n = 0 := hmin
    obtain ⟨x0, a, _, ha, _⟩ := Nums.at hx (i := 0) (by omega)
    subst ha
    have hcs : ((xs.take n).map (Value.int k)).length = Nat.min l n := by
      show _ = min l n
      simp [hlx]; omega
    have hcell := nums_cells (RowAt.keep (NumE.kept _) hx (ext_keeps he))
    have hr := run_copy_row (P := P) w1 t t ty e g 0 n c a l c' (zs.map (Value.int k)).toArray e ((xs.take n).map (.int k)) ht hs (show w1.heap[g]? = some (.cells (zs.map (.int k)).toArray e (0, 0)) from ho1) hcs (fun j v hj => hcell j v (by
        rw [List.map_take, List.getElem?_take] at hj
        split at hj
        · exact hj
        · cases hj)) (by simp [hlx, hz]; omega) (fun v hv => by obtain ⟨x, _, rfl⟩ := List.mem_map.1 hv; rfl)
    have hgrow : w1.grownBy (w1.setRow g (((zs.map (Value.int k)).toArray).toList.take 0 ++ (xs.take n).map (Value.int k) ++ ((zs.map (Value.int k)).toArray).toList.drop (0 + ((xs.take n).map (Value.int k)).length)).toArray) (some g) := ⟨rfl, rfl, rfl, by simp [World.setRow], fun j _ hj => setRow_other w1 g j _ (fun e => hj (by simp [e]))⟩
    refine ⟨_, _, hr, ⟨hgrow.size, fun x hxb => hgrow.block x (hxx x hxb).1 (fun e => hgb (by cases e; exact hxb))⟩, hide_any fun w' hm => ?_⟩
    have hrow := hk w' (maskedS he hxx hgrow (fun j hj => by cases hj; rfl) hm hB1) (by
      unfold OwnI
      rw [hm.block g hgb, setRow_heap w1 g _ _ e (0, 0) ho1]
      congr 2
      simp only [List.take_zero, List.nil_append, List.toList_toArray, Nat.zero_add]
      rw [hcs, ← List.map_drop, ← List.map_append]
      congr 3
      by_cases hln : l ≤ n
      · rw [show Nat.min l n = l from Nat.min_eq_left hln]
      · rw [show Nat.min l n = n from Nat.min_eq_right (by omega), List.drop_of_length_le (by omega), List.drop_of_length_le (by omega)])
    rw [hcs] at *
    exact hrow
theorem owns_of {w : World} {B g n : Nat} {k : IntKind} {e : TypeId} {xs : List Int} (h : OwnI w g k e xs) (hl : xs.length = n) (hb : B ≤ g) (hn : n ≤ maxLen) : w.ownsRow B e 1 (.slice (some ⟨g, 0, none⟩) n n) n (xs.map (.int k)) :=
  ⟨by simp [hl], .inr ⟨g, n, _, rfl, hb, h, Nat.le_refl _, hn, by simp [hl], by rw [List.take_of_length_le]; simp [hl]⟩⟩
section
variable {w0 : World} {p : List Fnc} {P : Option Addr} {cap : Nat}
theorem l3_13 (hs : Sized p) (hpl : p.length ≤ 1000) {M : List Int} (hM : M.length = 512) {g b gm mc : Nat} {ks : List Int} {A : Option Addr} {c : Nat} (hks : ks.length ≤ 100) {q11 : Nat} : ∀ (k i : Nat) (w : World), ks.length < i + k → i ≤ ks.length → Below w0.heap.size w0 w → ArenaAt w g b M → WordsAt w (some ⟨gm, 0, none⟩) 512 mc M → ProgAt w P p.length p → Nums .i64 w A ks.length ks →
    V13.l3 w0.heap.size (IsV w0 (.bool true)) k (some ⟨gm, 0, none⟩) 512 mc ⟨g, 0, none⟩ A ks.length c ks.length i q11 P p.length cap w := by
  intro k
  induction k with
  | zero => intros; omega
  | succ k ih =>
    intro i w hk hi hw ha hW hp hT
    dsimp -zeta only [V13.l3]
    by_cases hlt : i < ks.length
    · rw [if_pos (by simpa using hlt)]
      obtain ⟨x, q, hx, hq, hc⟩ := Nums.at hT hlt
      refine ⟨q, hq, by omega, by omega, x, by rw [Int.toNat_natCast]; exact hc, ?_⟩
      refine call_read hw.size ha hp hs hpl fun s1 w1 e1 hf1 => ⟨_, _, _, _, _, _, _, _, _, _, _, _, _, _, _, _, rfl, ?_⟩
      intro q21 _
      have hw1 := e1.after hw
      refine call_rread hw1.size (hW.keep (ext_keeps e1)) (RowAt.keep FncE.kept hp (ext_keeps e1)) hs hpl fun s2 w2 e2 hf2 => ⟨_, _, _, _, _, _, _, _, _, _, _, _, _, _, _, _, rfl, ?_⟩
      intro q24 _
      have hw2 := e2.after hw1
      have E2 := e1.trans e2
      refine call_walk hw2.size (ha.ext E2) (RowAt.keep FncE.kept hp (ext_keeps E2)) hs hpl fun A3 c3 w3 e3 hN3 => ⟨_, _, _, _, rfl, ?_⟩
      have hw3 := e3.after hw2
      have E3 := E2.trans e3
      refine call_rwalk hw3.size (hW.keep (ext_keeps E3)) (by omega) (RowAt.keep FncE.kept hp (ext_keeps E3)) hs hpl fun A4 c4 w4 e4 hN4 => ⟨_, _, _, _, rfl, ?_⟩
      have hw4 := e4.after hw3
      have E4 := E3.trans e4
      have hF1 := ((((hf1.keep newW_in).keep (ext_keeps e2)).keep (ext_keeps e3)).keep (ext_keeps e4))
      have hF2 := (((hf2.keep newW_in).keep (ext_keeps e3)).keep (ext_keeps e4))
      refine call_gives hw4 (fun w5 e5 _ => gives56 (x := (readM p M x).1) (s := s1) (t := s2) (hF1.keep (ext_keeps e5)) (hF2.keep (ext_keeps e5))) fun w5 e5 hw5 => ⟨_, rfl, ?_⟩
      rw [if_pos (by simp), if_pos (by simp), if_pos (by simp)]
      have hR3 := RowAt.keep (NumE.kept _) (RowAt.keep (NumE.kept _) (RowAt.keep (NumE.kept _) hN3 newW_in) (ext_keeps e4)) (ext_keeps e5)
      have hR4 := RowAt.keep (NumE.kept _) (RowAt.keep (NumE.kept _) hN4 newW_in) (ext_keeps e5)
      refine call_gives hw5 (fun w6 e6 _ => gives40 (RowAt.keep (NumE.kept _) hR3 (ext_keeps e6)) (RowAt.keep (NumE.kept _) hR4 (ext_keeps e6))) fun w6 e6 hw6 => ⟨_, rfl, ?_⟩
      rw [if_pos (by simp), if_neg (by simp)]
      have E6 := (E4.trans e5).trans e6
      have hwi : IntKind.wrap .i64 ((i : Int) + 1) = ((i + 1 : Nat) : Int) := by rw [wrap_id (by omega) (by omega)]; rfl
      rw [hwi]
      exact ih (i + 1) w6 (by omega) (by omega) hw6 (ha.ext E6) (hW.keep (ext_keeps E6)) (RowAt.keep FncE.kept hp (ext_keeps E6)) (RowAt.keep (NumE.kept _) hT (ext_keeps E6))
    · rw [if_neg (by simpa using hlt)]
      refine call_gives hw (fun w1 e1 _ => gives46 (ha.ext e1) (hW.keep (ext_keeps e1)).nums) fun w1 e1 hw1 => ⟨_, rfl, ?_⟩
      rw [if_pos (by simp)]
      exact call_gives hw1 (fun w2 _ _ => gives47 w2) fun w2 _ hw2 => ⟨_, rfl, ret_is hw2 rfl⟩
theorem fdiv_bd {x y : Int} (hx : 0 ≤ x ∧ x < 256) (n : Nat) : 0 ≤ Int.fdiv x (2 ^ n) ∧ Int.fdiv x (2 ^ n) < 18446744073709551616 := by
  have hp : (0 : Int) < 2 ^ n := Int.pow_pos (by omega)
  rw [Int.fdiv_eq_ediv_of_nonneg _ (by omega)]
  have h1 := Int.ediv_nonneg hx.1 (Int.le_of_lt hp)
  have h2 := Int.ediv_le_self (2 ^ n) hx.1
  omega
theorem l0_13 (hs : Sized p) (hpl : p.length ≤ 1000) {wp : World} (hwp : w0.heap.size ≤ wp.heap.size) (hP : ProgAt wp P p.length p) {gm mc : Nat} (hgm : wp.heap.size ≤ gm) {ats ts : List Int} {TA : Option Addr} {tc : Nat} (hal : ats.length ≤ 11) {A2 A3 : Option Addr} {l2 c2 l3 c3 : Nat} (hts : BytesAt w0 A3 l3 c3 ts) {top fin : Int} (hfin : 0 ≤ fin ∧ fin ≤ 512) {q11 : Nat} :
    ∀ (k i : Nat) (w : World) (M : List Int), 22 < i + k → i ≤ 21 → Below w0.heap.size w0 w → M.length = 512 → Wd M → w.ownsRow w0.heap.size 51 1 (.slice (some ⟨gm, 0, none⟩) 512 mc) 512 (M.map (.int .u64)) → (∀ q v, wp.cell? q = some v → w.cell? q = some v) → w.ownsRow wp.heap.size 3 1 (.slice TA ats.length tc) ats.length (ats.map (.int .i64)) →
      V13.l0 w0.heap.size (IsV w0 (.bool true)) k A2 l2 c2 A3 l3 c3 top (some ⟨gm, 0, none⟩) 512 mc TA ats.length tc fin i q11 P p.length cap w := by
  intro k
  induction k with
  | zero => intros; omega
  | succ k ih =>
    intro i w M hk hi hw hMl hMw hM hp hT
    dsimp -zeta only [V13.l0]
    have done : V13.b1 w0.heap.size (IsV w0 (.bool true)) A2 l2 c2 top (some ⟨gm, 0, none⟩) 512 mc TA ats.length tc q11 P p.length cap w := by
      unfold V13.b1
      obtain ⟨Am, cm, hv, hN, hb⟩ := owns_nums hM (by simp only [maxLen]; omega)
      cases hv
      refine call_laidE (pages := 8) (by decide) hw hN hMw fun g b m2 mem w1 e1 hw1 ha hm2 hl hg hb' hm0 hmb hmem => ⟨_, _, _, _, rfl, ?_⟩
      rw [padM_eq (by rw [hMl])] at hmem
      rw [hmem] at ha
      show V13.b2 _ _ A2 l2 c2 top (some ⟨gm, 0, none⟩) 512 mc TA ats.length tc ⟨g, 0, none⟩ q11 P p.length cap w1
      unfold V13.b2
      refine ⟨by omega, ?_⟩
      refine expo_alloc hw1.size fun w2 w3 hs2 e3 _ ho3 => ?_
      have hw3 := e3.after hw1
      have ho3' : OwnI w3 w2.heap.size .i64 3 [top, Int.tmod (l2 : Int) 40, -1] := ho3
      have hb8 : Try.t3.bytes = 8 := by kernel_rfl
      have hn3 := ho3'.nums (by simp only [List.length_cons, List.length_nil, maxLen]; omega)
      have hT3 := e3.owns (e1.owns hT)
      refine append_nums (t := 42) (e := 3) (i := Try.t3) (k := .i64) (bytes := 8) (b0 := wp.heap.size) (by kernel_rfl) (by kernel_rfl) (by kernel_rfl) (by kernel_rfl) hb8 (Nat.le_refl _) hT3 hn3 (by simp; omega) hw3.size (Nat.le_trans (Nat.le_trans hgm (Nat.le_of_lt (hM.lt gm rfl).2)) (Nat.le_trans e1.size e3.size)) fun v w4 e4 ho4 _ => ?_
      obtain ⟨A4, c4, rfl⟩ := owns_slice0 ho4
      refine ⟨A4, _, c4, rfl, ?_⟩
      have hTb : ∀ j, (Value.slice TA ats.length tc).ownBlock = some j → wp.heap.size ≤ j := fun j hj => (hT.lt j hj).1
      have hw4 := e4.after (fun j hj => Nat.le_trans hwp (hTb j hj)) hw3
      have hkl : (ats ++ [top, Int.tmod (l2 : Int) 40, -1]).length = ats.length + 3 := by simp
      obtain ⟨A5, c5, hv5, hN5, _⟩ := owns_nums ho4 (by simp only [maxLen]; simp; omega)
      cases hv5
      -- what the append writes lies elsewhere
      have ha3 := ha.ext e3
      have ha4 : ArenaAt w4 g b M := ⟨e4.row _ _ _ _ (fun e => (other_own hT3 (ts := [178]) (by simp)) _ _ _ _ e ha3.head (by simp)) ha3.head, e4.row _ _ _ _ (fun e => (other_own hT3 (ts := [51]) (by simp)) _ _ _ _ e ha3.words (by simp)) ha3.words, ha.wd, ha.len⟩
      have hM4 := owns_extT (e3.owns (e1.owns hM)) e4 (other_own hT3 (ts := [51]) (by simp)) (by simp)
      obtain ⟨Am', cm', hv', hN', _⟩ := owns_nums hM4 (by simp only [maxLen]; omega)
      cases hv'
      have hW4 : WordsAt w4 (some ⟨gm, 0, none⟩) 512 mc M := ⟨hN', hMw, (owns_cap hM).2, by omega⟩
      have hp4 : ProgAt w4 P p.length p := RowAt.keep FncE.kept hP fun q v hq => e4.cell (e3.cell (e1.cell (hp q v hq))) (fun e => by have := hTb _ e; have := cell_lt hq; omega)
      refine ⟨ats.length + 4, ?_⟩
      have := l3_13 (w0 := w0) (P := P) (cap := cap) (c := c4) (A := A4) hs hpl hMl (ks := ats ++ [top, Int.tmod (l2 : Int) 40, -1]) (by simp; omega) (q11 := q11) (ats.length + 4) 0 w4 (by simp) (by omega) hw4 ha4 hW4 hp4 (by rw [hkl]; simpa using hN5)
      rw [hkl] at this
      exact this
    have hll := hts.nums.len
    have hls := hts.nums.small
    have hw1 : IntKind.wrap .i64 ((i : Int) + 1) = ((i + 1 : Nat) : Int) := by rw [wrap_id (by omega) (by omega)]; rfl
    have hw2 : IntKind.wrap .i64 ((i : Int) + 2) = ((i + 2 : Nat) : Int) := by rw [wrap_id (by omega) (by omega)]; rfl
    rw [hw1, hw2]
    by_cases h1 : i + 1 < l3
    · rw [if_pos (by simpa using (by omega : ((i + 1 : Nat) : Int) < (l3 : Int)))]
      by_cases h2 : i < 20
      · rw [if_pos (by simpa using (by omega : (i : Int) < 20))]
        obtain ⟨x, q, hx, hq, hc⟩ := hts.nums.at (i := i) (by omega)
        obtain ⟨y, q', hy, hq', hd⟩ := hts.nums.at (i := i + 1) (by omega)
        rw [hq] at hq'; cases hq'
        have hxb := hts.byte x (List.mem_of_getElem? hx)
        have hyb := hts.byte y (List.mem_of_getElem? hy)
        have hc' := below_keeps hw _ _ hc
        have hd' := below_keeps hw _ _ hd
        have hE : 1 ≤ (if 1 > fin then 1 else fin) ∧ (if 1 > fin then 1 else fin) ≤ 512 := by split <;> omega
        generalize (if 1 > fin then 1 else fin) = E at hE ⊢
        have t8 : 0 ≤ Int.tmod x 8 := Int.tmod_nonneg _ hxb.1
        refine ⟨q, hq, by omega, by omega, x, by rw [Int.toNat_natCast]; exact hc', by omega, q, hq, by omega, by omega, y, by rw [Int.toNat_natCast]; exact hd', q, hq, by omega, by omega, x, by rw [Int.toNat_natCast]; exact hc', by omega, t8, ?_⟩
        rw [wrap_id (n := x) (by omega) (by omega), wrap_u64 (n := y) (by omega) (by omega)]
        have tE : 0 ≤ Int.tmod x E ∧ Int.tmod x E < E := ⟨Int.tmod_nonneg _ hxb.1, Int.tmod_lt_of_pos _ (by omega)⟩
        have hbd := fdiv_bd (x := y) (y := y) hyb (min ((Int.tmod x 8).toNat) 64)
        generalize Int.fdiv y (2 ^ min ((Int.tmod x 8).toNat) 64) = v at hbd ⊢
        obtain ⟨j, hj, hjl⟩ : ∃ j : Nat, Int.tmod x E = j ∧ j < 512 := ⟨(Int.tmod x E).toNat, by omega, by omega⟩
        rw [hj]
        have hget : (M.map (Value.int .u64))[j]? = some (.int .u64 (M[j]'(by omega))) := by rw [List.getElem?_map, List.getElem?_eq_getElem (by omega)]; rfl
        simp only [own_add, bx_add, Nat.add_zero, Nat.zero_add, Int.toNat_natCast]
        refine ⟨_, rfl, by omega, by omega, ?_⟩
        simp only [own_add, bx_add, Nat.add_zero, Nat.zero_add, Int.toNat_natCast]
        refine ⟨⟨_, owns_cell hM hget⟩, owns_frozen hM j, ?_⟩
        have hset := owns_set hM j (.int .u64 v) (by omega)
        rw [← List.map_set] at hset
        refine ih (i + 2) _ (M.set j v) (by omega) (by omega) (hw.setCell (Nat.le_trans hwp hgm) _) (by simpa using hMl) (hMw.set _ hbd) hset (fun q' u hq' => ?_) (owns_other hT fun j' hj' => ?_)
        · have := cell_lt hq'
          rw [← hp q' u hq']
          exact cell_same (at_other (by omega))
        · refine at_other (fun e => ?_)
          subst e
          exact owns_ne hT hM (by decide) hj' rfl
      · rw [if_neg (by simp; omega)]
        exact done
    · rw [if_neg (by simp; omega)]
      exact done
end
theorem gives13 {w : World} {A A1 A2 A3 : Option Addr} {l c l1 c1 l2 c2 l3 c3 : Nat} {ns fs ws ts : List Int} (hns : BytesAt w A l c ns) (hfs : BytesAt w A1 l1 c1 fs) (hws : Nums .u64 w A2 l2 ws) (hwd : Wd ws) (hts : BytesAt w A3 l3 c3 ts) (top : Int) :
    Gives Try.prog 13 [.slice A l c, .slice A1 l1 c1, .slice A2 l2 c2, .slice A3 l3 c3, .int .i64 top] w (.bool true) := by
  refine gives_of (V13.sound ?_)
  unfold V13.vc
  refine call_madeN (Below.refl _ _) hns fun p C c' w1 hmade hp hc he hw => ⟨C, p.length, c', rfl, ?_⟩
  intro q11 _
  have hs : Sized p := hmade.sized
  have hpl : 1 ≤ p.length ∧ p.length ≤ 1000 := ⟨hmade.pos, by have := hmade.few; omega⟩
  have hp1 : ProgAt w1 C p.length p := RowAt.keep FncE.kept hp newW_in
  have hb8 : Try.t51.bytes = 8 := by kernel_rfl
  refine make_own (t := 50) (e := 51) (i := Try.t51) (z := .int .u64 0) (size := 1) (n := 512) (by kernel_rfl) (by kernel_rfl) (by kernel_rfl) (by kernel_rfl) (by rw [hb8]; omega) (by simp only [maxLen]; omega) hw.size fun m w2 hm e2 ho => ⟨_, _, _, rfl, ?_⟩
  rw [zeros_cells] at ho
  have hw2 := e2.after hw
  have hll := hws.len
  have hls := hws.small
  simp only [maxLen] at hls
  refine copy_nums (t := 50) (e := 51) (k := .u64) (by kernel_rfl) (by kernel_rfl) (g := m) (n := 512) (zs := List.replicate 512 0) ho (by rw [List.length_replicate]) (RowAt.keep (NumE.kept _) hws (below_keeps hw2)) hw2.size fun w3 e3 ho3 => ⟨_, rfl, by omega, ?_⟩
  have hpad : ws.take 512 ++ (List.replicate 512 (0 : Int)).drop l2 = padM 512 ws := by unfold padM; rw [List.drop_replicate, hll]
  rw [hpad] at ho3
  have hpl512 : (padM 512 ws).length = 512 := by unfold padM; simp; omega
  have hpwd : Wd (padM 512 ws) := fun x hx => by
    unfold padM at hx
    rcases List.mem_append.1 hx with h | h
    · exact hwd x (List.mem_of_mem_take h)
    · rw [(List.mem_replicate.1 h).2]; omega
  generalize padM 512 ws = mem at *
  have hw3 := e3.after (fun j hj => by subst hj; exact Nat.le_trans hw.size hm) hw2
  have hW3 : WordsAt w3 (some ⟨m, 0, none⟩) mem.length 512 mem := ⟨OwnI.nums (e := 51) ho3 (by simp only [maxLen]; omega), hpwd, by omega, by omega⟩
  have t40 : 0 ≤ Int.tmod (l2 : Int) 40 ∧ Int.tmod (l2 : Int) 40 < 40 := ⟨Int.tmod_nonneg _ (by omega), Int.tmod_lt_of_pos _ (by omega)⟩
  have k3 : ∀ q v, w1.cell? q = some v → w3.cell? q = some v := fun q v hq => e3.cell (e2.cell hq) (by have := cell_lt hq; omega)
  have hp3 := RowAt.keep FncE.kept hp1 k3
  have := call_stacked (w0 := w) (bs := [q11]) (P := C) (cap := c') hw3.size hp3 hs hpl (hfs.keep (below_keeps hw3)) (lo := Int.tmod (l2 : Int) 40) (by omega) hW3 (by omega) (K := fun v_3 w_4 =>
    ∃ (A44 : Option Addr) (A44l A44c : Nat) (A44_1 : Option Addr) (A44_1l A44_1c : Nat) (A44_2 : Option Addr) (A44_2l A44_2c : Nat) (x44 : Int), v_3 = .tuple ⟨[.slice A44 A44l A44c, .slice A44_1 A44_1l A44_1c, .slice A44_2 A44_2l A44_2c, .int .i64 x44]⟩ ∧
    ∃ k_1, V13.l0 w.heap.size (IsV w (.bool true)) k_1 A2 l2 c2 A3 l3 c3 top A44_2 A44_2l A44_2c A44_1 A44_1l A44_1c x44 0 q11 C p.length c' w_4) ?_
  · rw [hpl512] at this
    exact this
  intro xs FA fc TA tc MA mc w4 e4 hok hF hM hT
  refine ⟨_, _, _, _, _, _, _, _, _, _, rfl, ?_⟩
  have hw4 := e4.after hw3
  have hal := stk_ats_len p mem (Int.tmod (l2 : Int) 40) xs
  have hfew := hok.few
  have hall := stk_all hs hpl.2 t40.1 xs hok.may hok.wd hok.fin
  have h0 := hall.fin0
  have hfin := hok.fin
  have hw1s := e2.size
  have hw2s := e3.size
  have hw3s := e4.size
  have hMl := stk_mem_len p mem (Int.tmod (l2 : Int) 40) xs
  have hMw := stk_wd hpwd (by omega) hpl.2 (Int.tmod (l2 : Int) 40) xs hok.wd
  obtain ⟨gm, hMA, hgm, hM4⟩ : ∃ gm, MA = some ⟨gm, 0, none⟩ ∧ w1.heap.size ≤ gm ∧ w4.ownsRow w.heap.size 51 1 (.slice MA 512 mc) 512 ((stk p mem (Int.tmod (l2 : Int) 40) xs).mem.map (.int .u64)) := by
    rcases hM with ⟨rfl, rfl, rfl⟩ | h
    · exact ⟨m, rfl, hm, owns_of (k := .u64) (ho3.ext e4) hpl512 (Nat.le_trans hw.size hm) (by simp only [maxLen]; omega)⟩
    · unfold OwnWs at h
      rw [hMl, hpl512] at h
      obtain ⟨gm, cap, hv, hb, hle⟩ := owns_some h (by omega)
      cases hv
      exact ⟨gm, rfl, by omega, owns_base h (Nat.le_trans hw3.size (Nat.le_refl _))⟩
  subst hMA
  rw [hpl512]
  refine ⟨23, ?_⟩
  have := l0_13 (w0 := w) (P := C) (cap := c') hs hpl.2 hw.size hp1 hgm (ats := (stk p mem (Int.tmod (l2 : Int) 40) xs).ats) (TA := TA) (tc := tc) (by omega) (A2 := A2) (l2 := l2) (c2 := c2) hts (top := top) (fin := (stk p mem (Int.tmod (l2 : Int) 40) xs).fin) (by omega) (q11 := q11) 23 0 w4 (stk p mem (Int.tmod (l2 : Int) 40) xs).mem (by omega) (by omega) hw4 (by omega) hMw hM4 (fun q v hq => e4.cell (k3 q v hq)) (by rw [hal]; exact owns_base hT (by omega))
  rw [hal] at this
  exact this
end Go.Proofs.Ytlccbaemcfjdoaa
