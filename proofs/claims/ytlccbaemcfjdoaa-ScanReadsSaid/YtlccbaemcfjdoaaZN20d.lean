/-
  Layer 20: the law's function ScanReads returns true.
  Conditions: the numbers, and the words, lie in memory as told.
-/
import Derived.Test.YtlccbaemcfjdoaaZN20c
import Derived.Test.YtlccbaemcfjdoaaZW16
set_option linter.unusedVariables false
set_option linter.unusedSimpArgs false
namespace Go.Proofs.Ytlccbaemcfjdoaa
open Go.RowKit
theorem owns_keep {w w' : World} {B : Nat} {e : TypeId} {size : Nat} {v : Value} {n : Nat} {xs : List Value} (h : w.ownsRow B e size v n xs) (hw : ∀ k c t f, v.ownBlock = some k → w.heap[k]? = some (Obj.cells c t f) → t = e → w'.heap[k]? = some (Obj.cells c t f)) : w'.ownsRow B e size v n xs := by
  refine ⟨h.1, ?_⟩
  rcases h.2 with hn | ⟨g, cap, cur, rfl, hb, hgg, rest⟩
  · exact .inl hn
  · exact .inr ⟨g, cap, cur, rfl, hb, hw g _ _ _ rfl hgg rfl, rest⟩
theorem false_cells (n : Nat) : madeCells (Value.bool false).cells (n * 1) = ((List.replicate n false).map Value.bool).toArray := by
  apply Array.toList_inj.1
  simp only [madeCells, Array.toList_map, Array.toList_range, Nat.mul_one, List.map_replicate]
  rw [List.eq_replicate_iff]
  refine ⟨by simp, fun x hx => ?_⟩
  obtain ⟨j, _, rfl⟩ := List.mem_map.1 hx
  simp [Value.cells, Nat.mod_one]
theorem false_owns {w : World} {B gh n : Nat} {e : TypeId} (ho : w.heap[gh]? = some (.cells ((List.replicate n false).map Value.bool).toArray e (0, 0))) (hb : B ≤ gh) (hn : n ≤ maxLen) : w.ownsRow B e 1 (.slice (some ⟨gh, 0, none⟩) n n) n ((List.replicate n false).map Value.bool) :=
  ⟨by simp, .inr ⟨gh, n, _, rfl, hb, ho, Nat.le_refl _, hn, by simp, by simp⟩⟩
theorem Walks.setB {wl wp w : World} {g : Nat} {p : List Fnc} {s : Wk} {RA : Option Addr} {rc : Nat} (h : Walks wl wp w g p s RA rc) {gh i : Nat} {v : Value} (hgh : wl.heap.size ≤ gh) (hg : g < wl.heap.size) {c : Array Value} {t : TypeId} {f : Nat × Nat} (hrow : w.heap[gh]? = some (.cells c t f)) (ht : t ≠ 51) : Walks wl wp (w.setCell ⟨gh, i, none⟩ v) g p s RA rc := by
  obtain ⟨C, cc, K, kc, h1, h2, h3⟩ := h.at_.cells
  have hlt := h.at_.base.lt
  refine ⟨⟨⟨C, cc, K, kc, by rw [at_other (by omega)]; exact h1, h2, h3⟩, ⟨owns_other h.at_.base.row fun k hk => at_other fun e => ?_, fun q u hq => (cell_same (at_other (by have := cell_lt hq; omega))).trans (h.at_.base.sub q u hq), hlt⟩⟩, fun k c' t' f' hk => ?_, h.own, by simpa using h.le⟩
  · subst e
    exact other_own h.at_.base.row (ts := [t]) (by simpa using Ne.symm ht) _ _ _ _ hk hrow (by simp)
  · rw [at_other (by have := lt_of_some (off_row.1 hk).1; omega)]
    exact h.has _ _ _ _ hk
section
variable {w0 wl wp : World} {p : List Fnc} {mem0 : List Int} {lo : Int} {xs : List Frm} {P FA TA : Option Addr} {g b m pc fc tc q9 gw gh : Nat}
theorem l3_16 (hY : YardAt (off gw wl) p mem0 lo xs P FA TA g b m) (hp : w0.heap.size ≤ wp.heap.size) (hgw : gw < wl.heap.size) (hgh : wl.heap.size ≤ gh) (hB : w0.heap.size ≤ wl.heap.size) {y6 y7 : Int} :
    ∀ (k i : Nat) (w : World) (RA : Option Addr) (rc : Nat) (hs : List Bool), countX p xs xs.length < i + k → i ≤ countX p xs xs.length → Below w0.heap.size w0 w → Walks wl wp w gw p (runW p (stk p mem0 lo xs).mem i (wk0 (stk p mem0 lo xs).below)).1 RA rc →
      w.ownsRow w0.heap.size 4 1 (.slice (some ⟨gh, 0, none⟩) 1024 1024) 1024 (hs.map .bool) → (∀ j : Nat, hs[j]? = some true → ∃ (i' : Nat) (l : LookW), i' < i ∧ (runW p (stk p mem0 lo xs).mem (countX p xs xs.length) (wk0 (stk p mem0 lo xs).below)).2[i']? = some l ∧ l.1 = j) →
      V16.l3 w0.heap.size (IsV w0 (.bool true)) k ⟨gw, 0, none⟩ (countX p xs xs.length : Nat) (stk p mem0 lo xs).fin (some ⟨gh, 0, none⟩) 1024 1024 i q9 P p.length pc ⟨g, 0, none⟩ (some ⟨m, 0, none⟩) 1024 1024 FA xs.length fc TA xs.length tc lo y6 y7 w := by
  have hcount := hY.count
  have hrun := hY.run
  have hbel := hY.below_bd
  have hml := hY.mlen
  have hfin := hY.ok.fin
  have hlen0 := hY.len
  have hlo := hY.lo0
  intro k
  induction k with
  | zero => intros; omega
  | succ k ih =>
    intro i w RA rc hs hk hi hw hW hH hold
    have hro := run_ok hY.arena.wd (by omega) hY.sized (wk0_in (top := (stk p mem0 lo xs).below) _ (by omega)) i
    have hok : WkOk (stk p mem0 lo xs).mem.length (runW p (stk p mem0 lo xs).mem i (wk0 (stk p mem0 lo xs).below)).1 := ⟨by have := hro.2; simp only [wk0, List.length_nil] at this; unfold wk0; omega, hro.1⟩
    have hsl : hs.length = 1024 := by have := hH.1; simpa using this
    dsimp -zeta only [V16.l3]
    by_cases hlt : i < countX p xs xs.length
    · rw [if_pos (decide_eq_true (by omega))]
      have hg := runW_get (p := p) (mem := (stk p mem0 lo xs).mem) _ (wk0 (stk p mem0 lo xs).below) hlt
      have hz := hrun.zero _ (List.mem_of_getElem? hg)
      have hin := hrun.ins _ (List.mem_of_getElem? hg)
      have hlk := run_look hrun (fun h => by omega) (.inl hlt)
      have l1 := hlk.2.1
      clear hlk
      refine call_stepX hw hW hp hY.arena hok hY.sized hY.pl fun RA' rc' w1 hW1 hw1 hrows => ⟨_, _, _, rfl, ?_⟩
      rw [show (stepW p (stk p mem0 lo xs).mem (runW p (stk p mem0 lo xs).mem i (wk0 (stk p mem0 lo xs).below)).1).1 = (runW p (stk p mem0 lo xs).mem (i + 1) (wk0 (stk p mem0 lo xs).below)).1 by rw [runW_succ]] at hW1
      generalize (stepW p (stk p mem0 lo xs).mem (runW p (stk p mem0 lo xs).mem i (wk0 (stk p mem0 lo xs).below)).1).2 = L at *
      obtain ⟨x, d, e⟩ := L
      simp only at hz hin l1
      subst hz
      have hH1 := owns_keep hH fun k c t f hkk hr ht => hrows k c t f hr (by have hk2 : gh = k := Option.some.inj hkk; omega) (by rw [ht]; decide)
      rw [if_pos (decide_eq_false (by omega)), if_pos (decide_eq_false (by omega))]
      obtain ⟨j, hj, hjl⟩ : ∃ j : Nat, x = j ∧ j < 1024 := ⟨x.toNat, by omega, by omega⟩
      subst hj
      have hsj : hs[j]? = some false := by
        rw [List.getElem?_eq_getElem (by omega)]
        cases hb : hs[j]'(by omega) with
        | false => rfl
        | true =>
          obtain ⟨i', l, hi', hl, hlj⟩ := hold j (by rw [List.getElem?_eq_getElem (by omega), hb])
          have hnd := List.pairwise_iff_getElem.1 hrun.nodup
          have hll := runW_len (p := p) (mem := (stk p mem0 lo xs).mem) (countX p xs xs.length) (wk0 (stk p mem0 lo xs).below)
          have := hnd i' i (by rw [List.length_map]; omega) (by rw [List.length_map]; omega) hi'
          have e1 := (List.getElem?_eq_some_iff.1 hl).2
          have e2 := (List.getElem?_eq_some_iff.1 hg).2
          simp only [List.getElem_map, e1, e2, hlj] at this
          exact absurd rfl this
      refine ⟨_, rfl, by omega, by omega, false, ?_, ?_⟩
      · simp only [own_add, Int.toNat_natCast]
        exact owns_cell hH1 (by rw [List.getElem?_map, hsj]; rfl)
      rw [if_pos rfl]
      have hn1 : IntKind.wrap .i64 ((countX p xs xs.length : Nat) - 1 : Int) = (countX p xs xs.length : Nat) - 1 := wrap_id (by omega) (by omega)
      rw [hn1, if_pos (by
        rw [l1]
        by_cases h : countX p xs xs.length ≤ i + 1
        · have : (i : Int) = (countX p xs xs.length : Nat) - 1 := by omega
          simp [h, this]
        · have : ¬ (i : Int) = (countX p xs xs.length : Nat) - 1 := by omega
          simp [h, this]), if_neg (by simp)]
      refine ⟨_, rfl, by omega, by omega, ?_⟩
      simp only [own_add, bx_add, Nat.add_zero, Nat.zero_add, Int.toNat_natCast]
      have hcell : w1.cell? ⟨gh, j, none⟩ = some (.bool false) := owns_cell hH1 (by rw [List.getElem?_map, hsj]; rfl)
      refine ⟨⟨_, hcell⟩, owns_frozen hH1 _, ?_⟩
      have hset := owns_set hH1 j (.bool true) (by omega)
      rw [← List.map_set] at hset
      have hwi : IntKind.wrap .i64 ((i : Int) + 1) = ((i + 1 : Nat) : Int) := by rw [wrap_id (by omega) (by omega)]; rfl
      rw [hwi]
      obtain ⟨c, t, f, hrow⟩ := cell_block hcell
      have ht : t ≠ 51 := fun e => by
        subst e
        exact other_own hH1 (ts := [51]) (by simp) _ _ _ _ rfl hrow (by simp)
      refine ih (i + 1) _ RA' rc' (hs.set j true) (by omega) (by omega) (hw1.setCell (Nat.le_trans hB hgh) _) (hW1.setB hgh hgw hrow ht) hset fun j' hj' => ?_
      rw [List.getElem?_set] at hj'
      by_cases hjj : j = j'
      · subst hjj
        exact ⟨i, _, by omega, hg, rfl⟩
      · rw [if_neg hjj] at hj'
        obtain ⟨i', l, h1, h2, h3⟩ := hold j' hj'
        exact ⟨i', l, by omega, h2, h3⟩
    · rw [if_neg (by simpa using hlt)]
      obtain rfl : i = countX p xs xs.length := by omega
      have hst : stepW p (stk p mem0 lo xs).mem (runW p (stk p mem0 lo xs).mem (countX p xs xs.length) (wk0 (stk p mem0 lo xs).below)).1 = ((runW p (stk p mem0 lo xs).mem (countX p xs xs.length) (wk0 (stk p mem0 lo xs).below)).1, (-1, true, 0)) := by
        unfold stepW; rw [if_pos hrun.at_]
      refine call_stepW hw hW hp hY.arena hok hY.sized hY.pl fun RA' rc' w1 hW1 hw1 => ⟨_, _, _, rfl, ?_⟩
      rw [hst, if_pos (by simp), if_pos rfl, if_pos (by simp)]
      have hY1 := hY.has hW1.has
      refine call_gives hw1 (fun w2 e2 _ => gives46 (hY1.has e2.has).arena (hY1.has e2.has).mems.nums) fun w2 e2 hw2 => ⟨_, rfl, ?_⟩
      rw [if_pos (by simp)]
      exact call_gives hw2 (fun w3 _ _ => gives65 w3) fun w3 _ hw3 => ⟨_, rfl, ret_is hw3 rfl⟩
theorem l2_16 (hp : w0.heap.size ≤ wp.heap.size) {wy : World} (hY : YardAt wy p mem0 lo xs P FA TA g b m) (hwy : wy.heap.size ≤ gw) {y6 y7 : Int} (hy7 : y7 = (stk p mem0 lo xs).below) :
    ∀ (k i : Nat) (w : World), xs.length < i + k → i ≤ xs.length → Below w0.heap.size w0 w → Has wy w → WalkerAt wp w gw p (wk0 (stk p mem0 lo xs).below) none 0 →
      V16.l2 w0.heap.size (IsV w0 (.bool true)) k ⟨gw, 0, none⟩ (countX p xs i : Nat) (stk p mem0 lo (xs.take i)).fin i q9 P p.length pc ⟨g, 0, none⟩ (some ⟨m, 0, none⟩) 1024 1024 FA xs.length fc TA xs.length tc lo y6 y7 w := by
  have hfew := hY.ok.few
  have hfin := hY.ok.fin
  have hlen0 := hY.len
  have hlo := hY.lo0
  intro k
  induction k with
  | zero => intros; omega
  | succ k ih =>
    intro i w hk hi hw hH hW
    have hY' := hY.has hH
    have hci := countX_le hY.sized hY.ok.may i hi
    dsimp -zeta only [V16.l2]
    by_cases hlt : i < xs.length
    · rw [if_pos (by simpa using hlt)]
      obtain ⟨x, q, hx, hq, s, hcell, hfr⟩ := RowAt.at (hY'.frms) hlt
      have hm := hY.ok.may x (List.mem_of_getElem? hx)
      obtain ⟨G, h0', hG, hfn, a1, a2, a3, a4, a5, a6, a7, a8⟩ := may_some hm
      have hGs := hY.sized G (List.mem_of_getElem? hG)
      have hbd := sized_bd hGs
      obtain ⟨G', q', C, cc, hG', hq', c0, cl1, cl2, c3, hcode⟩ := prog_at hY'.prog' (i := x.f.toNat) (List.getElem?_eq_some_iff.1 hG).1
      rw [hG] at hG'; cases hG'
      have hfl := (List.getElem?_eq_some_iff.1 hG).1
      have hcf : w.cell? ((q.add (((i : Nat) : Int).toNat * 8)).add 0) = some (.int .i64 x.f) := by rw [Int.toNat_natCast]; exact off_in _ _ (hcell 0 _ rfl)
      obtain ⟨a, qa, ha, hqa, hca⟩ := Nums.at hY'.ats hlt
      have hat := stk_at p mem0 lo xs i hlt
      rw [ha] at hat
      obtain rfl : a = (stk p mem0 lo (xs.take i)).fin := by simpa using hat
      have hca' : w.cell? (qa.add (((i : Nat) : Int).toNat)) = some (.int .i64 (stk p mem0 lo (xs.take i)).fin) := by rw [Int.toNat_natCast]; exact off_in _ _ hca
      refine ⟨q, hq, by omega, by omega, x.f, hcf, q', hq', by omega, by omega, G.refs, cl2, qa, hqa, by omega, by omega, _, hca', q, hq, by omega, by omega, x.f, hcf, q', hq', by omega, by omega, G.params, c0, G.locals, cl1, G.refs, cl2, C, G.code.length, cc, c3, ?_⟩
      refine call_gives hw (fun w1 e1 _ => gives33 (RowAt.keep InsE.kept hcode (ext_keeps e1)) _ _ _) fun w1 e1 hw1 => ⟨_, rfl, e1.cell hca', ?_⟩
      have hstep : stepsX p x = 2 + G.refs.toNat := by unfold stepsX; rw [hfn]
      have hc1 : countX p xs (i + 1) = countX p xs i + (2 + G.refs.toNat) := by
        unfold countX
        rw [List.take_add_one, hx]
        simp [hstep]
      have hf1 : (stk p mem0 lo (xs.take (i + 1))).fin = (stk p mem0 lo (xs.take i)).fin + sizeF G := by
        rw [List.take_add_one, hx]
        show (stk p mem0 lo (xs.take i ++ [x])).fin = _
        rw [stk_snoc]
        show _ + sizeX p x = _
        rw [sizeX_eq hfn]
      have hfit := hY.all.fit i x _ hx ha
      rw [sizeX_eq hfn] at hfit
      have hsF := sizeF_eq hGs
      have hah : 7 ≤ aheadM G ∧ aheadM G ≤ 23 := by unfold aheadM; split <;> omega
      have hwi : IntKind.wrap .i64 ((i : Int) + 1) = ((i + 1 : Nat) : Int) := by rw [wrap_id (by omega) (by omega)]; rfl
      have hwn : IntKind.wrap .i64 (IntKind.wrap .i64 (((countX p xs i : Nat) : Int) + 2) + G.refs) = ((countX p xs (i + 1) : Nat) : Int) := by rw [wrap_id (n := ((countX p xs i : Nat) : Int) + 2) (by omega) (by omega), wrap_id (by omega) (by omega)]; omega
      have hwe : IntKind.wrap .i64 ((stk p mem0 lo (xs.take i)).fin + sizeM G.locals G.code) = (stk p mem0 lo (xs.take (i + 1))).fin := by
        rw [hf1]
        unfold sizeF at hsF hfit ⊢
        exact wrap_id (by omega) (by omega)
      rw [hwi, hwn, hwe]
      exact ih (i + 1) w1 (by omega) (by omega) hw1 (hH.trans e1.has) (hW.ext e1)
    · rw [if_neg (by simpa using hlt)]
      obtain rfl : i = xs.length := by omega
      have hb1 : Try.t4.bytes = 1 := by kernel_rfl
      refine make_own (t := 45) (e := 4) (i := Try.t4) (z := .bool false) (size := 1) (n := 1024) (by kernel_rfl) (by kernel_rfl) (by kernel_rfl) (by kernel_rfl) (by rw [hb1]; omega) (by simp only [maxLen]; omega) hw.size fun gh w1 hgh e1 ho => ⟨_, _, _, rfl, ?_⟩
      rw [false_cells] at ho
      have hw1 := e1.after hw
      obtain ⟨C, cc, K, kc, hgr, _⟩ := hW.cells
      have hgl := lt_of_some hgr
      rw [List.take_length]
      have hW1 : Walks w wp w1 gw p (wk0 (stk p mem0 lo xs).below) none 0 := (Walks.new hW).ext e1
      have hown : w1.ownsRow w0.heap.size 4 1 (.slice (some ⟨gh, 0, none⟩) 1024 1024) 1024 ((List.replicate 1024 false).map Value.bool) := false_owns ho (Nat.le_trans hw.size hgh) (by simp only [maxLen]; omega)
      refine ⟨countX p xs xs.length + 1, ?_⟩
      have hHo : Has wy (off gw w) := fun k c t f hk => off_row.2 ⟨hH _ _ _ _ hk, by have := lt_of_some hk; omega⟩
      exact l3_16 (hY.has hHo) hp hgl hgh hw.size (countX p xs xs.length + 1) 0 w1 none 0 (List.replicate 1024 false) (by omega) (by omega) hw1 hW1 hown fun j hj => by
        rw [List.getElem?_replicate] at hj
        split at hj <;> cases hj
end
theorem gives16 {w : World} {A A1 A2 : Option Addr} {l c l1 c1 l2 c2 : Nat} {ns fs ws : List Int} (hns : BytesAt w A l c ns) (hfs : BytesAt w A1 l1 c1 fs) (hws : Nums .u64 w A2 l2 ws) (hwd : Wd ws) {lo : Int} (hlo : 0 ≤ lo ∧ lo < 256) :
    Gives Try.prog 16 [.slice A l c, .slice A1 l1 c1, .slice A2 l2 c2, .int .u8 lo] w (.bool true) := by
  refine gives_of (V16.sound ?_)
  unfold V16.vc
  refine call_yard (Nat.le_refl _) hns hfs hws hwd hlo (by omega) fun p P pc xs FA fc TA tc g b m w1 e1 hY0 => ⟨_, _, _, _, _, _, _, _, _, _, _, _, _, _, _, _, _, rfl, ?_⟩
  intro q9 _
  show V16.b0 _ _ true q9 P p.length pc ⟨g, 0, none⟩ (some ⟨m, 0, none⟩) 1024 1024 FA xs.length fc TA xs.length tc _ _ _ w1
  unfold V16.b0
  rw [if_neg (by simp)]
  have hw1 := e1.after (Below.refl _ _)
  have hY := hY0.has (has_newW _ _)
  refine call_neww hw1.size hY.prog' hY.sized hY.pl fun wp gw w2 e2 hwp _ hW => ⟨_, rfl, ?_⟩
  show V16.b1 _ _ ⟨gw, 0, none⟩ q9 P p.length pc ⟨g, 0, none⟩ (some ⟨m, 0, none⟩) 1024 1024 FA xs.length fc TA xs.length tc _ _ _ w2
  unfold V16.b1
  refine ⟨xs.length + 1, ?_⟩
  exact l2_16 (Nat.le_trans hw1.size hwp) hY (by have := hW.base.lt; omega) rfl (xs.length + 1) 0 w2 (by omega) (by omega) (e2.after hw1) e2.has hW
end Go.Proofs.Ytlccbaemcfjdoaa
