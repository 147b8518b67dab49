/-
  Layer 19: the law's functions MoveKeeps, MoveBack return true.
  Conditions: the numbers, and the words, lie in memory as told.
-/
import Derived.Test.YtlccbaemcfjdoaaZN19b
import Derived.Test.YtlccbaemcfjdoaaZW26
import Derived.Test.YtlccbaemcfjdoaaZW27
set_option linter.unusedVariables false
set_option linter.unusedSimpArgs false
set_option maxRecDepth 100000
namespace Go.Proofs.Ytlccbaemcfjdoaa
open Go.RowKit
def placeM (lo W far words : Int) : Int := if lo ≥ words then Int.tmod far (lo - words + 1) else lo + W + Int.tmod far (if 1 > 1024 - words - lo - W + 1 then 1 else 1024 - words - lo - W + 1)
theorem gives80 {w : World} {y0 : Option Addr} {y0l y0c : Nat} {y1 : Addr} {y2 : Option Addr} {y2l y2c : Nat} {y3 : Option Addr} {y3l y3c : Nat} {y4 : Option Addr} {y4l y4c : Nat} {lo W top far words : Int} (hlo : 0 ≤ lo ∧ lo ≤ 1024) (hW : 1 ≤ W ∧ W ≤ 1024) (hfar : 0 ≤ far ∧ far < 256) (hwo : 1 ≤ words ∧ words ≤ 2000) :
    Gives Try.prog 80 [.agg ⟨[.slice y0 y0l y0c, .pointer (some y1), .slice y2 y2l y2c, .slice y3 y3l y3c, .slice y4 y4l y4c, .int .i64 lo, .int .i64 W, .int .i64 top]⟩, .int .u8 far, .int .i64 words] w (.int .i64 (placeM lo W far words)) := by
  refine gives_of (V80.sound ?_)
  intro q3 _
  unfold placeM
  rw [wrap_id (n := far) (by omega) (by omega), wrap_id (n := lo - words) (by omega) (by omega), wrap_id (n := lo - words + 1) (by omega) (by omega), wrap_id (n := 1024 - words) (by omega) (by omega), wrap_id (n := 1024 - words - lo) (by omega) (by omega), wrap_id (n := 1024 - words - lo - W) (by omega) (by omega), wrap_id (n := 1024 - words - lo - W + 1) (by omega) (by omega)]
  by_cases h : lo ≥ words
  · rw [if_pos (decide_eq_true h), if_pos h]
    exact ⟨by omega, ret_is (Below.refl _ _) rfl⟩
  · rw [if_neg (by simpa using h), if_neg h]
    have hm : 1 ≤ (if 1 > 1024 - words - lo - W + 1 then 1 else 1024 - words - lo - W + 1) ∧ (if 1 > 1024 - words - lo - W + 1 then 1 else 1024 - words - lo - W + 1) ≤ 2000 := by split <;> omega
    generalize (if 1 > 1024 - words - lo - W + 1 then 1 else 1024 - words - lo - W + 1) = m at hm ⊢
    have ht : 0 ≤ Int.tmod far m ∧ Int.tmod far m < m := ⟨Int.tmod_nonneg _ hfar.1, Int.tmod_lt_of_pos _ (by omega)⟩
    rw [wrap_id (n := lo + W) (by omega) (by omega), wrap_id (n := lo + W + Int.tmod far m) (by omega) (by omega)]
    exact ⟨by omega, ret_is (Below.refl _ _) rfl⟩
theorem place_apart {lo W far words : Int} (hlo : 0 ≤ lo) (hW : 1 ≤ W) (hfar : 0 ≤ far) (hwo : 1 ≤ words) : 0 ≤ placeM lo W far words ∧ (placeM lo W far words + words ≤ lo ∨ lo + W ≤ placeM lo W far words) := by
  unfold placeM
  split
  · have ht : 0 ≤ Int.tmod far (lo - words + 1) ∧ Int.tmod far (lo - words + 1) < lo - words + 1 := ⟨Int.tmod_nonneg _ hfar, Int.tmod_lt_of_pos _ (by omega)⟩
    omega
  · have hm : 1 ≤ (if 1 > 1024 - words - lo - W + 1 then 1 else 1024 - words - lo - W + 1) := by split <;> omega
    have ht := Int.tmod_nonneg (if 1 > 1024 - words - lo - W + 1 then 1 else 1024 - words - lo - W + 1) hfar
    omega
section
variable {w0 : World} {p : List Fnc} {xs : List Frm} {P FA TA : Option Addr} {g b pc fc tc : Nat} {M : List Int} {ats0 ats1 : List Int} {d ylo : Int}
theorem b1_81 {w : World} (hw : Below w0.heap.size w0 w) (hF : Frms w FA xs.length xs) (hT : Nums .i64 w TA xs.length ats0) (hsh : ∀ (i : Nat) (a : Int), ats0[i]? = some a → ats1[i]? = some (a + d)) {slo W top W2 top2 : Int} (hsl : slo = ylo + d) {LA : Option Addr} {lc : Nat} (hL : Nums .i64 w LA xs.length ats1.reverse) (hl1 : ats1.length = xs.length) (hn : xs.length ≤ 1000)
    {i : Nat} (hi : i < xs.length) {x : Frm} (hx : xs[i]? = some x) {s : Sls} (hf : FrmAt w x s) {L0 : Option Addr → Nat → Nat → Int → Nat → Int → Int → Int → Nat → Option Addr → Nat → Nat → Addr → Option Addr → Nat → Nat → Option Addr → Nat → Nat → Option Addr → Nat → Nat → Int → Int → Int → World → Prop} {q8 q3 q2 : Nat} {a1 : Addr} {M0 : Option Addr} {ml mc : Nat}
    (hk : ∀ w', Ext w0.heap.size w w' → L0 LA xs.length lc ((i + 1 : Nat) : Int) q3 slo W top q2 P p.length pc a1 M0 ml mc FA xs.length fc TA xs.length tc ylo W2 top2 w') :
    V81.b1 w0.heap.size (IsV w0 (.bool true)) L0 LA xs.length lc i 0 q8 x.f x.pc x.mode x.dfd x.value s.D x.dfs.length s.dc s.L x.locals.length s.lc s.O x.ops.length s.oc q3 slo W top q2 P p.length pc a1 M0 ml mc FA xs.length fc TA xs.length tc ylo W2 top2 w := by
  unfold V81.b1
  rw [if_pos (by simp)]
  obtain ⟨x', q, hx', hq, t, hcell, hfr⟩ := RowAt.at hF hi
  rw [hx] at hx'; cases hx'
  have c : ∀ j u, (frmC x t)[j]? = some u → w.cell? ((q.add (((i : Nat) : Int).toNat * 8)).add j) = some u := fun j u hu => by rw [Int.toNat_natCast]; exact hcell j u hu
  refine ⟨q, hq, by omega, by omega, _, c 0 _ rfl, _, c 1 _ rfl, _, c 2 _ rfl, _, c 3 _ rfl, _, c 4 _ rfl, _, _, _, c 5 _ rfl, _, _, _, c 6 _ rfl, _, _, _, c 7 _ rfl, ?_⟩
  refine call_gives hw (fun w1 e1 _ => gives56 (x := x) (s := s) (t := t) (hf.keep (ext_keeps e1)) (hfr.keep (ext_keeps e1))) fun w1 e1 hw1 => ⟨_, rfl, ?_⟩
  rw [if_pos (by simp)]
  have hT1 := RowAt.keep (NumE.kept _) hT (ext_keeps e1)
  have hL1 := RowAt.keep (NumE.kept _) hL (ext_keeps e1)
  obtain ⟨a, qa, ha, hqa, hca⟩ := Nums.at hT1 hi
  have hidx : IntKind.wrap .i64 (IntKind.wrap .i64 ((xs.length : Int) - 1) - i) = ((xs.length - 1 - i : Nat) : Int) := by rw [wrap_id (n := (xs.length : Int) - 1) (by omega) (by omega), wrap_id (by omega) (by omega)]; omega
  rw [hidx]
  obtain ⟨y, ql, hy, hql, hcl⟩ := Nums.at hL1 (i := xs.length - 1 - i) (by omega)
  rw [List.getElem?_reverse (by omega), hl1, show xs.length - 1 - (xs.length - 1 - i) = i by omega, hsh i a ha] at hy
  obtain rfl : a + d = y := by simpa using hy
  refine ⟨ql, hql, by omega, by omega, _, by rw [Int.toNat_natCast]; exact hcl, qa, hqa, by omega, by omega, a, by rw [Int.toNat_natCast]; exact hca, ?_⟩
  rw [show a + d - slo = a - ylo by omega, if_neg (by simp)]
  have hwi : IntKind.wrap .i64 ((i : Int) + 1) = ((i + 1 : Nat) : Int) := by rw [wrap_id (by omega) (by omega)]; rfl
  rw [hwi]
  exact hk w1 e1
theorem l0_81 (hs : Sized p) (hpl : p.length ≤ 1000) (hc : FrmChain p M xs ats1) (hsh : ∀ (i : Nat) (a : Int), ats0[i]? = some a → ats1[i]? = some (a + d)) {slo W top W2 top2 : Int} (hsl : slo = ylo + d) (hn : xs.length ≤ 1000) {LA : Option Addr} {lc q3 q2 : Nat} {M0 : Option Addr} {ml mc : Nat} :
    ∀ (k i : Nat) (w : World), xs.length < i + k → i ≤ xs.length → Below w0.heap.size w0 w → ArenaAt w g b M → ProgAt w P p.length p → Frms w FA xs.length xs → Nums .i64 w TA xs.length ats0 → Nums .i64 w LA xs.length ats1.reverse →
      V81.l0 w0.heap.size (IsV w0 (.bool true)) k LA xs.length lc i q3 slo W top q2 P p.length pc ⟨g, 0, none⟩ M0 ml mc FA xs.length fc TA xs.length tc ylo W2 top2 w := by
  have hl1 := hc.len
  intro k
  induction k with
  | zero => intros; omega
  | succ k ih =>
    intro i w hk hi hw ha hp hF hT hL
    dsimp -zeta only [V81.l0]
    by_cases hlt : i < xs.length
    · rw [if_pos (by simpa using hlt)]
      have hidx : IntKind.wrap .i64 (IntKind.wrap .i64 ((xs.length : Int) - 1) - i) = ((xs.length - 1 - i : Nat) : Int) := by rw [wrap_id (n := (xs.length : Int) - 1) (by omega) (by omega), wrap_id (by omega) (by omega)]; omega
      rw [hidx]
      obtain ⟨y, ql, hy, hql, hcl⟩ := Nums.at hL (i := xs.length - 1 - i) (by omega)
      have hx : xs[i]? = some (xs[i]'hlt) := List.getElem?_eq_getElem _
      generalize xs[i]'hlt = x at hx
      rw [List.getElem?_reverse (by omega), hl1, show xs.length - 1 - (xs.length - 1 - i) = i by omega] at hy
      have hm := List.mem_of_getElem? hx
      have hrd := (hc.frm i x y hx hy).read hs hpl (hc.may x hm) (hc.wd x hm)
      have hb : ∀ (bs : List Nat), CallK Try.prog 54 [.pointer (some ⟨g, 0, none⟩), .agg ⟨[.slice P p.length pc]⟩, .int .i64 y] w0.heap.size w bs fun v w' => ∃ s, v = .tuple ⟨[frmV x s, .int .i64 (prevA ats1 i), .int .i64 0]⟩ ∧ Ext w0.heap.size w w' ∧ FrmAt w' x s := fun bs => by
        refine call_read hw.size ha hp hs hpl fun s w1 e1 hf => ?_
        rw [hrd] at hf ⊢
        exact ⟨s, rfl, e1, hf.keep newW_in⟩
      have hc' : w.cell? (ql.add (((xs.length - 1 - i : Nat) : Int).toNat)) = some (.int .i64 y) := by rw [Int.toNat_natCast]; exact hcl
      have fin : ∀ (w1 : World) (s : Sls) (q8 : Nat), Ext w0.heap.size w w1 → FrmAt w1 x s → V81.b1 w0.heap.size (IsV w0 (.bool true)) (V81.l0 w0.heap.size (IsV w0 (.bool true)) k) LA xs.length lc i 0 q8 x.f x.pc x.mode x.dfd x.value s.D x.dfs.length s.dc s.L x.locals.length s.lc s.O x.ops.length s.oc q3 slo W top q2 P p.length pc ⟨g, 0, none⟩ M0 ml mc FA xs.length fc TA xs.length tc ylo W2 top2 w1 := fun w1 s q8 e1 hf => by
        refine b1_81 (e1.after hw) (RowAt.keep FrmE.kept hF (ext_keeps e1)) (RowAt.keep (NumE.kept _) hT (ext_keeps e1)) hsh hsl (RowAt.keep (NumE.kept _) hL (ext_keeps e1)) hl1 hn hlt hx hf fun w2 e2 => ?_
        have E := e1.trans e2
        exact ih (i + 1) w2 (by omega) (by omega) (E.after hw) (ha.ext E) (RowAt.keep FncE.kept hp (ext_keeps E)) (RowAt.keep FrmE.kept hF (ext_keeps E)) (RowAt.keep (NumE.kept _) hT (ext_keeps E)) (RowAt.keep (NumE.kept _) hL (ext_keeps E))
      refine ⟨⟨ql, hql, by omega, by omega, y, hc', ?_⟩, ql, hql, by omega, by omega, y, hc', ?_⟩
      · refine callK_mono (hb _) fun v w1 ⟨s, hv, e1, hf⟩ => ?_
        subst hv
        refine ⟨_, _, _, _, _, _, _, _, _, _, _, _, _, _, _, _, rfl, ?_⟩
        intro q8 _
        exact fin w1 s q8 e1 hf
      · intro q8 _
        refine ⟨hc', ?_⟩
        refine callK_mono (hb _) fun v w1 ⟨s, hv, e1, hf⟩ => ?_
        subst hv
        exact ⟨_, _, _, _, _, _, _, _, _, _, _, _, _, _, _, _, rfl, fin w1 s q8 e1 hf⟩
    · rw [if_neg (by simpa using hlt)]
      exact ret_is hw rfl
theorem gives81 {w : World} (ha : ArenaAt w g b M) (hp : ProgAt w P p.length p) (hs : Sized p) (hpl : p.length ≤ 1000) (hF : Frms w FA xs.length xs) (hT : Nums .i64 w TA xs.length ats0) (hc : FrmChain p M xs ats1) (hsh : ∀ (i : Nat) (a : Int), ats0[i]? = some a → ats1[i]? = some (a + d)) {s : St} (hsl : s.lo = ylo + d) (ht : s.top = prevA ats1 xs.length) (hn : xs.length ≤ 60) {M0 : Option Addr} {ml mc : Nat} {W2 top2 : Int} :
    Gives Try.prog 81 [.agg ⟨[.slice P p.length pc, .pointer (some ⟨g, 0, none⟩), .slice M0 ml mc, .slice FA xs.length fc, .slice TA xs.length tc, .int .i64 ylo, .int .i64 W2, .int .i64 top2]⟩, stV s] w (.bool true) := by
  refine gives_of (V81.sound ?_)
  intro q2 _ q3 _
  have hml := ha.len
  refine call_walk (Nat.le_refl _) ha hp hs hpl fun A c w1 e1 hN => ⟨_, _, _, _, rfl, ?_⟩
  have hwk := walkM_chain hs hpl hc (by omega)
  rw [ht, hwk] at hN ⊢
  simp only at hN ⊢
  have hw1 := e1.after (Below.refl _ _)
  have hl := hc.len
  rw [if_pos (by simp), if_neg (by simp [hl])]
  refine ⟨xs.length + 1, ?_⟩
  have hrl : ats1.reverse.length = xs.length := by simp [hl]
  rw [hrl] at hN ⊢
  exact l0_81 hs hpl hc hsh hsl (by omega) (xs.length + 1) 0 w1 (by omega) (by omega) hw1 (ha.ext e1) (RowAt.keep FncE.kept hp (ext_keeps e1)) (RowAt.keep FrmE.kept hF (ext_keeps e1)) (RowAt.keep (NumE.kept _) hT (ext_keeps e1)) (RowAt.keep (NumE.kept _) hN newW_in)
end
section
variable {w0 wy : World} {p : List Fnc} {mem0 : List Int} {lo : Int} {xs : List Frm} {P FA TA : Option Addr} {g b m pc fc tc : Nat}
theorem YardAt.off {w : World} (h : YardAt w p mem0 lo xs P FA TA g b m) {w' : World} (hH : Has (off b w) w') : ProgAt w' P p.length p ∧ Frms w' FA xs.length xs ∧ Nums .i64 w' TA xs.length (stk p mem0 lo xs).ats :=
  ⟨RowAt.keep FncE.kept h.prog hH.cell, RowAt.keep FrmE.kept h.frms hH.cell, RowAt.keep (NumE.kept _) h.ats hH.cell⟩
end
section
variable {w0 wy : World} {p : List Fnc} {mem0 : List Int} {lo : Int} {xs : List Frm} {P FA TA : Option Addr} {g b m pc fc tc : Nat}
theorem l2_27 (hY : YardAt wy p mem0 lo xs P FA TA g b m) {W : Int} {M2 : List Int} (hM2l : M2.length = 1024) (hback : ∀ j : Nat, lo ≤ (j : Int) → (j : Int) < (stk p mem0 lo xs).fin → M2.getD j 0 = (stk p mem0 lo xs).mem.getD j 0) {q19 q13 : Nat} :
    ∀ (k i : Nat) (w : World), (stk p mem0 lo xs).fin < i + k → (lo ≤ i ∧ i ≤ (stk p mem0 lo xs).fin) → Below w0.heap.size w0 w → Has (off b wy) w → ArenaAt w g b M2 →
      V27.l2 w0.heap.size (IsV w0 (.bool true)) k (stk p mem0 lo xs).fin i q19 lo W (prevA (stk p mem0 lo xs).ats xs.length) q13 P p.length pc ⟨g, 0, none⟩ (some ⟨m, 0, none⟩) 1024 1024 FA xs.length fc TA xs.length tc lo W (prevA (stk p mem0 lo xs).ats xs.length) w := by
  have hYs := hY.stackIn
  have h1 := hYs.le
  have h2 := hY.ok.fin
  have h3 := hY.len
  have h4 := hY.lo0
  have hml := hY.mlen
  have hfew := hY.ok.few
  intro k
  induction k with
  | zero => intros; omega
  | succ k ih =>
    intro i w hk hi hw hH ha
    have hm1 : OwnI w m .u64 51 (stk p mem0 lo xs).mem := hH _ _ _ _ (off_row.2 ⟨hY.words, hY.mb⟩)
    have hN : Nums .u64 w (some ⟨m, 0, none⟩) 1024 (stk p mem0 lo xs).mem := by
      have := OwnI.nums hm1 (by rw [hml]; simp only [maxLen]; omega)
      rw [hml] at this
      exact this
    dsimp -zeta only [V27.l2]
    by_cases hlt : (i : Int) < (stk p mem0 lo xs).fin
    · rw [if_pos (decide_eq_true hlt)]
      refine call_gives hw (fun w1 e1 _ => gives57 (ha.ext e1) i) fun w1 e1 hw1 => ?_
      unfold loadV
      rw [if_pos (by unfold inM; exact decide_eq_true (by omega)), Int.toNat_natCast]
      refine ⟨_, _, rfl, ?_⟩
      have hwi : IntKind.wrap .i64 ((i : Int) + 1) = ((i + 1 : Nat) : Int) := by rw [wrap_id (by omega) (by omega)]; rfl
      rw [hwi]
      obtain ⟨v, q, hv, hq, hc⟩ := Nums.at (RowAt.keep (NumE.kept _) hN (ext_keeps e1)) (i := i) (by omega)
      have hgd : (stk p mem0 lo xs).mem.getD i 0 = v := by simp [List.getD, hv]
      refine ⟨q, hq, by omega, by omega, v, hc, ?_⟩
      rw [hback i hi.1 hlt, hgd, if_neg (by simp)]
      exact ih (i + 1) w1 (by omega) (by omega) hw1 (hH.trans e1.has) (ha.ext e1)
    · rw [if_neg (by simpa using hlt)]
      have hst : StackIn p M2 xs (stk p mem0 lo xs).ats lo (stk p mem0 lo xs).fin := hYs.same hY.sized (by rw [hM2l, hml]) hback
      refine call_gives hw (fun w1 e1 _ => gives81 (ats0 := (stk p mem0 lo xs).ats) (ats1 := (stk p mem0 lo xs).ats) (d := 0) (s := ⟨lo, W, prevA (stk p mem0 lo xs).ats xs.length⟩) (ha.ext e1) (RowAt.keep FncE.kept (RowAt.keep FncE.kept hY.prog hH.cell) (ext_keeps e1)) hY.sized hY.pl.2 (RowAt.keep FrmE.kept (RowAt.keep FrmE.kept hY.frms hH.cell) (ext_keeps e1)) (RowAt.keep (NumE.kept _) (RowAt.keep (NumE.kept _) hY.ats hH.cell) (ext_keeps e1)) hst.chain (fun i a h => by rw [h, Int.add_zero]) (by simp) rfl (by omega)) fun w1 e1 hw1 => ⟨_, rfl, ?_⟩
      rw [if_pos rfl]
      exact call_gives hw1 (fun w2 _ _ => gives72 w2) fun w2 _ hw2 => ⟨_, rfl, ret_is hw2 rfl⟩
theorem map_back (ats : List Int) (d e : Int) (h : d + e = 0) : (ats.map (· + d)).map (· + e) = ats := by
  rw [List.map_map]
  have : ((fun x : Int => x + e) ∘ fun x => x + d) = id := by funext x; simp only [Function.comp, id]; omega
  rw [this, List.map_id]
theorem l1_27 (hY : YardAt wy p mem0 lo xs P FA TA g b m) (hbB : w0.heap.size ≤ b) {W to : Int} (hW : 1 ≤ W ∧ (stk p mem0 lo xs).fin - lo ≤ W ∧ lo + W ≤ 1024) (hto : 0 ≤ to) (hfit : to + W ≤ 1024) (hap : to + W ≤ lo ∨ lo + W ≤ to) {q16 q13 : Nat} :
    ∀ (k i : Nat) (w : World) (Mi : List Int), lo + W < i + k → (lo ≤ i ∧ i ≤ lo + W) → Below w0.heap.size w0 w → Has (off b wy) w → ArenaAt w g b Mi → Mi.length = 1024 → (∀ j : Nat, (j : Int) < lo ∨ lo + W ≤ j → Mi.getD j 0 = (movedD (stk p mem0 lo xs).mem lo (stk p mem0 lo xs).fin to (stk p mem0 lo xs).ats 1).getD j 0) →
      V27.l1 w0.heap.size (IsV w0 (.bool true)) k 0 i q16 to W (prevA ((stk p mem0 lo xs).ats.map (· + (to - lo))) xs.length) q13 P p.length pc ⟨g, 0, none⟩ (some ⟨m, 0, none⟩) 1024 1024 FA xs.length fc TA xs.length tc lo W (prevA (stk p mem0 lo xs).ats xs.length) w := by
  have hYs := hY.stackIn
  have h1 := hYs.le
  have h2 := hY.ok.fin
  have h3 := hY.len
  have h4 := hY.lo0
  have hml := hY.mlen
  have hfew := hY.ok.few
  have hst := hYs.moved hY.sized hY.pl.2 (to := to) hto (by omega)
  intro k
  induction k with
  | zero => intros; omega
  | succ k ih =>
    intro i w Mi hk hi hw hH ha hMl hout
    dsimp -zeta only [V27.l1]
    rw [wrap_id (n := lo + W) (by omega) (by omega)]
    by_cases hlt : (i : Int) < lo + W
    · rw [if_pos (decide_eq_true hlt)]
      refine call_puts hw.size ha.words (fun w1 e1 => puts70 (ha.ext e1) i 77) fun w1 e1 ho1 => ⟨_, rfl, ?_⟩
      have hin : inM Mi.length (i : Int) 1 = true := by unfold inM; exact decide_eq_true (by omega)
      rw [if_neg (by rw [hin]; simp)]
      have hwi : IntKind.wrap .i64 ((i : Int) + 1) = ((i + 1 : Nat) : Int) := by rw [wrap_id (by omega) (by omega)]; rfl
      rw [hwi]
      refine ih (i + 1) w1 (storeV Mi i 77) (by omega) (by omega) (e1.after (fun k hk => by subst hk; exact hbB) hw) (fun k c t f hkk => e1.row _ _ _ _ (off_row.1 hkk).2 (hH _ _ _ _ hkk)) (ha.turned e1 ho1 (by rw [storeV_len]) (storeV_wd ha.wd _ (by omega))) (by rw [storeV_len]; exact hMl) fun j hj => ?_
      rw [← hout j hj]
      unfold storeV
      rw [if_pos hin, Int.toNat_natCast, getD_setW _ _ _ _ (by omega), if_neg (by omega)]
    · rw [if_neg (by simpa using hlt)]
      have hsi : StackIn p Mi xs ((stk p mem0 lo xs).ats.map (· + (to - lo))) to ((stk p mem0 lo xs).fin + (to - lo)) := hst.same hY.sized (by rw [hMl, movedD_len, hml]) fun j hj hj2 => hout j (by omega)
      have hmb := map_back (stk p mem0 lo xs).ats (to - lo) (lo - to) (by omega)
      have hmv : moveM Mi ((stk p mem0 lo xs).ats.map (· + (to - lo))) xs.length to ((stk p mem0 lo xs).fin + (to - lo)) W lo W = (movedD Mi to ((stk p mem0 lo xs).fin + (to - lo)) lo ((stk p mem0 lo xs).ats.map (· + (to - lo))) 1, ⟨lo, W, prevA (stk p mem0 lo xs).ats xs.length⟩, 0) := by
        unfold moveM
        rw [if_neg (by omega), if_pos ⟨by unfold inM; exact decide_eq_true (by omega), by unfold overM; exact decide_eq_false (by omega)⟩, hmb]
      obtain ⟨hP, hF, hT⟩ := hY.off hH
      have hPo : ProgAt (Proofs.Ytlccbaemcfjdoaa.off b w) P p.length p := RowAt.keep FncE.kept hY.prog fun q v hq => off_cell.2 ⟨hH.cell q v hq, (off_cell.1 hq).2⟩
      refine call_puts hw.size ha.words (fun w4 e4 => puts75 (ha.ext e4) (RowAt.keep FncE.kept hPo (ext_off e4)) hY.sized hY.pl.2 hsi (W := W) (by omega) (by omega) (by omega)) fun w4 e4 ho4 => ?_
      have hmw := moveM_wd ha.wd (by omega) hY.sized hsi W lo W
      rw [hmv] at ho4 hmw ⊢
      refine ⟨_, _, _, _, rfl, ?_⟩
      intro q19 _
      have hw4 := e4.after (fun k hk => by subst hk; exact hbB) hw
      have ha4 := ha.turned e4 ho4 (movedD_len _ _ _ _ _ _) hmw
      have hH4 : Has (Proofs.Ytlccbaemcfjdoaa.off b wy) w4 := fun k cc t f hk => e4.row _ _ _ _ (off_row.1 hk).2 (hH _ _ _ _ hk)
      have hst2 := hsi.moved hY.sized hY.pl.2 (to := lo) h4.1 (by omega)
      rw [hmb, show (stk p mem0 lo xs).fin + (to - lo) + (lo - to) = (stk p mem0 lo xs).fin by omega] at hst2
      have hend := hst2.end_ hY.sized hY.pl.2 W
      obtain ⟨hP4, hF4, hT4⟩ := hY.off hH4
      refine call_gives hw4 (fun w5 e5 _ => gives73 (ha4.ext e5) (RowAt.keep FncE.kept hP4 (ext_keeps e5)) hY.sized ⟨lo, W, prevA (stk p mem0 lo xs).ats xs.length⟩) fun w5 e5 hw5 => ?_
      simp only at hend ⊢
      rw [hend]
      refine ⟨_, _, rfl, ?_⟩
      rw [if_pos (by simp), if_pos (by simp), if_pos (by simp), if_neg (by simp)]
      have hback := moved_back (M := (stk p mem0 lo xs).mem) (M2 := Mi) (ats := (stk p mem0 lo xs).ats) (lo := lo) (fin := (stk p mem0 lo xs).fin) (to := to) h4.1 h1 (by omega) hto (by omega) (by rw [hMl, hml]) (fun j hj hj2 => hout j (by omega))
      obtain ⟨ln, hln⟩ : ∃ ln : Nat, lo = ln := ⟨lo.toNat, by omega⟩
      refine ⟨1025, ?_⟩
      have := l2_27 (w0 := w0) (pc := pc) (fc := fc) (tc := tc) hY (W := W) (M2 := movedD Mi to ((stk p mem0 lo xs).fin + (to - lo)) lo ((stk p mem0 lo xs).ats.map (· + (to - lo))) 1) (by rw [movedD_len, hMl]) hback (q19 := q19) (q13 := q13) 1025 ln w5 (by omega) ⟨by omega, by omega⟩ hw5 (hH4.trans e5.has) (ha4.ext e5)
      rw [← hln] at this
      exact this
end
theorem gives27 {w : World} {A A1 A2 : Option Addr} {l c l1 c1 l2 c2 : Nat} {ns fs ws : List Int} (hns : BytesAt w A l c ns) (hfs : BytesAt w A1 l1 c1 fs) (hws : Nums .u64 w A2 l2 ws) (hwd : Wd ws) {lo room : Int} (hlo : 0 ≤ lo ∧ lo < 256) (hroom : 0 ≤ room ∧ room < 256) {far : Int} (hfar : 0 ≤ far ∧ far < 256) :
    Gives Try.prog 27 [.slice A l c, .slice A1 l1 c1, .slice A2 l2 c2, .int .u8 lo, .int .u8 room, .int .u8 far] w (.bool true) := by
  refine gives_of (V27.sound ?_)
  unfold V27.vc
  refine call_yard (Nat.le_refl _) hns hfs hws hwd hlo hroom fun p P pc xs FA fc TA tc g b m w1 e1 hY0 => ⟨_, _, _, _, _, _, _, _, _, _, _, _, _, _, _, _, _, rfl, ?_⟩
  intro q13 _
  have hY := hY0.has (has_newW _ _)
  have hYs := hY.stackIn
  have hbel := stk_below p (padM 1024 ws) (2 * lo) xs
  have hwbd := hY.words_bd hroom
  have hlo0 := hY.lo0
  have hml := hY.mlen
  have h1 := hYs.le
  have h2 := hY.ok.fin
  have h3 := hY.len
  have hbB : w.heap.size ≤ b := (newW_row hY0.arena.words).1
  show V27.b0 _ _ far true q13 P p.length pc ⟨g, 0, none⟩ (some ⟨m, 0, none⟩) 1024 1024 FA xs.length fc TA xs.length tc (2 * lo) (yardWords (2 * lo) (stk p (padM 1024 ws) (2 * lo) xs).fin room) (stk p (padM 1024 ws) (2 * lo) xs).below w1
  rw [hbel]
  generalize padM 1024 ws = mem0 at *
  generalize 2 * lo = L at *
  generalize hWW : yardWords L (stk p mem0 L xs).fin room = W at *
  unfold V27.b0
  rw [if_neg (by simp)]
  have hw1 := e1.after (Below.refl _ _)
  refine call_gives hw1 (fun w3 _ _ => gives80 (by omega) (by omega) hfar (by omega)) fun w3 e3 hw3 => ⟨_, rfl, ?_⟩
  have hY3 := hY.has e3.has
  have hpl := place_apart (lo := L) (W := W) (far := far) (words := W) (by omega) (by omega) hfar.1 (by omega)
  have hpb : placeM L W far W ≤ 4000 := by
    unfold placeM
    split
    · have := Int.tmod_lt_of_pos far (show (0 : Int) < L - W + 1 by omega); omega
    · have hm : 1 ≤ (if 1 > 1024 - W - L - W + 1 then 1 else 1024 - W - L - W + 1) ∧ (if 1 > 1024 - W - L - W + 1 then 1 else 1024 - W - L - W + 1) ≤ 1024 := by split <;> omega
      have := Int.tmod_lt_of_pos far (show (0 : Int) < (if 1 > 1024 - W - L - W + 1 then 1 else 1024 - W - L - W + 1) by omega)
      omega
  generalize placeM L W far W = to at hpl hpb ⊢
  rw [wrap_id (n := to + W) (by omega) (by omega)]
  by_cases hbig : to + W > 1024
  · rw [if_pos (decide_eq_true hbig)]
    exact call_gives hw3 (fun w4 _ _ => gives72 w4) fun w4 _ hw4 => ⟨_, rfl, ret_is hw4 rfl⟩
  · rw [if_neg (by simpa using hbig)]
    have hmv : moveM (stk p mem0 L xs).mem (stk p mem0 L xs).ats xs.length L (stk p mem0 L xs).fin W to W = (movedD (stk p mem0 L xs).mem L (stk p mem0 L xs).fin to (stk p mem0 L xs).ats 1, ⟨to, W, prevA ((stk p mem0 L xs).ats.map (· + (to - L))) xs.length⟩, 0) := by
      unfold moveM
      rw [if_neg (by omega), if_pos ⟨by unfold inM; exact decide_eq_true (by omega), by unfold overM; exact decide_eq_false (by omega)⟩]
    refine call_puts hw3.size hY3.arena.words (fun w4 e4 => puts75 (hY3.has e4.has).arena (hY3.has e4.has).prog hY.sized hY.pl.2 hYs (W := W) (by omega) (by omega) (by omega)) fun w4 e4 ho4 => ?_
    have hmw := moveM_wd hY.arena.wd (by omega) hY.sized hYs W to W
    rw [hmv] at ho4 hmw ⊢
    refine ⟨_, _, _, _, rfl, ?_⟩
    intro q16 _
    have hw4 := e4.after (fun k hk => by subst hk; exact hbB) hw3
    have ha4 := hY3.arena.turned e4 ho4 (movedD_len _ _ _ _ _ _) hmw
    have hH4 : Has (off b w3) w4 := fun k cc t f hk => e4.row _ _ _ _ (off_row.1 hk).2 (off_row.1 hk).1
    obtain ⟨ln, hln⟩ : ∃ ln : Nat, L = ln := ⟨L.toNat, by omega⟩
    refine ⟨1025, ?_⟩
    have := l1_27 (w0 := w) (pc := pc) (fc := fc) (tc := tc) hY3 hbB (W := W) (to := to) hwbd hpl.1 (by omega) hpl.2 (q16 := q16) (q13 := q13) 1025 ln w4 _ (by omega) ⟨by omega, by omega⟩ hw4 hH4 ha4 (by rw [movedD_len, hml]) (fun j _ => rfl)
    rw [← hln] at this
    exact this
end Go.Proofs.Ytlccbaemcfjdoaa
