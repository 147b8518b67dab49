/-
  Layer 17: the law's function ProgWays returns true.
  Conditions: the arguments' memory says what their values are.
-/
import Derived.Test.YtlccbaemcfjdoaaZC17j
import Derived.Test.YtlccbaemcfjdoaaZVL
set_option linter.unusedVariables false
set_option linter.unusedSimpArgs false
set_option maxRecDepth 100000
namespace Go.Proofs.Ytlccbaemcfjdoaa
open Go.RowKit
def BoolE : World → Addr → Bool → Prop := fun w a b => w.cell? a = some (.bool b)
theorem BoolE.kept : Kept1 BoolE := fun _ _ _ _ hw h => hw _ _ h
abbrev Bools (w : World) (A : Option Addr) (l : Nat) (xs : List Bool) : Prop := RowAt BoolE 1 w A l xs
theorem gives39 {w : World} {A : Option Addr} {p : List Fnc} {c : Nat} (hp : ProgAt w A p.length p) : Gives Try.prog 39 [.agg ⟨[.slice A p.length c]⟩] w (.bool ((checkM p).1 == 0)) := by
  refine gives_of (V39.sound ?_)
  intro q1 _
  exact call_gives (Below.refl _ _) (fun w1 _ hb => gives87 (hp.keep hb)) fun w1 _ hw1 => ⟨_, _, _, rfl, ret_is hw1 rfl⟩
theorem l0_7 {w0 : World} {p : List Fnc} {A0 : Option Addr} {np cP q3 : Nat} (hp : ProgAt w0 A0 np p) (hfew : Few p) {C : Option Addr} {n cC : Nat} {xs : List Ins} (hx : CodeAt w0 C n xs) {ways : List Bool} {Y : Option Addr} {lY cY : Nat} (hy : Bools w0 Y lY ways)
    (hjmp : ∀ x ∈ xs, x.op = 15 ∨ x.op = 16 → 0 ≤ x.a) {d : List Int} (hd : DOk n d) (hst : ∀ j x, xs[j]? = some x → Steady p n d j x) {D : Option Addr} {cD : Nat} :
    ∀ (k m pc : Nat) (w : World), 300 < m + k → m ≤ 300 → Below w0.heap.size w0 w → Nums .i64 w D n d → pc < n → 0 ≤ d.getD pc 0 →
      V7.l0 w0.heap.size (IsV w0 (.bool true)) k Y lY cY C n cC D n cD pc (d.getD pc 0) m q3 A0 np cP w
  | 0, m, pc, w, hk, hm, _, _, _, _ => by omega
  | k + 1, m, pc, w, hk, hm, hw, hn, hpc, hdp => by
    dsimp -zeta only [V7.l0]
    have awake : ∀ (bs : List Nat) (w1 : World), Below w0.heap.size w0 w1 → CallK Try.prog 34 [] w0.heap.size w1 bs fun v w_1 => ∃ b125 : Bool, v = .bool b125 ∧ Ret w0.heap.size w_1 (IsV w0 (.bool true) (.bool b125)) := fun bs w1 hw1 =>
      call_gives hw1 (fun w2 _ _ => gives34 w2) fun w2 _ hw2 => ⟨_, rfl, ret_is hw2 rfl⟩
    by_cases h300 : m < 300
    · rw [if_pos (by simp; omega), if_pos (by simp), if_pos (by simp; omega)]
      obtain ⟨z, q, hz, hq, hc⟩ := hn.at hpc
      have hzd : z = d.getD pc 0 := by
        have := getD_get (d := d) (i := pc) (by rw [hd.1]; exact hpc)
        rw [hz] at this; cases this; rfl
      subst hzd
      refine ⟨q, hq, by omega, by omega, d.getD pc 0, by simpa using hc, ?_⟩
      rw [if_neg (by simp)]
      obtain ⟨x, a, hxi, ha, he⟩ := (hx.keep hw).at hpc
      have hm1 := List.mem_of_getElem? hxi
      obtain ⟨hpop, hhigh, hto⟩ := hst pc x hxi hdp
      have hpb := popsM_bd hfew x.op x.a
      have hrb := rowT_bd x.op
      have hdb := hd.2 _ (List.mem_of_getElem? (getD_get (d := d) (i := pc) (by rw [hd.1]; exact hpc)))
      refine ⟨a, ha, by omega, by omega, x.op, by simpa using he.1, x.a, by simpa using he.2.1, x.b, by simpa using he.2.2, fun q16 _ => ?_⟩
      refine call_gives hw (fun w1 _ hb => gives28 (hp.keep hb) _ _ _) fun w1 e1 hw1 => ⟨_, rfl, ?_⟩
      have hwr1 : IntKind.wrap .i64 (d.getD pc 0 - popsM p x.op x.a) = d.getD pc 0 - popsM p x.op x.a := wrap_id (by omega) (by omega)
      have hwr2 : IntKind.wrap .i64 (d.getD pc 0 - popsM p x.op x.a + pushesI x.op) = d.getD pc 0 - popsM p x.op x.a + pushesI x.op := wrap_id (by omega) (by omega)
      rw [hwr1]
      rw [if_neg (by simp only [decide_eq_true_eq]; omega)]
      refine call_gives hw1 (fun w1 _ hb => gives30 _ _ _ _) fun w2 e2 hw2 => ⟨_, rfl, ?_⟩
      rw [hwr2, if_neg (by simp only [decide_eq_true_eq]; omega), wrap_succ hpc hx.small]
      have hn2 : Nums .i64 w2 D n d := RowAt.keep (NumE.kept _) (RowAt.keep (NumE.kept _) hn (ext_keeps e1)) (ext_keeps e2)
      have hwm : IntKind.wrap .i64 ((m : Int) + 1) = ((m + 1 : Nat) : Int) := wrap_succ (i := m) (l := 301) (by omega) (len_ok (by omega))
      -- on to a place that follows
      have go : ∀ t : Nat, (t : Int) ∈ nextM pc x.op x.a → V7.l0 w0.heap.size (IsV w0 (.bool true)) k Y lY cY C n cC D n cD t (d.getD pc 0 - popsM p x.op x.a + pushesI x.op) (IntKind.wrap .i64 ((m : Int) + 1)) q3 A0 np cP w2 := by
        intro t ht
        obtain ⟨h1, h2⟩ := hto _ ht
        rw [hwm]
        simp only [Int.toNat_natCast] at h2
        rw [← h2]
        exact l0_7 hp hfew hx hy hjmp hd hst k (m + 1) t w2 (by omega) (by omega) hw2 hn2 (by omega) (by rw [h2]; omega)
      have goA : x.op = 15 ∨ x.op = 16 → ¬ (x.op = 18 ∨ x.op = 20) → V7.l0 w0.heap.size (IsV w0 (.bool true)) k Y lY cY C n cC D n cD x.a (d.getD pc 0 - popsM p x.op x.a + pushesI x.op) (IntKind.wrap .i64 ((m : Int) + 1)) q3 A0 np cP w2 := by
        intro ho hno
        have h0 := hjmp x hm1 ho
        have := go x.a.toNat (by
          have : ((x.a.toNat : Nat) : Int) = x.a := by omega
          rw [this]; unfold nextM; rw [if_neg hno]
          rcases ho with ho | ho
          · rw [if_pos ho]; simp
          · rw [if_neg (by omega), if_pos ho]; simp)
        rwa [show ((x.a.toNat : Nat) : Int) = x.a by omega] at this
      have goN : ¬ (x.op = 18 ∨ x.op = 20) → x.op ≠ 15 → V7.l0 w0.heap.size (IsV w0 (.bool true)) k Y lY cY C n cC D n cD ((pc + 1 : Nat) : Int) (d.getD pc 0 - popsM p x.op x.a + pushesI x.op) (IntKind.wrap .i64 ((m : Int) + 1)) q3 A0 np cP w2 := by
        intro hno h15
        refine go (pc + 1) ?_
        unfold nextM
        rw [if_neg hno, if_neg h15]
        split <;> simp
      have b1 : ∀ b94 : Bool, (b94 = true ↔ (x.op = 18 ∨ x.op = 20)) → V7.b1 w0.heap.size (IsV w0 (.bool true)) (V7.l0 w0.heap.size (IsV w0 (.bool true)) k) Y lY cY C n cC D n cD ((pc + 1 : Nat) : Int) (d.getD pc 0 - popsM p x.op x.a + pushesI x.op) m b94 q16 x.op x.a x.b q3 A0 np cP w2 := by
        intro b94 hb94
        unfold V7.b1
        by_cases hend : x.op = 18 ∨ x.op = 20
        · rw [if_pos (hb94.2 hend)]
          exact awake _ w2 hw2
        · rw [if_neg (fun e => hend (hb94.1 e))]
          by_cases h15 : x.op = 15
          · rw [if_pos (by simpa using h15), if_pos (by simpa using h15)]
            exact goA (.inl h15) hend
          · rw [if_neg (by simpa using h15)]
            by_cases h16 : x.op = 16
            · rw [if_pos (by simpa using h16)]
              by_cases hly : m < lY
              · rw [if_pos (by simpa using hly)]
                obtain ⟨bb, qq, hbb, hqq, hcb⟩ := (RowAt.keep BoolE.kept hy (below_keeps hw2)).at hly
                have hcb' : w2.cell? (qq.add m) = some (.bool bb) := by have := hcb; unfold BoolE at this; rwa [Nat.mul_one] at this
                refine ⟨qq, hqq, by omega, by omega, bb, by simpa using hcb', ?_⟩
                cases bb with
                | true => rw [if_pos rfl]; exact goA (.inr h16) hend
                | false => rw [if_neg (by simp)]; exact goN hend h15
              · rw [if_neg (by simpa using hly)]
                exact goN hend h15
            · rw [if_neg (by simpa using h16)]
              exact goN hend h15
      by_cases h18 : x.op = 18
      · rw [if_neg (by simpa using h18)]
        exact b1 true (by simp [h18])
      · rw [if_pos (by simpa using h18)]
        exact b1 _ (by simp [h18])
    · rw [if_neg (by simp; omega)]
      exact awake _ w hw
theorem gives7 {w : World} {A Y : Option Addr} {p : List Fnc} {c lY cY : Nat} {ways : List Bool} (hp : ProgAt w A p.length p) (hy : Bools w Y lY ways) {f : Int} (hf : 0 ≤ f ∧ f < 256) :
    Gives Try.prog 7 [.agg ⟨[.slice A p.length c]⟩, .int .u8 f, .slice Y lY cY] w (.bool true) := by
  refine gives_of (V7.sound ?_)
  intro q3 _
  refine call_gives (Below.refl _ _) (fun w1 _ hb => gives37 (hp.keep hb)) fun w1 _ hw1 => ⟨_, _, _, rfl, ?_⟩
  refine call_gives hw1 (fun w1 _ hb => gives39 (hp.keep hb)) fun w2 _ hw2 => ⟨_, rfl, ?_⟩
  by_cases h0 : (checkM p).1 = 0
  · rw [if_neg (by simp [h0])]
    obtain ⟨hfew, hlen, hjmp, hflow, hsized⟩ := check_ok h0
    have hpl : 1 ≤ p.length := by
      unfold checkM at h0
      split at h0
      · cases h0
      · omega
    have hwf : IntKind.wrap .i64 f = f := wrap_id (by omega) (by omega)
    have hk0 : 0 ≤ Int.tmod f (p.length : Int) := Int.tmod_nonneg _ hf.1
    have hk1 : Int.tmod f (p.length : Int) < (p.length : Int) := Int.tmod_lt_of_pos _ (by omega)
    rw [hwf]
    generalize hkk : Int.tmod f (p.length : Int) = kk at hk0 hk1 ⊢
    obtain ⟨x, a, C, cc, hx, ha, c0, c1, c2, c3, hc⟩ := prog_at (hp.keep hw2) (i := kk.toNat) (by omega)
    have hm := List.mem_of_getElem? hx
    obtain ⟨d, hd⟩ := flowsM_all hflow x hm
    have hdo : depthsOf p kk = d := by unfold depthsOf; rw [if_pos ⟨h0, by omega⟩, hx]; simp only [hd]
    obtain ⟨hst, hdok, hzero⟩ := depths_still hfew (hjmp x hm) hd
    have hx1 : 1 ≤ x.code.length := by
      have := firstNot_all hsized x hm
      unfold sizedF sizedM at this
      have := of_decide_eq_true this
      omega
    refine ⟨by omega, a, ha, by omega, by omega, C, x.code.length, cc, c3, ?_⟩
    refine call_yields (Q := FreshNums (depthsOf p kk)) hw2 (fun w1 _ hb => yields38 (hp.keep hb) kk) fun w4 u w5 w6 hs _ hQ _ hnew he6 hw6 => ?_
    obtain ⟨A45, l45, c45, rfl, hn, hfr⟩ := hQ
    refine ⟨_, _, _, rfl, he6.cell c3, ?_⟩
    have hn6 := nums_block hn fun q hq => hnew _ (hfr q hq)
    rw [hdo] at hn6
    have hl : l45 = x.code.length := by rw [← hn6.len, hdok.1]
    subst hl
    rw [if_pos (by simp [h0]), if_neg (by simp)]
    refine ⟨302, ?_⟩
    have hc6 : CodeAt w2 C x.code.length x.code := hc
    -- the code's memory, as it was at the beginning
    obtain ⟨x', a', C', cc', hx', ha', _, _, _, c3', hc'⟩ := prog_at hp (i := kk.toNat) (by omega)
    rw [hx] at hx'
    cases hx'
    rw [ha] at ha'
    cases ha'
    have hsame := below_keeps hw2 _ _ c3'
    rw [c3] at hsame
    cases hsame
    have := l0_7 (q3 := q3) (cP := c) (cC := cc) (cD := c45) (cY := cY) hp hfew hc' hy (hjmp x hm) hdok hst 302 0 0 w6 (by omega) (by omega) hw6 hn6 (by omega) (by rw [hzero hx1]; omega)
    rw [hzero hx1] at this
    exact this
  · rw [if_pos (by simp [h0]), if_pos (by simpa using h0)]
    exact call_gives hw2 (fun w2 _ _ => gives34 w2) fun w3 _ hw3 => ⟨_, rfl, ret_is hw3 rfl⟩
end Go.Proofs.Ytlccbaemcfjdoaa
