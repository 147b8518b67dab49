/-
  Layer 20: the law's function ScanApart returns true.
  Conditions: the numbers lie in memory as told.
-/
import Derived.Test.YtlccbaemcfjdoaaZN20c
import Derived.Test.YtlccbaemcfjdoaaZW20x
set_option linter.unusedVariables false
set_option maxRecDepth 100000
set_option linter.unusedSimpArgs false
namespace Go.Proofs.Ytlccbaemcfjdoaa
open Go.RowKit
def BoolE : World → Addr → Bool → Prop := fun w a n => w.cell? a = some (.bool n)
theorem BoolE.kept : Kept1 BoolE := fun _ _ _ _ hw h => hw _ _ h
abbrev Bools (w : World) (A : Option Addr) (l : Nat) (xs : List Bool) : Prop := RowAt BoolE 1 w A l xs
structure Two (wl wa wb w : World) (ga gb : Nat) (p : List Fnc) (sa sb : Wk) (RA : Option Addr) (ra : Nat) (RB : Option Addr) (rb : Nat) : Prop where
  a : WalkerAt wa w ga p sa RA ra
  b : WalkerAt wb w gb p sb RB rb
  has : Has (off ga (off gb wl)) w
  owna : ∀ k, (Value.slice RA sa.roots.length ra).ownBlock = some k → wl.heap.size ≤ k
  ownb : ∀ k, (Value.slice RB sb.roots.length rb).ownBlock = some k → wl.heap.size ≤ k
  ne : ∀ k, (Value.slice RA sa.roots.length ra).ownBlock = some k → (Value.slice RB sb.roots.length rb).ownBlock ≠ some k
  le : wl.heap.size ≤ w.heap.size
section
variable {w0 wl wa wb w : World} {ga gb g b : Nat} {p : List Fnc} {sa sb : Wk} {RA : Option Addr} {ra : Nat} {RB : Option Addr} {rb : Nat} {mem : List Int}
theorem off_off {k : Nat} {c : Array Value} {t : TypeId} {f : Nat × Nat} : (off ga (off gb wl)).heap[k]? = some (Obj.cells c t f) ↔ wl.heap[k]? = some (Obj.cells c t f) ∧ k ≠ ga ∧ k ≠ gb := by
  rw [off_row, off_row]
  exact ⟨fun h => ⟨h.1.1, h.2, h.1.2⟩, fun h => ⟨⟨h.1, h.2.2⟩, h.2.1⟩⟩
theorem Two.swap (h : Two wl wa wb w ga gb p sa sb RA ra RB rb) : Two wl wb wa w gb ga p sb sa RB rb RA ra :=
  ⟨h.b, h.a, fun k c t f hk => h.has _ _ _ _ (off_off.2 (by obtain ⟨h1, h2, h3⟩ := off_off.1 hk; exact ⟨h1, h3, h2⟩)), h.ownb, h.owna, fun k h1 h2 => h.ne k h2 h1, h.le⟩
theorem call_two {bs : List Nat} {K : Value → World → Prop} (hw : Below w0.heap.size w0 w) (hT : Two wl wa wb w ga gb p sa sb RA ra RB rb) (hp : w0.heap.size ≤ wa.heap.size) (hgab : ga ≠ gb) (hga : ga < wl.heap.size) (hgb : gb < wl.heap.size) (hwb : wb.heap.size ≤ wl.heap.size) (hq : ∀ q v, wb.cell? q = some v → q.block ≠ ga)
    (ha : ArenaAt (off ga (off gb wl)) g b mem) (hok : WkOk mem.length sa) (hs : Sized p) (hpl : 1 ≤ p.length ∧ p.length ≤ 1000)
    (hk : ∀ RA' ra' w', Two wl wa wb w' ga gb p (stepW p mem sa).1 sb RA' ra' RB rb → Below w0.heap.size w0 w' → K (lookV (stepW p mem sa).2) w') :
    CallK Try.prog 64 [.pointer (some ⟨ga, 0, none⟩), .pointer (some ⟨g, 0, none⟩)] w0.heap.size w bs K := by
  refine call_step hw.size hT.a (ha.has hT.has) hok hs hpl fun RA' ra' w1 e1 hW1 hown => ?_
  have hnew : ∀ k, (Value.slice RA' (stepW p mem sa).1.roots.length ra').ownBlock = some k → wl.heap.size ≤ k ∧ (Value.slice RB sb.roots.length rb).ownBlock ≠ some k := fun k hk => by
    rcases hown k hk with h | h
    · exact ⟨hT.owna k h, hT.ne k h⟩
    · exact ⟨Nat.le_trans hT.le h, fun h2 => by have := (hT.b.base.row.lt k h2).2; omega⟩
  refine hk RA' ra' w1 ⟨hW1, hT.b.apart e1 ?_ ?_ ?_, fun k c t f hkk => ?_, fun k hkk => (hnew k hkk).1, hT.ownb, fun k hkk => (hnew k hkk).2, Nat.le_trans hT.le e1.size⟩ (e1.after (fun k hkk => Nat.le_trans hp (hT.a.blocks hkk)) hw)
  · rintro (h | h)
    · exact hgab h.symm
    · have := hT.owna _ h; omega
  · rintro k hkk (h | h)
    · have := hT.ownb k hkk; omega
    · exact hT.ne k h hkk
  · rintro q v hqv (h | h)
    · exact hq q v hqv h
    · have := hT.owna _ h; have := cell_lt hqv; omega
  · obtain ⟨h1, h2, h3⟩ := off_off.1 hkk
    refine e1.row _ _ _ _ (fun hS => ?_) (hT.has _ _ _ _ hkk)
    rcases hS with h | h
    · exact h2 h
    · have := hT.owna k h; have := lt_of_some h1; omega
end
section
variable {w0 : World} {p : List Fnc} {mem0 : List Int} {lo : Int} {xs : List Frm} {P FA TA : Option Addr} {g b m pc fc tc q9 : Nat} {y6 : Int}
theorem l5_20 {wz wa : World} {ga : Nat} (hY : YardAt wz p mem0 lo xs P FA TA g b m) (hbB : w0.heap.size ≤ b) (hba : b < wa.heap.size) (hqa : ∀ q v, wa.cell? q = some v → b < q.block) {s : Wk} {RA : Option Addr} {ra : Nat} (hsr : s.roots = rootsX p xs xs.length) (hrl : s.roots.length ≤ 1000000) {QA : Option Addr} {qc : Nat} (hQ : Nums .u64 (off b wz) QA (rootsX p xs xs.length).length (rootsX p xs xs.length)) :
    ∀ (k i : Nat) (w : World) (M : List Int), 1024 < i + k → (lo ≤ i ∧ i ≤ 1024) → Below w0.heap.size w0 w → Has (off b wz) w → ArenaAt w g b M → M.length = 1024 → WalkerAt wa w ga p s RA ra →
      V20.l5 w0.heap.size (IsV w0 (.bool true)) k ⟨ga, 0, none⟩ QA (rootsX p xs xs.length).length qc i q9 P p.length pc ⟨g, 0, none⟩ (some ⟨m, 0, none⟩) 1024 1024 FA xs.length fc TA xs.length tc lo y6 (stk p mem0 lo xs).below w := by
  intro k
  induction k with
  | zero => intros; omega
  | succ k ih =>
    intro i w M hk hi hw hH ha hMl hW
    dsimp -zeta only [V20.l5]
    by_cases hlt : i < 1024
    · have hlt' : (i : Int) < 1024 := by omega
      rw [if_pos (decide_eq_true hlt')]
      refine call_puts hw.size ha.words (fun w1 e1 => puts70 (ha.ext e1) i 1) fun w1 e1 ho1 => ⟨_, rfl, ?_⟩
      have hin : inM M.length (i : Int) 1 = true := by unfold inM; exact decide_eq_true (by omega)
      rw [if_neg (by rw [hin]; simp)]
      have hwi : IntKind.wrap .i64 ((i : Int) + 1) = ((i + 1 : Nat) : Int) := by rw [wrap_id (by omega) (by omega)]; rfl
      rw [hwi]
      refine ih (i + 1) w1 (storeV M i 1) (by omega) (by omega) (e1.after (fun k hk => by subst hk; exact hbB) hw) (fun k c t f hkk => e1.row _ _ _ _ (off_row.1 hkk).2 (hH _ _ _ _ hkk)) (ha.turned e1 ho1 (by rw [storeV_len]) (storeV_wd ha.wd _ (by omega))) (by rw [storeV_len]; exact hMl) (hW.other e1 hba hqa)
    · have hlt' : ¬ (i : Int) < 1024 := by omega
      rw [if_neg (by simpa using hlt')]
      have hmb := hY.mb
      have hm1 : OwnI w m .u64 51 (stk p mem0 lo xs).mem := hH _ _ _ _ (off_row.2 ⟨hY.words, hmb⟩)
      have hM : WordsAt w (some ⟨m, 0, none⟩) 1024 1024 (stk p mem0 lo xs).mem := ⟨by have := OwnI.nums hm1 (by rw [hY.mlen]; simp only [maxLen]; omega); rw [hY.mlen] at this; exact this, hY.arena.wd, Nat.le_refl _, by omega⟩
      refine call_rroots hw.size hM (by rw [hY.mlen]; omega) (RowAt.keep FncE.kept hY.prog hH.cell) hY.sized hY.pl.2 fun A1 c1 w1 e1 hN1 => ⟨_, _, _, _, rfl, ?_⟩
      rw [hY.roots] at hN1 ⊢
      simp only at hN1 ⊢
      have hw1 := e1.after hw
      rw [if_pos (by simp)]
      refine call_gives hw1 (fun w2 e2 _ => gives68 (RowAt.keep (NumE.kept _) hQ fun q v hq => e2.cell (e1.cell (hH.cell q v hq))) (RowAt.keep (NumE.kept _) (RowAt.keep (NumE.kept _) hN1 newW_in) (ext_keeps e2))) fun w2 e2 hw2 => ⟨_, rfl, ?_⟩
      rw [if_pos (by simp)]
      have hW2 := (hW.ext e1).ext e2
      refine call_wroots hw2.size hW2 hrl fun A3 c3 w3 e3 hN3 _ => ⟨A3, _, c3, rfl, ?_⟩
      have hw3 := e3.after hw2
      rw [hsr] at hN3 ⊢
      refine call_gives hw3 (fun w4 e4 _ => gives68 (RowAt.keep (NumE.kept _) (RowAt.keep (NumE.kept _) hN3 newW_in) (ext_keeps e4)) (RowAt.keep (NumE.kept _) (RowAt.keep (NumE.kept _) hN1 newW_in) (ext_keeps ((e2.trans e3).trans e4)))) fun w4 e4 hw4 => ⟨_, rfl, ?_⟩
      rw [if_pos (by simp)]
      exact call_gives hw4 (fun w5 _ _ => gives65 w5) fun w5 _ hw5 => ⟨_, rfl, ret_is hw5 rfl⟩
theorem l2_20 {wl wa wb : World} {ga gb : Nat} (hY : YardAt (off ga (off gb wl)) p mem0 lo xs P FA TA g b m) (hpa : w0.heap.size ≤ wa.heap.size) (hpb : w0.heap.size ≤ wb.heap.size) (hgab : ga ≠ gb) (hga : ga < wl.heap.size) (hgb : gb < wl.heap.size) (hwa : wa.heap.size ≤ wl.heap.size) (hwb : wb.heap.size ≤ wl.heap.size) (hqa : ∀ q v, wa.cell? q = some v → q.block ≠ gb) (hqb : ∀ q v, wb.cell? q = some v → q.block ≠ ga)
    (hbB : w0.heap.size ≤ b) (hba : b < wa.heap.size) (hqab : ∀ q v, wa.cell? q = some v → b < q.block) {TT : Option Addr} {tl tcc : Nat} {ts : List Bool} (hts : Bools w0 TT tl ts) :
    ∀ (k i j : Nat) (w : World) (RA : Option Addr) (ra : Nat) (RB : Option Addr) (rb : Nat), 2000 < i + k → i ≤ 2000 → j ≤ i → j ≤ 500 → (i - j < countX p xs xs.length ∨ i - j = 0) → Below w0.heap.size w0 w →
      Two wl wa wb w ga gb p (runW p (stk p mem0 lo xs).mem (i - j) (wk0 (stk p mem0 lo xs).below)).1 (runW p (stk p mem0 lo xs).mem j (wk0 (stk p mem0 lo xs).below)).1 RA ra RB rb → (500 ≤ i → j ≤ 500) → (i < 500 → j ≤ i) →
      V20.l2 w0.heap.size (IsV w0 (.bool true)) k TT tl tcc ⟨ga, 0, none⟩ ⟨gb, 0, none⟩ i q9 P p.length pc ⟨g, 0, none⟩ (some ⟨m, 0, none⟩) 1024 1024 FA xs.length fc TA xs.length tc lo y6 (stk p mem0 lo xs).below w := by
  have hcount := hY.count
  have hrun := hY.run
  have hbel := hY.below_bd
  have hml := hY.mlen
  have hlo := hY.lo0
  have h00 : countX p xs xs.length = 0 → (wk0 (stk p mem0 lo xs).below).at_ = -1 := fun h => by
    have := hrun.at_
    rw [h] at this
    exact this
  have hoks : ∀ i, i ≤ 3000 → WkOk (stk p mem0 lo xs).mem.length (runW p (stk p mem0 lo xs).mem i (wk0 (stk p mem0 lo xs).below)).1 := fun i hi => by
    have hro := run_ok hY.arena.wd (by omega) hY.sized (wk0_in (top := (stk p mem0 lo xs).below) _ (by omega)) i (p := p) (mem := (stk p mem0 lo xs).mem)
    exact ⟨by have := hro.2; simp only [wk0, List.length_nil] at this; unfold wk0; omega, hro.1⟩
  intro k
  induction k with
  | zero => intros; omega
  | succ k ih =>
    intro i j w RA ra RB rb hk hi hji hj5 hn hw hT h5 h6
    dsimp -zeta only [V20.l2]
    have hlt : i < 2000 := by omega
    have hlt' : (i : Int) < 2000 := by omega
    rw [if_pos (decide_eq_true hlt')]
    have hwi : IntKind.wrap .i64 ((i : Int) + 1) = ((i + 1 : Nat) : Int) := by rw [wrap_id (by omega) (by omega)]; rfl
    have fin : V20.b3 w0.heap.size (IsV w0 (.bool true)) (V20.l2 w0.heap.size (IsV w0 (.bool true)) k) TT tl tcc ⟨ga, 0, none⟩ ⟨gb, 0, none⟩ i q9 P p.length pc ⟨g, 0, none⟩ (some ⟨m, 0, none⟩) 1024 1024 FA xs.length fc TA xs.length tc lo y6 (stk p mem0 lo xs).below w := by
      unfold V20.b3
      have hlk := run_look hrun h00 hn
      have l0 := hlk.1
      have l1 := hlk.2.1
      have l2 := hlk.2.2
      clear hlk
      refine call_two hw hT hpa hgab hga hgb hwb hqb hY.arena (hoks _ (by omega)) hY.sized hY.pl fun RA' ra' w1 hT1 hw1 => ⟨_, _, _, rfl, ?_⟩
      rw [show (stepW p (stk p mem0 lo xs).mem (runW p (stk p mem0 lo xs).mem (i - j) (wk0 (stk p mem0 lo xs).below)).1).1 = (runW p (stk p mem0 lo xs).mem (i - j + 1) (wk0 (stk p mem0 lo xs).below)).1 by rw [runW_succ]] at hT1
      rw [l0, l1, if_neg (by simp)]
      by_cases hd : countX p xs xs.length ≤ i - j + 1
      · rw [if_pos (by simpa using hd)]
        have l3 := (l2 hd).1
        rw [show (wk0 (stk p mem0 lo xs).below).roots = [] from rfl, List.nil_append] at l3
        unfold V20.b4
        have hok1 := hoks (i - j + 1) (by omega)
        refine call_wroots hw1.size hT1.a hok1.1 fun A2 c2 w2 e2 hN2 _ => ⟨A2, _, c2, rfl, ?_⟩
        have hw2 := e2.after hw1
        rw [l3] at hN2 ⊢
        have hY2 := (hY.has hT1.has).has e2.has
        have hbl : b < w1.heap.size := (hY.has hT1.has).arena.words.lt
        refine ⟨1025, ?_⟩
        obtain ⟨lon, hlon⟩ : ∃ lon : Nat, lo = lon := ⟨lo.toNat, by omega⟩
        have := l5_20 (w0 := w0) (q9 := q9) (pc := pc) (fc := fc) (tc := tc) (y6 := y6) (qc := c2) hY2 hbB hba hqab l3 hok1.1 (RowAt.keep (NumE.kept _) hN2 (newW_off hbl)) 1025 lon w2 _ (by omega) ⟨by omega, by omega⟩ hw2 (has_off _ _) hY2.arena hml (hT1.a.ext e2)
        rw [← hlon] at this
        exact this
      · rw [if_neg (by simpa using hd), hwi]
        exact ih (i + 1) j w1 RA' ra' RB rb (by omega) (by omega) (by omega) hj5 (by omega) hw1 (by rw [show i + 1 - j = i - j + 1 by omega]; exact hT1) (by omega) (by omega)
    by_cases h1 : i < tl
    · rw [if_pos (by simpa using h1)]
      by_cases h2 : i < 500
      · rw [if_pos (by simpa using (by omega : (i : Int) < 500))]
        obtain ⟨t, q, ht, hq, hc⟩ := RowAt.at hts h1
        refine ⟨q, hq, by omega, by omega, t, by rw [Int.toNat_natCast]; have := below_keeps hw _ _ hc; rwa [Nat.mul_one] at this, ?_⟩
        cases t with
        | false => rw [if_neg (by simp)]; exact fin
        | true =>
          rw [if_pos rfl]
          have hT' := hT.swap
          refine call_two hw hT' hpb (Ne.symm hgab) hgb hga hwa hqa ((hY.arena).has fun k c t f hkk => off_off.2 (by obtain ⟨h1, h2, h3⟩ := off_off.1 hkk; exact ⟨h1, h3, h2⟩)) (hoks _ (by omega)) hY.sized hY.pl fun RB' rb' w1 hT1 hw1 => ⟨_, _, _, rfl, ?_⟩
          rw [show (stepW p (stk p mem0 lo xs).mem (runW p (stk p mem0 lo xs).mem j (wk0 (stk p mem0 lo xs).below)).1).1 = (runW p (stk p mem0 lo xs).mem (j + 1) (wk0 (stk p mem0 lo xs).below)).1 by rw [runW_succ]] at hT1
          rw [hwi]
          exact ih (i + 1) (j + 1) w1 RA ra RB' rb' (by omega) (by omega) (by omega) (by omega) (by omega) hw1 (by rw [show i + 1 - (j + 1) = i - j by omega]; exact hT1.swap) (by omega) (by omega)
      · rw [if_neg (by simpa using (by omega : ¬ (i : Int) < 500))]
        exact fin
    · rw [if_neg (by simpa using h1)]
      exact fin
end
theorem gives20 {w : World} {A A1 A2 : Option Addr} {l c l1 c1 l2 c2 : Nat} {ns fs : List Int} (hns : BytesAt w A l c ns) (hfs : BytesAt w A1 l1 c1 fs) {lo : Int} (hlo : 0 ≤ lo ∧ lo < 256) {ts : List Bool} (hts : Bools w A2 l2 ts) :
    Gives Try.prog 20 [.slice A l c, .slice A1 l1 c1, .int .u8 lo, .slice A2 l2 c2] w (.bool true) := by
  refine gives_of (V20.sound ?_)
  unfold V20.vc
  refine call_yard (Nat.le_refl _) hns hfs (nums_nil _ _) (fun x h => by cases h) hlo (by omega) fun p P pc xs FA fc TA tc g b m w1 e1 hY0 => ⟨_, _, _, _, _, _, _, _, _, _, _, _, _, _, _, _, _, rfl, ?_⟩
  intro q9 _
  show V20.b0 _ _ A2 l2 c2 true q9 P p.length pc ⟨g, 0, none⟩ (some ⟨m, 0, none⟩) 1024 1024 FA xs.length fc TA xs.length tc _ _ _ w1
  unfold V20.b0
  rw [if_neg (by simp)]
  have hw1 := e1.after (Below.refl _ _)
  have hY := hY0.has (has_newW _ _)
  have hbB : w.heap.size ≤ b := (newW_row hY0.arena.words).1
  have hbl := hY.arena.words.lt
  refine call_neww hw1.size hY.prog' hY.sized hY.pl fun wa ga w2 e2 hwa hqa hWa => ⟨_, rfl, ?_⟩
  have hw2 := e2.after hw1
  have hY2 := hY.has e2.has
  obtain ⟨_, _, _, _, hgar, _⟩ := hWa.cells
  have hga2 := lt_of_some hgar
  have hlta := hWa.base.lt
  show CallK _ _ _ _ _ _ _
  refine call_neww hw2.size hY2.prog' hY2.sized hY2.pl fun wb gb w3 e3 hwb hqb hWb => ⟨_, rfl, ?_⟩
  show V20.b1 _ _ A2 l2 c2 ⟨ga, 0, none⟩ ⟨gb, 0, none⟩ q9 P p.length pc ⟨g, 0, none⟩ (some ⟨m, 0, none⟩) 1024 1024 FA xs.length fc TA xs.length tc _ _ _ w3
  unfold V20.b1
  have hw3 := e3.after hw2
  obtain ⟨_, _, _, _, hgbr, _⟩ := hWb.cells
  have hgb3 := lt_of_some hgbr
  have hltb := hWb.base.lt
  have hs3 := e3.size
  have hs2 := e2.size
  have hH : Has w1 (off ga (off gb w3)) := fun k c t f hk => off_off.2 ⟨e3.row _ _ _ _ (e2.row _ _ _ _ hk), by have := lt_of_some hk; omega, by have := lt_of_some hk; omega⟩
  refine ⟨2001, ?_⟩
  exact l2_20 (hY.has hH) (Nat.le_trans hw1.size hwa) (Nat.le_trans hw2.size hwb) (by omega) (by omega) (by omega) (by omega) (by omega) (fun q v hq => by have := cell_lt hq; omega) (fun q v hq => by have := hqb q v hq; omega) hbB (by omega) (fun q v hq => by have := hqa q v hq; omega) hts 2001 0 0 w3 none 0 none 0 (by omega) (by omega) (by omega) (by omega) (.inr rfl) hw3 ⟨hWa.ext e3, hWb, fun k c t f hk => (off_off.1 hk).1, (fun k hk => by cases hk), (fun k hk => by cases hk), (fun k hk => by cases hk), Nat.le_refl _⟩ (by omega) (by omega)
end Go.Proofs.Ytlccbaemcfjdoaa
