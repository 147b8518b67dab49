/-
  Layer 20: the law's function ScanSame returns true.
  Conditions: the numbers, and the words, lie in memory as told.
-/
import Derived.Test.YtlccbaemcfjdoaaZN20
import Derived.Test.YtlccbaemcfjdoaaZW19
set_option linter.unusedVariables false
set_option linter.unusedSimpArgs false
namespace Go.Proofs.Ytlccbaemcfjdoaa
open Go.RowKit
structure OutsH (w0 wy w : World) (A : Option Addr) (c : Nat) (out : List Int) : Prop where
  row : w.ownsRow wy.heap.size 51 1 (.slice A out.length c) out.length (out.map (.int .u64))
  has : Has wy w
  below : Below w0.heap.size w0 w
  le : wy.heap.size ≤ w.heap.size
theorem nums_take {k : IntKind} {w : World} {A : Option Addr} {l : Nat} {xs : List Int} (h : Nums k w A l xs) {m : Nat} (hm : m ≤ l) : Nums k w A m (xs.take m) :=
  ⟨by rw [List.length_take, h.len]; omega, Nat.le_trans hm h.small, fun i x hx => by
    rw [List.getElem?_take] at hx
    split at hx
    · exact h.get i x hx
    · cases hx⟩
theorem slice0 (A : Option Addr) (c : Nat) : (if c = 0 then A else Option.map (fun a => a.add 0) A) = A := by
  have h0 : ∀ a : Addr, a.add 0 = a := fun a => by unfold Addr.add; rw [if_pos rfl]
  split
  · rfl
  · cases A with
    | none => rfl
    | some a => simp [h0]
theorem YardAt.run {w : World} {p : List Fnc} {mem0 : List Int} {lo : Int} {xs : List Frm} {P FA TA : Option Addr} {g b m : Nat} (h : YardAt w p mem0 lo xs P FA TA g b m) :
    RunOk p (stk p mem0 lo xs).mem lo (stk p mem0 lo xs).fin (wk0 (stk p mem0 lo xs).below) (countX p xs xs.length) (rootsX p xs xs.length) := by
  have hall := h.all
  have hl := h.chain.len
  refine chain_run h.sized h.chain (fun a ha => ?_) xs.length _ _ (Nat.le_refl _) (stk_below _ _ _ _) rfl fun x a h0 hx ha => (hall.fit _ x a hx ha).2
  obtain ⟨i, hi⟩ := List.mem_iff_getElem?.1 ha
  have hil := (List.getElem?_eq_some_iff.1 hi).1
  rw [hl] at hil
  exact (hall.fit i _ a (List.getElem?_eq_getElem hil) hi).1
theorem YardAt.roots {w : World} {p : List Fnc} {mem0 : List Int} {lo : Int} {xs : List Frm} {P FA TA : Option Addr} {g b m : Nat} (h : YardAt w p mem0 lo xs P FA TA g b m) : rootsM p (stk p mem0 lo xs).mem (stk p mem0 lo xs).below = (rootsX p xs xs.length, 0) := by
  rw [stk_below]
  exact roots_chain h.sized h.pl.2 h.chain (by have := h.ok.few; have := h.mlen; omega)
theorem YardAt.count {w : World} {p : List Fnc} {mem0 : List Int} {lo : Int} {xs : List Frm} {P FA TA : Option Addr} {g b m : Nat} (h : YardAt w p mem0 lo xs P FA TA g b m) : countX p xs xs.length ≤ 110 := by
  have := countX_le h.sized h.ok.may xs.length (Nat.le_refl _)
  have := h.ok.few
  omega
theorem run_look {p : List Fnc} {M : List Int} {lo fin : Int} {s : Wk} {n : Nat} {R : List Int} (h : RunOk p M lo fin s n R) (h0 : n = 0 → s.at_ = -1) {i : Nat} (hi : i < n ∨ i = 0) :
    (stepW p M (runW p M i s).1).2.2.2 = 0 ∧ (stepW p M (runW p M i s).1).2.2.1 = decide (n ≤ i + 1) ∧ (n ≤ i + 1 → (runW p M (i + 1) s).1.roots = s.roots ++ R ∧ (runW p M (i + 1) s).1.at_ = -1) := by
  by_cases hn : n = 0
  · subst hn
    obtain rfl : i = 0 := by omega
    have hst : stepW p M s = (s, (-1, true, 0)) := by unfold stepW; rw [if_pos (h0 rfl)]
    have hr := h.roots
    simp only [runW] at hr
    refine ⟨by simp [runW, hst], by simp [runW, hst], fun _ => ?_⟩
    simp only [runW, hst]
    exact ⟨hr, h0 rfl⟩
  · have hi' : i < n := by omega
    have hg := runW_get (p := p) (mem := M) n s hi'
    refine ⟨h.zero _ (List.mem_of_getElem? hg), ?_, fun hle => ?_⟩
    · have hd := h.done (by omega)
      have h1 := congrArg (fun l => l[i]?) hd
      simp only [List.getElem?_map, hg, Option.map_some] at h1
      unfold dones at h1
      by_cases hl : i = n - 1
      · rw [List.getElem?_append_right (by simp; omega)] at h1
        rw [List.length_replicate, show i - (n - 1) = 0 by omega] at h1
        simp only [List.getElem?_cons_zero, Option.some.injEq] at h1
        rw [h1, decide_eq_true (by omega)]
      · rw [List.getElem?_append_left (by simp; omega), List.getElem?_replicate, if_pos (by omega)] at h1
        simp only [Option.some.injEq] at h1
        rw [h1, decide_eq_false (by omega)]
    · obtain rfl : n = i + 1 := by omega
      exact ⟨h.roots, h.at_⟩
section
variable {w0 wy : World} {p : List Fnc} {mem0 : List Int} {lo : Int} {xs : List Frm} {P FA TA : Option Addr} {g b m pc fc tc q9 : Nat}
theorem l2_19 {R : Value → World → Prop} {L1 : Option Addr → Nat → Nat → Int → Nat → Option Addr → Nat → Nat → Addr → Option Addr → Nat → Nat → Option Addr → Nat → Nat → Option Addr → Nat → Nat → Int → Int → Int → World → Prop} (hY : YardAt wy p mem0 lo xs P FA TA g b m) (hwy : w0.heap.size ≤ wy.heap.size) {i : Nat} {x : Frm} (hx : xs[i]? = some x) {G : Fnc} (hloc : (x.locals.length : Int) = G.locals) (hxl : x.locals.length ≤ 8) {q13 : Nat} {C : Option Addr} {cl cc : Nat} {M TA' : Option Addr} {ml mc tl : Nat} {y5 y6 y7 : Int} {outF : List Int}
    (hk : ∀ (w : World) (A : Option Addr) (c : Nat), OutsH w0 wy w A c outF → L1 A outF.length c (IntKind.wrap .i64 ((i : Int) - 1)) q9 P p.length pc ⟨g, 0, none⟩ M ml mc FA xs.length fc TA' tl tc y5 y6 y7 w) (hoF : outF.length ≤ 1000000) :
    ∀ (k j : Nat) (w : World) (A : Option Addr) (c : Nat) (out : List Int), x.locals.length < j + k → j ≤ x.locals.length → OutsH w0 wy w A c out → out ++ nz (x.locals.drop j) = outF →
      V19.l2 w0.heap.size R L1 k A out.length c i j q13 G.params G.locals G.refs C cl cc q9 P p.length pc ⟨g, 0, none⟩ M ml mc FA xs.length fc TA' tl tc y5 y6 y7 w := by
  have hil := (List.getElem?_eq_some_iff.1 hx).1
  have hfew := hY.ok.few
  intro k
  induction k with
  | zero => intros; omega
  | succ k ih =>
    intro j w A c out hki hj hO hF
    dsimp -zeta only [V19.l2]
    by_cases hlt : j < x.locals.length
    · rw [if_pos (by simp; omega)]
      have hY' := hY.has hO.has
      obtain ⟨x', q, hx', hq, s, hcell, hfr⟩ := RowAt.at (hY'.frms) hil
      rw [hx] at hx'; cases hx'
      obtain ⟨v, q', hv, hq', hc⟩ := Nums.at hfr.locals hlt
      have hc6 : w.cell? ((q.add (((i : Nat) : Int).toNat * 8)).add 6) = some (.slice s.L x.locals.length s.lc) := by rw [Int.toNat_natCast]; exact off_in _ _ (hcell 6 _ rfl)
      have hcj : w.cell? (q'.add (((j : Nat) : Int).toNat)) = some (.int .u64 v) := by rw [Int.toNat_natCast]; exact off_in _ _ hc
      have hwi : IntKind.wrap .i64 ((j : Int) + 1) = ((j + 1 : Nat) : Int) := by rw [wrap_id (by omega) (by omega)]; rfl
      rw [drop_at hv, nz_cons] at hF
      refine ⟨q, hq, by omega, by omega, s.L, x.locals.length, s.lc, hc6, q', hq', by omega, by omega, v, hcj, ?_⟩
      have hol : out.length ≤ 1000000 := by
        have := congrArg List.length hF
        rw [List.length_append] at this
        omega
      by_cases h0 : v = 0
      · rw [if_neg (by simpa using h0), hwi]
        rw [if_neg (by simpa using h0)] at hF
        exact ih (j + 1) w A c out (by omega) (by omega) hO hF
      · rw [if_pos (by simpa using h0), hwi]
        rw [if_pos h0] at hF
        refine ⟨q, hq, by omega, by omega, s.L, x.locals.length, s.lc, hc6, q', hq', by omega, by omega, v, hcj, ?_⟩
        refine push_wordO hO.below.size hO.le hO.row (by omega) fun u w1 e1 ho1 hf1 => ?_
        obtain ⟨A1, c1, rfl⟩ := owns_slice0 ho1
        refine ⟨A1, _, c1, rfl, ?_⟩
        have hl1 : (out ++ [v]).length = out.length + 1 := by simp
        have := ih (j + 1) w1 A1 c1 (out ++ [v]) (by omega) (by omega) ⟨by rw [hl1]; exact ho1, fun k cc t f hk => e1.row _ _ _ _ (fun h => by have := (hO.row.lt k h).1; have := lt_of_some hk; omega) (hO.has _ _ _ _ hk), e1.after (fun k hk => Nat.le_trans hwy (hO.row.lt k hk).1) hO.below, Nat.le_trans hO.le e1.size⟩ (by rw [← hF]; simp)
        rw [hl1] at this
        exact this
    · rw [if_neg (by simp; omega)]
      have hjl : j = x.locals.length := by omega
      subst hjl
      rw [List.drop_length] at hF
      have hF' : out = outF := by simpa [nz] using hF
      subst hF'
      exact hk w A c hO
theorem l4_19 {wl wp : World} {gw : Nat} (hY : YardAt (off gw wl) p mem0 lo xs P FA TA g b m) (hp : w0.heap.size ≤ wp.heap.size) {WA LA : Option Addr} {wc lc : Nat} (hwc : (rootsX p xs xs.length).length ≤ wc) (hWA : Nums .u64 (off gw wl) WA (rootsX p xs xs.length).length (rootsX p xs xs.length)) (hLA : Nums .u64 (off gw wl) LA (rootsX p xs xs.length).length (rootsX p xs xs.length)) {y5 y6 : Int} :
    ∀ (k i : Nat) (w : World) (RA : Option Addr) (rc : Nat), 2000 < i + k → (i < countX p xs xs.length ∨ i = 0) → Below w0.heap.size w0 w → Walks wl wp w gw p (runW p (stk p mem0 lo xs).mem i (wk0 (stk p mem0 lo xs).below)).1 RA rc →
      V19.l4 w0.heap.size (IsV w0 (.bool true)) k WA (rootsX p xs xs.length).length wc LA (rootsX p xs xs.length).length lc 0 ⟨gw, 0, none⟩ i q9 P p.length pc ⟨g, 0, none⟩ (some ⟨m, 0, none⟩) 1024 1024 FA xs.length fc TA xs.length tc y5 y6 (stk p mem0 lo xs).below w := by
  have hcount := hY.count
  have hrun := hY.run
  have hbel := hY.below_bd
  have hml := hY.mlen
  have h00 : countX p xs xs.length = 0 → (wk0 (stk p mem0 lo xs).below).at_ = -1 := fun h => by
    have := hrun.at_
    rw [h] at this
    exact this
  intro k
  induction k with
  | zero => intros; omega
  | succ k ih =>
    intro i w RA rc hk hi hw hW
    dsimp -zeta only [V19.l4]
    have hro := run_ok hY.arena.wd (by omega) hY.sized (wk0_in (top := (stk p mem0 lo xs).below) _ (by omega)) i
    have hrl : (runW p (stk p mem0 lo xs).mem i (wk0 (stk p mem0 lo xs).below)).1.roots.length ≤ 1000000 := by have := hro.2; simp only [wk0, List.length_nil] at this; unfold wk0; omega
    have hlk := run_look hrun h00 hi
    have l0 := hlk.1
    have l1 := hlk.2.1
    have l2 := hlk.2.2
    clear hlk
    have hpre : (runW p (stk p mem0 lo xs).mem i (wk0 (stk p mem0 lo xs).below)).1.roots <+: rootsX p xs xs.length := by
      by_cases hn : countX p xs xs.length = 0
      · have : i = 0 := by omega
        subst this
        simp only [runW, wk0]
        exact List.nil_prefix
      · have h1 := run_prefix (p := p) (mem := (stk p mem0 lo xs).mem) (s := wk0 (stk p mem0 lo xs).below) (countX p xs xs.length) i (by omega) hrun.zero
        rw [hrun.roots] at h1
        simpa [wk0] using h1
    have hlt : (i : Int) < 2000 := by omega
    rw [if_pos (decide_eq_true hlt)]
    refine call_wroots hw.size hW.at_ hrl fun A c w1 e1 hN1 _ => ⟨A, _, c, rfl, ?_⟩
    have hw1 := e1.after hw
    have hW1 := hW.ext e1
    have hle := hpre.length_le
    rw [if_pos (decide_eq_false (by omega))]
    refine ⟨by omega, by omega, ?_⟩
    rw [slice0, Int.toNat_natCast, Nat.sub_zero]
    refine call_gives hw1 (fun w2 e2 _ => gives68 (RowAt.keep (NumE.kept _) (RowAt.keep (NumE.kept _) hN1 newW_in) (ext_keeps e2)) (nums_take (RowAt.keep (NumE.kept _) hWA fun q v hq => e2.cell (hW1.has.cell q v hq)) hle)) fun w2 e2 hw2 => ⟨_, rfl, ?_⟩
    rw [if_neg (by rw [← List.prefix_iff_eq_take.1 hpre]; simp)]
    have hW2 := hW1.ext e2
    refine call_stepW hw2 hW2 hp hY.arena ⟨hrl, hro.1⟩ hY.sized hY.pl fun RA' rc' w3 hW3 hw3 => ⟨_, _, _, rfl, ?_⟩
    rw [l0, l1, if_neg (by simp)]
    rw [show (stepW p (stk p mem0 lo xs).mem (runW p (stk p mem0 lo xs).mem i (wk0 (stk p mem0 lo xs).below)).1).1 = (runW p (stk p mem0 lo xs).mem (i + 1) (wk0 (stk p mem0 lo xs).below)).1 by rw [runW_succ]] at hW3
    by_cases hd : countX p xs xs.length ≤ i + 1
    · rw [if_pos (by simpa using hd)]
      obtain ⟨l3, l4⟩ := l2 hd
      rw [show (wk0 (stk p mem0 lo xs).below).roots = [] from rfl, List.nil_append] at l3
      unfold V19.b5
      rw [if_pos (by simp)]
      refine call_gives hw3 (fun w4 e4 _ => gives68 (RowAt.keep (NumE.kept _) hLA fun q v hq => e4.cell (hW3.has.cell q v hq)) (RowAt.keep (NumE.kept _) hWA fun q v hq => e4.cell (hW3.has.cell q v hq))) fun w4 e4 hw4 => ⟨_, rfl, ?_⟩
      rw [if_pos (by simp)]
      have hW4 := hW3.ext e4
      have hro' := run_ok hY.arena.wd (by omega) hY.sized (wk0_in (top := (stk p mem0 lo xs).below) _ (by omega)) (i + 1) (p := p) (mem := (stk p mem0 lo xs).mem) (s := wk0 (stk p mem0 lo xs).below)
      refine call_wroots hw4.size hW4.at_ (by have := hro'.2; simp only [wk0, List.length_nil] at this; unfold wk0; omega) fun A5 c5 w5 e5 hN5 _ => ⟨A5, _, c5, rfl, ?_⟩
      have hw5 := e5.after hw4
      rw [l3] at hN5 ⊢
      refine call_gives hw5 (fun w6 e6 _ => gives68 (RowAt.keep (NumE.kept _) (RowAt.keep (NumE.kept _) hN5 newW_in) (ext_keeps e6)) (RowAt.keep (NumE.kept _) hWA fun q v hq => e6.cell (e5.cell (hW4.has.cell q v hq)))) fun w6 e6 hw6 => ⟨_, rfl, ?_⟩
      rw [if_pos (by simp)]
      exact call_gives hw6 (fun w7 _ _ => gives65 w7) fun w7 _ hw7 => ⟨_, rfl, ret_is hw7 rfl⟩
    · rw [if_neg (by simpa using hd)]
      have hwi : IntKind.wrap .i64 ((i : Int) + 1) = ((i + 1 : Nat) : Int) := by rw [wrap_id (by omega) (by omega)]; rfl
      rw [hwi]
      exact ih (i + 1) w3 RA' rc' (by omega) (.inl (by omega)) hw3 hW3
theorem l1_19 (hY : YardAt wy p mem0 lo xs P FA TA g b m) (hwy : w0.heap.size ≤ wy.heap.size) {y5 y6 : Int} :
    ∀ (k i : Nat) (w : World) (A : Option Addr) (c : Nat) (out : List Int), i < k → i ≤ xs.length → OutsH w0 wy w A c out → out = ((xs.drop i).reverse).flatMap (refsX p) → out.length ≤ 8 * (xs.length - i) →
      V19.l1 w0.heap.size (IsV w0 (.bool true)) k A out.length c ((i : Int) - 1) q9 P p.length pc ⟨g, 0, none⟩ (some ⟨m, 0, none⟩) 1024 1024 FA xs.length fc TA xs.length tc y5 y6 (stk p mem0 lo xs).below w := by
  have hfew := hY.ok.few
  intro k
  induction k with
  | zero => intros; omega
  | succ k ih =>
    intro i w A c out hk hi hO ho hol
    dsimp -zeta only [V19.l1]
    by_cases h0 : i = 0
    · subst h0
      rw [if_neg (by simp)]
      have hY' := hY.has hO.has
      have hout : out = rootsX p xs xs.length := by rw [ho]; unfold rootsX; rw [List.take_length, List.drop_zero]
      refine call_roots hO.below.size hY'.arena hY'.prog' hY'.sized hY'.pl.2 fun A1 c1 w1 e1 hN1 => ⟨_, _, _, _, rfl, ?_⟩
      rw [hY'.roots] at hN1 ⊢
      simp only at hN1 ⊢
      have hw1 := e1.after hO.below
      have hY1 := hY'.has e1.has
      refine call_neww hw1.size hY1.prog' hY1.sized hY1.pl fun wp gw w2 e2 hwp _ hW => ⟨_, rfl, ?_⟩
      show V19.b3 _ _ A out.length c A1 _ c1 0 ⟨gw, 0, none⟩ q9 P p.length pc ⟨g, 0, none⟩ (some ⟨m, 0, none⟩) 1024 1024 FA xs.length fc TA xs.length tc y5 y6 (stk p mem0 lo xs).below w2
      unfold V19.b3
      have hw2 := e2.after hw1
      have hlt := hW.base.lt
      have hH : Has w1 (off gw w2) := has_lt_off e2.has (by omega)
      obtain ⟨A', c', hv, hNW, _⟩ := owns_nums hO.row (by simp only [maxLen]; omega)
      cases hv
      have hcap := (owns_cap hO.row).2
      refine ⟨2001, ?_⟩
      subst hout
      exact l4_19 (hY1.has hH) (Nat.le_trans hw1.size hwp) hcap (RowAt.keep (NumE.kept _) hNW fun q v hq => hH.cell q v (e1.cell hq)) (RowAt.keep (NumE.kept _) hN1 fun q v hq => hH.cell q v (newW_in q v hq)) 2001 0 w2 none 0 (by omega) (.inr rfl) hw2 (Walks.new hW)
    · obtain ⟨j, rfl⟩ : ∃ j, i = j + 1 := ⟨i - 1, by omega⟩
      have hji : ((j + 1 : Nat) : Int) - 1 = (j : Int) := by omega
      rw [hji, if_pos (by simp)]
      have hY' := hY.has hO.has
      obtain ⟨x, q, hx, hq, s, hcell, hfr⟩ := RowAt.at (hY'.frms) (show j < xs.length by omega)
      have hm := hY.ok.may x (List.mem_of_getElem? hx)
      obtain ⟨G, h0', hG, hfn, a1, a2, a3, a4, a5, a6, a7, a8⟩ := may_some hm
      have hGs := hY.sized G (List.mem_of_getElem? hG)
      have hbd := sized_bd hGs
      obtain ⟨G', q', C, cc, hG', hq', c0, cl1, cl2, c3, hcode⟩ := prog_at hY'.prog' (i := x.f.toNat) (List.getElem?_eq_some_iff.1 hG).1
      rw [hG] at hG'; cases hG'
      have hfl := (List.getElem?_eq_some_iff.1 hG).1
      have hcf : w.cell? ((q.add (((j : Nat) : Int).toNat * 8)).add 0) = some (.int .i64 x.f) := by rw [Int.toNat_natCast]; exact off_in _ _ (hcell 0 _ rfl)
      refine ⟨q, hq, by omega, by omega, x.f, hcf, q', hq', by omega, by omega, G.params, c0, G.locals, cl1, G.refs, cl2, C, G.code.length, cc, c3, ?_⟩
      intro q13 _
      refine ⟨c0, cl1, cl2, c3, hcf, x.locals.length + 1, ?_⟩
      rw [wrap_id (n := G.locals - G.refs) (by omega) (by omega)]
      have hk0 : G.locals - G.refs = ((x.locals.length - G.refs.toNat : Nat) : Int) := by omega
      rw [hk0]
      have hrx : refsX p x = nz (x.locals.drop (x.locals.length - G.refs.toNat)) := by unfold refsX; rw [hfn]
      have hdr : out ++ refsX p x = ((xs.drop j).reverse).flatMap (refsX p) := by
        rw [drop_at hx, List.reverse_cons, List.flatMap_append, ← ho]
        simp
      have hr8 : (refsX p x).length ≤ 8 := by have := refsX_len (p := p) (x := x) hY.sized; omega
      have hlo : (((xs.drop j).reverse).flatMap (refsX p)).length ≤ 8 * (xs.length - j) := by rw [← hdr, List.length_append]; omega
      refine l2_19 hY hwy hx a5 (by omega) (outF := ((xs.drop j).reverse).flatMap (refsX p)) (fun w' A' c' hO' => ?_) (by omega) (x.locals.length + 1) (x.locals.length - G.refs.toNat) w A c out (by omega) (by omega) hO (by rw [← hrx]; exact hdr)
      rw [wrap_id (n := (j : Int) - 1) (by omega) (by omega)]
      exact ih j w' A' c' _ (by omega) (by omega) hO' rfl hlo
end
theorem gives19 {w : World} {A A1 A2 : Option Addr} {l c l1 c1 l2 c2 : Nat} {ns fs ws : List Int} (hns : BytesAt w A l c ns) (hfs : BytesAt w A1 l1 c1 fs) (hws : Nums .u64 w A2 l2 ws) (hwd : Wd ws) {lo : Int} (hlo : 0 ≤ lo ∧ lo < 256) :
    Gives Try.prog 19 [.slice A l c, .slice A1 l1 c1, .slice A2 l2 c2, .int .u8 lo] w (.bool true) := by
  refine gives_of (V19.sound ?_)
  unfold V19.vc
  refine call_yard (Nat.le_refl _) hns hfs hws hwd hlo (by omega) fun p P pc xs FA fc TA tc g b m w1 e1 hY0 => ⟨_, _, _, _, _, _, _, _, _, _, _, _, _, _, _, _, _, rfl, ?_⟩
  intro q9 _
  show V19.b0 _ _ true q9 P p.length pc ⟨g, 0, none⟩ (some ⟨m, 0, none⟩) 1024 1024 FA xs.length fc TA xs.length tc _ _ _ w1
  unfold V19.b0
  rw [if_neg (by simp)]
  have hw1 := e1.after (Below.refl _ _)
  have hY := hY0.has (has_newW _ _)
  have hfew := hY.ok.few
  refine ⟨xs.length + 1, ?_⟩
  rw [wrap_id (n := (xs.length : Int) - 1) (by omega) (by omega)]
  exact l1_19 hY hw1.size (xs.length + 1) xs.length w1 none 0 [] (by omega) (by omega) ⟨World.ownsRow_nil _ _ _ _, Has.refl _, hw1, Nat.le_refl _⟩ (by simp) (by simp)
end Go.Proofs.Ytlccbaemcfjdoaa
