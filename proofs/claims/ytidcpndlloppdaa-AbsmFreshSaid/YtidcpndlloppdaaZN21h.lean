import Derived.Test.YtidcpndlloppdaaZN21b
import Derived.Test.YtidcpndlloppdaaZEngR
import Derived.Test.YtidcpndlloppdaaZM21r
import Derived.Test.YtidcpndlloppdaaZP21j
import Derived.Test.YtidcpndlloppdaaZMS
/-
  Layer 21: AbsmFresh's function returns true.
  Conditions: the arguments' memory says what their values are.
-/
set_option linter.unusedVariables false
set_option linter.unusedSimpArgs false
set_option maxRecDepth 20000
namespace Go.Proofs.Ytidcpndlloppdaa
open Go.RowKit
structure FrAt (w0 w : World) (xs : List Ins) (vP : Value) (f : Nat) (hs : List Int) : Prop where
  below : Below w0.heap.size w0 w
  code : w.ownsRow w0.heap.size 23 3 vP xs.length (xs.flatMap insV)
  have_ : w.heap[f]? = some (.cells ⟨u64s hs⟩ 48 (0, 0))
  new : w0.heap.size ≤ f
section
variable {w0 w w' : World} {xs : List Ins} {vP : Value} {f : Nat} {hs : List Int}
theorem FrAt.ext (h : FrAt w0 w xs vP f hs) (he : Ext w0.heap.size w w') : FrAt w0 w' xs vP f hs := ⟨he.after h.below, he.owns h.code, he.row _ _ _ _ h.have_, h.new⟩
theorem FrAt.size (h : FrAt w0 w xs vP f hs) : w0.heap.size ≤ w.heap.size := h.below.size
theorem FrAt.app (h : FrAt w0 w xs vP f hs) {bs : List Nat} {K : Value → World → Prop} {a : Addr} {n c : Nat} {ys : List Ins} (hn : ys.length = n) (hy : ∀ j u, (ys.flatMap insV)[j]? = some u → w.cell? (a.add j) = some u) (hl : xs.length + n ≤ 1000)
    (hk : ∀ A c' w', FrAt w0 w' (xs ++ ys) (.slice A (xs.length + n) c') f hs → K (.slice A (xs.length + n) c') w') : RunK Try.prog (Builtin.append_ #[24, 24] 24 ⟨[vP, .slice (some a) n c]⟩) w0.heap.size w bs K := by
  subst hn
  have hb : Try.t23.bytes = 24 := by kernel_rfl
  refine append_own (t := 24) (e := 23) (i := Try.t23) (z := .agg ⟨[.int .i64 0, .int .i64 0, .int .i64 0]⟩) (size := 3) (bytes := 24) (by kernel_rfl) (by kernel_rfl) (by kernel_rfl) (by kernel_rfl) hb rfl (by omega) h.code (news := ys.flatMap insV) (insV_len ys) hy insV_one (by simp only [maxLen]; omega) (by omega) h.size h.size fun v' w1 he ho hn => ?_
  obtain ⟨A, c', hv⟩ := owns_slice0 ho
  subst hv
  have hc := chg1_exts he h.code
  refine hk A c' w1 ⟨he.after (fun j hj => (h.code.lt j hj).1) h.below, ?_, hc.row _ _ _ _ (fun e => ?_) h.have_, h.new⟩
  · rw [List.length_append, List.flatMap_append]; exact ho
  · obtain ⟨c2, f2, h2⟩ := hc.typ _ e
    rw [h.have_] at h2; cases h2
theorem FrAt.set (h : FrAt w0 w xs vP f hs) (i : Nat) (v : Int) : FrAt w0 (w.setCell ⟨f, i, none⟩ (.int .u64 v)) xs vP f (hs.set i v) := by
  refine ⟨⟨h.below.os, h.below.tape, h.below.output, by rw [World.size_setCell]; exact h.below.size, fun k hk => ?_⟩, (chg1_set (i := i) (v := .int .u64 v) h.have_).ownT h.code (by decide), ?_, h.new⟩
  · rw [at_other (by have := h.new; omega)]; exact h.below.block k hk
  · have := at_set h.have_ i (.int .u64 v)
    rw [this]; unfold u64s; rw [List.map_set]
theorem u64s_at {hs : List Int} {i : Nat} (hi : i < hs.length) : (u64s hs)[i]? = some (.int .u64 (hs.getD i 0)) := by
  unfold u64s
  rw [List.getElem?_map, List.getD_eq_getElem?_getD, List.getElem?_eq_getElem hi]; rfl
end
theorem refsF_of {p : List Fnc} (hr : Rt p) {x : Frm} (h : FrOk p x) : RefsF p x := by
  obtain ⟨g, hx⟩ := h.inn
  have hs := sized_bd (hx.wrap hr).2
  have hl := hx.locals
  exact ⟨g, hx.fn, by omega, by omega, by omega⟩
section
variable {w0 wm : World} {p : List Fnc} {m : Mach}
theorem l3_5 {g : Nat} {C : Option Addr} {cc : Nat} {F T : Value} {sm : List Sl} {f : Nat} {hs : List Int} (hlen : hs.length = 4) (hbd : ∀ x ∈ hs, 0 ≤ x ∧ x ≤ 1000) (hr : Rt p) (ho : MOk p m) (hfr : m.frames.length = 1) (hroots : rootsM p m = hs.filter fun w => w != 0) (hwm : w0.heap.size ≤ wm.heap.size) (hfm : wm.heap[f]? = some (.cells ⟨u64s hs⟩ 48 (0, 0))) {n0 : Nat} (hOm : Own wm n0 w0.heap.size g C cc p m F T sm) :
    ∀ (k i : Nat) (w : World) (A : Option Addr) (n c : Nat), 4 < i + k → i ≤ 4 → n = ((hs.take i).filter fun w => w != 0).length → Below w0.heap.size w0 w → (∀ (k : Nat) (c : Array Value) (e : TypeId) (f : Nat × Nat), k < wm.heap.size → wm.heap[k]? = some (.cells c e f) → w.heap[k]? = some (.cells c e f)) →
      wm.heap.size ≤ w.heap.size → w.ownsRow wm.heap.size 28 1 (.slice A n c) n (u64s ((hs.take i).filter fun w => w != 0)) →
      V5.l3 w0.heap.size (IsV w0 (.bool true)) k ⟨f, 0, none⟩ ⟨g, 0, none⟩ A n c (i : Int) w
  | 0, i, w, A, n, c, hk, hi, hn, hw, hkp, hwz, hrow => by omega
  | k + 1, i, w, A, n, c, hk, hi, hn, hw, hkp, hwz, hrow => by
    subst hn
    have hf := hkp _ _ _ _ (lt_of_some hfm) hfm
    have hO : Own w n0 w0.heap.size g C cc p m F T sm := hOm.off fun k c e f _ hk => hkp k c e f (lt_of_some hk) hk
    dsimp -zeta only [V5.l3]
    by_cases hlt : i < 4
    · rw [if_pos (by simp; omega)]
      have hx : hs[i]? = some (hs.getD i 0) := by rw [List.getD_eq_getElem?_getD, List.getElem?_eq_getElem (by omega)]; rfl
      generalize hs.getD i 0 = x at hx
      have hc : w.cell? ⟨f, i, none⟩ = some (.int .u64 x) := at_cell hf (by unfold u64s; rw [List.getElem?_map, hx]; rfl)
      rw [Int.toNat_natCast, own_add, wrap_id (n := (i : Int) + 1) (by omega) (by omega)]
      refine ⟨by omega, by omega, x, hc, ?_⟩
      have htake : (hs.take (i + 1)).filter (fun w => w != 0) = (hs.take i).filter (fun w => w != 0) ++ [x].filter fun w => w != 0 := by rw [take_getN hx, List.filter_append]
      by_cases h0 : x = 0
      · subst h0
        rw [if_neg (by simp)]
        have e : (hs.take (i + 1)).filter (fun w => w != 0) = (hs.take i).filter fun w => w != 0 := by rw [htake]; simp
        exact l3_5 hlen hbd hr ho hfr hroots hwm hfm hOm k (i + 1) w A _ c (by omega) (by omega) (by rw [e]) hw hkp hwz (by rw [e]; exact hrow)
      · have hx0 : (x != 0) = true := by simpa using h0
        rw [if_pos hx0]
        refine ⟨by omega, by omega, x, hc, ?_⟩
        intro w1 e1 _
        obtain ⟨e2, ho2⟩ := alloc1 (.cells ⟨[.int .u64 x]⟩ 28) e1 hw.size
        simp only
        generalize w1.alloc (.cells ⟨[.int .u64 x]⟩ 28) = w2 at *
        have hw2 := e2.after hw
        have hrow2 := e2.owns hrow
        have hO2 := hO.ext e2
        have hb : Try.t28.bytes = 8 := by kernel_rfl
        have hle := List.length_filter_le (fun w : Int => w != 0) (hs.take i)
        rw [List.length_take] at hle
        refine append_own (t := 49) (e := 28) (i := Try.t28) (z := .int .u64 0) (size := 1) (bytes := 8) (by kernel_rfl) (by kernel_rfl) (by kernel_rfl) (by kernel_rfl) hb rfl (by omega) hrow2 (m := 1) (news := [.int .u64 x]) rfl (fun j v hj => ?_) (fun v hv => ?_) (by simp only [maxLen]; omega) (by omega) hw2.size (Nat.le_trans hwz e2.size) fun v' w3 he ho' hn' => ?_
        · rw [own_add]; exact at_cell ho2 hj
        · simp only [List.mem_cons, List.not_mem_nil, or_false] at hv; subst hv; rfl
        obtain ⟨A5, c5, hv5⟩ := owns_slice0 ho'
        subst hv5
        refine ⟨A5, _, c5, rfl, ?_⟩
        have hc3 := chg1_exts he hrow2
        have e : (hs.take (i + 1)).filter (fun w => w != 0) = (hs.take i).filter (fun w => w != 0) ++ [x] := by rw [htake]; simp [h0]
        have el : ((hs.take i).filter (fun w => w != 0) ++ [x]).length = ((hs.take i).filter fun w => w != 0).length + 1 := List.length_append
        refine l3_5 hlen hbd hr ho hfr hroots hwm hfm hOm k (i + 1) w3 A5 _ c5 (by omega) (by omega) (by rw [e, el]) (he.after (fun j hj => Nat.le_trans hwm (hrow2.lt j hj).1) hw2) (fun k c e f hk hc => ?_) (Nat.le_trans hwz (Nat.le_trans e2.size he.size)) ?_
        · exact he.row _ _ _ _ (fun h => by have := (hrow2.lt k h).1; omega) (e2.row _ _ _ _ (hkp k c e f hk hc))
        · have : u64s ((hs.take i).filter (fun w => w != 0) ++ [x]) = u64s ((hs.take i).filter fun w => w != 0) ++ [.int .u64 x] := by unfold u64s; rw [List.map_append]; rfl
          rw [e, this]
          exact ho'
    · have : i = 4 := by omega
      subst this
      rw [if_neg (by simp)]
      rw [List.take_of_length_le (by omega)] at hrow
      have hle := List.length_filter_le (fun w : Int => w != 0) hs
      refine call_yieldsX (Q := fun w1 => RootsQ (rootsM p m) w1) hw.size (fun w1 e1 => yields19 (hO.mach.ext e1) (fun x hx => refsF_of hr (ho.frames x hx)) (by omega)) fun w1 v w2 w3 hs1 hQ hsame e3 => ?_
      have hQ : w2.ownsRow w1.heap.size 28 1 v (rootsM p m).length (u64s (rootsM p m)) := hQ
      have hQ3 : w3.ownsRow w1.heap.size 28 1 v (rootsM p m).length (u64s (rootsM p m)) := owns_other hQ fun k hk => hsame k (owns_ty hQ hk).1
      obtain ⟨A1, c1, hv1⟩ := owns_slice0 hQ3
      subst hv1
      refine ⟨A1, _, c1, rfl, ?_⟩
      have hw3 := e3.after hw
      rw [hroots] at hQ3 ⊢
      refine call_gives hw3 (fun w4 e4 _ => gives18 (ownsU_nums (e4.owns hQ3) (by omega)) (ownsU_nums (e4.owns (e3.owns (by rw [List.take_of_length_le (by omega)]; exact hrow))) (by rw [List.take_of_length_le (by omega)]; omega))) fun w4 e4 hw4 => ⟨_, rfl, ?_⟩
      rw [if_pos (by simp)]
      have hO4 := (hO.ext e3).ext e4
      refine call_frames hw4.size hO4.mach (fun x hx => smallF_of hr (ho.frames x hx)) (by omega) fun A6 c6 w5 s6 e5 _ _ => ⟨_, _, _, rfl, ?_⟩
      rw [if_pos (by rw [hfr]; rfl)]
      exact call_gives (e5.after hw4) (fun _ _ _ => gives16) fun w7 e7 hw7 => ⟨_, rfl, ret_is hw7 rfl⟩
end
theorem wordI {k : Int} (h : 0 ≤ k ∧ k < 256) : IntKind.wrap .i64 k = k ∧ IntKind.wrap .i64 (Int.tdiv k 4) = Int.tdiv k 4 ∧ IntKind.wrap .u8 (Int.tdiv k 16) = Int.tdiv k 16 := by
  rw [Int.tdiv_eq_ediv_of_nonneg h.1, Int.tdiv_eq_ediv_of_nonneg h.1]
  exact ⟨wrap_id (by omega) (by omega), wrap_id (by omega) (by omega), by rw [show ∀ m : Int, IntKind.wrap .u8 m = m % 256 from fun m => by simp [IntKind.wrap, IntKind.bits, IntKind.signed]]; omega⟩
section
variable {w0 : World} {ns : List Int}
theorem b1_5 {ks : List Int} (hl : ks.length ≤ 50) (hb : ∀ k ∈ ks, 0 ≤ k) {f q : Nat} {P : Option Addr} {nP cP : Nat} (hnP : nP = ks.length) {w : World} (h : FrAt w0 w (ks.map insFr) (.slice P nP cP) f (allFr ks).1) :
    V5.b1 w0.heap.size (IsV w0 (.bool true)) ⟨f, 0, none⟩ q 0 4 4 P nP cP w := by
  subst hnP
  unfold V5.b1
  refine expo_alloc h.size fun w1 w2 hs1 e2 hlt2 ho2 => ?_
  have h2 := h.ext e2
  have hml : (ks.map insFr).length = ks.length := List.length_map _
  have happ := fun K => h2.app (K := K) (bs := [q]) (a := ⟨w1.heap.size, 0, none⟩) (c := 2) (ys := [⟨1, 0, 0⟩, ⟨18, 0, 0⟩]) (n := 2) rfl (fun j u hj => by rw [own_add]; exact at_cell ho2 hj) (by omega)
  simp only [hml] at happ
  refine happ _ fun A3 c3 w3 h3 => ?_
  refine ⟨A3, _, c3, rfl, ?_⟩
  refine expo_alloc h3.size fun w4 w5 hs4 e5 hlt5 ho5 => ?_
  have h5 := h3.ext e5
  intro u hu
  rw [wrap_id (by omega) (by omega)]
  have hlen : (ks.map insFr ++ ([⟨1, 0, 0⟩, ⟨18, 0, 0⟩] : List Ins)).length = ks.length + 2 := by rw [List.length_append, hml]; rfl
  have hcode5 := h5.code
  obtain ⟨A6, c6, hv6, hc6⟩ := owns_code hcode5 (by omega)
  rw [hlen] at hv6
  have hA : A6 = A3 ∧ c6 = c3 := by
    cases hv6; exact ⟨rfl, rfl⟩
  obtain ⟨rfl, rfl⟩ := hA
  have hmain : CodeAt w5 A6 (ks.length + 2) (freshC ks) := by rw [← hlen]; exact RowAt.keep InsE.kept hc6 fun q v hq => (newW_cell.1 hq).1
  have hprog : ProgAt w5 (some ⟨w4.heap.size, 0, none⟩) 1 (freshP ks) := ⟨rfl, by decide, fun j x hx => ⟨_, rfl, by
    match j, hx with
    | 0, hx => cases hx; exact ⟨at_cell (i := 0) ho5 rfl, at_cell (i := 1) ho5 rfl, at_cell (i := 2) ho5 rfl, A6, _, c6, at_cell (i := 3) ho5 rfl, hmain⟩
    | j + 1, hx => simp [freshP] at hx⟩⟩
  have hchk := fresh_check hl hb
  have hr : Rt (freshP ks) := rt_of (by rw [hchk])
  have hfst : fnAt (freshP ks) 0 = some ⟨0, 4, 4, freshC ks⟩ := rfl
  have hpm := fresh_play ks ks.length (Nat.le_refl _)
  rw [List.take_length] at hpm
  have e1 : ((ks.length : Int) + 1) = ((ks.length + 1 : Nat) : Int) := by omega
  rw [e1]
  refine call_played (p := freshP ks) (n := ks.length + 1) hr hfst rfl h5.size hprog (by omega) fun g Cm cm Fm Tm sm w7 h7 e7 => ⟨_, rfl, ?_⟩
  simp only [caseP]
  unfold V5.b2
  obtain ⟨ho, hlim⟩ := played_ok hr hfst rfl (ks.length + 1) (by omega)
  rw [hpm] at h7 ho
  obtain ⟨o1, o2, o3, o4⟩ := allFr_ok ks
  have h7' := h5.ext e7
  refine ⟨5, l3_5 (wm := w7) (m := freshM (allFr ks) ks.length) o1 (fun x hx => by have := o2 x hx; omega) hr ho rfl fresh_roots h7'.size h7'.have_ h7 5 0 w7 none 0 0 (by omega) (by omega) rfl h7'.below (fun _ _ _ _ _ h => h) (Nat.le_refl _) (World.ownsRow_nil _ _ _ _)⟩
theorem l0_5 {A : Option Addr} {l c : Nat} (hns : BytesAt w0 A l c ns) {f q : Nat} : ∀ (k i : Nat) (w : World) (P : Option Addr) (nP cP : Nat), min l 50 < i + k → i ≤ min l 50 → nP = i → FrAt w0 w ((ns.take i).map insFr) (.slice P nP cP) f (allFr (ns.take i)).1 →
    V5.l0 w0.heap.size (IsV w0 (.bool true)) k A l c ⟨f, 0, none⟩ (allFr (ns.take i)).2 (i : Int) q 0 4 4 P nP cP w
  | 0, i, w, P, nP, cP, hk, hi, hnP, _ => by omega
  | k + 1, i, w, P, nP, cP, hk, hi, hnP, h => by
    subst hnP
    dsimp -zeta only [V5.l0]
    have hll := hns.nums.len
    have htl : (ns.take nP).length = nP := by rw [List.length_take]; omega
    obtain ⟨o1, o2, o3, o4⟩ := allFr_ok (ns.take nP)
    have fin : nP = min l 50 → V5.b1 w0.heap.size (IsV w0 (.bool true)) ⟨f, 0, none⟩ q 0 4 4 P nP cP w := fun e => by
      exact b1_5 (ks := ns.take nP) (by omega) (fun k hk => (hns.byte k (List.mem_of_mem_take hk)).1) htl.symm h
    by_cases hlt : nP < l
    · rw [if_pos (by simp; omega)]
      by_cases h50 : nP < 50
      · rw [if_pos (by simp; omega)]
        obtain ⟨x, p, hx, hp, hc⟩ := hns.nums.at hlt
        have hb := hns.byte x (List.mem_of_getElem? hx)
        have hc' := below_keeps h.below _ _ hc
        obtain ⟨w1, w2, w3⟩ := wordI hb
        rw [Int.toNat_natCast]
        refine ⟨p, hp, by omega, by omega, x, hc', by decide, p, hp, by omega, by omega, x, hc', by decide, by decide, p, hp, by omega, by omega, x, hc', by decide, by decide, ?_⟩
        rw [w1, w2, w3, wrap_id (n := (nP : Int) + 1) (by omega) (by omega)]
        obtain ⟨a0, a1⟩ := fa_bd hb.1
        obtain ⟨b0, b1⟩ := fb_bd hb.1
        have hta : ns.take (nP + 1) = ns.take nP ++ [x] := take_getN hx
        have next : ∀ (w : World) (P : Option Addr) (cP : Nat), FrAt w0 w ((ns.take nP).map insFr ++ [insFr x]) (.slice P (nP + 1) cP) f (haveFr x (allFr (ns.take nP))).1 →
            V5.l0 w0.heap.size (IsV w0 (.bool true)) k A l c ⟨f, 0, none⟩ (haveFr x (allFr (ns.take nP))).2 ((nP + 1 : Nat) : Int) q 0 4 4 P (nP + 1) cP w := fun w P cP hw => by
          have := l0_5 hns (f := f) (q := q) k (nP + 1) w P (nP + 1) cP (by omega) (by omega) rfl
          rw [hta, List.map_append, allFr_snoc] at this
          exact this hw
        have hml : ((ns.take nP).map insFr).length = nP := by rw [List.length_map, htl]
        have app : ∀ {w1 w2 : World} {K : Value → World → Prop}, Ext w0.heap.size w w2 → w2.heap[w1.heap.size]? = some (.cells ⟨insV (insFr x)⟩ 23 (0, 0)) →
            (∀ A c' w', FrAt w0 w' ((ns.take nP).map insFr ++ [insFr x]) (.slice A (nP + 1) c') f (allFr (ns.take nP)).1 → K (.slice A (nP + 1) c') w') → RunK Try.prog (Builtin.append_ #[24, 24] 24 ⟨[.slice P nP cP, .slice (some ⟨w1.heap.size, 0, none⟩) 1 1]⟩) w0.heap.size w2 [q] K := fun {w1 w2 K} e2 ho2 hk => by
          have := (h.ext e2).app (ys := [insFr x]) (n := 1) (bs := [q]) (K := K) (a := ⟨w1.heap.size, 0, none⟩) (c := 1) rfl (fun j u hj => by rw [own_add]; exact at_cell ho2 (by simpa using hj)) (by omega) (by rw [hml]; exact hk)
          exact this
        have ea : (Int.tmod x 4).toNat = (faI x).toNat := rfl
        by_cases hc0 : fcI x = 0
        · have hi : insFr x = ⟨24, faI x, fbI x⟩ := by unfold insFr; rw [if_pos hc0]
          have hh : haveFr x (allFr (ns.take nP)) = ((allFr (ns.take nP)).1.set (faI x).toNat ((allFr (ns.take nP)).1.getD (fbI x).toNat 0), (allFr (ns.take nP)).2) := by unfold haveFr; rw [if_pos hc0]
          rw [if_pos (by rw [show Int.tmod (Int.tdiv x 16) 4 = fcI x from rfl, hc0]; rfl)]
          refine expo_alloc h.size fun w1 w2 hs1 e2 hlt2 ho2 => ?_
          refine app e2 (by rw [hi]; exact ho2) fun A3 c3 w3 h3 => ⟨A3, _, c3, rfl, b0, b1, (allFr (ns.take nP)).1.getD (fbI x).toNat 0, ?_, a0, a1, ?_⟩
          · rw [own_add]; exact at_cell h3.have_ (u64s_at (by rw [o1]; show (fbI x).toNat < 4; omega))
          · rw [own_add, bx_add, Nat.add_zero]
            refine ⟨⟨_, at_cell h3.have_ (u64s_at (by rw [o1]; show (faI x).toNat < 4; omega))⟩, at_frozen h3.have_ _, ?_⟩
            have := next (w3.setCell ⟨f, (faI x).toNat, none⟩ (.int .u64 ((allFr (ns.take nP)).1.getD (fbI x).toNat 0))) A3 c3 (by rw [hh]; exact h3.set _ _)
            rw [hh] at this
            exact this
        · rw [if_neg (by rw [show Int.tmod (Int.tdiv x 16) 4 = fcI x from rfl]; simpa using hc0)]
          by_cases hc1 : fcI x = 1
          · have hi : insFr x = ⟨25, faI x, 0⟩ := by unfold insFr; rw [if_neg hc0, if_pos hc1]
            have hh : haveFr x (allFr (ns.take nP)) = ((allFr (ns.take nP)).1.set (faI x).toNat 0, (allFr (ns.take nP)).2) := by unfold haveFr; rw [if_neg hc0, if_pos hc1]
            rw [if_pos (by rw [show Int.tmod (Int.tdiv x 16) 4 = fcI x from rfl, hc1]; rfl)]
            refine expo_alloc h.size fun w1 w2 hs1 e2 hlt2 ho2 => ?_
            refine app e2 (by rw [hi]; exact ho2) fun A3 c3 w3 h3 => ⟨A3, _, c3, rfl, a0, a1, ?_⟩
            rw [own_add, bx_add, Nat.add_zero]
            refine ⟨⟨_, at_cell h3.have_ (u64s_at (by rw [o1]; show (faI x).toNat < 4; omega))⟩, at_frozen h3.have_ _, ?_⟩
            have := next (w3.setCell ⟨f, (faI x).toNat, none⟩ (.int .u64 0)) A3 c3 (by rw [hh]; exact h3.set _ _)
            rw [hh] at this
            exact this
          · have hi : insFr x = ⟨23, faI x, 0⟩ := by unfold insFr; rw [if_neg hc0, if_neg hc1]
            have hh : haveFr x (allFr (ns.take nP)) = ((allFr (ns.take nP)).1.set (faI x).toNat ((allFr (ns.take nP)).2 + 1), (allFr (ns.take nP)).2 + 1) := by unfold haveFr; rw [if_neg hc0, if_neg hc1]
            rw [if_neg (by rw [show Int.tmod (Int.tdiv x 16) 4 = fcI x from rfl]; simpa using hc1)]
            rw [wrap_u64 (n := (allFr (ns.take nP)).2 + 1) (by omega) (by omega)]
            refine expo_alloc h.size fun w1 w2 hs1 e2 hlt2 ho2 => ?_
            refine app e2 (by rw [hi]; exact ho2) fun A3 c3 w3 h3 => ⟨A3, _, c3, rfl, a0, a1, ?_⟩
            rw [own_add, bx_add, Nat.add_zero]
            refine ⟨⟨_, at_cell h3.have_ (u64s_at (by rw [o1]; show (faI x).toNat < 4; omega))⟩, at_frozen h3.have_ _, ?_⟩
            have := next (w3.setCell ⟨f, (faI x).toNat, none⟩ (.int .u64 ((allFr (ns.take nP)).2 + 1))) A3 c3 (by rw [hh]; exact h3.set _ _)
            rw [hh] at this
            exact this
      · rw [if_neg (by simp; omega)]
        exact fin (by omega)
    · rw [if_neg (by simp; omega)]
      exact fin (by omega)
end
theorem gives5 {w : World} {A : Option Addr} {l c : Nat} {ns : List Int} (hns : BytesAt w A l c ns) : Gives Try.prog 5 [.slice A l c] w (.bool true) := by
  refine gives_of (V5.sound ?_)
  unfold V5.vc
  intro q hq
  refine expo_alloc (Nat.le_refl _) fun w1 w2 hs1 e2 hlt2 ho2 => ?_
  exact ⟨min l 50 + 1, l0_5 hns (f := w1.heap.size) (q := q) (min l 50 + 1) 0 w2 none 0 0 (by omega) (by omega) rfl ⟨e2.after (Below.refl _ _), World.ownsRow_nil _ _ _ _, ho2, hs1⟩⟩
end Go.Proofs.Ytidcpndlloppdaa
