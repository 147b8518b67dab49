import Derived.Test.YtofblkmibghmbaaDoorZK23
/-
  Layer 23: calls made by numbers; CallMade returns true.
  Conditions: the arguments' memory says what their values are.
-/
set_option linter.unusedVariables false
set_option linter.unusedSimpArgs false
set_option maxRecDepth 100000
namespace Go.Proofs.YtofblkmibghmbaaDoor
open Go.RowKit
theorem OwnR.exts {w w' : World} {B B' B2 g : Nat} {vs : List Value} {xss : List (List Cl)} {v' : Value} {e' : TypeId} {size' n' : Nat} {xs' : List Value} (h : OwnR w B g vs xss) (he : ExtS B2 (fun k => v'.ownBlock = some k) w w') (h' : w.ownsRow B' e' size' v' n' xs') (h1 : 66 ≠ e') (h2 : 40 ≠ e') : OwnR w' B g vs xss :=
  ⟨h.base, he.row _ _ _ _ (fun hk => by
    obtain ⟨c, f, hc⟩ := owns_row h' hk
    rw [h.head] at hc
    cases hc
    exact h1 rfl) h.head, h.len, fun i v xs hv hx => owns_exts (h.each i v xs hv hx) he h' h2, h.apart⟩
theorem owns_set_other {w : World} {B g i : Nat} {e e' : TypeId} {size n : Nat} {v u : Value} {xs L : List Value} (h : w.ownsRow B e size v n xs) (hg : w.heap[g]? = some (.cells ⟨L⟩ e' (0, 0))) (hne : e ≠ e') : (w.setCell ⟨g, i, none⟩ u).ownsRow B e size v n xs :=
  owns_other h fun k hk => at_other fun e => by
    subst e
    obtain ⟨c, f, hc⟩ := owns_row h hk
    rw [hg] at hc
    cases hc
    exact hne rfl
theorem OwnP_set {w : World} {B g i : Nat} {v u : Value} {p : List P17.Fnc} {cs L : List Value} {e' : TypeId} (h : P17.OwnP w B v p cs) (hg : w.heap[g]? = some (.cells ⟨L⟩ e' (0, 0))) (h1 : 65 ≠ e') (h2 : 101 ≠ e') : P17.OwnP (w.setCell ⟨g, i, none⟩ u) B v p cs :=
  ⟨owns_set_other h.1 hg h1, h.2.1, fun i x c hx hc => owns_set_other (h.2.2 i x c hx hc) hg h2⟩
theorem slices_cells (n : Nat) : madeCells (Value.slice none 0 0).cells (n * 1) = ⟨List.replicate n (Value.slice none 0 0)⟩ := by
  apply Array.toList_inj.1
  have hz : (Value.slice none 0 0).cells = #[Value.slice none 0 0] := rfl
  rw [hz]
  simp only [madeCells, Array.toList_map, Array.toList_range, Nat.mul_one]
  rw [List.eq_replicate_iff]
  refine ⟨by simp, fun b hb => ?_⟩
  obtain ⟨j, _, rfl⟩ := List.mem_map.1 hb
  simp [Nat.mod_one]
theorem good_row {xs : List Cl} : badRow xs = false ↔ xs.length ≤ 40 ∧ ∀ c ∈ xs, mayC c = true := by
  unfold badRow
  rw [Bool.or_eq_false_iff, decide_eq_false_iff_not, List.any_eq_false]
  refine ⟨fun h => ⟨by omega, fun c hc => by have := h.2 c hc; simpa using this⟩, fun h => ⟨by omega, fun c hc => by simpa using h.2 c hc⟩⟩
theorem bad_push {xs : List Cl} {c : Cl} (h : ∀ c ∈ xs, mayC c = true) : badRow (xs ++ [c]) = (decide (40 < xs.length + 1) || !mayC c) := by
  have h0 : (xs.any fun c => !mayC c) = false := by rw [List.any_eq_false]; intro c hc; simpa using h c hc
  unfold badRow
  rw [List.any_append, h0, List.length_append]
  simp
theorem form_one {xss : List (List Cl)} {k : Nat} {xs : List Cl} (hx : xss[k]? = some xs) (h : ∀ (i : Nat) (ys : List Cl), i ≠ k → xss[i]? = some ys → badRow ys = false) : formBad xss = badRow xs := by
  unfold formBad
  by_cases hb : badRow xs = true
  · rw [hb, List.any_eq_true]; exact ⟨xs, List.mem_of_getElem? hx, hb⟩
  · have hb' : badRow xs = false := by simpa using hb
    rw [hb', List.any_eq_false]
    intro ys hy
    obtain ⟨i, hi⟩ := List.mem_iff_getElem?.1 hy
    by_cases hik : i = k
    · subst hik
      rw [hx] at hi; cases hi
      exact hb
    · rw [h i ys hik hi]; decide
structure CallsIs (w : World) (B g n : Nat) (vs : List Value) (xss : List (List Cl)) : Prop where
  own : OwnR w B g vs xss
  len : xss.length = n
  rows : ∀ xs ∈ xss, badRow xs = false
def CallsQ (n : Nat) (w1 : World) : Value → World → Prop := fun u w2 => ∃ g vs xss, u = .slice (some ⟨g, 0, none⟩) n n ∧ CallsIs w2 w1.heap.size g n vs xss
theorem below_at {B g i : Nat} {w0 w : World} (h : Below B w0 w) (hg : B ≤ g) (v : Value) : Below B w0 (w.setCell ⟨g, i, none⟩ v) := h.setCell (by exact hg) v
theorem l0_66 {w0 : World} {A : Option Addr} {l c : Nat} {ks : List Int} (hn : BytesAt w0 A l c ks) {pg wk : Int} (hwk : 1 ≤ wk ∧ wk ≤ 6) {n : Nat} (hnw : wk = (n : Int)) {tl : Nat} (htl : tl < 1000) {g q pl pc tc : Nat} {P T : Option Addr} :
    ∀ (k i : Nat) (w : World) (vs : List Value) (xss : List (List Cl)), l < i + k → i ≤ l → Below w0.heap.size w0 w → CallsIs w w0.heap.size g n vs xss →
    V66.l0 w0.heap.size (IsQ w0 (CallsQ n w0)) k A l c 60 (some ⟨g, 0, none⟩) n n (i : Int) q pg wk P pl pc T tl tc w := by
  intro k
  induction k with
  | zero => intros; omega
  | succ k ih =>
    intro i w vs xss hk hi hw hC
    have hsm := hn.nums.small
    have hsm' : l ≤ 9223372036854775807 := hsm
    dsimp -zeta only [V66.l0]
    have fin : Ret w0.heap.size w (IsQ w0 (CallsQ n w0) (.slice (some ⟨g, 0, none⟩) n n)) := ret_q hw fun w1 e1 => ⟨g, vs, xss, rfl, hC.own.ext e1, hC.len, hC.rows⟩
    have h240 : IntKind.wrap .i64 (4 * 60) = 240 := wrap_id (by decide) (by decide)
    rw [h240]
    by_cases hbig : i < 240
    case neg =>
      split
      · rw [if_neg (by simp; omega)]; exact fin
      · exact fin
    by_cases h3 : i + 3 < l
    case neg =>
      rw [wrap_id (n := (i : Int) + 3) (by omega) (by omega), if_neg (by simp; omega)]; exact fin
    rw [wrap_id (n := (i : Int) + 3) (by omega) (by omega), if_pos (by simp; omega), if_pos (by simp; omega), wrap_id (n := (i : Int) + 1) (by omega) (by omega), wrap_id (n := (i : Int) + 2) (by omega) (by omega), wrap_id (n := (i : Int) + 4) (by omega) (by omega)]
    have hN := RowAt.keep (NumE.kept .u8) hn.nums (below_keeps hw)
    obtain ⟨z, a, hz, ha, hzc⟩ := hN.at (i := i) (by omega)
    obtain ⟨z1, a1, hz1, ha1, hzc1⟩ := hN.at (i := i + 1) (by omega)
    obtain ⟨z2, a2, hz2, ha2, hzc2⟩ := hN.at (i := i + 2) (by omega)
    obtain ⟨z3, a3, hz3, ha3, hzc3⟩ := hN.at (i := i + 3) (by omega)
    rw [ha] at ha1 ha2 ha3
    cases ha1; cases ha2; cases ha3
    have r0 := hn.byte z (List.mem_of_getElem? hz)
    have r1 := hn.byte z1 (List.mem_of_getElem? hz1)
    have r2 := hn.byte z2 (List.mem_of_getElem? hz2)
    have r3 := hn.byte z3 (List.mem_of_getElem? hz3)
    refine ⟨a, ha, by omega, by omega, z, by simpa [NumE] using hzc, by omega, ⟨g, 0, none⟩, rfl, ?_⟩
    rw [wrap_id (n := z) (by omega) (by omega), Int.tmod_eq_emod_of_nonneg (by omega)]
    have hm0 := Int.emod_nonneg z (show wk ≠ 0 by omega)
    have hm1 := Int.emod_lt_of_pos z (show 0 < wk by omega)
    obtain ⟨m, hm⟩ := Int.eq_ofNat_of_zero_le hm0
    rw [hm] at hm0 hm1 ⊢
    rw [Int.toNat_natCast]
    have hml : m < xss.length := by rw [hC.len]; omega
    obtain ⟨R, rc, xs, hxs, hvs, hcell, hown⟩ := hC.own.at hml
    have hgood := good_row.1 (hC.rows xs (List.mem_of_getElem? hxs))
    refine ⟨by omega, by omega, R, _, rc, by rw [own_add]; exact hcell, ?_⟩
    by_cases h40 : xs.length < 40
    · rw [if_pos (by simp; omega)]
      refine ⟨_, rfl, by omega, by omega, R, _, rc, by rw [own_add]; exact hcell, a, ha, by omega, by omega, z1, by simpa [NumE, show ((i : Int) + 1).toNat = i + 1 by omega] using hzc1, a, ha, by omega, by omega, z2, by simpa [NumE, show ((i : Int) + 2).toNat = i + 2 by omega] using hzc2, a, ha, by omega, by omega, z3, by simpa [NumE, show ((i : Int) + 3).toNat = i + 3 by omega] using hzc3, ?_⟩
      refine call_gives hw (fun _ _ _ => gives61 (n := (tl : Int)) r1 r2 r3 (by omega)) fun w1 e1 hw1 => ⟨_, _, _, rfl, ?_⟩
      have hC1 := hC.own.ext e1
      refine ⟨by rw [own_add]; exact e1.cell hcell, expo_alloc hw1.size fun w2 w3 hs e3 _ ho3 => ⟨by rw [own_add]; exact e3.cell (e1.cell hcell), ?_⟩⟩
      have hC3 := hC1.ext e3
      have hw3 := e3.after hw1
      refine append_call (c := madeC z1 z2 z3 tl) (b0 := w0.heap.size) (fun j u hj => ?_) hw3.size hw3.size (e3.owns (e1.owns hown)) (by omega) fun v' w4 he ho' hnw' => ?_
      · rw [own_add]
        exact at_cell (L := clC (madeC z1 z2 z3 tl)) ho3 hj
      obtain ⟨R', rc', hv⟩ := owns_slice0 ho'
      subst hv
      obtain ⟨hg4, hR4⟩ := hC3.put hvs hxs he ho' hnw'
      have hvl := (List.getElem?_eq_some_iff.1 hvs)
      refine ⟨R', _, rc', rfl, _, rfl, by omega, by omega, ⟨.slice R xs.length rc, ?_⟩, ?_, ?_⟩
      · rw [own_add, bx_add, Nat.add_zero]; exact at_cell hg4 hvs
      · rw [own_add, bx_add, Nat.add_zero]; exact at_frozen hg4 m
      · rw [own_add, bx_add, Nat.add_zero]
        have hw4 := he.after (fun k hk => ((e3.owns (e1.owns hown)).lt k hk).1) hw3
        refine ih (i + 4) _ _ _ (by omega) (by omega) (below_at hw4 hC.own.base _) ⟨hR4, by rw [List.length_set]; exact hC.len, fun ys hy => ?_⟩
        rcases List.mem_or_eq_of_mem_set hy with hy | hy
        · exact hC.rows ys hy
        · subst hy
          rw [bad_push hgood.2, (made_ok r2 r3 (by omega)).1, decide_eq_false (by omega)]; rfl
    · rw [if_neg (by simp; omega)]
      exact ih (i + 4) w vs xss (by omega) (by omega) hw hC
theorem call_calls {w0 w : World} {bs : List Nat} {A : Option Addr} {l c : Nat} {ks : List Int} {pg wk : Int} {P T : Option Addr} {pl pc tl tc : Nat} {K : Value → World → Prop} (h0 : Below w0.heap.size w0 w) (hn : BytesAt w0 A l c ks) (hwk : 1 ≤ wk ∧ wk ≤ 6) (htl : tl < 1000)
    (hk : ∀ (n g : Nat) (vs : List Value) (xss : List (List Cl)) (w' : World), wk = (n : Int) → CallsIs w' w0.heap.size g n vs xss → Ext w0.heap.size w w' → K (.slice (some ⟨g, 0, none⟩) n n) w') :
    CallK Tryd.prog 66 [setupV pg wk P pl pc T tl tc, .slice A l c, .int .i64 60] w0.heap.size w bs K := by
  obtain ⟨n, hnw⟩ := Int.eq_ofNat_of_zero_le (show 0 ≤ wk by omega)
  refine call_yieldsX (Q := CallsQ n) h0.size (fun w1 e1 => ?_) fun w1 v w2 w' hs hQ hnew he => ?_
  · refine yields_of (V66.sound ?_)
    unfold V66.vc
    intro q _
    subst hnw
    refine make_own (t := 56) (e := 66) (i := Tryd.t66) (z := .slice none 0 0) (size := 1) (n := n) (by kernel_rfl) (by kernel_rfl) (by kernel_rfl) (by kernel_rfl) ?_ (by simp only [maxLen]; omega) (Nat.le_refl _) fun g w2 hg e2 hrow => ⟨_, _, _, rfl, l + 1, ?_⟩
    · have : Tryd.t66.bytes = 24 := by kernel_rfl
      rw [this]; omega
    have hn1 := BytesAt.keep hn (below_keeps (e1.after h0))
    rw [slices_cells] at hrow
    have hrep : ∀ {i : Nat} {v : Value}, (List.replicate n (Value.slice none 0 0))[i]? = some v → v = .slice none 0 0 := fun h => (List.eq_replicate_iff.1 rfl).2 _ (List.mem_of_getElem? h)
    refine l0_66 hn1 hwk rfl htl (l + 1) 0 w2 (List.replicate n (.slice none 0 0)) (List.replicate n []) (by omega) (by omega) (e2.after (Below.refl _ _)) ⟨⟨hg, hrow, by simp, fun i v xs hv hx => ?_, fun i j v u k _ hv _ hb => ?_⟩, by simp, fun xs hx => ?_⟩
    · rw [hrep hv]
      have : xs = [] := (List.mem_replicate.1 (List.mem_of_getElem? hx)).2
      subst this
      exact World.ownsRow_nil _ _ _ _
    · rw [hrep hv] at hb; cases hb
    · rw [(List.mem_replicate.1 hx).2]; rfl
  · obtain ⟨g, vs, xss, rfl, hC⟩ := hQ
    have same : ∀ {e : TypeId} {size : Nat} {v : Value} {n : Nat} {xs : List Value}, w2.ownsRow w1.heap.size e size v n xs → w'.ownsRow w0.heap.size e size v n xs := fun h => owns_le (owns_other h fun g hg => hnew g (h.lt g hg).1) (Nat.le_trans h0.size hs)
    exact hk n g vs xss w' hnw ⟨⟨Nat.le_trans (Nat.le_trans h0.size hs) hC.own.base, by rw [hnew g hC.own.base]; exact hC.own.head, hC.own.len, fun i v xs hv hx => same (hC.own.each i v xs hv hx), hC.own.apart⟩, hC.len, hC.rows⟩ he
end Go.Proofs.YtofblkmibghmbaaDoor
