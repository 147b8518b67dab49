/-
  Layer 23: the document's reading of calls; calls made by numbers; CallAll, CallBack, CallTexts.
  Conditions: the variables of the host's library hold what the program's text lays into them.
-/
import Derived.Test.YtofblkmibghmbaaDoorZD23
set_option linter.unusedVariables false
set_option linter.unusedSimpArgs false
set_option maxRecDepth 100000
namespace Go.Proofs.YtofblkmibghmbaaDoor
open Go.RowKit
theorem bget (l : List UInt8) (i : Nat) : (bstr l)[i]? = l[i]? := by
  by_cases h : i < l.length
  · have h2 : i < (bstr l).size := by rw [bstr_size]; exact h
    exact (getElem?_pos (bstr l) i h2).trans (getElem?_pos l i h).symm
  · have h2 : ¬ i < (bstr l).size := by rw [bstr_size]; exact h
    exact (getElem?_neg (bstr l) i h2).trans (getElem?_neg l i h).symm
theorem bext (l : List UInt8) (a b : Nat) : (bstr l).extract a b = bstr ((l.drop a).take (b - a)) := by
  apply ByteArray.ext
  simp [bstr]
theorem bext_tail (l : List UInt8) : (bstr l).extract 1 (bstr l).size = bstr l.tail := by
  rw [bext, bstr_size]
  congr 1
  rw [List.take_of_length_le (by simp), List.drop_one]
def valR (dn : Bool) (t : List UInt8) : Int × Bool :=
  if t.length < 1 ∨ 19 < t.length then (0, false) else match digsC 0 t with
    | none => (0, false)
    | some n => if dn = true ∧ n ≤ 9223372036854775808 then (-(n : Int), true) else if dn = false ∧ n < 9223372036854775808 then ((n : Int), true) else (0, false)
def numV (r : Int × Bool) : Value := .tuple ⟨[.int .i64 r.1, .bool r.2]⟩
theorem wrap_neg {n : Nat} (h : n ≤ 9223372036854775808) : IntKind.wrap .i64 (IntKind.wrap .u64 (0 - (n : Int))) = -(n : Int) := by
  rw [wrapU, IntKind.wrap_i64]; omega
theorem b3_down {w0 w : World} (hw : Below w0.heap.size w0 w) {n : Nat} (t : List UInt8) (hd : digsC 0 t = some n) (hl : ¬ (t.length < 1 ∨ 19 < t.length)) :
    V95.b3 w0.heap.size (IsV w0 (numV (valR true t))) true (n : Int) (decide ((n : Int) ≤ 9223372036854775808)) w := by
  have hv : valR true t = if n ≤ 9223372036854775808 then (-(n : Int), true) else (0, false) := by
    unfold valR; rw [if_neg hl, hd]
    by_cases h : n ≤ 9223372036854775808
    · simp only [h, and_self, if_true]
    · simp only [h, and_false, if_false, Bool.true_eq_false, false_and]
  unfold V95.b3
  by_cases h : n ≤ 9223372036854775808
  · rw [decide_eq_true (show (n : Int) ≤ 9223372036854775808 by omega), if_pos rfl, wrap_neg h]
    exact ret_is hw (by rw [hv, if_pos h]; rfl)
  · rw [decide_eq_false (show ¬ (n : Int) ≤ 9223372036854775808 by omega)]
    simp only [Bool.false_eq_true, if_false, Bool.not_true]
    exact ret_is hw (by rw [hv, if_neg h]; rfl)
theorem valR_up {n : Nat} (t : List UInt8) (hd : digsC 0 t = some n) (hl : ¬ (t.length < 1 ∨ 19 < t.length)) : valR false t = if n ≤ 9223372036854775807 then ((n : Int), true) else (0, false) := by
  unfold valR
  rw [if_neg hl, hd]
  by_cases h : n ≤ 9223372036854775807
  · have h' : n < 9223372036854775808 := Nat.lt_succ_of_le h
    rw [if_pos h]
    simp only [h', and_self, if_true, Bool.false_eq_true, false_and, if_false]
  · have h' : ¬ n < 9223372036854775808 := fun e => h (Nat.le_of_lt_succ e)
    rw [if_neg h]
    simp only [h', and_false, if_false, Bool.false_eq_true, false_and]
theorem b3_up {w0 w : World} {dn : Bool} (hdn : dn = false) (hw : Below w0.heap.size w0 w) {n : Nat} (t : List UInt8) (hd : digsC 0 t = some n) (hl : ¬ (t.length < 1 ∨ 19 < t.length)) :
    V95.b3 w0.heap.size (IsV w0 (numV (valR dn t))) dn (n : Int) false w := by
  have hr := valR_up t hd hl
  rw [← hdn] at hr
  have hdec : decide ((n : Int) < 9223372036854775808) = decide (n ≤ 9223372036854775807) := decide_eq_decide.2 (by omega)
  have hwr : n ≤ 9223372036854775807 → IntKind.wrap .i64 (n : Int) = n := fun h => wrap_id (by omega) (by omega)
  generalize valR dn t = r at hr
  unfold V95.b3
  simp only [hdec]
  generalize hh : decide (n ≤ 9223372036854775807) = d
  subst hdn
  cases d with
  | true =>
    have h := of_decide_eq_true hh
    rw [if_pos h] at hr
    have h2 := hwr h
    generalize IntKind.wrap .i64 (n : Int) = m at h2
    subst h2
    refine ret_is hw ?_
    rw [hr]; rfl
  | false =>
    have h := of_decide_eq_false hh
    rw [if_neg h] at hr
    refine ret_is hw ?_
    rw [hr]; rfl
theorem l2_95 {w0 w : World} (hw : Below w0.heap.size w0 w) {dn : Bool} (t : List UInt8) (hl : ¬ (t.length < 1 ∨ 19 < t.length)) :
    ∀ (k i n : Nat), t.length < i + k → i ≤ t.length → n < 10 ^ i → digsC 0 t = digsC n (t.drop i) → V95.l2 w0.heap.size (IsV w0 (numV (valR dn t))) k (bstr t) dn (n : Int) (i : Int) w := by
  intro k
  induction k with
  | zero => intro i n hk hi; omega
  | succ k ih =>
    intro i n hk hi hn hd
    dsimp -zeta only [V95.l2]
    rw [bstr_size]
    by_cases hlt : i < t.length
    · rw [if_pos (by simpa using hlt)]
      have hx : t[i]? = some (t[i]'hlt) := List.getElem?_eq_getElem _
      have hdrop : t.drop i = t[i]'hlt :: t.drop (i + 1) := List.drop_eq_getElem_cons hlt
      generalize t[i]'hlt = x at hx hdrop
      have hg : (bstr t)[(i : Int).toNat]? = some x := by rw [Int.toNat_natCast, bget]; exact hx
      refine ⟨x, by omega, hg, ?_⟩
      rw [hdrop, show digsC n (x :: t.drop (i + 1)) = if x.toNat < 48 ∨ 57 < x.toNat then none else digsC (n * 10 + (x.toNat - 48)) (t.drop (i + 1)) from rfl] at hd
      have bad : x.toNat < 48 ∨ 57 < x.toNat → Ret w0.heap.size w (IsV w0 (numV (valR dn t)) (.tuple ⟨[.int .i64 0, .bool false]⟩)) := fun hb => by
        rw [if_pos hb] at hd
        exact ret_is hw (by unfold valR; rw [if_neg hl, hd]; rfl)
      by_cases h48 : x.toNat < 48
      · rw [if_neg (by simp; omega)]
        exact bad (.inl h48)
      rw [if_pos (by simp; omega)]
      refine ⟨x, by omega, hg, ?_⟩
      by_cases h57 : 57 < x.toNat
      · rw [if_pos (by simp; omega)]
        exact bad (.inr h57)
      rw [if_neg (by simp; omega)]
      refine ⟨x, by omega, hg, ?_⟩
      rw [if_neg (by omega)] at hd
      have hp : (10 : Nat) ^ (i + 1) ≤ 10 ^ 19 := Nat.pow_le_pow_right (by omega) (by omega)
      have hp2 : (10 : Nat) ^ 19 < 18446744073709551616 := by decide
      have hp3 : (10 : Nat) ^ (i + 1) = 10 ^ i * 10 := Nat.pow_succ _ _
      have e8 : ∀ m : Int, IntKind.wrap .u8 m = m % 256 := fun m => by simp [IntKind.wrap, IntKind.bits, IntKind.signed]
      have hw1 : IntKind.wrap .u64 (IntKind.wrap .u64 ((n : Int) * 10) + IntKind.wrap .u64 (IntKind.wrap .u8 (((x.toNat : Nat) : Int) - 48))) = ((n * 10 + (x.toNat - 48) : Nat) : Int) := by
        rw [wrapU, wrapU, wrapU, e8]; omega
      have hwi : IntKind.wrap .i64 ((i : Int) + 1) = ((i + 1 : Nat) : Int) := by rw [wrap_id (by omega) (by omega)]; rfl
      rw [hw1, hwi]
      exact ih (i + 1) _ (by omega) (by omega) (by omega) hd
    · rw [if_neg (by simpa using hlt)]
      have hall : t.drop i = [] := List.drop_of_length_le (by omega)
      rw [hall] at hd
      have hd2 : digsC 0 t = some n := hd
      by_cases hdn : dn = true
      · rw [if_pos hdn]
        subst hdn
        exact b3_down hw t hd2 hl
      · rw [if_neg hdn]
        exact b3_up (by simpa using hdn) hw t hd2 hl
theorem gives95 {w : World} (s : List UInt8) : Gives Tryd.prog 95 [.string (bstr s)] w (numV (valueC s)) := by
  refine gives_of (V95.sound ?_)
  unfold V95.vc
  have hv : ∀ dn t, downC s = dn → magC s = t → valueC s = valR dn t := fun dn t h1 h2 => by unfold valueC valR; rw [h1, h2]; rfl
  have b1 : ∀ dn t, V95.b1 w.heap.size (IsV w (numV (valR dn t))) (bstr t) dn w := fun dn t => by
    unfold V95.b1
    rw [bstr_size]
    by_cases h1 : t.length < 1
    · rw [if_neg (by simp; omega)]
      exact ret_is (Below.refl _ _) (by unfold valR; rw [if_pos (.inl h1)]; rfl)
    rw [if_pos (by simp; omega)]
    by_cases h2 : 19 < t.length
    · rw [if_pos (by simp; omega)]
      exact ret_is (Below.refl _ _) (by unfold valR; rw [if_pos (.inr h2)]; rfl)
    rw [if_neg (by simp; omega)]
    exact ⟨t.length + 1, l2_95 (Below.refl _ _) t (by omega) (t.length + 1) 0 0 (by omega) (by omega) (by decide) rfl⟩
  have b0 : ∀ dn, downC s = dn → V95.b0 w.heap.size (IsV w (numV (valueC s))) (bstr s) dn w := fun dn hd => by
    unfold V95.b0
    cases dn with
    | true =>
      have hne : 1 ≤ s.length := by
        cases s with
        | nil => cases hd
        | cons _ _ => simp
      have hm : magC s = s.tail := by unfold magC; rw [hd]; rfl
      rw [if_pos rfl, bext_tail, bstr_size, hv true _ hd hm]
      exact ⟨by omega, by omega, b1 true _⟩
    | false =>
      have hm : magC s = s := by unfold magC; rw [hd]; rfl
      rw [if_neg (by decide), hv false _ hd hm]
      exact b1 false _
  cases s with
  | nil =>
    rw [if_neg (by rw [bstr_size]; simp)]
    exact b0 false rfl
  | cons c r =>
    rw [if_pos (by rw [bstr_size]; simp)]
    refine ⟨c, by omega, by rw [bget]; rfl, ?_⟩
    have e : (((c.toNat : Nat) : Int) == 45) = downC (c :: r) := by
      have : downC (c :: r) = decide (c = 45) := by
        unfold downC
        simp only [List.isPrefixOf, Bool.and_true]
        by_cases h : c = 45
        · subst h; rfl
        · rw [decide_eq_false h]; exact beq_eq_false_iff_ne.2 fun e => h e.symm
      rw [this]
      by_cases h : c = 45
      · subst h; rfl
      · rw [decide_eq_false h]
        refine beq_eq_false_iff_ne.2 fun e => h (UInt8.toNat.inj ?_)
        have e45 : (45 : UInt8).toNat = 45 := rfl
        rw [e45]; omega
    rw [e]
    exact b0 _ rfl
theorem strV_snoc (a : List (List UInt8)) (p : List UInt8) : strV (a ++ [p]) = strV a ++ [.string (bstr p)] := by simp [strV]
abbrev OwnS (w : World) (B : Nat) (v : Value) (ps : List (List UInt8)) : Prop := w.ownsRow B 9 1 v ps.length (strV ps)
def SplitQ (s : List UInt8) (w1 : World) : Value → World → Prop := fun u w2 => ∃ g c, w1.heap.size ≤ g ∧ u = .slice (some ⟨g, 0, none⟩) (piecesS s).length c ∧ ∀ j p, (piecesS s)[j]? = some p → w2.cell? ⟨g, j, none⟩ = some (.string (bstr p))
theorem l0_93 {w0 : World} {s : List UInt8} (hs : s.length ≤ 100000) :
    ∀ (k i fr : Nat) (out : List (List UInt8)) (A : Option Addr) (c : Nat) (w : World), s.length + 2 ≤ i + k → fr ≤ i → i ≤ s.length → out.length ≤ i → Below w0.heap.size w0 w → OwnS w w0.heap.size (.slice A out.length c) out →
    out ++ (((s.drop fr).take (i - fr)) ++ (splitS (s.drop i)).1) :: (splitS (s.drop i)).2 = piecesS s →
    V93.l0 w0.heap.size (IsQ w0 (SplitQ s w0)) k (bstr s) A out.length c (fr : Int) (i : Int) w
  | 0, i, fr, out, A, c, w, hk, _, hi, _, _, _, _ => by omega
  | k + 1, i, fr, out, A, c, w, hk, hfr, hi, hol, hw, ho, hall => by
    dsimp -zeta only [V93.l0]
    rw [bstr_size, if_pos (by simp; omega)]
    have hwi : IntKind.wrap .i64 ((i : Int) + 1) = ((i + 1 : Nat) : Int) := by rw [wrap_id (by omega) (by omega)]; rfl
    -- a piece ends
    have put : ∀ (L0 : ByteArray → Option Addr → Nat → Nat → Int → Int → World → Prop), (∀ A' c' w', Below w0.heap.size w0 w' → OwnS w' w0.heap.size (.slice A' (out ++ [(s.drop fr).take (i - fr)]).length c') (out ++ [(s.drop fr).take (i - fr)]) → L0 (bstr s) A' (out ++ [(s.drop fr).take (i - fr)]).length c' ((i + 1 : Nat) : Int) ((i + 1 : Nat) : Int) w') →
        V93.b1 w0.heap.size (IsQ w0 (SplitQ s w0)) L0 (bstr s) A out.length c (fr : Int) (i : Int) true w := by
      intro L0 hk
      unfold V93.b1
      rw [if_pos rfl, bstr_size, bext]
      refine ⟨by omega, by omega, by omega, by omega, ?_⟩
      simp only [Int.toNat_natCast]
      intro w1 e1 _
      obtain ⟨e2, ho2⟩ := alloc1 (.cells ⟨[.string (bstr ((s.drop fr).take (i - fr)))]⟩ 9) e1 hw.size
      try dsimp only
      generalize w1.alloc (.cells ⟨[.string (bstr ((s.drop fr).take (i - fr)))]⟩ 9) = w2 at *
      have hb16 : Tryd.t9.bytes = 16 := by kernel_rfl
      have h2 := e2.after hw
      refine append_own (t := 87) (e := 9) (i := Tryd.t9) (z := .string ByteArray.empty) (size := 1) (bytes := 16) (by kernel_rfl) (by kernel_rfl) (by kernel_rfl) (by kernel_rfl) hb16 rfl (by omega) (e2.owns ho) (news := [.string (bstr ((s.drop fr).take (i - fr)))]) rfl (fun j u hj => by rw [own_add]; exact at_cell ho2 hj) (fun u hu => by rw [List.mem_singleton] at hu; subst hu; rfl) (by simp only [maxLen]; omega) (by omega) h2.size h2.size fun v' w3 e3 ho3 _ => ?_
      rw [← strV_snoc] at ho3
      have hlen : (out ++ [(s.drop fr).take (i - fr)]).length = out.length + 1 := by simp
      rw [← hlen] at ho3
      obtain ⟨A', c', hv⟩ := owns_slice0 ho3
      subst hv
      refine ⟨A', _, c', rfl, ?_⟩
      rw [hwi]
      exact hk A' c' w3 (e3.after (fun j hj => (ho.lt j hj).1) h2) ho3
    by_cases hend : i = s.length
    · subst hend
      rw [if_neg (by simp)]
      refine put _ fun A' c' w' hw' ho' => ?_
      have hd : s.drop s.length = [] := List.drop_length
      rw [hd] at hall
      simp only [splitS, List.append_nil] at hall
      obtain ⟨k', rfl⟩ : ∃ k', k = k' + 1 := ⟨k - 1, by omega⟩
      dsimp -zeta only [V93.l0]
      rw [bstr_size, if_neg (by simp; omega)]
      rw [hall] at ho' ⊢
      refine ret_q hw' fun w4 e4 => ?_
      have ho4 := e4.owns ho'
      rcases ho4.2 with ⟨_, h0⟩ | ⟨g, cap, cur, hv, hbg, _⟩
      · simp [piecesS] at h0
      · cases hv
        refine ⟨g, _, hbg, rfl, fun j p hj => owns_cell ho4 ?_⟩
        unfold strV; rw [List.getElem?_map, hj]; rfl
    · have hlt : i < s.length := by omega
      rw [if_pos (by simpa using beq_no (k := (i : Int)) (l := (s.length : Int)) (by omega))]
      have hx : s[i]? = some (s[i]'hlt) := List.getElem?_eq_getElem _
      have hdrop : s.drop i = s[i]'hlt :: s.drop (i + 1) := List.drop_eq_getElem_cons hlt
      generalize s[i]'hlt = x at hx hdrop
      refine ⟨x, by omega, by rw [Int.toNat_natCast, bget]; exact hx, ?_⟩
      have e32 : (((x.toNat : Nat) : Int) == 32) = decide (x = 32) := by
        by_cases h : x = 32
        · subst h; rfl
        · rw [decide_eq_false h]
          refine beq_eq_false_iff_ne.2 fun e => h (UInt8.toNat.inj ?_)
          have e2 : (32 : UInt8).toNat = 32 := rfl
          rw [e2]; omega
      rw [e32]
      rw [hdrop, splitS] at hall
      by_cases h32 : x = 32
      · rw [decide_eq_true h32]
        rw [if_pos h32] at hall
        refine put _ fun A' c' w' hw' ho' => ?_
        refine l0_93 hs k (i + 1) (i + 1) _ A' c' w' (by omega) (Nat.le_refl _) (by omega) (by simp; omega) hw' ho' ?_
        rw [Nat.sub_self, List.take_zero, List.nil_append]
        simpa using hall
      · rw [decide_eq_false h32]
        rw [if_neg h32] at hall
        unfold V93.b1
        rw [if_neg (by decide), hwi]
        refine l0_93 hs k (i + 1) fr out A c w (by omega) (by omega) (by omega) (by omega) hw ho ?_
        have ht : (s.drop fr).take (i + 1 - fr) = (s.drop fr).take (i - fr) ++ [x] := by
          rw [show i + 1 - fr = (i - fr) + 1 by omega, List.take_add_one, List.getElem?_drop, show fr + (i - fr) = i by omega, hx]; rfl
        rw [ht]
        simpa using hall
theorem call_cut {w0 w : World} {bs : List Nat} {s : List UInt8} {K : Value → World → Prop} (hw : Below w0.heap.size w0 w) (hs : s.length ≤ 100000) (hk : ∀ g c w', Ext w0.heap.size w w' → (∀ j p, (piecesS s)[j]? = some p → w'.cell? ⟨g, j, none⟩ = some (.string (bstr p))) → K (.slice (some ⟨g, 0, none⟩) (piecesS s).length c) w') :
    CallK Tryd.prog 93 [.string (bstr s)] w0.heap.size w bs K := by
  refine call_yieldsX (Q := SplitQ s) hw.size (fun w1 e1 => ?_) fun w1 u w2 w' hsz hQ hnew he => ?_
  · refine yields_of (V93.sound ?_)
    exact ⟨s.length + 2, l0_93 hs (s.length + 2) 0 0 [] none 0 w1 (by omega) (by omega) (by omega) (by simp) (Below.refl _ _) (World.ownsRow_nil _ _ _ _) (by simp [piecesS])⟩
  · obtain ⟨g, c, hg, rfl, hc⟩ := hQ
    exact hk g c w' he fun j p hj => (cell_same (hnew g hg)).trans (hc j p hj)
end Go.Proofs.YtofblkmibghmbaaDoor
