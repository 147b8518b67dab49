/-
  The maker's function that makes a piece: what its calls leave.
  Conditions: the maker lies in memory as told; what it keeps, it keeps.
-/
import Derived.Test.YtlccbaemcfjdoaaM17e
set_option linter.unusedVariables false
set_option linter.unusedSimpArgs false
namespace Go.Proofs.Ytlccbaemcfjdoaa
open Go.RowKit

theorem add_pops (s : MSt) (op a b : Int) : popsM (s.add op a b).p = popsM s.p := popsM_push _ _ _
theorem popsM_in {p : List Fnc} {i : Int} {x : Fnc} (h0 : 0 ≤ i) (hx : p[i.toNat]? = some x) (hp : 0 ≤ x.params) : popsM p 17 i = x.params := by
  unfold popsM
  rw [if_pos (by simp [rowT]), paramsM_in (by omega) hx, if_neg (by omega)]
theorem if_cur {s : MSt} (h : Cur s []) {j : Nat} (hj : s.depth[j]? = some (s.now - 1)) (hn : 0 < s.now) : Cur (s.add 16 (j : Int) 0) [] := by
  have hp : popsM s.p 16 (j : Int) = 1 := by simp [popsM, rowT]
  have hq : pushesI 16 = 0 := by simp [pushesI, rowT]
  have hb := h.now
  refine (h.more [s.now - 1]).add 16 _ 0 (fun x _ => form_jump (.inr rfl)) (by rw [hp]; omega) (by rw [hp, hq]; omega) (by omega) fun t ht => ?_
  simp [nextM] at ht
  rcases ht with rfl | rfl
  · exact ⟨by omega, by rw [Int.toNat_natCast]; exact get_more hj⟩
  · exact at_get (i := 1) (by omega) rfl
theorem works117 {B g : Nat} {s : MSt} (hc : Cur s []) {kind b : Int} (hb : 0 ≤ b ∧ b < 256) (hl : s.depth.length ≤ 60) : Works 117 [.pointer (some ⟨g, 0, none⟩), .int .i64 kind, .int .i64 b] B g s (PieceQ 6 s) := by
  intro w A ln cn vF vD cs hm hB
  refine turns_of (V117.sound ?_)
  have h := MK.begin hm hB
  have hn0 := hc.now
  have hl' : s.depth.length ≤ 100 := by omega
  unfold V117.vc
  simp only [own_add, bx_add, Nat.add_zero, Nat.zero_add]
  have hs := hc.small hl'
  have hf := hs.f
  have hfew := hc.few
  obtain ⟨gF, cap, hv, hbF, hbB⟩ := owns_some hm.fns (by omega)
  have hfn := hm.fns
  rw [hv] at hfn
  have tg := tm hb.1 (n := (s.p.length : Int)) (by omega)
  obtain ⟨x, c, hx, hcc⟩ := hm.at (i := (Int.tmod b (s.p.length : Int)).toNat) (by omega)
  have hxm := List.mem_of_getElem? hx
  obtain ⟨a1, a2, a3, a4, a5, a6⟩ := hc.heads x hxm
  have kx := owns_cell hfn (fncs_get hx hcc).1
  have hpop : popsM s.p 17 (Int.tmod b (s.p.length : Int)) = x.params := popsM_in tg.1 hx a1
  obtain ⟨y, d, hy, hd⟩ := hm.at hf
  have ky := owns_cell hfn (fncs_get hy hd).1
  obtain ⟨y1, y2, y3, y4, y5, y6⟩ := hc.heads y (List.mem_of_getElem? hy)
  have hat : ∀ z, s.p[s.f]? = some z → z = y := fun z hz => by rw [hy] at hz; exact (Option.some.inj hz).symm
  refine ⟨some ⟨gF, 0, none⟩, s.p.length, cap, by rw [← hv]; exact hm.c1, by omega, some ⟨gF, 0, none⟩, s.p.length, cap, by rw [← hv]; exact hm.c1, ⟨gF, 0, none⟩, rfl, tg.1, tg.2, x.params, ?_, ?_⟩
  · simpa only [own_add, bx_add, Nat.zero_add, Nat.add_zero] using kx
  generalize hg : Int.tmod b (s.p.length : Int) = G at *
  generalize hk : x.params = k at *
  have plain : ∀ kd : Int, CallK Try.prog 128 [.pointer (some ⟨g, 0, none⟩), .int .i64 kd, .int .i64 b] w.heap.size w [] fun v w_1 => ∃ b30 : Bool, v = .bool b30 ∧ Ret w.heap.size w_1 (IsT w (fun k => some k ∈ ownO g vF vD cs) (MkQ B g (fun k => some k ∈ ownO g vF vD cs) w (PieceQ 6 s)) (.bool b30)) := fun kd =>
    call_mk h (works128 hc hb (by omega)) fun v s' w' A' ln' cn' vF' vD' cs' hR h' => by
      rcases hR with ⟨rfl, hst⟩ | ⟨rfl, rfl⟩
      · exact ⟨true, rfl, ret_mk h' (.inl ⟨rfl, hst.mono (by omega)⟩)⟩
      · exact ⟨false, rfl, ret_mk h' (.inr ⟨rfl, rfl⟩)⟩
  have fail : Ret w.heap.size w (IsT w (fun k => some k ∈ ownO g vF vD cs) (MkQ B g (fun k => some k ∈ ownO g vF vD cs) w (PieceQ 6 s)) (.bool false)) := ret_mk h (.inr ⟨rfl, rfl⟩)
  have done : ∀ {op a b' : Int}, Cur (s.add op a b') [] → PieceQ 6 s (.bool true) (s.add op a b') := fun hcu => .inl ⟨rfl, (Step.one hcu).mono (by omega)⟩
  have hcases : kind = 9 ∨ kind = 10 ∨ kind = 14 ∨ kind = 15 ∨ kind = 16 ∨ kind = 17 ∨ kind = 18 ∨ kind = 19 ∨ (kind ≠ 9 ∧ kind ≠ 10 ∧ kind ≠ 14 ∧ kind ≠ 15 ∧ kind ≠ 16 ∧ kind ≠ 17 ∧ kind ≠ 18 ∧ kind ≠ 19) := by omega
  rcases hcases with rfl | rfl | rfl | rfl | rfl | rfl | rfl | rfl | ⟨h9, h10, h14, h15, h16, h17, h18, h19⟩
  · -- 9
    simp only [V117.b0, V117.b1, V117.b2, V117.b4, V117.b5, V117.b6, V117.b7, Int.reduceBEq, Bool.false_eq_true, Bool.true_eq_false, if_true, if_false, decide_eq_true_eq, own_add]
    refine ⟨_, hm.c4, ?_⟩
    split
    · refine ⟨_, hm.c4, ?_⟩
      rw [wrap_id (n := s.now - k) (by omega) (by omega)]
      split
      · exact fin_add h hc hl' (done (call_cur hc (.inl rfl) tg hpop (by omega) (fun _ => by omega)))
      · exact plain 9
    · exact plain 9
  · -- 10
    simp only [V117.b0, V117.b1, V117.b2, V117.b4, V117.b5, V117.b6, V117.b7, Int.reduceBEq, Bool.false_eq_true, Bool.true_eq_false, if_true, if_false, decide_eq_true_eq, own_add]
    refine ⟨_, hm.c4, ?_⟩
    split
    · exact fin_add h hc hl' (done (call_cur hc (.inr rfl) tg hpop (by omega) (fun h => by omega)))
    · exact plain 10
  · -- 14
    simp only [V117.b0, V117.b1, V117.b2, V117.b4, V117.b5, V117.b6, V117.b7, Int.reduceBEq, Bool.false_eq_true, Bool.true_eq_false, if_true, if_false, decide_eq_true_eq, own_add]
    refine ⟨_, hm.c4, ?_⟩
    split
    · rename_i hpos
      refine call_mk h (works116 (by omega)) fun v s' w' A' ln' cn' vF' vD' cs' hR h' => ?_
      obtain ⟨rfl, rfl⟩ := hR
      have t7 := tm hb.1 (n := 7) (by omega)
      have hwr : IntKind.wrap .i64 (IntKind.wrap .i64 ((s'.depth.length : Int) - 1) - Int.tmod b 7) = (s'.depth.length : Int) - 1 - Int.tmod b 7 := by
        rw [wrap_id (n := (s'.depth.length : Int) - 1) (by omega) (by omega)]
        exact wrap_id (by omega) (by omega)
      refine ⟨_, rfl, by omega, 64, ?_⟩
      rw [hwr]
      have fail' : Ret w.heap.size w' (IsT w (fun k => some k ∈ ownO g vF vD cs) (MkQ B g (fun k => some k ∈ ownO g vF vD cs) w (PieceQ 6 s')) (.bool false)) := ret_mk h' (.inr ⟨rfl, rfl⟩)
      have loop : ∀ (n : Nat) (j : Int), -1000 ≤ j → j < s'.depth.length → j + 1 < n ∧ 1 ≤ n → V117.l3 w.heap.size (IsT w (fun k => some k ∈ ownO g vF vD cs) (MkQ B g (fun k => some k ∈ ownO g vF vD cs) w (PieceQ 6 s'))) n ⟨g, 0, none⟩ j w' := by
        intro n
        induction n with
        | zero => intro j h1 h2 h3; omega
        | succ n ih =>
          intro j h1 h2 h3
          dsimp -zeta only [V117.l3]
          by_cases hj : 0 ≤ j
          · rw [if_pos (by simpa using hj)]
            obtain ⟨AD, cD, hvD, hnD, _⟩ := owns_nums h'.mem.dep (len_ok (by omega))
            obtain ⟨e, p, he, hp, hce⟩ := hnD.at (i := j.toNat) (by omega)
            simp only [own_add]
            refine ⟨AD, _, cD, by rw [← hvD]; exact h'.mem.c3, p, hp, hj, by omega, e, hce, _, h'.mem.c4, ?_⟩
            rw [wrap_id (n := s'.now - 1) (by omega) (by omega)]
            by_cases heq : e = s'.now - 1
            · rw [if_pos (by simpa using heq)]
              subst heq
              have hcu := if_cur hc he hpos
              rw [Int.toNat_of_nonneg hj] at hcu
              exact fin_add h' hc hl' (done hcu)
            · rw [if_neg (by simpa using heq), wrap_id (n := j - 1) (by omega) (by omega)]
              exact ih (j - 1) (by omega) (by omega) (by omega)
          · rw [if_neg (by simpa using hj)]
            exact fail'
      exact loop 64 _ (by omega) (by omega) (by omega)
    · exact plain 14
  · -- 15
    simp only [V117.b0, V117.b1, V117.b2, V117.b4, V117.b5, V117.b6, V117.b7, Int.reduceBEq, Bool.false_eq_true, Bool.true_eq_false, if_true, if_false, decide_eq_true_eq, own_add]
    refine ⟨_, hm.c4, ?_⟩
    split
    · rename_i h8
      have t3 := tm hb.1 (n := 3) (by omega)
      obtain ⟨op, hop, hoo⟩ : ∃ op : Int, ([.int .i64 20, .int .i64 18] : List Value)[0]? = some (.int .i64 op) ∧ (op = 18 ∨ op = 20) := ⟨_, rfl, by omega⟩
      obtain ⟨c1, c2, c3, c4⟩ := hc.over h8 (Int.tmod b 3) b hoo (by omega) (by omega)
      refine ⟨by omega, ?_⟩
      refine call_add h hc hl' fun w1 A1 ln1 cn1 vF1 vD1 cs1 h1 => ⟨rfl, ?_⟩
      have d1 := add_len s 1 (Int.tmod b 3) 0
      refine call_mk h1 (works116 (by omega)) fun v s' w2 A2 ln2 cn2 vF2 vD2 cs2 hR h2 => ?_
      obtain ⟨rfl, rfl⟩ := hR
      refine ⟨_, rfl, ?_⟩
      have hto : IntKind.wrap .i64 (((s.add 1 (Int.tmod b 3) 0).depth.length : Int) + 3) = (s.depth.length : Int) + 4 := by
        rw [d1]; push_cast
        rw [wrap_id (by omega) (by omega)]; omega
      rw [hto]
      refine call_add h2 c1 (by omega) fun w3 A3 ln3 cn3 vF3 vD3 cs3 h3 => ⟨rfl, ?_⟩
      have d2 := add_len (s.add 1 (Int.tmod b 3) 0) 16 ((s.depth.length : Int) + 4) 0
      refine call_add h3 c2 (by omega) fun w4 A4 ln4 cn4 vF4 vD4 cs4 h4 => ⟨rfl, ?_⟩
      have d3 := add_len ((s.add 1 (Int.tmod b 3) 0).add 16 ((s.depth.length : Int) + 4) 0) 1 b 0
      intro w5 e5 _
      obtain ⟨he5, ho5⟩ := alloc0 (.cells ⟨[.int .i64 20, .int .i64 18]⟩ 3) e5 h4.chg.size
      refine ⟨_, rfl, by decide, by decide, op, at_cell (L := [.int .i64 20, .int .i64 18]) ho5 hop, ?_⟩
      have hst : Step 4 s ((((s.add 1 (Int.tmod b 3) 0).add 16 ((s.depth.length : Int) + 4) 0).add 1 b 0).add op 0 0) :=
        ⟨c4, rfl, by simp [add_plen], by simp only [add_pops], by simp only [add_len]; omega⟩
      exact fin_add (h4.ext he5) c3 (by omega) (.inl ⟨rfl, hst.mono (by omega)⟩)
    · exact plain 15
  · -- 16
    simp only [V117.b0, V117.b1, V117.b2, V117.b4, V117.b5, V117.b6, V117.b7, Int.reduceBEq, Bool.false_eq_true, Bool.true_eq_false, if_true, if_false, decide_eq_true_eq, own_add]
    refine ⟨_, hm.c4, ?_⟩
    split
    · rename_i h8
      have t3 := tm hb.1 (n := 3) (by omega)
      obtain ⟨op, hop, hoo⟩ : ∃ op : Int, ([.int .i64 20, .int .i64 18] : List Value)[1]? = some (.int .i64 op) ∧ (op = 18 ∨ op = 20) := ⟨_, rfl, by omega⟩
      obtain ⟨c1, c2, c3, c4⟩ := hc.over h8 (Int.tmod b 3) b hoo (by omega) (by omega)
      refine ⟨by omega, ?_⟩
      refine call_add h hc hl' fun w1 A1 ln1 cn1 vF1 vD1 cs1 h1 => ⟨rfl, ?_⟩
      have d1 := add_len s 1 (Int.tmod b 3) 0
      refine call_mk h1 (works116 (by omega)) fun v s' w2 A2 ln2 cn2 vF2 vD2 cs2 hR h2 => ?_
      obtain ⟨rfl, rfl⟩ := hR
      refine ⟨_, rfl, ?_⟩
      have hto : IntKind.wrap .i64 (((s.add 1 (Int.tmod b 3) 0).depth.length : Int) + 3) = (s.depth.length : Int) + 4 := by
        rw [d1]; push_cast
        rw [wrap_id (by omega) (by omega)]; omega
      rw [hto]
      refine call_add h2 c1 (by omega) fun w3 A3 ln3 cn3 vF3 vD3 cs3 h3 => ⟨rfl, ?_⟩
      have d2 := add_len (s.add 1 (Int.tmod b 3) 0) 16 ((s.depth.length : Int) + 4) 0
      refine call_add h3 c2 (by omega) fun w4 A4 ln4 cn4 vF4 vD4 cs4 h4 => ⟨rfl, ?_⟩
      have d3 := add_len ((s.add 1 (Int.tmod b 3) 0).add 16 ((s.depth.length : Int) + 4) 0) 1 b 0
      intro w5 e5 _
      obtain ⟨he5, ho5⟩ := alloc0 (.cells ⟨[.int .i64 20, .int .i64 18]⟩ 3) e5 h4.chg.size
      refine ⟨_, rfl, by decide, by decide, op, at_cell (L := [.int .i64 20, .int .i64 18]) ho5 hop, ?_⟩
      have hst : Step 4 s ((((s.add 1 (Int.tmod b 3) 0).add 16 ((s.depth.length : Int) + 4) 0).add 1 b 0).add op 0 0) :=
        ⟨c4, rfl, by simp [add_plen], by simp only [add_pops], by simp only [add_len]; omega⟩
      exact fin_add (h4.ext he5) c3 (by omega) (.inl ⟨rfl, hst.mono (by omega)⟩)
    · exact plain 16
  · -- 17
    simp only [V117.b0, V117.b1, V117.b2, V117.b4, V117.b5, V117.b6, V117.b7, Int.reduceBEq, Bool.false_eq_true, Bool.true_eq_false, if_true, if_false, decide_eq_true_eq, own_add]
    refine ⟨_, hm.c4, ?_⟩
    rw [wrap_id (n := s.now + k) (by omega) (by omega)]
    split
    · refine ⟨_, hm.c4, ?_⟩
      split
      · have hkn : ((k.toNat : Nat) : Int) = k := Int.toNat_of_nonneg a1
        have w127 := works127 (B := B) (g := g) hc (n := k.toNat) hb (by omega) (by omega)
        rw [hkn] at w127
        refine call_mk h w127 fun v s' w' A' ln' cn' vF' vD' cs' hR h' => ?_
        obtain ⟨rfl, hst, hnow⟩ := hR
        have hd := hst.dep
        refine ⟨rfl, fin_add h' hst.cur (by omega) (.inl ⟨rfl, (hst.trans (Step.one (call_cur (k := k) hst.cur (.inl rfl) (by rw [hst.p]; exact tg) (by rw [hst.pops]; exact hpop) (by omega) (fun _ => by omega)))).mono (by omega)⟩)⟩
      · exact plain 17
    · exact plain 17
  · -- 18
    simp only [V117.b0, V117.b1, V117.b2, V117.b4, V117.b5, V117.b6, V117.b7, Int.reduceBEq, Bool.false_eq_true, Bool.true_eq_false, if_true, if_false, decide_eq_true_eq, own_add]
    split
    · rename_i hkpos
      refine ⟨_, hm.c4, ?_⟩
      have hmx : (if 2 > k then 2 else k) ≤ 3 ∧ 2 ≤ (if 2 > k then (2 : Int) else k) ∧ k ≤ (if 2 > k then (2 : Int) else k) := by split <;> omega
      generalize (if 2 > k then (2 : Int) else k) = M at *
      rw [wrap_id (n := s.now + M) (by omega) (by omega)]
      split
      · refine ⟨some ⟨gF, 0, none⟩, s.p.length, cap, by rw [← hv]; exact hm.c1, (s.f : Int), hm.c2, ⟨gF, 0, none⟩, rfl, by omega, by omega, y.params, by simpa only [own_add, bx_add, Int.toNat_natCast, Nat.zero_add, Nat.add_zero] using ky, ?_⟩
        split
        · rename_i hpp
          have hkn : (((k - 1).toNat : Nat) : Int) = k - 1 := Int.toNat_of_nonneg (by omega)
          obtain ⟨c1, n1⟩ := local_cur hc (op := 3) (a := 0) (.inl rfl) (fun z hz => by rw [hat z hz]; omega) (fun _ => by omega) (fun h => by omega)
          have n1 := n1 rfl
          have d1 := add_len s 3 0 0
          obtain ⟨c2, n2⟩ := push_cur c1 (by omega) (a := 1) (by omega)
          have d2 := add_len (s.add 3 0 0) 1 1 0
          obtain ⟨c3, n3⟩ := row_cur c2 (op := 6) (n := 2) (m := 1) (by simp [rowT]) (by omega) (by omega) (by omega) (by omega)
          have d3 := add_len ((s.add 3 0 0).add 1 1 0) 6 0 0
          have st3 : Step 3 s (((s.add 3 0 0).add 1 1 0).add 6 0 0) := ((Step.one c1).trans (Step.one c2)).trans (Step.one c3)
          refine call_add h hc hl' fun w1 A1 ln1 cn1 vF1 vD1 cs1 h1 => ⟨rfl, ?_⟩
          refine call_add h1 c1 (by omega) fun w2 A2 ln2 cn2 vF2 vD2 cs2 h2 => ⟨rfl, ?_⟩
          refine call_add h2 c2 (by omega) fun w3 A3 ln3 cn3 vF3 vD3 cs3 h3 => ⟨rfl, ?_⟩
          rw [wrap_id (n := k - 1) (by omega) (by omega)]
          have w127 := works127 (B := B) (g := g) c3 (n := (k - 1).toNat) hb (by omega) (by omega)
          rw [hkn] at w127
          refine call_mk h3 w127 fun v s' w' A' ln' cn' vF' vD' cs' hR h' => ?_
          obtain ⟨rfl, hst, hnow⟩ := hR
          have hd := hst.dep
          have st := st3.trans hst
          refine ⟨rfl, fin_add h' hst.cur (by omega) (.inl ⟨rfl, (st.trans (Step.one (call_cur (k := k) st.cur (.inl rfl) (by rw [st.p]; exact tg) (by rw [st.pops]; exact hpop) (by omega) (fun _ => by omega)))).mono (by omega)⟩)⟩
        · exact plain 18
      · exact plain 18
    · exact plain 18
  · -- 19
    simp only [V117.b0, V117.b1, V117.b2, V117.b4, V117.b5, V117.b6, V117.b7, Int.reduceBEq, Bool.false_eq_true, Bool.true_eq_false, if_true, if_false, decide_eq_true_eq, own_add]
    refine ⟨_, hm.c4, ?_⟩
    rw [wrap_id (n := s.now + k) (by omega) (by omega)]
    split
    · have hkn : ((k.toNat : Nat) : Int) = k := Int.toNat_of_nonneg a1
      have w127 := works127 (B := B) (g := g) hc (n := k.toNat) hb (by omega) (by omega)
      rw [hkn] at w127
      refine call_mk h w127 fun v s' w' A' ln' cn' vF' vD' cs' hR h' => ?_
      obtain ⟨rfl, hst, hnow⟩ := hR
      have hd := hst.dep
      refine ⟨rfl, fin_add h' hst.cur (by omega) (.inl ⟨rfl, (hst.trans (Step.one (call_cur (k := k) hst.cur (.inr rfl) (by rw [hst.p]; exact tg) (by rw [hst.pops]; exact hpop) (by omega) (fun h => by omega)))).mono (by omega)⟩)⟩
    · exact plain 19
  · -- others
    have e9 : (kind == 9) = false := beq_eq_false_iff_ne.2 h9
    have e10 : (kind == 10) = false := beq_eq_false_iff_ne.2 h10
    have e14 : (kind == 14) = false := beq_eq_false_iff_ne.2 h14
    have e15 : (kind == 15) = false := beq_eq_false_iff_ne.2 h15
    have e16 : (kind == 16) = false := beq_eq_false_iff_ne.2 h16
    have e17 : (kind == 17) = false := beq_eq_false_iff_ne.2 h17
    have e18 : (kind == 18) = false := beq_eq_false_iff_ne.2 h18
    have e19 : (kind == 19) = false := beq_eq_false_iff_ne.2 h19
    simp only [V117.b0, V117.b1, V117.b2, V117.b4, V117.b5, V117.b6, V117.b7, e9, e10, e14, e15, e16, e17, e18, e19, Bool.false_eq_true, Bool.true_eq_false, if_true, if_false]
    exact plain kind
end Go.Proofs.Ytlccbaemcfjdoaa
