/-
  The maker's function that makes a piece of one instruction: what its calls leave.
  Conditions: the maker lies in memory as told; what it keeps, it keeps.
-/
import Derived.Test.YtlccbaemcfjdoaaM17d
set_option linter.unusedVariables false
set_option linter.unusedSimpArgs false
namespace Go.Proofs.Ytlccbaemcfjdoaa
open Go.RowKit

theorem works128 {B g : Nat} {s : MSt} (hc : Cur s []) {kind b : Int} (hb : 0 ≤ b ∧ b < 256) (hl : s.depth.length ≤ 70) : Works 128 [.pointer (some ⟨g, 0, none⟩), .int .i64 kind, .int .i64 b] B g s (PieceQ 1 s) := by
  intro w A ln cn vF vD cs hm hB
  refine turns_of (V128.sound ?_)
  have h := MK.begin hm hB
  have hn0 := hc.now
  have hl' : s.depth.length ≤ 100 := by omega
  unfold V128.vc
  simp only [own_add, bx_add, Nat.add_zero, Nat.zero_add]
  have hs := hc.small hl'
  obtain ⟨gF, cap, hv, hbF, hbB⟩ := owns_some hm.fns (by have := hs.f; omega)
  obtain ⟨x, c, hx, hcc⟩ := hm.at hs.f
  have hxm := List.mem_of_getElem? hx
  obtain ⟨C, cc, hcv, _⟩ := owns_code (hm.code s.f x c hx hcc) (by have := hs.code x hxm; omega)
  have hf := hs.f
  have hfn := hm.fns
  rw [hv] at hfn
  obtain ⟨g0, g1, g2, g3⟩ := fncs_get hx hcc
  have k := fun (j : Nat) (u : Value) (hj : (fncsV s.p cs)[j]? = some u) => owns_cell hfn hj
  have k0 := k _ _ g0; have k1 := k _ _ g1; have k2 := k _ _ g2; have k3 := k _ _ g3
  rw [hcv] at k3
  refine ⟨some ⟨gF, 0, none⟩, s.p.length, cap, by rw [← hv]; exact hm.c1, (s.f : Int), hm.c2, ⟨gF, 0, none⟩, rfl, by omega, by omega, x.params, ?_, x.locals, ?_, x.refs, ?_, C, x.code.length, cc, ?_, ?_⟩
  · simpa only [own_add, bx_add, Int.toNat_natCast, Nat.zero_add, Nat.add_zero] using k0
  · simpa only [own_add, bx_add, Int.toNat_natCast, Nat.zero_add, Nat.add_zero] using k1
  · simpa only [own_add, bx_add, Int.toNat_natCast, Nat.zero_add, Nat.add_zero] using k2
  · simpa only [own_add, bx_add, Int.toNat_natCast, Nat.zero_add, Nat.add_zero] using k3
  intro q7 _
  refine ⟨?_, ?_, ?_, ?_, hm.c2, by rw [← hv]; exact hm.c1, ?_⟩
  · simpa only [own_add, bx_add, Int.toNat_natCast, Nat.zero_add, Nat.add_zero] using k0
  · simpa only [own_add, bx_add, Int.toNat_natCast, Nat.zero_add, Nat.add_zero] using k1
  · simpa only [own_add, bx_add, Int.toNat_natCast, Nat.zero_add, Nat.add_zero] using k2
  · simpa only [own_add, bx_add, Int.toNat_natCast, Nat.zero_add, Nat.add_zero] using k3
  obtain ⟨a1, a2, a3, a4, a5, a6⟩ := hc.heads x hxm
  have hnum : IntKind.wrap .i64 (x.locals - x.refs) = x.locals - x.refs := wrap_id (by omega) (by omega)
  rw [hnum]
  have hat : ∀ y, s.p[s.f]? = some y → y = x := fun y hy => by rw [hx] at hy; exact (Option.some.inj hy).symm
  have fail : Ret w.heap.size w (IsT w (fun k => some k ∈ ownO g vF vD cs) (MkQ B g (fun k => some k ∈ ownO g vF vD cs) w (PieceQ 1 s)) (.bool false)) := ret_mk h (.inr ⟨rfl, rfl⟩)
  have done : ∀ {op a b' : Int}, Cur (s.add op a b') [] → PieceQ 1 s (.bool true) (s.add op a b') := fun hcu => .inl ⟨rfl, Step.one hcu⟩
  have hcases : kind = 0 ∨ kind = 1 ∨ kind = 2 ∨ kind = 3 ∨ kind = 4 ∨ kind = 5 ∨ kind = 6 ∨ kind = 7 ∨ kind = 8 ∨ kind = 11 ∨ kind = 12 ∨ kind = 13 ∨ (kind ≠ 0 ∧ kind ≠ 1 ∧ kind ≠ 2 ∧ kind ≠ 3 ∧ kind ≠ 4 ∧ kind ≠ 5 ∧ kind ≠ 6 ∧ kind ≠ 7 ∧ kind ≠ 8 ∧ kind ≠ 11 ∧ kind ≠ 12 ∧ kind ≠ 13) := by omega
  have binary : ∀ w', Ext w.heap.size w w' → MK B g (fun k => some k ∈ ownO g vF vD cs) w w' s A ln cn vF vD cs := fun w' he => h.ext he
  rcases hcases with rfl | rfl | rfl | rfl | rfl | rfl | rfl | rfl | rfl | rfl | rfl | rfl | ⟨h0, h1, h2, h3, h4, h5, h6, h7, h8, h11, h12, h13⟩
  · -- 0
    simp only [V128.b0, V128.b1, V128.b2, V128.b3, V128.b4, V128.b5, V128.b6, V128.b7, V128.b8, V128.b9, V128.b10, Int.reduceBEq, Bool.false_eq_true, Bool.true_eq_false, if_true, if_false, decide_eq_true_eq, own_add]
    refine ⟨_, hm.c4, ?_⟩
    split
    · rename_i h8
      rw [wrap_id (n := b - 100) (by omega) (by omega)]
      exact fin_add h hc hl' (done (push_cur hc h8 (by omega)).1)
    · exact fail
  · -- 1
    simp only [V128.b0, V128.b1, V128.b2, V128.b3, V128.b4, V128.b5, V128.b6, V128.b7, V128.b8, V128.b9, V128.b10, Int.reduceBEq, Bool.false_eq_true, Bool.true_eq_false, if_true, if_false, decide_eq_true_eq, own_add]
    refine ⟨_, hm.c4, ?_⟩
    split
    · rename_i h8
      refine ⟨by omega, fin_add h hc hl' (done ?_)⟩
      have ht := tm hb.1 (n := 6) (by omega)
      have hp : popsM s.p 2 (Int.tmod b 6) = 0 := by simp [popsM, rowT]
      have hq : pushesI 2 = 1 := by simp [pushesI, rowT]
      exact hc.step 2 _ 0 (nextM_on (by omega) _ _) (fun x _ => form_odd ht) (by rw [hp]; omega) (by rw [hp, hq]; omega)
    · exact fail
  · -- 2
    simp only [V128.b0, V128.b1, V128.b2, V128.b3, V128.b4, V128.b5, V128.b6, V128.b7, V128.b8, V128.b9, V128.b10, Int.reduceBEq, Bool.false_eq_true, Bool.true_eq_false, if_true, if_false, decide_eq_true_eq, own_add]
    refine ⟨_, hm.c4, ?_⟩
    split
    · rename_i h8
      split
      · rename_i hpos
        refine ⟨by omega, fin_add h hc hl' (done ?_)⟩
        exact (local_cur hc (.inl rfl) (fun y hy => by rw [hat y hy]; exact tm hb.1 hpos) (fun _ => h8) (fun h => by omega)).1
      · exact fail
    · exact fail
  · -- 3
    simp only [V128.b0, V128.b1, V128.b2, V128.b3, V128.b4, V128.b5, V128.b6, V128.b7, V128.b8, V128.b9, V128.b10, Int.reduceBEq, Bool.false_eq_true, Bool.true_eq_false, if_true, if_false, decide_eq_true_eq, own_add]
    refine ⟨_, hm.c4, ?_⟩
    split
    · rename_i h8
      split
      · rename_i hpos
        refine ⟨by omega, fin_add h hc hl' (done ?_)⟩
        exact (local_cur hc (.inr rfl) (fun y hy => by rw [hat y hy]; exact tm hb.1 hpos) (fun h => by omega) (fun _ => h8)).1
      · exact fail
    · exact fail
  iterate 2
    · -- 4, 5
      simp only [V128.b0, V128.b1, V128.b2, V128.b3, V128.b4, V128.b5, V128.b6, V128.b7, V128.b8, V128.b9, V128.b10, Int.reduceBEq, Bool.false_eq_true, Bool.true_eq_false, if_true, if_false, decide_eq_true_eq, own_add]
      refine ⟨_, hm.c4, ?_⟩
      split
      · rename_i h8
        refine expo_alloc (Nat.le_refl _) fun w1 w2 hs1 he1 _ ho1 => ?_
        have ht := tm hb.1 (n := 8) (by omega)
        obtain ⟨o, ho, hrow, hne⟩ : ∃ o : Int, ([.int .i64 5, .int .i64 6, .int .i64 7, .int .i64 8, .int .i64 11, .int .i64 12, .int .i64 13, .int .i64 14] : List Value)[(Int.tmod b 8).toNat]? = some (.int .i64 o) ∧ rowT o = (0, 2, 1, true) ∧ (o ≠ 15 ∧ o ≠ 16 ∧ o ≠ 18 ∧ o ≠ 20) := by
          have hcs : Int.tmod b 8 = 0 ∨ Int.tmod b 8 = 1 ∨ Int.tmod b 8 = 2 ∨ Int.tmod b 8 = 3 ∨ Int.tmod b 8 = 4 ∨ Int.tmod b 8 = 5 ∨ Int.tmod b 8 = 6 ∨ Int.tmod b 8 = 7 := by omega
          rcases hcs with e | e | e | e | e | e | e | e <;> rw [e] <;> refine ⟨_, rfl, ?_, ?_⟩ <;> simp [rowT]
        refine ⟨by omega, _, rfl, ht.1, ht.2, o, by rw [bx_add, Nat.zero_add]; exact at_cell ho1 ho, ?_⟩
        exact fin_add (h.ext he1) hc hl' (done (row_cur hc hrow (by omega) hne (by omega) (by omega)).1)
      · exact fail
  · -- 6
    simp only [V128.b0, V128.b1, V128.b2, V128.b3, V128.b4, V128.b5, V128.b6, V128.b7, V128.b8, V128.b9, V128.b10, Int.reduceBEq, Bool.false_eq_true, Bool.true_eq_false, if_true, if_false, decide_eq_true_eq, own_add]
    refine ⟨_, hm.c4, ?_⟩
    split
    · rename_i h8
      have ht := tm hb.1 (n := 2) (by omega)
      refine ⟨by omega, ?_⟩
      rw [wrap_id (n := 9 + Int.tmod b 2) (by omega) (by omega)]
      have hcs : 9 + Int.tmod b 2 = 9 ∨ 9 + Int.tmod b 2 = 10 := by omega
      refine fin_add h hc hl' (done (row_cur (n := 1) (m := 1) hc ?_ (by omega) (by omega) (by omega) (by omega)).1)
      rcases hcs with e | e <;> rw [e] <;> simp [rowT]
    · exact fail
  · -- 7
    simp only [V128.b0, V128.b1, V128.b2, V128.b3, V128.b4, V128.b5, V128.b6, V128.b7, V128.b8, V128.b9, V128.b10, Int.reduceBEq, Bool.false_eq_true, Bool.true_eq_false, if_true, if_false, decide_eq_true_eq, own_add]
    refine ⟨_, hm.c4, ?_⟩
    split
    · rename_i h8
      exact fin_add h hc hl' (done (row_cur (op := 22) (n := 1) (m := 0) hc (by simp [rowT]) (by omega) (by omega) (by omega) (by omega)).1)
    · exact fail
  · -- 8
    simp only [V128.b0, V128.b1, V128.b2, V128.b3, V128.b4, V128.b5, V128.b6, V128.b7, V128.b8, V128.b9, V128.b10, Int.reduceBEq, Bool.false_eq_true, Bool.true_eq_false, if_true, if_false, decide_eq_true_eq, own_add]
    refine ⟨_, hm.c4, ?_⟩
    split
    · rename_i h8
      refine expo_alloc (Nat.le_refl _) fun w1 w2 hs1 he1 _ ho1 => ?_
      have ht := tm hb.1 (n := 2) (by omega)
      obtain ⟨o, ho, hrow, hne⟩ : ∃ o : Int, ([.int .i64 27, .int .i64 22] : List Value)[(Int.tmod b 2).toNat]? = some (.int .i64 o) ∧ rowT o = (0, 1, 0, true) ∧ (o ≠ 15 ∧ o ≠ 16 ∧ o ≠ 18 ∧ o ≠ 20) := by
        have hcs : Int.tmod b 2 = 0 ∨ Int.tmod b 2 = 1 := by omega
        rcases hcs with e | e <;> rw [e] <;> refine ⟨_, rfl, ?_, ?_⟩ <;> simp [rowT]
      refine ⟨by omega, _, rfl, ht.1, ht.2, o, by rw [bx_add, Nat.zero_add]; exact at_cell ho1 ho, ?_⟩
      exact fin_add (h.ext he1) hc hl' (done (row_cur hc hrow (by omega) hne (by omega) (by omega)).1)
    · exact fail
  · -- 11
    simp only [V128.b0, V128.b1, V128.b2, V128.b3, V128.b4, V128.b5, V128.b6, V128.b7, V128.b8, V128.b9, V128.b10, Int.reduceBEq, Bool.false_eq_true, Bool.true_eq_false, if_true, if_false, decide_eq_true_eq, own_add]
    refine ⟨_, hm.c4, ?_⟩
    rw [wrap_id (n := s.now + 2) (by omega) (by omega)]
    split
    · rename_i h8
      exact fin_add h hc hl' (done (row_cur (op := 21) (n := 0) (m := 2) hc (by simp [rowT]) (by omega) (by omega) (by omega) (by omega)).1)
    · exact fail
  · -- 12
    simp only [V128.b0, V128.b1, V128.b2, V128.b3, V128.b4, V128.b5, V128.b6, V128.b7, V128.b8, V128.b9, V128.b10, Int.reduceBEq, Bool.false_eq_true, Bool.true_eq_false, if_true, if_false, decide_eq_true_eq, own_add]
    split
    · rename_i hpos
      have h5 := td hb.1 (n := 5) (by omega)
      have h7 := td hb.1 (n := 7) (by omega)
      rw [wrap_id (n := Int.tdiv b 5) (by omega) (by omega), wrap_id (n := Int.tdiv b 7) (by omega) (by omega)]
      have t5 := tm h5.1 hpos
      have t7 := tm h7.1 hpos
      refine ⟨by omega, ?_⟩
      split
      · exact ⟨by omega, by omega, fin_add h hc hl' (done (ref_cur hc (.inr (.inr rfl)) (.inr rfl) fun y hy => by rw [hat y hy]; omega))⟩
      · split
        · exact ⟨by omega, by omega, by omega, by omega, fin_add h hc hl' (done (ref_cur hc (.inr (.inl rfl)) (.inl rfl) fun y hy => by rw [hat y hy]; omega))⟩
        · exact ⟨by omega, by omega, fin_add h hc hl' (done (ref_cur hc (.inl rfl) (.inr rfl) fun y hy => by rw [hat y hy]; omega))⟩
    · exact fail
  · -- 13
    simp only [V128.b0, V128.b1, V128.b2, V128.b3, V128.b4, V128.b5, V128.b6, V128.b7, V128.b8, V128.b9, V128.b10, Int.reduceBEq, Bool.false_eq_true, Bool.true_eq_false, if_true, if_false, decide_eq_true_eq, own_add]
    refine ⟨by omega, ?_⟩
    split
    · exact fin_add h hc hl' (done (row_cur (op := 26) (n := 0) (m := 0) hc (by simp [rowT]) (by omega) (by omega) (by omega) (by omega)).1)
    · refine call_mk h (works116 (by omega)) fun v s' w' A' ln' cn' vF' vD' cs' hR h' => ?_
      obtain ⟨rfl, rfl⟩ := hR
      refine ⟨_, rfl, ?_⟩
      rw [wrap_id (n := (s'.depth.length : Int) + 1) (by omega) (by omega)]
      refine fin_add h' hc hl' (done ?_)
      have hp : popsM s'.p 15 ((s'.depth.length : Int) + 1) = 0 := by simp [popsM, rowT]
      have hq : pushesI 15 = 0 := by simp [pushesI, rowT]
      exact hc.step 15 _ 0 (by simp [nextM]) (fun x _ => form_jump (.inl rfl)) (by rw [hp]; omega) (by rw [hp, hq]; omega)
  · -- others
    have e0 : (kind == 0) = false := beq_eq_false_iff_ne.2 h0
    have e1 : (kind == 1) = false := beq_eq_false_iff_ne.2 h1
    have e2 : (kind == 2) = false := beq_eq_false_iff_ne.2 h2
    have e3 : (kind == 3) = false := beq_eq_false_iff_ne.2 h3
    have e4 : (kind == 4) = false := beq_eq_false_iff_ne.2 h4
    have e5 : (kind == 5) = false := beq_eq_false_iff_ne.2 h5
    have e6 : (kind == 6) = false := beq_eq_false_iff_ne.2 h6
    have e7 : (kind == 7) = false := beq_eq_false_iff_ne.2 h7
    have e8 : (kind == 8) = false := beq_eq_false_iff_ne.2 h8
    have e11 : (kind == 11) = false := beq_eq_false_iff_ne.2 h11
    have e12 : (kind == 12) = false := beq_eq_false_iff_ne.2 h12
    have e13 : (kind == 13) = false := beq_eq_false_iff_ne.2 h13
    simp only [V128.b0, V128.b1, V128.b2, V128.b3, V128.b4, V128.b5, V128.b6, V128.b7, V128.b8, V128.b9, V128.b10, e0, e1, e2, e3, e4, e5, e6, e7, e8, e11, e12, e13, Bool.false_eq_true, Bool.true_eq_false, if_true, if_false]
    exact fail
end Go.Proofs.Ytlccbaemcfjdoaa
