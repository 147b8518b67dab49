/-
  Layer 2: FltWhole.
  Conditions: the tables of the host's library read as the program's text lays them.
-/
import Derived.Test.YtofblkmibghmbaaDoorZN2g
set_option linter.unusedVariables false
set_option linter.unusedSimpArgs false
set_option maxRecDepth 100000
set_option exponentiation.threshold 3000
namespace Go.Proofs.YtofblkmibghmbaaDoor
open Go.RowKit Ieee
theorem text_whole {z : Int} (h : z.natAbs < 2 * BN) : textF (Iw z) = Lib.itoa z := by
  have hf := Iw_fin h
  have hr := Iw_rg h
  have hl := Iw_lt h
  have hn : nanw (Iw z) = false := by unfold nanw; simp; omega
  have h1 : Iw z ≠ IR := fun e => by have : rg (Iw z) = rg IR := by rw [e]
                                     rw [show rg IR = IR by decide] at this; omega
  have h2 : Iw z ≠ SW + IR := fun e => by have : rg (Iw z) = rg (SW + IR) := by rw [e]
                                          rw [show rg (SW + IR) = IR by decide] at this; omega
  have h3 : Iw z ≠ SW := fun e => by
    have e1 : ngw (Iw z) = true := by rw [e]; decide
    have e2 : rg (Iw z) = 0 := by rw [e]; decide
    rw [Iw_ng h] at e1
    have hz : z < 0 := by simpa using e1
    rw [hr] at e2
    have := irg_pos h (by omega)
    omega
  have hw : whB (Iw z) = true := by
    refine (whB_iff _).2 ⟨?_, ?_⟩
    · rw [hr]
      by_cases h0 : z.natAbs = 0
      · rw [h0]; decide
      · have hlog := log2_small (show 0 < z.natAbs by omega) h
        obtain ⟨k1, k2, _, _⟩ := irg_spec h (by omega)
        have k3 := kp_up (irg z.natAbs)
        have k4 := kp_lt (irg z.natAbs)
        rw [k1] at k3
        have k5 : (z.natAbs.log2 + 1022) * BN ≤ 1074 * BN := Nat.mul_le_mul_right _ (by omega)
        omega
    · refine (flr_whole hl hf).1 ?_
      unfold Iw
      rw [flr_iw _ h]
  obtain ⟨y, hy, e1, _, e2⟩ := whole_int hl hw h3
  have ez : y = z := by
    have v1 := vl_Iw h
    have v2 := vl_Iw hy
    rw [← e1] at v2
    exact Int.eq_of_mul_eq_mul_right (Int.ne_of_gt tt_int) (v2.symm.trans v1)
  unfold textF
  rw [if_neg (by rw [hn]; decide), if_neg h1, if_neg h2, if_neg h3, if_pos hw, e2, ez]
theorem far_whole {op : BinOp} {x y r : Nat} (h : floatBits op .f64 x y = some r) (hn : nanw r = false) : far op x y = r := by
  unfold far; rw [h]; exact cn_id (by rw [hn]; decide)
set_option maxHeartbeats 1000000
section
variable {w : World}
theorem gives7 (ht : Tabs w) {a b c d : Int} (ha : -2147483648 ≤ a ∧ a ≤ 2147483647) (hb : -2147483648 ≤ b ∧ b ≤ 2147483647) (hc : -32768 ≤ c ∧ c ≤ 32767) (hd : -32768 ≤ d ∧ d ≤ 32767) :
    Gives Tryd.prog 7 [.int .i32 a, .int .i32 b, .int .i16 c, .int .i16 d] w (.bool true) := by
  have hbn := two_bn
  have wa : IntKind.wrap .i64 a = a := wrap_id (by omega) (by omega)
  have wb : IntKind.wrap .i64 b = b := wrap_id (by omega) (by omega)
  have wc : IntKind.wrap .i64 c = c := wrap_id (by omega) (by omega)
  have wd : IntKind.wrap .i64 d = d := wrap_id (by omega) (by omega)
  have a1 : a.natAbs < 2 * BN := by omega
  have b1 : b.natAbs < 2 * BN := by omega
  have c1 : c.natAbs < 2 * BN := by omega
  have d1 : d.natAbs < 2 * BN := by omega
  have hcd : (c * d).natAbs ≤ 1073741824 := by
    rw [Int.natAbs_mul]
    calc c.natAbs * d.natAbs ≤ 32768 * 32768 := Nat.mul_le_mul (by omega) (by omega)
      _ = 1073741824 := by decide
  have s1 : (a + b).natAbs < 2 * BN := by omega
  have s2 : (a - b).natAbs < 2 * BN := by omega
  have s3 : (c * d).natAbs < 2 * BN := by omega
  obtain ⟨ea, la, na⟩ := nw_small a1
  obtain ⟨eb, lb, nb⟩ := nw_small b1
  obtain ⟨ec, lc, nc⟩ := nw_small c1
  obtain ⟨ed, ld, nd⟩ := nw_small d1
  obtain ⟨e1, l1, n1⟩ := nw_small s1
  obtain ⟨e2, l2, n2⟩ := nw_small s2
  obtain ⟨e3, l3, n3⟩ := nw_small s3
  have be : ∀ x : Int, (x == x) = true := fun x => beq_self_eq_true x
  have f1 : far .add (nw a) (nw b) = nw (a + b) := by
    refine far_whole ?_ n1
    rw [ea, eb, e1]; exact add_Iw a1 b1 s1
  have f2 : far .sub (nw a) (nw b) = nw (a - b) := by
    refine far_whole ?_ n2
    rw [ea, eb, e2]; exact sub_Iw a1 b1 s2
  have f3 : c ≠ 0 → d ≠ 0 → far .mul (nw c) (nw d) = nw (c * d) := fun hc0 hd0 => by
    refine far_whole ?_ n3
    rw [ec, ed, e3]; exact mul_Iw c1 d1 hc0 hd0 s3
  have q1 : ltF (nw a) (nw b) = decide (a < b) := by
    unfold ltF; rw [ea, eb, order_Iw a1 b1]; simpa using cmp_lt a b
  have q2 : eqF (nw a) (nw b) = (a == b) := by
    unfold eqF; rw [ea, eb, order_Iw a1 b1]
    have := cmp_eq a b
    by_cases h : a = b
    · subst h; simp
    · rw [beq_eq_false_iff_ne.2 h]; rw [decide_eq_false h] at this; simpa using this
  have q3 : trF (nw a) = (a != 0) := by
    unfold trF; rw [ea, Iw_rg a1]
    by_cases h : a = 0
    · subst h; decide
    · have := irg_pos a1 (by omega)
      rw [bne_iff_ne.2 h, decide_eq_true (by omega)]
  have q4 : flF (nw a) = nw a := by
    unfold flF; rw [na]; simp only [Bool.false_eq_true, if_false]
    rw [ea]; unfold Iw; rw [flr_iw _ a1]
    show cn (Iw a) = Iw a
    rw [← ea]; exact cn_id (by rw [na]; decide)
  have bb : ∀ x : Bool, (x == x) = true := fun x => beq_self_eq_true x
  have tx : textF (nw a) = Lib.itoa a := by rw [ea]; exact text_whole a1
  have tail : ∀ {w12 : World}, Below w.heap.size w w12 →
      CallK Tryd.prog 36 [.int .u64 (nw a : Nat), .int .u64 (nw b : Nat)] w.heap.size w12 [] fun v_12 w_13 => ∃ b74 : Bool, v_12 = .bool b74 ∧
       if (b74 == (decide (a < b))) = true
       then (CallK Tryd.prog 29 [.int .u64 (nw a : Nat), .int .u64 (nw b : Nat)] w.heap.size w_13 [] fun v_13 w_14 => ∃ b83 : Bool, v_13 = .bool b83 ∧
        if (b83 == (a == b)) = true
        then (CallK Tryd.prog 28 [.int .u64 (nw a : Nat)] w.heap.size w_14 [] fun v_14 w_15 => ∃ b91 : Bool, v_14 = .bool b91 ∧
         if (b91 == (a != 0)) = true
         then (CallK Tryd.prog 35 [.int .u64 (nw a : Nat)] w.heap.size w_15 [] fun v_15 w_16 => ∃ x98 : Int, v_15 = .int .u64 x98 ∧
          if (x98 == (nw a : Nat)) = true
          then (if true = true
           then (if (a == IntKind.wrap .i64 a) = true
            then (CallK Tryd.prog 21 [] w.heap.size w_16 [] fun v_16 w_17 => ∃ b112 : Bool, v_16 = .bool b112 ∧ Ret w.heap.size w_17 (IsV w (.bool true) (.bool b112)))
            else (Ret w.heap.size w_16 (IsV w (.bool true) (.bool false))))
           else (Ret w.heap.size w_16 (IsV w (.bool true) (.bool false))))
          else (Ret w.heap.size w_16 (IsV w (.bool true) (.bool false))))
         else (Ret w.heap.size w_15 (IsV w (.bool true) (.bool false))))
        else (Ret w.heap.size w_14 (IsV w (.bool true) (.bool false))))
       else (Ret w.heap.size w_13 (IsV w (.bool true) (.bool false))) := by
    intro w12 h12
    refine call_gives h12 (fun _ _ _ => gives36 _ _) fun w13 _ h13 => ⟨_, rfl, ?_⟩
    rw [q1, if_pos (bb _)]
    refine call_gives h13 (fun _ _ _ => gives29 _ _) fun w14 _ h14 => ⟨_, rfl, ?_⟩
    rw [q2, if_pos (bb _)]
    refine call_gives h14 (fun _ _ _ => gives28 _) fun w15 _ h15 => ⟨_, rfl, ?_⟩
    rw [q3, if_pos (bb _)]
    refine call_gives h15 (fun _ _ _ => gives35 la) fun w16 _ h16 => ⟨_, rfl, ?_⟩
    rw [q4, if_pos (be _), if_pos rfl, wa, if_pos (be _)]
    exact call_gives h16 (fun _ _ h => gives21 (ht.on h)) fun w17 _ h17 => ⟨_, rfl, ret_is h17 rfl⟩
  refine gives_of (V7.sound ?_)
  unfold V7.vc
  rw [wb, wc, wd]
  refine call_gives (v := .int .u64 (nw a : Nat)) (Below.refl _ _) (fun w1 _ _ => by rw [wa]; exact gives32 a) fun w1 _ h1 => ⟨_, rfl, ?_⟩
  refine call_gives h1 (fun _ _ _ => gives32 b) fun w2 _ h2 => ⟨_, rfl, ?_⟩
  refine call_gives h2 (fun _ _ h => gives19 (ht.on h) la) fun w3 _ h3 => ⟨_, rfl, ?_⟩
  rw [tx]
  refine call_gives h3 (fun _ _ _ => gives37 (by omega)) fun w4 _ h4 => ⟨_, _, rfl, ?_⟩
  refine call_gives h4 (fun _ _ _ => gives26 _ _) fun w5 _ h5 => ⟨_, rfl, ?_⟩
  refine call_gives (v := .int .u64 (nw (a + b) : Nat)) h5 (fun w6 _ _ => by rw [wa, wrap_id (n := a + b) (by omega) (by omega)]; exact gives32 _) fun w6 _ h6 => ⟨_, rfl, ?_⟩
  rw [f1, if_pos (be _)]
  refine call_gives h6 (fun _ _ _ => gives25 _ _) fun w7 _ h7 => ⟨_, rfl, ?_⟩
  refine call_gives (v := .int .u64 (nw (a - b) : Nat)) h7 (fun w8 _ _ => by rw [wa, wrap_id (n := a - b) (by omega) (by omega)]; exact gives32 _) fun w8 _ h8 => ⟨_, rfl, ?_⟩
  rw [f2, if_pos (be _)]
  refine call_gives h8 (fun _ _ _ => gives32 c) fun w9 _ h9 => ⟨_, rfl, ?_⟩
  refine call_gives h9 (fun _ _ _ => gives32 d) fun w10 _ h10 => ⟨_, rfl, ?_⟩
  refine call_gives h10 (fun _ _ _ => gives27 _ _) fun w11 _ h11 => ⟨_, rfl, ?_⟩
  refine call_gives (v := .int .u64 (nw (c * d) : Nat)) h11 (fun w12 _ _ => by rw [wrap_id (n := c * d) (by omega) (by omega)]; exact gives32 _) fun w12 _ h12 => ⟨_, rfl, ?_⟩
  have c0 : ((0 : Int) == 0) = true := rfl
  by_cases hx : (((far .mul (nw c) (nw d) : Nat) : Int) == ((nw (c * d) : Nat) : Int)) = false
  · rw [if_pos hx]
    by_cases hc0 : c = 0
    · rw [if_neg (by rw [hc0, c0]; decide)]
      exact tail h12
    · rw [if_pos (beq_eq_false_iff_ne.2 hc0)]
      by_cases hd0 : d = 0
      · rw [if_pos (show (d == 0) = true by rw [hd0]; exact c0)]
        exact tail h12
      · exfalso
        rw [f3 hc0 hd0, be] at hx
        cases hx
  · rw [if_neg hx]
    exact tail h12
end
end Go.Proofs.YtofblkmibghmbaaDoor
