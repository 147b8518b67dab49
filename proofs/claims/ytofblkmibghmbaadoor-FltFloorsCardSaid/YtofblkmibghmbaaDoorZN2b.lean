/-
  Layer 2: FltSigns, FltFloors, FltOrder.
  Conditions: the tables of the host's library read as the program's text lays them.
-/
import Derived.Test.YtofblkmibghmbaaDoorZN2
set_option linter.unusedVariables false
set_option linter.unusedSimpArgs false
set_option maxRecDepth 100000
set_option exponentiation.threshold 3000
namespace Go.Proofs.YtofblkmibghmbaaDoor
open Go.RowKit Ieee
section
variable {w : World}
theorem flr_inf {a : Nat} (ha : a < 2 * SW) (h : rg a = IR) : flr a = a := by
  unfold flr
  rw [read_inf h]
  show double.write (.infinity (ngw a)) = a
  simp only [Format.write, dbl_inf]
  rw [← h, wd_self ha]
theorem gives6 (ht : Tabs w) {a : Nat} (ha : a < 2 * SW) : Gives Tryd.prog 6 [.int .u64 (a : Int)] w (.bool true) := by
  refine gives_of (V6.sound ?_)
  unfold V6.vc
  have be : ∀ x : Int, (x == x) = true := fun x => beq_self_eq_true x
  refine call_gives (Below.refl _ _) (fun _ _ _ => gives35 ha) fun w1 _ h1 => ⟨_, rfl, ?_⟩
  refine call_gives h1 (fun _ _ _ => gives20 ha) fun w2 _ h2 => ⟨_, rfl, ?_⟩
  by_cases hn : nanw a = true
  · rw [if_pos hn]
    have e : flF a = NO := by unfold flF; rw [if_pos hn]
    rw [e]
    refine call_gives h2 (fun _ _ _ => gives20 (a := NO) (by decide)) fun w3 _ h3 => ⟨_, rfl, ?_⟩
    rw [if_pos nanw_no]
    exact call_gives h3 (fun _ _ h => gives21 (ht.on h)) fun w4 _ h4 => ⟨_, rfl, ret_is h4 rfl⟩
  rw [if_neg hn]
  have hn' : nanw a = false := by simpa using hn
  have hle := nan_le hn'
  have key : flF a = flr a ∧ flr a < 2 * SW ∧ nanw (flr a) = false ∧ flF (flr a) = flr a ∧ ¬ sr a < sr (flr a) ∧ (flr a = a ∨ ltF a (far .add (flr a) (nw 1)) = true) := by
    rcases Nat.lt_or_eq_of_le hle with hf | hi
    · obtain ⟨k1, k2, k3, k4, k5⟩ := floor_law ha hf
      have kn : nanw (flr a) = false := by unfold nanw; simp; omega
      have e : flF a = flr a := by unfold flF; rw [if_neg hn, cn_id (by rw [kn]; decide)]
      refine ⟨e, k1, kn, ?_, k4, ?_⟩
      · unfold flF; rw [kn, k3]; simp only [Bool.false_eq_true, if_false]; exact cn_id (by rw [kn]; decide)
      · rcases k5 with k5 | ⟨r, r1, r2, r3, r4⟩
        · exact .inl k5
        · right
          have rn : nanw r = false := by unfold nanw; simp; omega
          have ef : far .add (flr a) (nw 1) = r := by
            unfold far floatBits
            rw [(nw_small (n := 1) (by decide)).1]
            show (match double.add (flr a) (Iw 1) with | some r => cn r | none => NO) = r
            rw [r1]; exact cn_id (by rw [rn]; decide)
          rw [ef]
          unfold ltF
          rw [lt_order, hn', rn]
          simp [r4]
    · have e := flr_inf ha hi
      have e2 : flF a = flr a := by unfold flF; rw [if_neg hn, e, cn_id hn]
      rw [e] at e2 ⊢
      exact ⟨e2, ha, hn', e2, by omega, .inl rfl⟩
  obtain ⟨k0, k1, kn, k3, k4, k5⟩ := key
  rw [k0]
  refine call_gives h2 (fun _ _ _ => gives36 a (flr a)) fun w3 _ h3 => ⟨_, rfl, ?_⟩
  have e1 : ltF a (flr a) = false := by unfold ltF; rw [lt_order, hn', kn]; simpa using k4
  rw [e1, if_pos (by decide)]
  have fin : ∀ {w6 : World}, Below w.heap.size w w6 → CallK Tryd.prog 35 [.int .u64 ((flr a : Nat) : Int)] w.heap.size w6 [] fun v_6 w_7 => ∃ x31 : Int, v_6 = .int .u64 x31 ∧
      if (x31 == ((flr a : Nat) : Int)) = true
      then (CallK Tryd.prog 21 [] w.heap.size w_7 [] fun v_7 w_8 => ∃ b36 : Bool, v_7 = .bool b36 ∧ Ret w.heap.size w_8 (IsV w (.bool true) (.bool b36)))
      else (Ret w.heap.size w_7 (IsV w (.bool true) (.bool false))) := by
    intro w6 h6
    refine call_gives h6 (fun _ _ _ => gives35 k1) fun w7 _ h7 => ⟨_, rfl, ?_⟩
    rw [k3, if_pos (be _)]
    exact call_gives h7 (fun _ _ h => gives21 (ht.on h)) fun w8 _ h8 => ⟨_, rfl, ret_is h8 rfl⟩
  by_cases hq : flr a = a
  · rw [if_neg (by rw [hq]; simp)]
    exact fin h3
  · rw [if_pos (by simp; omega)]
    have k5 := k5.resolve_left hq
    refine call_gives h3 (fun _ _ _ => gives32 1) fun w4 _ h4 => ⟨_, rfl, ?_⟩
    refine call_gives h4 (fun _ _ _ => gives26 _ _) fun w5 _ h5 => ⟨_, rfl, ?_⟩
    refine call_gives h5 (fun _ _ _ => gives36 _ _) fun w6 _ h6 => ⟨_, rfl, ?_⟩
    rw [if_pos k5]
    exact fin h6
end
end Go.Proofs.YtofblkmibghmbaaDoor
