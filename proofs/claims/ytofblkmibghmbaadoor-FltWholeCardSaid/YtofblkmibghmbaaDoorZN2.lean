/-
  Layer 2: the document's examples; FltAll.
  Conditions: the tables of the host's library read as the program's text lays them.
-/
import Derived.Test.YtofblkmibghmbaaDoorZT2c
import Derived.Test.YtofblkmibghmbaaDoorZVL
set_option linter.unusedVariables false
set_option linter.unusedSimpArgs false
set_option maxRecDepth 100000
set_option exponentiation.threshold 3000
namespace Go.Proofs.YtofblkmibghmbaaDoor
open Go.RowKit Ieee
theorem nw_small {n : Int} (h : n.natAbs < 2 * BN) : nw n = Iw n ∧ nw n < 2 * SW ∧ nanw (nw n) = false := by
  have e : FloatKind.nearest .f64 n = Iw n := by
    show double.nearest (n < 0) n.natAbs 0 = _
    exact nearest_whole _ h rfl
  have hn : nanw (Iw n) = false := by
    have := Iw_fin h
    unfold nanw; simp; omega
  have e2 : nw n = Iw n := by unfold nw; rw [e, cn_id (by rw [hn]; decide)]
  rw [e2]
  exact ⟨rfl, Iw_lt h, hn⟩
theorem awake_facts : textF (nw (-7)) = [45, 55] ∧ textF (far .quo (nw 0) (nw 0)) = [110, 97, 110] ∧ textF (neF (nw 0)) = [45, 48] ∧ textF (far .quo (nw 1) (nw 2)) = [48, 120, 51, 102, 101, 48, 48, 48, 48, 48, 48, 48, 48, 48, 48, 48, 48, 48] ∧
    nw (-7) < 2 * SW ∧ far .quo (nw 0) (nw 0) < 2 * SW ∧ nw 0 < 2 * SW ∧ neF (nw 0) < 2 * SW ∧ far .quo (nw 1) (nw 2) < 2 * SW := by
  refine ⟨by kernel_rfl, by kernel_rfl, by kernel_rfl, by kernel_rfl, by decide, by decide, by decide, by decide, by decide⟩
theorem str_eq {l m : List UInt8} {x : ByteArray} (h : l = m) (hx : bstr m = x) : ((bstr l).toList == x.toList) = true := by rw [h, hx]; exact beq_self_eq_true _
section
variable {w : World}
theorem gives21 (ht : Tabs w) : Gives Tryd.prog 21 [] w (.bool true) := by
  obtain ⟨t1, t2, t3, t4, l1, l2, l3, l4, l5⟩ := awake_facts
  refine gives_of (V21.sound ?_)
  unfold V21.vc
  refine call_gives (Below.refl _ _) (fun _ _ _ => gives32 (-7)) fun w1 _ h1 => ⟨_, rfl, ?_⟩
  refine call_gives h1 (fun _ _ h => gives19 (ht.on h) l1) fun w2 _ h2 => ⟨_, rfl, ?_⟩
  rw [if_pos (str_eq (x := { data := #[45, 55] }) t1 rfl)]
  refine call_gives h2 (fun _ _ _ => gives32 0) fun w3 _ h3 => ⟨_, rfl, ?_⟩
  refine call_gives h3 (fun _ _ _ => gives32 0) fun w4 _ h4 => ⟨_, rfl, ?_⟩
  refine call_gives h4 (fun _ _ _ => gives41 _ _) fun w5 _ h5 => ⟨_, rfl, ?_⟩
  refine call_gives h5 (fun _ _ h => gives19 (ht.on h) l2) fun w6 _ h6 => ⟨_, rfl, ?_⟩
  rw [if_pos (str_eq (x := { data := #[110, 97, 110] }) t2 rfl)]
  refine call_gives h6 (fun _ _ _ => gives32 0) fun w7 _ h7 => ⟨_, rfl, ?_⟩
  refine call_gives h7 (fun _ _ _ => gives22 l3) fun w8 _ h8 => ⟨_, rfl, ?_⟩
  refine call_gives h8 (fun _ _ h => gives19 (ht.on h) l4) fun w9 _ h9 => ⟨_, rfl, ?_⟩
  rw [if_pos (str_eq (x := { data := #[45, 48] }) t3 rfl)]
  refine call_gives h9 (fun _ _ _ => gives32 1) fun w10 _ h10 => ⟨_, rfl, ?_⟩
  refine call_gives h10 (fun _ _ _ => gives32 2) fun w11 _ h11 => ⟨_, rfl, ?_⟩
  refine call_gives h11 (fun _ _ _ => gives41 _ _) fun w12 _ h12 => ⟨_, rfl, ?_⟩
  refine call_gives h12 (fun _ _ h => gives19 (ht.on h) l5) fun w13 _ h13 => ⟨_, rfl, ret_is h13 (congrArg Value.bool (str_eq t4 rfl))⟩
end
end Go.Proofs.YtofblkmibghmbaaDoor
