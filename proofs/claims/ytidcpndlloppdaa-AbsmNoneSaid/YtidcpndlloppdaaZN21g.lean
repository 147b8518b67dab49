import Derived.Test.YtidcpndlloppdaaZN21b
import Derived.Test.YtidcpndlloppdaaZMF
/-
  Layer 21: AbsmNone's function returns true.
  Conditions: the arguments' memory says what their values are.
-/
set_option linter.unusedVariables false
set_option linter.unusedSimpArgs false
set_option maxRecDepth 20000
namespace Go.Proofs.Ytidcpndlloppdaa
open Go.RowKit
theorem i64_bd {n : Int} (h : (Lit.int .i64 n).wf = true) : -9223372036854775808 ≤ n ∧ n ≤ 9223372036854775807 := by
  simp [Lit.wf, IntKind.min, IntKind.max, IntKind.bits, IntKind.signed] at h
  omega
theorem gives19z {w : World} : Gives Try.prog 19 [.pointer none] w N0 := gives_of (V19z.sound fun _ _ => ret_is (Below.refl _ _) rfl)
theorem gives23z {w : World} : Gives Try.prog 23 [.pointer none] w (.int .i64 2) := gives_of (V23z.sound (ret_is (Below.refl _ _) rfl))
theorem gives20z {w : World} : Gives Try.prog 20 [.pointer none] w N0 := gives_of (V20z.sound (ret_is (Below.refl _ _) rfl))
theorem gives15z {w : World} : Gives Try.prog 15 [.pointer none] w N0 := gives_of (V15z.sound (ret_is (Below.refl _ _) rfl))
theorem gives13z {w : World} : Gives Try.prog 13 [.pointer none] w (.bool false) := gives_of (V13z.sound (ret_is (Below.refl _ _) rfl))
theorem gives27z {w : World} : Gives Try.prog 27 [.pointer none] w (.bool false) := gives_of (V27z.sound (ret_is (Below.refl _ _) rfl))
theorem gives22z {w : World} : Gives Try.prog 22 [.pointer none] w (.tuple ⟨[]⟩) := gives_of (V22z.sound (ret_is (Below.refl _ _) rfl))
theorem gives44z {w : World} : Gives Try.prog 44 [.pointer none] w (.tuple ⟨[.int .i64 0, .bool false]⟩) := gives_of (V44z.sound (ret_is (Below.refl _ _) rfl))
theorem gives24z {w : World} : Gives Try.prog 24 [.pointer none] w (.int .i64 0) := by
  refine gives_of (V24z.sound ?_)
  unfold V24z.vc
  refine call_gives (Below.refl _ _) (fun _ _ _ => gives44z) fun w1 e1 hw1 => ⟨_, _, rfl, ?_⟩
  rw [if_pos (by rfl)]
  exact ret_is hw1 rfl
theorem gives26n {w : World} {P : Option Addr} {cap : Nat} {p : List Fnc} (hp : ProgAt w P p.length p) (hr : Rt p) {f : Int} (hf : f < 0 ∨ (p.length : Int) ≤ f ∨ ∃ fn, p[f.toNat]? = some fn ∧ fn.params ≠ 0) : Gives Try.prog 26 [.agg ⟨[.slice P p.length cap]⟩, .int .i64 f] w (.pointer none) := by
  refine gives_of (V26.sound ?_)
  intro q1 _
  refine call_gives (Below.refl _ _) (fun w1 _ hb => gives45 (hp.keep hb)) fun w1 e1 hw1 => ⟨_, _, _, rfl, ?_⟩
  rw [if_pos (by rw [hr.check]; rfl)]
  by_cases h0 : f < 0
  · rw [if_neg (by simp; omega)]
    exact ret_is hw1 rfl
  · rw [if_pos (by simp; omega)]
    by_cases hl : (p.length : Int) ≤ f
    · rw [if_neg (by simp; omega)]
      exact ret_is hw1 rfl
    · rw [if_pos (by simp; omega)]
      rcases hf with h | h | ⟨fn, hfn, hpar⟩
      · omega
      · omega
      obtain ⟨f', a, C, c, hf', ha, c0, c1, c2, c3, hc⟩ := prog_at (hp.keep hw1) (i := f.toNat) (by omega)
      rw [hfn] at hf'; cases hf'
      refine ⟨a, ha, by omega, by omega, fn.params, c0, ?_⟩
      rw [if_pos (by simpa using hpar)]
      exact ret_is hw1 rfl
theorem gives8 {w : World} {A : Option Addr} {l c : Nat} {ns : List Int} (hns : BytesAt w A l c ns) {f : Int} (hf : -9223372036854775808 ≤ f ∧ f ≤ 9223372036854775807) : Gives Try.prog 8 [.slice A l c, .int .i64 f] w (.bool true) := by
  refine gives_of (V8.sound ?_)
  unfold V8.vc
  refine call_made (Below.refl _ _) hns fun p P cap w1 hmade hp hcap hq e1 hw1 => ⟨_, _, _, rfl, fun o _ => ?_⟩
  have hr := made_rt hmade
  have hfew := hmade.few
  have last : ∀ f' : Int, (f' < 0 ∨ (p.length : Int) ≤ f' ∨ ∃ fn, p[f'.toNat]? = some fn ∧ fn.params ≠ 0) → V8.b1 w.heap.size (IsV w (.bool true)) f' o P p.length cap w1 := fun f' hbad => by
    unfold V8.b1
    refine call_gives hw1 (fun _ _ _ => gives22z) fun w2 e2 hw2 => ⟨rfl, ?_⟩
    refine call_gives hw2 (fun w3 e3 _ => gives26n (RowAt.keep FncE.kept hp (ext_keeps (e2.trans e3))) hr hbad) fun w3 e3 hw3 => ⟨_, rfl, ?_⟩
    simp only [caseP]
    refine call_gives hw3 (fun _ _ _ => gives23z) fun w4 e4 hw4 => ⟨_, rfl, ?_⟩
    rw [if_pos (by rfl)]
    refine call_gives hw4 (fun _ _ _ => gives24z) fun w5 e5 hw5 => ⟨_, rfl, ?_⟩
    rw [if_pos (by rfl)]
    refine call_gives hw5 (fun _ _ _ => gives20z) fun w6 e6 hw6 => ⟨_, _, _, rfl, ?_⟩
    rw [if_pos (by rfl)]
    refine call_gives hw6 (fun _ _ _ => gives19z) fun w7 e7 hw7 => ⟨_, _, _, rfl, ?_⟩
    rw [if_pos (by rfl)]
    refine call_gives hw7 (fun _ _ _ => gives15z) fun w8 e8 hw8 => ⟨_, _, _, rfl, ?_⟩
    rw [if_pos (by rfl)]
    refine call_gives hw8 (fun _ _ _ => gives13z) fun w9 e9 hw9 => ⟨_, rfl, ?_⟩
    rw [if_pos (by rfl)]
    refine call_gives hw9 (fun _ _ _ => gives27z) fun w10 e10 hw10 => ⟨_, rfl, ?_⟩
    rw [if_pos (by rfl)]
    exact call_gives hw10 (fun _ _ _ => gives16) fun w11 e11 hw11 => ⟨_, rfl, ret_is hw11 rfl⟩
  by_cases h0 : f ≥ 0
  · rw [if_pos (by simpa using h0)]
    by_cases hl : f < (p.length : Int)
    · rw [if_pos (by simpa using hl)]
      obtain ⟨fn, a, C, cc, hfn, ha, c0, c1, c2, c3, hc⟩ := prog_at hp (i := f.toNat) (by omega)
      refine ⟨a, ha, h0, hl, fn.params, c0, ?_⟩
      unfold V8.b0
      by_cases hz : fn.params = 0
      · rw [if_pos (by simpa using hz), wrap_id (n := (p.length : Int) + f) (by omega) (by omega)]
        exact last _ (.inr (.inl (by omega)))
      · rw [if_neg (by simpa using hz)]
        exact last _ (.inr (.inr ⟨fn, hfn, hz⟩))
    · rw [if_neg (by simpa using hl)]
      unfold V8.b0
      rw [if_neg (by simp)]
      exact last _ (.inr (.inl (by omega)))
  · rw [if_neg (by simpa using h0)]
    unfold V8.b0
    rw [if_neg (by simp)]
    exact last _ (.inl (by omega))
end Go.Proofs.Ytidcpndlloppdaa
