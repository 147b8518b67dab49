/-
  Layer 17: the laws' functions ProgSizes and ProgMade return true.
  Conditions: the numbers lie in memory as told.
-/
import Derived.Test.YtlccbaemcfjdoaaZM17
import Derived.Test.YtlccbaemcfjdoaaZC17l
set_option linter.unusedVariables false
set_option linter.unusedSimpArgs false
namespace Go.Proofs.Ytlccbaemcfjdoaa
open Go.RowKit
theorem gives4 {w : World} {A : Option Addr} {l c : Nat} {ns : List Int} (hn : BytesAt w A l c ns) {f : Int} (hf : 0 ≤ f ∧ f < 256) (a b : Int) : Gives Try.prog 4 [.slice A l c, .int .u8 f, .int .i64 a, .int .i64 b] w (.bool true) := by
  refine gives_of (V4.sound ?_)
  unfold V4.vc
  refine call_made (Below.refl _ _) hn fun p C c' w1 hmade hp hc hq he hw => ?_
  refine ⟨C, p.length, c', rfl, ?_⟩
  intro q9 _
  have hlen := hmade.pos
  rw [wrap_id (n := f) (by omega) (by omega)]
  have t := tm hf.1 (n := (p.length : Int)) (by omega)
  generalize Int.tmod f (p.length : Int) = k at t ⊢
  obtain ⟨x, q, C', cc, hx, hqq, c0, c1, c2, c3, hcode⟩ := prog_at hp (i := k.toNat) (by omega)
  refine ⟨by omega, q, hqq, t.1, t.2, x.params, c0, x.locals, c1, x.refs, c2, C', x.code.length, cc, c3, ?_⟩
  intro q10 _
  refine ⟨c0, c1, c2, c3, x.code.length + 1, ?_⟩
  obtain ⟨h1, h2, h3, h4, h5, h6⟩ := hmade.heads x (List.mem_of_getElem? hx)
  have hcl : clampL x.locals = x.locals := by unfold clampL; split <;> split <;> omega
  have hsz : sizeM x.locals x.code = 15 + x.locals + (if hasDefer x.code then 16 else 0) := by unfold sizeM; rw [hcl]
  have b1 : ∀ want, want = sizeM x.locals x.code → V4.b1 w.heap.size (IsV w (.bool true)) a b want q10 x.params x.locals x.refs C' x.code.length cc w1 := by
    rintro want rfl
    unfold V4.b1
    refine call_gives hw (fun w2 e2 _ => gives32 (RowAt.keep InsE.kept hcode (ext_keeps e2)) _ _ _) fun w2 e2 hw2 => ⟨_, rfl, ?_⟩
    rw [if_pos (by simp)]
    refine call_gives hw2 (fun w3 e3 _ => gives32 (RowAt.keep InsE.kept (RowAt.keep InsE.kept hcode (ext_keeps e2)) (ext_keeps e3)) _ _ _) fun w3 e3 hw3 => ⟨_, rfl, ?_⟩
    rw [if_pos (by simp)]
    exact call_gives hw3 (fun w4 _ _ => gives34 w4) fun w4 _ hw4 => ⟨_, rfl, ret_is hw4 rfl⟩
  have loop : ∀ (m i : Nat), x.code.length < i + m → i ≤ x.code.length → hasDefer (x.code.drop i) = hasDefer x.code → V4.l0 w.heap.size (IsV w (.bool true)) m a b (IntKind.wrap .i64 (15 + x.locals)) i q10 x.params x.locals x.refs C' x.code.length cc w1 := by
    intro m
    have hw15 : IntKind.wrap .i64 (15 + x.locals) = 15 + x.locals := wrap_id (by omega) (by omega)
    rw [hw15]
    induction m with
    | zero => intros; omega
    | succ m ih =>
      intro i hm hi hd
      dsimp -zeta only [V4.l0]
      by_cases hlt : i < x.code.length
      · rw [if_pos (by simpa using hlt)]
        obtain ⟨y, r, hy, hr, hin⟩ := hcode.at hlt
        refine ⟨r, hr, by omega, by omega, y.op, by simpa using hin.1, ?_⟩
        have hdd := hasDefer_drop hy
        by_cases h19 : y.op = 19
        · rw [if_pos (by simpa using h19)]
          refine b1 _ ?_
          rw [wrap_id (by omega) (by omega), hsz, if_pos (by rw [← hd, hdd, h19]; rfl)]
        · rw [if_neg (by simpa using h19), wrap_succ hlt hcode.small]
          refine ih (i + 1) (by omega) (by omega) ?_
          rw [← hd, hdd]
          simp [h19]
      · rw [if_neg (by simpa using hlt)]
        refine b1 _ ?_
        have : i = x.code.length := by omega
        subst this
        rw [hsz, if_neg (by rw [← hd]; simp [hasDefer])]
        omega
  exact loop (x.code.length + 1) 0 (by omega) (by omega) rfl
end Go.Proofs.Ytlccbaemcfjdoaa
