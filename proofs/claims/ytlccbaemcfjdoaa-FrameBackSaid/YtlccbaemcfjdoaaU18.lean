/-
  Layer 18: numbers that are used up, words by numbers: what their calls return and leave.
  Conditions: the numbers lie in memory as told.
-/
import Derived.Test.YtlccbaemcfjdoaaD18
import Derived.Test.YtlccbaemcfjdoaaWE
set_option linter.unusedVariables false
set_option linter.unusedSimpArgs false
namespace Go.Proofs.Ytlccbaemcfjdoaa
open Go.RowKit

/-- Numbers that are used up lie in block g; they themselves lie in the memory of wb. -/
def NumsIn (wb w : World) (g : Nat) : Prop := ∃ A ln cn ns, w.heap[g]? = some (.cells ⟨[.slice A ln cn]⟩ 70 (0, 0)) ∧ BytesAt wb A ln cn ns
theorem NumsIn.same {wb w w' : World} {g : Nat} (h : NumsIn wb w g) (hg : w'.heap[g]? = w.heap[g]?) : NumsIn wb w' g := by
  obtain ⟨A, ln, cn, ns, h1, h2⟩ := h
  exact ⟨A, ln, cn, ns, by rw [hg]; exact h1, h2⟩
theorem NumsIn.has {wb w : World} {g : Nat} (h : NumsIn wb w g) : ∃ c t f, w.heap[g]? = some (Obj.cells c t f) := by
  obtain ⟨A, ln, cn, ns, h1, _⟩ := h
  exact ⟨_, _, _, h1⟩
theorem NumsIn.ext {wb w w' : World} {g B : Nat} (h : NumsIn wb w g) (he : Ext B w w') : NumsIn wb w' g := by
  obtain ⟨c, t, f, hc⟩ := h.has
  exact h.same (by rw [he.row _ _ _ _ hc, hc])
theorem NumsIn.other {wb w w' : World} {g B : Nat} {S : Nat → Prop} (h : NumsIn wb w g) (he : ExtS B S w w') (hS : ¬ S g) : NumsIn wb w' g := by
  obtain ⟨c, t, f, hc⟩ := h.has
  exact h.same (by rw [he.row _ _ _ _ hS hc, hc])
def TurnsN (f : Nat) (g : Nat) (wb w : World) (args : List Value) (R : Value → Prop) : Prop := Turns Try.prog f args w (fun k => k = g) fun v w' => R v ∧ NumsIn wb w' g
theorem call_n {f : Nat} {args : List Value} {B : Nat} {w wb : World} {bs : List Nat} {g : Nat} {R : Value → Prop} {K : Value → World → Prop} (hB : B ≤ w.heap.size) (hn : NumsIn wb w g) (hc : ∀ w1, Ext B w w1 → TurnsN f g wb w1 args R)
    (hk : ∀ v w', R v → ExtS B (fun k => k = g) w w' → NumsIn wb w' g → K v w') : CallK Try.prog f args B w bs K := by
  refine call_turnsS (S := fun k => k = g) (Q := fun _ v w2 => R v ∧ NumsIn wb w2 g) hB (fun k hk => by subst hk; exact hn.has) hc fun w1 v w2 w' hs hQ hsame he => hk v w' hQ.1 he (hQ.2.same (hsame g (.inl rfl)))
theorem turns51 {wb w : World} {g : Nat} (hn : NumsIn wb w g) (hk : ∀ q v, wb.cell? q = some v → w.cell? q = some v) : TurnsN 51 g wb w [.pointer (some ⟨g, 0, none⟩)] fun v => ∃ n, v = .int .i64 n ∧ 0 ≤ n ∧ n < 256 := by
  refine turns_of (V51.sound ?_)
  obtain ⟨A, ln, cn, ns, hg, hb⟩ := hn
  unfold V51.vc
  simp only [own_add, bx_add, Nat.add_zero, Nat.zero_add]
  have hc : w.cell? ⟨g, 0, none⟩ = some (.slice A ln cn) := at_cell hg rfl
  refine ⟨A, ln, cn, hc, ?_⟩
  by_cases h0 : ln = 0
  · rw [if_pos (by simp [h0])]
    exact ret_t (Chg.refl _ _) fun w1 he => ⟨⟨0, rfl, by omega, by omega⟩, (NumsIn.ext ⟨A, ln, cn, ns, hg, hb⟩ he)⟩
  · rw [if_neg (by simp; omega)]
    obtain ⟨n, q, hnn, hq, hcell⟩ := hb.nums.at (i := 0) (by omega)
    subst hq
    have hbyte := hb.byte n (List.mem_of_getElem? hnn)
    refine ⟨_, ln, cn, hc, q, rfl, by omega, by omega, n, hk _ _ hcell, _, ln, cn, hc, by omega, by omega, ⟨_, hc⟩, at_frozen hg 0, ?_⟩
    have hw : IntKind.wrap .i64 n = n := wrap_id (by omega) (by omega)
    refine ret_t ((Chg.refl _ _).setCell _ fun _ => rfl) fun w1 he => ⟨⟨_, rfl, by rw [hw]; omega, by rw [hw]; omega⟩, ?_⟩
    have hrow := he.row _ _ _ _ (at_set hg 0 (.slice (if cn = 1 then some q else Option.map (fun a => a.add 1) (some q)) (ln - 1) (cn - 1)))
    refine ⟨_, ln - 1, cn - 1, ns.drop 1, hrow, ⟨⟨by simp [hb.nums.len], by have := hb.nums.small; omega, fun i x hx => ?_⟩, fun m hm => hb.byte m (List.mem_of_mem_drop hm), by have := hb.cap; omega⟩⟩
    have hx' : ns[1 + i]? = some x := by rwa [List.getElem?_drop] at hx
    obtain ⟨q', hq', he'⟩ := hb.nums.get (1 + i) x hx'
    cases hq'
    have hlt := (List.getElem?_eq_some_iff.1 hx').1
    have := hb.nums.len
    rw [if_neg (by have := hb.cap; omega)]
    refine ⟨q.add 1, rfl, ?_⟩
    rw [Nat.mul_one] at he' ⊢
    rwa [show (q.add 1).add i = q.add (1 + i) from adr_add _ _ _]
theorem wrap_u64_bd (n : Int) : 0 ≤ IntKind.wrap .u64 n ∧ IntKind.wrap .u64 n < 18446744073709551616 := by
  simp only [IntKind.wrap, IntKind.bits, IntKind.signed]
  simp
  omega
theorem turns98 {wb w : World} {g : Nat} (hn : NumsIn wb w g) (hk : ∀ q v, wb.cell? q = some v → w.cell? q = some v) : TurnsN 98 g wb w [.pointer (some ⟨g, 0, none⟩)] fun v => ∃ n, v = .int .u64 n ∧ 0 ≤ n ∧ n < 18446744073709551616 := by
  refine turns_of (V98.sound ?_)
  unfold V98.vc
  refine call_n (Nat.le_refl _) hn (fun w1 e1 => turns51 (hn.ext e1) fun q v h => e1.cell (hk q v h)) fun v w1 hR e1 hn1 => ?_
  obtain ⟨x, rfl, hx0, hx1⟩ := hR
  refine ⟨x, rfl, by omega, ?_⟩
  have hc1 := e1.chgS (Chg.refl _ w)
  split
  · exact ret_t hc1 fun w2 he => ⟨⟨0, rfl, by omega, by omega⟩, hn1.ext he⟩
  · have t7 : 0 ≤ Int.tmod x 7 ∧ Int.tmod x 7 < 7 := ⟨Int.tmod_nonneg _ hx0, Int.tmod_lt_of_pos _ (by omega)⟩
    refine ⟨by omega, ?_, ret_t hc1 fun w2 he => ⟨⟨_, rfl, wrap_u64_bd _⟩, hn1.ext he⟩⟩
    rw [wrap_id (by omega) (by omega)]; omega
end Go.Proofs.Ytlccbaemcfjdoaa
