/-
  Layer 20: the roots of a stack: the program's answer and the document's, by one plain rule.
  Conditions: the arena, the words, and the program, lie in memory as told; the program's functions are sized.
-/
import Derived.Test.YtlccbaemcfjdoaaZW20b
set_option linter.unusedVariables false
set_option linter.unusedSimpArgs false
namespace Go.Proofs.Ytlccbaemcfjdoaa
open Go.RowKit
theorem append_any {w0 w : World} {bs : List Nat} {v : Value} {n : Nat} {A : Option Addr} {l c : Nat} {xs ys : List Int} {K : Value → World → Prop} (hB : w0.heap.size ≤ w.heap.size) {b0 : Nat} (hb0 : b0 ≤ w.heap.size) (ho : w.ownsRow b0 51 1 v n (xs.map (.int .u64)))
    (hx : Nums .u64 w A l ys) (hA : A = none → c = 0) (hl : n + l ≤ 17592186044416) (hk : ∀ v' w', ExtS w0.heap.size (fun k => v.ownBlock = some k) w w' → w'.ownsRow b0 51 1 v' (n + l) ((xs ++ ys).map (.int .u64)) → K v' w') :
    RunK Try.prog (Builtin.append_ #[50, 50] 50 ⟨[v, .slice A l c]⟩) w0.heap.size w bs K := by
  have hb8 : Try.t51.bytes = 8 := by kernel_rfl
  have hlx := hx.len
  cases A with
  | none =>
    have hn : ys = [] := by
      cases ys with
      | nil => rfl
      | cons x r => obtain ⟨p, hp, _⟩ := hx.get 0 x rfl; cases hp
    subst hn
    obtain rfl := hA rfl
    obtain rfl : 0 = l := hlx
    intro w1 he hxx
    have hr := run_append_owned_none (P := Try.prog) (w := w1) b0 50 50 51 Try.t51 1 (by kernel_rfl) (by kernel_rfl) v n _ (he.owns ho)
    refine ⟨_, w1, hr, ⟨Nat.le_refl _, fun _ _ => rfl⟩, hide_any fun w' hm => ?_⟩
    have h1 := masked he hxx (Nat.le_trans hB he.size) (Below.refl _ _) hm
    refine hk _ w' h1.toS ?_
    rw [Nat.add_zero, List.append_nil]
    exact h1.owns ho
  | some a => exact append_nums (t := 50) (e := 51) (i := Try.t51) (k := .u64) (bytes := 8) (b0 := b0) (by kernel_rfl) (by kernel_rfl) (by kernel_rfl) (by kernel_rfl) hb8 (Nat.le_refl _) ho hx (by omega) hB hb0 fun v' w' he ho' _ => hk v' w' he ho'
section
variable {w0 wb : World} {p : List Fnc}
structure Outs (w0 wb w : World) (A : Option Addr) (c : Nat) (out : List Int) : Prop where
  row : w.ownsRow wb.heap.size 51 1 (.slice A out.length c) out.length (out.map (.int .u64))
  sub : ∀ q v, wb.cell? q = some v → w.cell? q = some v
  below : Below w0.heap.size w0 w
  lt : wb.heap.size ≤ w.heap.size
theorem Outs.ext {w w' : World} {A : Option Addr} {c : Nat} {out : List Int} (h : Outs w0 wb w A c out) (he : Ext w0.heap.size w w') : Outs w0 wb w' A c out := ⟨he.owns h.row, fun q v hq => he.cell (h.sub q v hq), he.after h.below, Nat.le_trans h.lt he.size⟩
theorem Outs.turned {w w' : World} {A A' : Option Addr} {c c' : Nat} {out out' : List Int} (h : Outs w0 wb w A c out) (hwb : w0.heap.size ≤ wb.heap.size) (he : ExtS w0.heap.size (fun k => (Value.slice A out.length c).ownBlock = some k) w w') (ho : w'.ownsRow wb.heap.size 51 1 (.slice A' out'.length c') out'.length (out'.map (.int .u64))) : Outs w0 wb w' A' c' out' :=
  ⟨ho, fun q v hq => he.cell (h.sub q v hq) (fun hk => by have := (h.row.lt _ hk).1; have := cell_lt hq; omega), he.after (fun j hj => Nat.le_trans hwb (h.row.lt j hj).1) h.below, Nat.le_trans h.lt he.size⟩
end
section
variable {w0 wb : World} {p : List Fnc}
end
end Go.Proofs.Ytlccbaemcfjdoaa
