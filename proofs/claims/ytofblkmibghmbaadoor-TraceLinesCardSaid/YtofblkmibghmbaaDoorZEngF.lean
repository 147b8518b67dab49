/-
  Rules for operations on floats, and for functions of the host's library.
  Conditions: none.
-/
import Derived.Test.YtofblkmibghmbaaDoorZEngD
import Derived.Test.YtofblkmibghmbaaDoorZF6
set_option linter.unusedVariables false
set_option linter.unusedSimpArgs false
namespace Go.Proofs.YtofblkmibghmbaaDoor
open Ieee Go.RowKit
def Lone (P : Program) (s : Sem Value) (Q : Value → Prop) : Prop := ∀ W : World, ∃ v W', s.run P W = .ok v W' ∧ Q v ∧ W'.heap = W.heap ∧ W'.os = W.os ∧ W'.tape = W.tape ∧ W'.output = W.output
theorem run_lone {P : Program} {s : Sem Value} {B : Nat} {w : World} {bs : List Nat} {K : Value → World → Prop} {Q : Value → Prop} (hB : B ≤ w.heap.size) (hs : Lone P s Q)
    (hk : ∀ v w', Ext B w w' → Q v → K v w') : RunK P s B w bs K := by
  intro w1 h1 hx
  obtain ⟨v, W', hr, hq, e1, e2, e3, e4⟩ := hs w1
  have hb : Below w1.heap.size w1 W' := ⟨e2, e3, e4, by rw [e1]; exact Nat.le_refl _, fun k _ => by rw [e1]⟩
  refine ⟨v, W', hr, ⟨by rw [e1]; exact Nat.le_refl _, fun x _ => by rw [e1]⟩, hide_any fun w' hm => hk v w' (masked h1 hx (Nat.le_trans hB h1.size) hb hm) hq⟩
theorem lone_pure {P : Program} {s : Sem Value} {v : Value} (h : ∀ W : World, s.run P W = .ok v W) : Lone P s fun u => u = v := fun W => ⟨v, W, h W, rfl, rfl, rfl, rfl, rfl⟩
theorem toI_num (name : String) (way : Toward) {x : Nat} (hd : ∀ s t, FloatKind.f64.decode x ≠ .nan s t) : Extern.MathFloor.toIntegral name way #[.float .f64 x] = pure (.float .f64 (FloatKind.f64.encode ((FloatKind.f64.decode x).integral way))) := by
  have e : Extern.MathFloor.toIntegral name way #[.float .f64 x] = (match FloatKind.f64.decode x with
    | .nan s t => (if FloatKind.f64.format.quiet t = t then pure (.float .f64 x) else do
      let kept ← choose (.extern "math.Floor,Ceil,Trunc,RoundToEven.signallingNaN kept" 2)
      pure (.float .f64 (if kept == 1 then x else FloatKind.f64.encode (.nan s (FloatKind.f64.format.quiet t)))))
    | d => pure (.float .f64 (FloatKind.f64.encode (d.integral way)))) := rfl
  rw [e]
  cases h : FloatKind.f64.decode x with
  | nan s t => exact absurd h (hd s t)
  | _ => rfl
theorem lone_trunc {P : Program} (name : String) (x : Nat) (hn : ¬ nanw x = true) : Lone P (Extern.MathFloor.toIntegral name .zero #[.float .f64 x]) (fun u => u = .float .f64 (trc x)) := by
  refine lone_pure fun W => ?_
  have hd : ∀ s t, FloatKind.f64.decode x ≠ .nan s t := fun s t e => hn (by rw [← isNaN_read]; show (FloatKind.f64.decode x).isNaN = true; rw [e]; rfl)
  rw [toI_num _ _ hd]; rfl
theorem lone_bits {P : Program} (x : Nat) : Lone P (Extern.MathFloatBits.float64bits #[.float .f64 x]) (fun u => u = .int .u64 x) := lone_pure fun W => rfl
theorem lone_from {P : Program} (x : Int) : Lone P (Extern.MathFloatBits.float64frombits #[.int .u64 x]) (fun u => u = .float .f64 x.toNat) := lone_pure fun W => rfl
theorem lone_toInt {P : Program} (src dst : TypeId) (b : Nat) (n : Int) (hs : (P.underlying src).isSome = true) (hd : P.underlying dst = some (.int .i64)) (h : (double.read b).toInt .zero = some n) (h1 : -9223372036854775808 ≤ n) (h2 : n ≤ 9223372036854775807) :
    Lone P (Go.convert src dst (.float .f64 b)) (fun u => u = .int .i64 n) := by
  refine lone_pure fun W => run_convert_float_int W src dst .f64 .i64 b n hs hd ?_
  unfold floatToIntVal
  show (match (double.read b).toInt .zero with | some n => _ | none => _) = _
  rw [h]
  have h3 : IntKind.i64.min = -9223372036854775808 := rfl
  have h4 : IntKind.i64.max = 9223372036854775807 := rfl
  simp only [h3, h4]
  rw [if_pos ⟨h1, h2⟩]
end Go.Proofs.YtofblkmibghmbaaDoor
