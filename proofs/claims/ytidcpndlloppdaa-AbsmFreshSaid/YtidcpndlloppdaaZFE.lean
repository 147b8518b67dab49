import Derived.Test.YtidcpndlloppdaaZEngD
import Derived.Test.YtidcpndlloppdaaZP29
import Derived.Test.YtidcpndlloppdaaZVA
import Derived.Test.YtidcpndlloppdaaZEngC
import Derived.Test.YtidcpndlloppdaaProg
/-
  Rules for operations on floats, and for functions of the host's library.
  Conditions: none.
-/
set_option linter.unusedVariables false
set_option linter.unusedSimpArgs false
namespace Go.Proofs.Ytidcpndlloppdaa
open Ieee Go.RowKit
def Lone (P : Program) (s : Sem Value) (Q : Value → Prop) : Prop := ∀ W : World, ∃ v W', s.run P W = .ok v W' ∧ Q v ∧ W'.heap = W.heap ∧ W'.os = W.os ∧ W'.tape = W.tape ∧ W'.output = W.output
theorem run_lone {P : Program} {s : Sem Value} {B : Nat} {w : World} {bs : List Nat} {K : Value → World → Prop} {Q : Value → Prop} (hB : B ≤ w.heap.size) (hs : Lone P s Q)
    (hk : ∀ v w', Ext B w w' → Q v → K v w') : RunK P s B w bs K := by
  intro w1 h1 hx
  obtain ⟨v, W', hr, hq, e1, e2, e3, e4⟩ := hs w1
  have hb : Below w1.heap.size w1 W' := ⟨e2, e3, e4, by rw [e1]; exact Nat.le_refl _, fun k _ => by rw [e1]⟩
  refine ⟨v, W', hr, ⟨by rw [e1]; exact Nat.le_refl _, fun x _ => by rw [e1]⟩, hide_any fun w' hm => hk v w' (masked h1 hx (Nat.le_trans hB h1.size) hb hm) hq⟩
theorem lone_pure {P : Program} {s : Sem Value} {v : Value} (h : ∀ W : World, s.run P W = .ok v W) : Lone P s fun u => u = v := fun W => ⟨v, W, h W, rfl, rfl, rfl, rfl, rfl⟩
def FR (op : BinOp) (x y r : Nat) : Prop := match floatBits op .f64 x y with
  | some s => r = s
  | none => nanw r = true ∧ r < 2 * SW
def IsF (Q : Nat → Prop) : Value → Prop := fun v => ∃ r, v = .float .f64 r ∧ Q r
theorem nan_cut (t : Nat) : nanw ((t % 2) * 2 ^ 63 + 0x7ff0000000000000 + 1 + (t / 2) % (2 ^ 52 - 1)) = true ∧ (t % 2) * 2 ^ 63 + 0x7ff0000000000000 + 1 + (t / 2) % (2 ^ 52 - 1) < 2 * SW := by
  have h1 : (t / 2) % (2 ^ 52 - 1) < 2 ^ 52 - 1 := Nat.mod_lt _ (by decide)
  generalize (t / 2) % (2 ^ 52 - 1) = q at *
  have h2 : t % 2 = 0 ∨ t % 2 = 1 := by omega
  unfold nanw rg SW IR
  rcases h2 with h2 | h2 <;> rw [h2] <;> constructor
  · simp only [decide_eq_true_eq]; omega
  · omega
  · simp only [decide_eq_true_eq]; omega
  · omega
theorem lone_arith {P : Program} (op : BinOp) (hop : op = .add ∨ op = .sub ∨ op = .mul ∨ op = .quo) (t : TypeId) (x y : Nat) : Lone P (Go.binOp op t (.float .f64 x) (.float .f64 y)) (IsF (FR op x y)) := by
  intro W
  cases h : floatBits op .f64 x y with
  | some r => exact ⟨_, W, run_float_arith W op t .f64 x y r h, ⟨r, rfl, by unfold FR; rw [h]⟩, rfl, rfl, rfl, rfl⟩
  | none =>
    have hr : (Go.binOp op t (.float .f64 x) (.float .f64 y)).run P W = .ok (.float .f64 ((Question.nanBits .f64 x y).cut (W.tape W.drawn (.nanBits .f64 x y)))) { W with drawn := W.drawn + 1 } := by
      unfold floatBits at h
      rcases hop with rfl | rfl | rfl | rfl <;> simp only at h <;> simp [binOp, Op.floatArith, h, choose, Sem.run, Question.forced]
    exact ⟨_, _, hr, ⟨_, rfl, by unfold FR; rw [h]; exact nan_cut _⟩, rfl, rfl, rfl, rfl⟩
theorem toI_nan (name : String) (way : Toward) {x : Nat} {s : Bool} {t : Nat} (hd : FloatKind.f64.decode x = .nan s t) : Extern.MathFloor.toIntegral name way #[.float .f64 x] = (if FloatKind.f64.format.quiet t = t then pure (.float .f64 x) else do
      let kept ← choose (.extern "math.Floor,Ceil,Trunc,RoundToEven.signallingNaN kept" 2)
      pure (.float .f64 (if kept == 1 then x else FloatKind.f64.encode (.nan s (FloatKind.f64.format.quiet t))))) := by
  have e : Extern.MathFloor.toIntegral name way #[.float .f64 x] = (match FloatKind.f64.decode x with
    | .nan s t => (if FloatKind.f64.format.quiet t = t then pure (.float .f64 x) else do
      let kept ← choose (.extern "math.Floor,Ceil,Trunc,RoundToEven.signallingNaN kept" 2)
      pure (.float .f64 (if kept == 1 then x else FloatKind.f64.encode (.nan s (FloatKind.f64.format.quiet t)))))
    | d => pure (.float .f64 (FloatKind.f64.encode (d.integral way)))) := rfl
  rw [e, hd]
theorem toI_num (name : String) (way : Toward) {x : Nat} (hd : ∀ s t, FloatKind.f64.decode x ≠ .nan s t) : Extern.MathFloor.toIntegral name way #[.float .f64 x] = pure (.float .f64 (FloatKind.f64.encode ((FloatKind.f64.decode x).integral way))) := by
  have e : Extern.MathFloor.toIntegral name way #[.float .f64 x] = (match FloatKind.f64.decode x with
    | .nan s t => (if FloatKind.f64.format.quiet t = t then pure (.float .f64 x) else do
      let kept ← choose (.extern "math.Floor,Ceil,Trunc,RoundToEven.signallingNaN kept" 2)
      pure (.float .f64 (if kept == 1 then x else FloatKind.f64.encode (.nan s (FloatKind.f64.format.quiet t)))))
    | d => pure (.float .f64 (FloatKind.f64.encode (d.integral way)))) := rfl
  rw [e]
  cases h : FloatKind.f64.decode x with
  | nan s t => exact absurd h (hd s t)
  | _ => rfl
theorem lone_floor {P : Program} (name : String) (x : Nat) (hx : x < 2 * SW) : Lone P (Extern.MathFloor.toIntegral name .down #[.float .f64 x]) (IsF fun r => if nanw x = true then nanw r = true ∧ r < 2 * SW else r = flr x) := by
  intro W
  by_cases hn : nanw x = true
  · have hr := read_nan (w := x) (by unfold nanw at hn; simpa using hn)
    by_cases hq : FloatKind.f64.format.quiet (rg x - IR) = rg x - IR
    · refine ⟨.float .f64 x, W, ?_, ⟨x, rfl, by simp only [if_pos hn]; exact ⟨hn, hx⟩⟩, rfl, rfl, rfl, rfl⟩
      have hd : FloatKind.f64.decode x = .nan (ngw x) (rg x - IR) := hr
      rw [toI_nan _ _ hd, if_pos hq]; rfl
    · have hd : FloatKind.f64.decode x = .nan (ngw x) (rg x - IR) := hr
      have he : FloatKind.f64.encode (.nan (ngw x) (FloatKind.f64.format.quiet (rg x - IR))) = double.word (ngw x) (IR + (double.quiet (rg x - IR)) % BN) := by
        show double.write _ = _
        simp only [Format.write, dbl_inf, dbl_binade]; rfl
      have hlt : IR + (double.quiet (rg x - IR)) % BN < SW := by
        have := Nat.mod_lt (double.quiet (rg x - IR)) bn_pos
        have : IR + BN = SW := by decide
        omega
      have hpos : 0 < (double.quiet (rg x - IR)) % BN := by
        have h1 : rg x - IR < 2 ^ 52 := by
          have := rg_lt x
          have : IR + 2 ^ 52 = SW := by decide
          omega
        have h2 : double.quiet (rg x - IR) < 2 ^ 52 := by
          unfold Format.quiet
          exact Nat.or_lt_two_pow h1 (by decide)
        rw [bn_pow, Nat.mod_eq_of_lt h2]
        unfold Format.quiet
        have : 2 ^ (double.fractionBits - 1) ≤ (rg x - IR) ||| 2 ^ (double.fractionBits - 1) := Nat.right_le_or
        have h3 : 0 < 2 ^ (double.fractionBits - 1) := Nat.two_pow_pos _
        omega
      have hnan : nanw (double.word (ngw x) (IR + (double.quiet (rg x - IR)) % BN)) = true := by
        unfold nanw; rw [rg_wd _ hlt]; simp; exact hpos
      generalize hk : (Question.extern "math.Floor,Ceil,Trunc,RoundToEven.signallingNaN kept" 2).cut (W.tape W.drawn (Question.extern "math.Floor,Ceil,Trunc,RoundToEven.signallingNaN kept" 2)) = kept
      refine ⟨.float .f64 (if kept == 1 then x else double.word (ngw x) (IR + (double.quiet (rg x - IR)) % BN)), { W with drawn := W.drawn + 1 }, ?_, ⟨_, rfl, ?_⟩, rfl, rfl, rfl, rfl⟩
      · rw [toI_nan _ _ hd, if_neg hq, he]
        simp [choose, Sem.run, Question.forced, hk]
      · simp only [if_pos hn]
        split
        · exact ⟨hn, hx⟩
        · exact ⟨hnan, wd_lt _ hlt⟩
  · refine ⟨.float .f64 (flr x), W, ?_, ⟨_, rfl, by simp only [if_neg hn]⟩, rfl, rfl, rfl, rfl⟩
    have hd : ∀ s t, FloatKind.f64.decode x ≠ .nan s t := fun s t e => hn (by rw [← isNaN_read]; show (FloatKind.f64.decode x).isNaN = true; rw [e]; rfl)
    rw [toI_num _ _ hd]; rfl
theorem lone_min {P : Program} (x y : Nat) : Lone P (Extern.MathDim.pick "math.archMin" true .lt #[.float .f64 x, .float .f64 y]) (fun u => u = .float .f64 (pickN true .lt x y)) := lone_pure fun W => rfl
theorem lone_max {P : Program} (x y : Nat) : Lone P (Extern.MathDim.pick "math.archMax" false .gt #[.float .f64 x, .float .f64 y]) (fun u => u = .float .f64 (pickN false .gt x y)) := lone_pure fun W => rfl
theorem lone_bits {P : Program} (x : Nat) : Lone P (Extern.MathFloatBits.float64bits #[.float .f64 x]) (fun u => u = .int .u64 x) := lone_pure fun W => rfl
theorem lone_from {P : Program} (x : Int) : Lone P (Extern.MathFloatBits.float64frombits #[.int .u64 x]) (fun u => u = .float .f64 x.toNat) := lone_pure fun W => rfl
theorem fr_cn {op : BinOp} {x y r : Nat} (h : FR op x y r) : cn r = far op x y := by
  unfold FR at h
  unfold far
  cases hf : floatBits op .f64 x y with
  | some s => rw [hf] at h; simp only at h; rw [h]
  | none => rw [hf] at h; simp only at h; unfold cn; rw [if_pos h.1]
end Go.Proofs.Ytidcpndlloppdaa

/-
 What the engine makes of the loaded functions e51, e55, e112, e98, e105, e107: conditions under which a call returns as told, and proofs of that.
 Conditions: none. Printed by a program of this project.
-/
set_option linter.unusedVariables false
set_option maxRecDepth 100000
namespace Go.Proofs.Ytidcpndlloppdaa
noncomputable def V51.ext : List Value → Sem Value := fun l => Extern.MathFloatBits.float64bits ⟨l⟩
theorem V51.extOk : ExtOk Try.prog 51 V51.ext := extOk_of Try.func51 (by kernel_rfl) (by kernel_rfl) (by kernel_rfl) (by kernel_rfl)
noncomputable def V55.ext : List Value → Sem Value := fun l => Extern.MathFloatBits.float64frombits ⟨l⟩
theorem V55.extOk : ExtOk Try.prog 55 V55.ext := extOk_of Try.func55 (by kernel_rfl) (by kernel_rfl) (by kernel_rfl) (by kernel_rfl)
noncomputable def V98.ext : List Value → Sem Value := fun l => Extern.MathFloor.toIntegral "math.archFloor" .down ⟨l⟩
theorem V98.extOk : ExtOk Try.prog 98 V98.ext := extOk_of Try.func98 (by kernel_rfl) (by kernel_rfl) (by kernel_rfl) (by kernel_rfl)
noncomputable def V105.ext : List Value → Sem Value := fun l => Extern.MathDim.pick "math.archMin" true .lt ⟨l⟩
theorem V105.extOk : ExtOk Try.prog 105 V105.ext := extOk_of Try.func105 (by kernel_rfl) (by kernel_rfl) (by kernel_rfl) (by kernel_rfl)
noncomputable def V107.ext : List Value → Sem Value := fun l => Extern.MathDim.pick "math.archMax" false .gt ⟨l⟩
theorem V107.extOk : ExtOk Try.prog 107 V107.ext := extOk_of Try.func107 (by kernel_rfl) (by kernel_rfl) (by kernel_rfl) (by kernel_rfl)
end Go.Proofs.Ytidcpndlloppdaa
