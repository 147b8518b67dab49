import Derived.Test.YtidcpndlloppdaaGreatDoorZEngD
import Derived.Test.YtidcpndlloppdaaGreatDoorZF6
import Derived.Laws.BytesString
import Derived.Lib.LaidTab
/-
  Rules for operations on floats, and for functions of the host's library.
  Conditions: none.
-/
set_option linter.unusedVariables false
set_option linter.unusedSimpArgs false
namespace Go.Proofs.YtidcpndlloppdaaGreatDoor
open Ieee Go.RowKit
def Lone (P : Program) (s : Sem Value) (Q : Value → Prop) : Prop := ∀ W : World, ∃ v W', s.run P W = .ok v W' ∧ Q v ∧ W'.heap = W.heap ∧ W'.os = W.os ∧ W'.tape = W.tape ∧ W'.output = W.output
theorem run_lone {P : Program} {s : Sem Value} {B : Nat} {w : World} {bs : List Nat} {K : Value → World → Prop} {Q : Value → Prop} (hB : B ≤ w.heap.size) (hs : Lone P s Q)
    (hk : ∀ v w', Ext B w w' → Q v → K v w') : RunK P s B w bs K := by
  intro w1 h1 hx
  obtain ⟨v, W', hr, hq, e1, e2, e3, e4⟩ := hs w1
  have hb : Below w1.heap.size w1 W' := ⟨e2, e3, e4, by rw [e1]; exact Nat.le_refl _, fun k _ => by rw [e1]⟩
  refine ⟨v, W', hr, ⟨by rw [e1]; exact Nat.le_refl _, fun x _ => by rw [e1]⟩, hide_any fun w' hm => hk v w' (masked h1 hx (Nat.le_trans hB h1.size) hb hm) hq⟩
theorem lone_pure {P : Program} {s : Sem Value} {v : Value} (h : ∀ W : World, s.run P W = .ok v W) : Lone P s fun u => u = v := fun W => ⟨v, W, h W, rfl, rfl, rfl, rfl, rfl⟩
def FR (op : BinOp) (x y r : Nat) : Prop := match floatBits op .f64 x y with
  | some s => r = s
  | none => nanw r = true ∧ r < 2 * SW
def IsF (Q : Nat → Prop) : Value → Prop := fun v => ∃ r, v = .float .f64 r ∧ Q r
theorem nan_cut (t : Nat) : nanw ((t % 2) * 2 ^ 63 + 0x7ff0000000000000 + 1 + (t / 2) % (2 ^ 52 - 1)) = true ∧ (t % 2) * 2 ^ 63 + 0x7ff0000000000000 + 1 + (t / 2) % (2 ^ 52 - 1) < 2 * SW := by
  have h1 : (t / 2) % (2 ^ 52 - 1) < 2 ^ 52 - 1 := Nat.mod_lt _ (by decide)
  generalize (t / 2) % (2 ^ 52 - 1) = q at *
  have h2 : t % 2 = 0 ∨ t % 2 = 1 := by omega
  unfold nanw rg SW IR
  rcases h2 with h2 | h2 <;> rw [h2] <;> constructor
  · simp only [decide_eq_true_eq]; omega
  · omega
  · simp only [decide_eq_true_eq]; omega
  · omega
theorem lone_arith {P : Program} (op : BinOp) (hop : op = .add ∨ op = .sub ∨ op = .mul ∨ op = .quo) (t : TypeId) (x y : Nat) : Lone P (Go.binOp op t (.float .f64 x) (.float .f64 y)) (IsF (FR op x y)) := by
  intro W
  cases h : floatBits op .f64 x y with
  | some r => exact ⟨_, W, run_float_arith W op t .f64 x y r h, ⟨r, rfl, by unfold FR; rw [h]⟩, rfl, rfl, rfl, rfl⟩
  | none =>
    have hr : (Go.binOp op t (.float .f64 x) (.float .f64 y)).run P W = .ok (.float .f64 ((Question.nanBits .f64 x y).cut (W.tape W.drawn (.nanBits .f64 x y)))) { W with drawn := W.drawn + 1 } := by
      unfold floatBits at h
      rcases hop with rfl | rfl | rfl | rfl <;> simp only at h <;> simp [binOp, Op.floatArith, h, choose, Sem.run, Question.forced]
    exact ⟨_, _, hr, ⟨_, rfl, by unfold FR; rw [h]; exact nan_cut _⟩, rfl, rfl, rfl, rfl⟩
theorem toI_nan (name : String) (way : Toward) {x : Nat} {s : Bool} {t : Nat} (hd : FloatKind.f64.decode x = .nan s t) : Extern.MathFloor.toIntegral name way #[.float .f64 x] = (if FloatKind.f64.format.quiet t = t then pure (.float .f64 x) else do
      let kept ← choose (.extern "math.Floor,Ceil,Trunc,RoundToEven.signallingNaN kept" 2)
      pure (.float .f64 (if kept == 1 then x else FloatKind.f64.encode (.nan s (FloatKind.f64.format.quiet t))))) := by
  have e : Extern.MathFloor.toIntegral name way #[.float .f64 x] = (match FloatKind.f64.decode x with
    | .nan s t => (if FloatKind.f64.format.quiet t = t then pure (.float .f64 x) else do
      let kept ← choose (.extern "math.Floor,Ceil,Trunc,RoundToEven.signallingNaN kept" 2)
      pure (.float .f64 (if kept == 1 then x else FloatKind.f64.encode (.nan s (FloatKind.f64.format.quiet t)))))
    | d => pure (.float .f64 (FloatKind.f64.encode (d.integral way)))) := rfl
  rw [e, hd]
theorem toI_num (name : String) (way : Toward) {x : Nat} (hd : ∀ s t, FloatKind.f64.decode x ≠ .nan s t) : Extern.MathFloor.toIntegral name way #[.float .f64 x] = pure (.float .f64 (FloatKind.f64.encode ((FloatKind.f64.decode x).integral way))) := by
  have e : Extern.MathFloor.toIntegral name way #[.float .f64 x] = (match FloatKind.f64.decode x with
    | .nan s t => (if FloatKind.f64.format.quiet t = t then pure (.float .f64 x) else do
      let kept ← choose (.extern "math.Floor,Ceil,Trunc,RoundToEven.signallingNaN kept" 2)
      pure (.float .f64 (if kept == 1 then x else FloatKind.f64.encode (.nan s (FloatKind.f64.format.quiet t)))))
    | d => pure (.float .f64 (FloatKind.f64.encode (d.integral way)))) := rfl
  rw [e]
  cases h : FloatKind.f64.decode x with
  | nan s t => exact absurd h (hd s t)
  | _ => rfl
theorem lone_floor {P : Program} (name : String) (x : Nat) (hx : x < 2 * SW) : Lone P (Extern.MathFloor.toIntegral name .down #[.float .f64 x]) (IsF fun r => if nanw x = true then nanw r = true ∧ r < 2 * SW else r = flr x) := by
  intro W
  by_cases hn : nanw x = true
  · have hr := read_nan (w := x) (by unfold nanw at hn; simpa using hn)
    by_cases hq : FloatKind.f64.format.quiet (rg x - IR) = rg x - IR
    · refine ⟨.float .f64 x, W, ?_, ⟨x, rfl, by simp only [if_pos hn]; exact ⟨hn, hx⟩⟩, rfl, rfl, rfl, rfl⟩
      have hd : FloatKind.f64.decode x = .nan (ngw x) (rg x - IR) := hr
      rw [toI_nan _ _ hd, if_pos hq]; rfl
    · have hd : FloatKind.f64.decode x = .nan (ngw x) (rg x - IR) := hr
      have he : FloatKind.f64.encode (.nan (ngw x) (FloatKind.f64.format.quiet (rg x - IR))) = double.word (ngw x) (IR + (double.quiet (rg x - IR)) % BN) := by
        show double.write _ = _
        simp only [Format.write, dbl_inf, dbl_binade]; rfl
      have hlt : IR + (double.quiet (rg x - IR)) % BN < SW := by
        have := Nat.mod_lt (double.quiet (rg x - IR)) bn_pos
        have : IR + BN = SW := by decide
        omega
      have hpos : 0 < (double.quiet (rg x - IR)) % BN := by
        have h1 : rg x - IR < 2 ^ 52 := by
          have := rg_lt x
          have : IR + 2 ^ 52 = SW := by decide
          omega
        have h2 : double.quiet (rg x - IR) < 2 ^ 52 := by
          unfold Format.quiet
          exact Nat.or_lt_two_pow h1 (by decide)
        rw [bn_pow, Nat.mod_eq_of_lt h2]
        unfold Format.quiet
        have : 2 ^ (double.fractionBits - 1) ≤ (rg x - IR) ||| 2 ^ (double.fractionBits - 1) := Nat.right_le_or
        have h3 : 0 < 2 ^ (double.fractionBits - 1) := Nat.two_pow_pos _
        omega
      have hnan : nanw (double.word (ngw x) (IR + (double.quiet (rg x - IR)) % BN)) = true := by
        unfold nanw; rw [rg_wd _ hlt]; simp; exact hpos
      generalize hk : (Question.extern "math.Floor,Ceil,Trunc,RoundToEven.signallingNaN kept" 2).cut (W.tape W.drawn (Question.extern "math.Floor,Ceil,Trunc,RoundToEven.signallingNaN kept" 2)) = kept
      refine ⟨.float .f64 (if kept == 1 then x else double.word (ngw x) (IR + (double.quiet (rg x - IR)) % BN)), { W with drawn := W.drawn + 1 }, ?_, ⟨_, rfl, ?_⟩, rfl, rfl, rfl, rfl⟩
      · rw [toI_nan _ _ hd, if_neg hq, he]
        simp [choose, Sem.run, Question.forced, hk]
      · simp only [if_pos hn]
        split
        · exact ⟨hn, hx⟩
        · exact ⟨hnan, wd_lt _ hlt⟩
  · refine ⟨.float .f64 (flr x), W, ?_, ⟨_, rfl, by simp only [if_neg hn]⟩, rfl, rfl, rfl, rfl⟩
    have hd : ∀ s t, FloatKind.f64.decode x ≠ .nan s t := fun s t e => hn (by rw [← isNaN_read]; show (FloatKind.f64.decode x).isNaN = true; rw [e]; rfl)
    rw [toI_num _ _ hd]; rfl
theorem lone_trunc {P : Program} (name : String) (x : Nat) (hn : ¬ nanw x = true) : Lone P (Extern.MathFloor.toIntegral name .zero #[.float .f64 x]) (fun u => u = .float .f64 (trc x)) := by
  refine lone_pure fun W => ?_
  have hd : ∀ s t, FloatKind.f64.decode x ≠ .nan s t := fun s t e => hn (by rw [← isNaN_read]; show (FloatKind.f64.decode x).isNaN = true; rw [e]; rfl)
  rw [toI_num _ _ hd]; rfl
theorem lone_min {P : Program} (x y : Nat) : Lone P (Extern.MathDim.pick "math.archMin" true .lt #[.float .f64 x, .float .f64 y]) (fun u => u = .float .f64 (pickN true .lt x y)) := lone_pure fun W => rfl
theorem lone_max {P : Program} (x y : Nat) : Lone P (Extern.MathDim.pick "math.archMax" false .gt #[.float .f64 x, .float .f64 y]) (fun u => u = .float .f64 (pickN false .gt x y)) := lone_pure fun W => rfl
theorem lone_bits {P : Program} (x : Nat) : Lone P (Extern.MathFloatBits.float64bits #[.float .f64 x]) (fun u => u = .int .u64 x) := lone_pure fun W => rfl
theorem lone_from {P : Program} (x : Int) : Lone P (Extern.MathFloatBits.float64frombits #[.int .u64 x]) (fun u => u = .float .f64 x.toNat) := lone_pure fun W => rfl
theorem lone_toInt {P : Program} (src dst : TypeId) (b : Nat) (n : Int) (hs : (P.underlying src).isSome = true) (hd : P.underlying dst = some (.int .i64)) (h : (double.read b).toInt .zero = some n) (h1 : -9223372036854775808 ≤ n) (h2 : n ≤ 9223372036854775807) :
    Lone P (Go.convert src dst (.float .f64 b)) (fun u => u = .int .i64 n) := by
  refine lone_pure fun W => run_convert_float_int W src dst .f64 .i64 b n hs hd ?_
  unfold floatToIntVal
  show (match (double.read b).toInt .zero with | some n => _ | none => _) = _
  rw [h]
  have h3 : IntKind.i64.min = -9223372036854775808 := rfl
  have h4 : IntKind.i64.max = 9223372036854775807 := rfl
  simp only [h3, h4]
  rw [if_pos ⟨h1, h2⟩]
theorem fr_cn {op : BinOp} {x y r : Nat} (h : FR op x y r) : cn r = far op x y := by
  unfold FR at h
  unfold far
  cases hf : floatBits op .f64 x y with
  | some s => rw [hf] at h; simp only at h; rw [h]
  | none => rw [hf] at h; simp only at h; unfold cn; rw [if_pos h.1]
end Go.Proofs.YtidcpndlloppdaaGreatDoor

/-
  Rules for strings made of bytes, and for tables of the program.
  Conditions: none.
-/
set_option linter.unusedVariables false
set_option linter.unusedSimpArgs false
namespace Go.Proofs.YtidcpndlloppdaaGreatDoor
open Go.RowKit
def byts (l : List UInt8) : List Value := l.map fun b => Value.int .u8 (b.toNat : Nat)
theorem load_bytes {P : Program} {W : World} {a : Addr} : ∀ (l : List UInt8) (i : Nat) (acc : Array Value), (∀ j b, l[j]? = some b → W.cell? (a.add (i + j)) = some (.int .u8 (b.toNat : Nat))) →
    (loadCellsFrom a i l.length acc).run P W = .ok (acc ++ (byts l).toArray) W
  | [], i, acc, h => by simp [loadCellsFrom, byts, pure, Sem.run]
  | b :: l, i, acc, h => by
    have h0 := h 0 b rfl
    rw [Nat.add_zero] at h0
    have ih := load_bytes (P := P) (W := W) (a := a) l (i + 1) (acc.push (.int .u8 (b.toNat : Nat))) (fun j c hj => by
      have := h (j + 1) c (by simpa using hj)
      rw [show i + 1 + j = i + (j + 1) by omega]; exact this)
    have e : acc ++ (byts (b :: l)).toArray = acc.push (.int .u8 (b.toNat : Nat)) ++ (byts l).toArray := by
      apply Array.toList_inj.1; simp [byts]
    rw [e, ← ih]
    simp only [List.length_cons, loadCellsFrom, load, bind, Sem.bind, Sem.run, h0]
theorem fold_push (l : List UInt8) : ∀ s : ByteArray, (l.map fun b => ((b.toNat : Nat) : Int)).foldl (fun r n => r.push (UInt8.ofNat n.toNat)) s = ⟨s.data ++ l.toArray⟩ := by
  induction l with
  | nil => intro s; cases s; simp
  | cons b l ih =>
    intro s
    simp only [List.map_cons, List.foldl_cons]
    rw [ih]
    congr 1
    cases s
    apply Array.toList_inj.1
    simp [ByteArray.push]
theorem conv_str {P : Program} {B : Nat} {w : World} {bs : List Nat} {src dst e : TypeId} {K : Value → World → Prop} (hs : P.underlying src = some (.slice e)) (he : P.underlying e = some (.int .u8)) (hd : P.underlying dst = some .string)
    (hB : B ≤ w.heap.size) {p : Addr} {l c : Nat} {ns : List UInt8} (hl : ns.length = l) (hc : ∀ j b, ns[j]? = some b → w.cell? (p.add j) = some (.int .u8 (b.toNat : Nat)))
    (hk : ∀ w', Ext B w w' → K (.string ⟨ns.toArray⟩) w') : RunK P (Go.convert src dst (.slice (some p) l c)) B w bs K := by
  intro w1 h1 hx
  have hr : (Go.convert src dst (.slice (some p) l c)).run P w1 = .ok (.string ⟨ns.toArray⟩) w1 := by
    rw [run_convert_bytes_string w1 src dst e (some p) l c hs he hd]
    rw [run_bytesToString w1 p l c (ns.map fun b => ((b.toNat : Nat) : Int)) ?_]
    · rw [fold_push]; simp [ByteArray.empty, ByteArray.emptyWithCapacity]; rfl
    · have := load_bytes (P := P) (W := w1) (a := p) ns 0 #[] (fun j b hj => by rw [Nat.zero_add]; exact h1.cell (hc j b hj))
      rw [hl] at this
      unfold loadCells
      rw [this]
      congr 1
      apply Array.toList_inj.1
      simp [byts]
  refine ⟨_, w1, hr, ⟨Nat.le_refl _, fun x _ => rfl⟩, hide_any fun w' hm => hk w' (masked h1 hx (Nat.le_trans hB h1.size) (Below.refl _ _) hm)⟩
theorem tab_on {P : Program} {B : Nat} {w w' : World} {name : String} {k : IntKind} {zs : List Int} (h : Lib.TabIs P w name k zs) (hB : w.heap.size ≤ B) (hb : Below B w w') : Lib.TabIs P w' name k zs := by
  unfold Lib.TabIs World.var? at *
  cases hg : P.globalNamed name with
  | none => rw [hg] at h; simp at h
  | some g =>
    rw [hg] at h
    simp only [Option.bind_some] at h ⊢
    have hlt : g < w.heap.size := by
      rcases Nat.lt_or_ge g w.heap.size with h' | h'
      · exact h'
      · simp [Array.getElem?_eq_none h'] at h
    rw [hb.block g (Nat.lt_of_lt_of_le hlt hB)]; exact h
def bstr (l : List UInt8) : ByteArray := ⟨l.toArray⟩
theorem ba_app (l m : List UInt8) : (bstr l ++ bstr m : ByteArray) = bstr (l ++ m) := by
  apply ByteArray.ext
  rw [ByteArray.data_append]
  simp [bstr]
theorem bstr_size (l : List UInt8) : (bstr l).size = l.length := by simp [bstr, ByteArray.size]
end Go.Proofs.YtidcpndlloppdaaGreatDoor
