import Derived.Test.YtofblkmibghmbaaDoorZEngD
import Derived.Test.YtofblkmibghmbaaDoorZF6
import Derived.Laws.BytesString
import Derived.Lib.LaidTab
/-
  Rules for operations on floats, and for functions of the host's library.
  Conditions: none.
-/
set_option linter.unusedVariables false
set_option linter.unusedSimpArgs false
namespace Go.Proofs.YtofblkmibghmbaaDoor
open Ieee Go.RowKit
def Lone (P : Program) (s : Sem Value) (Q : Value → Prop) : Prop := ∀ W : World, ∃ v W', s.run P W = .ok v W' ∧ Q v ∧ W'.heap = W.heap ∧ W'.os = W.os ∧ W'.tape = W.tape ∧ W'.output = W.output
theorem run_lone {P : Program} {s : Sem Value} {B : Nat} {w : World} {bs : List Nat} {K : Value → World → Prop} {Q : Value → Prop} (hB : B ≤ w.heap.size) (hs : Lone P s Q)
    (hk : ∀ v w', Ext B w w' → Q v → K v w') : RunK P s B w bs K := by
  intro w1 h1 hx
  obtain ⟨v, W', hr, hq, e1, e2, e3, e4⟩ := hs w1
  have hb : Below w1.heap.size w1 W' := ⟨e2, e3, e4, by rw [e1]; exact Nat.le_refl _, fun k _ => by rw [e1]⟩
  refine ⟨v, W', hr, ⟨by rw [e1]; exact Nat.le_refl _, fun x _ => by rw [e1]⟩, hide_any fun w' hm => hk v w' (masked h1 hx (Nat.le_trans hB h1.size) hb hm) hq⟩
theorem lone_pure {P : Program} {s : Sem Value} {v : Value} (h : ∀ W : World, s.run P W = .ok v W) : Lone P s fun u => u = v := fun W => ⟨v, W, h W, rfl, rfl, rfl, rfl, rfl⟩
theorem lone_bits {P : Program} (x : Nat) : Lone P (Extern.MathFloatBits.float64bits #[.float .f64 x]) (fun u => u = .int .u64 x) := lone_pure fun W => rfl
theorem lone_from {P : Program} (x : Int) : Lone P (Extern.MathFloatBits.float64frombits #[.int .u64 x]) (fun u => u = .float .f64 x.toNat) := lone_pure fun W => rfl
end Go.Proofs.YtofblkmibghmbaaDoor

/-
  Rules for strings made of bytes, and for tables of the program.
  Conditions: none.
-/
set_option linter.unusedVariables false
set_option linter.unusedSimpArgs false
namespace Go.Proofs.YtofblkmibghmbaaDoor
open Go.RowKit
theorem tab_on {P : Program} {B : Nat} {w w' : World} {name : String} {k : IntKind} {zs : List Int} (h : Lib.TabIs P w name k zs) (hB : w.heap.size ≤ B) (hb : Below B w w') : Lib.TabIs P w' name k zs := by
  unfold Lib.TabIs World.var? at *
  cases hg : P.globalNamed name with
  | none => rw [hg] at h; simp at h
  | some g =>
    rw [hg] at h
    simp only [Option.bind_some] at h ⊢
    have hlt : g < w.heap.size := by
      rcases Nat.lt_or_ge g w.heap.size with h' | h'
      · exact h'
      · simp [Array.getElem?_eq_none h'] at h
    rw [hb.block g (Nat.lt_of_lt_of_le hlt hB)]; exact h
def bstr (l : List UInt8) : ByteArray := ⟨l.toArray⟩
theorem ba_app (l m : List UInt8) : (bstr l ++ bstr m : ByteArray) = bstr (l ++ m) := by
  apply ByteArray.ext
  rw [ByteArray.data_append]
  simp [bstr]
theorem bstr_size (l : List UInt8) : (bstr l).size = l.length := by simp [bstr, ByteArray.size]
end Go.Proofs.YtofblkmibghmbaaDoor
