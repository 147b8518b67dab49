/-
  Rules for strings made of bytes, and for tables of the program.
  Conditions: none.
-/
import Derived.Test.YtofblkmibghmbaaDoorZEngD
import Derived.Test.YtofblkmibghmbaaDoorZEngF
import Derived.Laws.BytesString
import Derived.Lib.LaidTab
set_option linter.unusedVariables false
set_option linter.unusedSimpArgs false
namespace Go.Proofs.YtofblkmibghmbaaDoor
open Go.RowKit
def byts (l : List UInt8) : List Value := l.map fun b => Value.int .u8 (b.toNat : Nat)
theorem load_bytes {P : Program} {W : World} {a : Addr} : ∀ (l : List UInt8) (i : Nat) (acc : Array Value), (∀ j b, l[j]? = some b → W.cell? (a.add (i + j)) = some (.int .u8 (b.toNat : Nat))) →
    (loadCellsFrom a i l.length acc).run P W = .ok (acc ++ (byts l).toArray) W
  | [], i, acc, h => by simp [loadCellsFrom, byts, pure, Sem.run]
  | b :: l, i, acc, h => by
    have h0 := h 0 b rfl
    rw [Nat.add_zero] at h0
    have ih := load_bytes (P := P) (W := W) (a := a) l (i + 1) (acc.push (.int .u8 (b.toNat : Nat))) (fun j c hj => by
      have := h (j + 1) c (by simpa using hj)
      rw [show i + 1 + j = i + (j + 1) by omega]; exact this)
    have e : acc ++ (byts (b :: l)).toArray = acc.push (.int .u8 (b.toNat : Nat)) ++ (byts l).toArray := by
      apply Array.toList_inj.1; simp [byts]
    rw [e, ← ih]
    simp only [List.length_cons, loadCellsFrom, load, bind, Sem.bind, Sem.run, h0]
theorem fold_push (l : List UInt8) : ∀ s : ByteArray, (l.map fun b => ((b.toNat : Nat) : Int)).foldl (fun r n => r.push (UInt8.ofNat n.toNat)) s = ⟨s.data ++ l.toArray⟩ := by
  induction l with
  | nil => intro s; cases s; simp
  | cons b l ih =>
    intro s
    simp only [List.map_cons, List.foldl_cons]
    rw [ih]
    congr 1
    cases s
    apply Array.toList_inj.1
    simp [ByteArray.push]
theorem conv_str {P : Program} {B : Nat} {w : World} {bs : List Nat} {src dst e : TypeId} {K : Value → World → Prop} (hs : P.underlying src = some (.slice e)) (he : P.underlying e = some (.int .u8)) (hd : P.underlying dst = some .string)
    (hB : B ≤ w.heap.size) {p : Addr} {l c : Nat} {ns : List UInt8} (hl : ns.length = l) (hc : ∀ j b, ns[j]? = some b → w.cell? (p.add j) = some (.int .u8 (b.toNat : Nat)))
    (hk : ∀ w', Ext B w w' → K (.string ⟨ns.toArray⟩) w') : RunK P (Go.convert src dst (.slice (some p) l c)) B w bs K := by
  intro w1 h1 hx
  have hr : (Go.convert src dst (.slice (some p) l c)).run P w1 = .ok (.string ⟨ns.toArray⟩) w1 := by
    rw [run_convert_bytes_string w1 src dst e (some p) l c hs he hd]
    rw [run_bytesToString w1 p l c (ns.map fun b => ((b.toNat : Nat) : Int)) ?_]
    · rw [fold_push]; simp [ByteArray.empty, ByteArray.emptyWithCapacity]; rfl
    · have := load_bytes (P := P) (W := w1) (a := p) ns 0 #[] (fun j b hj => by rw [Nat.zero_add]; exact h1.cell (hc j b hj))
      rw [hl] at this
      unfold loadCells
      rw [this]
      congr 1
      apply Array.toList_inj.1
      simp [byts]
  refine ⟨_, w1, hr, ⟨Nat.le_refl _, fun x _ => rfl⟩, hide_any fun w' hm => hk w' (masked h1 hx (Nat.le_trans hB h1.size) (Below.refl _ _) hm)⟩
theorem tab_on {P : Program} {B : Nat} {w w' : World} {name : String} {k : IntKind} {zs : List Int} (h : Lib.TabIs P w name k zs) (hB : w.heap.size ≤ B) (hb : Below B w w') : Lib.TabIs P w' name k zs := by
  unfold Lib.TabIs World.var? at *
  cases hg : P.globalNamed name with
  | none => rw [hg] at h; simp at h
  | some g =>
    rw [hg] at h
    simp only [Option.bind_some] at h ⊢
    have hlt : g < w.heap.size := by
      rcases Nat.lt_or_ge g w.heap.size with h' | h'
      · exact h'
      · simp [Array.getElem?_eq_none h'] at h
    rw [hb.block g (Nat.lt_of_lt_of_le hlt hB)]; exact h
def bstr (l : List UInt8) : ByteArray := ⟨l.toArray⟩
theorem ba_app (l m : List UInt8) : (bstr l ++ bstr m : ByteArray) = bstr (l ++ m) := by
  apply ByteArray.ext
  rw [ByteArray.data_append]
  simp [bstr]
theorem bstr_size (l : List UInt8) : (bstr l).size = l.length := by simp [bstr, ByteArray.size]
end Go.Proofs.YtofblkmibghmbaaDoor
