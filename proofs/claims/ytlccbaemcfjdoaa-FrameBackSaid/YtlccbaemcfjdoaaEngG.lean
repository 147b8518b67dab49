/-
  Nothing of the program stands here: rules for calls that write to one row; memory that lies elsewhere; appends of rows.
  Conditions: none.
-/
import Derived.Test.YtlccbaemcfjdoaaEngF
set_option linter.unusedVariables false
set_option linter.unusedSimpArgs false
namespace Go.Proofs.Ytlccbaemcfjdoaa
open Go.RowKit

/-! ### 24. Calls that write to one row -/
theorem adr_add (a : Addr) (m n : Nat) : (a.add m).add n = a.add (m + n) := by
  unfold Addr.add
  by_cases hm : m = 0 <;> by_cases hn : n = 0 <;> simp [hm, hn, Nat.add_assoc]
/-- A call that returns v and leaves these numbers in block g, and all other blocks as they were. -/
def Puts (P : Program) (f : Nat) (args : List Value) (w : World) (g : Nat) (v : Value) (k : IntKind) (e : TypeId) (xs : List Int) : Prop :=
  Turns P f args w (fun b => b = g) fun u w' => u = v ∧ OwnI w' g k e xs
def IsP (w0 : World) (g : Nat) (v : Value) (k : IntKind) (e : TypeId) (xs : List Int) : Value → World → Prop := IsT w0 (fun b => b = g) fun u w' => u = v ∧ OwnI w' g k e xs
theorem puts_of {P : Program} {f : Nat} {args : List Value} {w : World} {g : Nat} {v : Value} {k : IntKind} {e : TypeId} {xs : List Int} (h : Calls P f ⟨args⟩ w fun e' w' => ∃ u, e' = .returned u ∧ IsP w g v k e xs u w') : Puts P f args w g v k e xs := turns_of h
theorem ret_p {w0 w : World} {g : Nat} {u v : Value} {k : IntKind} {e : TypeId} {xs : List Int} (h : Chg (fun b => b = g) w0 w) (hu : u = v) (ho : OwnI w g k e xs) : Ret w0.heap.size w (IsP w0 g v k e xs u) := ret_t h fun w1 he => ⟨hu, ho.ext he⟩
/-- The rule for calls that write, with what is left told by ExtS. -/
theorem call_turnsS {P : Program} {f : Nat} {args : List Value} {B : Nat} {w : World} {bs : List Nat} {S : Nat → Prop} {Q : World → Value → World → Prop} {K : Value → World → Prop} (hB : B ≤ w.heap.size)
    (hS : ∀ k, S k → ∃ c t f, w.heap[k]? = some (Obj.cells c t f)) (hc : ∀ w1, Ext B w w1 → Turns P f args w1 S (Q w1))
    (hk : ∀ w1 v w2 w', w.heap.size ≤ w1.heap.size → Q w1 v w2 → (∀ k, S k ∨ w1.heap.size ≤ k → w'.heap[k]? = w2.heap[k]?) → ExtS B S w w' → K v w') : CallK P f args B w bs K := by
  refine call_turns hB hS hc fun w1 v w2 w' hs he hch hQ hSS hnew hrow hlow hos ht ho hsz => ?_
  exact hk w1 v w2 w' hs hQ (fun k h => h.elim (hSS k) (hnew k)) ⟨hos, ht, ho, Nat.le_trans hs hsz, hrow, hlow⟩
theorem call_puts {P : Program} {f : Nat} {args : List Value} {B : Nat} {w : World} {bs : List Nat} {g : Nat} {v : Value} {k : IntKind} {e : TypeId} {xs xs' : List Int} {K : Value → World → Prop} (hB : B ≤ w.heap.size) (ho : OwnI w g k e xs)
    (hc : ∀ w1, Ext B w w1 → Puts P f args w1 g v k e xs') (hk : ∀ w', ExtS B (fun b => b = g) w w' → OwnI w' g k e xs' → K v w') : CallK P f args B w bs K := by
  refine call_turnsS (S := fun b => b = g) (Q := fun w1 u w' => u = v ∧ OwnI w' g k e xs') hB (fun j hj => by subst hj; exact ⟨_, _, _, ho⟩) hc fun w1 u w2 w' hs hQ hsame he => ?_
  obtain ⟨rfl, ho2⟩ := hQ
  refine hk w' he ?_
  unfold OwnI
  rw [hsame g (.inl rfl)]
  exact ho2
theorem ExtS.chgS {g : Nat} {w0 w w1 : World} (h : ExtS w0.heap.size (fun b => b = g) w w1) (h0 : Chg (fun b => b = g) w0 w) : Chg (fun b => b = g) w0 w1 := h.chg h0 fun _ _ e => e

/-- Calls that leave what there was, told by Ext alone. -/
theorem call_yieldsX {P : Program} {f : Nat} {args : List Value} {B : Nat} {w : World} {bs : List Nat} {Q : World → Value → World → Prop} {K : Value → World → Prop} (hB : B ≤ w.heap.size)
    (hc : ∀ w1, Ext B w w1 → Yields P f args w1 (Q w1)) (hk : ∀ w1 v w2 w', w.heap.size ≤ w1.heap.size → Q w1 v w2 → (∀ k, w1.heap.size ≤ k → w'.heap[k]? = w2.heap[k]?) → Ext B w w' → K v w') : CallK P f args B w bs K := by
  refine call_turnsS (S := fun _ => False) (Q := Q) hB (fun k h => h.elim) (fun w1 e1 => ?_) fun w1 v w2 w' hs hQ hsame he => hk w1 v w2 w' hs hQ (fun k h => hsame k (.inr h)) he.none
  exact Calls.mono (hc w1 e1) fun e w' ⟨v, he, hq, hb⟩ => ⟨v, he, hq, hb.os, hb.tape, hb.output, hb.size, fun k hk _ => hb.block k hk⟩
theorem call_givesX {P : Program} {f : Nat} {args : List Value} {B : Nat} {w : World} {bs : List Nat} {v : Value} {K : Value → World → Prop} (hB : B ≤ w.heap.size)
    (hc : ∀ w1, Ext B w w1 → Gives P f args w1 v) (hk : ∀ w', Ext B w w' → K v w') : CallK P f args B w bs K :=
  call_yieldsX (Q := fun _ u _ => u = v) hB (fun w1 e1 => Calls.mono (hc w1 e1) fun e w' ⟨he, hb⟩ => ⟨v, he, rfl, hb⟩) fun w1 u w2 w' _ hQ _ he => by subst hQ; exact hk w' he

/-! ### 25. Memory but for one block -/
/-- The world without block g. -/
def off (g : Nat) (w : World) : World := mask1 w g
theorem off_cell {g : Nat} {w : World} {q : Addr} {v : Value} : (off g w).cell? q = some v ↔ w.cell? q = some v ∧ q.block ≠ g := by
  unfold off
  by_cases h : q.block = g
  · constructor
    · intro hc
      obtain ⟨c, t, f, hb⟩ := cell_block hc
      rw [h] at hb
      exact absurd hb (mask1_nc w g c t f)
    · intro hc; exact absurd h hc.2
  · rw [cell_same (w := w) (w' := mask1 w g) (by exact mask1_ne w h)]
    exact ⟨fun hc => ⟨hc, h⟩, fun hc => hc.1⟩
theorem off_in {g : Nat} {w : World} : ∀ q v, (off g w).cell? q = some v → w.cell? q = some v := fun q v h => (off_cell.1 h).1
theorem chg_off {g : Nat} {w w' : World} (h : Chg (fun b => b = g) w w') : ∀ q v, (off g w).cell? q = some v → (off g w').cell? q = some v := fun q v hq => by
  obtain ⟨h1, h2⟩ := off_cell.1 hq
  exact off_cell.2 ⟨h.cell h1 h2, h2⟩
theorem extS_off {B g : Nat} {w w' : World} (h : ExtS B (fun b => b = g) w w') : ∀ q v, (off g w).cell? q = some v → (off g w').cell? q = some v := fun q v hq => by
  obtain ⟨h1, h2⟩ := off_cell.1 hq
  exact off_cell.2 ⟨h.cell h1 h2, h2⟩
theorem ext_off {B g : Nat} {w w' : World} (h : Ext B w w') : ∀ q v, (off g w).cell? q = some v → (off g w').cell? q = some v := fun q v hq => by
  obtain ⟨h1, h2⟩ := off_cell.1 hq
  exact off_cell.2 ⟨h.cell h1, h2⟩
theorem off_old {g : Nat} {w w' : World} (hg : w.heap.size ≤ g) (h : ∀ q v, w.cell? q = some v → w'.cell? q = some v) : ∀ q v, w.cell? q = some v → (off g w').cell? q = some v := fun q v hq =>
  off_cell.2 ⟨h q v hq, by have := cell_lt hq; omega⟩

/-! ### 25b. New memory -/
/-- The world without the blocks below B. -/
def newW (B : Nat) (w : World) : World := mask w (List.range B)
theorem newW_cell {B : Nat} {w : World} {q : Addr} {v : Value} : (newW B w).cell? q = some v ↔ w.cell? q = some v ∧ B ≤ q.block := by
  have hm := mask_msk (List.range B) w
  by_cases h : B ≤ q.block
  · have : (newW B w).cell? q = w.cell? q := cell_same (hm.block q.block (fun hk => by have := List.mem_range.1 hk; omega))
    rw [this]
    exact ⟨fun hc => ⟨hc, h⟩, fun hc => hc.1⟩
  · constructor
    · intro hc
      obtain ⟨c, t, f, hb⟩ := cell_block hc
      exact absurd hb (hm.hid q.block (List.mem_range.2 (by omega)) c t f)
    · intro hc; exact absurd hc.2 h
theorem newW_in {B : Nat} {w : World} : ∀ q v, (newW B w).cell? q = some v → w.cell? q = some v := fun q v h => (newW_cell.1 h).1
theorem newW_same {B : Nat} {w w' : World} (h : ∀ k, B ≤ k → w'.heap[k]? = w.heap[k]?) : ∀ q v, (newW B w).cell? q = some v → (newW B w').cell? q = some v := fun q v hq => by
  obtain ⟨h1, h2⟩ := newW_cell.1 hq
  exact newW_cell.2 ⟨(cell_same (h q.block h2)).trans h1, h2⟩
theorem newW_keep {B B' : Nat} {w w' : World} (hB : B' ≤ B) (h : ∀ q v, w.cell? q = some v → w'.cell? q = some v) : ∀ q v, (newW B w).cell? q = some v → (newW B' w').cell? q = some v := fun q v hq => by
  obtain ⟨h1, h2⟩ := newW_cell.1 hq
  exact newW_cell.2 ⟨h q v h1, Nat.le_trans hB h2⟩
theorem newW_off {B g : Nat} {w : World} (hg : g < B) : ∀ q v, (newW B w).cell? q = some v → (off g w).cell? q = some v := fun q v hq => by
  obtain ⟨h1, h2⟩ := newW_cell.1 hq
  exact off_cell.2 ⟨h1, by omega⟩

theorem newW_heap {B : Nat} {w : World} {k : Nat} (h : B ≤ k) : (newW B w).heap[k]? = w.heap[k]? := (mask_msk (List.range B) w).block k (fun hk => by have := List.mem_range.1 hk; omega)

/-! ### 26. New rows of numbers -/
/-- A new row of these numbers. -/
def FreshK (k : IntKind) (xs : List Int) (w1 : World) : Value → World → Prop := fun v w2 => ∃ A l c, v = .slice A l c ∧ Nums k w2 A l xs ∧ ∀ p, A = some p → w1.heap.size ≤ p.block
theorem owns_empty {w : World} {B g size : Nat} {e : TypeId} (hg : w.heap[g]? = some (.cells ⟨[]⟩ e (0, 0))) (hb : B ≤ g) : w.ownsRow B e size (.slice (some ⟨g, 0, none⟩) 0 0) 0 [] :=
  ⟨by simp, .inr ⟨g, 0, ⟨[]⟩, rfl, hb, hg, Nat.le_refl _, Nat.zero_le _, by simp, by simp⟩⟩
theorem alloc1 {B : Nat} {w w1 : World} (o : Obj) (h1 : Ext B w w1) (hB : B ≤ w.heap.size) : Ext B w (w1.alloc o) ∧ (w1.alloc o).heap[w1.heap.size]? = some o :=
  ⟨h1.alloc hB o, alloc_new w1 o⟩
theorem owns_slice0 {w : World} {B : Nat} {e : TypeId} {size : Nat} {v : Value} {n : Nat} {xs : List Value} (h : w.ownsRow B e size v n xs) : ∃ A c, v = .slice A n c := by
  rcases h.2 with ⟨rfl, rfl⟩ | ⟨g, cap, cur, rfl, _⟩
  · exact ⟨none, 0, rfl⟩
  · exact ⟨_, cap, rfl⟩
/-- What all cells of w are, they are in w', but for a block that has none. -/
theorem exts_keeps {B g : Nat} {w w' : World} {v : Value} {t : TypeId} {f : Nat × Nat} (h : ExtS B (fun k => v.ownBlock = some k) w w') (hv : v.ownBlock = some g) (hg : w.heap[g]? = some (.cells ⟨[]⟩ t f)) : ∀ q u, w.cell? q = some u → w'.cell? q = some u := fun q u hq => by
  refine h.cell hq fun e => ?_
  rw [hv] at e
  cases e
  obtain ⟨_, _, _, hb⟩ := cell_block hq
  rw [hg] at hb
  cases hb
  simp [World.cell?, hg] at hq
theorem exts_own {B g : Nat} {w w' : World} {v : Value} {t : TypeId} {f : Nat × Nat} (h : ExtS B (fun k => v.ownBlock = some k) w w') (hv : v.ownBlock = some g) (hg : w.heap[g]? = some (.cells ⟨[]⟩ t f)) {k j : Nat} {c : Array Value} {t' : TypeId} {f' : Nat × Nat} (hk : w.heap[j]? = some (.cells c t' f')) (hc : c ≠ ⟨[]⟩) : w'.heap[j]? = some (.cells c t' f') := by
  refine h.row _ _ _ _ (fun e => ?_) hk
  rw [hv] at e
  cases e
  rw [hg] at hk
  cases hk
  exact hc rfl
theorem nums_cells {k : IntKind} {w : World} {a : Addr} {l : Nat} {xs : List Int} (h : Nums k w (some a) l xs) (j : Nat) (u : Value) (hj : (xs.map (.int k))[j]? = some u) : w.cell? (a.add j) = some u := by
  rw [List.getElem?_map] at hj
  obtain ⟨n, hn, rfl⟩ := Option.map_eq_some_iff.1 hj
  obtain ⟨p, hp, he⟩ := h.get j n hn
  cases hp
  simpa [NumE] using he
/-- The numbers of a row appended to a row of one's own. -/
theorem append_nums {P : Program} {B b0 : Nat} {w : World} {bs : List Nat} {t ty e : TypeId} {i : TypeInfo} {k : IntKind} {bytes : Nat} {K : Value → World → Prop} (ht : P.underlying t = some (.slice e)) (hi : P.info? e = some i) (hz : i.zero = some (.int k 0))
    (hsize : i.size = 1) (hby : i.bytes = bytes) (hb8 : bytes ≤ 8) {v : Value} {n : Nat} {xs : List Int} (hown : w.ownsRow b0 e 1 v n (xs.map (.int k)))
    {a : Addr} {m c : Nat} {ys : List Int} (hy : Nums k w (some a) m ys) (hnm : n + m ≤ 17592186044416) (hB : B ≤ w.heap.size) (hb0 : b0 ≤ w.heap.size)
    (hk : ∀ v' w', ExtS B (fun k => v.ownBlock = some k) w w' → w'.ownsRow b0 e 1 v' (n + m) ((xs ++ ys).map (.int k)) → (∀ g, v'.ownBlock = some g → v.ownBlock = some g ∨ w.heap.size ≤ g) → K v' w') :
    RunK P (Builtin.append_ #[t, t] ty ⟨[v, .slice (some a) m c]⟩) B w bs K := by
  refine append_own (z := .int k 0) (size := 1) (bytes := bytes) ht hi hz hsize hby rfl (by omega) hown (news := ys.map (.int k)) (by simp [hy.len]) (nums_cells hy) (fun u hu => ?_) (by simp only [maxLen]; omega) ?_ hB hb0 fun v' w' he ho hn => ?_
  · obtain ⟨x, _, rfl⟩ := List.mem_map.1 hu; rfl
  · exact Nat.le_trans (Nat.mul_le_mul_left _ hb8) (by omega)
  · rw [← List.map_append] at ho
    exact hk v' w' he ho hn
/-- Bytes lie in memory. -/
structure BytesAt (w : World) (A : Option Addr) (l c : Nat) (ns : List Int) : Prop where
  nums : Nums .u8 w A l ns
  byte : ∀ n ∈ ns, 0 ≤ n ∧ n < 256
  cap : l ≤ c
theorem BytesAt.keep {w w' : World} {A : Option Addr} {l c : Nat} {ns : List Int} (h : BytesAt w A l c ns) (hw : ∀ q v, w.cell? q = some v → w'.cell? q = some v) : BytesAt w' A l c ns := ⟨RowAt.keep (NumE.kept _) h.nums hw, h.byte, h.cap⟩
end Go.Proofs.Ytlccbaemcfjdoaa
