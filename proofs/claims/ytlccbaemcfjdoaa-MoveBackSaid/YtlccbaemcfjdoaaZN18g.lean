/-
  Layer 18: the law's function FrameReads returns true.
  Conditions: the numbers, and the words, lie in memory as told.
-/
import Derived.Test.YtlccbaemcfjdoaaZN18e
import Derived.Test.YtlccbaemcfjdoaaZW13
import Derived.Laws.CopyRow
import Derived.Laws.IdiomCopy
set_option linter.unusedVariables false
set_option linter.unusedSimpArgs false
namespace Go.Proofs.Ytlccbaemcfjdoaa
open Go.RowKit
theorem copy_nums {P : Program} {B : Nat} {w : World} {bs : List Nat} {t ty e : TypeId} {k : IntKind} {K : Value → World → Prop} (ht : P.underlying t = some (.slice e)) (hs : (P.info? e).map (·.size) = some 1) {g n c : Nat} {zs : List Int} (ho : OwnI w g k e zs) (hz : zs.length = n)
    {A : Option Addr} {l c' : Nat} {xs : List Int} (hx : Nums k w A l xs) (hB : B ≤ w.heap.size)
    (hk : ∀ w', ExtS B (fun j => j = g) w w' → OwnI w' g k e (xs.take n ++ zs.drop l) → K (.int .i64 ((min l n : Nat) : Int)) w') :
    RunK P (Builtin.copy_ #[t, t] ty ⟨[.slice (some ⟨g, 0, none⟩) n c, .slice A l c']⟩) B w bs K := by
  intro w1 he hxx
  have hB1 : B ≤ w1.heap.size := Nat.le_trans hB he.size
  have ho1 := ho.ext he
  have hgb : g ∉ bs := fun h => (hxx g h).2.1 _ _ _ ho
  have hlx := hx.len
  by_cases hmin : Nat.min l n = 0
  · have hr := run_copy_none (P := P) w1 t t ty e (some ⟨g, 0, none⟩) A n c l c' ht hs hmin
    refine ⟨_, w1, hr, ⟨Nat.le_refl _, fun _ _ => rfl⟩, hide_any fun w' hm => ?_⟩
    have h1 := masked he hxx hB1 (Below.refl _ _) hm
    have hmin' : min l n = 0 := hmin
    have := hk w' h1.toS (by
      have h2 := ho.ext h1
      by_cases h0 : l = 0
      · have : xs = [] := List.eq_nil_of_length_eq_zero (by omega)
        subst this
        rw [h0]; simpa using h2
      · have hn : n = 0 := by omega
        have : zs = [] := List.eq_nil_of_length_eq_zero (by omega)
        subst this
        rw [hn]; simpa using h2)
    rw [hmin'] at this
    exact this
  · have hmin' : ¬ min l n = 0 := hmin
    obtain ⟨x0, a, _, ha, _⟩ := Nums.at hx (i := 0) (by omega)
    subst ha
    have hcs : ((xs.take n).map (Value.int k)).length = Nat.min l n := by
      show _ = min l n
      simp [hlx]; omega
    have hcell := nums_cells (RowAt.keep (NumE.kept _) hx (ext_keeps he))
    have hr := run_copy_row (P := P) w1 t t ty e g 0 n c a l c' (zs.map (Value.int k)).toArray e ((xs.take n).map (.int k)) ht hs (show w1.heap[g]? = some (.cells (zs.map (.int k)).toArray e (0, 0)) from ho1) hcs (fun j v hj => hcell j v (by
        rw [List.map_take, List.getElem?_take] at hj
        split at hj
        · exact hj
        · cases hj)) (by simp [hlx, hz]; omega) (fun v hv => by obtain ⟨x, _, rfl⟩ := List.mem_map.1 hv; rfl)
    have hgrow : w1.grownBy (w1.setRow g (((zs.map (Value.int k)).toArray).toList.take 0 ++ (xs.take n).map (Value.int k) ++ ((zs.map (Value.int k)).toArray).toList.drop (0 + ((xs.take n).map (Value.int k)).length)).toArray) (some g) := ⟨rfl, rfl, rfl, by simp [World.setRow], fun j _ hj => setRow_other w1 g j _ (fun e => hj (by simp [e]))⟩
    refine ⟨_, _, hr, ⟨hgrow.size, fun x hxb => hgrow.block x (hxx x hxb).1 (fun e => hgb (by cases e; exact hxb))⟩, hide_any fun w' hm => ?_⟩
    have hrow := hk w' (maskedS he hxx hgrow (fun j hj => by cases hj; rfl) hm hB1) (by
      unfold OwnI
      rw [hm.block g hgb, setRow_heap w1 g _ _ e (0, 0) ho1]
      congr 2
      simp only [List.take_zero, List.nil_append, List.toList_toArray, Nat.zero_add]
      rw [hcs, ← List.map_drop, ← List.map_append]
      congr 3
      by_cases hln : l ≤ n
      · rw [show Nat.min l n = l from Nat.min_eq_left hln]
      · rw [show Nat.min l n = n from Nat.min_eq_right (by omega), List.drop_of_length_le (by omega), List.drop_of_length_le (by omega)])
    rw [hcs] at *
    exact hrow
theorem owns_of {w : World} {B g n : Nat} {k : IntKind} {e : TypeId} {xs : List Int} (h : OwnI w g k e xs) (hl : xs.length = n) (hb : B ≤ g) (hn : n ≤ maxLen) : w.ownsRow B e 1 (.slice (some ⟨g, 0, none⟩) n n) n (xs.map (.int k)) :=
  ⟨by simp [hl], .inr ⟨g, n, _, rfl, hb, h, Nat.le_refl _, hn, by simp [hl], by rw [List.take_of_length_le]; simp [hl]⟩⟩
section
variable {w0 : World} {p : List Fnc} {P : Option Addr} {cap : Nat}
end
end Go.Proofs.Ytlccbaemcfjdoaa
