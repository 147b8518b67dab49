/-
  Nothing of the program stands here: appends of so many noughts, and of nothing.
  Conditions: none.
-/
import Derived.Test.YtlccbaemcfjdoaaEngG
import Derived.Lib.AppendZerosOnto
import Derived.Laws.OwnMore
set_option linter.unusedVariables false
set_option linter.unusedSimpArgs false
namespace Go.Proofs.Ytlccbaemcfjdoaa
open Go.RowKit

theorem zero_cells (k : IntKind) (n : Nat) : Builtin.zeroCells (Value.int k 0).cells n = ((List.replicate n (0 : Int)).map (Value.int k)).toArray := by
  apply Array.toList_inj.1
  simp only [Builtin.zeroCells, Array.toList_map, Array.toList_range, List.map_replicate]
  rw [List.eq_replicate_iff]
  refine ⟨by simp [Value.cells], fun x hx => ?_⟩
  obtain ⟨j, _, rfl⟩ := List.mem_map.1 hx
  simp [Value.cells, Nat.mod_one]
theorem run_append_own_zeros {P : Program} (w : World) (b0 : Nat) (t tn ty e : TypeId) (i : TypeInfo) (k kn : IntKind) (bytes : Nat) (ht : P.underlying t = some (.slice e)) (htn : P.underlying tn = some (.int kn)) (hi : P.info? e = some i) (hz : i.zero = some (.int k 0)) (hsize : i.size = 1) (hby : i.bytes = bytes) (hb8 : bytes ≤ 8)
    (v : Value) (n : Nat) (xs : List Int) (hown : w.ownsRow b0 e 1 v n (xs.map (.int k))) (m : Nat) (hnm : n + m ≤ 17592186044416) (hb : b0 ≤ w.heap.size) :
    ∃ v' w', (Builtin.append_ #[t, tn] ty #[v, .int .i64 (m : Int)]).run P w = .ok v' w' ∧ w'.ownsRow b0 e 1 v' (n + m) ((xs ++ List.replicate m 0).map (.int k)) ∧ w.grownBy w' v.ownBlock ∧ (∀ g, v'.ownBlock = some g → v.ownBlock = some g ∨ w.heap.size ≤ g) := by
  have hlx : xs.length = n := by have := hown.1; simpa using this
  have hbm : (n + m) * bytes ≤ 140737488355328 := Nat.le_trans (Nat.mul_le_mul_left _ hb8) (by omega)
  have hw : IntKind.i64.wrap (m : Int) = m := by rw [IntKind.wrap_i64]; omega
  have hneg : ¬ ((m : Int) < 0) := by omega
  have h48i : ¬ (281474976710656 < (m : Int) * (i.bytes : Int)) := by
    rw [hby, ← Int.natCast_mul]
    have : m * bytes ≤ (n + m) * bytes := Nat.mul_le_mul_right _ (by omega)
    omega
  have grows : ∀ (base : Option Addr) (old : Nat), v = .slice base n old → old < n + m → (Builtin.firstCells i.size n (.slice base n old)).run P w.drew = .ok (xs.map (Value.int k)).toArray w.drew →
      ∃ v' w', (Builtin.append_ #[t, tn] ty #[v, .int .i64 (m : Int)]).run P w = .ok v' w' ∧ w'.ownsRow b0 e 1 v' (n + m) ((xs ++ List.replicate m 0).map (.int k)) ∧ w.grownBy w' v.ownBlock ∧ (∀ g, v'.ownBlock = some g → v.ownBlock = some g ∨ w.heap.size ≤ g) := by
    intro base old hv ho hold
    subst hv
    by_cases hm : m = 0
    · subst hm
      rcases hown.2 with ⟨hv, h0⟩ | ⟨g, cap, cur, hv, hbg, hg, hnc, hcm, hcs, htake⟩
      · cases hv; omega
      · cases hv; omega
    have hfit : Builtin.nextslicecap (n + m) old * i.bytes ≤ 281474976710656 := by rw [hby]; exact growslice_fits ho hbm
    have hr := Lib.run_append_grow_zeros (P := P) w t tn ty e i (.int k 0) .i64 kn ht htn hi hz base n old (xs.map (.int k)) hold m (by omega) (by omega) ho (by omega) (by rw [hby]; have : m * bytes ≤ (n + m) * bytes := Nat.mul_le_mul_right _ (by omega); omega) hfit
    have hge := grownCap_ge w (n + m) old e
    have hcm : grownCap w (n + m) old e ≤ maxLen := grownCap_le_maxLen w (n + m) old e (by simp only [maxLen]; omega)
    refine ⟨_, _, hr, ⟨by simp [hlx], .inr ⟨w.heap.size, _, _, rfl, hb, heap_alloc_new w.drew _, hge, hcm, ?_, ?_⟩⟩, ⟨rfl, rfl, rfl, by simp, fun j hj _ => heap_alloc_old w.drew _ j hj⟩, fun g hg => .inr (by cases hg; exact Nat.le_refl _)⟩
    · rw [zero_cells, zero_cells]
      simp only [Array.size_append, List.size_toArray, List.length_map, List.length_replicate, hlx]
      omega
    · rw [zero_cells, zero_cells, Nat.mul_one]
      simp only [Array.toList_append, List.append_assoc, List.map_append]
      rw [← List.append_assoc]
      exact List.take_left' (by simp [hlx])
  rcases hown.2 with ⟨rfl, rfl⟩ | ⟨g, cap, cur, rfl, hbg, hg, hnc, hcm, hcs, htake⟩
  · by_cases hm : m = 0
    · subst hm
      have hx : xs = [] := List.eq_nil_of_length_eq_zero hlx
      subst hx
      refine ⟨.slice none 0 0, w, ?_, World.ownsRow_nil _ _ _ _, ⟨rfl, rfl, rfl, Nat.le_refl _, fun _ _ _ => rfl⟩, fun g hg => by cases hg⟩
      simp [Builtin.append_, run_underlying ht, run_underlying htn, sizeOf, typeInfo, zeroValue, hi, hz, asInt, asIntOf, IntKind.wrap_i64]
    · have hx : xs = [] := List.eq_nil_of_length_eq_zero hlx
      subst hx
      exact grows none 0 rfl (by omega) (by simp [Builtin.firstCells])
  · by_cases hroom : n + m ≤ cap
    · have hfit : n * i.size + (List.replicate m (Value.int k 0)).length ≤ cur.size := by rw [hsize, hcs, List.length_replicate]; omega
      have hst := run_storeCells_at P g (n * i.size) e (List.replicate m (Value.int k 0)) 0 cur w hg (by simpa using hfit) (fun u hu => by rw [(List.mem_replicate.1 hu).2]; rfl)
      simp only [Nat.add_zero] at hst
      have hz2 : (Builtin.zeroCells (Value.int k 0).cells m).toList = List.replicate m (Value.int k 0) := by rw [zero_cells]; simp
      have hr : (Builtin.append_ #[t, tn] ty #[.slice (some ⟨g, 0, none⟩) n cap, .int .i64 (m : Int)]).run P w = .ok (.slice (some ⟨g, 0, none⟩) (n + m) cap) (w.setRow g (cur.toList.take (n * i.size) ++ List.replicate m (Value.int k 0) ++ cur.toList.drop (n * i.size + (List.replicate m (Value.int k 0)).length)).toArray) := by
        by_cases hm : m = 0
        · subst hm
          simp only [List.replicate_zero] at hst ⊢
          simp [Builtin.append_, run_underlying ht, run_underlying htn, sizeOf, typeInfo, zeroValue, hi, hz, asInt, asIntOf, IntKind.wrap_i64, hnc, Addr.add_lit]
          simp at hst
          rw [hst]; rfl
        · have hns : ¬ (m * i.size = 0) := by rw [hsize]; omega
          simp [Builtin.append_, run_underlying ht, run_underlying htn, sizeOf, typeInfo, zeroValue, hi, hz, asInt, asIntOf, hw, hneg, h48i, hns, hroom, Addr.add_lit, hz2, hst]
      refine ⟨_, _, hr, ⟨by simp [hlx], .inr ⟨g, cap, _, rfl, hbg, setRow_heap w g cur _ e _ hg, hroom, hcm, ?_, ?_⟩⟩, ⟨rfl, rfl, rfl, by simp, fun j _ hj => setRow_other w g j _ (fun e => hj (by simp [Value.ownBlock, e]))⟩, fun j hj => .inl hj⟩
      · simp only [List.size_toArray, List.length_append, List.length_take, List.length_drop, Array.length_toList, List.length_replicate, hsize]
        omega
      · rw [hsize, htake, List.map_append, List.map_replicate]
        exact List.take_left' (by simp [hlx])
    · have hold := run_firstCells_some (P := P) w.drew i.size n ⟨g, 0, none⟩ n cap (xs.map (Value.int k)) (by rw [hsize]; simp [hlx]) (fun j u hj => by
        have := hown.cells (g := g) rfl j u hj
        simpa using this)
      exact grows _ cap rfl (by omega) hold
/-- So many noughts more. -/
theorem append_zeros {P : Program} {B b0 : Nat} {w : World} {bs : List Nat} {t tn ty e : TypeId} {i : TypeInfo} {k kn : IntKind} {bytes : Nat} {K : Value → World → Prop} (ht : P.underlying t = some (.slice e)) (htn : P.underlying tn = some (.int kn)) (hi : P.info? e = some i) (hz : i.zero = some (.int k 0)) (hsize : i.size = 1) (hby : i.bytes = bytes) (hb8 : bytes ≤ 8)
    {v : Value} {n : Nat} {xs : List Int} (hown : w.ownsRow b0 e 1 v n (xs.map (.int k))) {m : Nat} (hnm : n + m ≤ 17592186044416) (hB : B ≤ w.heap.size) (hb0 : b0 ≤ w.heap.size)
    (hk : ∀ v' w', ExtS B (fun k => v.ownBlock = some k) w w' → w'.ownsRow b0 e 1 v' (n + m) ((xs ++ List.replicate m 0).map (.int k)) → K v' w') :
    RunK P (Builtin.append_ #[t, tn] ty ⟨[v, .int .i64 (m : Int)]⟩) B w bs K := by
  intro w1 he hx
  have hB1 : B ≤ w1.heap.size := Nat.le_trans hB he.size
  have hown1 := he.owns hown
  have hlt : ∀ k, v.ownBlock = some k → k < w.heap.size ∧ k ∉ bs := fun k hkv => by
    refine ⟨(hown.lt k hkv).2, fun hkb => ?_⟩
    rcases hown.2 with ⟨rfl, _⟩ | ⟨g, cap, cur, rfl, hb, hg, _⟩
    · cases hkv
    · cases hkv; exact (hx g hkb).2.1 _ _ _ hg
  obtain ⟨v', w2, hr, ho, hg, hnew⟩ := run_append_own_zeros (P := P) w1 b0 t tn ty e i k kn bytes ht htn hi hz hsize hby hb8 v n xs hown1 m hnm (Nat.le_trans hb0 he.size)
  refine ⟨v', w2, hr, ⟨hg.size, fun x hxb => hg.block x (hx x hxb).1 (fun e => (hlt x e.symm).2 hxb)⟩, hide_any fun w' hm => ?_⟩
  refine hk v' w' (maskedS he hx hg (fun k hkv => hkv) hm hB1) ?_
  refine ⟨ho.1, ?_⟩
  rcases ho.2 with hn | ⟨g, cap, cur, rfl, hb, hgg, rest⟩
  · exact .inl hn
  · refine .inr ⟨g, cap, cur, rfl, hb, ?_, rest⟩
    rw [hm.block g (fun hgb => ?_)]
    · exact hgg
    · rcases hnew g rfl with h | h
      · exact (hlt g h).2 hgb
      · have := (hx g hgb).1; omega
end Go.Proofs.Ytlccbaemcfjdoaa
