import Derived.Test.YtidcpndlloppdaaGreatDoorZEngD
import Derived.Lib.AppendStr
import Derived.Test.YtidcpndlloppdaaGreatDoorZEngC
import Derived.Test.YtidcpndlloppdaaGreatDoorProg
/-
  Rules for a row of bytes to which strings are appended.
  Conditions: none.
-/
set_option linter.unusedVariables false
set_option linter.unusedSimpArgs false
namespace Go.Proofs.YtidcpndlloppdaaGreatDoor
open Go.RowKit
theorem append_str {P : Program} {B b0 : Nat} {w : World} {bs : List Nat} {t u ty e : TypeId} {i : TypeInfo} {K : Value → World → Prop} (ht : P.underlying t = some (.slice e)) (hu : P.underlying u = some .string) (hi : P.info? e = some i) (hz : i.zero = some (.int .u8 0))
    (hsize : i.size = 1) (hby : i.bytes = 1) {v : Value} {n : Nat} {xs : List Value} (hown : w.ownsRow b0 e 1 v n xs) {s : ByteArray} (hlen : n + s.size ≤ 1000000000) (hB : B ≤ w.heap.size) (hb0 : b0 ≤ w.heap.size)
    (hk : ∀ v' w', ExtS B (fun k => v.ownBlock = some k) w w' → w'.ownsRow b0 e 1 v' (n + s.size) (xs ++ Lib.strCells s) → (∀ g, v'.ownBlock = some g → v.ownBlock = some g ∨ w.heap.size ≤ g) → K v' w') :
    RunK P (Builtin.append_ #[t, u] ty ⟨[v, .string s]⟩) B w bs K := by
  intro w1 he hx
  have hB1 : B ≤ w1.heap.size := Nat.le_trans hB he.size
  have hb1 : b0 ≤ w1.heap.size := Nat.le_trans hb0 he.size
  have hown1 := he.owns hown
  have h63 : n + s.size ≤ maxLen := by simp only [maxLen]; omega
  have hlt : ∀ k, v.ownBlock = some k → b0 ≤ k ∧ k < w.heap.size ∧ k ∉ bs := fun k hkv => by
    refine ⟨(hown.lt k hkv).1, (hown.lt k hkv).2, fun hkb => ?_⟩
    rcases hown.2 with ⟨rfl, _⟩ | ⟨g, cap, cur, rfl, hb, hg, _⟩
    · cases hkv
    · cases hkv; exact (hx g hkb).2.1 _ _ _ hg
  obtain ⟨v', w2, hr, ho, hg, hnew⟩ : ∃ v' w2, (Builtin.append_ #[t, u] ty #[v, .string s]).run P w1 = .ok v' w2 ∧ w2.ownsRow b0 e 1 v' (n + s.size) (xs ++ Lib.strCells s) ∧ w1.grownBy w2 v.ownBlock ∧
      (∀ g, v'.ownBlock = some g → v.ownBlock = some g ∨ w1.heap.size ≤ g) := by
    rcases hown1.2 with ⟨rfl, rfl⟩ | ⟨g, cap, cur, rfl, hbg, hg, hnc, hcm, hcs, htake⟩
    · have hx0 : xs = [] := List.eq_nil_of_length_eq_zero (by simpa using hown1.1)
      subst hx0
      obtain ⟨v', w2, hr, ho, hg, _⟩ := Lib.run_append_own_string (P := P) w1 w1.heap.size t u ty e i ht hu hi hz hsize hby (.slice none 0 0) 0 [] (World.ownsRow_nil _ _ _ _) s h63 (by omega) (Nat.le_refl _)
      refine ⟨v', w2, hr, ⟨ho.1, ?_⟩, hg, fun g hgv => .inr (ho.lt g hgv).1⟩
      rcases ho.2 with h | ⟨g, cap, cur, hv, hb, rest⟩
      · exact .inl h
      · exact .inr ⟨g, cap, cur, hv, Nat.le_trans hb1 hb, rest⟩
    · obtain ⟨v', w2, hr, ho, hgr, _⟩ := Lib.run_append_own_string (P := P) w1 b0 t u ty e i ht hu hi hz hsize hby _ n xs hown1 s h63 (by omega) hb1
      refine ⟨v', w2, hr, ho, hgr, fun j hj => ?_⟩
      by_cases hroom : n + s.size ≤ cap
      · have hcz : cur.size = cap := by simpa using hcs
        have hr2 := Lib.run_append_room_string (P := P) w1 t u ty e i ht hu hi hsize g n cap cur hg s hroom (by omega)
        rw [hr] at hr2
        cases hr2
        exact .inl hj
      · have hxl : xs.length = n := by simpa using hown1.1
        have holds : ∀ j u, xs[j]? = some u → w1.cell? ((⟨g, 0, none⟩ : Addr).add j) = some u := hown1.cells (g := g) rfl
        have hr2 := Lib.run_append_grow_string (P := P) w1 t u ty e i (.int .u8 0) ht hu hi hz ⟨g, 0, none⟩ n cap xs (by rw [hsize]; simpa using hxl) holds s (by omega) (by omega) (by rw [hby]; exact growslice_fits (by omega) (by omega))
        rw [hr] at hr2
        cases hr2
        cases hj
        exact .inr (Nat.le_refl _)
  refine ⟨v', w2, hr, ⟨hg.size, fun x hxb => hg.block x (hx x hxb).1 (fun e => (hlt x e.symm).2.2 hxb)⟩, hide_any fun w' hm => ?_⟩
  refine hk v' w' (maskedS he hx hg (fun k hkv => hkv) hm hB1) ?_ (fun g hgv => (hnew g hgv).imp id (fun h => Nat.le_trans he.size h))
  refine ⟨ho.1, ?_⟩
  rcases ho.2 with hn | ⟨g, cap, cur, rfl, hb, hgg, rest⟩
  · exact .inl hn
  · refine .inr ⟨g, cap, cur, rfl, hb, ?_, rest⟩
    rw [hm.block g (fun hgb => ?_)]
    · exact hgg
    · rcases hnew g rfl with h | h
      · exact (hlt g h).2.2 hgb
      · have := (hx g hgb).1; omega
end Go.Proofs.YtidcpndlloppdaaGreatDoor

/-
 What the engine makes of the loaded functions e59, e77, e78, e133, e147, e149: conditions under which a call returns as told, and proofs of that.
 Conditions: none. Printed by a program of this project.
-/
set_option linter.unusedVariables false
set_option maxRecDepth 100000
namespace Go.Proofs.YtidcpndlloppdaaGreatDoor
theorem mixed : Tryz.prog.follows .mixedOrders = true := by kernel_rfl
noncomputable def V59.ext : List Value → Sem Value := fun l => Extern.MathFloatBits.float64bits ⟨l⟩
theorem V59.extOk : ExtOk Tryz.prog 59 V59.ext := extOk_of Tryz.func59 (by kernel_rfl) (by kernel_rfl) (by kernel_rfl) (by kernel_rfl)
noncomputable def V77.ext : List Value → Sem Value := fun l => Extern.MathFloatBits.float64frombits ⟨l⟩
theorem V77.extOk : ExtOk Tryz.prog 77 V77.ext := extOk_of Tryz.func77 (by kernel_rfl) (by kernel_rfl) (by kernel_rfl) (by kernel_rfl)
noncomputable def V78.ext : List Value → Sem Value := fun l => Extern.MathFloor.toIntegral "math.archTrunc" .zero ⟨l⟩
theorem V78.extOk : ExtOk Tryz.prog 78 V78.ext := extOk_of Tryz.func78 (by kernel_rfl) (by kernel_rfl) (by kernel_rfl) (by kernel_rfl)
noncomputable def V133.ext : List Value → Sem Value := fun l => Extern.MathFloor.toIntegral "math.archFloor" .down ⟨l⟩
theorem V133.extOk : ExtOk Tryz.prog 133 V133.ext := extOk_of Tryz.func133 (by kernel_rfl) (by kernel_rfl) (by kernel_rfl) (by kernel_rfl)
noncomputable def V147.ext : List Value → Sem Value := fun l => Extern.MathDim.pick "math.archMin" true .lt ⟨l⟩
theorem V147.extOk : ExtOk Tryz.prog 147 V147.ext := extOk_of Tryz.func147 (by kernel_rfl) (by kernel_rfl) (by kernel_rfl) (by kernel_rfl)
noncomputable def V149.ext : List Value → Sem Value := fun l => Extern.MathDim.pick "math.archMax" false .gt ⟨l⟩
theorem V149.extOk : ExtOk Tryz.prog 149 V149.ext := extOk_of Tryz.func149 (by kernel_rfl) (by kernel_rfl) (by kernel_rfl) (by kernel_rfl)
end Go.Proofs.YtidcpndlloppdaaGreatDoor
