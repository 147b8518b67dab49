import Derived.Test.YtidcpndlloppdaaZP21h
import Derived.Test.YtidcpndlloppdaaZME
/-
  Layer 21: code and marks that grow; AbsmRecovers's function returns true.
  Conditions: the arguments' memory says what their values are.
-/
set_option linter.unusedVariables false
set_option linter.unusedSimpArgs false
set_option maxRecDepth 20000
namespace Go.Proofs.Ytidcpndlloppdaa
open Go.RowKit
theorem insV_one {xs : List Ins} : ∀ u ∈ xs.flatMap insV, u.oneCell' = true := fun u hu => by
  obtain ⟨x, _, hx⟩ := List.mem_flatMap.1 hu
  simp only [insV, List.mem_cons, List.not_mem_nil, or_false] at hx
  rcases hx with rfl | rfl | rfl <;> rfl
theorem insV_len : ∀ xs : List Ins, (xs.flatMap insV).length = xs.length * 3
  | [] => rfl
  | x :: r => by rw [List.flatMap_cons, List.length_append, insV_len r]; simp only [insV, List.length_cons, List.length_nil]; omega
structure GrowAt (w0 w : World) (xs : List Ins) (ms : List Mk) (vP vW : Value) (Q : World → Prop) : Prop where
  below : Below w0.heap.size w0 w
  code : w.ownsRow w0.heap.size 23 3 vP xs.length (xs.flatMap insV)
  marks : OwnMs w w0.heap.size vW ms
  aside : Aside Q (fun k => vP.ownBlock = some k ∨ vW.ownBlock = some k) w
section
variable {w0 w w' : World} {xs : List Ins} {ms : List Mk} {vP vW : Value} {Q : World → Prop}
theorem GrowAt.ext (h : GrowAt w0 w xs ms vP vW Q) (he : Ext w0.heap.size w w') : GrowAt w0 w' xs ms vP vW Q := ⟨he.after h.below, he.owns h.code, he.owns h.marks, h.aside.ext he⟩
theorem GrowAt.size (h : GrowAt w0 w xs ms vP vW Q) : w0.heap.size ≤ w.heap.size := h.below.size
theorem GrowAt.appCode (h : GrowAt w0 w xs ms vP vW Q) {bs : List Nat} {K : Value → World → Prop} {a : Addr} {n c : Nat} {ys : List Ins} (hn : ys.length = n) (hy : ∀ j u, (ys.flatMap insV)[j]? = some u → w.cell? (a.add j) = some u) (hl : xs.length + n ≤ 1000)
    (hk : ∀ A c' w', GrowAt w0 w' (xs ++ ys) ms (.slice A (xs.length + n) c') vW Q → K (.slice A (xs.length + n) c') w') : RunK Try.prog (Builtin.append_ #[24, 24] 24 ⟨[vP, .slice (some a) n c]⟩) w0.heap.size w bs K := by
  subst hn
  have hb : Try.t23.bytes = 24 := by kernel_rfl
  refine append_own (t := 24) (e := 23) (i := Try.t23) (z := .agg ⟨[.int .i64 0, .int .i64 0, .int .i64 0]⟩) (size := 3) (bytes := 24) (by kernel_rfl) (by kernel_rfl) (by kernel_rfl) (by kernel_rfl) hb rfl (by omega) h.code (news := ys.flatMap insV) (insV_len ys) hy insV_one (by simp only [maxLen]; omega) (by omega) h.size h.size fun v' w1 he ho hn => ?_
  obtain ⟨A, c', hv⟩ := owns_slice0 ho
  subst hv
  have hc := chg1_exts he h.code
  refine hk A c' w1 ⟨he.after (fun j hj => (h.code.lt j hj).1) h.below, ?_, hc.ownT h.marks (by decide), h.aside.keep ((keepsOff_exts he).mono fun k hk => .inl hk) fun k hk => ?_⟩
  · rw [List.length_append, List.flatMap_append]; exact ho
  · rcases hk with hk | hk
    · exact (hn k hk).imp .inl id
    · exact .inl (.inr hk)
theorem GrowAt.appMarks (h : GrowAt w0 w xs ms vP vW Q) {bs : List Nat} {K : Value → World → Prop} {a : Addr} {n c : Nat} {ys : List Mk} (hn : ys.length = n) (hy : Marks w (some a) n ys) (hl : ms.length + n ≤ 1000)
    (hk : ∀ A c' w', GrowAt w0 w' xs (ms ++ ys) vP (.slice A (ms.length + n) c') Q → ExtS w0.heap.size (fun k => vW.ownBlock = some k) w w' → K (.slice A (ms.length + n) c') w') : RunK Try.prog (Builtin.append_ #[27, 27] 27 ⟨[vW, .slice (some a) n c]⟩) w0.heap.size w bs K := by
  subst hn
  refine append_marks h.marks hy (by omega) h.size h.size fun v' w1 he ho hn => ?_
  obtain ⟨A, c', hv⟩ := owns_slice0 ho
  subst hv
  have hc := chg1_exts he h.marks
  have hlen : (ms ++ ys).length = ms.length + ys.length := List.length_append
  refine (hlen ▸ hk A c' w1) ⟨he.after (fun j hj => (h.marks.lt j hj).1) h.below, hc.ownT h.code (by decide), ?_, h.aside.keep ((keepsOff_exts he).mono fun k hk => .inr hk) fun k hk => ?_⟩ he
  · unfold OwnMs at ho ⊢; exact ho
  · rcases hk with hk | hk
    · exact .inl (.inl hk)
    · exact (hn k hk).imp .inr id
end
theorem GrowAt.mono {w0 w : World} {xs : List Ins} {ms : List Mk} {vP vW : Value} {Q Q' : World → Prop} (h : GrowAt w0 w xs ms vP vW Q) (hQ : ∀ w, Q w → Q' w) : GrowAt w0 w xs ms vP vW Q' := ⟨h.below, h.code, h.marks, by
  obtain ⟨w1, h1, h2⟩ := h.aside
  exact ⟨w1, hQ _ h1, h2⟩⟩
theorem mark_one {w : World} {g : Nat} {k : Int} {u : Nat} {f : Nat × Nat} (h : w.heap[g]? = some (.cells ⟨[.int .i64 k, .int .u64 (u : Int)]⟩ 31 f)) : Marks w (some ⟨g, 0, none⟩) 1 [⟨k, u⟩] := ⟨rfl, by decide, fun j y hy => ⟨_, rfl, by
  match j, hy with
  | 0, hy => cases hy; exact ⟨at_cell (i := 0) h rfl, at_cell (i := 1) h rfl⟩
  | j + 1, hy => simp at hy⟩⟩
theorem code_row {w : World} {g : Nat} {xs : List Ins} {f : Nat × Nat} {n : Nat} (h : w.heap[g]? = some (.cells (xs.flatMap insV).toArray 23 f)) (hn : xs.length = n) (hl : xs.length ≤ 1000) : CodeAt w (some ⟨g, 0, none⟩) n xs := ⟨hn, by rw [← hn]; exact len_ok hl, fun i x hx => by
  obtain ⟨h1, h2, h3⟩ := flat_get hx
  refine ⟨_, rfl, ?_⟩
  have c : ∀ {j v}, (xs.flatMap insV)[j]? = some v → w.cell? ⟨g, j, none⟩ = some v := fun hv => by simp [World.cell?, h, hv]
  refine ⟨?_, ?_, ?_⟩
  · simp only [own_add, bx_add, Nat.add_zero, Nat.zero_add]; exact c h1
  · simp only [own_add, bx_add, Nat.zero_add]; exact c h2
  · simp only [own_add, bx_add, Nat.zero_add]; exact c h3⟩
section
variable {w0 : World} {v : Int} (hv : -2147483648 ≤ v ∧ v ≤ 2147483647) {deep : Bool} {k0 : Nat} (hk0 : k0 < 5)
include hv hk0
end
end Go.Proofs.Ytidcpndlloppdaa
