import Derived.Test.YtidcpndlloppdaaZA18
/-
  Layer 18: frames written by the program, by one plain rule.
  Conditions: the arena, the program, and the frame, lie in memory as told; the program's functions are sized.
-/
set_option linter.unusedVariables false
set_option linter.unusedSimpArgs false
namespace Go.Proofs.Ytidcpndlloppdaa
open Go.RowKit
structure FrmWd (x : Frm) : Prop where
  value : 0 ≤ x.value ∧ x.value < 18446744073709551616
  locals : Wd x.locals
  ops : Wd x.ops
  args : ∀ d ∈ x.dfs, Wd d.args
section
variable {w : World} {g b : Nat} {mem : List Int}
end
end Go.Proofs.Ytidcpndlloppdaa
set_option linter.unusedVariables false
set_option linter.unusedSimpArgs false
namespace Go.Proofs.Ytidcpndlloppdaa
open Go.RowKit
section
variable {w0 : World} {Q : Value → World → Prop} {n cap g5 q9 : Nat} {x : Frm} {s : Sls}
end
end Go.Proofs.Ytidcpndlloppdaa
set_option linter.unusedVariables false
set_option linter.unusedSimpArgs false
namespace Go.Proofs.Ytidcpndlloppdaa
open Go.RowKit
def dfsV : List Dfr → List Value → List Value
  | d :: ds, v :: vs => .int .i64 d.f :: v :: dfsV ds vs
  | _, _ => []
theorem dfs_get : ∀ {ds : List Dfr} {vs : List Value} {i : Nat} {d : Dfr} {v : Value}, ds[i]? = some d → vs[i]? = some v → (dfsV ds vs)[i * 2]? = some (.int .i64 d.f) ∧ (dfsV ds vs)[i * 2 + 1]? = some v
  | [], vs, i, d, v, h, _ => by simp at h
  | y :: ds, [], i, d, v, _, h => by simp at h
  | y :: ds, u :: vs, 0, d, v, h, hv => by
    simp at h hv; subst h; subst hv
    exact ⟨rfl, rfl⟩
  | y :: ds, u :: vs, i + 1, d, v, h, hv => by
    obtain ⟨h1, h2⟩ := dfs_get (ds := ds) (vs := vs) (i := i) (by simpa using h) (by simpa using hv)
    rw [show (i + 1) * 2 = i * 2 + 2 by omega, show i * 2 + 2 + 1 = i * 2 + 1 + 2 by omega]
    exact ⟨h1, h2⟩
structure OwnDs (w : World) (B : Nat) (v : Value) (ds : List Dfr) (vs : List Value) : Prop where
  row : w.ownsRow B 85 2 v ds.length (dfsV ds vs)
  len : vs.length = ds.length
  args : ∀ (i : Nat) (d : Dfr) (u : Value), ds[i]? = some d → vs[i]? = some u → OwnWs w B u d.args
theorem OwnDs.ext {B B' : Nat} {w w' : World} {v : Value} {ds : List Dfr} {vs : List Value} (h : OwnDs w B v ds vs) (he : Ext B' w w') : OwnDs w' B v ds vs :=
  ⟨he.owns h.row, h.len, fun i d u hd hu => he.owns (h.args i d u hd hu)⟩
theorem OwnDs.nil (w : World) (B : Nat) : OwnDs w B (.slice none 0 0) [] [] := ⟨World.ownsRow_nil _ _ _ _, rfl, fun i d u h => by simp at h⟩
theorem OwnDs.dfs {w : World} {B : Nat} {v : Value} {ds : List Dfr} {vs : List Value} (h : OwnDs w B v ds vs) (hl : ds.length ≤ 1000000) (ha : ∀ d ∈ ds, d.args.length ≤ 1000000) : ∃ A c, v = .slice A ds.length c ∧ Dfrs (newW B w) A ds.length ds := by
  rcases h.row.2 with ⟨rfl, h0⟩ | ⟨g, cap, cur, rfl, hb, _⟩
  · have : ds = [] := List.eq_nil_of_length_eq_zero h0
    subst this
    exact ⟨none, 0, rfl, rfl, Nat.zero_le _, fun i x h => by simp at h⟩
  · refine ⟨_, cap, rfl, rfl, by simp only [maxLen]; omega, fun i d hd => ⟨_, rfl, ?_⟩⟩
    have hi := (List.getElem?_eq_some_iff.1 hd).1
    have hv : vs[i]? = some (vs[i]'(by rw [h.len]; exact hi)) := List.getElem?_eq_getElem _
    obtain ⟨k1, k2⟩ := dfs_get hd hv
    have c1 := owns_cell h.row k1
    have c2 := owns_cell h.row k2
    have harg := h.args i d _ hd hv
    obtain ⟨A, c, hvv, hn, hbl⟩ := ownws_nums harg (by have := ha d (List.mem_of_getElem? hd); omega)
    rw [hvv] at c2
    unfold DfrE
    simp only [own_add, bx_add, Nat.add_zero, Nat.zero_add]
    refine ⟨newW_cell.2 ⟨c1, hb⟩, A, c, newW_cell.2 ⟨c2, hb⟩, hn.len, hn.small, fun j y hj => ?_⟩
    obtain ⟨p, hp, he⟩ := hn.get j y hj
    refine ⟨p, hp, ?_⟩
    unfold NumE at he ⊢
    exact newW_cell.2 ⟨he, by rw [add_block]; exact hbl p hp⟩
end Go.Proofs.Ytidcpndlloppdaa
set_option linter.unusedVariables false
set_option linter.unusedSimpArgs false
namespace Go.Proofs.Ytidcpndlloppdaa
open Go.RowKit
end Go.Proofs.Ytidcpndlloppdaa
set_option linter.unusedVariables false
set_option linter.unusedSimpArgs false
namespace Go.Proofs.Ytidcpndlloppdaa
open Go.RowKit
end Go.Proofs.Ytidcpndlloppdaa
