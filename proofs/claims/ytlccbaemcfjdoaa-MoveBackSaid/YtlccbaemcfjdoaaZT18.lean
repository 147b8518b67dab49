/-
  Layer 18: frames held against frames; the document's example.
  Conditions: the frames lie in memory as told.
-/
import Derived.Test.YtlccbaemcfjdoaaZD18
set_option linter.unusedVariables false
set_option linter.unusedSimpArgs false
namespace Go.Proofs.Ytlccbaemcfjdoaa
open Go.RowKit
theorem gives56 {w : World} {x : Frm} {s t : Sls} (hx : FrmAt w x s) (hy : FrmAt w x t) : Gives Try.prog 56 [frmV x s, frmV x t] w (.bool true) := by
  refine gives_of (V56.sound ?_)
  intro q2 _ q3 _
  rw [if_pos (by simp), if_pos (by simp), if_pos (by simp), if_pos (by simp), if_pos (by simp), if_neg (by simp)]
  have loop : ∀ (k i : Nat) (w' : World), x.dfs.length < i + k → i ≤ x.dfs.length → Below w.heap.size w w' →
      V56.l0 w.heap.size (IsV w (.bool true)) k i q3 x.f x.pc x.mode x.dfd x.value t.D x.dfs.length t.dc t.L x.locals.length t.lc t.O x.ops.length t.oc q2 x.f x.pc x.mode x.dfd x.value s.D x.dfs.length s.dc s.L x.locals.length s.lc s.O x.ops.length s.oc w' := by
    intro k
    induction k with
    | zero => intros; omega
    | succ k ih =>
      intro i w' hk hi hw'
      have hx' := hx.keep (below_keeps hw')
      have hy' := hy.keep (below_keeps hw')
      dsimp -zeta only [V56.l0]
      by_cases hlt : i < x.dfs.length
      · rw [if_pos (by simpa using hlt)]
        obtain ⟨d, a, hd, ha, d0, A, c, d1, hargs⟩ := hx'.dfs.at hlt
        obtain ⟨e, a', he, ha', e0, A', c', e1, hargs'⟩ := hy'.dfs.at hlt
        rw [hd] at he; cases he
        refine ⟨a, ha, by omega, by omega, d.f, d0, a', ha', by omega, by omega, d.f, e0, ?_⟩
        rw [if_pos (by simp)]
        refine ⟨a, ha, by omega, by omega, A, d.args.length, c, d1, a', ha', by omega, by omega, A', d.args.length, c', e1, ?_⟩
        refine call_gives hw' (fun w1 e1 _ => gives68 (RowAt.keep (NumE.kept _) hargs (ext_keeps e1)) (RowAt.keep (NumE.kept _) hargs' (ext_keeps e1))) fun w1 e1 hw1 => ⟨_, rfl, ?_⟩
        rw [if_neg (by simp)]
        have hwi := wrap_succ hlt hx.dfs.small
        rw [hwi]
        exact ih (i + 1) w1 (by omega) (by omega) hw1
      · rw [if_neg (by simpa using hlt)]
        refine call_gives hw' (fun w1 e1 _ => gives68 (RowAt.keep (NumE.kept _) hx'.locals (ext_keeps e1)) (RowAt.keep (NumE.kept _) hy'.locals (ext_keeps e1))) fun w1 e1 hw1 => ⟨_, rfl, ?_⟩
        rw [if_pos (by simp)]
        refine call_gives hw1 (fun w2 e2 _ => gives68 (RowAt.keep (NumE.kept _) (RowAt.keep (NumE.kept _) hx'.ops (ext_keeps e1)) (ext_keeps e2)) (RowAt.keep (NumE.kept _) (RowAt.keep (NumE.kept _) hy'.ops (ext_keeps e1)) (ext_keeps e2))) fun w2 e2 hw2 => ⟨_, rfl, ret_is hw2 (by simp)⟩
  exact ⟨x.dfs.length + 1, loop (x.dfs.length + 1) 0 w (by omega) (by omega) (Below.refl _ _)⟩
def oneF : Fnc := ⟨0, 1, 0, [⟨3, 0, 0⟩, ⟨18, 0, 0⟩]⟩
def OneQ (w1 : World) : Value → World → Prop := fun u w2 => ∃ C c, u = .agg ⟨[.slice C 1 c]⟩ ∧ ProgAt (newW w1.heap.size w2) C 1 [oneF]
theorem one_sized : Sized [oneF] := fun f hf => by
  simp at hf; subst hf; rfl
theorem call_read {w0 w : World} {bs : List Nat} {g b : Nat} {mem : List Int} {P : Option Addr} {p : List Fnc} {cap : Nat} {at_ : Int} {K : Value → World → Prop} (hB : w0.heap.size ≤ w.heap.size) (h : ArenaAt w g b mem) (hp : ProgAt w P p.length p) (hs : Sized p) (hpl : p.length ≤ 1000)
    (hk : ∀ s w', Ext w0.heap.size w w' → FrmAt (newW w.heap.size w') (readM p mem at_).1 s → K (.tuple ⟨[frmV (readM p mem at_).1 s, .int .i64 (readM p mem at_).2.1, .int .i64 (readM p mem at_).2.2]⟩) w') :
    CallK Try.prog 54 [.pointer (some ⟨g, 0, none⟩), .agg ⟨[.slice P p.length cap]⟩, .int .i64 at_] w0.heap.size w bs K := by
  refine call_yieldsX (Q := ReadQ (readM p mem at_)) hB (fun w1 e1 => yields54 (h.ext e1) (RowAt.keep FncE.kept hp (ext_keeps e1)) hs hpl at_) fun w1 u w2 w' hsz hQ hnew he => ?_
  obtain ⟨s, rfl, hf⟩ := hQ
  refine hk s w' he (hf.keep fun q v hq => ?_)
  obtain ⟨h1, h2⟩ := newW_cell.1 hq
  exact newW_cell.2 ⟨(cell_same (hnew _ h2)).trans h1, Nat.le_trans hsz h2⟩
end Go.Proofs.Ytlccbaemcfjdoaa
