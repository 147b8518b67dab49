/-
  Layers 19 and 20: a yard of frames by numbers; the document's example of layer 20.
  Conditions: the numbers, and the words, lie in memory as told.
-/
import Derived.Test.YtlccbaemcfjdoaaZR20
import Derived.Test.YtlccbaemcfjdoaaZN18g
set_option linter.unusedVariables false
set_option linter.unusedSimpArgs false
namespace Go.Proofs.Ytlccbaemcfjdoaa
open Go.RowKit
structure YardAt (w : World) (p : List Fnc) (mem0 : List Int) (lo : Int) (xs : List Frm) (P FA TA : Option Addr) (g b m : Nat) : Prop where
  prog : ProgAt (off b w) P p.length p
  arena : ArenaAt w g b (stk p mem0 lo xs).mem
  words : OwnI w m .u64 51 (stk p mem0 lo xs).mem
  frms : Frms (off b w) FA xs.length xs
  ats : Nums .i64 (off b w) TA xs.length (stk p mem0 lo xs).ats
  made : MadeOk p
  ok : StkOk p mem0 lo xs
  len : mem0.length = 1024
  wd : Wd mem0
  lo0 : 0 ≤ lo ∧ lo ≤ 510
  mb : m ≠ b
section
variable {w w' : World} {p : List Fnc} {mem0 : List Int} {lo : Int} {xs : List Frm} {P FA TA : Option Addr} {g b m : Nat}
theorem YardAt.sized (h : YardAt w p mem0 lo xs P FA TA g b m) : Sized p := h.made.sized
theorem YardAt.pl (h : YardAt w p mem0 lo xs P FA TA g b m) : 1 ≤ p.length ∧ p.length ≤ 1000 := ⟨h.made.pos, by have := h.made.few; omega⟩
theorem YardAt.all (h : YardAt w p mem0 lo xs P FA TA g b m) : StkAll p mem0 lo xs := stk_all h.sized h.pl.2 h.lo0.1 xs h.ok.may h.ok.wd h.ok.fin
theorem YardAt.ext {B : Nat} (h : YardAt w p mem0 lo xs P FA TA g b m) (he : Ext B w w') : YardAt w' p mem0 lo xs P FA TA g b m :=
  { h with prog := RowAt.keep FncE.kept h.prog (ext_off he), arena := h.arena.ext he, words := h.words.ext he, frms := RowAt.keep FrmE.kept h.frms (ext_off he), ats := RowAt.keep (NumE.kept _) h.ats (ext_off he) }
theorem YardAt.extS {B n : Nat} {S : Nat → Prop} (h : YardAt w p mem0 lo xs P FA TA g b m) (he : ExtS B S w w') (hn : w.heap.size ≤ n) (hS : ∀ k, S k → n ≤ k) : YardAt w' p mem0 lo xs P FA TA g b m := by
  have kk : ∀ q v, (off b w).cell? q = some v → (off b w').cell? q = some v := fun q v hq => by
    obtain ⟨h1, h2⟩ := off_cell.1 hq
    exact off_cell.2 ⟨he.cell h1 fun hk => by have := hS _ hk; have := cell_lt h1; omega, h2⟩
  have row : ∀ k c t f, w.heap[k]? = some (Obj.cells c t f) → w'.heap[k]? = some (Obj.cells c t f) := fun k c t f hk => he.row _ _ _ _ (fun h => by have := hS _ h; have := lt_of_some hk; omega) hk
  exact { h with prog := RowAt.keep FncE.kept h.prog kk, arena := ⟨row _ _ _ _ h.arena.head, row _ _ _ _ h.arena.words, h.arena.wd, h.arena.len⟩, words := row _ _ _ _ h.words, frms := RowAt.keep FrmE.kept h.frms kk, ats := RowAt.keep (NumE.kept _) h.ats kk }
end
end Go.Proofs.Ytlccbaemcfjdoaa
