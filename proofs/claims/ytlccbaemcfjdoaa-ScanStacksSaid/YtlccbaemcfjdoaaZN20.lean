/-
  Layer 20: the law's function ScanStacks returns true.
  Conditions: the numbers, and the words, lie in memory as told.
-/
import Derived.Test.YtlccbaemcfjdoaaZX20
import Derived.Test.YtlccbaemcfjdoaaZW17
set_option linter.unusedVariables false
set_option linter.unusedSimpArgs false
namespace Go.Proofs.Ytlccbaemcfjdoaa
open Go.RowKit
theorem YardAt.below_bd {w : World} {p : List Fnc} {mem0 : List Int} {lo : Int} {xs : List Frm} {P FA TA : Option Addr} {g b m : Nat} (h : YardAt w p mem0 lo xs P FA TA g b m) : -1 ≤ (stk p mem0 lo xs).below ∧ (stk p mem0 lo xs).below < 1024 := by
  have h1 := h.all.bel
  have h2 := h.ok.fin
  have h3 := h.len
  omega
theorem gives17 {w : World} {A A1 A2 : Option Addr} {l c l1 c1 l2 c2 : Nat} {ns fs ws : List Int} (hns : BytesAt w A l c ns) (hfs : BytesAt w A1 l1 c1 fs) (hws : Nums .u64 w A2 l2 ws) (hwd : Wd ws) {lo : Int} (hlo : 0 ≤ lo ∧ lo < 256) :
    Gives Try.prog 17 [.slice A l c, .slice A1 l1 c1, .slice A2 l2 c2, .int .u8 lo] w (.bool true) := by
  refine gives_of (V17.sound ?_)
  unfold V17.vc
  refine call_yard (Nat.le_refl _) hns hfs hws hwd hlo (by omega) fun p P pc xs FA fc TA tc g b m w1 e1 hY0 => ⟨_, _, _, _, _, _, _, _, _, _, _, _, _, _, _, _, _, rfl, ?_⟩
  intro q9 _
  show V17.b0 _ _ true q9 P p.length pc ⟨g, 0, none⟩ (some ⟨m, 0, none⟩) 1024 1024 FA xs.length fc TA xs.length tc _ _ _ w1
  unfold V17.b0
  rw [if_neg (by simp)]
  have hw1 := e1.after (Below.refl _ _)
  have hY := hY0.has (has_newW _ _)
  have hbel := hY.below_bd
  refine call_roots hw1.size hY.arena hY.prog' hY.sized hY.pl.2 fun A3 c3 w2 e2 hN2 => ⟨_, _, _, _, rfl, ?_⟩
  have hw2 := e2.after hw1
  have hY2 := hY.has e2.has
  refine call_rroots hw2.size hY2.mems (by rw [hY2.mlen]; omega) hY2.prog' hY2.sized hY2.pl.2 fun A4 c4 w3 e3 hN3 => ⟨_, _, _, _, rfl, ?_⟩
  have hw3 := e3.after hw2
  have hY3 := hY2.has e3.has
  refine call_gives hw3 (fun w4 e4 _ => gives68 (RowAt.keep (NumE.kept _) (RowAt.keep (NumE.kept _) (RowAt.keep (NumE.kept _) hN2 newW_in) (ext_keeps e3)) (ext_keeps e4)) (RowAt.keep (NumE.kept _) (RowAt.keep (NumE.kept _) hN3 newW_in) (ext_keeps e4))) fun w4 e4 hw4 => ⟨_, rfl, ?_⟩
  rw [if_pos (by simp), if_pos (by simp)]
  have hY4 := hY3.has e4.has
  refine call_gives hw4 (fun w5 e5 _ => gives69 (hY4.has e5.has).arena (hY4.has e5.has).mems (by rw [hY4.mlen]; omega) (hY4.has e5.has).prog' hY4.sized hY4.pl (by omega)) fun w5 e5 hw5 => ⟨_, rfl, ?_⟩
  rw [if_pos rfl]
  exact call_gives hw5 (fun w6 _ _ => gives65 w6) fun w6 _ hw6 => ⟨_, rfl, ret_is hw6 rfl⟩
end Go.Proofs.Ytlccbaemcfjdoaa
