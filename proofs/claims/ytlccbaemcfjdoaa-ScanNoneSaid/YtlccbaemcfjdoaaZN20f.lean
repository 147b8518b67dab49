/-
  Layer 20: the law's function ScanNone returns true.
  Conditions: the numbers lie in memory as told.
-/
import Derived.Test.YtlccbaemcfjdoaaZN20c
import Derived.Test.YtlccbaemcfjdoaaZN18f
import Derived.Test.YtlccbaemcfjdoaaZW21
import Derived.Test.YtlccbaemcfjdoaaZWN
set_option linter.unusedVariables false
set_option linter.unusedSimpArgs false
set_option maxRecDepth 100000
namespace Go.Proofs.Ytlccbaemcfjdoaa
open Go.RowKit
theorem gives64z (w : World) (a : Addr) : Gives Try.prog 64 [.pointer none, .pointer (some a)] w (lookV (0, false, 2)) := gives_of (V64z.sound (ret_is (Below.refl _ _) rfl))
theorem gives64n (w : World) (a : Addr) : Gives Try.prog 64 [.pointer (some a), .pointer none] w (lookV (0, false, 2)) := gives_of (V64n.sound (ret_is (Below.refl _ _) rfl))
theorem gives71n (w : World) : Gives Try.prog 71 [.pointer none] w (.slice none 0 0) := gives_of (V71n.sound (ret_is (Below.refl _ _) rfl))
theorem gives66n {w : World} (C : Option Addr) (cl cc : Nat) (top : Int) : Gives Try.prog 66 [.pointer none, .agg ⟨[.slice C cl cc]⟩, .int .i64 top] w (.tuple ⟨[.slice none 0 0, .int .i64 2]⟩) := by
  refine gives_of (V66n.sound ?_)
  intro q4 _
  refine call_gives (Below.refl _ _) (fun w1 e1 _ => gives59n w1 C cl cc top) fun w1 e1 hw1 => ⟨_, _, _, _, rfl, ?_⟩
  rw [if_pos (by simp)]
  exact ret_is hw1 rfl
theorem step_at {p : List Fnc} {mem : List Int} {s : Wk} (h : s.at_ ≠ -1) : (stepW p mem s).2.1 = atW s := by
  unfold stepW
  rw [if_neg h]
  split
  · split
    · split <;> rfl
    · split
      · split <;> rfl
      · split <;> rfl
  · rfl
section
variable {w0 : World} {p : List Fnc} {mem0 : List Int} {lo : Int} {xs : List Frm} {P FA TA : Option Addr} {g b m pc fc tc q9 : Nat} {y5 y6 : Int}
theorem b1_21 {w : World} (hw : Below w0.heap.size w0 w) (hY : YardAt w p mem0 lo xs P FA TA g b m) {A : Option Addr} {l c : Nat} {ns : List Int} (hns : BytesAt w0 A l c ns) {top : Int} (htop : top ≠ -1) :
    V21.b1 w0.heap.size (IsV w0 (.bool true)) A l c top q9 P p.length pc ⟨g, 0, none⟩ (some ⟨m, 0, none⟩) 1024 1024 FA xs.length fc TA xs.length tc y5 y6 (stk p mem0 lo xs).below w := by
  unfold V21.b1
  refine call_gives hw (fun w1 _ _ => gives64z w1 _) fun w1 e1 hw1 => ⟨_, _, _, rfl, ?_⟩
  refine call_madeN hw1 hns fun p' C c' w2 hmade hp hc e2 hw2 => ⟨C, p'.length, c', rfl, ?_⟩
  refine call_gives hw2 (fun w3 _ _ => gives66n (w := w3) C p'.length c' top) fun w3 e3 hw3 => ⟨_, _, _, _, rfl, ?_⟩
  rw [if_pos (by simp), if_pos rfl, if_pos (by simp)]
  refine call_gives hw3 (fun w4 _ _ => gives71n w4) fun w4 e4 hw4 => ⟨_, _, _, rfl, ?_⟩
  rw [if_pos (by simp), if_pos (by simp), if_neg (by simp)]
  have hY4 := (((hY.has e1.has).has e2.has).has e3.has).has e4.has
  have hbel := hY4.below_bd
  refine call_neww hw4.size hY4.prog' hY4.sized hY4.pl fun wp gw w5 e5 hwp _ hW => ⟨_, rfl, ?_⟩
  show V21.b2 _ _ ⟨gw, 0, none⟩ q9 P p.length pc ⟨g, 0, none⟩ (some ⟨m, 0, none⟩) 1024 1024 FA xs.length fc TA xs.length tc y5 y6 (stk p mem0 lo xs).below w5
  unfold V21.b2
  have hw5 := e5.after hw4
  by_cases h0 : (stk p mem0 lo xs).below ≥ 0
  · rw [if_pos (decide_eq_true h0)]
    refine call_gives hw5 (fun w6 _ _ => gives64n w6 _) fun w6 e6 hw6 => ⟨_, _, _, rfl, ?_⟩
    have hlt := hW.base.lt
    have hH : Has w4 (off gw w6) := fun k c t f hk => off_row.2 ⟨e6.row _ _ _ _ (e5.row _ _ _ _ hk), by have := lt_of_some hk; omega⟩
    have hY6 := hY4.has hH
    have hrun := hY6.run
    have hne : xs.length ≠ 0 := fun h => by
      have : xs = [] := List.eq_nil_of_length_eq_zero h
      subst this
      simp [stk] at h0
    have hpos : 0 < countX p xs xs.length := by
      obtain ⟨j, hj⟩ : ∃ j, xs.length = j + 1 := ⟨xs.length - 1, by omega⟩
      have hy : xs[j]? = some (xs[j]'(by omega)) := List.getElem?_eq_getElem _
      obtain ⟨g', hfn', _⟩ := size_may hY6.sized (hY6.ok.may _ (List.mem_of_getElem? hy))
      unfold countX
      rw [hj, List.take_add_one, hy]
      simp only [Option.toList_some, List.map_append, List.map_cons, List.map_nil, List.sum_append, List.sum_cons, List.sum_nil, stepsX, hfn']
      omega
    have hg := runW_get (p := p) (mem := (stk p mem0 lo xs).mem) _ (wk0 (stk p mem0 lo xs).below) hpos
    have hz := hrun.zero _ (List.mem_of_getElem? hg)
    have hat := step_at (p := p) (mem := (stk p mem0 lo xs).mem) (s := wk0 (stk p mem0 lo xs).below) (by simp only [wk0]; omega)
    have haw : atW (wk0 (stk p mem0 lo xs).below) = (stk p mem0 lo xs).below := by unfold atW wk0; simp
    simp only [runW] at hz
    refine call_stepW hw6 (Walks.new (hW.ext e6)) (Nat.le_trans hw4.size hwp) hY6.arena ⟨by simp [wk0], wk0_in _ (by omega)⟩ hY6.sized hY6.pl fun RA' rc' w7 hW7 hw7 => ⟨_, _, _, rfl, ?_⟩
    rw [hat, haw, hz]
    rw [if_pos (by simp), if_pos rfl, if_pos (by simp), if_pos (by simp), if_neg (by simp)]
    exact call_gives hw7 (fun w8 _ _ => gives65 w8) fun w8 _ hw8 => ⟨_, rfl, ret_is hw8 rfl⟩
  · rw [if_neg (by simpa using h0)]
    exact call_gives hw5 (fun w6 _ _ => gives65 w6) fun w6 _ hw6 => ⟨_, rfl, ret_is hw6 rfl⟩
end
theorem gives21 {w : World} {A A1 : Option Addr} {l c l1 c1 : Nat} {ns fs : List Int} (hns : BytesAt w A l c ns) (hfs : BytesAt w A1 l1 c1 fs) {lo : Int} (hlo : 0 ≤ lo ∧ lo < 256) (top : Int) :
    Gives Try.prog 21 [.slice A l c, .slice A1 l1 c1, .int .u8 lo, .int .i64 top] w (.bool true) := by
  refine gives_of (V21.sound ?_)
  unfold V21.vc
  refine call_yard (Nat.le_refl _) hns hfs (nums_nil _ _) (fun x h => by cases h) hlo (by omega) fun p P pc xs FA fc TA tc g b m w1 e1 hY0 => ⟨_, _, _, _, _, _, _, _, _, _, _, _, _, _, _, _, _, rfl, ?_⟩
  intro q9 _
  show V21.b0 _ _ A l c top true q9 P p.length pc ⟨g, 0, none⟩ (some ⟨m, 0, none⟩) 1024 1024 FA xs.length fc TA xs.length tc _ _ _ w1
  unfold V21.b0
  rw [if_neg (by simp)]
  have hw1 := e1.after (Below.refl _ _)
  have hY := hY0.has (has_newW _ _)
  by_cases ht : top = -1
  · rw [if_pos (by simpa using ht)]
    exact b1_21 hw1 hY hns (by omega)
  · rw [if_neg (by simpa using ht)]
    exact b1_21 hw1 hY hns ht
end Go.Proofs.Ytlccbaemcfjdoaa
