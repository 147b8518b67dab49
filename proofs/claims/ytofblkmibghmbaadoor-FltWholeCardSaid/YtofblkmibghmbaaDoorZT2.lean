/-
  Layer 2: hex digits: what the host's formatter returns.
  Conditions: the table of the host's library reads as the program's text lays it.
-/
import Derived.Test.YtofblkmibghmbaaDoorZEngG
import Derived.Test.YtofblkmibghmbaaDoorZC2b
import Derived.Test.YtofblkmibghmbaaDoorZVU
import Derived.Test.YtofblkmibghmbaaDoorZShF
set_option linter.unusedVariables false
set_option linter.unusedSimpArgs false
set_option maxRecDepth 100000
namespace Go.Proofs.YtofblkmibghmbaaDoor
open Go.RowKit
def db64 : List Int := [0, 1, 56, 2, 57, 49, 28, 3, 61, 58, 42, 50, 38, 29, 17, 4, 62, 47, 59, 36, 45, 43, 51, 22, 53, 39, 33, 30, 24, 18, 12, 5, 63, 55, 48, 27, 60, 41, 37, 16, 46, 35, 44, 21, 52, 32, 23, 11, 54, 26, 40, 15, 34, 20, 31, 10, 25, 14, 19, 9, 13, 8, 7, 6]
structure Tabs (w : World) : Prop where
  ten : Lib.TabIs Tryd.prog w "internal/strconv.uint64pow10" .u64 Lib.pow10Tab
  bits : Lib.TabIs Tryd.prog w "math/bits.deBruijn64tab" .u8 db64
theorem Tabs.on {w w' : World} (h : Tabs w) (hb : Below w.heap.size w w') : Tabs w' := ⟨tab_on h.ten (Nat.le_refl _) hb, tab_on h.bits (Nat.le_refl _) hb⟩
theorem Tabs.ext {B : Nat} {w w' : World} (h : Tabs w) (hB : w.heap.size ≤ B) (he : Below B w w') : Tabs w' := ⟨tab_on h.ten hB he, tab_on h.bits hB he⟩
section
variable {w : World}
theorem gives180 (ht : Tabs w) : Gives Tryd.prog 180 [.int .u64 16] w (.int .i64 4) := by
  refine gives_of (V180.sound ?_)
  unfold V180.vc
  rw [if_neg (by decide)]
  have e : (Int.fdiv (IntKind.wrap .u64 (IntKind.wrap .u64 (((BitVec.ofInt 64 16 &&& BitVec.ofInt 64 (IntKind.wrap .u64 (0 - 16))).toNat : Nat) : Int) * 285870213051353865)) (2 ^ min 58 64)) = 15 := by decide
  rw [e]
  refine ⟨by decide, by decide, by decide, 4, ?_, ret_is (Below.refl _ _) rfl⟩
  have := Lib.TabIs.cell ht.bits (g := 8) (by kernel_rfl) 15 (by decide)
  exact this
theorem gives168 (ht : Tabs w) : Gives Tryd.prog 168 [.int .u64 16] w (.int .i64 4) := by
  refine gives_of (V168.sound ?_)
  unfold V168.vc
  exact call_gives (Below.refl _ _) (fun w1 _ h1 => gives180 (ht.on h1)) fun w1 _ h1 => ⟨_, rfl, ret_is h1 rfl⟩
theorem gives167 : Gives Tryd.prog 167 [.int .i64 16] w (.bool true) := by
  refine gives_of (V167.sound ?_)
  unfold V167.vc
  exact ret_is (Below.refl _ _) (congrArg Value.bool (by decide))
end
def row65 (i : Nat) (D : List UInt8) : List Value := List.replicate i (.int .u8 0) ++ byts D
theorem row65_set (i : Nat) (D : List UInt8) (b : UInt8) : (row65 (i + 1) D).set i (.int .u8 (b.toNat : Nat)) = row65 i (b :: D) := by
  unfold row65
  rw [List.replicate_succ', List.append_assoc, List.set_append_right _ _ (by simp)]
  simp [byts]
theorem row65_at {i j : Nat} {D : List UInt8} {b : UInt8} (h : D[j]? = some b) : (row65 i D)[i + j]? = some (.int .u8 (b.toNat : Nat)) := by
  unfold row65
  rw [List.getElem?_append_right (by simp), List.length_replicate, Nat.add_sub_cancel_left]
  unfold byts; rw [List.getElem?_map, h]; rfl
theorem row65_some (i : Nat) (D : List UInt8) (j : Nat) (h : j < i) : (row65 i D)[j]? = some (.int .u8 0) := by
  unfold row65
  rw [List.getElem?_append_left (by simpa using h)]
  simp [h]
theorem dig_fin : ∀ d : Fin 16, ({ data := #[48, 49, 50, 51, 52, 53, 54, 55, 56, 57, 97, 98, 99, 100, 101, 102, 103, 104, 105, 106, 107, 108, 109, 110, 111, 112, 113, 114, 115, 116, 117, 118, 119, 120, 121, 122] } : ByteArray)[d.val]? = some (hxd d.val) := by decide
theorem dig_at {d : Nat} (h : d < 16) : ({ data := #[48, 49, 50, 51, 52, 53, 54, 55, 56, 57, 97, 98, 99, 100, 101, 102, 103, 104, 105, 106, 107, 108, 109, 110, 111, 112, 113, 114, 115, 116, 117, 118, 119, 120, 121, 122] } : ByteArray)[d]? = some (hxd d) := dig_fin ⟨d, h⟩
theorem mod16 {u : Nat} (h : u < 2 * SW) : IntKind.wrap .u64 (((BitVec.ofInt 64 (u : Int) &&& BitVec.ofInt 64 15).toNat : Nat) : Int) = ((u % 16 : Nat) : Int) := by
  have e : (BitVec.ofInt 64 (u : Int) &&& BitVec.ofInt 64 15).toNat = u % 16 := by
    rw [BitVec.toNat_and, bvn h]
    show u &&& (2 ^ 4 - 1) = _
    rw [Nat.and_two_pow_sub_one_eq_mod]
  rw [e]; exact wrapu (by have : 16 < 2 * SW := by decide
                          omega)
theorem fmt_end {w0 w : World} {g i : Nat} (hg : w0.heap.size ≤ g) {H : List UInt8} (hH : H.length = 65 - i) (hi : 1 ≤ i) (hi2 : i < 65) (hb : Below w0.heap.size w0 w) (hr : w.heap[g]? = some (.cells ⟨row65 i H⟩ 163 (0, 0))) :
    V140.b3 w0.heap.size (IsV w0 (.tuple ⟨[.slice none 0 0, .string ⟨H.toArray⟩]⟩)) none 0 0 false false none 0 0 { data := #[] } ⟨g, 0, none⟩ (i : Int) w := by
  unfold V140.b3 V140.b4
  rw [if_neg (by decide), if_neg (by decide)]
  refine ⟨by omega, by omega, ?_⟩
  rw [Int.toNat_natCast, if_neg (by omega), own_add]
  refine conv_str (e := 5) (by kernel_rfl) (by kernel_rfl) (by kernel_rfl) hb.size (ns := H) hH (fun j b hj => ?_) fun w1 h1 => ⟨_, rfl, ret_is (h1.after hb) rfl⟩
  rw [bx_add]
  exact at_cell hr (row65_at hj)
theorem l1_140 {w0 : World} {g : Nat} (hg : w0.heap.size ≤ g) {H : List UInt8} : ∀ (j u : Nat) (D : List UInt8) (w : World), u < 16 ^ (j + 1) → D.length = 15 - j → j ≤ 15 → Below w0.heap.size w0 w →
    w.heap[g]? = some (.cells ⟨row65 (50 + j) D⟩ 163 (0, 0)) → hexN u ++ D = H →
    V140.l1 w0.heap.size (IsV w0 (.tuple ⟨[.slice none 0 0, .string ⟨H.toArray⟩]⟩)) (j + 1) none 0 0 (u : Int) false false none 0 0 { data := #[] } ⟨g, 0, none⟩ ((50 + j : Nat) : Int) 4 16 15 w := by
  intro j
  induction j with
  | zero =>
    intro u D w hu hD hj hb hr hH
    have hu : u < 16 := by simpa using hu
    unfold V140.l1
    rw [if_neg (by simp; omega)]
    rw [wrap_id (n := ((50 + 0 : Nat) : Int) - 1) (by omega) (by omega), show ((50 + 0 : Nat) : Int) - 1 = ((49 : Nat) : Int) by omega]
    rw [hexN, dif_pos hu] at hH
    refine ⟨hxd u, by omega, ?_, by omega, by omega, ⟨.int .u8 0, ?_⟩, ?_, ?_⟩
    · rw [Int.toNat_natCast]; exact dig_at hu
    · rw [Int.toNat_natCast, own_add, bx_add]; exact at_cell hr (row65_some _ _ _ (by omega))
    · rw [Int.toNat_natCast, own_add, bx_add]; exact at_frozen hr _
    · rw [Int.toNat_natCast, own_add, bx_add]
      refine fmt_end hg (by rw [← hH]; simp; omega) (by omega) (by omega) (hb.setCell (by exact hg) _) ?_
      rw [Nat.add_zero, at_set hr, row65_set, ← hH]; rfl
  | succ j ih =>
    intro u D w hu hD hj hb hr hH
    have hlt : u < 2 * SW := by
      have : 16 ^ (j + 1 + 1) ≤ 16 ^ 16 := Nat.pow_le_pow_right (by omega) (by omega)
      have : 16 ^ 16 = 2 * SW := by decide
      omega
    unfold V140.l1
    rw [wrap_id (n := ((50 + (j + 1) : Nat) : Int) - 1) (by omega) (by omega), show ((50 + (j + 1) : Nat) : Int) - 1 = ((50 + j : Nat) : Int) by omega]
    by_cases h : u < 16
    · rw [if_neg (by simp; omega)]
      rw [hexN, dif_pos h] at hH
      refine ⟨hxd u, by omega, ?_, by omega, by omega, ⟨.int .u8 0, ?_⟩, ?_, ?_⟩
      · rw [Int.toNat_natCast]; exact dig_at h
      · rw [Int.toNat_natCast, own_add, bx_add]; exact at_cell hr (row65_some _ _ _ (by omega))
      · rw [Int.toNat_natCast, own_add, bx_add]; exact at_frozen hr _
      · rw [Int.toNat_natCast, own_add, bx_add]
        refine fmt_end hg (by rw [← hH]; simp; omega) (by omega) (by omega) (hb.setCell (by exact hg) _) ?_
        rw [Nat.add_zero, at_set hr, show 50 + (j + 1) = 50 + j + 1 by omega, row65_set, ← hH]; rfl
    · rw [if_pos (by simp; omega), mod16 hlt]
      have hm := Nat.mod_lt u (show 16 > 0 by omega)
      rw [hexN, dif_neg h] at hH
      refine ⟨hxd (u % 16), by omega, ?_, by omega, by omega, ⟨.int .u8 0, ?_⟩, ?_, by decide, ?_⟩
      · rw [Int.toNat_natCast]; exact dig_at hm
      · rw [Int.toNat_natCast, own_add, bx_add]; exact at_cell hr (row65_some _ _ _ (by omega))
      · rw [Int.toNat_natCast, own_add, bx_add]; exact at_frozen hr _
      · have hd : Int.fdiv (u : Int) (2 ^ min (4 : Int).toNat 64) = ((u / 16 : Nat) : Int) := by
          have : ((2 : Int) ^ min (4 : Int).toNat 64) = 16 := by decide
          rw [this, Int.fdiv_eq_ediv_of_nonneg _ (by omega)]; omega
        rw [hd, Int.toNat_natCast, own_add, bx_add]
        refine ih (u / 16) (hxd (u % 16) :: D) _ (by rw [Nat.pow_succ] at hu; omega) (by simp; omega) (by omega) (hb.setCell (by exact hg) _) ?_ (by rw [← hH]; simp)
        rw [Nat.add_zero, at_set hr, show 50 + (j + 1) = 50 + j + 1 by omega, row65_set]
theorem gives140 {w : World} (ht : Tabs w) {a : Nat} (ha : a < 2 * SW) : Gives Tryd.prog 140 [.slice none 0 0, .int .u64 (a : Int), .int .i64 16, .bool false, .bool false] w (.tuple ⟨[.slice none 0 0, .string ⟨(hexN a).toArray⟩]⟩) := by
  refine gives_of (V140.sound ?_)
  unfold V140.vc
  rw [if_pos (by decide), if_pos (by decide), if_neg (by decide)]
  simp only [Bool.false_eq_true, if_false]
  refine expo_alloc0 (F := fun w_1 w_2 => V140.b0 w.heap.size (IsV w (.tuple ⟨[.slice none 0 0, .string ⟨(hexN a).toArray⟩]⟩)) none 0 0 (a : Int) 16 false false none 0 0 { data := #[] } (⟨w_1.heap.size, 0, none⟩) 65 w_2) (Nat.le_refl _) fun w1 w2 hs he hl ho => ?_
  have e1 : IntKind.wrap .u64 16 = 16 := by decide
  have e2 : IntKind.wrap .u64 4 = 4 := by decide
  have e3 : IntKind.wrap .u64 (16 - 1) = 15 := by decide
  unfold V140.b0
  rw [e1, e3]
  refine call_gives he.below (fun _ _ _ => gives167) fun w3 h3 hb3 => ⟨_, rfl, ?_⟩
  rw [if_pos rfl]
  refine call_gives hb3 (fun w4 _ hb4 => gives168 (ht.on hb4)) fun w4 h4 hb4 => ⟨_, rfl, 16, ?_⟩
  rw [e2]
  refine l1_140 hs 15 a [] w4 (by have : 16 ^ (15 + 1) = 2 * SW := by decide
                                  omega) rfl (by omega) hb4 ?_ (by simp)
  rw [h4.row _ _ _ _ (h3.row _ _ _ _ ho)]
  rfl
theorem gives79 {w : World} (ht : Tabs w) {a : Nat} (ha : a < 2 * SW) : Gives Tryd.prog 79 [.int .u64 (a : Int), .int .i64 16] w (.string ⟨(hexN a).toArray⟩) := by
  refine gives_of (V79.sound ?_)
  unfold V79.vc
  refine call_gives (v := .string ⟨(hexN a).toArray⟩) (Below.refl _ _) (fun w1 _ h1 => ?_) fun w1 _ h1 => ⟨_, rfl, ret_is h1 rfl⟩
  refine gives_of (V109.sound ?_)
  unfold V109.vc
  rw [if_neg (by decide)]
  exact call_gives (Below.refl _ _) (fun w2 _ h2 => gives140 ((ht.on h1).on h2) ha) fun w2 _ h2 => ⟨_, _, _, _, rfl, ret_is h2 rfl⟩
end Go.Proofs.YtofblkmibghmbaaDoor
