import Derived.Shelf.Strings.Builder1
import Derived.Shelf.Strings.BuilderF
import Derived.Shelf.Strings.BuilderK
import Derived.Shelf.Strconv.Itoa0
import Derived.Shelf.Strconv.Itoa1
import Derived.Shelf.LaysM
import Derived.Shelf.Strconv.Itoa2
import Derived.Shelf.Strconv.Itoa3
import Derived.Shelf.Strings.BuilderCap
import Derived.Ground.SlgnProg
import Derived.Shelf.SlicesE.Clone
import Derived.Test.YtidcpndlloppdaaGreatDoorProg
import Derived.Test.YtidcpndlloppdaaGreatDoorZEngG
import Derived.Test.YtidcpndlloppdaaGreatDoorZFT
import Derived.Test.YtidcpndlloppdaaGreatDoorZFU
/-
  DERIVED: THE SHELF's CONTRACTS AT THIS DUMP, IN PLAIN WORDS (tools/lay-plain.mjs out of 'TryzShelf.lean', which tools/lay-shelf.mjs wrote): THE SAME DECLARATIONS UNDER THE SAME NAMES: 'import', 'namespace', 'open', 'def', 'theorem' AND NOTHING ELSE: no command of the shelf's: FOR A HAND-IN. Each laying: the table of numbers ('.._ren') and one theorem, a field a fact of the dump's own or the kernel's comparison; each contract: ONE APPLICATION.
-/
namespace Go.Proofs
open Go.Shelf
def Tryz.lays169_ren : Go.Shelf.Ren := ⟨fun | 169 => 33 | n => n, fun | 70 => 70 | 9 => 9 | 0 => 0 | 72 => 72 | 37 => 36 | 127 => 103 | 3 => 3 | 5 => 5 | n => n, fun | n => n⟩
theorem Tryz.lays169 : Go.Proofs.Lays.n169 Tryz.prog Tryz.lays169_ren := {
  mixed := by kernel_rfl
  f169 := Tryz.func33.trans (congrArg some (by kernel_rfl))
  t0 := Tryz.underlying0
  a0 := Tryz.isAgg0
  z0 := Tryz.sizeOf0
  v0 := Tryz.zeroValue0
  t3 := Tryz.underlying3
  a3 := Tryz.isAgg3
  z3 := Tryz.sizeOf3
  v3 := Tryz.zeroValue3
  t9 := Tryz.underlying9
  a9 := Tryz.isAgg9
  z9 := Tryz.sizeOf9
  v9 := Tryz.zeroValue9
  t37 := Tryz.underlying36
  a37 := Tryz.isAgg36
  z37 := Tryz.sizeOf36
  v37 := Tryz.zeroValue36
  t70 := Tryz.underlying70
  a70 := Tryz.isAgg70
  z70 := Tryz.sizeOf70
  v70 := Tryz.zeroValue70
  t72 := Tryz.underlying72
  a72 := Tryz.isAgg72
  z72 := Tryz.sizeOf72
  v72 := Tryz.zeroValue72
  t127 := Tryz.underlying103
  a127 := Tryz.isAgg103
  z127 := Tryz.sizeOf103
  v127 := Tryz.zeroValue103 }
theorem Tryz.Builder_Extra_169 : Builder.Extra Tryz.prog Tryz.lays169_ren := {
  sizeBuilder := by kernel_rfl
  liesBuilder := by kernel_rfl
  t5 := Tryz.underlying5
  a5 := Tryz.isAgg5
  z5 := Tryz.sizeOf5
  v5 := Tryz.zeroValue5
  infoByte := by kernel_rfl
  cellsByte := by kernel_rfl
  sizeByte := by kernel_rfl
  neB5 := by decide }
open Go.RowKit in
theorem Tryz.Builder_String_any (B b : Nat) (l : List UInt8) (w : World) (h : Lib.IsBuilder 72 5 B b (Lib.byteCells l) w) (hBw : B ≤ w.heap.size) :
    Calls Tryz.prog 33 #[.pointer (some ⟨b, 0, none⟩)] w fun e w' => e = .returned (.string ⟨l.toArray⟩) ∧ Below B w w' := Any.Builder_String_any Tryz.lays169 Tryz.Builder_Extra_169 B b l w h hBw
def Tryz.laysM171_ren : Go.Shelf.Ren := ⟨fun | 171 => 57 | 243 => 80 | 246 => 113 | 283 => 114 | 284 => 115 | 285 => 116 | 286 => 117 | 129 => 137 | 317 => 136 | 318 => 138 | 319 => 139 | 320 => 140 | 337 => 145 | 338 => 146 | n => n, fun | 3 => 3 | 9 => 9 | 2 => 2 | 4 => 4 | 171 => 135 | 0 => 0 | 53 => 39 | 37 => 36 | 5 => 5 | 173 => 138 | 212 => 148 | 51 => 149 | 20 => 20 | 213 => 150 | 46 => 130 | 232 => 157 | 233 => 158 | n => n, fun | 17 => 1 | 18 => 2 | 19 => 3 | n => n⟩
theorem Tryz.laysM171 : Go.Proofs.LaysM.n171 Tryz.prog Tryz.laysM171_ren := {
  mixed := by kernel_rfl
  f129 := Tryz.func137.trans (congrArg some (by kernel_rfl))
  f171 := Tryz.func57.trans (congrArg some (by kernel_rfl))
  f243 := Tryz.func80.trans (congrArg some (by kernel_rfl))
  f246 := Tryz.func113.trans (congrArg some (by kernel_rfl))
  f283 := Tryz.func114.trans (congrArg some (by kernel_rfl))
  f284 := Tryz.func115.trans (congrArg some (by kernel_rfl))
  f285 := Tryz.func116.trans (congrArg some (by kernel_rfl))
  f286 := Tryz.func117.trans (congrArg some (by kernel_rfl))
  f317 := Tryz.func136.trans (congrArg some (by kernel_rfl))
  f318 := Tryz.func138.trans (congrArg some (by kernel_rfl))
  f319 := Tryz.func139.trans (congrArg some (by kernel_rfl))
  f320 := Tryz.func140.trans (congrArg some (by kernel_rfl))
  f337 := Tryz.func145.trans (congrArg some (by kernel_rfl))
  f338 := Tryz.func146.trans (congrArg some (by kernel_rfl))
  t0 := Tryz.underlying0
  a0 := Tryz.isAgg0
  z0 := Tryz.sizeOf0
  v0 := Tryz.zeroValue0
  t2 := Tryz.underlying2
  a2 := Tryz.isAgg2
  z2 := Tryz.sizeOf2
  v2 := Tryz.zeroValue2
  t3 := Tryz.underlying3
  a3 := Tryz.isAgg3
  z3 := Tryz.sizeOf3
  v3 := Tryz.zeroValue3
  t4 := Tryz.underlying4
  a4 := Tryz.isAgg4
  z4 := Tryz.sizeOf4
  v4 := Tryz.zeroValue4
  t5 := Tryz.underlying5
  a5 := Tryz.isAgg5
  z5 := Tryz.sizeOf5
  v5 := Tryz.zeroValue5
  t9 := Tryz.underlying9
  a9 := Tryz.isAgg9
  z9 := Tryz.sizeOf9
  v9 := Tryz.zeroValue9
  t20 := Tryz.underlying20
  a20 := Tryz.isAgg20
  z20 := Tryz.sizeOf20
  v20 := Tryz.zeroValue20
  t37 := Tryz.underlying36
  a37 := Tryz.isAgg36
  z37 := Tryz.sizeOf36
  v37 := Tryz.zeroValue36
  t46 := Tryz.underlying130
  a46 := Tryz.isAgg130
  z46 := Tryz.sizeOf130
  v46 := Tryz.zeroValue130
  t51 := Tryz.underlying149
  a51 := Tryz.isAgg149
  z51 := Tryz.sizeOf149
  v51 := Tryz.zeroValue149
  t53 := Tryz.underlying39
  a53 := Tryz.isAgg39
  z53 := Tryz.sizeOf39
  v53 := Tryz.zeroValue39
  t171 := Tryz.underlying135
  a171 := Tryz.isAgg135
  z171 := Tryz.sizeOf135
  v171 := Tryz.zeroValue135
  t173 := Tryz.underlying138
  a173 := Tryz.isAgg138
  z173 := Tryz.sizeOf138
  v173 := Tryz.zeroValue138
  t212 := Tryz.underlying148
  a212 := Tryz.isAgg148
  z212 := Tryz.sizeOf148
  v212 := Tryz.zeroValue148
  t213 := Tryz.underlying150
  a213 := Tryz.isAgg150
  z213 := Tryz.sizeOf150
  t232 := Tryz.underlying157
  a232 := Tryz.isAgg157
  z232 := Tryz.sizeOf157
  v232 := Tryz.zeroValue157
  t233 := Tryz.underlying158
  a233 := Tryz.isAgg158
  z233 := Tryz.sizeOf158
  v233 := Tryz.zeroValue158
  g17 := by kernel_rfl
  g18 := by kernel_rfl
  g19 := by kernel_rfl
  i0 := by kernel_rfl
  i2 := by kernel_rfl
  i3 := by kernel_rfl
  i4 := by kernel_rfl
  i5 := by kernel_rfl
  i9 := by kernel_rfl
  i20 := by kernel_rfl
  i37 := by kernel_rfl
  i46 := by kernel_rfl
  i51 := by kernel_rfl
  i53 := by kernel_rfl
  i171 := by kernel_rfl
  i173 := by kernel_rfl
  i212 := by kernel_rfl
  i232 := by kernel_rfl
  i233 := by kernel_rfl
  m17 := by kernel_rfl
  m18 := by kernel_rfl
  m19 := by kernel_rfl }
open Go.RowKit Go.Sort Go.Lib in
theorem Tryz.strconv_Itoa (n : Int) (h0 : -9223372036854775808 ≤ n) (h1 : n ≤ 9223372036854775807) (w : World) (htab : Lib.TabIs Tryz.prog w "internal/strconv.uint64pow10" .u64 Lib.pow10Tab) :
    Calls Tryz.prog 57 #[.int .i64 n] w fun e w' => e = .returned (.string ⟨(Lib.itoa n).toArray⟩) ∧ ∃ k os, w' = grow (w.drewN k) os := Any.strconv_Itoa Tryz.laysM171 n h0 h1 w htab
end Go.Proofs

/-
  Layer 2: hex digits: what the host's formatter returns.
  Conditions: the table of the host's library reads as the program's text lays it.
-/
set_option linter.unusedVariables false
set_option linter.unusedSimpArgs false
set_option maxRecDepth 100000
namespace Go.Proofs.YtidcpndlloppdaaGreatDoor
open Go.RowKit
def db64 : List Int := [0, 1, 56, 2, 57, 49, 28, 3, 61, 58, 42, 50, 38, 29, 17, 4, 62, 47, 59, 36, 45, 43, 51, 22, 53, 39, 33, 30, 24, 18, 12, 5, 63, 55, 48, 27, 60, 41, 37, 16, 46, 35, 44, 21, 52, 32, 23, 11, 54, 26, 40, 15, 34, 20, 31, 10, 25, 14, 19, 9, 13, 8, 7, 6]
structure Tabs (w : World) : Prop where
  ten : Lib.TabIs Tryz.prog w "internal/strconv.uint64pow10" .u64 Lib.pow10Tab
  bits : Lib.TabIs Tryz.prog w "math/bits.deBruijn64tab" .u8 db64
theorem Tabs.on {w w' : World} (h : Tabs w) (hb : Below w.heap.size w w') : Tabs w' := ⟨tab_on h.ten (Nat.le_refl _) hb, tab_on h.bits (Nat.le_refl _) hb⟩
section
variable {w : World}
theorem gives146 (ht : Tabs w) : Gives Tryz.prog 146 [.int .u64 16] w (.int .i64 4) := by
  refine gives_of (V146.sound ?_)
  unfold V146.vc
  rw [if_neg (by decide)]
  have e : (Int.fdiv (IntKind.wrap .u64 (IntKind.wrap .u64 (((BitVec.ofInt 64 16 &&& BitVec.ofInt 64 (IntKind.wrap .u64 (0 - 16))).toNat : Nat) : Int) * 285870213051353865)) (2 ^ min 58 64)) = 15 := by decide
  rw [e]
  refine ⟨by decide, by decide, by decide, 4, ?_, ret_is (Below.refl _ _) rfl⟩
  have := Lib.TabIs.cell ht.bits (g := 3) (by kernel_rfl) 15 (by decide)
  exact this
theorem gives140 (ht : Tabs w) : Gives Tryz.prog 140 [.int .u64 16] w (.int .i64 4) := by
  refine gives_of (V140.sound ?_)
  unfold V140.vc
  exact call_gives (Below.refl _ _) (fun w1 _ h1 => gives146 (ht.on h1)) fun w1 _ h1 => ⟨_, rfl, ret_is h1 rfl⟩
theorem gives139 : Gives Tryz.prog 139 [.int .i64 16] w (.bool true) := by
  refine gives_of (V139.sound ?_)
  unfold V139.vc
  exact ret_is (Below.refl _ _) (congrArg Value.bool (by decide))
end
def row65 (i : Nat) (D : List UInt8) : List Value := List.replicate i (.int .u8 0) ++ byts D
theorem row65_set (i : Nat) (D : List UInt8) (b : UInt8) : (row65 (i + 1) D).set i (.int .u8 (b.toNat : Nat)) = row65 i (b :: D) := by
  unfold row65
  rw [List.replicate_succ', List.append_assoc, List.set_append_right _ _ (by simp)]
  simp [byts]
theorem row65_at {i j : Nat} {D : List UInt8} {b : UInt8} (h : D[j]? = some b) : (row65 i D)[i + j]? = some (.int .u8 (b.toNat : Nat)) := by
  unfold row65
  rw [List.getElem?_append_right (by simp), List.length_replicate, Nat.add_sub_cancel_left]
  unfold byts; rw [List.getElem?_map, h]; rfl
theorem row65_some (i : Nat) (D : List UInt8) (j : Nat) (h : j < i) : (row65 i D)[j]? = some (.int .u8 0) := by
  unfold row65
  rw [List.getElem?_append_left (by simpa using h)]
  simp [h]
theorem dig_fin : ∀ d : Fin 16, ({ data := #[48, 49, 50, 51, 52, 53, 54, 55, 56, 57, 97, 98, 99, 100, 101, 102, 103, 104, 105, 106, 107, 108, 109, 110, 111, 112, 113, 114, 115, 116, 117, 118, 119, 120, 121, 122] } : ByteArray)[d.val]? = some (hxd d.val) := by decide
theorem dig_at {d : Nat} (h : d < 16) : ({ data := #[48, 49, 50, 51, 52, 53, 54, 55, 56, 57, 97, 98, 99, 100, 101, 102, 103, 104, 105, 106, 107, 108, 109, 110, 111, 112, 113, 114, 115, 116, 117, 118, 119, 120, 121, 122] } : ByteArray)[d]? = some (hxd d) := dig_fin ⟨d, h⟩
theorem mod16 {u : Nat} (h : u < 2 * SW) : IntKind.wrap .u64 (((BitVec.ofInt 64 (u : Int) &&& BitVec.ofInt 64 15).toNat : Nat) : Int) = ((u % 16 : Nat) : Int) := by
  have e : (BitVec.ofInt 64 (u : Int) &&& BitVec.ofInt 64 15).toNat = u % 16 := by
    rw [BitVec.toNat_and, bvn h]
    show u &&& (2 ^ 4 - 1) = _
    rw [Nat.and_two_pow_sub_one_eq_mod]
  rw [e]; exact wrapu (by have : 16 < 2 * SW := by decide
                          omega)
theorem fmt_end {w0 w : World} {g i : Nat} (hg : w0.heap.size ≤ g) {H : List UInt8} (hH : H.length = 65 - i) (hi : 1 ≤ i) (hi2 : i < 65) (hb : Below w0.heap.size w0 w) (hr : w.heap[g]? = some (.cells ⟨row65 i H⟩ 150 (0, 0))) :
    V117.b3 w0.heap.size (IsV w0 (.tuple ⟨[.slice none 0 0, .string ⟨H.toArray⟩]⟩)) none 0 0 false false none 0 0 { data := #[] } ⟨g, 0, none⟩ (i : Int) w := by
  unfold V117.b3 V117.b4
  rw [if_neg (by decide), if_neg (by decide)]
  refine ⟨by omega, by omega, ?_⟩
  rw [Int.toNat_natCast, if_neg (by omega), own_add]
  refine conv_str (e := 5) (by kernel_rfl) (by kernel_rfl) (by kernel_rfl) hb.size (ns := H) hH (fun j b hj => ?_) fun w1 h1 => ⟨_, rfl, ret_is (h1.after hb) rfl⟩
  rw [bx_add]
  exact at_cell hr (row65_at hj)
theorem l1_117 {w0 : World} {g : Nat} (hg : w0.heap.size ≤ g) {H : List UInt8} : ∀ (j u : Nat) (D : List UInt8) (w : World), u < 16 ^ (j + 1) → D.length = 15 - j → j ≤ 15 → Below w0.heap.size w0 w →
    w.heap[g]? = some (.cells ⟨row65 (50 + j) D⟩ 150 (0, 0)) → hexN u ++ D = H →
    V117.l1 w0.heap.size (IsV w0 (.tuple ⟨[.slice none 0 0, .string ⟨H.toArray⟩]⟩)) (j + 1) none 0 0 (u : Int) false false none 0 0 { data := #[] } ⟨g, 0, none⟩ ((50 + j : Nat) : Int) 4 16 15 w := by
  intro j
  induction j with
  | zero =>
    intro u D w hu hD hj hb hr hH
    have hu : u < 16 := by simpa using hu
    unfold V117.l1
    rw [if_neg (by simp; omega)]
    rw [wrap_id (n := ((50 + 0 : Nat) : Int) - 1) (by omega) (by omega), show ((50 + 0 : Nat) : Int) - 1 = ((49 : Nat) : Int) by omega]
    rw [hexN, dif_pos hu] at hH
    refine ⟨hxd u, by omega, ?_, by omega, by omega, ⟨.int .u8 0, ?_⟩, ?_, ?_⟩
    · rw [Int.toNat_natCast]; exact dig_at hu
    · rw [Int.toNat_natCast, own_add, bx_add]; exact at_cell hr (row65_some _ _ _ (by omega))
    · rw [Int.toNat_natCast, own_add, bx_add]; exact at_frozen hr _
    · rw [Int.toNat_natCast, own_add, bx_add]
      refine fmt_end hg (by rw [← hH]; simp; omega) (by omega) (by omega) (hb.setCell (by exact hg) _) ?_
      rw [Nat.add_zero, at_set hr, row65_set, ← hH]; rfl
  | succ j ih =>
    intro u D w hu hD hj hb hr hH
    have hlt : u < 2 * SW := by
      have : 16 ^ (j + 1 + 1) ≤ 16 ^ 16 := Nat.pow_le_pow_right (by omega) (by omega)
      have : 16 ^ 16 = 2 * SW := by decide
      omega
    unfold V117.l1
    rw [wrap_id (n := ((50 + (j + 1) : Nat) : Int) - 1) (by omega) (by omega), show ((50 + (j + 1) : Nat) : Int) - 1 = ((50 + j : Nat) : Int) by omega]
    by_cases h : u < 16
    · rw [if_neg (by simp; omega)]
      rw [hexN, dif_pos h] at hH
      refine ⟨hxd u, by omega, ?_, by omega, by omega, ⟨.int .u8 0, ?_⟩, ?_, ?_⟩
      · rw [Int.toNat_natCast]; exact dig_at h
      · rw [Int.toNat_natCast, own_add, bx_add]; exact at_cell hr (row65_some _ _ _ (by omega))
      · rw [Int.toNat_natCast, own_add, bx_add]; exact at_frozen hr _
      · rw [Int.toNat_natCast, own_add, bx_add]
        refine fmt_end hg (by rw [← hH]; simp; omega) (by omega) (by omega) (hb.setCell (by exact hg) _) ?_
        rw [Nat.add_zero, at_set hr, show 50 + (j + 1) = 50 + j + 1 by omega, row65_set, ← hH]; rfl
    · rw [if_pos (by simp; omega), mod16 hlt]
      have hm := Nat.mod_lt u (show 16 > 0 by omega)
      rw [hexN, dif_neg h] at hH
      refine ⟨hxd (u % 16), by omega, ?_, by omega, by omega, ⟨.int .u8 0, ?_⟩, ?_, by decide, ?_⟩
      · rw [Int.toNat_natCast]; exact dig_at hm
      · rw [Int.toNat_natCast, own_add, bx_add]; exact at_cell hr (row65_some _ _ _ (by omega))
      · rw [Int.toNat_natCast, own_add, bx_add]; exact at_frozen hr _
      · have hd : Int.fdiv (u : Int) (2 ^ min (4 : Int).toNat 64) = ((u / 16 : Nat) : Int) := by
          have : ((2 : Int) ^ min (4 : Int).toNat 64) = 16 := by decide
          rw [this, Int.fdiv_eq_ediv_of_nonneg _ (by omega)]; omega
        rw [hd, Int.toNat_natCast, own_add, bx_add]
        refine ih (u / 16) (hxd (u % 16) :: D) _ (by rw [Nat.pow_succ] at hu; omega) (by simp; omega) (by omega) (hb.setCell (by exact hg) _) ?_ (by rw [← hH]; simp)
        rw [Nat.add_zero, at_set hr, show 50 + (j + 1) = 50 + j + 1 by omega, row65_set]
theorem gives117 {w : World} (ht : Tabs w) {a : Nat} (ha : a < 2 * SW) : Gives Tryz.prog 117 [.slice none 0 0, .int .u64 (a : Int), .int .i64 16, .bool false, .bool false] w (.tuple ⟨[.slice none 0 0, .string ⟨(hexN a).toArray⟩]⟩) := by
  refine gives_of (V117.sound ?_)
  unfold V117.vc
  rw [if_pos (by decide), if_pos (by decide), if_neg (by decide)]
  simp only [Bool.false_eq_true, if_false]
  refine expo_alloc0 (F := fun w_1 w_2 => V117.b0 w.heap.size (IsV w (.tuple ⟨[.slice none 0 0, .string ⟨(hexN a).toArray⟩]⟩)) none 0 0 (a : Int) 16 false false none 0 0 { data := #[] } (⟨w_1.heap.size, 0, none⟩) 65 w_2) (Nat.le_refl _) fun w1 w2 hs he hl ho => ?_
  have e1 : IntKind.wrap .u64 16 = 16 := by decide
  have e2 : IntKind.wrap .u64 4 = 4 := by decide
  have e3 : IntKind.wrap .u64 (16 - 1) = 15 := by decide
  unfold V117.b0
  rw [e1, e3]
  refine call_gives he.below (fun _ _ _ => gives139) fun w3 h3 hb3 => ⟨_, rfl, ?_⟩
  rw [if_pos rfl]
  refine call_gives hb3 (fun w4 _ hb4 => gives140 (ht.on hb4)) fun w4 h4 hb4 => ⟨_, rfl, 16, ?_⟩
  rw [e2]
  refine l1_117 hs 15 a [] w4 (by have : 16 ^ (15 + 1) = 2 * SW := by decide
                                  omega) rfl (by omega) hb4 ?_ (by simp)
  rw [h4.row _ _ _ _ (h3.row _ _ _ _ ho)]
  rfl
theorem gives58 {w : World} (ht : Tabs w) {a : Nat} (ha : a < 2 * SW) : Gives Tryz.prog 58 [.int .u64 (a : Int), .int .i64 16] w (.string ⟨(hexN a).toArray⟩) := by
  refine gives_of (V58.sound ?_)
  unfold V58.vc
  refine call_gives (v := .string ⟨(hexN a).toArray⟩) (Below.refl _ _) (fun w1 _ h1 => ?_) fun w1 _ h1 => ⟨_, rfl, ret_is h1 rfl⟩
  refine gives_of (V81.sound ?_)
  unfold V81.vc
  rw [if_neg (by decide)]
  exact call_gives (Below.refl _ _) (fun w2 _ h2 => gives117 ((ht.on h1).on h2) ha) fun w2 _ h2 => ⟨_, _, _, _, rfl, ret_is h2 rfl⟩
end Go.Proofs.YtidcpndlloppdaaGreatDoor
