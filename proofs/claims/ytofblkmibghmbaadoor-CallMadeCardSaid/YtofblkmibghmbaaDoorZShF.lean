import Derived.Shelf.Strings.Builder1
import Derived.Shelf.Strings.Trim
import Derived.Shelf.Small.Utf8
import Derived.Shelf.Small.Strs
import Derived.Shelf.Strings.BuilderF
import Derived.Shelf.Strings.BuilderK
import Derived.Shelf.Utf8.RuneCount
import Derived.Shelf.Strconv.Atoi
import Derived.Shelf.Strconv.Itoa0
import Derived.Shelf.Strconv.Itoa1
import Derived.Shelf.LaysM
import Derived.Shelf.Strconv.Itoa2
import Derived.Shelf.Strconv.Itoa3
import Derived.Shelf.Strconv.AtoiErrFast
import Derived.Shelf.Strconv.ParseIntEmpty
import Derived.Shelf.Strconv.AtoiFail
import Derived.Shelf.Strconv.Clone
import Derived.Shelf.Strconv.SyntaxError
import Derived.Shelf.Strconv.Lower
import Derived.Shelf.Strconv.ParseUint10
import Derived.Shelf.Strconv.ParseUint10Empty
import Derived.Shelf.Strconv.RangeError
import Derived.Shelf.Strconv.ParseUintEmpty
import Derived.Shelf.Strconv.ParseUint10b64
import Derived.Shelf.Strconv.ParseUint10b32
import Derived.Shelf.Strconv.ParseUint10b16
import Derived.Shelf.Strconv.ParseUint10b8
import Derived.Shelf.Strings.Search1
import Derived.Shelf.Strings.Search2
import Derived.Shelf.Strings.Search3
import Derived.Shelf.Strings.Count
import Derived.Shelf.Strings.Shaped
import Derived.Shelf.Strings.Prefix
import Derived.Shelf.Strings.Split
import Derived.Shelf.Strings.SplitShaped
import Derived.Shelf.Unicode.Decode
import Derived.Shelf.Strings.Runes
import Derived.Shelf.Strings.RuneCount
import Derived.Shelf.Strings.AsciiSet
import Derived.Shelf.Strings.Explode
import Derived.Shelf.Unicode.DecodeSlow
import Derived.Shelf.Unicode.DecodeAny
import Derived.Test.YtofblkmibghmbaaDoorProg
/-
  DERIVED: THE SHELF's CONTRACTS AT THIS DUMP, IN PLAIN WORDS (tools/lay-plain.mjs out of 'TrydShelf.lean', which tools/lay-shelf.mjs wrote): THE SAME DECLARATIONS UNDER THE SAME NAMES: 'import', 'namespace', 'open', 'def', 'theorem' AND NOTHING ELSE: no command of the shelf's: FOR A HAND-IN. Each laying: the table of numbers ('.._ren') and one theorem, a field a fact of the dump's own or the kernel's comparison; each contract: ONE APPLICATION.
-/
namespace Go.Proofs
open Go.Shelf
def Tryd.lays161_ren : Go.Shelf.Ren := ⟨fun | 161 => 91 | 231 => 118 | 227 => 119 | 233 => 120 | 235 => 121 | 228 => 147 | 197 => 148 | 151 => 149 | 260 => 172 | 152 => 173 | 137 => 185 | 119 => 186 | 224 => 183 | 225 => 182 | 217 => 181 | 266 => 189 | n => n, fun | 9 => 9 | 4 => 4 | 3 => 3 | 5 => 5 | 117 => 115 | 116 => 114 | 0 => 0 | 124 => 118 | 105 => 144 | 21 => 21 | 119 => 176 | 46 => 86 | 139 => 179 | 138 => 178 | n => n, fun | 3 => 5 | 4 => 6 | n => n⟩
theorem Tryd.lays161 : Go.Proofs.Lays.n161 Tryd.prog Tryd.lays161_ren := {
  mixed := by kernel_rfl
  f119 := Tryd.func186.trans (congrArg some (by kernel_rfl))
  f137 := Tryd.func185.trans (congrArg some (by kernel_rfl))
  f151 := Tryd.func149.trans (congrArg some (by kernel_rfl))
  f152 := Tryd.func173.trans (congrArg some (by kernel_rfl))
  f161 := Tryd.func91.trans (congrArg some (by kernel_rfl))
  f197 := Tryd.func148.trans (congrArg some (by kernel_rfl))
  f217 := Tryd.func181.trans (congrArg some (by kernel_rfl))
  f224 := Tryd.func183.trans (congrArg some (by kernel_rfl))
  f225 := Tryd.func182.trans (congrArg some (by kernel_rfl))
  f227 := Tryd.func119.trans (congrArg some (by kernel_rfl))
  f228 := Tryd.func147.trans (congrArg some (by kernel_rfl))
  f231 := Tryd.func118.trans (congrArg some (by kernel_rfl))
  f233 := Tryd.func120.trans (congrArg some (by kernel_rfl))
  f235 := Tryd.func121.trans (congrArg some (by kernel_rfl))
  f260 := Tryd.func172.trans (congrArg some (by kernel_rfl))
  f266 := Tryd.func189.trans (congrArg some (by kernel_rfl))
  t0 := Tryd.underlying0
  a0 := Tryd.isAgg0
  z0 := Tryd.sizeOf0
  v0 := Tryd.zeroValue0
  t3 := Tryd.underlying3
  a3 := Tryd.isAgg3
  z3 := Tryd.sizeOf3
  v3 := Tryd.zeroValue3
  t4 := Tryd.underlying4
  a4 := Tryd.isAgg4
  z4 := Tryd.sizeOf4
  v4 := Tryd.zeroValue4
  t5 := Tryd.underlying5
  a5 := Tryd.isAgg5
  z5 := Tryd.sizeOf5
  v5 := Tryd.zeroValue5
  t9 := Tryd.underlying9
  a9 := Tryd.isAgg9
  z9 := Tryd.sizeOf9
  v9 := Tryd.zeroValue9
  t21 := Tryd.underlying21
  a21 := Tryd.isAgg21
  z21 := Tryd.sizeOf21
  v21 := Tryd.zeroValue21
  t46 := Tryd.underlying86
  a46 := Tryd.isAgg86
  z46 := Tryd.sizeOf86
  v46 := Tryd.zeroValue86
  t105 := Tryd.underlying144
  a105 := Tryd.isAgg144
  z105 := Tryd.sizeOf144
  v105 := Tryd.zeroValue144
  t116 := Tryd.underlying114
  a116 := Tryd.isAgg114
  z116 := Tryd.sizeOf114
  t117 := Tryd.underlying115
  a117 := Tryd.isAgg115
  z117 := Tryd.sizeOf115
  v117 := Tryd.zeroValue115
  t119 := Tryd.underlying176
  a119 := Tryd.isAgg176
  z119 := Tryd.sizeOf176
  t124 := Tryd.underlying118
  a124 := Tryd.isAgg118
  z124 := Tryd.sizeOf118
  v124 := Tryd.zeroValue118
  t138 := Tryd.underlying178
  a138 := Tryd.isAgg178
  z138 := Tryd.sizeOf178
  v138 := Tryd.zeroValue178
  t139 := Tryd.underlying179
  a139 := Tryd.isAgg179
  z139 := Tryd.sizeOf179
  v139 := Tryd.zeroValue179
  g3 := by kernel_rfl
  g4 := by kernel_rfl }
def Tryd.laysM171_ren : Go.Shelf.Ren := ⟨fun | 171 => 78 | 243 => 108 | 246 => 136 | 283 => 137 | 284 => 138 | 285 => 139 | 286 => 140 | 129 => 165 | 317 => 164 | 318 => 166 | 319 => 167 | 320 => 168 | 337 => 179 | 338 => 180 | n => n, fun | 3 => 3 | 9 => 9 | 2 => 2 | 4 => 4 | 171 => 132 | 0 => 0 | 53 => 22 | 37 => 48 | 5 => 5 | 173 => 135 | 212 => 161 | 51 => 162 | 20 => 20 | 213 => 163 | 46 => 86 | 232 => 186 | 233 => 187 | n => n, fun | 17 => 1 | 18 => 7 | 19 => 8 | n => n⟩
theorem Tryd.laysM171 : Go.Proofs.LaysM.n171 Tryd.prog Tryd.laysM171_ren := {
  mixed := by kernel_rfl
  f129 := Tryd.func165.trans (congrArg some (by kernel_rfl))
  f171 := Tryd.func78.trans (congrArg some (by kernel_rfl))
  f243 := Tryd.func108.trans (congrArg some (by kernel_rfl))
  f246 := Tryd.func136.trans (congrArg some (by kernel_rfl))
  f283 := Tryd.func137.trans (congrArg some (by kernel_rfl))
  f284 := Tryd.func138.trans (congrArg some (by kernel_rfl))
  f285 := Tryd.func139.trans (congrArg some (by kernel_rfl))
  f286 := Tryd.func140.trans (congrArg some (by kernel_rfl))
  f317 := Tryd.func164.trans (congrArg some (by kernel_rfl))
  f318 := Tryd.func166.trans (congrArg some (by kernel_rfl))
  f319 := Tryd.func167.trans (congrArg some (by kernel_rfl))
  f320 := Tryd.func168.trans (congrArg some (by kernel_rfl))
  f337 := Tryd.func179.trans (congrArg some (by kernel_rfl))
  f338 := Tryd.func180.trans (congrArg some (by kernel_rfl))
  t0 := Tryd.underlying0
  a0 := Tryd.isAgg0
  z0 := Tryd.sizeOf0
  v0 := Tryd.zeroValue0
  t2 := Tryd.underlying2
  a2 := Tryd.isAgg2
  z2 := Tryd.sizeOf2
  v2 := Tryd.zeroValue2
  t3 := Tryd.underlying3
  a3 := Tryd.isAgg3
  z3 := Tryd.sizeOf3
  v3 := Tryd.zeroValue3
  t4 := Tryd.underlying4
  a4 := Tryd.isAgg4
  z4 := Tryd.sizeOf4
  v4 := Tryd.zeroValue4
  t5 := Tryd.underlying5
  a5 := Tryd.isAgg5
  z5 := Tryd.sizeOf5
  v5 := Tryd.zeroValue5
  t9 := Tryd.underlying9
  a9 := Tryd.isAgg9
  z9 := Tryd.sizeOf9
  v9 := Tryd.zeroValue9
  t20 := Tryd.underlying20
  a20 := Tryd.isAgg20
  z20 := Tryd.sizeOf20
  v20 := Tryd.zeroValue20
  t37 := Tryd.underlying48
  a37 := Tryd.isAgg48
  z37 := Tryd.sizeOf48
  v37 := Tryd.zeroValue48
  t46 := Tryd.underlying86
  a46 := Tryd.isAgg86
  z46 := Tryd.sizeOf86
  v46 := Tryd.zeroValue86
  t51 := Tryd.underlying162
  a51 := Tryd.isAgg162
  z51 := Tryd.sizeOf162
  v51 := Tryd.zeroValue162
  t53 := Tryd.underlying22
  a53 := Tryd.isAgg22
  z53 := Tryd.sizeOf22
  v53 := Tryd.zeroValue22
  t171 := Tryd.underlying132
  a171 := Tryd.isAgg132
  z171 := Tryd.sizeOf132
  v171 := Tryd.zeroValue132
  t173 := Tryd.underlying135
  a173 := Tryd.isAgg135
  z173 := Tryd.sizeOf135
  v173 := Tryd.zeroValue135
  t212 := Tryd.underlying161
  a212 := Tryd.isAgg161
  z212 := Tryd.sizeOf161
  v212 := Tryd.zeroValue161
  t213 := Tryd.underlying163
  a213 := Tryd.isAgg163
  z213 := Tryd.sizeOf163
  t232 := Tryd.underlying186
  a232 := Tryd.isAgg186
  z232 := Tryd.sizeOf186
  v232 := Tryd.zeroValue186
  t233 := Tryd.underlying187
  a233 := Tryd.isAgg187
  z233 := Tryd.sizeOf187
  v233 := Tryd.zeroValue187
  g17 := by kernel_rfl
  g18 := by kernel_rfl
  g19 := by kernel_rfl
  i0 := by kernel_rfl
  i2 := by kernel_rfl
  i3 := by kernel_rfl
  i4 := by kernel_rfl
  i5 := by kernel_rfl
  i9 := by kernel_rfl
  i20 := by kernel_rfl
  i37 := by kernel_rfl
  i46 := by kernel_rfl
  i51 := by kernel_rfl
  i53 := by kernel_rfl
  i171 := by kernel_rfl
  i173 := by kernel_rfl
  i212 := by kernel_rfl
  i232 := by kernel_rfl
  i233 := by kernel_rfl
  m17 := by kernel_rfl
  m18 := by kernel_rfl
  m19 := by kernel_rfl }
open Go.RowKit Go.Sort Go.Lib in
theorem Tryd.strconv_Itoa (n : Int) (h0 : -9223372036854775808 ≤ n) (h1 : n ≤ 9223372036854775807) (w : World) (htab : Lib.TabIs Tryd.prog w "internal/strconv.uint64pow10" .u64 Lib.pow10Tab) :
    Calls Tryd.prog 78 #[.int .i64 n] w fun e w' => e = .returned (.string ⟨(Lib.itoa n).toArray⟩) ∧ ∃ k os, w' = grow (w.drewN k) os := Any.strconv_Itoa Tryd.laysM171 n h0 h1 w htab
def Tryd.lays99_ren : Go.Shelf.Ren := ⟨fun | 99 => 90 | 206 => 117 | n => n, fun | 9 => 9 | 4 => 4 | 3 => 3 | n => n, fun | n => n⟩
theorem Tryd.lays99 : Go.Proofs.Lays.n99 Tryd.prog Tryd.lays99_ren := {
  mixed := by kernel_rfl
  f99 := Tryd.func90.trans (congrArg some (by kernel_rfl))
  f206 := Tryd.func117.trans (congrArg some (by kernel_rfl))
  t3 := Tryd.underlying3
  a3 := Tryd.isAgg3
  z3 := Tryd.sizeOf3
  v3 := Tryd.zeroValue3
  t4 := Tryd.underlying4
  a4 := Tryd.isAgg4
  z4 := Tryd.sizeOf4
  v4 := Tryd.zeroValue4
  t9 := Tryd.underlying9
  a9 := Tryd.isAgg9
  z9 := Tryd.sizeOf9
  v9 := Tryd.zeroValue9 }
open Go.RowKit Go.Lib in
theorem Tryd.strings_HasPrefix (s p : ByteArray) (w : World) :
    Calls Tryd.prog 90 #[.string s, .string p] w fun e w' => e = .returned (.bool (Lib.hasPrefix s.data.toList p.data.toList)) ∧ w' = w := Any.strings_HasPrefix Tryd.lays99 s p w
def Tryd.lays146_ren : Go.Shelf.Ren := ⟨fun | 146 => 88 | 221 => 116 | 268 => 144 | 138 => 145 | 143 => 146 | 195 => 169 | 197 => 148 | 218 => 170 | 219 => 171 | 260 => 172 | 217 => 181 | 225 => 182 | 224 => 183 | 267 => 184 | 266 => 189 | 314 => 190 | n => n, fun | 9 => 9 | 31 => 87 | 3 => 3 | 4 => 4 | 0 => 0 | 105 => 144 | 21 => 21 | 5 => 5 | 46 => 86 | 119 => 176 | 139 => 179 | 138 => 178 | 146 => 188 | 51 => 162 | n => n, fun | 1 => 4 | 3 => 5 | 4 => 6 | n => n⟩
theorem Tryd.lays146 : Go.Proofs.Lays.n146 Tryd.prog Tryd.lays146_ren := {
  mixed := by kernel_rfl
  f138 := Tryd.func145.trans (congrArg some (by kernel_rfl))
  f143 := Tryd.func146.trans (congrArg some (by kernel_rfl))
  f146 := Tryd.func88.trans (congrArg some (by kernel_rfl))
  f195 := Tryd.func169.trans (congrArg some (by kernel_rfl))
  f197 := Tryd.func148.trans (congrArg some (by kernel_rfl))
  f217 := Tryd.func181.trans (congrArg some (by kernel_rfl))
  f218 := Tryd.func170.trans (congrArg some (by kernel_rfl))
  f219 := Tryd.func171.trans (congrArg some (by kernel_rfl))
  f221 := Tryd.func116.trans (congrArg some (by kernel_rfl))
  f224 := Tryd.func183.trans (congrArg some (by kernel_rfl))
  f225 := Tryd.func182.trans (congrArg some (by kernel_rfl))
  f260 := Tryd.func172.trans (congrArg some (by kernel_rfl))
  f266 := Tryd.func189.trans (congrArg some (by kernel_rfl))
  f267 := Tryd.func184.trans (congrArg some (by kernel_rfl))
  f268 := Tryd.func144.trans (congrArg some (by kernel_rfl))
  f314 := Tryd.func190.trans (congrArg some (by kernel_rfl))
  t0 := Tryd.underlying0
  a0 := Tryd.isAgg0
  z0 := Tryd.sizeOf0
  v0 := Tryd.zeroValue0
  t3 := Tryd.underlying3
  a3 := Tryd.isAgg3
  z3 := Tryd.sizeOf3
  v3 := Tryd.zeroValue3
  t4 := Tryd.underlying4
  a4 := Tryd.isAgg4
  z4 := Tryd.sizeOf4
  v4 := Tryd.zeroValue4
  t5 := Tryd.underlying5
  a5 := Tryd.isAgg5
  z5 := Tryd.sizeOf5
  v5 := Tryd.zeroValue5
  t9 := Tryd.underlying9
  a9 := Tryd.isAgg9
  z9 := Tryd.sizeOf9
  v9 := Tryd.zeroValue9
  t21 := Tryd.underlying21
  a21 := Tryd.isAgg21
  z21 := Tryd.sizeOf21
  v21 := Tryd.zeroValue21
  t31 := Tryd.underlying87
  a31 := Tryd.isAgg87
  z31 := Tryd.sizeOf87
  v31 := Tryd.zeroValue87
  t46 := Tryd.underlying86
  a46 := Tryd.isAgg86
  z46 := Tryd.sizeOf86
  v46 := Tryd.zeroValue86
  t51 := Tryd.underlying162
  a51 := Tryd.isAgg162
  z51 := Tryd.sizeOf162
  v51 := Tryd.zeroValue162
  t105 := Tryd.underlying144
  a105 := Tryd.isAgg144
  z105 := Tryd.sizeOf144
  v105 := Tryd.zeroValue144
  t119 := Tryd.underlying176
  a119 := Tryd.isAgg176
  z119 := Tryd.sizeOf176
  t138 := Tryd.underlying178
  a138 := Tryd.isAgg178
  z138 := Tryd.sizeOf178
  v138 := Tryd.zeroValue178
  t139 := Tryd.underlying179
  a139 := Tryd.isAgg179
  z139 := Tryd.sizeOf179
  v139 := Tryd.zeroValue179
  t146 := Tryd.underlying188
  a146 := Tryd.isAgg188
  z146 := Tryd.sizeOf188
  v146 := Tryd.zeroValue188
  g1 := by kernel_rfl
  g3 := by kernel_rfl
  g4 := by kernel_rfl }
open Go.RowKit Go.Lib in
theorem Tryd.strings_Split (s sep : ByteArray) (m : Int) (w : World) (hs : s.size < 4294967281) (hm : w.cell? ⟨4, 0, none⟩ = some (.int .i64 m)) (h1 : 1 ≤ sep.size) :
    Calls Tryd.prog 88 #[.string s, .string sep] w fun e w' =>
      e = .returned (.slice (some ⟨w.heap.size, 0, none⟩) (Lib.countB s sep + 1) (Lib.countB s sep + 1)) ∧ w' = w.alloc (.cells ((Lib.splitB sep 0 (Lib.countB s sep) s).map Value.string).toArray 9) := Any.strings_Split Tryd.lays146 (by kernel_rfl) s sep m w hs hm h1
end Go.Proofs
