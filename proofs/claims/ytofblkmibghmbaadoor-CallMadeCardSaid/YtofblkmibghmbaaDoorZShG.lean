import Derived.Test.YtofblkmibghmbaaDoorZShF
import Derived.Shelf.Strings.SlTrimAscii
import Derived.Shelf.LaysC
import Derived.Shelf.Strconv.ToError
import Derived.Shelf.Strconv.ParseUint10Any
import Derived.Shelf.Strconv.ParseInt10
import Derived.Shelf.Strconv.AtoiLong
import Derived.Shelf.Strconv.AtoiInnerAll
import Derived.Shelf.Strconv.ToErrorRange
import Derived.Shelf.Strconv.AtoiAll
import Derived.Shelf.Strconv.ErrVarAll
import Derived.Test.YtofblkmibghmbaaDoorProg
/-
  The host library's contracts for strconv.Atoi and strings.TrimLeft at this program, laid in plain words.
  Conditions: each contract's own.
-/
set_option linter.unusedVariables false
namespace Go.Proofs
open Go.Shelf
def Tryd.laysC172_ren : Go.Shelf.Ren := ⟨fun | 172 => 92 | 244 => 122 | 245 => 123 | 247 => 150 | 279 => 151 | 280 => 152 | 281 => 153 | 282 => 154 | 287 => 174 | 316 => 175 | 171 => 78 | 205 => 176 | 321 => 187 | 322 => 188 | 243 => 108 | 246 => 136 | 283 => 137 | 284 => 138 | 285 => 139 | 286 => 140 | 129 => 165 | 317 => 164 | 318 => 166 | 319 => 167 | 320 => 168 | 337 => 179 | 338 => 180 | n => n, fun | 9 => 9 | 3 => 3 | 75 => 93 | 76 => 94 | 4 => 4 | 5 => 5 | 167 => 147 | 37 => 48 | 0 => 0 | 85 => 148 | 2 => 2 | 168 => 150 | 53 => 22 | 175 => 168 | 46 => 86 | 210 => 172 | 127 => 130 | 145 => 185 | 143 => 183 | 21 => 21 | 171 => 132 | 173 => 135 | 212 => 161 | 51 => 162 | 20 => 20 | 213 => 163 | 232 => 186 | 233 => 187 | 80 => 110 | n => n, fun | 15 => 2 | 16 => 3 | 17 => 1 | 18 => 7 | 19 => 8 | n => n⟩
theorem Tryd.laysC172 : Go.Proofs.LaysC.n172 Tryd.prog Tryd.laysC172_ren := {
  mixed := by kernel_rfl
  f129 := Tryd.func165.trans (congrArg some (by kernel_rfl))
  f171 := Tryd.func78.trans (congrArg some (by kernel_rfl))
  f172 := Tryd.func92.trans (congrArg some (by kernel_rfl))
  f205 := Tryd.func176.trans (congrArg some (by kernel_rfl))
  f243 := Tryd.func108.trans (congrArg some (by kernel_rfl))
  f244 := Tryd.func122.trans (congrArg some (by kernel_rfl))
  f245 := Tryd.func123.trans (congrArg some (by kernel_rfl))
  f246 := Tryd.func136.trans (congrArg some (by kernel_rfl))
  f247 := Tryd.func150.trans (congrArg some (by kernel_rfl))
  f279 := Tryd.func151.trans (congrArg some (by kernel_rfl))
  f280 := Tryd.func152.trans (congrArg some (by kernel_rfl))
  f281 := Tryd.func153.trans (congrArg some (by kernel_rfl))
  f282 := Tryd.func154.trans (congrArg some (by kernel_rfl))
  f283 := Tryd.func137.trans (congrArg some (by kernel_rfl))
  f284 := Tryd.func138.trans (congrArg some (by kernel_rfl))
  f285 := Tryd.func139.trans (congrArg some (by kernel_rfl))
  f286 := Tryd.func140.trans (congrArg some (by kernel_rfl))
  f287 := Tryd.func174.trans (congrArg some (by kernel_rfl))
  f316 := Tryd.func175.trans (congrArg some (by kernel_rfl))
  f317 := Tryd.func164.trans (congrArg some (by kernel_rfl))
  f318 := Tryd.func166.trans (congrArg some (by kernel_rfl))
  f319 := Tryd.func167.trans (congrArg some (by kernel_rfl))
  f320 := Tryd.func168.trans (congrArg some (by kernel_rfl))
  f321 := Tryd.func187.trans (congrArg some (by kernel_rfl))
  f322 := Tryd.func188.trans (congrArg some (by kernel_rfl))
  f337 := Tryd.func179.trans (congrArg some (by kernel_rfl))
  f338 := Tryd.func180.trans (congrArg some (by kernel_rfl))
  t0 := Tryd.underlying0
  a0 := Tryd.isAgg0
  z0 := Tryd.sizeOf0
  v0 := Tryd.zeroValue0
  t2 := Tryd.underlying2
  a2 := Tryd.isAgg2
  z2 := Tryd.sizeOf2
  v2 := Tryd.zeroValue2
  t3 := Tryd.underlying3
  a3 := Tryd.isAgg3
  z3 := Tryd.sizeOf3
  v3 := Tryd.zeroValue3
  t4 := Tryd.underlying4
  a4 := Tryd.isAgg4
  z4 := Tryd.sizeOf4
  v4 := Tryd.zeroValue4
  t5 := Tryd.underlying5
  a5 := Tryd.isAgg5
  z5 := Tryd.sizeOf5
  v5 := Tryd.zeroValue5
  t9 := Tryd.underlying9
  a9 := Tryd.isAgg9
  z9 := Tryd.sizeOf9
  v9 := Tryd.zeroValue9
  t20 := Tryd.underlying20
  a20 := Tryd.isAgg20
  z20 := Tryd.sizeOf20
  v20 := Tryd.zeroValue20
  t21 := Tryd.underlying21
  a21 := Tryd.isAgg21
  z21 := Tryd.sizeOf21
  v21 := Tryd.zeroValue21
  t37 := Tryd.underlying48
  a37 := Tryd.isAgg48
  z37 := Tryd.sizeOf48
  v37 := Tryd.zeroValue48
  t46 := Tryd.underlying86
  a46 := Tryd.isAgg86
  z46 := Tryd.sizeOf86
  v46 := Tryd.zeroValue86
  t51 := Tryd.underlying162
  a51 := Tryd.isAgg162
  z51 := Tryd.sizeOf162
  v51 := Tryd.zeroValue162
  t53 := Tryd.underlying22
  a53 := Tryd.isAgg22
  z53 := Tryd.sizeOf22
  v53 := Tryd.zeroValue22
  t75 := Tryd.underlying93
  a75 := Tryd.isAgg93
  z75 := Tryd.sizeOf93
  v75 := Tryd.zeroValue93
  t76 := Tryd.underlying94
  a76 := Tryd.isAgg94
  z76 := Tryd.sizeOf94
  v76 := Tryd.zeroValue94
  t85 := Tryd.underlying148
  a85 := Tryd.isAgg148
  z85 := Tryd.sizeOf148
  v85 := Tryd.zeroValue148
  t127 := Tryd.underlying130
  a127 := Tryd.isAgg130
  z127 := Tryd.sizeOf130
  v127 := Tryd.zeroValue130
  t143 := Tryd.underlying183
  a143 := Tryd.isAgg183
  z143 := Tryd.sizeOf183
  v143 := Tryd.zeroValue183
  t145 := Tryd.underlying185
  a145 := Tryd.isAgg185
  z145 := Tryd.sizeOf185
  v145 := Tryd.zeroValue185
  t167 := Tryd.underlying147
  a167 := Tryd.isAgg147
  z167 := Tryd.sizeOf147
  v167 := Tryd.zeroValue147
  t168 := Tryd.underlying150
  a168 := Tryd.isAgg150
  z168 := Tryd.sizeOf150
  v168 := Tryd.zeroValue150
  t171 := Tryd.underlying132
  a171 := Tryd.isAgg132
  z171 := Tryd.sizeOf132
  v171 := Tryd.zeroValue132
  t173 := Tryd.underlying135
  a173 := Tryd.isAgg135
  z173 := Tryd.sizeOf135
  v173 := Tryd.zeroValue135
  t175 := Tryd.underlying168
  a175 := Tryd.isAgg168
  z175 := Tryd.sizeOf168
  v175 := Tryd.zeroValue168
  t210 := Tryd.underlying172
  a210 := Tryd.isAgg172
  z210 := Tryd.sizeOf172
  v210 := Tryd.zeroValue172
  t212 := Tryd.underlying161
  a212 := Tryd.isAgg161
  z212 := Tryd.sizeOf161
  v212 := Tryd.zeroValue161
  t213 := Tryd.underlying163
  a213 := Tryd.isAgg163
  z213 := Tryd.sizeOf163
  t232 := Tryd.underlying186
  a232 := Tryd.isAgg186
  z232 := Tryd.sizeOf186
  v232 := Tryd.zeroValue186
  t233 := Tryd.underlying187
  a233 := Tryd.isAgg187
  z233 := Tryd.sizeOf187
  v233 := Tryd.zeroValue187
  g15 := by kernel_rfl
  g16 := by kernel_rfl
  g17 := by kernel_rfl
  g18 := by kernel_rfl
  g19 := by kernel_rfl
  t80 := Tryd.underlying110
  a80 := Tryd.isAgg110
  z80 := Tryd.sizeOf110
  v80 := Tryd.zeroValue110
  i0 := by kernel_rfl
  i2 := by kernel_rfl
  i3 := by kernel_rfl
  i4 := by kernel_rfl
  i5 := by kernel_rfl
  i9 := by kernel_rfl
  i20 := by kernel_rfl
  i21 := by kernel_rfl
  i37 := by kernel_rfl
  i46 := by kernel_rfl
  i51 := by kernel_rfl
  i53 := by kernel_rfl
  i75 := by kernel_rfl
  i76 := by kernel_rfl
  i80 := by kernel_rfl
  i85 := by kernel_rfl
  i127 := by kernel_rfl
  i143 := by kernel_rfl
  i145 := by kernel_rfl
  i167 := by kernel_rfl
  i168 := by kernel_rfl
  i171 := by kernel_rfl
  i173 := by kernel_rfl
  i175 := by kernel_rfl
  i210 := by kernel_rfl
  i212 := by kernel_rfl
  i232 := by kernel_rfl
  i233 := by kernel_rfl
  m15 := by kernel_rfl
  m16 := by kernel_rfl
  m17 := by kernel_rfl
  m18 := by kernel_rfl
  m19 := by kernel_rfl
  c0 := by kernel_rfl
  c2 := by kernel_rfl
  c3 := by kernel_rfl
  c4 := by kernel_rfl
  c5 := by kernel_rfl
  c9 := by kernel_rfl
  c20 := by kernel_rfl
  c21 := by kernel_rfl
  c37 := by kernel_rfl
  c46 := by kernel_rfl
  c51 := by kernel_rfl
  c53 := by kernel_rfl
  c75 := by kernel_rfl
  c76 := by kernel_rfl
  c80 := by kernel_rfl
  c85 := by kernel_rfl
  c127 := by kernel_rfl
  c143 := by kernel_rfl
  c145 := by kernel_rfl
  c167 := by kernel_rfl
  c168 := by kernel_rfl
  c171 := by kernel_rfl
  c173 := by kernel_rfl
  c175 := by kernel_rfl
  c210 := by kernel_rfl
  c212 := by kernel_rfl
  c213 := by kernel_rfl
  c232 := by kernel_rfl
  c233 := by kernel_rfl }
open Go.RowKit in
theorem Tryd.strconv_Atoi_ok (s : ByteArray) (hmax : s.size ≤ 9223372036854775806) (v : Int) (h : Lib.atoiAll s.data.toList = .ok v) (w : World) :
    Calls Tryd.prog 92 #[.string s] w fun e w' => e = .returned (.tuple #[.int .i64 v, .nilIface]) ∧ (w' = w ∨ ∃ t, w' = Lib.bytesWorld w 5 t) := Any.strconv_Atoi_ok Tryd.laysC172 s hmax v h w
open Go.RowKit in
theorem Tryd.strconv_Atoi_syntax (s : ByteArray) (hlim : s.size ≤ 281474976710656) (h : Lib.atoiAll s.data.toList = .«syntax») (ev : Value) (w : World) (hv : w.cell? ⟨2, 0, none⟩ = some ev) (hev : ev = .nilIface ∨ ∃ te pe, ev = .iface te pe) :
    Calls Tryd.prog 92 #[.string s] w fun e w' => ∃ N, e = .returned (.tuple #[.int .i64 (0), .iface 150 (.pointer (some ⟨N, 0, none⟩))]) ∧ w.heap.size ≤ N ∧ w'.heap[N]? = some (.cells #[.string ⟨#[65, 116, 111, 105]⟩, .string s, ev] 172 (0, 0)) ∧ Below w.heap.size w w' := Any.strconv_Atoi_syntax Tryd.laysC172 s hlim h ev w hv hev
open Go.RowKit in
theorem Tryd.strconv_Atoi_range (s : ByteArray) (hlim : s.size ≤ 281474976710656) (h : Lib.atoiAll s.data.toList = .range) (ev : Value) (w : World) (hv : w.cell? ⟨3, 0, none⟩ = some ev) (hev : ev = .nilIface ∨ ∃ te pe, ev = .iface te pe) :
    Calls Tryd.prog 92 #[.string s] w fun e w' => ∃ N, e = .returned (.tuple #[.int .i64 (Lib.atoiSat s.data.toList), .iface 150 (.pointer (some ⟨N, 0, none⟩))]) ∧ w.heap.size ≤ N ∧ w'.heap[N]? = some (.cells #[.string ⟨#[65, 116, 111, 105]⟩, .string s, ev] 172 (0, 0)) ∧ Below w.heap.size w w' := Any.strconv_Atoi_range Tryd.laysC172 s hlim h ev w hv hev
end Go.Proofs
