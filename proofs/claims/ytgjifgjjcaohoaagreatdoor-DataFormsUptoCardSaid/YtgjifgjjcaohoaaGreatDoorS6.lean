/- Contracts of the library's functions, as the shelf has them, at this program. -/
import Derived.Shelf.Strings.Builder1
import Derived.Shelf.Strings.Builder2
import Derived.Shelf.Strings.OnBuilder
import Derived.Shelf.Small.Strs
import Derived.Shelf.Strconv.Atoi
import Derived.Shelf.Strconv.Itoa0
import Derived.Shelf.Strconv.Itoa1
import Derived.Shelf.LaysM
import Derived.Shelf.Strconv.Itoa2
import Derived.Shelf.Strconv.Itoa3
import Derived.Shelf.Strconv.AtoiErrFast
import Derived.Shelf.Strconv.ParseIntEmpty
import Derived.Shelf.Strconv.AtoiFail
import Derived.Shelf.Strconv.Clone
import Derived.Shelf.Strconv.SyntaxError
import Derived.Shelf.LaysC
import Derived.Shelf.Strconv.ToError
import Derived.Shelf.Strconv.Lower
import Derived.Shelf.Strconv.ParseUint10
import Derived.Shelf.Strconv.ParseUint10Empty
import Derived.Shelf.Strconv.ParseUint10Any
import Derived.Shelf.Strconv.ParseInt10
import Derived.Shelf.Strconv.AtoiLong
import Derived.Shelf.Strconv.AtoiInnerAll
import Derived.Shelf.Strconv.RangeError
import Derived.Shelf.Strconv.ToErrorRange
import Derived.Shelf.Strconv.AtoiAll
import Derived.Shelf.Strconv.ErrVarAll
import Derived.Shelf.Strings.Search1
import Derived.Shelf.Strings.Prefix
import Derived.Test.YtgjifgjjcaohoaaGreatDoorProg
/- part Z1T -/
section
namespace Go.Proofs
open Go.Shelf
def Tryz.lays156_ren : Go.Shelf.Ren := ⟨fun | 156 => 55 | 165 => 67 | 166 => 68 | 169 => 69 | 240 => 79 | 241 => 80 | 276 => 97 | 277 => 98 | n => n, fun | 31 => 102 | 9 => 9 | 3 => 3 | 4 => 4 | 0 => 0 | 20 => 20 | 72 => 113 | 76 => 114 | 70 => 111 | 37 => 37 | 75 => 27 | 127 => 124 | 164 => 137 | 5 => 5 | 80 => 96 | n => n, fun | n => n⟩
theorem Tryz.lays156 : Go.Proofs.Lays.n156 Tryz.prog Tryz.lays156_ren := {
  mixed := by kernel_rfl
  f156 := Tryz.func55.trans (congrArg some (by kernel_rfl))
  f165 := Tryz.func67.trans (congrArg some (by kernel_rfl))
  f166 := Tryz.func68.trans (congrArg some (by kernel_rfl))
  f169 := Tryz.func69.trans (congrArg some (by kernel_rfl))
  f240 := Tryz.func79.trans (congrArg some (by kernel_rfl))
  f241 := Tryz.func80.trans (congrArg some (by kernel_rfl))
  f276 := Tryz.func97.trans (congrArg some (by kernel_rfl))
  f277 := Tryz.func98.trans (congrArg some (by kernel_rfl))
  t0 := Tryz.underlying0
  a0 := Tryz.isAgg0
  z0 := Tryz.sizeOf0
  v0 := Tryz.zeroValue0
  t3 := Tryz.underlying3
  a3 := Tryz.isAgg3
  z3 := Tryz.sizeOf3
  v3 := Tryz.zeroValue3
  t4 := Tryz.underlying4
  a4 := Tryz.isAgg4
  z4 := Tryz.sizeOf4
  v4 := Tryz.zeroValue4
  t9 := Tryz.underlying9
  a9 := Tryz.isAgg9
  z9 := Tryz.sizeOf9
  v9 := Tryz.zeroValue9
  t20 := Tryz.underlying20
  a20 := Tryz.isAgg20
  z20 := Tryz.sizeOf20
  v20 := Tryz.zeroValue20
  t31 := Tryz.underlying102
  a31 := Tryz.isAgg102
  z31 := Tryz.sizeOf102
  v31 := Tryz.zeroValue102
  t37 := Tryz.underlying37
  a37 := Tryz.isAgg37
  z37 := Tryz.sizeOf37
  v37 := Tryz.zeroValue37
  t70 := Tryz.underlying111
  a70 := Tryz.isAgg111
  z70 := Tryz.sizeOf111
  v70 := Tryz.zeroValue111
  t72 := Tryz.underlying113
  a72 := Tryz.isAgg113
  z72 := Tryz.sizeOf113
  v72 := Tryz.zeroValue113
  t75 := Tryz.underlying27
  a75 := Tryz.isAgg27
  z75 := Tryz.sizeOf27
  v75 := Tryz.zeroValue27
  t76 := Tryz.underlying114
  a76 := Tryz.isAgg114
  z76 := Tryz.sizeOf114
  v76 := Tryz.zeroValue114
  t127 := Tryz.underlying124
  a127 := Tryz.isAgg124
  z127 := Tryz.sizeOf124
  v127 := Tryz.zeroValue124
  t164 := Tryz.underlying137
  a164 := Tryz.isAgg137
  z164 := Tryz.sizeOf137
  v164 := Tryz.zeroValue137 }
theorem Tryz.Builder_Extra_156 : Builder.Extra Tryz.prog Tryz.lays156_ren := {
  sizeBuilder := by kernel_rfl
  liesBuilder := by kernel_rfl
  t5 := Tryz.underlying5
  a5 := Tryz.isAgg5
  z5 := Tryz.sizeOf5
  v5 := Tryz.zeroValue5
  infoByte := by kernel_rfl
  cellsByte := by kernel_rfl
  sizeByte := by kernel_rfl
  neB5 := by decide }
open Go.RowKit in
theorem Tryz.strings_Join_none (a : Option Addr) (c : Nat) (sep : ByteArray) (w : World) :
    Calls Tryz.prog 55 #[.slice a 0 c, .string sep] w fun e w' => e = .returned (.string ⟨#[]⟩) ∧ w' = w := Any.strings_Join_none Tryz.lays156 Tryz.Builder_Extra_156 a c sep w
open Go.RowKit in
theorem Tryz.strings_Join (bk o c : Nat) (xs : List ByteArray) (sep : ByteArray) (w : World) (hcells : ∀ (j : Nat) x, xs[j]? = some x → w.cell? ⟨bk, o + j, none⟩ = some (.string x)) (hbk : bk < w.heap.size) (hN : xs.length ≤ 140737488355328) (hcap : xs.length ≤ c) (hlen : (Lib.join (xs.map (·.data.toList)) sep.data.toList).length ≤ 140737488355328) :
    Calls Tryz.prog 55 #[.slice (some ⟨bk, o, none⟩) xs.length c, .string sep] w fun e w' => e = .returned (.string ⟨(Lib.join (xs.map (·.data.toList)) sep.data.toList).toArray⟩) ∧ Below w.heap.size w w' := Any.strings_Join Tryz.lays156 Tryz.Builder_Extra_156 bk o c xs sep w hcells hbk hN hcap hlen
def Tryz.lays137_ren : Go.Shelf.Ren := ⟨fun | 137 => 81 | 217 => 99 | 266 => 104 | n => n, fun | 9 => 9 | 5 => 5 | 3 => 3 | n => n, fun | n => n⟩
theorem Tryz.lays137 : Go.Proofs.Lays.n137 Tryz.prog Tryz.lays137_ren := {
  mixed := by kernel_rfl
  f137 := Tryz.func81.trans (congrArg some (by kernel_rfl))
  f217 := Tryz.func99.trans (congrArg some (by kernel_rfl))
  f266 := Tryz.func104.trans (congrArg some (by kernel_rfl))
  t3 := Tryz.underlying3
  a3 := Tryz.isAgg3
  z3 := Tryz.sizeOf3
  v3 := Tryz.zeroValue3
  t5 := Tryz.underlying5
  a5 := Tryz.isAgg5
  z5 := Tryz.sizeOf5
  v5 := Tryz.zeroValue5
  t9 := Tryz.underlying9
  a9 := Tryz.isAgg9
  z9 := Tryz.sizeOf9
  v9 := Tryz.zeroValue9 }
open Go.RowKit in
theorem Tryz.strings_IndexByte (s : ByteArray) (c : Int) (w : World) :
    Calls Tryz.prog 81 #[.string s, .int .u8 c] w fun e w' => e = .returned (.int .i64 (Lib.indexByte s.data.toList c.toNat.toUInt8)) ∧ w' = w := Any.strings_IndexByte Tryz.lays137 s c w
def Tryz.laysM171_ren : Go.Shelf.Ren := ⟨fun | 171 => 38 | 243 => 54 | 246 => 66 | 283 => 75 | 284 => 76 | 285 => 77 | 286 => 78 | 129 => 93 | 317 => 92 | 318 => 94 | 319 => 95 | 320 => 96 | 337 => 102 | 338 => 103 | n => n, fun | 3 => 3 | 9 => 9 | 2 => 2 | 4 => 4 | 171 => 119 | 0 => 0 | 53 => 82 | 37 => 37 | 5 => 5 | 173 => 122 | 212 => 132 | 51 => 133 | 20 => 20 | 213 => 134 | 46 => 135 | 232 => 142 | 233 => 143 | n => n, fun | 17 => 16 | 18 => 18 | 19 => 19 | n => n⟩
theorem Tryz.laysM171 : Go.Proofs.LaysM.n171 Tryz.prog Tryz.laysM171_ren := {
  mixed := by kernel_rfl
  f129 := Tryz.func93.trans (congrArg some (by kernel_rfl))
  f171 := Tryz.func38.trans (congrArg some (by kernel_rfl))
  f243 := Tryz.func54.trans (congrArg some (by kernel_rfl))
  f246 := Tryz.func66.trans (congrArg some (by kernel_rfl))
  f283 := Tryz.func75.trans (congrArg some (by kernel_rfl))
  f284 := Tryz.func76.trans (congrArg some (by kernel_rfl))
  f285 := Tryz.func77.trans (congrArg some (by kernel_rfl))
  f286 := Tryz.func78.trans (congrArg some (by kernel_rfl))
  f317 := Tryz.func92.trans (congrArg some (by kernel_rfl))
  f318 := Tryz.func94.trans (congrArg some (by kernel_rfl))
  f319 := Tryz.func95.trans (congrArg some (by kernel_rfl))
  f320 := Tryz.func96.trans (congrArg some (by kernel_rfl))
  f337 := Tryz.func102.trans (congrArg some (by kernel_rfl))
  f338 := Tryz.func103.trans (congrArg some (by kernel_rfl))
  t0 := Tryz.underlying0
  a0 := Tryz.isAgg0
  z0 := Tryz.sizeOf0
  v0 := Tryz.zeroValue0
  t2 := Tryz.underlying2
  a2 := Tryz.isAgg2
  z2 := Tryz.sizeOf2
  v2 := Tryz.zeroValue2
  t3 := Tryz.underlying3
  a3 := Tryz.isAgg3
  z3 := Tryz.sizeOf3
  v3 := Tryz.zeroValue3
  t4 := Tryz.underlying4
  a4 := Tryz.isAgg4
  z4 := Tryz.sizeOf4
  v4 := Tryz.zeroValue4
  t5 := Tryz.underlying5
  a5 := Tryz.isAgg5
  z5 := Tryz.sizeOf5
  v5 := Tryz.zeroValue5
  t9 := Tryz.underlying9
  a9 := Tryz.isAgg9
  z9 := Tryz.sizeOf9
  v9 := Tryz.zeroValue9
  t20 := Tryz.underlying20
  a20 := Tryz.isAgg20
  z20 := Tryz.sizeOf20
  v20 := Tryz.zeroValue20
  t37 := Tryz.underlying37
  a37 := Tryz.isAgg37
  z37 := Tryz.sizeOf37
  v37 := Tryz.zeroValue37
  t46 := Tryz.underlying135
  a46 := Tryz.isAgg135
  z46 := Tryz.sizeOf135
  v46 := Tryz.zeroValue135
  t51 := Tryz.underlying133
  a51 := Tryz.isAgg133
  z51 := Tryz.sizeOf133
  v51 := Tryz.zeroValue133
  t53 := Tryz.underlying82
  a53 := Tryz.isAgg82
  z53 := Tryz.sizeOf82
  v53 := Tryz.zeroValue82
  t171 := Tryz.underlying119
  a171 := Tryz.isAgg119
  z171 := Tryz.sizeOf119
  v171 := Tryz.zeroValue119
  t173 := Tryz.underlying122
  a173 := Tryz.isAgg122
  z173 := Tryz.sizeOf122
  v173 := Tryz.zeroValue122
  t212 := Tryz.underlying132
  a212 := Tryz.isAgg132
  z212 := Tryz.sizeOf132
  v212 := Tryz.zeroValue132
  t213 := Tryz.underlying134
  a213 := Tryz.isAgg134
  z213 := Tryz.sizeOf134
  t232 := Tryz.underlying142
  a232 := Tryz.isAgg142
  z232 := Tryz.sizeOf142
  v232 := Tryz.zeroValue142
  t233 := Tryz.underlying143
  a233 := Tryz.isAgg143
  z233 := Tryz.sizeOf143
  v233 := Tryz.zeroValue143
  g17 := by kernel_rfl
  g18 := by kernel_rfl
  g19 := by kernel_rfl
  i0 := by kernel_rfl
  i2 := by kernel_rfl
  i3 := by kernel_rfl
  i4 := by kernel_rfl
  i5 := by kernel_rfl
  i9 := by kernel_rfl
  i20 := by kernel_rfl
  i37 := by kernel_rfl
  i46 := by kernel_rfl
  i51 := by kernel_rfl
  i53 := by kernel_rfl
  i171 := by kernel_rfl
  i173 := by kernel_rfl
  i212 := by kernel_rfl
  i232 := by kernel_rfl
  i233 := by kernel_rfl
  m17 := by kernel_rfl
  m18 := by kernel_rfl
  m19 := by kernel_rfl }
open Go.RowKit Go.Sort Go.Lib in
theorem Tryz.strconv_Itoa (n : Int) (h0 : -9223372036854775808 ≤ n) (h1 : n ≤ 9223372036854775807) (w : World) (htab : Lib.TabIs Tryz.prog w "internal/strconv.uint64pow10" .u64 Lib.pow10Tab) :
    Calls Tryz.prog 38 #[.int .i64 n] w fun e w' => e = .returned (.string ⟨(Lib.itoa n).toArray⟩) ∧ ∃ k os, w' = grow (w.drewN k) os := Any.strconv_Itoa Tryz.laysM171 n h0 h1 w htab
def Tryz.laysC172_ren : Go.Shelf.Ren := ⟨fun | 172 => 100 | 244 => 105 | 245 => 106 | 247 => 107 | 279 => 108 | 280 => 109 | 281 => 110 | 282 => 111 | 287 => 112 | 316 => 113 | 171 => 38 | 205 => 114 | 321 => 115 | 322 => 116 | 243 => 54 | 246 => 66 | 283 => 75 | 284 => 76 | 285 => 77 | 286 => 78 | 129 => 93 | 317 => 92 | 318 => 94 | 319 => 95 | 320 => 96 | 337 => 102 | 338 => 103 | n => n, fun | 9 => 9 | 3 => 3 | 75 => 27 | 76 => 114 | 4 => 4 | 5 => 5 | 167 => 144 | 37 => 37 | 0 => 0 | 85 => 145 | 2 => 2 | 168 => 147 | 53 => 82 | 175 => 150 | 46 => 135 | 210 => 154 | 127 => 124 | 145 => 159 | 143 => 157 | 21 => 21 | 171 => 119 | 173 => 122 | 212 => 132 | 51 => 133 | 20 => 20 | 213 => 134 | 232 => 142 | 233 => 143 | 80 => 96 | n => n, fun | 15 => 20 | 16 => 21 | 17 => 16 | 18 => 18 | 19 => 19 | n => n⟩
theorem Tryz.laysC172 : Go.Proofs.LaysC.n172 Tryz.prog Tryz.laysC172_ren := {
  mixed := by kernel_rfl
  f129 := Tryz.func93.trans (congrArg some (by kernel_rfl))
  f171 := Tryz.func38.trans (congrArg some (by kernel_rfl))
  f172 := Tryz.func100.trans (congrArg some (by kernel_rfl))
  f205 := Tryz.func114.trans (congrArg some (by kernel_rfl))
  f243 := Tryz.func54.trans (congrArg some (by kernel_rfl))
  f244 := Tryz.func105.trans (congrArg some (by kernel_rfl))
  f245 := Tryz.func106.trans (congrArg some (by kernel_rfl))
  f246 := Tryz.func66.trans (congrArg some (by kernel_rfl))
  f247 := Tryz.func107.trans (congrArg some (by kernel_rfl))
  f279 := Tryz.func108.trans (congrArg some (by kernel_rfl))
  f280 := Tryz.func109.trans (congrArg some (by kernel_rfl))
  f281 := Tryz.func110.trans (congrArg some (by kernel_rfl))
  f282 := Tryz.func111.trans (congrArg some (by kernel_rfl))
  f283 := Tryz.func75.trans (congrArg some (by kernel_rfl))
  f284 := Tryz.func76.trans (congrArg some (by kernel_rfl))
  f285 := Tryz.func77.trans (congrArg some (by kernel_rfl))
  f286 := Tryz.func78.trans (congrArg some (by kernel_rfl))
  f287 := Tryz.func112.trans (congrArg some (by kernel_rfl))
  f316 := Tryz.func113.trans (congrArg some (by kernel_rfl))
  f317 := Tryz.func92.trans (congrArg some (by kernel_rfl))
  f318 := Tryz.func94.trans (congrArg some (by kernel_rfl))
  f319 := Tryz.func95.trans (congrArg some (by kernel_rfl))
  f320 := Tryz.func96.trans (congrArg some (by kernel_rfl))
  f321 := Tryz.func115.trans (congrArg some (by kernel_rfl))
  f322 := Tryz.func116.trans (congrArg some (by kernel_rfl))
  f337 := Tryz.func102.trans (congrArg some (by kernel_rfl))
  f338 := Tryz.func103.trans (congrArg some (by kernel_rfl))
  t0 := Tryz.underlying0
  a0 := Tryz.isAgg0
  z0 := Tryz.sizeOf0
  v0 := Tryz.zeroValue0
  t2 := Tryz.underlying2
  a2 := Tryz.isAgg2
  z2 := Tryz.sizeOf2
  v2 := Tryz.zeroValue2
  t3 := Tryz.underlying3
  a3 := Tryz.isAgg3
  z3 := Tryz.sizeOf3
  v3 := Tryz.zeroValue3
  t4 := Tryz.underlying4
  a4 := Tryz.isAgg4
  z4 := Tryz.sizeOf4
  v4 := Tryz.zeroValue4
  t5 := Tryz.underlying5
  a5 := Tryz.isAgg5
  z5 := Tryz.sizeOf5
  v5 := Tryz.zeroValue5
  t9 := Tryz.underlying9
  a9 := Tryz.isAgg9
  z9 := Tryz.sizeOf9
  v9 := Tryz.zeroValue9
  t20 := Tryz.underlying20
  a20 := Tryz.isAgg20
  z20 := Tryz.sizeOf20
  v20 := Tryz.zeroValue20
  t21 := Tryz.underlying21
  a21 := Tryz.isAgg21
  z21 := Tryz.sizeOf21
  v21 := Tryz.zeroValue21
  t37 := Tryz.underlying37
  a37 := Tryz.isAgg37
  z37 := Tryz.sizeOf37
  v37 := Tryz.zeroValue37
  t46 := Tryz.underlying135
  a46 := Tryz.isAgg135
  z46 := Tryz.sizeOf135
  v46 := Tryz.zeroValue135
  t51 := Tryz.underlying133
  a51 := Tryz.isAgg133
  z51 := Tryz.sizeOf133
  v51 := Tryz.zeroValue133
  t53 := Tryz.underlying82
  a53 := Tryz.isAgg82
  z53 := Tryz.sizeOf82
  v53 := Tryz.zeroValue82
  t75 := Tryz.underlying27
  a75 := Tryz.isAgg27
  z75 := Tryz.sizeOf27
  v75 := Tryz.zeroValue27
  t76 := Tryz.underlying114
  a76 := Tryz.isAgg114
  z76 := Tryz.sizeOf114
  v76 := Tryz.zeroValue114
  t85 := Tryz.underlying145
  a85 := Tryz.isAgg145
  z85 := Tryz.sizeOf145
  v85 := Tryz.zeroValue145
  t127 := Tryz.underlying124
  a127 := Tryz.isAgg124
  z127 := Tryz.sizeOf124
  v127 := Tryz.zeroValue124
  t143 := Tryz.underlying157
  a143 := Tryz.isAgg157
  z143 := Tryz.sizeOf157
  v143 := Tryz.zeroValue157
  t145 := Tryz.underlying159
  a145 := Tryz.isAgg159
  z145 := Tryz.sizeOf159
  v145 := Tryz.zeroValue159
  t167 := Tryz.underlying144
  a167 := Tryz.isAgg144
  z167 := Tryz.sizeOf144
  v167 := Tryz.zeroValue144
  t168 := Tryz.underlying147
  a168 := Tryz.isAgg147
  z168 := Tryz.sizeOf147
  v168 := Tryz.zeroValue147
  t171 := Tryz.underlying119
  a171 := Tryz.isAgg119
  z171 := Tryz.sizeOf119
  v171 := Tryz.zeroValue119
  t173 := Tryz.underlying122
  a173 := Tryz.isAgg122
  z173 := Tryz.sizeOf122
  v173 := Tryz.zeroValue122
  t175 := Tryz.underlying150
  a175 := Tryz.isAgg150
  z175 := Tryz.sizeOf150
  v175 := Tryz.zeroValue150
  t210 := Tryz.underlying154
  a210 := Tryz.isAgg154
  z210 := Tryz.sizeOf154
  v210 := Tryz.zeroValue154
  t212 := Tryz.underlying132
  a212 := Tryz.isAgg132
  z212 := Tryz.sizeOf132
  v212 := Tryz.zeroValue132
  t213 := Tryz.underlying134
  a213 := Tryz.isAgg134
  z213 := Tryz.sizeOf134
  t232 := Tryz.underlying142
  a232 := Tryz.isAgg142
  z232 := Tryz.sizeOf142
  v232 := Tryz.zeroValue142
  t233 := Tryz.underlying143
  a233 := Tryz.isAgg143
  z233 := Tryz.sizeOf143
  v233 := Tryz.zeroValue143
  g15 := by kernel_rfl
  g16 := by kernel_rfl
  g17 := by kernel_rfl
  g18 := by kernel_rfl
  g19 := by kernel_rfl
  t80 := Tryz.underlying96
  a80 := Tryz.isAgg96
  z80 := Tryz.sizeOf96
  v80 := Tryz.zeroValue96
  i0 := by kernel_rfl
  i2 := by kernel_rfl
  i3 := by kernel_rfl
  i4 := by kernel_rfl
  i5 := by kernel_rfl
  i9 := by kernel_rfl
  i20 := by kernel_rfl
  i21 := by kernel_rfl
  i37 := by kernel_rfl
  i46 := by kernel_rfl
  i51 := by kernel_rfl
  i53 := by kernel_rfl
  i75 := by kernel_rfl
  i76 := by kernel_rfl
  i80 := by kernel_rfl
  i85 := by kernel_rfl
  i127 := by kernel_rfl
  i143 := by kernel_rfl
  i145 := by kernel_rfl
  i167 := by kernel_rfl
  i168 := by kernel_rfl
  i171 := by kernel_rfl
  i173 := by kernel_rfl
  i175 := by kernel_rfl
  i210 := by kernel_rfl
  i212 := by kernel_rfl
  i232 := by kernel_rfl
  i233 := by kernel_rfl
  m15 := by kernel_rfl
  m16 := by kernel_rfl
  m17 := by kernel_rfl
  m18 := by kernel_rfl
  m19 := by kernel_rfl
  c0 := by kernel_rfl
  c2 := by kernel_rfl
  c3 := by kernel_rfl
  c4 := by kernel_rfl
  c5 := by kernel_rfl
  c9 := by kernel_rfl
  c20 := by kernel_rfl
  c21 := by kernel_rfl
  c37 := by kernel_rfl
  c46 := by kernel_rfl
  c51 := by kernel_rfl
  c53 := by kernel_rfl
  c75 := by kernel_rfl
  c76 := by kernel_rfl
  c80 := by kernel_rfl
  c85 := by kernel_rfl
  c127 := by kernel_rfl
  c143 := by kernel_rfl
  c145 := by kernel_rfl
  c167 := by kernel_rfl
  c168 := by kernel_rfl
  c171 := by kernel_rfl
  c173 := by kernel_rfl
  c175 := by kernel_rfl
  c210 := by kernel_rfl
  c212 := by kernel_rfl
  c213 := by kernel_rfl
  c232 := by kernel_rfl
  c233 := by kernel_rfl }
open Go.RowKit in
theorem Tryz.strconv_Atoi_ok (s : ByteArray) (hmax : s.size ≤ 9223372036854775806) (v : Int) (h : Lib.atoiAll s.data.toList = .ok v) (w : World) :
    Calls Tryz.prog 100 #[.string s] w fun e w' => e = .returned (.tuple #[.int .i64 v, .nilIface]) ∧ (w' = w ∨ ∃ t, w' = Lib.bytesWorld w 5 t) := Any.strconv_Atoi_ok Tryz.laysC172 s hmax v h w
open Go.RowKit in
theorem Tryz.strconv_Atoi_syntax (s : ByteArray) (hlim : s.size ≤ 281474976710656) (h : Lib.atoiAll s.data.toList = Lib.NumEnd.syntax) (ev : Value) (w : World) (hv : w.cell? ⟨20, 0, none⟩ = some ev) (hev : ev = .nilIface ∨ ∃ te pe, ev = .iface te pe) :
    Calls Tryz.prog 100 #[.string s] w fun e w' => ∃ N, e = .returned (.tuple #[.int .i64 (0), .iface 147 (.pointer (some ⟨N, 0, none⟩))]) ∧ w.heap.size ≤ N ∧ w'.heap[N]? = some (.cells #[.string ⟨#[65, 116, 111, 105]⟩, .string s, ev] 154 (0, 0)) ∧ Below w.heap.size w w' := Any.strconv_Atoi_syntax Tryz.laysC172 s hlim h ev w hv hev
open Go.RowKit in
theorem Tryz.strconv_Atoi_range (s : ByteArray) (hlim : s.size ≤ 281474976710656) (h : Lib.atoiAll s.data.toList = .range) (ev : Value) (w : World) (hv : w.cell? ⟨21, 0, none⟩ = some ev) (hev : ev = .nilIface ∨ ∃ te pe, ev = .iface te pe) :
    Calls Tryz.prog 100 #[.string s] w fun e w' => ∃ N, e = .returned (.tuple #[.int .i64 (Lib.atoiSat s.data.toList), .iface 147 (.pointer (some ⟨N, 0, none⟩))]) ∧ w.heap.size ≤ N ∧ w'.heap[N]? = some (.cells #[.string ⟨#[65, 116, 111, 105]⟩, .string s, ev] 154 (0, 0)) ∧ Below w.heap.size w w' := Any.strconv_Atoi_range Tryz.laysC172 s hlim h ev w hv hev
def Tryz.lays99_ren : Go.Shelf.Ren := ⟨fun | 99 => 88 | 206 => 101 | n => n, fun | 9 => 9 | 4 => 4 | 3 => 3 | n => n, fun | n => n⟩
theorem Tryz.lays99 : Go.Proofs.Lays.n99 Tryz.prog Tryz.lays99_ren := {
  mixed := by kernel_rfl
  f99 := Tryz.func88.trans (congrArg some (by kernel_rfl))
  f206 := Tryz.func101.trans (congrArg some (by kernel_rfl))
  t3 := Tryz.underlying3
  a3 := Tryz.isAgg3
  z3 := Tryz.sizeOf3
  v3 := Tryz.zeroValue3
  t4 := Tryz.underlying4
  a4 := Tryz.isAgg4
  z4 := Tryz.sizeOf4
  v4 := Tryz.zeroValue4
  t9 := Tryz.underlying9
  a9 := Tryz.isAgg9
  z9 := Tryz.sizeOf9
  v9 := Tryz.zeroValue9 }
open Go.RowKit Go.Lib in
theorem Tryz.strings_HasPrefix (s p : ByteArray) (w : World) :
    Calls Tryz.prog 88 #[.string s, .string p] w fun e w' => e = .returned (.bool (Lib.hasPrefix s.data.toList p.data.toList)) ∧ w' = w := Any.strings_HasPrefix Tryz.lays99 s p w
end Go.Proofs
end
