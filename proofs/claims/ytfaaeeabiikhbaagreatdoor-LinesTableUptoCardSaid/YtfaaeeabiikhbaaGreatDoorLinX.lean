/- Contracts of Go's library at this dump, off the shelf, and its package variables: printed by a program of this session's. Conditions: none. -/
import Derived.Test.YtfaaeeabiikhbaaGreatDoorBH
import Derived.Shelf.LaysM
import Derived.Test.YtfaaeeabiikhbaaGreatDoorErrWf
import Derived.Shelf.Strconv.Itoa3
import Derived.Shelf.Strings.Split
import Derived.Shelf.Strconv.Quote
import Derived.Shelf.Strings.OnBuilder
import Derived.Shelf.Strconv.AtoiAll
import Derived.Test.YtfaaeeabiikhbaaGreatDoorProg
namespace Go.Proofs
open Go.Shelf
set_option maxRecDepth 100000
set_option linter.unusedVariables false
def Tryz.laysM171_ren : Go.Shelf.Ren := ⟨fun | 171 => 38 | 243 => 61 | 246 => 79 | 283 => 95 | 284 => 96 | 285 => 97 | 286 => 98 | 129 => 109 | 317 => 108 | 318 => 110 | 319 => 111 | 320 => 112 | 337 => 124 | 338 => 125 | n => n, fun | 3 => 3 | 9 => 9 | 2 => 2 | 4 => 4 | 171 => 185 | 0 => 0 | 53 => 186 | 37 => 124 | 5 => 5 | 173 => 189 | 212 => 204 | 51 => 22 | 20 => 20 | 213 => 205 | 46 => 125 | 232 => 222 | 233 => 223 | n => n, fun | 17 => 3 | 18 => 12 | 19 => 13 | n => n⟩
theorem Tryz.laysM171 : Go.Proofs.LaysM.n171 Tryz.prog Tryz.laysM171_ren := {
  mixed := by kernel_rfl
  f129 := Tryz.func109.trans (congrArg some (by kernel_rfl))
  f171 := Tryz.func38.trans (congrArg some (by kernel_rfl))
  f243 := Tryz.func61.trans (congrArg some (by kernel_rfl))
  f246 := Tryz.func79.trans (congrArg some (by kernel_rfl))
  f283 := Tryz.func95.trans (congrArg some (by kernel_rfl))
  f284 := Tryz.func96.trans (congrArg some (by kernel_rfl))
  f285 := Tryz.func97.trans (congrArg some (by kernel_rfl))
  f286 := Tryz.func98.trans (congrArg some (by kernel_rfl))
  f317 := Tryz.func108.trans (congrArg some (by kernel_rfl))
  f318 := Tryz.func110.trans (congrArg some (by kernel_rfl))
  f319 := Tryz.func111.trans (congrArg some (by kernel_rfl))
  f320 := Tryz.func112.trans (congrArg some (by kernel_rfl))
  f337 := Tryz.func124.trans (congrArg some (by kernel_rfl))
  f338 := Tryz.func125.trans (congrArg some (by kernel_rfl))
  t0 := Tryz.underlying0
  a0 := Tryz.isAgg0
  z0 := Tryz.sizeOf0
  v0 := Tryz.zeroValue0
  t2 := Tryz.underlying2
  a2 := Tryz.isAgg2
  z2 := Tryz.sizeOf2
  v2 := Tryz.zeroValue2
  t3 := Tryz.underlying3
  a3 := Tryz.isAgg3
  z3 := Tryz.sizeOf3
  v3 := Tryz.zeroValue3
  t4 := Tryz.underlying4
  a4 := Tryz.isAgg4
  z4 := Tryz.sizeOf4
  v4 := Tryz.zeroValue4
  t5 := Tryz.underlying5
  a5 := Tryz.isAgg5
  z5 := Tryz.sizeOf5
  v5 := Tryz.zeroValue5
  t9 := Tryz.underlying9
  a9 := Tryz.isAgg9
  z9 := Tryz.sizeOf9
  v9 := Tryz.zeroValue9
  t20 := Tryz.underlying20
  a20 := Tryz.isAgg20
  z20 := Tryz.sizeOf20
  v20 := Tryz.zeroValue20
  t37 := Tryz.underlying124
  a37 := Tryz.isAgg124
  z37 := Tryz.sizeOf124
  v37 := Tryz.zeroValue124
  t46 := Tryz.underlying125
  a46 := Tryz.isAgg125
  z46 := Tryz.sizeOf125
  v46 := Tryz.zeroValue125
  t51 := Tryz.underlying22
  a51 := Tryz.isAgg22
  z51 := Tryz.sizeOf22
  v51 := Tryz.zeroValue22
  t53 := Tryz.underlying186
  a53 := Tryz.isAgg186
  z53 := Tryz.sizeOf186
  v53 := Tryz.zeroValue186
  t171 := Tryz.underlying185
  a171 := Tryz.isAgg185
  z171 := Tryz.sizeOf185
  v171 := Tryz.zeroValue185
  t173 := Tryz.underlying189
  a173 := Tryz.isAgg189
  z173 := Tryz.sizeOf189
  v173 := Tryz.zeroValue189
  t212 := Tryz.underlying204
  a212 := Tryz.isAgg204
  z212 := Tryz.sizeOf204
  v212 := Tryz.zeroValue204
  t213 := Tryz.underlying205
  a213 := Tryz.isAgg205
  z213 := Tryz.sizeOf205
  t232 := Tryz.underlying222
  a232 := Tryz.isAgg222
  z232 := Tryz.sizeOf222
  v232 := Tryz.zeroValue222
  t233 := Tryz.underlying223
  a233 := Tryz.isAgg223
  z233 := Tryz.sizeOf223
  v233 := Tryz.zeroValue223
  g17 := by kernel_rfl
  g18 := by kernel_rfl
  g19 := by kernel_rfl
  i0 := by kernel_rfl
  i2 := by kernel_rfl
  i3 := by kernel_rfl
  i4 := by kernel_rfl
  i5 := by kernel_rfl
  i9 := by kernel_rfl
  i20 := by kernel_rfl
  i37 := by kernel_rfl
  i46 := by kernel_rfl
  i51 := by kernel_rfl
  i53 := by kernel_rfl
  i171 := by kernel_rfl
  i173 := by kernel_rfl
  i212 := by kernel_rfl
  i232 := by kernel_rfl
  i233 := by kernel_rfl
  m17 := by kernel_rfl
  m18 := by kernel_rfl
  m19 := by kernel_rfl }
def Tryz.lays146_ren : Go.Shelf.Ren := ⟨fun | 146 => 39 | 221 => 62 | 268 => 80 | 138 => 81 | 143 => 82 | 195 => 99 | 197 => 100 | 218 => 101 | 219 => 102 | 260 => 113 | 217 => 114 | 225 => 115 | 224 => 116 | 267 => 117 | 266 => 126 | 314 => 127 | n => n, fun | 9 => 9 | 31 => 27 | 3 => 3 | 4 => 4 | 0 => 0 | 105 => 192 | 21 => 21 | 5 => 5 | 46 => 125 | 119 => 212 | 139 => 215 | 138 => 214 | 146 => 216 | 51 => 22 | n => n, fun | 1 => 4 | 3 => 5 | 4 => 6 | n => n⟩
theorem Tryz.lays146 : Go.Proofs.Lays.n146 Tryz.prog Tryz.lays146_ren := {
  mixed := by kernel_rfl
  f138 := Tryz.func81.trans (congrArg some (by kernel_rfl))
  f143 := Tryz.func82.trans (congrArg some (by kernel_rfl))
  f146 := Tryz.func39.trans (congrArg some (by kernel_rfl))
  f195 := Tryz.func99.trans (congrArg some (by kernel_rfl))
  f197 := Tryz.func100.trans (congrArg some (by kernel_rfl))
  f217 := Tryz.func114.trans (congrArg some (by kernel_rfl))
  f218 := Tryz.func101.trans (congrArg some (by kernel_rfl))
  f219 := Tryz.func102.trans (congrArg some (by kernel_rfl))
  f221 := Tryz.func62.trans (congrArg some (by kernel_rfl))
  f224 := Tryz.func116.trans (congrArg some (by kernel_rfl))
  f225 := Tryz.func115.trans (congrArg some (by kernel_rfl))
  f260 := Tryz.func113.trans (congrArg some (by kernel_rfl))
  f266 := Tryz.func126.trans (congrArg some (by kernel_rfl))
  f267 := Tryz.func117.trans (congrArg some (by kernel_rfl))
  f268 := Tryz.func80.trans (congrArg some (by kernel_rfl))
  f314 := Tryz.func127.trans (congrArg some (by kernel_rfl))
  t0 := Tryz.underlying0
  a0 := Tryz.isAgg0
  z0 := Tryz.sizeOf0
  v0 := Tryz.zeroValue0
  t3 := Tryz.underlying3
  a3 := Tryz.isAgg3
  z3 := Tryz.sizeOf3
  v3 := Tryz.zeroValue3
  t4 := Tryz.underlying4
  a4 := Tryz.isAgg4
  z4 := Tryz.sizeOf4
  v4 := Tryz.zeroValue4
  t5 := Tryz.underlying5
  a5 := Tryz.isAgg5
  z5 := Tryz.sizeOf5
  v5 := Tryz.zeroValue5
  t9 := Tryz.underlying9
  a9 := Tryz.isAgg9
  z9 := Tryz.sizeOf9
  v9 := Tryz.zeroValue9
  t21 := Tryz.underlying21
  a21 := Tryz.isAgg21
  z21 := Tryz.sizeOf21
  v21 := Tryz.zeroValue21
  t31 := Tryz.underlying27
  a31 := Tryz.isAgg27
  z31 := Tryz.sizeOf27
  v31 := Tryz.zeroValue27
  t46 := Tryz.underlying125
  a46 := Tryz.isAgg125
  z46 := Tryz.sizeOf125
  v46 := Tryz.zeroValue125
  t51 := Tryz.underlying22
  a51 := Tryz.isAgg22
  z51 := Tryz.sizeOf22
  v51 := Tryz.zeroValue22
  t105 := Tryz.underlying192
  a105 := Tryz.isAgg192
  z105 := Tryz.sizeOf192
  v105 := Tryz.zeroValue192
  t119 := Tryz.underlying212
  a119 := Tryz.isAgg212
  z119 := Tryz.sizeOf212
  t138 := Tryz.underlying214
  a138 := Tryz.isAgg214
  z138 := Tryz.sizeOf214
  v138 := Tryz.zeroValue214
  t139 := Tryz.underlying215
  a139 := Tryz.isAgg215
  z139 := Tryz.sizeOf215
  v139 := Tryz.zeroValue215
  t146 := Tryz.underlying216
  a146 := Tryz.isAgg216
  z146 := Tryz.sizeOf216
  v146 := Tryz.zeroValue216
  g1 := by kernel_rfl
  g3 := by kernel_rfl
  g4 := by kernel_rfl }
def Tryz.lays177_ren : Go.Shelf.Ren := ⟨fun | 177 => 55 | 250 => 73 | 289 => 87 | 197 => 100 | 323 => 103 | 260 => 113 | 339 => 118 | 340 => 119 | 242 => 120 | 119 => 121 | 345 => 128 | 346 => 129 | 278 => 130 | n => n, fun | 9 => 9 | 5 => 5 | 4 => 4 | 3 => 3 | 37 => 124 | 21 => 21 | 105 => 192 | 46 => 125 | 119 => 212 | 0 => 0 | 139 => 215 | 138 => 214 | 49 => 52 | 234 => 218 | 131 => 62 | 51 => 22 | 236 => 220 | n => n, fun | 3 => 5 | 4 => 6 | 20 => 7 | 21 => 8 | 22 => 9 | 23 => 10 | 24 => 11 | n => n⟩
theorem Tryz.lays177 : Go.Proofs.Lays.n177 Tryz.prog Tryz.lays177_ren := {
  mixed := by kernel_rfl
  f119 := Tryz.func121.trans (congrArg some (by kernel_rfl))
  f177 := Tryz.func55.trans (congrArg some (by kernel_rfl))
  f197 := Tryz.func100.trans (congrArg some (by kernel_rfl))
  f242 := Tryz.func120.trans (congrArg some (by kernel_rfl))
  f250 := Tryz.func73.trans (congrArg some (by kernel_rfl))
  f260 := Tryz.func113.trans (congrArg some (by kernel_rfl))
  f278 := Tryz.func130.trans (congrArg some (by kernel_rfl))
  f289 := Tryz.func87.trans (congrArg some (by kernel_rfl))
  f323 := Tryz.func103.trans (congrArg some (by kernel_rfl))
  f339 := Tryz.func118.trans (congrArg some (by kernel_rfl))
  f340 := Tryz.func119.trans (congrArg some (by kernel_rfl))
  f345 := Tryz.func128.trans (congrArg some (by kernel_rfl))
  f346 := Tryz.func129.trans (congrArg some (by kernel_rfl))
  t0 := Tryz.underlying0
  a0 := Tryz.isAgg0
  z0 := Tryz.sizeOf0
  v0 := Tryz.zeroValue0
  t3 := Tryz.underlying3
  a3 := Tryz.isAgg3
  z3 := Tryz.sizeOf3
  v3 := Tryz.zeroValue3
  t4 := Tryz.underlying4
  a4 := Tryz.isAgg4
  z4 := Tryz.sizeOf4
  v4 := Tryz.zeroValue4
  t5 := Tryz.underlying5
  a5 := Tryz.isAgg5
  z5 := Tryz.sizeOf5
  v5 := Tryz.zeroValue5
  t9 := Tryz.underlying9
  a9 := Tryz.isAgg9
  z9 := Tryz.sizeOf9
  v9 := Tryz.zeroValue9
  t21 := Tryz.underlying21
  a21 := Tryz.isAgg21
  z21 := Tryz.sizeOf21
  v21 := Tryz.zeroValue21
  t37 := Tryz.underlying124
  a37 := Tryz.isAgg124
  z37 := Tryz.sizeOf124
  v37 := Tryz.zeroValue124
  t46 := Tryz.underlying125
  a46 := Tryz.isAgg125
  z46 := Tryz.sizeOf125
  v46 := Tryz.zeroValue125
  t49 := Tryz.underlying52
  a49 := Tryz.isAgg52
  z49 := Tryz.sizeOf52
  v49 := Tryz.zeroValue52
  t51 := Tryz.underlying22
  a51 := Tryz.isAgg22
  z51 := Tryz.sizeOf22
  v51 := Tryz.zeroValue22
  t105 := Tryz.underlying192
  a105 := Tryz.isAgg192
  z105 := Tryz.sizeOf192
  v105 := Tryz.zeroValue192
  t119 := Tryz.underlying212
  a119 := Tryz.isAgg212
  z119 := Tryz.sizeOf212
  t131 := Tryz.underlying62
  a131 := Tryz.isAgg62
  z131 := Tryz.sizeOf62
  v131 := Tryz.zeroValue62
  t138 := Tryz.underlying214
  a138 := Tryz.isAgg214
  z138 := Tryz.sizeOf214
  v138 := Tryz.zeroValue214
  t139 := Tryz.underlying215
  a139 := Tryz.isAgg215
  z139 := Tryz.sizeOf215
  v139 := Tryz.zeroValue215
  t234 := Tryz.underlying218
  a234 := Tryz.isAgg218
  z234 := Tryz.sizeOf218
  v234 := Tryz.zeroValue218
  t236 := Tryz.underlying220
  a236 := Tryz.isAgg220
  z236 := Tryz.sizeOf220
  v236 := Tryz.zeroValue220
  g3 := by kernel_rfl
  g4 := by kernel_rfl
  g20 := by kernel_rfl
  g21 := by kernel_rfl
  g22 := by kernel_rfl
  g23 := by kernel_rfl
  g24 := by kernel_rfl }
def Tryz.lays156_ren : Go.Shelf.Ren := ⟨fun | 156 => 60 | 165 => 76 | 166 => 77 | 169 => 78 | 240 => 93 | 241 => 94 | 276 => 106 | 277 => 107 | n => n, fun | 31 => 27 | 9 => 9 | 3 => 3 | 4 => 4 | 0 => 0 | 20 => 20 | 72 => 154 | 76 => 120 | 70 => 152 | 37 => 124 | 75 => 43 | 127 => 184 | 164 => 133 | 5 => 5 | 80 => 156 | n => n, fun | n => n⟩
theorem Tryz.lays156 : Go.Proofs.Lays.n156 Tryz.prog Tryz.lays156_ren := {
  mixed := by kernel_rfl
  f156 := Tryz.func60.trans (congrArg some (by kernel_rfl))
  f165 := Tryz.func76.trans (congrArg some (by kernel_rfl))
  f166 := Tryz.func77.trans (congrArg some (by kernel_rfl))
  f169 := Tryz.func78.trans (congrArg some (by kernel_rfl))
  f240 := Tryz.func93.trans (congrArg some (by kernel_rfl))
  f241 := Tryz.func94.trans (congrArg some (by kernel_rfl))
  f276 := Tryz.func106.trans (congrArg some (by kernel_rfl))
  f277 := Tryz.func107.trans (congrArg some (by kernel_rfl))
  t0 := Tryz.underlying0
  a0 := Tryz.isAgg0
  z0 := Tryz.sizeOf0
  v0 := Tryz.zeroValue0
  t3 := Tryz.underlying3
  a3 := Tryz.isAgg3
  z3 := Tryz.sizeOf3
  v3 := Tryz.zeroValue3
  t4 := Tryz.underlying4
  a4 := Tryz.isAgg4
  z4 := Tryz.sizeOf4
  v4 := Tryz.zeroValue4
  t9 := Tryz.underlying9
  a9 := Tryz.isAgg9
  z9 := Tryz.sizeOf9
  v9 := Tryz.zeroValue9
  t20 := Tryz.underlying20
  a20 := Tryz.isAgg20
  z20 := Tryz.sizeOf20
  v20 := Tryz.zeroValue20
  t31 := Tryz.underlying27
  a31 := Tryz.isAgg27
  z31 := Tryz.sizeOf27
  v31 := Tryz.zeroValue27
  t37 := Tryz.underlying124
  a37 := Tryz.isAgg124
  z37 := Tryz.sizeOf124
  v37 := Tryz.zeroValue124
  t70 := Tryz.underlying152
  a70 := Tryz.isAgg152
  z70 := Tryz.sizeOf152
  v70 := Tryz.zeroValue152
  t72 := Tryz.underlying154
  a72 := Tryz.isAgg154
  z72 := Tryz.sizeOf154
  v72 := Tryz.zeroValue154
  t75 := Tryz.underlying43
  a75 := Tryz.isAgg43
  z75 := Tryz.sizeOf43
  v75 := Tryz.zeroValue43
  t76 := Tryz.underlying120
  a76 := Tryz.isAgg120
  z76 := Tryz.sizeOf120
  v76 := Tryz.zeroValue120
  t127 := Tryz.underlying184
  a127 := Tryz.isAgg184
  z127 := Tryz.sizeOf184
  v127 := Tryz.zeroValue184
  t164 := Tryz.underlying133
  a164 := Tryz.isAgg133
  z164 := Tryz.sizeOf133
  v164 := Tryz.zeroValue133 }
theorem Tryz.Builder_Extra_156 : Builder.Extra Tryz.prog Tryz.lays156_ren := {
  sizeBuilder := by kernel_rfl
  liesBuilder := by kernel_rfl
  t5 := Tryz.underlying5
  a5 := Tryz.isAgg5
  z5 := Tryz.sizeOf5
  v5 := Tryz.zeroValue5
  infoByte := by kernel_rfl
  cellsByte := by kernel_rfl
  sizeByte := by kernel_rfl
  neB5 := by decide }
def Tryz.laysC172_ren : Go.Shelf.Ren := ⟨fun | 172 => 58 | 244 => 74 | 245 => 75 | 247 => 88 | 279 => 89 | 280 => 90 | 281 => 91 | 282 => 92 | 287 => 104 | 316 => 105 | 171 => 38 | 205 => 24 | 321 => 122 | 322 => 123 | 243 => 61 | 246 => 79 | 283 => 95 | 284 => 96 | 285 => 97 | 286 => 98 | 129 => 109 | 317 => 108 | 318 => 110 | 319 => 111 | 320 => 112 | 337 => 124 | 338 => 125 | n => n, fun | 9 => 9 | 3 => 3 | 75 => 43 | 76 => 120 | 4 => 4 | 5 => 5 | 167 => 178 | 37 => 124 | 0 => 0 | 85 => 179 | 2 => 2 | 168 => 181 | 53 => 186 | 175 => 196 | 46 => 125 | 210 => 199 | 127 => 184 | 145 => 115 | 143 => 113 | 21 => 21 | 171 => 185 | 173 => 189 | 212 => 204 | 51 => 22 | 20 => 20 | 213 => 205 | 232 => 222 | 233 => 223 | 80 => 156 | n => n, fun | 15 => 1 | 16 => 2 | 17 => 3 | 18 => 12 | 19 => 13 | n => n⟩
theorem Tryz.laysC172 : Go.Proofs.LaysC.n172 Tryz.prog Tryz.laysC172_ren := {
  mixed := by kernel_rfl
  f129 := Tryz.func109.trans (congrArg some (by kernel_rfl))
  f171 := Tryz.func38.trans (congrArg some (by kernel_rfl))
  f172 := Tryz.func58.trans (congrArg some (by kernel_rfl))
  f205 := Tryz.func24.trans (congrArg some (by kernel_rfl))
  f243 := Tryz.func61.trans (congrArg some (by kernel_rfl))
  f244 := Tryz.func74.trans (congrArg some (by kernel_rfl))
  f245 := Tryz.func75.trans (congrArg some (by kernel_rfl))
  f246 := Tryz.func79.trans (congrArg some (by kernel_rfl))
  f247 := Tryz.func88.trans (congrArg some (by kernel_rfl))
  f279 := Tryz.func89.trans (congrArg some (by kernel_rfl))
  f280 := Tryz.func90.trans (congrArg some (by kernel_rfl))
  f281 := Tryz.func91.trans (congrArg some (by kernel_rfl))
  f282 := Tryz.func92.trans (congrArg some (by kernel_rfl))
  f283 := Tryz.func95.trans (congrArg some (by kernel_rfl))
  f284 := Tryz.func96.trans (congrArg some (by kernel_rfl))
  f285 := Tryz.func97.trans (congrArg some (by kernel_rfl))
  f286 := Tryz.func98.trans (congrArg some (by kernel_rfl))
  f287 := Tryz.func104.trans (congrArg some (by kernel_rfl))
  f316 := Tryz.func105.trans (congrArg some (by kernel_rfl))
  f317 := Tryz.func108.trans (congrArg some (by kernel_rfl))
  f318 := Tryz.func110.trans (congrArg some (by kernel_rfl))
  f319 := Tryz.func111.trans (congrArg some (by kernel_rfl))
  f320 := Tryz.func112.trans (congrArg some (by kernel_rfl))
  f321 := Tryz.func122.trans (congrArg some (by kernel_rfl))
  f322 := Tryz.func123.trans (congrArg some (by kernel_rfl))
  f337 := Tryz.func124.trans (congrArg some (by kernel_rfl))
  f338 := Tryz.func125.trans (congrArg some (by kernel_rfl))
  t0 := Tryz.underlying0
  a0 := Tryz.isAgg0
  z0 := Tryz.sizeOf0
  v0 := Tryz.zeroValue0
  t2 := Tryz.underlying2
  a2 := Tryz.isAgg2
  z2 := Tryz.sizeOf2
  v2 := Tryz.zeroValue2
  t3 := Tryz.underlying3
  a3 := Tryz.isAgg3
  z3 := Tryz.sizeOf3
  v3 := Tryz.zeroValue3
  t4 := Tryz.underlying4
  a4 := Tryz.isAgg4
  z4 := Tryz.sizeOf4
  v4 := Tryz.zeroValue4
  t5 := Tryz.underlying5
  a5 := Tryz.isAgg5
  z5 := Tryz.sizeOf5
  v5 := Tryz.zeroValue5
  t9 := Tryz.underlying9
  a9 := Tryz.isAgg9
  z9 := Tryz.sizeOf9
  v9 := Tryz.zeroValue9
  t20 := Tryz.underlying20
  a20 := Tryz.isAgg20
  z20 := Tryz.sizeOf20
  v20 := Tryz.zeroValue20
  t21 := Tryz.underlying21
  a21 := Tryz.isAgg21
  z21 := Tryz.sizeOf21
  v21 := Tryz.zeroValue21
  t37 := Tryz.underlying124
  a37 := Tryz.isAgg124
  z37 := Tryz.sizeOf124
  v37 := Tryz.zeroValue124
  t46 := Tryz.underlying125
  a46 := Tryz.isAgg125
  z46 := Tryz.sizeOf125
  v46 := Tryz.zeroValue125
  t51 := Tryz.underlying22
  a51 := Tryz.isAgg22
  z51 := Tryz.sizeOf22
  v51 := Tryz.zeroValue22
  t53 := Tryz.underlying186
  a53 := Tryz.isAgg186
  z53 := Tryz.sizeOf186
  v53 := Tryz.zeroValue186
  t75 := Tryz.underlying43
  a75 := Tryz.isAgg43
  z75 := Tryz.sizeOf43
  v75 := Tryz.zeroValue43
  t76 := Tryz.underlying120
  a76 := Tryz.isAgg120
  z76 := Tryz.sizeOf120
  v76 := Tryz.zeroValue120
  t85 := Tryz.underlying179
  a85 := Tryz.isAgg179
  z85 := Tryz.sizeOf179
  v85 := Tryz.zeroValue179
  t127 := Tryz.underlying184
  a127 := Tryz.isAgg184
  z127 := Tryz.sizeOf184
  v127 := Tryz.zeroValue184
  t143 := Tryz.underlying113
  a143 := Tryz.isAgg113
  z143 := Tryz.sizeOf113
  v143 := Tryz.zeroValue113
  t145 := Tryz.underlying115
  a145 := Tryz.isAgg115
  z145 := Tryz.sizeOf115
  v145 := Tryz.zeroValue115
  t167 := Tryz.underlying178
  a167 := Tryz.isAgg178
  z167 := Tryz.sizeOf178
  v167 := Tryz.zeroValue178
  t168 := Tryz.underlying181
  a168 := Tryz.isAgg181
  z168 := Tryz.sizeOf181
  v168 := Tryz.zeroValue181
  t171 := Tryz.underlying185
  a171 := Tryz.isAgg185
  z171 := Tryz.sizeOf185
  v171 := Tryz.zeroValue185
  t173 := Tryz.underlying189
  a173 := Tryz.isAgg189
  z173 := Tryz.sizeOf189
  v173 := Tryz.zeroValue189
  t175 := Tryz.underlying196
  a175 := Tryz.isAgg196
  z175 := Tryz.sizeOf196
  v175 := Tryz.zeroValue196
  t210 := Tryz.underlying199
  a210 := Tryz.isAgg199
  z210 := Tryz.sizeOf199
  v210 := Tryz.zeroValue199
  t212 := Tryz.underlying204
  a212 := Tryz.isAgg204
  z212 := Tryz.sizeOf204
  v212 := Tryz.zeroValue204
  t213 := Tryz.underlying205
  a213 := Tryz.isAgg205
  z213 := Tryz.sizeOf205
  t232 := Tryz.underlying222
  a232 := Tryz.isAgg222
  z232 := Tryz.sizeOf222
  v232 := Tryz.zeroValue222
  t233 := Tryz.underlying223
  a233 := Tryz.isAgg223
  z233 := Tryz.sizeOf223
  v233 := Tryz.zeroValue223
  g15 := by kernel_rfl
  g16 := by kernel_rfl
  g17 := by kernel_rfl
  g18 := by kernel_rfl
  g19 := by kernel_rfl
  t80 := Tryz.underlying156
  a80 := Tryz.isAgg156
  z80 := Tryz.sizeOf156
  v80 := Tryz.zeroValue156
  i0 := by kernel_rfl
  i2 := by kernel_rfl
  i3 := by kernel_rfl
  i4 := by kernel_rfl
  i5 := by kernel_rfl
  i9 := by kernel_rfl
  i20 := by kernel_rfl
  i21 := by kernel_rfl
  i37 := by kernel_rfl
  i46 := by kernel_rfl
  i51 := by kernel_rfl
  i53 := by kernel_rfl
  i75 := by kernel_rfl
  i76 := by kernel_rfl
  i80 := by kernel_rfl
  i85 := by kernel_rfl
  i127 := by kernel_rfl
  i143 := by kernel_rfl
  i145 := by kernel_rfl
  i167 := by kernel_rfl
  i168 := by kernel_rfl
  i171 := by kernel_rfl
  i173 := by kernel_rfl
  i175 := by kernel_rfl
  i210 := by kernel_rfl
  i212 := by kernel_rfl
  i232 := by kernel_rfl
  i233 := by kernel_rfl
  m15 := by kernel_rfl
  m16 := by kernel_rfl
  m17 := by kernel_rfl
  m18 := by kernel_rfl
  m19 := by kernel_rfl
  c0 := by kernel_rfl
  c2 := by kernel_rfl
  c3 := by kernel_rfl
  c4 := by kernel_rfl
  c5 := by kernel_rfl
  c9 := by kernel_rfl
  c20 := by kernel_rfl
  c21 := by kernel_rfl
  c37 := by kernel_rfl
  c46 := by kernel_rfl
  c51 := by kernel_rfl
  c53 := by kernel_rfl
  c75 := by kernel_rfl
  c76 := by kernel_rfl
  c80 := by kernel_rfl
  c85 := by kernel_rfl
  c127 := by kernel_rfl
  c143 := by kernel_rfl
  c145 := by kernel_rfl
  c167 := by kernel_rfl
  c168 := by kernel_rfl
  c171 := by kernel_rfl
  c173 := by kernel_rfl
  c175 := by kernel_rfl
  c210 := by kernel_rfl
  c212 := by kernel_rfl
  c213 := by kernel_rfl
  c232 := by kernel_rfl
  c233 := by kernel_rfl }
def Tryz.laysM219_ren : Go.Shelf.Ren := ⟨fun | 219 => 102 | 217 => 114 | 225 => 115 | 224 => 116 | 267 => 117 | 266 => 126 | 314 => 127 | n => n, fun | 9 => 9 | 3 => 3 | 4 => 4 | 5 => 5 | 46 => 125 | 146 => 216 | 51 => 22 | n => n, fun | 1 => 4 | n => n⟩
theorem Tryz.laysM219 : Go.Proofs.LaysM.n219 Tryz.prog Tryz.laysM219_ren := {
  mixed := by kernel_rfl
  f217 := Tryz.func114.trans (congrArg some (by kernel_rfl))
  f219 := Tryz.func102.trans (congrArg some (by kernel_rfl))
  f224 := Tryz.func116.trans (congrArg some (by kernel_rfl))
  f225 := Tryz.func115.trans (congrArg some (by kernel_rfl))
  f266 := Tryz.func126.trans (congrArg some (by kernel_rfl))
  f267 := Tryz.func117.trans (congrArg some (by kernel_rfl))
  f314 := Tryz.func127.trans (congrArg some (by kernel_rfl))
  t3 := Tryz.underlying3
  a3 := Tryz.isAgg3
  z3 := Tryz.sizeOf3
  v3 := Tryz.zeroValue3
  t4 := Tryz.underlying4
  a4 := Tryz.isAgg4
  z4 := Tryz.sizeOf4
  v4 := Tryz.zeroValue4
  t5 := Tryz.underlying5
  a5 := Tryz.isAgg5
  z5 := Tryz.sizeOf5
  v5 := Tryz.zeroValue5
  t9 := Tryz.underlying9
  a9 := Tryz.isAgg9
  z9 := Tryz.sizeOf9
  v9 := Tryz.zeroValue9
  t46 := Tryz.underlying125
  a46 := Tryz.isAgg125
  z46 := Tryz.sizeOf125
  v46 := Tryz.zeroValue125
  t51 := Tryz.underlying22
  a51 := Tryz.isAgg22
  z51 := Tryz.sizeOf22
  v51 := Tryz.zeroValue22
  t146 := Tryz.underlying216
  a146 := Tryz.isAgg216
  z146 := Tryz.sizeOf216
  v146 := Tryz.zeroValue216
  g1 := by kernel_rfl
  i3 := by kernel_rfl
  i4 := by kernel_rfl
  i5 := by kernel_rfl
  i9 := by kernel_rfl
  i46 := by kernel_rfl
  i51 := by kernel_rfl
  i146 := by kernel_rfl
  m1 := by kernel_rfl
  s1_3 := fun w h => Go.Proofs.cell_of_shapedOpen_int (zero := #[.int .i64 0]) (t := 3) h (of_decide_eq_true (by kernel_rfl)) (by kernel_rfl) rfl (by kernel_rfl) (by kernel_rfl) Tryz.underlying3 }
open Go.RowKit Go.Sort Go.Lib in
theorem Tryz.strconv_Itoa (n : Int) (h0 : -9223372036854775808 ≤ n) (h1 : n ≤ 9223372036854775807) (w : World) (htab : Lib.TabIs Tryz.prog w "internal/strconv.uint64pow10" .u64 Lib.pow10Tab) :
    Calls Tryz.prog 38 #[.int .i64 n] w fun e w' => e = .returned (.string ⟨(Lib.itoa n).toArray⟩) ∧ ∃ k os, w' = grow (w.drewN k) os := Any.strconv_Itoa Tryz.laysM171 n h0 h1 w htab
open Go.RowKit Go.Lib in
theorem Tryz.strings_Split (s sep : ByteArray) (m : Int) (w : World) (hs : s.size < 4294967281) (hm : w.cell? ⟨4, 0, none⟩ = some (.int .i64 m)) (h1 : 1 ≤ sep.size) :
    Calls Tryz.prog 39 #[.string s, .string sep] w fun e w' =>
      e = .returned (.slice (some ⟨w.heap.size, 0, none⟩) (Lib.countB s sep + 1) (Lib.countB s sep + 1)) ∧ w' = w.alloc (.cells ((Lib.splitB sep 0 (Lib.countB s sep) s).map Value.string).toArray 9) := Any.strings_Split Tryz.lays146 (by kernel_rfl) s sep m w hs hm h1
open Go.RowKit in
theorem Tryz.strconv_Quote (T : Lib.PrintTabs) (s : ByteArray) (w : World) (hlen : 10 * s.size + 12 ≤ 140737488355328) (hT : Lib.PrintTabsAt 7 8 9 10 T w) (hU : Lib.Utf8Tabs 5 6 w) :
    Calls Tryz.prog 55 #[.string s] w fun e w' => e = .returned (.string (strOfNums (Lib.quoteZ T s))) ∧ Below w.heap.size w w' := Any.strconv_Quote Tryz.lays177 (by kernel_rfl) T s w hlen hT hU
open Go.RowKit in
theorem Tryz.strings_Join_none (a : Option Addr) (c : Nat) (sep : ByteArray) (w : World) :
    Calls Tryz.prog 60 #[.slice a 0 c, .string sep] w fun e w' => e = .returned (.string ⟨#[]⟩) ∧ w' = w := Any.strings_Join_none Tryz.lays156 Tryz.Builder_Extra_156 a c sep w
open Go.RowKit in
theorem Tryz.strings_Join (bk o c : Nat) (xs : List ByteArray) (sep : ByteArray) (w : World) (hcells : ∀ (j : Nat) x, xs[j]? = some x → w.cell? ⟨bk, o + j, none⟩ = some (.string x)) (hbk : bk < w.heap.size) (hN : xs.length ≤ 140737488355328) (hcap : xs.length ≤ c) (hlen : (Lib.join (xs.map (·.data.toList)) sep.data.toList).length ≤ 140737488355328) :
    Calls Tryz.prog 60 #[.slice (some ⟨bk, o, none⟩) xs.length c, .string sep] w fun e w' => e = .returned (.string ⟨(Lib.join (xs.map (·.data.toList)) sep.data.toList).toArray⟩) ∧ Below w.heap.size w w' := Any.strings_Join Tryz.lays156 Tryz.Builder_Extra_156 bk o c xs sep w hcells hbk hN hcap hlen
open Go.RowKit in
theorem Tryz.strconv_Atoi_ok (s : ByteArray) (hmax : s.size ≤ 9223372036854775806) (v : Int) (h : Lib.atoiAll s.data.toList = .ok v) (w : World) :
    Calls Tryz.prog 58 #[.string s] w fun e w' => e = .returned (.tuple #[.int .i64 v, .nilIface]) ∧ (w' = w ∨ ∃ t, w' = Lib.bytesWorld w 5 t) := Any.strconv_Atoi_ok Tryz.laysC172 s hmax v h w
theorem Tryz.max_laid (w : World) (h : w.ShapedOpen Tryz.prog) : ∃ m, w.cell? ⟨4, 0, none⟩ = some (.int .i64 m) := Tryz.laysM219.s1_3 w h
end Go.Proofs
namespace Go.Tr
open Go
set_option maxRecDepth 100000
set_option linter.unusedVariables false
def tabP (w : World) : Prop :=
  (Lib.TabIs Go.Proofs.Tryz.prog w "internal/strconv.uint64pow10" .u64 Lib.pow10Tab ∧ ∃ v, w.cell? ⟨4, 0, none⟩ = some v ∧ ∃ m, v = .int .i64 m) ∧
  (Lib.PrintTabsAt 7 8 9 10 Lib.goPrintTabs w ∧ Lib.Utf8Tabs 5 6 w) ∧ errTy w ∧ (∃ v, w.cell? ⟨1, 0, none⟩ = some v ∧ (v = .nilIface ∨ ∃ te pe, v = .iface te pe)) ∧ (∃ v, w.cell? ⟨2, 0, none⟩ = some v ∧ (v = .nilIface ∨ ∃ te pe, v = .iface te pe))
instance : Tabs Go.Proofs.Tryz.prog := tabsK Go.Proofs.Tryz.prog tabP
theorem max_laid (w : World) (h : w.ShapedOpen Go.Proofs.Tryz.prog) : ∃ m, w.cell? ⟨4, 0, none⟩ = some (.int .i64 m) := Go.Proofs.Tryz.max_laid w h
theorem x_strconv_Itoa : FnX Go.Proofs.Tryz.prog 38 D_strconv_Itoa (fun x => strconv_Itoa x.1) :=
  X_Itoa ⟨_, Go.Proofs.Tryz.func38, by decide, rfl⟩ fun n h0 h1 w hG => (Go.Proofs.Tryz.strconv_Itoa n h0 h1 w (KG.out hG).1.1).mono fun e w' hq => by obtain ⟨h, k, os, rfl⟩ := hq; exact ⟨h, below_grown' w k os⟩
theorem x_strings_Split : FnX Go.Proofs.Tryz.prog 39 D_strings_Split (fun x => strings_Split x.1 x.2.1) :=
  X_Split ⟨_, Go.Proofs.Tryz.func39, by decide, rfl⟩ fun s sep hs h1 w hG => by obtain ⟨_, hm, m, rfl⟩ := (KG.out hG).1.2; exact Go.Proofs.Tryz.strings_Split s sep m w hs hm h1
theorem x_strconv_Quote : FnX Go.Proofs.Tryz.prog 55 D_strconv_Quote (fun x => strconv_Quote x.1) :=
  X_Quote ⟨_, Go.Proofs.Tryz.func55, by decide, rfl⟩ fun s hs w hG => Go.Proofs.Tryz.strconv_Quote Lib.goPrintTabs s w hs (KG.out hG).2.1.1 (KG.out hG).2.1.2
theorem x_strings_Join : FnX Go.Proofs.Tryz.prog 60 D_strings_Join (fun x => strings_Join x.1 x.2.1) :=
  X_Join ⟨_, Go.Proofs.Tryz.func60, by decide, rfl⟩ Go.Proofs.Tryz.strings_Join_none Go.Proofs.Tryz.strings_Join
theorem x_strconv_Atoi : FnX Go.Proofs.Tryz.prog 58 D_strconv_Atoi (fun x => strconv_Atoi x.1) :=
  X_Atoi ⟨_, Go.Proofs.Tryz.func58, by decide, rfl⟩
    (fun s hs v h w => (Go.Proofs.Tryz.strconv_Atoi_ok s hs v h w).mono fun e w' hq => by
      obtain ⟨rfl, hw⟩ := hq
      refine ⟨rfl, ?_⟩
      rcases hw with rfl | ⟨t, rfl⟩
      · exact RowKit.Below.refl _ _
      · exact Lib.bytesWorld_below _ _ _)
    (fun s hs h h' w hG => by obtain ⟨ev, h1, h2⟩ := (KG.out hG).2.2.2.1; exact (Go.Proofs.Any.strconv_Atoi_syntax Go.Proofs.Tryz.laysC172 s hs (by cases hh : Lib.atoiAll s.data.toList <;> simp_all) ev w h1 h2).mono fun e w' hq => by obtain ⟨N, rfl, _, _, hb⟩ := hq; exact ⟨_, rfl, hb⟩)
    (fun s hs h w hG => by obtain ⟨ev, h1, h2⟩ := (KG.out hG).2.2.2.2; exact (Go.Proofs.Any.strconv_Atoi_range Go.Proofs.Tryz.laysC172 s hs h ev w h1 h2).mono fun e w' hq => by obtain ⟨N, rfl, _, _, hb⟩ := hq; exact ⟨_, rfl, hb⟩)
theorem x_errors_Is : FnX Go.Proofs.Tryz.prog 52 D_errors_Is (fun x => errors_Is x.1 x.2.1) :=
  X_Is
theorem x_lines_Number : FnX Go.Proofs.Tryz.prog 23 D_lines_Number (fun x => lines_Number x.1) :=
  X_Number fun w hG => (KG.out hG).2.2.1
theorem x_lines_Place : FnX Go.Proofs.Tryz.prog 22 D_lines_Place (fun x => lines_Place x.1) :=
  X_Place fun w hG => (KG.out hG).2.2.1
end Go.Tr
