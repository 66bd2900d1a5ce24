/- Part 6 of the proof: own text. -/
import Derived.Shelf.Lay
import Derived.KernelRfl
import Derived.Shelf.Strings.Prefix
import Derived.Shelf.Small.Wraps
import Derived.Shelf.Strings.SlTrimAscii
import Derived.Shelf.Strings.MapAny
import Derived.Shelf.Strconv.AtoiAll
import Derived.Shelf.Pu.ParseUintPublic10
import Derived.Shelf.LaysM
import Derived.Shelf.Strconv.Itoa3
import Derived.Ground.NamesProg
import Derived.Ground.MpProg
import Derived.Test.YthdbkmpkebdliaaGreatDoorProg
import Derived.WalkKit
import Derived.Test.YthdbkmpkebdliaaGreatDoorK5
set_option linter.all false
set_option maxHeartbeats 20000000
namespace Go.Proofs
open Go.Shelf Go.RowKit Go.Sort Go.Lib
def Tryz.lays103_ren : Go.Shelf.Ren :=
{
  f := fun x =>
    match x with
    | 103 => 116
    | 210 => 183
    | 206 => 223
    | n => n,
  t := fun x =>
    match x with
    | 9 => 9
    | 4 => 4
    | 24 => 142
    | 3 => 3
    | n => n,
  g := fun x => x }
theorem Tryz.lays103 : Lays.n103 Tryz.prog Tryz.lays103_ren :=
  { mixed := by kernel_rfl, f103 := Eq.trans Tryz.func116 (congrArg some (by kernel_rfl)), f206 := Eq.trans Tryz.func223 (congrArg some (by kernel_rfl)), f210 := Eq.trans Tryz.func183 (congrArg some (by kernel_rfl)), t3 := Tryz.underlying3, a3 := Tryz.isAgg3, z3 := Tryz.sizeOf3, v3 := Tryz.zeroValue3, t4 := Tryz.underlying4, a4 := Tryz.isAgg4, z4 := Tryz.sizeOf4, v4 := Tryz.zeroValue4, t9 := Tryz.underlying9, a9 := Tryz.isAgg9, z9 := Tryz.sizeOf9, v9 := Tryz.zeroValue9, t24 := Tryz.underlying142, a24 := Tryz.isAgg142, z24 := Tryz.sizeOf142, v24 := Tryz.zeroValue142 }
theorem Tryz.strings_CutPrefix (s p : ByteArray) (w : World) :
    Calls Tryz.prog 116 #[.string s, .string p] w fun e w' => e = .returned (.tuple #[.string ⟨(Lib.trimPrefix s.data.toList p.data.toList).toArray⟩, .bool (Lib.hasPrefix s.data.toList p.data.toList)]) ∧ w' = w := Any.strings_CutPrefix Tryz.lays103 s p w
def Tryz.lays104_ren : Go.Shelf.Ren :=
{
  f := fun x =>
    match x with
    | 104 => 208
    | 211 => 241
    | 207 => 265
    | n => n,
  t := fun x =>
    match x with
    | 9 => 9
    | 4 => 4
    | 24 => 142
    | 3 => 3
    | n => n,
  g := fun x => x }
theorem Tryz.lays104 : Lays.n104 Tryz.prog Tryz.lays104_ren :=
  { mixed := by kernel_rfl, f104 := Eq.trans Tryz.func208 (congrArg some (by kernel_rfl)), f207 := Eq.trans Tryz.func265 (congrArg some (by kernel_rfl)), f211 := Eq.trans Tryz.func241 (congrArg some (by kernel_rfl)), t3 := Tryz.underlying3, a3 := Tryz.isAgg3, z3 := Tryz.sizeOf3, v3 := Tryz.zeroValue3, t4 := Tryz.underlying4, a4 := Tryz.isAgg4, z4 := Tryz.sizeOf4, v4 := Tryz.zeroValue4, t9 := Tryz.underlying9, a9 := Tryz.isAgg9, z9 := Tryz.sizeOf9, v9 := Tryz.zeroValue9, t24 := Tryz.underlying142, a24 := Tryz.isAgg142, z24 := Tryz.sizeOf142, v24 := Tryz.zeroValue142 }
theorem Tryz.strings_CutSuffix (s p : ByteArray) (w : World) (hs : s.size ≤ 9223372036854775807) :
    Calls Tryz.prog 208 #[.string s, .string p] w fun e w' => e = .returned (.tuple #[.string ⟨(Lib.trimSuffix s.data.toList p.data.toList).toArray⟩, .bool (Lib.hasSuffix s.data.toList p.data.toList)]) ∧ w' = w := Any.strings_CutSuffix Tryz.lays104 s p w hs
def Tryz.lays101_ren : Go.Shelf.Ren :=
{
  f := fun x =>
    match x with
    | 101 => 181
    | 208 => 222
    | 206 => 223
    | n => n,
  t := fun x =>
    match x with
    | 9 => 9
    | 4 => 4
    | 3 => 3
    | n => n,
  g := fun x => x }
theorem Tryz.lays101 : Lays.n101 Tryz.prog Tryz.lays101_ren :=
  { mixed := by kernel_rfl, f101 := Eq.trans Tryz.func181 (congrArg some (by kernel_rfl)), f206 := Eq.trans Tryz.func223 (congrArg some (by kernel_rfl)), f208 := Eq.trans Tryz.func222 (congrArg some (by kernel_rfl)), t3 := Tryz.underlying3, a3 := Tryz.isAgg3, z3 := Tryz.sizeOf3, v3 := Tryz.zeroValue3, t4 := Tryz.underlying4, a4 := Tryz.isAgg4, z4 := Tryz.sizeOf4, v4 := Tryz.zeroValue4, t9 := Tryz.underlying9, a9 := Tryz.isAgg9, z9 := Tryz.sizeOf9, v9 := Tryz.zeroValue9 }
theorem Tryz.strings_TrimPrefix (s p : ByteArray) (w : World) :
    Calls Tryz.prog 181 #[.string s, .string p] w fun e w' => e = .returned (.string ⟨(Lib.trimPrefix s.data.toList p.data.toList).toArray⟩) ∧ w' = w := Any.strings_TrimPrefix Tryz.lays101 s p w
def Tryz.lays161_ren : Go.Shelf.Ren :=
{
  f := fun x =>
    match x with
    | 161 => 182
    | 231 => 209
    | 227 => 148
    | 233 => 210
    | 235 => 211
    | 228 => 204
    | 197 => 237
    | 151 => 206
    | 260 => 256
    | 152 => 238
    | 137 => 257
    | 119 => 258
    | 224 => 259
    | 225 => 260
    | 217 => 270
    | 266 => 272
    | n => n,
  t := fun x =>
    match x with
    | 9 => 9
    | 4 => 4
    | 3 => 3
    | 5 => 5
    | 117 => 172
    | 116 => 171
    | 0 => 0
    | 124 => 175
    | 105 => 213
    | 21 => 21
    | 119 => 263
    | 46 => 75
    | 139 => 266
    | 138 => 265
    | n => n,
  g := fun x =>
    match x with
    | 3 => 7
    | 4 => 8
    | n => n }
theorem Tryz.lays161 : Lays.n161 Tryz.prog Tryz.lays161_ren :=
  { mixed := by kernel_rfl, f119 := Eq.trans Tryz.func258 (congrArg some (by kernel_rfl)), f137 := Eq.trans Tryz.func257 (congrArg some (by kernel_rfl)), f151 := Eq.trans Tryz.func206 (congrArg some (by kernel_rfl)), f152 := Eq.trans Tryz.func238 (congrArg some (by kernel_rfl)), f161 := Eq.trans Tryz.func182 (congrArg some (by kernel_rfl)), f197 := Eq.trans Tryz.func237 (congrArg some (by kernel_rfl)), f217 := Eq.trans Tryz.func270 (congrArg some (by kernel_rfl)), f224 := Eq.trans Tryz.func259 (congrArg some (by kernel_rfl)), f225 := Eq.trans Tryz.func260 (congrArg some (by kernel_rfl)), f227 := Eq.trans Tryz.func148 (congrArg some (by kernel_rfl)), f228 := Eq.trans Tryz.func204 (congrArg some (by kernel_rfl)), f231 := Eq.trans Tryz.func209 (congrArg some (by kernel_rfl)), f233 := Eq.trans Tryz.func210 (congrArg some (by kernel_rfl)), f235 := Eq.trans Tryz.func211 (congrArg some (by kernel_rfl)), f260 := Eq.trans Tryz.func256 (congrArg some (by kernel_rfl)), f266 := Eq.trans Tryz.func272 (congrArg some (by kernel_rfl)), t0 := Tryz.underlying0, a0 := Tryz.isAgg0, z0 := Tryz.sizeOf0, v0 := Tryz.zeroValue0, t3 := Tryz.underlying3, a3 := Tryz.isAgg3, z3 := Tryz.sizeOf3, v3 := Tryz.zeroValue3, t4 := Tryz.underlying4, a4 := Tryz.isAgg4, z4 := Tryz.sizeOf4, v4 := Tryz.zeroValue4, t5 := Tryz.underlying5, a5 := Tryz.isAgg5, z5 := Tryz.sizeOf5, v5 := Tryz.zeroValue5, t9 := Tryz.underlying9, a9 := Tryz.isAgg9, z9 := Tryz.sizeOf9, v9 := Tryz.zeroValue9, t21 := Tryz.underlying21, a21 := Tryz.isAgg21, z21 := Tryz.sizeOf21, v21 := Tryz.zeroValue21, t46 := Tryz.underlying75, a46 := Tryz.isAgg75, z46 := Tryz.sizeOf75, v46 := Tryz.zeroValue75, t105 := Tryz.underlying213, a105 := Tryz.isAgg213, z105 := Tryz.sizeOf213, v105 := Tryz.zeroValue213, t116 := Tryz.underlying171, a116 := Tryz.isAgg171, z116 := Tryz.sizeOf171, t117 := Tryz.underlying172, a117 := Tryz.isAgg172, z117 := Tryz.sizeOf172, v117 := Tryz.zeroValue172, t119 := Tryz.underlying263, a119 := Tryz.isAgg263, z119 := Tryz.sizeOf263, t124 := Tryz.underlying175, a124 := Tryz.isAgg175, z124 := Tryz.sizeOf175, v124 := Tryz.zeroValue175, t138 := Tryz.underlying265, a138 := Tryz.isAgg265, z138 := Tryz.sizeOf265, v138 := Tryz.zeroValue265, t139 := Tryz.underlying266, a139 := Tryz.isAgg266, z139 := Tryz.sizeOf266, v139 := Tryz.zeroValue266, g3 := by kernel_rfl, g4 := by kernel_rfl }
theorem Tryz.strings_TrimLeft (s cutset : ByteArray) (w : World) (hcs : cutset.size < 4294967281) (hascii : ∀ (j : Nat) b, cutset.data.toList[j]? = some b → b.toNat < 128) :
    Calls Tryz.prog 182 #[.string s, .string cutset] w fun e w' => e = .returned (.string ⟨(Lib.trimLeftS s.data.toList cutset.data.toList).toArray⟩) ∧ Below w.heap.size w w' := Any.strings_TrimLeft_laid Tryz.lays161 (by kernel_rfl) s cutset w hcs hascii
def Tryz.lays160_ren : Go.Shelf.Ren :=
{
  f := fun x =>
    match x with
    | 160 => 161
    | 232 => 147
    | 231 => 209
    | 227 => 148
    | 234 => 149
    | 233 => 210
    | 236 => 150
    | 235 => 211
    | 228 => 204
    | 271 => 205
    | 151 => 206
    | 197 => 237
    | 120 => 236
    | 152 => 238
    | 260 => 256
    | 137 => 257
    | 119 => 258
    | 224 => 259
    | 225 => 260
    | 217 => 270
    | 266 => 272
    | n => n,
  t := fun x =>
    match x with
    | 9 => 9
    | 4 => 4
    | 3 => 3
    | 5 => 5
    | 117 => 172
    | 116 => 171
    | 0 => 0
    | 124 => 175
    | 21 => 21
    | 105 => 213
    | 46 => 75
    | 119 => 263
    | 139 => 266
    | 138 => 265
    | n => n,
  g := fun x =>
    match x with
    | 3 => 7
    | 4 => 8
    | n => n }
theorem Tryz.lays160 : Lays.n160 Tryz.prog Tryz.lays160_ren :=
  { mixed := by kernel_rfl, f119 := Eq.trans Tryz.func258 (congrArg some (by kernel_rfl)), f120 := Eq.trans Tryz.func236 (congrArg some (by kernel_rfl)), f137 := Eq.trans Tryz.func257 (congrArg some (by kernel_rfl)), f151 := Eq.trans Tryz.func206 (congrArg some (by kernel_rfl)), f152 := Eq.trans Tryz.func238 (congrArg some (by kernel_rfl)), f160 := Eq.trans Tryz.func161 (congrArg some (by kernel_rfl)), f197 := Eq.trans Tryz.func237 (congrArg some (by kernel_rfl)), f217 := Eq.trans Tryz.func270 (congrArg some (by kernel_rfl)), f224 := Eq.trans Tryz.func259 (congrArg some (by kernel_rfl)), f225 := Eq.trans Tryz.func260 (congrArg some (by kernel_rfl)), f227 := Eq.trans Tryz.func148 (congrArg some (by kernel_rfl)), f228 := Eq.trans Tryz.func204 (congrArg some (by kernel_rfl)), f231 := Eq.trans Tryz.func209 (congrArg some (by kernel_rfl)), f232 := Eq.trans Tryz.func147 (congrArg some (by kernel_rfl)), f233 := Eq.trans Tryz.func210 (congrArg some (by kernel_rfl)), f234 := Eq.trans Tryz.func149 (congrArg some (by kernel_rfl)), f235 := Eq.trans Tryz.func211 (congrArg some (by kernel_rfl)), f236 := Eq.trans Tryz.func150 (congrArg some (by kernel_rfl)), f260 := Eq.trans Tryz.func256 (congrArg some (by kernel_rfl)), f266 := Eq.trans Tryz.func272 (congrArg some (by kernel_rfl)), f271 := Eq.trans Tryz.func205 (congrArg some (by kernel_rfl)), t0 := Tryz.underlying0, a0 := Tryz.isAgg0, z0 := Tryz.sizeOf0, v0 := Tryz.zeroValue0, t3 := Tryz.underlying3, a3 := Tryz.isAgg3, z3 := Tryz.sizeOf3, v3 := Tryz.zeroValue3, t4 := Tryz.underlying4, a4 := Tryz.isAgg4, z4 := Tryz.sizeOf4, v4 := Tryz.zeroValue4, t5 := Tryz.underlying5, a5 := Tryz.isAgg5, z5 := Tryz.sizeOf5, v5 := Tryz.zeroValue5, t9 := Tryz.underlying9, a9 := Tryz.isAgg9, z9 := Tryz.sizeOf9, v9 := Tryz.zeroValue9, t21 := Tryz.underlying21, a21 := Tryz.isAgg21, z21 := Tryz.sizeOf21, v21 := Tryz.zeroValue21, t46 := Tryz.underlying75, a46 := Tryz.isAgg75, z46 := Tryz.sizeOf75, v46 := Tryz.zeroValue75, t105 := Tryz.underlying213, a105 := Tryz.isAgg213, z105 := Tryz.sizeOf213, v105 := Tryz.zeroValue213, t116 := Tryz.underlying171, a116 := Tryz.isAgg171, z116 := Tryz.sizeOf171, t117 := Tryz.underlying172, a117 := Tryz.isAgg172, z117 := Tryz.sizeOf172, v117 := Tryz.zeroValue172, t119 := Tryz.underlying263, a119 := Tryz.isAgg263, z119 := Tryz.sizeOf263, t124 := Tryz.underlying175, a124 := Tryz.isAgg175, z124 := Tryz.sizeOf175, v124 := Tryz.zeroValue175, t138 := Tryz.underlying265, a138 := Tryz.isAgg265, z138 := Tryz.sizeOf265, v138 := Tryz.zeroValue265, t139 := Tryz.underlying266, a139 := Tryz.isAgg266, z139 := Tryz.sizeOf266, v139 := Tryz.zeroValue266, g3 := by kernel_rfl, g4 := by kernel_rfl }
theorem Tryz.strings_Trim (s cutset : ByteArray) (w : World) (hs : s.size ≤ 9223372036854775807) (hcs : cutset.size < 4294967281) (hascii : ∀ (j : Nat) b, cutset.data.toList[j]? = some b → b.toNat < 128) :
    Calls Tryz.prog 161 #[.string s, .string cutset] w fun e w' => e = .returned (.string ⟨(Lib.trimS s.data.toList cutset.data.toList).toArray⟩) ∧ Below w.heap.size w w' := Any.strings_Trim_laid Tryz.lays160 (by kernel_rfl) s cutset w hs hcs hascii
def Tryz.laysC172_ren : Go.Shelf.Ren :=
{
  f := fun x =>
    match x with
    | 172 => 184
    | 244 => 224
    | 245 => 213
    | 247 => 249
    | 279 => 244
    | 280 => 245
    | 281 => 246
    | 282 => 247
    | 287 => 212
    | 316 => 266
    | 171 => 66
    | 205 => 267
    | 321 => 242
    | 322 => 243
    | 243 => 129
    | 246 => 191
    | 283 => 227
    | 284 => 228
    | 285 => 229
    | 286 => 230
    | 129 => 112
    | 317 => 250
    | 318 => 251
    | 319 => 252
    | 320 => 253
    | 337 => 268
    | 338 => 269
    | n => n,
  t := fun x =>
    match x with
    | 9 => 9
    | 3 => 3
    | 75 => 183
    | 76 => 195
    | 4 => 4
    | 5 => 5
    | 167 => 236
    | 37 => 131
    | 0 => 0
    | 85 => 243
    | 2 => 2
    | 168 => 238
    | 53 => 22
    | 175 => 184
    | 46 => 75
    | 210 => 260
    | 127 => 232
    | 145 => 270
    | 143 => 268
    | 21 => 21
    | 171 => 226
    | 173 => 228
    | 212 => 247
    | 51 => 68
    | 20 => 20
    | 213 => 248
    | 232 => 271
    | 233 => 272
    | 80 => 211
    | n => n,
  g := fun x =>
    match x with
    | 15 => 4
    | 16 => 5
    | 17 => 3
    | 18 => 9
    | 19 => 10
    | n => n }
theorem Tryz.laysC172 : LaysC.n172 Tryz.prog Tryz.laysC172_ren :=
  { mixed := by kernel_rfl, f129 := Eq.trans Tryz.func112 (congrArg some (by kernel_rfl)), f171 := Eq.trans Tryz.func66 (congrArg some (by kernel_rfl)), f172 := Eq.trans Tryz.func184 (congrArg some (by kernel_rfl)), f205 := Eq.trans Tryz.func267 (congrArg some (by kernel_rfl)), f243 := Eq.trans Tryz.func129 (congrArg some (by kernel_rfl)), f244 := Eq.trans Tryz.func224 (congrArg some (by kernel_rfl)), f245 := Eq.trans Tryz.func213 (congrArg some (by kernel_rfl)), f246 := Eq.trans Tryz.func191 (congrArg some (by kernel_rfl)), f247 := Eq.trans Tryz.func249 (congrArg some (by kernel_rfl)), f279 := Eq.trans Tryz.func244 (congrArg some (by kernel_rfl)), f280 := Eq.trans Tryz.func245 (congrArg some (by kernel_rfl)), f281 := Eq.trans Tryz.func246 (congrArg some (by kernel_rfl)), f282 := Eq.trans Tryz.func247 (congrArg some (by kernel_rfl)), f283 := Eq.trans Tryz.func227 (congrArg some (by kernel_rfl)), f284 := Eq.trans Tryz.func228 (congrArg some (by kernel_rfl)), f285 := Eq.trans Tryz.func229 (congrArg some (by kernel_rfl)), f286 := Eq.trans Tryz.func230 (congrArg some (by kernel_rfl)), f287 := Eq.trans Tryz.func212 (congrArg some (by kernel_rfl)), f316 := Eq.trans Tryz.func266 (congrArg some (by kernel_rfl)), f317 := Eq.trans Tryz.func250 (congrArg some (by kernel_rfl)), f318 := Eq.trans Tryz.func251 (congrArg some (by kernel_rfl)), f319 := Eq.trans Tryz.func252 (congrArg some (by kernel_rfl)), f320 := Eq.trans Tryz.func253 (congrArg some (by kernel_rfl)), f321 := Eq.trans Tryz.func242 (congrArg some (by kernel_rfl)), f322 := Eq.trans Tryz.func243 (congrArg some (by kernel_rfl)), f337 := Eq.trans Tryz.func268 (congrArg some (by kernel_rfl)), f338 := Eq.trans Tryz.func269 (congrArg some (by kernel_rfl)), t0 := Tryz.underlying0, a0 := Tryz.isAgg0, z0 := Tryz.sizeOf0, v0 := Tryz.zeroValue0, t2 := Tryz.underlying2, a2 := Tryz.isAgg2, z2 := Tryz.sizeOf2, v2 := Tryz.zeroValue2, t3 := Tryz.underlying3, a3 := Tryz.isAgg3, z3 := Tryz.sizeOf3, v3 := Tryz.zeroValue3, t4 := Tryz.underlying4, a4 := Tryz.isAgg4, z4 := Tryz.sizeOf4, v4 := Tryz.zeroValue4, t5 := Tryz.underlying5, a5 := Tryz.isAgg5, z5 := Tryz.sizeOf5, v5 := Tryz.zeroValue5, t9 := Tryz.underlying9, a9 := Tryz.isAgg9, z9 := Tryz.sizeOf9, v9 := Tryz.zeroValue9, t20 := Tryz.underlying20, a20 := Tryz.isAgg20, z20 := Tryz.sizeOf20, v20 := Tryz.zeroValue20, t21 := Tryz.underlying21, a21 := Tryz.isAgg21, z21 := Tryz.sizeOf21, v21 := Tryz.zeroValue21, t37 := Tryz.underlying131, a37 := Tryz.isAgg131, z37 := Tryz.sizeOf131, v37 := Tryz.zeroValue131, t46 := Tryz.underlying75, a46 := Tryz.isAgg75, z46 := Tryz.sizeOf75, v46 := Tryz.zeroValue75, t51 := Tryz.underlying68, a51 := Tryz.isAgg68, z51 := Tryz.sizeOf68, v51 := Tryz.zeroValue68, t53 := Tryz.underlying22, a53 := Tryz.isAgg22, z53 := Tryz.sizeOf22, v53 := Tryz.zeroValue22, t75 := Tryz.underlying183, a75 := Tryz.isAgg183, z75 := Tryz.sizeOf183, v75 := Tryz.zeroValue183, t76 := Tryz.underlying195, a76 := Tryz.isAgg195, z76 := Tryz.sizeOf195, v76 := Tryz.zeroValue195, t85 := Tryz.underlying243, a85 := Tryz.isAgg243, z85 := Tryz.sizeOf243, v85 := Tryz.zeroValue243, t127 := Tryz.underlying232, a127 := Tryz.isAgg232, z127 := Tryz.sizeOf232, v127 := Tryz.zeroValue232, t143 := Tryz.underlying268, a143 := Tryz.isAgg268, z143 := Tryz.sizeOf268, v143 := Tryz.zeroValue268, t145 := Tryz.underlying270, a145 := Tryz.isAgg270, z145 := Tryz.sizeOf270, v145 := Tryz.zeroValue270, t167 := Tryz.underlying236, a167 := Tryz.isAgg236, z167 := Tryz.sizeOf236, v167 := Tryz.zeroValue236, t168 := Tryz.underlying238, a168 := Tryz.isAgg238, z168 := Tryz.sizeOf238, v168 := Tryz.zeroValue238, t171 := Tryz.underlying226, a171 := Tryz.isAgg226, z171 := Tryz.sizeOf226, v171 := Tryz.zeroValue226, t173 := Tryz.underlying228, a173 := Tryz.isAgg228, z173 := Tryz.sizeOf228, v173 := Tryz.zeroValue228, t175 := Tryz.underlying184, a175 := Tryz.isAgg184, z175 := Tryz.sizeOf184, v175 := Tryz.zeroValue184, t210 := Tryz.underlying260, a210 := Tryz.isAgg260, z210 := Tryz.sizeOf260, v210 := Tryz.zeroValue260, t212 := Tryz.underlying247, a212 := Tryz.isAgg247, z212 := Tryz.sizeOf247, v212 := Tryz.zeroValue247, t213 := Tryz.underlying248, a213 := Tryz.isAgg248, z213 := Tryz.sizeOf248, t232 := Tryz.underlying271, a232 := Tryz.isAgg271, z232 := Tryz.sizeOf271, v232 := Tryz.zeroValue271, t233 := Tryz.underlying272, a233 := Tryz.isAgg272, z233 := Tryz.sizeOf272, v233 := Tryz.zeroValue272, g15 := by kernel_rfl, g16 := by kernel_rfl, g17 := by kernel_rfl, g18 := by kernel_rfl, g19 := by kernel_rfl, t80 := Tryz.underlying211, a80 := Tryz.isAgg211, z80 := Tryz.sizeOf211, v80 := Tryz.zeroValue211, i0 := by kernel_rfl, i2 := by kernel_rfl, i3 := by kernel_rfl, i4 := by kernel_rfl, i5 := by kernel_rfl, i9 := by kernel_rfl, i20 := by kernel_rfl, i21 := by kernel_rfl, i37 := by kernel_rfl, i46 := by kernel_rfl, i51 := by kernel_rfl, i53 := by kernel_rfl, i75 := by kernel_rfl, i76 := by kernel_rfl, i80 := by kernel_rfl, i85 := by kernel_rfl, i127 := by kernel_rfl, i143 := by kernel_rfl, i145 := by kernel_rfl, i167 := by kernel_rfl, i168 := by kernel_rfl, i171 := by kernel_rfl, i173 := by kernel_rfl, i175 := by kernel_rfl, i210 := by kernel_rfl, i212 := by kernel_rfl, i232 := by kernel_rfl, i233 := by kernel_rfl, m15 := by kernel_rfl, m16 := by kernel_rfl, m17 := by kernel_rfl, m18 := by kernel_rfl, m19 := by kernel_rfl, c0 := by kernel_rfl, c2 := by kernel_rfl, c3 := by kernel_rfl, c4 := by kernel_rfl, c5 := by kernel_rfl, c9 := by kernel_rfl, c20 := by kernel_rfl, c21 := by kernel_rfl, c37 := by kernel_rfl, c46 := by kernel_rfl, c51 := by kernel_rfl, c53 := by kernel_rfl, c75 := by kernel_rfl, c76 := by kernel_rfl, c80 := by kernel_rfl, c85 := by kernel_rfl, c127 := by kernel_rfl, c143 := by kernel_rfl, c145 := by kernel_rfl, c167 := by kernel_rfl, c168 := by kernel_rfl, c171 := by kernel_rfl, c173 := by kernel_rfl, c175 := by kernel_rfl, c210 := by kernel_rfl, c212 := by kernel_rfl, c213 := by kernel_rfl, c232 := by kernel_rfl, c233 := by kernel_rfl }
theorem Tryz.strconv_Atoi (s : ByteArray) (hmax : s.size ≤ 9223372036854775806) (v : Int) (h : Lib.atoiAll s.data.toList = .ok v) (w : World) :
    Calls Tryz.prog 184 #[.string s] w fun e w' => e = .returned (.tuple #[.int .i64 v, .nilIface]) ∧ (w' = w ∨ ∃ t, w' = Lib.bytesWorld w 5 t) := Any.strconv_Atoi_ok Tryz.laysC172 s hmax v h w
def Tryz.laysPu14_ren : Go.Shelf.Ren :=
{
  f := fun x =>
    match x with
    | 14 => 162
    | 16 => 212
    | 17 => 213
    | 19 => 242
    | 20 => 243
    | 21 => 244
    | 22 => 245
    | 23 => 246
    | 24 => 247
    | 25 => 266
    | 27 => 66
    | 26 => 267
    | 28 => 129
    | 29 => 191
    | 30 => 227
    | 31 => 228
    | 32 => 229
    | 33 => 230
    | 35 => 112
    | 34 => 250
    | 36 => 251
    | 37 => 252
    | 38 => 253
    | 39 => 268
    | 40 => 269
    | n => n,
  t := fun x =>
    match x with
    | 9 => 9
    | 3 => 3
    | 22 => 22
    | 24 => 183
    | 25 => 184
    | 4 => 4
    | 34 => 236
    | 5 => 5
    | 36 => 75
    | 37 => 131
    | 0 => 0
    | 39 => 238
    | 21 => 21
    | 44 => 260
    | 47 => 232
    | 50 => 270
    | 48 => 268
    | 2 => 2
    | 52 => 226
    | 55 => 228
    | 59 => 247
    | 60 => 68
    | 20 => 20
    | 61 => 248
    | 65 => 271
    | 66 => 272
    | 67 => 211
    | n => n,
  g := fun x =>
    match x with
    | 0 => 4
    | 1 => 5
    | 2 => 3
    | 3 => 9
    | 4 => 10
    | n => n }
theorem Tryz.laysPu14 : LaysPu.n14 Tryz.prog Tryz.laysPu14_ren :=
  { mixed := by kernel_rfl, f14 := Eq.trans Tryz.func162 (congrArg some (by kernel_rfl)), f16 := Eq.trans Tryz.func212 (congrArg some (by kernel_rfl)), f17 := Eq.trans Tryz.func213 (congrArg some (by kernel_rfl)), f19 := Eq.trans Tryz.func242 (congrArg some (by kernel_rfl)), f20 := Eq.trans Tryz.func243 (congrArg some (by kernel_rfl)), f21 := Eq.trans Tryz.func244 (congrArg some (by kernel_rfl)), f22 := Eq.trans Tryz.func245 (congrArg some (by kernel_rfl)), f23 := Eq.trans Tryz.func246 (congrArg some (by kernel_rfl)), f24 := Eq.trans Tryz.func247 (congrArg some (by kernel_rfl)), f25 := Eq.trans Tryz.func266 (congrArg some (by kernel_rfl)), f26 := Eq.trans Tryz.func267 (congrArg some (by kernel_rfl)), f27 := Eq.trans Tryz.func66 (congrArg some (by kernel_rfl)), f28 := Eq.trans Tryz.func129 (congrArg some (by kernel_rfl)), f29 := Eq.trans Tryz.func191 (congrArg some (by kernel_rfl)), f30 := Eq.trans Tryz.func227 (congrArg some (by kernel_rfl)), f31 := Eq.trans Tryz.func228 (congrArg some (by kernel_rfl)), f32 := Eq.trans Tryz.func229 (congrArg some (by kernel_rfl)), f33 := Eq.trans Tryz.func230 (congrArg some (by kernel_rfl)), f34 := Eq.trans Tryz.func250 (congrArg some (by kernel_rfl)), f35 := Eq.trans Tryz.func112 (congrArg some (by kernel_rfl)), f36 := Eq.trans Tryz.func251 (congrArg some (by kernel_rfl)), f37 := Eq.trans Tryz.func252 (congrArg some (by kernel_rfl)), f38 := Eq.trans Tryz.func253 (congrArg some (by kernel_rfl)), f39 := Eq.trans Tryz.func268 (congrArg some (by kernel_rfl)), f40 := Eq.trans Tryz.func269 (congrArg some (by kernel_rfl)), t0 := Tryz.underlying0, a0 := Tryz.isAgg0, z0 := Tryz.sizeOf0, v0 := Tryz.zeroValue0, i0 := by kernel_rfl, t2 := Tryz.underlying2, a2 := Tryz.isAgg2, z2 := Tryz.sizeOf2, v2 := Tryz.zeroValue2, i2 := by kernel_rfl, t3 := Tryz.underlying3, a3 := Tryz.isAgg3, z3 := Tryz.sizeOf3, v3 := Tryz.zeroValue3, i3 := by kernel_rfl, t4 := Tryz.underlying4, a4 := Tryz.isAgg4, z4 := Tryz.sizeOf4, v4 := Tryz.zeroValue4, i4 := by kernel_rfl, t5 := Tryz.underlying5, a5 := Tryz.isAgg5, z5 := Tryz.sizeOf5, v5 := Tryz.zeroValue5, i5 := by kernel_rfl, t9 := Tryz.underlying9, a9 := Tryz.isAgg9, z9 := Tryz.sizeOf9, v9 := Tryz.zeroValue9, i9 := by kernel_rfl, t20 := Tryz.underlying20, a20 := Tryz.isAgg20, z20 := Tryz.sizeOf20, v20 := Tryz.zeroValue20, i20 := by kernel_rfl, t21 := Tryz.underlying21, a21 := Tryz.isAgg21, z21 := Tryz.sizeOf21, v21 := Tryz.zeroValue21, i21 := by kernel_rfl, t22 := Tryz.underlying22, a22 := Tryz.isAgg22, z22 := Tryz.sizeOf22, v22 := Tryz.zeroValue22, i22 := by kernel_rfl, t24 := Tryz.underlying183, a24 := Tryz.isAgg183, z24 := Tryz.sizeOf183, v24 := Tryz.zeroValue183, i24 := by kernel_rfl, t25 := Tryz.underlying184, a25 := Tryz.isAgg184, z25 := Tryz.sizeOf184, v25 := Tryz.zeroValue184, i25 := by kernel_rfl, t34 := Tryz.underlying236, a34 := Tryz.isAgg236, z34 := Tryz.sizeOf236, v34 := Tryz.zeroValue236, i34 := by kernel_rfl, c34 := by kernel_rfl, t36 := Tryz.underlying75, a36 := Tryz.isAgg75, z36 := Tryz.sizeOf75, v36 := Tryz.zeroValue75, i36 := by kernel_rfl, t37 := Tryz.underlying131, a37 := Tryz.isAgg131, z37 := Tryz.sizeOf131, v37 := Tryz.zeroValue131, i37 := by kernel_rfl, t39 := Tryz.underlying238, a39 := Tryz.isAgg238, z39 := Tryz.sizeOf238, v39 := Tryz.zeroValue238, i39 := by kernel_rfl, t44 := Tryz.underlying260, a44 := Tryz.isAgg260, z44 := Tryz.sizeOf260, v44 := Tryz.zeroValue260, i44 := by kernel_rfl, t47 := Tryz.underlying232, a47 := Tryz.isAgg232, z47 := Tryz.sizeOf232, v47 := Tryz.zeroValue232, i47 := by kernel_rfl, t48 := Tryz.underlying268, a48 := Tryz.isAgg268, z48 := Tryz.sizeOf268, v48 := Tryz.zeroValue268, i48 := by kernel_rfl, t50 := Tryz.underlying270, a50 := Tryz.isAgg270, z50 := Tryz.sizeOf270, v50 := Tryz.zeroValue270, i50 := by kernel_rfl, t52 := Tryz.underlying226, a52 := Tryz.isAgg226, z52 := Tryz.sizeOf226, v52 := Tryz.zeroValue226, i52 := by kernel_rfl, t55 := Tryz.underlying228, a55 := Tryz.isAgg228, z55 := Tryz.sizeOf228, v55 := Tryz.zeroValue228, i55 := by kernel_rfl, t59 := Tryz.underlying247, a59 := Tryz.isAgg247, z59 := Tryz.sizeOf247, v59 := Tryz.zeroValue247, i59 := by kernel_rfl, t60 := Tryz.underlying68, a60 := Tryz.isAgg68, z60 := Tryz.sizeOf68, v60 := Tryz.zeroValue68, i60 := by kernel_rfl, t61 := Tryz.underlying248, a61 := Tryz.isAgg248, z61 := Tryz.sizeOf248, t65 := Tryz.underlying271, a65 := Tryz.isAgg271, z65 := Tryz.sizeOf271, v65 := Tryz.zeroValue271, i65 := by kernel_rfl, t66 := Tryz.underlying272, a66 := Tryz.isAgg272, z66 := Tryz.sizeOf272, v66 := Tryz.zeroValue272, i66 := by kernel_rfl, t67 := Tryz.underlying211, a67 := Tryz.isAgg211, z67 := Tryz.sizeOf211, v67 := Tryz.zeroValue211, i67 := by kernel_rfl, g0 := by kernel_rfl, m0 := by kernel_rfl, g1 := by kernel_rfl, m1 := by kernel_rfl, g2 := by kernel_rfl, m2 := by kernel_rfl, g3 := by kernel_rfl, m3 := by kernel_rfl, g4 := by kernel_rfl, m4 := by kernel_rfl }
theorem Tryz.strconv_ParseUint (s : ByteArray) (hmax : s.size ≤ 9223372036854775806) (u : Nat) (h : Lib.parseUintB 64 s.data.toList = .ok u) (w : World) :
    Calls Tryz.prog 162 #[.string s, .int .i64 10, .int .i64 64] w fun e w' => e = .returned (.tuple #[.int .u64 u, .nilIface]) ∧ (w' = w ∨ w' = Lib.bytesWorld w 5 s) := Any.strconv_ParseUint_10_at64_ok Tryz.laysPu14 s hmax u h w
def Tryz.laysM171_ren : Go.Shelf.Ren :=
{
  f := fun x =>
    match x with
    | 171 => 66
    | 243 => 129
    | 246 => 191
    | 283 => 227
    | 284 => 228
    | 285 => 229
    | 286 => 230
    | 129 => 112
    | 317 => 250
    | 318 => 251
    | 319 => 252
    | 320 => 253
    | 337 => 268
    | 338 => 269
    | n => n,
  t := fun x =>
    match x with
    | 3 => 3
    | 9 => 9
    | 2 => 2
    | 4 => 4
    | 171 => 226
    | 0 => 0
    | 53 => 22
    | 37 => 131
    | 5 => 5
    | 173 => 228
    | 212 => 247
    | 51 => 68
    | 20 => 20
    | 213 => 248
    | 46 => 75
    | 232 => 271
    | 233 => 272
    | n => n,
  g := fun x =>
    match x with
    | 17 => 3
    | 18 => 9
    | 19 => 10
    | n => n }
theorem Tryz.laysM171 : LaysM.n171 Tryz.prog Tryz.laysM171_ren :=
  { mixed := by kernel_rfl, f129 := Eq.trans Tryz.func112 (congrArg some (by kernel_rfl)), f171 := Eq.trans Tryz.func66 (congrArg some (by kernel_rfl)), f243 := Eq.trans Tryz.func129 (congrArg some (by kernel_rfl)), f246 := Eq.trans Tryz.func191 (congrArg some (by kernel_rfl)), f283 := Eq.trans Tryz.func227 (congrArg some (by kernel_rfl)), f284 := Eq.trans Tryz.func228 (congrArg some (by kernel_rfl)), f285 := Eq.trans Tryz.func229 (congrArg some (by kernel_rfl)), f286 := Eq.trans Tryz.func230 (congrArg some (by kernel_rfl)), f317 := Eq.trans Tryz.func250 (congrArg some (by kernel_rfl)), f318 := Eq.trans Tryz.func251 (congrArg some (by kernel_rfl)), f319 := Eq.trans Tryz.func252 (congrArg some (by kernel_rfl)), f320 := Eq.trans Tryz.func253 (congrArg some (by kernel_rfl)), f337 := Eq.trans Tryz.func268 (congrArg some (by kernel_rfl)), f338 := Eq.trans Tryz.func269 (congrArg some (by kernel_rfl)), t0 := Tryz.underlying0, a0 := Tryz.isAgg0, z0 := Tryz.sizeOf0, v0 := Tryz.zeroValue0, t2 := Tryz.underlying2, a2 := Tryz.isAgg2, z2 := Tryz.sizeOf2, v2 := Tryz.zeroValue2, t3 := Tryz.underlying3, a3 := Tryz.isAgg3, z3 := Tryz.sizeOf3, v3 := Tryz.zeroValue3, t4 := Tryz.underlying4, a4 := Tryz.isAgg4, z4 := Tryz.sizeOf4, v4 := Tryz.zeroValue4, t5 := Tryz.underlying5, a5 := Tryz.isAgg5, z5 := Tryz.sizeOf5, v5 := Tryz.zeroValue5, t9 := Tryz.underlying9, a9 := Tryz.isAgg9, z9 := Tryz.sizeOf9, v9 := Tryz.zeroValue9, t20 := Tryz.underlying20, a20 := Tryz.isAgg20, z20 := Tryz.sizeOf20, v20 := Tryz.zeroValue20, t37 := Tryz.underlying131, a37 := Tryz.isAgg131, z37 := Tryz.sizeOf131, v37 := Tryz.zeroValue131, t46 := Tryz.underlying75, a46 := Tryz.isAgg75, z46 := Tryz.sizeOf75, v46 := Tryz.zeroValue75, t51 := Tryz.underlying68, a51 := Tryz.isAgg68, z51 := Tryz.sizeOf68, v51 := Tryz.zeroValue68, t53 := Tryz.underlying22, a53 := Tryz.isAgg22, z53 := Tryz.sizeOf22, v53 := Tryz.zeroValue22, t171 := Tryz.underlying226, a171 := Tryz.isAgg226, z171 := Tryz.sizeOf226, v171 := Tryz.zeroValue226, t173 := Tryz.underlying228, a173 := Tryz.isAgg228, z173 := Tryz.sizeOf228, v173 := Tryz.zeroValue228, t212 := Tryz.underlying247, a212 := Tryz.isAgg247, z212 := Tryz.sizeOf247, v212 := Tryz.zeroValue247, t213 := Tryz.underlying248, a213 := Tryz.isAgg248, z213 := Tryz.sizeOf248, t232 := Tryz.underlying271, a232 := Tryz.isAgg271, z232 := Tryz.sizeOf271, v232 := Tryz.zeroValue271, t233 := Tryz.underlying272, a233 := Tryz.isAgg272, z233 := Tryz.sizeOf272, v233 := Tryz.zeroValue272, g17 := by kernel_rfl, g18 := by kernel_rfl, g19 := by kernel_rfl, i0 := by kernel_rfl, i2 := by kernel_rfl, i3 := by kernel_rfl, i4 := by kernel_rfl, i5 := by kernel_rfl, i9 := by kernel_rfl, i20 := by kernel_rfl, i37 := by kernel_rfl, i46 := by kernel_rfl, i51 := by kernel_rfl, i53 := by kernel_rfl, i171 := by kernel_rfl, i173 := by kernel_rfl, i212 := by kernel_rfl, i232 := by kernel_rfl, i233 := by kernel_rfl, m17 := by kernel_rfl, m18 := by kernel_rfl, m19 := by kernel_rfl }
theorem Tryz.strconv_Itoa (n : Int) (h0 : -9223372036854775808 ≤ n) (h1 : n ≤ 9223372036854775807) (w : World) (htab : Lib.TabIs Tryz.prog w "internal/strconv.uint64pow10" .u64 Lib.pow10Tab) :
    Calls Tryz.prog 66 #[.int .i64 n] w fun e w' => e = .returned (.string ⟨(Lib.itoa n).toArray⟩) ∧ ∃ k os, w' = grow (w.drewN k) os := Any.strconv_Itoa Tryz.laysM171 n h0 h1 w htab
def Tryz.lays230_ren : Go.Shelf.Ren :=
{
  f := fun x =>
    match x with
    | 230 => 239
    | 197 => 237
    | 118 => 261
    | 165 => 200
    | 166 => 201
    | 168 => 262
    | 270 => 263
    | 167 => 264
    | 169 => 203
    | 260 => 256
    | 240 => 234
    | 241 => 235
    | 242 => 271
    | 276 => 254
    | 277 => 255
    | 278 => 273
    | n => n,
  t := fun x =>
    match x with
    | 107 => 235
    | 9 => 9
    | 72 => 208
    | 0 => 0
    | 4 => 4
    | 3 => 3
    | 21 => 21
    | 105 => 213
    | 76 => 195
    | 5 => 5
    | 75 => 183
    | 70 => 206
    | 20 => 20
    | 37 => 131
    | 127 => 232
    | 119 => 263
    | 46 => 75
    | 139 => 266
    | 138 => 265
    | 164 => 250
    | 51 => 68
    | 80 => 211
    | n => n,
  g := fun x =>
    match x with
    | 3 => 7
    | 4 => 8
    | n => n }
theorem Tryz.lays230 : Lays.n230 Tryz.prog Tryz.lays230_ren :=
  { mixed := by kernel_rfl, f118 := Eq.trans Tryz.func261 (congrArg some (by kernel_rfl)), f165 := Eq.trans Tryz.func200 (congrArg some (by kernel_rfl)), f166 := Eq.trans Tryz.func201 (congrArg some (by kernel_rfl)), f167 := Eq.trans Tryz.func264 (congrArg some (by kernel_rfl)), f168 := Eq.trans Tryz.func262 (congrArg some (by kernel_rfl)), f169 := Eq.trans Tryz.func203 (congrArg some (by kernel_rfl)), f197 := Eq.trans Tryz.func237 (congrArg some (by kernel_rfl)), f230 := Eq.trans Tryz.func239 (congrArg some (by kernel_rfl)), f240 := Eq.trans Tryz.func234 (congrArg some (by kernel_rfl)), f241 := Eq.trans Tryz.func235 (congrArg some (by kernel_rfl)), f242 := Eq.trans Tryz.func271 (congrArg some (by kernel_rfl)), f260 := Eq.trans Tryz.func256 (congrArg some (by kernel_rfl)), f270 := Eq.trans Tryz.func263 (congrArg some (by kernel_rfl)), f276 := Eq.trans Tryz.func254 (congrArg some (by kernel_rfl)), f277 := Eq.trans Tryz.func255 (congrArg some (by kernel_rfl)), f278 := Eq.trans Tryz.func273 (congrArg some (by kernel_rfl)), t0 := Tryz.underlying0, a0 := Tryz.isAgg0, z0 := Tryz.sizeOf0, v0 := Tryz.zeroValue0, t3 := Tryz.underlying3, a3 := Tryz.isAgg3, z3 := Tryz.sizeOf3, v3 := Tryz.zeroValue3, t4 := Tryz.underlying4, a4 := Tryz.isAgg4, z4 := Tryz.sizeOf4, v4 := Tryz.zeroValue4, t5 := Tryz.underlying5, a5 := Tryz.isAgg5, z5 := Tryz.sizeOf5, v5 := Tryz.zeroValue5, t9 := Tryz.underlying9, a9 := Tryz.isAgg9, z9 := Tryz.sizeOf9, v9 := Tryz.zeroValue9, t20 := Tryz.underlying20, a20 := Tryz.isAgg20, z20 := Tryz.sizeOf20, v20 := Tryz.zeroValue20, t21 := Tryz.underlying21, a21 := Tryz.isAgg21, z21 := Tryz.sizeOf21, v21 := Tryz.zeroValue21, t37 := Tryz.underlying131, a37 := Tryz.isAgg131, z37 := Tryz.sizeOf131, v37 := Tryz.zeroValue131, t46 := Tryz.underlying75, a46 := Tryz.isAgg75, z46 := Tryz.sizeOf75, v46 := Tryz.zeroValue75, t51 := Tryz.underlying68, a51 := Tryz.isAgg68, z51 := Tryz.sizeOf68, v51 := Tryz.zeroValue68, t70 := Tryz.underlying206, a70 := Tryz.isAgg206, z70 := Tryz.sizeOf206, v70 := Tryz.zeroValue206, t72 := Tryz.underlying208, a72 := Tryz.isAgg208, z72 := Tryz.sizeOf208, v72 := Tryz.zeroValue208, t75 := Tryz.underlying183, a75 := Tryz.isAgg183, z75 := Tryz.sizeOf183, v75 := Tryz.zeroValue183, t76 := Tryz.underlying195, a76 := Tryz.isAgg195, z76 := Tryz.sizeOf195, v76 := Tryz.zeroValue195, t105 := Tryz.underlying213, a105 := Tryz.isAgg213, z105 := Tryz.sizeOf213, v105 := Tryz.zeroValue213, t107 := Tryz.underlying235, a107 := Tryz.isAgg235, z107 := Tryz.sizeOf235, v107 := Tryz.zeroValue235, t119 := Tryz.underlying263, a119 := Tryz.isAgg263, z119 := Tryz.sizeOf263, t127 := Tryz.underlying232, a127 := Tryz.isAgg232, z127 := Tryz.sizeOf232, v127 := Tryz.zeroValue232, t138 := Tryz.underlying265, a138 := Tryz.isAgg265, z138 := Tryz.sizeOf265, v138 := Tryz.zeroValue265, t139 := Tryz.underlying266, a139 := Tryz.isAgg266, z139 := Tryz.sizeOf266, v139 := Tryz.zeroValue266, t164 := Tryz.underlying250, a164 := Tryz.isAgg250, z164 := Tryz.sizeOf250, v164 := Tryz.zeroValue250, g3 := by kernel_rfl, g4 := by kernel_rfl }
theorem Tryz.builder_extra : Builder.Extra Tryz.prog Tryz.lays230_ren where
  sizeBuilder := by kernel_rfl
  liesBuilder := by kernel_rfl
  t5 := Tryz.underlying5
  a5 := Tryz.isAgg5
  z5 := Tryz.sizeOf5
  v5 := Tryz.zeroValue5
  infoByte := by kernel_rfl
  cellsByte := by kernel_rfl
  sizeByte := by kernel_rfl
  neB5 := by decide
theorem Tryz.strings_Map (g : Nat) (lb : Array Value) (eg : ∀ args w, (callFunc g args).run Tryz.prog w = .ok (.enter g args) w) (f : Int → Int) (s : ByteArray) (w : World) (hs : s.size < 35184372088832)
    (hf : MapAtRunes Tryz.prog g lb f w) (hnn : ∀ x : Nat, x ≤ 1114111 → 0 ≤ f x ∧ f x ≤ 2147483647) (hT : Lib.Utf8Tabs 7 8 w) :
    Calls Tryz.prog 239 #[.func (.func g) #[] lb, .string s] w fun e w' => e = .returned (.string ⟨(Lib.mapD f s.data.toList).toArray⟩) ∧ Below w.heap.size w w' := Any.strings_Map_runes Tryz.lays230 Tryz.builder_extra g lb eg f s w hs hf hnn hT
end Go.Proofs
set_option maxRecDepth 20000
namespace Go.Proofs.AMT
open Go Go.Shelf Go.RowKit Go.Sort Go.Lib Go.AM Go.AM.LN
theorem below_grow (w : World) (k : Nat) (os : Array Obj) : Below w.heap.size w (Go.Sort.grow (w.drewN k) os) := by
  refine ⟨rfl, rfl, rfl, ?_, fun j hj => ?_⟩
  · show w.heap.size ≤ (w.heap ++ os).size
    simp
  · show (w.heap ++ os)[j]? = w.heap[j]?
    rw [Array.getElem?_append_left hj]
theorem below_bytes (w : World) (e : TypeId) (s : ByteArray) : Below w.heap.size w (Lib.bytesWorld w e s) :=
  ⟨rfl, rfl, rfl, by rw [Lib.bytesWorld_size]; omega, fun j hj => Lib.bytesWorld_at_old w e s j hj⟩
theorem asc10 : ∀ (j : Nat) b, cs10[j]? = some b → b.toNat < 128 := ascii_of_all (by decide)
theorem asc48 : ∀ (j : Nat) b, ([48] : List UInt8)[j]? = some b → b.toNat < 128 := ascii_of_all (by decide)
noncomputable def lCutPre : Cs := fun ds => match ds with
  | [.v (.string s), .v (.string c)] => some (True, .many [.v (.string (bs (trimPrefix s.data.toList c.data.toList))), .v (.bool (hasPrefix s.data.toList c.data.toList))])
  | _ => none
theorem lCutPre_eq (s c : ByteArray) : norm lCutPre [.v (.string s), .v (.string c)] = some (True, .many [.v (.string (bs (trimPrefix s.data.toList c.data.toList))), .v (.bool (hasPrefix s.data.toList c.data.toList))]) := rfl
theorem snd_lCutPre : Sound Tryz.prog 116 .body (norm lCutPre) := by
  refine Sn ⟨Tryz.f116, Tryz.func116, by kernel_rfl, by kernel_rfl, fun ds p r hs hp w vs hT hr => ?_⟩
  unfold lCutPre at hs
  split at hs
  · rename_i s c
    cases hs
    match vs, hr with
    | [v0, v1], ⟨h0, h1, _⟩ =>
      have h0' : v0 = .string s := h0
      have h1' : v1 = .string c := h1
      subst h0' h1'
      refine (Tryz.strings_CutPrefix s c w).mono ?_
      rintro e w' ⟨rfl, rfl⟩
      exact ⟨_, rfl, Below.refl _ _, [.string (bs (trimPrefix s.data.toList c.data.toList)), .bool (hasPrefix s.data.toList c.data.toList)], rfl, ⟨rfl, rfl, trivial⟩, by simp [freshBs]⟩
  · cases hs
noncomputable def lCutSuf : Cs := fun ds => match ds with
  | [.v (.string s), .v (.string c)] => some (s.size ≤ 1000000, .many [.v (.string (bs (trimSuffix s.data.toList c.data.toList))), .v (.bool (hasSuffix s.data.toList c.data.toList))])
  | _ => none
theorem lCutSuf_eq (s c : ByteArray) : norm lCutSuf [.v (.string s), .v (.string c)] = some (s.size ≤ 1000000, .many [.v (.string (bs (trimSuffix s.data.toList c.data.toList))), .v (.bool (hasSuffix s.data.toList c.data.toList))]) := rfl
theorem snd_lCutSuf : Sound Tryz.prog 208 .body (norm lCutSuf) := by
  refine Sn ⟨Tryz.f208, Tryz.func208, by kernel_rfl, by kernel_rfl, fun ds p r hs hp w vs hT hr => ?_⟩
  unfold lCutSuf at hs
  split at hs
  · rename_i s c
    cases hs
    match vs, hr with
    | [v0, v1], ⟨h0, h1, _⟩ =>
      have h0' : v0 = .string s := h0
      have h1' : v1 = .string c := h1
      subst h0' h1'
      refine (Tryz.strings_CutSuffix s c w (Nat.le_trans hp (by decide))).mono ?_
      rintro e w' ⟨rfl, rfl⟩
      exact ⟨_, rfl, Below.refl _ _, [.string (bs (trimSuffix s.data.toList c.data.toList)), .bool (hasSuffix s.data.toList c.data.toList)], rfl, ⟨rfl, rfl, trivial⟩, by simp [freshBs]⟩
  · cases hs
noncomputable def lTrimPre : Cs := fun ds => match ds with
  | [.v (.string s), .v (.string c)] => some (True, .one (.v (.string (bs (trimPrefix s.data.toList c.data.toList)))))
  | _ => none
theorem lTrimPre_eq (s c : ByteArray) : norm lTrimPre [.v (.string s), .v (.string c)] = some (True, .one (.v (.string (bs (trimPrefix s.data.toList c.data.toList))))) := rfl
theorem snd_lTrimPre : Sound Tryz.prog 181 .body (norm lTrimPre) := by
  refine Sn ⟨Tryz.f181, Tryz.func181, by kernel_rfl, by kernel_rfl, fun ds p r hs hp w vs hT hr => ?_⟩
  unfold lTrimPre at hs
  split at hs
  · rename_i s c
    cases hs
    match vs, hr with
    | [v0, v1], ⟨h0, h1, _⟩ =>
      have h0' : v0 = .string s := h0
      have h1' : v1 = .string c := h1
      subst h0' h1'
      refine (Tryz.strings_TrimPrefix s c w).mono ?_
      rintro e w' ⟨rfl, rfl⟩
      exact ⟨_, rfl, Below.refl _ _, rfl⟩
  · cases hs
noncomputable def lTrimL : Cs := fun ds => match ds with
  | [.v (.string s), .v (.string c)] => some (c = ⟨#[48]⟩ ∨ c = ⟨#[48, 49, 50, 51, 52, 53, 54, 55, 56, 57]⟩, .one (.v (.string (bs (trimLeftS s.data.toList c.data.toList)))))
  | _ => none
theorem lTrimL_eq (s c : ByteArray) : norm lTrimL [.v (.string s), .v (.string c)] = some (c = ⟨#[48]⟩ ∨ c = ⟨#[48, 49, 50, 51, 52, 53, 54, 55, 56, 57]⟩, .one (.v (.string (bs (trimLeftS s.data.toList c.data.toList))))) := rfl
theorem snd_lTrimL : Sound Tryz.prog 182 .body (norm lTrimL) := by
  refine Sn ⟨Tryz.f182, Tryz.func182, by kernel_rfl, by kernel_rfl, fun ds p r hs hp w vs hT hr => ?_⟩
  unfold lTrimL at hs
  split at hs
  · rename_i s c
    cases hs
    match vs, hr with
    | [v0, v1], ⟨h0, h1, _⟩ =>
      have h0' : v0 = .string s := h0
      have h1' : v1 = .string c := h1
      subst h0' h1'
      have ha : ∀ (j : Nat) b, c.data.toList[j]? = some b → b.toNat < 128 := by
        rcases hp with rfl | rfl
        · exact asc48
        · exact asc10
      have hc : c.size < 4294967281 := by rcases hp with rfl | rfl <;> decide
      refine (Tryz.strings_TrimLeft s c w hc ha).mono ?_
      rintro e w' ⟨rfl, hb⟩
      exact ⟨_, rfl, hb, rfl⟩
  · cases hs
noncomputable def lTrim : Cs := fun ds => match ds with
  | [.v (.string s), .v (.string c)] => some (s.size ≤ 1000000 ∧ (c = ⟨#[48]⟩ ∨ c = ⟨#[48, 49, 50, 51, 52, 53, 54, 55, 56, 57]⟩), .one (.v (.string (bs (trimS s.data.toList c.data.toList)))))
  | _ => none
theorem lTrim_eq (s c : ByteArray) : norm lTrim [.v (.string s), .v (.string c)] = some (s.size ≤ 1000000 ∧ (c = ⟨#[48]⟩ ∨ c = ⟨#[48, 49, 50, 51, 52, 53, 54, 55, 56, 57]⟩), .one (.v (.string (bs (trimS s.data.toList c.data.toList))))) := rfl
theorem snd_lTrim : Sound Tryz.prog 161 .body (norm lTrim) := by
  refine Sn ⟨Tryz.f161, Tryz.func161, by kernel_rfl, by kernel_rfl, fun ds p r hs hp w vs hT hr => ?_⟩
  unfold lTrim at hs
  split at hs
  · rename_i s c
    cases hs
    match vs, hr with
    | [v0, v1], ⟨h0, h1, _⟩ =>
      have h0' : v0 = .string s := h0
      have h1' : v1 = .string c := h1
      subst h0' h1'
      obtain ⟨hz, hp⟩ := hp
      have ha : ∀ (j : Nat) b, c.data.toList[j]? = some b → b.toNat < 128 := by
        rcases hp with rfl | rfl
        · exact asc48
        · exact asc10
      have hc : c.size < 4294967281 := by rcases hp with rfl | rfl <;> decide
      refine (Tryz.strings_Trim s c w (Nat.le_trans hz (by decide)) hc ha).mono ?_
      rintro e w' ⟨rfl, hb⟩
      exact ⟨_, rfl, hb, rfl⟩
  · cases hs
noncomputable def lAtoi : Cs := fun ds => match ds with
  | [.v (.string s)] => some (∃ l : List UInt8, l.all isDg = true ∧ l.length ≤ 11 ∧ s = bs (48 :: l), .many [.v (.int .i64 (dv s.data.toList)), .v .nilIface])
  | _ => none
theorem lAtoi_eq (s : ByteArray) : norm lAtoi [.v (.string s)] = some (∃ l : List UInt8, l.all isDg = true ∧ l.length ≤ 11 ∧ s = bs (48 :: l), .many [.v (.int .i64 (dv s.data.toList)), .v .nilIface]) := rfl
theorem snd_lAtoi : Sound Tryz.prog 184 .body (norm lAtoi) := by
  refine Sn ⟨Tryz.f184, Tryz.func184, by kernel_rfl, by kernel_rfl, fun ds p r hs hp w vs hT hr => ?_⟩
  unfold lAtoi at hs
  split at hs
  · rename_i s
    cases hs
    match vs, hr with
    | [v0], ⟨h0, _⟩ =>
      have h0' : v0 = .string s := h0
      subst h0'
      obtain ⟨l, ha, hl, rfl⟩ := hp
      refine (Tryz.strconv_Atoi (bs (48 :: l)) (by rw [Bz]; simp; omega) (dv l : Int) (by rw [Bd]; exact atoi_dv ha hl) w).mono ?_
      rintro e w' ⟨rfl, hw⟩
      have hb : Below w.heap.size w w' := by
        rcases hw with rfl | ⟨t, rfl⟩
        · exact Below.refl _ _
        · exact below_bytes _ _ _
      have e0 : dv (48 :: l) = dv l := by rw [dv_cons]; simp
      rw [Bd, e0]
      exact ⟨_, rfl, hb, [.int .i64 (dv l), .nilIface], rfl, ⟨rfl, rfl, trivial⟩, by simp [freshBs]⟩
  · cases hs
theorem parseU_dv {s : ByteArray} (ha : s.data.toList.all isDg = true) (hn : s.data.toList ≠ []) (hl : s.size ≤ 19) : parseUintB 64 s.data.toList = .ok (dv s.data.toList) := by
  have h1 := dv_lt _ ha
  have h2 : 10 ^ s.data.toList.length ≤ 10 ^ 19 := Nat.pow_le_pow_right (by decide) (by rw [← Lib.size_eq]; exact hl)
  unfold parseUintB
  rw [if_neg hn]
  have := parse_dv (2 ^ 64 - 1) (by decide) s.data.toList 0 ha (by omega)
  simpa using this
noncomputable def lParse : Cs := fun ds => match ds with
  | [.v (.string s), .v (.int .i64 a), .v (.int .i64 b)] => some (((s.data.toList.all isDg = true ∧ s.data.toList ≠ []) ∧ s.size ≤ 19) ∧ a = 10 ∧ b = 64, .many [.v (.int .u64 (dv s.data.toList)), .v .nilIface])
  | _ => none
theorem lParse_eq (s : ByteArray) (a b : Int) : norm lParse [.v (.string s), .v (.int .i64 a), .v (.int .i64 b)] = some (((s.data.toList.all isDg = true ∧ s.data.toList ≠ []) ∧ s.size ≤ 19) ∧ a = 10 ∧ b = 64, .many [.v (.int .u64 (dv s.data.toList)), .v .nilIface]) := rfl
theorem snd_lParse : Sound Tryz.prog 162 .body (norm lParse) := by
  refine Sn ⟨Tryz.f162, Tryz.func162, by kernel_rfl, by kernel_rfl, fun ds p r hs hp w vs hT hr => ?_⟩
  unfold lParse at hs
  split at hs
  · rename_i s a b
    cases hs
    match vs, hr with
    | [v0, v1, v2], ⟨h0, h1, h2, _⟩ =>
      have h0' : v0 = .string s := h0
      have h1' : v1 = .int .i64 a := h1
      have h2' : v2 = .int .i64 b := h2
      subst h0' h1' h2'
      obtain ⟨⟨⟨ha, hn⟩, hl⟩, rfl, rfl⟩ := hp
      refine (Tryz.strconv_ParseUint s (by omega) (dv s.data.toList) (parseU_dv ha hn hl) w).mono ?_
      rintro e w' ⟨rfl, hw⟩
      have hb : Below w.heap.size w w' := by
        rcases hw with rfl | rfl
        · exact Below.refl _ _
        · exact below_bytes _ _ _
      exact ⟨_, rfl, hb, [.int .u64 (dv s.data.toList), .nilIface], rfl, ⟨rfl, rfl, trivial⟩, by simp [freshBs]⟩
  · cases hs
noncomputable def lItoa : Cs := fun ds => match ds with
  | [.v (.int .i64 n)] => some (-9223372036854775808 ≤ n ∧ n ≤ 9223372036854775807, .one (.v (.string (bs (itoa n)))))
  | _ => none
theorem lItoa_eq (n : Int) : norm lItoa [.v (.int .i64 n)] = some (-9223372036854775808 ≤ n ∧ n ≤ 9223372036854775807, .one (.v (.string (bs (itoa n))))) := rfl
theorem snd_lItoa : Sound Tryz.prog 66 .body (norm lItoa) := by
  refine Sn ⟨Tryz.f66, Tryz.func66, by kernel_rfl, by kernel_rfl, fun ds p r hs hp w vs hT hr => ?_⟩
  unfold lItoa at hs
  split at hs
  · rename_i n
    cases hs
    match vs, hr with
    | [v0], ⟨h0, _⟩ =>
      have h0' : v0 = .int .i64 n := h0
      subst h0'
      refine (Tryz.strconv_Itoa n hp.1 hp.2 w hT.2).mono ?_
      rintro e w' ⟨rfl, k, os, rfl⟩
      exact ⟨_, rfl, below_grow w k os, rfl⟩
  · cases hs
theorem low_c (w : World) : MapAtRunes Tryz.prog 240 #[] lowF w := by
  intro W x hx hb
  unfold FnGives lowF
  have hcase : (65 ≤ (x : Int) ∧ (x : Int) ≤ 90) ∨ ¬ (65 ≤ (x : Int) ∧ (x : Int) ≤ 90) := by omega
  rcases hcase with hc | hc
  · rw [if_pos hc]
    show Calls Tryz.prog 240 #[.int .i32 (x : Int)] W _
    go_enter Tryz.func240, Tryz.ntmps240
    go_wp2
    go_ret
    exact ⟨by rw [show (x : Int) + 97 - 65 = (x : Int) + 32 by omega]; rfl, 0, rfl⟩
  · rw [if_neg hc]
    show Calls Tryz.prog 240 #[.int .i32 (x : Int)] W _
    go_enter Tryz.func240, Tryz.ntmps240
    go_wp2
    all_goals (go_ret; exact ⟨rfl, 0, rfl⟩)
noncomputable def lMap : Cs := fun ds => match ds with
  | [.v (.func f a b), .v (.string s)] => some ((f = .func 240 ∧ a = #[] ∧ b = #[]) ∧ s.size ≤ 1000000, .one (.v (.string (bs (mapD lowF s.data.toList)))))
  | _ => none
theorem lMap_eq (f : Fn) (a : Array Value) (b : Array Value) (s : ByteArray) : norm lMap [.v (.func f a b), .v (.string s)] = some ((f = .func 240 ∧ a = #[] ∧ b = #[]) ∧ s.size ≤ 1000000, .one (.v (.string (bs (mapD lowF s.data.toList))))) := rfl
theorem snd_lMap : Sound Tryz.prog 239 .body (norm lMap) := by
  refine Sn ⟨Tryz.f239, Tryz.func239, by kernel_rfl, by kernel_rfl, fun ds p r hs hp w vs hT hr => ?_⟩
  unfold lMap at hs
  split at hs
  · rename_i f a b s
    cases hs
    match vs, hr with
    | [v0, v1], ⟨h0, h1, _⟩ =>
      have h0' : v0 = .func f a b := h0
      have h1' : v1 = .string s := h1
      subst h0' h1'
      obtain ⟨⟨rfl, rfl, rfl⟩, hz⟩ := hp
      refine (Tryz.strings_Map 240 #[] (enters_of Tryz.func240 (by kernel_rfl) rfl) lowF s w (by omega) (low_c w) (fun x hx => by unfold lowF; split <;> omega) hT.1).mono ?_
      rintro e w' ⟨rfl, hb⟩
      exact ⟨_, rfl, hb, rfl⟩
  · cases hs
end Go.Proofs.AMT
set_option maxRecDepth 20000
namespace Go.Proofs.AMT
open Go.AM Go.AM.LN
attribute [local congr] bindO_congr bindS_congr bindG_congr awpOps_congr aOne_congr awp_congr aCond_congr awpD_congr dOne_congr keysB_congr nOne_congr thenP_congr blockP_congr Chk_congr Brk_congr
noncomputable def s114 : Cs := fun ds => match ds with
  | [.v (.string s)] => some (True, .many [.v (.bool (sgnN s.data.toList)), .v (.string (bs (sgnR s.data.toList)))])
  | _ => none
theorem s114_eq (s : ByteArray) : norm s114 [.v (.string s)] = s114 [.v (.string s)] := rfl
noncomputable def G114 : Gam := [(116, .body, norm lCutPre), (181, .body, norm lTrimPre)]
theorem G114_ok : Gk Tryz.prog G114 := Gc snd_lCutPre (Gc snd_lTrimPre Gn)
theorem k114_116 : lk G114 116 = some (.body, norm lCutPre) := rfl
theorem k114_181 : lk G114 181 = some (.body, norm lTrimPre) := rfl
theorem wk114 (s : ByteArray) (hp : True) : awp ty G114 (code Tryz.f114) (retP ty Tryz.f114.results.toList (.many [.v (.bool (sgnN s.data.toList)), .v (.string (bs (sgnR s.data.toList)))])) (entry 0 [.v (.string s)]) [] := by
  unfold code
  simp only [Tryz.f114, Option.getD_some]
  obtain ⟨l, rfl⟩ : ∃ l, s = bs l := ⟨_, Bt s⟩
  rw [Bd]
  all_goals repeat' (first
 | ((with_reducible first | (refine ZA ?_; intro X hX) | (show awp _ _ _ _ (Kp _ _) _) | refine ZD ?_ | refine ZE ?_ | refine ZF ?_ | ((show Bg _ _ _ _ _); simp only [hall]) | (refine ZR ?_ ?_ <;> intro hb <;> (try simp only [hb]) <;> have hq := hb <;> try simp only [HQ] at hq)) <;> try simp only [Go.AM.SS, Nat.reduceAdd, Nat.reduceMul, Nat.reduceSub, ↓reduceIte, Nat.reduceEqDiff, Nat.reduceLT, Nat.reduceLeDiff, reduceCtorEq, Int.reduceBEq, Int.reduceBNe, Nat.reduceBEq, Int.reduceEq, Int.reduceToNat, Int.reduceLE, Int.reduceLT, Nat.reduceDiv, Int.reduceAdd, Int.reduceSub, Int.reduceMul, Int.reduceNeg, Int.reduceGT, Int.reduceGE, Nat.reduceMod, k114_116, lCutPre_eq, k114_181, lTrimPre_eq, ty_9, bs_lit, bs_app, Bz, bs_beq, Bi, Bd, Be, bt_bs, List.length_append, List.append_nil, List.nil_append, List.cons_append])
 | with_reducible first
 | (refine hX _ _ ?_; clear hX X)
 | (refine ZG ?_; try clear hall all)
 | (refine hK _ _ ?_; clear hK K)
 | refine ZL ?_
 | (refine v_0 _ _ ?_; try clear v_0 V_0)
 | (refine v_1 _ _ ?_; try clear v_1 V_1)
 | ((first | refine qr 4 [2,3] ?_ | refine Zh (a := .seq (.region 1 _ _) _) [0] ?_ | refine qr 0 [0] ?_); intro V_0 v_0)
 | ((first | refine qr 3 [2,3] ?_ | refine qr 2 [0,4,11] ?_ | refine qr 1 [0,4,5] ?_); intro V_1 v_1)
 | (refine ZM ?_; intro K hK)
 | (refine ZN ?_; intro all hall K hK)
 | (refine ZQ ?_ ?_)
 | refine ZT ?_ | refine ZU ?_ | refine ZW ?_)
  all_goals try clear v_1 V_1
  all_goals try clear v_0 V_0
  all_goals (try simp only [inR])
  all_goals first
    | omega
    | (rw [(sgn_t hq).1, (sgn_t hq).2]; exact ⟨rfl, rfl⟩)
    | (rw [(sgn_f hq).1, (sgn_f hq).2]; exact ⟨rfl, rfl⟩)
    | skip
theorem sound_114 : Sound Tryz.prog 114 .body (norm s114) := by
  refine sb Tryz.func114 rfl (by kernel_rfl) G114_ok (by kernel_rfl) fun ds p r hs hp => ?_
  unfold s114 at hs
  split at hs
  · cases hs; exact ⟨Nat.le_of_ble_eq_true (by kernel_rfl), wk114 _ hp⟩
  · cases hs
noncomputable def s155 : Cs := fun ds => match ds with
  | [.v (.string s)] => some (s.size ≤ 100000, .many [.v (.string (bs (gDig s.data.toList))), .v (.string (bs (gOff s.data.toList)))])
  | _ => none
theorem s155_eq (s : ByteArray) : norm s155 [.v (.string s)] = s155 [.v (.string s)] := rfl
noncomputable def G155 : Gam := [(182, .body, norm lTrimL)]
theorem G155_ok : Gk Tryz.prog G155 := Gc snd_lTrimL Gn
theorem k155_182 : lk G155 182 = some (.body, norm lTrimL) := rfl
theorem wk155 (s : ByteArray) (hp : s.size ≤ 100000) : awp ty G155 (code Tryz.f155) (retP ty Tryz.f155.results.toList (.many [.v (.string (bs (gDig s.data.toList))), .v (.string (bs (gOff s.data.toList)))])) (entry 0 [.v (.string s)]) [] := by
  unfold code
  simp only [Tryz.f155, Option.getD_some]
  obtain ⟨l, rfl⟩ : ∃ l, s = bs l := ⟨_, Bt s⟩
  rw [Bz] at hp
  rw [Bd]
  have hl := gOff_len l
  have hr := gRun l
  have ht : Go.Lib.trimLeftS l [48, 49, 50, 51, 52, 53, 54, 55, 56, 57] = gOff l := trim10 l
  have e0 : ((l.length : Int) - ((gOff l).length : Int)).toNat = l.length - (gOff l).length := by omega
  all_goals repeat' (first
 | ((with_reducible first | (refine ZA ?_; intro X hX) | (show awp _ _ _ _ (Kp _ _) _) | refine ZD ?_ | refine ZE ?_ | refine ZF ?_ | ((show Bg _ _ _ _ _); simp only [hall]) | (refine ZR ?_ ?_ <;> intro hb <;> (try simp only [hb]) <;> have hq := hb <;> try simp only [HQ] at hq)) <;> try simp only [Go.AM.SS, Nat.reduceAdd, Nat.reduceMul, Nat.reduceSub, ↓reduceIte, Nat.reduceEqDiff, Nat.reduceLT, Nat.reduceLeDiff, reduceCtorEq, Int.reduceBEq, Int.reduceBNe, Nat.reduceBEq, Int.reduceEq, Int.reduceToNat, Int.reduceLE, Int.reduceLT, Nat.reduceDiv, Int.reduceAdd, Int.reduceSub, Int.reduceMul, Int.reduceNeg, Int.reduceGT, Int.reduceGE, Nat.reduceMod, k155_182, lTrimL_eq, ty_3, ty_9, bs_lit, bs_app, Bz, bs_beq, Bi, Bd, Be, bt_bs, List.length_append, List.append_nil, List.nil_append, List.cons_append, ht, e0, List.drop_zero, Nat.sub_zero, Int.toNat_zero, hr])
 | with_reducible first
 | (refine hX _ _ ?_; clear hX X)
 | (refine ZG ?_; try clear hall all)
 | (refine hK _ _ ?_; clear hK K)
 | refine ZL ?_
 | (refine v_0 _ _ ?_; try clear v_0 V_0)
 | ((first | refine qr 2 [2,3] ?_ | refine qr 1 [0,4] ?_ | refine qr 0 [0] ?_); intro V_0 v_0)
 | (refine ZM ?_; intro K hK)
 | (refine ZN ?_; intro all hall K hK)
 | (refine ZQ ?_ ?_)
 | refine ZT ?_ | refine ZU ?_ | refine ZW ?_)
  all_goals try clear v_0 V_0
  all_goals (try simp only [inR])
  all_goals first
    | omega
    | skip
theorem sound_155 : Sound Tryz.prog 155 .body (norm s155) := by
  refine sb Tryz.func155 rfl (by kernel_rfl) G155_ok (by kernel_rfl) fun ds p r hs hp => ?_
  unfold s155 at hs
  split at hs
  · cases hs; exact ⟨Nat.le_of_ble_eq_true (by kernel_rfl), wk155 _ hp⟩
  · cases hs
noncomputable def s156 : Cs := fun ds => match ds with
  | [.v (.string s)] => some (True, .one (.v (.string (bs (bare s.data.toList)))))
  | _ => none
theorem s156_eq (s : ByteArray) : norm s156 [.v (.string s)] = s156 [.v (.string s)] := rfl
noncomputable def G156 : Gam := [(182, .body, norm lTrimL)]
theorem G156_ok : Gk Tryz.prog G156 := Gc snd_lTrimL Gn
theorem k156_182 : lk G156 182 = some (.body, norm lTrimL) := rfl
theorem wk156 (s : ByteArray) (hp : True) : awp ty G156 (code Tryz.f156) (retP ty Tryz.f156.results.toList (.one (.v (.string (bs (bare s.data.toList)))))) (entry 0 [.v (.string s)]) [] := by
  unfold code
  simp only [Tryz.f156, Option.getD_some]
  obtain ⟨l, rfl⟩ : ∃ l, s = bs l := ⟨_, Bt s⟩
  rw [Bd]
  all_goals repeat' (first
 | ((with_reducible first | (refine ZA ?_; intro X hX) | (show awp _ _ _ _ (Kp _ _) _) | refine ZD ?_ | refine ZE ?_ | refine ZF ?_ | ((show Bg _ _ _ _ _); simp only [hall]) | (refine ZR ?_ ?_ <;> intro hb <;> (try simp only [hb]) <;> have hq := hb <;> try simp only [HQ] at hq)) <;> try simp only [Go.AM.SS, Nat.reduceAdd, Nat.reduceMul, Nat.reduceSub, ↓reduceIte, Nat.reduceEqDiff, Nat.reduceLT, Nat.reduceLeDiff, reduceCtorEq, Int.reduceBEq, Int.reduceBNe, Nat.reduceBEq, Int.reduceEq, Int.reduceToNat, Int.reduceLE, Int.reduceLT, Nat.reduceDiv, Int.reduceAdd, Int.reduceSub, Int.reduceMul, Int.reduceNeg, Int.reduceGT, Int.reduceGE, Nat.reduceMod, k156_182, lTrimL_eq, ty_9, bs_lit, bs_app, Bz, bs_beq, Bi, Bd, Be, bt_bs, List.length_append, List.append_nil, List.nil_append, List.cons_append])
 | with_reducible first
 | (refine hX _ _ ?_; clear hX X)
 | (refine ZG ?_; try clear hall all)
 | (refine hK _ _ ?_; clear hK K)
 | refine ZL ?_
 | (refine v_0 _ _ ?_; try clear v_0 V_0)
 | ((first | refine qr 1 [2] ?_ | refine qr 0 [0] ?_); intro V_0 v_0)
 | (refine ZM ?_; intro K hK)
 | (refine ZN ?_; intro all hall K hK)
 | (refine ZQ ?_ ?_)
 | refine ZT ?_ | refine ZU ?_ | refine ZW ?_)
  all_goals try clear v_0 V_0
  all_goals (try simp only [inR])
  all_goals first
    | omega
    | (rw [Go.Lib.trimLeftS_one]; rfl)
    | skip
theorem sound_156 : Sound Tryz.prog 156 .body (norm s156) := by
  refine sb Tryz.func156 rfl (by kernel_rfl) G156_ok (by kernel_rfl) fun ds p r hs hp => ?_
  unfold s156 at hs
  split at hs
  · cases hs; exact ⟨Nat.le_of_ble_eq_true (by kernel_rfl), wk156 _ hp⟩
  · cases hs
noncomputable def s117 : Cs := fun ds => match ds with
  | [.v (.string s)] => some (s.size ≤ 100000, .many [.v (.int .i64 (expV s.data.toList)), .v (.bool (expOk s.data.toList))])
  | _ => none
theorem s117_eq (s : ByteArray) : norm s117 [.v (.string s)] = s117 [.v (.string s)] := rfl
noncomputable def G117 : Gam := [(114, .body, norm s114), (155, .body, norm s155), (156, .body, norm s156), (184, .body, norm lAtoi)]
theorem G117_ok : Gk Tryz.prog G117 := Gc sound_114 (Gc sound_155 (Gc sound_156 (Gc snd_lAtoi Gn)))
theorem k117_114 : lk G117 114 = some (.body, norm s114) := rfl
theorem k117_155 : lk G117 155 = some (.body, norm s155) := rfl
theorem k117_156 : lk G117 156 = some (.body, norm s156) := rfl
theorem k117_184 : lk G117 184 = some (.body, norm lAtoi) := rfl
theorem wk117 (s : ByteArray) (hp : s.size ≤ 100000) : awp ty G117 (code Tryz.f117) (retP ty Tryz.f117.results.toList (.many [.v (.int .i64 (expV s.data.toList)), .v (.bool (expOk s.data.toList))])) (entry 0 [.v (.string s)]) [] := by
  unfold code
  simp only [Tryz.f117, Option.getD_some]
  obtain ⟨l, rfl⟩ : ∃ l, s = bs l := ⟨_, Bt s⟩
  rw [Bz] at hp
  rw [Bd]
  have hsl := sgnR_len l
  all_goals repeat' (first
 | ((with_reducible first | (refine ZA ?_; intro X hX) | (show awp _ _ _ _ (Kp _ _) _) | refine ZD ?_ | refine ZE ?_ | refine ZF ?_ | ((show Bg _ _ _ _ _); simp only [hall]) | (refine ZR ?_ ?_ <;> intro hb <;> (try simp only [hb]) <;> have hq := hb <;> try simp only [HQ] at hq)) <;> try simp only [Go.AM.SS, Nat.reduceAdd, Nat.reduceMul, Nat.reduceSub, ↓reduceIte, Nat.reduceEqDiff, Nat.reduceLT, Nat.reduceLeDiff, reduceCtorEq, Int.reduceBEq, Int.reduceBNe, Nat.reduceBEq, Int.reduceEq, Int.reduceToNat, Int.reduceLE, Int.reduceLT, Nat.reduceDiv, Int.reduceAdd, Int.reduceSub, Int.reduceMul, Int.reduceNeg, Int.reduceGT, Int.reduceGE, Nat.reduceMod, k117_114, s114.eq_1, s114_eq, k117_155, s155.eq_1, s155_eq, k117_156, s156.eq_1, s156_eq, k117_184, lAtoi_eq, ty_3, ty_9, bs_lit, bs_app, Bz, bs_beq, Bi, Bd, Be, bt_bs, List.length_append, List.append_nil, List.nil_append, List.cons_append])
 | with_reducible first
 | (refine hX _ _ ?_; clear hX X)
 | (refine ZG ?_; try clear hall all)
 | (refine hK _ _ ?_; clear hK K)
 | refine ZL ?_
 | (refine v_0 _ _ ?_; try clear v_0 V_0)
 | (refine v_1 _ _ ?_; try clear v_1 V_1)
 | ((first | refine qr 12 [2,3] ?_ | refine Zh (a := .seq (.region 10 _ _) _) [7] ?_ | refine qr 9 [4,7] ?_ | refine Zh (a := .seq (.region 6 _ _) _) [4,7] ?_ | refine qr 5 [4,5,7] ?_ | refine Zh (a := .seq (.region 3 _ _) _) [4,5] ?_ | refine qr 2 [4,5,6] ?_ | refine qr 1 [0,4] ?_ | refine qr 0 [0] ?_); intro V_0 v_0)
 | ((first | refine qr 10 [7,37] ?_ | refine qr 7 [4,5,7,28] ?_ | refine qr 6 [4,5,7] ?_ | refine qr 4 [2,3] ?_ | refine qr 3 [4,5,23] ?_); intro V_1 v_1)
 | (refine ZM ?_; intro K hK)
 | (refine ZN ?_; intro all hall K hK)
 | (refine ZQ ?_ ?_)
 | refine ZT ?_ | refine ZU ?_ | refine ZW ?_)
  all_goals try clear v_1 V_1
  all_goals try clear v_0 V_0
  all_goals (try simp only [inR])
  all_goals first
    | omega
    | exact ⟨_, bare_all (gDig_all _), by omega, rfl⟩
    | (rw [(exp_no (.inl hq)).1, (exp_no (.inl hq)).2]; exact ⟨rfl, rfl⟩)
    | (rw [(exp_no (.inr hq)).1, (exp_no (.inr hq)).2]; exact ⟨rfl, rfl⟩)
    | (obtain ⟨a, b, c⟩ := exp_lo (l := l) (by assumption) (by assumption); rw [a, b hq]; exact ⟨rfl, rfl⟩)
    | (obtain ⟨a, b, c⟩ := exp_lo (l := l) (by assumption) (by assumption); rw [a, c hq]; exact ⟨rfl, rfl⟩)
    | (obtain ⟨a, b, c⟩ := exp_hi (l := l) (by assumption) (by assumption) (by assumption); rw [a, b hq]; exact ⟨rfl, rfl⟩)
    | (obtain ⟨a, b, c⟩ := exp_hi (l := l) (by assumption) (by assumption) (by assumption); rw [a, c hq]; exact ⟨rfl, rfl⟩)
    | skip
theorem sound_117 : Sound Tryz.prog 117 .body (norm s117) := by
  refine sb Tryz.func117 rfl (by kernel_rfl) G117_ok (by kernel_rfl) fun ds p r hs hp => ?_
  unfold s117 at hs
  split at hs
  · cases hs; exact ⟨Nat.le_of_ble_eq_true (by kernel_rfl), wk117 _ hp⟩
  · cases hs
noncomputable def s207 : Cs := fun ds => match ds with
  | [.v (.string s)] => some (s.size ≤ 100000, .one (.v (.string (bs (Go.Lib.mapD lowF s.data.toList)))))
  | _ => none
theorem s207_eq (s : ByteArray) : norm s207 [.v (.string s)] = s207 [.v (.string s)] := rfl
noncomputable def G207 : Gam := [(239, .body, norm lMap)]
theorem G207_ok : Gk Tryz.prog G207 := Gc snd_lMap Gn
theorem k207_239 : lk G207 239 = some (.body, norm lMap) := rfl
theorem wk207 (s : ByteArray) (hp : s.size ≤ 100000) : awp ty G207 (code Tryz.f207) (retP ty Tryz.f207.results.toList (.one (.v (.string (bs (Go.Lib.mapD lowF s.data.toList)))))) (entry 0 [.v (.string s)]) [] := by
  unfold code
  simp only [Tryz.f207, Option.getD_some]
  obtain ⟨l, rfl⟩ : ∃ l, s = bs l := ⟨_, Bt s⟩
  rw [Bz] at hp
  rw [Bd]
  all_goals repeat' (first
 | ((with_reducible first | (refine ZA ?_; intro X hX) | (show awp _ _ _ _ (Kp _ _) _) | refine ZD ?_ | refine ZE ?_ | refine ZF ?_ | ((show Bg _ _ _ _ _); simp only [hall]) | (refine ZR ?_ ?_ <;> intro hb <;> (try simp only [hb]) <;> have hq := hb <;> try simp only [HQ] at hq)) <;> try simp only [Go.AM.SS, Nat.reduceAdd, Nat.reduceMul, Nat.reduceSub, ↓reduceIte, Nat.reduceEqDiff, Nat.reduceLT, Nat.reduceLeDiff, reduceCtorEq, Int.reduceBEq, Int.reduceBNe, Nat.reduceBEq, Int.reduceEq, Int.reduceToNat, Int.reduceLE, Int.reduceLT, Nat.reduceDiv, Int.reduceAdd, Int.reduceSub, Int.reduceMul, Int.reduceNeg, Int.reduceGT, Int.reduceGE, Nat.reduceMod, k207_239, lMap_eq, ty_9, bs_lit, bs_app, Bz, bs_beq, Bi, Bd, Be, bt_bs, List.length_append, List.append_nil, List.nil_append, List.cons_append])
 | with_reducible first
 | (refine hX _ _ ?_; clear hX X)
 | (refine ZG ?_; try clear hall all)
 | (refine hK _ _ ?_; clear hK K)
 | refine ZL ?_
 | (refine v_0 _ _ ?_; try clear v_0 V_0)
 | ((first | refine qr 1 [2] ?_ | refine qr 0 [0] ?_); intro V_0 v_0)
 | (refine ZM ?_; intro K hK)
 | (refine ZN ?_; intro all hall K hK)
 | (refine ZQ ?_ ?_)
 | refine ZT ?_ | refine ZU ?_ | refine ZW ?_)
  all_goals try clear v_0 V_0
  all_goals (try simp only [inR])
  all_goals first
    | omega
    | skip
theorem sound_207 : Sound Tryz.prog 207 .body (norm s207) := by
  refine sb Tryz.func207 rfl (by kernel_rfl) G207_ok (by kernel_rfl) fun ds p r hs hp => ?_
  unfold s207 at hs
  split at hs
  · cases hs; exact ⟨Nat.le_of_ble_eq_true (by kernel_rfl), wk207 _ hp⟩
  · cases hs
noncomputable def s154 : Cs := fun ds => match ds with
  | [.v (.string s)] => some (s.size ≤ 4000, .many [.v (.agg #[.int .i64 (wC s.data.toList), .bool false, .bool (wQ s.data.toList), .string (bs (wD s.data.toList)), .int .i64 0]), .v (.bool (wOk s.data.toList))])
  | _ => none
theorem s154_eq (s : ByteArray) : norm s154 [.v (.string s)] = s154 [.v (.string s)] := rfl
noncomputable def G154 : Gam := [(116, .body, norm lCutPre), (155, .body, norm s155), (156, .body, norm s156), (207, .body, norm s207), (208, .body, norm lCutSuf)]
theorem G154_ok : Gk Tryz.prog G154 := Gc snd_lCutPre (Gc sound_155 (Gc sound_156 (Gc sound_207 (Gc snd_lCutSuf Gn))))
theorem k154_116 : lk G154 116 = some (.body, norm lCutPre) := rfl
theorem k154_155 : lk G154 155 = some (.body, norm s155) := rfl
theorem k154_156 : lk G154 156 = some (.body, norm s156) := rfl
theorem k154_207 : lk G154 207 = some (.body, norm s207) := rfl
theorem k154_208 : lk G154 208 = some (.body, norm lCutSuf) := rfl
theorem wk154 (s : ByteArray) (hp : s.size ≤ 4000) : awp ty G154 (code Tryz.f154) (retP ty Tryz.f154.results.toList (.many [.v (.agg #[.int .i64 (wC s.data.toList), .bool false, .bool (wQ s.data.toList), .string (bs (wD s.data.toList)), .int .i64 0]), .v (.bool (wOk s.data.toList))])) (entry 0 [.v (.string s)]) [] := by
  unfold code
  simp only [Tryz.f154, Option.getD_some]
  obtain ⟨l, rfl⟩ : ∃ l, s = bs l := ⟨_, Bt s⟩
  rw [Bz] at hp
  rw [Bd]
  have hml := mapD_len lowF _ l (Nat.le_refl _)
  obtain ⟨m, hm⟩ : ∃ m, Go.Lib.mapD lowF l = m := ⟨_, rfl⟩
  rw [hm] at hml
  all_goals repeat' (first
 | ((with_reducible first | (refine ZA ?_; intro X hX) | (show awp _ _ _ _ (Kp _ _) _) | refine ZD ?_ | refine ZE ?_ | refine ZF ?_ | ((show Bg _ _ _ _ _); simp only [hall]) | (refine ZR ?_ ?_ <;> intro hb <;> (try simp only [hb]) <;> have hq := hb <;> try simp only [HQ] at hq)) <;> try simp only [Go.AM.SS, Nat.reduceAdd, Nat.reduceMul, Nat.reduceSub, ↓reduceIte, Nat.reduceEqDiff, Nat.reduceLT, Nat.reduceLeDiff, reduceCtorEq, Int.reduceBEq, Int.reduceBNe, Nat.reduceBEq, Int.reduceEq, Int.reduceToNat, Int.reduceLE, Int.reduceLT, Nat.reduceDiv, Int.reduceAdd, Int.reduceSub, Int.reduceMul, Int.reduceNeg, Int.reduceGT, Int.reduceGE, Nat.reduceMod, k154_116, lCutPre_eq, k154_155, s155.eq_1, s155_eq, k154_156, s156.eq_1, s156_eq, k154_207, s207.eq_1, s207_eq, k154_208, lCutSuf_eq, ty_3, ty_4, ty_9, ty_44, bs_lit, bs_app, Bz, bs_beq, Bi, Bd, Be, bt_bs, List.length_append, List.append_nil, List.nil_append, List.cons_append, hm])
 | with_reducible first
 | (refine hX _ _ ?_; clear hX X)
 | (refine ZG ?_; try clear hall all)
 | (refine hK _ _ ?_; clear hK K)
 | refine ZL ?_
 | (refine v_0 _ _ ?_; try clear v_0 V_0)
 | (refine v_1 _ _ ?_; try clear v_1 V_1)
 | (refine v_2 _ _ ?_; try clear v_2 V_2)
 | ((first | refine qr 21 [2,3] ?_ | refine Zh (a := .seq (.region 14 _ _) _) [2] ?_ | refine Zh (a := .seq (.region 9 _ _) _) [2,4] ?_ | refine qr 8 [0,2,3,4] ?_ | refine qr 7 [0,2] ?_ | refine Zh (a := .seq (.region 4 _ _) _) [0,2] ?_ | refine qr 3 [0,2] ?_ | refine Zh (a := .seq (.region 1 _ _) _) [0,2] ?_ | refine qr 0 [0,2] ?_); intro V_0 v_0)
 | ((first | refine Zh (a := .seq (.region 18 _ _) _) [2,8] ?_ | refine qr 17 [2,6,7,8,9] ?_ | refine qr 16 [2,5,6,7] ?_ | refine qr 15 [2,5,6] ?_ | refine qr 14 [2,4,42] ?_ | refine qr 13 [2,3] ?_ | refine qr 12 [2,4,39] ?_ | refine qr 11 [2,3,4] ?_ | refine qr 10 [0,2] ?_ | refine qr 9 [0,2,4,31] ?_ | refine qr 6 [2,3] ?_ | refine qr 5 [2] ?_ | refine qr 4 [0,2,21] ?_ | refine qr 2 [2,3] ?_ | refine qr 1 [0,2,12] ?_); intro V_1 v_1)
 | ((first | refine qr 19 [2,3] ?_ | refine qr 18 [2,8,71] ?_); intro V_2 v_2)
 | (refine ZM ?_; intro K hK)
 | (refine ZN ?_; intro all hall K hK)
 | (refine ZQ ?_ ?_)
 | refine ZT ?_ | refine ZU ?_ | refine ZW ?_)
  all_goals try clear v_2 V_2
  all_goals try clear v_1 V_1
  all_goals try clear v_0 V_0
  all_goals (try simp only [inR])
  all_goals first
    | omega
    | exact Nat.le_trans (trimPre_len _ _) (Nat.le_trans (trimPre_len _ _) (by omega))
    | exact Nat.le_trans (trimSuf_len _ _) (Nat.le_trans (trimPre_len _ _) (Nat.le_trans (trimPre_len _ _) (by omega)))
    | (have k := w_is hm (gw_i (by assumption)); rw [k.1, k.2.1, k.2.2.1, k.2.2.2]; exact ⟨rfl, rfl⟩)
    | (have k := w_is hm (gw_j (by assumption)); rw [k.1, k.2.1, k.2.2.1, k.2.2.2]; exact ⟨rfl, rfl⟩)
    | (have k := w_no hm (gw_o (by assumption) (by assumption) (by assumption) (by assumption)); rw [k.1, k.2.1, k.2.2.1, k.2.2.2]; exact ⟨rfl, rfl⟩)
    | (have k := w_is hm ((gw_n (by assumption) (by assumption) (by assumption)).trans (gt_0 (by assumption))); rw [k.1, k.2.1, k.2.2.1, k.2.2.2]; exact ⟨rfl, rfl⟩)
    | (have k := w_no hm ((gw_n (by assumption) (by assumption) (by assumption)).trans (gt_a (by assumption) (by assumption))); rw [k.1, k.2.1, k.2.2.1, k.2.2.2]; exact ⟨rfl, rfl⟩)
    | (have k := w_no hm ((gw_n (by assumption) (by assumption) (by assumption)).trans (gt_b (by assumption) (by assumption) (by assumption))); rw [k.1, k.2.1, k.2.2.1, k.2.2.2]; exact ⟨rfl, rfl⟩)
    | (have k := w_no hm ((gw_n (by assumption) (by assumption) (by assumption)).trans (gt_c (by assumption) (by assumption) (by assumption) (.inl (by assumption)))); rw [k.1, k.2.1, k.2.2.1, k.2.2.2]; exact ⟨rfl, rfl⟩)
    | (have k := w_no hm ((gw_n (by assumption) (by assumption) (by assumption)).trans (gt_c (by assumption) (by assumption) (by assumption) (.inr (by assumption)))); rw [k.1, k.2.1, k.2.2.1, k.2.2.2]; exact ⟨rfl, rfl⟩)
    | (have k := w_is hm ((gw_n (by assumption) (by assumption) (by assumption)).trans (gt_d (by assumption) (by assumption) (by assumption) (by assumption) (by assumption))); rw [k.1, k.2.1, k.2.2.1, k.2.2.2]; exact ⟨rfl, rfl⟩)
    | (have k := w_is hm ((gw_s (by assumption) (by assumption) (by assumption) (by assumption)).trans (gt_0 (by assumption))); rw [k.1, k.2.1, k.2.2.1, k.2.2.2]; exact ⟨rfl, rfl⟩)
    | (have k := w_no hm ((gw_s (by assumption) (by assumption) (by assumption) (by assumption)).trans (gt_a (by assumption) (by assumption))); rw [k.1, k.2.1, k.2.2.1, k.2.2.2]; exact ⟨rfl, rfl⟩)
    | (have k := w_no hm ((gw_s (by assumption) (by assumption) (by assumption) (by assumption)).trans (gt_b (by assumption) (by assumption) (by assumption))); rw [k.1, k.2.1, k.2.2.1, k.2.2.2]; exact ⟨rfl, rfl⟩)
    | (have k := w_no hm ((gw_s (by assumption) (by assumption) (by assumption) (by assumption)).trans (gt_c (by assumption) (by assumption) (by assumption) (.inl (by assumption)))); rw [k.1, k.2.1, k.2.2.1, k.2.2.2]; exact ⟨rfl, rfl⟩)
    | (have k := w_no hm ((gw_s (by assumption) (by assumption) (by assumption) (by assumption)).trans (gt_c (by assumption) (by assumption) (by assumption) (.inr (by assumption)))); rw [k.1, k.2.1, k.2.2.1, k.2.2.2]; exact ⟨rfl, rfl⟩)
    | (have k := w_is hm ((gw_s (by assumption) (by assumption) (by assumption) (by assumption)).trans (gt_d (by assumption) (by assumption) (by assumption) (by assumption) (by assumption))); rw [k.1, k.2.1, k.2.2.1, k.2.2.2]; exact ⟨rfl, rfl⟩)
    | skip
theorem sound_154 : Sound Tryz.prog 154 .body (norm s154) := by
  refine sb Tryz.func154 rfl (by kernel_rfl) G154_ok (by kernel_rfl) fun ds p r hs hp => ?_
  unfold s154 at hs
  split at hs
  · cases hs; exact ⟨Nat.le_of_ble_eq_true (by kernel_rfl), wk154 _ hp⟩
  · cases hs
noncomputable def s93 : Cs := fun ds => match ds with
  | [.v (.string s)] => some (s.size ≤ 100000, .many [.v (.agg #[.int .i64 (gCut s.data.toList).c, .bool (gCut s.data.toList).s, .bool (gCut s.data.toList).q, .string (bs (gCut s.data.toList).d), .int .i64 (gCut s.data.toList).x]), .v (.int .i64 (gCut s.data.toList).e)])
  | _ => none
theorem s93_eq (s : ByteArray) : norm s93 [.v (.string s)] = s93 [.v (.string s)] := rfl
noncomputable def G93 : Gam := [(114, .body, norm s114), (116, .body, norm lCutPre), (117, .body, norm s117), (154, .body, norm s154), (155, .body, norm s155), (156, .body, norm s156)]
theorem G93_ok : Gk Tryz.prog G93 := Gc sound_114 (Gc snd_lCutPre (Gc sound_117 (Gc sound_154 (Gc sound_155 (Gc sound_156 Gn)))))
theorem k93_114 : lk G93 114 = some (.body, norm s114) := rfl
theorem k93_116 : lk G93 116 = some (.body, norm lCutPre) := rfl
theorem k93_117 : lk G93 117 = some (.body, norm s117) := rfl
theorem k93_154 : lk G93 154 = some (.body, norm s154) := rfl
theorem k93_155 : lk G93 155 = some (.body, norm s155) := rfl
theorem k93_156 : lk G93 156 = some (.body, norm s156) := rfl
theorem wk93 (s : ByteArray) (hp : s.size ≤ 100000) : awp ty G93 (code Tryz.f93) (retP ty Tryz.f93.results.toList (.many [.v (.agg #[.int .i64 (gCut s.data.toList).c, .bool (gCut s.data.toList).s, .bool (gCut s.data.toList).q, .string (bs (gCut s.data.toList).d), .int .i64 (gCut s.data.toList).x]), .v (.int .i64 (gCut s.data.toList).e)])) (entry 0 [.v (.string s)]) [] := by
  unfold code
  simp only [Tryz.f93, Option.getD_some]
  obtain ⟨l, rfl⟩ : ∃ l, s = bs l := ⟨_, Bt s⟩
  rw [Bz] at hp
  rw [Bd]
  have hml := sgnR_len l
  obtain ⟨m, hm⟩ : ∃ m, sgnR l = m := ⟨_, rfl⟩
  rw [hm] at hml
  have hlw := gOff_len m
  obtain ⟨W, hW⟩ : ∃ x, gDig m = x := ⟨_, rfl⟩
  obtain ⟨O, hO⟩ : ∃ x, gOff m = x := ⟨_, rfl⟩
  rw [hW, hO] at hlw
  obtain ⟨P, hP'⟩ : ∃ x, gPart O = x := ⟨_, rfl⟩
  obtain ⟨R, hR'⟩ : ∃ x, gRest O = x := ⟨_, rfl⟩
  have hlp : P.length + R.length ≤ O.length := by
    rw [← hP', ← hR']
    unfold gPart gRest
    split
    · have := gOff_len (O.drop 1); rw [List.length_drop] at this; omega
    · simp
  have hT : List.take (R.length - 1) (List.drop 1 R) = R.drop 1 := List.take_of_length_le (by rw [List.length_drop]; omega)
  have hd1 : (R.drop 1).length ≤ R.length := by rw [List.length_drop]; omega
  have hxb := expV_b (R.drop 1)
  rcases Bool.eq_false_or_eq_true (Go.Lib.hasPrefix O [46]) with hpre | hpre
  case' inl =>
    have hP : gDig (Go.Lib.trimPrefix O [46]) = P := by rw [← hP']; unfold gPart Go.Lib.trimPrefix; rw [if_pos hpre, if_pos hpre]; rfl
    have hR : gOff (Go.Lib.trimPrefix O [46]) = R := by rw [← hR']; unfold gRest Go.Lib.trimPrefix; rw [if_pos hpre, if_pos hpre]; rfl
    have htl := trimPre_len O [46]
  case' inr =>
    have hP0 : P = [] := by rw [← hP']; unfold gPart; rw [hpre]; rfl
    have hR0 : R = O := by rw [← hR']; unfold gRest; rw [hpre]; rfl
    subst hP0
    subst hR0
    have hP : decide ((4 : Int) ≥ 5) = false := rfl
    have hR : decide ((4 : Int) ≥ 5) = false := rfl
  all_goals have hP2 := (congrArg gPart hO).trans hP'
  all_goals have hR2 := (congrArg gRest hO).trans hR'
  all_goals repeat' (first
 | ((with_reducible first | (refine ZA ?_; intro X hX) | (show awp _ _ _ _ (Kp _ _) _) | refine ZD ?_ | refine ZE ?_ | refine ZF ?_ | ((show Bg _ _ _ _ _); simp only [hall]) | (refine ZR ?_ ?_ <;> intro hb <;> (try simp only [hb]) <;> have hq := hb <;> try simp only [HQ] at hq)) <;> try simp only [Go.AM.SS, Nat.reduceAdd, Nat.reduceMul, Nat.reduceSub, ↓reduceIte, Nat.reduceEqDiff, Nat.reduceLT, Nat.reduceLeDiff, reduceCtorEq, Int.reduceBEq, Int.reduceBNe, Nat.reduceBEq, Int.reduceEq, Int.reduceToNat, Int.reduceLE, Int.reduceLT, Nat.reduceDiv, Int.reduceAdd, Int.reduceSub, Int.reduceMul, Int.reduceNeg, Int.reduceGT, Int.reduceGE, Nat.reduceMod, k93_114, s114.eq_1, s114_eq, k93_116, lCutPre_eq, k93_117, s117.eq_1, s117_eq, k93_154, s154.eq_1, s154_eq, k93_155, s155.eq_1, s155_eq, k93_156, s156.eq_1, s156_eq, ty_3, ty_4, ty_5, ty_9, ty_44, bs_lit, bs_app, Bz, bs_beq, Bi, Bd, Be, bt_bs, List.length_append, List.append_nil, List.nil_append, List.cons_append, hm, hW, hO, hP, hR, hpre, hT, List.length_nil])
 | with_reducible first
 | (refine hX _ _ ?_; clear hX X)
 | (refine ZG ?_; try clear hall all)
 | (refine hK _ _ ?_; clear hK K)
 | refine ZL ?_
 | (refine v_0 _ _ ?_; try clear v_0 V_0)
 | (refine v_1 _ _ ?_; try clear v_1 V_1)
 | (refine v_2 _ _ ?_; try clear v_2 V_2)
 | ((first | refine qr 24 [2,3] ?_ | refine qr 23 [2,8] ?_ | refine qr 22 [2,8,10] ?_ | refine Zh (a := .seq (.region 16 _ _) _) [2,8,9,10] ?_ | refine Zh (a := .seq (.region 14 _ _) _) [2,5,8,9,10] ?_ | refine Zh (a := .seq (.region 11 _ _) _) [2,5,8,9,10] ?_ | refine qr 10 [2,5,8,9,10] ?_ | refine qr 9 [2,5,8,9] ?_ | refine qr 8 [2,5,8] ?_ | refine Zh (a := .seq (.region 4 _ _) _) [2,4,5] ?_ | refine qr 3 [2,4,5] ?_ | refine Zh (a := .seq (.region 1 _ _) _) [0,2] ?_ | refine qr 0 [0,2] ?_); intro V_0 v_0)
 | ((first | refine qr 21 [2,3] ?_ | refine qr 20 [2,8,9,10,74] ?_ | refine Zh (a := .seq (.region 18 _ _) _) [2,8,9,10,13] ?_ | refine qr 17 [2,5,8,9,10,13] ?_ | refine qr 16 [2,5,8,9,10,56] ?_ | refine qr 15 [2,3] ?_ | refine qr 14 [2,5,8,9,10,53] ?_ | refine qr 12 [2,5,8,9,10,11,44] ?_ | refine qr 11 [2,5,8,9,10,11,12] ?_ | refine qr 7 [2,3] ?_ | refine qr 6 [2,6] ?_ | refine qr 5 [2,4,5,6,28] ?_ | refine qr 4 [2,4,5,6,7] ?_ | refine qr 2 [2,3] ?_ | refine qr 1 [0,2,16] ?_); intro V_1 v_1)
 | ((first | refine qr 18 [2,5,8,9,10,13,65] ?_); intro V_2 v_2)
 | (refine ZM ?_; intro K hK)
 | (refine ZN ?_; intro all hall K hK)
 | (refine ZQ ?_ ?_)
 | refine ZT ?_ | refine ZU ?_ | refine ZW ?_)
  all_goals try clear v_2 V_2
  all_goals try clear v_1 V_1
  all_goals try clear v_0 V_0
  all_goals (try simp only [inR])
  all_goals first
    | omega
    | (have k := gCut_long (l := l) (by omega); rw [k]; exact ⟨rfl, rfl⟩)
    | (rw [gCut_word (by omega) (by rw [hm]; assumption), hm]; exact ⟨rfl, rfl⟩)
    | (have k := (gCut_num (l := l) (by omega) (by rw [hm]; assumption)); rw [hm, gn1 hW hP2 hR2 (by first | assumption | (rw [List.append_nil]; assumption))] at k; (try simp only [List.append_nil] at k); rw [k]; exact ⟨rfl, rfl⟩)
    | (have k := (gCut_num (l := l) (by omega) (by rw [hm]; assumption)); rw [hm, gn2 hW hP2 hR2 (by first | omega | exact Nat.zero_le _) (by first | assumption | (rw [List.append_nil]; assumption)) (by assumption)] at k; (try simp only [List.append_nil] at k); rw [k]; exact ⟨rfl, rfl⟩)
    | (have k := (gCut_num (l := l) (by omega) (by rw [hm]; assumption)); rw [hm, gn3 hW hP2 hR2 (by first | assumption | (rw [List.append_nil]; assumption)) (by assumption) (by assumption) (by assumption)] at k; (try simp only [List.append_nil] at k); rw [k]; exact ⟨rfl, rfl⟩)
    | (have k := (gCut_num (l := l) (by omega) (by rw [hm]; assumption)); rw [hm, gn4 hW hP2 hR2 (by first | assumption | (rw [List.append_nil]; assumption)) (by assumption) (.inl (by assumption)) (by assumption)] at k; (try simp only [List.append_nil] at k); rw [k]; exact ⟨rfl, rfl⟩)
    | (have k := (gCut_num (l := l) (by omega) (by rw [hm]; assumption)); rw [hm, gn4 hW hP2 hR2 (by first | assumption | (rw [List.append_nil]; assumption)) (by assumption) (.inr (by assumption)) (by assumption)] at k; (try simp only [List.append_nil] at k); rw [k]; exact ⟨rfl, rfl⟩)
    | (have k := (gCut_num (l := l) (by omega) (by rw [hm]; assumption)); rw [hm, gn5 hW hP2 hR2 (by first | assumption | (rw [List.append_nil]; assumption)) (by assumption) (.inl (by assumption)) (by assumption)] at k; (try simp only [List.append_nil] at k); rw [k]; exact ⟨rfl, rfl⟩)
    | (have k := (gCut_num (l := l) (by omega) (by rw [hm]; assumption)); rw [hm, gn5 hW hP2 hR2 (by first | assumption | (rw [List.append_nil]; assumption)) (by assumption) (.inr (by assumption)) (by assumption)] at k; (try simp only [List.append_nil] at k); rw [k]; exact ⟨rfl, rfl⟩)
    | (have := pos_of_ne (R := R) (by assumption); omega)
    | skip
theorem sound_93 : Sound Tryz.prog 93 .body (norm s93) := by
  refine sb Tryz.func93 rfl (by kernel_rfl) G93_ok (by kernel_rfl) fun ds p r hs hp => ?_
  unfold s93 at hs
  split at hs
  · cases hs; exact ⟨Nat.le_of_ble_eq_true (by kernel_rfl), wk93 _ hp⟩
  · cases hs
noncomputable def s160 : Cs := fun ds => match ds with
  | [.v (.agg ⟨[.int .i64 cl, .bool sg, .bool si, .string D, .int .i64 ex]⟩)] => some (D.size ≤ 10000 ∧ -9223372036854775808 ≤ ex ∧ ex ≤ 9223372036854775807, .one (.v (.string (bs (gText cl sg si D.data.toList ex)))))
  | _ => none
theorem s160_eq (cl : Int) (sg : Bool) (si : Bool) (D : ByteArray) (ex : Int) : norm s160 [.v (.agg #[.int .i64 cl, .bool sg, .bool si, .string D, .int .i64 ex])] = s160 [.v (.agg #[.int .i64 cl, .bool sg, .bool si, .string D, .int .i64 ex])] := rfl
noncomputable def G160 : Gam := [(66, .body, norm lItoa)]
theorem G160_ok : Gk Tryz.prog G160 := Gc snd_lItoa Gn
theorem k160_66 : lk G160 66 = some (.body, norm lItoa) := rfl
theorem wk160 (cl : Int) (sg : Bool) (si : Bool) (D : ByteArray) (ex : Int) (hp : D.size ≤ 10000 ∧ -9223372036854775808 ≤ ex ∧ ex ≤ 9223372036854775807) : awp ty G160 (code Tryz.f160) (retP ty Tryz.f160.results.toList (.one (.v (.string (bs (gText cl sg si D.data.toList ex)))))) (entry 0 [.v (.agg #[.int .i64 cl, .bool sg, .bool si, .string D, .int .i64 ex])]) [] := by
  unfold code
  simp only [Tryz.f160, Option.getD_some]
  obtain ⟨d, rfl⟩ : ∃ d, D = bs d := ⟨_, Bt D⟩
  rw [Bz] at hp
  rw [Bd]
  have hil := Go.Lib.itoa_length_le ex hp.2.1 hp.2.2
  all_goals repeat' (first
 | ((with_reducible first | (refine ZA ?_; intro X hX) | (show awp _ _ _ _ (Kp _ _) _) | refine ZD ?_ | refine ZE ?_ | refine ZF ?_ | ((show Bg _ _ _ _ _); simp only [hall]) | (refine ZR ?_ ?_ <;> intro hb <;> (try simp only [hb]) <;> have hq := hb <;> try simp only [HQ] at hq)) <;> try simp only [Go.AM.SS, Nat.reduceAdd, Nat.reduceMul, Nat.reduceSub, ↓reduceIte, Nat.reduceEqDiff, Nat.reduceLT, Nat.reduceLeDiff, reduceCtorEq, Int.reduceBEq, Int.reduceBNe, Nat.reduceBEq, Int.reduceEq, Int.reduceToNat, Int.reduceLE, Int.reduceLT, Nat.reduceDiv, Int.reduceAdd, Int.reduceSub, Int.reduceMul, Int.reduceNeg, Int.reduceGT, Int.reduceGE, Nat.reduceMod, k160_66, lItoa_eq, ty_3, ty_4, ty_9, ty_44, bs_lit, bs_app, Bz, bs_beq, Bi, Bd, Be, bt_bs, List.length_append, List.append_nil, List.nil_append, List.cons_append])
 | with_reducible first
 | (refine hX _ _ ?_; clear hX X)
 | (refine ZG ?_; try clear hall all)
 | (refine hK _ _ ?_; clear hK K)
 | refine ZL ?_
 | (refine v_0 _ _ ?_; try clear v_0 V_0)
 | (refine v_1 _ _ ?_; try clear v_1 V_1)
 | (refine v_2 _ _ ?_; try clear v_2 V_2)
 | ((first | refine qr 19 [2] ?_ | refine Zh (a := .seq (.region 17 _ _) _) [3] ?_ | refine qr 16 [1,3] ?_ | refine Zh (a := .seq (.region 14 _ _) _) [1,3] ?_ | refine Zh (a := .seq (.region 4 _ _) _) [1,3] ?_ | refine Zh (a := .seq (.region 2 _ _) _) [1,3] ?_ | refine qr 1 [1,3] ?_ | refine qr 0 [1] ?_); intro V_0 v_0)
 | ((first | refine qr 17 [1,3,40] ?_ | refine qr 14 [1,3,32] ?_ | refine qr 6 [2] ?_ | refine qr 13 [2] ?_ | refine Zh (a := .seq (.region 11 _ _) _) [3] ?_ | refine qr 10 [1,3] ?_ | refine Zh (a := .seq (.region 8 _ _) _) [1,3] ?_ | refine qr 7 [1,3,12] ?_ | refine qr 5 [1,3,7,8] ?_ | refine qr 4 [1,3,7] ?_ | refine qr 2 [1,3,5] ?_); intro V_1 v_1)
 | ((first | refine qr 11 [1,3,22] ?_ | refine qr 8 [1,3,15] ?_); intro V_2 v_2)
 | (refine ZM ?_; intro K hK)
 | (refine ZN ?_; intro all hall K hK)
 | (refine ZQ ?_ ?_)
 | (refine Zg ?_; simp only [↓reduceIte, Nat.reduceEqDiff])
 | refine ZS ?_ | refine ZT ?_ | refine ZU ?_ | refine ZV ?_ | refine ZW ?_ | refine ZX ?_ | refine Ze ?_ | refine Zf ?_)
  all_goals try clear v_2 V_2
  all_goals try clear v_1 V_1
  all_goals try clear v_0 V_0
  all_goals (try simp only [inR])
  all_goals first
    | omega
    | (have e1 : ¬ (cl = 2 ∨ cl = 3) := by omega
       unfold gText; rw [if_neg e1]; simp_all; done)
    | (have e1 : cl = 2 ∨ cl = 3 := by omega
       unfold gText nanT; rw [if_pos e1]; simp_all; done)
    | skip
theorem sound_160 : Sound Tryz.prog 160 .body (norm s160) := by
  refine sb Tryz.func160 rfl (by kernel_rfl) G160_ok (by kernel_rfl) fun ds p r hs hp => ?_
  unfold s160 at hs
  split at hs
  · cases hs; exact ⟨Nat.le_of_ble_eq_true (by kernel_rfl), wk160 _ _ _ _ _ hp⟩
  · cases hs
noncomputable def s95 : Cs := fun ds => match ds with
  | [.v (.agg ⟨[.int .i64 cl, .bool sg, .bool si, .string D, .int .i64 ex]⟩)] => some (D.size ≤ 10000 ∧ -9223372036854775808 ≤ ex ∧ ex ≤ 9223372036854775807, .many [.v (.string (bs (if gGood cl sg si D.data.toList ex then (gText cl sg si D.data.toList ex) else []))), .v (.int .i64 (if gGood cl sg si D.data.toList ex then 0 else 1))])
  | _ => none
theorem s95_eq (cl : Int) (sg : Bool) (si : Bool) (D : ByteArray) (ex : Int) : norm s95 [.v (.agg #[.int .i64 cl, .bool sg, .bool si, .string D, .int .i64 ex])] = s95 [.v (.agg #[.int .i64 cl, .bool sg, .bool si, .string D, .int .i64 ex])] := rfl
noncomputable def G95 : Gam := [(93, .body, norm s93), (160, .body, norm s160)]
theorem G95_ok : Gk Tryz.prog G95 := Gc sound_93 (Gc sound_160 Gn)
theorem k95_93 : lk G95 93 = some (.body, norm s93) := rfl
theorem k95_160 : lk G95 160 = some (.body, norm s160) := rfl
theorem wk95 (cl : Int) (sg : Bool) (si : Bool) (D : ByteArray) (ex : Int) (hp : D.size ≤ 10000 ∧ -9223372036854775808 ≤ ex ∧ ex ≤ 9223372036854775807) : awp ty G95 (code Tryz.f95) (retP ty Tryz.f95.results.toList (.many [.v (.string (bs (if gGood cl sg si D.data.toList ex then (gText cl sg si D.data.toList ex) else []))), .v (.int .i64 (if gGood cl sg si D.data.toList ex then 0 else 1))])) (entry 0 [.v (.agg #[.int .i64 cl, .bool sg, .bool si, .string D, .int .i64 ex])]) [] := by
  unfold code
  simp only [Tryz.f95, Option.getD_some]
  obtain ⟨d, rfl⟩ : ∃ d, D = bs d := ⟨_, Bt D⟩
  rw [Bz] at hp
  rw [Bd]
  all_goals repeat' (first
 | ((with_reducible first | (refine ZA ?_; intro X hX) | (show awp _ _ _ _ (Kp _ _) _) | refine ZD ?_ | refine ZE ?_ | refine ZF ?_ | ((show Bg _ _ _ _ _); simp only [hall]) | (refine ZR ?_ ?_ <;> intro hb <;> (try simp only [hb]) <;> have hq := hb <;> try simp only [HQ] at hq)) <;> try simp only [Go.AM.SS, Nat.reduceAdd, Nat.reduceMul, Nat.reduceSub, ↓reduceIte, Nat.reduceEqDiff, Nat.reduceLT, Nat.reduceLeDiff, reduceCtorEq, Int.reduceBEq, Int.reduceBNe, Nat.reduceBEq, Int.reduceEq, Int.reduceToNat, Int.reduceLE, Int.reduceLT, Nat.reduceDiv, Int.reduceAdd, Int.reduceSub, Int.reduceMul, Int.reduceNeg, Int.reduceGT, Int.reduceGE, Nat.reduceMod, k95_93, s93.eq_1, s93_eq, k95_160, s160.eq_1, s160_eq, ty_3, ty_4, ty_9, ty_26, ty_44, bs_lit, bs_app, Bz, bs_beq, Bi, Bd, Be, bt_bs, List.length_append, List.append_nil, List.nil_append, List.cons_append])
 | with_reducible first
 | (refine hX _ _ ?_; clear hX X)
 | (refine ZG ?_; try clear hall all)
 | (refine hK _ _ ?_; clear hK K)
 | refine ZL ?_
 | (refine v_0 _ _ ?_; try clear v_0 V_0)
 | (refine v_1 _ _ ?_; try clear v_1 V_1)
 | ((first | refine qr 7 [2,3] ?_ | refine Zh (a := .seq (.region 4 _ _) _) [4] ?_ | refine qr 3 [1,4] ?_ | refine Zh (a := .seq (.region 1 _ _) _) [1] ?_ | refine qr 0 [1] ?_); intro V_0 v_0)
 | ((first | refine qr 6 [2,3] ?_ | refine qr 5 [4,24] ?_ | refine qr 4 [1,4,5,6] ?_ | refine qr 2 [2,3] ?_ | refine qr 1 [1,10] ?_); intro V_1 v_1)
 | (refine ZM ?_; intro K hK)
 | (refine ZN ?_; intro all hall K hK)
 | (refine ZQ ?_ ?_)
 | refine ZT ?_ | refine ZU ?_ | refine ZW ?_)
  all_goals try clear v_1 V_1
  all_goals try clear v_0 V_0
  all_goals (try simp only [inR])
  all_goals first
    | omega
    | exact gText_len hp.1 hp.2
    | (rw [join_f0 hq]; exact ⟨rfl, rfl⟩)
    | (rw [join_f1 hq]; exact ⟨rfl, rfl⟩)
    | (rw [join_f2 hb]; exact ⟨rfl, rfl⟩)
    | (rw [join_t (by assumption) hb]; exact ⟨rfl, rfl⟩)
    | skip
theorem sound_95 : Sound Tryz.prog 95 .body (norm s95) := by
  refine sb Tryz.func95 rfl (by kernel_rfl) G95_ok (by kernel_rfl) fun ds p r hs hp => ?_
  unfold s95 at hs
  split at hs
  · cases hs; exact ⟨Nat.le_of_ble_eq_true (by kernel_rfl), wk95 _ _ _ _ _ hp⟩
  · cases hs
noncomputable def s193 : Cs := fun ds => match ds with
  | [.sl .u64 a] => some (a.length ≤ 100000000, .one (.v (.int .i64 (sz a))))
  | _ => none
theorem s193_eq (a : List Int) : norm s193 [.sl .u64 a] = s193 [.sl .u64 a] := rfl
theorem s193_nil1  : norm s193 [.v (.slice none 0 0)] = s193 [.sl .u64 []] := rfl
noncomputable def G193 : Gam := []
theorem G193_ok : Gk Tryz.prog G193 := Gn
theorem wk193 (a : List Int) (hp : a.length ≤ 100000000) : awp ty G193 (code Tryz.f193) (retP ty Tryz.f193.results.toList (.one (.v (.int .i64 (sz a))))) (entry 0 [.sl .u64 a]) [] := by
  unfold code
  simp only [Tryz.f193, Option.getD_some]
  all_goals repeat' (first
 | ((with_reducible first | (refine ZA ?_; intro X hX) | (show awp _ _ _ _ (Kp _ _) _) | refine ZD ?_ | refine ZE ?_ | refine ZF ?_ | ((show Bg _ _ _ _ _); simp only [hall]) | (refine ZR ?_ ?_ <;> intro hb <;> (try simp only [hb]) <;> have hq := hb <;> try simp only [HQ] at hq)) <;> try simp only [Go.AM.SS, Nat.reduceAdd, Nat.reduceMul, Nat.reduceSub, ↓reduceIte, Nat.reduceEqDiff, Nat.reduceLT, Nat.reduceLeDiff, reduceCtorEq, Int.reduceBEq, Int.reduceBNe, Nat.reduceBEq, Int.reduceEq, Int.reduceToNat, Int.reduceLE, Int.reduceLT, Nat.reduceDiv, Int.reduceAdd, Int.reduceSub, Int.reduceMul, Int.reduceNeg, Int.reduceGT, Int.reduceGE, Nat.reduceMod, ty_3, ty_22, ty_50])
 | with_reducible first
 | (refine hX _ _ ?_; clear hX X)
 | (refine ZG ?_; try clear hall all)
 | (refine hK _ _ ?_; clear hK K)
 | refine ZL ?_
 | (refine v_0 _ _ ?_; try clear v_0 V_0)
 | (refine v_1 _ _ ?_; try clear v_1 V_1)
 | (refine v_2 _ _ ?_; try clear v_2 V_2)
    | (with_reducible refine awp_lp (σ := Nat) (fun n => n ≤ a.length ∧ ∀ i, n ≤ i → a.getD i 0 = 0) (fun n => [(0, .rd .u64 a), (3, .v (.int .i64 n))]) (fun _ => []) (fun n => n) a.length ?_ ?_ (fun s hs => ?_))
 | ((first | refine qr 4 [2] ?_ | refine qb 0 [3] ?_ | refine qr 1 [0,3] ?_ | refine qr 0 [0] ?_); intro V_0 v_0)
 | ((first | refine Zh (a := .seq (.region 2 _ _) _) [0,3] ?_); intro V_1 v_1)
 | ((first | refine qr 2 [0,3,15] ?_); intro V_2 v_2)
 | (refine ZM ?_; intro K hK)
 | (refine ZN ?_; intro all hall K hK)
 | (refine ZQ ?_ ?_)
 | (refine Zg ?_; simp only [↓reduceIte, Nat.reduceEqDiff])
 | refine ZS ?_ | refine ZT ?_ | refine ZU ?_ | refine ZV ?_ | refine ZW ?_ | refine ZX ?_ | refine ZY ?_ | refine ZZ ?_ | refine Za ?_ | refine Ze ?_ | refine Zf ?_)
  all_goals try clear v_2 V_2
  all_goals try clear v_1 V_1
  all_goals try clear v_0 V_0
  all_goals (try simp only [inR])
  · exact ⟨Nat.le_refl _, fun i hi => by simp [List.getD, List.getElem?_eq_none hi]⟩
  · exact Ent.refl _ _
  · omega
  · omega
  · omega
  · refine ⟨s - 1, by (refine Eo [] rfl ?_ ?_ <;> simp only [Me, Sl, AvLe, lk, ↓reduceIte, Nat.reduceEqDiff, Option.isSome_some, and_self, and_true, true_and, reduceCtorEq, List.map_nil, List.map_cons, Option.some.injEq, AV.v.injEq, Value.int.injEq, Value.bool.injEq, AV.rd.injEq, AV.ow.injEq, AV.al.injEq, AV.ref.injEq] <;> omega), ⟨by omega, fun i hi => ?_⟩, by omega⟩
    by_cases h : s ≤ i
    · exact hs.2 i h
    · have : i = s - 1 := by omega
      subst this
      have e : ((s : Int) - 1).toNat = s - 1 := by omega
      rw [e] at hq
      exact hq
  · have e : ((s : Int) - 1).toNat = s - 1 := by omega
    rw [e] at hq
    rw [sz_eq s hs.1 hs.2 (.inr hq)]
  · rw [sz_eq s hs.1 hs.2 (.inl (by omega))]
theorem sound_193 : Sound Tryz.prog 193 .body (norm s193) := by
  refine sb Tryz.func193 rfl (by kernel_rfl) G193_ok (by kernel_rfl) fun ds p r hs hp => ?_
  unfold s193 at hs
  split at hs
  · cases hs; exact ⟨Nat.le_of_ble_eq_true (by kernel_rfl), wk193 _ hp⟩
  · cases hs
noncomputable def s139 : Cs := fun ds => match ds with
  | [.sl .u64 a, .sl .u64 b] => some ((lim a ∧ a.length ≤ 90000000) ∧ lim b ∧ b.length ≤ 90000000, .one (.fresh .u64 (limbs (val a + val b))))
  | _ => none
theorem s139_eq (a : List Int) (b : List Int) : norm s139 [.sl .u64 a, .sl .u64 b] = s139 [.sl .u64 a, .sl .u64 b] := rfl
theorem s139_nil1  (b : List Int) : norm s139 [.v (.slice none 0 0), .sl .u64 b] = s139 [.sl .u64 [], .sl .u64 b] := rfl
theorem s139_nil2 (a : List Int)  : norm s139 [.sl .u64 a, .v (.slice none 0 0)] = s139 [.sl .u64 a, .sl .u64 []] := rfl
theorem s139_nil3   : norm s139 [.v (.slice none 0 0), .v (.slice none 0 0)] = s139 [.sl .u64 [], .sl .u64 []] := rfl
noncomputable def G139 : Gam := [(107, .ext, sAdd64), (193, .body, norm s193)]
theorem G139_ok : Gk Tryz.prog G139 := Gc ext_107 (Gc sound_193 Gn)
theorem k139_107 : lk G139 107 = some (.ext, sAdd64) := rfl
theorem k139_193 : lk G139 193 = some (.body, norm s193) := rfl
theorem wk139 (a : List Int) (b : List Int) (hp : (lim a ∧ a.length ≤ 90000000) ∧ lim b ∧ b.length ≤ 90000000) : awp ty G139 (code Tryz.f139) (retP ty Tryz.f139.results.toList (.one (.fresh .u64 (limbs (val a + val b))))) (entry 0 [.sl .u64 a, .sl .u64 b]) [] := by
  unfold code
  simp only [Tryz.f139, Option.getD_some]
  have za := sz_le a
  have zb := sz_le b
  have ya := Lz hp.1.1
  have yb := Lz hp.2.1
  all_goals repeat' (first
 | ((with_reducible first | (refine ZA ?_; intro X hX) | (refine ZB ?_; intro X hX) | (show awp _ _ _ _ (Kp _ _) _) | refine ZD ?_ | refine ZE ?_ | refine ZF ?_ | ((show Bg _ _ _ _ _); simp only [hall]) | (refine ZR ?_ ?_ <;> intro hb <;> (try simp only [hb]) <;> have hq := hb <;> try simp only [HQ] at hq)) <;> try simp only [Go.AM.SS, Nat.reduceAdd, Nat.reduceMul, Nat.reduceSub, ↓reduceIte, Nat.reduceEqDiff, Nat.reduceLT, Nat.reduceLeDiff, reduceCtorEq, Int.reduceBEq, Int.reduceBNe, Nat.reduceBEq, Int.reduceEq, Int.reduceToNat, Int.reduceLE, Int.reduceLT, Nat.reduceDiv, Int.reduceAdd, Int.reduceSub, Int.reduceMul, Int.reduceNeg, Int.reduceGT, Int.reduceGE, Nat.reduceMod, k139_107, sAdd64_eq, k139_193, s193.eq_1, s193_eq, s193_nil1, ty_3, ty_22, ty_50, Ts hp.1.1, Ts hp.2.1])
 | with_reducible first
 | (refine hX _ _ ?_; clear hX X)
 | (refine ZG ?_; try clear hall all)
 | (refine ZH ?_; try clear hall all)
 | (refine hK _ _ ?_; clear hK K)
 | refine ZL ?_
 | (refine v_0 _ _ ?_; try clear v_0 V_0)
 | (refine v_1 _ _ ?_; try clear v_1 V_1)
 | (refine v_2 _ _ ?_; try clear v_2 V_2)
 | (refine v_3 _ _ ?_; try clear v_3 V_3)
    | (with_reducible refine awp_seq_j (a := .seq (.region 2 _ _) _) (ι := {p : Nat × Nat // p.1 + p.2 = val a + val b ∧ (limbs p.2).length ≤ (limbs p.1).length ∧ (limbs p.1).length ≤ 90000000}) (fun j => [(0, .rd .u64 (limbs j.1.1)), (1, .rd .u64 (limbs j.1.2))]) (fun _ => []) (fun ⟨⟨x, y⟩, hj⟩ => ?_) ?_; rotate_left; intro Kj hj22)
    | (with_reducible refine awp_lp (σ := Nat × Nat × List Int) (fun s => s.1 ≤ (limbs x).length ∧ s.2.1 ≤ 1 ∧ lim s.2.2 ∧ s.2.2.length = (limbs x).length + 1 ∧ val (s.2.2.take s.1) + s.2.1 * 2 ^ (64 * s.1) = val ((limbs x).take s.1) + val ((limbs y).take s.1)) (fun s => [(0, .rd .u64 (limbs x)), (1, .rd .u64 (limbs y)), (5, .ow 448), (6, .v (.int .u64 s.2.1)), (29, .rd .u64 (limbs x)), (30, .v (.int .i64 (limbs x).length)), (31, .v (.int .i64 s.1))]) (fun s => [(448, .ints .u64 s.2.2, false)]) (fun s => (limbs x).length - s.1) (0, 0, List.replicate ((limbs x).length + 1) 0) ?_ ?_ (fun s hs => ?_))
 | ((first | refine qr 15 [4] ?_ | refine qr 14 [5] ?_ | refine Zh (a := .seq (.region 6 _ _) _) [0,5,6] ?_ | refine qr 5 [0,1,5,6] ?_ | refine qr 4 [0,1,5] ?_ | refine Zh (a := .seq (.region 2 _ _) _) [0,1] ?_ | refine qr 1 [0,1] ?_ | refine qr 0 [0,1] ?_); intro V_0 v_0)
 | ((first | refine qb 1 [0,1,5,6,29,30,31] ?_ | refine Zh (a := .cond (.tmp 32) _ _) [0,1,5,6,29,30,31] ?_ | refine qr 7 [0,1,5,6,29,30,31,32] ?_ | refine qr 6 [0,1,5,6,29,30,31] ?_ | refine qr 2 [0,1,22] ?_); intro V_1 v_1)
 | ((first | refine Zh (a := .seq (.region 10 _ _) _) [0,1,5,6,7,8,9,29,30,31] ?_ | refine qr 9 [0,1,5,6,7,8,9,29,30,31] ?_ | refine qr 8 [0,1,5,6,7,8,29,30,31] ?_); intro V_2 v_2)
 | ((first | refine qr 10 [0,1,5,6,7,8,9,29,30,31,39] ?_); intro V_3 v_3)
 | (refine ZM ?_; intro K hK)
 | (refine ZN ?_; intro all hall K hK)
 | (refine ZO ?_ ?_; kernel_rfl; intro all hall K hK)
 | (refine ZQ ?_ ?_)
 | (refine ZK ?_; kernel_rfl)
 | (refine Zg ?_; simp only [↓reduceIte, Nat.reduceEqDiff])
 | refine ZS ?_ | refine ZT ?_ | refine ZU ?_ | refine ZV ?_ | refine ZW ?_ | refine ZX ?_ | refine ZY ?_ | refine ZZ ?_ | refine Za ?_ | refine Ze ?_ | refine Zf ?_)
  all_goals try clear v_3 V_3
  all_goals try clear v_2 V_2
  all_goals try clear v_1 V_1
  all_goals try clear v_0 V_0
  all_goals (try (rcases s with ⟨i, c, o⟩))
  all_goals (try dsimp only at *)
  all_goals (try simp only [inR])
  all_goals (try omega)
  · exact hj22 _ _ ⟨(val b, val a), by dsimp only; omega, by dsimp only; omega, by dsimp only; omega⟩ (by (refine Eo [] rfl ?_ ?_ <;> simp only [Me, Sl, AvLe, lk, ↓reduceIte, Nat.reduceEqDiff, Option.isSome_some, and_self, and_true, true_and, reduceCtorEq, List.map_nil, List.map_cons, Option.some.injEq, AV.v.injEq, Value.int.injEq, Value.bool.injEq, AV.rd.injEq, AV.ow.injEq, AV.al.injEq, AV.ref.injEq] <;> omega))
  · exact hj22 _ _ ⟨(val a, val b), rfl, by dsimp only; omega, by dsimp only; omega⟩ (by (refine Eo [] rfl ?_ ?_ <;> simp only [Me, Sl, AvLe, lk, ↓reduceIte, Nat.reduceEqDiff, Option.isSome_some, and_self, and_true, true_and, reduceCtorEq, List.map_nil, List.map_cons, Option.some.injEq, AV.v.injEq, Value.int.injEq, Value.bool.injEq, AV.rd.injEq, AV.ow.injEq, AV.al.injEq, AV.ref.injEq] <;> omega))
  · exact ⟨Nat.zero_le _, by omega, lim_rep _, by simp, by simp [val]⟩
  · have e : (((limbs x).length : Int) + 1).toNat = (limbs x).length + 1 := by omega
    rw [e]; exact Ent.refl _ _
  · have h1 := Mg (Ml x) (i := i)
    have h2 := Mg (Ml y) (i := i)
    omega
  · have h1 := Mg (Ml x) (i := i)
    have h2 := Mg (Ml y) (i := i)
    refine ⟨(i + 1, (((limbs x).getD i 0 + (limbs y).getD i 0 + (c : Int)) / 18446744073709551616).toNat, o.set i (((limbs x).getD i 0 + (limbs y).getD i 0 + (c : Int)) % 18446744073709551616)), by (refine Eo [(448, 448)] rfl ?_ ?_ <;> simp only [Me, Sl, AvLe, lk, ↓reduceIte, Nat.reduceEqDiff, Option.isSome_some, and_self, and_true, true_and, reduceCtorEq, List.map_nil, List.map_cons, Option.some.injEq, AV.v.injEq, Value.int.injEq, Value.bool.injEq, AV.rd.injEq, AV.ow.injEq, AV.al.injEq, AV.ref.injEq] <;> omega), ⟨by dsimp only; omega, by dsimp only; omega, lim_set hs.2.2.1 (by omega) i, by simp [hs.2.2.2.1], add_step (Ml x) (Ml y) (by omega) hs.2.2.2.2⟩, by dsimp only; omega⟩
  · have h1 := Mg (Ml x) (i := i)
    omega
  · have h1 := Mg (Ml x) (i := i)
    have h2 : (limbs y).getD i 0 = 0 := getD_out (by omega)
    have h4 : (limbs x).getD i 0 + 0 + (c : Int) = (limbs x).getD i 0 + (limbs y).getD i 0 + (c : Int) := by rw [h2]
    rw [h4]
    have h3 := Mg (Ml y) (i := i)
    refine ⟨(i + 1, (((limbs x).getD i 0 + (limbs y).getD i 0 + (c : Int)) / 18446744073709551616).toNat, o.set i (((limbs x).getD i 0 + (limbs y).getD i 0 + (c : Int)) % 18446744073709551616)), by (refine Eo [(448, 448)] rfl ?_ ?_ <;> simp only [Me, Sl, AvLe, lk, ↓reduceIte, Nat.reduceEqDiff, Option.isSome_some, and_self, and_true, true_and, reduceCtorEq, List.map_nil, List.map_cons, Option.some.injEq, AV.v.injEq, Value.int.injEq, Value.bool.injEq, AV.rd.injEq, AV.ow.injEq, AV.al.injEq, AV.ref.injEq] <;> omega), ⟨by dsimp only; omega, by dsimp only; omega, lim_set hs.2.2.1 (by omega) i, by simp [hs.2.2.2.1], add_step (Ml x) (Ml y) (by omega) hs.2.2.2.2⟩, by dsimp only; omega⟩
  all_goals (have hi : i = (limbs x).length := by omega)
  all_goals (subst hi)
  all_goals (have hz := sz_le (o.set (limbs x).length (c : Int)))
  all_goals (have hlen : (o.set (limbs x).length (c : Int)).length = (limbs x).length + 1 := by simp [hs.2.2.2.1])
  all_goals (try omega)
  all_goals (have h5 := hs.2.2.2.2)
  all_goals (rw [List.take_length, Vl, List.take_of_length_le hj.2.1, Vl] at h5)
  all_goals (have hv : val (o.set (limbs x).length (c : Int)) = val a + val b := by rw [val_set_last hs.2.2.2.1, ← hj.1, Int.toNat_natCast, Nat.mul_comm]; exact h5)
  all_goals (try omega)
  all_goals (rw [← hv, ← Ts (lim_set hs.2.2.1 (by omega) _)])
theorem sound_139 : Sound Tryz.prog 139 .body (norm s139) := by
  refine sb Tryz.func139 rfl (by kernel_rfl) G139_ok (by kernel_rfl) fun ds p r hs hp => ?_
  unfold s139 at hs
  split at hs
  · cases hs; exact ⟨Nat.le_of_ble_eq_true (by kernel_rfl), wk139 _ _ hp⟩
  · cases hs
noncomputable def s106 : Cs := fun ds => match ds with
  | [.v (.int .u64 x), .v (.int .u64 y)] => some ((0 ≤ x ∧ x < 18446744073709551616) ∧ 0 ≤ y ∧ y < 18446744073709551616, .many [.v (.int .u64 ((x.toNat * y.toNat / 18446744073709551616 : Nat))), .v (.int .u64 ((x.toNat * y.toNat % 18446744073709551616 : Nat)))])
  | _ => none
theorem s106_eq (x : Int) (y : Int) : norm s106 [.v (.int .u64 x), .v (.int .u64 y)] = s106 [.v (.int .u64 x), .v (.int .u64 y)] := rfl
noncomputable def G106 : Gam := []
theorem G106_ok : Gk Tryz.prog G106 := Gn
theorem wk106 (x : Int) (y : Int) (hp : (0 ≤ x ∧ x < 18446744073709551616) ∧ 0 ≤ y ∧ y < 18446744073709551616) : awp ty G106 (code Tryz.f106) (retP ty Tryz.f106.results.toList (.many [.v (.int .u64 ((x.toNat * y.toNat / 18446744073709551616 : Nat))), .v (.int .u64 ((x.toNat * y.toNat % 18446744073709551616 : Nat)))])) (entry 0 [.v (.int .u64 x), .v (.int .u64 y)]) [] := by
  unfold code
  simp only [Tryz.f106, Option.getD_some]
  obtain ⟨x, rfl⟩ := Int.eq_ofNat_of_zero_le hp.1.1
  obtain ⟨y, rfl⟩ := Int.eq_ofNat_of_zero_le hp.2.1
  simp only [Int.toNat_natCast]
  obtain ⟨x0, hx0⟩ : ∃ x0, x % 4294967296 = x0 := ⟨_, rfl⟩
  obtain ⟨x1, hx1⟩ : ∃ x1, x / 4294967296 = x1 := ⟨_, rfl⟩
  obtain ⟨y0, hy0⟩ : ∃ y0, y % 4294967296 = y0 := ⟨_, rfl⟩
  obtain ⟨y1, hy1⟩ : ∃ y1, y / 4294967296 = y1 := ⟨_, rfl⟩
  have m1 : AM.bits .and .u64 (x : Int) 4294967295 = (x0 : Int) := by rw [and32 (by omega), hx0]
  have m2 : AM.bits .and .u64 (y : Int) 4294967295 = (y0 : Int) := by rw [and32 (by omega), hy0]
  have d1 : (x : Int) / 4294967296 = (x1 : Int) := by omega
  have d2 : (y : Int) / 4294967296 = (y1 : Int) := by omega
  have ex : x = x1 * 4294967296 + x0 := by omega
  have ey : y = y1 * 4294967296 + y0 := by omega
  have bx0 : x0 < 4294967296 := by omega
  have by0 : y0 < 4294967296 := by omega
  have bx1 : x1 < 4294967296 := by omega
  have by1 : y1 < 4294967296 := by omega
  obtain ⟨A, hA⟩ : ∃ A, x0 * y0 = A := ⟨_, rfl⟩
  obtain ⟨B, hB⟩ : ∃ B, x1 * y0 = B := ⟨_, rfl⟩
  obtain ⟨C, hC⟩ : ∃ C, x0 * y1 = C := ⟨_, rfl⟩
  obtain ⟨D, hD⟩ : ∃ D, x1 * y1 = D := ⟨_, rfl⟩
  obtain ⟨P, hP⟩ : ∃ P, x * y = P := ⟨_, rfl⟩
  have eP : P = D * 18446744073709551616 + (B + C) * 4294967296 + A := by rw [← hP, ← hA, ← hB, ← hC, ← hD, ex, ey]; grind
  have lA : A ≤ 18446744065119617025 := by rw [← hA]; exact Nat.mul_le_mul (show x0 ≤ 4294967295 by omega) (show y0 ≤ 4294967295 by omega)
  have lB : B ≤ 18446744065119617025 := by rw [← hB]; exact Nat.mul_le_mul (show x1 ≤ 4294967295 by omega) (show y0 ≤ 4294967295 by omega)
  have lC : C ≤ 18446744065119617025 := by rw [← hC]; exact Nat.mul_le_mul (show x0 ≤ 4294967295 by omega) (show y1 ≤ 4294967295 by omega)
  have lD : D ≤ 18446744065119617025 := by rw [← hD]; exact Nat.mul_le_mul (show x1 ≤ 4294967295 by omega) (show y1 ≤ 4294967295 by omega)
  have eA : (x0 : Int) * (y0 : Int) = (A : Int) := by omega
  have eB : (x1 : Int) * (y0 : Int) = (B : Int) := by omega
  have eC : (x0 : Int) * (y1 : Int) = (C : Int) := by omega
  have eD : (x1 : Int) * (y1 : Int) = (D : Int) := by omega
  have eXY : (x : Int) * (y : Int) = (P : Int) := by omega
  have wA : (A : Int) % 18446744073709551616 = (A : Int) := by omega
  obtain ⟨t, ht⟩ : ∃ t, B + A / 4294967296 = t := ⟨_, rfl⟩
  have et : ((B : Int) % 18446744073709551616 + (A : Int) / 4294967296) % 18446744073709551616 = (t : Int) := by omega
  have tl : t < 18446744073709551616 := by omega
  have m3 : AM.bits .and .u64 (t : Int) 4294967295 = ((t % 4294967296 : Nat) : Int) := by rw [and32 tl]
  obtain ⟨w, hw⟩ : ∃ w, t % 4294967296 + C = w := ⟨_, rfl⟩
  have ew : (((t % 4294967296 : Nat) : Int) + (C : Int) % 18446744073709551616) % 18446744073709551616 = (w : Int) := by omega
  have eh : (((D : Int) % 18446744073709551616 + (t : Int) / 4294967296) % 18446744073709551616 + (w : Int) / 4294967296) % 18446744073709551616 = ((P / 18446744073709551616 : Nat) : Int) := by omega
  have el : (P : Int) % 18446744073709551616 = ((P % 18446744073709551616 : Nat) : Int) := by omega
  clear hx0 hx1 hy0 hy1 hA hB hC hD ex ey eP
  all_goals repeat' (first
 | ((with_reducible first | (refine ZA ?_; intro X hX) | (show awp _ _ _ _ (Kp _ _) _) | refine ZD ?_ | refine ZE ?_ | refine ZF ?_ | ((show Bg _ _ _ _ _); simp only [hall]) | (refine ZR ?_ ?_ <;> intro hb <;> (try simp only [hb]) <;> have hq := hb <;> try simp only [HQ] at hq)) <;> try simp only [Go.AM.SS, Nat.reduceAdd, Nat.reduceMul, Nat.reduceSub, ↓reduceIte, Nat.reduceEqDiff, Nat.reduceLT, Nat.reduceLeDiff, reduceCtorEq, Int.reduceBEq, Int.reduceBNe, Nat.reduceBEq, Int.reduceEq, Int.reduceToNat, Int.reduceLE, Int.reduceLT, Nat.reduceDiv, Int.reduceAdd, Int.reduceSub, Int.reduceMul, Int.reduceNeg, Int.reduceGT, Int.reduceGE, Nat.reduceMod, ty_22, ty_75, IntKind.bits, minLit, Int.reducePow, m1, m2, d1, d2, eA, eB, eC, eD, eXY, wA, et, m3, ew, eh, el, hP])
 | with_reducible first
 | (refine hX _ _ ?_; clear hX X)
 | (refine ZG ?_; try clear hall all)
 | (refine hK _ _ ?_; clear hK K)
 | refine ZL ?_
 | (refine v_0 _ _ ?_; try clear v_0 V_0)
 | ((first | refine qr 11 [4,5] ?_ | refine qr 10 [0,1,4] ?_ | refine qr 9 [0,1,7,9,12,13] ?_ | refine qr 8 [0,1,6,7,9,12,13] ?_ | refine qr 7 [0,1,6,7,9,11,12] ?_ | refine qr 6 [0,1,6,7,9,11] ?_ | refine qr 5 [0,1,6,7,8,9,10] ?_ | refine qr 4 [0,1,6,7,8,9] ?_ | refine qr 3 [0,1,6,7,8] ?_ | refine qr 2 [0,1,6,7] ?_ | refine qr 1 [0,1,6] ?_ | refine qr 0 [0,1] ?_); intro V_0 v_0)
 | (refine ZM ?_; intro K hK)
 | (refine ZN ?_; intro all hall K hK)
 | (refine ZQ ?_ ?_)
 | refine ZT ?_ | refine ZU ?_ | refine ZW ?_)
  all_goals try clear v_0 V_0
theorem sound_106 : Sound Tryz.prog 106 .body (norm s106) := by
  refine sb Tryz.func106 rfl (by kernel_rfl) G106_ok (by kernel_rfl) fun ds p r hs hp => ?_
  unfold s106 at hs
  split at hs
  · cases hs; exact ⟨Nat.le_of_ble_eq_true (by kernel_rfl), wk106 _ _ hp⟩
  · cases hs
noncomputable def s163 : Cs := fun ds => match ds with
  | [.sl .u64 a, .sl .u64 b] => some ((lim a ∧ a.length ≤ 45000000) ∧ lim b ∧ b.length ≤ 45000000, .one (.fresh .u64 (limbs (val a * val b))))
  | _ => none
theorem s163_eq (a : List Int) (b : List Int) : norm s163 [.sl .u64 a, .sl .u64 b] = s163 [.sl .u64 a, .sl .u64 b] := rfl
theorem s163_nil1  (b : List Int) : norm s163 [.v (.slice none 0 0), .sl .u64 b] = s163 [.sl .u64 [], .sl .u64 b] := rfl
theorem s163_nil2 (a : List Int)  : norm s163 [.sl .u64 a, .v (.slice none 0 0)] = s163 [.sl .u64 a, .sl .u64 []] := rfl
theorem s163_nil3   : norm s163 [.v (.slice none 0 0), .v (.slice none 0 0)] = s163 [.sl .u64 [], .sl .u64 []] := rfl
noncomputable def G163 : Gam := [(106, .body, norm s106), (107, .ext, sAdd64), (193, .body, norm s193)]
theorem G163_ok : Gk Tryz.prog G163 := Gc sound_106 (Gc ext_107 (Gc sound_193 Gn))
theorem k163_106 : lk G163 106 = some (.body, norm s106) := rfl
theorem k163_107 : lk G163 107 = some (.ext, sAdd64) := rfl
theorem k163_193 : lk G163 193 = some (.body, norm s193) := rfl
theorem wk163 (a : List Int) (b : List Int) (hp : (lim a ∧ a.length ≤ 45000000) ∧ lim b ∧ b.length ≤ 45000000) : awp ty G163 (code Tryz.f163) (retP ty Tryz.f163.results.toList (.one (.fresh .u64 (limbs (val a * val b))))) (entry 0 [.sl .u64 a, .sl .u64 b]) [] := by
  unfold code
  simp only [Tryz.f163, Option.getD_some]
  have lenE : ((a.length : Int) + (b.length : Int)).toNat = a.length + b.length := by omega
  all_goals repeat' (first
 | ((with_reducible first | (refine ZA ?_; intro X hX) | (show awp _ _ _ _ (Kp _ _) _) | refine ZD ?_ | refine ZE ?_ | refine ZF ?_ | ((show Bg _ _ _ _ _); simp only [hall]) | (refine ZR ?_ ?_ <;> intro hb <;> (try simp only [hb]) <;> have hq := hb <;> try simp only [HQ] at hq)) <;> try simp only [Go.AM.SS, Nat.reduceAdd, Nat.reduceMul, Nat.reduceSub, ↓reduceIte, Nat.reduceEqDiff, Nat.reduceLT, Nat.reduceLeDiff, reduceCtorEq, Int.reduceBEq, Int.reduceBNe, Nat.reduceBEq, Int.reduceEq, Int.reduceToNat, Int.reduceLE, Int.reduceLT, Nat.reduceDiv, Int.reduceAdd, Int.reduceSub, Int.reduceMul, Int.reduceNeg, Int.reduceGT, Int.reduceGE, Nat.reduceMod, k163_106, s106.eq_1, s106_eq, k163_107, sAdd64_eq, k163_193, s193.eq_1, s193_eq, s193_nil1, ty_3, ty_22, ty_50, List.length_replicate])
 | with_reducible first
 | (refine hX _ _ ?_; clear hX X)
 | (refine ZG ?_; try clear hall all)
 | (refine hK _ _ ?_; clear hK K)
 | refine ZL ?_
 | (refine v_0 _ _ ?_; try clear v_0 V_0)
 | (refine v_1 _ _ ?_; try clear v_1 V_1)
 | (refine v_2 _ _ ?_; try clear v_2 V_2)
 | (refine v_3 _ _ ?_; try clear v_3 V_3)
 | (refine v_4 _ _ ?_; try clear v_4 V_4)
    | (with_reducible refine awp_lp (c := .seq (.region 3 _ _) _) (σ := Nat × List Int) (fun s => s.1 ≤ a.length ∧ lim s.2 ∧ s.2.length = a.length + b.length ∧ val s.2 = val (a.take s.1) * val b) (fun s => [(1, .rd .u64 b), (5, .ow 304), (20, .rd .u64 a), (21, .v (.int .i64 a.length)), (22, .v (.int .i64 s.1))]) (fun s => [(304, .ints .u64 s.2, false)]) (fun s => a.length - s.1) (0, List.replicate (a.length + b.length) 0) ?_ ?_ (fun s hs => ?_))
    | (with_reducible refine awp_lp (c := .seq (.region 7 _ _) _) (σ := Nat × Nat × List Int) (fun z => z.1 ≤ b.length ∧ z.2.1 < 18446744073709551616 ∧ lim z.2.2 ∧ z.2.2.length = a.length + b.length ∧ z.2.2.getD (s.1 + b.length) 0 = 0 ∧ val z.2.2 + z.2.1 * 2 ^ (64 * (s.1 + z.1)) = val (a.take s.1) * val b + (a.getD s.1 0).toNat * 2 ^ (64 * s.1) * val (b.take z.1)) (fun z => [(1, .rd .u64 b), (5, .ow 304), (6, .v (.int .i64 s.1)), (7, .v (.int .u64 (a.getD s.1 0))), (8, .v (.int .u64 z.2.1)), (20, .rd .u64 a), (21, .v (.int .i64 a.length)), (22, .v (.int .i64 s.1)), (27, .rd .u64 b), (28, .v (.int .i64 b.length)), (29, .v (.int .i64 z.1))]) (fun z => [(304, .ints .u64 z.2.2, false)]) (fun z => b.length - z.1) (0, 0, s.2) ?_ ?_ (fun z hz => ?_))
 | ((first | refine qr 18 [4] ?_ | refine Zh (a := .seq (.region 2 _ _) _) [5] ?_ | refine qr 1 [0,1,5] ?_ | refine qr 0 [0,1] ?_); intro V_0 v_0)
 | ((first | refine qb 1 [1,5,20,21,22] ?_ | refine Zh (a := .cond (.tmp 23) _ _) [1,5,20,21,22] ?_ | refine qr 3 [1,5,20,21,22,23] ?_ | refine qr 2 [1,5,20,21,22] ?_); intro V_1 v_1)
 | ((first | refine Zh (a := .seq (.region 6 _ _) _) [1,5,6,8,20,21,22] ?_ | refine qr 5 [1,5,6,7,8,20,21,22] ?_ | refine qr 4 [1,5,6,7,20,21,22] ?_); intro V_2 v_2)
 | ((first | refine qb 3 [1,5,6,7,8,20,21,22,27,28,29] ?_ | refine Zh (a := .cond (.tmp 30) _ _) [1,5,6,7,8,20,21,22,27,28,29] ?_ | refine qr 7 [1,5,6,7,8,20,21,22,27,28,29,30] ?_ | refine qr 6 [1,5,6,7,8,20,21,22,27,28,29] ?_); intro V_3 v_3)
 | ((first | refine qr 13 [1,5,6,7,11,13,20,21,22,27,28,29] ?_ | refine qr 12 [1,5,6,7,9,11,12,20,21,22,27,28,29] ?_ | refine qr 11 [1,5,6,7,9,11,12,13,20,21,22,27,28,29] ?_ | refine qr 10 [1,5,6,7,8,9,11,12,20,21,22,27,28,29] ?_ | refine qr 9 [1,5,6,7,8,9,11,12,20,21,22,27,28,29] ?_ | refine qr 8 [1,5,6,7,8,9,10,20,21,22,27,28,29] ?_); intro V_4 v_4)
 | (refine ZM ?_; intro K hK)
 | (refine ZN ?_; intro all hall K hK)
 | (refine ZQ ?_ ?_)
 | (refine Zg ?_; simp only [↓reduceIte, Nat.reduceEqDiff])
 | refine ZS ?_ | refine ZT ?_ | refine ZU ?_ | refine ZV ?_ | refine ZW ?_ | refine ZX ?_ | refine ZY ?_ | refine ZZ ?_ | refine Za ?_ | refine Ze ?_ | refine Zf ?_)
  all_goals try clear v_4 V_4
  all_goals try clear v_3 V_3
  all_goals try clear v_2 V_2
  all_goals try clear v_1 V_1
  all_goals try clear v_0 V_0
  all_goals (try simp only [inR])
  all_goals (try (rcases z with ⟨k, c, o2⟩))
  all_goals (try (rcases s with ⟨i, o⟩))
  all_goals (try dsimp only at *)
  all_goals first
    | omega
    | exact ⟨Nat.zero_le _, lim_rep _, by simp, by simp [val_rep, val]⟩
    | (rw [lenE]; exact Ent.refl _ _)
    | exact Ent.refl _ _
    | exact ⟨Nat.zero_le _, by omega, hs.2.1, hs.2.2.1, getD_zero_of_lt hs.2.1 (by rw [hs.2.2.2]; exact prod_lt hp.1.1 hp.2.1 i), by rw [hs.2.2.2]; simp [val]⟩
    | exact ⟨Mg hp.1.1, Mg hp.2.1⟩
    | (have e : ((i : Int) + (k : Int)).toNat = i + k := by omega
       have h1 := Mg hz.2.2.1 (i := i + k)
       rw [e]
       first
         | omega
         | (have h2 := Mg hp.1.1 (i := i)
            have h3 := Mg hp.2.1 (i := k)
            obtain ⟨c', s', e1, e2, e3, e4, e5⟩ := mul_word (prod_le (x := (a.getD i 0).toNat) (y := (b.getD k 0).toNat) (by omega) (by omega)) (c := (c : Int)) ⟨by omega, by omega⟩ h1
            rw [e1, e2]
            rw [Int.toNat_natCast] at e3
            exact ⟨(k + 1, c', o2.set (i + k) (s' : Int)), (by (refine Eo [(304, 304)] rfl ?_ ?_ <;> simp only [Me, Sl, AvLe, lk, ↓reduceIte, Nat.reduceEqDiff, Option.isSome_some, and_self, and_true, true_and, reduceCtorEq, List.map_nil, List.map_cons, Option.some.injEq, AV.v.injEq, Value.int.injEq, Value.bool.injEq, AV.rd.injEq, AV.ow.injEq, AV.al.injEq, AV.ref.injEq] <;> omega)), ⟨by dsimp only; omega, e4, lim_set hz.2.2.1 ⟨by omega, by omega⟩ _, by simp [hz.2.2.2.1], by rw [getD_set_other (by omega)]; exact hz.2.2.2.2.1, mul_step (by omega) hz.2.2.2.2.2 e3⟩, by dsimp only; omega⟩))
    | (have e : ((i : Int) + (b.length : Int)).toNat = i + b.length := by omega
       rw [e]
       first
         | omega
         | (have hk : k = b.length := by omega
            have h5 := hz.2.2.2.2.2
            rw [hk, List.take_length] at h5
            exact ⟨(i + 1, o2.set (i + b.length) (c : Int)), (by (refine Eo [(304, 304)] rfl ?_ ?_ <;> simp only [Me, Sl, AvLe, lk, ↓reduceIte, Nat.reduceEqDiff, Option.isSome_some, and_self, and_true, true_and, reduceCtorEq, List.map_nil, List.map_cons, Option.some.injEq, AV.v.injEq, Value.int.injEq, Value.bool.injEq, AV.rd.injEq, AV.ow.injEq, AV.al.injEq, AV.ref.injEq] <;> omega)), ⟨by dsimp only; omega, lim_set hz.2.2.1 ⟨by omega, by omega⟩ _, by simp [hz.2.2.2.1], mul_row (by omega) hz.2.2.2.2.1 h5⟩, by dsimp only; omega⟩))
    | (have h6 := sz_le o
       omega)
    | (have hi : i = a.length := by omega
       rw [Ts hs.2.1, hs.2.2.2, hi, List.take_length])
    | skip
theorem sound_163 : Sound Tryz.prog 163 .body (norm s163) := by
  refine sb Tryz.func163 rfl (by kernel_rfl) G163_ok (by kernel_rfl) fun ds p r hs hp => ?_
  unfold s163 at hs
  split at hs
  · cases hs; exact ⟨Nat.le_of_ble_eq_true (by kernel_rfl), wk163 _ _ hp⟩
  · cases hs
end Go.Proofs.AMT
set_option maxRecDepth 20000
namespace Go.AM.LN
open Go Go.Lib
theorem trim10_all {l : List UInt8} (h : l.all isDg = true) : trimS l [48, 49, 50, 51, 52, 53, 54, 55, 56, 57] = [] := by
  have key : ∀ x : List UInt8, x.all isDg = true → x.dropWhile (cs10.contains ·) = [] := fun x hx => by
    have := trim10 x
    unfold trimLeftS at this
    rw [this]; exact gOff_id hx
  show trimS l cs10 = []
  unfold trimS trimLeftS trimRightS
  rw [key l.reverse (by rw [List.all_reverse]; exact h)]
  rfl
theorem drop_all {l : List UInt8} (h : l.all isDg = true) (k : Nat) : (l.drop k).all isDg = true ∧ (l.take k).all isDg = true := by
  have := h
  rw [← List.take_append_drop k l, List.all_append, Bool.and_eq_true] at this
  exact ⟨this.2, this.1⟩
theorem chunk {m : Nat} (h : 0 < (m : Int)) : ∃ c : Nat, ((m : Int) - 1).tmod 19 + 1 = (c : Int) ∧ 1 ≤ c ∧ c ≤ 19 ∧ c ≤ m ∧ (m - c) % 19 = 0 ∧ (m % 19 = 0 → c = 19) := by
  refine ⟨(m - 1) % 19 + 1, ?_, by omega, by omega, by omega, by omega, by omega⟩
  rw [Int.tmod_eq_emod_of_nonneg (by omega)]; omega
theorem take_add {α : Type} (l : List α) (k c : Nat) : l.take (k + c) = l.take k ++ (l.drop k).take c := by rw [List.take_add]
theorem rd_step {l : List UInt8} {k c : Nat} (hk : k ≤ l.length) (hI : k = 0 ∨ (l.length - k) % 19 = 0) (hc : c ≤ l.length - k) (h19 : (l.length - k) % 19 = 0 → c = 19) :
    dv (l.take k) * 10000000000000000000 + dv ((l.drop k).take c) = dv (l.take (k + c)) := by
  rw [take_add, dv_app, List.length_take, List.length_drop, Nat.min_eq_left hc]
  rcases hI with rfl | h
  · simp [dv]
  · rw [h19 h]
theorem val19 : val [10000000000000000000] = 10000000000000000000 := by decide +kernel
theorem val1 (n : Nat) (h : n < 18446744073709551616) : val [(n : Int)] = n := by simp [val]
theorem dv_len {l : List UInt8} (h : l.all isDg = true) : (limbs (dv l)).length ≤ l.length := by
  refine len_le_of (Nat.lt_of_lt_of_le (dv_lt l h) ?_)
  rw [Nat.pow_mul]
  exact Nat.pow_le_pow_left (by decide) _
theorem mul19_len {x L : Nat} (h : (limbs x).length ≤ L) : (limbs (x * 10000000000000000000)).length ≤ L + 1 := by
  refine len_le_of ?_
  have h1 := lt_of_len (n := x) h
  rw [Nat.mul_add, Nat.mul_one, Nat.pow_add]
  exact Nat.mul_lt_mul'' h1 (by decide)
theorem val5 : val [5] = 5 := by decide +kernel
theorem half_sq (b m : Nat) : b ^ (m / 2) * b ^ (m / 2) = b ^ (m / 2 * 2) := by rw [← Nat.pow_add, Nat.mul_two]
theorem pow_odd {b m : Nat} (h : ((m % 2 : Nat) : Int) = 1) : b ^ (m / 2) * b ^ (m / 2) * b = b ^ m := by
  rw [half_sq, ← Nat.pow_succ, show (m / 2 * 2).succ = m by omega]
theorem pow_even {b m : Nat} (h : ¬ ((m % 2 : Nat) : Int) = 1) : b ^ (m / 2) * b ^ (m / 2) = b ^ m := by
  rw [half_sq, show m / 2 * 2 = m by omega]
theorem ten_blen {v n : Nat} (h : v < 10 ^ n) : blen v ≤ 10 * (n / 3 + 1) := by
  refine blen_lt.2 (Nat.lt_of_lt_of_le h ?_)
  have h1 : 10 ^ n ≤ 10 ^ (3 * (n / 3 + 1)) := Nat.pow_le_pow_right (by decide) (by omega)
  refine Nat.le_trans h1 ?_
  rw [Nat.pow_mul, Nat.pow_mul]
  exact Nat.pow_le_pow_left (by decide) _
theorem ten_len {v n : Nat} (h : v < 10 ^ n) : (limbs v).length ≤ (10 * (n / 3 + 1) + 63) / 64 := len_b (ten_blen h)
theorem pow10_len (k : Nat) : (limbs (10 ^ k)).length ≤ (10 * ((k + 1) / 3 + 1) + 63) / 64 := ten_len (Nat.pow_lt_pow_right (by decide) (by omega))
theorem pow5_len (k : Nat) : (limbs (5 ^ k)).length ≤ (3 * k + 1 + 63) / 64 := by
  refine len_b (blen_lt.2 ?_)
  have h : 5 ^ k ≤ 2 ^ (3 * k) := by rw [Nat.pow_mul]; exact Nat.pow_le_pow_left (by decide) _
  exact Nat.lt_of_le_of_lt h (Nat.pow_lt_pow_right (by decide) (by omega))
theorem pow_5_2 (k : Nat) : 5 ^ k * 2 ^ k = 10 ^ k := by rw [← Nat.mul_pow]
theorem dv_len3 {l : List UInt8} (h : l.all isDg = true) : (limbs (dv l)).length ≤ (10 * (l.length / 3 + 1) + 63) / 64 := ten_len (dv_lt l h)
theorem dv_mul_len {l : List UInt8} (h : l.all isDg = true) (k : Nat) : (limbs (dv l * 10 ^ k)).length ≤ (10 * ((l.length + k) / 3 + 1) + 63) / 64 := by
  refine ten_len ?_
  rw [Nat.pow_add]
  exact Nat.mul_lt_mul_of_pos_right (dv_lt l h) (Nat.pow_pos (by decide))
theorem dv_0 (l : List UInt8) : dv (48 :: l) = dv l := by rw [dv_cons]; simp
def payV (q : Bool) (x B : Nat) : Nat := if q ∧ (if x < B then x else 0) = 0 then 1 else (if x < B then x else 0)
theorem payV_lt {q : Bool} {x B : Nat} (hB : B ≤ 2 ^ 255) : payV q x B < 2 ^ 256 := by
  unfold payV
  have h2 : (2 : Nat) ^ 255 < 2 ^ 256 := by decide
  have h1 : (1 : Nat) < 2 ^ 256 := by decide
  have hv : (if x < B then x else 0) < 2 ^ 256 := by
    split
    · omega
    · exact Nat.two_pow_pos _
  generalize (if x < B then x else 0) = v at *
  split
  · exact h1
  · exact hv
theorem pay_ge {x B : Nat} (h : 0 ≤ cmpI x B) : (if x < B then x else 0) = 0 := by
  unfold cmpI at h
  split
  · rename_i h1; rw [if_pos h1] at h; omega
  · rfl
theorem pay_lt {x B : Nat} (h : cmpI x B < 0) : (if x < B then x else 0) = x := by
  unfold cmpI at h
  split
  · rfl
  · rename_i h1; rw [if_neg h1] at h; split at h <;> omega
theorem payV_0t {x B : Nat} (h : (if x < B then x else 0) = 0) : payV true x B = 1 := by unfold payV; rw [if_pos ⟨rfl, h⟩]
theorem payV_0f {x B : Nat} (h : (if x < B then x else 0) = 0) : payV false x B = 0 := by unfold payV; rw [if_neg (by simp), h]
theorem payV_x {q : Bool} {x B : Nat} (h : (if x < B then x else 0) = x) (hx : q = false ∨ x ≠ 0) : payV q x B = x := by
  unfold payV
  rw [h, if_neg]
  rintro ⟨h1, h2⟩
  rcases hx with hx | hx
  · rw [hx] at h1; cases h1
  · exact hx h2
end Go.AM.LN
set_option maxRecDepth 20000
namespace Go.Proofs.AMT
open Go.AM Go.AM.LN
attribute [local congr] bindO_congr bindS_congr bindG_congr awpOps_congr aOne_congr awp_congr aCond_congr awpD_congr dOne_congr keysB_congr nOne_congr thenP_congr blockP_congr Chk_congr Brk_congr
noncomputable def s96 : Cs := fun ds => match ds with
  | [.v (.string s)] => some ((s.data.toList.all isDg = true ∧ s.data.toList ≠ []) ∧ s.size ≤ 12000, .many [.view .u64 (limbs (dv s.data.toList)), .v (.int .i64 0)])
  | _ => none
theorem s96_eq (s : ByteArray) : norm s96 [.v (.string s)] = s96 [.v (.string s)] := rfl
noncomputable def G96 : Gam := [(139, .body, norm s139), (161, .body, norm lTrim), (162, .body, norm lParse), (163, .body, norm s163)]
theorem G96_ok : Gk Tryz.prog G96 := Gc sound_139 (Gc snd_lTrim (Gc snd_lParse (Gc sound_163 Gn)))
theorem k96_139 : lk G96 139 = some (.body, norm s139) := rfl
theorem k96_161 : lk G96 161 = some (.body, norm lTrim) := rfl
theorem k96_162 : lk G96 162 = some (.body, norm lParse) := rfl
theorem k96_163 : lk G96 163 = some (.body, norm s163) := rfl
theorem wk96 (s : ByteArray) (hp : (s.data.toList.all isDg = true ∧ s.data.toList ≠ []) ∧ s.size ≤ 12000) : awp ty G96 (code Tryz.f96) (retP ty Tryz.f96.results.toList (.many [.view .u64 (limbs (dv s.data.toList)), .v (.int .i64 0)])) (entry 0 [.v (.string s)]) [] := by
  unfold code
  simp only [Tryz.f96, Option.getD_some]
  obtain ⟨l, rfl⟩ : ∃ l, s = bs l := ⟨_, Bt s⟩
  rw [Bz, Bd] at hp
  rw [Bd]
  obtain ⟨⟨ha, hn⟩, hz⟩ := hp
  have ht : Go.Lib.trimS l [48, 49, 50, 51, 52, 53, 54, 55, 56, 57] = [] := trim10_all ha
  have hl0 : (l == []) = false := by simpa using hn
  all_goals repeat' (first
 | ((with_reducible first | (refine ZA ?_; intro X hX) | (show awp _ _ _ _ (Kp _ _) _) | refine ZD ?_ | refine ZE ?_ | refine ZF ?_ | ((show Bg _ _ _ _ _); simp only [hall]) | (refine ZR ?_ ?_ <;> intro hb <;> (try simp only [hb]) <;> have hq := hb <;> try simp only [HQ] at hq)) <;> try simp only [Go.AM.SS, Nat.reduceAdd, Nat.reduceMul, Nat.reduceSub, ↓reduceIte, Nat.reduceEqDiff, Nat.reduceLT, Nat.reduceLeDiff, reduceCtorEq, Int.reduceBEq, Int.reduceBNe, Nat.reduceBEq, Int.reduceEq, Int.reduceToNat, Int.reduceLE, Int.reduceLT, Nat.reduceDiv, Int.reduceAdd, Int.reduceSub, Int.reduceMul, Int.reduceNeg, Int.reduceGT, Int.reduceGE, Nat.reduceMod, k96_139, s139.eq_1, s139_eq, s139_nil1, s139_nil2, s139_nil3, k96_161, lTrim_eq, k96_162, lParse_eq, k96_163, s163.eq_1, s163_eq, s163_nil1, s163_nil2, s163_nil3, ty_3, ty_9, ty_22, ty_50, bs_lit, bs_app, Bz, bs_beq, Bi, Bd, Be, bt_bs, List.length_append, List.append_nil, List.nil_append, List.cons_append, ht, hl0, toInts, List.length_drop, Vl, val19])
 | with_reducible first
 | (refine hX _ _ ?_; clear hX X)
 | (refine ZG ?_; try clear hall all)
 | (refine hK _ _ ?_; clear hK K)
 | refine ZL ?_
 | (refine v_0 _ _ ?_; try clear v_0 V_0)
 | (refine v_1 _ _ ?_; try clear v_1 V_1)
 | (refine v_2 _ _ ?_; try clear v_2 V_2)
    | (with_reducible refine awp_lp (c := .seq (.seq (.region 6 _ _) _) _) (σ := Nat) (fun k => k ≤ l.length ∧ (k = 0 ∨ (l.length - k) % 19 = 0)) (fun k => [(0, .v (.string (bs (l.drop k)))), (4, .rd .u64 (limbs (dv (l.take k))))]) (fun k => []) (fun k => l.length - k) 0 ?_ ?_ (fun k hk => ?_))
 | ((first | refine qr 11 [2,3] ?_ | refine qb 0 [4] ?_ | refine qr 5 [0,4] ?_ | refine Zh (a := .seq (.region 3 _ _) _) [0] ?_ | refine Zh (a := .seq (.region 1 _ _) _) [0] ?_ | refine qr 0 [0] ?_); intro V_0 v_0)
 | ((first | refine qr 9 [0,4,5] ?_ | refine qr 8 [0,4,5,6] ?_ | refine qr 7 [0,4,5] ?_ | refine Zh (a := .seq (.region 6 _ _) _) [0,4] ?_ | refine qr 4 [2,3] ?_ | refine qr 3 [0,17] ?_ | refine qr 2 [2,3] ?_ | refine qr 1 [0,14] ?_); intro V_1 v_1)
 | ((first | refine qr 6 [0,4,20] ?_); intro V_2 v_2)
 | (refine ZM ?_; intro K hK)
 | (refine ZN ?_; intro all hall K hK)
 | (refine ZQ ?_ ?_)
 | (refine Zg ?_; simp only [↓reduceIte, Nat.reduceEqDiff])
 | refine ZS ?_ | refine ZT ?_ | refine ZU ?_ | refine ZV ?_ | refine ZW ?_ | refine ZX ?_ | refine ZY ?_ | refine ZZ ?_ | refine Za ?_ | refine Ze ?_ | refine Zf ?_)
  all_goals try clear v_2 V_2
  all_goals try clear v_1 V_1
  all_goals try clear v_0 V_0
  all_goals (try simp only [inR])
  all_goals (try omega)
  · exact ⟨Nat.zero_le _, .inl trivial⟩
  · refine Eo [] rfl ?_ ?_ <;> (try simp [Me, Sl, AvLe, lk, dv]) <;> rfl
  all_goals (try (obtain ⟨c, ec, c1, c2, c3, c4, c5⟩ := chunk (by assumption)
                  rw [ec]))
  all_goals (try have hA := drop_all ha k)
  · omega
  · omega
  · rw [Int.toNat_natCast]
    refine ⟨⟨(drop_all hA.1 c).2, fun h => ?_⟩, by rw [List.length_take]; omega⟩
    have := congrArg List.length h
    rw [List.length_take, List.length_drop, List.length_nil] at this
    omega
  · have hL := dv_len hA.2
    rw [List.length_take] at hL
    exact ⟨⟨Ml _, by omega⟩, lim_one (by omega)⟩
  · have hL := dv_len hA.2
    rw [List.length_take] at hL
    have hM := mul19_len (x := dv (l.take k)) (L := 12000) (by omega)
    have hD := dv_lt _ (drop_all hA.1 c).2
    have hE : 10 ^ (List.take c (List.drop k l)).length ≤ 10 ^ 19 := Nat.pow_le_pow_right (by decide) (by rw [List.length_take]; omega)
    rw [Int.toNat_natCast]
    exact ⟨⟨Ml _, by omega⟩, lim_one (by omega)⟩
  · omega
  · have hD := dv_lt _ (drop_all hA.1 c).2
    have hE : 10 ^ (List.take c (List.drop k l)).length ≤ 10 ^ 19 := Nat.pow_le_pow_right (by decide) (by rw [List.length_take]; omega)
    rw [Int.toNat_natCast, val1 _ (by omega), rd_step hk.1 hk.2 c3 c5]
    rw [List.take_of_length_le (by simp only [List.length_drop]; omega), List.drop_drop]
    refine ⟨k + c, ?_, ⟨by omega, .inr (by omega)⟩, by omega⟩
    refine Eo [] rfl ?_ ?_ <;> simp [Me, Sl, AvLe, lk, Ct.intsOf]
  · rw [List.take_of_length_le (by omega)]
theorem sound_96 : Sound Tryz.prog 96 .body (norm s96) := by
  refine sb Tryz.func96 rfl (by kernel_rfl) G96_ok (by kernel_rfl) fun ds p r hs hp => ?_
  unfold s96 at hs
  split at hs
  · cases hs; exact ⟨Nat.le_of_ble_eq_true (by kernel_rfl), wk96 _ hp⟩
  · cases hs
noncomputable def s131 : Cs := fun ds => match ds with
  | [.sl .u64 a] => some (lim a ∧ a.length ≤ 100000000, .one (.fresh .u64 (limbs (val a))))
  | _ => none
theorem s131_eq (a : List Int) : norm s131 [.sl .u64 a] = s131 [.sl .u64 a] := rfl
theorem s131_nil1  : norm s131 [.v (.slice none 0 0)] = s131 [.sl .u64 []] := rfl
noncomputable def G131 : Gam := [(192, .body, norm sClone), (193, .body, norm s193)]
theorem G131_ok : Gk Tryz.prog G131 := Gc clone_n (Gc sound_193 Gn)
theorem k131_192 : lk G131 192 = some (.body, norm sClone) := rfl
theorem k131_193 : lk G131 193 = some (.body, norm s193) := rfl
theorem wk131 (a : List Int) (hp : lim a ∧ a.length ≤ 100000000) : awp ty G131 (code Tryz.f131) (retP ty Tryz.f131.results.toList (.one (.fresh .u64 (limbs (val a))))) (entry 0 [.sl .u64 a]) [] := by
  unfold code
  simp only [Tryz.f131, Option.getD_some]
  have z := sz_le a
  all_goals repeat' (first
 | ((with_reducible first | (refine ZA ?_; intro X hX) | (show awp _ _ _ _ (Kp _ _) _) | refine ZD ?_ | refine ZE ?_ | refine ZF ?_ | ((show Bg _ _ _ _ _); simp only [hall]) | (refine ZR ?_ ?_ <;> intro hb <;> (try simp only [hb]) <;> have hq := hb <;> try simp only [HQ] at hq)) <;> try simp only [Go.AM.SS, Nat.reduceAdd, Nat.reduceMul, Nat.reduceSub, ↓reduceIte, Nat.reduceEqDiff, Nat.reduceLT, Nat.reduceLeDiff, reduceCtorEq, Int.reduceBEq, Int.reduceBNe, Nat.reduceBEq, Int.reduceEq, Int.reduceToNat, Int.reduceLE, Int.reduceLT, Nat.reduceDiv, Int.reduceAdd, Int.reduceSub, Int.reduceMul, Int.reduceNeg, Int.reduceGT, Int.reduceGE, Nat.reduceMod, k131_192, sClone_eq, sClone_nil, k131_193, s193.eq_1, s193_eq, s193_nil1, ty_22, ty_50, Ts hp.1])
 | with_reducible first
 | (refine hX _ _ ?_; clear hX X)
 | (refine ZG ?_; try clear hall all)
 | (refine hK _ _ ?_; clear hK K)
 | refine ZL ?_
 | (refine v_0 _ _ ?_; try clear v_0 V_0)
 | ((first | refine qr 1 [2] ?_ | refine qr 0 [0] ?_); intro V_0 v_0)
 | (refine ZM ?_; intro K hK)
 | (refine ZN ?_; intro all hall K hK)
 | (refine ZQ ?_ ?_)
 | refine ZT ?_ | refine ZU ?_ | refine ZW ?_)
  all_goals try clear v_0 V_0
  all_goals first
    | omega
    | (rw [← Ts hp.1, List.length_take]; omega)
theorem sound_131 : Sound Tryz.prog 131 .body (norm s131) := by
  refine sb Tryz.func131 rfl (by kernel_rfl) G131_ok (by kernel_rfl) fun ds p r hs hp => ?_
  unfold s131 at hs
  split at hs
  · cases hs; exact ⟨Nat.le_of_ble_eq_true (by kernel_rfl), wk131 _ hp⟩
  · cases hs
noncomputable def s97 : Cs := fun ds => match ds with
  | [.v (.int .u64 n)] => some (0 ≤ n ∧ n < 18446744073709551616, .one (.fresh .u64 (limbs n.toNat)))
  | _ => none
theorem s97_eq (n : Int) : norm s97 [.v (.int .u64 n)] = s97 [.v (.int .u64 n)] := rfl
noncomputable def G97 : Gam := [(131, .body, norm s131)]
theorem G97_ok : Gk Tryz.prog G97 := Gc sound_131 Gn
theorem k97_131 : lk G97 131 = some (.body, norm s131) := rfl
theorem wk97 (n : Int) (hp : 0 ≤ n ∧ n < 18446744073709551616) : awp ty G97 (code Tryz.f97) (retP ty Tryz.f97.results.toList (.one (.fresh .u64 (limbs n.toNat)))) (entry 0 [.v (.int .u64 n)]) [] := by
  unfold code
  simp only [Tryz.f97, Option.getD_some]
  all_goals repeat' (first
 | ((with_reducible first | (refine ZA ?_; intro X hX) | (show awp _ _ _ _ (Kp _ _) _) | refine ZD ?_ | refine ZE ?_ | refine ZF ?_ | ((show Bg _ _ _ _ _); simp only [hall]) | (refine ZR ?_ ?_ <;> intro hb <;> (try simp only [hb]) <;> have hq := hb <;> try simp only [HQ] at hq)) <;> try simp only [Go.AM.SS, Nat.reduceAdd, Nat.reduceMul, Nat.reduceSub, ↓reduceIte, Nat.reduceEqDiff, Nat.reduceLT, Nat.reduceLeDiff, reduceCtorEq, Int.reduceBEq, Int.reduceBNe, Nat.reduceBEq, Int.reduceEq, Int.reduceToNat, Int.reduceLE, Int.reduceLT, Nat.reduceDiv, Int.reduceAdd, Int.reduceSub, Int.reduceMul, Int.reduceNeg, Int.reduceGT, Int.reduceGE, Nat.reduceMod, k97_131, s131.eq_1, s131_eq, s131_nil1, ty_22, ty_50, sz_one, toInts])
 | with_reducible first
 | (refine hX _ _ ?_; clear hX X)
 | (refine ZG ?_; try clear hall all)
 | (refine hK _ _ ?_; clear hK K)
 | refine ZL ?_
 | (refine v_0 _ _ ?_; try clear v_0 V_0)
 | ((first | refine qr 1 [2] ?_ | refine qr 0 [0] ?_); intro V_0 v_0)
 | (refine ZM ?_; intro K hK)
 | (refine ZN ?_; intro all hall K hK)
 | (refine ZQ ?_ ?_)
 | refine ZT ?_ | refine ZU ?_ | refine ZW ?_)
  all_goals try clear v_0 V_0
  all_goals first
    | exact lim_one hp
    | exact ⟨lim_one hp, Nat.le_of_ble_eq_true rfl⟩
theorem sound_97 : Sound Tryz.prog 97 .body (norm s97) := by
  refine sb Tryz.func97 rfl (by kernel_rfl) G97_ok (by kernel_rfl) fun ds p r hs hp => ?_
  unfold s97 at hs
  split at hs
  · cases hs; exact ⟨Nat.le_of_ble_eq_true (by kernel_rfl), wk97 _ hp⟩
  · cases hs
end Go.Proofs.AMT
