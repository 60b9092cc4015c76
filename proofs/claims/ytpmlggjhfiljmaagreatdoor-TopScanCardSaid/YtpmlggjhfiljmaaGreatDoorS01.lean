/- Part 1 of what the law rests on. -/
import Derived.Shelf.Strings.Builder1
import Derived.Shelf.Strings.Builder2
import Derived.Shelf.Small.Utf8
import Derived.Shelf.Small.Bits
import Derived.Shelf.Small.Strs
import Derived.Shelf.Small.Wraps
import Derived.Shelf.Strings.BuilderF
import Derived.Shelf.Strings.BuilderK
import Derived.Shelf.Utf8.RuneCount
import Derived.Shelf.Strings.Builder2Cap
import Derived.Shelf.Strconv.Itoa0
import Derived.Shelf.Strconv.Itoa1
import Derived.Shelf.LaysM
import Derived.Shelf.Strconv.Itoa2
import Derived.Shelf.Strconv.Itoa3
import Derived.Shelf.Strings.Search1
import Derived.Shelf.Strings.Search2
import Derived.Shelf.Strings.Search3
import Derived.Shelf.Strings.Count
import Derived.Shelf.Strings.Shaped
import Derived.Shelf.Sort.Plain
import Derived.Shelf.Strings.Prefix
import Derived.Shelf.Strings.Split
import Derived.Shelf.Strings.SplitShaped
import Derived.Shelf.Unicode.Decode
import Derived.Shelf.Strings.Runes
import Derived.Shelf.Strings.RuneCount
import Derived.Shelf.Strings.IndexAny
import Derived.Shelf.Strings.AsciiSet
import Derived.Shelf.Strings.IndexAnyAll
import Derived.Shelf.Strings.Explode
import Derived.Shelf.Bits.Mul64
import Derived.Shelf.Strings.Repeat
import Derived.Shelf.Unicode.DecodeSlow
import Derived.Shelf.Unicode.DecodeAny
import Derived.Shelf.Strings.BuilderCap
import Derived.Shelf.Slices.Turned
import Derived.Ground.Names2Prog
import Derived.Shelf.Slices.Clone
import Derived.Shelf.Slices.CompactS
import Derived.Shelf.Slices.SearchI
import Derived.Shelf.Slices.Cells
import Derived.Shelf.Slices.In.SortNone
import Derived.Ground.SlgnProg
import Derived.Shelf.SlicesE.Clone
import Derived.Test.YtpmlggjhfiljmaaGreatDoorProg
import Derived.Laws.BytesArg
import Derived.Below
import Derived.Deep.Draws
import Derived.Lib.ConvBytes
import GoSem.Core.Utf8
set_option linter.all false
namespace Go.Proofs
open Go.Shelf
def Tryz.lays119_ren:Go.Shelf.Ren:=⟨fun | 119=>245 | n=>n,fun | 21=>21 | 4=>4 | n=>n,fun | n=>n⟩
theorem Tryz.lays119:Go.Proofs.Lays.n119 Tryz.prog Tryz.lays119_ren:={
  mixed:=by kernel_rfl
  f119:=Tryz.func245.trans (congrArg some (by kernel_rfl))
  t4:=Tryz.underlying4
  a4:=Tryz.isAgg4
  z4:=Tryz.sizeOf4
  v4:=Tryz.zeroValue4
  t21:=Tryz.underlying21
  a21:=Tryz.isAgg21
  z21:=Tryz.sizeOf21
  v21:=Tryz.zeroValue21 }
theorem Tryz.utf8_ValidRune (r:Int) (w:World) :
    Calls Tryz.prog 245 #[.int .i32 r] w fun e w'=>e=.returned (.bool (Lib.validRune r))∧w'=w:=Any.utf8_ValidRune Tryz.lays119 r w
def Tryz.lays137_ren:Go.Shelf.Ren:=⟨fun | 137=>163 | 217=>251 | 266=>321 | n=>n,fun | 9=>9 | 5=>5 | 3=>3 | n=>n,fun | n=>n⟩
theorem Tryz.lays137:Go.Proofs.Lays.n137 Tryz.prog Tryz.lays137_ren:={
  mixed:=by kernel_rfl
  f137:=Tryz.func163.trans (congrArg some (by kernel_rfl))
  f217:=Tryz.func251.trans (congrArg some (by kernel_rfl))
  f266:=Tryz.func321.trans (congrArg some (by kernel_rfl))
  t3:=Tryz.underlying3
  a3:=Tryz.isAgg3
  z3:=Tryz.sizeOf3
  v3:=Tryz.zeroValue3
  t5:=Tryz.underlying5
  a5:=Tryz.isAgg5
  z5:=Tryz.sizeOf5
  v5:=Tryz.zeroValue5
  t9:=Tryz.underlying9
  a9:=Tryz.isAgg9
  z9:=Tryz.sizeOf9
  v9:=Tryz.zeroValue9 }
open Go.RowKit in
theorem Tryz.strings_IndexByte (s:ByteArray) (c:Int) (w:World) :
    Calls Tryz.prog 163 #[.string s,.int .u8 c] w fun e w'=>e=.returned (.int .i64 (Lib.indexByte s.data.toList c.toNat.toUInt8))∧w'=w:=Any.strings_IndexByte Tryz.lays137 s c w
def Tryz.lays103_ren:Go.Shelf.Ren:=⟨fun | 103=>216 | 210=>298 | 206=>294 | n=>n,fun | 9=>9 | 4=>4 | 24=>59 | 3=>3 | n=>n,fun | n=>n⟩
theorem Tryz.lays103:Go.Proofs.Lays.n103 Tryz.prog Tryz.lays103_ren:={
  mixed:=by kernel_rfl
  f103:=Tryz.func216.trans (congrArg some (by kernel_rfl))
  f206:=Tryz.func294.trans (congrArg some (by kernel_rfl))
  f210:=Tryz.func298.trans (congrArg some (by kernel_rfl))
  t3:=Tryz.underlying3
  a3:=Tryz.isAgg3
  z3:=Tryz.sizeOf3
  v3:=Tryz.zeroValue3
  t4:=Tryz.underlying4
  a4:=Tryz.isAgg4
  z4:=Tryz.sizeOf4
  v4:=Tryz.zeroValue4
  t9:=Tryz.underlying9
  a9:=Tryz.isAgg9
  z9:=Tryz.sizeOf9
  v9:=Tryz.zeroValue9
  t24:=Tryz.underlying59
  a24:=Tryz.isAgg59
  z24:=Tryz.sizeOf59
  v24:=Tryz.zeroValue59 }
open Go.RowKit in
theorem Tryz.strings_CutPrefix (s p:ByteArray) (w:World) :
    Calls Tryz.prog 216 #[.string s,.string p] w fun e w'=>e=.returned (.tuple #[.string ⟨(Lib.trimPrefix s.data.toList p.data.toList).toArray⟩,.bool (Lib.hasPrefix s.data.toList p.data.toList)])∧w'=w:=Any.strings_CutPrefix Tryz.lays103 s p w
def Tryz.lays171_ren:Go.Shelf.Ren:=⟨fun | 171=>139 | 243=>215 | 246=>297 | 283=>288 | 284=>289 | 285=>290 | 286=>291 | 129=>207 | 317=>351 | 318=>352 | 319=>353 | 320=>354 | 337=>389 | 338=>390 | n=>n,fun | 3=>3 | 9=>9 | 2=>2 | 4=>4 | 171=>375 | 0=>0 | 53=>208 | 37=>131 | 5=>5 | 173=>377 | 212=>441 | 51=>168 | 20=>20 | 213=>442 | 46=>206 | 232=>470 | 233=>471 | n=>n,fun | 17=>1 | 18=>2 | 19=>3 | n=>n⟩
theorem Tryz.lays171:Go.Proofs.Lays.n171 Tryz.prog Tryz.lays171_ren:={
  mixed:=by kernel_rfl
  f129:=Tryz.func207.trans (congrArg some (by kernel_rfl))
  f171:=Tryz.func139.trans (congrArg some (by kernel_rfl))
  f243:=Tryz.func215.trans (congrArg some (by kernel_rfl))
  f246:=Tryz.func297.trans (congrArg some (by kernel_rfl))
  f283:=Tryz.func288.trans (congrArg some (by kernel_rfl))
  f284:=Tryz.func289.trans (congrArg some (by kernel_rfl))
  f285:=Tryz.func290.trans (congrArg some (by kernel_rfl))
  f286:=Tryz.func291.trans (congrArg some (by kernel_rfl))
  f317:=Tryz.func351.trans (congrArg some (by kernel_rfl))
  f318:=Tryz.func352.trans (congrArg some (by kernel_rfl))
  f319:=Tryz.func353.trans (congrArg some (by kernel_rfl))
  f320:=Tryz.func354.trans (congrArg some (by kernel_rfl))
  f337:=Tryz.func389.trans (congrArg some (by kernel_rfl))
  f338:=Tryz.func390.trans (congrArg some (by kernel_rfl))
  t0:=Tryz.underlying0
  a0:=Tryz.isAgg0
  z0:=Tryz.sizeOf0
  v0:=Tryz.zeroValue0
  t2:=Tryz.underlying2
  a2:=Tryz.isAgg2
  z2:=Tryz.sizeOf2
  v2:=Tryz.zeroValue2
  t3:=Tryz.underlying3
  a3:=Tryz.isAgg3
  z3:=Tryz.sizeOf3
  v3:=Tryz.zeroValue3
  t4:=Tryz.underlying4
  a4:=Tryz.isAgg4
  z4:=Tryz.sizeOf4
  v4:=Tryz.zeroValue4
  t5:=Tryz.underlying5
  a5:=Tryz.isAgg5
  z5:=Tryz.sizeOf5
  v5:=Tryz.zeroValue5
  t9:=Tryz.underlying9
  a9:=Tryz.isAgg9
  z9:=Tryz.sizeOf9
  v9:=Tryz.zeroValue9
  t20:=Tryz.underlying20
  a20:=Tryz.isAgg20
  z20:=Tryz.sizeOf20
  v20:=Tryz.zeroValue20
  t37:=Tryz.underlying131
  a37:=Tryz.isAgg131
  z37:=Tryz.sizeOf131
  v37:=Tryz.zeroValue131
  t46:=Tryz.underlying206
  a46:=Tryz.isAgg206
  z46:=Tryz.sizeOf206
  v46:=Tryz.zeroValue206
  t51:=Tryz.underlying168
  a51:=Tryz.isAgg168
  z51:=Tryz.sizeOf168
  v51:=Tryz.zeroValue168
  t53:=Tryz.underlying208
  a53:=Tryz.isAgg208
  z53:=Tryz.sizeOf208
  v53:=Tryz.zeroValue208
  t171:=Tryz.underlying375
  a171:=Tryz.isAgg375
  z171:=Tryz.sizeOf375
  v171:=Tryz.zeroValue375
  t173:=Tryz.underlying377
  a173:=Tryz.isAgg377
  z173:=Tryz.sizeOf377
  v173:=Tryz.zeroValue377
  t212:=Tryz.underlying441
  a212:=Tryz.isAgg441
  z212:=Tryz.sizeOf441
  v212:=Tryz.zeroValue441
  t213:=Tryz.underlying442
  a213:=Tryz.isAgg442
  z213:=Tryz.sizeOf442
  t232:=Tryz.underlying470
  a232:=Tryz.isAgg470
  z232:=Tryz.sizeOf470
  v232:=Tryz.zeroValue470
  t233:=Tryz.underlying471
  a233:=Tryz.isAgg471
  z233:=Tryz.sizeOf471
  v233:=Tryz.zeroValue471
  g17:=by kernel_rfl
  g18:=by kernel_rfl
  g19:=by kernel_rfl }
open Go.RowKit Go.Sort Go.Lib in
theorem Tryz.strconv_Itoa_small (i:Nat) (hi:i<100) (w:World) :
    Calls Tryz.prog 139 #[.int .i64 i] w fun e w'=>e=.returned (.string ⟨(Lib.decDigits i).toArray⟩)∧w'=w:=Any.strconv_Itoa_small Tryz.lays171 i hi w
def Tryz.lays143_ren:Go.Shelf.Ren:=⟨fun | 143=>359 | 219=>394 | 217=>251 | 225=>247 | 224=>246 | 267=>403 | 266=>321 | 314=>406 | n=>n,fun | 9=>9 | 3=>3 | 4=>4 | 5=>5 | 46=>206 | 146=>379 | 51=>168 | n=>n,fun | 1=>0 | n=>n⟩
theorem Tryz.lays143:Go.Proofs.Lays.n143 Tryz.prog Tryz.lays143_ren:={
  mixed:=by kernel_rfl
  f143:=Tryz.func359.trans (congrArg some (by kernel_rfl))
  f217:=Tryz.func251.trans (congrArg some (by kernel_rfl))
  f219:=Tryz.func394.trans (congrArg some (by kernel_rfl))
  f224:=Tryz.func246.trans (congrArg some (by kernel_rfl))
  f225:=Tryz.func247.trans (congrArg some (by kernel_rfl))
  f266:=Tryz.func321.trans (congrArg some (by kernel_rfl))
  f267:=Tryz.func403.trans (congrArg some (by kernel_rfl))
  f314:=Tryz.func406.trans (congrArg some (by kernel_rfl))
  t3:=Tryz.underlying3
  a3:=Tryz.isAgg3
  z3:=Tryz.sizeOf3
  v3:=Tryz.zeroValue3
  t4:=Tryz.underlying4
  a4:=Tryz.isAgg4
  z4:=Tryz.sizeOf4
  v4:=Tryz.zeroValue4
  t5:=Tryz.underlying5
  a5:=Tryz.isAgg5
  z5:=Tryz.sizeOf5
  v5:=Tryz.zeroValue5
  t9:=Tryz.underlying9
  a9:=Tryz.isAgg9
  z9:=Tryz.sizeOf9
  v9:=Tryz.zeroValue9
  t46:=Tryz.underlying206
  a46:=Tryz.isAgg206
  z46:=Tryz.sizeOf206
  v46:=Tryz.zeroValue206
  t51:=Tryz.underlying168
  a51:=Tryz.isAgg168
  z51:=Tryz.sizeOf168
  v51:=Tryz.zeroValue168
  t146:=Tryz.underlying379
  a146:=Tryz.isAgg379
  z146:=Tryz.sizeOf379
  v146:=Tryz.zeroValue379
  g1:=by kernel_rfl }
open Go.RowKit Go.Lib in
theorem Tryz.strings_Index_one (s:ByteArray) (c:UInt8) (w:World) :
    Calls Tryz.prog 359 #[.string s,.string ⟨#[c]⟩] w fun e w'=>e=.returned (.int .i64 (Lib.indexByte s.data.toList c))∧w'=w:=Any.strings_Index_one Tryz.lays143 s c w
def Tryz.lays138_ren:Go.Shelf.Ren:=⟨fun | 138=>358 | 195=>391 | 218=>393 | 143=>359 | 219=>394 | 217=>251 | 225=>247 | 224=>246 | 267=>403 | 266=>321 | 314=>406 | n=>n,fun | 9=>9 | 3=>3 | 4=>4 | 5=>5 | 0=>0 | 46=>206 | 146=>379 | 51=>168 | n=>n,fun | 1=>0 | n=>n⟩
theorem Tryz.lays138:Go.Proofs.Lays.n138 Tryz.prog Tryz.lays138_ren:={
  mixed:=by kernel_rfl
  f138:=Tryz.func358.trans (congrArg some (by kernel_rfl))
  f143:=Tryz.func359.trans (congrArg some (by kernel_rfl))
  f195:=Tryz.func391.trans (congrArg some (by kernel_rfl))
  f217:=Tryz.func251.trans (congrArg some (by kernel_rfl))
  f218:=Tryz.func393.trans (congrArg some (by kernel_rfl))
  f219:=Tryz.func394.trans (congrArg some (by kernel_rfl))
  f224:=Tryz.func246.trans (congrArg some (by kernel_rfl))
  f225:=Tryz.func247.trans (congrArg some (by kernel_rfl))
  f266:=Tryz.func321.trans (congrArg some (by kernel_rfl))
  f267:=Tryz.func403.trans (congrArg some (by kernel_rfl))
  f314:=Tryz.func406.trans (congrArg some (by kernel_rfl))
  t0:=Tryz.underlying0
  a0:=Tryz.isAgg0
  z0:=Tryz.sizeOf0
  v0:=Tryz.zeroValue0
  t3:=Tryz.underlying3
  a3:=Tryz.isAgg3
  z3:=Tryz.sizeOf3
  v3:=Tryz.zeroValue3
  t4:=Tryz.underlying4
  a4:=Tryz.isAgg4
  z4:=Tryz.sizeOf4
  v4:=Tryz.zeroValue4
  t5:=Tryz.underlying5
  a5:=Tryz.isAgg5
  z5:=Tryz.sizeOf5
  v5:=Tryz.zeroValue5
  t9:=Tryz.underlying9
  a9:=Tryz.isAgg9
  z9:=Tryz.sizeOf9
  v9:=Tryz.zeroValue9
  t46:=Tryz.underlying206
  a46:=Tryz.isAgg206
  z46:=Tryz.sizeOf206
  v46:=Tryz.zeroValue206
  t51:=Tryz.underlying168
  a51:=Tryz.isAgg168
  z51:=Tryz.sizeOf168
  v51:=Tryz.zeroValue168
  t146:=Tryz.underlying379
  a146:=Tryz.isAgg379
  z146:=Tryz.sizeOf379
  v146:=Tryz.zeroValue379
  g1:=by kernel_rfl }
open Go.RowKit Go.Lib in
theorem Tryz.strings_Count_one (s:ByteArray) (c:UInt8) (w:World) :
    Calls Tryz.prog 358 #[.string s,.string ⟨#[c]⟩] w fun e w'=>e=.returned (.int .i64 (Lib.countByte s.data.toList c))∧w'=w:=Any.strings_Count_one Tryz.lays138 s c w
def Tryz.lays189_ren:Go.Shelf.Ren:=⟨fun | 189=>268 | 125=>136 | 257=>338 | 128=>206 | 129=>207 | 294=>374 | 295=>375 | 296=>376 | 297=>377 | 298=>378 | 299=>379 | 216=>380 | 300=>381 | 301=>382 | 328=>397 | 329=>283 | 330=>284 | 331=>398 | 332=>399 | 215=>400 | 343=>405 | n=>n,fun | 28=>195 | 3=>3 | 46=>206 | 0=>0 | 51=>168 | 53=>208 | 4=>4 | 183=>273 | 182=>272 | 131=>277 | 5=>5 | 9=>9 | 218=>369 | 222=>373 | 228=>438 | 229=>316 | n=>n,fun | n=>n⟩
theorem Tryz.lays189:Go.Proofs.Lays.n189 Tryz.prog Tryz.lays189_ren:={
  mixed:=by kernel_rfl
  f125:=Tryz.func136.trans (congrArg some (by kernel_rfl))
  f128:=Tryz.func206.trans (congrArg some (by kernel_rfl))
  f129:=Tryz.func207.trans (congrArg some (by kernel_rfl))
  f189:=Tryz.func268.trans (congrArg some (by kernel_rfl))
  f215:=Tryz.func400.trans (congrArg some (by kernel_rfl))
  f216:=Tryz.func380.trans (congrArg some (by kernel_rfl))
  f257:=Tryz.func338.trans (congrArg some (by kernel_rfl))
  f294:=Tryz.func374.trans (congrArg some (by kernel_rfl))
  f295:=Tryz.func375.trans (congrArg some (by kernel_rfl))
  f296:=Tryz.func376.trans (congrArg some (by kernel_rfl))
  f297:=Tryz.func377.trans (congrArg some (by kernel_rfl))
  f298:=Tryz.func378.trans (congrArg some (by kernel_rfl))
  f299:=Tryz.func379.trans (congrArg some (by kernel_rfl))
  f300:=Tryz.func381.trans (congrArg some (by kernel_rfl))
  f301:=Tryz.func382.trans (congrArg some (by kernel_rfl))
  f328:=Tryz.func397.trans (congrArg some (by kernel_rfl))
  f329:=Tryz.func283.trans (congrArg some (by kernel_rfl))
  f330:=Tryz.func284.trans (congrArg some (by kernel_rfl))
  f331:=Tryz.func398.trans (congrArg some (by kernel_rfl))
  f332:=Tryz.func399.trans (congrArg some (by kernel_rfl))
  f343:=Tryz.func405.trans (congrArg some (by kernel_rfl))
  t0:=Tryz.underlying0
  a0:=Tryz.isAgg0
  z0:=Tryz.sizeOf0
  v0:=Tryz.zeroValue0
  t3:=Tryz.underlying3
  a3:=Tryz.isAgg3
  z3:=Tryz.sizeOf3
  v3:=Tryz.zeroValue3
  t4:=Tryz.underlying4
  a4:=Tryz.isAgg4
  z4:=Tryz.sizeOf4
  v4:=Tryz.zeroValue4
  t5:=Tryz.underlying5
  a5:=Tryz.isAgg5
  z5:=Tryz.sizeOf5
  v5:=Tryz.zeroValue5
  t9:=Tryz.underlying9
  a9:=Tryz.isAgg9
  z9:=Tryz.sizeOf9
  v9:=Tryz.zeroValue9
  t28:=Tryz.underlying195
  a28:=Tryz.isAgg195
  z28:=Tryz.sizeOf195
  v28:=Tryz.zeroValue195
  t46:=Tryz.underlying206
  a46:=Tryz.isAgg206
  z46:=Tryz.sizeOf206
  v46:=Tryz.zeroValue206
  t51:=Tryz.underlying168
  a51:=Tryz.isAgg168
  z51:=Tryz.sizeOf168
  v51:=Tryz.zeroValue168
  t53:=Tryz.underlying208
  a53:=Tryz.isAgg208
  z53:=Tryz.sizeOf208
  v53:=Tryz.zeroValue208
  t131:=Tryz.underlying277
  a131:=Tryz.isAgg277
  z131:=Tryz.sizeOf277
  v131:=Tryz.zeroValue277
  t182:=Tryz.underlying272
  a182:=Tryz.isAgg272
  z182:=Tryz.sizeOf272
  v182:=Tryz.zeroValue272
  t183:=Tryz.underlying273
  a183:=Tryz.isAgg273
  z183:=Tryz.sizeOf273
  v183:=Tryz.zeroValue273
  t218:=Tryz.underlying369
  a218:=Tryz.isAgg369
  z218:=Tryz.sizeOf369
  v218:=Tryz.zeroValue369
  t222:=Tryz.underlying373
  a222:=Tryz.isAgg373
  z222:=Tryz.sizeOf373
  v222:=Tryz.zeroValue373
  t228:=Tryz.underlying438
  a228:=Tryz.isAgg438
  z228:=Tryz.sizeOf438
  v228:=Tryz.zeroValue438
  t229:=Tryz.underlying316
  a229:=Tryz.isAgg316
  z229:=Tryz.sizeOf316
  v229:=Tryz.zeroValue316 }
open Go.Sort Go.RowKit in
theorem Tryz.slices_Sort_int (blk off cap:Nat) (zs:List Int) (w:World) (hH:Holds (Value.int .i64) w blk off zs.toArray) (hblk:blk<w.heap.size) (hsz:zs.length<4611686018427387904) :
    Calls Tryz.prog 268 #[.slice (some ⟨blk,off,none⟩) zs.length cap] w fun e w' =>
      e=.returned (.tuple #[])∧∃ n os,w'=grow (putRow (Value.int .i64) (Sort.ahead w n) blk off (zs.mergeSort fun x y=>decide (x≤y)).toArray) os:=Any.slices_Sort_int Tryz.lays189 blk off cap zs w hH hblk hsz
def Tryz.lays190_ren:Go.Shelf.Ren:=⟨fun | 190=>83 | 125=>136 | 258=>135 | 128=>206 | 129=>207 | 302=>197 | 303=>198 | 304=>199 | 305=>200 | 306=>201 | 307=>202 | 308=>203 | 309=>204 | 310=>205 | 333=>282 | 329=>283 | 330=>284 | 334=>285 | 335=>286 | 336=>287 | 344=>350 | n=>n,fun | 31=>38 | 9=>9 | 3=>3 | 46=>206 | 0=>0 | 51=>168 | 53=>208 | 4=>4 | 183=>273 | 182=>272 | 131=>277 | 5=>5 | 218=>369 | 222=>373 | 228=>438 | 229=>316 | n=>n,fun | n=>n⟩
theorem Tryz.lays190:Go.Proofs.Lays.n190 Tryz.prog Tryz.lays190_ren:={
  mixed:=by kernel_rfl
  f125:=Tryz.func136.trans (congrArg some (by kernel_rfl))
  f128:=Tryz.func206.trans (congrArg some (by kernel_rfl))
  f129:=Tryz.func207.trans (congrArg some (by kernel_rfl))
  f190:=Tryz.func83.trans (congrArg some (by kernel_rfl))
  f258:=Tryz.func135.trans (congrArg some (by kernel_rfl))
  f302:=Tryz.func197.trans (congrArg some (by kernel_rfl))
  f303:=Tryz.func198.trans (congrArg some (by kernel_rfl))
  f304:=Tryz.func199.trans (congrArg some (by kernel_rfl))
  f305:=Tryz.func200.trans (congrArg some (by kernel_rfl))
  f306:=Tryz.func201.trans (congrArg some (by kernel_rfl))
  f307:=Tryz.func202.trans (congrArg some (by kernel_rfl))
  f308:=Tryz.func203.trans (congrArg some (by kernel_rfl))
  f309:=Tryz.func204.trans (congrArg some (by kernel_rfl))
  f310:=Tryz.func205.trans (congrArg some (by kernel_rfl))
  f329:=Tryz.func283.trans (congrArg some (by kernel_rfl))
  f330:=Tryz.func284.trans (congrArg some (by kernel_rfl))
  f333:=Tryz.func282.trans (congrArg some (by kernel_rfl))
  f334:=Tryz.func285.trans (congrArg some (by kernel_rfl))
  f335:=Tryz.func286.trans (congrArg some (by kernel_rfl))
  f336:=Tryz.func287.trans (congrArg some (by kernel_rfl))
  f344:=Tryz.func350.trans (congrArg some (by kernel_rfl))
  t0:=Tryz.underlying0
  a0:=Tryz.isAgg0
  z0:=Tryz.sizeOf0
  v0:=Tryz.zeroValue0
  t3:=Tryz.underlying3
  a3:=Tryz.isAgg3
  z3:=Tryz.sizeOf3
  v3:=Tryz.zeroValue3
  t4:=Tryz.underlying4
  a4:=Tryz.isAgg4
  z4:=Tryz.sizeOf4
  v4:=Tryz.zeroValue4
  t5:=Tryz.underlying5
  a5:=Tryz.isAgg5
  z5:=Tryz.sizeOf5
  v5:=Tryz.zeroValue5
  t9:=Tryz.underlying9
  a9:=Tryz.isAgg9
  z9:=Tryz.sizeOf9
  v9:=Tryz.zeroValue9
  t31:=Tryz.underlying38
  a31:=Tryz.isAgg38
  z31:=Tryz.sizeOf38
  v31:=Tryz.zeroValue38
  t46:=Tryz.underlying206
  a46:=Tryz.isAgg206
  z46:=Tryz.sizeOf206
  v46:=Tryz.zeroValue206
  t51:=Tryz.underlying168
  a51:=Tryz.isAgg168
  z51:=Tryz.sizeOf168
  v51:=Tryz.zeroValue168
  t53:=Tryz.underlying208
  a53:=Tryz.isAgg208
  z53:=Tryz.sizeOf208
  v53:=Tryz.zeroValue208
  t131:=Tryz.underlying277
  a131:=Tryz.isAgg277
  z131:=Tryz.sizeOf277
  v131:=Tryz.zeroValue277
  t182:=Tryz.underlying272
  a182:=Tryz.isAgg272
  z182:=Tryz.sizeOf272
  v182:=Tryz.zeroValue272
  t183:=Tryz.underlying273
  a183:=Tryz.isAgg273
  z183:=Tryz.sizeOf273
  v183:=Tryz.zeroValue273
  t218:=Tryz.underlying369
  a218:=Tryz.isAgg369
  z218:=Tryz.sizeOf369
  v218:=Tryz.zeroValue369
  t222:=Tryz.underlying373
  a222:=Tryz.isAgg373
  z222:=Tryz.sizeOf373
  v222:=Tryz.zeroValue373
  t228:=Tryz.underlying438
  a228:=Tryz.isAgg438
  z228:=Tryz.sizeOf438
  v228:=Tryz.zeroValue438
  t229:=Tryz.underlying316
  a229:=Tryz.isAgg316
  z229:=Tryz.sizeOf316
  v229:=Tryz.zeroValue316 }
def Tryz.lays152_ren:Go.Shelf.Ren:=⟨fun | 152=>156 | 137=>163 | 119=>245 | 224=>246 | 225=>247 | 217=>251 | 266=>321 | n=>n,fun | 9=>9 | 21=>21 | 3=>3 | 4=>4 | 5=>5 | 0=>0 | 46=>206 | n=>n,fun | n=>n⟩
theorem Tryz.lays152:Go.Proofs.Lays.n152 Tryz.prog Tryz.lays152_ren:={
  mixed:=by kernel_rfl
  f119:=Tryz.func245.trans (congrArg some (by kernel_rfl))
  f137:=Tryz.func163.trans (congrArg some (by kernel_rfl))
  f152:=Tryz.func156.trans (congrArg some (by kernel_rfl))
  f217:=Tryz.func251.trans (congrArg some (by kernel_rfl))
  f224:=Tryz.func246.trans (congrArg some (by kernel_rfl))
  f225:=Tryz.func247.trans (congrArg some (by kernel_rfl))
  f266:=Tryz.func321.trans (congrArg some (by kernel_rfl))
  t0:=Tryz.underlying0
  a0:=Tryz.isAgg0
  z0:=Tryz.sizeOf0
  v0:=Tryz.zeroValue0
  t3:=Tryz.underlying3
  a3:=Tryz.isAgg3
  z3:=Tryz.sizeOf3
  v3:=Tryz.zeroValue3
  t4:=Tryz.underlying4
  a4:=Tryz.isAgg4
  z4:=Tryz.sizeOf4
  v4:=Tryz.zeroValue4
  t5:=Tryz.underlying5
  a5:=Tryz.isAgg5
  z5:=Tryz.sizeOf5
  v5:=Tryz.zeroValue5
  t9:=Tryz.underlying9
  a9:=Tryz.isAgg9
  z9:=Tryz.sizeOf9
  v9:=Tryz.zeroValue9
  t21:=Tryz.underlying21
  a21:=Tryz.isAgg21
  z21:=Tryz.sizeOf21
  v21:=Tryz.zeroValue21
  t46:=Tryz.underlying206
  a46:=Tryz.isAgg206
  z46:=Tryz.sizeOf206
  v46:=Tryz.zeroValue206 }
open Go.RowKit Go.Lib in
theorem Tryz.strings_IndexRune_ascii (s:ByteArray) (r:Int) (w:World) (h0:0≤r) (h1:r<128) :
    Calls Tryz.prog 156 #[.string s,.int .i32 r] w fun e w'=>e=.returned (.int .i64 (Lib.indexByte s.data.toList r.toNat.toUInt8))∧w'=w:=Any.strings_IndexRune_ascii Tryz.lays152 s r w h0 h1
def Tryz.lays153_ren:Go.Shelf.Ren:=⟨fun | 153=>107 | 152=>156 | 226=>157 | 227=>158 | 228=>159 | 137=>163 | 119=>245 | 224=>246 | 225=>247 | 217=>251 | 266=>321 | n=>n,fun | 9=>9 | 3=>3 | 4=>4 | 5=>5 | 21=>21 | 117=>232 | 116=>231 | 0=>0 | 46=>206 | 124=>319 | n=>n,fun | n=>n⟩
theorem Tryz.lays153:Go.Proofs.Lays.n153 Tryz.prog Tryz.lays153_ren:={
  mixed:=by kernel_rfl
  f119:=Tryz.func245.trans (congrArg some (by kernel_rfl))
  f137:=Tryz.func163.trans (congrArg some (by kernel_rfl))
  f152:=Tryz.func156.trans (congrArg some (by kernel_rfl))
  f153:=Tryz.func107.trans (congrArg some (by kernel_rfl))
  f217:=Tryz.func251.trans (congrArg some (by kernel_rfl))
  f224:=Tryz.func246.trans (congrArg some (by kernel_rfl))
  f225:=Tryz.func247.trans (congrArg some (by kernel_rfl))
  f226:=Tryz.func157.trans (congrArg some (by kernel_rfl))
  f227:=Tryz.func158.trans (congrArg some (by kernel_rfl))
  f228:=Tryz.func159.trans (congrArg some (by kernel_rfl))
  f266:=Tryz.func321.trans (congrArg some (by kernel_rfl))
  t0:=Tryz.underlying0
  a0:=Tryz.isAgg0
  z0:=Tryz.sizeOf0
  v0:=Tryz.zeroValue0
  t3:=Tryz.underlying3
  a3:=Tryz.isAgg3
  z3:=Tryz.sizeOf3
  v3:=Tryz.zeroValue3
  t4:=Tryz.underlying4
  a4:=Tryz.isAgg4
  z4:=Tryz.sizeOf4
  v4:=Tryz.zeroValue4
  t5:=Tryz.underlying5
  a5:=Tryz.isAgg5
  z5:=Tryz.sizeOf5
  v5:=Tryz.zeroValue5
  t9:=Tryz.underlying9
  a9:=Tryz.isAgg9
  z9:=Tryz.sizeOf9
  v9:=Tryz.zeroValue9
  t21:=Tryz.underlying21
  a21:=Tryz.isAgg21
  z21:=Tryz.sizeOf21
  v21:=Tryz.zeroValue21
  t46:=Tryz.underlying206
  a46:=Tryz.isAgg206
  z46:=Tryz.sizeOf206
  v46:=Tryz.zeroValue206
  t116:=Tryz.underlying231
  a116:=Tryz.isAgg231
  z116:=Tryz.sizeOf231
  t117:=Tryz.underlying232
  a117:=Tryz.isAgg232
  z117:=Tryz.sizeOf232
  v117:=Tryz.zeroValue232
  t124:=Tryz.underlying319
  a124:=Tryz.isAgg319
  z124:=Tryz.sizeOf319
  v124:=Tryz.zeroValue319 }
open Go.RowKit Go.Lib in
theorem Tryz.strings_IndexAny_long (hv116:∀ w,(zeroValue 231).run Tryz.prog w=.ok (.agg (Array.replicate 256 (.bool false))) w) (s chars:ByteArray) (w:World) (h2:2≤chars.size) (h8:8<s.size) (hs:s.size<4294967281) (hcs:chars.size<4294967281) (hascii:∀ (j:Nat) b,chars.data.toList[j]?=some b→b.toNat<128) :
    Calls Tryz.prog 107 #[.string s,.string chars] w fun e w'=>e=.returned (.int .i64 (Lib.indexAny s.data.toList chars.data.toList))∧w'=((w.alloc (.cells (Lib.setCells chars.data.toList) 231)).alloc (.cells (Lib.setCells chars.data.toList) 231)):=Any.strings_IndexAny_long Tryz.lays153 hv116 (by kernel_rfl) s chars w h2 h8 hs hcs hascii
def Tryz.lays105_ren:Go.Shelf.Ren:=⟨fun | 105=>138 | 212=>209 | 99=>210 | 165=>211 | 166=>212 | 170=>213 | 169=>214 | 263=>292 | 264=>293 | 206=>294 | 240=>295 | 241=>296 | 276=>355 | 277=>356 | n=>n,fun | 9=>9 | 3=>3 | 4=>4 | 20=>20 | 0=>0 | 46=>206 | 109=>281 | 5=>5 | 72=>285 | 76=>289 | 51=>168 | 146=>379 | 53=>208 | 148=>381 | 70=>283 | 37=>131 | 75=>288 | 127=>383 | 164=>443 | 80=>251 | n=>n,fun | n=>n⟩
theorem Tryz.lays105:Go.Proofs.Lays.n105 Tryz.prog Tryz.lays105_ren:={
  mixed:=by kernel_rfl
  f99:=Tryz.func210.trans (congrArg some (by kernel_rfl))
  f105:=Tryz.func138.trans (congrArg some (by kernel_rfl))
  f165:=Tryz.func211.trans (congrArg some (by kernel_rfl))
  f166:=Tryz.func212.trans (congrArg some (by kernel_rfl))
  f169:=Tryz.func214.trans (congrArg some (by kernel_rfl))
  f170:=Tryz.func213.trans (congrArg some (by kernel_rfl))
  f206:=Tryz.func294.trans (congrArg some (by kernel_rfl))
  f212:=Tryz.func209.trans (congrArg some (by kernel_rfl))
  f240:=Tryz.func295.trans (congrArg some (by kernel_rfl))
  f241:=Tryz.func296.trans (congrArg some (by kernel_rfl))
  f263:=Tryz.func292.trans (congrArg some (by kernel_rfl))
  f264:=Tryz.func293.trans (congrArg some (by kernel_rfl))
  f276:=Tryz.func355.trans (congrArg some (by kernel_rfl))
  f277:=Tryz.func356.trans (congrArg some (by kernel_rfl))
  t0:=Tryz.underlying0
  a0:=Tryz.isAgg0
  z0:=Tryz.sizeOf0
  v0:=Tryz.zeroValue0
  t3:=Tryz.underlying3
  a3:=Tryz.isAgg3
  z3:=Tryz.sizeOf3
  v3:=Tryz.zeroValue3
  t4:=Tryz.underlying4
  a4:=Tryz.isAgg4
  z4:=Tryz.sizeOf4
  v4:=Tryz.zeroValue4
  t5:=Tryz.underlying5
  a5:=Tryz.isAgg5
  z5:=Tryz.sizeOf5
  v5:=Tryz.zeroValue5
  t9:=Tryz.underlying9
  a9:=Tryz.isAgg9
  z9:=Tryz.sizeOf9
  v9:=Tryz.zeroValue9
  t20:=Tryz.underlying20
  a20:=Tryz.isAgg20
  z20:=Tryz.sizeOf20
  v20:=Tryz.zeroValue20
  t37:=Tryz.underlying131
  a37:=Tryz.isAgg131
  z37:=Tryz.sizeOf131
  v37:=Tryz.zeroValue131
  t46:=Tryz.underlying206
  a46:=Tryz.isAgg206
  z46:=Tryz.sizeOf206
  v46:=Tryz.zeroValue206
  t51:=Tryz.underlying168
  a51:=Tryz.isAgg168
  z51:=Tryz.sizeOf168
  v51:=Tryz.zeroValue168
  t53:=Tryz.underlying208
  a53:=Tryz.isAgg208
  z53:=Tryz.sizeOf208
  v53:=Tryz.zeroValue208
  t70:=Tryz.underlying283
  a70:=Tryz.isAgg283
  z70:=Tryz.sizeOf283
  v70:=Tryz.zeroValue283
  t72:=Tryz.underlying285
  a72:=Tryz.isAgg285
  z72:=Tryz.sizeOf285
  v72:=Tryz.zeroValue285
  t75:=Tryz.underlying288
  a75:=Tryz.isAgg288
  z75:=Tryz.sizeOf288
  v75:=Tryz.zeroValue288
  t76:=Tryz.underlying289
  a76:=Tryz.isAgg289
  z76:=Tryz.sizeOf289
  v76:=Tryz.zeroValue289
  t109:=Tryz.underlying281
  a109:=Tryz.isAgg281
  z109:=Tryz.sizeOf281
  v109:=Tryz.zeroValue281
  t127:=Tryz.underlying383
  a127:=Tryz.isAgg383
  z127:=Tryz.sizeOf383
  v127:=Tryz.zeroValue383
  t146:=Tryz.underlying379
  a146:=Tryz.isAgg379
  z146:=Tryz.sizeOf379
  v146:=Tryz.zeroValue379
  t148:=Tryz.underlying381
  a148:=Tryz.isAgg381
  z148:=Tryz.sizeOf381
  v148:=Tryz.zeroValue381
  t164:=Tryz.underlying443
  a164:=Tryz.isAgg443
  z164:=Tryz.sizeOf443
  v164:=Tryz.zeroValue443 }
theorem Tryz.Builder_Extra_105:Builder.Extra Tryz.prog Tryz.lays105_ren:={
  sizeBuilder:=by kernel_rfl
  liesBuilder:=by kernel_rfl
  t5:=Tryz.underlying5
  a5:=Tryz.isAgg5
  z5:=Tryz.sizeOf5
  v5:=Tryz.zeroValue5
  infoByte:=by kernel_rfl
  cellsByte:=by kernel_rfl
  sizeByte:=by kernel_rfl
  neB5:=by decide }
open Go.RowKit Go.Lib in
theorem Tryz.strings_Repeat (s:ByteArray) (c:Nat) (w:World) (hc:c≤9223372036854775807) (hlen:s.size * c≤140737488355328) :
    Calls Tryz.prog 138 #[.string s,.int .i64 c] w fun e w'=>e=.returned (.string ⟨(Lib.repeatL s.data.toList c).toArray⟩)∧Below w.heap.size w w':=Any.strings_Repeat Tryz.lays105 Tryz.Builder_Extra_105 s c w hc hlen
def Tryz.lays110_ren:Go.Shelf.Ren:=⟨fun | 110=>218 | 109=>300 | n=>n,fun | 31=>38 | 9=>9 | 4=>4 | 3=>3 | 0=>0 | n=>n,fun | n=>n⟩
theorem Tryz.lays110:Go.Proofs.Lays.n110 Tryz.prog Tryz.lays110_ren:={
  mixed:=by kernel_rfl
  f109:=Tryz.func300.trans (congrArg some (by kernel_rfl))
  f110:=Tryz.func218.trans (congrArg some (by kernel_rfl))
  t0:=Tryz.underlying0
  a0:=Tryz.isAgg0
  z0:=Tryz.sizeOf0
  v0:=Tryz.zeroValue0
  t3:=Tryz.underlying3
  a3:=Tryz.isAgg3
  z3:=Tryz.sizeOf3
  v3:=Tryz.zeroValue3
  t4:=Tryz.underlying4
  a4:=Tryz.isAgg4
  z4:=Tryz.sizeOf4
  v4:=Tryz.zeroValue4
  t9:=Tryz.underlying9
  a9:=Tryz.isAgg9
  z9:=Tryz.sizeOf9
  v9:=Tryz.zeroValue9
  t31:=Tryz.underlying38
  a31:=Tryz.isAgg38
  z31:=Tryz.sizeOf38
  v31:=Tryz.zeroValue38 }
open Go.Lib in
theorem Tryz.slices_Contains_string (b off n c:Nat) (zs:List ByteArray) (x:ByteArray) (w:World) (hz:n≤zs.length) (hbig:n≤9223372036854775807) (hc:∀ j,j<zs.length→w.cell? ⟨b,off+j,none⟩=some (.string (zs.getD j ByteArray.empty))) :
    Calls Tryz.prog 218 #[.slice (some ⟨b,off,none⟩) n c,.string x] w fun e w'=>e=.returned (.bool (Lib.containsS (zs.take n) x))∧w'=w:=Any.slices_Contains_string Tryz.lays110 b off n c zs x w hz hbig hc
open Go.Lib in
theorem Tryz.slices_Contains_string_empty (a:Option Addr) (c:Nat) (x:ByteArray) (w:World) :
    Calls Tryz.prog 218 #[.slice a 0 c,.string x] w fun e w'=>e=.returned (.bool false)∧w'=w:=Any.slices_Contains_string_empty Tryz.lays110 a c x w
def Tryz.laysNm216_ren:Go.Shelf.Ren:=⟨fun | 16=>266 | n=>n,fun | 24=>38 | 9=>9 | 4=>4 | n=>n,fun | n=>n⟩
theorem Tryz.laysNm216:Go.Proofs.Lays2.n16 Tryz.prog Tryz.laysNm216_ren:={
  mixed:=by kernel_rfl
  f16:=Tryz.func266.trans (congrArg some (by kernel_rfl))
  t4:=Tryz.underlying4
  a4:=Tryz.isAgg4
  z4:=Tryz.sizeOf4
  v4:=Tryz.zeroValue4
  t9:=Tryz.underlying9
  a9:=Tryz.isAgg9
  z9:=Tryz.sizeOf9
  v9:=Tryz.zeroValue9
  t24:=Tryz.underlying38
  a24:=Tryz.isAgg38
  z24:=Tryz.sizeOf38
  v24:=Tryz.zeroValue38
  i9:=by kernel_rfl }
open Go.RowKit Go.Lib in
theorem Tryz.slices_Clone_string_nil (n c:Nat) (w:World) :
    Calls Tryz.prog 266 #[.slice none n c] w fun e w'=>e=.returned (.slice none 0 0)∧w'=w:=Any.slices_Clone_string_nil Tryz.laysNm216 n c w
open Go.RowKit Go.Lib in
theorem Tryz.slices_Clone_string_zero (a:Addr) (c:Nat) (w:World) :
    Calls Tryz.prog 266 #[.slice (some a) 0 c] w fun e w'=>∃ v',e=.returned v'∧w'.ownsRow w.heap.size 9 1 v' 0 []∧v' ≠ .slice none 0 0∧Below w.heap.size w w':=Any.slices_Clone_string_zero Tryz.laysNm216 a c w
def Tryz.lays194_ren:Go.Shelf.Ren:=⟨fun | 194=>84 | n=>n,fun | 31=>38 | 9=>9 | 3=>3 | 4=>4 | 0=>0 | n=>n,fun | n=>n⟩
theorem Tryz.lays194:Go.Proofs.Lays.n194 Tryz.prog Tryz.lays194_ren:={
  mixed:=by kernel_rfl
  f194:=Tryz.func84.trans (congrArg some (by kernel_rfl))
  t0:=Tryz.underlying0
  a0:=Tryz.isAgg0
  z0:=Tryz.sizeOf0
  v0:=Tryz.zeroValue0
  t3:=Tryz.underlying3
  a3:=Tryz.isAgg3
  z3:=Tryz.sizeOf3
  v3:=Tryz.zeroValue3
  t4:=Tryz.underlying4
  a4:=Tryz.isAgg4
  z4:=Tryz.sizeOf4
  v4:=Tryz.zeroValue4
  t9:=Tryz.underlying9
  a9:=Tryz.isAgg9
  z9:=Tryz.sizeOf9
  v9:=Tryz.zeroValue9
  t31:=Tryz.underlying38
  a31:=Tryz.isAgg38
  z31:=Tryz.sizeOf38
  v31:=Tryz.zeroValue38 }
open Go.RowKit Go.Lib Go.Sort in
theorem Tryz.slices_Compact_string_empty (a:Option Addr) (cap:Nat) (w:World) :
    Calls Tryz.prog 84 #[.slice a 0 cap] w fun e w'=>e=.returned (.slice a 0 cap)∧w'=w:=Any.slices_Compact_string_empty Tryz.lays194 a cap w
open Go.RowKit Go.Sort in
theorem Tryz.slices_Sort_string_none (p:Option Addr) (cap:Nat) (w:World) :
    Calls Tryz.prog 83 #[.slice p 0 cap] w fun e w'=>e=.returned (.tuple #[])∧w'=w:=Any.slices_Sort_string_none Tryz.lays190 p cap w
open Go.RowKit Go.Sort in
theorem Tryz.slices_Sort_int_none (p:Option Addr) (cap:Nat) (w:World) :
    Calls Tryz.prog 268 #[.slice p 0 cap] w fun e w'=>e=.returned (.tuple #[])∧w'=w:=Any.slices_Sort_int_none Tryz.lays189 p cap w
def Tryz.laysSlE041_f280_ren:Go.Shelf.Ren:=⟨fun | 41=>280 | n=>n,fun | 22=>358 | 23=>3 | 4=>4 | n=>n,fun | n=>n⟩
theorem Tryz.laysSlE041_f280:Go.Proofs.SlLaysE0.n41 Tryz.prog Tryz.laysSlE041_f280_ren:={
  mixed:=by kernel_rfl
  f41:=⟨Tryz.f280.name,by decide,Tryz.func280.trans (congrArg some (by kernel_rfl))⟩
  t4:=Tryz.underlying4
  a4:=Tryz.isAgg4
  z4:=Tryz.sizeOf4
  v4:=Tryz.zeroValue4
  t22:=Tryz.underlying358
  a22:=Tryz.isAgg358
  z22:=Tryz.sizeOf358
  v22:=Tryz.zeroValue358 }
open Go.RowKit Go.Lib in
theorem Tryz.slices_Clone_f280 (i0:TypeInfo) (z:Value) (size bytes:Nat) (hi:Tryz.prog.info? 3=some i0) (hz0:i0.zero=some z) (hz1:i0.size=size) (hz2:i0.bytes=bytes) (hzs:z.cells.size=size) (hsz:0<size) (z23:∀ w,(Go.sizeOf 3).run Tryz.prog w=.ok size w) (b off n c:Nat) (news:List Value) (w:World) (hl:news.length=n * size) (hn:n≤maxLen) (hbig:n * bytes≤140737488355328) (hc:∀ j u,news[j]?=some u→w.cell? ⟨b,off+j,none⟩=some u) (h1:∀ u ∈ news,u.oneCell'=true) :
    Calls Tryz.prog 280 #[.slice (some ⟨b,off,none⟩) n c] w fun e w'=>∃ v',e=.returned v'∧w'.ownsRow w.heap.size 3 size v' n news∧v' ≠ .slice none 0 0∧Below w.heap.size w w':=AnyE.slices_Clone Tryz.laysSlE041_f280 i0 z size bytes hi hz0 hz1 hz2 hzs hsz z23 b off n c news w hl hn hbig hc h1
open Go.RowKit Go.Lib in
theorem Tryz.slices_Clone_nil_f280 (n c:Nat) (w:World) :
    Calls Tryz.prog 280 #[.slice none n c] w fun e w'=>e=.returned (.slice none 0 0)∧w'=w:=AnyE.slices_Clone_nil Tryz.laysSlE041_f280 n c w
end Go.Proofs
namespace Go.Proofs.YtpmlggjhfiljmaaGreatDoor
open Go.RowKit
def isC (r:Int):Bool:=(decide (0≤r) && decide (r≤1114111)) && (decide (r<55296) || decide (57343<r))
def szI (r:Int):Int:=if r<128 then 1 else if r<2048 then 2 else if r<65536 then 3 else 4
def encI (r:Int):List Int :=
  if r<128 then [r] else if r<2048 then [192+r / 64,128+r % 64] else if r<65536 then [224+r / 4096,128+r / 64 % 64,128+r % 64]
  else [240+r / 262144,128+r / 4096 % 64,128+r / 64 % 64,128+r % 64]
def encS (r:Int):ByteArray:=if isC r then strOfNums (encI r) else ByteArray.empty
def hup (n:Int):Int:=if n=1 then 0 else if n=2 then 192 else if n=3 then 224 else 240
def hbits (n:Int):Int:=if n=1 then 1 else if n=2 then 3 else if n=3 then 4 else 5
def bgI (c:Int):Int:=if c<128 then 1 else if 192≤c∧c<224 then 2 else if 224≤c∧c<240 then 3 else if 240≤c∧c<248 then 4 else 0
theorem isC_true {r:Int} (h:isC r=true):0≤r∧r≤1114111∧(r<55296∨57343<r):=by
  unfold isC at h;simp at h;omega
def Fresh (w w':World):Prop:=Below w.heap.size w w'
theorem Fresh.refl (w:World):Fresh w w:=Below.refl _ _
theorem Fresh.trans {a b c:World} (h:Fresh a b) (k:Fresh b c):Fresh a c:=Below.trans h (Below.mono k h.size)
theorem Fresh.alloc {a b:World} (h:Fresh a b) (o:Obj):Fresh a (b.alloc o):=Below.alloc h h.size o
theorem Fresh.drew {a b:World} (h:Fresh a b):Fresh a b.drew:=Below.drew h
theorem Fresh.drewN {a b:World} (h:Fresh a b) (n:Nat):Fresh a (b.drewN n):=⟨h.os,h.tape,h.output,h.size,h.block⟩
theorem Fresh.size {a b:World} (h:Fresh a b):a.heap.size≤b.heap.size:=Below.size h
theorem Fresh.setCell {a b:World} (h:Fresh a b) {p:Addr} (hp:a.heap.size≤p.block) (v:Value):Fresh a (b.setCell p v):=Below.setCell h hp v
theorem fresh_bytes (W:World) (e:TypeId) (t:ByteArray):Fresh W (Lib.bytesWorld W e t):=⟨rfl,rfl,rfl,by rw [Lib.bytesWorld_size];omega,fun k hk=>Lib.bytesWorld_at_old W e t k hk⟩
theorem Fresh.below {a b:World} (h:Fresh a b):Below a.heap.size a b:=h
end Go.Proofs.YtpmlggjhfiljmaaGreatDoor
