/- Texts joined: Shelf. -/
import Derived.Shelf.Strings.Builder1
import Derived.Shelf.Small.Utf8
import Derived.Shelf.Small.Strs
import Derived.Shelf.Strings.BuilderF
import Derived.Shelf.Strings.BuilderK
import Derived.Shelf.Strconv.Atoi
import Derived.Shelf.Strconv.Itoa0
import Derived.Shelf.Strconv.Itoa1
import Derived.Shelf.LaysM
import Derived.Shelf.Strconv.Itoa2
import Derived.Shelf.Strconv.Itoa3
import Derived.Shelf.Strconv.AtoiErrFast
import Derived.Shelf.Strconv.ParseIntEmpty
import Derived.Shelf.Strconv.AtoiFail
import Derived.Shelf.Strconv.Clone
import Derived.Shelf.Strconv.SyntaxError
import Derived.Shelf.LaysC
import Derived.Shelf.Strconv.ToError
import Derived.Shelf.Strconv.AtoiErr
import Derived.Shelf.Strconv.ErrVar
import Derived.Shelf.Strconv.Lower
import Derived.Shelf.Strconv.ParseUint10
import Derived.Shelf.Strconv.ParseUint10Empty
import Derived.Shelf.Strconv.ParseUint10Any
import Derived.Shelf.Strconv.ParseInt10
import Derived.Shelf.Strconv.AtoiLong
import Derived.Shelf.Strconv.AtoiInnerAll
import Derived.Shelf.Strconv.RangeError
import Derived.Shelf.Strconv.ToErrorRange
import Derived.Shelf.Strconv.AtoiAll
import Derived.Shelf.Strconv.ErrVarAll
import Derived.Shelf.Strconv.ParseUintEmpty
import Derived.Shelf.Strconv.ParseUint10b64
import Derived.Shelf.Strconv.ParseUint10b32
import Derived.Shelf.Strconv.ParseUint10b16
import Derived.Shelf.Strconv.ParseUint10b8
import Derived.Shelf.Strconv.ParseUint10At
import Derived.Shelf.Strconv.ParseInt10At64
import Derived.Shelf.Strconv.ParseInt10At32
import Derived.Shelf.Strconv.ParseInt10At16
import Derived.Shelf.Strconv.ParseInt10At8
import Derived.Shelf.Strconv.ParseInt10All
import Derived.Shelf.Strings.Search1
import Derived.Shelf.Strings.Search2
import Derived.Shelf.Strings.Search3
import Derived.Shelf.Strings.Shaped
import Derived.Shelf.Strings.Prefix
import Derived.Shelf.Strings.Fields
import Derived.Shelf.Strings.SplitShaped
import Derived.Shelf.Unicode.Latin
import Derived.Shelf.Unicode.Decode
import Derived.Shelf.Strings.Runes
import Derived.Shelf.Strings.IndexAny
import Derived.Shelf.Strings.AsciiSet
import Derived.Shelf.Unicode.DecodeSlow
import Derived.Shelf.Unicode.DecodeAny
import Derived.Shelf.Unicode.Is16White
import Derived.Shelf.Unicode.IsSpaceAny
import Derived.Shelf.Unicode.DecodeLast
import Derived.Shelf.Unicode.Is16WhiteD
import Derived.Shelf.Unicode.IsSpaceAnyD
import Derived.Shelf.Unicode.Is16Any
import Derived.Shelf.Unicode.Is32Any
import Derived.Shelf.Unicode.ExclAny
import Derived.Shelf.Strings.BuilderCap
import Derived.Shelf.Slices.Turned
import Derived.Ground.SlgnProg
import Derived.Shelf.SlicesE.Index
import Derived.Test.YtgddkgbidhhheaaGreatDoorProg
namespace Go.Proofs
open Go.Shelf
def Tryz.lays119_ren:Go.Shelf.Ren:=⟨fun | 119=>115 | n=>n,fun | 21=>21 | 4=>4 | n=>n,fun | n=>n⟩
theorem Tryz.lays119:Go.Proofs.Lays.n119 Tryz.prog Tryz.lays119_ren:={
 mixed:=by kernel_rfl
 f119:=Tryz.func115.trans (congrArg some (by kernel_rfl))
 t4:=Tryz.underlying4
 a4:=Tryz.isAgg4
 z4:=Tryz.sizeOf4
 v4:=Tryz.zeroValue4
 t21:=Tryz.underlying21
 a21:=Tryz.isAgg21
 z21:=Tryz.sizeOf21
 v21:=Tryz.zeroValue21 }
theorem Tryz.utf8_ValidRune (r:Int) (w:World) :
  Calls Tryz.prog 115 #[.int .i32 r] w fun e w'=>e=.returned (.bool (Lib.validRune r))∧w'=w:=Any.utf8_ValidRune Tryz.lays119 r w
def Tryz.lays137_ren:Go.Shelf.Ren:=⟨fun | 137=>114 | 217=>127 | 266=>143 | n=>n,fun | 9=>9 | 5=>5 | 3=>3 | n=>n,fun | n=>n⟩
theorem Tryz.lays137:Go.Proofs.Lays.n137 Tryz.prog Tryz.lays137_ren:={
 mixed:=by kernel_rfl
 f137:=Tryz.func114.trans (congrArg some (by kernel_rfl))
 f217:=Tryz.func127.trans (congrArg some (by kernel_rfl))
 f266:=Tryz.func143.trans (congrArg some (by kernel_rfl))
 t3:=Tryz.underlying3
 a3:=Tryz.isAgg3
 z3:=Tryz.sizeOf3
 v3:=Tryz.zeroValue3
 t5:=Tryz.underlying5
 a5:=Tryz.isAgg5
 z5:=Tryz.sizeOf5
 v5:=Tryz.zeroValue5
 t9:=Tryz.underlying9
 a9:=Tryz.isAgg9
 z9:=Tryz.sizeOf9
 v9:=Tryz.zeroValue9 }
open Go.RowKit in
theorem Tryz.strings_IndexByte (s:ByteArray) (c:Int) (w:World) :
  Calls Tryz.prog 114 #[.string s,.int .u8 c] w fun e w'=>e=.returned (.int .i64 (Lib.indexByte s.data.toList c.toNat.toUInt8))∧w'=w:=Any.strings_IndexByte Tryz.lays137 s c w
def Tryz.lays172_ren:Go.Shelf.Ren:=⟨fun | 172=>92 | 244=>121 | 245=>122 | 247=>135 | 279=>136 | 280=>137 | 281=>138 | 282=>139 | 287=>148 | 316=>149 | 171=>94 | 205=>150 | 321=>160 | 322=>161 | 243=>124 | 246=>141 | 283=>153 | 284=>154 | 285=>155 | 286=>156 | 129=>166 | 317=>165 | 318=>167 | 319=>168 | 320=>169 | 337=>174 | 338=>175 | n=>n,fun | 9=>9 | 3=>3 | 75=>98 | 76=>99 | 4=>4 | 5=>5 | 167=>173 | 37=>22 | 0=>0 | 85=>174 | 2=>2 | 168=>176 | 53=>193 | 175=>194 | 46=>164 | 210=>198 | 127=>101 | 145=>220 | 143=>218 | 21=>21 | 171=>201 | 173=>204 | 212=>223 | 51=>184 | 20=>20 | 213=>224 | 232=>232 | 233=>233 | 80=>80 | n=>n,fun | 15=>5 | 16=>6 | 17=>8 | 18=>9 | 19=>10 | n=>n⟩
def Tryz.lays318_ren:Go.Shelf.Ren:=⟨fun | 318=>167 | n=>n,fun | 3=>3 | 4=>4 | n=>n,fun | n=>n⟩
def Tryz.laysM246_ren:Go.Shelf.Ren:=⟨fun | 246=>141 | 283=>153 | 284=>154 | 285=>155 | 286=>156 | 129=>166 | 317=>165 | 318=>167 | 319=>168 | 320=>169 | 337=>174 | 338=>175 | n=>n,fun | 2=>2 | 3=>3 | 9=>9 | 4=>4 | 171=>201 | 0=>0 | 53=>193 | 37=>22 | 5=>5 | 173=>204 | 212=>223 | 51=>184 | 20=>20 | 213=>224 | 46=>164 | 232=>232 | 233=>233 | n=>n,fun | 17=>8 | 18=>9 | 19=>10 | n=>n⟩
def Tryz.laysM243_ren:Go.Shelf.Ren:=⟨fun | 243=>124 | 246=>141 | 283=>153 | 284=>154 | 285=>155 | 286=>156 | 129=>166 | 317=>165 | 318=>167 | 319=>168 | 320=>169 | 337=>174 | 338=>175 | n=>n,fun | 3=>3 | 9=>9 | 2=>2 | 4=>4 | 171=>201 | 0=>0 | 53=>193 | 37=>22 | 5=>5 | 173=>204 | 212=>223 | 51=>184 | 20=>20 | 213=>224 | 46=>164 | 232=>232 | 233=>233 | n=>n,fun | 17=>8 | 18=>9 | 19=>10 | n=>n⟩
def Tryz.laysM171_ren:Go.Shelf.Ren:=⟨fun | 171=>94 | 243=>124 | 246=>141 | 283=>153 | 284=>154 | 285=>155 | 286=>156 | 129=>166 | 317=>165 | 318=>167 | 319=>168 | 320=>169 | 337=>174 | 338=>175 | n=>n,fun | 3=>3 | 9=>9 | 2=>2 | 4=>4 | 171=>201 | 0=>0 | 53=>193 | 37=>22 | 5=>5 | 173=>204 | 212=>223 | 51=>184 | 20=>20 | 213=>224 | 46=>164 | 232=>232 | 233=>233 | n=>n,fun | 17=>8 | 18=>9 | 19=>10 | n=>n⟩
theorem Tryz.laysM171:Go.Proofs.LaysM.n171 Tryz.prog Tryz.laysM171_ren:={
 mixed:=by kernel_rfl
 f129:=Tryz.func166.trans (congrArg some (by kernel_rfl))
 f171:=Tryz.func94.trans (congrArg some (by kernel_rfl))
 f243:=Tryz.func124.trans (congrArg some (by kernel_rfl))
 f246:=Tryz.func141.trans (congrArg some (by kernel_rfl))
 f283:=Tryz.func153.trans (congrArg some (by kernel_rfl))
 f284:=Tryz.func154.trans (congrArg some (by kernel_rfl))
 f285:=Tryz.func155.trans (congrArg some (by kernel_rfl))
 f286:=Tryz.func156.trans (congrArg some (by kernel_rfl))
 f317:=Tryz.func165.trans (congrArg some (by kernel_rfl))
 f318:=Tryz.func167.trans (congrArg some (by kernel_rfl))
 f319:=Tryz.func168.trans (congrArg some (by kernel_rfl))
 f320:=Tryz.func169.trans (congrArg some (by kernel_rfl))
 f337:=Tryz.func174.trans (congrArg some (by kernel_rfl))
 f338:=Tryz.func175.trans (congrArg some (by kernel_rfl))
 t0:=Tryz.underlying0
 a0:=Tryz.isAgg0
 z0:=Tryz.sizeOf0
 v0:=Tryz.zeroValue0
 t2:=Tryz.underlying2
 a2:=Tryz.isAgg2
 z2:=Tryz.sizeOf2
 v2:=Tryz.zeroValue2
 t3:=Tryz.underlying3
 a3:=Tryz.isAgg3
 z3:=Tryz.sizeOf3
 v3:=Tryz.zeroValue3
 t4:=Tryz.underlying4
 a4:=Tryz.isAgg4
 z4:=Tryz.sizeOf4
 v4:=Tryz.zeroValue4
 t5:=Tryz.underlying5
 a5:=Tryz.isAgg5
 z5:=Tryz.sizeOf5
 v5:=Tryz.zeroValue5
 t9:=Tryz.underlying9
 a9:=Tryz.isAgg9
 z9:=Tryz.sizeOf9
 v9:=Tryz.zeroValue9
 t20:=Tryz.underlying20
 a20:=Tryz.isAgg20
 z20:=Tryz.sizeOf20
 v20:=Tryz.zeroValue20
 t37:=Tryz.underlying22
 a37:=Tryz.isAgg22
 z37:=Tryz.sizeOf22
 v37:=Tryz.zeroValue22
 t46:=Tryz.underlying164
 a46:=Tryz.isAgg164
 z46:=Tryz.sizeOf164
 v46:=Tryz.zeroValue164
 t51:=Tryz.underlying184
 a51:=Tryz.isAgg184
 z51:=Tryz.sizeOf184
 v51:=Tryz.zeroValue184
 t53:=Tryz.underlying193
 a53:=Tryz.isAgg193
 z53:=Tryz.sizeOf193
 v53:=Tryz.zeroValue193
 t171:=Tryz.underlying201
 a171:=Tryz.isAgg201
 z171:=Tryz.sizeOf201
 v171:=Tryz.zeroValue201
 t173:=Tryz.underlying204
 a173:=Tryz.isAgg204
 z173:=Tryz.sizeOf204
 v173:=Tryz.zeroValue204
 t212:=Tryz.underlying223
 a212:=Tryz.isAgg223
 z212:=Tryz.sizeOf223
 v212:=Tryz.zeroValue223
 t213:=Tryz.underlying224
 a213:=Tryz.isAgg224
 z213:=Tryz.sizeOf224
 t232:=Tryz.underlying232
 a232:=Tryz.isAgg232
 z232:=Tryz.sizeOf232
 v232:=Tryz.zeroValue232
 t233:=Tryz.underlying233
 a233:=Tryz.isAgg233
 z233:=Tryz.sizeOf233
 v233:=Tryz.zeroValue233
 g17:=by kernel_rfl
 g18:=by kernel_rfl
 g19:=by kernel_rfl
 i0:=by kernel_rfl
 i2:=by kernel_rfl
 i3:=by kernel_rfl
 i4:=by kernel_rfl
 i5:=by kernel_rfl
 i9:=by kernel_rfl
 i20:=by kernel_rfl
 i37:=by kernel_rfl
 i46:=by kernel_rfl
 i51:=by kernel_rfl
 i53:=by kernel_rfl
 i171:=by kernel_rfl
 i173:=by kernel_rfl
 i212:=by kernel_rfl
 i232:=by kernel_rfl
 i233:=by kernel_rfl
 m17:=by kernel_rfl
 m18:=by kernel_rfl
 m19:=by kernel_rfl }
open Go.RowKit Go.Sort Go.Lib in
theorem Tryz.strconv_Itoa (n:Int) (h0:-9223372036854775808≤n) (h1:n≤9223372036854775807) (w:World) (htab:Lib.TabIs Tryz.prog w "internal/strconv.uint64pow10" .u64 Lib.pow10Tab) :
  Calls Tryz.prog 94 #[.int .i64 n] w fun e w'=>e=.returned (.string ⟨(Lib.itoa n).toArray⟩)∧∃ k os,w'=grow (w.drewN k) os:=Any.strconv_Itoa Tryz.laysM171 n h0 h1 w htab
def Tryz.laysC172_ren:Go.Shelf.Ren:=⟨fun | 172=>92 | 244=>121 | 245=>122 | 247=>135 | 279=>136 | 280=>137 | 281=>138 | 282=>139 | 287=>148 | 316=>149 | 171=>94 | 205=>150 | 321=>160 | 322=>161 | 243=>124 | 246=>141 | 283=>153 | 284=>154 | 285=>155 | 286=>156 | 129=>166 | 317=>165 | 318=>167 | 319=>168 | 320=>169 | 337=>174 | 338=>175 | n=>n,fun | 9=>9 | 3=>3 | 75=>98 | 76=>99 | 4=>4 | 5=>5 | 167=>173 | 37=>22 | 0=>0 | 85=>174 | 2=>2 | 168=>176 | 53=>193 | 175=>194 | 46=>164 | 210=>198 | 127=>101 | 145=>220 | 143=>218 | 21=>21 | 171=>201 | 173=>204 | 212=>223 | 51=>184 | 20=>20 | 213=>224 | 232=>232 | 233=>233 | 80=>80 | n=>n,fun | 15=>5 | 16=>6 | 17=>8 | 18=>9 | 19=>10 | n=>n⟩
theorem Tryz.laysC172:Go.Proofs.LaysC.n172 Tryz.prog Tryz.laysC172_ren:={
 mixed:=by kernel_rfl
 f129:=Tryz.func166.trans (congrArg some (by kernel_rfl))
 f171:=Tryz.func94.trans (congrArg some (by kernel_rfl))
 f172:=Tryz.func92.trans (congrArg some (by kernel_rfl))
 f205:=Tryz.func150.trans (congrArg some (by kernel_rfl))
 f243:=Tryz.func124.trans (congrArg some (by kernel_rfl))
 f244:=Tryz.func121.trans (congrArg some (by kernel_rfl))
 f245:=Tryz.func122.trans (congrArg some (by kernel_rfl))
 f246:=Tryz.func141.trans (congrArg some (by kernel_rfl))
 f247:=Tryz.func135.trans (congrArg some (by kernel_rfl))
 f279:=Tryz.func136.trans (congrArg some (by kernel_rfl))
 f280:=Tryz.func137.trans (congrArg some (by kernel_rfl))
 f281:=Tryz.func138.trans (congrArg some (by kernel_rfl))
 f282:=Tryz.func139.trans (congrArg some (by kernel_rfl))
 f283:=Tryz.func153.trans (congrArg some (by kernel_rfl))
 f284:=Tryz.func154.trans (congrArg some (by kernel_rfl))
 f285:=Tryz.func155.trans (congrArg some (by kernel_rfl))
 f286:=Tryz.func156.trans (congrArg some (by kernel_rfl))
 f287:=Tryz.func148.trans (congrArg some (by kernel_rfl))
 f316:=Tryz.func149.trans (congrArg some (by kernel_rfl))
 f317:=Tryz.func165.trans (congrArg some (by kernel_rfl))
 f318:=Tryz.func167.trans (congrArg some (by kernel_rfl))
 f319:=Tryz.func168.trans (congrArg some (by kernel_rfl))
 f320:=Tryz.func169.trans (congrArg some (by kernel_rfl))
 f321:=Tryz.func160.trans (congrArg some (by kernel_rfl))
 f322:=Tryz.func161.trans (congrArg some (by kernel_rfl))
 f337:=Tryz.func174.trans (congrArg some (by kernel_rfl))
 f338:=Tryz.func175.trans (congrArg some (by kernel_rfl))
 t0:=Tryz.underlying0
 a0:=Tryz.isAgg0
 z0:=Tryz.sizeOf0
 v0:=Tryz.zeroValue0
 t2:=Tryz.underlying2
 a2:=Tryz.isAgg2
 z2:=Tryz.sizeOf2
 v2:=Tryz.zeroValue2
 t3:=Tryz.underlying3
 a3:=Tryz.isAgg3
 z3:=Tryz.sizeOf3
 v3:=Tryz.zeroValue3
 t4:=Tryz.underlying4
 a4:=Tryz.isAgg4
 z4:=Tryz.sizeOf4
 v4:=Tryz.zeroValue4
 t5:=Tryz.underlying5
 a5:=Tryz.isAgg5
 z5:=Tryz.sizeOf5
 v5:=Tryz.zeroValue5
 t9:=Tryz.underlying9
 a9:=Tryz.isAgg9
 z9:=Tryz.sizeOf9
 v9:=Tryz.zeroValue9
 t20:=Tryz.underlying20
 a20:=Tryz.isAgg20
 z20:=Tryz.sizeOf20
 v20:=Tryz.zeroValue20
 t21:=Tryz.underlying21
 a21:=Tryz.isAgg21
 z21:=Tryz.sizeOf21
 v21:=Tryz.zeroValue21
 t37:=Tryz.underlying22
 a37:=Tryz.isAgg22
 z37:=Tryz.sizeOf22
 v37:=Tryz.zeroValue22
 t46:=Tryz.underlying164
 a46:=Tryz.isAgg164
 z46:=Tryz.sizeOf164
 v46:=Tryz.zeroValue164
 t51:=Tryz.underlying184
 a51:=Tryz.isAgg184
 z51:=Tryz.sizeOf184
 v51:=Tryz.zeroValue184
 t53:=Tryz.underlying193
 a53:=Tryz.isAgg193
 z53:=Tryz.sizeOf193
 v53:=Tryz.zeroValue193
 t75:=Tryz.underlying98
 a75:=Tryz.isAgg98
 z75:=Tryz.sizeOf98
 v75:=Tryz.zeroValue98
 t76:=Tryz.underlying99
 a76:=Tryz.isAgg99
 z76:=Tryz.sizeOf99
 v76:=Tryz.zeroValue99
 t85:=Tryz.underlying174
 a85:=Tryz.isAgg174
 z85:=Tryz.sizeOf174
 v85:=Tryz.zeroValue174
 t127:=Tryz.underlying101
 a127:=Tryz.isAgg101
 z127:=Tryz.sizeOf101
 v127:=Tryz.zeroValue101
 t143:=Tryz.underlying218
 a143:=Tryz.isAgg218
 z143:=Tryz.sizeOf218
 v143:=Tryz.zeroValue218
 t145:=Tryz.underlying220
 a145:=Tryz.isAgg220
 z145:=Tryz.sizeOf220
 v145:=Tryz.zeroValue220
 t167:=Tryz.underlying173
 a167:=Tryz.isAgg173
 z167:=Tryz.sizeOf173
 v167:=Tryz.zeroValue173
 t168:=Tryz.underlying176
 a168:=Tryz.isAgg176
 z168:=Tryz.sizeOf176
 v168:=Tryz.zeroValue176
 t171:=Tryz.underlying201
 a171:=Tryz.isAgg201
 z171:=Tryz.sizeOf201
 v171:=Tryz.zeroValue201
 t173:=Tryz.underlying204
 a173:=Tryz.isAgg204
 z173:=Tryz.sizeOf204
 v173:=Tryz.zeroValue204
 t175:=Tryz.underlying194
 a175:=Tryz.isAgg194
 z175:=Tryz.sizeOf194
 v175:=Tryz.zeroValue194
 t210:=Tryz.underlying198
 a210:=Tryz.isAgg198
 z210:=Tryz.sizeOf198
 v210:=Tryz.zeroValue198
 t212:=Tryz.underlying223
 a212:=Tryz.isAgg223
 z212:=Tryz.sizeOf223
 v212:=Tryz.zeroValue223
 t213:=Tryz.underlying224
 a213:=Tryz.isAgg224
 z213:=Tryz.sizeOf224
 t232:=Tryz.underlying232
 a232:=Tryz.isAgg232
 z232:=Tryz.sizeOf232
 v232:=Tryz.zeroValue232
 t233:=Tryz.underlying233
 a233:=Tryz.isAgg233
 z233:=Tryz.sizeOf233
 v233:=Tryz.zeroValue233
 g15:=by kernel_rfl
 g16:=by kernel_rfl
 g17:=by kernel_rfl
 g18:=by kernel_rfl
 g19:=by kernel_rfl
 t80:=Tryz.underlying80
 a80:=Tryz.isAgg80
 z80:=Tryz.sizeOf80
 v80:=Tryz.zeroValue80
 i0:=by kernel_rfl
 i2:=by kernel_rfl
 i3:=by kernel_rfl
 i4:=by kernel_rfl
 i5:=by kernel_rfl
 i9:=by kernel_rfl
 i20:=by kernel_rfl
 i21:=by kernel_rfl
 i37:=by kernel_rfl
 i46:=by kernel_rfl
 i51:=by kernel_rfl
 i53:=by kernel_rfl
 i75:=by kernel_rfl
 i76:=by kernel_rfl
 i80:=by kernel_rfl
 i85:=by kernel_rfl
 i127:=by kernel_rfl
 i143:=by kernel_rfl
 i145:=by kernel_rfl
 i167:=by kernel_rfl
 i168:=by kernel_rfl
 i171:=by kernel_rfl
 i173:=by kernel_rfl
 i175:=by kernel_rfl
 i210:=by kernel_rfl
 i212:=by kernel_rfl
 i232:=by kernel_rfl
 i233:=by kernel_rfl
 m15:=by kernel_rfl
 m16:=by kernel_rfl
 m17:=by kernel_rfl
 m18:=by kernel_rfl
 m19:=by kernel_rfl
 c0:=by kernel_rfl
 c2:=by kernel_rfl
 c3:=by kernel_rfl
 c4:=by kernel_rfl
 c5:=by kernel_rfl
 c9:=by kernel_rfl
 c20:=by kernel_rfl
 c21:=by kernel_rfl
 c37:=by kernel_rfl
 c46:=by kernel_rfl
 c51:=by kernel_rfl
 c53:=by kernel_rfl
 c75:=by kernel_rfl
 c76:=by kernel_rfl
 c80:=by kernel_rfl
 c85:=by kernel_rfl
 c127:=by kernel_rfl
 c143:=by kernel_rfl
 c145:=by kernel_rfl
 c167:=by kernel_rfl
 c168:=by kernel_rfl
 c171:=by kernel_rfl
 c173:=by kernel_rfl
 c175:=by kernel_rfl
 c210:=by kernel_rfl
 c212:=by kernel_rfl
 c213:=by kernel_rfl
 c232:=by kernel_rfl
 c233:=by kernel_rfl }
open Go.RowKit in
theorem Tryz.strconv_Atoi_ok (s:ByteArray) (hmax:s.size≤9223372036854775806) (v:Int) (h:Lib.atoiAll s.data.toList=.ok v) (w:World) :
  Calls Tryz.prog 92 #[.string s] w fun e w'=>e=.returned (.tuple #[.int .i64 v,.nilIface])∧(w'=w∨∃ t,w'=Lib.bytesWorld w 5 t):=Any.strconv_Atoi_ok Tryz.laysC172 s hmax v h w
open Go.RowKit in
theorem Tryz.strconv_Atoi_syntax (s:ByteArray) (hlim:s.size≤281474976710656) (h:Lib.atoiAll s.data.toList=.«syntax») (ev:Value) (w:World) (hv:w.cell? ⟨5,0,none⟩=some ev) (hev:ev=.nilIface∨∃ te pe,ev=.iface te pe) :
  Calls Tryz.prog 92 #[.string s] w fun e w'=>∃ N,e=.returned (.tuple #[.int .i64 (0),.iface 176 (.pointer (some ⟨N,0,none⟩))])∧w.heap.size≤N∧w'.heap[N]? = some (.cells #[.string ⟨#[65,116,111,105]⟩,.string s,ev] 198 (0,0))∧Below w.heap.size w w':=Any.strconv_Atoi_syntax Tryz.laysC172 s hlim h ev w hv hev
open Go.RowKit in
theorem Tryz.strconv_Atoi_range (s:ByteArray) (hlim:s.size≤281474976710656) (h:Lib.atoiAll s.data.toList=.range) (ev:Value) (w:World) (hv:w.cell? ⟨6,0,none⟩=some ev) (hev:ev=.nilIface∨∃ te pe,ev=.iface te pe) :
  Calls Tryz.prog 92 #[.string s] w fun e w'=>∃ N,e=.returned (.tuple #[.int .i64 (Lib.atoiSat s.data.toList),.iface 176 (.pointer (some ⟨N,0,none⟩))])∧w.heap.size≤N∧w'.heap[N]? = some (.cells #[.string ⟨#[65,116,111,105]⟩,.string s,ev] 198 (0,0))∧Below w.heap.size w w':=Any.strconv_Atoi_range Tryz.laysC172 s hlim h ev w hv hev
def Tryz.lays219_ren:Go.Shelf.Ren:=⟨fun | 219=>97 | 217=>127 | 225=>117 | 224=>116 | 267=>128 | 266=>143 | 314=>144 | n=>n,fun | 9=>9 | 3=>3 | 4=>4 | 5=>5 | 46=>164 | 146=>187 | 51=>184 | n=>n,fun | 1=>1 | n=>n⟩
def Tryz.lays144_ren:Go.Shelf.Ren:=⟨fun | 144=>43 | 143=>64 | 219=>97 | 217=>127 | 225=>117 | 224=>116 | 267=>128 | 266=>143 | 314=>144 | n=>n,fun | 9=>9 | 4=>4 | 3=>3 | 5=>5 | 46=>164 | 146=>187 | 51=>184 | n=>n,fun | 1=>1 | n=>n⟩
theorem Tryz.lays144:Go.Proofs.Lays.n144 Tryz.prog Tryz.lays144_ren:={
 mixed:=by kernel_rfl
 f143:=Tryz.func64.trans (congrArg some (by kernel_rfl))
 f144:=Tryz.func43.trans (congrArg some (by kernel_rfl))
 f217:=Tryz.func127.trans (congrArg some (by kernel_rfl))
 f219:=Tryz.func97.trans (congrArg some (by kernel_rfl))
 f224:=Tryz.func116.trans (congrArg some (by kernel_rfl))
 f225:=Tryz.func117.trans (congrArg some (by kernel_rfl))
 f266:=Tryz.func143.trans (congrArg some (by kernel_rfl))
 f267:=Tryz.func128.trans (congrArg some (by kernel_rfl))
 f314:=Tryz.func144.trans (congrArg some (by kernel_rfl))
 t3:=Tryz.underlying3
 a3:=Tryz.isAgg3
 z3:=Tryz.sizeOf3
 v3:=Tryz.zeroValue3
 t4:=Tryz.underlying4
 a4:=Tryz.isAgg4
 z4:=Tryz.sizeOf4
 v4:=Tryz.zeroValue4
 t5:=Tryz.underlying5
 a5:=Tryz.isAgg5
 z5:=Tryz.sizeOf5
 v5:=Tryz.zeroValue5
 t9:=Tryz.underlying9
 a9:=Tryz.isAgg9
 z9:=Tryz.sizeOf9
 v9:=Tryz.zeroValue9
 t46:=Tryz.underlying164
 a46:=Tryz.isAgg164
 z46:=Tryz.sizeOf164
 v46:=Tryz.zeroValue164
 t51:=Tryz.underlying184
 a51:=Tryz.isAgg184
 z51:=Tryz.sizeOf184
 v51:=Tryz.zeroValue184
 t146:=Tryz.underlying187
 a146:=Tryz.isAgg187
 z146:=Tryz.sizeOf187
 v146:=Tryz.zeroValue187
 g1:=by kernel_rfl }
open Go.RowKit Go.Lib in
theorem Tryz.strings_Contains_one (s:ByteArray) (c:UInt8) (w:World) :
  Calls Tryz.prog 43 #[.string s,.string ⟨#[c]⟩] w fun e w'=>e=.returned (.bool (decide (0≤Lib.indexByte s.data.toList c)))∧w'=w:=Any.strings_Contains_one Tryz.lays144 s c w
def Tryz.lays206_ren:Go.Shelf.Ren:=⟨fun | 206=>120 | n=>n,fun | 9=>9 | 4=>4 | 3=>3 | n=>n,fun | n=>n⟩
def Tryz.lays100_ren:Go.Shelf.Ren:=⟨fun | 100=>55 | 207=>84 | n=>n,fun | 9=>9 | 4=>4 | 3=>3 | n=>n,fun | n=>n⟩
theorem Tryz.lays100:Go.Proofs.Lays.n100 Tryz.prog Tryz.lays100_ren:={
 mixed:=by kernel_rfl
 f100:=Tryz.func55.trans (congrArg some (by kernel_rfl))
 f207:=Tryz.func84.trans (congrArg some (by kernel_rfl))
 t3:=Tryz.underlying3
 a3:=Tryz.isAgg3
 z3:=Tryz.sizeOf3
 v3:=Tryz.zeroValue3
 t4:=Tryz.underlying4
 a4:=Tryz.isAgg4
 z4:=Tryz.sizeOf4
 v4:=Tryz.zeroValue4
 t9:=Tryz.underlying9
 a9:=Tryz.isAgg9
 z9:=Tryz.sizeOf9
 v9:=Tryz.zeroValue9 }
open Go.RowKit Go.Lib in
theorem Tryz.strings_HasSuffix (s p:ByteArray) (w:World) (hs:s.size≤9223372036854775807) :
  Calls Tryz.prog 55 #[.string s,.string p] w fun e w'=>e=.returned (.bool (Lib.hasSuffix s.data.toList p.data.toList))∧w'=w:=Any.strings_HasSuffix Tryz.lays100 s p w hs
def Tryz.lays101_ren:Go.Shelf.Ren:=⟨fun | 101=>58 | 208=>91 | 206=>120 | n=>n,fun | 9=>9 | 4=>4 | 3=>3 | n=>n,fun | n=>n⟩
theorem Tryz.lays101:Go.Proofs.Lays.n101 Tryz.prog Tryz.lays101_ren:={
 mixed:=by kernel_rfl
 f101:=Tryz.func58.trans (congrArg some (by kernel_rfl))
 f206:=Tryz.func120.trans (congrArg some (by kernel_rfl))
 f208:=Tryz.func91.trans (congrArg some (by kernel_rfl))
 t3:=Tryz.underlying3
 a3:=Tryz.isAgg3
 z3:=Tryz.sizeOf3
 v3:=Tryz.zeroValue3
 t4:=Tryz.underlying4
 a4:=Tryz.isAgg4
 z4:=Tryz.sizeOf4
 v4:=Tryz.zeroValue4
 t9:=Tryz.underlying9
 a9:=Tryz.isAgg9
 z9:=Tryz.sizeOf9
 v9:=Tryz.zeroValue9 }
open Go.RowKit Go.Lib in
theorem Tryz.strings_TrimPrefix (s p:ByteArray) (w:World) :
  Calls Tryz.prog 58 #[.string s,.string p] w fun e w'=>e=.returned (.string ⟨(Lib.trimPrefix s.data.toList p.data.toList).toArray⟩)∧w'=w:=Any.strings_TrimPrefix Tryz.lays101 s p w
def Tryz.lays102_ren:Go.Shelf.Ren:=⟨fun | 102=>56 | 209=>85 | 207=>84 | n=>n,fun | 9=>9 | 4=>4 | 3=>3 | n=>n,fun | n=>n⟩
theorem Tryz.lays102:Go.Proofs.Lays.n102 Tryz.prog Tryz.lays102_ren:={
 mixed:=by kernel_rfl
 f102:=Tryz.func56.trans (congrArg some (by kernel_rfl))
 f207:=Tryz.func84.trans (congrArg some (by kernel_rfl))
 f209:=Tryz.func85.trans (congrArg some (by kernel_rfl))
 t3:=Tryz.underlying3
 a3:=Tryz.isAgg3
 z3:=Tryz.sizeOf3
 v3:=Tryz.zeroValue3
 t4:=Tryz.underlying4
 a4:=Tryz.isAgg4
 z4:=Tryz.sizeOf4
 v4:=Tryz.zeroValue4
 t9:=Tryz.underlying9
 a9:=Tryz.isAgg9
 z9:=Tryz.sizeOf9
 v9:=Tryz.zeroValue9 }
open Go.RowKit Go.Lib in
theorem Tryz.strings_TrimSuffix (s p:ByteArray) (w:World) (hs:s.size≤9223372036854775807) :
  Calls Tryz.prog 56 #[.string s,.string p] w fun e w'=>e=.returned (.string ⟨(Lib.trimSuffix s.data.toList p.data.toList).toArray⟩)∧w'=w:=Any.strings_TrimSuffix Tryz.lays102 s p w hs
def Tryz.lays157_ren:Go.Shelf.Ren:=⟨fun | 157=>96 | 229=>125 | 199=>126 | 261=>142 | 311=>157 | 312=>158 | n=>n,fun | 9=>9 | 31=>61 | 3=>3 | 5=>5 | 4=>4 | 119=>168 | 0=>0 | 40=>162 | 152=>181 | 21=>21 | 154=>183 | 51=>184 | 141=>186 | 196=>209 | 193=>206 | 198=>212 | 49=>210 | 194=>207 | 201=>215 | 226=>226 | 46=>164 | 227=>227 | n=>n,fun | 0=>0 | 6=>2 | n=>n⟩
theorem Tryz.lays157:Go.Proofs.Lays.n157 Tryz.prog Tryz.lays157_ren:={
 mixed:=by kernel_rfl
 f157:=Tryz.func96.trans (congrArg some (by kernel_rfl))
 f199:=Tryz.func126.trans (congrArg some (by kernel_rfl))
 f229:=Tryz.func125.trans (congrArg some (by kernel_rfl))
 f261:=Tryz.func142.trans (congrArg some (by kernel_rfl))
 f311:=Tryz.func157.trans (congrArg some (by kernel_rfl))
 f312:=Tryz.func158.trans (congrArg some (by kernel_rfl))
 t0:=Tryz.underlying0
 a0:=Tryz.isAgg0
 z0:=Tryz.sizeOf0
 v0:=Tryz.zeroValue0
 t3:=Tryz.underlying3
 a3:=Tryz.isAgg3
 z3:=Tryz.sizeOf3
 v3:=Tryz.zeroValue3
 t4:=Tryz.underlying4
 a4:=Tryz.isAgg4
 z4:=Tryz.sizeOf4
 v4:=Tryz.zeroValue4
 t5:=Tryz.underlying5
 a5:=Tryz.isAgg5
 z5:=Tryz.sizeOf5
 v5:=Tryz.zeroValue5
 t9:=Tryz.underlying9
 a9:=Tryz.isAgg9
 z9:=Tryz.sizeOf9
 v9:=Tryz.zeroValue9
 t21:=Tryz.underlying21
 a21:=Tryz.isAgg21
 z21:=Tryz.sizeOf21
 v21:=Tryz.zeroValue21
 t31:=Tryz.underlying61
 a31:=Tryz.isAgg61
 z31:=Tryz.sizeOf61
 v31:=Tryz.zeroValue61
 t40:=Tryz.underlying162
 a40:=Tryz.isAgg162
 z40:=Tryz.sizeOf162
 v40:=Tryz.zeroValue162
 t46:=Tryz.underlying164
 a46:=Tryz.isAgg164
 z46:=Tryz.sizeOf164
 v46:=Tryz.zeroValue164
 t49:=Tryz.underlying210
 a49:=Tryz.isAgg210
 z49:=Tryz.sizeOf210
 v49:=Tryz.zeroValue210
 t51:=Tryz.underlying184
 a51:=Tryz.isAgg184
 z51:=Tryz.sizeOf184
 v51:=Tryz.zeroValue184
 t119:=Tryz.underlying168
 a119:=Tryz.isAgg168
 z119:=Tryz.sizeOf168
 t141:=Tryz.underlying186
 a141:=Tryz.isAgg186
 z141:=Tryz.sizeOf186
 v141:=Tryz.zeroValue186
 t152:=Tryz.underlying181
 a152:=Tryz.isAgg181
 z152:=Tryz.sizeOf181
 v152:=Tryz.zeroValue181
 t154:=Tryz.underlying183
 a154:=Tryz.isAgg183
 z154:=Tryz.sizeOf183
 v154:=Tryz.zeroValue183
 t193:=Tryz.underlying206
 a193:=Tryz.isAgg206
 z193:=Tryz.sizeOf206
 v193:=Tryz.zeroValue206
 t194:=Tryz.underlying207
 a194:=Tryz.isAgg207
 z194:=Tryz.sizeOf207
 v194:=Tryz.zeroValue207
 t196:=Tryz.underlying209
 a196:=Tryz.isAgg209
 z196:=Tryz.sizeOf209
 v196:=Tryz.zeroValue209
 t198:=Tryz.underlying212
 a198:=Tryz.isAgg212
 z198:=Tryz.sizeOf212
 v198:=Tryz.zeroValue212
 t201:=Tryz.underlying215
 a201:=Tryz.isAgg215
 z201:=Tryz.sizeOf215
 v201:=Tryz.zeroValue215
 t226:=Tryz.underlying226
 a226:=Tryz.isAgg226
 z226:=Tryz.sizeOf226
 v226:=Tryz.zeroValue226
 t227:=Tryz.underlying227
 a227:=Tryz.isAgg227
 z227:=Tryz.sizeOf227
 v227:=Tryz.zeroValue227
 g0:=by kernel_rfl
 g6:=by kernel_rfl }
open Go.RowKit Go.Lib in
theorem Tryz.strings_Fields (s:ByteArray) (w:World) (hs:s.size < 4294967281) (hascii:∀ (j:Nat) b,s.data.toList[j]? = some b→b.toNat < 128) (htab:Lib.TabIs Tryz.prog w "strings.asciiSpace" .u8 Lib.asciiSpaceTab) :
  Calls Tryz.prog 96 #[.string s] w fun e w'=>
   e=.returned (.slice (some ⟨w.heap.size,0,none⟩) (Lib.fields s.data.toList).length (Lib.fields s.data.toList).length)∧w'=w.alloc (.cells ((Lib.fields s.data.toList).map fun l=>Value.string ⟨l.toArray⟩).toArray 9):=Any.strings_Fields Tryz.lays157 (by kernel_rfl) (by kernel_rfl) s w hs hascii htab
def Tryz.lays197_ren:Go.Shelf.Ren:=⟨fun | 197=>119 | 260=>134 | n=>n,fun | 9=>9 | 21=>21 | 3=>3 | 4=>4 | 5=>5 | 105=>143 | 119=>168 | 0=>0 | 46=>164 | 139=>192 | 138=>191 | n=>n,fun | 3=>3 | 4=>4 | n=>n⟩
def Tryz.lays152_ren:Go.Shelf.Ren:=⟨fun | 152=>86 | 137=>114 | 119=>115 | 224=>116 | 225=>117 | 217=>127 | 266=>143 | n=>n,fun | 9=>9 | 21=>21 | 3=>3 | 4=>4 | 5=>5 | 0=>0 | 46=>164 | n=>n,fun | n=>n⟩
theorem Tryz.lays152:Go.Proofs.Lays.n152 Tryz.prog Tryz.lays152_ren:={
 mixed:=by kernel_rfl
 f119:=Tryz.func115.trans (congrArg some (by kernel_rfl))
 f137:=Tryz.func114.trans (congrArg some (by kernel_rfl))
 f152:=Tryz.func86.trans (congrArg some (by kernel_rfl))
 f217:=Tryz.func127.trans (congrArg some (by kernel_rfl))
 f224:=Tryz.func116.trans (congrArg some (by kernel_rfl))
 f225:=Tryz.func117.trans (congrArg some (by kernel_rfl))
 f266:=Tryz.func143.trans (congrArg some (by kernel_rfl))
 t0:=Tryz.underlying0
 a0:=Tryz.isAgg0
 z0:=Tryz.sizeOf0
 v0:=Tryz.zeroValue0
 t3:=Tryz.underlying3
 a3:=Tryz.isAgg3
 z3:=Tryz.sizeOf3
 v3:=Tryz.zeroValue3
 t4:=Tryz.underlying4
 a4:=Tryz.isAgg4
 z4:=Tryz.sizeOf4
 v4:=Tryz.zeroValue4
 t5:=Tryz.underlying5
 a5:=Tryz.isAgg5
 z5:=Tryz.sizeOf5
 v5:=Tryz.zeroValue5
 t9:=Tryz.underlying9
 a9:=Tryz.isAgg9
 z9:=Tryz.sizeOf9
 v9:=Tryz.zeroValue9
 t21:=Tryz.underlying21
 a21:=Tryz.isAgg21
 z21:=Tryz.sizeOf21
 v21:=Tryz.zeroValue21
 t46:=Tryz.underlying164
 a46:=Tryz.isAgg164
 z46:=Tryz.sizeOf164
 v46:=Tryz.zeroValue164 }
open Go.RowKit Go.Lib in
theorem Tryz.strings_IndexRune_ascii (s:ByteArray) (r:Int) (w:World) (h0:0≤r) (h1:r < 128) :
  Calls Tryz.prog 86 #[.string s,.int .i32 r] w fun e w'=>e=.returned (.int .i64 (Lib.indexByte s.data.toList r.toNat.toUInt8))∧w'=w:=Any.strings_IndexRune_ascii Tryz.lays152 s r w h0 h1
def Tryz.lays226_ren:Go.Shelf.Ren:=⟨fun | 226=>87 | n=>n,fun | 3=>3 | 4=>4 | n=>n,fun | n=>n⟩
theorem Tryz.lays226:Go.Proofs.Lays.n226 Tryz.prog Tryz.lays226_ren:={
 mixed:=by kernel_rfl
 f226:=Tryz.func87.trans (congrArg some (by kernel_rfl))
 t3:=Tryz.underlying3
 a3:=Tryz.isAgg3
 z3:=Tryz.sizeOf3
 v3:=Tryz.zeroValue3
 t4:=Tryz.underlying4
 a4:=Tryz.isAgg4
 z4:=Tryz.sizeOf4
 v4:=Tryz.zeroValue4 }
open Go.RowKit Go.Lib in
theorem Tryz.strings_shouldUseASCIISet (n:Int) (w:World) :
  Calls Tryz.prog 87 #[.int .i64 n] w fun e w'=>e=.returned (.bool (decide (8 < n)))∧w'=w:=Any.strings_shouldUseASCIISet Tryz.lays226 n w
def Tryz.lays227_ren:Go.Shelf.Ren:=⟨fun | 227=>88 | n=>n,fun | 9=>9 | 116=>140 | 4=>4 | 0=>0 | 3=>3 | 5=>5 | n=>n,fun | n=>n⟩
theorem Tryz.lays227:Go.Proofs.Lays.n227 Tryz.prog Tryz.lays227_ren:={
 mixed:=by kernel_rfl
 f227:=Tryz.func88.trans (congrArg some (by kernel_rfl))
 t0:=Tryz.underlying0
 a0:=Tryz.isAgg0
 z0:=Tryz.sizeOf0
 v0:=Tryz.zeroValue0
 t3:=Tryz.underlying3
 a3:=Tryz.isAgg3
 z3:=Tryz.sizeOf3
 v3:=Tryz.zeroValue3
 t4:=Tryz.underlying4
 a4:=Tryz.isAgg4
 z4:=Tryz.sizeOf4
 v4:=Tryz.zeroValue4
 t5:=Tryz.underlying5
 a5:=Tryz.isAgg5
 z5:=Tryz.sizeOf5
 v5:=Tryz.zeroValue5
 t9:=Tryz.underlying9
 a9:=Tryz.isAgg9
 z9:=Tryz.sizeOf9
 v9:=Tryz.zeroValue9
 t116:=Tryz.underlying140
 a116:=Tryz.isAgg140
 z116:=Tryz.sizeOf140 }
open Go.RowKit Go.Lib in
theorem Tryz.strings_makeASCIISet (hv116:∀ w,(zeroValue 140).run Tryz.prog w=.ok (.agg (Array.replicate 256 (.bool false))) w) (chars:ByteArray) (w:World) (hs:chars.size < 4294967281) (hascii:∀ (j:Nat) b,chars.data.toList[j]? = some b→b.toNat < 128) :
  Calls Tryz.prog 88 #[.string chars] w fun e w'=>e=.returned (.tuple #[.agg (Lib.setCells chars.data.toList),.bool true])∧w'=w.alloc (.cells (Lib.setCells chars.data.toList) 140):=Any.strings_makeASCIISet Tryz.lays227 hv116 (by kernel_rfl) chars w hs hascii
def Tryz.lays228_ren:Go.Shelf.Ren:=⟨fun | 228=>89 | n=>n,fun | 124=>165 | 5=>5 | 4=>4 | 0=>0 | 116=>140 | n=>n,fun | n=>n⟩
theorem Tryz.lays228:Go.Proofs.Lays.n228 Tryz.prog Tryz.lays228_ren:={
 mixed:=by kernel_rfl
 f228:=Tryz.func89.trans (congrArg some (by kernel_rfl))
 t0:=Tryz.underlying0
 a0:=Tryz.isAgg0
 z0:=Tryz.sizeOf0
 v0:=Tryz.zeroValue0
 t4:=Tryz.underlying4
 a4:=Tryz.isAgg4
 z4:=Tryz.sizeOf4
 v4:=Tryz.zeroValue4
 t5:=Tryz.underlying5
 a5:=Tryz.isAgg5
 z5:=Tryz.sizeOf5
 v5:=Tryz.zeroValue5
 t116:=Tryz.underlying140
 a116:=Tryz.isAgg140
 z116:=Tryz.sizeOf140
 t124:=Tryz.underlying165
 a124:=Tryz.isAgg165
 z124:=Tryz.sizeOf165
 v124:=Tryz.zeroValue165 }
open Go.RowKit Go.Lib in
theorem Tryz.asciiSet_contains (b:Nat) (x:UInt8) (v:Bool) (w:World) (hc:w.cell? ⟨b,x.toNat,none⟩=some (.bool v)) :
  Calls Tryz.prog 89 #[.pointer (some ⟨b,0,none⟩),.int .u8 x.toNat] w fun e w'=>e=.returned (.bool v)∧w'=w:=Any.asciiSet_contains Tryz.lays228 b x v w hc
def Tryz.lays260_ren:Go.Shelf.Ren:=⟨fun | 260=>134 | n=>n,fun | 9=>9 | 21=>21 | 3=>3 | 4=>4 | 5=>5 | 119=>168 | 0=>0 | 46=>164 | 139=>192 | 138=>191 | n=>n,fun | 3=>3 | 4=>4 | n=>n⟩
theorem Tryz.lays260:Go.Proofs.Lays.n260 Tryz.prog Tryz.lays260_ren:={
 mixed:=by kernel_rfl
 f260:=Tryz.func134.trans (congrArg some (by kernel_rfl))
 t0:=Tryz.underlying0
 a0:=Tryz.isAgg0
 z0:=Tryz.sizeOf0
 v0:=Tryz.zeroValue0
 t3:=Tryz.underlying3
 a3:=Tryz.isAgg3
 z3:=Tryz.sizeOf3
 v3:=Tryz.zeroValue3
 t4:=Tryz.underlying4
 a4:=Tryz.isAgg4
 z4:=Tryz.sizeOf4
 v4:=Tryz.zeroValue4
 t5:=Tryz.underlying5
 a5:=Tryz.isAgg5
 z5:=Tryz.sizeOf5
 v5:=Tryz.zeroValue5
 t9:=Tryz.underlying9
 a9:=Tryz.isAgg9
 z9:=Tryz.sizeOf9
 v9:=Tryz.zeroValue9
 t21:=Tryz.underlying21
 a21:=Tryz.isAgg21
 z21:=Tryz.sizeOf21
 v21:=Tryz.zeroValue21
 t46:=Tryz.underlying164
 a46:=Tryz.isAgg164
 z46:=Tryz.sizeOf164
 v46:=Tryz.zeroValue164
 t119:=Tryz.underlying168
 a119:=Tryz.isAgg168
 z119:=Tryz.sizeOf168
 t138:=Tryz.underlying191
 a138:=Tryz.isAgg191
 z138:=Tryz.sizeOf191
 v138:=Tryz.zeroValue191
 t139:=Tryz.underlying192
 a139:=Tryz.isAgg192
 z139:=Tryz.sizeOf192
 v139:=Tryz.zeroValue192
 g3:=by kernel_rfl
 g4:=by kernel_rfl }
def Tryz.lays271_ren:Go.Shelf.Ren:=⟨fun | 271=>90 | 120=>118 | 197=>119 | 260=>134 | n=>n,fun | 9=>9 | 21=>21 | 3=>3 | 4=>4 | 5=>5 | 105=>143 | 119=>168 | 0=>0 | 46=>164 | 139=>192 | 138=>191 | n=>n,fun | 3=>3 | 4=>4 | n=>n⟩
theorem Tryz.lays271:Go.Proofs.Lays.n271 Tryz.prog Tryz.lays271_ren:={
 mixed:=by kernel_rfl
 f120:=Tryz.func118.trans (congrArg some (by kernel_rfl))
 f197:=Tryz.func119.trans (congrArg some (by kernel_rfl))
 f260:=Tryz.func134.trans (congrArg some (by kernel_rfl))
 f271:=Tryz.func90.trans (congrArg some (by kernel_rfl))
 t0:=Tryz.underlying0
 a0:=Tryz.isAgg0
 z0:=Tryz.sizeOf0
 v0:=Tryz.zeroValue0
 t3:=Tryz.underlying3
 a3:=Tryz.isAgg3
 z3:=Tryz.sizeOf3
 v3:=Tryz.zeroValue3
 t4:=Tryz.underlying4
 a4:=Tryz.isAgg4
 z4:=Tryz.sizeOf4
 v4:=Tryz.zeroValue4
 t5:=Tryz.underlying5
 a5:=Tryz.isAgg5
 z5:=Tryz.sizeOf5
 v5:=Tryz.zeroValue5
 t9:=Tryz.underlying9
 a9:=Tryz.isAgg9
 z9:=Tryz.sizeOf9
 v9:=Tryz.zeroValue9
 t21:=Tryz.underlying21
 a21:=Tryz.isAgg21
 z21:=Tryz.sizeOf21
 v21:=Tryz.zeroValue21
 t46:=Tryz.underlying164
 a46:=Tryz.isAgg164
 z46:=Tryz.sizeOf164
 v46:=Tryz.zeroValue164
 t105:=Tryz.underlying143
 a105:=Tryz.isAgg143
 z105:=Tryz.sizeOf143
 v105:=Tryz.zeroValue143
 t119:=Tryz.underlying168
 a119:=Tryz.isAgg168
 z119:=Tryz.sizeOf168
 t138:=Tryz.underlying191
 a138:=Tryz.isAgg191
 z138:=Tryz.sizeOf191
 v138:=Tryz.zeroValue191
 t139:=Tryz.underlying192
 a139:=Tryz.isAgg192
 z139:=Tryz.sizeOf192
 v139:=Tryz.zeroValue192
 g3:=by kernel_rfl
 g4:=by kernel_rfl }
open Go.RowKit Go.Lib in
theorem Tryz.utf8_DecodeLastRuneInString (s:ByteArray) (w:World) (hs:s.size≤9223372036854775807) (hT:Lib.Utf8Tabs 3 4 w) :
  Calls Tryz.prog 90 #[.string s] w fun e w'=>e=.returned (.tuple #[.int .i32 (Lib.decodeLastL s.data.toList).1,.int .i64 (Lib.decodeLastL s.data.toList).2])∧Below w.heap.size w w':=Any.utf8_DecodeLastRuneInString Tryz.lays271 s w hs hT
def Tryz.lays110_ren:Go.Shelf.Ren:=⟨fun | 110=>62 | 109=>95 | n=>n,fun | 31=>61 | 9=>9 | 4=>4 | 3=>3 | 0=>0 | n=>n,fun | n=>n⟩
theorem Tryz.lays110:Go.Proofs.Lays.n110 Tryz.prog Tryz.lays110_ren:={
 mixed:=by kernel_rfl
 f109:=Tryz.func95.trans (congrArg some (by kernel_rfl))
 f110:=Tryz.func62.trans (congrArg some (by kernel_rfl))
 t0:=Tryz.underlying0
 a0:=Tryz.isAgg0
 z0:=Tryz.sizeOf0
 v0:=Tryz.zeroValue0
 t3:=Tryz.underlying3
 a3:=Tryz.isAgg3
 z3:=Tryz.sizeOf3
 v3:=Tryz.zeroValue3
 t4:=Tryz.underlying4
 a4:=Tryz.isAgg4
 z4:=Tryz.sizeOf4
 v4:=Tryz.zeroValue4
 t9:=Tryz.underlying9
 a9:=Tryz.isAgg9
 z9:=Tryz.sizeOf9
 v9:=Tryz.zeroValue9
 t31:=Tryz.underlying61
 a31:=Tryz.isAgg61
 z31:=Tryz.sizeOf61
 v31:=Tryz.zeroValue61 }
open Go.Lib in
theorem Tryz.slices_Contains_string (b off n c:Nat) (zs:List ByteArray) (x:ByteArray) (w:World) (hz:n≤zs.length) (hbig:n≤9223372036854775807) (hc:∀ j,j < zs.length→w.cell? ⟨b,off + j,none⟩=some (.string (zs.getD j ByteArray.empty))) :
  Calls Tryz.prog 62 #[.slice (some ⟨b,off,none⟩) n c,.string x] w fun e w'=>e=.returned (.bool (Lib.containsS (zs.take n) x))∧w'=w:=Any.slices_Contains_string Tryz.lays110 b off n c zs x w hz hbig hc
end Go.Proofs
