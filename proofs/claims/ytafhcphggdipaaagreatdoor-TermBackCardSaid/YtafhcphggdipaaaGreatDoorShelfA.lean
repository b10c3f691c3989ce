/- Contracts of the library's functions at this program: applications of the kit's shelf. -/
import Derived.Shelf.LaysC
import Derived.Shelf.Strconv.AtoiAll
import Derived.Shelf.Strings.Search2
import Derived.Test.YtafhcphggdipaaaGreatDoorProg
import Derived.Shelf.LaysM
import Derived.Shelf.Strconv.Itoa3
import Derived.Shelf.Slices.Clone
import Derived.Shelf.Strconv.Itoa0
import Derived.Shelf.Sort.Plain
import Derived.Shelf.Slices.CompactI
set_option linter.unusedSimpArgs false
set_option linter.unusedVariables false
namespace Go.Proofs
open Go.Shelf
def Tryz.laysC172_ren:Go.Shelf.Ren:=⟨fun|172=>217|244=>241|245=>242|247=>257|279=>258|280=>259|281=>260|282=>261|287=>269|316=>270|171=>224|205=>271|321=>276|322=>277|243=>246|246=>263|283=>272|284=>273|285=>274|286=>275|129=>213|317=>278|318=>279|319=>280|320=>281|337=>282|338=>283|n=>n,fun|9=>9|3=>3|75=>178|76=>179|4=>4|5=>5|167=>203|37=>153|0=>0|85=>204|2=>2|168=>206|53=>176|175=>213|46=>146|210=>217|127=>224|145=>227|143=>225|21=>21|171=>219|173=>221|212=>229|51=>174|20=>20|213=>230|232=>231|233=>232|80=>233|n=>n,fun|15=>1|16=>2|17=>3|18=>4|19=>5|n=>n⟩
theorem Tryz.laysC172:Go.Proofs.LaysC.n172 Tryz.prog Tryz.laysC172_ren:={
 mixed:=by kernel_rfl
 f129:=Tryz.func213.trans (congrArg some (by kernel_rfl))
 f171:=Tryz.func224.trans (congrArg some (by kernel_rfl))
 f172:=Tryz.func217.trans (congrArg some (by kernel_rfl))
 f205:=Tryz.func271.trans (congrArg some (by kernel_rfl))
 f243:=Tryz.func246.trans (congrArg some (by kernel_rfl))
 f244:=Tryz.func241.trans (congrArg some (by kernel_rfl))
 f245:=Tryz.func242.trans (congrArg some (by kernel_rfl))
 f246:=Tryz.func263.trans (congrArg some (by kernel_rfl))
 f247:=Tryz.func257.trans (congrArg some (by kernel_rfl))
 f279:=Tryz.func258.trans (congrArg some (by kernel_rfl))
 f280:=Tryz.func259.trans (congrArg some (by kernel_rfl))
 f281:=Tryz.func260.trans (congrArg some (by kernel_rfl))
 f282:=Tryz.func261.trans (congrArg some (by kernel_rfl))
 f283:=Tryz.func272.trans (congrArg some (by kernel_rfl))
 f284:=Tryz.func273.trans (congrArg some (by kernel_rfl))
 f285:=Tryz.func274.trans (congrArg some (by kernel_rfl))
 f286:=Tryz.func275.trans (congrArg some (by kernel_rfl))
 f287:=Tryz.func269.trans (congrArg some (by kernel_rfl))
 f316:=Tryz.func270.trans (congrArg some (by kernel_rfl))
 f317:=Tryz.func278.trans (congrArg some (by kernel_rfl))
 f318:=Tryz.func279.trans (congrArg some (by kernel_rfl))
 f319:=Tryz.func280.trans (congrArg some (by kernel_rfl))
 f320:=Tryz.func281.trans (congrArg some (by kernel_rfl))
 f321:=Tryz.func276.trans (congrArg some (by kernel_rfl))
 f322:=Tryz.func277.trans (congrArg some (by kernel_rfl))
 f337:=Tryz.func282.trans (congrArg some (by kernel_rfl))
 f338:=Tryz.func283.trans (congrArg some (by kernel_rfl))
 t0:=Tryz.underlying0
 a0:=Tryz.isAgg0
 z0:=Tryz.sizeOf0
 v0:=Tryz.zeroValue0
 t2:=Tryz.underlying2
 a2:=Tryz.isAgg2
 z2:=Tryz.sizeOf2
 v2:=Tryz.zeroValue2
 t3:=Tryz.underlying3
 a3:=Tryz.isAgg3
 z3:=Tryz.sizeOf3
 v3:=Tryz.zeroValue3
 t4:=Tryz.underlying4
 a4:=Tryz.isAgg4
 z4:=Tryz.sizeOf4
 v4:=Tryz.zeroValue4
 t5:=Tryz.underlying5
 a5:=Tryz.isAgg5
 z5:=Tryz.sizeOf5
 v5:=Tryz.zeroValue5
 t9:=Tryz.underlying9
 a9:=Tryz.isAgg9
 z9:=Tryz.sizeOf9
 v9:=Tryz.zeroValue9
 t20:=Tryz.underlying20
 a20:=Tryz.isAgg20
 z20:=Tryz.sizeOf20
 v20:=Tryz.zeroValue20
 t21:=Tryz.underlying21
 a21:=Tryz.isAgg21
 z21:=Tryz.sizeOf21
 v21:=Tryz.zeroValue21
 t37:=Tryz.underlying153
 a37:=Tryz.isAgg153
 z37:=Tryz.sizeOf153
 v37:=Tryz.zeroValue153
 t46:=Tryz.underlying146
 a46:=Tryz.isAgg146
 z46:=Tryz.sizeOf146
 v46:=Tryz.zeroValue146
 t51:=Tryz.underlying174
 a51:=Tryz.isAgg174
 z51:=Tryz.sizeOf174
 v51:=Tryz.zeroValue174
 t53:=Tryz.underlying176
 a53:=Tryz.isAgg176
 z53:=Tryz.sizeOf176
 v53:=Tryz.zeroValue176
 t75:=Tryz.underlying178
 a75:=Tryz.isAgg178
 z75:=Tryz.sizeOf178
 v75:=Tryz.zeroValue178
 t76:=Tryz.underlying179
 a76:=Tryz.isAgg179
 z76:=Tryz.sizeOf179
 v76:=Tryz.zeroValue179
 t85:=Tryz.underlying204
 a85:=Tryz.isAgg204
 z85:=Tryz.sizeOf204
 v85:=Tryz.zeroValue204
 t127:=Tryz.underlying224
 a127:=Tryz.isAgg224
 z127:=Tryz.sizeOf224
 v127:=Tryz.zeroValue224
 t143:=Tryz.underlying225
 a143:=Tryz.isAgg225
 z143:=Tryz.sizeOf225
 v143:=Tryz.zeroValue225
 t145:=Tryz.underlying227
 a145:=Tryz.isAgg227
 z145:=Tryz.sizeOf227
 v145:=Tryz.zeroValue227
 t167:=Tryz.underlying203
 a167:=Tryz.isAgg203
 z167:=Tryz.sizeOf203
 v167:=Tryz.zeroValue203
 t168:=Tryz.underlying206
 a168:=Tryz.isAgg206
 z168:=Tryz.sizeOf206
 v168:=Tryz.zeroValue206
 t171:=Tryz.underlying219
 a171:=Tryz.isAgg219
 z171:=Tryz.sizeOf219
 v171:=Tryz.zeroValue219
 t173:=Tryz.underlying221
 a173:=Tryz.isAgg221
 z173:=Tryz.sizeOf221
 v173:=Tryz.zeroValue221
 t175:=Tryz.underlying213
 a175:=Tryz.isAgg213
 z175:=Tryz.sizeOf213
 v175:=Tryz.zeroValue213
 t210:=Tryz.underlying217
 a210:=Tryz.isAgg217
 z210:=Tryz.sizeOf217
 v210:=Tryz.zeroValue217
 t212:=Tryz.underlying229
 a212:=Tryz.isAgg229
 z212:=Tryz.sizeOf229
 v212:=Tryz.zeroValue229
 t213:=Tryz.underlying230
 a213:=Tryz.isAgg230
 z213:=Tryz.sizeOf230
 t232:=Tryz.underlying231
 a232:=Tryz.isAgg231
 z232:=Tryz.sizeOf231
 v232:=Tryz.zeroValue231
 t233:=Tryz.underlying232
 a233:=Tryz.isAgg232
 z233:=Tryz.sizeOf232
 v233:=Tryz.zeroValue232
 g15:=by kernel_rfl
 g16:=by kernel_rfl
 g17:=by kernel_rfl
 g18:=by kernel_rfl
 g19:=by kernel_rfl
 t80:=Tryz.underlying233
 a80:=Tryz.isAgg233
 z80:=Tryz.sizeOf233
 v80:=Tryz.zeroValue233
 i0:=by kernel_rfl
 i2:=by kernel_rfl
 i3:=by kernel_rfl
 i4:=by kernel_rfl
 i5:=by kernel_rfl
 i9:=by kernel_rfl
 i20:=by kernel_rfl
 i21:=by kernel_rfl
 i37:=by kernel_rfl
 i46:=by kernel_rfl
 i51:=by kernel_rfl
 i53:=by kernel_rfl
 i75:=by kernel_rfl
 i76:=by kernel_rfl
 i80:=by kernel_rfl
 i85:=by kernel_rfl
 i127:=by kernel_rfl
 i143:=by kernel_rfl
 i145:=by kernel_rfl
 i167:=by kernel_rfl
 i168:=by kernel_rfl
 i171:=by kernel_rfl
 i173:=by kernel_rfl
 i175:=by kernel_rfl
 i210:=by kernel_rfl
 i212:=by kernel_rfl
 i232:=by kernel_rfl
 i233:=by kernel_rfl
 m15:=by kernel_rfl
 m16:=by kernel_rfl
 m17:=by kernel_rfl
 m18:=by kernel_rfl
 m19:=by kernel_rfl
 c0:=by kernel_rfl
 c2:=by kernel_rfl
 c3:=by kernel_rfl
 c4:=by kernel_rfl
 c5:=by kernel_rfl
 c9:=by kernel_rfl
 c20:=by kernel_rfl
 c21:=by kernel_rfl
 c37:=by kernel_rfl
 c46:=by kernel_rfl
 c51:=by kernel_rfl
 c53:=by kernel_rfl
 c75:=by kernel_rfl
 c76:=by kernel_rfl
 c80:=by kernel_rfl
 c85:=by kernel_rfl
 c127:=by kernel_rfl
 c143:=by kernel_rfl
 c145:=by kernel_rfl
 c167:=by kernel_rfl
 c168:=by kernel_rfl
 c171:=by kernel_rfl
 c173:=by kernel_rfl
 c175:=by kernel_rfl
 c210:=by kernel_rfl
 c212:=by kernel_rfl
 c213:=by kernel_rfl
 c232:=by kernel_rfl
 c233:=by kernel_rfl}
open Go.RowKit in
theorem Tryz.strconv_Atoi_ok (s:ByteArray) (hmax:s.size≤9223372036854775806) (v:Int) (h:Lib.atoiAll s.data.toList=.ok v) (w:World) :
   Calls Tryz.prog 217 #[.string s] w fun e w'=>e=.returned (.tuple #[.int .i64 v,.nilIface])∧(w'=w∨∃t,w'=Lib.bytesWorld w 5 t):=Any.strconv_Atoi_ok Tryz.laysC172 s hmax v h w
open Go.RowKit in
theorem Tryz.strconv_Atoi_range (s:ByteArray) (hlim:s.size≤281474976710656) (h:Lib.atoiAll s.data.toList=.range) (ev:Value) (w:World) (hv:w.cell? ⟨2,0,none⟩=some ev) (hev:ev=.nilIface∨∃te pe,ev=.iface te pe) :
   Calls Tryz.prog 217 #[.string s] w fun e w'=>∃N,e=.returned (.tuple #[.int .i64 (Lib.atoiSat s.data.toList),.iface 206 (.pointer (some ⟨N,0,none⟩))])∧w.heap.size≤N∧w'.heap[N]? = some (.cells #[.string ⟨#[65,116,111,105]⟩,.string s,ev] 217 (0,0))∧Below w.heap.size w w':=Any.strconv_Atoi_range Tryz.laysC172 s hlim h ev w hv hev
def Tryz.lays219_ren:Go.Shelf.Ren:=⟨fun|219=>240|217=>253|225=>254|224=>255|267=>256|266=>267|314=>268|n=>n,fun|9=>9|3=>3|4=>4|5=>5|46=>146|146=>211|51=>174|n=>n,fun|1=>0|n=>n⟩
theorem Tryz.lays219:Go.Proofs.Lays.n219 Tryz.prog Tryz.lays219_ren:={
 mixed:=by kernel_rfl
 f217:=Tryz.func253.trans (congrArg some (by kernel_rfl))
 f219:=Tryz.func240.trans (congrArg some (by kernel_rfl))
 f224:=Tryz.func255.trans (congrArg some (by kernel_rfl))
 f225:=Tryz.func254.trans (congrArg some (by kernel_rfl))
 f266:=Tryz.func267.trans (congrArg some (by kernel_rfl))
 f267:=Tryz.func256.trans (congrArg some (by kernel_rfl))
 f314:=Tryz.func268.trans (congrArg some (by kernel_rfl))
 t3:=Tryz.underlying3
 a3:=Tryz.isAgg3
 z3:=Tryz.sizeOf3
 v3:=Tryz.zeroValue3
 t4:=Tryz.underlying4
 a4:=Tryz.isAgg4
 z4:=Tryz.sizeOf4
 v4:=Tryz.zeroValue4
 t5:=Tryz.underlying5
 a5:=Tryz.isAgg5
 z5:=Tryz.sizeOf5
 v5:=Tryz.zeroValue5
 t9:=Tryz.underlying9
 a9:=Tryz.isAgg9
 z9:=Tryz.sizeOf9
 v9:=Tryz.zeroValue9
 t46:=Tryz.underlying146
 a46:=Tryz.isAgg146
 z46:=Tryz.sizeOf146
 v46:=Tryz.zeroValue146
 t51:=Tryz.underlying174
 a51:=Tryz.isAgg174
 z51:=Tryz.sizeOf174
 v51:=Tryz.zeroValue174
 t146:=Tryz.underlying211
 a146:=Tryz.isAgg211
 z146:=Tryz.sizeOf211
 v146:=Tryz.zeroValue211
 g1:=by kernel_rfl}
open Go.RowKit Go.Lib in
theorem Tryz.stringslite_Index_one (s:ByteArray) (c:UInt8) (w:World) :
   Calls Tryz.prog 240 #[.string s,.string ⟨#[c]⟩] w fun e w'=>e=.returned (.int .i64 (Lib.indexByte s.data.toList c))∧w'=w:=Any.stringslite_Index_one Tryz.lays219 s c w
end Go.Proofs
namespace Go.Proofs
open Go.Shelf
def Tryz.laysNm216_ren:Go.Shelf.Ren:=⟨fun|16=>103|n=>n,fun|24=>25|9=>9|4=>4|n=>n,fun|n=>n⟩
theorem Tryz.laysNm216:Go.Proofs.Lays2.n16 Tryz.prog Tryz.laysNm216_ren:={
 mixed:=by kernel_rfl
 f16:=Tryz.func103.trans (congrArg some (by kernel_rfl))
 t4:=Tryz.underlying4
 a4:=Tryz.isAgg4
 z4:=Tryz.sizeOf4
 v4:=Tryz.zeroValue4
 t9:=Tryz.underlying9
 a9:=Tryz.isAgg9
 z9:=Tryz.sizeOf9
 v9:=Tryz.zeroValue9
 t24:=Tryz.underlying25
 a24:=Tryz.isAgg25
 z24:=Tryz.sizeOf25
 v24:=Tryz.zeroValue25
 i9:=by kernel_rfl}
open Go.RowKit Go.Lib in
theorem Tryz.slices_Clone_string (b off n c:Nat) (zs:List ByteArray) (w:World) (hz:n≤zs.length) (hbig:n*16≤140737488355328) (hc:∀j,j<zs.length→w.cell? ⟨b,off+j,none⟩=some (.string (zs.getD j ByteArray.empty))) :
   Calls Tryz.prog 103 #[.slice (some ⟨b,off,none⟩) n c] w fun e w'=>∃v',e=.returned v'∧w'.ownsRow w.heap.size 9 1 v' n ((zs.take n).map (Value.string))∧v'≠.slice none 0 0∧Below w.heap.size w w':=Any.slices_Clone_string Tryz.laysNm216 b off n c zs w hz hbig hc
open Go.RowKit Go.Lib in
theorem Tryz.slices_Clone_string_nil (n c:Nat) (w:World) :
   Calls Tryz.prog 103 #[.slice none n c] w fun e w'=>e=.returned (.slice none 0 0)∧w'=w:=Any.slices_Clone_string_nil Tryz.laysNm216 n c w
open Go.RowKit Go.Lib in
theorem Tryz.slices_Clone_string_zero (a:Addr) (c:Nat) (w:World) :
   Calls Tryz.prog 103 #[.slice (some a) 0 c] w fun e w'=>∃v',e=.returned v'∧w'.ownsRow w.heap.size 9 1 v' 0 []∧v'≠.slice none 0 0∧Below w.heap.size w w':=Any.slices_Clone_string_zero Tryz.laysNm216 a c w
end Go.Proofs
namespace Go.Proofs
open Go.Shelf
def Tryz.lays129_ren:Go.Shelf.Ren:=⟨fun|129=>213|n=>n,fun|53=>176|3=>3|4=>4|46=>146|5=>5|9=>9|n=>n,fun|n=>n⟩
theorem Tryz.lays129:Go.Proofs.Lays.n129 Tryz.prog Tryz.lays129_ren:={
 mixed:=by kernel_rfl
 f129:=Tryz.func213.trans (congrArg some (by kernel_rfl))
 t3:=Tryz.underlying3
 a3:=Tryz.isAgg3
 z3:=Tryz.sizeOf3
 v3:=Tryz.zeroValue3
 t4:=Tryz.underlying4
 a4:=Tryz.isAgg4
 z4:=Tryz.sizeOf4
 v4:=Tryz.zeroValue4
 t5:=Tryz.underlying5
 a5:=Tryz.isAgg5
 z5:=Tryz.sizeOf5
 v5:=Tryz.zeroValue5
 t9:=Tryz.underlying9
 a9:=Tryz.isAgg9
 z9:=Tryz.sizeOf9
 v9:=Tryz.zeroValue9
 t46:=Tryz.underlying146
 a46:=Tryz.isAgg146
 z46:=Tryz.sizeOf146
 v46:=Tryz.zeroValue146
 t53:=Tryz.underlying176
 a53:=Tryz.isAgg176
 z53:=Tryz.sizeOf176
 v53:=Tryz.zeroValue176}
theorem Tryz.bits_Len64 (x:Int) (w:World) (h0:0≤x) (h1:x≤18446744073709551615) :
   Calls Tryz.prog 213 #[.int .u64 x] w fun e w'=>e=.returned (.int .i64 (Lib.bitLen x.toNat))∧w'=w:=Any.bits_Len64 Tryz.lays129 x w h0 h1
end Go.Proofs
namespace Go.Proofs
open Go.Shelf
def Tryz.laysSort_ren:Go.Shelf.Ren:=⟨fun|189=>137|125=>177|257=>176|128=>212|129=>213|294=>203|295=>204|296=>205|297=>206|298=>207|299=>208|216=>209|300=>210|301=>211|328=>233|329=>234|330=>235|331=>236|332=>237|215=>238|343=>251|n=>n,fun|28=>34|3=>3|46=>146|0=>0|51=>174|53=>176|4=>4|183=>167|182=>166|131=>59|5=>5|9=>9|218=>188|222=>192|228=>199|229=>200|n=>n,fun|n=>n⟩
theorem Tryz.laysSort:Go.Proofs.Lays.n189 Tryz.prog Tryz.laysSort_ren:={
 mixed:=by kernel_rfl
 f125:=Tryz.func177.trans (congrArg some (by kernel_rfl))
 f128:=Tryz.func212.trans (congrArg some (by kernel_rfl))
 f129:=Tryz.func213.trans (congrArg some (by kernel_rfl))
 f189:=Tryz.func137.trans (congrArg some (by kernel_rfl))
 f215:=Tryz.func238.trans (congrArg some (by kernel_rfl))
 f216:=Tryz.func209.trans (congrArg some (by kernel_rfl))
 f257:=Tryz.func176.trans (congrArg some (by kernel_rfl))
 f294:=Tryz.func203.trans (congrArg some (by kernel_rfl))
 f295:=Tryz.func204.trans (congrArg some (by kernel_rfl))
 f296:=Tryz.func205.trans (congrArg some (by kernel_rfl))
 f297:=Tryz.func206.trans (congrArg some (by kernel_rfl))
 f298:=Tryz.func207.trans (congrArg some (by kernel_rfl))
 f299:=Tryz.func208.trans (congrArg some (by kernel_rfl))
 f300:=Tryz.func210.trans (congrArg some (by kernel_rfl))
 f301:=Tryz.func211.trans (congrArg some (by kernel_rfl))
 f328:=Tryz.func233.trans (congrArg some (by kernel_rfl))
 f329:=Tryz.func234.trans (congrArg some (by kernel_rfl))
 f330:=Tryz.func235.trans (congrArg some (by kernel_rfl))
 f331:=Tryz.func236.trans (congrArg some (by kernel_rfl))
 f332:=Tryz.func237.trans (congrArg some (by kernel_rfl))
 f343:=Tryz.func251.trans (congrArg some (by kernel_rfl))
 t0:=Tryz.underlying0
 a0:=Tryz.isAgg0
 z0:=Tryz.sizeOf0
 v0:=Tryz.zeroValue0
 t3:=Tryz.underlying3
 a3:=Tryz.isAgg3
 z3:=Tryz.sizeOf3
 v3:=Tryz.zeroValue3
 t4:=Tryz.underlying4
 a4:=Tryz.isAgg4
 z4:=Tryz.sizeOf4
 v4:=Tryz.zeroValue4
 t5:=Tryz.underlying5
 a5:=Tryz.isAgg5
 z5:=Tryz.sizeOf5
 v5:=Tryz.zeroValue5
 t9:=Tryz.underlying9
 a9:=Tryz.isAgg9
 z9:=Tryz.sizeOf9
 v9:=Tryz.zeroValue9
 t28:=Tryz.underlying34
 a28:=Tryz.isAgg34
 z28:=Tryz.sizeOf34
 v28:=Tryz.zeroValue34
 t46:=Tryz.underlying146
 a46:=Tryz.isAgg146
 z46:=Tryz.sizeOf146
 v46:=Tryz.zeroValue146
 t51:=Tryz.underlying174
 a51:=Tryz.isAgg174
 z51:=Tryz.sizeOf174
 v51:=Tryz.zeroValue174
 t53:=Tryz.underlying176
 a53:=Tryz.isAgg176
 z53:=Tryz.sizeOf176
 v53:=Tryz.zeroValue176
 t131:=Tryz.underlying59
 a131:=Tryz.isAgg59
 z131:=Tryz.sizeOf59
 v131:=Tryz.zeroValue59
 t182:=Tryz.underlying166
 a182:=Tryz.isAgg166
 z182:=Tryz.sizeOf166
 v182:=Tryz.zeroValue166
 t183:=Tryz.underlying167
 a183:=Tryz.isAgg167
 z183:=Tryz.sizeOf167
 v183:=Tryz.zeroValue167
 t218:=Tryz.underlying188
 a218:=Tryz.isAgg188
 z218:=Tryz.sizeOf188
 v218:=Tryz.zeroValue188
 t222:=Tryz.underlying192
 a222:=Tryz.isAgg192
 z222:=Tryz.sizeOf192
 v222:=Tryz.zeroValue192
 t228:=Tryz.underlying199
 a228:=Tryz.isAgg199
 z228:=Tryz.sizeOf199
 v228:=Tryz.zeroValue199
 t229:=Tryz.underlying200
 a229:=Tryz.isAgg200
 z229:=Tryz.sizeOf200
 v229:=Tryz.zeroValue200}
def Tryz.laysComp_ren:Go.Shelf.Ren:=⟨fun|20=>138|n=>n,fun|22=>34|3=>3|4=>4|0=>0|n=>n,fun|n=>n⟩
theorem Tryz.laysComp:Go.Proofs.Lays2.n20 Tryz.prog Tryz.laysComp_ren:={
 mixed:=by kernel_rfl
 f20:=Tryz.func138.trans (congrArg some (by kernel_rfl))
 t0:=Tryz.underlying0
 a0:=Tryz.isAgg0
 z0:=Tryz.sizeOf0
 v0:=Tryz.zeroValue0
 t3:=Tryz.underlying3
 a3:=Tryz.isAgg3
 z3:=Tryz.sizeOf3
 v3:=Tryz.zeroValue3
 t4:=Tryz.underlying4
 a4:=Tryz.isAgg4
 z4:=Tryz.sizeOf4
 v4:=Tryz.zeroValue4
 t22:=Tryz.underlying34
 a22:=Tryz.isAgg34
 z22:=Tryz.sizeOf34
 v22:=Tryz.zeroValue34
 i3:=by kernel_rfl}
end Go.Proofs
