/- Contracts of the library's functions at this program: applications of the kit's shelf. -/
import Derived.Shelf.LaysC
import Derived.Shelf.Strconv.AtoiAll
import Derived.Shelf.Strings.Search2
import Derived.Test.YthedhplpgfpodaaGreatDoorProg
import Derived.Shelf.LaysM
import Derived.Shelf.Strconv.Itoa3
import Derived.Shelf.Slices.Clone
import Derived.Shelf.Strconv.Itoa0
import Derived.Shelf.SlicesQ.Reverse
import Derived.Shelf.Sort.Plain
import Derived.Shelf.Slices.CompactI
import Derived.Shelf.SlSortCmp.SmallK
import Derived.Shelf.Small.Bits
import Derived.Shelf.Small.Strs
import Derived.Shelf.Spec.SlicesGrow
set_option linter.unusedSimpArgs false
set_option linter.unusedVariables false
namespace Go.Proofs
open Go.Shelf
def Tryz.laysC172_ren : Go.Shelf.Ren := ⟨fun | 172 => 276 | 244 => 301 | 245 => 302 | 247 => 316 | 279 => 317 | 280 => 318 | 281 => 319 | 282 => 320 | 287 => 335 | 316 => 336 | 171 => 292 | 205 => 337 | 321 => 346 | 322 => 347 | 243 => 309 | 246 => 330 | 283 => 342 | 284 => 343 | 285 => 344 | 286 => 345 | 129 => 183 | 317 => 349 | 318 => 350 | 319 => 351 | 320 => 352 | 337 => 353 | 338 => 354 | n => n, fun | 9 => 9 | 3 => 3 | 75 => 237 | 76 => 238 | 4 => 4 | 5 => 5 | 167 => 258 | 37 => 166 | 0 => 0 | 85 => 259 | 2 => 2 | 168 => 261 | 53 => 177 | 175 => 273 | 46 => 130 | 210 => 277 | 127 => 286 | 145 => 289 | 143 => 287 | 21 => 21 | 171 => 281 | 173 => 283 | 212 => 292 | 51 => 175 | 20 => 20 | 213 => 293 | 232 => 294 | 233 => 295 | 80 => 296 | n => n, fun | 15 => 1 | 16 => 2 | 17 => 3 | 18 => 4 | 19 => 5 | n => n⟩
theorem Tryz.laysC172 : Go.Proofs.LaysC.n172 Tryz.prog Tryz.laysC172_ren := {
  mixed := by kernel_rfl
  f129 := Tryz.func183.trans (congrArg some (by kernel_rfl))
  f171 := Tryz.func292.trans (congrArg some (by kernel_rfl))
  f172 := Tryz.func276.trans (congrArg some (by kernel_rfl))
  f205 := Tryz.func337.trans (congrArg some (by kernel_rfl))
  f243 := Tryz.func309.trans (congrArg some (by kernel_rfl))
  f244 := Tryz.func301.trans (congrArg some (by kernel_rfl))
  f245 := Tryz.func302.trans (congrArg some (by kernel_rfl))
  f246 := Tryz.func330.trans (congrArg some (by kernel_rfl))
  f247 := Tryz.func316.trans (congrArg some (by kernel_rfl))
  f279 := Tryz.func317.trans (congrArg some (by kernel_rfl))
  f280 := Tryz.func318.trans (congrArg some (by kernel_rfl))
  f281 := Tryz.func319.trans (congrArg some (by kernel_rfl))
  f282 := Tryz.func320.trans (congrArg some (by kernel_rfl))
  f283 := Tryz.func342.trans (congrArg some (by kernel_rfl))
  f284 := Tryz.func343.trans (congrArg some (by kernel_rfl))
  f285 := Tryz.func344.trans (congrArg some (by kernel_rfl))
  f286 := Tryz.func345.trans (congrArg some (by kernel_rfl))
  f287 := Tryz.func335.trans (congrArg some (by kernel_rfl))
  f316 := Tryz.func336.trans (congrArg some (by kernel_rfl))
  f317 := Tryz.func349.trans (congrArg some (by kernel_rfl))
  f318 := Tryz.func350.trans (congrArg some (by kernel_rfl))
  f319 := Tryz.func351.trans (congrArg some (by kernel_rfl))
  f320 := Tryz.func352.trans (congrArg some (by kernel_rfl))
  f321 := Tryz.func346.trans (congrArg some (by kernel_rfl))
  f322 := Tryz.func347.trans (congrArg some (by kernel_rfl))
  f337 := Tryz.func353.trans (congrArg some (by kernel_rfl))
  f338 := Tryz.func354.trans (congrArg some (by kernel_rfl))
  t0 := Tryz.underlying0
  a0 := Tryz.isAgg0
  z0 := Tryz.sizeOf0
  v0 := Tryz.zeroValue0
  t2 := Tryz.underlying2
  a2 := Tryz.isAgg2
  z2 := Tryz.sizeOf2
  v2 := Tryz.zeroValue2
  t3 := Tryz.underlying3
  a3 := Tryz.isAgg3
  z3 := Tryz.sizeOf3
  v3 := Tryz.zeroValue3
  t4 := Tryz.underlying4
  a4 := Tryz.isAgg4
  z4 := Tryz.sizeOf4
  v4 := Tryz.zeroValue4
  t5 := Tryz.underlying5
  a5 := Tryz.isAgg5
  z5 := Tryz.sizeOf5
  v5 := Tryz.zeroValue5
  t9 := Tryz.underlying9
  a9 := Tryz.isAgg9
  z9 := Tryz.sizeOf9
  v9 := Tryz.zeroValue9
  t20 := Tryz.underlying20
  a20 := Tryz.isAgg20
  z20 := Tryz.sizeOf20
  v20 := Tryz.zeroValue20
  t21 := Tryz.underlying21
  a21 := Tryz.isAgg21
  z21 := Tryz.sizeOf21
  v21 := Tryz.zeroValue21
  t37 := Tryz.underlying166
  a37 := Tryz.isAgg166
  z37 := Tryz.sizeOf166
  v37 := Tryz.zeroValue166
  t46 := Tryz.underlying130
  a46 := Tryz.isAgg130
  z46 := Tryz.sizeOf130
  v46 := Tryz.zeroValue130
  t51 := Tryz.underlying175
  a51 := Tryz.isAgg175
  z51 := Tryz.sizeOf175
  v51 := Tryz.zeroValue175
  t53 := Tryz.underlying177
  a53 := Tryz.isAgg177
  z53 := Tryz.sizeOf177
  v53 := Tryz.zeroValue177
  t75 := Tryz.underlying237
  a75 := Tryz.isAgg237
  z75 := Tryz.sizeOf237
  v75 := Tryz.zeroValue237
  t76 := Tryz.underlying238
  a76 := Tryz.isAgg238
  z76 := Tryz.sizeOf238
  v76 := Tryz.zeroValue238
  t85 := Tryz.underlying259
  a85 := Tryz.isAgg259
  z85 := Tryz.sizeOf259
  v85 := Tryz.zeroValue259
  t127 := Tryz.underlying286
  a127 := Tryz.isAgg286
  z127 := Tryz.sizeOf286
  v127 := Tryz.zeroValue286
  t143 := Tryz.underlying287
  a143 := Tryz.isAgg287
  z143 := Tryz.sizeOf287
  v143 := Tryz.zeroValue287
  t145 := Tryz.underlying289
  a145 := Tryz.isAgg289
  z145 := Tryz.sizeOf289
  v145 := Tryz.zeroValue289
  t167 := Tryz.underlying258
  a167 := Tryz.isAgg258
  z167 := Tryz.sizeOf258
  v167 := Tryz.zeroValue258
  t168 := Tryz.underlying261
  a168 := Tryz.isAgg261
  z168 := Tryz.sizeOf261
  v168 := Tryz.zeroValue261
  t171 := Tryz.underlying281
  a171 := Tryz.isAgg281
  z171 := Tryz.sizeOf281
  v171 := Tryz.zeroValue281
  t173 := Tryz.underlying283
  a173 := Tryz.isAgg283
  z173 := Tryz.sizeOf283
  v173 := Tryz.zeroValue283
  t175 := Tryz.underlying273
  a175 := Tryz.isAgg273
  z175 := Tryz.sizeOf273
  v175 := Tryz.zeroValue273
  t210 := Tryz.underlying277
  a210 := Tryz.isAgg277
  z210 := Tryz.sizeOf277
  v210 := Tryz.zeroValue277
  t212 := Tryz.underlying292
  a212 := Tryz.isAgg292
  z212 := Tryz.sizeOf292
  v212 := Tryz.zeroValue292
  t213 := Tryz.underlying293
  a213 := Tryz.isAgg293
  z213 := Tryz.sizeOf293
  t232 := Tryz.underlying294
  a232 := Tryz.isAgg294
  z232 := Tryz.sizeOf294
  v232 := Tryz.zeroValue294
  t233 := Tryz.underlying295
  a233 := Tryz.isAgg295
  z233 := Tryz.sizeOf295
  v233 := Tryz.zeroValue295
  g15 := by kernel_rfl
  g16 := by kernel_rfl
  g17 := by kernel_rfl
  g18 := by kernel_rfl
  g19 := by kernel_rfl
  t80 := Tryz.underlying296
  a80 := Tryz.isAgg296
  z80 := Tryz.sizeOf296
  v80 := Tryz.zeroValue296
  i0 := by kernel_rfl
  i2 := by kernel_rfl
  i3 := by kernel_rfl
  i4 := by kernel_rfl
  i5 := by kernel_rfl
  i9 := by kernel_rfl
  i20 := by kernel_rfl
  i21 := by kernel_rfl
  i37 := by kernel_rfl
  i46 := by kernel_rfl
  i51 := by kernel_rfl
  i53 := by kernel_rfl
  i75 := by kernel_rfl
  i76 := by kernel_rfl
  i80 := by kernel_rfl
  i85 := by kernel_rfl
  i127 := by kernel_rfl
  i143 := by kernel_rfl
  i145 := by kernel_rfl
  i167 := by kernel_rfl
  i168 := by kernel_rfl
  i171 := by kernel_rfl
  i173 := by kernel_rfl
  i175 := by kernel_rfl
  i210 := by kernel_rfl
  i212 := by kernel_rfl
  i232 := by kernel_rfl
  i233 := by kernel_rfl
  m15 := by kernel_rfl
  m16 := by kernel_rfl
  m17 := by kernel_rfl
  m18 := by kernel_rfl
  m19 := by kernel_rfl
  c0 := by kernel_rfl
  c2 := by kernel_rfl
  c3 := by kernel_rfl
  c4 := by kernel_rfl
  c5 := by kernel_rfl
  c9 := by kernel_rfl
  c20 := by kernel_rfl
  c21 := by kernel_rfl
  c37 := by kernel_rfl
  c46 := by kernel_rfl
  c51 := by kernel_rfl
  c53 := by kernel_rfl
  c75 := by kernel_rfl
  c76 := by kernel_rfl
  c80 := by kernel_rfl
  c85 := by kernel_rfl
  c127 := by kernel_rfl
  c143 := by kernel_rfl
  c145 := by kernel_rfl
  c167 := by kernel_rfl
  c168 := by kernel_rfl
  c171 := by kernel_rfl
  c173 := by kernel_rfl
  c175 := by kernel_rfl
  c210 := by kernel_rfl
  c212 := by kernel_rfl
  c213 := by kernel_rfl
  c232 := by kernel_rfl
  c233 := by kernel_rfl }
open Go.RowKit in
theorem Tryz.strconv_Atoi_ok (s : ByteArray) (hmax : s.size ≤ 9223372036854775806) (v : Int) (h : Lib.atoiAll s.data.toList = .ok v) (w : World) :
    Calls Tryz.prog 276 #[.string s] w fun e w' => e = .returned (.tuple #[.int .i64 v, .nilIface]) ∧ (w' = w ∨ ∃ t, w' = Lib.bytesWorld w 5 t) := Any.strconv_Atoi_ok Tryz.laysC172 s hmax v h w

open Go.RowKit in
theorem Tryz.strconv_Atoi_range (s : ByteArray) (hlim : s.size ≤ 281474976710656) (h : Lib.atoiAll s.data.toList = .range) (ev : Value) (w : World) (hv : w.cell? ⟨2, 0, none⟩ = some ev) (hev : ev = .nilIface ∨ ∃ te pe, ev = .iface te pe) :
    Calls Tryz.prog 276 #[.string s] w fun e w' => ∃ N, e = .returned (.tuple #[.int .i64 (Lib.atoiSat s.data.toList), .iface 261 (.pointer (some ⟨N, 0, none⟩))]) ∧ w.heap.size ≤ N ∧ w'.heap[N]? = some (.cells #[.string ⟨#[65, 116, 111, 105]⟩, .string s, ev] 277 (0, 0)) ∧ Below w.heap.size w w' := Any.strconv_Atoi_range Tryz.laysC172 s hlim h ev w hv hev
def Tryz.lays219_ren : Go.Shelf.Ren := ⟨fun | 219 => 300 | 217 => 312 | 225 => 313 | 224 => 314 | 267 => 315 | 266 => 333 | 314 => 334 | n => n, fun | 9 => 9 | 3 => 3 | 4 => 4 | 5 => 5 | 46 => 130 | 146 => 271 | 51 => 175 | n => n, fun | 1 => 0 | n => n⟩
theorem Tryz.lays219 : Go.Proofs.Lays.n219 Tryz.prog Tryz.lays219_ren := {
  mixed := by kernel_rfl
  f217 := Tryz.func312.trans (congrArg some (by kernel_rfl))
  f219 := Tryz.func300.trans (congrArg some (by kernel_rfl))
  f224 := Tryz.func314.trans (congrArg some (by kernel_rfl))
  f225 := Tryz.func313.trans (congrArg some (by kernel_rfl))
  f266 := Tryz.func333.trans (congrArg some (by kernel_rfl))
  f267 := Tryz.func315.trans (congrArg some (by kernel_rfl))
  f314 := Tryz.func334.trans (congrArg some (by kernel_rfl))
  t3 := Tryz.underlying3
  a3 := Tryz.isAgg3
  z3 := Tryz.sizeOf3
  v3 := Tryz.zeroValue3
  t4 := Tryz.underlying4
  a4 := Tryz.isAgg4
  z4 := Tryz.sizeOf4
  v4 := Tryz.zeroValue4
  t5 := Tryz.underlying5
  a5 := Tryz.isAgg5
  z5 := Tryz.sizeOf5
  v5 := Tryz.zeroValue5
  t9 := Tryz.underlying9
  a9 := Tryz.isAgg9
  z9 := Tryz.sizeOf9
  v9 := Tryz.zeroValue9
  t46 := Tryz.underlying130
  a46 := Tryz.isAgg130
  z46 := Tryz.sizeOf130
  v46 := Tryz.zeroValue130
  t51 := Tryz.underlying175
  a51 := Tryz.isAgg175
  z51 := Tryz.sizeOf175
  v51 := Tryz.zeroValue175
  t146 := Tryz.underlying271
  a146 := Tryz.isAgg271
  z146 := Tryz.sizeOf271
  v146 := Tryz.zeroValue271
  g1 := by kernel_rfl }
open Go.RowKit Go.Lib in
theorem Tryz.stringslite_Index_one (s : ByteArray) (c : UInt8) (w : World) :
    Calls Tryz.prog 300 #[.string s, .string ⟨#[c]⟩] w fun e w' => e = .returned (.int .i64 (Lib.indexByte s.data.toList c)) ∧ w' = w := Any.stringslite_Index_one Tryz.lays219 s c w
end Go.Proofs

namespace Go.Proofs
open Go.Shelf
def Tryz.laysNm216_ren : Go.Shelf.Ren := ⟨fun | 16 => 187 | n => n, fun | 24 => 25 | 9 => 9 | 4 => 4 | n => n, fun | n => n⟩
theorem Tryz.laysNm216 : Go.Proofs.Lays2.n16 Tryz.prog Tryz.laysNm216_ren := {
  mixed := by kernel_rfl
  f16 := Tryz.func187.trans (congrArg some (by kernel_rfl))
  t4 := Tryz.underlying4
  a4 := Tryz.isAgg4
  z4 := Tryz.sizeOf4
  v4 := Tryz.zeroValue4
  t9 := Tryz.underlying9
  a9 := Tryz.isAgg9
  z9 := Tryz.sizeOf9
  v9 := Tryz.zeroValue9
  t24 := Tryz.underlying25
  a24 := Tryz.isAgg25
  z24 := Tryz.sizeOf25
  v24 := Tryz.zeroValue25
  i9 := by kernel_rfl }
open Go.RowKit Go.Lib in
theorem Tryz.slices_Clone_string (b off n c : Nat) (zs : List ByteArray) (w : World) (hz : n ≤ zs.length) (hbig : n * 16 ≤ 140737488355328) (hc : ∀ j, j < zs.length → w.cell? ⟨b, off + j, none⟩ = some (.string (zs.getD j ByteArray.empty))) :
    Calls Tryz.prog 187 #[.slice (some ⟨b, off, none⟩) n c] w fun e w' => ∃ v', e = .returned v' ∧ w'.ownsRow w.heap.size 9 1 v' n ((zs.take n).map (Value.string)) ∧ v' ≠ .slice none 0 0 ∧ Below w.heap.size w w' := Any.slices_Clone_string Tryz.laysNm216 b off n c zs w hz hbig hc
open Go.RowKit Go.Lib in
theorem Tryz.slices_Clone_string_nil (n c : Nat) (w : World) :
    Calls Tryz.prog 187 #[.slice none n c] w fun e w' => e = .returned (.slice none 0 0) ∧ w' = w := Any.slices_Clone_string_nil Tryz.laysNm216 n c w
open Go.RowKit Go.Lib in
theorem Tryz.slices_Clone_string_zero (a : Addr) (c : Nat) (w : World) :
    Calls Tryz.prog 187 #[.slice (some a) 0 c] w fun e w' => ∃ v', e = .returned v' ∧ w'.ownsRow w.heap.size 9 1 v' 0 [] ∧ v' ≠ .slice none 0 0 ∧ Below w.heap.size w w' := Any.slices_Clone_string_zero Tryz.laysNm216 a c w
end Go.Proofs

namespace Go.Proofs
open Go.Shelf
end Go.Proofs

namespace Go.Proofs
open Go.Shelf
def Tryz.laysRev_ren : Go.Shelf.Ren := ⟨fun | 35 => 96 | n => n, fun | 22 => 26 | 23 => 28 | 3 => 3 | 4 => 4 | 0 => 0 | n => n, fun | n => n⟩
theorem Tryz.laysRev : Go.Proofs.SlLaysE0.n35 Tryz.prog Tryz.laysRev_ren := {
  mixed := by kernel_rfl
  f35 := ⟨Tryz.f96.name, by decide, Tryz.func96.trans (congrArg some (by kernel_rfl))⟩
  t0 := Tryz.underlying0
  a0 := Tryz.isAgg0
  z0 := Tryz.sizeOf0
  v0 := Tryz.zeroValue0
  t3 := Tryz.underlying3
  a3 := Tryz.isAgg3
  z3 := Tryz.sizeOf3
  v3 := Tryz.zeroValue3
  t4 := Tryz.underlying4
  a4 := Tryz.isAgg4
  z4 := Tryz.sizeOf4
  v4 := Tryz.zeroValue4
  t22 := Tryz.underlying26
  a22 := Tryz.isAgg26
  z22 := Tryz.sizeOf26
  v22 := Tryz.zeroValue26 }
end Go.Proofs

namespace Go.Proofs
open Go.Shelf
end Go.Proofs

namespace Go.Proofs
open Go.Shelf
def Tryz.sortCt_ren : Go.Shelf.Ren := ⟨fun | 6 => 58 | 15 => 113 | 14 => 112 | 28 => 182 | 29 => 183 | 20 => 174 | 21 => 175 | 22 => 176 | 23 => 177 | 24 => 178 | 25 => 179 | 26 => 180 | 27 => 181 | 46 => 231 | 47 => 232 | 48 => 233 | 49 => 234 | 50 => 235 | 57 => 280 | n => n, fun | 22 => 36 | 24 => 40 | 25 => 90 | 3 => 3 | 39 => 130 | 0 => 0 | 53 => 175 | 55 => 177 | 4 => 4 | 46 => 169 | 45 => 168 | 50 => 64 | 5 => 5 | 9 => 9 | 66 => 212 | 70 => 79 | 76 => 241 | 77 => 242 | n => n, fun | n => n⟩
theorem Tryz.sortCt : Go.Proofs.SlLaysF0.n6 Tryz.prog Tryz.sortCt_ren := {
  mixed := by kernel_rfl
  f6 := ⟨Tryz.f58.name, by decide, Tryz.func58.trans (congrArg some (by kernel_rfl))⟩
  f14 := ⟨Tryz.f112.name, by decide, Tryz.func112.trans (congrArg some (by kernel_rfl))⟩
  f15 := Tryz.func113.trans (congrArg some (by kernel_rfl))
  f20 := ⟨Tryz.f174.name, by decide, Tryz.func174.trans (congrArg some (by kernel_rfl))⟩
  f21 := ⟨Tryz.f175.name, by decide, Tryz.func175.trans (congrArg some (by kernel_rfl))⟩
  f22 := ⟨Tryz.f176.name, by decide, Tryz.func176.trans (congrArg some (by kernel_rfl))⟩
  f23 := ⟨Tryz.f177.name, by decide, Tryz.func177.trans (congrArg some (by kernel_rfl))⟩
  f24 := ⟨Tryz.f178.name, by decide, Tryz.func178.trans (congrArg some (by kernel_rfl))⟩
  f25 := ⟨Tryz.f179.name, by decide, Tryz.func179.trans (congrArg some (by kernel_rfl))⟩
  f26 := ⟨Tryz.f180.name, by decide, Tryz.func180.trans (congrArg some (by kernel_rfl))⟩
  f27 := ⟨Tryz.f181.name, by decide, Tryz.func181.trans (congrArg some (by kernel_rfl))⟩
  f28 := Tryz.func182.trans (congrArg some (by kernel_rfl))
  f29 := Tryz.func183.trans (congrArg some (by kernel_rfl))
  f46 := ⟨Tryz.f231.name, by decide, Tryz.func231.trans (congrArg some (by kernel_rfl))⟩
  f47 := Tryz.func232.trans (congrArg some (by kernel_rfl))
  f48 := Tryz.func233.trans (congrArg some (by kernel_rfl))
  f49 := ⟨Tryz.f234.name, by decide, Tryz.func234.trans (congrArg some (by kernel_rfl))⟩
  f50 := ⟨Tryz.f235.name, by decide, Tryz.func235.trans (congrArg some (by kernel_rfl))⟩
  f57 := ⟨Tryz.f280.name, by decide, Tryz.func280.trans (congrArg some (by kernel_rfl))⟩
  t0 := Tryz.underlying0
  a0 := Tryz.isAgg0
  z0 := Tryz.sizeOf0
  v0 := Tryz.zeroValue0
  t3 := Tryz.underlying3
  a3 := Tryz.isAgg3
  z3 := Tryz.sizeOf3
  v3 := Tryz.zeroValue3
  t4 := Tryz.underlying4
  a4 := Tryz.isAgg4
  z4 := Tryz.sizeOf4
  v4 := Tryz.zeroValue4
  t5 := Tryz.underlying5
  a5 := Tryz.isAgg5
  z5 := Tryz.sizeOf5
  v5 := Tryz.zeroValue5
  t9 := Tryz.underlying9
  a9 := Tryz.isAgg9
  z9 := Tryz.sizeOf9
  v9 := Tryz.zeroValue9
  t22 := Tryz.underlying36
  a22 := Tryz.isAgg36
  z22 := Tryz.sizeOf36
  v22 := Tryz.zeroValue36
  t25 := Tryz.underlying90
  a25 := Tryz.isAgg90
  z25 := Tryz.sizeOf90
  v25 := Tryz.zeroValue90
  t39 := Tryz.underlying130
  a39 := Tryz.isAgg130
  z39 := Tryz.sizeOf130
  v39 := Tryz.zeroValue130
  t45 := Tryz.underlying168
  a45 := Tryz.isAgg168
  z45 := Tryz.sizeOf168
  v45 := Tryz.zeroValue168
  t46 := Tryz.underlying169
  a46 := Tryz.isAgg169
  z46 := Tryz.sizeOf169
  v46 := Tryz.zeroValue169
  t50 := Tryz.underlying64
  a50 := Tryz.isAgg64
  z50 := Tryz.sizeOf64
  v50 := Tryz.zeroValue64
  t53 := Tryz.underlying175
  a53 := Tryz.isAgg175
  z53 := Tryz.sizeOf175
  v53 := Tryz.zeroValue175
  t55 := Tryz.underlying177
  a55 := Tryz.isAgg177
  z55 := Tryz.sizeOf177
  v55 := Tryz.zeroValue177
  t66 := Tryz.underlying212
  a66 := Tryz.isAgg212
  z66 := Tryz.sizeOf212
  v66 := Tryz.zeroValue212
  t70 := Tryz.underlying79
  a70 := Tryz.isAgg79
  z70 := Tryz.sizeOf79
  v70 := Tryz.zeroValue79
  t76 := Tryz.underlying241
  a76 := Tryz.isAgg241
  z76 := Tryz.sizeOf241
  v76 := Tryz.zeroValue241
  t77 := Tryz.underlying242
  a77 := Tryz.isAgg242
  z77 := Tryz.sizeOf242
  v77 := Tryz.zeroValue242 }
def Tryz.bitsLen_ren : Go.Shelf.Ren := ⟨fun | 125 => 113 | 128 => 182 | 129 => 183 | n => n, fun | 46 => 130 | 3 => 3 | 51 => 175 | 53 => 177 | 4 => 4 | 5 => 5 | 9 => 9 | n => n, fun | n => n⟩
theorem Tryz.bitsLen : Go.Proofs.Lays.n125 Tryz.prog Tryz.bitsLen_ren := {
  mixed := by kernel_rfl
  f125 := Tryz.func113.trans (congrArg some (by kernel_rfl))
  f128 := Tryz.func182.trans (congrArg some (by kernel_rfl))
  f129 := Tryz.func183.trans (congrArg some (by kernel_rfl))
  t3 := Tryz.underlying3
  a3 := Tryz.isAgg3
  z3 := Tryz.sizeOf3
  v3 := Tryz.zeroValue3
  t4 := Tryz.underlying4
  a4 := Tryz.isAgg4
  z4 := Tryz.sizeOf4
  v4 := Tryz.zeroValue4
  t5 := Tryz.underlying5
  a5 := Tryz.isAgg5
  z5 := Tryz.sizeOf5
  v5 := Tryz.zeroValue5
  t9 := Tryz.underlying9
  a9 := Tryz.isAgg9
  z9 := Tryz.sizeOf9
  v9 := Tryz.zeroValue9
  t46 := Tryz.underlying130
  a46 := Tryz.isAgg130
  z46 := Tryz.sizeOf130
  v46 := Tryz.zeroValue130
  t51 := Tryz.underlying175
  a51 := Tryz.isAgg175
  z51 := Tryz.sizeOf175
  v51 := Tryz.zeroValue175
  t53 := Tryz.underlying177
  a53 := Tryz.isAgg177
  z53 := Tryz.sizeOf177
  v53 := Tryz.zeroValue177 }
def Tryz.strsCmp_ren : Go.Shelf.Ren := ⟨fun | 106 => 60 | 213 => 114 | 265 => 184 | n => n, fun | 9 => 9 | 3 => 3 | n => n, fun | n => n⟩
theorem Tryz.strsCmp : Go.Proofs.Lays.n106 Tryz.prog Tryz.strsCmp_ren := {
  mixed := by kernel_rfl
  f106 := Tryz.func60.trans (congrArg some (by kernel_rfl))
  f213 := Tryz.func114.trans (congrArg some (by kernel_rfl))
  f265 := Tryz.func184.trans (congrArg some (by kernel_rfl))
  t3 := Tryz.underlying3
  a3 := Tryz.isAgg3
  z3 := Tryz.sizeOf3
  v3 := Tryz.zeroValue3
  t9 := Tryz.underlying9
  a9 := Tryz.isAgg9
  z9 := Tryz.sizeOf9
  v9 := Tryz.zeroValue9 }
end Go.Proofs

namespace Go.Proofs
open Go.Shelf
end Go.Proofs

namespace Go.Proofs
open Go.Shelf
def Tryz.growCt_ren : Go.Shelf.Ren := ⟨fun | 4 => 54 | n => n, fun | 22 => 36 | 25 => 40 | n => n, fun n => n⟩
theorem Tryz.growCt : Go.Proofs.Lays8.n4 Tryz.prog Tryz.growCt_ren := {
  mixed := by kernel_rfl
  f4 := ⟨Tryz.f54.name, by decide, Tryz.func54.trans (congrArg some (by kernel_rfl))⟩
  t0 := Tryz.underlying0
  a0 := Tryz.isAgg0
  z0 := Tryz.sizeOf0
  v0 := Tryz.zeroValue0
  t3 := Tryz.underlying3
  a3 := Tryz.isAgg3
  z3 := Tryz.sizeOf3
  v3 := Tryz.zeroValue3
  t4 := Tryz.underlying4
  a4 := Tryz.isAgg4
  z4 := Tryz.sizeOf4
  v4 := Tryz.zeroValue4
  t9 := Tryz.underlying9
  a9 := Tryz.isAgg9
  z9 := Tryz.sizeOf9
  v9 := Tryz.zeroValue9
  t20 := Tryz.underlying20
  a20 := Tryz.isAgg20
  z20 := Tryz.sizeOf20
  v20 := Tryz.zeroValue20
  t22 := Tryz.underlying36
  a22 := Tryz.isAgg36
  z22 := Tryz.sizeOf36
  v22 := Tryz.zeroValue36 }
end Go.Proofs
