/-
  DERIVED: THE SHELF's CONTRACTS AT THIS DUMP, IN PLAIN WORDS (tools/lay-plain.mjs out of 'TryzShelf.lean', which tools/lay-shelf.mjs wrote): THE SAME DECLARATIONS UNDER THE SAME NAMES: 'import', 'namespace', 'open', 'def', 'theorem' AND NOTHING ELSE: no command of the shelf's: FOR A HAND-IN. Each laying: the table of numbers ('.._ren') and one theorem, a field a fact of the dump's own or the kernel's comparison; each contract: ONE APPLICATION.
-/
import Derived.Shelf.SlGeneric
import Derived.Shelf.SlSortCmp.WholeK
import Derived.Ground.SlsfProg
import Derived.Shelf.Small.Bits
import Derived.Shelf.Small.Strs
import Derived.Shelf.Small.Wraps
import Derived.Shelf.Strconv.Atoi
import Derived.Shelf.Strconv.Itoa0
import Derived.Shelf.Strconv.Itoa1
import Derived.Shelf.LaysM
import Derived.Shelf.Strconv.Itoa2
import Derived.Shelf.Strconv.Itoa3
import Derived.Shelf.Strconv.AtoiFail
import Derived.Shelf.Strconv.Clone
import Derived.Shelf.Strconv.SyntaxError
import Derived.Shelf.LaysC
import Derived.Shelf.Strconv.ToError
import Derived.Shelf.Strconv.Lower
import Derived.Shelf.Strconv.AtoiLong
import Derived.Shelf.Strconv.AtoiInnerAll
import Derived.Shelf.Strconv.RangeError
import Derived.Shelf.Strconv.ToErrorRange
import Derived.Shelf.Strconv.AtoiAll
import Derived.Shelf.Strings.Search1
import Derived.Shelf.Strings.Search2
import Derived.Shelf.Strings.Search3
import Derived.Shelf.Strings.Cut
import Derived.Shelf.Strings.Count
import Derived.Shelf.Strings.Prefix
import Derived.Test.YtjncggaheahjiaaGreatDoorProg
namespace Go.Proofs
open Go.Shelf
def Tryz.lays125_ren : Go.Shelf.Ren := ⟨fun | 125 => 66 | 128 => 91 | 129 => 92 | n => n, fun | 46 => 92 | 3 => 3 | 51 => 114 | 53 => 96 | 4 => 4 | 5 => 5 | 9 => 9 | n => n, fun | n => n⟩
theorem Tryz.lays125 : Go.Proofs.Lays.n125 Tryz.prog Tryz.lays125_ren := {
 mixed := by kernel_rfl
 f125 := Tryz.func66.trans (congrArg some (by kernel_rfl))
 f128 := Tryz.func91.trans (congrArg some (by kernel_rfl))
 f129 := Tryz.func92.trans (congrArg some (by kernel_rfl))
 t3 := Tryz.underlying3
 a3 := Tryz.isAgg3
 z3 := Tryz.sizeOf3
 v3 := Tryz.zeroValue3
 t4 := Tryz.underlying4
 a4 := Tryz.isAgg4
 z4 := Tryz.sizeOf4
 v4 := Tryz.zeroValue4
 t5 := Tryz.underlying5
 a5 := Tryz.isAgg5
 z5 := Tryz.sizeOf5
 v5 := Tryz.zeroValue5
 t9 := Tryz.underlying9
 a9 := Tryz.isAgg9
 z9 := Tryz.sizeOf9
 v9 := Tryz.zeroValue9
 t46 := Tryz.underlying92
 a46 := Tryz.isAgg92
 z46 := Tryz.sizeOf92
 v46 := Tryz.zeroValue92
 t51 := Tryz.underlying114
 a51 := Tryz.isAgg114
 z51 := Tryz.sizeOf114
 v51 := Tryz.zeroValue114
 t53 := Tryz.underlying96
 a53 := Tryz.isAgg96
 z53 := Tryz.sizeOf96
 v53 := Tryz.zeroValue96 }
theorem Tryz.bits_Len (x : Int) (w : World) (h0 : 0 ≤ x) (h1 : x ≤ 18446744073709551615) :
   Calls Tryz.prog 66 #[.int .u64 x] w fun e w' => e = .returned (.int .i64 (Lib.bitLen x.toNat)) ∧ w' = w := Any.bits_Len Tryz.lays125 x w h0 h1
open Go.RowKit in
def Tryz.lays106_ren : Go.Shelf.Ren := ⟨fun | 106 => 52 | 213 => 67 | 265 => 93 | n => n, fun | 9 => 9 | 3 => 3 | n => n, fun | n => n⟩
theorem Tryz.lays106 : Go.Proofs.Lays.n106 Tryz.prog Tryz.lays106_ren := {
 mixed := by kernel_rfl
 f106 := Tryz.func52.trans (congrArg some (by kernel_rfl))
 f213 := Tryz.func67.trans (congrArg some (by kernel_rfl))
 f265 := Tryz.func93.trans (congrArg some (by kernel_rfl))
 t3 := Tryz.underlying3
 a3 := Tryz.isAgg3
 z3 := Tryz.sizeOf3
 v3 := Tryz.zeroValue3
 t9 := Tryz.underlying9
 a9 := Tryz.isAgg9
 z9 := Tryz.sizeOf9
 v9 := Tryz.zeroValue9 }
open Go.RowKit in
theorem Tryz.strings_Compare (a b : ByteArray) (w : World) :
   Calls Tryz.prog 52 #[.string a, .string b] w fun e w' => e = .returned (.int .i64 (Lib.compareBytes a.data.toList b.data.toList)) ∧ w' = w := Any.strings_Compare Tryz.lays106 a b w
open Go.RowKit in
def Tryz.lays122_ren : Go.Shelf.Ren := ⟨fun | 122 => 53 | 215 => 68 | n => n, fun | 3 => 3 | 4 => 4 | n => n, fun | n => n⟩
theorem Tryz.lays122 : Go.Proofs.Lays.n122 Tryz.prog Tryz.lays122_ren := {
 mixed := by kernel_rfl
 f122 := Tryz.func53.trans (congrArg some (by kernel_rfl))
 f215 := Tryz.func68.trans (congrArg some (by kernel_rfl))
 t3 := Tryz.underlying3
 a3 := Tryz.isAgg3
 z3 := Tryz.sizeOf3
 v3 := Tryz.zeroValue3
 t4 := Tryz.underlying4
 a4 := Tryz.isAgg4
 z4 := Tryz.sizeOf4
 v4 := Tryz.zeroValue4 }
open Go.RowKit in
theorem Tryz.cmp_Compare_int (x y : Int) (w : World) :
   Calls Tryz.prog 53 #[.int .i64 x, .int .i64 y] w fun e w' => e = .returned (.int .i64 (Lib.compareInt x y)) ∧ w' = w := Any.cmp_Compare_int Tryz.lays122 x y w
open Go.RowKit in
open Go.RowKit in
open Go.Lib in
open Go.Lib in
open Go.Lib in
open Go.Lib in
open Go.RowKit Go.Sort Go.Lib in
open Go.RowKit Go.Sort Go.Lib in
open Go.RowKit Go.Sort Go.Lib in
open Go.RowKit Go.Sort Go.Lib in
open Go.RowKit Go.Sort Go.Lib in
def Tryz.laysM171_ren : Go.Shelf.Ren := ⟨fun | 171 => 21 | 243 => 39 | 246 => 57 | 283 => 69 | 284 => 70 | 285 => 71 | 286 => 72 | 129 => 92 | 317 => 94 | 318 => 95 | 319 => 96 | 320 => 97 | 337 => 114 | 338 => 115 | n => n, fun | 3 => 3 | 9 => 9 | 2 => 2 | 4 => 4 | 171 => 95 | 0 => 0 | 53 => 96 | 37 => 47 | 5 => 5 | 173 => 99 | 212 => 116 | 51 => 114 | 20 => 20 | 213 => 117 | 46 => 92 | 232 => 144 | 233 => 145 | n => n, fun | 17 => 1 | 18 => 4 | 19 => 5 | n => n⟩
theorem Tryz.laysM171 : Go.Proofs.LaysM.n171 Tryz.prog Tryz.laysM171_ren := {
 mixed := by kernel_rfl
 f129 := Tryz.func92.trans (congrArg some (by kernel_rfl))
 f171 := Tryz.func21.trans (congrArg some (by kernel_rfl))
 f243 := Tryz.func39.trans (congrArg some (by kernel_rfl))
 f246 := Tryz.func57.trans (congrArg some (by kernel_rfl))
 f283 := Tryz.func69.trans (congrArg some (by kernel_rfl))
 f284 := Tryz.func70.trans (congrArg some (by kernel_rfl))
 f285 := Tryz.func71.trans (congrArg some (by kernel_rfl))
 f286 := Tryz.func72.trans (congrArg some (by kernel_rfl))
 f317 := Tryz.func94.trans (congrArg some (by kernel_rfl))
 f318 := Tryz.func95.trans (congrArg some (by kernel_rfl))
 f319 := Tryz.func96.trans (congrArg some (by kernel_rfl))
 f320 := Tryz.func97.trans (congrArg some (by kernel_rfl))
 f337 := Tryz.func114.trans (congrArg some (by kernel_rfl))
 f338 := Tryz.func115.trans (congrArg some (by kernel_rfl))
 t0 := Tryz.underlying0
 a0 := Tryz.isAgg0
 z0 := Tryz.sizeOf0
 v0 := Tryz.zeroValue0
 t2 := Tryz.underlying2
 a2 := Tryz.isAgg2
 z2 := Tryz.sizeOf2
 v2 := Tryz.zeroValue2
 t3 := Tryz.underlying3
 a3 := Tryz.isAgg3
 z3 := Tryz.sizeOf3
 v3 := Tryz.zeroValue3
 t4 := Tryz.underlying4
 a4 := Tryz.isAgg4
 z4 := Tryz.sizeOf4
 v4 := Tryz.zeroValue4
 t5 := Tryz.underlying5
 a5 := Tryz.isAgg5
 z5 := Tryz.sizeOf5
 v5 := Tryz.zeroValue5
 t9 := Tryz.underlying9
 a9 := Tryz.isAgg9
 z9 := Tryz.sizeOf9
 v9 := Tryz.zeroValue9
 t20 := Tryz.underlying20
 a20 := Tryz.isAgg20
 z20 := Tryz.sizeOf20
 v20 := Tryz.zeroValue20
 t37 := Tryz.underlying47
 a37 := Tryz.isAgg47
 z37 := Tryz.sizeOf47
 v37 := Tryz.zeroValue47
 t46 := Tryz.underlying92
 a46 := Tryz.isAgg92
 z46 := Tryz.sizeOf92
 v46 := Tryz.zeroValue92
 t51 := Tryz.underlying114
 a51 := Tryz.isAgg114
 z51 := Tryz.sizeOf114
 v51 := Tryz.zeroValue114
 t53 := Tryz.underlying96
 a53 := Tryz.isAgg96
 z53 := Tryz.sizeOf96
 v53 := Tryz.zeroValue96
 t171 := Tryz.underlying95
 a171 := Tryz.isAgg95
 z171 := Tryz.sizeOf95
 v171 := Tryz.zeroValue95
 t173 := Tryz.underlying99
 a173 := Tryz.isAgg99
 z173 := Tryz.sizeOf99
 v173 := Tryz.zeroValue99
 t212 := Tryz.underlying116
 a212 := Tryz.isAgg116
 z212 := Tryz.sizeOf116
 v212 := Tryz.zeroValue116
 t213 := Tryz.underlying117
 a213 := Tryz.isAgg117
 z213 := Tryz.sizeOf117
 t232 := Tryz.underlying144
 a232 := Tryz.isAgg144
 z232 := Tryz.sizeOf144
 v232 := Tryz.zeroValue144
 t233 := Tryz.underlying145
 a233 := Tryz.isAgg145
 z233 := Tryz.sizeOf145
 v233 := Tryz.zeroValue145
 g17 := by kernel_rfl
 g18 := by kernel_rfl
 g19 := by kernel_rfl
 i0 := by kernel_rfl
 i2 := by kernel_rfl
 i3 := by kernel_rfl
 i4 := by kernel_rfl
 i5 := by kernel_rfl
 i9 := by kernel_rfl
 i20 := by kernel_rfl
 i37 := by kernel_rfl
 i46 := by kernel_rfl
 i51 := by kernel_rfl
 i53 := by kernel_rfl
 i171 := by kernel_rfl
 i173 := by kernel_rfl
 i212 := by kernel_rfl
 i232 := by kernel_rfl
 i233 := by kernel_rfl
 m17 := by kernel_rfl
 m18 := by kernel_rfl
 m19 := by kernel_rfl }
open Go.RowKit Go.Sort Go.Lib in
theorem Tryz.strconv_Itoa (n : Int) (h0 : -9223372036854775808 ≤ n) (h1 : n ≤ 9223372036854775807) (w : World) (htab : Lib.TabIs Tryz.prog w "internal/strconv.uint64pow10" .u64 Lib.pow10Tab) :
   Calls Tryz.prog 21 #[.int .i64 n] w fun e w' => e = .returned (.string ⟨(Lib.itoa n).toArray⟩) ∧ ∃ k os, w' = grow (w.drewN k) os := Any.strconv_Itoa Tryz.laysM171 n h0 h1 w htab
open Go.RowKit Go.Sort Go.Lib in
open Go.RowKit in
open Go.RowKit in
open Go.RowKit in
open Go.RowKit in
open Go.RowKit in
open Go.RowKit in
open Go.RowKit in
open Go.RowKit in
open Go.RowKit in
open Go.RowKit in
def Tryz.laysC172_ren : Go.Shelf.Ren := ⟨fun | 172 => 60 | 244 => 80 | 245 => 81 | 247 => 103 | 279 => 104 | 280 => 105 | 281 => 106 | 282 => 107 | 287 => 117 | 316 => 118 | 171 => 21 | 205 => 119 | 321 => 121 | 322 => 122 | 243 => 39 | 246 => 57 | 283 => 69 | 284 => 70 | 285 => 71 | 286 => 72 | 129 => 92 | 317 => 94 | 318 => 95 | 319 => 96 | 320 => 97 | 337 => 114 | 338 => 115 | n => n, fun | 9 => 9 | 3 => 3 | 75 => 51 | 76 => 52 | 4 => 4 | 5 => 5 | 167 => 122 | 37 => 47 | 0 => 0 | 85 => 123 | 2 => 2 | 168 => 125 | 53 => 96 | 175 => 135 | 46 => 92 | 210 => 139 | 127 => 70 | 145 => 153 | 143 => 151 | 21 => 21 | 171 => 95 | 173 => 99 | 212 => 116 | 51 => 114 | 20 => 20 | 213 => 117 | 232 => 144 | 233 => 145 | 80 => 55 | n => n, fun | 15 => 2 | 16 => 3 | 17 => 1 | 18 => 4 | 19 => 5 | n => n⟩
theorem Tryz.laysC172 : Go.Proofs.LaysC.n172 Tryz.prog Tryz.laysC172_ren := {
 mixed := by kernel_rfl
 f129 := Tryz.func92.trans (congrArg some (by kernel_rfl))
 f171 := Tryz.func21.trans (congrArg some (by kernel_rfl))
 f172 := Tryz.func60.trans (congrArg some (by kernel_rfl))
 f205 := Tryz.func119.trans (congrArg some (by kernel_rfl))
 f243 := Tryz.func39.trans (congrArg some (by kernel_rfl))
 f244 := Tryz.func80.trans (congrArg some (by kernel_rfl))
 f245 := Tryz.func81.trans (congrArg some (by kernel_rfl))
 f246 := Tryz.func57.trans (congrArg some (by kernel_rfl))
 f247 := Tryz.func103.trans (congrArg some (by kernel_rfl))
 f279 := Tryz.func104.trans (congrArg some (by kernel_rfl))
 f280 := Tryz.func105.trans (congrArg some (by kernel_rfl))
 f281 := Tryz.func106.trans (congrArg some (by kernel_rfl))
 f282 := Tryz.func107.trans (congrArg some (by kernel_rfl))
 f283 := Tryz.func69.trans (congrArg some (by kernel_rfl))
 f284 := Tryz.func70.trans (congrArg some (by kernel_rfl))
 f285 := Tryz.func71.trans (congrArg some (by kernel_rfl))
 f286 := Tryz.func72.trans (congrArg some (by kernel_rfl))
 f287 := Tryz.func117.trans (congrArg some (by kernel_rfl))
 f316 := Tryz.func118.trans (congrArg some (by kernel_rfl))
 f317 := Tryz.func94.trans (congrArg some (by kernel_rfl))
 f318 := Tryz.func95.trans (congrArg some (by kernel_rfl))
 f319 := Tryz.func96.trans (congrArg some (by kernel_rfl))
 f320 := Tryz.func97.trans (congrArg some (by kernel_rfl))
 f321 := Tryz.func121.trans (congrArg some (by kernel_rfl))
 f322 := Tryz.func122.trans (congrArg some (by kernel_rfl))
 f337 := Tryz.func114.trans (congrArg some (by kernel_rfl))
 f338 := Tryz.func115.trans (congrArg some (by kernel_rfl))
 t0 := Tryz.underlying0
 a0 := Tryz.isAgg0
 z0 := Tryz.sizeOf0
 v0 := Tryz.zeroValue0
 t2 := Tryz.underlying2
 a2 := Tryz.isAgg2
 z2 := Tryz.sizeOf2
 v2 := Tryz.zeroValue2
 t3 := Tryz.underlying3
 a3 := Tryz.isAgg3
 z3 := Tryz.sizeOf3
 v3 := Tryz.zeroValue3
 t4 := Tryz.underlying4
 a4 := Tryz.isAgg4
 z4 := Tryz.sizeOf4
 v4 := Tryz.zeroValue4
 t5 := Tryz.underlying5
 a5 := Tryz.isAgg5
 z5 := Tryz.sizeOf5
 v5 := Tryz.zeroValue5
 t9 := Tryz.underlying9
 a9 := Tryz.isAgg9
 z9 := Tryz.sizeOf9
 v9 := Tryz.zeroValue9
 t20 := Tryz.underlying20
 a20 := Tryz.isAgg20
 z20 := Tryz.sizeOf20
 v20 := Tryz.zeroValue20
 t21 := Tryz.underlying21
 a21 := Tryz.isAgg21
 z21 := Tryz.sizeOf21
 v21 := Tryz.zeroValue21
 t37 := Tryz.underlying47
 a37 := Tryz.isAgg47
 z37 := Tryz.sizeOf47
 v37 := Tryz.zeroValue47
 t46 := Tryz.underlying92
 a46 := Tryz.isAgg92
 z46 := Tryz.sizeOf92
 v46 := Tryz.zeroValue92
 t51 := Tryz.underlying114
 a51 := Tryz.isAgg114
 z51 := Tryz.sizeOf114
 v51 := Tryz.zeroValue114
 t53 := Tryz.underlying96
 a53 := Tryz.isAgg96
 z53 := Tryz.sizeOf96
 v53 := Tryz.zeroValue96
 t75 := Tryz.underlying51
 a75 := Tryz.isAgg51
 z75 := Tryz.sizeOf51
 v75 := Tryz.zeroValue51
 t76 := Tryz.underlying52
 a76 := Tryz.isAgg52
 z76 := Tryz.sizeOf52
 v76 := Tryz.zeroValue52
 t85 := Tryz.underlying123
 a85 := Tryz.isAgg123
 z85 := Tryz.sizeOf123
 v85 := Tryz.zeroValue123
 t127 := Tryz.underlying70
 a127 := Tryz.isAgg70
 z127 := Tryz.sizeOf70
 v127 := Tryz.zeroValue70
 t143 := Tryz.underlying151
 a143 := Tryz.isAgg151
 z143 := Tryz.sizeOf151
 v143 := Tryz.zeroValue151
 t145 := Tryz.underlying153
 a145 := Tryz.isAgg153
 z145 := Tryz.sizeOf153
 v145 := Tryz.zeroValue153
 t167 := Tryz.underlying122
 a167 := Tryz.isAgg122
 z167 := Tryz.sizeOf122
 v167 := Tryz.zeroValue122
 t168 := Tryz.underlying125
 a168 := Tryz.isAgg125
 z168 := Tryz.sizeOf125
 v168 := Tryz.zeroValue125
 t171 := Tryz.underlying95
 a171 := Tryz.isAgg95
 z171 := Tryz.sizeOf95
 v171 := Tryz.zeroValue95
 t173 := Tryz.underlying99
 a173 := Tryz.isAgg99
 z173 := Tryz.sizeOf99
 v173 := Tryz.zeroValue99
 t175 := Tryz.underlying135
 a175 := Tryz.isAgg135
 z175 := Tryz.sizeOf135
 v175 := Tryz.zeroValue135
 t210 := Tryz.underlying139
 a210 := Tryz.isAgg139
 z210 := Tryz.sizeOf139
 v210 := Tryz.zeroValue139
 t212 := Tryz.underlying116
 a212 := Tryz.isAgg116
 z212 := Tryz.sizeOf116
 v212 := Tryz.zeroValue116
 t213 := Tryz.underlying117
 a213 := Tryz.isAgg117
 z213 := Tryz.sizeOf117
 t232 := Tryz.underlying144
 a232 := Tryz.isAgg144
 z232 := Tryz.sizeOf144
 v232 := Tryz.zeroValue144
 t233 := Tryz.underlying145
 a233 := Tryz.isAgg145
 z233 := Tryz.sizeOf145
 v233 := Tryz.zeroValue145
 g15 := by kernel_rfl
 g16 := by kernel_rfl
 g17 := by kernel_rfl
 g18 := by kernel_rfl
 g19 := by kernel_rfl
 t80 := Tryz.underlying55
 a80 := Tryz.isAgg55
 z80 := Tryz.sizeOf55
 v80 := Tryz.zeroValue55
 i0 := by kernel_rfl
 i2 := by kernel_rfl
 i3 := by kernel_rfl
 i4 := by kernel_rfl
 i5 := by kernel_rfl
 i9 := by kernel_rfl
 i20 := by kernel_rfl
 i21 := by kernel_rfl
 i37 := by kernel_rfl
 i46 := by kernel_rfl
 i51 := by kernel_rfl
 i53 := by kernel_rfl
 i75 := by kernel_rfl
 i76 := by kernel_rfl
 i80 := by kernel_rfl
 i85 := by kernel_rfl
 i127 := by kernel_rfl
 i143 := by kernel_rfl
 i145 := by kernel_rfl
 i167 := by kernel_rfl
 i168 := by kernel_rfl
 i171 := by kernel_rfl
 i173 := by kernel_rfl
 i175 := by kernel_rfl
 i210 := by kernel_rfl
 i212 := by kernel_rfl
 i232 := by kernel_rfl
 i233 := by kernel_rfl
 m15 := by kernel_rfl
 m16 := by kernel_rfl
 m17 := by kernel_rfl
 m18 := by kernel_rfl
 m19 := by kernel_rfl
 c0 := by kernel_rfl
 c2 := by kernel_rfl
 c3 := by kernel_rfl
 c4 := by kernel_rfl
 c5 := by kernel_rfl
 c9 := by kernel_rfl
 c20 := by kernel_rfl
 c21 := by kernel_rfl
 c37 := by kernel_rfl
 c46 := by kernel_rfl
 c51 := by kernel_rfl
 c53 := by kernel_rfl
 c75 := by kernel_rfl
 c76 := by kernel_rfl
 c80 := by kernel_rfl
 c85 := by kernel_rfl
 c127 := by kernel_rfl
 c143 := by kernel_rfl
 c145 := by kernel_rfl
 c167 := by kernel_rfl
 c168 := by kernel_rfl
 c171 := by kernel_rfl
 c173 := by kernel_rfl
 c175 := by kernel_rfl
 c210 := by kernel_rfl
 c212 := by kernel_rfl
 c213 := by kernel_rfl
 c232 := by kernel_rfl
 c233 := by kernel_rfl }
open Go.RowKit in
theorem Tryz.strconv_Atoi_ok (s : ByteArray) (hmax : s.size ≤ 9223372036854775806) (v : Int) (h : Lib.atoiAll s.data.toList = .ok v) (w : World) :
   Calls Tryz.prog 60 #[.string s] w fun e w' => e = .returned (.tuple #[.int .i64 v, .nilIface]) ∧ (w' = w ∨ ∃ t, w' = Lib.bytesWorld w 5 t) := Any.strconv_Atoi_ok Tryz.laysC172 s hmax v h w
open Go.RowKit in
theorem Tryz.strconv_Atoi_syntax (s : ByteArray) (hlim : s.size ≤ 281474976710656) (h : Lib.atoiAll s.data.toList = Lib.atoiAll []) (ev : Value) (w : World) (hv : w.cell? ⟨2, 0, none⟩ = some ev) (hev : ev = .nilIface ∨ ∃ te pe, ev = .iface te pe) :
   Calls Tryz.prog 60 #[.string s] w fun e w' => ∃ N, e = .returned (.tuple #[.int .i64 (0), .iface 125 (.pointer (some ⟨N, 0, none⟩))]) ∧ w.heap.size ≤ N ∧ w'.heap[N]? = some (.cells #[.string ⟨#[65, 116, 111, 105]⟩, .string s, ev] 139 (0, 0)) ∧ Below w.heap.size w w' := Any.strconv_Atoi_syntax Tryz.laysC172 s hlim h ev w hv hev
open Go.RowKit in
theorem Tryz.strconv_Atoi_range (s : ByteArray) (hlim : s.size ≤ 281474976710656) (h : Lib.atoiAll s.data.toList = .range) (ev : Value) (w : World) (hv : w.cell? ⟨3, 0, none⟩ = some ev) (hev : ev = .nilIface ∨ ∃ te pe, ev = .iface te pe) :
   Calls Tryz.prog 60 #[.string s] w fun e w' => ∃ N, e = .returned (.tuple #[.int .i64 (Lib.atoiSat s.data.toList), .iface 125 (.pointer (some ⟨N, 0, none⟩))]) ∧ w.heap.size ≤ N ∧ w'.heap[N]? = some (.cells #[.string ⟨#[65, 116, 111, 105]⟩, .string s, ev] 139 (0, 0)) ∧ Below w.heap.size w w' := Any.strconv_Atoi_range Tryz.laysC172 s hlim h ev w hv hev
open Go.RowKit Go.Lib in
open Go.RowKit Go.Lib in
open Go.RowKit Go.Lib in
open Go.RowKit Go.Lib in
def Tryz.lays219_ren : Go.Shelf.Ren := ⟨fun | 219 => 58 | 217 => 73 | 225 => 74 | 224 => 75 | 267 => 76 | 266 => 98 | 314 => 99 | n => n, fun | 9 => 9 | 3 => 3 | 4 => 4 | 5 => 5 | 46 => 92 | 146 => 118 | 51 => 114 | n => n, fun | 1 => 0 | n => n⟩
theorem Tryz.lays219 : Go.Proofs.Lays.n219 Tryz.prog Tryz.lays219_ren := {
 mixed := by kernel_rfl
 f217 := Tryz.func73.trans (congrArg some (by kernel_rfl))
 f219 := Tryz.func58.trans (congrArg some (by kernel_rfl))
 f224 := Tryz.func75.trans (congrArg some (by kernel_rfl))
 f225 := Tryz.func74.trans (congrArg some (by kernel_rfl))
 f266 := Tryz.func98.trans (congrArg some (by kernel_rfl))
 f267 := Tryz.func76.trans (congrArg some (by kernel_rfl))
 f314 := Tryz.func99.trans (congrArg some (by kernel_rfl))
 t3 := Tryz.underlying3
 a3 := Tryz.isAgg3
 z3 := Tryz.sizeOf3
 v3 := Tryz.zeroValue3
 t4 := Tryz.underlying4
 a4 := Tryz.isAgg4
 z4 := Tryz.sizeOf4
 v4 := Tryz.zeroValue4
 t5 := Tryz.underlying5
 a5 := Tryz.isAgg5
 z5 := Tryz.sizeOf5
 v5 := Tryz.zeroValue5
 t9 := Tryz.underlying9
 a9 := Tryz.isAgg9
 z9 := Tryz.sizeOf9
 v9 := Tryz.zeroValue9
 t46 := Tryz.underlying92
 a46 := Tryz.isAgg92
 z46 := Tryz.sizeOf92
 v46 := Tryz.zeroValue92
 t51 := Tryz.underlying114
 a51 := Tryz.isAgg114
 z51 := Tryz.sizeOf114
 v51 := Tryz.zeroValue114
 t146 := Tryz.underlying118
 a146 := Tryz.isAgg118
 z146 := Tryz.sizeOf118
 v146 := Tryz.zeroValue118
 g1 := by kernel_rfl }
open Go.RowKit Go.Lib in
theorem Tryz.stringslite_Index_one (s : ByteArray) (c : UInt8) (w : World) :
   Calls Tryz.prog 58 #[.string s, .string ⟨#[c]⟩] w fun e w' => e = .returned (.int .i64 (Lib.indexByte s.data.toList c)) ∧ w' = w := Any.stringslite_Index_one Tryz.lays219 s c w
open Go.RowKit Go.Lib in
def Tryz.lays143_ren : Go.Shelf.Ren := ⟨fun | 143 => 79 | 219 => 58 | 217 => 73 | 225 => 74 | 224 => 75 | 267 => 76 | 266 => 98 | 314 => 99 | n => n, fun | 9 => 9 | 3 => 3 | 4 => 4 | 5 => 5 | 46 => 92 | 146 => 118 | 51 => 114 | n => n, fun | 1 => 0 | n => n⟩
theorem Tryz.lays143 : Go.Proofs.Lays.n143 Tryz.prog Tryz.lays143_ren := {
 mixed := by kernel_rfl
 f143 := Tryz.func79.trans (congrArg some (by kernel_rfl))
 f217 := Tryz.func73.trans (congrArg some (by kernel_rfl))
 f219 := Tryz.func58.trans (congrArg some (by kernel_rfl))
 f224 := Tryz.func75.trans (congrArg some (by kernel_rfl))
 f225 := Tryz.func74.trans (congrArg some (by kernel_rfl))
 f266 := Tryz.func98.trans (congrArg some (by kernel_rfl))
 f267 := Tryz.func76.trans (congrArg some (by kernel_rfl))
 f314 := Tryz.func99.trans (congrArg some (by kernel_rfl))
 t3 := Tryz.underlying3
 a3 := Tryz.isAgg3
 z3 := Tryz.sizeOf3
 v3 := Tryz.zeroValue3
 t4 := Tryz.underlying4
 a4 := Tryz.isAgg4
 z4 := Tryz.sizeOf4
 v4 := Tryz.zeroValue4
 t5 := Tryz.underlying5
 a5 := Tryz.isAgg5
 z5 := Tryz.sizeOf5
 v5 := Tryz.zeroValue5
 t9 := Tryz.underlying9
 a9 := Tryz.isAgg9
 z9 := Tryz.sizeOf9
 v9 := Tryz.zeroValue9
 t46 := Tryz.underlying92
 a46 := Tryz.isAgg92
 z46 := Tryz.sizeOf92
 v46 := Tryz.zeroValue92
 t51 := Tryz.underlying114
 a51 := Tryz.isAgg114
 z51 := Tryz.sizeOf114
 v51 := Tryz.zeroValue114
 t146 := Tryz.underlying118
 a146 := Tryz.isAgg118
 z146 := Tryz.sizeOf118
 v146 := Tryz.zeroValue118
 g1 := by kernel_rfl }
open Go.RowKit Go.Lib in
theorem Tryz.strings_Index_one (s : ByteArray) (c : UInt8) (w : World) :
   Calls Tryz.prog 79 #[.string s, .string ⟨#[c]⟩] w fun e w' => e = .returned (.int .i64 (Lib.indexByte s.data.toList c)) ∧ w' = w := Any.strings_Index_one Tryz.lays143 s c w
open Go.RowKit Go.Lib in
theorem Tryz.strings_Index (s sub : ByteArray) (m : Int) (w : World) (hs : s.size < 4294967281) (hm : w.cell? ⟨0, 0, none⟩ = some (.int .i64 m)) :
   Calls Tryz.prog 79 #[.string s, .string sub] w fun e w' => e = .returned (.int .i64 (Lib.index s.data.toList sub.data.toList)) ∧ w' = w := Any.strings_Index Tryz.lays143 s sub m w hs hm
open Go.RowKit Go.Lib in
def Tryz.lays145_ren : Go.Shelf.Ren := ⟨fun | 145 => 25 | 220 => 41 | 219 => 58 | 217 => 73 | 225 => 74 | 224 => 75 | 267 => 76 | 266 => 98 | 314 => 99 | n => n, fun | 9 => 9 | 4 => 4 | 59 => 56 | 3 => 3 | 5 => 5 | 46 => 92 | 146 => 118 | 51 => 114 | n => n, fun | 1 => 0 | n => n⟩
theorem Tryz.lays145 : Go.Proofs.Lays.n145 Tryz.prog Tryz.lays145_ren := {
 mixed := by kernel_rfl
 f145 := Tryz.func25.trans (congrArg some (by kernel_rfl))
 f217 := Tryz.func73.trans (congrArg some (by kernel_rfl))
 f219 := Tryz.func58.trans (congrArg some (by kernel_rfl))
 f220 := Tryz.func41.trans (congrArg some (by kernel_rfl))
 f224 := Tryz.func75.trans (congrArg some (by kernel_rfl))
 f225 := Tryz.func74.trans (congrArg some (by kernel_rfl))
 f266 := Tryz.func98.trans (congrArg some (by kernel_rfl))
 f267 := Tryz.func76.trans (congrArg some (by kernel_rfl))
 f314 := Tryz.func99.trans (congrArg some (by kernel_rfl))
 t3 := Tryz.underlying3
 a3 := Tryz.isAgg3
 z3 := Tryz.sizeOf3
 v3 := Tryz.zeroValue3
 t4 := Tryz.underlying4
 a4 := Tryz.isAgg4
 z4 := Tryz.sizeOf4
 v4 := Tryz.zeroValue4
 t5 := Tryz.underlying5
 a5 := Tryz.isAgg5
 z5 := Tryz.sizeOf5
 v5 := Tryz.zeroValue5
 t9 := Tryz.underlying9
 a9 := Tryz.isAgg9
 z9 := Tryz.sizeOf9
 v9 := Tryz.zeroValue9
 t46 := Tryz.underlying92
 a46 := Tryz.isAgg92
 z46 := Tryz.sizeOf92
 v46 := Tryz.zeroValue92
 t51 := Tryz.underlying114
 a51 := Tryz.isAgg114
 z51 := Tryz.sizeOf114
 v51 := Tryz.zeroValue114
 t59 := Tryz.underlying56
 a59 := Tryz.isAgg56
 z59 := Tryz.sizeOf56
 v59 := Tryz.zeroValue56
 t146 := Tryz.underlying118
 a146 := Tryz.isAgg118
 z146 := Tryz.sizeOf118
 v146 := Tryz.zeroValue118
 g1 := by kernel_rfl }
open Go.RowKit Go.Lib in
theorem Tryz.strings_Cut (s sep : ByteArray) (m : Int) (w : World) (hs : s.size < 4294967281) (hm : w.cell? ⟨0, 0, none⟩ = some (.int .i64 m)) :
   Calls Tryz.prog 25 #[.string s, .string sep] w fun e w' => e = .returned (.tuple #[.string ⟨(Lib.cut s.data.toList sep.data.toList).1.toArray⟩, .string ⟨(Lib.cut s.data.toList sep.data.toList).2.1.toArray⟩, .bool (Lib.cut s.data.toList sep.data.toList).2.2]) ∧ ∃ n, w' = w.drewN n := Any.strings_Cut Tryz.lays145 s sep m w hs hm
def Tryz.lays138_ren : Go.Shelf.Ren := ⟨fun | 138 => 78 | 195 => 100 | 218 => 102 | 143 => 79 | 219 => 58 | 217 => 73 | 225 => 74 | 224 => 75 | 267 => 76 | 266 => 98 | 314 => 99 | n => n, fun | 9 => 9 | 3 => 3 | 4 => 4 | 5 => 5 | 0 => 0 | 46 => 92 | 146 => 118 | 51 => 114 | n => n, fun | 1 => 0 | n => n⟩
theorem Tryz.lays138 : Go.Proofs.Lays.n138 Tryz.prog Tryz.lays138_ren := {
 mixed := by kernel_rfl
 f138 := Tryz.func78.trans (congrArg some (by kernel_rfl))
 f143 := Tryz.func79.trans (congrArg some (by kernel_rfl))
 f195 := Tryz.func100.trans (congrArg some (by kernel_rfl))
 f217 := Tryz.func73.trans (congrArg some (by kernel_rfl))
 f218 := Tryz.func102.trans (congrArg some (by kernel_rfl))
 f219 := Tryz.func58.trans (congrArg some (by kernel_rfl))
 f224 := Tryz.func75.trans (congrArg some (by kernel_rfl))
 f225 := Tryz.func74.trans (congrArg some (by kernel_rfl))
 f266 := Tryz.func98.trans (congrArg some (by kernel_rfl))
 f267 := Tryz.func76.trans (congrArg some (by kernel_rfl))
 f314 := Tryz.func99.trans (congrArg some (by kernel_rfl))
 t0 := Tryz.underlying0
 a0 := Tryz.isAgg0
 z0 := Tryz.sizeOf0
 v0 := Tryz.zeroValue0
 t3 := Tryz.underlying3
 a3 := Tryz.isAgg3
 z3 := Tryz.sizeOf3
 v3 := Tryz.zeroValue3
 t4 := Tryz.underlying4
 a4 := Tryz.isAgg4
 z4 := Tryz.sizeOf4
 v4 := Tryz.zeroValue4
 t5 := Tryz.underlying5
 a5 := Tryz.isAgg5
 z5 := Tryz.sizeOf5
 v5 := Tryz.zeroValue5
 t9 := Tryz.underlying9
 a9 := Tryz.isAgg9
 z9 := Tryz.sizeOf9
 v9 := Tryz.zeroValue9
 t46 := Tryz.underlying92
 a46 := Tryz.isAgg92
 z46 := Tryz.sizeOf92
 v46 := Tryz.zeroValue92
 t51 := Tryz.underlying114
 a51 := Tryz.isAgg114
 z51 := Tryz.sizeOf114
 v51 := Tryz.zeroValue114
 t146 := Tryz.underlying118
 a146 := Tryz.isAgg118
 z146 := Tryz.sizeOf118
 v146 := Tryz.zeroValue118
 g1 := by kernel_rfl }
open Go.RowKit Go.Lib in
theorem Tryz.strings_Count_one (s : ByteArray) (c : UInt8) (w : World) :
   Calls Tryz.prog 78 #[.string s, .string ⟨#[c]⟩] w fun e w' => e = .returned (.int .i64 (Lib.countByte s.data.toList c)) ∧ w' = w := Any.strings_Count_one Tryz.lays138 s c w
open Go.RowKit Go.Lib in
theorem Tryz.strings_Count (s sub : ByteArray) (m : Int) (w : World) (hs : s.size < 4294967281) (hm : w.cell? ⟨0, 0, none⟩ = some (.int .i64 m)) (h2 : 2 ≤ sub.size) :
   Calls Tryz.prog 78 #[.string s, .string sub] w fun e w' => e = .returned (.int .i64 (Lib.countB s sub)) ∧ w' = w := Any.strings_Count Tryz.lays138 s sub m w hs hm h2
open Go.RowKit Go.Lib in
def Tryz.lays99_ren : Go.Shelf.Ren := ⟨fun | 99 => 35 | 206 => 54 | n => n, fun | 9 => 9 | 4 => 4 | 3 => 3 | n => n, fun | n => n⟩
theorem Tryz.lays99 : Go.Proofs.Lays.n99 Tryz.prog Tryz.lays99_ren := {
 mixed := by kernel_rfl
 f99 := Tryz.func35.trans (congrArg some (by kernel_rfl))
 f206 := Tryz.func54.trans (congrArg some (by kernel_rfl))
 t3 := Tryz.underlying3
 a3 := Tryz.isAgg3
 z3 := Tryz.sizeOf3
 v3 := Tryz.zeroValue3
 t4 := Tryz.underlying4
 a4 := Tryz.isAgg4
 z4 := Tryz.sizeOf4
 v4 := Tryz.zeroValue4
 t9 := Tryz.underlying9
 a9 := Tryz.isAgg9
 z9 := Tryz.sizeOf9
 v9 := Tryz.zeroValue9 }
open Go.RowKit Go.Lib in
theorem Tryz.strings_HasPrefix (s p : ByteArray) (w : World) :
   Calls Tryz.prog 35 #[.string s, .string p] w fun e w' => e = .returned (.bool (Lib.hasPrefix s.data.toList p.data.toList)) ∧ w' = w := Any.strings_HasPrefix Tryz.lays99 s p w
def Tryz.sortSpan_ren : Go.Shelf.Ren := ⟨fun | 6 => 49 | 15 => 66 | 14 => 65 | 28 => 91 | 29 => 92 | 20 => 83 | 21 => 84 | 22 => 85 | 23 => 86 | 24 => 87 | 25 => 88 | 26 => 89 | 27 => 90 | 46 => 109 | 47 => 110 | 48 => 111 | 49 => 112 | 50 => 113 | 57 => 120 | n => n, fun | 22 => 22 | 24 => 33 | 25 => 81 | 3 => 3 | 39 => 92 | 0 => 0 | 53 => 114 | 55 => 96 | 4 => 4 | 46 => 108 | 45 => 107 | 50 => 73 | 5 => 5 | 9 => 9 | 66 => 129 | 70 => 133 | 76 => 141 | 77 => 142 | n => n, fun | n => n⟩
theorem Tryz.sortSpan : Go.Proofs.SlLaysF0.n6 Tryz.prog Tryz.sortSpan_ren := {
 mixed := by kernel_rfl
 f6 := ⟨Tryz.f49.name, by decide, Tryz.func49.trans (congrArg some (by kernel_rfl))⟩
 f14 := ⟨Tryz.f65.name, by decide, Tryz.func65.trans (congrArg some (by kernel_rfl))⟩
 f15 := Tryz.func66.trans (congrArg some (by kernel_rfl))
 f20 := ⟨Tryz.f83.name, by decide, Tryz.func83.trans (congrArg some (by kernel_rfl))⟩
 f21 := ⟨Tryz.f84.name, by decide, Tryz.func84.trans (congrArg some (by kernel_rfl))⟩
 f22 := ⟨Tryz.f85.name, by decide, Tryz.func85.trans (congrArg some (by kernel_rfl))⟩
 f23 := ⟨Tryz.f86.name, by decide, Tryz.func86.trans (congrArg some (by kernel_rfl))⟩
 f24 := ⟨Tryz.f87.name, by decide, Tryz.func87.trans (congrArg some (by kernel_rfl))⟩
 f25 := ⟨Tryz.f88.name, by decide, Tryz.func88.trans (congrArg some (by kernel_rfl))⟩
 f26 := ⟨Tryz.f89.name, by decide, Tryz.func89.trans (congrArg some (by kernel_rfl))⟩
 f27 := ⟨Tryz.f90.name, by decide, Tryz.func90.trans (congrArg some (by kernel_rfl))⟩
 f28 := Tryz.func91.trans (congrArg some (by kernel_rfl))
 f29 := Tryz.func92.trans (congrArg some (by kernel_rfl))
 f46 := ⟨Tryz.f109.name, by decide, Tryz.func109.trans (congrArg some (by kernel_rfl))⟩
 f47 := Tryz.func110.trans (congrArg some (by kernel_rfl))
 f48 := Tryz.func111.trans (congrArg some (by kernel_rfl))
 f49 := ⟨Tryz.f112.name, by decide, Tryz.func112.trans (congrArg some (by kernel_rfl))⟩
 f50 := ⟨Tryz.f113.name, by decide, Tryz.func113.trans (congrArg some (by kernel_rfl))⟩
 f57 := ⟨Tryz.f120.name, by decide, Tryz.func120.trans (congrArg some (by kernel_rfl))⟩
 t0 := Tryz.underlying0
 a0 := Tryz.isAgg0
 z0 := Tryz.sizeOf0
 v0 := Tryz.zeroValue0
 t3 := Tryz.underlying3
 a3 := Tryz.isAgg3
 z3 := Tryz.sizeOf3
 v3 := Tryz.zeroValue3
 t4 := Tryz.underlying4
 a4 := Tryz.isAgg4
 z4 := Tryz.sizeOf4
 v4 := Tryz.zeroValue4
 t5 := Tryz.underlying5
 a5 := Tryz.isAgg5
 z5 := Tryz.sizeOf5
 v5 := Tryz.zeroValue5
 t9 := Tryz.underlying9
 a9 := Tryz.isAgg9
 z9 := Tryz.sizeOf9
 v9 := Tryz.zeroValue9
 t22 := Tryz.underlying22
 a22 := Tryz.isAgg22
 z22 := Tryz.sizeOf22
 v22 := Tryz.zeroValue22
 t25 := Tryz.underlying81
 a25 := Tryz.isAgg81
 z25 := Tryz.sizeOf81
 v25 := Tryz.zeroValue81
 t39 := Tryz.underlying92
 a39 := Tryz.isAgg92
 z39 := Tryz.sizeOf92
 v39 := Tryz.zeroValue92
 t45 := Tryz.underlying107
 a45 := Tryz.isAgg107
 z45 := Tryz.sizeOf107
 v45 := Tryz.zeroValue107
 t46 := Tryz.underlying108
 a46 := Tryz.isAgg108
 z46 := Tryz.sizeOf108
 v46 := Tryz.zeroValue108
 t50 := Tryz.underlying73
 a50 := Tryz.isAgg73
 z50 := Tryz.sizeOf73
 v50 := Tryz.zeroValue73
 t53 := Tryz.underlying114
 a53 := Tryz.isAgg114
 z53 := Tryz.sizeOf114
 v53 := Tryz.zeroValue114
 t55 := Tryz.underlying96
 a55 := Tryz.isAgg96
 z55 := Tryz.sizeOf96
 v55 := Tryz.zeroValue96
 t66 := Tryz.underlying129
 a66 := Tryz.isAgg129
 z66 := Tryz.sizeOf129
 v66 := Tryz.zeroValue129
 t70 := Tryz.underlying133
 a70 := Tryz.isAgg133
 z70 := Tryz.sizeOf133
 v70 := Tryz.zeroValue133
 t76 := Tryz.underlying141
 a76 := Tryz.isAgg141
 z76 := Tryz.sizeOf141
 v76 := Tryz.zeroValue141
 t77 := Tryz.underlying142
 a77 := Tryz.isAgg142
 z77 := Tryz.sizeOf142
 v77 := Tryz.zeroValue142 }
end Go.Proofs
