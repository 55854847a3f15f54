/-
  DERIVED: THE SHELF's CONTRACTS AT THIS DUMP, IN PLAIN WORDS (tools/lay-plain.mjs out of 'TryzShelf.lean', which tools/lay-shelf.mjs wrote): THE SAME DECLARATIONS UNDER THE SAME NAMES: 'import', 'namespace', 'open', 'def', 'theorem' AND NOTHING ELSE: no command of the shelf's: FOR A HAND-IN. Each laying: the table of numbers ('.._ren') and one theorem, a field a fact of the dump's own or the kernel's comparison; each contract: ONE APPLICATION.
-/
import Derived.Shelf.SlGeneric
import Derived.Shelf.SlSortCmp.WholeK
import Derived.Ground.SlsfProg
import Derived.Shelf.Strings.OnBuilder
import Derived.Shelf.Small.Bits
import Derived.Shelf.Small.Strs
import Derived.Shelf.Small.Wraps
import Derived.Shelf.Strconv.Atoi
import Derived.Shelf.Strconv.Itoa0
import Derived.Shelf.Strconv.Itoa1
import Derived.Shelf.LaysM
import Derived.Shelf.Strconv.Itoa2
import Derived.Shelf.Strconv.Itoa3
import Derived.Shelf.Strconv.AtoiFail
import Derived.Shelf.Strconv.Clone
import Derived.Shelf.Strconv.SyntaxError
import Derived.Shelf.LaysC
import Derived.Shelf.Strconv.ToError
import Derived.Shelf.Strconv.Lower
import Derived.Shelf.Strconv.AtoiLong
import Derived.Shelf.Strconv.AtoiInnerAll
import Derived.Shelf.Strconv.RangeError
import Derived.Shelf.Strconv.ToErrorRange
import Derived.Shelf.Strconv.AtoiAll
import Derived.Shelf.Strings.Search1
import Derived.Shelf.Strings.Search2
import Derived.Shelf.Strings.Search3
import Derived.Shelf.Strings.Cut
import Derived.Shelf.Strings.Count
import Derived.Shelf.Strings.Prefix
import Derived.Shelf.Bits.Mul64
import Derived.Test.YtkifpidbpoghlaaGreatDoorProg
namespace Go.Proofs
open Go.Shelf
def Tryz.lays156_ren : Go.Shelf.Ren := ⟨fun | 156 => 44 | 165 => 87 | 166 => 88 | 169 => 89 | 240 => 134 | 241 => 135 | 276 => 168 | 277 => 169 | n => n, fun | 31 => 25 | 9 => 9 | 3 => 3 | 4 => 4 | 0 => 0 | 20 => 20 | 72 => 167 | 76 => 115 | 70 => 164 | 37 => 165 | 75 => 114 | 127 => 218 | 164 => 255 | 5 => 5 | 80 => 168 | n => n, fun | n => n⟩
theorem Tryz.lays156 : Go.Proofs.Lays.n156 Tryz.prog Tryz.lays156_ren := {
 mixed := by kernel_rfl
 f156 := Tryz.func44.trans (congrArg some (by kernel_rfl))
 f165 := Tryz.func87.trans (congrArg some (by kernel_rfl))
 f166 := Tryz.func88.trans (congrArg some (by kernel_rfl))
 f169 := Tryz.func89.trans (congrArg some (by kernel_rfl))
 f240 := Tryz.func134.trans (congrArg some (by kernel_rfl))
 f241 := Tryz.func135.trans (congrArg some (by kernel_rfl))
 f276 := Tryz.func168.trans (congrArg some (by kernel_rfl))
 f277 := Tryz.func169.trans (congrArg some (by kernel_rfl))
 t0 := Tryz.underlying0
 a0 := Tryz.isAgg0
 z0 := Tryz.sizeOf0
 v0 := Tryz.zeroValue0
 t3 := Tryz.underlying3
 a3 := Tryz.isAgg3
 z3 := Tryz.sizeOf3
 v3 := Tryz.zeroValue3
 t4 := Tryz.underlying4
 a4 := Tryz.isAgg4
 z4 := Tryz.sizeOf4
 v4 := Tryz.zeroValue4
 t9 := Tryz.underlying9
 a9 := Tryz.isAgg9
 z9 := Tryz.sizeOf9
 v9 := Tryz.zeroValue9
 t20 := Tryz.underlying20
 a20 := Tryz.isAgg20
 z20 := Tryz.sizeOf20
 v20 := Tryz.zeroValue20
 t31 := Tryz.underlying25
 a31 := Tryz.isAgg25
 z31 := Tryz.sizeOf25
 v31 := Tryz.zeroValue25
 t37 := Tryz.underlying165
 a37 := Tryz.isAgg165
 z37 := Tryz.sizeOf165
 v37 := Tryz.zeroValue165
 t70 := Tryz.underlying164
 a70 := Tryz.isAgg164
 z70 := Tryz.sizeOf164
 v70 := Tryz.zeroValue164
 t72 := Tryz.underlying167
 a72 := Tryz.isAgg167
 z72 := Tryz.sizeOf167
 v72 := Tryz.zeroValue167
 t75 := Tryz.underlying114
 a75 := Tryz.isAgg114
 z75 := Tryz.sizeOf114
 v75 := Tryz.zeroValue114
 t76 := Tryz.underlying115
 a76 := Tryz.isAgg115
 z76 := Tryz.sizeOf115
 v76 := Tryz.zeroValue115
 t127 := Tryz.underlying218
 a127 := Tryz.isAgg218
 z127 := Tryz.sizeOf218
 v127 := Tryz.zeroValue218
 t164 := Tryz.underlying255
 a164 := Tryz.isAgg255
 z164 := Tryz.sizeOf255
 v164 := Tryz.zeroValue255 }
theorem Tryz.Builder_Extra_156 : Builder.Extra Tryz.prog Tryz.lays156_ren := {
 sizeBuilder := by kernel_rfl
 liesBuilder := by kernel_rfl
 t5 := Tryz.underlying5
 a5 := Tryz.isAgg5
 z5 := Tryz.sizeOf5
 v5 := Tryz.zeroValue5
 infoByte := by kernel_rfl
 cellsByte := by kernel_rfl
 sizeByte := by kernel_rfl
 neB5 := by decide }
open Go.RowKit in
theorem Tryz.strings_Join_none (a : Option Addr) (c : Nat) (sep : ByteArray) (w : World) :
   Calls Tryz.prog 44 #[.slice a 0 c, .string sep] w fun e w' => e = .returned (.string ⟨#[]⟩) ∧ w' = w := Any.strings_Join_none Tryz.lays156 Tryz.Builder_Extra_156 a c sep w
open Go.RowKit in
theorem Tryz.strings_Join (bk o c : Nat) (xs : List ByteArray) (sep : ByteArray) (w : World) (hcells : ∀ (j : Nat) x, xs[j]? = some x → w.cell? ⟨bk, o + j, none⟩ = some (.string x)) (hbk : bk < w.heap.size) (hN : xs.length ≤ 140737488355328) (hcap : xs.length ≤ c) (hlen : (Lib.join (xs.map (·.data.toList)) sep.data.toList).length ≤ 140737488355328) :
   Calls Tryz.prog 44 #[.slice (some ⟨bk, o, none⟩) xs.length c, .string sep] w fun e w' => e = .returned (.string ⟨(Lib.join (xs.map (·.data.toList)) sep.data.toList).toArray⟩) ∧ Below w.heap.size w w' := Any.strings_Join Tryz.lays156 Tryz.Builder_Extra_156 bk o c xs sep w hcells hbk hN hcap hlen
def Tryz.lays125_ren : Go.Shelf.Ren := ⟨fun | 125 => 161 | 128 => 190 | 129 => 191 | n => n, fun | 46 => 169 | 3 => 3 | 51 => 245 | 53 => 250 | 4 => 4 | 5 => 5 | 9 => 9 | n => n, fun | n => n⟩
theorem Tryz.lays125 : Go.Proofs.Lays.n125 Tryz.prog Tryz.lays125_ren := {
 mixed := by kernel_rfl
 f125 := Tryz.func161.trans (congrArg some (by kernel_rfl))
 f128 := Tryz.func190.trans (congrArg some (by kernel_rfl))
 f129 := Tryz.func191.trans (congrArg some (by kernel_rfl))
 t3 := Tryz.underlying3
 a3 := Tryz.isAgg3
 z3 := Tryz.sizeOf3
 v3 := Tryz.zeroValue3
 t4 := Tryz.underlying4
 a4 := Tryz.isAgg4
 z4 := Tryz.sizeOf4
 v4 := Tryz.zeroValue4
 t5 := Tryz.underlying5
 a5 := Tryz.isAgg5
 z5 := Tryz.sizeOf5
 v5 := Tryz.zeroValue5
 t9 := Tryz.underlying9
 a9 := Tryz.isAgg9
 z9 := Tryz.sizeOf9
 v9 := Tryz.zeroValue9
 t46 := Tryz.underlying169
 a46 := Tryz.isAgg169
 z46 := Tryz.sizeOf169
 v46 := Tryz.zeroValue169
 t51 := Tryz.underlying245
 a51 := Tryz.isAgg245
 z51 := Tryz.sizeOf245
 v51 := Tryz.zeroValue245
 t53 := Tryz.underlying250
 a53 := Tryz.isAgg250
 z53 := Tryz.sizeOf250
 v53 := Tryz.zeroValue250 }
theorem Tryz.bits_Len (x : Int) (w : World) (h0 : 0 ≤ x) (h1 : x ≤ 18446744073709551615) :
   Calls Tryz.prog 161 #[.int .u64 x] w fun e w' => e = .returned (.int .i64 (Lib.bitLen x.toNat)) ∧ w' = w := Any.bits_Len Tryz.lays125 x w h0 h1
open Go.RowKit in
open Go.RowKit in
open Go.RowKit in
open Go.RowKit in
open Go.RowKit in
open Go.RowKit in
def Tryz.lays122_ren : Go.Shelf.Ren := ⟨fun | 122 => 153 | 215 => 177 | n => n, fun | 3 => 3 | 4 => 4 | n => n, fun | n => n⟩
theorem Tryz.lays122 : Go.Proofs.Lays.n122 Tryz.prog Tryz.lays122_ren := {
 mixed := by kernel_rfl
 f122 := Tryz.func153.trans (congrArg some (by kernel_rfl))
 f215 := Tryz.func177.trans (congrArg some (by kernel_rfl))
 t3 := Tryz.underlying3
 a3 := Tryz.isAgg3
 z3 := Tryz.sizeOf3
 v3 := Tryz.zeroValue3
 t4 := Tryz.underlying4
 a4 := Tryz.isAgg4
 z4 := Tryz.sizeOf4
 v4 := Tryz.zeroValue4 }
open Go.RowKit in
theorem Tryz.cmp_Compare_int (x y : Int) (w : World) :
   Calls Tryz.prog 153 #[.int .i64 x, .int .i64 y] w fun e w' => e = .returned (.int .i64 (Lib.compareInt x y)) ∧ w' = w := Any.cmp_Compare_int Tryz.lays122 x y w
open Go.RowKit in
open Go.RowKit in
open Go.Lib in
open Go.Lib in
open Go.Lib in
open Go.Lib in
open Go.RowKit Go.Sort Go.Lib in
open Go.RowKit Go.Sort Go.Lib in
open Go.RowKit Go.Sort Go.Lib in
open Go.RowKit Go.Sort Go.Lib in
open Go.RowKit Go.Sort Go.Lib in
def Tryz.laysM171_ren : Go.Shelf.Ren := ⟨fun | 171 => 103 | 243 => 148 | 246 => 174 | 283 => 195 | 284 => 196 | 285 => 197 | 286 => 198 | 129 => 191 | 317 => 227 | 318 => 228 | 319 => 229 | 320 => 230 | 337 => 240 | 338 => 241 | n => n, fun | 3 => 3 | 9 => 9 | 2 => 2 | 4 => 4 | 171 => 286 | 0 => 0 | 53 => 250 | 37 => 165 | 5 => 5 | 173 => 288 | 212 => 313 | 51 => 245 | 20 => 20 | 213 => 314 | 46 => 169 | 232 => 327 | 233 => 328 | n => n, fun | 17 => 5 | 18 => 6 | 19 => 7 | n => n⟩
theorem Tryz.laysM171 : Go.Proofs.LaysM.n171 Tryz.prog Tryz.laysM171_ren := {
 mixed := by kernel_rfl
 f129 := Tryz.func191.trans (congrArg some (by kernel_rfl))
 f171 := Tryz.func103.trans (congrArg some (by kernel_rfl))
 f243 := Tryz.func148.trans (congrArg some (by kernel_rfl))
 f246 := Tryz.func174.trans (congrArg some (by kernel_rfl))
 f283 := Tryz.func195.trans (congrArg some (by kernel_rfl))
 f284 := Tryz.func196.trans (congrArg some (by kernel_rfl))
 f285 := Tryz.func197.trans (congrArg some (by kernel_rfl))
 f286 := Tryz.func198.trans (congrArg some (by kernel_rfl))
 f317 := Tryz.func227.trans (congrArg some (by kernel_rfl))
 f318 := Tryz.func228.trans (congrArg some (by kernel_rfl))
 f319 := Tryz.func229.trans (congrArg some (by kernel_rfl))
 f320 := Tryz.func230.trans (congrArg some (by kernel_rfl))
 f337 := Tryz.func240.trans (congrArg some (by kernel_rfl))
 f338 := Tryz.func241.trans (congrArg some (by kernel_rfl))
 t0 := Tryz.underlying0
 a0 := Tryz.isAgg0
 z0 := Tryz.sizeOf0
 v0 := Tryz.zeroValue0
 t2 := Tryz.underlying2
 a2 := Tryz.isAgg2
 z2 := Tryz.sizeOf2
 v2 := Tryz.zeroValue2
 t3 := Tryz.underlying3
 a3 := Tryz.isAgg3
 z3 := Tryz.sizeOf3
 v3 := Tryz.zeroValue3
 t4 := Tryz.underlying4
 a4 := Tryz.isAgg4
 z4 := Tryz.sizeOf4
 v4 := Tryz.zeroValue4
 t5 := Tryz.underlying5
 a5 := Tryz.isAgg5
 z5 := Tryz.sizeOf5
 v5 := Tryz.zeroValue5
 t9 := Tryz.underlying9
 a9 := Tryz.isAgg9
 z9 := Tryz.sizeOf9
 v9 := Tryz.zeroValue9
 t20 := Tryz.underlying20
 a20 := Tryz.isAgg20
 z20 := Tryz.sizeOf20
 v20 := Tryz.zeroValue20
 t37 := Tryz.underlying165
 a37 := Tryz.isAgg165
 z37 := Tryz.sizeOf165
 v37 := Tryz.zeroValue165
 t46 := Tryz.underlying169
 a46 := Tryz.isAgg169
 z46 := Tryz.sizeOf169
 v46 := Tryz.zeroValue169
 t51 := Tryz.underlying245
 a51 := Tryz.isAgg245
 z51 := Tryz.sizeOf245
 v51 := Tryz.zeroValue245
 t53 := Tryz.underlying250
 a53 := Tryz.isAgg250
 z53 := Tryz.sizeOf250
 v53 := Tryz.zeroValue250
 t171 := Tryz.underlying286
 a171 := Tryz.isAgg286
 z171 := Tryz.sizeOf286
 v171 := Tryz.zeroValue286
 t173 := Tryz.underlying288
 a173 := Tryz.isAgg288
 z173 := Tryz.sizeOf288
 v173 := Tryz.zeroValue288
 t212 := Tryz.underlying313
 a212 := Tryz.isAgg313
 z212 := Tryz.sizeOf313
 v212 := Tryz.zeroValue313
 t213 := Tryz.underlying314
 a213 := Tryz.isAgg314
 z213 := Tryz.sizeOf314
 t232 := Tryz.underlying327
 a232 := Tryz.isAgg327
 z232 := Tryz.sizeOf327
 v232 := Tryz.zeroValue327
 t233 := Tryz.underlying328
 a233 := Tryz.isAgg328
 z233 := Tryz.sizeOf328
 v233 := Tryz.zeroValue328
 g17 := by kernel_rfl
 g18 := by kernel_rfl
 g19 := by kernel_rfl
 i0 := by kernel_rfl
 i2 := by kernel_rfl
 i3 := by kernel_rfl
 i4 := by kernel_rfl
 i5 := by kernel_rfl
 i9 := by kernel_rfl
 i20 := by kernel_rfl
 i37 := by kernel_rfl
 i46 := by kernel_rfl
 i51 := by kernel_rfl
 i53 := by kernel_rfl
 i171 := by kernel_rfl
 i173 := by kernel_rfl
 i212 := by kernel_rfl
 i232 := by kernel_rfl
 i233 := by kernel_rfl
 m17 := by kernel_rfl
 m18 := by kernel_rfl
 m19 := by kernel_rfl }
open Go.RowKit Go.Sort Go.Lib in
theorem Tryz.strconv_Itoa (n : Int) (h0 : -9223372036854775808 ≤ n) (h1 : n ≤ 9223372036854775807) (w : World) (htab : Lib.TabIs Tryz.prog w "internal/strconv.uint64pow10" .u64 Lib.pow10Tab) :
   Calls Tryz.prog 103 #[.int .i64 n] w fun e w' => e = .returned (.string ⟨(Lib.itoa n).toArray⟩) ∧ ∃ k os, w' = grow (w.drewN k) os := Any.strconv_Itoa Tryz.laysM171 n h0 h1 w htab
open Go.RowKit Go.Sort Go.Lib in
open Go.RowKit in
open Go.RowKit in
open Go.RowKit in
open Go.RowKit in
open Go.RowKit in
open Go.RowKit in
open Go.RowKit in
open Go.RowKit in
open Go.RowKit in
open Go.RowKit in
def Tryz.laysC172_ren : Go.Shelf.Ren := ⟨fun | 172 => 48 | 244 => 93 | 245 => 94 | 247 => 137 | 279 => 138 | 280 => 139 | 281 => 140 | 282 => 141 | 287 => 170 | 316 => 171 | 171 => 103 | 205 => 172 | 321 => 193 | 322 => 194 | 243 => 148 | 246 => 174 | 283 => 195 | 284 => 196 | 285 => 197 | 286 => 198 | 129 => 191 | 317 => 227 | 318 => 228 | 319 => 229 | 320 => 230 | 337 => 240 | 338 => 241 | n => n, fun | 9 => 9 | 3 => 3 | 75 => 114 | 76 => 115 | 4 => 4 | 5 => 5 | 167 => 219 | 37 => 165 | 0 => 0 | 85 => 220 | 2 => 2 | 168 => 222 | 53 => 250 | 175 => 258 | 46 => 169 | 210 => 261 | 127 => 218 | 145 => 281 | 143 => 279 | 21 => 21 | 171 => 286 | 173 => 288 | 212 => 313 | 51 => 245 | 20 => 20 | 213 => 314 | 232 => 327 | 233 => 328 | 80 => 168 | n => n, fun | 15 => 1 | 16 => 2 | 17 => 5 | 18 => 6 | 19 => 7 | n => n⟩
theorem Tryz.laysC172 : Go.Proofs.LaysC.n172 Tryz.prog Tryz.laysC172_ren := {
 mixed := by kernel_rfl
 f129 := Tryz.func191.trans (congrArg some (by kernel_rfl))
 f171 := Tryz.func103.trans (congrArg some (by kernel_rfl))
 f172 := Tryz.func48.trans (congrArg some (by kernel_rfl))
 f205 := Tryz.func172.trans (congrArg some (by kernel_rfl))
 f243 := Tryz.func148.trans (congrArg some (by kernel_rfl))
 f244 := Tryz.func93.trans (congrArg some (by kernel_rfl))
 f245 := Tryz.func94.trans (congrArg some (by kernel_rfl))
 f246 := Tryz.func174.trans (congrArg some (by kernel_rfl))
 f247 := Tryz.func137.trans (congrArg some (by kernel_rfl))
 f279 := Tryz.func138.trans (congrArg some (by kernel_rfl))
 f280 := Tryz.func139.trans (congrArg some (by kernel_rfl))
 f281 := Tryz.func140.trans (congrArg some (by kernel_rfl))
 f282 := Tryz.func141.trans (congrArg some (by kernel_rfl))
 f283 := Tryz.func195.trans (congrArg some (by kernel_rfl))
 f284 := Tryz.func196.trans (congrArg some (by kernel_rfl))
 f285 := Tryz.func197.trans (congrArg some (by kernel_rfl))
 f286 := Tryz.func198.trans (congrArg some (by kernel_rfl))
 f287 := Tryz.func170.trans (congrArg some (by kernel_rfl))
 f316 := Tryz.func171.trans (congrArg some (by kernel_rfl))
 f317 := Tryz.func227.trans (congrArg some (by kernel_rfl))
 f318 := Tryz.func228.trans (congrArg some (by kernel_rfl))
 f319 := Tryz.func229.trans (congrArg some (by kernel_rfl))
 f320 := Tryz.func230.trans (congrArg some (by kernel_rfl))
 f321 := Tryz.func193.trans (congrArg some (by kernel_rfl))
 f322 := Tryz.func194.trans (congrArg some (by kernel_rfl))
 f337 := Tryz.func240.trans (congrArg some (by kernel_rfl))
 f338 := Tryz.func241.trans (congrArg some (by kernel_rfl))
 t0 := Tryz.underlying0
 a0 := Tryz.isAgg0
 z0 := Tryz.sizeOf0
 v0 := Tryz.zeroValue0
 t2 := Tryz.underlying2
 a2 := Tryz.isAgg2
 z2 := Tryz.sizeOf2
 v2 := Tryz.zeroValue2
 t3 := Tryz.underlying3
 a3 := Tryz.isAgg3
 z3 := Tryz.sizeOf3
 v3 := Tryz.zeroValue3
 t4 := Tryz.underlying4
 a4 := Tryz.isAgg4
 z4 := Tryz.sizeOf4
 v4 := Tryz.zeroValue4
 t5 := Tryz.underlying5
 a5 := Tryz.isAgg5
 z5 := Tryz.sizeOf5
 v5 := Tryz.zeroValue5
 t9 := Tryz.underlying9
 a9 := Tryz.isAgg9
 z9 := Tryz.sizeOf9
 v9 := Tryz.zeroValue9
 t20 := Tryz.underlying20
 a20 := Tryz.isAgg20
 z20 := Tryz.sizeOf20
 v20 := Tryz.zeroValue20
 t21 := Tryz.underlying21
 a21 := Tryz.isAgg21
 z21 := Tryz.sizeOf21
 v21 := Tryz.zeroValue21
 t37 := Tryz.underlying165
 a37 := Tryz.isAgg165
 z37 := Tryz.sizeOf165
 v37 := Tryz.zeroValue165
 t46 := Tryz.underlying169
 a46 := Tryz.isAgg169
 z46 := Tryz.sizeOf169
 v46 := Tryz.zeroValue169
 t51 := Tryz.underlying245
 a51 := Tryz.isAgg245
 z51 := Tryz.sizeOf245
 v51 := Tryz.zeroValue245
 t53 := Tryz.underlying250
 a53 := Tryz.isAgg250
 z53 := Tryz.sizeOf250
 v53 := Tryz.zeroValue250
 t75 := Tryz.underlying114
 a75 := Tryz.isAgg114
 z75 := Tryz.sizeOf114
 v75 := Tryz.zeroValue114
 t76 := Tryz.underlying115
 a76 := Tryz.isAgg115
 z76 := Tryz.sizeOf115
 v76 := Tryz.zeroValue115
 t85 := Tryz.underlying220
 a85 := Tryz.isAgg220
 z85 := Tryz.sizeOf220
 v85 := Tryz.zeroValue220
 t127 := Tryz.underlying218
 a127 := Tryz.isAgg218
 z127 := Tryz.sizeOf218
 v127 := Tryz.zeroValue218
 t143 := Tryz.underlying279
 a143 := Tryz.isAgg279
 z143 := Tryz.sizeOf279
 v143 := Tryz.zeroValue279
 t145 := Tryz.underlying281
 a145 := Tryz.isAgg281
 z145 := Tryz.sizeOf281
 v145 := Tryz.zeroValue281
 t167 := Tryz.underlying219
 a167 := Tryz.isAgg219
 z167 := Tryz.sizeOf219
 v167 := Tryz.zeroValue219
 t168 := Tryz.underlying222
 a168 := Tryz.isAgg222
 z168 := Tryz.sizeOf222
 v168 := Tryz.zeroValue222
 t171 := Tryz.underlying286
 a171 := Tryz.isAgg286
 z171 := Tryz.sizeOf286
 v171 := Tryz.zeroValue286
 t173 := Tryz.underlying288
 a173 := Tryz.isAgg288
 z173 := Tryz.sizeOf288
 v173 := Tryz.zeroValue288
 t175 := Tryz.underlying258
 a175 := Tryz.isAgg258
 z175 := Tryz.sizeOf258
 v175 := Tryz.zeroValue258
 t210 := Tryz.underlying261
 a210 := Tryz.isAgg261
 z210 := Tryz.sizeOf261
 v210 := Tryz.zeroValue261
 t212 := Tryz.underlying313
 a212 := Tryz.isAgg313
 z212 := Tryz.sizeOf313
 v212 := Tryz.zeroValue313
 t213 := Tryz.underlying314
 a213 := Tryz.isAgg314
 z213 := Tryz.sizeOf314
 t232 := Tryz.underlying327
 a232 := Tryz.isAgg327
 z232 := Tryz.sizeOf327
 v232 := Tryz.zeroValue327
 t233 := Tryz.underlying328
 a233 := Tryz.isAgg328
 z233 := Tryz.sizeOf328
 v233 := Tryz.zeroValue328
 g15 := by kernel_rfl
 g16 := by kernel_rfl
 g17 := by kernel_rfl
 g18 := by kernel_rfl
 g19 := by kernel_rfl
 t80 := Tryz.underlying168
 a80 := Tryz.isAgg168
 z80 := Tryz.sizeOf168
 v80 := Tryz.zeroValue168
 i0 := by kernel_rfl
 i2 := by kernel_rfl
 i3 := by kernel_rfl
 i4 := by kernel_rfl
 i5 := by kernel_rfl
 i9 := by kernel_rfl
 i20 := by kernel_rfl
 i21 := by kernel_rfl
 i37 := by kernel_rfl
 i46 := by kernel_rfl
 i51 := by kernel_rfl
 i53 := by kernel_rfl
 i75 := by kernel_rfl
 i76 := by kernel_rfl
 i80 := by kernel_rfl
 i85 := by kernel_rfl
 i127 := by kernel_rfl
 i143 := by kernel_rfl
 i145 := by kernel_rfl
 i167 := by kernel_rfl
 i168 := by kernel_rfl
 i171 := by kernel_rfl
 i173 := by kernel_rfl
 i175 := by kernel_rfl
 i210 := by kernel_rfl
 i212 := by kernel_rfl
 i232 := by kernel_rfl
 i233 := by kernel_rfl
 m15 := by kernel_rfl
 m16 := by kernel_rfl
 m17 := by kernel_rfl
 m18 := by kernel_rfl
 m19 := by kernel_rfl
 c0 := by kernel_rfl
 c2 := by kernel_rfl
 c3 := by kernel_rfl
 c4 := by kernel_rfl
 c5 := by kernel_rfl
 c9 := by kernel_rfl
 c20 := by kernel_rfl
 c21 := by kernel_rfl
 c37 := by kernel_rfl
 c46 := by kernel_rfl
 c51 := by kernel_rfl
 c53 := by kernel_rfl
 c75 := by kernel_rfl
 c76 := by kernel_rfl
 c80 := by kernel_rfl
 c85 := by kernel_rfl
 c127 := by kernel_rfl
 c143 := by kernel_rfl
 c145 := by kernel_rfl
 c167 := by kernel_rfl
 c168 := by kernel_rfl
 c171 := by kernel_rfl
 c173 := by kernel_rfl
 c175 := by kernel_rfl
 c210 := by kernel_rfl
 c212 := by kernel_rfl
 c213 := by kernel_rfl
 c232 := by kernel_rfl
 c233 := by kernel_rfl }
open Go.RowKit in
theorem Tryz.strconv_Atoi_ok (s : ByteArray) (hmax : s.size ≤ 9223372036854775806) (v : Int) (h : Lib.atoiAll s.data.toList = .ok v) (w : World) :
   Calls Tryz.prog 48 #[.string s] w fun e w' => e = .returned (.tuple #[.int .i64 v, .nilIface]) ∧ (w' = w ∨ ∃ t, w' = Lib.bytesWorld w 5 t) := Any.strconv_Atoi_ok Tryz.laysC172 s hmax v h w
open Go.RowKit in
theorem Tryz.strconv_Atoi_syntax (s : ByteArray) (hlim : s.size ≤ 281474976710656) (h : Lib.atoiAll s.data.toList = Lib.atoiAll []) (ev : Value) (w : World) (hv : w.cell? ⟨1, 0, none⟩ = some ev) (hev : ev = .nilIface ∨ ∃ te pe, ev = .iface te pe) :
   Calls Tryz.prog 48 #[.string s] w fun e w' => ∃ N, e = .returned (.tuple #[.int .i64 (0), .iface 222 (.pointer (some ⟨N, 0, none⟩))]) ∧ w.heap.size ≤ N ∧ w'.heap[N]? = some (.cells #[.string ⟨#[65, 116, 111, 105]⟩, .string s, ev] 261 (0, 0)) ∧ Below w.heap.size w w' := Any.strconv_Atoi_syntax Tryz.laysC172 s hlim h ev w hv hev
open Go.RowKit in
theorem Tryz.strconv_Atoi_range (s : ByteArray) (hlim : s.size ≤ 281474976710656) (h : Lib.atoiAll s.data.toList = .range) (ev : Value) (w : World) (hv : w.cell? ⟨2, 0, none⟩ = some ev) (hev : ev = .nilIface ∨ ∃ te pe, ev = .iface te pe) :
   Calls Tryz.prog 48 #[.string s] w fun e w' => ∃ N, e = .returned (.tuple #[.int .i64 (Lib.atoiSat s.data.toList), .iface 222 (.pointer (some ⟨N, 0, none⟩))]) ∧ w.heap.size ≤ N ∧ w'.heap[N]? = some (.cells #[.string ⟨#[65, 116, 111, 105]⟩, .string s, ev] 261 (0, 0)) ∧ Below w.heap.size w w' := Any.strconv_Atoi_range Tryz.laysC172 s hlim h ev w hv hev
open Go.RowKit Go.Lib in
open Go.RowKit Go.Lib in
open Go.RowKit Go.Lib in
open Go.RowKit Go.Lib in
open Go.RowKit Go.Lib in
open Go.RowKit Go.Lib in
def Tryz.lays143_ren : Go.Shelf.Ren := ⟨fun | 143 => 32 | 219 => 78 | 217 => 122 | 225 => 123 | 224 => 124 | 267 => 125 | 266 => 162 | 314 => 163 | n => n, fun | 9 => 9 | 3 => 3 | 4 => 4 | 5 => 5 | 46 => 169 | 146 => 246 | 51 => 245 | n => n, fun | 1 => 0 | n => n⟩
theorem Tryz.lays143 : Go.Proofs.Lays.n143 Tryz.prog Tryz.lays143_ren := {
 mixed := by kernel_rfl
 f143 := Tryz.func32.trans (congrArg some (by kernel_rfl))
 f217 := Tryz.func122.trans (congrArg some (by kernel_rfl))
 f219 := Tryz.func78.trans (congrArg some (by kernel_rfl))
 f224 := Tryz.func124.trans (congrArg some (by kernel_rfl))
 f225 := Tryz.func123.trans (congrArg some (by kernel_rfl))
 f266 := Tryz.func162.trans (congrArg some (by kernel_rfl))
 f267 := Tryz.func125.trans (congrArg some (by kernel_rfl))
 f314 := Tryz.func163.trans (congrArg some (by kernel_rfl))
 t3 := Tryz.underlying3
 a3 := Tryz.isAgg3
 z3 := Tryz.sizeOf3
 v3 := Tryz.zeroValue3
 t4 := Tryz.underlying4
 a4 := Tryz.isAgg4
 z4 := Tryz.sizeOf4
 v4 := Tryz.zeroValue4
 t5 := Tryz.underlying5
 a5 := Tryz.isAgg5
 z5 := Tryz.sizeOf5
 v5 := Tryz.zeroValue5
 t9 := Tryz.underlying9
 a9 := Tryz.isAgg9
 z9 := Tryz.sizeOf9
 v9 := Tryz.zeroValue9
 t46 := Tryz.underlying169
 a46 := Tryz.isAgg169
 z46 := Tryz.sizeOf169
 v46 := Tryz.zeroValue169
 t51 := Tryz.underlying245
 a51 := Tryz.isAgg245
 z51 := Tryz.sizeOf245
 v51 := Tryz.zeroValue245
 t146 := Tryz.underlying246
 a146 := Tryz.isAgg246
 z146 := Tryz.sizeOf246
 v146 := Tryz.zeroValue246
 g1 := by kernel_rfl }
open Go.RowKit Go.Lib in
theorem Tryz.strings_Index_one (s : ByteArray) (c : UInt8) (w : World) :
   Calls Tryz.prog 32 #[.string s, .string ⟨#[c]⟩] w fun e w' => e = .returned (.int .i64 (Lib.indexByte s.data.toList c)) ∧ w' = w := Any.strings_Index_one Tryz.lays143 s c w
open Go.RowKit Go.Lib in
open Go.RowKit Go.Lib in
open Go.RowKit Go.Lib in
open Go.RowKit Go.Lib in
open Go.RowKit Go.Lib in
def Tryz.lays138_ren : Go.Shelf.Ren := ⟨fun | 138 => 6 | 195 => 30 | 218 => 31 | 143 => 32 | 219 => 78 | 217 => 122 | 225 => 123 | 224 => 124 | 267 => 125 | 266 => 162 | 314 => 163 | n => n, fun | 9 => 9 | 3 => 3 | 4 => 4 | 5 => 5 | 0 => 0 | 46 => 169 | 146 => 246 | 51 => 245 | n => n, fun | 1 => 0 | n => n⟩
theorem Tryz.lays138 : Go.Proofs.Lays.n138 Tryz.prog Tryz.lays138_ren := {
 mixed := by kernel_rfl
 f138 := Tryz.func6.trans (congrArg some (by kernel_rfl))
 f143 := Tryz.func32.trans (congrArg some (by kernel_rfl))
 f195 := Tryz.func30.trans (congrArg some (by kernel_rfl))
 f217 := Tryz.func122.trans (congrArg some (by kernel_rfl))
 f218 := Tryz.func31.trans (congrArg some (by kernel_rfl))
 f219 := Tryz.func78.trans (congrArg some (by kernel_rfl))
 f224 := Tryz.func124.trans (congrArg some (by kernel_rfl))
 f225 := Tryz.func123.trans (congrArg some (by kernel_rfl))
 f266 := Tryz.func162.trans (congrArg some (by kernel_rfl))
 f267 := Tryz.func125.trans (congrArg some (by kernel_rfl))
 f314 := Tryz.func163.trans (congrArg some (by kernel_rfl))
 t0 := Tryz.underlying0
 a0 := Tryz.isAgg0
 z0 := Tryz.sizeOf0
 v0 := Tryz.zeroValue0
 t3 := Tryz.underlying3
 a3 := Tryz.isAgg3
 z3 := Tryz.sizeOf3
 v3 := Tryz.zeroValue3
 t4 := Tryz.underlying4
 a4 := Tryz.isAgg4
 z4 := Tryz.sizeOf4
 v4 := Tryz.zeroValue4
 t5 := Tryz.underlying5
 a5 := Tryz.isAgg5
 z5 := Tryz.sizeOf5
 v5 := Tryz.zeroValue5
 t9 := Tryz.underlying9
 a9 := Tryz.isAgg9
 z9 := Tryz.sizeOf9
 v9 := Tryz.zeroValue9
 t46 := Tryz.underlying169
 a46 := Tryz.isAgg169
 z46 := Tryz.sizeOf169
 v46 := Tryz.zeroValue169
 t51 := Tryz.underlying245
 a51 := Tryz.isAgg245
 z51 := Tryz.sizeOf245
 v51 := Tryz.zeroValue245
 t146 := Tryz.underlying246
 a146 := Tryz.isAgg246
 z146 := Tryz.sizeOf246
 v146 := Tryz.zeroValue246
 g1 := by kernel_rfl }
open Go.RowKit Go.Lib in
theorem Tryz.strings_Count_one (s : ByteArray) (c : UInt8) (w : World) :
   Calls Tryz.prog 6 #[.string s, .string ⟨#[c]⟩] w fun e w' => e = .returned (.int .i64 (Lib.countByte s.data.toList c)) ∧ w' = w := Any.strings_Count_one Tryz.lays138 s c w
open Go.RowKit Go.Lib in
open Go.RowKit Go.Lib in
def Tryz.lays264_ren : Go.Shelf.Ren := ⟨fun | 264 => 237 | n => n, fun | 53 => 250 | 46 => 169 | n => n, fun | n => n⟩
theorem Tryz.lays264 : Go.Proofs.Lays.n264 Tryz.prog Tryz.lays264_ren := {
 mixed := by kernel_rfl
 f264 := Tryz.func237.trans (congrArg some (by kernel_rfl))
 t46 := Tryz.underlying169
 a46 := Tryz.isAgg169
 z46 := Tryz.sizeOf169
 v46 := Tryz.zeroValue169
 t53 := Tryz.underlying250
 a53 := Tryz.isAgg250
 z53 := Tryz.sizeOf250
 v53 := Tryz.zeroValue250 }
open Go.RowKit Go.Lib in
theorem Tryz.bits_Mul64 (x y : Nat) (hx : x < 18446744073709551616) (hy : y < 18446744073709551616) (w : World) :
   Calls Tryz.prog 237 #[.int .u64 x, .int .u64 y] w fun e w' => e = .returned (.tuple #[.int .u64 ((x * y / 18446744073709551616 : Nat) : Int), .int .u64 ((x * y % 18446744073709551616 : Nat) : Int)]) ∧ w' = w := Any.bits_Mul64 Tryz.lays264 x y hx hy w
def Tryz.sortClone_ren : Go.Shelf.Ren := ⟨fun | 6 => 119 | 15 => 161 | 14 => 160 | 28 => 190 | 29 => 191 | 20 => 182 | 21 => 183 | 22 => 184 | 23 => 185 | 24 => 186 | 25 => 187 | 26 => 188 | 27 => 189 | 46 => 219 | 47 => 220 | 48 => 221 | 49 => 222 | 50 => 223 | 57 => 238 | n => n, fun | 22 => 77 | 24 => 84 | 25 => 211 | 3 => 3 | 39 => 169 | 0 => 0 | 53 => 245 | 55 => 250 | 4 => 4 | 46 => 270 | 45 => 269 | 50 => 131 | 5 => 5 | 9 => 9 | 66 => 301 | 70 => 305 | 76 => 321 | 77 => 145 | n => n, fun | n => n⟩
theorem Tryz.sortClone : Go.Proofs.SlLaysF0.n6 Tryz.prog Tryz.sortClone_ren := {
 mixed := by kernel_rfl
 f6 := ⟨Tryz.f119.name, by decide, Tryz.func119.trans (congrArg some (by kernel_rfl))⟩
 f14 := ⟨Tryz.f160.name, by decide, Tryz.func160.trans (congrArg some (by kernel_rfl))⟩
 f15 := Tryz.func161.trans (congrArg some (by kernel_rfl))
 f20 := ⟨Tryz.f182.name, by decide, Tryz.func182.trans (congrArg some (by kernel_rfl))⟩
 f21 := ⟨Tryz.f183.name, by decide, Tryz.func183.trans (congrArg some (by kernel_rfl))⟩
 f22 := ⟨Tryz.f184.name, by decide, Tryz.func184.trans (congrArg some (by kernel_rfl))⟩
 f23 := ⟨Tryz.f185.name, by decide, Tryz.func185.trans (congrArg some (by kernel_rfl))⟩
 f24 := ⟨Tryz.f186.name, by decide, Tryz.func186.trans (congrArg some (by kernel_rfl))⟩
 f25 := ⟨Tryz.f187.name, by decide, Tryz.func187.trans (congrArg some (by kernel_rfl))⟩
 f26 := ⟨Tryz.f188.name, by decide, Tryz.func188.trans (congrArg some (by kernel_rfl))⟩
 f27 := ⟨Tryz.f189.name, by decide, Tryz.func189.trans (congrArg some (by kernel_rfl))⟩
 f28 := Tryz.func190.trans (congrArg some (by kernel_rfl))
 f29 := Tryz.func191.trans (congrArg some (by kernel_rfl))
 f46 := ⟨Tryz.f219.name, by decide, Tryz.func219.trans (congrArg some (by kernel_rfl))⟩
 f47 := Tryz.func220.trans (congrArg some (by kernel_rfl))
 f48 := Tryz.func221.trans (congrArg some (by kernel_rfl))
 f49 := ⟨Tryz.f222.name, by decide, Tryz.func222.trans (congrArg some (by kernel_rfl))⟩
 f50 := ⟨Tryz.f223.name, by decide, Tryz.func223.trans (congrArg some (by kernel_rfl))⟩
 f57 := ⟨Tryz.f238.name, by decide, Tryz.func238.trans (congrArg some (by kernel_rfl))⟩
 t0 := Tryz.underlying0
 a0 := Tryz.isAgg0
 z0 := Tryz.sizeOf0
 v0 := Tryz.zeroValue0
 t3 := Tryz.underlying3
 a3 := Tryz.isAgg3
 z3 := Tryz.sizeOf3
 v3 := Tryz.zeroValue3
 t4 := Tryz.underlying4
 a4 := Tryz.isAgg4
 z4 := Tryz.sizeOf4
 v4 := Tryz.zeroValue4
 t5 := Tryz.underlying5
 a5 := Tryz.isAgg5
 z5 := Tryz.sizeOf5
 v5 := Tryz.zeroValue5
 t9 := Tryz.underlying9
 a9 := Tryz.isAgg9
 z9 := Tryz.sizeOf9
 v9 := Tryz.zeroValue9
 t22 := Tryz.underlying77
 a22 := Tryz.isAgg77
 z22 := Tryz.sizeOf77
 v22 := Tryz.zeroValue77
 t25 := Tryz.underlying211
 a25 := Tryz.isAgg211
 z25 := Tryz.sizeOf211
 v25 := Tryz.zeroValue211
 t39 := Tryz.underlying169
 a39 := Tryz.isAgg169
 z39 := Tryz.sizeOf169
 v39 := Tryz.zeroValue169
 t45 := Tryz.underlying269
 a45 := Tryz.isAgg269
 z45 := Tryz.sizeOf269
 v45 := Tryz.zeroValue269
 t46 := Tryz.underlying270
 a46 := Tryz.isAgg270
 z46 := Tryz.sizeOf270
 v46 := Tryz.zeroValue270
 t50 := Tryz.underlying131
 a50 := Tryz.isAgg131
 z50 := Tryz.sizeOf131
 v50 := Tryz.zeroValue131
 t53 := Tryz.underlying245
 a53 := Tryz.isAgg245
 z53 := Tryz.sizeOf245
 v53 := Tryz.zeroValue245
 t55 := Tryz.underlying250
 a55 := Tryz.isAgg250
 z55 := Tryz.sizeOf250
 v55 := Tryz.zeroValue250
 t66 := Tryz.underlying301
 a66 := Tryz.isAgg301
 z66 := Tryz.sizeOf301
 v66 := Tryz.zeroValue301
 t70 := Tryz.underlying305
 a70 := Tryz.isAgg305
 z70 := Tryz.sizeOf305
 v70 := Tryz.zeroValue305
 t76 := Tryz.underlying321
 a76 := Tryz.isAgg321
 z76 := Tryz.sizeOf321
 v76 := Tryz.zeroValue321
 t77 := Tryz.underlying145
 a77 := Tryz.isAgg145
 z77 := Tryz.sizeOf145
 v77 := Tryz.zeroValue145 }
end Go.Proofs
