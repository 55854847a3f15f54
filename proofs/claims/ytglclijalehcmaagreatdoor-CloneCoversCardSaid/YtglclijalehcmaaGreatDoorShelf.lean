/-
  DERIVED: THE SHELF's CONTRACTS AT THIS DUMP, IN PLAIN WORDS (tools/lay-plain.mjs out of 'TryzShelf.lean', which tools/lay-shelf.mjs wrote): THE SAME DECLARATIONS UNDER THE SAME NAMES: 'import', 'namespace', 'open', 'def', 'theorem' AND NOTHING ELSE: no command of the shelf's: FOR A HAND-IN. Each laying: the table of numbers ('.._ren') and one theorem, a field a fact of the dump's own or the kernel's comparison; each contract: ONE APPLICATION.
-/
import Derived.Shelf.SlGeneric
import Derived.Shelf.SlSortCmp.WholeK
import Derived.Ground.SlsfProg
import Derived.Shelf.Small.Bits
import Derived.Shelf.Small.Strs
import Derived.Shelf.Small.Wraps
import Derived.Shelf.Strconv.Itoa0
import Derived.Shelf.Strings.Search1
import Derived.Shelf.Strings.Search2
import Derived.Shelf.Strings.Search3
import Derived.Shelf.Strings.Count
import Derived.Shelf.LaysM
import Derived.Shelf.Strings.Shaped
import Derived.Shelf.Bits.Mul64
import Derived.Test.YtglclijalehcmaaGreatDoorProg
namespace Go.Proofs
open Go.Shelf
def Tryz.lays125_ren : Go.Shelf.Ren := ⟨fun | 125 => 119 | 128 => 151 | 129 => 152 | n => n, fun | 46 => 163 | 3 => 3 | 51 => 191 | 53 => 193 | 4 => 4 | 5 => 5 | 9 => 9 | n => n, fun | n => n⟩
theorem Tryz.lays125 : Go.Proofs.Lays.n125 Tryz.prog Tryz.lays125_ren := {
 mixed := by kernel_rfl
 f125 := Tryz.func119.trans (congrArg some (by kernel_rfl))
 f128 := Tryz.func151.trans (congrArg some (by kernel_rfl))
 f129 := Tryz.func152.trans (congrArg some (by kernel_rfl))
 t3 := Tryz.underlying3
 a3 := Tryz.isAgg3
 z3 := Tryz.sizeOf3
 v3 := Tryz.zeroValue3
 t4 := Tryz.underlying4
 a4 := Tryz.isAgg4
 z4 := Tryz.sizeOf4
 v4 := Tryz.zeroValue4
 t5 := Tryz.underlying5
 a5 := Tryz.isAgg5
 z5 := Tryz.sizeOf5
 v5 := Tryz.zeroValue5
 t9 := Tryz.underlying9
 a9 := Tryz.isAgg9
 z9 := Tryz.sizeOf9
 v9 := Tryz.zeroValue9
 t46 := Tryz.underlying163
 a46 := Tryz.isAgg163
 z46 := Tryz.sizeOf163
 v46 := Tryz.zeroValue163
 t51 := Tryz.underlying191
 a51 := Tryz.isAgg191
 z51 := Tryz.sizeOf191
 v51 := Tryz.zeroValue191
 t53 := Tryz.underlying193
 a53 := Tryz.isAgg193
 z53 := Tryz.sizeOf193
 v53 := Tryz.zeroValue193 }
theorem Tryz.bits_Len (x : Int) (w : World) (h0 : 0 ≤ x) (h1 : x ≤ 18446744073709551615) :
   Calls Tryz.prog 119 #[.int .u64 x] w fun e w' => e = .returned (.int .i64 (Lib.bitLen x.toNat)) ∧ w' = w := Any.bits_Len Tryz.lays125 x w h0 h1
open Go.RowKit in
def Tryz.lays106_ren : Go.Shelf.Ren := ⟨fun | 106 => 126 | 213 => 156 | 265 => 188 | n => n, fun | 9 => 9 | 3 => 3 | n => n, fun | n => n⟩
theorem Tryz.lays106 : Go.Proofs.Lays.n106 Tryz.prog Tryz.lays106_ren := {
 mixed := by kernel_rfl
 f106 := Tryz.func126.trans (congrArg some (by kernel_rfl))
 f213 := Tryz.func156.trans (congrArg some (by kernel_rfl))
 f265 := Tryz.func188.trans (congrArg some (by kernel_rfl))
 t3 := Tryz.underlying3
 a3 := Tryz.isAgg3
 z3 := Tryz.sizeOf3
 v3 := Tryz.zeroValue3
 t9 := Tryz.underlying9
 a9 := Tryz.isAgg9
 z9 := Tryz.sizeOf9
 v9 := Tryz.zeroValue9 }
open Go.RowKit in
theorem Tryz.strings_Compare (a b : ByteArray) (w : World) :
   Calls Tryz.prog 126 #[.string a, .string b] w fun e w' => e = .returned (.int .i64 (Lib.compareBytes a.data.toList b.data.toList)) ∧ w' = w := Any.strings_Compare Tryz.lays106 a b w
open Go.RowKit in
def Tryz.lays122_ren : Go.Shelf.Ren := ⟨fun | 122 => 79 | 215 => 114 | n => n, fun | 3 => 3 | 4 => 4 | n => n, fun | n => n⟩
theorem Tryz.lays122 : Go.Proofs.Lays.n122 Tryz.prog Tryz.lays122_ren := {
 mixed := by kernel_rfl
 f122 := Tryz.func79.trans (congrArg some (by kernel_rfl))
 f215 := Tryz.func114.trans (congrArg some (by kernel_rfl))
 t3 := Tryz.underlying3
 a3 := Tryz.isAgg3
 z3 := Tryz.sizeOf3
 v3 := Tryz.zeroValue3
 t4 := Tryz.underlying4
 a4 := Tryz.isAgg4
 z4 := Tryz.sizeOf4
 v4 := Tryz.zeroValue4 }
open Go.RowKit in
theorem Tryz.cmp_Compare_int (x y : Int) (w : World) :
   Calls Tryz.prog 79 #[.int .i64 x, .int .i64 y] w fun e w' => e = .returned (.int .i64 (Lib.compareInt x y)) ∧ w' = w := Any.cmp_Compare_int Tryz.lays122 x y w
open Go.RowKit Go.Lib in
open Go.RowKit Go.Lib in
open Go.RowKit Go.Lib in
open Go.RowKit Go.Lib in
open Go.RowKit Go.Lib in
open Go.RowKit Go.Lib in
def Tryz.lays143_ren : Go.Shelf.Ren := ⟨fun | 143 => 169 | 219 => 195 | 217 => 205 | 225 => 206 | 224 => 207 | 267 => 208 | 266 => 213 | 314 => 214 | n => n, fun | 9 => 9 | 3 => 3 | 4 => 4 | 5 => 5 | 46 => 163 | 146 => 233 | 51 => 191 | n => n, fun | 1 => 0 | n => n⟩
theorem Tryz.lays143 : Go.Proofs.Lays.n143 Tryz.prog Tryz.lays143_ren := {
 mixed := by kernel_rfl
 f143 := Tryz.func169.trans (congrArg some (by kernel_rfl))
 f217 := Tryz.func205.trans (congrArg some (by kernel_rfl))
 f219 := Tryz.func195.trans (congrArg some (by kernel_rfl))
 f224 := Tryz.func207.trans (congrArg some (by kernel_rfl))
 f225 := Tryz.func206.trans (congrArg some (by kernel_rfl))
 f266 := Tryz.func213.trans (congrArg some (by kernel_rfl))
 f267 := Tryz.func208.trans (congrArg some (by kernel_rfl))
 f314 := Tryz.func214.trans (congrArg some (by kernel_rfl))
 t3 := Tryz.underlying3
 a3 := Tryz.isAgg3
 z3 := Tryz.sizeOf3
 v3 := Tryz.zeroValue3
 t4 := Tryz.underlying4
 a4 := Tryz.isAgg4
 z4 := Tryz.sizeOf4
 v4 := Tryz.zeroValue4
 t5 := Tryz.underlying5
 a5 := Tryz.isAgg5
 z5 := Tryz.sizeOf5
 v5 := Tryz.zeroValue5
 t9 := Tryz.underlying9
 a9 := Tryz.isAgg9
 z9 := Tryz.sizeOf9
 v9 := Tryz.zeroValue9
 t46 := Tryz.underlying163
 a46 := Tryz.isAgg163
 z46 := Tryz.sizeOf163
 v46 := Tryz.zeroValue163
 t51 := Tryz.underlying191
 a51 := Tryz.isAgg191
 z51 := Tryz.sizeOf191
 v51 := Tryz.zeroValue191
 t146 := Tryz.underlying233
 a146 := Tryz.isAgg233
 z146 := Tryz.sizeOf233
 v146 := Tryz.zeroValue233
 g1 := by kernel_rfl }
open Go.RowKit Go.Lib in
theorem Tryz.strings_Index_one (s : ByteArray) (c : UInt8) (w : World) :
   Calls Tryz.prog 169 #[.string s, .string ⟨#[c]⟩] w fun e w' => e = .returned (.int .i64 (Lib.indexByte s.data.toList c)) ∧ w' = w := Any.strings_Index_one Tryz.lays143 s c w
open Go.RowKit Go.Lib in
theorem Tryz.strings_Index (s sub : ByteArray) (m : Int) (w : World) (hs : s.size < 4294967281) (hm : w.cell? ⟨0, 0, none⟩ = some (.int .i64 m)) :
   Calls Tryz.prog 169 #[.string s, .string sub] w fun e w' => e = .returned (.int .i64 (Lib.index s.data.toList sub.data.toList)) ∧ w' = w := Any.strings_Index Tryz.lays143 s sub m w hs hm
def Tryz.lays138_ren : Go.Shelf.Ren := ⟨fun | 138 => 168 | 195 => 192 | 218 => 194 | 143 => 169 | 219 => 195 | 217 => 205 | 225 => 206 | 224 => 207 | 267 => 208 | 266 => 213 | 314 => 214 | n => n, fun | 9 => 9 | 3 => 3 | 4 => 4 | 5 => 5 | 0 => 0 | 46 => 163 | 146 => 233 | 51 => 191 | n => n, fun | 1 => 0 | n => n⟩
theorem Tryz.lays138 : Go.Proofs.Lays.n138 Tryz.prog Tryz.lays138_ren := {
 mixed := by kernel_rfl
 f138 := Tryz.func168.trans (congrArg some (by kernel_rfl))
 f143 := Tryz.func169.trans (congrArg some (by kernel_rfl))
 f195 := Tryz.func192.trans (congrArg some (by kernel_rfl))
 f217 := Tryz.func205.trans (congrArg some (by kernel_rfl))
 f218 := Tryz.func194.trans (congrArg some (by kernel_rfl))
 f219 := Tryz.func195.trans (congrArg some (by kernel_rfl))
 f224 := Tryz.func207.trans (congrArg some (by kernel_rfl))
 f225 := Tryz.func206.trans (congrArg some (by kernel_rfl))
 f266 := Tryz.func213.trans (congrArg some (by kernel_rfl))
 f267 := Tryz.func208.trans (congrArg some (by kernel_rfl))
 f314 := Tryz.func214.trans (congrArg some (by kernel_rfl))
 t0 := Tryz.underlying0
 a0 := Tryz.isAgg0
 z0 := Tryz.sizeOf0
 v0 := Tryz.zeroValue0
 t3 := Tryz.underlying3
 a3 := Tryz.isAgg3
 z3 := Tryz.sizeOf3
 v3 := Tryz.zeroValue3
 t4 := Tryz.underlying4
 a4 := Tryz.isAgg4
 z4 := Tryz.sizeOf4
 v4 := Tryz.zeroValue4
 t5 := Tryz.underlying5
 a5 := Tryz.isAgg5
 z5 := Tryz.sizeOf5
 v5 := Tryz.zeroValue5
 t9 := Tryz.underlying9
 a9 := Tryz.isAgg9
 z9 := Tryz.sizeOf9
 v9 := Tryz.zeroValue9
 t46 := Tryz.underlying163
 a46 := Tryz.isAgg163
 z46 := Tryz.sizeOf163
 v46 := Tryz.zeroValue163
 t51 := Tryz.underlying191
 a51 := Tryz.isAgg191
 z51 := Tryz.sizeOf191
 v51 := Tryz.zeroValue191
 t146 := Tryz.underlying233
 a146 := Tryz.isAgg233
 z146 := Tryz.sizeOf233
 v146 := Tryz.zeroValue233
 g1 := by kernel_rfl }
open Go.RowKit Go.Lib in
theorem Tryz.strings_Count_one (s : ByteArray) (c : UInt8) (w : World) :
   Calls Tryz.prog 168 #[.string s, .string ⟨#[c]⟩] w fun e w' => e = .returned (.int .i64 (Lib.countByte s.data.toList c)) ∧ w' = w := Any.strings_Count_one Tryz.lays138 s c w
open Go.RowKit Go.Lib in
theorem Tryz.strings_Count (s sub : ByteArray) (m : Int) (w : World) (hs : s.size < 4294967281) (hm : w.cell? ⟨0, 0, none⟩ = some (.int .i64 m)) (h2 : 2 ≤ sub.size) :
   Calls Tryz.prog 168 #[.string s, .string sub] w fun e w' => e = .returned (.int .i64 (Lib.countB s sub)) ∧ w' = w := Any.strings_Count Tryz.lays138 s sub m w hs hm h2
open Go.RowKit Go.Lib in
open Go.RowKit Go.Lib in
open Go.RowKit Go.Lib in
def Tryz.lays264_ren : Go.Shelf.Ren := ⟨fun | 264 => 172 | n => n, fun | 53 => 193 | 46 => 163 | n => n, fun | n => n⟩
theorem Tryz.lays264 : Go.Proofs.Lays.n264 Tryz.prog Tryz.lays264_ren := {
 mixed := by kernel_rfl
 f264 := Tryz.func172.trans (congrArg some (by kernel_rfl))
 t46 := Tryz.underlying163
 a46 := Tryz.isAgg163
 z46 := Tryz.sizeOf163
 v46 := Tryz.zeroValue163
 t53 := Tryz.underlying193
 a53 := Tryz.isAgg193
 z53 := Tryz.sizeOf193
 v53 := Tryz.zeroValue193 }
open Go.RowKit Go.Lib in
theorem Tryz.bits_Mul64 (x y : Nat) (hx : x < 18446744073709551616) (hy : y < 18446744073709551616) (w : World) :
   Calls Tryz.prog 172 #[.int .u64 x, .int .u64 y] w fun e w' => e = .returned (.tuple #[.int .u64 ((x * y / 18446744073709551616 : Nat) : Int), .int .u64 ((x * y % 18446744073709551616 : Nat) : Int)]) ∧ w' = w := Any.bits_Mul64 Tryz.lays264 x y hx hy w
def Tryz.sortClone_ren : Go.Shelf.Ren := ⟨fun | 6 => 85 | 15 => 119 | 14 => 118 | 28 => 151 | 29 => 152 | 20 => 143 | 21 => 144 | 22 => 145 | 23 => 146 | 24 => 147 | 25 => 148 | 26 => 149 | 27 => 150 | 46 => 173 | 47 => 174 | 48 => 175 | 49 => 176 | 50 => 177 | 57 => 198 | n => n, fun | 22 => 32 | 24 => 38 | 25 => 133 | 3 => 3 | 39 => 163 | 0 => 0 | 53 => 191 | 55 => 193 | 4 => 4 | 46 => 185 | 45 => 184 | 50 => 143 | 5 => 5 | 9 => 9 | 66 => 204 | 70 => 208 | 76 => 222 | 77 => 223 | n => n, fun | n => n⟩
theorem Tryz.sortClone : Go.Proofs.SlLaysF0.n6 Tryz.prog Tryz.sortClone_ren := {
 mixed := by kernel_rfl
 f6 := ⟨Tryz.f85.name, by decide, Tryz.func85.trans (congrArg some (by kernel_rfl))⟩
 f14 := ⟨Tryz.f118.name, by decide, Tryz.func118.trans (congrArg some (by kernel_rfl))⟩
 f15 := Tryz.func119.trans (congrArg some (by kernel_rfl))
 f20 := ⟨Tryz.f143.name, by decide, Tryz.func143.trans (congrArg some (by kernel_rfl))⟩
 f21 := ⟨Tryz.f144.name, by decide, Tryz.func144.trans (congrArg some (by kernel_rfl))⟩
 f22 := ⟨Tryz.f145.name, by decide, Tryz.func145.trans (congrArg some (by kernel_rfl))⟩
 f23 := ⟨Tryz.f146.name, by decide, Tryz.func146.trans (congrArg some (by kernel_rfl))⟩
 f24 := ⟨Tryz.f147.name, by decide, Tryz.func147.trans (congrArg some (by kernel_rfl))⟩
 f25 := ⟨Tryz.f148.name, by decide, Tryz.func148.trans (congrArg some (by kernel_rfl))⟩
 f26 := ⟨Tryz.f149.name, by decide, Tryz.func149.trans (congrArg some (by kernel_rfl))⟩
 f27 := ⟨Tryz.f150.name, by decide, Tryz.func150.trans (congrArg some (by kernel_rfl))⟩
 f28 := Tryz.func151.trans (congrArg some (by kernel_rfl))
 f29 := Tryz.func152.trans (congrArg some (by kernel_rfl))
 f46 := ⟨Tryz.f173.name, by decide, Tryz.func173.trans (congrArg some (by kernel_rfl))⟩
 f47 := Tryz.func174.trans (congrArg some (by kernel_rfl))
 f48 := Tryz.func175.trans (congrArg some (by kernel_rfl))
 f49 := ⟨Tryz.f176.name, by decide, Tryz.func176.trans (congrArg some (by kernel_rfl))⟩
 f50 := ⟨Tryz.f177.name, by decide, Tryz.func177.trans (congrArg some (by kernel_rfl))⟩
 f57 := ⟨Tryz.f198.name, by decide, Tryz.func198.trans (congrArg some (by kernel_rfl))⟩
 t0 := Tryz.underlying0
 a0 := Tryz.isAgg0
 z0 := Tryz.sizeOf0
 v0 := Tryz.zeroValue0
 t3 := Tryz.underlying3
 a3 := Tryz.isAgg3
 z3 := Tryz.sizeOf3
 v3 := Tryz.zeroValue3
 t4 := Tryz.underlying4
 a4 := Tryz.isAgg4
 z4 := Tryz.sizeOf4
 v4 := Tryz.zeroValue4
 t5 := Tryz.underlying5
 a5 := Tryz.isAgg5
 z5 := Tryz.sizeOf5
 v5 := Tryz.zeroValue5
 t9 := Tryz.underlying9
 a9 := Tryz.isAgg9
 z9 := Tryz.sizeOf9
 v9 := Tryz.zeroValue9
 t22 := Tryz.underlying32
 a22 := Tryz.isAgg32
 z22 := Tryz.sizeOf32
 v22 := Tryz.zeroValue32
 t25 := Tryz.underlying133
 a25 := Tryz.isAgg133
 z25 := Tryz.sizeOf133
 v25 := Tryz.zeroValue133
 t39 := Tryz.underlying163
 a39 := Tryz.isAgg163
 z39 := Tryz.sizeOf163
 v39 := Tryz.zeroValue163
 t45 := Tryz.underlying184
 a45 := Tryz.isAgg184
 z45 := Tryz.sizeOf184
 v45 := Tryz.zeroValue184
 t46 := Tryz.underlying185
 a46 := Tryz.isAgg185
 z46 := Tryz.sizeOf185
 v46 := Tryz.zeroValue185
 t50 := Tryz.underlying143
 a50 := Tryz.isAgg143
 z50 := Tryz.sizeOf143
 v50 := Tryz.zeroValue143
 t53 := Tryz.underlying191
 a53 := Tryz.isAgg191
 z53 := Tryz.sizeOf191
 v53 := Tryz.zeroValue191
 t55 := Tryz.underlying193
 a55 := Tryz.isAgg193
 z55 := Tryz.sizeOf193
 v55 := Tryz.zeroValue193
 t66 := Tryz.underlying204
 a66 := Tryz.isAgg204
 z66 := Tryz.sizeOf204
 v66 := Tryz.zeroValue204
 t70 := Tryz.underlying208
 a70 := Tryz.isAgg208
 z70 := Tryz.sizeOf208
 v70 := Tryz.zeroValue208
 t76 := Tryz.underlying222
 a76 := Tryz.isAgg222
 z76 := Tryz.sizeOf222
 v76 := Tryz.zeroValue222
 t77 := Tryz.underlying223
 a77 := Tryz.isAgg223
 z77 := Tryz.sizeOf223
 v77 := Tryz.zeroValue223 }
def Tryz.sortSpan_ren : Go.Shelf.Ren := ⟨fun | 6 => 124 | 15 => 119 | 14 => 155 | 28 => 151 | 29 => 152 | 20 => 180 | 21 => 181 | 22 => 182 | 23 => 183 | 24 => 184 | 25 => 185 | 26 => 186 | 27 => 187 | 46 => 200 | 47 => 174 | 48 => 175 | 49 => 201 | 50 => 202 | 57 => 212 | n => n, fun | 22 => 47 | 24 => 56 | 25 => 168 | 3 => 3 | 39 => 163 | 0 => 0 | 53 => 191 | 55 => 193 | 4 => 4 | 46 => 185 | 45 => 184 | 50 => 143 | 5 => 5 | 9 => 9 | 66 => 204 | 70 => 208 | 76 => 222 | 77 => 223 | n => n, fun | n => n⟩
theorem Tryz.sortSpan : Go.Proofs.SlLaysF0.n6 Tryz.prog Tryz.sortSpan_ren := {
 mixed := by kernel_rfl
 f6 := ⟨Tryz.f124.name, by decide, Tryz.func124.trans (congrArg some (by kernel_rfl))⟩
 f14 := ⟨Tryz.f155.name, by decide, Tryz.func155.trans (congrArg some (by kernel_rfl))⟩
 f15 := Tryz.func119.trans (congrArg some (by kernel_rfl))
 f20 := ⟨Tryz.f180.name, by decide, Tryz.func180.trans (congrArg some (by kernel_rfl))⟩
 f21 := ⟨Tryz.f181.name, by decide, Tryz.func181.trans (congrArg some (by kernel_rfl))⟩
 f22 := ⟨Tryz.f182.name, by decide, Tryz.func182.trans (congrArg some (by kernel_rfl))⟩
 f23 := ⟨Tryz.f183.name, by decide, Tryz.func183.trans (congrArg some (by kernel_rfl))⟩
 f24 := ⟨Tryz.f184.name, by decide, Tryz.func184.trans (congrArg some (by kernel_rfl))⟩
 f25 := ⟨Tryz.f185.name, by decide, Tryz.func185.trans (congrArg some (by kernel_rfl))⟩
 f26 := ⟨Tryz.f186.name, by decide, Tryz.func186.trans (congrArg some (by kernel_rfl))⟩
 f27 := ⟨Tryz.f187.name, by decide, Tryz.func187.trans (congrArg some (by kernel_rfl))⟩
 f28 := Tryz.func151.trans (congrArg some (by kernel_rfl))
 f29 := Tryz.func152.trans (congrArg some (by kernel_rfl))
 f46 := ⟨Tryz.f200.name, by decide, Tryz.func200.trans (congrArg some (by kernel_rfl))⟩
 f47 := Tryz.func174.trans (congrArg some (by kernel_rfl))
 f48 := Tryz.func175.trans (congrArg some (by kernel_rfl))
 f49 := ⟨Tryz.f201.name, by decide, Tryz.func201.trans (congrArg some (by kernel_rfl))⟩
 f50 := ⟨Tryz.f202.name, by decide, Tryz.func202.trans (congrArg some (by kernel_rfl))⟩
 f57 := ⟨Tryz.f212.name, by decide, Tryz.func212.trans (congrArg some (by kernel_rfl))⟩
 t0 := Tryz.underlying0
 a0 := Tryz.isAgg0
 z0 := Tryz.sizeOf0
 v0 := Tryz.zeroValue0
 t3 := Tryz.underlying3
 a3 := Tryz.isAgg3
 z3 := Tryz.sizeOf3
 v3 := Tryz.zeroValue3
 t4 := Tryz.underlying4
 a4 := Tryz.isAgg4
 z4 := Tryz.sizeOf4
 v4 := Tryz.zeroValue4
 t5 := Tryz.underlying5
 a5 := Tryz.isAgg5
 z5 := Tryz.sizeOf5
 v5 := Tryz.zeroValue5
 t9 := Tryz.underlying9
 a9 := Tryz.isAgg9
 z9 := Tryz.sizeOf9
 v9 := Tryz.zeroValue9
 t22 := Tryz.underlying47
 a22 := Tryz.isAgg47
 z22 := Tryz.sizeOf47
 v22 := Tryz.zeroValue47
 t25 := Tryz.underlying168
 a25 := Tryz.isAgg168
 z25 := Tryz.sizeOf168
 v25 := Tryz.zeroValue168
 t39 := Tryz.underlying163
 a39 := Tryz.isAgg163
 z39 := Tryz.sizeOf163
 v39 := Tryz.zeroValue163
 t45 := Tryz.underlying184
 a45 := Tryz.isAgg184
 z45 := Tryz.sizeOf184
 v45 := Tryz.zeroValue184
 t46 := Tryz.underlying185
 a46 := Tryz.isAgg185
 z46 := Tryz.sizeOf185
 v46 := Tryz.zeroValue185
 t50 := Tryz.underlying143
 a50 := Tryz.isAgg143
 z50 := Tryz.sizeOf143
 v50 := Tryz.zeroValue143
 t53 := Tryz.underlying191
 a53 := Tryz.isAgg191
 z53 := Tryz.sizeOf191
 v53 := Tryz.zeroValue191
 t55 := Tryz.underlying193
 a55 := Tryz.isAgg193
 z55 := Tryz.sizeOf193
 v55 := Tryz.zeroValue193
 t66 := Tryz.underlying204
 a66 := Tryz.isAgg204
 z66 := Tryz.sizeOf204
 v66 := Tryz.zeroValue204
 t70 := Tryz.underlying208
 a70 := Tryz.isAgg208
 z70 := Tryz.sizeOf208
 v70 := Tryz.zeroValue208
 t76 := Tryz.underlying222
 a76 := Tryz.isAgg222
 z76 := Tryz.sizeOf222
 v76 := Tryz.zeroValue222
 t77 := Tryz.underlying223
 a77 := Tryz.isAgg223
 z77 := Tryz.sizeOf223
 v77 := Tryz.zeroValue223 }
end Go.Proofs
