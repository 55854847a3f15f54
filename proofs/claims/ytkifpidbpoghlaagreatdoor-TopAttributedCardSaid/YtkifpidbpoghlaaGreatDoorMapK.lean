/-
  DERIVED: THE SHELF's CONTRACTS AT THIS DUMP, IN PLAIN WORDS (tools/lay-plain.mjs out of 'TryzShelf.lean', which tools/lay-shelf.mjs wrote): THE SAME DECLARATIONS UNDER THE SAME NAMES: 'import', 'namespace', 'open', 'def', 'theorem' AND NOTHING ELSE: no command of the shelf's: FOR A HAND-IN. Each laying: the table of numbers ('.._ren') and one theorem, a field a fact of the dump's own or the kernel's comparison; each contract: ONE APPLICATION.
-/
import Derived.Shelf.SlGeneric
import Derived.Shelf.SlSortCmp.WholeK
import Derived.Ground.SlsfProg
import Derived.Shelf.Strings.OnBuilder
import Derived.Shelf.Small.Bits
import Derived.Shelf.Small.Strs
import Derived.Shelf.Small.Wraps
import Derived.Shelf.Strconv.Atoi
import Derived.Shelf.Strconv.Itoa0
import Derived.Shelf.Strconv.Itoa1
import Derived.Shelf.LaysM
import Derived.Shelf.Strconv.Itoa2
import Derived.Shelf.Strconv.Itoa3
import Derived.Shelf.Strconv.AtoiFail
import Derived.Shelf.Strconv.Clone
import Derived.Shelf.Strconv.SyntaxError
import Derived.Shelf.LaysC
import Derived.Shelf.Strconv.ToError
import Derived.Shelf.Strconv.Lower
import Derived.Shelf.Strconv.AtoiLong
import Derived.Shelf.Strconv.AtoiInnerAll
import Derived.Shelf.Strconv.RangeError
import Derived.Shelf.Strconv.ToErrorRange
import Derived.Shelf.Strconv.AtoiAll
import Derived.Shelf.Strings.Search1
import Derived.Shelf.Strings.Search2
import Derived.Shelf.Strings.Search3
import Derived.Shelf.Strings.Cut
import Derived.Shelf.Strings.Count
import Derived.Shelf.Strings.Prefix
import Derived.Shelf.Bits.Mul64
import Derived.Test.YtkifpidbpoghlaaGreatDoorProg
import Derived.Test.YtkifpidbpoghlaaGreatDoorStates
import Derived.Lib.Builder
import Derived.Lib.UnsafeStr
import Derived.Laws.Externs
import Derived.Test.YtkifpidbpoghlaaGreatDoorHeap
import Derived.Test.YtkifpidbpoghlaaGreatDoorRows
import Derived.LaidLaws
import Derived.Lay
import Derived.ProofKit
import Derived.Lib.LaidTab
import Derived.Lib.LaidU8
import Derived.Stop.LaidErr
import Derived.Lib.AtoiErrMem
import Derived.KernelRfl
import Derived.Laws.StructEq
import Derived.Test.YtkifpidbpoghlaaGreatDoorTl
namespace Go.Proofs
open Go.Shelf
def Tryz.lays156_ren :Go.Shelf.Ren:=⟨fun|156=>44|165=>87|166=>88|169=>89|240=>134|241=>135|276=>168|277=>169|n=>n,fun|31=>25|9=>9|3=>3|4=>4|0=>0|20=>20|72=>167|76=>115|70=>164|37=>165|75=>114|127=>218|164=>255|5=>5|80=>168|n=>n,fun|n=>n⟩
theorem Tryz.lays156 :Go.Proofs.Lays.n156 Tryz.prog Tryz.lays156_ren:= {
 mixed:=by kernel_rfl
 f156:=Tryz.func44.trans (congrArg some (by kernel_rfl))
 f165:=Tryz.func87.trans (congrArg some (by kernel_rfl))
 f166:=Tryz.func88.trans (congrArg some (by kernel_rfl))
 f169:=Tryz.func89.trans (congrArg some (by kernel_rfl))
 f240:=Tryz.func134.trans (congrArg some (by kernel_rfl))
 f241:=Tryz.func135.trans (congrArg some (by kernel_rfl))
 f276:=Tryz.func168.trans (congrArg some (by kernel_rfl))
 f277:=Tryz.func169.trans (congrArg some (by kernel_rfl))
 t0:=Tryz.underlying0
 a0:=Tryz.isAgg0
 z0:=Tryz.sizeOf0
 v0:=Tryz.zeroValue0
 t3:=Tryz.underlying3
 a3:=Tryz.isAgg3
 z3:=Tryz.sizeOf3
 v3:=Tryz.zeroValue3
 t4:=Tryz.underlying4
 a4:=Tryz.isAgg4
 z4:=Tryz.sizeOf4
 v4:=Tryz.zeroValue4
 t9:=Tryz.underlying9
 a9:=Tryz.isAgg9
 z9:=Tryz.sizeOf9
 v9:=Tryz.zeroValue9
 t20:=Tryz.underlying20
 a20:=Tryz.isAgg20
 z20:=Tryz.sizeOf20
 v20:=Tryz.zeroValue20
 t31:=Tryz.underlying25
 a31:=Tryz.isAgg25
 z31:=Tryz.sizeOf25
 v31:=Tryz.zeroValue25
 t37:=Tryz.underlying165
 a37:=Tryz.isAgg165
 z37:=Tryz.sizeOf165
 v37:=Tryz.zeroValue165
 t70:=Tryz.underlying164
 a70:=Tryz.isAgg164
 z70:=Tryz.sizeOf164
 v70:=Tryz.zeroValue164
 t72:=Tryz.underlying167
 a72:=Tryz.isAgg167
 z72:=Tryz.sizeOf167
 v72:=Tryz.zeroValue167
 t75:=Tryz.underlying114
 a75:=Tryz.isAgg114
 z75:=Tryz.sizeOf114
 v75:=Tryz.zeroValue114
 t76:=Tryz.underlying115
 a76:=Tryz.isAgg115
 z76:=Tryz.sizeOf115
 v76:=Tryz.zeroValue115
 t127:=Tryz.underlying218
 a127:=Tryz.isAgg218
 z127:=Tryz.sizeOf218
 v127:=Tryz.zeroValue218
 t164:=Tryz.underlying255
 a164:=Tryz.isAgg255
 z164:=Tryz.sizeOf255
 v164:=Tryz.zeroValue255}
theorem Tryz.Builder_Extra_156 :Builder.Extra Tryz.prog Tryz.lays156_ren:= {
 sizeBuilder:=by kernel_rfl
 liesBuilder:=by kernel_rfl
 t5:=Tryz.underlying5
 a5:=Tryz.isAgg5
 z5:=Tryz.sizeOf5
 v5:=Tryz.zeroValue5
 infoByte:=by kernel_rfl
 cellsByte:=by kernel_rfl
 sizeByte:=by kernel_rfl
 neB5:=by decide}
open Go.RowKit in
theorem Tryz.strings_Join_none (a:Option Addr)(c:Nat)(sep:ByteArray)(w:World):
   Calls Tryz.prog 44 #[.slice a 0 c,.string sep] w fun e w'=>e= .returned (.string ⟨#[]⟩)/\w'=w:=Any.strings_Join_none Tryz.lays156 Tryz.Builder_Extra_156 a c sep w
open Go.RowKit in
theorem Tryz.strings_Join (bk o c:Nat)(xs:List ByteArray)(sep:ByteArray)(w:World)(hcells:∀(j:Nat) x,xs[j]? =some x->w.cell? ⟨bk,o+j,none⟩=some (.string x))(hbk:bk<w.heap.size)(hN:xs.length<=140737488355328)(hcap:xs.length<=c)(hlen:(Lib.join (xs.map (·.data.toList)) sep.data.toList).length<=140737488355328):
   Calls Tryz.prog 44 #[.slice (some ⟨bk,o,none⟩) xs.length c,.string sep] w fun e w'=>e= .returned (.string ⟨(Lib.join (xs.map (·.data.toList)) sep.data.toList).toArray⟩)/\Below w.heap.size w w':=Any.strings_Join Tryz.lays156 Tryz.Builder_Extra_156 bk o c xs sep w hcells hbk hN hcap hlen
def Tryz.lays125_ren :Go.Shelf.Ren:=⟨fun|125=>161|128=>190|129=>191|n=>n,fun|46=>169|3=>3|51=>245|53=>250|4=>4|5=>5|9=>9|n=>n,fun|n=>n⟩
theorem Tryz.lays125 :Go.Proofs.Lays.n125 Tryz.prog Tryz.lays125_ren:= {
 mixed:=by kernel_rfl
 f125:=Tryz.func161.trans (congrArg some (by kernel_rfl))
 f128:=Tryz.func190.trans (congrArg some (by kernel_rfl))
 f129:=Tryz.func191.trans (congrArg some (by kernel_rfl))
 t3:=Tryz.underlying3
 a3:=Tryz.isAgg3
 z3:=Tryz.sizeOf3
 v3:=Tryz.zeroValue3
 t4:=Tryz.underlying4
 a4:=Tryz.isAgg4
 z4:=Tryz.sizeOf4
 v4:=Tryz.zeroValue4
 t5:=Tryz.underlying5
 a5:=Tryz.isAgg5
 z5:=Tryz.sizeOf5
 v5:=Tryz.zeroValue5
 t9:=Tryz.underlying9
 a9:=Tryz.isAgg9
 z9:=Tryz.sizeOf9
 v9:=Tryz.zeroValue9
 t46:=Tryz.underlying169
 a46:=Tryz.isAgg169
 z46:=Tryz.sizeOf169
 v46:=Tryz.zeroValue169
 t51:=Tryz.underlying245
 a51:=Tryz.isAgg245
 z51:=Tryz.sizeOf245
 v51:=Tryz.zeroValue245
 t53:=Tryz.underlying250
 a53:=Tryz.isAgg250
 z53:=Tryz.sizeOf250
 v53:=Tryz.zeroValue250}
theorem Tryz.bits_Len (x:Int)(w:World)(h0:0<=x)(h1:x<=18446744073709551615):
   Calls Tryz.prog 161 #[.int .u64 x] w fun e w'=>e= .returned (.int .i64 (Lib.bitLen x.toNat))/\w'=w:=Any.bits_Len Tryz.lays125 x w h0 h1
open Go.RowKit in
def Tryz.lays106_ren :Go.Shelf.Ren:=⟨fun|106=>110|213=>152|265=>176|n=>n,fun|9=>9|3=>3|n=>n,fun|n=>n⟩
theorem Tryz.lays106 :Go.Proofs.Lays.n106 Tryz.prog Tryz.lays106_ren:= {
 mixed:=by kernel_rfl
 f106:=Tryz.func110.trans (congrArg some (by kernel_rfl))
 f213:=Tryz.func152.trans (congrArg some (by kernel_rfl))
 f265:=Tryz.func176.trans (congrArg some (by kernel_rfl))
 t3:=Tryz.underlying3
 a3:=Tryz.isAgg3
 z3:=Tryz.sizeOf3
 v3:=Tryz.zeroValue3
 t9:=Tryz.underlying9
 a9:=Tryz.isAgg9
 z9:=Tryz.sizeOf9
 v9:=Tryz.zeroValue9}
open Go.RowKit in
theorem Tryz.strings_Compare (a b:ByteArray)(w:World):
   Calls Tryz.prog 110 #[.string a,.string b] w fun e w'=>e= .returned (.int .i64 (Lib.compareBytes a.data.toList b.data.toList))/\w'=w:=Any.strings_Compare Tryz.lays106 a b w
open Go.RowKit in
open Go.RowKit in
open Go.RowKit in
open Go.RowKit in
def Tryz.lays122_ren :Go.Shelf.Ren:=⟨fun|122=>153|215=>177|n=>n,fun|3=>3|4=>4|n=>n,fun|n=>n⟩
theorem Tryz.lays122 :Go.Proofs.Lays.n122 Tryz.prog Tryz.lays122_ren:= {
 mixed:=by kernel_rfl
 f122:=Tryz.func153.trans (congrArg some (by kernel_rfl))
 f215:=Tryz.func177.trans (congrArg some (by kernel_rfl))
 t3:=Tryz.underlying3
 a3:=Tryz.isAgg3
 z3:=Tryz.sizeOf3
 v3:=Tryz.zeroValue3
 t4:=Tryz.underlying4
 a4:=Tryz.isAgg4
 z4:=Tryz.sizeOf4
 v4:=Tryz.zeroValue4}
open Go.RowKit in
theorem Tryz.cmp_Compare_int (x y:Int)(w:World):
   Calls Tryz.prog 153 #[.int .i64 x,.int .i64 y] w fun e w'=>e= .returned (.int .i64 (Lib.compareInt x y))/\w'=w:=Any.cmp_Compare_int Tryz.lays122 x y w
open Go.RowKit in
open Go.RowKit in
open Go.Lib in
open Go.Lib in
open Go.Lib in
open Go.Lib in
open Go.RowKit Go.Sort Go.Lib in
open Go.RowKit Go.Sort Go.Lib in
open Go.RowKit Go.Sort Go.Lib in
open Go.RowKit Go.Sort Go.Lib in
open Go.RowKit Go.Sort Go.Lib in
def Tryz.laysM171_ren :Go.Shelf.Ren:=⟨fun|171=>103|243=>148|246=>174|283=>195|284=>196|285=>197|286=>198|129=>191|317=>227|318=>228|319=>229|320=>230|337=>240|338=>241|n=>n,fun|3=>3|9=>9|2=>2|4=>4|171=>286|0=>0|53=>250|37=>165|5=>5|173=>288|212=>313|51=>245|20=>20|213=>314|46=>169|232=>327|233=>328|n=>n,fun|17=>5|18=>6|19=>7|n=>n⟩
theorem Tryz.laysM171 :Go.Proofs.LaysM.n171 Tryz.prog Tryz.laysM171_ren:= {
 mixed:=by kernel_rfl
 f129:=Tryz.func191.trans (congrArg some (by kernel_rfl))
 f171:=Tryz.func103.trans (congrArg some (by kernel_rfl))
 f243:=Tryz.func148.trans (congrArg some (by kernel_rfl))
 f246:=Tryz.func174.trans (congrArg some (by kernel_rfl))
 f283:=Tryz.func195.trans (congrArg some (by kernel_rfl))
 f284:=Tryz.func196.trans (congrArg some (by kernel_rfl))
 f285:=Tryz.func197.trans (congrArg some (by kernel_rfl))
 f286:=Tryz.func198.trans (congrArg some (by kernel_rfl))
 f317:=Tryz.func227.trans (congrArg some (by kernel_rfl))
 f318:=Tryz.func228.trans (congrArg some (by kernel_rfl))
 f319:=Tryz.func229.trans (congrArg some (by kernel_rfl))
 f320:=Tryz.func230.trans (congrArg some (by kernel_rfl))
 f337:=Tryz.func240.trans (congrArg some (by kernel_rfl))
 f338:=Tryz.func241.trans (congrArg some (by kernel_rfl))
 t0:=Tryz.underlying0
 a0:=Tryz.isAgg0
 z0:=Tryz.sizeOf0
 v0:=Tryz.zeroValue0
 t2:=Tryz.underlying2
 a2:=Tryz.isAgg2
 z2:=Tryz.sizeOf2
 v2:=Tryz.zeroValue2
 t3:=Tryz.underlying3
 a3:=Tryz.isAgg3
 z3:=Tryz.sizeOf3
 v3:=Tryz.zeroValue3
 t4:=Tryz.underlying4
 a4:=Tryz.isAgg4
 z4:=Tryz.sizeOf4
 v4:=Tryz.zeroValue4
 t5:=Tryz.underlying5
 a5:=Tryz.isAgg5
 z5:=Tryz.sizeOf5
 v5:=Tryz.zeroValue5
 t9:=Tryz.underlying9
 a9:=Tryz.isAgg9
 z9:=Tryz.sizeOf9
 v9:=Tryz.zeroValue9
 t20:=Tryz.underlying20
 a20:=Tryz.isAgg20
 z20:=Tryz.sizeOf20
 v20:=Tryz.zeroValue20
 t37:=Tryz.underlying165
 a37:=Tryz.isAgg165
 z37:=Tryz.sizeOf165
 v37:=Tryz.zeroValue165
 t46:=Tryz.underlying169
 a46:=Tryz.isAgg169
 z46:=Tryz.sizeOf169
 v46:=Tryz.zeroValue169
 t51:=Tryz.underlying245
 a51:=Tryz.isAgg245
 z51:=Tryz.sizeOf245
 v51:=Tryz.zeroValue245
 t53:=Tryz.underlying250
 a53:=Tryz.isAgg250
 z53:=Tryz.sizeOf250
 v53:=Tryz.zeroValue250
 t171:=Tryz.underlying286
 a171:=Tryz.isAgg286
 z171:=Tryz.sizeOf286
 v171:=Tryz.zeroValue286
 t173:=Tryz.underlying288
 a173:=Tryz.isAgg288
 z173:=Tryz.sizeOf288
 v173:=Tryz.zeroValue288
 t212:=Tryz.underlying313
 a212:=Tryz.isAgg313
 z212:=Tryz.sizeOf313
 v212:=Tryz.zeroValue313
 t213:=Tryz.underlying314
 a213:=Tryz.isAgg314
 z213:=Tryz.sizeOf314
 t232:=Tryz.underlying327
 a232:=Tryz.isAgg327
 z232:=Tryz.sizeOf327
 v232:=Tryz.zeroValue327
 t233:=Tryz.underlying328
 a233:=Tryz.isAgg328
 z233:=Tryz.sizeOf328
 v233:=Tryz.zeroValue328
 g17:=by kernel_rfl
 g18:=by kernel_rfl
 g19:=by kernel_rfl
 i0:=by kernel_rfl
 i2:=by kernel_rfl
 i3:=by kernel_rfl
 i4:=by kernel_rfl
 i5:=by kernel_rfl
 i9:=by kernel_rfl
 i20:=by kernel_rfl
 i37:=by kernel_rfl
 i46:=by kernel_rfl
 i51:=by kernel_rfl
 i53:=by kernel_rfl
 i171:=by kernel_rfl
 i173:=by kernel_rfl
 i212:=by kernel_rfl
 i232:=by kernel_rfl
 i233:=by kernel_rfl
 m17:=by kernel_rfl
 m18:=by kernel_rfl
 m19:=by kernel_rfl}
open Go.RowKit Go.Sort Go.Lib in
theorem Tryz.strconv_Itoa (n : Int) (h0 : -9223372036854775808 ≤ n) (h1 : n ≤ 9223372036854775807) (w : World) (htab : Lib.TabIs Tryz.prog w "internal/strconv.uint64pow10" .u64 Lib.pow10Tab) :
   Calls Tryz.prog 103 #[.int .i64 n] w fun e w'=>e= .returned (.string ⟨(Lib.itoa n).toArray⟩)/\∃ k os,w'=grow (w.drewN k) os:=Any.strconv_Itoa Tryz.laysM171 n h0 h1 w htab
open Go.RowKit Go.Sort Go.Lib in
open Go.RowKit in
open Go.RowKit in
open Go.RowKit in
open Go.RowKit in
open Go.RowKit in
open Go.RowKit in
open Go.RowKit in
open Go.RowKit in
open Go.RowKit in
open Go.RowKit in
def Tryz.laysC172_ren :Go.Shelf.Ren:=⟨fun|172=>48|244=>93|245=>94|247=>137|279=>138|280=>139|281=>140|282=>141|287=>170|316=>171|171=>103|205=>172|321=>193|322=>194|243=>148|246=>174|283=>195|284=>196|285=>197|286=>198|129=>191|317=>227|318=>228|319=>229|320=>230|337=>240|338=>241|n=>n,fun|9=>9|3=>3|75=>114|76=>115|4=>4|5=>5|167=>219|37=>165|0=>0|85=>220|2=>2|168=>222|53=>250|175=>258|46=>169|210=>261|127=>218|145=>281|143=>279|21=>21|171=>286|173=>288|212=>313|51=>245|20=>20|213=>314|232=>327|233=>328|80=>168|n=>n,fun|15=>1|16=>2|17=>5|18=>6|19=>7|n=>n⟩
theorem Tryz.laysC172 :Go.Proofs.LaysC.n172 Tryz.prog Tryz.laysC172_ren:= {
 mixed:=by kernel_rfl
 f129:=Tryz.func191.trans (congrArg some (by kernel_rfl))
 f171:=Tryz.func103.trans (congrArg some (by kernel_rfl))
 f172:=Tryz.func48.trans (congrArg some (by kernel_rfl))
 f205:=Tryz.func172.trans (congrArg some (by kernel_rfl))
 f243:=Tryz.func148.trans (congrArg some (by kernel_rfl))
 f244:=Tryz.func93.trans (congrArg some (by kernel_rfl))
 f245:=Tryz.func94.trans (congrArg some (by kernel_rfl))
 f246:=Tryz.func174.trans (congrArg some (by kernel_rfl))
 f247:=Tryz.func137.trans (congrArg some (by kernel_rfl))
 f279:=Tryz.func138.trans (congrArg some (by kernel_rfl))
 f280:=Tryz.func139.trans (congrArg some (by kernel_rfl))
 f281:=Tryz.func140.trans (congrArg some (by kernel_rfl))
 f282:=Tryz.func141.trans (congrArg some (by kernel_rfl))
 f283:=Tryz.func195.trans (congrArg some (by kernel_rfl))
 f284:=Tryz.func196.trans (congrArg some (by kernel_rfl))
 f285:=Tryz.func197.trans (congrArg some (by kernel_rfl))
 f286:=Tryz.func198.trans (congrArg some (by kernel_rfl))
 f287:=Tryz.func170.trans (congrArg some (by kernel_rfl))
 f316:=Tryz.func171.trans (congrArg some (by kernel_rfl))
 f317:=Tryz.func227.trans (congrArg some (by kernel_rfl))
 f318:=Tryz.func228.trans (congrArg some (by kernel_rfl))
 f319:=Tryz.func229.trans (congrArg some (by kernel_rfl))
 f320:=Tryz.func230.trans (congrArg some (by kernel_rfl))
 f321:=Tryz.func193.trans (congrArg some (by kernel_rfl))
 f322:=Tryz.func194.trans (congrArg some (by kernel_rfl))
 f337:=Tryz.func240.trans (congrArg some (by kernel_rfl))
 f338:=Tryz.func241.trans (congrArg some (by kernel_rfl))
 t0:=Tryz.underlying0
 a0:=Tryz.isAgg0
 z0:=Tryz.sizeOf0
 v0:=Tryz.zeroValue0
 t2:=Tryz.underlying2
 a2:=Tryz.isAgg2
 z2:=Tryz.sizeOf2
 v2:=Tryz.zeroValue2
 t3:=Tryz.underlying3
 a3:=Tryz.isAgg3
 z3:=Tryz.sizeOf3
 v3:=Tryz.zeroValue3
 t4:=Tryz.underlying4
 a4:=Tryz.isAgg4
 z4:=Tryz.sizeOf4
 v4:=Tryz.zeroValue4
 t5:=Tryz.underlying5
 a5:=Tryz.isAgg5
 z5:=Tryz.sizeOf5
 v5:=Tryz.zeroValue5
 t9:=Tryz.underlying9
 a9:=Tryz.isAgg9
 z9:=Tryz.sizeOf9
 v9:=Tryz.zeroValue9
 t20:=Tryz.underlying20
 a20:=Tryz.isAgg20
 z20:=Tryz.sizeOf20
 v20:=Tryz.zeroValue20
 t21:=Tryz.underlying21
 a21:=Tryz.isAgg21
 z21:=Tryz.sizeOf21
 v21:=Tryz.zeroValue21
 t37:=Tryz.underlying165
 a37:=Tryz.isAgg165
 z37:=Tryz.sizeOf165
 v37:=Tryz.zeroValue165
 t46:=Tryz.underlying169
 a46:=Tryz.isAgg169
 z46:=Tryz.sizeOf169
 v46:=Tryz.zeroValue169
 t51:=Tryz.underlying245
 a51:=Tryz.isAgg245
 z51:=Tryz.sizeOf245
 v51:=Tryz.zeroValue245
 t53:=Tryz.underlying250
 a53:=Tryz.isAgg250
 z53:=Tryz.sizeOf250
 v53:=Tryz.zeroValue250
 t75:=Tryz.underlying114
 a75:=Tryz.isAgg114
 z75:=Tryz.sizeOf114
 v75:=Tryz.zeroValue114
 t76:=Tryz.underlying115
 a76:=Tryz.isAgg115
 z76:=Tryz.sizeOf115
 v76:=Tryz.zeroValue115
 t85:=Tryz.underlying220
 a85:=Tryz.isAgg220
 z85:=Tryz.sizeOf220
 v85:=Tryz.zeroValue220
 t127:=Tryz.underlying218
 a127:=Tryz.isAgg218
 z127:=Tryz.sizeOf218
 v127:=Tryz.zeroValue218
 t143:=Tryz.underlying279
 a143:=Tryz.isAgg279
 z143:=Tryz.sizeOf279
 v143:=Tryz.zeroValue279
 t145:=Tryz.underlying281
 a145:=Tryz.isAgg281
 z145:=Tryz.sizeOf281
 v145:=Tryz.zeroValue281
 t167:=Tryz.underlying219
 a167:=Tryz.isAgg219
 z167:=Tryz.sizeOf219
 v167:=Tryz.zeroValue219
 t168:=Tryz.underlying222
 a168:=Tryz.isAgg222
 z168:=Tryz.sizeOf222
 v168:=Tryz.zeroValue222
 t171:=Tryz.underlying286
 a171:=Tryz.isAgg286
 z171:=Tryz.sizeOf286
 v171:=Tryz.zeroValue286
 t173:=Tryz.underlying288
 a173:=Tryz.isAgg288
 z173:=Tryz.sizeOf288
 v173:=Tryz.zeroValue288
 t175:=Tryz.underlying258
 a175:=Tryz.isAgg258
 z175:=Tryz.sizeOf258
 v175:=Tryz.zeroValue258
 t210:=Tryz.underlying261
 a210:=Tryz.isAgg261
 z210:=Tryz.sizeOf261
 v210:=Tryz.zeroValue261
 t212:=Tryz.underlying313
 a212:=Tryz.isAgg313
 z212:=Tryz.sizeOf313
 v212:=Tryz.zeroValue313
 t213:=Tryz.underlying314
 a213:=Tryz.isAgg314
 z213:=Tryz.sizeOf314
 t232:=Tryz.underlying327
 a232:=Tryz.isAgg327
 z232:=Tryz.sizeOf327
 v232:=Tryz.zeroValue327
 t233:=Tryz.underlying328
 a233:=Tryz.isAgg328
 z233:=Tryz.sizeOf328
 v233:=Tryz.zeroValue328
 g15:=by kernel_rfl
 g16:=by kernel_rfl
 g17:=by kernel_rfl
 g18:=by kernel_rfl
 g19:=by kernel_rfl
 t80:=Tryz.underlying168
 a80:=Tryz.isAgg168
 z80:=Tryz.sizeOf168
 v80:=Tryz.zeroValue168
 i0:=by kernel_rfl
 i2:=by kernel_rfl
 i3:=by kernel_rfl
 i4:=by kernel_rfl
 i5:=by kernel_rfl
 i9:=by kernel_rfl
 i20:=by kernel_rfl
 i21:=by kernel_rfl
 i37:=by kernel_rfl
 i46:=by kernel_rfl
 i51:=by kernel_rfl
 i53:=by kernel_rfl
 i75:=by kernel_rfl
 i76:=by kernel_rfl
 i80:=by kernel_rfl
 i85:=by kernel_rfl
 i127:=by kernel_rfl
 i143:=by kernel_rfl
 i145:=by kernel_rfl
 i167:=by kernel_rfl
 i168:=by kernel_rfl
 i171:=by kernel_rfl
 i173:=by kernel_rfl
 i175:=by kernel_rfl
 i210:=by kernel_rfl
 i212:=by kernel_rfl
 i232:=by kernel_rfl
 i233:=by kernel_rfl
 m15:=by kernel_rfl
 m16:=by kernel_rfl
 m17:=by kernel_rfl
 m18:=by kernel_rfl
 m19:=by kernel_rfl
 c0:=by kernel_rfl
 c2:=by kernel_rfl
 c3:=by kernel_rfl
 c4:=by kernel_rfl
 c5:=by kernel_rfl
 c9:=by kernel_rfl
 c20:=by kernel_rfl
 c21:=by kernel_rfl
 c37:=by kernel_rfl
 c46:=by kernel_rfl
 c51:=by kernel_rfl
 c53:=by kernel_rfl
 c75:=by kernel_rfl
 c76:=by kernel_rfl
 c80:=by kernel_rfl
 c85:=by kernel_rfl
 c127:=by kernel_rfl
 c143:=by kernel_rfl
 c145:=by kernel_rfl
 c167:=by kernel_rfl
 c168:=by kernel_rfl
 c171:=by kernel_rfl
 c173:=by kernel_rfl
 c175:=by kernel_rfl
 c210:=by kernel_rfl
 c212:=by kernel_rfl
 c213:=by kernel_rfl
 c232:=by kernel_rfl
 c233:=by kernel_rfl}
open Go.RowKit in
theorem Tryz.strconv_Atoi_ok (s:ByteArray)(hmax:s.size<=9223372036854775806)(v:Int)(h:Lib.atoiAll s.data.toList= .ok v)(w:World):
   Calls Tryz.prog 48 #[.string s] w fun e w'=>e= .returned (.tuple #[.int .i64 v,.nilIface])/\(w'=w\/∃ t,w'=Lib.bytesWorld w 5 t):=Any.strconv_Atoi_ok Tryz.laysC172 s hmax v h w
open Go.RowKit in
theorem Tryz.strconv_Atoi_syntax (s:ByteArray)(hlim:s.size<=281474976710656)(h:Lib.atoiAll s.data.toList=Lib.atoiAll [])(ev:Value)(w:World)(hv:w.cell? ⟨1,0,none⟩=some ev)(hev:ev= .nilIface\/∃ te pe,ev= .iface te pe):
   Calls Tryz.prog 48 #[.string s] w fun e w'=>∃ N,e= .returned (.tuple #[.int .i64 (0),.iface 222 (.pointer (some ⟨N,0,none⟩))])/\w.heap.size<=N/\w'.heap[N]? =some (.cells #[.string ⟨#[65,116,111,105]⟩,.string s,ev] 261 (0,0))/\Below w.heap.size w w':=Any.strconv_Atoi_syntax Tryz.laysC172 s hlim h ev w hv hev
open Go.RowKit in
theorem Tryz.strconv_Atoi_range (s:ByteArray)(hlim:s.size<=281474976710656)(h:Lib.atoiAll s.data.toList= .range)(ev:Value)(w:World)(hv:w.cell? ⟨2,0,none⟩=some ev)(hev:ev= .nilIface\/∃ te pe,ev= .iface te pe):
   Calls Tryz.prog 48 #[.string s] w fun e w'=>∃ N,e= .returned (.tuple #[.int .i64 (Lib.atoiSat s.data.toList),.iface 222 (.pointer (some ⟨N,0,none⟩))])/\w.heap.size<=N/\w'.heap[N]? =some (.cells #[.string ⟨#[65,116,111,105]⟩,.string s,ev] 261 (0,0))/\Below w.heap.size w w':=Any.strconv_Atoi_range Tryz.laysC172 s hlim h ev w hv hev
open Go.RowKit Go.Lib in
open Go.RowKit Go.Lib in
open Go.RowKit Go.Lib in
open Go.RowKit Go.Lib in
def Tryz.lays219_ren :Go.Shelf.Ren:=⟨fun|219=>78|217=>122|225=>123|224=>124|267=>125|266=>162|314=>163|n=>n,fun|9=>9|3=>3|4=>4|5=>5|46=>169|146=>246|51=>245|n=>n,fun|1=>0|n=>n⟩
theorem Tryz.lays219 :Go.Proofs.Lays.n219 Tryz.prog Tryz.lays219_ren:= {
 mixed:=by kernel_rfl
 f217:=Tryz.func122.trans (congrArg some (by kernel_rfl))
 f219:=Tryz.func78.trans (congrArg some (by kernel_rfl))
 f224:=Tryz.func124.trans (congrArg some (by kernel_rfl))
 f225:=Tryz.func123.trans (congrArg some (by kernel_rfl))
 f266:=Tryz.func162.trans (congrArg some (by kernel_rfl))
 f267:=Tryz.func125.trans (congrArg some (by kernel_rfl))
 f314:=Tryz.func163.trans (congrArg some (by kernel_rfl))
 t3:=Tryz.underlying3
 a3:=Tryz.isAgg3
 z3:=Tryz.sizeOf3
 v3:=Tryz.zeroValue3
 t4:=Tryz.underlying4
 a4:=Tryz.isAgg4
 z4:=Tryz.sizeOf4
 v4:=Tryz.zeroValue4
 t5:=Tryz.underlying5
 a5:=Tryz.isAgg5
 z5:=Tryz.sizeOf5
 v5:=Tryz.zeroValue5
 t9:=Tryz.underlying9
 a9:=Tryz.isAgg9
 z9:=Tryz.sizeOf9
 v9:=Tryz.zeroValue9
 t46:=Tryz.underlying169
 a46:=Tryz.isAgg169
 z46:=Tryz.sizeOf169
 v46:=Tryz.zeroValue169
 t51:=Tryz.underlying245
 a51:=Tryz.isAgg245
 z51:=Tryz.sizeOf245
 v51:=Tryz.zeroValue245
 t146:=Tryz.underlying246
 a146:=Tryz.isAgg246
 z146:=Tryz.sizeOf246
 v146:=Tryz.zeroValue246
 g1:=by kernel_rfl}
open Go.RowKit Go.Lib in
theorem Tryz.stringslite_Index_one (s:ByteArray)(c:UInt8)(w:World):
   Calls Tryz.prog 78 #[.string s,.string ⟨#[c]⟩] w fun e w'=>e= .returned (.int .i64 (Lib.indexByte s.data.toList c))/\w'=w:=Any.stringslite_Index_one Tryz.lays219 s c w
open Go.RowKit Go.Lib in
def Tryz.lays143_ren :Go.Shelf.Ren:=⟨fun|143=>32|219=>78|217=>122|225=>123|224=>124|267=>125|266=>162|314=>163|n=>n,fun|9=>9|3=>3|4=>4|5=>5|46=>169|146=>246|51=>245|n=>n,fun|1=>0|n=>n⟩
theorem Tryz.lays143 :Go.Proofs.Lays.n143 Tryz.prog Tryz.lays143_ren:= {
 mixed:=by kernel_rfl
 f143:=Tryz.func32.trans (congrArg some (by kernel_rfl))
 f217:=Tryz.func122.trans (congrArg some (by kernel_rfl))
 f219:=Tryz.func78.trans (congrArg some (by kernel_rfl))
 f224:=Tryz.func124.trans (congrArg some (by kernel_rfl))
 f225:=Tryz.func123.trans (congrArg some (by kernel_rfl))
 f266:=Tryz.func162.trans (congrArg some (by kernel_rfl))
 f267:=Tryz.func125.trans (congrArg some (by kernel_rfl))
 f314:=Tryz.func163.trans (congrArg some (by kernel_rfl))
 t3:=Tryz.underlying3
 a3:=Tryz.isAgg3
 z3:=Tryz.sizeOf3
 v3:=Tryz.zeroValue3
 t4:=Tryz.underlying4
 a4:=Tryz.isAgg4
 z4:=Tryz.sizeOf4
 v4:=Tryz.zeroValue4
 t5:=Tryz.underlying5
 a5:=Tryz.isAgg5
 z5:=Tryz.sizeOf5
 v5:=Tryz.zeroValue5
 t9:=Tryz.underlying9
 a9:=Tryz.isAgg9
 z9:=Tryz.sizeOf9
 v9:=Tryz.zeroValue9
 t46:=Tryz.underlying169
 a46:=Tryz.isAgg169
 z46:=Tryz.sizeOf169
 v46:=Tryz.zeroValue169
 t51:=Tryz.underlying245
 a51:=Tryz.isAgg245
 z51:=Tryz.sizeOf245
 v51:=Tryz.zeroValue245
 t146:=Tryz.underlying246
 a146:=Tryz.isAgg246
 z146:=Tryz.sizeOf246
 v146:=Tryz.zeroValue246
 g1:=by kernel_rfl}
open Go.RowKit Go.Lib in
theorem Tryz.strings_Index_one (s:ByteArray)(c:UInt8)(w:World):
   Calls Tryz.prog 32 #[.string s,.string ⟨#[c]⟩] w fun e w'=>e= .returned (.int .i64 (Lib.indexByte s.data.toList c))/\w'=w:=Any.strings_Index_one Tryz.lays143 s c w
open Go.RowKit Go.Lib in
def Tryz.lays144_ren :Go.Shelf.Ren:=⟨fun|144=>16|143=>32|219=>78|217=>122|225=>123|224=>124|267=>125|266=>162|314=>163|n=>n,fun|9=>9|4=>4|3=>3|5=>5|46=>169|146=>246|51=>245|n=>n,fun|1=>0|n=>n⟩
theorem Tryz.lays144 :Go.Proofs.Lays.n144 Tryz.prog Tryz.lays144_ren:= {
 mixed:=by kernel_rfl
 f143:=Tryz.func32.trans (congrArg some (by kernel_rfl))
 f144:=Tryz.func16.trans (congrArg some (by kernel_rfl))
 f217:=Tryz.func122.trans (congrArg some (by kernel_rfl))
 f219:=Tryz.func78.trans (congrArg some (by kernel_rfl))
 f224:=Tryz.func124.trans (congrArg some (by kernel_rfl))
 f225:=Tryz.func123.trans (congrArg some (by kernel_rfl))
 f266:=Tryz.func162.trans (congrArg some (by kernel_rfl))
 f267:=Tryz.func125.trans (congrArg some (by kernel_rfl))
 f314:=Tryz.func163.trans (congrArg some (by kernel_rfl))
 t3:=Tryz.underlying3
 a3:=Tryz.isAgg3
 z3:=Tryz.sizeOf3
 v3:=Tryz.zeroValue3
 t4:=Tryz.underlying4
 a4:=Tryz.isAgg4
 z4:=Tryz.sizeOf4
 v4:=Tryz.zeroValue4
 t5:=Tryz.underlying5
 a5:=Tryz.isAgg5
 z5:=Tryz.sizeOf5
 v5:=Tryz.zeroValue5
 t9:=Tryz.underlying9
 a9:=Tryz.isAgg9
 z9:=Tryz.sizeOf9
 v9:=Tryz.zeroValue9
 t46:=Tryz.underlying169
 a46:=Tryz.isAgg169
 z46:=Tryz.sizeOf169
 v46:=Tryz.zeroValue169
 t51:=Tryz.underlying245
 a51:=Tryz.isAgg245
 z51:=Tryz.sizeOf245
 v51:=Tryz.zeroValue245
 t146:=Tryz.underlying246
 a146:=Tryz.isAgg246
 z146:=Tryz.sizeOf246
 v146:=Tryz.zeroValue246
 g1:=by kernel_rfl}
open Go.RowKit Go.Lib in
open Go.RowKit Go.Lib in
theorem Tryz.strings_Contains (s sub:ByteArray)(m:Int)(w:World)(hs:s.size<4294967281)(hm:w.cell? ⟨0,0,none⟩=some (.int .i64 m)):
   Calls Tryz.prog 16 #[.string s,.string sub] w fun e w'=>e= .returned (.bool (Lib.contains s.data.toList sub.data.toList))/\w'=w:=Any.strings_Contains Tryz.lays144 s sub m w hs hm
open Go.RowKit Go.Lib in
open Go.RowKit Go.Lib in
def Tryz.lays138_ren :Go.Shelf.Ren:=⟨fun|138=>6|195=>30|218=>31|143=>32|219=>78|217=>122|225=>123|224=>124|267=>125|266=>162|314=>163|n=>n,fun|9=>9|3=>3|4=>4|5=>5|0=>0|46=>169|146=>246|51=>245|n=>n,fun|1=>0|n=>n⟩
theorem Tryz.lays138 :Go.Proofs.Lays.n138 Tryz.prog Tryz.lays138_ren:= {
 mixed:=by kernel_rfl
 f138:=Tryz.func6.trans (congrArg some (by kernel_rfl))
 f143:=Tryz.func32.trans (congrArg some (by kernel_rfl))
 f195:=Tryz.func30.trans (congrArg some (by kernel_rfl))
 f217:=Tryz.func122.trans (congrArg some (by kernel_rfl))
 f218:=Tryz.func31.trans (congrArg some (by kernel_rfl))
 f219:=Tryz.func78.trans (congrArg some (by kernel_rfl))
 f224:=Tryz.func124.trans (congrArg some (by kernel_rfl))
 f225:=Tryz.func123.trans (congrArg some (by kernel_rfl))
 f266:=Tryz.func162.trans (congrArg some (by kernel_rfl))
 f267:=Tryz.func125.trans (congrArg some (by kernel_rfl))
 f314:=Tryz.func163.trans (congrArg some (by kernel_rfl))
 t0:=Tryz.underlying0
 a0:=Tryz.isAgg0
 z0:=Tryz.sizeOf0
 v0:=Tryz.zeroValue0
 t3:=Tryz.underlying3
 a3:=Tryz.isAgg3
 z3:=Tryz.sizeOf3
 v3:=Tryz.zeroValue3
 t4:=Tryz.underlying4
 a4:=Tryz.isAgg4
 z4:=Tryz.sizeOf4
 v4:=Tryz.zeroValue4
 t5:=Tryz.underlying5
 a5:=Tryz.isAgg5
 z5:=Tryz.sizeOf5
 v5:=Tryz.zeroValue5
 t9:=Tryz.underlying9
 a9:=Tryz.isAgg9
 z9:=Tryz.sizeOf9
 v9:=Tryz.zeroValue9
 t46:=Tryz.underlying169
 a46:=Tryz.isAgg169
 z46:=Tryz.sizeOf169
 v46:=Tryz.zeroValue169
 t51:=Tryz.underlying245
 a51:=Tryz.isAgg245
 z51:=Tryz.sizeOf245
 v51:=Tryz.zeroValue245
 t146:=Tryz.underlying246
 a146:=Tryz.isAgg246
 z146:=Tryz.sizeOf246
 v146:=Tryz.zeroValue246
 g1:=by kernel_rfl}
open Go.RowKit Go.Lib in
theorem Tryz.strings_Count_one (s:ByteArray)(c:UInt8)(w:World):
   Calls Tryz.prog 6 #[.string s,.string ⟨#[c]⟩] w fun e w'=>e= .returned (.int .i64 (Lib.countByte s.data.toList c))/\w'=w:=Any.strings_Count_one Tryz.lays138 s c w
open Go.RowKit Go.Lib in
open Go.RowKit Go.Lib in
def Tryz.lays264_ren :Go.Shelf.Ren:=⟨fun|264=>237|n=>n,fun|53=>250|46=>169|n=>n,fun|n=>n⟩
theorem Tryz.lays264 :Go.Proofs.Lays.n264 Tryz.prog Tryz.lays264_ren:= {
 mixed:=by kernel_rfl
 f264:=Tryz.func237.trans (congrArg some (by kernel_rfl))
 t46:=Tryz.underlying169
 a46:=Tryz.isAgg169
 z46:=Tryz.sizeOf169
 v46:=Tryz.zeroValue169
 t53:=Tryz.underlying250
 a53:=Tryz.isAgg250
 z53:=Tryz.sizeOf250
 v53:=Tryz.zeroValue250}
open Go.RowKit Go.Lib in
theorem Tryz.bits_Mul64 (x y:Nat)(hx:x<18446744073709551616)(hy:y<18446744073709551616)(w:World):
   Calls Tryz.prog 237 #[.int .u64 x,.int .u64 y] w fun e w'=>e= .returned (.tuple #[.int .u64 ((x*y / 18446744073709551616:Nat):Int),.int .u64 ((x*y % 18446744073709551616:Nat):Int)])/\w'=w:=Any.bits_Mul64 Tryz.lays264 x y hx hy w
def Tryz.sortClone_ren :Go.Shelf.Ren:=⟨fun|6=>119|15=>161|14=>160|28=>190|29=>191|20=>182|21=>183|22=>184|23=>185|24=>186|25=>187|26=>188|27=>189|46=>219|47=>220|48=>221|49=>222|50=>223|57=>238|n=>n,fun|22=>77|24=>84|25=>211|3=>3|39=>169|0=>0|53=>245|55=>250|4=>4|46=>270|45=>269|50=>131|5=>5|9=>9|66=>301|70=>305|76=>321|77=>145|n=>n,fun|n=>n⟩
theorem Tryz.sortClone :Go.Proofs.SlLaysF0.n6 Tryz.prog Tryz.sortClone_ren:= {
 mixed:=by kernel_rfl
 f6:=⟨Tryz.f119.name,by decide,Tryz.func119.trans (congrArg some (by kernel_rfl))⟩
 f14:=⟨Tryz.f160.name,by decide,Tryz.func160.trans (congrArg some (by kernel_rfl))⟩
 f15:=Tryz.func161.trans (congrArg some (by kernel_rfl))
 f20:=⟨Tryz.f182.name,by decide,Tryz.func182.trans (congrArg some (by kernel_rfl))⟩
 f21:=⟨Tryz.f183.name,by decide,Tryz.func183.trans (congrArg some (by kernel_rfl))⟩
 f22:=⟨Tryz.f184.name,by decide,Tryz.func184.trans (congrArg some (by kernel_rfl))⟩
 f23:=⟨Tryz.f185.name,by decide,Tryz.func185.trans (congrArg some (by kernel_rfl))⟩
 f24:=⟨Tryz.f186.name,by decide,Tryz.func186.trans (congrArg some (by kernel_rfl))⟩
 f25:=⟨Tryz.f187.name,by decide,Tryz.func187.trans (congrArg some (by kernel_rfl))⟩
 f26:=⟨Tryz.f188.name,by decide,Tryz.func188.trans (congrArg some (by kernel_rfl))⟩
 f27:=⟨Tryz.f189.name,by decide,Tryz.func189.trans (congrArg some (by kernel_rfl))⟩
 f28:=Tryz.func190.trans (congrArg some (by kernel_rfl))
 f29:=Tryz.func191.trans (congrArg some (by kernel_rfl))
 f46:=⟨Tryz.f219.name,by decide,Tryz.func219.trans (congrArg some (by kernel_rfl))⟩
 f47:=Tryz.func220.trans (congrArg some (by kernel_rfl))
 f48:=Tryz.func221.trans (congrArg some (by kernel_rfl))
 f49:=⟨Tryz.f222.name,by decide,Tryz.func222.trans (congrArg some (by kernel_rfl))⟩
 f50:=⟨Tryz.f223.name,by decide,Tryz.func223.trans (congrArg some (by kernel_rfl))⟩
 f57:=⟨Tryz.f238.name,by decide,Tryz.func238.trans (congrArg some (by kernel_rfl))⟩
 t0:=Tryz.underlying0
 a0:=Tryz.isAgg0
 z0:=Tryz.sizeOf0
 v0:=Tryz.zeroValue0
 t3:=Tryz.underlying3
 a3:=Tryz.isAgg3
 z3:=Tryz.sizeOf3
 v3:=Tryz.zeroValue3
 t4:=Tryz.underlying4
 a4:=Tryz.isAgg4
 z4:=Tryz.sizeOf4
 v4:=Tryz.zeroValue4
 t5:=Tryz.underlying5
 a5:=Tryz.isAgg5
 z5:=Tryz.sizeOf5
 v5:=Tryz.zeroValue5
 t9:=Tryz.underlying9
 a9:=Tryz.isAgg9
 z9:=Tryz.sizeOf9
 v9:=Tryz.zeroValue9
 t22:=Tryz.underlying77
 a22:=Tryz.isAgg77
 z22:=Tryz.sizeOf77
 v22:=Tryz.zeroValue77
 t25:=Tryz.underlying211
 a25:=Tryz.isAgg211
 z25:=Tryz.sizeOf211
 v25:=Tryz.zeroValue211
 t39:=Tryz.underlying169
 a39:=Tryz.isAgg169
 z39:=Tryz.sizeOf169
 v39:=Tryz.zeroValue169
 t45:=Tryz.underlying269
 a45:=Tryz.isAgg269
 z45:=Tryz.sizeOf269
 v45:=Tryz.zeroValue269
 t46:=Tryz.underlying270
 a46:=Tryz.isAgg270
 z46:=Tryz.sizeOf270
 v46:=Tryz.zeroValue270
 t50:=Tryz.underlying131
 a50:=Tryz.isAgg131
 z50:=Tryz.sizeOf131
 v50:=Tryz.zeroValue131
 t53:=Tryz.underlying245
 a53:=Tryz.isAgg245
 z53:=Tryz.sizeOf245
 v53:=Tryz.zeroValue245
 t55:=Tryz.underlying250
 a55:=Tryz.isAgg250
 z55:=Tryz.sizeOf250
 v55:=Tryz.zeroValue250
 t66:=Tryz.underlying301
 a66:=Tryz.isAgg301
 z66:=Tryz.sizeOf301
 v66:=Tryz.zeroValue301
 t70:=Tryz.underlying305
 a70:=Tryz.isAgg305
 z70:=Tryz.sizeOf305
 v70:=Tryz.zeroValue305
 t76:=Tryz.underlying321
 a76:=Tryz.isAgg321
 z76:=Tryz.sizeOf321
 v76:=Tryz.zeroValue321
 t77:=Tryz.underlying145
 a77:=Tryz.isAgg145
 z77:=Tryz.sizeOf145
 v77:=Tryz.zeroValue145}
def Tryz.sortPost_ren :Go.Shelf.Ren:=⟨fun|6=>149|15=>161|14=>175|28=>190|29=>191|20=>199|21=>200|22=>201|23=>202|24=>203|25=>204|26=>205|27=>206|46=>231|47=>220|48=>221|49=>232|50=>233|57=>242|n=>n,fun|22=>62|24=>180|25=>231|3=>3|39=>169|0=>0|53=>245|55=>250|4=>4|46=>270|45=>269|50=>131|5=>5|9=>9|66=>301|70=>305|76=>321|77=>145|n=>n,fun|n=>n⟩
theorem Tryz.sortPost :Go.Proofs.SlLaysF0.n6 Tryz.prog Tryz.sortPost_ren:= {
 mixed:=by kernel_rfl
 f6:=⟨Tryz.f149.name,by decide,Tryz.func149.trans (congrArg some (by kernel_rfl))⟩
 f14:=⟨Tryz.f175.name,by decide,Tryz.func175.trans (congrArg some (by kernel_rfl))⟩
 f15:=Tryz.func161.trans (congrArg some (by kernel_rfl))
 f20:=⟨Tryz.f199.name,by decide,Tryz.func199.trans (congrArg some (by kernel_rfl))⟩
 f21:=⟨Tryz.f200.name,by decide,Tryz.func200.trans (congrArg some (by kernel_rfl))⟩
 f22:=⟨Tryz.f201.name,by decide,Tryz.func201.trans (congrArg some (by kernel_rfl))⟩
 f23:=⟨Tryz.f202.name,by decide,Tryz.func202.trans (congrArg some (by kernel_rfl))⟩
 f24:=⟨Tryz.f203.name,by decide,Tryz.func203.trans (congrArg some (by kernel_rfl))⟩
 f25:=⟨Tryz.f204.name,by decide,Tryz.func204.trans (congrArg some (by kernel_rfl))⟩
 f26:=⟨Tryz.f205.name,by decide,Tryz.func205.trans (congrArg some (by kernel_rfl))⟩
 f27:=⟨Tryz.f206.name,by decide,Tryz.func206.trans (congrArg some (by kernel_rfl))⟩
 f28:=Tryz.func190.trans (congrArg some (by kernel_rfl))
 f29:=Tryz.func191.trans (congrArg some (by kernel_rfl))
 f46:=⟨Tryz.f231.name,by decide,Tryz.func231.trans (congrArg some (by kernel_rfl))⟩
 f47:=Tryz.func220.trans (congrArg some (by kernel_rfl))
 f48:=Tryz.func221.trans (congrArg some (by kernel_rfl))
 f49:=⟨Tryz.f232.name,by decide,Tryz.func232.trans (congrArg some (by kernel_rfl))⟩
 f50:=⟨Tryz.f233.name,by decide,Tryz.func233.trans (congrArg some (by kernel_rfl))⟩
 f57:=⟨Tryz.f242.name,by decide,Tryz.func242.trans (congrArg some (by kernel_rfl))⟩
 t0:=Tryz.underlying0
 a0:=Tryz.isAgg0
 z0:=Tryz.sizeOf0
 v0:=Tryz.zeroValue0
 t3:=Tryz.underlying3
 a3:=Tryz.isAgg3
 z3:=Tryz.sizeOf3
 v3:=Tryz.zeroValue3
 t4:=Tryz.underlying4
 a4:=Tryz.isAgg4
 z4:=Tryz.sizeOf4
 v4:=Tryz.zeroValue4
 t5:=Tryz.underlying5
 a5:=Tryz.isAgg5
 z5:=Tryz.sizeOf5
 v5:=Tryz.zeroValue5
 t9:=Tryz.underlying9
 a9:=Tryz.isAgg9
 z9:=Tryz.sizeOf9
 v9:=Tryz.zeroValue9
 t22:=Tryz.underlying62
 a22:=Tryz.isAgg62
 z22:=Tryz.sizeOf62
 v22:=Tryz.zeroValue62
 t25:=Tryz.underlying231
 a25:=Tryz.isAgg231
 z25:=Tryz.sizeOf231
 v25:=Tryz.zeroValue231
 t39:=Tryz.underlying169
 a39:=Tryz.isAgg169
 z39:=Tryz.sizeOf169
 v39:=Tryz.zeroValue169
 t45:=Tryz.underlying269
 a45:=Tryz.isAgg269
 z45:=Tryz.sizeOf269
 v45:=Tryz.zeroValue269
 t46:=Tryz.underlying270
 a46:=Tryz.isAgg270
 z46:=Tryz.sizeOf270
 v46:=Tryz.zeroValue270
 t50:=Tryz.underlying131
 a50:=Tryz.isAgg131
 z50:=Tryz.sizeOf131
 v50:=Tryz.zeroValue131
 t53:=Tryz.underlying245
 a53:=Tryz.isAgg245
 z53:=Tryz.sizeOf245
 v53:=Tryz.zeroValue245
 t55:=Tryz.underlying250
 a55:=Tryz.isAgg250
 z55:=Tryz.sizeOf250
 v55:=Tryz.zeroValue250
 t66:=Tryz.underlying301
 a66:=Tryz.isAgg301
 z66:=Tryz.sizeOf301
 v66:=Tryz.zeroValue301
 t70:=Tryz.underlying305
 a70:=Tryz.isAgg305
 z70:=Tryz.sizeOf305
 v70:=Tryz.zeroValue305
 t76:=Tryz.underlying321
 a76:=Tryz.isAgg321
 z76:=Tryz.sizeOf321
 v76:=Tryz.zeroValue321
 t77:=Tryz.underlying145
 a77:=Tryz.isAgg145
 z77:=Tryz.sizeOf145
 v77:=Tryz.zeroValue145}
def Tryz.sortSpan_ren :Go.Shelf.Ren:=⟨fun|6=>154|15=>161|14=>178|28=>190|29=>191|20=>207|21=>208|22=>209|23=>210|24=>211|25=>212|26=>213|27=>214|46=>234|47=>220|48=>221|49=>235|50=>236|57=>243|n=>n,fun|22=>73|24=>191|25=>236|3=>3|39=>169|0=>0|53=>245|55=>250|4=>4|46=>270|45=>269|50=>131|5=>5|9=>9|66=>301|70=>305|76=>321|77=>145|n=>n,fun|n=>n⟩
theorem Tryz.sortSpan :Go.Proofs.SlLaysF0.n6 Tryz.prog Tryz.sortSpan_ren:= {
 mixed:=by kernel_rfl
 f6:=⟨Tryz.f154.name,by decide,Tryz.func154.trans (congrArg some (by kernel_rfl))⟩
 f14:=⟨Tryz.f178.name,by decide,Tryz.func178.trans (congrArg some (by kernel_rfl))⟩
 f15:=Tryz.func161.trans (congrArg some (by kernel_rfl))
 f20:=⟨Tryz.f207.name,by decide,Tryz.func207.trans (congrArg some (by kernel_rfl))⟩
 f21:=⟨Tryz.f208.name,by decide,Tryz.func208.trans (congrArg some (by kernel_rfl))⟩
 f22:=⟨Tryz.f209.name,by decide,Tryz.func209.trans (congrArg some (by kernel_rfl))⟩
 f23:=⟨Tryz.f210.name,by decide,Tryz.func210.trans (congrArg some (by kernel_rfl))⟩
 f24:=⟨Tryz.f211.name,by decide,Tryz.func211.trans (congrArg some (by kernel_rfl))⟩
 f25:=⟨Tryz.f212.name,by decide,Tryz.func212.trans (congrArg some (by kernel_rfl))⟩
 f26:=⟨Tryz.f213.name,by decide,Tryz.func213.trans (congrArg some (by kernel_rfl))⟩
 f27:=⟨Tryz.f214.name,by decide,Tryz.func214.trans (congrArg some (by kernel_rfl))⟩
 f28:=Tryz.func190.trans (congrArg some (by kernel_rfl))
 f29:=Tryz.func191.trans (congrArg some (by kernel_rfl))
 f46:=⟨Tryz.f234.name,by decide,Tryz.func234.trans (congrArg some (by kernel_rfl))⟩
 f47:=Tryz.func220.trans (congrArg some (by kernel_rfl))
 f48:=Tryz.func221.trans (congrArg some (by kernel_rfl))
 f49:=⟨Tryz.f235.name,by decide,Tryz.func235.trans (congrArg some (by kernel_rfl))⟩
 f50:=⟨Tryz.f236.name,by decide,Tryz.func236.trans (congrArg some (by kernel_rfl))⟩
 f57:=⟨Tryz.f243.name,by decide,Tryz.func243.trans (congrArg some (by kernel_rfl))⟩
 t0:=Tryz.underlying0
 a0:=Tryz.isAgg0
 z0:=Tryz.sizeOf0
 v0:=Tryz.zeroValue0
 t3:=Tryz.underlying3
 a3:=Tryz.isAgg3
 z3:=Tryz.sizeOf3
 v3:=Tryz.zeroValue3
 t4:=Tryz.underlying4
 a4:=Tryz.isAgg4
 z4:=Tryz.sizeOf4
 v4:=Tryz.zeroValue4
 t5:=Tryz.underlying5
 a5:=Tryz.isAgg5
 z5:=Tryz.sizeOf5
 v5:=Tryz.zeroValue5
 t9:=Tryz.underlying9
 a9:=Tryz.isAgg9
 z9:=Tryz.sizeOf9
 v9:=Tryz.zeroValue9
 t22:=Tryz.underlying73
 a22:=Tryz.isAgg73
 z22:=Tryz.sizeOf73
 v22:=Tryz.zeroValue73
 t25:=Tryz.underlying236
 a25:=Tryz.isAgg236
 z25:=Tryz.sizeOf236
 v25:=Tryz.zeroValue236
 t39:=Tryz.underlying169
 a39:=Tryz.isAgg169
 z39:=Tryz.sizeOf169
 v39:=Tryz.zeroValue169
 t45:=Tryz.underlying269
 a45:=Tryz.isAgg269
 z45:=Tryz.sizeOf269
 v45:=Tryz.zeroValue269
 t46:=Tryz.underlying270
 a46:=Tryz.isAgg270
 z46:=Tryz.sizeOf270
 v46:=Tryz.zeroValue270
 t50:=Tryz.underlying131
 a50:=Tryz.isAgg131
 z50:=Tryz.sizeOf131
 v50:=Tryz.zeroValue131
 t53:=Tryz.underlying245
 a53:=Tryz.isAgg245
 z53:=Tryz.sizeOf245
 v53:=Tryz.zeroValue245
 t55:=Tryz.underlying250
 a55:=Tryz.isAgg250
 z55:=Tryz.sizeOf250
 v55:=Tryz.zeroValue250
 t66:=Tryz.underlying301
 a66:=Tryz.isAgg301
 z66:=Tryz.sizeOf301
 v66:=Tryz.zeroValue301
 t70:=Tryz.underlying305
 a70:=Tryz.isAgg305
 z70:=Tryz.sizeOf305
 v70:=Tryz.zeroValue305
 t76:=Tryz.underlying321
 a76:=Tryz.isAgg321
 z76:=Tryz.sizeOf321
 v76:=Tryz.zeroValue321
 t77:=Tryz.underlying145
 a77:=Tryz.isAgg145
 z77:=Tryz.sizeOf145
 v77:=Tryz.zeroValue145}
end Go.Proofs
set_option linter.all false
namespace Go.Lic
variable [Fl]
@[reducible] def bufD (e g:Nat):List Int->D
 | []=> .v (.slice none 0 0)
 |x::l=> .tbuf g e 0 (x::l).length
abbrev bldD (T e c:Nat)(u:Bool)(g:Nat)(xs:List Int):D:= .agg [.tself c T u,bufD e g xs]
abbrev bldH (T e c:Nat)(u:Bool)(g:Nat)(xs:List Int)(post:List D):zbb:= [(c,.cells 2 [bldD T e c u g xs]),(g,.cells 1 (zas (D.k .u8) [] xs post))]
theorem bufD_ok (e g:Nat)(xs:List Int):(bufD e g xs).ok 1:=by cases xs<;>exact .of rfl
theorem bufD_flat (e g:Nat)(xs:List Int):(bufD e g xs).flat= [bufD e g xs]:=by cases xs<;>rfl
theorem bld_put {e g:Nat}{d0 d1:D}(xs:List Int): [d0,bufD e g xs]=setAt [d0,d1] 1 (bufD e g xs).flat:=by rw [bufD_flat]; rfl
section
variable {P:Program}{o:Oper}{fr:Nat->D}{h:zbb}{K:D->zbb->Prop}
theorem OpA.selfNil {t t2 te:TypeId}{x y:Operand}{c T:Nat}{u:Bool}(ho:o.op= .binOp .eql t x y t2)(ht:P.underlying t=some (.pointer te))(hx:ev fr x= .tself c T u)(hy:ev fr y= .v (.pointer none))(hk:K (.b (!u)) h):OpA P o fr h K:=
 .of_quiet (fun A M w0 ac w _ hv=>by
   have h1:=hv x (by simp [ho,Op.operands])
   have h2:=hv y (by simp [ho,Op.operands])
   rw [hx]at h1; rw [hy]at h2
   generalize hu:ac.eval x=v1 at h1
   generalize hu2:ac.eval y=v2 at h2
   cases h1; cases h2
   have hd:∀(d:Nat) (a:Addr),(Op.equalIn (d+1) t (.pointer (some a)) (.pointer none)).run P w= .ok false w:=fun d a=>by simp [Op.equalIn,run_underlying ht]
   have hn:∀(d:Nat),(Op.equalIn (d+1) t (.pointer none) (.pointer none)).run P w= .ok true w:=fun d=>by simp [Op.equalIn,run_underlying ht]
   refine⟨.bool (!u),?_,.v _⟩
   cases u
   · simp [execOp,ho,hu,hu2,eqGuard,binOp,Op.equal,Op.maxDepth,hn 9999]
   · simp [execOp,ho,hu,hu2,eqGuard,binOp,Op.equal,Op.maxDepth,hd 9999]) hk
theorem OpA.selfSame {t t2 te:TypeId}{x y:Operand}{c T sz:Nat}(ho:o.op= .binOp .neq t x y t2)(ht:P.underlying t=some (.pointer te))(hte:(P.info? te).isSome=true)(hx:ev fr x= .tself c T true)(hy:ev fr y= .ptr c sz 0 0)(hk:K (.b false) h):OpA P o fr h K:=
 .of_quiet (fun A M w0 ac w _ hv=>by
   have h1:=hv x (by simp [ho,Op.operands])
   have h2:=hv y (by simp [ho,Op.operands])
   rw [hx]at h1; rw [hy]at h2
   generalize hu:ac.eval x=v1 at h1
   generalize hu2:ac.eval y=v2 at h2
   cases h1; cases h2
   obtain⟨j,hte⟩:=Option.isSome_iff_exists.1 hte
   have hr:=Lib.run_neq_ptr_same (P:=P) w (tp:=t) ⟨c / 2,0,none⟩ ht hte
   refine⟨.bool false,?_,.v _⟩
   simp [execOp,ho,hu,hu2,eqGuard,hr]) hk
theorem self_shape {A M:Nat->Prop}{w0 w:World}(hr:HRel A M w0 h w){c T:Nat}{u:Bool}{ds:List D}(hh:Has c (.cells 2 [.agg (.tself c T u::ds)]) h):w.shape? (c / 2)=some (T,2)/\c % 2=0:=by
 obtain⟨_,hb⟩:=hr.cells hh
 rcases hb with⟨_,he⟩|⟨hc,arr,e,cs,_,hv,_⟩
 · cases he
 · have hv':VL w (XX A h) (.tself c T u::ds) cs:=by simpa [D.flats,D.flat]using hv
   cases hv' with
   |cons h1 _=>cases h1 with|tself _ hs=>exact⟨hs,hc⟩
theorem OpA.toUnsafe {src dst t:TypeId}{x:Operand}{c T:Nat}{u:Bool}{ds:List D}(ho:o.op= .convert src dst x)(hs:P.underlying src=some (.pointer t))(hd:P.underlying dst=some .unsafePointer)(ht:(P.info? t).any (fun j=>j.size != 0)=true)
   (hx:ev fr x= .ptr c 2 0 0) (hh:Has c (.cells 2 [.agg (.tself c T u::ds)]) h) (hk:K (.ptr c 2 0 0) h):OpA P o fr h K:=
 .of_quiet (fun A M w0 ac w hr hv=>by
   have h1:=hv x (by simp [ho,Op.operands])
   rw [hx]at h1
   generalize hu:ac.eval x=v1 at h1
   cases h1 with
   | ptr hc=>
     obtain⟨hsh,_⟩:=self_shape hr hh
     refine⟨.pointer (some ⟨c / 2,0*2+0,none⟩),?_,.ptr hc⟩
     obtain⟨j,ht,hj⟩:∃ j,P.info? t=some j/\j.size≠0:=by
       cases hq:P.info? t with
       |none=>rw [hq]at ht; simp at ht
       |some j=>rw [hq]at ht; exact⟨j,rfl,by simpa using ht⟩
     have:=Lib.run_to_unsafe (P:=P) w (src:=src) (dst:=dst) ⟨c / 2,0*2+0,none⟩ hs hd ht hj hsh (by simp)
     simp only [execOp,ho,hu,Sem.run_bind,this,Result.andThen_ok,Sem.run_pure]) hk
theorem OpA.fromUnsafe {src dst u':TypeId}{x:Operand}{c T:Nat}{u:Bool}{ds:List D}(ho:o.op= .convert src dst x)(hs:P.underlying src=some .unsafePointer)(hd:P.underlying dst=some (.pointer u'))(hu':(P.info? u').isSome=true)
   (hlies:liesAt P P.depth T (2 / P.cellsOf T) 0 u' 1=true) (hx:ev fr x= .ptr c 2 0 0) (hh:Has c (.cells 2 [.agg (.tself c T u::ds)]) h) (hk:K (.tself c T true) h):OpA P o fr h K:=
 .of_quiet (fun A M w0 ac w hr hv=>by
   have h1:=hv x (by simp [ho,Op.operands])
   rw [hx]at h1
   generalize hu:ac.eval x=v1 at h1
   cases h1 with
   | ptr hc=>
     obtain⟨hsh,_⟩:=self_shape hr hh
     refine⟨.pointer (some ⟨c / 2,0,none⟩),?_,.tself (u:=true) hc hsh⟩
     obtain⟨j,hu'⟩:=Option.isSome_iff_exists.1 hu'
     have:=Lib.run_from_unsafe (P:=P) w (src:=src) (dst:=dst) (cells:=2) ⟨c / 2,0,none⟩ hs hd hu' hsh hlies
     simp only [execOp,ho,hu,Nat.zero_mul,Nat.add_zero,Sem.run_bind,this,Result.andThen_ok,Sem.run_pure]) hk
theorem run_extCall {f : Nat} {fn : Func} {e : Array Value → Sem Value} (hf : P.funcs[f]? = some fn) (hname : (fn.name == "runtime.NumGoroutine") = false) (hb : fn.body.isNone = true) (hn : Extern.findNext fn = none) (he : Extern.find fn = some e)
   {cl:Call} {g:Operand} {ac:Act} (ho:o.op= .call cl) (hc:cl.callee= .value g) (hg:ac.eval g= .func (.func f) #[] #[]) {r:Value} (w:World) (hrun:(e (cl.args.map ac.eval)).run P w= .ok r w):
   (execOp ac.eval o).run P w= .ok (.value r) w:=by
 have h1:=run_callFunc_extern hf hname hb hn he (cl.args.map ac.eval) w
 rw [hrun,Result.andThen_ok]at h1
 simp only [execOp,ho,resolve,hc,hg,Deferred.ofValue,Sem.run_bind,Sem.run_pure,Result.andThen_ok,invoke]
 have e1: #[]++cl.args.map ac.eval++ #[]=cl.args.map ac.eval:=by simp
 rw [e1]
 exact h1
theorem fn_val {w:World}{X:Nat->Prop}{f:Nat}{v:Value}(h:V w X (.fn (.func f) [] []) v):v= .func (.func f) #[] #[]:=by
 cases h with
 |fn h1 h2=>cases h1; cases h2; rfl
theorem OpA.callId {cl : Call} {g x : Operand} {f : Nat} {fn : Func} (ho : o.op = .call cl) (hc : cl.callee = .value g) (hg : ev fr g = .fn (.func f) [] []) (ha : cl.args = #[x]) (hf : P.funcs[f]? = some fn) (hname : (fn.name == "runtime.NumGoroutine") = false)
   (hb:fn.body.isNone=true) (hn:Extern.findNext fn=none) (he:Extern.find fn=some Extern.AbiNoEscape.same) (hk:K (ev fr x) h):OpA P o fr h K:=
 .of_quiet (fun A M w0 ac w hr hv=>by
   have h1:=hv g (by simp [ho,Op.operands,Call.operands,hc])
   have h2:=hv x (by simp [ho,Op.operands,Call.operands,hc,ha])
   rw [hg]at h1
   exact⟨ac.eval x,run_extCall hf hname hb hn he ho hc (fn_val h1) w (by rw [ha]; simp only [List.map_toArray,List.map_cons,List.map_nil]; rfl),h2⟩) hk
theorem OpA.callX {cl:Call}{g:Operand}{f:Nat}{fn:Func}{e:Array Value->Sem Value}{vs:List Value}{r:Value}(ho:o.op= .call cl)(hc:cl.callee= .value g)(hg:ev fr g= .fn (.func f) [] [])(ha:cl.args.toList.map (ev fr)=vs.map .v)
   (hf : P.funcs[f]? = some fn) (hname : (fn.name == "runtime.NumGoroutine") = false) (hb : fn.body.isNone = true) (hn : Extern.findNext fn = none) (he : Extern.find fn = some e) (hrun : ∀ w, (e vs.toArray).run P w = .ok r w) (hk : K (.v r) h) : OpA P o fr h K :=
 .of_quiet (fun A M w0 ac w hr hv=>by
   have h1:=hv g (by simp [ho,Op.operands,Call.operands,hc])
   have h2:=evs_VL (ac:=ac) cl.args.toList (fun x hx=>hv x (by simp [ho,Op.operands,Call.operands,hc]; exact .inr (by simpa using hx)))
   rw [hg]at h1; rw [ha]at h2
   have e1:cl.args.map ac.eval=vs.toArray:=by
     have:∀(l:List Value) (us:List Value),VL w (XX A h) (l.map D.v) us->us=l:=by
       intro l
       induction l with
       |nil=>intro us h; cases h; rfl
       |cons a l ih=>intro us h; cases h with|cons h3 h4=>cases h3; rw [ih _ h4]
     apply Array.toList_inj.1
     have:=this vs _ h2
     simpa using this
   exact⟨r,run_extCall hf hname hb hn he ho hc (fn_val h1) w (by rw [e1]; exact hrun w),.v _⟩) hk
theorem HRel.reblk {A M:Nat->Prop}{w0 w:World}{h h':zbb}{c:Nat}{b b':Blk}(hr:HRel A M w0 h w)(hrepl:Repl c b c b' h h')(hb:BlkRel w (XX A h) c b'):HRel A M w0 h' w/\Mono w (XX A h) w (XX A h'):=by
 have hk:keys h'=keys h:=hrepl.keys_eq
 have hX:XX A h'=XX A h:=by funext b; simp only [XX,hk]
 obtain⟨h1,h2,e1,e2⟩:=hrepl.split
 refine⟨⟨by rw [hk]; exact hr.nodup,?_,by rw [hk]; exact hr.free,by rw [hk]; exact hr.mine,hr.bound,hr.old,hr.ext,by rw [hX]; exact hr.glob⟩,by rw [hX]; exact Mono.refl _ _⟩
 intro c' b2 hc'
 rw [hX]
 rw [e2]at hc'
 rcases List.mem_append.1 hc' with h3|h3
 · exact hr.blk _ _ (by rw [e1]; simp [h3])
 · rcases List.mem_cons.1 h3 with h3|h3
   · cases h3; exact hb
   · exact hr.blk _ _ (by rw [e1]; simp [h3])
theorem OpA.allocB {T e:TypeId}(ho:o.op= .alloc T)(hz:(P.info? T).bind (·.zero)=some (.agg #[.pointer none,.slice none 0 0]))
   (hk:∀ c g,K (.ptr c 2 0 0) ((c,.cells 2 [bldD T e c false g []])::(g,.cells 1 (zas (D.k .u8) [] [] []))::h)):OpA P o fr h K:=
 .of_run fun A M w0 a w hr _=>by
   obtain⟨g,_,_,hr1,hm1⟩:=hr.ghost 1
   obtain⟨h2,h3,h4⟩:=hr1.alloc (sz:=2) (es:= [.agg [.v (.pointer none),.v (.slice none 0 0)]]) (cs:= [.pointer none,.slice none 0 0]) #[.pointer none,.slice none 0 0] T (by intro d hd; simp at hd; subst hd; exact .of rfl) (.cons (.v _) (.cons (.v _) .nil)) (List.prefix_refl _)
   have hzr:∀ w,(zeroValue T).run P w= .ok (.agg #[.pointer none,.slice none 0 0]) w:=fun w=>by
     obtain⟨i,hi,hi2⟩:=Option.bind_eq_some_iff.1 hz
     simp [zeroValue,typeInfo,hi,hi2]
   have hsh:(w.alloc (.cells #[.pointer none,.slice none 0 0] T)).shape? (2*w.heap.size / 2)=some (T,2):=by
     rw [show 2*w.heap.size / 2=w.heap.size from by omega]; exact shape_alloc_new _ _ _
   obtain⟨r5,m5⟩:=HRel.reblk (b':= .cells 2 [bldD T e (2*w.heap.size) false g []]) h3 .head (by
     have hb:=h3.blk (2*w.heap.size) _ (List.mem_cons_self ..)
     refine⟨by intro d hd; simp at hd; subst hd; exact .of rfl,?_⟩
     rcases hb.2 with⟨_,he⟩|⟨hc,arr,et,cs,ha,hv,hp⟩
     · cases he
     · refine .inr ⟨hc,arr,et,cs,ha,?_,hp⟩
       have hv':VL (w.alloc (.cells #[.pointer none,.slice none 0 0] T)) (XX A ((2*w.heap.size,.cells 2 [.agg [.v (.pointer none),.v (.slice none 0 0)]])::(g,.cells 1 [])::h)) [.v (.pointer none),.v (.slice none 0 0)] cs:=hv
       cases hv' with
       | cons q1 q2=>
         cases q1
         exact .cons (.tself (u:=false) (by omega) hsh) q2)
   refine⟨.pointer (some ⟨w.heap.size,0,none⟩),_,_,_,by simp [execOp,ho,Instr.alloc,hzr,newVar,newRow,Value.cells],hk _ g,r5,(hm1.trans h4).trans m5,?_⟩
   have:=V.ptr (w:=w.alloc (.cells #[.pointer none,.slice none 0 0] T)) (X:=XX A ((2*w.heap.size,.cells 2 [bldD T e (2*w.heap.size) false g []])::(g,.cells 1 (zas (D.k .u8) [] [] []))::h)) (c:=2*w.heap.size) (sz:=2) (i:=0) (k:=0) (by omega)
   simpa using this
theorem buf_of {w w':World}{X X':Nat->Prop}{e c c':Nat}{xs ys:List Int}{pre:List D}{v v':Value}(hv:V w X (bufD e c xs) v)(hm:Mono w X w' X')(hp:pre.length<=0)
   (hx:(c'=c/\∀ a n cap,v= .slice a n cap->∃ n',v'= .slice a n' cap)\/(∃ a cap,v'= .slice a (xs.length+ys.length) cap/\0<cap/\0<xs.length+ys.length/\∃ n,w'.shape? (c' / 2)=some (e,n)))
   (hv':V w' X' (.own c' 1 pre.length (xs.length+ys.length)) v'):V w' X' (bufD e c' (xs++ys)) v':=by
 have hp0:pre.length=0:=by omega
 rw [hp0]at hv'
 have key:0<xs.length+ys.length->V w' X' (.tbuf c' e 0 (xs.length+ys.length)) v':=by
   intro hpos
   cases hv' with
   | @own _ _ _ _ cap a hlc hd=>
     rcases hd with⟨hc2,rfl,e1,n1,hs1,hn1⟩|⟨hz,_⟩
     · refine .tbuf hlc ⟨hc2,by simp,by omega,n1,?_,by simpa using hn1⟩
       rcases hx with⟨rfl,hx⟩|⟨_,_,_,_,_,n,hs⟩
       · cases xs with
         | nil=>
           cases hv
           obtain⟨n',hn'⟩:=hx none 0 0 rfl
           cases hn'
         | cons x l=>
           cases hv with
           | tbuf _ hq=>
             obtain⟨_,_,_,n,hs,_⟩:=hq
             rw [hm.shape _ (lt_of_shape hs),hs]at hs1
             cases hs1
             rw [hm.shape _ (lt_of_shape hs),hs]
       · rw [hs]at hs1; cases hs1; exact hs
     · omega
 cases xs with
 | cons x l=>
   have:=key (by simp; omega)
   have e1:(x::l).length+ys.length=(x::(l++ys)).length:=by simp; omega
   rw [e1]at this
   exact this
 | nil =>
   cases ys with
   | cons y m=>
     have:=key (by simp)
     have e1:([]:List Int).length+(y::m).length=(y::m).length:=by simp
     rw [e1]at this
     exact this
   | nil=>
     cases hv
     rcases hx with⟨rfl,hx⟩|hx
     · obtain⟨n',rfl⟩:=hx none 0 0 rfl
       cases hv' with
       |own hlc hd=>exact .v _
     · obtain⟨_,_,_,_,h0,_⟩:=hx; simp at h0
theorem own_of_buf {w:World}{X:Nat->Prop}{e c:Nat}{xs:List Int}{v:Value}(hv:V w X (bufD e c xs) v):V w X (.own c 1 0 xs.length) v:=by
 cases xs with
 |nil=>cases hv; exact .own (Nat.le_refl _) (.inr ⟨rfl,rfl⟩)
 | cons x l=>
   cases hv with
   | tbuf hc hq=>
     obtain⟨h1,rfl,h2,n,hs,hn⟩:=hq
     exact .own hc (.inl ⟨h1,by simp,e,n,hs,by simpa using hn⟩)
theorem OpA.appendB {t e:TypeId}{bytes:Nat}{agg:Bool}{cl:Call}{s x:Operand}{c:Nat}{post:List D}{xs ys:List Int}{hf:Nat->Blk->zbb}(ho:o.op= .call cl)(hc:cl.callee= .builtin .append)(ha:cl.args= #[s,x])(hty:cl.argTypes= #[t,t])
   (ht:TS P t e 1 bytes agg) (hs:ev fr s=bufD e c xs) (hrepl:∀ c' b',Repl c (.cells 1 (zas (D.k .u8) [] xs post)) c' b' h (hf c' b')) (hx:SrcV (D.k .u8) h 1 (ev fr x) ys)
   (hb:(xs.length+ys.length)*bytes<=140737488355328/\xs.length+ys.length<=9223372036854775807) (hk:∀ c',K (bufD e c' (xs++ys)) (hf c' (.cells 1 (zas (D.k .u8) [] (xs++ys) [])))):OpA P o fr h K:=
 .of_run fun A M w0 ac w hr hv=>by
   have h1:=hv s (zcg ho hc ha).1
   have h2:=hv x (zcg ho hc ha).2
   rw [hs]at h1
   obtain⟨v',w',c',pre,g1,g2,g3,g4,g5,g6⟩:=append_coreX (ty:=o.type) ht hr hrepl (by simp [zas]) (own_of_buf h1) hx.is h2 (by simpa using hb.1) (by simpa using hb.2)
   have hp:pre= []:=List.eq_nil_of_length_eq_zero (by omega)
   subst hp
   have e1: []++((zas (D.k .u8) [] xs post).drop 0).take xs.length++ys.map (D.k .u8)=zas (D.k .u8) [] (xs++ys) []:=by
     simp [zas,List.take_append_of_le_length]
   rw [e1]at g2 g3 g4
   simp only [List.length_map]at g4 g6
   refine⟨v',w',_,_,?_,hk c',g2,g3,buf_of h1 g3 (by simp) g6 g4⟩
   simp only [execOp,ho,resolve,hc,Sem.run_bind,Sem.run_pure,Result.andThen_ok,invoke,builtin,hty,ha,List.map_toArray,List.map_cons,List.map_nil,g1]
theorem OpA.dataN {t:Array TypeId}{cl:Call}{x:Operand}(ho:o.op= .call cl)(hc:cl.callee= .builtin .unsafeSliceData)(ha:cl.args= #[x])(hx:ev fr x= .v (.slice none 0 0))(hk:K (.v (.pointer none)) h):OpA P o fr h K:=
 .of_quiet (fun A M w0 ac w hr hv=>by
   have h1:=hv x (by simp [ho,Op.operands,Call.operands,hc,ha])
   rw [hx]at h1
   generalize hu:ac.eval x=u at h1
   cases h1
   refine⟨.pointer none,?_,.v _⟩
   have:=Lib.run_unsafeSliceData_nil (P:=P) w cl.argTypes o.type 0 0
   simp only [execOp,ho,resolve,hc,Sem.run_bind,Sem.run_pure,Result.andThen_ok,invoke,builtin,ha,List.map_toArray,List.map_cons,List.map_nil,hu,this]) hk
theorem OpA.dataT {cl:Call}{x:Operand}{g e n:Nat}(ho:o.op= .call cl)(hc:cl.callee= .builtin .unsafeSliceData)(ha:cl.args= #[x])(hx:ev fr x= .tbuf g e 0 n)(hk:K (.ptr g 1 0 0) h):OpA P o fr h K:=
 .of_quiet (fun A M w0 ac w hr hv=>by
   have h1:=hv x (by simp [ho,Op.operands,Call.operands,hc,ha])
   rw [hx]at h1
   generalize hu:ac.eval x=u at h1
   cases h1 with
   | @tbuf _ _ _ _ cap a hlc hq=>
     obtain⟨h2,rfl,h3,_⟩:=hq
     refine⟨.pointer (some ⟨g / 2,0,none⟩),?_,.ptr (sz:=1) (i:=0) (k:=0) h2⟩
     have:=Lib.run_unsafeSliceData_row (P:=P) w cl.argTypes o.type ⟨g / 2,0,none⟩ n cap (by omega)
     simp only [execOp,ho,resolve,hc,Sem.run_bind,Sem.run_pure,Result.andThen_ok,invoke,builtin,ha,List.map_toArray,List.map_cons,List.map_nil,hu,this]) hk
theorem OpA.lenT {cl:Call}{x:Operand}{g e n t e':Nat}(ho:o.op= .call cl)(hc:cl.callee= .builtin .len)(ha:cl.args= #[x])(hty:cl.argTypes= #[t])(ht:P.underlying t=some (.slice e'))(hx:ev fr x= .tbuf g e 0 n)(hk:K (.i (n:Int)) h):OpA P o fr h K:=
 .of_quiet (fun A M w0 ac w _ hv=>by
   have h1:=hv x (by simp [ho,Op.operands,Call.operands,hc,ha])
   rw [hx]at h1
   generalize hu:ac.eval x=u at h1
   cases h1
   exact⟨.int .i64 n,by simp [execOp,ho,hc,resolve,invoke,builtin,Builtin.len_,hty,ha,hu,run_underlying ht,goInt],.v _⟩) hk
theorem run_loadBytesI (w:World):∀(l:List Int) (a:Addr) (acc:ByteArray),(∀ j x,l[j]? =some x->w.cell? (a.add j)=some (.int .u8 x))->
   (loadBytes a acc l.length).run P w= .ok ⟨acc.data++(l.map fun n=>UInt8.ofNat n.toNat).toArray⟩ w
 | [],a,acc,_=>by simp [loadBytes]
 | x ::l,a,acc,h=>by
   have h0:w.cell? a=some (.int .u8 x):=by
     have:=h 0 x rfl
     simpa [Addr.add]using this
   have ih:=run_loadBytesI w l (a.add 1) (acc.push x.toNat.toUInt8) (fun j y hy=>by
     have:=h (j+1) y (by simpa using hy)
     have e:(a.add 1).add j=a.add (j+1):=by
       unfold Addr.add
       by_cases hj:j=0
       · subst hj; simp
       · simp [hj]; omega
     rw [e]; exact this)
   simp only [List.length_cons,loadBytes,Sem.run_bind,run_load,h0,Result.andThen]
   rw [ih]
   congr 1
   apply ByteArray.ext
   simp [ByteArray.push]
theorem HRel.turnOut {A M:Nat->Prop}{w0 w w':World}{c:Nat}{b:Blk}{h0:zbb}(hr:HRel A M w0 ((c,b)::h0) w)(hc:c % 2=0)(hs:w'.heap.size=w.heap.size)(hk:∀ b,b≠c / 2->w'.heap[b]? =w.heap[b]?)
   (hsh:w'.shape? (c / 2)=w.shape? (c / 2)) (ho:w'.os=w.os) (htp:w'.tape=w.tape) (hout:w'.output=w.output/\w'.drawn=w.drawn):HRel A M w0 h0 w'/\Mono w (XX A ((c,b)::h0)) w' (XX A h0):=by
 have hin:XX A ((c,b)::h0) (c / 2):= .inr (by rw [show 2*(c / 2)=c from by omega]; simp)
 have hshape:∀ b,w'.shape? b=w.shape? b:=fun b=>by
   by_cases hb:b=c / 2
   · subst hb; exact hsh
   · exact zax (hk b hb)
 have hm:Mono w (XX A ((c,b)::h0)) w' (XX A h0):=by
   refine⟨by omega,fun b _ hx=>hk b (fun e=>hx (e▸hin)),fun b _=>hshape b,fun b _ hx=>?_⟩
   rcases hx with hx|hx
   · exact .inl hx
   · exact .inr (by simp [hx])
 have hnd:=hr.nodup
 simp only [keys_cons,List.nodup_cons]at hnd
 refine⟨⟨hnd.2,fun c1 b1 hc1=>?_,fun c1 hc1=>hr.free c1 (by simp [hc1]),fun c1 hc1=>hr.mine c1 (by simp [hc1]),hr.bound,by rw [hs]; exact hr.old,?_,hr.glob.mono hm⟩,hm⟩
 · have hne:c1≠c:=fun e=>hnd.1 (e▸List.mem_map.2 ⟨_,hc1,rfl⟩)
   exact(hr.blk c1 b1 (by simp [hc1])).mono hm (fun he=>hk _ (by omega))
 · refine⟨ho.trans hr.ext.os,htp.trans hr.ext.tape,hout.1.trans hr.ext.output,by rw [hs]; exact hr.ext.size,fun b hb hn=>?_,fun b hb=>(hshape b).trans (hr.ext.shape b hb),fun o_=>by rw [hout.2]; exact hr.ext.drawn o_⟩
   by_cases hbc:b=c / 2
   · subst hbc
     rcases hr.mine c (by simp) hc with hmm|hmm
     · exact absurd hmm hn
     · omega
   · exact(hk b hbc).trans (hr.ext.keep b hb hn)
theorem freeze_facts (w:World)(g n:Nat):(w.freeze ⟨g,0,none⟩ n).heap.size=w.heap.size/\(∀ b,b≠g->(w.freeze ⟨g,0,none⟩ n).heap[b]? =w.heap[b]?)/\(w.freeze ⟨g,0,none⟩ n).shape? g=w.shape? g/\
   (w.freeze ⟨g,0,none⟩ n).os=w.os/\(w.freeze ⟨g,0,none⟩ n).tape=w.tape/\((w.freeze ⟨g,0,none⟩ n).output=w.output/\(w.freeze ⟨g,0,none⟩ n).drawn=w.drawn):=by
 unfold World.freeze
 split
 · exact⟨rfl,fun _ _=>rfl,rfl,rfl,rfl,rfl,rfl⟩
 · refine⟨by simp,fun b hb=>by simp [Array.getElem?_modify,Ne.symm hb],?_,rfl,rfl,rfl,rfl⟩
   simp only [World.shape?,Array.getElem?_modify,if_true]
   cases w.heap[g]? with
   |none=>rfl
   |some o=>cases o<;>simp<;>(try split)<;>simp_all
theorem OpA.strN {cl:Call}{x y:Operand}{pt it:TypeId}(ho:o.op= .call cl)(hc:cl.callee= .builtin .unsafeString)(ha:cl.args= #[x,y])(hty:cl.argTypes= #[pt,it])(hx:ev fr x= .v (.pointer none))(hy:ev fr y= .i 0)(hk:K (.s ⟨#[]⟩) h):OpA P o fr h K:=
 .of_quiet (fun A M w0 ac w hr hv=>by
   have h1:=hv x (by simp [ho,Op.operands,Call.operands,hc,ha])
   have h2:=hv y (by simp [ho,Op.operands,Call.operands,hc,ha])
   rw [hx]at h1; rw [hy]at h2
   generalize hu:ac.eval x=u at h1
   generalize hu2:ac.eval y=u2 at h2
   cases h1; cases h2
   refine⟨.string ⟨#[]⟩,?_,.v _⟩
   have:=Lib.run_unsafeString_none (P:=P) w pt it o.type none
   simp only [execOp,ho,resolve,hc,Sem.run_bind,Sem.run_pure,Result.andThen_ok,invoke,builtin,ha,hty,List.map_toArray,List.map_cons,List.map_nil,hu,hu2,this]
   rfl) hk
theorem OpA.strT {cl:Call}{x y:Operand}{pt it e g c:Nat}{d0:D}{xs:List Int}{post:List D}{h0:zbb}(ho:o.op= .call cl)(hc:cl.callee= .builtin .unsafeString)(ha:cl.args= #[x,y])(hty:cl.argTypes= #[pt,it])(hpt:P.underlying pt=some (.pointer e))(hce:P.cellsOf e=1)
   (hx:ev fr x= .ptr g 1 0 0) (hy:ev fr y= .i (xs.length:Int)) (hb:Has c (.cells 2 [.agg [d0,.tbuf g e 0 xs.length]]) h) (hp:h.Perm ((g,.cells 1 (zas (D.k .u8) [] xs post))::h0)) (hne:xs≠ []) (hmax:xs.length<=9223372036854775807)
   (hk:K (.s (bstr xs)) h0):OpA P o fr h K:=
 .of_run fun A M w0 ac w hr hv=>by
   have h1:=hv x (by simp [ho,Op.operands,Call.operands,hc,ha])
   have h2:=hv y (by simp [ho,Op.operands,Call.operands,hc,ha])
   rw [hx]at h1; rw [hy]at h2
   generalize hu:ac.eval x=u at h1
   generalize hu2:ac.eval y=u2 at h2
   cases h2
   cases h1 with
   | ptr hg=>
     -- the shape of the row
     obtain ⟨cap,n,hcap,hsh,hn⟩:∃ cap n,xs.length<=cap/\w.shape? (g / 2)=some (e,n)/\0+cap<=n:=by
       obtain⟨_,hb2⟩:=hr.cells hb
       rcases hb2 with⟨_,he⟩|⟨_,arr,e2,cs,_,hvl,_⟩
       · cases he
       · have hvl':VL w (XX A h) [d0,.tbuf g e 0 xs.length] cs:=by simpa [D.flats,D.flat]using hvl
         cases hvl' with
         | cons _ q=>
           cases q with
           | cons q1 _=>
             cases q1 with
             | @tbuf _ _ _ _ cap a hlc hq=>
               obtain⟨_,_,_,n,hs,hn⟩:=hq
               exact⟨cap,n,hlc,hs,hn⟩
     obtain⟨r1,m1⟩:=hr.perm hp
     have hcells :∀ j v,xs[j]? =some v->w.cell? ((⟨g / 2,0,none⟩:Addr).add j)=some (.int .u8 v):=by
       intro j v hj
       obtain⟨_,hb2⟩:=r1.blk g _ (List.mem_cons_self ..)
       rcases hb2 with⟨hodd,_⟩|⟨_,arr,e2,cs,hoc,hvl,hpre⟩
       · omega
       · have hcj:cs[j]? =some (.int .u8 v):=by
           have hfl:D.flats (zas (D.k .u8) [] xs post)=(xs.map (Value.int .u8)).map D.v++D.flats post:=by
             simp only [zas,List.nil_append]
             rw [zcc,flats_u8]
           rw [hfl]at hvl
           have hlt:=(List.getElem?_eq_some_iff.1 hj).1
           have key:∀(l:List Value) (rest:List D) (us:List Value),VL w (XX A ((g,.cells 1 (zas (D.k .u8) [] xs post))::h0)) (l.map D.v++rest) us->∀(j:Nat) (v:Value),l[j]? =some v->us[j]? =some v:=by
             intro l rest
             induction l with
             |nil=>intro us _ j v hj; simp at hj
             | cons a l ih=>
               intro us hus j v hj
               cases hus with
               | cons q1 q2=>
                 cases q1
                 cases j with
                 |zero=>simpa using hj
                 |succ j=>simpa using ih _ q2 j v (by simpa using hj)
           exact key _ _ _ hvl j (.int .u8 v) (by rw [List.getElem?_map,hj]; rfl)
         have:=own_cell hoc hpre j _ hcj
         unfold Addr.add
         by_cases hj0:j=0
         · subst hj0; simpa using this
         · simpa [hj0]using this
     obtain⟨f1,f2,f3,f4,f5,f6⟩:=freeze_facts w (g / 2) xs.length
     obtain⟨r2,m2⟩:=r1.turnOut hg f1 f2 f3 f4 f5 f6
     refine⟨.string (bstr xs),_,_,_,?_,hk,r2,m1.trans m2,.v _⟩
     have hl:xs.length≠0:=by simpa using hne
     have hlb:=run_loadBytesI (P:=P) w xs ⟨g / 2,0,none⟩ .empty hcells
     have hlies:=Lib.liesAt_bytes (P:=P) hce (n / P.cellsOf e) xs.length (by rw [hce]; simp; omega)
     have h63':¬(9223372036854775807:Int)<(xs.length:Int):=by omega
     have hdef:Builtin.unsafeString_ #[pt,it] o.type #[.pointer (some ⟨g / 2,0,none⟩),.int .i64 xs.length]=
         (do
           let n <-asInt (.int .i64 xs.length)
           if n < 0 then runtimePanic (.error "unsafe.String: len out of range")
           if n > IntKind.i64.max then unsupported (.unsafePointer "String: a length above the largest int")
           if n=0 then pure (.string .empty)
           else if <-variablesAt ⟨g / 2,0,none⟩ (<- elemOf pt) n.toNat then do
             let s <-loadBytes ⟨g / 2,0,none⟩ .empty n.toNat
             Go.freeze ⟨g / 2,0,none⟩ n.toNat
             pure (.string s)
           else unsupported (.unsafePointer "String: not so many bytes at ptr")) := rfl
     have hmax2:IntKind.i64.max=9223372036854775807:=rfl
     have hneg:¬(xs.length:Int)<0:=by omega
     have hrun:(Builtin.unsafeString_ #[pt,it] o.type #[.pointer (some ⟨g / 2,0,none⟩),.int .i64 xs.length]).run P w= .ok (.string (bstr xs)) (w.freeze ⟨g / 2,0,none⟩ xs.length):=by
       rw [hdef]
       simp [asInt,asIntOf,hmax2,h63',hneg,hl,hne,variablesAt,hsh,elemOf,run_underlying hpt,hlies,hlb,bstr]
     simp only [execOp,ho,resolve,hc,Sem.run_bind,Sem.run_pure,Result.andThen_ok,invoke,builtin,ha,hty,List.map_toArray,List.map_cons,List.map_nil,hu,hu2,Nat.zero_mul,Nat.add_zero,hrun]
end
end Go.Lic
set_option linter.all false
namespace Go.Lic
variable [Fl]
theorem OpA.capNil {cl:Call}{s:Operand}{ti:TypeId}{P:Program}{o:Oper}{fr:Nat->D}{h:zbb}{K:D->zbb->Prop}(ho:o.op= .call cl)(hc:cl.callee= .builtin .cap)(ha:cl.args= #[s])(hs:ev fr s= .v (.slice none 0 0)){e:TypeId}(hty:cl.argTypes= #[ti])(ht:P.underlying ti=some (.slice e))(hk:K (.i 0) h):OpA P o fr h K:=
 .of_quiet (fun A M w0 a w _ hv=>by
   have h1:=hv s (by simp [ho,Op.operands,Call.operands,hc,ha])
   rw [hs]at h1
   generalize hu:a.eval s=u at h1
   cases h1
   exact⟨.int .i64 0,by simp [execOp,ho,resolve,hc,invoke,builtin,ha,hu,hty,Builtin.cap_,run_underlying ht,goInt],.v _⟩) hk
theorem run_sliceBounds0 {P:Program}{w:World}:(Instr.sliceBounds true 0 0 none (some (.int .i64 0)) none).run P w= .ok (0,0,0) w:=by
 simp [Instr.sliceBounds,run_sliceBound' (k:= .i64) (i:=0) (y:=0) (by omega) (by simp)]
theorem OpA.sliceNil {t e:TypeId}{x y:Operand}{sz bytes:Nat}{agg:Bool}{P:Program}{o:Oper}{fr:Nat->D}{h:zbb}{K:D->zbb->Prop}(ho:o.op= .slice t x none (some y) none)(ht:TS P t e sz bytes agg)(hs:ev fr x= .v (.slice none 0 0))(hy:ev fr y= .i 0)(hk:K (.v (.slice none 0 0)) h):OpA P o fr h K:=
 .of_quiet (fun A M w0 a w _ hv=>by
   have h1:=hv x (by simp [ho,Op.operands])
   have h2:=hv y (by simp [ho,Op.operands])
   rw [hs]at h1; rw [hy]at h2
   generalize hu:a.eval x=u at h1
   generalize hu2:a.eval y=u2 at h2
   cases h1; cases h2
   exact⟨.slice none 0 0,by simp [execOp,ho,hu,hu2,Instr.sliceAt,Instr.slice,run_underlying ht.desc,ht.elem.size,run_sliceBounds0],.v _⟩) hk
theorem zeroCells_made (z:Array Value)(n:Nat):Builtin.zeroCells z n=madeCells z (n*z.size):=rfl
section
variable {P:Program}{o:Oper}{fr:Nat->D}{h:zbb}{K:D->zbb->Prop}{T:Type} [Inhabited T]{enc:T->D}
set_option maxRecDepth 20000 in
theorem OpA.appendZ {t ti e:TypeId}{sz bytes:Nat}{agg:Bool}{cl:Call}{s x:Operand}{n:Int}{z:Value}{v0:T}(ho:o.op= .call cl)(hc:cl.callee= .builtin .append)(ha:cl.args= #[s,x])(hty:cl.argTypes= #[t,ti])
   (ht:TS P t e sz bytes agg) (hti:P.underlying ti=some (.int .i64)) (hs:ev fr s= .v (.slice none 0 0)) (hx:ev fr x= .i n) (hz:(P.info? e).bind (·.zero)=some z) (hd:∀ w X,V w X (enc v0) z) (hok:(enc v0).ok sz)
   (hb:0<n/\n*bytes<=140737488355328/\n<=9223372036854775807) (hk:∀ c,K (.own c sz ([]:List D).length (List.replicate n.toNat v0).length) ((c,.cells sz (zas enc [] (List.replicate n.toNat v0) []))::h)):OpA P o fr h K:=
 .of_run fun A M w0 ac w hr hv=>by
   have h1:=hv s (zcg ho hc ha).1
   have h2:=hv x (zcg ho hc ha).2
   rw [hs]at h1; rw [hx]at h2
   generalize hu:ac.eval s=u at h1
   generalize hu2:ac.eval x=u2 at h2
   cases h1; cases h2
   obtain⟨hn0,hnb,hn63⟩:=hb
   obtain⟨m,rfl⟩:∃ m:Nat,n=m:=⟨n.toNat,by omega⟩
   obtain⟨i,hi,hiz⟩:=Option.bind_eq_some_iff.1 hz
   have hbi:i.bytes=bytes:=by have:=ht.bytes; simpa [hi]using this
   have hsi:i.size=sz:=by have:=ht.elem.size w; simpa [sizeOf,typeInfo,hi]using this
   have hwrap:IntKind.i64.wrap (m:Int)=m:=wrap64_in (by omega)
   have hmb:m*bytes<=140737488355328:=by
     have h:((m*bytes:Nat):Int)<=140737488355328:=by rw [Int.natCast_mul]; exact hnb
     omega
   have hgrow:=growslice_fits (need:=m) (old:=0) (by omega) hmb
   have hng:¬(Builtin.nextslicecap m 0*bytes>2 ^ 48):=by omega
   have has:∀ w:World,(asInt (.int .i64 (m:Int))).run P w= .ok (m:Int) w:=fun w=>by simp [asInt,asIntOf]
   have hinfo:∀ w:World,(typeInfo e).run P w= .ok i w:=fun w=>by simp [typeInfo,hi]
   have hzv:∀ w:World,(zeroValue e).run P w= .ok z w:=fun w=>by simp [zeroValue,typeInfo,hi,hiz]
   have hzs:z.cells.size=sz:=by rw [(hd w (XX A h)).cells_size hok]
   obtain⟨ncap,hncap,hncapge⟩:∃ ncap,(Question.appendCap m 0 e).cut (w.tape w.drawn (.appendCap m 0 e))=ncap/\m<=ncap:=⟨_,rfl,by simp [Question.cut]⟩
   obtain⟨r1,m1⟩:=hr.quiet (w':=w.drew) rfl rfl rfl rfl (Nat.le_succ _)
   have hvl:=made_VL (hd w.drew (XX A h)) hok
   have hpre:(madeCells z.cells (m*sz)).toList <+: (#[]++Builtin.zeroCells z.cells m++Builtin.zeroCells z.cells (ncap-m)).toList:=by
     rw [zeroCells_made,hzs]
     simp only [Array.toList_append,Array.toList_empty,List.nil_append]
     exact List.prefix_append _ _
   obtain⟨_,h5,h6⟩:=r1.alloc (sz:=sz) (es:=List.replicate m (enc v0)) (#[]++Builtin.zeroCells z.cells m++Builtin.zeroCells z.cells (ncap-m)) e (fun d' hd'=>by rw [List.eq_of_mem_replicate hd']; exact hok) (hvl _) hpre
   have hk':=hk (2*w.heap.size)
   have hw:zas enc [] (List.replicate m v0) []=List.replicate m (enc v0):=by simp [zas]
   simp only [Int.toNat_natCast,List.length_replicate,List.length_nil]at hk'
   rw [hw]at hk'
   have hsz0:m*sz≠0->True:=fun _=>trivial
   have hfirst0:∀ w:World,(Builtin.firstCells sz 0 (.slice none 0 0)).run P w= .ok #[] w:=fun w=>by simp [Builtin.firstCells]
   refine⟨.slice (some ⟨w.heap.size,0,none⟩) m ncap,_,_,_,?_,hk',h5,m1.trans h6,?_⟩
   · have hroom:¬(m<=0):=by omega
     have hnm:¬(((m:Nat):Int)>IntKind.i64.max):=by rw [IntKind.max_i64]; omega
     have hl0:¬((m:Int)<0):=by omega
     have hl1:¬((m:Int)*(i.bytes:Int)>2 ^ 48):=by
       rw [hbi]
       omega
     by_cases hms:m*sz=0
     · have hsz:sz=0:=by
         rcases Nat.mul_eq_zero.1 hms with h|h
         · omega
         · exact h
       have hz0:∀ k,Builtin.zeroCells z.cells k= #[]:=fun k=>by simp [Builtin.zeroCells,hzs,hsz]
       simp only [execOp,ho,resolve,hc,Sem.run_bind,Sem.run_pure,Result.andThen_ok,invoke,builtin,hty,ha,List.map_toArray,List.map_cons,List.map_nil,hu,hu2,Builtin.append_,Array.getElem?_eq_getElem,List.size_toArray,List.length_cons,List.length_nil,Nat.zero_add,Nat.reduceLT,Nat.reduceAdd,List.getElem_toArray,List.getElem_cons_zero,List.getElem_cons_succ,
         run_underlying ht.desc,run_underlying hti,ht.elem.size,has,hwrap,hl0,hl1,hinfo,if_true,if_false,Int.toNat_natCast,hms,hz0]
       simp only [hroom,if_false,hnm,hng,hbi,false_and,run_choose,Question.forced,World.drew_eq,hncap,run_askRoom,hfirst0,Sem.run_bind,Result.andThen_ok,Sem.run_pure,hinfo,hzv,hz0,newRow,run_newObj,World.alloc_eq,Sem.run_ite]
       rfl
     · simp only [execOp,ho,resolve,hc,Sem.run_bind,Sem.run_pure,Result.andThen_ok,invoke,builtin,hty,ha,List.map_toArray,List.map_cons,List.map_nil,hu,hu2,Builtin.append_,Array.getElem?_eq_getElem,List.size_toArray,List.length_cons,List.length_nil,Nat.zero_add,Nat.reduceLT,Nat.reduceAdd,List.getElem_toArray,List.getElem_cons_zero,List.getElem_cons_succ,
         run_underlying ht.desc,run_underlying hti,ht.elem.size,has,hwrap,hl0,hl1,hinfo,if_true,if_false,Int.toNat_natCast,hms]
       simp only [hroom,if_false,hnm,hng,hbi,false_and,run_choose,Question.forced,World.drew_eq,hncap,run_askRoom,hfirst0,Sem.run_bind,Result.andThen_ok,Sem.run_pure,hinfo,hzv,newRow,run_newObj,World.alloc_eq,Sem.run_ite]
       rfl
   · refine .own hncapge (.inl ⟨by omega,by simp,e,(#[]++Builtin.zeroCells z.cells m++Builtin.zeroCells z.cells (ncap-m)).size,?_,?_⟩)
     · rw [show 2*w.heap.size / 2=w.drew.heap.size from by show 2*w.heap.size / 2=w.heap.size; omega]; exact shape_alloc_new _ _ _
     · simp only [Array.size_append,size_zeroCells,hzs,List.length_nil,Nat.zero_add,List.size_toArray]
       rw [<- Nat.add_mul]
       apply Nat.mul_le_mul_right
       omega
end
section
variable {P:Program}{o:Oper}{fr:Nat->D}{h:zbb}{K:D->zbb->Prop}
theorem flats_empty {sz:Nat}(hs:0<sz):∀ ds:List D,(∀ d∈ds,d.ok sz)->D.flats ds= []->ds= []
 | [],_,_=>rfl
 | d::ds,hok,he=>by
   have h1:=(hok d (by simp)).1
   rw [flats_cons,List.append_eq_nil_iff]at he
   rw [he.1]at h1
   simp at h1; omega
theorem OpA.listNil {T:Type}{enc:T->D}{xs:List T}{t t2 e:TypeId}{x y:Operand}{sz:Nat}(ho:o.op= .binOp .eql t x y t2)(ht:P.underlying t=some (.slice e))(hsz:Nat.blt 0 sz=true)(hx:ev fr x= .list sz (xs.map enc))(hy:ev fr y= .v (.slice none 0 0))
   (hk:∀ b:Bool,(b=true->xs= [])->K (.b b) h):OpA P o fr h K:=
 .of_run fun A M w0 ac w hr hv=>by
   have h1:=hv x (by simp [ho,Op.operands])
   have h2:=hv y (by simp [ho,Op.operands])
   rw [hx]at h1; rw [hy]at h2
   generalize hu:ac.eval x=u at h1
   generalize hu2:ac.eval y=u2 at h2
   cases h2
   cases h1 with
   | @list _ _ cs a b off cap hok hvl ha hl hc=>
     have hd:∀(d n m:Nat) (a:Option Addr),(Op.equalIn (d+1) t (.slice a n m) (.slice none 0 0)).run P w= .ok a.isNone w:=fun d n m a=>by
       cases a<;>simp [Op.equalIn,run_underlying ht]
     refine⟨.bool a.isNone,w,.b a.isNone,h,?_,hk a.isNone ?_,hr,Mono.refl _ _,.v _⟩
     · simp only [execOp,ho,hu,hu2]
       simp [eqGuard,binOp,Op.equal,Op.maxDepth,hd 9999]
     · intro hn
       have hcs:cs= []:=by
         apply Classical.byContradiction
         intro hne
         rw [ha hne]at hn; simp at hn
       subst hcs
       have hf:D.flats (xs.map enc)= []:=by
         have:=hvl.length
         simpa using this
       have:=flats_empty (by simpa [Nat.blt_eq]using hsz) _ hok hf
       simpa using this
end
end Go.Lic
set_option linter.all false
namespace Go.Lic
variable [Fl]
section
variable {P:Program}{o:Oper}{fr:Nat->D}{h:zbb}{K:D->zbb->Prop}
end
end Go.Lic
set_option linter.all false
namespace Go.Lic
open Go.Proofs Go.Proofs.YtkifpidbpoghlaaGreatDoor
theorem laid_mem {P:Program}{n:String}{d:DataW Unit}:∀ {l:List (String×DataW Unit)} {W:World},(n,d)∈l->laidMet P l W->∃ r,laidMet P ((n,d)::r) W
 | x::l,W,hm,h=>by
   rcases List.mem_cons.1 hm with e|hm
   · subst e; exact⟨l,h⟩
   · exact laid_mem hm h.tail
theorem star_err : "*" ++ "errors.errorString" = "*errors.errorString" := by decide
theorem row_err (u : TypeId) (h : Tryz.prog.typeName? 3 u = some "*errors.errorString") : u = 279 :=
 typeName_ptr_named (nm := "errors.errorString") (by rw [star_err]; kernel_rfl) (by kernel_rfl) (by decide) u (by rw [star_err]; exact h)
def msOf (P:Program)(t:TypeId):Array (String×TypeId):=match P.underlying t with|some (.interface ms)=>ms|_=> #[]
def fOne (P:Program)(t:TypeId):Field:=match P.underlying t with|some (.struct fs)=>fs.getD 0 default|_=>default
theorem laid_err {l : List (String × DataW Unit)} {W : World} {n : String} {g : Nat} {text : List UInt8} (hm : (n, .iface "*errors.errorString" (.ptr (.agg [.lit (.string text)]))) ∈ l) (h : laidMet Tryz.prog l W)
   (hg:Tryz.prog.globalNamed n=some g) (ht:(Tryz.prog.globals[g]?).map (·.type)=some 114):∃ u p,W.cell? ⟨g,0,none⟩=some (.iface u p):=by
 obtain⟨r,hr⟩:=laid_mem hm h
 have hi:Tryz.prog.underlying 114=some (.interface (msOf Tryz.prog 114)):=by kernel_rfl
 have hp:Tryz.prog.underlying 279=some (.pointer 281):=by kernel_rfl
 have he:Tryz.prog.underlying 281=some (.struct #[fOne Tryz.prog 281]):=by kernel_rfl
 have h1:(fOne Tryz.prog 281).type=9:=by kernel_rfl
 have h2:(fOne Tryz.prog 281).offset=0:=by kernel_rfl
 have h3:Tryz.prog.underlying 9=some .string:=by kernel_rfl
 have h4:Tryz.prog.cellsOf 281=1:=by kernel_rfl
 have h5:Tryz.prog.cellsOf 9=1:=by kernel_rfl
 obtain⟨a,s,hv,_⟩:=laid_sentinel hr hg ht hi row_err hp he h1 h2 h3 h4 h5
 exact⟨_,_,by have:=World.var?_cell hg hv 0; simpa using this⟩
set_option maxRecDepth 10000 in
theorem glob_of_laid {l : List (String × DataW Unit)} {W : World} (hm : ("internal/strconv.uint64pow10", Rows.laid_internal_strconv_uint64pow10) ∈ l) (hm2 : ("strconv.ErrSyntax", Rows.laid_strconv_ErrSyntax) ∈ l) (hm3 : ("strconv.ErrRange", Rows.laid_strconv_ErrRange) ∈ l) (h : laidMet Tryz.prog l W) (h0 : ∃ m, W.cell? ⟨0, 0, none⟩ = some (.int .i64 m)) : Glob W (fun b => (fun _ : Nat => False) (2 * b)) := by
 obtain⟨g,t,cs,fuel,p,hg,hty,hvar,hd⟩:=Lib.laidMet.reads h hm
 have e1 : Tryz.prog.globalNamed "internal/strconv.uint64pow10" = some 5 := by kernel_rfl
 obtain rfl:=Option.some.inj (e1.symm.trans hg)
 have e2:(Tryz.prog.globals[5]?).map (·.type)=some 313:=by kernel_rfl
 obtain rfl:=Option.some.inj (e2.symm.trans hty)
 have e3:(Rows.laid_internal_strconv_uint64pow10:DataW Unit)=Lib.tabData .u64 pow10L:=by rfl
 rw [e3]at hd
 have hcs:=Lib.cells_of_tab (n:=20) (e:=250) (by kernel_rfl) (by kernel_rfl) (by kernel_rfl) (by kernel_rfl) hd
 unfold World.var? at hvar
 rw [e1]at hvar
 simp only [Option.bind_some]at hvar
 have hg1:∃ t z,W.heap[5]? =some (.cells (pow10L.map fun n=>Value.int .u64 n).toArray t z):=by
   split at hvar
   · next cs' t z he=>
     obtain rfl:=Option.some.inj hvar
     refine⟨t,z,?_⟩
     rw [he,<-hcs]
   · cases hvar
 have hg2 := laid_err (n := "strconv.ErrSyntax") (g := 1) hm2 h (by kernel_rfl) (by kernel_rfl)
 have hg3 := laid_err (n := "strconv.ErrRange") (g := 2) hm3 h (by kernel_rfl) (by kernel_rfl)
 refine⟨W,⟨hg1,hg2,hg3,h0⟩,fun g hg=>?_⟩
 refine⟨fun h=>h,?_,rfl⟩
 simp only [globIds,List.mem_cons,List.not_mem_nil,or_false]at hg
 rcases hg with rfl|rfl|rfl|rfl
 · obtain⟨t,z,h1⟩:=hg1
   by_cases hlt:5<W.heap.size
   · exact hlt
   · rw [Array.getElem?_eq_none (by omega)]at h1
     cases h1
 · obtain⟨u,q,h1⟩:=hg2; exact Lib.lt_of_cell h1
 · obtain⟨u,q,h1⟩:=hg3; exact Lib.lt_of_cell h1
 · obtain⟨m,h1⟩:=h0; exact Lib.lt_of_cell h1
theorem tab_of_glob {w : World} {X : Nat → Prop} (h : Glob w X) : Lib.TabIs Tryz.prog w "internal/strconv.uint64pow10" .u64 pow10L := by
 obtain⟨W0,⟨⟨t,z,h0⟩,_⟩,h1⟩:=h
 obtain⟨_,_,h2⟩:=h1 5 (by simp [globIds])
 have e1 : Tryz.prog.globalNamed "internal/strconv.uint64pow10" = some 5 := by kernel_rfl
 unfold Lib.TabIs World.var?
 rw [e1]
 simp only [Option.bind_some]
 rw [h2,h0]
theorem cell_same {w w':World}{g:Nat}(h:w.heap[g]? =w'.heap[g]?):w.cell? ⟨g,0,none⟩=w'.cell? ⟨g,0,none⟩:=by simp [World.cell?,h]
theorem err_of_glob {w:World}{X:Nat->Prop}(h:Glob w X):(∃ u p,w.cell? ⟨1,0,none⟩=some (.iface u p))/\(∃ u p,w.cell? ⟨2,0,none⟩=some (.iface u p)):=by
 obtain⟨W0,⟨_,⟨u,p,h2⟩,⟨u',p',h3⟩,_⟩,h1⟩:=h
 obtain⟨_,_,k2⟩:=h1 1 (by simp [globIds])
 obtain⟨_,_,k3⟩:=h1 2 (by simp [globIds])
 exact⟨⟨u,p,(cell_same k2).trans h2⟩,⟨u',p',(cell_same k3).trans h3⟩⟩
theorem max_of_glob {w:World}{X:Nat->Prop}(h:Glob w X):∃ m,w.cell? ⟨0,0,none⟩=some (.int .i64 m):=by
 obtain⟨W0,⟨_,_,_,⟨m,h2⟩⟩,h1⟩:=h
 obtain⟨_,_,k2⟩:=h1 0 (by simp [globIds])
 exact⟨m,(cell_same k2).trans h2⟩
end Go.Lic
set_option linter.all false
namespace Go.Lic
inductive SEq (P:Program)(xs ys:List Value):List (Nat×TypeId)->Bool->Prop
 |nil:SEq P xs ys [] true
 |str {o:Nat} {t:TypeId} {l:List (Nat×TypeId)} {r:Bool} {a c:ByteArray} (ht:P.underlying t=some .string) (hti:TI P t 1 false) (hx:xs[o]? =some (.string a)) (hy:ys[o]? =some (.string c)) (h:SEq P xs ys l r):SEq P xs ys ((o,t)::l) (decide (a=c)&&r)
 |int {o:Nat} {t:TypeId} {l:List (Nat×TypeId)} {r:Bool} {k:IntKind} {a c:Int} (ht:P.underlying t=some (.int k)) (hti:TI P t 1 false) (hx:xs[o]? =some (.int k a)) (hy:ys[o]? =some (.int k c)) (h:SEq P xs ys l r):SEq P xs ys ((o,t)::l) (decide (a=c)&&r)
 |bool {o:Nat} {t:TypeId} {l:List (Nat×TypeId)} {r:Bool} {a c:Bool} (ht:P.underlying t=some .bool) (hti:TI P t 1 false) (hx:xs[o]? =some (.bool a)) (hy:ys[o]? =some (.bool c)) (h:SEq P xs ys l r):SEq P xs ys ((o,t)::l) (decide (a=c)&&r)
theorem run_part1 {P:Program}{t:TypeId}(hti:TI P t 1 false){xs:List Value}{o:Nat}{v:Value}(h:xs[o]? =some v)(w:World):(part t xs.toArray o).run P w= .ok v w:=by
 simp only [part,Sem.run_bind,hti.isAgg,Result.andThen_ok,Bool.false_eq_true,if_false]
 simp [h]
theorem run_eqStr {P:Program}{t:TypeId}(ht:P.underlying t=some .string)(d:Nat)(a c:ByteArray)(w:World):(Op.equalIn (d+1) t (.string a) (.string c)).run P w= .ok (decide (a=c)) w:=by
 simp only [Op.equalIn,Sem.run_bind,run_underlying ht,Result.andThen_ok,Sem.run_pure]
 rw [beq_toListBytes,str_beq]
theorem run_eqInt {P:Program}{t:TypeId}{k:IntKind}(ht:P.underlying t=some (.int k))(d:Nat)(a c:Int)(w:World):(Op.equalIn (d+1) t (.int k a) (.int k c)).run P w= .ok (decide (a=c)) w:=by
 simp [Op.equalIn,run_underlying ht]
 rw [Bool.eq_iff_iff]; simp
theorem run_eqBool {P:Program}{t:TypeId}(ht:P.underlying t=some .bool)(d:Nat)(a c:Bool)(w:World):(Op.equalIn (d+1) t (.bool a) (.bool c)).run P w= .ok (decide (a=c)) w:=by
 simp [Op.equalIn,run_underlying ht]
 cases a<;>cases c<;>rfl
theorem SEq.run {P : Program} {xs ys : List Value} {l : List (Nat × TypeId)} {r : Bool} (h : SEq P xs ys l r) (d : Nat) (w : World) : ∀ fs : List Field, fs.map (fun f => (f.name == "_", f.offset, f.type)) = l.map (fun p => (false, p.1, p.2)) →
   (Op.eqFields (d+1) xs.toArray ys.toArray fs).run P w= .ok r w:=by
 induction h with
 | nil=>
   intro fs hf
   have:fs= []:=by simpa using hf
   subst this
   simp [Op.eqFields]
 | str ht hti hx hy _ ih=>
   intro fs hf
   cases fs with
   |nil=>simp at hf
   | cons f fs=>
     simp only [List.map_cons,List.cons.injEq,Prod.mk.injEq]at hf
     obtain⟨⟨h1,h2,h3⟩,hf⟩:=hf
     have h1' : f.name ≠ "_" := by simpa using h1
     simp only [Op.eqFields,h1',ne_eq,not_false_eq_true,if_true,Sem.run_bind,h2,h3,run_part1 hti hx,run_part1 hti hy,Result.andThen_ok,run_eqStr ht]
     split
     · next hc=>simp at hc; simp [hc]
     · next hc=>simp at hc; simp [hc,ih fs hf]
 | int ht hti hx hy _ ih=>
   intro fs hf
   cases fs with
   |nil=>simp at hf
   | cons f fs=>
     simp only [List.map_cons,List.cons.injEq,Prod.mk.injEq]at hf
     obtain⟨⟨h1,h2,h3⟩,hf⟩:=hf
     have h1' : f.name ≠ "_" := by simpa using h1
     simp only [Op.eqFields,h1',ne_eq,not_false_eq_true,if_true,Sem.run_bind,h2,h3,run_part1 hti hx,run_part1 hti hy,Result.andThen_ok,run_eqInt ht]
     split
     · next hc=>simp at hc; simp [hc]
     · next hc=>simp at hc; simp [hc,ih fs hf]
 | bool ht hti hx hy _ ih=>
   intro fs hf
   cases fs with
   |nil=>simp at hf
   | cons f fs=>
     simp only [List.map_cons,List.cons.injEq,Prod.mk.injEq]at hf
     obtain⟨⟨h1,h2,h3⟩,hf⟩:=hf
     have h1' : f.name ≠ "_" := by simpa using h1
     simp only [Op.eqFields,h1',ne_eq,not_false_eq_true,if_true,Sem.run_bind,h2,h3,run_part1 hti hx,run_part1 hti hy,Result.andThen_ok,run_eqBool ht]
     split
     · next hc=>simp at hc; simp [hc]
     · next hc=>simp at hc; simp [hc,ih fs hf]
theorem OpA.structcmp {P:Program}{o:Oper}{fr:Nat->D}{h:zbb}{K:D->zbb->Prop}{op:BinOp}{t t2:TypeId}{x y:Operand}{xs ys:List Value}{r b:Bool}{l:List (Nat×TypeId)}(ho:o.op= .binOp op t x y t2)(hm:P.eqGuardType P.depth t=false)
   (hu : P.underlying t = some (.struct (P.fieldsOf t))) (hp : P.stoodInHeld t = false) (hl : (P.fieldsOf t).toList.map (fun f => (f.name == "_", f.offset, f.type)) = l.map (fun p => (false, p.1, p.2)))
   (hx:ev fr x= .agg (xs.map D.v)) (hy:ev fr y= .agg (ys.map D.v)) (hs:SEq P xs ys l r) (hop:(op= .eql/\b=r)\/(op= .neq/\b= !r)) (hk:K (.b b) h):OpA P o fr h K:=
 .aggcmp ho hm hx hy (fun w=>by rw [run_equalIn_struct w 9999 t _ _ hu hp]; exact hs.run 9998 w _ hl) hop hk
end Go.Lic
set_option linter.all false
namespace Go.Lic
variable [Fl]
open Go.Proofs Go.Sort Go.Shelf
theorem Fun.of_same {P:Program}{f:Nat}{vs:List Value}{v:Value}(h:∀ w,Calls P f vs.toArray w fun e w'=>e= .returned v/\w'=w):Fun false P f (vs.map D.v) (fun d=>d= .v v):=by
 intro A w us hb ho hg hv
 obtain rfl:=vl_vals _ _ hv
 refine(h w).mono ?_
 rintro e w' ⟨rfl,rfl⟩
 exact⟨v,.v v,rfl,rfl,.v _,Ext.refl _ _⟩
theorem ext_grow (w:World)(k:Nat)(os:Array Obj):Ext (fun _=>False) w (grow (w.drewN k) os):=
 ⟨rfl,rfl,rfl,by simp [grow,World.drewN],fun b hb _=>by simp only [grow,World.drewN]; rw [Array.getElem?_append_left hb],fun b hb=>by
   apply zax; simp only [grow,World.drewN]; rw [Array.getElem?_append_left hb],by simp [grow,World.drewN]⟩
theorem one_byte {sep:ByteArray}(h:sep.size=1):sep=⟨#[sepOf sep]⟩:=by
 obtain⟨⟨l⟩⟩:=sep
 have:l.length=1:=h
 match l,this with
 | [c],_=>rfl
theorem sCompare_c (a b:ByteArray):Fun false Tryz.prog 110 [D.s a,D.s b] (fun d=>d=D.i (cmpB a b)):=Fun.of_same (vs:= [.string a,.string b]) (Tryz.strings_Compare a b)
theorem iCompare_c (a b:Int):Fun false Tryz.prog 153 [D.i a,D.i b] (fun d=>d=D.i (cmpI a b)):=Fun.of_same (vs:= [.int .i64 a,.int .i64 b]) (Tryz.cmp_Compare_int a b)
theorem count_c (s sep:ByteArray)(h:sep.size=1):Fun false Tryz.prog 6 [D.s s,D.s sep] (fun d=>d=D.i (countF s sep)):=by
 have:=Fun.of_same (vs:= [.string s,.string ⟨#[sepOf sep]⟩]) (Tryz.strings_Count_one s (sepOf sep))
 rw [<- one_byte h]at this
 exact this
theorem index_c (s sep:ByteArray)(h:sep.size=1):Fun false Tryz.prog 32 [D.s s,D.s sep] (fun d=>d=D.i (zbj s sep)):=by
 have:=Fun.of_same (vs:= [.string s,.string ⟨#[sepOf sep]⟩]) (Tryz.strings_Index_one s (sepOf sep))
 rw [<- one_byte h]at this
 exact this
theorem len_c (n:Int)(h0:0<=n)(h1:n<=18446744073709551615):Fun false Tryz.prog 161 [D.k .u64 n] (fun d=>d=D.i (lenF n)):=Fun.of_same (vs:= [.int .u64 n]) (fun w=>Tryz.bits_Len n w h0 h1)
theorem itoa_c (n:Int)(h0: -9223372036854775808<=n)(h1:n<=9223372036854775807):Fun false Tryz.prog 103 [D.i n] (fun d=>d=D.s (itoaF n)):=by
 intro A w us hb ho hg hv
 cases hv with
 | cons h2 h3=>
   cases h2; cases h3
   refine(Tryz.strconv_Itoa n h0 h1 w (tab_of_glob hg)).mono ?_
   rintro e w' ⟨rfl,k,os,rfl⟩
   exact⟨_,_,rfl,rfl,.v _,ext_grow w k os⟩
theorem mul64_c (a b:Int)(h0:0<=a)(h1:a<=18446744073709551615)(h2:0<=b)(h3:b<=18446744073709551615):Fun false Tryz.prog 237 [D.k .u64 a,D.k .u64 b] (fun d=>d= .tup [D.k .u64 (mul64F a b).1,D.k .u64 (mul64F a b).2]):=by
 obtain⟨x,rfl⟩:=Int.eq_ofNat_of_zero_le h0
 obtain⟨y,rfl⟩:=Int.eq_ofNat_of_zero_le h2
 intro A w us hb ho hg hv
 cases hv with
 | cons k2 k3=>
   cases k2
   cases k3 with
   | cons k4 k5=>
     cases k4; cases k5
     refine(Tryz.bits_Mul64 x y (by omega) (by omega) w).mono ?_
     rintro e w' ⟨rfl,rfl⟩
     refine⟨_,_,rfl,rfl,.tup (.cons ?_ (.cons ?_ .nil)),Ext.refl _ _⟩
     · have:((x*y / 18446744073709551616:Nat):Int)=(mul64F (x:Int) (y:Int)).1:=by simp [mul64F]
       rw [this]; exact .v _
     · have:((x*y % 18446744073709551616:Nat):Int)=(mul64F (x:Int) (y:Int)).2:=by simp [mul64F]
       rw [this]; exact .v _
end Go.Lic
set_option linter.all false
namespace Go.Lic
variable [Fl]
def entsK {U T:Type}(kf:U->Value)(vf:T->Value):Nat->List (U×T)->List MapEntry
 |_,[]=> []
 |n,p::l=> {key:=kf p.1,val:=vf p.2,born:=n}::entsK kf vf (n+1) l
def mapK {U T:Type}(kf:U->Value)(vf:T->Value)(l:List (U×T)):Obj:= .map (entsK kf vf 0 l).toArray l.length
section
variable {U T:Type} [DecidableEq U]
def kget (d:T):List (U×T)->U->T
 | [],_=>d
 |p::l,k=>if p.1=k then p.2 else kget d l k
def kset :List (U×T)->U->T->List (U×T)
 | [],k,v=> [(k,v)]
 |p::l,k,v=>if p.1=k then(k,v)::l else p::kset l k v
def kfind :List (U×T)->U->Nat->Option (Nat×T)
 | [],_,_=>none
 |p::l,k,i=>if p.1=k then some (i,p.2)else kfind l k (i+1)
end
structure KeyT (P:Program)(kt:TypeId){U:Type} [DecidableEq U](kf:U->Value):Prop where
 find:∀(w:World) (k:U) (T:Type) (vf:T->Value) (l:List (U×T)) (n:Nat),(Instr.findKey kt (kf k) (entsK kf vf n l)).run P w= .ok ((kfind l k 0).map fun q=>(q.1,vf q.2)) w
 check:∀(w:World) (b:Bool) (k:U),(Instr.checkKey b 10000 kt (kf k)).run P w= .ok () w
 same:∀ k:U,Instr.sameBits 10000 (kf k) (kf k)=true
section
variable {P:Program}{kt:TypeId}{U T:Type} [DecidableEq U]{kf:U->Value}{vf:T->Value}
theorem findAsking_ents (heq:∀(w:World) (a b:U),(Op.equal kt (kf a) (kf b)).run P w= .ok (decide (a=b)) w)(w:World)(k:U):∀(l:List (U×T)) (n i:Nat),(Instr.findAsking kt (kf k) (entsK kf vf n l) i).run P w= .ok ((kfind l k i).map fun q=>(q.1,vf q.2)) w
 | [],_,_=>by simp [entsK,Instr.findAsking,kfind,Sem.run_pure]
 | p ::l,n,i=>by
   simp only [entsK,Instr.findAsking,Sem.run_bind,heq,Result.andThen_ok,kfind]
   by_cases h:p.1=k
   · simp [h,Sem.run_pure]
   · have h2:¬k=p.1:=fun e=>h e.symm
     simp only [h2,decide_false,Bool.false_eq_true,if_false,if_neg h]
     exact findAsking_ents heq w k l (n+1) (i+1)
theorem KeyT.asking {d:TypeDesc}(ht:P.underlying kt=some d)(hn:∀ a b:U,Instr.sameNow d (kf a) (kf b)=none)(heq:∀(w:World) (a b:U),(Op.equal kt (kf a) (kf b)).run P w= .ok (decide (a=b)) w)
   (hc:∀(w:World) (b:Bool) (k:U),(Instr.checkKey b 10000 kt (kf k)).run P w= .ok () w) (hs:∀ k:U,Instr.sameBits 10000 (kf k) (kf k)=true):KeyT P kt kf:=
 ⟨fun w k T vf l n=>by
   simp only [Instr.findKey,Sem.run_bind,run_underlying ht,Result.andThen_ok]
   cases l with
   |nil=>simp [entsK,Instr.findNow,kfind,Sem.run_pure]
   | cons p l=>
     have e:Instr.findNow d (kf k) (entsK kf vf n (p::l)) 0=none:=by simp only [entsK,Instr.findNow,hn]
     rw [e]
     exact findAsking_ents heq w k (p::l) n 0,hc,hs⟩
theorem kfind_get (d:T)(k:U):∀(l:List (U×T)) (i:Nat),kget d l k=((kfind l k i).map (·.2)).getD d
 | [],_=>rfl
 | p::l,i=>by
   simp only [kget,kfind]
   split
   · rfl
   · exact kfind_get d k l (i+1)
theorem entsK_length :∀(l:List (U×T)) (n:Nat),(entsK kf vf n l).length=l.length
 | [],_=>rfl
 |p::l,n=>by simp [entsK,entsK_length l (n+1)]
theorem kset_none {k:U}{v:T}:∀ {l:List (U×T)} {i:Nat},kfind l k i=none->∀ n,entsK kf vf n (kset l k v)=entsK kf vf n l++ [{key:=kf k,val:=vf v,born:=n+l.length}]/\(kset l k v).length=l.length+1
 | [],_,_,n=>by simp [kset,entsK]
 | p ::l,i,h,n=>by
   simp only [kfind]at h
   split at h
   · cases h
   · next hp=>
     obtain⟨h1,h2⟩:=kset_none (v:=v) h (n+1)
     simp only [kset,if_neg hp,entsK,h1,List.cons_append,List.length_cons,h2]
     refine⟨?_,trivial⟩
     congr 3
     simp; omega
theorem kset_some {k:U}{v:T}:∀ {l:List (U×T)} {i j:Nat} {u:T},kfind l k i=some (j,u)->∀ n,i<=j/\entsK kf vf n (kset l k v)=(entsK kf vf n l).modify (j-i) (fun e=> {e with key:=kf k,val:=vf v})/\(kset l k v).length=l.length/\((entsK kf vf n l)[j-i]?).map (·.key)=some (kf k)
 | [],_,_,_,h,_=>by cases h
 | p ::l,i,j,u,h,n=>by
   simp only [kfind]at h
   split at h
   · next hp=>
     cases h
     simp [kset,hp,entsK]
   · next hp=>
     obtain⟨h0,h1,h2,h3⟩:=kset_some (v:=v) h (n+1)
     have e:j-i=(j-(i+1))+1:=by omega
     refine⟨by omega,?_,?_,?_⟩
     · simp only [kset,if_neg hp,entsK,h1,e,List.modify_succ_cons]
     · simp only [kset,if_neg hp,List.length_cons,h2]
     · rw [e]; simpa [entsK]using h3
end
theorem entsK_mem {U T:Type}{kf:U->Value}{vf:T->Value}:∀ {l:List (U×T)} {n:Nat} {e:MapEntry},e∈entsK kf vf n l->∃ k,∃ h:k<l.length,e= {key:=kf (l[k]).1,val:=vf (l[k]).2,born:=n+k}
 | [],_,_,h=>by cases h
 | p ::l,n,e,h=>by
   rcases List.mem_cons.1 h with rfl|h
   · exact⟨0,by simp,by simp⟩
   · obtain⟨k,hk,rfl⟩:=entsK_mem h
     exact⟨k+1,by simpa using hk,by simp; omega⟩
theorem entsK_at {U T:Type}(kf:U->Value)(vf:T->Value):∀ {l:List (U×T)} (n:Nat) {k:Nat} (h:k<l.length),{key:=kf (l[k]).1,val:=vf (l[k]).2,born:=n+k}∈entsK kf vf n l
 |p::l,n,0,_=>by simp [entsK]
 | p::l,n,k+1,h=>by
   have:=entsK_at kf vf (l:=l) (n+1) (k:=k) (by simpa using h)
   simp only [entsK,List.mem_cons,List.getElem_cons_succ]
   right
   rw [show n+(k+1)=n+1+k by omega]; exact this
theorem entsK_born {U T:Type}(kf:U->Value)(vf:T->Value):∀(l:List (U×T)) (n:Nat),((entsK kf vf n l).map (·.born)).Nodup/\∀ b∈(entsK kf vf n l).map (·.born),n<=b
 | [],_=>⟨.nil,fun _ h=>by cases h⟩
 | p::l,n=>by
   obtain⟨h1,h2⟩:=entsK_born kf vf l (n+1)
   simp only [entsK,List.map_cons]
   refine⟨List.nodup_cons.2 ⟨fun hx=>by have:=h2 _ hx; omega,h1⟩,fun b hb=>?_⟩
   rcases List.mem_cons.1 hb with rfl|hb
   · omega
   · have:=h2 b hb; omega
section
variable {P:Program}{o:Oper}{fr:Nat->D}{h:zbb}{K:D->zbb->Prop}{U T:Type} [DecidableEq U]{kf:U->Value}{vf:T->Value}{kd:U->D}{vd:T->D}
def PlainK {U:Type}(kd:U->D)(kf:U->Value):Prop:=∀(w:World) (X:Nat->Prop) (k:U),V w X (kd k) (kf k)/\∀ v,V w X (kd k) v->v=kf k
theorem OpA.makeMapK {t:TypeId}(kf:U->Value)(vf:T->Value)(ho:o.op= .makeMap t none)(hk:∀ c,K (.map c) ((c,.raw (mapK kf vf []))::h)):OpA P o fr h K:=
 .of_run fun A M w0 ac w hr hv=>by
   obtain⟨_,h5,h6⟩:=hr.allocRaw (mapK kf vf [])
   refine⟨.map (some w.heap.size),_,_,_,?_,hk (2*w.heap.size),h5,h6,?_⟩
   · simp only [execOp,ho,Option.map_none,Instr.makeMap,Sem.run_bind,Sem.run_pure,Result.andThen_ok,run_newObj]
     rfl
   · have:=V.map (w:=w.alloc (mapK kf vf [])) (X:=XX A ((2*w.heap.size,.raw (mapK kf vf []))::h)) (c:=2*w.heap.size) (by omega)
     rwa [show 2*w.heap.size / 2=w.heap.size from by omega]at this
theorem OpA.mapGetK {mt kt et:TypeId}{x y:Operand}{c:Nat}{k:U}{l:List (U×T)}(d:T)(hK:KeyT P kt kf)(hkd:PlainK kd kf)(hvd:PlainK vd vf)(ho:o.op= .lookup mt x y false)(ht:P.underlying mt=some (.map kt et))(hzi:(P.info? et).bind (·.zero)=some (vf d))
   (hx:ev fr x= .map c) (hy:ev fr y=kd k) (hh:Has c (.raw (mapK kf vf l)) h) (hk:K (vd (kget d l k)) h):OpA P o fr h K:=
 .of_run fun A M w0 ac w hr hv=>by
   obtain⟨i0,hi0,hi1⟩:=Option.bind_eq_some_iff.1 hzi
   have hz:∀ w,(zeroValue et).run P w= .ok (vf d) w:=fun w=>by simp [zeroValue,typeInfo,hi0,hi1]
   have h1:=hv x (by simp [ho,Op.operands])
   have h2:=hv y (by simp [ho,Op.operands])
   rw [hx]at h1; rw [hy]at h2
   have hu2:=(hkd _ _ _).2 _ h2
   generalize hu:ac.eval x=u at h1
   cases h1 with
   | map hc=>
     obtain⟨_,hb⟩:=hr.blk _ _ hh.mem
     refine⟨vf (kget d l k),w,_,_,?_,hk,hr,Mono.refl _ _,(hvd _ _ _).1⟩
     have hb':w.heap[c / 2]? =some (.map (entsK kf vf 0 l).toArray l.length):=hb
     simp only [execOp,ho,hu,hu2,Instr.lookup,Sem.run_bind,run_underlying ht,Result.andThen_ok,getObj,Sem.run,hb',hK.check,hK.find,Sem.run_pure,Result.andThen]
     rw [kfind_get d k l 0]
     cases kfind l k 0 with
     |none=>simp only [Option.map_none,Option.getD_none,Sem.run_bind,hz,Result.andThen_ok,Sem.run_pure]; rfl
     |some q=>simp only [Option.map_some,Option.getD_some,Sem.run_pure,Result.andThen_ok]; rfl
theorem OpA.mapSetK {mt kt et:TypeId}{x y z:Operand}{c:Nat}{k:U}{l:List (U×T)}{v:T}{h':zbb}(hK:KeyT P kt kf)(hkd:PlainK kd kf)(hvd:PlainK vd vf)(ho:o.op= .mapUpdate mt x y z)(ht:P.underlying mt=some (.map kt et))
   (hx:ev fr x= .map c) (hy:ev fr y=kd k) (hz:ev fr z=vd v) (hh:Repl c (.raw (mapK kf vf l)) c (.raw (mapK kf vf (kset l k v))) h h') (hk:K (.v undef) h'):OpA P o fr h K:=
 .of_skip fun A M w0 ac w hr hv=>by
   have h1:=hv x (by simp [ho,Op.operands])
   have h2:=hv y (by simp [ho,Op.operands])
   have h3:=hv z (by simp [ho,Op.operands])
   rw [hx]at h1; rw [hy]at h2; rw [hz]at h3
   have hu2:=(hkd _ _ _).2 _ h2
   have hu3:=(hvd _ _ _).2 _ h3
   generalize hu:ac.eval x=u at h1
   cases h1 with
   | map hc=>
     obtain⟨_,hb⟩:=hr.blk _ _ hh.has.mem
     have hlt:c / 2<w.heap.size:=(Array.getElem?_eq_some_iff.1 hb).1
     have hb':w.heap[c / 2]? =some (.map (entsK kf vf 0 l).toArray l.length):=hb
     obtain⟨h5,h6⟩:=hr.setRaw hh hc (w':= {w with heap:=w.heap.setIfInBounds (c / 2) (mapK kf vf (kset l k v))}) (by simp [hlt]) (by simp) (fun b hb=>by simp [Array.getElem?_setIfInBounds,Ne.symm hb]) (by
       have e1:w.shape? (c / 2)=none:=by unfold World.shape?; rw [hb']
       rw [e1]; unfold World.shape?; simp [hlt,mapK]) rfl rfl ⟨rfl,rfl⟩
     have eg:(getObj (c / 2)).run P w= .ok (.map (entsK kf vf 0 l).toArray l.length) w:=by simp [getObj,Sem.run,hb']
     have es:∀ o,(setObj (c / 2) o).run P w= .ok () {w with heap:=w.heap.setIfInBounds (c / 2) o}:=fun o=>by simp [setObj,Sem.run,hb']
     refine⟨_,_,?_,hk,h5,h6⟩
     simp only [execOp,ho,hu,hu2,hu3,Instr.mapUpdate,Sem.run_bind,run_underlying ht,Result.andThen_ok,eg,hK.check,hK.find]
     cases hf:kfind l k 0 with
     | none=>
       obtain⟨e1,e2⟩:=kset_none (kf:=kf) (vf:=vf) (v:=v) hf 0
       simp only [Option.map_none,es,Result.andThen_ok]
       simp [mapK,e1,e2]
     | some q=>
       obtain⟨j,u⟩:=q
       obtain⟨_,e1,e2,e3⟩:=kset_some (kf:=kf) (vf:=vf) (v:=v) hf 0
       simp only [Nat.sub_zero]at e1 e3
       have e4:((entsK kf vf 0 l).toArray[j]?).map (·.key)=some (kf k):=by simpa using e3
       simp only [Option.map_some,e4,Option.getD_some,Instr.keyThatStays,hK.same,Sem.run_bind,es]
       simp [mapK,e1,e2,es]
theorem OpA.rangeMapK {t kt et:TypeId}{x:Operand}{cm:Nat}{l:List (U×T)}(ho:o.op= .range t x)(ht:P.underlying t=some (.map kt et))(hx:ev fr x= .map cm)(hm:Has cm (.raw (mapK kf vf l)) h)
   (hk:∀ c,K (.ptr c 1 0 0) ((c,.raw (itO cm l.length []))::h)):OpA P o fr h K:=
 .of_run fun A M w0 ac w hr hv=>by
   have h1:=hv x (by simp [ho,Op.operands])
   rw [hx]at h1
   generalize hu:ac.eval x=u at h1
   cases h1 with
   | map hc=>
     obtain⟨_,hb⟩:=hr.blk _ _ hm.mem
     have hb':w.heap[cm / 2]? =some (.map (entsK kf vf 0 l).toArray l.length):=hb
     obtain⟨_,h5,h6⟩:=hr.allocRaw (itO cm l.length [])
     refine⟨.pointer (some ⟨w.heap.size,0,none⟩),_,_,_,?_,hk (2*w.heap.size),h5,h6,?_⟩
     · simp only [execOp,ho,hu,Sem.run_bind,run_range_map w t kt et (cm / 2) _ _ ht hb',Result.andThen_ok,Sem.run_pure]
       rfl
     · have:=V.ptr (w:=w.alloc (itO cm l.length [])) (X:=XX A ((2*w.heap.size,.raw (itO cm l.length []))::h)) (c:=2*w.heap.size) (sz:=1) (i:=0) (k:=0) (by omega)
       rwa [show 2*w.heap.size / 2=w.heap.size from by omega]at this
theorem OpA.nextMapK [Inhabited U] [Inhabited T]{x:Operand}{c cm:Nat}{l:List (U×T)}{seen:List Nat}{h':Nat->zbb}(hkd:PlainK kd kf)(hvd:PlainK vd vf)(ho:o.op= .next x false)(hx:ev fr x= .ptr c 1 0 0)(hm:Has cm (.raw (mapK kf vf l)) h)
   (hrepl:∀ k,Repl c (.raw (itO cm l.length seen)) c (.raw (itO cm l.length (seen++ [k]))) h (h' k)) (hover:(∀ k:Nat,k<l.length->k∈seen)->K (.tup [.b false]) h)
   (hnext:∀ k:Nat,k<l.length->k ∉ seen->K (.tup [.b true,kd (gi l (k:Int)).1,vd (gi l (k:Int)).2]) (h' k)):OpA P o fr h K:=
 .of_run fun A M w0 ac w hr hv=>by
   have h1:=hv x (by simp [ho,Op.operands])
   rw [hx]at h1
   generalize hu:ac.eval x=u at h1
   cases h1 with
   | ptr hc=>
     obtain⟨hcm,hb⟩:=hr.blk _ _ hm.mem
     have hb':w.heap[cm / 2]? =some (.map (entsK kf vf 0 l).toArray l.length):=hb
     obtain⟨_,hi⟩:=hr.blk _ _ (hrepl 0).has.mem
     have hi':w.heap[c / 2]? =some (.mapIter (some (cm / 2)) l.length seen.toArray l.length):=hi
     have e0:0*1+0=0:=rfl
     rcases run_next_at (P:=P) w o.type (c / 2) (cm / 2) l.length l.length seen.toArray _ _ hi' hb' (fun e he=>by
       obtain⟨k,hk,rfl⟩:=entsK_mem (by simpa using he)
       simpa using hk) (Nat.le_refl _)with⟨g1,g2⟩|⟨e,g1,w1,g2,g3⟩
     · refine⟨.tuple #[.bool false],w,_,_,?_,hover (fun k hk=>?_),hr,Mono.refl _ _,.tup (.cons (.v _) .nil)⟩
       · simp only [execOp,ho,hu,e0,Sem.run_bind,g2,Result.andThen_ok,Sem.run_pure]
       · have:=entsK_at kf vf (l:=l) 0 hk
         have hz:Go.leftOf (entsK kf vf 0 l).toArray seen.toArray= #[]:=Array.eq_empty_of_size_eq_zero g1
         unfold Go.leftOf at hz
         rw [Array.filter_eq_empty_iff]at hz
         have:=hz _ (by simpa using this)
         simpa using this
     · unfold Go.leftOf at g1
       have g1':e∈entsK kf vf 0 l/\e.born ∉ seen:=by
         have:=g1
         simp only [Array.toList_filter,List.mem_filter,Bool.not_eq_true',List.contains_toArray]at this
         simpa using this
       obtain⟨k,hk,rfl⟩:=entsK_mem g1'.1
       have hkn:k ∉ seen:=by simpa using g1'.2
       obtain⟨q1,m1⟩:HRel A M w0 h w1/\Mono w (XX A h) w1 (XX A h):=by
         rcases g2 with rfl|rfl
         · exact⟨hr,Mono.refl _ _⟩
         · exact hr.quiet (w':=w.drew) rfl rfl rfl rfl (Nat.le_succ _)
       have hi1:w1.heap[c / 2]? =some (.mapIter (some (cm / 2)) l.length seen.toArray l.length):=by rcases g2 with rfl|rfl<;>exact hi'
       have hlt1:c / 2<w1.heap.size:=(Array.getElem?_eq_some_iff.1 hi1).1
       obtain⟨h5,h6⟩:=q1.setRaw (hrepl k) hc (w':= {w1 with heap:=w1.heap.setIfInBounds (c / 2) (itO cm l.length (seen++ [k]))}) (by simp [hlt1]) (by simp) (fun b hb=>by simp [Array.getElem?_setIfInBounds,Ne.symm hb]) (by
         have e1:w1.shape? (c / 2)=none:=by unfold World.shape?; rw [hi1]
         rw [e1]; unfold World.shape?; simp [hlt1,itO]) rfl rfl ⟨rfl,rfl⟩
       have hn2:=hnext k hk hkn
       rw [gi_nat hk]at hn2
       refine⟨.tuple #[.bool true,kf (l[k]).1,vf (l[k]).2],_,_,_,?_,hn2,h5,m1.trans h6,.tup (.cons (.v _) (.cons (hkd _ _ _).1 (.cons (hvd _ _ _).1 .nil)))⟩
       simp only [execOp,ho,hu,e0,Sem.run_bind,g3,Result.andThen_ok,Sem.run_pure]
       simp [ChangeMaps.setBlock,itO]
theorem OpA.entryK [Inhabited U] [Inhabited T]{x:Operand}{c cm:Nat}{l:List (U×T)}{seen:List Nat}{k:Nat}(hkd:PlainK kd kf)(hvd:PlainK vd vf)(ho:o.op= .entry x)(hx:ev fr x= .ptr c 1 0 0)(hm:Has cm (.raw (mapK kf vf l)) h)(hi:Has c (.raw (itO cm l.length (seen++ [k]))) h)(hk0:k<l.length)
   (hk:K (.tup [kd (gi l (k:Int)).1,vd (gi l (k:Int)).2]) h):OpA P o fr h K:=
 .of_run fun A M w0 ac w hr hv=>by
   have h1:=hv x (by simp [ho,Op.operands])
   rw [hx]at h1
   generalize hu:ac.eval x=u at h1
   cases h1 with
   | ptr hc=>
     obtain⟨hcm,hb⟩:=hr.blk _ _ hm.mem
     have hb':w.heap[cm / 2]? =some (.map (entsK kf vf 0 l).toArray l.length):=hb
     obtain⟨_,hi1⟩:=hr.blk _ _ hi.mem
     have hi':w.heap[c / 2]? =some (.mapIter (some (cm / 2)) l.length (seen.toArray.push k) l.length):=by rw [hi1]; simp [itO]
     have e0:0*1+0=0:=rfl
     rw [gi_nat hk0]at hk
     have he:=entsK_at kf vf (l:=l) 0 hk0
     rw [Nat.zero_add]at he
     have hrun:=run_entry_at (P:=P) w (c / 2) (cm / 2) l.length seen.toArray (entsK kf vf 0 l).toArray l.length {key:=kf (l[k]).1,val:=vf (l[k]).2,born:=k} hi' hb' (by simpa using he) (by simpa using(entsK_born kf vf l 0).1)
     refine⟨.tuple #[kf (l[k]).1,vf (l[k]).2],w,_,_,?_,hk,hr,Mono.refl _ _,.tup (.cons (hkd _ _ _).1 (.cons (hvd _ _ _).1 .nil))⟩
     simp only [execOp,ho,hu,e0,Sem.run_bind,hrun,Result.andThen_ok,Sem.run_pure]
theorem OpA.mlenK {t kt et:TypeId}{c:Call}{x:Operand}{cm:Nat}{l:List (U×T)}(ho:o.op= .call c)(hc:c.callee= .builtin .len)(ha:c.args= #[x])(hty:c.argTypes= #[t])(ht:P.underlying t=some (.map kt et))
   (hx:ev fr x= .map cm) (hm:Has cm (.raw (mapK kf vf l)) h) (hk:K (.i l.length) h):OpA P o fr h K:=
 .of_run fun A M w0 ac w hr hv=>by
   have h1:=hv x (by simp [ho,Op.operands,Call.operands,hc,ha])
   rw [hx]at h1
   generalize hu:ac.eval x=u at h1
   cases h1 with
   | map hc2=>
     obtain⟨_,hb⟩:=hr.blk _ _ hm.mem
     have hb':w.heap[cm / 2]? =some (.map (entsK kf vf 0 l).toArray l.length):=hb
     refine⟨.int .i64 l.length,w,_,_,?_,hk,hr,Mono.refl _ _,.v _⟩
     simp [execOp,ho,hc,resolve,invoke,builtin,Builtin.len_,hty,ha,hu,run_underlying ht,goInt,getObj,Sem.run,hb',entsK_length,Result.andThen]
end
end Go.Lic
