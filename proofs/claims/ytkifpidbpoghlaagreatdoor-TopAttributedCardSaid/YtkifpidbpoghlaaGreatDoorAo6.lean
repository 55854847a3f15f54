/-
  The conditions of functions of attributions, printed from their code.
-/
import Derived.Test.YtkifpidbpoghlaaGreatDoorCo0
import Derived.Test.YtkifpidbpoghlaaGreatDoorTl
import Derived.Test.YtkifpidbpoghlaaGreatDoorAo3
import Derived.Test.YtkifpidbpoghlaaGreatDoorKv
import Derived.Lib.IndexLaws
import Derived.Test.YtkifpidbpoghlaaGreatDoorV1
set_option linter.all false
namespace Go.Lic
open Go.Proofs Go.Sort
def cmpInts_L1 (s1:(List Int))(s2:(List Int))(Q:Int->Prop)(again1:Int->Prop)(x:Int):Prop:=
 ((x<(s1.length:Int)->(inL x s1.length/\((x>=(s2.length:Int)->Q 1)/\(¬ x>=(s2.length:Int)->(inL x s2.length/\((¬(cmpI (gi s1 x) (gi s2 x))=0->Q (cmpI (gi s1 x) (gi s2 x)))/\((cmpI (gi s1 x) (gi s2 x))=0->(inI (x+1)/\again1 (x+1)))))))))/\(¬ x<(s1.length:Int)->(((s1.length:Int)<(s2.length:Int)->Q (-1))/\(¬(s1.length:Int)<(s2.length:Int)->Q 0))))
def cmpInts_vc (s1:(List Int))(s2:(List Int))(Q:Int->Prop):Prop:=
 lfp (S:=Int) (fun again1 ss=>cmpInts_L1 s1 s2 Q again1 ss) 0
def tvalid_vc (c:Corpus)(t:Text)(Q:Bool->Prop):Prop:=
 (okC c/\((checkF c)=0->okT t)/\Q (((checkF c)==0)&&(zbi t)))
def tsame_L1 (words:(List Lexeme))(known:(List Lexeme))(at_:Int)(Q:Bool->Prop)(again2:Int->Prop)(x:Int):Prop:=
 ((x<(words.length:Int)->(inL x words.length/\(inI (at_+x)/\inL (at_+x) known.length/\((¬(gi known (at_+x)).text=(gi words x).text->Q false)/\((gi known (at_+x)).text=(gi words x).text->(inI (x+1)/\again2 (x+1)))))))/\(¬ x<(words.length:Int)->Q true))
def tsame_vc (words:(List Lexeme))(known:(List Lexeme))(at_:Int)(Q:Bool->Prop):Prop:=
 (((¬ at_<0/\¬(words.length:Int)>(known.length:Int))->inI ((known.length:Int)-(words.length:Int)))/\((((at_<0\/(words.length:Int)>(known.length:Int))\/at_>((known.length:Int)-(words.length:Int)))->Q false)/\(((¬ at_<0/\¬(words.length:Int)>(known.length:Int))/\¬at_>((known.length:Int)-(words.length:Int)))->lfp (S:=Int) (fun again2 ss=>tsame_L1 words known at_ Q again2 ss) 0)))
def tafter_vc (v:(Int×Int))(n:Int)(Q:(Int×Int)->Prop):Prop:=
 (inI (v.1+n)/\inI (v.2-1)/\Q ((v.1+n),(v.2-1)))
def tbetter_vc (a:(Int×Int))(b:(Int×Int))(Q:(Int×Int)->Prop):Prop:=
 (([a.1,a.2]:List Int).length<=1000000/\([b.1,b.2]:List Int).length<=1000000/\(((cmpL ([a.1,a.2]:List Int) ([b.1,b.2]:List Int))>=0->Q a)/\(¬(cmpL ([a.1,a.2]:List Int) ([b.1,b.2]:List Int))>=0->Q b)))
def tlongest_J1 (ix:Int)(xs4:(List Int))(x1:Int)(again12:(List Int)×(List Int)×Int->Prop)(xs5:(List Int)):Prop:=
 (inL ix xs4.length/\inL x1 xs5.length/\(inI (x1+1)/\again12 (xs5,(si xs4 ix (gmax (gi xs4 ix) [(gi xs5 x1)])),(x1+1))))
def tlongest_L3 (c:Corpus)(t:Text)(x:Int)(ix:Int)(again10:((List Int)×(List Int))×Int->Prop)(again12:(List Int)×(List Int)×Int->Prop)(xs3:(List Int))(xs4:(List Int))(x1:Int):Prop:=
 ((x1<(((gi c.texts x).words).length:Int)->(inL x1 ((gi c.texts x).words).length/\(((gi ((gi c.texts x).words) x1).text=(gi t.words ix).text->(inI (x1+1)/\inL (x1+1) xs3.length/\inI ((gi xs3 (x1+1))+1)/\inL x1 xs3.length/\tlongest_J1 ix xs4 x1 again12 (si xs3 x1 ((gi xs3 (x1+1))+1))))/\(¬(gi ((gi c.texts x).words) x1).text=(gi t.words ix).text->(inL x1 xs3.length/\tlongest_J1 ix xs4 x1 again12 (si xs3 x1 0))))))/\(¬ x1<(((gi c.texts x).words).length:Int)->again10 ((xs3,xs4),(ix-1))))
def tlongest_L2 (c:Corpus)(t:Text)(x:Int)(again5:(List Int)×Int->Prop)(again10:((List Int)×(List Int))×Int->Prop)(xs1:(List Int))(xs2:(List Int))(ix:Int):Prop:=
 ((0<=ix->lfp (S:=(List Int)×(List Int)×Int) (fun again12 ss=>tlongest_L3 c t x ix again10 again12 ss.1 ss.2.1 ss.2.2) (xs1,xs2,0))/\(¬ 0<=ix->(inI (x+1)/\again5 (xs2,(x+1)))))
def tlongest_L1 (c:Corpus)(t:Text)(Q:(List Int)->Prop)(again5:(List Int)×Int->Prop)(xs:(List Int))(x:Int):Prop:=
 ((x<(c.texts.length:Int)->(inL x c.texts.length/\(inI ((((gi c.texts x).words).length:Int)+1)/\(((0:Int)<=((((gi c.texts x).words).length:Int)+1)/\(((((gi c.texts x).words).length:Int)+1):Int)<=((((gi c.texts x).words).length:Int)+1))/\(8:Int)*((((gi c.texts x).words).length:Int)+1)<=281474976710656/\(((((gi c.texts x).words).length:Int)+1):Int)<=9223372036854775807)/\(t.words.length<=9223372036854775807/\gfp (S:=((List Int)×(List Int))×Int) (fun again10 ss=>tlongest_L2 c t x again5 again10 ss.1.1 ss.1.2 ss.2) (((List.replicate (Int.toNat ((((gi c.texts x).words).length:Int)+1)) (0:Int)),xs),((t.words.length:Int)-1))))))/\(¬ x<(c.texts.length:Int)->Q xs))
def tlongest_vc (c:Corpus)(t:Text)(Q:(List Int)->Prop):Prop:=
 ((((0:Int)<=(t.words.length:Int)/\((t.words.length:Int):Int)<=(t.words.length:Int))/\(8:Int)*(t.words.length:Int)<=281474976710656/\((t.words.length:Int):Int)<=9223372036854775807)/\lfp (S:=(List Int)×Int) (fun again5 ss=>tlongest_L1 c t Q again5 ss.1 ss.2) ((List.replicate (Int.toNat (t.words.length:Int)) (0:Int)),0))
def tsource_L2 (c:Corpus)(words:(List Lexeme))(x:Int)(Q:Int×Int->Prop)(again2:Int->Prop)(again5:Int->Prop)(x1:Int):Prop:=
 ((x1<(((gi c.texts x).words).length:Int)->(words.length<=1000000/\((gi c.texts x).words).length<=1000000/\(((sameF words ((gi c.texts x).words) x1)=true->Q (x,x1))/\((sameF words ((gi c.texts x).words) x1)=false->(inI (x1+1)/\again5 (x1+1))))))/\(¬ x1<(((gi c.texts x).words).length:Int)->(inI (x+1)/\again2 (x+1))))
def tsource_L1 (c:Corpus)(words:(List Lexeme))(Q:Int×Int->Prop)(again2:Int->Prop)(x:Int):Prop:=
 ((x<(c.texts.length:Int)->(inL x c.texts.length/\lfp (S:=Int) (fun again5 ss=>tsource_L2 c words x Q again2 again5 ss) 0))/\(¬ x<(c.texts.length:Int)->Q (0,0)))
def tsource_vc (c:Corpus)(words:(List Lexeme))(Q:Int×Int->Prop):Prop:=
 lfp (S:=Int) (fun again2 ss=>tsource_L1 c words Q again2 ss) 0
def tof_L2 (c:Corpus)(t:Text)(ix:Int)(again10:((List (Int×Int)))×Int->Prop)(again11:(List (Int×Int))×Int->Prop)(xs1:(List (Int×Int)))(k:Int):Prop:=
 (inL ix (longAF c t).length/\((k<=(gi (longAF c t) ix)->(inL ix xs1.length/\inI (ix+k)/\inL (ix+k) xs1.length/\inI ((gi xs1 (ix+k)).1+k)/\inI ((gi xs1 (ix+k)).2-1)/\(inI (k+1)/\again11 ((si xs1 ix (betterP (gi xs1 ix) (afterP (gi xs1 (ix+k)) k))),(k+1)))))/\(¬ k<=(gi (longAF c t) ix)->again10 (xs1,(ix-1)))))
def tof_L4 (c:Corpus)(t:Text)(least:Int)(xs:(List (Int×Int)))(xs2:(List Piece))(i:Int)(again15:(List Piece)×Int->Prop)(again17:Int->Prop)(k1:Int):Prop:=
 ((k1>=least->inI (i+k1)/\inL (i+k1) xs.length/\inI ((gi xs (i+k1)).1+k1)/\inI ((gi xs (i+k1)).2-1)/\inL i xs.length)/\(((k1>=least/\(aeq 2 ([(afterP (gi xs (i+k1)) k1).1,(afterP (gi xs (i+k1)) k1).2]:List Int) ([(gi xs i).1,(gi xs i).2]:List Int))=false)->(inI (k1-1)/\again17 (k1-1)))/\((¬ k1>=least\/(aeq 2 ([(afterP (gi xs (i+k1)) k1).1,(afterP (gi xs (i+k1)) k1).2]:List Int) ([(gi xs i).1,(gi xs i).2]:List Int))=true)->((k1<least->(inI (i+1)/\again15 (xs2,(i+1))))/\(¬ k1<least->(inI (i+k1)/\inS i (i+k1) t.words.length/\okC c/\(zbc t.words i (i+k1)).length<=1000000/\(inI (i+k1)/\((xs2.length+([(Piece.mk i (i+k1) ((srcF c (zbc t.words i (i+k1))).1) ((srcF c (zbc t.words i (i+k1))).2))]:List Piece).length)*32<=140737488355328/\xs2.length+([(Piece.mk i (i+k1) ((srcF c (zbc t.words i (i+k1))).1) ((srcF c (zbc t.words i (i+k1))).2))]:List Piece).length<=9223372036854775807)/\(inI (i+k1)/\again15 ((xs2++([(Piece.mk i (i+k1) ((srcF c (zbc t.words i (i+k1))).1) ((srcF c (zbc t.words i (i+k1))).2))]:List Piece)),(i+k1))))))))))
def tof_L3 (c:Corpus)(t:Text)(least:Int)(xs:(List (Int×Int)))(Q:Attribution×Int->Prop)(again15:(List Piece)×Int->Prop)(xs2:(List Piece))(i:Int):Prop:=
 ((i<(t.words.length:Int)->(inL i (longAF c t).length/\lfp (S:=Int) (fun again17 ss=>tof_L4 c t least xs xs2 i again15 again17 ss) (gi (longAF c t) i)))/\(¬ i<(t.words.length:Int)->Q ((Attribution.mk t.path xs2),0)))
def tof_L1 (c:Corpus)(t:Text)(least:Int)(Q:Attribution×Int->Prop)(again10:((List (Int×Int)))×Int->Prop)(xs:(List (Int×Int)))(ix:Int):Prop:=
 ((0<=ix->(inI (ix+1)/\inL (ix+1) xs.length/\inL ix xs.length/\lfp (S:=(List (Int×Int))×Int) (fun again11 ss=>tof_L2 c t ix again10 again11 ss.1 ss.2) ((si xs ix (gi xs (ix+1))),least)))/\(¬ 0<=ix->lfp (S:=(List Piece)×Int) (fun again15 ss=>tof_L3 c t least xs Q again15 ss.1 ss.2) (([]:List Piece),0)))
def tof_vc (c:Corpus)(t:Text)(least:Int)(Q:Attribution×Int->Prop):Prop:=
 (okC c/\okT t/\(((rightCT c t)=false->Q ((Attribution.mk ByteArray.empty []),1))/\((rightCT c t)=true->(((least<1\/least>8192)->Q ((Attribution.mk ByteArray.empty []),3))/\((¬ least<1/\¬least>8192)->(okC c/\okT t/\(inI ((t.words.length:Int)+1)/\(((0:Int)<=((t.words.length:Int)+1)/\(((t.words.length:Int)+1):Int)<=((t.words.length:Int)+1))/\(16:Int)*((t.words.length:Int)+1)<=281474976710656/\(((t.words.length:Int)+1):Int)<=9223372036854775807)/\(t.words.length<=9223372036854775807/\gfp (S:=((List (Int×Int)))×Int) (fun again10 ss=>tof_L1 c t least Q again10 ss.1 ss.2) ((List.replicate (Int.toNat ((t.words.length:Int)+1)) (0,0)),((t.words.length:Int)-1))))))))))
def tranged_vc (t:Text)(p:Piece)(Q:Bool->Prop):Prop:=
 Q (((decide (p.from_>=0))&&(decide (p.from_<p.to)))&&(decide (p.to<=(t.words.length:Int))))
def tcheck_L1 (c:Corpus)(t:Text)(least:Int)(a:Attribution)(Q:Int->Prop)(again7:Int×Int->Prop)(end_:Int)(x:Int):Prop:=
 ((x<(a.pieces.length:Int)->(inL x a.pieces.length/\(okT t/\((rangedF t (gi a.pieces x))=true->inI (((gi a.pieces x).to)-((gi a.pieces x).from_)))/\((((rangedF t (gi a.pieces x))=true/\¬(((gi a.pieces x).to)-((gi a.pieces x).from_))<least)/\((gi a.pieces x).text>=0/\(gi a.pieces x).text<(c.texts.length:Int)))->inS ((gi a.pieces x).from_) ((gi a.pieces x).to) t.words.length/\inL ((gi a.pieces x).text) c.texts.length/\(zbc t.words ((gi a.pieces x).from_) ((gi a.pieces x).to)).length<=1000000/\((gi c.texts ((gi a.pieces x).text)).words).length<=1000000)/\((((((rangedF t (gi a.pieces x))=false\/(((gi a.pieces x).to)-((gi a.pieces x).from_))<least)\/(¬(gi a.pieces x).text>=0\/¬(gi a.pieces x).text<(c.texts.length:Int)))\/(sameF (zbc t.words ((gi a.pieces x).from_) ((gi a.pieces x).to)) ((gi c.texts ((gi a.pieces x).text)).words) ((gi a.pieces x).at_))=false)->Q 18)/\(((((rangedF t (gi a.pieces x))=true/\¬(((gi a.pieces x).to)-((gi a.pieces x).from_))<least)/\((gi a.pieces x).text>=0/\(gi a.pieces x).text<(c.texts.length:Int)))/\(sameF (zbc t.words ((gi a.pieces x).from_) ((gi a.pieces x).to)) ((gi c.texts ((gi a.pieces x).text)).words) ((gi a.pieces x).at_))=true)->(((gi a.pieces x).from_<end_->Q 5)/\(¬(gi a.pieces x).from_<end_->(inI (x+1)/\again7 ((gi a.pieces x).to,(x+1))))))))))/\(¬ x<(a.pieces.length:Int)->Q 0))
def tcheck_vc (c:Corpus)(t:Text)(least:Int)(a:Attribution)(Q:Int->Prop):Prop:=
 (okC c/\okT t/\(((rightCT c t)=false->Q 1)/\((rightCT c t)=true->(((least<1\/least>8192)->Q 3)/\((¬ least<1/\¬least>8192)->((¬ a.path=t.path->Q 9)/\(a.path=t.path->lfp (S:=Int×Int) (fun again7 ss=>tcheck_L1 c t least a Q again7 ss.1 ss.2) (0,0))))))))
def tshare_L1 (a:Attribution)(Q:(List Int)×Int->Prop)(again7:(List Int)×Int->Prop)(out:(List Int))(x:Int):Prop:=
 ((x<(a.pieces.length:Int)->(inL x a.pieces.length/\(inL ((gi a.pieces x).text) out.length/\inI (((gi a.pieces x).to)-((gi a.pieces x).from_))/\inI ((gi out ((gi a.pieces x).text))+(((gi a.pieces x).to)-((gi a.pieces x).from_)))/\(inI (x+1)/\again7 ((si out ((gi a.pieces x).text) ((gi out ((gi a.pieces x).text))+(((gi a.pieces x).to)-((gi a.pieces x).from_)))),(x+1))))))/\(¬ x<(a.pieces.length:Int)->Q (out,0)))
def tshare_vc (c:Corpus)(t:Text)(a:Attribution)(Q:(List Int)×Int->Prop):Prop:=
 (okC c/\okT t/\(((rightCT c t)=false->Q ([],1))/\((rightCT c t)=true->(okC c/\okT t/\okA a/\((¬(checkA c t 1 a)=0->Q ([],18))/\((checkA c t 1 a)=0->((((0:Int)<=(c.texts.length:Int)/\((c.texts.length:Int):Int)<=(c.texts.length:Int))/\(8:Int)*(c.texts.length:Int)<=281474976710656/\((c.texts.length:Int):Int)<=9223372036854775807)/\lfp (S:=(List Int)×Int) (fun again7 ss=>tshare_L1 a Q again7 ss.1 ss.2) ((List.replicate (Int.toNat (c.texts.length:Int)) (0:Int)),0))))))))
def trest_L1 (to:Int)(t:Text)(e:Int)(Q:(List Line)->Prop)(again1:(List Line)×Int->Prop)(xs:(List Line))(x:Int):Prop:=
 ((x<((zbc t.words e to).length:Int)->(inL x (zbc t.words e to).length/\(((xs.length+([(Line.mk t.path ((gi (zbc t.words e to) x).line))]:List Line).length)*24<=140737488355328/\xs.length+([(Line.mk t.path ((gi (zbc t.words e to) x).line))]:List Line).length<=9223372036854775807)/\(inI (x+1)/\again1 ((xs++([(Line.mk t.path ((gi (zbc t.words e to) x).line))]:List Line)),(x+1))))))/\(¬ x<((zbc t.words e to).length:Int)->Q xs))
def trest_vc (to:Int)(t:Text)(e:Int)(l:(List Line))(Q:(List Line)->Prop):Prop:=
 (inS e to t.words.length/\lfp (S:=(List Line)×Int) (fun again1 ss=>trest_L1 to t e Q again1 ss.1 ss.2) (l,0))
def tunknown_L1 (t:Text)(a:Attribution)(Q:(List Span)×Int->Prop)(again8:(List Line)×Int×Int->Prop)(xs:(List Line))(end_:Int)(x:Int):Prop:=
 ((x<(a.pieces.length:Int)->(inL x a.pieces.length/\(okT t/\((((rangedF t (gi a.pieces x))=false\/(gi a.pieces x).from_<end_)->Q (([]:List Span),3))/\(((rangedF t (gi a.pieces x))=true/\¬(gi a.pieces x).from_<end_)->(inS end_ ((gi a.pieces x).from_) t.words.length/\xs.length+t.words.length<=1000000/\(inI (x+1)/\again8 ((xs++linesW t (zbc t.words end_ ((gi a.pieces x).from_))),(gi a.pieces x).to,(x+1)))))))))/\(¬ x<(a.pieces.length:Int)->(inS end_ (t.words.length:Int) t.words.length/\xs.length+t.words.length<=1000000/\((xs++linesW t (zbc t.words end_ (t.words.length:Int))).length<=1000000/\(∀ z_∈(xs++linesW t (zbc t.words end_ (t.words.length:Int))),z_.path.size<=1000000)/\Q ((ofF (xs++linesW t (zbc t.words end_ (t.words.length:Int)))).1,(ofF (xs++linesW t (zbc t.words end_ (t.words.length:Int)))).2)))))
def tunknown_vc (t:Text)(a:Attribution)(Q:(List Span)×Int->Prop):Prop:=
 (okT t/\(((zbi t)=false->Q (([]:List Span),1))/\((zbi t)=true->((¬ a.path=t.path->Q (([]:List Span),9))/\(a.path=t.path->lfp (S:=(List Line)×Int×Int) (fun again8 ss=>tunknown_L1 t a Q again8 ss.1 ss.2.1 ss.2.2) (([]:List Line),0,0))))))
end Go.Lic
set_option linter.all false
namespace Go.Lic
open Go.Proofs Go.Sort
def inPiece_vc (z:Clone)(y:Piece)(Q:Bool->Prop):Prop:=
 (((z.a=y.text/\z.atA<=y.at_)->inI (z.atA+z.len)/\inI (y.at_+y.to)/\inI ((y.at_+y.to)-y.from_))/\((((z.a=y.text/\z.atA<=y.at_)/\(z.atA+z.len)>=((y.at_+y.to)-y.from_))/\z.atB<=y.from_)->inI (y.from_-z.atB)/\inI (y.at_-z.atA))/\Q (((((z.a==y.text)&&(decide (z.atA<=y.at_)))&&(decide ((z.atA+z.len)>=((y.at_+y.to)-y.from_))))&&(decide (z.atB<=y.from_)))&&((y.from_-z.atB)==(y.at_-z.atA))))
def lawAttr_L3 (data:ByteArray)(text:ByteArray)(least:Int)(c:Corpus)(Q:Bool->Prop)(again23:Int×Int->Prop)(sum:Int)(x2:Int):Prop:=
 ((x2<(((shareF c ((zbe (⟨#[116]⟩:ByteArray) ((zbg ((zaq text).1) data).1) false false).1) ((attrF c ((zbe (⟨#[116]⟩:ByteArray) ((zbg ((zaq text).1) data).1) false false).1) (1+((IntKind.i64.wrap least) % 6))).1)).1).length:Int)->(inL x2 ((shareF c ((zbe (⟨#[116]⟩:ByteArray) ((zbg ((zaq text).1) data).1) false false).1) ((attrF c ((zbe (⟨#[116]⟩:ByteArray) ((zbg ((zaq text).1) data).1) false false).1) (1+((IntKind.i64.wrap least) % 6))).1)).1).length/\(inI (sum+(gi ((shareF c ((zbe (⟨#[116]⟩:ByteArray) ((zbg ((zaq text).1) data).1) false false).1) ((attrF c ((zbe (⟨#[116]⟩:ByteArray) ((zbg ((zaq text).1) data).1) false false).1) (1+((IntKind.i64.wrap least) % 6))).1)).1) x2))/\(inI (x2+1)/\again23 ((sum+(gi ((shareF c ((zbe (⟨#[116]⟩:ByteArray) ((zbg ((zaq text).1) data).1) false false).1) ((attrF c ((zbe (⟨#[116]⟩:ByteArray) ((zbg ((zaq text).1) data).1) false false).1) (1+((IntKind.i64.wrap least) % 6))).1)).1) x2)),(x2+1))))))/\(¬ x2<(((shareF c ((zbe (⟨#[116]⟩:ByteArray) ((zbg ((zaq text).1) data).1) false false).1) ((attrF c ((zbe (⟨#[116]⟩:ByteArray) ((zbg ((zaq text).1) data).1) false false).1) (1+((IntKind.i64.wrap least) % 6))).1)).1).length:Int)->Q (((((attrF c ((zbe (⟨#[116]⟩:ByteArray) ((zbg ((zaq text).1) data).1) false false).1) (1+((IntKind.i64.wrap least) % 6))).2)==0)&&(((shareF c ((zbe (⟨#[116]⟩:ByteArray) ((zbg ((zaq text).1) data).1) false false).1) ((attrF c ((zbe (⟨#[116]⟩:ByteArray) ((zbg ((zaq text).1) data).1) false false).1) (1+((IntKind.i64.wrap least) % 6))).1)).2)==0))&&(decide (sum<=((((zbe (⟨#[116]⟩:ByteArray) ((zbg ((zaq text).1) data).1) false false).1).words).length:Int))))))
def lawAttr_L2 (data:ByteArray)(text:ByteArray)(least:Int)(c:Corpus)(Q:Bool->Prop)(again17:Int->Prop)(x1:Int):Prop:=
 ((x1<((((attrF c ((zbe (⟨#[116]⟩:ByteArray) ((zbg ((zaq text).1) data).1) false false).1) 1).1).pieces).length:Int)->(inL x1 (((attrF c ((zbe (⟨#[116]⟩:ByteArray) ((zbg ((zaq text).1) data).1) false false).1) 1).1).pieces).length/\(((zaw c ((zbe (⟨#[116]⟩:ByteArray) ((zbg ((zaq text).1) data).1) false false).1)).1).length<=9223372036854775807/\(∀ z_∈((zaw c ((zbe (⟨#[116]⟩:ByteArray) ((zbg ((zaq text).1) data).1) false false).1)).1),(fun(x0_:Clone)=>inI (x0_.atA+x0_.len)/\inI ((gi (((attrF c ((zbe (⟨#[116]⟩:ByteArray) ((zbg ((zaq text).1) data).1) false false).1) 1).1).pieces) x1).at_+(gi (((attrF c ((zbe (⟨#[116]⟩:ByteArray) ((zbg ((zaq text).1) data).1) false false).1) 1).1).pieces) x1).to)/\inI ((gi (((attrF c ((zbe (⟨#[116]⟩:ByteArray) ((zbg ((zaq text).1) data).1) false false).1) 1).1).pieces) x1).at_+(gi (((attrF c ((zbe (⟨#[116]⟩:ByteArray) ((zbg ((zaq text).1) data).1) false false).1) 1).1).pieces) x1).to-(gi (((attrF c ((zbe (⟨#[116]⟩:ByteArray) ((zbg ((zaq text).1) data).1) false false).1) 1).1).pieces) x1).from_)/\inI ((gi (((attrF c ((zbe (⟨#[116]⟩:ByteArray) ((zbg ((zaq text).1) data).1) false false).1) 1).1).pieces) x1).from_-x0_.atB)/\inI ((gi (((attrF c ((zbe (⟨#[116]⟩:ByteArray) ((zbg ((zaq text).1) data).1) false false).1) 1).1).pieces) x1).at_-x0_.atA)) z_)/\((((zaw c ((zbe (⟨#[116]⟩:ByteArray) ((zbg ((zaq text).1) data).1) false false).1)).2=0/\(((zaw c ((zbe (⟨#[116]⟩:ByteArray) ((zbg ((zaq text).1) data).1) false false).1)).1).any (fun(x0_:Clone)=>inPieceF x0_ (gi (((attrF c ((zbe (⟨#[116]⟩:ByteArray) ((zbg ((zaq text).1) data).1) false false).1) 1).1).pieces) x1)))=false)->Q false)/\((¬(zaw c ((zbe (⟨#[116]⟩:ByteArray) ((zbg ((zaq text).1) data).1) false false).1)).2=0\/(((zaw c ((zbe (⟨#[116]⟩:ByteArray) ((zbg ((zaq text).1) data).1) false false).1)).1).any (fun(x0_:Clone)=>inPieceF x0_ (gi (((attrF c ((zbe (⟨#[116]⟩:ByteArray) ((zbg ((zaq text).1) data).1) false false).1) 1).1).pieces) x1)))=true)->(inI (x1+1)/\again17 (x1+1)))))))/\(¬ x1<((((attrF c ((zbe (⟨#[116]⟩:ByteArray) ((zbg ((zaq text).1) data).1) false false).1) 1).1).pieces).length:Int)->(((0:Int)<=(IntKind.i64.wrap least)/\(0:Int)<6)/\inI (1+((IntKind.i64.wrap least) % 6))/\okC c/\okT ((zbe (⟨#[116]⟩:ByteArray) ((zbg ((zaq text).1) data).1) false false).1)/\(okC c/\okT ((zbe (⟨#[116]⟩:ByteArray) ((zbg ((zaq text).1) data).1) false false).1)/\okA ((attrF c ((zbe (⟨#[116]⟩:ByteArray) ((zbg ((zaq text).1) data).1) false false).1) (1+((IntKind.i64.wrap least) % 6))).1)/\lfp (S:=Int×Int) (fun again23 ss=>lawAttr_L3 data text least c Q again23 ss.1 ss.2) (0,0)))))
def lawAttr_L1 (data:ByteArray)(text:ByteArray)(least:Int)(Q:Bool->Prop)(again11:Corpus×Int×Int->Prop)(c:Corpus)(j:Int)(x:Int):Prop:=
 ((x<(([(zbe (⟨#[97]⟩:ByteArray) data false false).1,(zbe (⟨#[98]⟩:ByteArray) text false false).1]:List Text).length:Int)->(inL x ([(zbe (⟨#[97]⟩:ByteArray) data false false).1,(zbe (⟨#[98]⟩:ByteArray) text false false).1]:List Text).length/\((j=0->(okC c/\okT (gi ([(zbe (⟨#[97]⟩:ByteArray) data false false).1,(zbe (⟨#[98]⟩:ByteArray) text false false).1]:List Text) x)/\(inI (x+1)/\again11 ((addF c (gi ([(zbe (⟨#[97]⟩:ByteArray) data false false).1,(zbe (⟨#[98]⟩:ByteArray) text false false).1]:List Text) x)).1,(addF c (gi ([(zbe (⟨#[97]⟩:ByteArray) data false false).1,(zbe (⟨#[98]⟩:ByteArray) text false false).1]:List Text) x)).2,(x+1)))))/\(¬ j=0->(inI (x+1)/\again11 (c,j,(x+1)))))))/\(¬ x<(([(zbe (⟨#[97]⟩:ByteArray) data false false).1,(zbe (⟨#[98]⟩:ByteArray) text false false).1]:List Text).length:Int)->(okC c/\okT ((zbe (⟨#[116]⟩:ByteArray) ((zbg ((zaq text).1) data).1) false false).1)/\(okT ((zbe (⟨#[116]⟩:ByteArray) ((zbg ((zaq text).1) data).1) false false).1)/\okA ((attrF c ((zbe (⟨#[116]⟩:ByteArray) ((zbg ((zaq text).1) data).1) false false).1) 1).1)/\(okC c/\okT ((zbe (⟨#[116]⟩:ByteArray) ((zbg ((zaq text).1) data).1) false false).1)/\((((((¬ j=0\/¬(attrF c ((zbe (⟨#[116]⟩:ByteArray) ((zbg ((zaq text).1) data).1) false false).1) 1).2=0)\/¬(unknownF ((zbe (⟨#[116]⟩:ByteArray) ((zbg ((zaq text).1) data).1) false false).1) ((attrF c ((zbe (⟨#[116]⟩:ByteArray) ((zbg ((zaq text).1) data).1) false false).1) 1).1)).2=0)\/¬(((unknownF ((zbe (⟨#[116]⟩:ByteArray) ((zbg ((zaq text).1) data).1) false false).1) ((attrF c ((zbe (⟨#[116]⟩:ByteArray) ((zbg ((zaq text).1) data).1) false false).1) 1).1)).1).length:Int)=0)\/(¬(zaw c ((zbe (⟨#[116]⟩:ByteArray) ((zbg ((zaq text).1) data).1) false false).1)).2=0/\¬(zaw c ((zbe (⟨#[116]⟩:ByteArray) ((zbg ((zaq text).1) data).1) false false).1)).2=10))->Q false)/\(((((j=0/\(attrF c ((zbe (⟨#[116]⟩:ByteArray) ((zbg ((zaq text).1) data).1) false false).1) 1).2=0)/\(unknownF ((zbe (⟨#[116]⟩:ByteArray) ((zbg ((zaq text).1) data).1) false false).1) ((attrF c ((zbe (⟨#[116]⟩:ByteArray) ((zbg ((zaq text).1) data).1) false false).1) 1).1)).2=0)/\(((unknownF ((zbe (⟨#[116]⟩:ByteArray) ((zbg ((zaq text).1) data).1) false false).1) ((attrF c ((zbe (⟨#[116]⟩:ByteArray) ((zbg ((zaq text).1) data).1) false false).1) 1).1)).1).length:Int)=0)/\((zaw c ((zbe (⟨#[116]⟩:ByteArray) ((zbg ((zaq text).1) data).1) false false).1)).2=0\/(zaw c ((zbe (⟨#[116]⟩:ByteArray) ((zbg ((zaq text).1) data).1) false false).1)).2=10))->lfp (S:=Int) (fun again17 ss=>lawAttr_L2 data text least c Q again17 ss) 0)))))))
def lawAttr_vc (data:ByteArray)(text:ByteArray)(least:Int)(Q:Bool->Prop):Prop:=
 ((true=false->Q false)/\(true=true->(((¬(data.size:Int)>300/\¬(text.size:Int)>300)->data.size+text.size<=9223372036854775807/\(data++text).size<=1000000/\(⟨#[110,111,116,101]⟩:ByteArray).size<=1000000)/\(((((data.size:Int)>300\/(text.size:Int)>300)\/(contF (data++text) (⟨#[110,111,116,101]⟩:ByteArray))=true)->Q true)/\(((¬(data.size:Int)>300/\¬(text.size:Int)>300)/\(contF (data++text) (⟨#[110,111,116,101]⟩:ByteArray))=false)->(text.size<=300/\(okP4 ((zaq text).1)/\data.size<=1000000/\(((¬(zaq text).2=0\/¬(zbg ((zaq text).1) data).2=0)->Q true)/\(((zaq text).2=0/\(zbg ((zaq text).1) data).2=0)->((⟨#[97]⟩:ByteArray).size<=1000000/\data.size<=1000000/\((⟨#[98]⟩:ByteArray).size<=1000000/\text.size<=1000000/\((⟨#[116]⟩:ByteArray).size<=1000000/\((zbg ((zaq text).1) data).1).size<=1000000/\((((¬(zbe (⟨#[97]⟩:ByteArray) data false false).2=0\/¬(zbe (⟨#[98]⟩:ByteArray) text false false).2=0)\/¬(zbe (⟨#[116]⟩:ByteArray) ((zbg ((zaq text).1) data).1) false false).2=0)->Q false)/\((((zbe (⟨#[97]⟩:ByteArray) data false false).2=0/\(zbe (⟨#[98]⟩:ByteArray) text false false).2=0)/\(zbe (⟨#[116]⟩:ByteArray) ((zbg ((zaq text).1) data).1) false false).2=0)->(((fewTs ([(zbe (⟨#[97]⟩:ByteArray) data false false).1,(zbe (⟨#[98]⟩:ByteArray) text false false).1,(zbe (⟨#[116]⟩:ByteArray) ((zbg ((zaq text).1) data).1) false false).1]:List Text))=false->Q true)/\((fewTs ([(zbe (⟨#[97]⟩:ByteArray) data false false).1,(zbe (⟨#[98]⟩:ByteArray) text false false).1,(zbe (⟨#[116]⟩:ByteArray) ((zbg ((zaq text).1) data).1) false false).1]:List Text))=true->lfp (S:=Corpus×Int×Int) (fun again11 ss=>lawAttr_L1 data text least Q again11 ss.1 ss.2.1 ss.2.2) ((newF 1 1).1,(newF 1 1).2,0)))))))))))))))))
end Go.Lic
set_option linter.all false
namespace Go.Lic
open Go.Sort
theorem coverF_from :∀(l:List Piece) (n:Int),l.foldl (fun n p=>n+(p.to-p.from_)) n=n+coverF l
 | [],n=>by simp [coverF]
 | p::l,n=>by
   have h1:=coverF_from l (n+(p.to-p.from_))
   have h2:=coverF_from l (0+(p.to-p.from_))
   unfold coverF at h1 h2 ⊢
   rw [List.foldl_cons,List.foldl_cons,h1,h2]; omega
@[simp] theorem coverF_nil :coverF []=0:=rfl
theorem coverF_cons (p:Piece)(l:List Piece):coverF (p::l)=(p.to-p.from_)+coverF l:=by
 have:=coverF_from l (0+(p.to-p.from_))
 unfold coverF at this ⊢
 rw [List.foldl_cons,this]; omega
theorem coverF_app (a b:List Piece):coverF (a++b)=coverF a+coverF b:=by
 induction a with
 |nil=>simp
 |cons p a ih=>rw [List.cons_append,coverF_cons,coverF_cons,ih]; omega
theorem rangedF_iff (t:Text)(p:Piece):rangedF t p=true↔0<=p.from_/\p.from_<p.to/\p.to<=t.words.length:=by
 unfold rangedF; simp [and_assoc]
theorem sameF_iff (a l:List Lexeme)(i:Int):sameF a l i=true↔0<=i/\i+a.length<=l.length/\zba (l.drop i.toNat) a=a.length:=by
 unfold sameF; simp [and_assoc]
theorem pieceOk_iff (c:Corpus)(t:Text)(least:Int)(p:Piece):pieceOk c t least p=true↔(0<=p.from_/\p.from_<p.to/\p.to<=t.words.length)/\least<=p.to-p.from_/\inL p.text c.texts.length/\sameF (zbc t.words p.from_ p.to) (gi c.texts p.text).words p.at_=true:=by
 unfold pieceOk
 simp only [Bool.and_eq_true,rangedF_iff,decide_eq_true_eq,and_assoc]
theorem lsub_eq {α:Type}(l:List α){i j:Int}(h0:0<=i)(h1:i<=j):zbc l i j=(l.drop i.toNat).take (j-i).toNat:=by
 unfold zbc
 rw [List.drop_take,show j.toNat-i.toNat=(j-i).toNat by omega]
theorem ok_long {c:Corpus}{t:Text}{least:Int}{p:Piece}(h:pieceOk c t least p=true):(p.to-p.from_).toNat<=longW c.texts (t.words.drop p.from_.toNat):=by
 obtain⟨⟨h1,h2,h3⟩,_,h5,h6⟩:=(pieceOk_iff _ _ _ _).1 h
 obtain⟨k1,k2,k3⟩:=(sameF_iff _ _ _).1 h6
 rw [lsub_eq _ h1 (by omega),common_takeR,List.length_take,List.length_drop]at k3
 have h7:=runMax_ge (t.words.drop p.from_.toNat) (gi c.texts p.text).words p.at_.toNat
 have h8:=longW_ge (a:=t.words.drop p.from_.toNat) (gi_mem h5)
 omega
theorem drop_getD {l:List Nat}{i:Nat}(h:i<l.length):l.drop i=l.getD i 0::l.drop (i+1):=by
 rw [List.drop_eq_getElem_cons h,List.getD_eq_getElem?_getD,List.getElem?_eq_getElem h]; rfl
theorem best_le {c:Corpus}{t:Text}{least:Int}(hl:1<=least):∀(l:List Piece) (e:Int),0<=e->e<=t.words.length->checkPs c t least e l=0->¬betV (coverF l,(l.length:Int)) (val2 (valA least.toNat ((longsN c.texts t.words).drop e.toNat)))=true
 | [],e,_,_,_=>valA_nn (by omega) _
 | p ::l,e,h0,h1,h=>by
   rw [checkPs]at h
   split at h
   · next hp=>
     split at h
     · cases h
     · next he=>
       obtain⟨⟨h2,h3,h4⟩,h5,_,_⟩:=(pieceOk_iff _ _ _ _).1 hp
       have ih:=best_le hl l p.to (by omega) h4 h
       have hk:=ok_long hp
       generalize hlos:longsN c.texts t.words=los at ih ⊢
       have hn:los.length=t.words.length:=by rw [<- hlos,longsN_len]
       have m1:=valA_mono (least:=least.toNat) (by omega) (los.drop e.toNat) (p.from_-e).toNat
       rw [List.drop_drop,show e.toNat+(p.from_-e).toNat=p.from_.toNat by omega]at m1
       have hg:los.getD p.from_.toNat 0=longW c.texts (t.words.drop p.from_.toNat):=by rw [<- hlos]; exact longsN_get _ _ _ (by omega)
       have C:=stepV_chosen (least:=least.toNat) (by omega) (dpL least.toNat (los.drop (p.from_.toNat+1))) (los.getD p.from_.toNat 0)
       rw [<- valA_cons,<-drop_getD (by omega)]at C
       have g:=C.gek (p.to-p.from_).toNat (fromTo_mem.2 ⟨by omega,by omega⟩)
       rw [cand_eq (by omega) (by rw [List.length_drop]; omega),List.drop_drop,show p.from_.toNat+1+((p.to-p.from_).toNat-1)=p.to.toNat by omega]at g
       rw [coverF_cons,List.length_cons]
       rw [betV_iff]at ih m1 g ⊢
       simp only [val2]at ih m1 g ⊢
       omega
   · cases h
theorem srcF_ok {c:Corpus}{w:List Lexeme}{m:Nat}(h0:0<m)(h:m<=longW c.texts w):∃ i k:Nat,srcF c (w.take m)=((i:Int),(k:Int))/\srcT (w.take m) c.texts=some (i,k)/\∃ hi:i<c.texts.length,sameF (w.take m) (c.texts[i]).words (k:Int)=true:=by
 obtain⟨⟨i,k⟩,hp⟩:=srcT_ex h0 h
 obtain⟨h1,h2,_⟩:=srcT_some hp
 obtain⟨h3,h4,_⟩:=srcW_some h2
 refine⟨i,k,by unfold srcF; rw [hp],hp,h1,(sameF_iff _ _ _).2 ⟨by omega,?_,by simpa using h4⟩⟩
 have:=(common_le ((c.texts[i]).words.drop k) (w.take m)).1
 rw [List.length_drop]at this
 simp only at h3 h4 this
 omega
theorem pieceF_ok {c:Corpus}{t:Text}{least:Int}{p:Nat×Nat}(hl:1<=least)(h0:least.toNat<=p.2)(h:p.1<t.words.length)(h1:p.2<=longW c.texts (t.words.drop p.1)):pieceOk c t least (pieceF c t p)=true:=by
 have hle:=longW_le c.texts (t.words.drop p.1)
 rw [List.length_drop]at hle
 obtain⟨i,k,e,_,hi,hs⟩:=srcF_ok (c:=c) (w:=t.words.drop p.1) (m:=p.2) (by omega) h1
 unfold pieceF
 rw [e]
 refine(pieceOk_iff _ _ _ _).2 ⟨⟨by simp only; omega,by simp only; omega,by simp only; omega⟩,by simp only; omega,⟨by simp only; omega,by simp only; omega⟩,?_⟩
 simp only
 rw [lsub_eq _ (by omega) (by omega),gi_nat hi,show((((p.1+p.2:Nat):Int))-(p.1:Int)).toNat=p.2 by omega,show((p.1:Nat):Int).toNat=p.1 by omega]
 exact hs
theorem cut_right {c:Corpus}{t:Text}{least:Int}(hl:1<=least):∀(ps:List (Nat×Nat)) (e:Int),(∀ p∈ps,e<=p.1/\p.1<t.words.length/\least.toNat<=p.2/\p.2<=longW c.texts (t.words.drop p.1))->ps.Pairwise (fun a b=>a.1+a.2<=b.1)->checkPs c t least e (ps.map (pieceF c t))=0
 | [],e,_,_=>rfl
 | p::ps,e,h,hs=>by
   obtain⟨hs1,hs2⟩:=List.pairwise_cons.1 hs
   obtain⟨h1,h2,h3,h4⟩:=h p (by simp)
   rw [List.map_cons,checkPs,if_pos (pieceF_ok hl h3 h2 h4),if_neg (by simp only [pieceF]; omega)]
   refine cut_right hl ps _ (fun q hq=>?_) hs2
   obtain⟨_,k2,k3,k4⟩:=h q (by simp [hq])
   have:=hs1 q hq
   exact⟨by simp only [pieceF]; omega,k2,k3,k4⟩
theorem cover_map (c:Corpus)(t:Text):∀ ps:List (Nat×Nat),coverF (ps.map (pieceF c t))=((ps.map fun p=>p.2).sum:Int)
 | []=>rfl
 | p::ps=>by
   rw [List.map_cons,coverF_cons,cover_map c t ps,List.map_cons,List.sum_cons]
   simp only [pieceF]; omega
abbrev lenL (c:Corpus)(t:Text)(least:Nat):List Nat:=(dpL least (longsN c.texts t.words)).map fun v=>v.2.2
theorem found_right {c:Corpus}{t:Text}{least:Int}(hl:1<=least):checkPs c t least 0 (piecesF c t least.toNat)=0:=by
 obtain⟨h1,h2⟩:=cut_mem (least:=least.toNat) (by omega) (longsN c.texts t.words) 0 0 (fit_longs _ _) (by omega)
 refine cut_right hl _ 0 (fun p hp=>?_) h2
 obtain⟨k1,k2,k3,k4⟩:=h1 p hp
 rw [longsN_len]at k2
 rw [Nat.sub_zero,longsN_get _ _ _ (by omega)]at k4
 exact⟨by omega,by omega,k3,k4⟩
theorem found_val {c:Corpus}{t:Text}{least:Int}(hl:1<=least):coverF (piecesF c t least.toNat)=(valA least.toNat (longsN c.texts t.words)).1/\((piecesF c t least.toNat).length:Int)=(valA least.toNat (longsN c.texts t.words)).2.1:=by
 obtain⟨h1,h2⟩:=cut_val (least:=least.toNat) (by omega) (longsN c.texts t.words) 0 0 (fit_longs _ _) (by omega)
 rw [List.drop_zero]at h1 h2
 unfold piecesF
 rw [cover_map,List.length_map]
 exact⟨h1,h2⟩
theorem found_best {c:Corpus}{t:Text}{least:Int}(hl:1<=least){l:List Piece}(h:checkPs c t least 0 l=0):coverF l<coverF (piecesF c t least.toNat)\/(coverF l=coverF (piecesF c t least.toNat)/\((piecesF c t least.toNat).length:Int)<=l.length):=by
 have h1:=best_le hl l 0 (by omega) (by omega) h
 obtain⟨h2,h3⟩:=found_val (c:=c) (t:=t) hl
 rw [show((0:Int)).toNat=0 by rfl,List.drop_zero,betV_iff]at h1
 simp only [val2]at h1
 omega
end Go.Lic
set_option linter.all false
namespace Go.Lic
open Go.Sort
theorem checkPs_cons {c:Corpus}{t:Text}{least e:Int}{p:Piece}{l:List Piece}:checkPs c t least e (p::l)=0↔pieceOk c t least p=true/\e<=p.from_/\checkPs c t least p.to l=0:=by
 rw [checkPs]
 split
 · next hp=>
   split
   · next h=>exact⟨(fun h=>by cases h),fun⟨_,h2,_⟩=>by omega⟩
   · next h=>exact⟨fun h2=>⟨hp,by omega,h2⟩,fun⟨_,_,h2⟩=>h2⟩
 · next hp=>exact⟨fun h=>(by cases h),fun⟨h,_⟩=>absurd h hp⟩
theorem cover_le {c:Corpus}{t:Text}{least:Int}:∀(l:List Piece) (e:Int),e<=t.words.length->checkPs c t least e l=0->coverF l<=t.words.length-e/\0<=coverF l
 | [],e,he,_=>by rw [coverF_nil]; omega
 | p::l,e,he,h=>by
   obtain⟨h1,h2,h3⟩:=checkPs_cons.1 h
   obtain⟨⟨k1,k2,k3⟩,_⟩:=(pieceOk_iff _ _ _ _).1 h1
   obtain⟨i1,i2⟩:=cover_le l p.to k3 h3
   rw [coverF_cons]; omega
theorem checkPs_mem {c:Corpus}{t:Text}{least:Int}:∀(l:List Piece) (e:Int),checkPs c t least e l=0->∀ p∈l,pieceOk c t least p=true
 | [],e,_,p,hp=>by cases hp
 | q::l,e,h,p,hp=>by
   obtain⟨h1,h2,h3⟩:=checkPs_cons.1 h
   rcases List.mem_cons.1 hp with rfl|hp
   · exact h1
   · exact checkPs_mem l q.to h3 p hp
theorem checkPs_snoc {c:Corpus}{t:Text}{least:Int}{p:Piece}(hp:pieceOk c t least p=true):∀(l:List Piece) (e:Int),checkPs c t least e l=0->(∀ q∈l,q.to<=p.from_)->e<=p.from_->checkPs c t least e (l++ [p])=0
 | [],e,_,_,he=>checkPs_cons.2 ⟨hp,he,rfl⟩
 | q::l,e,h,hq,he=>by
   obtain⟨h1,h2,h3⟩:=checkPs_cons.1 h
   exact checkPs_cons.2 ⟨h1,h2,checkPs_snoc hp l q.to h3 (fun r hr=>hq r (by simp [hr])) (hq q (by simp))⟩
theorem sum_si {l:List Int}{i:Int}(h:inL i l.length)(v:Int):(si l i (gi l i+v)).sum=l.sum+v:=by
 obtain⟨n,rfl⟩:=Int.eq_ofNat_of_zero_le h.1
 have hn:n<l.length:=by omega
 clear h
 induction l generalizing n with
 |nil=>simp at hn
 | cons x l ih=>
   cases n with
   | zero=>
     have e:gi (x::l) ((0:Nat):Int)=x:=rfl
     rw [e]
     show((x+v)::l).sum=_
     rw [List.sum_cons,List.sum_cons]; omega
   | succ n=>
     have e:gi (x::l) ((n+1:Nat):Int)=gi l (n:Int):=gi_cons x l n
     rw [e]
     have:=ih n (by simpa using hn)
     show(x::si l (n:Int) (gi l (n:Int)+v)).sum=_
     rw [List.sum_cons,List.sum_cons,this]; omega
theorem share_len (n:Nat):∀(l:List Piece) (out:List Int),(l.foldl (fun out p=>si out p.text (gi out p.text+(p.to-p.from_))) out).length=out.length
 | [],out=>rfl
 |p::l,out=>by rw [List.foldl_cons,share_len n l,zan]
theorem share_sum :∀(l:List Piece) (out:List Int),(∀ p∈l,inL p.text out.length)->(l.foldl (fun out p=>si out p.text (gi out p.text+(p.to-p.from_))) out).sum=out.sum+coverF l
 | [],out,_=>by simp
 | p::l,out,h=>by
   rw [List.foldl_cons,share_sum l _ (fun q hq=>by rw [zan]; exact h q (by simp [hq])),sum_si (h p (by simp)),coverF_cons]; omega
theorem shareL_len (n:Nat)(l:List Piece):(shareL n l).length=n:=by unfold shareL; rw [share_len n,List.length_replicate]
theorem rep_sum :∀ n:Nat,(List.replicate n (0:Int)).sum=0
 |0=>rfl
 |n+1=>by rw [List.replicate_succ,List.sum_cons,rep_sum n]; rfl
theorem shareL_sum {n:Nat}{l:List Piece}(h:∀ p∈l,inL p.text n):(shareL n l).sum=coverF l:=by
 unfold shareL
 rw [share_sum l _ (fun p hp=>by rw [List.length_replicate]; exact h p hp)]
 rw [rep_sum]; omega
end Go.Lic
set_option linter.all false
namespace Go.Lic
open Go.Proofs Go.Sort
theorem lhasp_ok (s_:ByteArray)(prefix_:ByteArray)(Q:Bool->Prop)(h:Q (hasPreF s_ prefix_)):lhasp_vc s_ prefix_ Q:=⟨fun k=>⟨by omega,by omega,by omega⟩,h⟩
theorem lcutp_ok (s_:ByteArray)(prefix_:ByteArray)(Q:ByteArray×Bool->Prop)(h:Q (cutPreF s_ prefix_)):lcutp_vc s_ prefix_ Q:=by
 unfold cutPreF at h
 refine⟨fun k=>by rw [k,if_neg (by decide)]at h; exact h,fun k=>⟨?_,by rw [k,if_pos rfl]at h; exact h⟩⟩
 unfold hasPreF at k
 rw [Bool.and_eq_true,decide_eq_true_eq]at k
 exact⟨by omega,by omega,by omega⟩
theorem scutp_ok (s_:ByteArray)(prefix_:ByteArray)(Q:ByteArray×Bool->Prop)(h:Q (cutPreF s_ prefix_)):scutp_vc s_ prefix_ Q:=h
theorem index_lt (l:List UInt8)(c:UInt8):Lib.indexByte l c<l.length:=by
 rcases Int.lt_or_le (Lib.indexByte l c) 0 with h|h
 · omega
 · have:=(Lib.indexByte_some (o:=(Lib.indexByte l c).toNat) (l:=l) (c:=c) (by omega)).1
   have:=(List.getElem?_eq_some_iff.1 this).1
   omega
theorem indexF_lt (s sep:ByteArray):zbj s sep<s.size:=index_lt _ _
theorem lcut_ok (s_:ByteArray)(sep:ByteArray)(Q:ByteArray×ByteArray×Bool->Prop)(hp0:s_.size<=1000000)(hp1:sep.size=1)(h:Q (scutF s_ sep)):lcut_vc s_ sep Q:=by
 have hi:=indexF_lt s_ sep
 unfold scutF at h
 refine⟨hp1,fun k=>⟨⟨by omega,by omega,by omega⟩,⟨by omega,by omega⟩,⟨by omega,by omega,by omega⟩,by rw [if_pos (by omega)]at h; exact h⟩,fun k=>by rw [if_neg (by omega)]at h; exact h⟩
theorem scut_ok (s_:ByteArray)(sep:ByteArray)(Q:ByteArray×ByteArray×Bool->Prop)(hp0:s_.size<=1000000)(hp1:sep.size=1)(h:Q (scutF s_ sep)):scut_vc s_ sep Q:=⟨hp0,hp1,h⟩
theorem cloneS_ok (s_:(List ByteArray))(Q:(List ByteArray)->Prop)(hp0:s_.length<=1000000)(h:Q s_):cloneS_vc s_ Q:=
 fun b hb=>⟨fun k=>by rw [hb k]at h; exact h,fun _=>⟨⟨by simp; omega,by simp; omega⟩,h⟩⟩
theorem parseD_size (t:ByteArray):(parseD t).1.size<=32:=by
 unfold parseD
 split
 · split
   · rw [bstr_size]; simp
   · exact Nat.zero_le _
 · exact Nat.zero_le _
structure ParI (m:Nat)(hs:List Hunk)(l:List ByteArray):Prop where
 len:hs.length+l.length<=m
 ok:∀ h∈hs,OkH h
 size:∀ z∈l,z.size<=300
theorem ParI.patch {hs:List Hunk}{l:List ByteArray}(h:ParI 301 hs l){base:ByteArray}(hb:base.size<=32):okP4 ⟨base,hs⟩:=⟨by simp only; omega,by have:=h.len; simp only; omega,h.ok⟩
theorem par_end {text base:ByteArray}(hb:base.size<=32){hs:List Hunk}{l:List ByteArray}(hi:ParI 301 hs l){Q:Patch×Int->Prop}(h:Q (doneP text base (some hs))):pparse_J1 text base Q hs:=by
 unfold doneP at h
 simp only at h
 refine⟨hi.patch hb,fun k=>?_,fun k=>?_⟩
 · rw [if_neg (by rintro⟨a,b⟩; rcases k with k|k; rw [a]at k; cases k; exact k b)]at h; exact h
 · rw [if_pos ⟨k.1,k.2⟩]at h; exact h
theorem lsub_one {z:ByteArray}{l:List ByteArray}:zbc (z::l) 1 ((z::l).length:Int)=l:=by simp [zbc]
theorem par_loop {text base:ByteArray}(hb:base.size<=32){Q:Patch×Int->Prop}{l:List ByteArray}(hi:ParI 301 [] l){k:Nat}(hk:l.length<=k)(h:Q (doneP text base (parseL k [] l))):pparse_J2 text Q base l:=by
 unfold pparse_J2
 refine lfp2 _ (fun(hs:List Hunk) (l:List ByteArray)=>ParI 301 hs l/\∃ k,l.length<=k/\Q (doneP text base (parseL k hs l))) (fun(_:List Hunk) (l:List ByteArray)=>l.length) (fun hs l hx again hag=>?_) ⟨hi,k,hk,h⟩
 obtain⟨hi,k,hk,h⟩:=hx
 refine⟨fun hl=>?_,fun hl=>?_⟩
 · rcases l with _|⟨z,r⟩
   · simp at hl
   rcases k with _|k
   · simp at hk
   have e0:gi (z::r) 0=z:=rfl
   rw [lsub_one,e0]
   have hz:=hi.size z (by simp)
   have hr:∀ y∈r,y.size<=300:=fun y hy=>hi.size y (List.mem_cons_of_mem _ hy)
   have hlen:=hi.len
   rw [List.length_cons]at hlen hk
   have h2:((scutF z spS).2.1).size<=1000000:=by
     unfold scutF
     split
     · simp only [ssub]; rw [ByteArray.size_extract]; omega
     · exact Nat.zero_le _
   rw [parseL]at h
   refine⟨by simp; omega,by omega,rfl,h2,fun n hn=>?_,fun n hn=>?_⟩
   · rw [hn]at h
     simp only at h
     refine⟨fun hbad=>by rw [if_pos hbad]at h; exact h,fun hgood=>?_⟩
     rw [if_neg (by omega)]at h
     have nx:∀(kd:Int) (ls:List ByteArray) (r2:List ByteArray),ls.length<=301->(∀ y∈ls,y.size<=300)->r2.length<=r.length->(∀ y∈r2,y.size<=300)->ParI 301 (hs++ [⟨kd,n,ls⟩]) r2:=by
       intro kd ls r2 a b c d
       refine⟨by rw [List.length_append,List.length_singleton]; omega,fun x hx=>?_,d⟩
       rcases List.mem_append.1 hx with hx|hx
       · exact hi.ok x hx
       · rw [List.mem_singleton.1 hx]; exact⟨by simp only; omega,by simp only; omega,by simp only; omega,fun y hy=>by have:=b y hy; omega⟩
     have bd:(hs.length+1)*40<=140737488355328/\hs.length+1<=9223372036854775807:=⟨by omega,by omega⟩
     refine⟨⟨by omega,by rw [List.length_cons]; omega,Int.le_refl _⟩,fun w=>⟨bd,hag _ _ ⟨nx 1 [] r (by simp) (by simp) (by omega) hr,k,by omega,by rw [if_pos w]at h; exact h⟩ (by simp)⟩,fun w=>⟨fun w2=>⟨bd,hag _ _ ⟨nx 2 [] r (by simp) (by simp) (by omega) hr,k,by omega,by rw [if_neg w,if_pos w2]at h; exact h⟩ (by simp)⟩,fun w2=>⟨fun w3=>?_,fun w3=>⟨bd,hag _ _ ⟨nx 0 [] r (by simp) (by simp) (by omega) hr,k,by omega,by rw [if_neg w,if_neg w2,if_neg w3]at h; exact h⟩ (by simp)⟩⟩⟩⟩
     rw [if_neg w,if_neg w2,if_pos w3]at h
     refine⟨fun g=>by rw [if_pos g]at h; exact par_end hb hi h,fun g=>?_⟩
     rw [if_neg g]at h
     have e1:zbc r 0 n=r.take n.toNat:=by simp [zbc]
     have e2:zbc r n (r.length:Int)=r.drop n.toNat:=by simp [zbc]
     rw [e1,e2]at h ⊢
     refine⟨⟨by omega,by omega,by omega⟩,by rw [List.length_take]; omega,⟨by omega,by omega,by omega⟩,bd,hag _ _ ⟨nx 3 _ _ (by rw [List.length_take]; omega) (fun y hy=>hr y (List.mem_of_mem_take hy)) (by rw [List.length_drop]; omega) (fun y hy=>hr y (List.mem_of_mem_drop hy)),k,by rw [List.length_drop]; omega,h⟩ (by rw [List.length_drop,List.length_cons]; omega)⟩
   · rw [hn]at h
     exact h
 · rcases l with _|⟨z,r⟩
   · have:parseL k hs []=some hs:=by cases k<;>rfl
     rw [this]at h
     exact par_end hb hi h
   · exact absurd (show((z::r).length:Int)>0 by rw [List.length_cons]; omega) hl
theorem le_sum {n:Nat}:∀ {l:List Nat},n∈l->n<=l.sum
 | x::l,h=>by
   rw [List.sum_cons]
   rcases List.mem_cons.1 h with e|h
   · omega
   · have:=le_sum h; omega
theorem linesT_300 {text:ByteArray}(h:text.size<=300):(zar text).1.length<=301/\∀ z∈(zar text).1,z.size<=300:=by
 have hs:=split_sum 10 text.data.toList
 have hz:text.data.toList.length=text.size:=rfl
 unfold zar
 split
 · simp
 · have e:zad text nlS=(zcf 10 text.data.toList).map ba:=rfl
   have hle:∀ p∈zcf 10 text.data.toList,p.length<=300:=by
     intro p hp
     have h4:=List.length_pos_of_mem hp
     have h3:p.length<=((zcf 10 text.data.toList).map (·.length)).sum:=le_sum (List.mem_map_of_mem (f:=(·.length)) hp)
     omega
   refine⟨?_,fun z hzz=>?_⟩
   · simp only [e,List.length_map]; omega
   · simp only [e]at hzz
     obtain⟨p,hp,rfl⟩:=List.mem_map.1 hzz
     rw [ba_size]; exact hle p hp
theorem pparse_ok (text:ByteArray)(Q:Patch×Int->Prop)(hp0:text.size<=300)(h:Q (zaq text)):pparse_vc text Q:=by
 obtain⟨h1,h2⟩:=linesT_300 hp0
 unfold zaq at h
 refine⟨by omega,fun k=>by rw [if_neg k]at h; exact h,fun k=>?_⟩
 rw [if_pos k]at h
 have hne:0<(zar text).1.length:=by
   unfold zar at k ⊢
   split at k
   · exact absurd k (by decide)
   · next hb=>rw [if_neg hb]; exact List.length_pos_iff.2 (splitF_ne text nlS)
 have hI:∀ l:List ByteArray,l.length<=301->(∀ z∈l,z.size<=300)->ParI 301 [] l:=fun l a b=>⟨by simpa using a,by simp,b⟩
 refine⟨⟨by omega,by omega⟩,fun c=>⟨fun d=>?_,fun d=>⟨⟨by omega,by omega,by omega⟩,?_⟩⟩,fun c=>?_⟩
 · rw [if_pos c,if_neg d]at h; exact h
 · rw [if_pos c,if_pos d]at h
   have e:zbc (zar text).1 1 ((zar text).1.length:Int)=(zar text).1.drop 1:=by simp [zbc]
   rw [e]at h ⊢
   exact par_loop (by have:=parseD_size (cutPreF (gi (zar text).1 0) baseS).1; omega) (hI _ (by rw [List.length_drop]; omega) (fun z hz=>h2 z (List.mem_of_mem_drop hz))) (by rw [List.length_drop]; omega) h
 · rw [if_neg (by rw [c]; decide)]at h
   exact par_loop (by decide) (hI _ h1 h2) (Nat.le_refl _) h
end Go.Lic
set_option linter.all false
namespace Go.Lic
open Go.Proofs Go.Sort
theorem fewWT {l:List Lexeme}(h:fewW l=true):okW l:=by
 unfold fewW at h
 rw [Bool.and_eq_true,decide_eq_true_eq,List.all_eq_true]at h
 exact⟨by omega,fun w hw=>by have:=of_decide_eq_true (h.2 w hw); omega⟩
theorem fewTsT {l:List Text}(h:fewTs l=true):okTs l:=by
 unfold fewTs at h
 rw [Bool.and_eq_true,decide_eq_true_eq,List.all_eq_true]at h
 refine⟨by omega,fun t ht=>?_⟩
 have:=h.2 t ht
 rw [Bool.and_eq_true,decide_eq_true_eq]at this
 exact⟨by omega,fewWT this.1⟩
def exA :Text:=⟨⟨#[97]⟩,[⟨⟨#[120]⟩,0⟩,⟨⟨#[61]⟩,0⟩,⟨⟨#[121]⟩,0⟩,⟨⟨#[43]⟩,0⟩,⟨⟨#[49]⟩,0⟩]⟩
def exB :Text:=⟨⟨#[98]⟩,[⟨⟨#[122]⟩,0⟩,⟨⟨#[61]⟩,0⟩,⟨⟨#[121]⟩,0⟩,⟨⟨#[43]⟩,0⟩,⟨⟨#[50]⟩,0⟩]⟩
theorem exA_norm :zbe ⟨#[97]⟩ ⟨#[120,32,61,32,121,32,43,32,49]⟩ false false=(exA,0):=by decide +kernel
theorem exB_norm :zbe ⟨#[98]⟩ ⟨#[122,32,61,32,121,32,43,32,50]⟩ false false=(exB,0):=by decide +kernel
theorem ex_find :findC [exA,exB] 2 2=([(Clone.mk 0 1 1 1 3)],0):=by decide +kernel
theorem ex_ok :okTs [exA,exB]:=fewTsT (by decide +kernel)
theorem cawake_ok (Q:Bool->Prop) (h:Q (true)):cawake_vc  Q:=by
 unfold cawake_vc
 rw [exA_norm,exB_norm]
 simp only
 rw [ex_find]
 exact⟨by decide,by decide,by decide,by decide,ex_ok,fun _=>by decide,h⟩
theorem inPiece_ok (z:Clone)(y:Piece)(Q:Bool->Prop)(hp0:inI (z.atA+z.len))(hp1:inI (y.at_+y.to))(hp2:inI (y.at_+y.to-y.from_))(hp3:inI (y.from_-z.atB))(hp4:inI (y.at_-z.atA))(h:Q (inPieceF z y)):inPiece_vc z y Q:=⟨fun _=>⟨hp0,hp1,hp2⟩,fun _=>⟨hp3,hp4⟩,h⟩
end Go.Lic
set_option linter.all false
namespace Go.Lic
open Go.Proofs Go.Sort
theorem rest_none {c:Corpus}{t:Text}{least:Int}:∀(l:List Piece) (e:Int),0<=e->e<=t.words.length->checkPs c t least e l=0->coverF l=t.words.length-e->restL t e l=some []
 | [],e,h0,h1,_,hc=>by
   rw [coverF_nil]at hc
   rw [restL,List.drop_eq_nil_of_le (by omega)]; rfl
 | p::l,e,h0,h1,h,hc=>by
   obtain⟨k1,k2,k3⟩:=checkPs_cons.1 h
   obtain⟨⟨r1,r2,r3⟩,_⟩:=(pieceOk_iff _ _ _ _).1 k1
   have hl:=cover_le l p.to r3 k3
   rw [coverF_cons]at hc
   have ih:=rest_none l p.to (by omega) r3 k3 (by omega)
   have he:p.from_=e:=by omega
   rw [restL,if_pos (by rw [Bool.and_eq_true,decide_eq_true_eq]; exact⟨(rangedF_iff _ _).2 ⟨r1,r2,r3⟩,k2⟩),ih,he]
   have:zbc t.words e e= []:=by simp [zbc]
   rw [this]; rfl
theorem full_cover {c:Corpus}{t:Text}(hk:∀ w∈t.words,∃ a:Nat,a<c.texts.length/\∃ i:Nat,∃ h:i<(gi c.texts (a:Int)).words.length,((gi c.texts (a:Int)).words[i]).text=w.text):coverF (piecesF c t 1)=t.words.length:=by
 have key:∀ k:Nat,k<=t.words.length->∃ l:List Piece,checkPs c t 1 0 l=0/\coverF l=k/\∀ q∈l,q.to<=k:=by
   intro k
   induction k with
   |zero=>exact fun _=>⟨[],rfl,rfl,by simp⟩
   | succ k ih=>
     intro hk1
     obtain⟨l,h1,h2,h3⟩:=ih (by omega)
     obtain⟨a,ha,i,hi,e⟩:=hk (t.words[k]) (List.getElem_mem _)
     have hp:pieceOk c t 1 ⟨(k:Int),((k+1:Nat):Int),(a:Int),(i:Int)⟩=true:=by
       rw [pieceOk_iff]
       refine⟨⟨by simp only; omega,by simp only; omega,by simp only; omega⟩,by simp only; omega,⟨by simp only; omega,by simp only; omega⟩,?_⟩
       simp only
       have hw:zbc t.words (k:Int) ((k+1:Nat):Int)= [t.words[k]]:=by
         rw [lsub_eq _ (by omega) (by omega),show(((k+1:Nat):Int)-(k:Int)).toNat=1 by omega,Int.toNat_natCast,List.drop_eq_getElem_cons (by omega)]
         rfl
       rw [hw,sameF_iff]
       refine⟨by omega,by simp only [List.length_singleton]; omega,?_⟩
       rw [Int.toNat_natCast,List.drop_eq_getElem_cons hi]
       show zba (_::_) [_]=1
       simp [zba,e]
     refine⟨l++ [⟨(k:Int),((k+1:Nat):Int),(a:Int),(i:Int)⟩],checkPs_snoc hp l 0 h1 (fun q hq=>h3 q hq) (by simp only; omega),?_,fun q hq=>?_⟩
     · rw [coverF_app,h2,coverF_cons,coverF_nil]; simp only; omega
     · rcases List.mem_append.1 hq with hq|hq
       · have:=h3 q hq; omega
       · rw [List.mem_singleton.1 hq]; exact Int.le_refl _
 obtain⟨l,h1,h2,_⟩:=key t.words.length (Nat.le_refl _)
 have hb:=found_best (c:=c) (t:=t) (least:=1) (by omega) h1
 have hc:=cover_le _ 0 (by omega) (found_right (c:=c) (t:=t) (least:=1) (by omega))
 rw [show(1:Int).toNat=1 from rfl]at hb hc
 omega
theorem unknown_none {c:Corpus}{t:Text}(hv:zbi t=true)(hk:coverF (piecesF c t 1)=t.words.length):unknownF t ⟨t.path,piecesF c t 1⟩=([],0):=by
 have hr:=rest_none (c:=c) (t:=t) (least:=1) (piecesF c t 1) 0 (by omega) (by omega) (found_right (c:=c) (t:=t) (least:=1) (by omega)) (by omega)
 unfold unknownF
 rw [if_pos hv,if_pos rfl,hr]
 show ofF []=([],0)
 decide +kernel
theorem shares_le {c:Corpus}{t:Text}{least:Int}{l:List Piece}(h:checkPs c t least 0 l=0):(shareL c.texts.length l).sum<=t.words.length:=by
 rw [shareL_sum (fun p hp=>((pieceOk_iff _ _ _ _).1 (checkPs_mem l 0 h p hp)).2.2.1)]
 have:=cover_le l 0 (by omega) h
 omega
theorem gi_app_lt {α:Type} [Inhabited α]{l m:List α}{k:Int}(h:inL k l.length):gi (l++m) k=gi l k:=by
 unfold gi
 rw [List.getD_eq_getElem?_getD,List.getD_eq_getElem?_getD,List.getElem?_append_left (by omega)]
theorem gi_app_end {α:Type} [Inhabited α](l:List α)(x:α):gi (l++ [x]) (l.length:Int)=x:=by simp [gi]
theorem common_ge :∀(a b:List Lexeme) (n:Nat),zba a (b.take n)=n->n<=zba a b:=fun a b n h=>by rw [common_takeR]at h; omega
theorem against_has {c:Corpus}{t:Text}(hk:c.k+c.w-1=1)(hz:(zaw c t).2=0){p:Piece}(hp:pieceOk c t 1 p=true):((zaw c t).1).any (fun z=>inPieceF z p)=true:=by
 have hg:zaw c t=zbx (c.texts++ [t]) c.k c.w c.texts.length:=by
   unfold zaw at hz ⊢
   split
   · rfl
   · next h=>rw [if_neg h]at hz; exact absurd hz (by decide)
 rw [hg]at hz ⊢
 have hr:zbx (c.texts++ [t]) c.k c.w c.texts.length=(refL (c.texts++ [t]) 1 c.texts.length,0):=by
   unfold zbx at hz ⊢
   rw [hk]at hz ⊢
   split
   · next h=>rw [if_pos h]at hz; exact absurd hz (by decide)
   · rfl
 rw [hr]
 obtain⟨⟨r1,r2,r3⟩,_,r5,r6⟩:=(pieceOk_iff _ _ _ _).1 hp
 obtain⟨s1,s2,s3⟩:=(sameF_iff _ _ _).1 r6
 have hsl:(zbc t.words p.from_ p.to).length=(p.to-p.from_).toNat:=lsub_length ⟨r1,by omega,r3⟩
 rw [hsl]at s2 s3
 have ea:gi (c.texts++ [t]) p.text=gi c.texts p.text:=gi_app_lt r5
 have eb:gi (c.texts++ [t]) (c.texts.length:Int)=t:=gi_app_end c.texts t
 have hP:OkP (c.texts++ [t]) (⟨p.text,p.at_⟩,⟨(c.texts.length:Int),p.from_⟩):=⟨⟨r5.1,by have:=r5.2; simp only [List.length_append,List.length_singleton]; omega⟩,⟨by simp only; omega,by simp only [List.length_append,List.length_singleton]; omega⟩,s1,by simp only [ea]; omega,r1,by simp only [eb]; omega⟩
 have ht:toP (c.texts++ [t]) (⟨p.text,p.at_⟩,⟨(c.texts.length:Int),p.from_⟩)=toN (gi c.texts p.text).words t.words p.at_.toNat p.from_.toNat:=by unfold toP; simp only [ea,eb]
 have hto:(p.to-p.from_).toNat<=toN (gi c.texts p.text).words t.words p.at_.toNat p.from_.toNat:=by
   rw [lsub_eq _ r1 (by omega)]at s3
   exact common_ge _ _ _ s3
 have hsk:skipF (c.texts.length:Int) (⟨p.text,p.at_⟩:ClonePlace) ⟨(c.texts.length:Int),p.from_⟩=false:=by
   have h1:¬(c.texts.length:Int)=p.text:=by have:=r5.2; omega
   have h2:¬(c.texts.length:Int)<p.text:=by have:=r5.2; omega
   have h3:¬p.text=(c.texts.length:Int):=fun e=>h1 e.symm
   simp only [skipF,Bool.or_eq_false_iff,Bool.and_eq_false_iff,decide_eq_false_iff_not,ClonePlace.mk.injEq]
   exact⟨⟨⟨fun h=>h1 h.1,h2⟩,.inl h1⟩,.inr ⟨fun h=>h rfl,h3⟩⟩
 rw [List.any_eq_true]
 refine⟨_,clone_mem (least:=1) (only:=c.texts.length) hP hsk (by rw [ht]; omega) (by rw [ht]; omega),?_⟩
 unfold cloneP inPieceF
 rw [ht]
 generalize backP (c.texts++ [t]) _=f
 simp only [Bool.and_eq_true,decide_eq_true_eq,beq_iff_eq,true_and]
 refine⟨⟨⟨?_,?_⟩,?_⟩,?_⟩<;>omega
end Go.Lic
