/-
  The conditions of functions of chapters 23 to 26, printed from their code.
-/
import Derived.Test.YtkifpidbpoghlaaGreatDoorCo0
import Derived.Test.YtkifpidbpoghlaaGreatDoorTl
set_option linter.all false
namespace Go.Lic
open Go.Proofs Go.Sort
def blank_vc (c:Int)(Q:Bool->Prop):Prop:=
 Q ((decide (c<=32))||(c==127))
def ixB_L1 (s_:(List Int))(p:Int->Bool)(pD:Int->Prop)(Q:Int->Prop)(again1:Int->Prop)(x:Int):Prop:=
 ((x<(s_.length:Int)->(inL x s_.length/\pD (gi s_ x)/\(((p (gi s_ x))=true->Q x)/\((p (gi s_ x))=false->(inI (x+1)/\again1 (x+1))))))/\(¬ x<(s_.length:Int)->Q (-1)))
def ixB_vc (s_:(List Int))(p:Int->Bool)(pD:Int->Prop)(Q:Int->Prop):Prop:=
 lfp (S:=Int) (fun again1 ss=>ixB_L1 s_ p pD Q again1 ss) 0
def cfB_vc (s_:(List Int))(p:Int->Bool)(pD:Int->Prop)(Q:Bool->Prop):Prop:=
 (s_.length<=9223372036854775807/\(∀ z_∈s_,pD z_)/\Q (decide ((idxOf p s_)>=0)))
def nvalid_L1 (t:Text)(Q:Bool->Prop)(again3:Int×Int->Prop)(least:Int)(x:Int):Prop:=
 ((x<(t.words.length:Int)->(inL x t.words.length/\((¬(gi t.words x).text=(⟨#[]⟩:ByteArray)->(zbl ((gi t.words x).text)).length<=9223372036854775807/\(∀ z_∈(zbl ((gi t.words x).text)),(fun(x0_:Int)=>True) z_))/\((((((gi t.words x).text=(⟨#[]⟩:ByteArray)\/((zbl ((gi t.words x).text)).any (fun(x0_:Int)=>blankF x0_))=true)\/(gi t.words x).line<least)\/(gi t.words x).line>=1024)->Q false)/\((((¬(gi t.words x).text=(⟨#[]⟩:ByteArray)/\((zbl ((gi t.words x).text)).any (fun(x0_:Int)=>blankF x0_))=false)/\¬(gi t.words x).line<least)/\¬(gi t.words x).line>=1024)->(inI (x+1)/\again3 ((gi t.words x).line,(x+1))))))))/\(¬ x<(t.words.length:Int)->Q true))
def nvalid_vc (t:Text)(Q:Bool->Prop):Prop:=
 ((¬(t.words.length:Int)>8192->t.path.size<=1000000)/\((((t.words.length:Int)>8192\/¬(pathF t.path)=0)->Q false)/\((¬(t.words.length:Int)>8192/\(pathF t.path)=0)->lfp (S:=Int×Int) (fun again3 ss=>nvalid_L1 t Q again3 ss.1 ss.2) (0,0))))
def gadd_J1 (Q:Int->Prop)(n:Int):Prop:=
 ((n>=2305843009213693951->(inI (n-2305843009213693951)/\Q (n-2305843009213693951)))/\(¬ n>=2305843009213693951->Q n))
def gadd_vc (a:Int)(b:Int)(Q:Int->Prop):Prop:=
 (inI (a+b)/\(((a+b)>=2305843009213693951->(inI ((a+b)-2305843009213693951)/\gadd_J1 Q ((a+b)-2305843009213693951)))/\(¬(a+b)>=2305843009213693951->gadd_J1 Q (a+b))))
def gmul_vc (a:Int)(b:Int)(Q:Int->Prop):Prop:=
 ((0:Int)<=(IntKind.u64.wrap a)/\(IntKind.u64.wrap a)<=(18446744073709551615:Int)/\(0:Int)<=(IntKind.u64.wrap b)/\(IntKind.u64.wrap b)<=(18446744073709551615:Int)/\((0:Int)<=3/\(0:Int)<=61/\(0:Int)<=(IntKind.i64.wrap (gand .u64 ((mul64F (IntKind.u64.wrap a) (IntKind.u64.wrap b)).2) 2305843009213693951))/\(IntKind.i64.wrap (gand .u64 ((mul64F (IntKind.u64.wrap a) (IntKind.u64.wrap b)).2) 2305843009213693951))<=PR/\(0:Int)<=(IntKind.i64.wrap (gor .u64 (gshl .u64 ((mul64F (IntKind.u64.wrap a) (IntKind.u64.wrap b)).1) 3) (gshr .u64 ((mul64F (IntKind.u64.wrap a) (IntKind.u64.wrap b)).2) 61)))/\(IntKind.i64.wrap (gor .u64 (gshl .u64 ((mul64F (IntKind.u64.wrap a) (IntKind.u64.wrap b)).1) 3) (gshr .u64 ((mul64F (IntKind.u64.wrap a) (IntKind.u64.wrap b)).2) 61)))<=PR/\Q (addP (IntKind.i64.wrap (gand .u64 ((mul64F (IntKind.u64.wrap a) (IntKind.u64.wrap b)).2) 2305843009213693951)) (IntKind.i64.wrap (gor .u64 (gshl .u64 ((mul64F (IntKind.u64.wrap a) (IntKind.u64.wrap b)).1) 3) (gshr .u64 ((mul64F (IntKind.u64.wrap a) (IntKind.u64.wrap b)).2) 61))))))
def gcode_L1 (word:ByteArray)(Q:Int->Prop)(again1:Int×Int->Prop)(c:Int)(x:Int):Prop:=
 ((x<(word.size:Int)->((0:Int)<=257/\257<PR/\(0:Int)<=c/\c<PR/\inL x word.size/\inI ((IntKind.i64.wrap (sgi word x))+1)/\(0:Int)<=(mulP 257 c)/\(mulP 257 c)<=PR/\(0:Int)<=((IntKind.i64.wrap (sgi word x))+1)/\((IntKind.i64.wrap (sgi word x))+1)<=PR/\(inI (x+1)/\again1 ((addP (mulP 257 c) ((IntKind.i64.wrap (sgi word x))+1)),(x+1)))))/\(¬ x<(word.size:Int)->Q c))
def gcode_vc (word:ByteArray)(Q:Int->Prop):Prop:=
 lfp (S:=Int×Int) (fun again1 ss=>gcode_L1 word Q again1 ss.1 ss.2) (0,0)
def gpower_L1 (Q:Int->Prop)(again1:Int×Int×Int->Prop)(n1:Int)(out:Int)(square:Int):Prop:=
 ((n1>0->(((0:Int)<=n1/\(0:Int)<2)/\(((n1 % 2)=1->((0:Int)<=out/\out<PR/\(0:Int)<=square/\square<PR/\((0:Int)<=square/\square<PR/\((((0:Int)<=n1/\(0:Int)<2)/\n1<=9223372036854775807)/\again1 ((n1 / 2),(mulP out square),(mulP square square))))))/\(¬(n1 % 2)=1->((0:Int)<=square/\square<PR/\((((0:Int)<=n1/\(0:Int)<2)/\n1<=9223372036854775807)/\again1 ((n1 / 2),out,(mulP square square))))))))/\(¬ n1>0->Q out))
def gpower_vc (n:Int)(Q:Int->Prop):Prop:=
 lfp (S:=Int×Int×Int) (fun again1 ss=>gpower_L1 Q again1 ss.1 ss.2.1 ss.2.2) (n,1,1000003)
def gpush_vc (hash:Int)(word:ByteArray)(Q:Int->Prop):Prop:=
 ((0:Int)<=1000003/\1000003<PR/\(0:Int)<=hash/\hash<PR/\word.size<=1000000/\(0:Int)<=(codeF word)/\(codeF word)<=PR/\(0:Int)<=1/\1<=PR/\(0:Int)<=(mulP 1000003 hash)/\(mulP 1000003 hash)<=PR/\(0:Int)<=(addP (codeF word) 1)/\(addP (codeF word) 1)<=PR/\Q (addP (mulP 1000003 hash) (addP (codeF word) 1)))
def ghash_L1 (l:(List Lexeme))(Q:Int->Prop)(again1:Int×Int->Prop)(h_:Int)(x:Int):Prop:=
 ((x<(l.length:Int)->(inL x l.length/\((0:Int)<=h_/\h_<PR/\((gi l x).text).size<=1000000/\(inI (x+1)/\again1 ((pushF h_ ((gi l x).text)),(x+1))))))/\(¬ x<(l.length:Int)->Q h_))
def ghash_vc (l:(List Lexeme))(Q:Int->Prop):Prop:=
 lfp (S:=Int×Int) (fun again1 ss=>ghash_L1 l Q again1 ss.1 ss.2) (0,0)
def groll_vc (hash:Int)(out:ByteArray)(in_:ByteArray)(top:Int)(Q:Int->Prop):Prop:=
 (out.size<=1000000/\(0:Int)<=(codeF out)/\(codeF out)<=PR/\(0:Int)<=1/\1<=PR/\(0:Int)<=(addP (codeF out) 1)/\(addP (codeF out) 1)<PR/\(0:Int)<=top/\top<PR/\(inI (2305843009213693951-(mulP (addP (codeF out) 1) top))/\(0:Int)<=hash/\hash<=PR/\(0:Int)<=(2305843009213693951-(mulP (addP (codeF out) 1) top))/\(2305843009213693951-(mulP (addP (codeF out) 1) top))<=PR/\(0:Int)<=(addP hash (2305843009213693951-(mulP (addP (codeF out) 1) top)))/\(addP hash (2305843009213693951-(mulP (addP (codeF out) 1) top)))<PR/\in_.size<=1000000/\Q (pushF (addP hash (2305843009213693951-(mulP (addP (codeF out) 1) top))) in_)))
def ggrams_L1 (l:(List Lexeme))(k:Int)(Q:(List Int)×Int->Prop)(again5:(List Int)×Int->Prop)(out:(List Int))(x:Int):Prop:=
 ((x<((zbc l k (l.length:Int)).length:Int)->(inL x (zbc l k (l.length:Int)).length/\(inL x out.length/\inL x l.length/\(0:Int)<=(gi out x)/\(gi out x)<PR/\((gi l x).text).size<=1000000/\((gi (zbc l k (l.length:Int)) x).text).size<=1000000/\(0:Int)<=(powF (k-1))/\(powF (k-1))<PR/\((out.length+([(rollF (gi out x) ((gi l x).text) ((gi (zbc l k (l.length:Int)) x).text) (powF (k-1)))]:List Int).length)*8<=140737488355328/\out.length+([(rollF (gi out x) ((gi l x).text) ((gi (zbc l k (l.length:Int)) x).text) (powF (k-1)))]:List Int).length<=9223372036854775807)/\(inI (x+1)/\again5 ((out++([(rollF (gi out x) ((gi l x).text) ((gi (zbc l k (l.length:Int)) x).text) (powF (k-1)))]:List Int)),(x+1))))))/\(¬ x<((zbc l k (l.length:Int)).length:Int)->Q (out,0)))
def ggrams_vc (l:(List Lexeme))(k:Int)(Q:(List Int)×Int->Prop):Prop:=
 (((k<1\/k>8192)->Q ([],3))/\((¬ k<1/\¬k>8192)->(((l.length:Int)>8192->Q ([],10))/\(¬(l.length:Int)>8192->(((l.length:Int)<k->Q ([],0))/\(¬(l.length:Int)<k->(inS 0 k l.length/\okW (zbc l 0 k)/\(inI (k-1)/\(0:Int)<=(k-1)/\(k-1)<=(8192:Int)/\(inS k (l.length:Int) l.length/\lfp (S:=(List Int)×Int) (fun again5 ss=>ggrams_L1 l k Q again5 ss.1 ss.2) (([(hashF (zbc l 0 k))]:List Int),0))))))))))
def g24few_L1 (l:(List Lexeme))(Q:Bool->Prop)(again2:Int->Prop)(i:Int):Prop:=
 ((i<(l.length:Int)->(inL i l.length/\(((((gi l i).text).size:Int)>40->Q false)/\(¬(((gi l i).text).size:Int)>40->(inI (i+1)/\again2 (i+1))))))/\(¬ i<(l.length:Int)->Q true))
def g24few_vc (l:(List Lexeme))(Q:Bool->Prop):Prop:=
 (((l.length:Int)>40->Q false)/\(¬(l.length:Int)>40->lfp (S:=Int) (fun again2 ss=>g24few_L1 l Q again2 ss) 0))
def wsize_vc (n:Int)(Q:Bool->Prop):Prop:=
 Q ((decide (n>=1))&&(decide (n<=1024)))
def wselect_J1 (w:Int)(out:(List Int))(x:Int)(again5:(List Int)×(List Int)×Int->Prop)(list_2:(List Int)):Prop:=
 (inI (w-1)/\(x>=(w-1)->(¬(out.length:Int)=0->inI ((out.length:Int)-1)/\inL ((out.length:Int)-1) out.length/\inL 0 list_2.length))/\(((x>=(w-1)/\((out.length:Int)=0\/¬(gi out ((out.length:Int)-1))=(gi list_2 0)))->(inL 0 list_2.length/\((out.length+([(gi list_2 0)]:List Int).length)*8<=140737488355328/\out.length+([(gi list_2 0)]:List Int).length<=9223372036854775807)/\(inI (x+1)/\again5 (list_2,(out++([(gi list_2 0)]:List Int)),(x+1)))))/\((¬ x>=(w-1)\/(¬(out.length:Int)=0/\(gi out ((out.length:Int)-1))=(gi list_2 0)))->(inI (x+1)/\again5 (list_2,out,(x+1))))))
def wselect_L2 (l:(List Int))(w:Int)(out:(List Int))(x:Int)(again5:(List Int)×(List Int)×Int->Prop)(again7:(List Int)->Prop)(list_1:(List Int)):Prop:=
 (((list_1.length:Int)>0->inI ((list_1.length:Int)-1)/\inL ((list_1.length:Int)-1) list_1.length/\inL (gi list_1 ((list_1.length:Int)-1)) l.length/\inL x l.length)/\((((list_1.length:Int)>0/\(gi l (gi list_1 ((list_1.length:Int)-1)))>=(gi l x))->(inI ((list_1.length:Int)-1)/\inS 0 ((list_1.length:Int)-1) list_1.length/\again7 (zbc list_1 0 ((list_1.length:Int)-1))))/\((¬(list_1.length:Int)>0\/¬(gi l (gi list_1 ((list_1.length:Int)-1)))>=(gi l x))->(((list_1.length+([x]:List Int).length)*8<=140737488355328/\list_1.length+([x]:List Int).length<=9223372036854775807)/\(inL 0 (list_1++([x]:List Int)).length/\inI (x-w)/\(((gi (list_1++([x]:List Int)) 0)<=(x-w)->(inS 1 ((list_1++([x]:List Int)).length:Int) (list_1++([x]:List Int)).length/\wselect_J1 w out x again5 (zbc (list_1++([x]:List Int)) 1 ((list_1++([x]:List Int)).length:Int))))/\(¬(gi (list_1++([x]:List Int)) 0)<=(x-w)->wselect_J1 w out x again5 (list_1++([x]:List Int)))))))))
def wselect_L1 (l:(List Int))(w:Int)(Q:(List Int)×Int->Prop)(again5:(List Int)×(List Int)×Int->Prop)(list_:(List Int))(out:(List Int))(x:Int):Prop:=
 ((x<(l.length:Int)->lfp (S:=(List Int)) (fun again7 ss=>wselect_L2 l w out x again5 again7 ss) list_)/\(¬ x<(l.length:Int)->Q (out,0)))
def wselect_vc (l:(List Int))(w:Int)(Q:(List Int)×Int->Prop):Prop:=
 (((zbs w)=false->Q ([],3))/\((zbs w)=true->(((l.length:Int)>8192->Q ([],10))/\(¬(l.length:Int)>8192->lfp (S:=(List Int)×(List Int)×Int) (fun again5 ss=>wselect_L1 l w Q again5 ss.1 ss.2.1 ss.2.2) (([]:List Int),([]:List Int),0)))))
def wprints_L1 (t:Text)(k:Int)(w:Int)(Q:(List Print)×Int->Prop)(again7:(List Print)×Int->Prop)(out:(List Print))(x:Int):Prop:=
 ((x<(((zbu ((zbt t.words k).1) w).1).length:Int)->(inL x ((zbu ((zbt t.words k).1) w).1).length/\(inL (gi ((zbu ((zbt t.words k).1) w).1) x) ((zbt t.words k).1).length/\((out.length+([(Print.mk (gi ((zbt t.words k).1) (gi ((zbu ((zbt t.words k).1) w).1) x)) (gi ((zbu ((zbt t.words k).1) w).1) x))]:List Print).length)*16<=140737488355328/\out.length+([(Print.mk (gi ((zbt t.words k).1) (gi ((zbu ((zbt t.words k).1) w).1) x)) (gi ((zbu ((zbt t.words k).1) w).1) x))]:List Print).length<=9223372036854775807)/\(inI (x+1)/\again7 ((out++([(Print.mk (gi ((zbt t.words k).1) (gi ((zbu ((zbt t.words k).1) w).1) x)) (gi ((zbu ((zbt t.words k).1) w).1) x))]:List Print)),(x+1))))))/\(¬ x<(((zbu ((zbt t.words k).1) w).1).length:Int)->Q (out,0)))
def wprints_vc (t:Text)(k:Int)(w:Int)(Q:(List Print)×Int->Prop):Prop:=
 (okT t/\(((zbi t)=false->Q ([],1))/\((zbi t)=true->((((zbs k)=false\/(zbs w)=false)->Q ([],3))/\(((zbs k)=true/\(zbs w)=true)->(okW t.words/\((¬(zbt t.words k).2=0->Q ([],(zbt t.words k).2))/\((zbt t.words k).2=0->(((zbt t.words k).1).length<=1000000/\((¬(zbu ((zbt t.words k).1) w).2=0->Q ([],(zbu ((zbt t.words k).1) w).2))/\((zbu ((zbt t.words k).1) w).2=0->lfp (S:=(List Print)×Int) (fun again7 ss=>wprints_L1 t k w Q again7 ss.1 ss.2) (([]:List Print),0))))))))))))
def wguar_vc (k:Int)(w:Int)(Q:Int×Int->Prop):Prop:=
 ((((zbs k)=false\/(zbs w)=false)->Q (0,3))/\(((zbs k)=true/\(zbs w)=true)->(inI (k+w)/\inI ((k+w)-1)/\Q (((k+w)-1),0))))
def ccompare_vc (a:Pst)(b:Pst)(Q:Int->Prop):Prop:=
 (([(cmpI a.hash b.hash),(cmpI a.text b.text),(cmpI a.at_ b.at_)]:List Int).length<=9223372036854775807/\Q (orF ([(cmpI a.hash b.hash),(cmpI a.text b.text),(cmpI a.at_ b.at_)]:List Int)))
def csize_vc (n:Int)(Q:Bool->Prop):Prop:=
 Q ((decide (n>=1))&&(decide (n<=1024)))
def sortiP_L2 (data:(List Pst))(a:Int)(p:Pst->Pst->Int)(pD:Pst->Pst->Prop)(i:Int)(again1:Int->Prop)(again3:Unit->Prop):Prop:=
 ((i>a->inL i data.length/\inI (i-1)/\inL (i-1) data.length/\pD (gi data i) (gi data (i-1)))/\(((i>a/\(p (gi data i) (gi data (i-1)))<0)->False)/\((¬ i>a\/¬(p (gi data i) (gi data (i-1)))<0)->(inI (i+1)/\again1 (i+1)))))
def sortiP_L1 (data:(List Pst))(a:Int)(b:Int)(p:Pst->Pst->Int)(pD:Pst->Pst->Prop)(Q:Unit->Prop)(again1:Int->Prop)(i:Int):Prop:=
 ((i<b->lfp (S:=Unit) (fun again3 ss=>sortiP_L2 data a p pD i again1 again3) ())/\(¬ i<b->Q ()))
def sortiP_vc (data:(List Pst))(a:Int)(b:Int)(p:Pst->Pst->Int)(pD:Pst->Pst->Prop)(Q:Unit->Prop):Prop:=
 (inI (a+1)/\lfp (S:=Int) (fun again1 ss=>sortiP_L1 data a b p pD Q again1 ss) (a+1))
def sortpP_L1 (data:(List Pst))(a:Int)(b:Int)(limit:Int)(Q:Unit->Prop)(again1:Unit->Prop):Prop:=
 (inI (b-a)/\(((b-a)<=12->(data=([]:List Pst)/\a=(0:Int)/\b=(0:Int)/\Q ()))/\(¬(b-a)<=12->((limit=0->False)/\(¬ limit=0->False)))))
def sortpP_vc (data:(List Pst))(a:Int)(b:Int)(limit:Int)(p:Pst->Pst->Int)(pD:Pst->Pst->Prop)(Q:Unit->Prop):Prop:=
 lfp (S:=Unit) (fun again1 ss=>sortpP_L1 data a b limit Q again1) ()
def sort0P_vc (x:(List Pst))(p:Pst->Pst->Int)(pD:Pst->Pst->Prop)(Q:Unit->Prop):Prop:=
 ((0:Int)<=(IntKind.u64.wrap (x.length:Int))/\(IntKind.u64.wrap (x.length:Int))<=(18446744073709551615:Int)/\x=([]:List Pst)/\0=(0:Int)/\(x.length:Int)=(0:Int)/\Q ())
def cposts_L2 (texts:(List Text))(k:Int)(w:Int)(x:Int)(again2:(List Pst)×Int->Prop)(again5:(List Pst)×Int->Prop)(out1:(List Pst))(x1:Int):Prop:=
 ((x1<(((zak (gi texts x) k w).1).length:Int)->(inL x1 ((zak (gi texts x) k w).1).length/\(((out1.length+([(Pst.mk ((gi ((zak (gi texts x) k w).1) x1).hash) x ((gi ((zak (gi texts x) k w).1) x1).at_))]:List Pst).length)*24<=140737488355328/\out1.length+([(Pst.mk ((gi ((zak (gi texts x) k w).1) x1).hash) x ((gi ((zak (gi texts x) k w).1) x1).at_))]:List Pst).length<=9223372036854775807)/\(inI (x1+1)/\again5 ((out1++([(Pst.mk ((gi ((zak (gi texts x) k w).1) x1).hash) x ((gi ((zak (gi texts x) k w).1) x1).at_))]:List Pst)),(x1+1))))))/\(¬ x1<(((zak (gi texts x) k w).1).length:Int)->(inI (x+1)/\again2 (out1,(x+1)))))
def cposts_L1 (texts:(List Text))(k:Int)(w:Int)(Q:(List Pst)->Prop)(again2:(List Pst)×Int->Prop)(out:(List Pst))(x:Int):Prop:=
 ((x<(texts.length:Int)->(inL x texts.length/\(okT (gi texts x)/\lfp (S:=(List Pst)×Int) (fun again5 ss=>cposts_L2 texts k w x again2 again5 ss.1 ss.2) (out,0))))/\(¬ x<(texts.length:Int)->((SWO (ltOf postCmp)/\out.length<4611686018427387904)/\Q (sortF postCmp out))))
def cposts_vc (texts:(List Text))(k:Int)(w:Int)(Q:(List Pst)->Prop):Prop:=
 lfp (S:=(List Pst)×Int) (fun again2 ss=>cposts_L1 texts k w Q again2 ss.1 ss.2) (([]:List Pst),0)
def eqPosts_L1 (s1:(List Pst))(s2:(List Pst))(Q:Bool->Prop)(again2:Int->Prop)(x:Int):Prop:=
 ((x<(s1.length:Int)->(inL x s1.length/\inL x s2.length/\(((eqPst (gi s1 x) (gi s2 x))=false->Q false)/\((eqPst (gi s1 x) (gi s2 x))=true->(inI (x+1)/\again2 (x+1))))))/\(¬ x<(s1.length:Int)->Q true))
def eqPosts_vc (s1:(List Pst))(s2:(List Pst))(Q:Bool->Prop):Prop:=
 ((¬(s1.length:Int)=(s2.length:Int)->Q false)/\((s1.length:Int)=(s2.length:Int)->lfp (S:=Int) (fun again2 ss=>eqPosts_L1 s1 s2 Q again2 ss) 0))
def ccheck_L1 (c:Corpus)(Q:Int->Prop)(again4:Int->Prop)(x:Int):Prop:=
 ((x<(c.texts.length:Int)->(inL x c.texts.length/\(okT (gi c.texts x)/\(((zbi (gi c.texts x))=false->Q 1)/\((zbi (gi c.texts x))=true->((x>0->inI (x-1)/\inL (x-1) c.texts.length)/\(((x>0/\(sless ((gi c.texts x).path) ((gi c.texts (x-1)).path)||decide ((gi c.texts x).path=(gi c.texts (x-1)).path))=true)->Q 5)/\((¬ x>0\/(sless ((gi c.texts x).path) ((gi c.texts (x-1)).path)||decide ((gi c.texts x).path=(gi c.texts (x-1)).path))=false)->(inI (x+1)/\again4 (x+1))))))))))/\(¬ x<(c.texts.length:Int)->(okTs c.texts/\c.posts.length<=9223372036854775807/\(((decide (c.posts=(postsF c.texts c.k c.w)))=false->Q 9)/\((decide (c.posts=(postsF c.texts c.k c.w)))=true->Q 0)))))
def ccheck_vc (c:Corpus)(Q:Int->Prop):Prop:=
 ((((zbs c.k)=false\/(zbs c.w)=false)->Q 3)/\(((zbs c.k)=true/\(zbs c.w)=true)->(((c.texts.length:Int)>64->Q 10)/\(¬(c.texts.length:Int)>64->lfp (S:=Int) (fun again4 ss=>ccheck_L1 c Q again4 ss) 0))))
def cnew_vc (k:Int)(w:Int)(Q:Corpus×Int->Prop):Prop:=
 ((((zbs k)=false\/(zbs w)=false)->Q ((Corpus.mk 0 0 [] []),3))/\(((zbs k)=true/\(zbs w)=true)->Q ((Corpus.mk k w [] []),0)))
def cfind1_vc (t:Text)(p:ByteArray)(Q:Int->Prop):Prop:=
 Q (cmpB t.path p)
def cbsearch_L1 (x:(List Text))(target:ByteArray)(p:Text->ByteArray->Int)(pD:Text->ByteArray->Prop)(Q:Int×Bool->Prop)(again1:Int×Int->Prop)(i:Int)(j:Int):Prop:=
 ((i<j->(inI (i+j)/\(0:Int)<=1/\(inL (IntKind.i64.wrap (gshr .u64 (IntKind.u64.wrap (i+j)) 1)) x.length/\pD (gi x (IntKind.i64.wrap (gshr .u64 (IntKind.u64.wrap (i+j)) 1))) target/\(((p (gi x (IntKind.i64.wrap (gshr .u64 (IntKind.u64.wrap (i+j)) 1))) target)<0->(inI ((IntKind.i64.wrap (gshr .u64 (IntKind.u64.wrap (i+j)) 1))+1)/\again1 (((IntKind.i64.wrap (gshr .u64 (IntKind.u64.wrap (i+j)) 1))+1),j)))/\(¬(p (gi x (IntKind.i64.wrap (gshr .u64 (IntKind.u64.wrap (i+j)) 1))) target)<0->again1 (i,(IntKind.i64.wrap (gshr .u64 (IntKind.u64.wrap (i+j)) 1))))))))/\(¬ i<j->((i<(x.length:Int)->inL i x.length/\pD (gi x i) target)/\Q (i,((decide (i<(x.length:Int)))&&((p (gi x i) target)==0))))))
def cbsearch_vc (x:(List Text))(target:ByteArray)(p:Text->ByteArray->Int)(pD:Text->ByteArray->Prop)(Q:Int×Bool->Prop):Prop:=
 lfp (S:=Int×Int) (fun again1 ss=>cbsearch_L1 x target p pD Q again1 ss.1 ss.2) (0,(x.length:Int))
def cfind_vc (texts:(List Text))(path:ByteArray)(Q:Int×Bool->Prop):Prop:=
 (texts.length<=1000000/\texts.Pairwise TLt/\(∀ y_ z_,(fun(x0_:Text) (x1_:ByteArray)=>(cmpB x0_.path x1_)) y_ z_=cmpB y_.path z_)/\(∀ y_ z_,(fun(x0_:Text) (x1_:ByteArray)=>True) y_ z_)/\Q ((findT texts path).1,(findT texts path).2))
def cclone_vc (s_:(List Lexeme))(Q:(List Lexeme)->Prop):Prop:=
 (∀ isnil:Bool,(isnil=true->s_= [])->((isnil=true->Q [])/\(isnil=false->(((([]:List Lexeme).length+s_.length)*24<=140737488355328/\([]:List Lexeme).length+s_.length<=9223372036854775807)/\Q (([]:List Lexeme)++s_)))))
def cwith_L1 (c:Corpus)(texts:(List Text))(Q:Corpus->Prop)(again4:(List Text)×Int->Prop)(own_:(List Text))(x:Int):Prop:=
 ((x<(texts.length:Int)->(inL x texts.length/\(((gi texts x).words).length<=1000000/\((own_.length+([(Text.mk ((gi texts x).path) ((gi texts x).words))]:List Text).length)*40<=140737488355328/\own_.length+([(Text.mk ((gi texts x).path) ((gi texts x).words))]:List Text).length<=9223372036854775807)/\(inI (x+1)/\again4 ((own_++([(Text.mk ((gi texts x).path) ((gi texts x).words))]:List Text)),(x+1))))))/\(¬ x<(texts.length:Int)->(okTs own_/\Q (Corpus.mk c.k c.w own_ (postsF own_ c.k c.w)))))
def cwith_vc (c:Corpus)(texts:(List Text))(Q:Corpus->Prop):Prop:=
 lfp (S:=(List Text)×Int) (fun again4 ss=>cwith_L1 c texts Q again4 ss.1 ss.2) (([]:List Text),0)
def growT_vc (n:Int)(Q:(List Text)->Prop):Prop:=
 ((n<0->False)/\(¬ n<0->(inI ((0:Int)-0)/\inI (n-((0:Int)-0))/\(((n-((0:Int)-0))>0->((0<(n-((0:Int)-0))/\(n-((0:Int)-0))*40<=140737488355328/\(n-((0:Int)-0))<=9223372036854775807)/\inS 0 0 (List.replicate (Int.toNat (n-((0:Int)-0))) (Text.mk ByteArray.empty [])).length/\Q (zbc (List.replicate (Int.toNat (n-((0:Int)-0))) (Text.mk ByteArray.empty [])) 0 0)))/\(¬(n-((0:Int)-0))>0->Q ([]:List Text))))))
def concatT_L2 (slices:(List (List Text)))(Q:(List Text)->Prop)(again7:(List Text)×Int->Prop)(newslice:(List Text))(x1:Int):Prop:=
 ((x1<(slices.length:Int)->(inL x1 slices.length/\(((newslice.length+(gi slices x1).length)*40<=140737488355328/\newslice.length+(gi slices x1).length<=9223372036854775807)/\(inI (x1+1)/\again7 ((newslice++(gi slices x1)),(x1+1))))))/\(¬ x1<(slices.length:Int)->Q newslice))
def concatT_L1 (slices:(List (List Text)))(Q:(List Text)->Prop)(again1:Int×Int->Prop)(size:Int)(x:Int):Prop:=
 ((x<(slices.length:Int)->(inL x slices.length/\(inI (size+((gi slices x).length:Int))/\(((size+((gi slices x).length:Int))<0->False)/\(¬(size+((gi slices x).length:Int))<0->(inI (x+1)/\again1 ((size+((gi slices x).length:Int)),(x+1))))))))/\(¬ x<(slices.length:Int)->((0:Int)<=size/\size<=(1000000:Int)/\lfp (S:=(List Text)×Int) (fun again7 ss=>concatT_L2 slices Q again7 ss.1 ss.2) ((growTF size),0))))
def concatT_vc (slices:(List (List Text)))(Q:(List Text)->Prop):Prop:=
 lfp (S:=Int×Int) (fun again1 ss=>concatT_L1 slices Q again1 ss.1 ss.2) (0,0)
def cadd_vc (c:Corpus)(t:Text)(Q:Corpus×Int->Prop):Prop:=
 (okC c/\((checkF c)=0->okT t)/\(((¬(checkF c)=0\/(zbi t)=false)->Q ((Corpus.mk 0 0 [] []),1))/\(((checkF c)=0/\(zbi t)=true)->(c.texts.length<=1000000/\c.texts.Pairwise TLt/\(((findT c.texts t.path).2=true->Q ((Corpus.mk 0 0 [] []),6))/\((findT c.texts t.path).2=false->(((c.texts.length:Int)=64->Q ((Corpus.mk 0 0 [] []),10))/\(¬(c.texts.length:Int)=64->(t.words.length<=1000000/\(inS 0 ((findT c.texts t.path).1) c.texts.length/\inS ((findT c.texts t.path).1) (c.texts.length:Int) c.texts.length/\([(zbc c.texts 0 ((findT c.texts t.path).1)),([(Text.mk t.path t.words)]:List Text),(zbc c.texts ((findT c.texts t.path).1) (c.texts.length:Int))]:List (List Text)).length<=10/\(List.flatten ([(zbc c.texts 0 ((findT c.texts t.path).1)),([(Text.mk t.path t.words)]:List Text),(zbc c.texts ((findT c.texts t.path).1) (c.texts.length:Int))]:List (List Text))).length<=1000000/\okTs (List.flatten ([(zbc c.texts 0 ((findT c.texts t.path).1)),([(Text.mk t.path t.words)]:List Text),(zbc c.texts ((findT c.texts t.path).1) (c.texts.length:Int))]:List (List Text)))/\Q ((zay (List.flatten ([(zbc c.texts 0 ((findT c.texts t.path).1)),([(Text.mk t.path t.words)]:List Text),(zbc c.texts ((findT c.texts t.path).1) (c.texts.length:Int))]:List (List Text))) c.k c.w),0)))))))))))
def c26fewt_L1 (l:(List Text))(Q:Bool->Prop)(again2:Int->Prop)(i:Int):Prop:=
 ((i<(l.length:Int)->(inL i l.length/\((((fewW ((gi l i).words))=false\/(((gi l i).path).size:Int)>200)->Q false)/\(((fewW ((gi l i).words))=true/\¬(((gi l i).path).size:Int)>200)->(inI (i+1)/\again2 (i+1))))))/\(¬ i<(l.length:Int)->Q true))
def c26fewt_vc (l:(List Text))(Q:Bool->Prop):Prop:=
 (((l.length:Int)>5->Q false)/\(¬(l.length:Int)>5->lfp (S:=Int) (fun again2 ss=>c26fewt_L1 l Q again2 ss) 0))
end Go.Lic
set_option linter.all false
namespace Go.Lic
open Go.Proofs Go.Sort Go.Shelf
theorem anyI {α:Type} [Inhabited α]{p:α->Bool}{l:List α}:l.any p=true↔∃ j:Int,inL j l.length/\p (gi l j)=true:=by
 rw [List.any_eq_true]
 constructor
 · rintro⟨x,hx,hp⟩
   obtain⟨i,hi,rfl⟩:=List.getElem_of_mem hx
   exact⟨i,by omega,by rw [gi_nat hi]; exact hp⟩
 · rintro⟨j,hj,hp⟩
   exact⟨_,gi_mem hj,hp⟩
theorem sbytes_gi {s:ByteArray}{k:Int}(h:inL k s.size):gi (zbl s) k=sgi s k:=by
 have hl:k.toNat<s.data.toList.length:=by rw [<- size_list]; omega
 rw [gi_lt (by rw [sbytes_len]; exact h)]
 unfold zbl sgi
 rw [List.getElem_map,List.getD_eq_getElem?_getD,List.getElem?_eq_getElem hl]; rfl
theorem blank_ok (c:Int)(Q:Bool->Prop)(h:Q (blankF c)):blank_vc c Q:=by
 unfold blank_vc; rw [int_beq]; exact h
theorem ixB_ok (s_:(List Int))(p:Int->Bool)(pD:Int->Prop)(Q:Int->Prop)(hp0:s_.length<=9223372036854775807)(hp1:∀ x∈s_,pD x)(h:Q ((idxOf p s_))):ixB_vc s_ p pD Q:=ix_gen s_ p pD Q hp0 hp1 h
theorem cfB_ok (s_:(List Int))(p:Int->Bool)(pD:Int->Prop)(Q:Bool->Prop)(hp0:s_.length<=9223372036854775807)(hp1:∀ x∈s_,pD x)(h:Q ((s_.any p))):cfB_vc s_ p pD Q:=⟨hp0,hp1,by rw [idx_nn]; exact h⟩
theorem wordF_iff (least:Int)(w:Lexeme):wordF least w=true↔¬w.text=(⟨#[]⟩:ByteArray)/\(zbl w.text).any blankF=false/\least<=w.line/\w.line<1024:=by
 unfold wordF
 rw [empty_iff]
 simp only [Bool.and_eq_true,decide_eq_true_eq,Bool.not_eq_true',and_assoc]
 constructor
 · rintro⟨h1,h2⟩; exact⟨by omega,h2⟩
 · rintro⟨h1,h2⟩; exact⟨by omega,h2⟩
theorem pathF_zero (s:ByteArray):pathF s=0↔pathB s=true:=by unfold pathF; cases pathB s<;>simp
theorem nvalid_ok (t:Text)(Q:Bool->Prop)(hp0:okT t)(h:Q (zbi t)):nvalid_vc t Q:=by
 unfold zbi at h
 refine⟨fun _=>hp0.1,fun hb=>?_,fun hg=>?_⟩
 · have e:(decide (t.words.length<=8192)&&pathB t.path)=false:=by
     rw [Bool.and_eq_false_iff,decide_eq_false_iff_not]
     rcases hb with hb|hb
     · left; omega
     · right; rw [pathF_zero]at hb; simpa using hb
   rw [e,Bool.false_and]at h; exact h
 · rw [decide_eq_true (by omega),(pathF_zero _).1 hg.2,Bool.true_and,Bool.true_and]at h
   refine lfp2 (nvalid_L1 t Q) (fun least x=>0<=x/\x<=t.words.length/\wordsF least (t.words.drop x.toNat)=wordsF 0 t.words) (fun _ x=>(t.words.length-x).toNat) (fun least x hst again hag=>?_) ⟨by simp,by simp,rfl⟩
   obtain⟨h0,h1,h2⟩:=hst
   refine⟨fun hlt=>?_,fun hn=>?_⟩
   · rw [zbn (by omega),wordsF]at h2
     have hw:=hp0.2.2 _ (gi_mem (l:=t.words) (i:=x) (by omega))
     refine⟨by omega,fun _=>⟨by rw [sbytes_len]; omega,fun _ _=>trivial⟩,fun hbad=>?_,fun hgood=>⟨by omega,hag _ _ ⟨by omega,by omega,?_⟩ (by omega)⟩⟩
     · have e:wordF least (gi t.words x)=false:=by
         cases hw2:wordF least (gi t.words x)with
         |false=>rfl
         | true=>
           obtain⟨k1,k2,k3,k4⟩:=(wordF_iff _ _).1 hw2
           rcases hbad with((hb|hb)|hb)|hb
           · exact absurd hb k1
           · have k2':(zbl (gi t.words x).text).any (fun x0_=>blankF x0_)=false:=k2
             rw [k2']at hb; cases hb
           · omega
           · omega
       rw [e,Bool.false_and]at h2
       rw [<- h2]at h; exact h
     · have e:wordF least (gi t.words x)=true:=(wordF_iff _ _).2 ⟨hgood.1.1.1,hgood.1.1.2,by omega,by omega⟩
       rw [e,Bool.true_and]at h2; exact h2
   · rw [zbv hn,wordsF]at h2
     rw [<- h2]at h; exact h
theorem gadd_ok (a:Int)(b:Int)(Q:Int->Prop)(hp0:(0:Int)<=a)(hp1:a<=PR)(hp2:(0:Int)<=b)(hp3:b<=PR)(h:Q (addP a b)):gadd_vc a b Q:=by
 rw [addP_small ⟨hp0,hp1⟩ ⟨hp2,hp3⟩]at h
 have hPR:PR=2305843009213693951:=rfl
 refine⟨by omega,fun hge=>⟨by omega,fun hge2=>⟨by omega,?_⟩,fun hlt2=>?_⟩,fun hlt=>⟨fun hge2=>by omega,fun _=>?_⟩⟩
 · rw [if_pos hge,if_pos hge2]at h; exact h
 · rw [if_pos hge,if_neg hlt2]at h; exact h
 · rw [if_neg hlt]at h; exact h
theorem wrapu64 {x:Int}(h:0<=x/\x<18446744073709551616):IntKind.u64.wrap x=x:=by
 unfold IntKind.wrap
 simp [IntKind.signed,IntKind.bits]
 omega
theorem gand61 {x:Int}(h:0<=x/\x<18446744073709551616):gand .u64 x 2305843009213693951=x % 2305843009213693952:=by
 obtain⟨n,rfl⟩:=Int.eq_ofNat_of_zero_le h.1
 have hn:n<2 ^ 64:=by have:=h.2; omega
 unfold gand
 have e:(BitVec.ofInt IntKind.u64.bits (n:Int) &&& BitVec.ofInt IntKind.u64.bits 2305843009213693951).toNat=n % 2 ^ 61:=by
   show(BitVec.ofInt 64 (n:Int) &&& BitVec.ofInt 64 2305843009213693951).toNat=n % 2 ^ 61
   rw [BitVec.toNat_and]
   have e1:(BitVec.ofInt 64 (n:Int)).toNat=n:=by
     rw [BitVec.ofInt_natCast,BitVec.toNat_ofNat]; exact Nat.mod_eq_of_lt hn
   have e2:(BitVec.ofInt 64 2305843009213693951).toNat=2 ^ 61-1:=by decide
   rw [e1,e2,Nat.and_two_pow_sub_one_eq_mod]
 rw [e,wrapu64 (by omega)]
 omega
theorem gshl3 {x:Int}(h:0<=x/\x<2305843009213693952):gshl .u64 x 3=8*x:=by
 unfold gshl
 have e:min (Int.toNat 3) IntKind.u64.bits=3:=by decide
 rw [e,wrapu64 (by omega)]
 omega
theorem gshr61 {x:Int}(h:0<=x):gshr .u64 x 61=x / 2305843009213693952:=by
 unfold gshr
 have e:min (Int.toNat 61) IntKind.u64.bits=61:=by decide
 rw [e]
 have e2:(2:Int) ^ 61=2305843009213693952:=by decide
 rw [e2,Int.fdiv_eq_ediv_of_nonneg _ (by decide)]
theorem gor3 {x y:Int}(h:0<=x/\x<2305843009213693952)(hy:0<=y/\y<8):gor .u64 (8*x) y=8*x+y:=by
 obtain⟨n,rfl⟩:=Int.eq_ofNat_of_zero_le h.1
 obtain⟨m,rfl⟩:=Int.eq_ofNat_of_zero_le hy.1
 have hm:m<2 ^ 3:=by omega
 unfold gor
 have e:(BitVec.ofInt IntKind.u64.bits (8*(n:Int)) ||| BitVec.ofInt IntKind.u64.bits (m:Int)).toNat=8*n+m:=by
   show(BitVec.ofInt 64 (8*(n:Int)) ||| BitVec.ofInt 64 (m:Int)).toNat=8*n+m
   rw [BitVec.toNat_or]
   have e1:(BitVec.ofInt 64 (8*(n:Int))).toNat=8*n:=by
     rw [show(8*(n:Int))=((8*n:Nat):Int) by omega,BitVec.ofInt_natCast,BitVec.toNat_ofNat]; exact Nat.mod_eq_of_lt (by omega)
   have e2:(BitVec.ofInt 64 (m:Int)).toNat=m:=by
     rw [BitVec.ofInt_natCast,BitVec.toNat_ofNat]; exact Nat.mod_eq_of_lt (by omega)
   rw [e1,e2,show 8*n=n <<< 3 by rw [Nat.shiftLeft_eq]; omega,<-Nat.shiftLeft_add_eq_or_of_lt hm]
 rw [e,wrapu64 (by omega)]
 omega
theorem gmul_ok (a:Int)(b:Int)(Q:Int->Prop)(hp0:(0:Int)<=a)(hp1:a<PR)(hp2:(0:Int)<=b)(hp3:b<PR)(h:Q (mulP a b)):gmul_vc a b Q:=by
 have hPR:PR=2305843009213693951:=rfl
 unfold gmul_vc
 rw [wrapu64 (x:=a) (by omega),wrapu64 (x:=b) (by omega)]
 have hab:0<=a*b:=Int.mul_nonneg hp0 hp2
 have hab2:a*b<2305843009213693952*2305843009213693952:=by
   rcases Int.lt_or_eq_of_le hp0 with ha|ha
   · have h1:a*b<a*2305843009213693952:=Int.mul_lt_mul_of_pos_left (by omega) ha
     have h2:a*2305843009213693952<2305843009213693952*2305843009213693952:=Int.mul_lt_mul_of_pos_right (by omega) (by decide)
     omega
   · rw [<- ha,Int.zero_mul]; decide
 unfold mul64F mulP at*
 generalize a*b=x at*
 simp only
 have hhi:0<=x / 18446744073709551616/\x / 18446744073709551616<288230376151711744:=by omega
 have hlo:0<=x % 18446744073709551616/\x % 18446744073709551616<18446744073709551616:=by omega
 rw [gand61 hlo,gshl3 (by omega),gshr61 hlo.1,gor3 (by omega) (by omega)]
 have e1:IntKind.i64.wrap (x % 18446744073709551616 % 2305843009213693952)=x % 2305843009213693952:=by
   rw [wrap_small (by omega)]; omega
 have e2:IntKind.i64.wrap (8*(x / 18446744073709551616)+x % 18446744073709551616 / 2305843009213693952)=x / 2305843009213693952:=by
   rw [wrap_small (by omega)]; omega
 rw [e1,e2]
 have e3:addP (x % 2305843009213693952) (x / 2305843009213693952)=x % PR:=fold61 x hab
 rw [e3]
 have hPR:PR=2305843009213693951:=rfl
 exact⟨by omega,by omega,by omega,by omega,by omega,by omega,by omega,by omega,by omega,by omega,h⟩
theorem pow_mod (a:Int):∀ m:Nat,(a % PR) ^ m % PR=a ^ m % PR
 |0=>by simp
 |m+1=>by rw [Int.pow_succ,Int.pow_succ,mul_r,Int.mul_emod,pow_mod a m,<-Int.mul_emod]
theorem sq_pow (a:Int):∀ m:Nat,(a*a) ^ m=a ^ (2*m)
 |0=>by simp
 |m+1=>by rw [Int.pow_succ,sq_pow a m,show 2*(m+1)=2*m+1+1 by omega,Int.pow_succ,Int.pow_succ,Int.mul_assoc]
theorem gpower_ok (n:Int)(Q:Int->Prop)(hp0:(0:Int)<=n)(hp1:n<=(8192:Int))(h:Q (powF n)):gpower_vc n Q:=by
 refine lfp3 (gpower_L1 Q) (fun n1 out sq=>0<=n1/\n1<=8192/\0<=out/\out<PR/\0<=sq/\sq<PR/\(out*sq ^ n1.toNat) % PR=powF n) (fun n1 _ _=>n1.toNat) (fun n1 out sq hst again hag=>?_) ⟨hp0,hp1,by decide,by decide,by decide,by decide,by simp [powF]⟩
 obtain⟨h1,h2,h3,h4,h5,h6,h7⟩:=hst
 have hS:=mulP_bd sq sq; have hO:=mulP_bd out sq
 have keep:∀ o:Int,(o*(mulP sq sq) ^ (n1 / 2).toNat) % PR=(o*sq ^ (2*(n1 / 2).toNat)) % PR:=fun o=>by
   unfold mulP
   rw [Int.mul_emod,pow_mod,<-Int.mul_emod,sq_pow]
 refine⟨fun hpos=>⟨⟨by omega,by decide⟩,fun hodd=>⟨h3,h4,h5,h6,h5,h6,⟨⟨by omega,by decide⟩,by omega⟩,hag _ _ _ ⟨by omega,by omega,hO.1,hO.2,hS.1,hS.2,?_⟩ (by omega)⟩,fun heven=>⟨h5,h6,⟨⟨by omega,by decide⟩,by omega⟩,hag _ _ _ ⟨by omega,by omega,h3,h4,hS.1,hS.2,?_⟩ (by omega)⟩⟩,fun hn=>?_⟩
 · rw [keep,<-h7]
   have e:n1.toNat=2*(n1 / 2).toNat+1:=by omega
   rw [e,Int.pow_succ]
   unfold mulP
   rw [mul_l,Int.mul_assoc,Int.mul_comm sq]
 · rw [keep,<-h7]
   have e:n1.toNat=2*(n1 / 2).toNat:=by omega
   rw [<- e]
 · obtain rfl:n1=0:=by omega
   have e:out*sq ^ (Int.toNat 0)=out:=by simp
   rw [e,mod_small ⟨h3,h4⟩]at h7
   rw [h7]; exact h
theorem code_loop (word:ByteArray)(Q:Int->Prop)(h:Q (codeF word)){x c:Int}(hx:0<=x/\x<=word.size)(he:((zbl word).drop x.toNat).foldl (fun c b=>addP (mulP 257 c) (b+1)) c=codeF word)(hn:¬x<(word.size:Int)):Q c:=by
 rw [zbv (by rw [sbytes_len]; exact hn)]at he
 rw [<- he]at h; exact h
theorem gcode_ok (word:ByteArray)(Q:Int->Prop)(hp0:word.size<=1000000)(h:Q (codeF word)):gcode_vc word Q:=by
 refine lfp2 (gcode_L1 word Q) (fun c x=>0<=x/\x<=word.size/\0<=c/\c<PR/\((zbl word).drop x.toNat).foldl (fun c b=>addP (mulP 257 c) (b+1)) c=codeF word) (fun _ x=>(word.size-x).toNat) (fun c x hst again hag=>?_) ⟨by omega,by omega,by decide,by decide,rfl⟩
 obtain⟨h0,h1,h2,h3,h4⟩:=hst
 have hb:=sgi_bd word x; have hM:=mulP_bd 257 c; have hA:=addP_bd (mulP 257 c) (sgi word x+1)
 refine⟨fun hlt=>?_,fun hn=>code_loop word Q h ⟨h0,h1⟩ h4 hn⟩
 rw [zbn (by rw [sbytes_len]; omega),List.foldl_cons,sbytes_gi (by omega)]at h4
 rw [wrap_small (n:=sgi word x) (by omega)]
 have hPR:PR=2305843009213693951:=rfl
 exact⟨by decide,by decide,h2,h3,by omega,by omega,hM.1,by omega,by omega,by omega,by omega,hag _ _ ⟨by omega,by omega,hA.1,hA.2,h4⟩ (by omega)⟩
theorem gpush_ok (hash:Int)(word:ByteArray)(Q:Int->Prop)(hp0:(0:Int)<=hash)(hp1:hash<PR)(hp2:word.size<=1000000)(h:Q (pushF hash word)):gpush_vc hash word Q:=by
 have h1:=codeF_bd word; have h2:=mulP_bd 1000003 hash; have h3:=addP_bd (codeF word) 1
 have hPR:PR=2305843009213693951:=rfl
 exact⟨by decide,by decide,hp0,hp1,hp2,h1.1,by omega,by decide,by decide,h2.1,by omega,h3.1,by omega,h⟩
theorem ghash_ok (l:(List Lexeme))(Q:Int->Prop)(hp0:okW l)(h:Q (hashF l)):ghash_vc l Q:=by
 refine lfp2 (ghash_L1 l Q) (fun c x=>0<=x/\x<=l.length/\0<=c/\c<PR/\(l.drop x.toNat).foldl (fun h w=>pushF h w.text) c=hashF l) (fun _ x=>(l.length-x).toNat) (fun c x hst again hag=>?_) ⟨by omega,by omega,by decide,by decide,rfl⟩
 obtain⟨h0,h1,h2,h3,h4⟩:=hst
 have hl:=hp0.1
 refine⟨fun hlt=>?_,fun hn=>?_⟩
 · have hA:=pushF_bd c (gi l x).text
   rw [zbn (by omega),List.foldl_cons]at h4
   exact⟨by omega,h2,h3,hp0.2 _ (gi_mem (by omega)),by omega,hag _ _ ⟨by omega,by omega,hA.1,hA.2,h4⟩ (by omega)⟩
 · rw [zbv hn]at h4
   rw [<- h4]at h; exact h
theorem groll_ok (hash:Int)(out:ByteArray)(in_:ByteArray)(top:Int)(Q:Int->Prop)(hp0:(0:Int)<=hash)(hp1:hash<PR)(hp2:out.size<=1000000)(hp3:in_.size<=1000000)(hp4:(0:Int)<=top)(hp5:top<PR)(h:Q (rollF hash out in_ top)):groll_vc hash out in_ top Q:=by
 have h1:=codeF_bd out; have h2:=addP_bd (codeF out) 1; have h3:=mulP_bd (addP (codeF out) 1) top; have h4:=addP_bd hash (2305843009213693951-(mulP (addP (codeF out) 1) top))
 have hPR:PR=2305843009213693951:=rfl
 exact⟨hp2,h1.1,by omega,by decide,by decide,h2.1,h2.2,hp4,hp5,by omega,hp0,by omega,by omega,by omega,h4.1,h4.2,hp3,h⟩
theorem okW_sub {l:List Lexeme}(h:okW l)(a b:Int):okW (zbc l a b):=by
 unfold zbc
 refine⟨?_,fun w hw=>h.2 w (List.mem_of_mem_take (List.mem_of_mem_drop hw))⟩
 have:=h.1
 rw [List.length_drop,List.length_take]; omega
theorem gi_drop {α:Type} [Inhabited α]{l:List α}{k x:Int}(h:0<=k/\0<=x/\k+x<l.length):gi (l.drop k.toNat) x=gi l (k+x):=by
 rw [gi_lt (by rw [List.length_drop]; omega),gi_lt (l:=l) (by omega),List.getElem_drop]
 congr 1; omega
def gramAt (l:List Lexeme)(k i:Nat):Int:=hashF ((l.drop i).take k)
theorem gramsL_eq (l:List Lexeme)(k:Nat):gramsL l k=(List.range (l.length+1-k)).map (gramAt l k):=rfl
theorem gramAt_bd (l:List Lexeme)(k i:Nat):0<=gramAt l k i/\gramAt l k i<PR:=hashF_bd _
theorem gi_range {f:Nat->Int}{n:Nat}{x:Int}(h:inL x n):gi ((List.range n).map f) x=f x.toNat:=by
 rw [gi_lt (by simpa using h)]; simp
theorem gram_roll {l:List Lexeme}{k x:Nat}(hk:1<=k)(hx:x+k<l.length):rollF (gramAt l k x) (gi l (x:Int)).text (gi l ((k:Int)+x)).text (powF ((k:Int)-1))=gramAt l k (x+1):=by
 have e1:(l.drop x).take k=gi l (x:Int)::(l.drop (x+1)).take (k-1):=by
   rw [gi_nat (by omega),List.drop_eq_getElem_cons (l:=l) (i:=x) (by omega)]
   cases k with
   |zero=>omega
   |succ k=>rfl
 have e2:(l.drop (x+1)).take k=(l.drop (x+1)).take (k-1)++ [gi l ((k:Int)+x)]:=by
   have:(l.drop (x+1))[k-1]? =some (gi l ((k:Int)+x)):=by
     rw [List.getElem?_drop,show x+1+(k-1)=k+x by omega,show((k:Int)+x)=((k+x:Nat):Int) by omega,gi_nat (by omega)]
     exact List.getElem?_eq_getElem _
   have h2:=List.take_succ (l:=l.drop (x+1)) (i:=k-1)
   rw [this,show k-1+1=k by omega]at h2
   exact h2
 have hl:((l.drop (x+1)).take (k-1)).length=k-1:=by rw [List.length_take,List.length_drop]; omega
 unfold gramAt
 rw [e1,e2,<-roll_eq,hl,show(((k-1:Nat)):Int)=(k:Int)-1 by omega]
theorem ggrams_ok (l:(List Lexeme))(k:Int)(Q:(List Int)×Int->Prop)(hp0:okW l)(h:Q (zbt l k)):ggrams_vc l k Q:=by
 unfold zbt at h
 refine⟨fun hb=>by rw [if_pos (by omega)]at h; exact h,fun hg=>?_⟩
 rw [if_neg (by omega)]at h
 refine⟨fun hb=>by rw [if_pos (by omega)]at h; exact h,fun hs=>?_⟩
 rw [if_neg (by omega),gramsL_eq]at h
 refine⟨fun hb=>?_,fun hge=>⟨by omega,okW_sub hp0 _ _,by omega,by omega,by omega,by omega,?_⟩⟩
 · rw [show l.length+1-k.toNat=0 by omega]at h; exact h
 · obtain⟨kn,rfl⟩:=Int.eq_ofNat_of_zero_le (show 0<=k by omega)
   rw [Int.toNat_natCast]at h
   have hlen:((zbc l (kn:Int) (l.length:Int)).length:Int)=l.length-kn:=by rw [lsub_from,List.length_drop]; omega
   refine lfp2 (ggrams_L1 l (kn:Int) Q) (fun out x=>0<=x/\x<=l.length-kn/\out=(List.range (x.toNat+1)).map (gramAt l kn)) (fun _ x=>(l.length-x).toNat) (fun out x hst again hag=>?_) ⟨by omega,by omega,?_⟩
   · obtain⟨h0,h1,h2⟩:=hst
     obtain⟨xn,rfl⟩:=Int.eq_ofNat_of_zero_le h0
     subst h2
     rw [Int.toNat_natCast]at*
     refine⟨fun hlt=>?_,fun hn=>?_⟩
     · rw [hlen]at hlt
       have eg:gi ((List.range (xn+1)).map (gramAt l kn)) (xn:Int)=gramAt l kn xn:=by rw [gi_range (by omega),Int.toNat_natCast]
       have el:gi (zbc l (kn:Int) (l.length:Int)) (xn:Int)=gi l ((kn:Int)+xn):=by rw [lsub_from]; exact gi_drop (by omega)
       have hb:=gramAt_bd l kn xn
       rw [eg,el,gram_roll (by omega) (by omega)]
       have hm1:=hp0.2 _ (gi_mem (l:=l) (i:=(xn:Int)) (by omega)); have hm2:=hp0.2 _ (gi_mem (l:=l) (i:=(kn:Int)+xn) (by omega))
       have hpw:0<=powF ((kn:Int)-1)/\powF ((kn:Int)-1)<PR:=mod_bd _
       have hll:((List.range (xn+1)).map (gramAt l kn)).length=xn+1:=by simp
       refine⟨by omega,by rw [hll]; omega,by omega,hb.1,hb.2,hm1,hm2,hpw.1,hpw.2,⟨by rw [hll]; simp; omega,by rw [hll]; simp; omega⟩,by omega,hag _ _ ⟨by omega,by omega,?_⟩ (by omega)⟩
       rw [show((xn:Int)+1).toNat+1=xn+1+1 by omega,List.range_succ (n:=xn+1),List.map_append]
       rfl
     · rw [hlen]at hn
       rw [show l.length+1-kn=xn+1 by omega]at h
       exact h
   · have e:zbc l 0 (kn:Int)=(l.drop 0).take kn:=by rw [lsub_to,Int.toNat_natCast,List.drop_zero]
     rw [e]; rfl
theorem g24few_ok (l:(List Lexeme))(Q:Bool->Prop)(h:Q (fewW l)):g24few_vc l Q:=by
 unfold fewW at h
 refine⟨fun hb=>by rw [decide_eq_false (by omega)]at h; exact h,fun hg=>?_⟩
 rw [decide_eq_true (by omega),Bool.true_and]at h
 refine lfp_of (fun x:Int=>0<=x/\x<=l.length/\(l.drop x.toNat).all (fun w=>decide (w.text.size<=40))=l.all (fun w=>decide (w.text.size<=40))) (fun x=>(l.length-x).toNat) (fun x hst again hag=>?_) ⟨by omega,by omega,rfl⟩
 obtain⟨h0,h1,h2⟩:=hst
 refine⟨fun hlt=>?_,fun hn=>?_⟩
 · rw [zbn (by omega),List.all_cons]at h2
   refine⟨by omega,fun hb=>?_,fun hs=>⟨by omega,hag _ ⟨by omega,by omega,?_⟩ (by omega)⟩⟩
   · rw [decide_eq_false (by omega),Bool.false_and]at h2
     rw [<- h2]at h; exact h
   · rw [decide_eq_true (by omega),Bool.true_and]at h2
     exact h2
 · rw [zbv hn]at h2
   rw [<- h2]at h; exact h
end Go.Lic
set_option linter.all false
namespace Go.Lic
open Go.Proofs Go.Sort Go.Shelf
theorem sizeF_iff (n:Int):zbs n=true↔1<=n/\n<=1024:=by unfold zbs; simp
theorem sizes_iff (k w:Int):(zbs k&&zbs w)=true↔zbs k=true/\zbs w=true:=Bool.and_eq_true_iff
theorem sizes_not {k w:Int}(h:zbs k=false\/zbs w=false):¬(zbs k&&zbs w)=true:=by
 rcases h with h|h<;>simp [h]
theorem wsize_ok (n:Int)(Q:Bool->Prop)(h:Q (zbs n)):wsize_vc n Q:=h
theorem csize_ok (n:Int)(Q:Bool->Prop)(h:Q (zbs n)):csize_vc n Q:=h
theorem wguar_ok (k:Int)(w:Int)(Q:Int×Int->Prop)(h:Q (guarF k w)):wguar_vc k w Q:=by
 unfold guarF at h
 refine⟨fun hb=>?_,fun hg=>?_⟩
 · rw [if_neg (sizes_not hb)]at h; exact h
 · rw [if_pos ((sizes_iff k w).2 hg)]at h
   have h1:=(sizeF_iff k).1 hg.1; have h2:=(sizeF_iff w).1 hg.2
   exact⟨by omega,by omega,h⟩
theorem selN_step (l:List Int){w:Nat}(hw:0<w)(n:Nat):selN l w (n+1)=if((selN l w n).length:Int)=0\/¬gi (selN l w n) (((selN l w n).length:Int)-1)=leastF l n ((n:Int)+w)then selN l w n++ [leastF l n ((n:Int)+w)]else selN l w n:=by
 rw [selN_succ]
 rcases Nat.eq_zero_or_pos n with hn|hn
 · subst hn
   have:selN l w 0= []:=rfl
   rw [this]; simp [selStep]
 · obtain⟨o,ho⟩:=(selN_facts l hw n).2.1 hn
   have hm:leastF l ((n:Int)-1) ((n:Int)-1+w)<=leastF l n ((n:Int)+w):=by
     refine isL_mono (leastF_spec (l:=l) (a:=(n:Int)-1) (b:=(n:Int)-1+w) (by omega)) ?_
     have:=leastF_spec (l:=l) (a:=(n:Int)) (b:=(n:Int)+w) (by omega)
     rwa [show(n:Int)-1+1=n from by omega,show(n:Int)-1+w+1=n+w from by omega]
   rw [ho,selStep_app,gi_last]
   by_cases hlt:leastF l ((n:Int)-1) ((n:Int)-1+w)<leastF l n ((n:Int)+w)
   · rw [if_pos hlt,if_pos (.inr (by omega))]
   · rw [if_neg hlt,if_neg]
     simp only [List.length_append,List.length_singleton]
     omega
theorem asc_len {l:List Int}:∀ {L:List Int} {lo hi:Int},L.Pairwise (fun p q=>p<q/\gi l p<gi l q)->(∀ p∈L,lo<=p/\p<hi)->L.length<=(hi-lo).toNat
 | [],_,_,_,_=>by simp
 | x::L,lo,hi,hp,hb=>by
   obtain⟨h1,h2⟩:=List.pairwise_cons.1 hp
   have hx:=hb x (by simp)
   have:=asc_len (lo:=x+1) (hi:=hi) h2 (fun p hp=>⟨by have:=(h1 p hp).1; omega,(hb p (List.mem_cons_of_mem _ hp)).2⟩)
   simp only [List.length_cons]; omega
theorem wselect_ok (l:(List Int))(w:Int)(Q:(List Int)×Int->Prop)(hp0:l.length<=1000000)(h:Q (zbu l w)):wselect_vc l w Q:=by
 unfold zbu at h
 refine⟨fun hb=>by rw [hb]at h; exact h,fun hg=>?_⟩
 rw [hg,if_pos rfl]at h
 refine⟨fun hb=>by rw [if_pos (by omega)]at h; exact h,fun hs=>?_⟩
 rw [if_neg (by omega)]at h
 have hw:=(sizeF_iff w).1 hg
 obtain⟨wn,rfl⟩:=Int.eq_ofNat_of_zero_le (show 0<=w by omega)
 rw [Int.toNat_natCast,selL_eq]at h
 refine lfp3 (wselect_L1 l (wn:Int) Q) (fun list_ out x=>0<=x/\x<=l.length/\Deq l (max 0 (x-wn)) x list_/\out=selN l wn (x+1-wn).toNat) (fun _ _ x=>(l.length-x).toNat) (fun list_ out x hst again hag=>?_) ⟨by omega,by omega,⟨.nil,(fun p hp=>by cases hp),fun p h1 h2=>by omega⟩,?_⟩
 · obtain ⟨h0,h1,h2,h3⟩:=hst
   have hol:out.length<=1000001:=by rw [h3]; exact Nat.le_trans (selN_len _ _ _) (by omega)
   refine⟨fun hlt=>?_,fun hn=>?_⟩
   · -- what is done with the list, once the new place stands in it
     have J:∀ L2:List Int,Deq l (max 0 (x+1-wn)) (x+1) L2->wselect_J1 (wn:Int) out x again L2:=by
       intro L2 hd
       have hne:L2≠ []:=by
         rintro rfl
         obtain⟨s,hs,_⟩:=hd.dom x (by omega) (by omega)
         cases hs
       obtain⟨hh,L3,rfl⟩:=List.exists_cons_of_ne_nil hne
       have e0:gi (hh::L3) 0=hh:=rfl
       have key:x>=(wn:Int)-1->selN l wn (x+1+1-(wn:Int)).toNat=if(out.length:Int)=0\/¬gi out ((out.length:Int)-1)=hh then out++ [hh]else out:=fun hx=>by
         obtain⟨n,hn⟩:∃ n:Nat,x+1-(wn:Int)=n:=⟨(x+1-wn).toNat,by omega⟩
         have hx1:x+1=(n:Int)+wn:=by omega
         have hst:=selN_step l (w:=wn) (by omega) n
         have hh':hh=leastF l n ((n:Int)+wn):=by
           refine isL_unique (l:=l) ?_ (leastF_spec (by omega))
           have:=hd.head
           rw [hx1,show max 0 ((n:Int)+wn-wn)=n by omega]at this
           exact this
         rw [hn,Int.toNat_natCast]at h3
         rw [show(x+1+1-(wn:Int)).toNat=n+1 by omega,hst,<-hh',<-h3]
       refine⟨by omega,fun hge hne2=>⟨by omega,by omega,by simp; omega⟩,fun hc=>⟨by simp; omega,⟨by simp; omega,by simp; omega⟩,by omega,hag _ _ _ ⟨by omega,by omega,hd,?_⟩ (by omega)⟩,fun hc=>⟨by omega,hag _ _ _ ⟨by omega,by omega,hd,?_⟩ (by omega)⟩⟩
       · rw [e0]at hc ⊢
         rw [key hc.1,if_pos hc.2]
       · rw [e0]at hc
         by_cases hx:x>=(wn:Int)-1
         · rw [key hx,if_neg]
           rintro(hz|hz)
           · rcases hc with hc|hc
             · exact hc hx
             · exact hc.1 hz
           · rcases hc with hc|hc
             · exact hc hx
             · exact hz hc.2
         · rw [h3,show(x+1+1-(wn:Int)).toNat=0 by omega,show(x+1-(wn:Int)).toNat=0 by omega]
     refine lfp_of (fun L=>DeqP l (max 0 (x-wn)) x L) (fun L=>L.length) (fun L hL again7 hag7=>?_) h2.start
     have hin:∀ o t,L=o++ [t]->0<=t/\t<x:=fun o t e=>by have:=hL.inn t (by rw [e]; simp); omega
     have hlen:L.length<=l.length:=by have:=asc_len hL.asc hL.inn; omega
     refine⟨fun hpos=>?_,fun hc=>?_,fun hc=>?_⟩
     · rcases list_last L with rfl|⟨o,t,rfl⟩
       · simp at hpos
       · have:=hin o t rfl
         rw [gi_last]
         exact⟨by omega,by omega,by omega,by omega⟩
     · rcases list_last L with rfl|⟨o,t,rfl⟩
       · simp at hc
       · rw [gi_last]at hc
         have e:zbc (o++ [t]) 0 (((o++ [t]).length:Int)-1)=o:=by rw [lsub_to]; simp
         rw [e]
         exact⟨by omega,by omega,hag7 _ (hL.pop hc.2) (by simp)⟩
     · have hd:Deq l (max 0 (x-wn)) (x+1) (L++ [x]):=by
         refine hL.push (by omega) fun o t e=>?_
         subst e
         rw [gi_last]at hc
         rcases hc with hc|hc
         · exact absurd (by simp) hc
         · omega
       obtain⟨hh,L3,e⟩:∃ a b,L++ [x]=a::b:=by cases L<;>exact⟨_,_,rfl⟩
       have hll:(L++ [x]).length=L.length+1:=by simp
       refine⟨⟨by simp; omega,by simp; omega⟩,by omega,by omega,?_,?_⟩
       · intro hle
         refine⟨by omega,J _ ?_⟩
         rw [e]at hle hd ⊢
         have e0:gi (hh::L3) 0=hh:=rfl
         rw [e0]at hle
         have hsh:=hd.shift
         have hi:=hd.inn hh (by simp)
         rw [if_pos (by omega),show max 0 (x-(wn:Int))+1=max 0 (x+1-wn) by omega]at hsh
         rw [lsub_from]
         exact hsh
       · intro hle
         refine J _ ?_
         rw [e]at hle hd ⊢
         have e0:gi (hh::L3) 0=hh:=rfl
         rw [e0]at hle
         by_cases hz:x-(wn:Int)<0
         · rw [show max 0 (x-(wn:Int))=max 0 (x+1-wn) by omega]at hd
           exact hd
         · have hsh:=hd.shift
           rw [if_neg (by omega),show max 0 (x-(wn:Int))+1=max 0 (x+1-wn) by omega]at hsh
           exact hsh
   · rw [show l.length+1-wn=(x+1-wn).toNat by omega,<-h3]at h
     exact h
 · rw [show((0:Int)+1-wn).toNat=0 by omega]; rfl
theorem selL_len (l:List Int)(w:Nat):(selL l w).length<=l.length+1:=by
 rw [selL_eq]; exact Nat.le_trans (selN_len _ _ _) (by omega)
theorem tk_gi {α:Type} [Inhabited α]{l:List α}{x:Int}(h:inL x l.length):l.take (x+1).toNat=l.take x.toNat++ [gi l x]:=by
 rw [show(x+1).toNat=x.toNat+1 by omega,List.take_succ_eq_append_getElem (by omega),gi_lt h]
theorem tk_end {α:Type}{l:List α}{x:Int}(h:¬x<l.length):l.take x.toNat=l:=List.take_of_length_le (by omega)
theorem prints_len (t:Text)(k w:Int):(zak t k w).1.length<=t.words.length+1:=by
 unfold zak
 split
 · split
   · next h=>
     have h1:=(sizeF_iff k).1 ((sizes_iff _ _).1 h).1
     simp only [printsL,List.length_map]
     have:=selL_len (gramsL t.words k.toNat) w.toNat
     rw [grams_len]at this
     omega
   · simp
 · simp
theorem prints_loop (G S:List Int)(hS:∀ a∈S,inL a G.length)(hl:S.length<=1000001)(Q:(List Print)×Int->Prop)(h:Q (S.map (fun a=>⟨gi G a,a⟩),0))(again:(List Print)×Int->Prop)(out:List Print)(x:Int)(h0:0<=x)(h1:x<=S.length)(h2:out=(S.take x.toNat).map (fun a=>⟨gi G a,a⟩))
   (hag:∀(out':List Print) (x':Int),(0<=x'/\x'<=S.length/\out'=(S.take x'.toNat).map (fun a=>(⟨gi G a,a⟩:Print)))->(S.length-x').toNat<(S.length-x).toNat->again (out',x')):
   ((x<(S.length:Int)->(inL x S.length/\(inL (gi S x) G.length/\((out.length+([(Print.mk (gi G (gi S x)) (gi S x))]:List Print).length)*16<=140737488355328/\out.length+([(Print.mk (gi G (gi S x)) (gi S x))]:List Print).length<=9223372036854775807)/\(inI (x+1)/\again ((out++([(Print.mk (gi G (gi S x)) (gi S x))]:List Print)),(x+1))))))/\(¬ x<(S.length:Int)->Q (out,0))):=by
 have hol:out.length<=1000001:=by rw [h2]; simp; omega
 refine⟨fun hlt=>⟨by omega,hS _ (gi_mem (by omega)),⟨by simp; omega,by simp; omega⟩,by omega,hag _ _ ⟨by omega,by omega,?_⟩ (by omega)⟩,fun hn=>?_⟩
 · rw [tk_gi (by omega),h2,List.map_append]; rfl
 · rw [h2,tk_end hn]; exact h
theorem gramsF_valid {t:Text}{k:Int}(hv:zbi t=true)(hk:zbs k=true):zbt t.words k=(gramsL t.words k.toNat,0):=by
 have h1:=(sizeF_iff k).1 hk
 have h2:t.words.length<=8192:=by
   unfold zbi at hv
   simp only [Bool.and_eq_true,decide_eq_true_eq]at hv
   exact hv.1.1
 unfold zbt
 rw [if_neg (by omega),if_neg (by omega)]
theorem selectF_valid {t:Text}{k w:Int}(hv:zbi t=true)(hk:zbs k=true)(hw:zbs w=true):zbu (gramsL t.words k.toNat) w=(selL (gramsL t.words k.toNat) w.toNat,0):=by
 have h1:=(sizeF_iff k).1 hk
 have h2:t.words.length<=8192:=by
   unfold zbi at hv
   simp only [Bool.and_eq_true,decide_eq_true_eq]at hv
   exact hv.1.1
 unfold zbu
 rw [hw,if_pos rfl,if_neg (by rw [grams_len]; omega)]
theorem wprints_ok (t:Text)(k:Int)(w:Int)(Q:(List Print)×Int->Prop)(hp0:okT t)(h:Q (zak t k w)):wprints_vc t k w Q:=by
 unfold zak at h
 refine⟨hp0,fun hb=>by rw [hb]at h; exact h,fun hv=>?_⟩
 rw [hv,if_pos rfl]at h
 refine⟨fun hb=>by rw [if_neg (sizes_not hb)]at h; exact h,fun hg=>?_⟩
 rw [if_pos ((sizes_iff _ _).2 hg)]at h
 have hG:=gramsF_valid hv hg.1
 have hS:=selectF_valid hv hg.1 hg.2
 have hw:=(sizeF_iff w).1 hg.2
 have hk:=(sizeF_iff k).1 hg.1
 have hl:=selL_len (gramsL t.words k.toNat) w.toNat
 have hgl:=grams_len t.words k.toNat
 have hwl:=hp0.2.1
 have e1:(zbt t.words k).1=gramsL t.words k.toNat:=by rw [hG]
 have e3:(zbt t.words k).2=0:=by rw [hG]
 have e4:(zbu (zbt t.words k).1 w).2=0:=by rw [e1,hS]
 have hm:∀ a∈selL (gramsL t.words k.toNat) w.toNat,inL a (gramsL t.words k.toNat).length:=fun a ha=>selL_bd (by omega) ha
 unfold printsL at h
 refine⟨hp0.2,fun hn=>absurd e3 hn,fun _=>⟨by rw [e1,grams_len]; omega,fun hn=>absurd e4 hn,fun _=>?_⟩⟩
 refine lfp2 (wprints_L1 t k w Q) (fun out x=>0<=x/\x<=(selL (gramsL t.words k.toNat) w.toNat).length/\out=((selL (gramsL t.words k.toNat) w.toNat).take x.toNat).map (fun a=>(⟨gi (gramsL t.words k.toNat) a,a⟩:Print))) (fun _ x=>((selL (gramsL t.words k.toNat) w.toNat).length-x).toNat) (fun out x hst again hag=>?_) ⟨by omega,by omega,rfl⟩
 unfold wprints_L1
 rw [e1,hS]
 exact prints_loop (gramsL t.words k.toNat) (selL (gramsL t.words k.toNat) w.toNat) hm (by omega) Q h again out x hst.1 hst.2.1 hst.2.2 hag
end Go.Lic
