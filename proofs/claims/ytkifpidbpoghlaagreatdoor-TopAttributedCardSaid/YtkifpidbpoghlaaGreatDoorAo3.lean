/-
  Words of texts and patches: plain functions. No program in sight.
-/
import Derived.Test.YtkifpidbpoghlaaGreatDoorTl
import Derived.Lib.AtoiAllCases
import Derived.Lib.Join
import Derived.Lib.IndexMore
import Derived.Test.YtkifpidbpoghlaaGreatDoorV1
import Derived.Test.YtkifpidbpoghlaaGreatDoorKv
import Derived.Test.YtkifpidbpoghlaaGreatDoorCo0
import Derived.Lib.ItoaLen
set_option linter.all false
namespace Go.Lic
open Go.Sort
abbrev nlS :ByteArray:=⟨#[10]⟩
def atoiO (s:ByteArray):Option Int:=match Lib.atoiAll s.data.toList with| .ok v=>some v|_=>none
theorem atoiO_some {s:ByteArray}{v:Int}(h:Lib.atoiAll s.data.toList= .ok v):atoiO s=some v:=by unfold atoiO; rw [h]
theorem atoiO_none {s:ByteArray}(h:∀ u,Lib.atoiAll s.data.toList≠ .ok u):atoiO s=none:=by
 unfold atoiO
 split
 · next v hv=>exact absurd hv (h v)
 · rfl
def digB (c:Int):Bool:=decide (48<=c)&&decide (c<=57)
def wordB (c:Int):Bool:=(decide (97<=c)&&decide (c<=122))||(decide (65<=c)&&decide (c<=90))||digB c||(c==95)
def stopB (r:Int):Bool:=decide (r>126)||(!(wordB (IntKind.u8.wrap r)))
abbrev wordC (c:UInt8):Bool:=wordB (c.toNat:Int)
def wordsU :Nat->List UInt8->List (List UInt8)
 |0,_=> []
 |_+1,[]=> []
 |n+1,x::r=>if blankF (x.toNat:Int)then wordsU n r else if wordC x then(x::r.takeWhile wordC)::wordsU n (r.dropWhile wordC)else [x]::wordsU n r
def zbw (s:ByteArray):List ByteArray:=(wordsU s.size s.data.toList).map fun l=>⟨l.toArray⟩
def noteF (l:List ByteArray):Int:=
 if l.length=2/\gi l 0=(⟨#[110,111,116,101]⟩:ByteArray)/\¬((gi l 1).size:Int)>4 then match atoiO (gi l 1)with|some n=>if itoaF n=gi l 1 then n else -1|none=> -1 else -1
def classF (w:ByteArray)(names numbers:Bool):ByteArray:=if digB (sgi w 0)=true/\numbers=true then⟨#[36,48]⟩else if(wordB (sgi w 0)=true/\digB (sgi w 0)=false)/\names=true then⟨#[36,110]⟩else w
def normL (names numbers:Bool):Int->Int->List ByteArray->List Lexeme
 |_,_,[]=> []
 |skip,at_,l::r=>if skip>0 then normL names numbers (skip-1) (at_+1) r else if noteF (zbw l)>=0 then normL names numbers (noteF (zbw l)) (at_+1) r else(zbw l).map (fun w=>⟨classF w names numbers,at_⟩)++normL names numbers skip (at_+1) r
def bigT (data:ByteArray):Bool:=decide ((data.size:Int)>65536)||decide (countF data nlS>=1024)
def zbe (path data:ByteArray)(names numbers:Bool):Text×Int:=
 if pathF path=0 then if bigT data then(⟨ByteArray.empty,[]⟩,10)else if((normL names numbers 0 0 (zad data nlS)).length:Int)>8192 then(⟨ByteArray.empty,[]⟩,10)else(⟨path,normL names numbers 0 0 (zad data nlS)⟩,0)else(⟨ByteArray.empty,[]⟩,2)
def zar (data:ByteArray):List ByteArray×Int:=if bigT data then([],10)else(zad data nlS,0)
def nlB (s:ByteArray):Bool:=decide (0<=zbj s nlS)
def joinS (l:List ByteArray)(sep:ByteArray):ByteArray:=⟨(Lib.join (l.map (·.data.toList)) sep.data.toList).toArray⟩
def sizeS :List ByteArray->Int
 | []=>0
 |s::l=>(s.size:Int)+sizeS l
def joinT (l:List ByteArray):ByteArray×Int:=
 if l.length=0\/l.any nlB=true then(⟨#[]⟩,1)else if(l.length:Int)>1024\/(l.length:Int)-1+sizeS l>65536 then(⟨#[]⟩,10)else(joinS l nlS,0)
def sizeStep (r:Int×Int×Int)(h:Hunk):Int×Int×Int:=if h.kind=1 then(r.1+h.n,r.2.1,r.2.2)else if h.kind=2 then(r.1,r.2.1+h.n,r.2.2)else(r.1,r.2.1,r.2.2+h.n)
def zbk (p:Patch):Int×Int×Int:=p.hunks.foldl sizeStep (0,0,0)
def hunkB (h:Hunk):Bool:=decide (1<=h.kind)&&decide (h.kind<=3)&&decide (1<=h.n)&&decide (h.n<=1024)&&(if h.kind=3 then decide ((h.lines.length:Int)=h.n)&& !h.lines.any nlB else decide (h.lines.length=0))
def adjB (a b:Hunk):Bool:= !decide (a.kind=b.kind)&& !(decide (a.kind=3)&&decide (b.kind=2))
def okAt (l:List Hunk)(x:Nat):Bool:=hunkB (gi l x)&&(decide (x=0)||adjB (gi l ((x:Int)-1)) (gi l x))
def hunksB (l:List Hunk):Bool:=(List.range l.length).all (okAt l)
def headH (h:Hunk):ByteArray:=(if h.kind=2 then(⟨#[100,114,111,112,32]⟩:ByteArray)else if h.kind=3 then⟨#[97,100,100,32]⟩else⟨#[107,101,101,112,32]⟩)++itoaF h.n
def hunkL (h:Hunk):List ByteArray:=headH h::h.lines
def linesP (p:Patch):List ByteArray:=(if p.base=(⟨#[]⟩:ByteArray)then []else [(⟨#[98,97,115,101,32]⟩:ByteArray)++(hexD p.base).1])++p.hunks.flatMap hunkL
def sizesB (s:Int×Int×Int):Bool:=decide (1<=s.1+s.2.1)&&decide (s.1+s.2.1<=1024)&&decide (1<=s.1+s.2.2)&&decide (s.1+s.2.2<=1024)
def baseB (p:Patch):Bool:=(decide (p.base=(⟨#[]⟩:ByteArray))||decide (p.base.size=32))&&decide (p.hunks.length<=3072)
def checkP (p:Patch):ByteArray×Bool:=if baseB p&&(hunksB p.hunks&&sizesB (zbk p))then((joinT (linesP p)).1,decide ((joinT (linesP p)).2=0))else(⟨#[]⟩,false)
def applyStep (old:List ByteArray)(r:List ByteArray×Int)(h:Hunk):List ByteArray×Int:=if h.kind=1 then(r.1++zbc old r.2 (r.2+h.n),r.2+h.n)else if h.kind=2 then(r.1,r.2+h.n)else(r.1++h.lines,r.2)
def outP (old:List ByteArray)(l:List Hunk):List ByteArray:=(l.foldl (applyStep old) ([],0)).1
def applyP (p:Patch)(data:ByteArray):List ByteArray×List ByteArray×Int:=
 if(checkP p).2 then if(zar data).2=0 then if(zbk p).1+(zbk p).2.1=((zar data).1.length:Int)/\(p.base=(⟨#[]⟩:ByteArray)\/p.base=sumD data)then
   if(joinT (outP (zar data).1 p.hunks)).2=0 then((zar data).1,outP (zar data).1 p.hunks,0)else([],[],(joinT (outP (zar data).1 p.hunks)).2)
 else([],[],9)else([],[],(zar data).2)else([],[],1)
def zbg (p:Patch)(data:ByteArray):ByteArray×Int:=(joinS (applyP p data).2.1 nlS,(applyP p data).2.2)
abbrev spS :ByteArray:=⟨#[32]⟩
abbrev baseS :ByteArray:=⟨#[98,97,115,101,32]⟩
def scutF (s sep:ByteArray):ByteArray×ByteArray×Bool:=if 0<=zbj s sep then(ssub s 0 (zbj s sep),ssub s (zbj s sep+sep.size) s.size,true)else(s,⟨#[]⟩,false)
def hasPreF (s p:ByteArray):Bool:=decide ((s.size:Int)>=(p.size:Int))&&decide (ssub s 0 (p.size:Int)=p)
def cutPreF (s p:ByteArray):ByteArray×Bool:=if hasPreF s p then(ssub s (p.size:Int) (s.size:Int),true)else(s,false)
def contF (s p:ByteArray):Bool:=Lib.contains s.data.toList p.data.toList
def parseL :Nat->List Hunk->List ByteArray->Option (List Hunk)
 |0,hs,_=>some hs
 |_+1,hs,[]=>some hs
 | k +1,hs,x::r=>match atoiO (scutF x spS).2.1 with
   |none=>none
   | some n=>if n<1\/n>1024 then none
     else if(scutF x spS).1=(⟨#[107,101,101,112]⟩:ByteArray)then parseL k (hs++ [⟨1,n,[]⟩]) r
     else if(scutF x spS).1=(⟨#[100,114,111,112]⟩:ByteArray)then parseL k (hs++ [⟨2,n,[]⟩]) r
     else if(scutF x spS).1=(⟨#[97,100,100]⟩:ByteArray)then if n>(r.length:Int)then some hs else parseL k (hs++ [⟨3,n,zbc r 0 n⟩]) (zbc r n (r.length:Int))
     else parseL k (hs++ [⟨0,n,[]⟩]) r
def doneP (text base:ByteArray):Option (List Hunk)->Patch×Int
 |none=>(⟨ByteArray.empty,[]⟩,4)
 |some hs=>if(checkP ⟨base,hs⟩).2=true/\(checkP ⟨base,hs⟩).1=text then(⟨base,hs⟩,0)else(⟨ByteArray.empty,[]⟩,4)
def zaq (text:ByteArray):Patch×Int:=
 if (zar text).2=0 then
   if(cutPreF (gi (zar text).1 0) baseS).2=true then
     if(parseD (cutPreF (gi (zar text).1 0) baseS).1).2=0 then doneP text (parseD (cutPreF (gi (zar text).1 0) baseS).1).1 (parseL (zar text).1.length [] (zbc (zar text).1 1 ((zar text).1.length:Int)))else(⟨ByteArray.empty,[]⟩,4)
   else doneP text ByteArray.empty (parseL (zar text).1.length [] (zar text).1)
 else(⟨ByteArray.empty,[]⟩,(zar text).2)
def inPieceF (z:Clone)(y:Piece):Bool:=((((z.a==y.text)&&(decide (z.atA<=y.at_)))&&(decide ((z.atA+z.len)>=((y.at_+y.to)-y.from_))))&&(decide (z.atB<=y.from_)))&&((y.from_-z.atB)==(y.at_-z.atA))
structure OkH (h:Hunk):Prop where
 n0:0<=h.n
 n1:h.n<=1000000
 len:h.lines.length<=1000
 size:∀ l∈h.lines,l.size<=100000
structure okP4 (p:Patch):Prop where
 base:p.base.size<=1000
 len:p.hunks.length<=500
 ok:∀ h∈p.hunks,OkH h
end Go.Lic
set_option linter.all false
namespace Go.Proofs.YtkifpidbpoghlaaGreatDoor
open Go Go.Lic Go.Sort Go.Proofs
theorem contG_c (s p:ByteArray)(h:s.size<=1000000)(h1:p.size<=1000000):Fun false Tryz.prog 16 [D.s s,D.s p] (fun d=>d=D.b (contF s p)):=by
 intro A w us hb ho hg hv
 cases hv with
 | cons h2 h3=>
   cases h2
   cases h3 with
   | cons h4 h5=>
     cases h4; cases h5
     obtain⟨m,hm⟩:=max_of_glob hg
     refine(Tryz.strings_Contains s p m w (by omega) hm).mono ?_
     rintro e w' ⟨rfl,rfl⟩
     exact⟨_,_,rfl,rfl,.v _,Ext.refl _ _⟩
end Go.Proofs.YtkifpidbpoghlaaGreatDoor
set_option linter.all false
namespace Go.Proofs.YtkifpidbpoghlaaGreatDoor
open Go Go.Lic Go.Sort Go.Proofs
theorem sIndex_c (s sep:ByteArray)(h:sep.size=1):Fun false Tryz.prog 78 [D.s s,D.s sep] (fun d=>d=D.i (zbj s sep)):=by
 have:=Fun.of_same (vs:= [.string s,.string ⟨#[sepOf sep]⟩]) (Tryz.stringslite_Index_one s (sepOf sep))
 rw [<- one_byte h]at this
 exact this
def AtoiR (s:ByteArray)(d:D):Prop:=∃(v:Int) (e:Value),d= .tup [D.i v,.v e]/\((Lib.atoiAll s.data.toList= .ok v/\e= .nilIface)\/((∀ u,Lib.atoiAll s.data.toList≠ .ok u)/\∃ t x,e= .iface t x))
theorem atoi_c (s:ByteArray)(hs:s.size<=1000000):Fun false Tryz.prog 48 [D.s s] (AtoiR s):=by
 intro A w us hb ho hg hv
 cases hv with
 | cons h2 h3=>
   cases h2; cases h3
   obtain⟨⟨u2,p2,e2⟩,⟨u3,p3,e3⟩⟩:=err_of_glob hg
   rcases ha:Lib.atoiAll s.data.toList with v|_|_
   · refine(Tryz.strconv_Atoi_ok s (by omega) v ha w).mono ?_
     rintro e w' ⟨rfl,hw⟩
     refine⟨_,.tup [D.i v,.v .nilIface],rfl,⟨v,_,rfl,.inl ⟨ha,rfl⟩⟩,.tup (.cons (.v _) (.cons (.v _) .nil)),?_⟩
     rcases hw with rfl|⟨t,rfl⟩
     · exact Ext.refl _ _
     · exact below_ext (Lib.bytesWorld_below _ _ _)
   · refine(Tryz.strconv_Atoi_syntax s (by omega) ha _ w e2 (.inr ⟨_,_,rfl⟩)).mono ?_
     rintro e w' ⟨N,rfl,h1,h2,h3⟩
     exact⟨_,.tup [D.i 0,.v (.iface _ _)],rfl,⟨0,_,rfl,.inr ⟨fun u=>by rw [ha]; exact nofun,_,_,rfl⟩⟩,.tup (.cons (.v _) (.cons (.v _) .nil)),below_ext h3⟩
   · refine(Tryz.strconv_Atoi_range s (by omega) ha _ w e3 (.inr ⟨_,_,rfl⟩)).mono ?_
     rintro e w' ⟨N,rfl,h1,h2,h3⟩
     exact⟨_,.tup [D.i (Lib.atoiSat s.data.toList),.v (.iface _ _)],rfl,⟨_,_,rfl,.inr ⟨fun u=>by rw [ha]; exact nofun,_,_,rfl⟩⟩,.tup (.cons (.v _) (.cons (.v _) .nil)),below_ext h3⟩
attribute [local irreducible] zad zbj
theorem splitSeq0_c (s sep:ByteArray):CallH Tryz.prog 98 [D.s s,D.s sep,D.i 0] [] (fun d h'=>∃ c:Nat,d= .fn (.func 145) [] [.iptr (D.s sep) 0,.ptr c 1 0 0,.iptr (D.i 0) 0]/\h'= [(c,.cells 1 [D.s s])]):=by
 refine CallH.of_body Tryz.func98 rfl Tryz.ntmps98 rfl ?_
 refine wpA_seq ?_
 refine zbo ?_
 refine wL (OpA.bx (sz:=1) rfl zW (.of rfl) (fun c1 _=>?_))
 refine wL (OpA.bx (sz:=1) rfl zW (.of rfl) (fun c2 _=>?_))
 refine wL (OpA.bx (sz:=1) rfl zW (.of rfl) (fun c3 _=>?_))
 refine wL (OpA.a ?_)
 refine wpL_nil ?_
 refine wpA_seq ?_
 refine zbo ?_
 refine wL (OpA.makeFunc rfl ?_)
 refine wL (OpA.a ?_)
 refine wpL_nil ?_
 refine wpA_freeze (s:=6) (d:= .fn (.func 145) [] [.ptr c2 1 0 0,.ptr c1 1 0 0,.ptr c3 1 0 0]) (d':= .fn (.func 145) [] [.ptr c2 1 0 0,.ptr c1 1 0 0,.iptr (D.i 0) 0]) (.refl _) rfl (.fn .nil (.same rfl (.same rfl (.ptrp rfl .head rfl .nil))) .nil) ?_
 refine wpA_freeze (s:=6) (d:= .fn (.func 145) [] [.ptr c2 1 0 0,.ptr c1 1 0 0,.iptr (D.i 0) 0]) (d':= .fn (.func 145) [] [.iptr (D.s sep) 0,.ptr c1 1 0 0,.iptr (D.i 0) 0]) (.refl _) rfl (.fn .nil (.ptrp rfl .head rfl (.same rfl (.same rfl .nil))) .nil) ?_
 refine wpA_ret ?_
 exact⟨_,(.tmp rfl .nil),c1,rfl,rfl⟩
theorem splitSeq_c (s sep:ByteArray):CallH Tryz.prog 51 [D.s s,D.s sep] [] (fun d h'=>∃ c:Nat,d= .fn (.func 145) [] [.iptr (D.s sep) 0,.ptr c 1 0 0,.iptr (D.i 0) 0]/\h'= [(c,.cells 1 [D.s s])]):=by
 refine CallH.of_body Tryz.func51 rfl Tryz.ntmps51 rfl ?_
 refine wpA_seq ?_
 refine zbo ?_
 refine wL (OpA.a ?_)
 refine wpL_nil ?_
 refine wpA_seq ?_
 refine zbo ?_
 iterate 2 refine wL (OpA.m ?_)
 refine wL (OpA.callH rfl rfl rfl zK (h1:= []) (h2:= []) (.refl _) (splitSeq0_c s sep) ?_)
 rintro _ _ ⟨c,rfl,rfl⟩
 refine wL (OpA.a ?_)
 refine wpL_nil ?_
 refine wpA_ret ?_
 exact⟨_,(.tmp rfl .nil),c,rfl,rfl⟩
theorem splitSeq_it (s sep:ByteArray)(c0:Nat)(hs:s.size<=1000000)(h1:sep.size=1):SeqC Tryz.prog 145 [.iptr (D.s sep) 0,.ptr c0 1 0 0,.iptr (D.i 0) 0] [(c0,.cells 1 [D.s s])] (zad s sep).length (seqArg D.s (zad s sep)):=by
 intro c n fr ps assign body I hround h0 hI0
 refine CallH.of_body Tryz.func145 rfl Tryz.ntmps145 rfl ?_
 refine wpA_perm (h':=h0++((c,Blk.loop n fr ps assign body):: [(c0,.cells 1 [D.s s])])) ((List.Perm.swap ..).trans (List.perm_append_comm (l₁:= [(c0,Blk.cells 1 [D.s s]),(c,Blk.loop n fr ps assign body)]) |>.trans (List.Perm.append_left h0 (.swap ..)))) ?_
 iterate 2 refine wpA_seq ?_
 refine zbo ?_
 refine wL (OpA.iload rfl ti9 rfl rfl ?_)
 refine wL (OpA.slen rfl rfl rfl rfl zK rfl ?_)
 refine wL (OpA.eql rfl rfl rfl ?_)
 refine wpL_nil ?_
 refine wpA_cond rfl (fun b1=>absurd (beqT b1) (by omega)) (fun _=>?_)
 refine wpA_skip ?_
 refine wpA_seq ?_
 refine wpA_block ?_
 refine wpA_loopP (fun k f h=>∃(j:Nat) (h1:zbb) (r:ByteArray),k=r.size/\r.size<=1000000/\I j h1/\(zad s sep).drop j=zad r sep/\f=asg [(0,.fn (.yield (c / 2)) [] []),(1,.iptr (D.s sep) 0),(2,.ptr c0 1 0 0),(3,.iptr (D.i 0) 0)]/\h=h1++((c,.loop n fr ps assign body):: [(c0,.cells 1 [D.s r])]))
   ⟨s.size,_,_,⟨0,h0,s,rfl,hs,hI0,rfl,rfl,rfl⟩,.refl _,cvZ⟩ ?_
 rintro k f h ⟨j,h1',r,rfl,hr,hI,hd,rfl,rfl⟩
 have hj:j<(zad s sep).length:=by
   rcases Nat.lt_or_ge j (zad s sep).length with hj|hj
   · exact hj
   · rw [List.drop_eq_nil_of_le hj]at hd
     exact absurd hd.symm (splitF_ne r sep)
 refine wpA_block ?_
 refine wpA_seq ?_
 refine zbo ?_
 refine wL (OpA.load rfl ti9 rfl (has_app h1' (.tail .head)) rfl rfl ?_)
 refine wL (OpA.iload rfl ti9 rfl rfl ?_)
 refine wL (OpA.call rfl rfl rfl zK (index_c r sep h1) ?_)
 rintro _ rfl
 refine wL (OpA.a ?_)
 refine wpL_nil ?_
 iterate 2 refine wpA_seq ?_
 refine zbo ?_
 refine wL (OpA.m ?_)
 refine wL (OpA.lss rfl rfl rfl ?_)
 refine wpL_nil ?_
 refine wpA_cond rfl (fun b1=>?_) (fun b1=>?_)
 · have b1:=decT b1
   refine wpA_exit ?_
   obtain⟨e1,e2⟩:=splitF_last h1 b1 hd
   have hyr:=hround j h1' hj hI
   simp only [seqArg,e2]at hyr
   refine zbo ?_
   refine wL (OpA.m ?_)
   refine wL (OpA.load rfl ti9 rfl (has_app h1' (.tail .head)) rfl rfl ?_)
   refine wL (OpA.yield rfl rfl rfl (.refl _) hyr (fun h2 hI2=>?_))
   refine wpL_nil ?_
   exact⟨_,.nil,h2++ [(c0,.cells 1 [D.s r])],h2,List.perm_middle,List.sublist_append_left _ _,by rw [<- e1]; exact hI2⟩
 · have b1:=decF b1
   obtain⟨s1,s2,e1,e2,e3⟩:=splitF_step h1 b1 hd
   have hyr:=hround j h1' hj hI
   simp only [seqArg,e1]at hyr
   refine wpA_skip ?_
   refine wpA_seq ?_
   refine zbo ?_
   refine wL (OpA.load rfl ti9 rfl (has_app h1' (.tail .head)) rfl rfl ?_)
   refine wL (OpA.m ?_)
   refine wL (OpA.iload rfl ti3 rfl rfl ?_)
   refine wL (OpA.addi rfl rfl rfl ⟨by omega,by omega⟩ ?_)
   refine wL (OpA.ssliceV rfl zK rfl (.none _) (.some rfl) (by rw [Int.add_zero]; exact s1) ?_)
   refine wL (OpA.a ?_)
   refine wpL_nil ?_
   iterate 2 refine wpA_seq ?_
   refine zbo ?_
   iterate 2 refine wL (OpA.m ?_)
   refine wL (OpA.yield rfl rfl rfl (.refl _) (by rw [Int.add_zero]; exact hyr) (fun h2 hI2=>?_))
   refine wL (OpA.not rfl rfl ?_)
   refine wpL_nil ?_
   refine wpA_condF rfl ?_
   refine wpA_skip ?_
   refine zbo ?_
   refine wL (OpA.load rfl ti9 rfl (has_app h2 (.tail .head)) rfl rfl ?_)
   refine wL (OpA.m ?_)
   refine wL (OpA.iload rfl ti9 rfl rfl ?_)
   refine wL (OpA.slen rfl rfl rfl rfl zK rfl ?_)
   refine wL (OpA.addi rfl rfl rfl ⟨by omega,by omega⟩ ?_)
   refine wL (OpA.ssliceV rfl zK rfl (.some rfl) (.none _) s2 ?_)
   refine wE (OpA.storeW rfl ti9 rfl zW (.of rfl) rfl rfl (repl_app h2 (.tail .head)) ?_)
   refine wpL_nil ?_
   exact⟨_,_,_,e3,⟨j+1,h2,_,rfl,by omega,hI2,e2,rfl,rfl⟩,.refl _,cvZ⟩
theorem strs_vl {w:World}{X:Nat->Prop}:∀(l:List ByteArray) (cs:List Value),VL w X (D.flats (l.map D.s)) cs->cs=l.map Value.string
 | [],cs,h=>by cases h; rfl
 | x::l,cs,h=>by
   rw [List.map_cons,flats_cons]at h
   cases h with
   |cons h1 h2=>cases h1; rw [strs_vl l _ h2]; rfl
theorem join_len (sep:List UInt8):∀(l:List (List UInt8)) (m:Nat),(∀ x∈l,x.length<=m)->(Lib.join l sep).length<=l.length*(m+sep.length)
 | [],m,_=>by simp [Lib.join_nil]
 | x ::l,m,h=>by
   rw [Lib.join_cons,List.length_append,Lib.joinTail_length]
   have h1:=h x (by simp)
   have h2:Lib.lens l<=l.length*m:=by
     clear h1
     induction l with
     |nil=>simp [Lib.lens]
     | cons y l ih=>
       have h3:=h y (by simp)
       have h4:=ih (fun z hz=>h z (by rcases List.mem_cons.1 hz with e|e<;>simp [e]))
       simp only [Lib.lens,List.map_cons,List.sum_cons,List.length_cons,Nat.succ_mul]at*
       omega
   rw [List.length_cons,Nat.succ_mul,Nat.mul_add,Nat.mul_comm sep.length]
   omega
theorem join_c (l:List ByteArray)(sep:ByteArray)(h0:l.length<=1000000)(h1:∀ z∈l,z.size<=1000000)(h2:sep.size=1):Fun false Tryz.prog 44 [zai 1 D.s l,D.s sep] (fun d=>d=D.s (joinS l sep)):=by
 intro A w us hb ho hg hv
 cases hv with
 | cons k2 k3=>
   cases k3 with
   | cons k4 k5=>
     cases k4; cases k5
     cases k2 with
     | @list _ _ cs a b oo cap hok hvl ha hl hc=>
       have hcs:=strs_vl l cs hvl
       rcases l with _|⟨x,l⟩
       · refine(Tryz.strings_Join_none a cap sep w).mono ?_
         rintro e w' ⟨rfl,rfl⟩
         exact⟨_,_,rfl,rfl,.v _,Ext.refl _ _⟩
       · have hne:cs≠ []:=by rw [hcs]; simp
         rcases hl with hl|⟨_,hl⟩
         · exact absurd hl hne
         · rw [ha hne]
           have hlen:=join_len sep.data.toList ((x::l).map (·.data.toList)) 1000000 (fun y hy=>by
             obtain⟨z,hz,rfl⟩:=List.mem_map.1 hy
             exact h1 z hz)
           have hm:(x::l).length*(1000000+sep.data.toList.length)<=1000000*(1000000+1):=Nat.mul_le_mul h0 (by have:sep.data.toList.length=sep.size:=rfl; omega)
           rw [List.length_map]at hlen
           rw [List.length_map]
           refine(Tryz.strings_Join b oo cap (x::l) sep w (fun j y hj=>hl j _ (by rw [hcs,List.getElem?_map,hj]; rfl)) ?_ (by omega) (by simpa using hc) (by omega)).mono ?_
           · have:=hl 0 (.string x) (by rw [hcs]; rfl)
             exact Lib.lt_of_cell this
           · rintro e w' ⟨rfl,hw⟩
             exact⟨_,_,rfl,rfl,.v _,below_ext hw⟩
end Go.Proofs.YtkifpidbpoghlaaGreatDoor
set_option linter.all false
namespace Go.Lic
open Go.Proofs Go.Sort
def ndigit_vc (c:Int)(Q:Bool->Prop):Prop:=
 Q ((decide (48<=c))&&(decide (c<=57)))
def npart_vc (c:Int)(Q:Bool->Prop):Prop:=
 Q (((((decide (97<=c))&&(decide (c<=122)))||((decide (65<=c))&&(decide (c<=90))))||(digB c))||(c==95))
def nsplit1_vc (r_:Int)(Q:Bool->Prop):Prop:=
 Q ((decide (r_>126))||(!(wordB (IntKind.u8.wrap r_))))
def nsplit_J1 (out:(List ByteArray))(line1:ByteArray)(again2:(List ByteArray)×ByteArray->Prop)(n:Int):Prop:=
 (inS 0 n line1.size/\((out.length+([(ssub line1 0 n)]:List ByteArray).length)*16<=140737488355328/\out.length+([(ssub line1 0 n)]:List ByteArray).length<=9223372036854775807)/\(inS n (line1.size:Int) line1.size/\again2 ((out++([(ssub line1 0 n)]:List ByteArray)),(ssub line1 n (line1.size:Int)))))
def nsplit_L1 (Q:(List ByteArray)->Prop)(again2:(List ByteArray)×ByteArray->Prop)(out:(List ByteArray))(line1:ByteArray):Prop:=
 ((¬ line1=(⟨#[]⟩:ByteArray)->(inL 0 line1.size/\(((blankF (sgi line1 0))=true->(inS 1 (line1.size:Int) line1.size/\again2 (out,(ssub line1 1 (line1.size:Int)))))/\((blankF (sgi line1 0))=false->(inL 0 line1.size/\(((wordB (sgi line1 0))=true->((∀ z_,(fun(x0_:Int)=>True) z_)/\(((runeIx (fun(x0_:Int)=>stopB x0_) line1 true)<0->nsplit_J1 out line1 again2 (line1.size:Int))/\(¬(runeIx (fun(x0_:Int)=>stopB x0_) line1 true)<0->nsplit_J1 out line1 again2 (runeIx (fun(x0_:Int)=>stopB x0_) line1 true)))))/\((wordB (sgi line1 0))=false->nsplit_J1 out line1 again2 1)))))))/\(line1=(⟨#[]⟩:ByteArray)->Q out))
def nsplit_vc (line:ByteArray)(Q:(List ByteArray)->Prop):Prop:=
 lfp (S:=(List ByteArray)×ByteArray) (fun again2 ss=>nsplit_L1 Q again2 ss.1 ss.2) (([]:List ByteArray),line)
def nnote_vc (words:(List ByteArray))(Q:Int->Prop):Prop:=
 (((words.length:Int)=2->inL 0 words.length)/\(((words.length:Int)=2/\(gi words 0)=(⟨#[110,111,116,101]⟩:ByteArray))->inL 1 words.length)/\((((¬(words.length:Int)=2\/¬(gi words 0)=(⟨#[110,111,116,101]⟩:ByteArray))\/((gi words 1).size:Int)>4)->Q (-1))/\((((words.length:Int)=2/\(gi words 0)=(⟨#[110,111,116,101]⟩:ByteArray))/\¬((gi words 1).size:Int)>4)->(inL 1 words.length/\((gi words 1).size<=1000000/\(∀ num:Int,atoiO (gi words 1)=some num->((-9223372036854775808:Int)<=num/\num<=(9223372036854775807:Int)/\inL 1 words.length/\((¬(itoaF num)=(gi words 1)->Q (-1))/\((itoaF num)=(gi words 1)->Q num))))/\(∀ num:Int,atoiO (gi words 1)=none->Q (-1)))))))
def nclass_vc (word:ByteArray)(names:Bool)(numbers:Bool)(Q:ByteArray->Prop):Prop:=
 (inL 0 word.size/\((((digB (sgi word 0))=true/\numbers=true)->Q (⟨#[36,48]⟩:ByteArray))/\(((digB (sgi word 0))=false\/numbers=false)->(((((wordB (sgi word 0))=true/\(digB (sgi word 0))=false)/\names=true)->Q (⟨#[36,110]⟩:ByteArray))/\((((wordB (sgi word 0))=false\/(digB (sgi word 0))=true)\/names=false)->Q word)))))
def nwords_L2 (data:ByteArray)(names:Bool)(numbers:Bool)(skip:Int)(at_:Int)(ix:Int)(again11:((List Lexeme)×Int×Int)×Int->Prop)(again14:(List Lexeme)×Int->Prop)(xs1:(List Lexeme))(x:Int):Prop:=
 ((x<((zbw (gi (zad data (⟨#[10]⟩:ByteArray)) ix)).length:Int)->(inL x (zbw (gi (zad data (⟨#[10]⟩:ByteArray)) ix)).length/\(0<(gi (zbw (gi (zad data (⟨#[10]⟩:ByteArray)) ix)) x).size/\((xs1.length+([(Lexeme.mk (classF (gi (zbw (gi (zad data (⟨#[10]⟩:ByteArray)) ix)) x) names numbers) at_)]:List Lexeme).length)*24<=140737488355328/\xs1.length+([(Lexeme.mk (classF (gi (zbw (gi (zad data (⟨#[10]⟩:ByteArray)) ix)) x) names numbers) at_)]:List Lexeme).length<=9223372036854775807)/\(inI (x+1)/\again14 ((xs1++([(Lexeme.mk (classF (gi (zbw (gi (zad data (⟨#[10]⟩:ByteArray)) ix)) x) names numbers) at_)]:List Lexeme)),(x+1))))))/\(¬ x<((zbw (gi (zad data (⟨#[10]⟩:ByteArray)) ix)).length:Int)->(inI (at_+1)/\again11 ((xs1,skip,(at_+1)),(ix+1)))))
def nwords_L1 (path:ByteArray)(data:ByteArray)(names:Bool)(numbers:Bool)(Q:Text×Int->Prop)(again11:((List Lexeme)×Int×Int)×Int->Prop)(xs:(List Lexeme))(skip:Int)(at_:Int)(ix:Int):Prop:=
 (((0<=ix/\ix<((zad data (⟨#[10]⟩:ByteArray)).length:Int))->((gi (zad data (⟨#[10]⟩:ByteArray)) ix).size<=1000000/\((zbw (gi (zad data (⟨#[10]⟩:ByteArray)) ix)).length<=1000000/\((skip>0->(inI (skip-1)/\(inI (at_+1)/\again11 ((xs,(skip-1),(at_+1)),(ix+1)))))/\(¬ skip>0->(((noteF (zbw (gi (zad data (⟨#[10]⟩:ByteArray)) ix)))>=0->(inI (at_+1)/\again11 ((xs,(noteF (zbw (gi (zad data (⟨#[10]⟩:ByteArray)) ix))),(at_+1)),(ix+1))))/\(¬(noteF (zbw (gi (zad data (⟨#[10]⟩:ByteArray)) ix)))>=0->lfp (S:=(List Lexeme)×Int) (fun again14 ss=>nwords_L2 data names numbers skip at_ ix again11 again14 ss.1 ss.2) (xs,0))))))))/\(¬(0<=ix/\ix<((zad data (⟨#[10]⟩:ByteArray)).length:Int))->(((xs.length:Int)>8192->Q ((Text.mk ByteArray.empty []),10))/\(¬(xs.length:Int)>8192->Q ((Text.mk path xs),0)))))
def nwords_vc (path:ByteArray)(data:ByteArray)(names:Bool)(numbers:Bool)(Q:Text×Int->Prop):Prop:=
 (path.size<=1000000/\((¬(pathF path)=0->Q ((Text.mk ByteArray.empty []),2))/\((pathF path)=0->((¬(data.size:Int)>65536->(⟨#[10]⟩:ByteArray).size=1)/\((((data.size:Int)>65536\/(countF data (⟨#[10]⟩:ByteArray))>=1024)->Q ((Text.mk ByteArray.empty []),10))/\((¬(data.size:Int)>65536/\¬(countF data (⟨#[10]⟩:ByteArray))>=1024)->(data.size<=1000000/\(⟨#[10]⟩:ByteArray).size=1/\gfp (S:=((List Lexeme)×Int×Int)×Int) (fun again11 ss=>nwords_L1 path data names numbers Q again11 ss.1.1 ss.1.2.1 ss.1.2.2 ss.2) ((([]:List Lexeme),0,0),0))))))))
def scont_vc (s_:ByteArray)(substr:ByteArray)(Q:Bool->Prop):Prop:=
 (substr.size=1/\Q (decide ((zbj s_ substr)>=0)))
def tlines_vc (data:ByteArray)(Q:(List ByteArray)×Int->Prop):Prop:=
 ((¬(data.size:Int)>65536->(⟨#[10]⟩:ByteArray).size=1)/\((((data.size:Int)>65536\/(countF data (⟨#[10]⟩:ByteArray))>=1024)->Q (([]:List ByteArray),10))/\((¬(data.size:Int)>65536/\¬(countF data (⟨#[10]⟩:ByteArray))>=1024)->(data.size<=1000000/\(⟨#[10]⟩:ByteArray).size=1/\Q ((zad data (⟨#[10]⟩:ByteArray)),0)))))
def tjoin1_vc (s_:ByteArray)(Q:Bool->Prop):Prop:=
 ((⟨#[10]⟩:ByteArray).size=1/\Q (decide (0<=zbj s_ (⟨#[10]⟩:ByteArray))))
def tjoin_L1 (lines:(List ByteArray))(Q:ByteArray×Int->Prop)(again2:Int×Int->Prop)(size:Int)(x:Int):Prop:=
 ((x<(lines.length:Int)->(inL x lines.length/\(inI (size+((gi lines x).size:Int))/\(inI (x+1)/\again2 ((size+((gi lines x).size:Int)),(x+1))))))/\(¬ x<(lines.length:Int)->((((lines.length:Int)>1024\/size>65536)->Q ((⟨#[]⟩:ByteArray),10))/\((¬(lines.length:Int)>1024/\¬size>65536)->(lines.length<=1000000/\(∀ z_∈lines,z_.size<=1000000)/\(⟨#[10]⟩:ByteArray).size=1/\Q ((joinS lines (⟨#[10]⟩:ByteArray)),0))))))
def tjoin_vc (lines:(List ByteArray))(Q:ByteArray×Int->Prop):Prop:=
 ((¬(lines.length:Int)=0->lines.length<=9223372036854775807/\(∀ z_∈lines,(fun(x0_:ByteArray)=>True) z_))/\((((lines.length:Int)=0\/(lines.any (fun(x0_:ByteArray)=>nlB x0_))=true)->Q ((⟨#[]⟩:ByteArray),1))/\((¬(lines.length:Int)=0/\(lines.any (fun(x0_:ByteArray)=>nlB x0_))=false)->(inI ((lines.length:Int)-1)/\lfp (S:=Int×Int) (fun again2 ss=>tjoin_L1 lines Q again2 ss.1 ss.2) (((lines.length:Int)-1),0)))))
def psizes_L1 (p:Patch)(Q:Int×Int×Int->Prop)(again2:Int×Int×Int×Int->Prop)(keep:Int)(drop:Int)(add:Int)(x:Int):Prop:=
 ((x<(p.hunks.length:Int)->(inL x p.hunks.length/\(((gi p.hunks x).kind=1->(inI (keep+((gi p.hunks x).n))/\(inI (x+1)/\again2 ((keep+((gi p.hunks x).n)),drop,add,(x+1)))))/\(¬(gi p.hunks x).kind=1->(((gi p.hunks x).kind=2->(inI (drop+((gi p.hunks x).n))/\(inI (x+1)/\again2 (keep,(drop+((gi p.hunks x).n)),add,(x+1)))))/\(¬(gi p.hunks x).kind=2->(inI (add+((gi p.hunks x).n))/\(inI (x+1)/\again2 (keep,drop,(add+((gi p.hunks x).n)),(x+1))))))))))/\(¬ x<(p.hunks.length:Int)->Q (keep,drop,add)))
def psizes_vc (p:Patch)(Q:Int×Int×Int->Prop):Prop:=
 lfp (S:=Int×Int×Int×Int) (fun again2 ss=>psizes_L1 p Q again2 ss.1 ss.2.1 ss.2.2.1 ss.2.2.2) (0,0,0,0)
def phunk1_vc (s_:ByteArray)(Q:Bool->Prop):Prop:=
 ((⟨#[10]⟩:ByteArray).size=1/\Q (decide (0<=zbj s_ (⟨#[10]⟩:ByteArray))))
def phunk_vc (h_:Hunk)(Q:Bool->Prop):Prop:=
 (((((h_.kind<1\/h_.kind>3)\/h_.n<1)\/h_.n>1024)->Q false)/\((((¬ h_.kind<1/\¬h_.kind>3)/\¬h_.n<1)/\¬h_.n>1024)->((¬ h_.kind=3->Q ((h_.lines.length:Int)==0))/\(h_.kind=3->(((h_.lines.length:Int)=h_.n->h_.lines.length<=9223372036854775807/\(∀ z_∈h_.lines,(fun(x0_:ByteArray)=>True) z_))/\Q (((h_.lines.length:Int)==h_.n)&&(!(h_.lines.any (fun(x0_:ByteArray)=>nlB x0_)))))))))
def plines1_vc (l:(List ByteArray))(out:(List ByteArray))(Q:(List ByteArray)->Prop):Prop:=
 (((out.length+l.length)*16<=140737488355328/\out.length+l.length<=9223372036854775807)/\Q (out++l))
def plines_J1 (p:Patch)(xs1:(List ByteArray))(x:Int)(again4:(List ByteArray)×Int->Prop)(word:ByteArray):Prop:=
 ((-9223372036854775808:Int)<=((gi p.hunks x).n)/\((gi p.hunks x).n)<=(9223372036854775807:Int)/\word.size+(itoaF ((gi p.hunks x).n)).size<=9223372036854775807/\([(word++(itoaF ((gi p.hunks x).n)))]:List ByteArray).length<=1000000/\xs1.length<=1000000000/\(((gi p.hunks x).lines).length<=1000000/\(xs1++([(word++(itoaF ((gi p.hunks x).n)))]:List ByteArray)).length<=1000000000/\(inI (x+1)/\again4 (((xs1++([(word++(itoaF ((gi p.hunks x).n)))]:List ByteArray))++((gi p.hunks x).lines)),(x+1)))))
def plines_L1 (p:Patch)(Q:(List ByteArray)->Prop)(again4:(List ByteArray)×Int->Prop)(xs1:(List ByteArray))(x:Int):Prop:=
 ((x<(p.hunks.length:Int)->(inL x p.hunks.length/\(((gi p.hunks x).kind=2->plines_J1 p xs1 x again4 (⟨#[100,114,111,112,32]⟩:ByteArray))/\(¬(gi p.hunks x).kind=2->(((gi p.hunks x).kind=3->plines_J1 p xs1 x again4 (⟨#[97,100,100,32]⟩:ByteArray))/\(¬(gi p.hunks x).kind=3->plines_J1 p xs1 x again4 (⟨#[107,101,101,112,32]⟩:ByteArray)))))))/\(¬ x<(p.hunks.length:Int)->Q xs1))
def plines_J2 (p:Patch)(Q:(List ByteArray)->Prop)(xs:(List ByteArray)):Prop:=
 lfp (S:=(List ByteArray)×Int) (fun again4 ss=>plines_L1 p Q again4 ss.1 ss.2) (xs,0)
def plines_vc (p:Patch)(Q:(List ByteArray)->Prop):Prop:=
 ((¬ p.base=(⟨#[]⟩:ByteArray)->((⟨#[98,97,115,101,32]⟩:ByteArray).size+((hexD p.base).1).size<=9223372036854775807/\([((⟨#[98,97,115,101,32]⟩:ByteArray)++((hexD p.base).1))]:List ByteArray).length<=1000000/\([]:List ByteArray).length<=1000000000/\plines_J2 p Q (([]:List ByteArray)++([((⟨#[98,97,115,101,32]⟩:ByteArray)++((hexD p.base).1))]:List ByteArray))))/\(p.base=(⟨#[]⟩:ByteArray)->plines_J2 p Q ([]:List ByteArray)))
def pcheck_L1 (p:Patch)(Q:ByteArray×Bool->Prop)(again3:Int->Prop)(x:Int):Prop:=
 ((x<(p.hunks.length:Int)->(inL x p.hunks.length/\((gi p.hunks x).lines.length<=1000000/\((hunkB (gi p.hunks x))=true->(x>0->inI (x-1)/\inL (x-1) p.hunks.length))/\((((hunkB (gi p.hunks x))=false\/(x>0/\((gi p.hunks (x-1)).kind=(gi p.hunks x).kind\/((gi p.hunks (x-1)).kind=3/\(gi p.hunks x).kind=2))))->Q ((⟨#[]⟩:ByteArray),false))/\(((hunkB (gi p.hunks x))=true/\(¬ x>0\/(¬(gi p.hunks (x-1)).kind=(gi p.hunks x).kind/\(¬(gi p.hunks (x-1)).kind=3\/¬(gi p.hunks x).kind=2))))->(inI (x+1)/\again3 (x+1)))))))/\(¬ x<(p.hunks.length:Int)->(okP4 p/\(inI (((zbk p).1)+((zbk p).2.1))/\((¬(((zbk p).1)+((zbk p).2.1))<1/\¬(((zbk p).1)+((zbk p).2.1))>1024)->inI (((zbk p).1)+((zbk p).2.2)))/\(((¬(((zbk p).1)+((zbk p).2.1))<1/\¬(((zbk p).1)+((zbk p).2.1))>1024)/\¬(((zbk p).1)+((zbk p).2.2))<1)->inI (((zbk p).1)+((zbk p).2.2)))/\((((((((zbk p).1)+((zbk p).2.1))<1\/(((zbk p).1)+((zbk p).2.1))>1024)\/(((zbk p).1)+((zbk p).2.2))<1)\/(((zbk p).1)+((zbk p).2.2))>1024)->Q ((⟨#[]⟩:ByteArray),false))/\((((¬(((zbk p).1)+((zbk p).2.1))<1/\¬(((zbk p).1)+((zbk p).2.1))>1024)/\¬(((zbk p).1)+((zbk p).2.2))<1)/\¬(((zbk p).1)+((zbk p).2.2))>1024)->(okP4 p/\(linesP p).length<=1000000/\(∀ z_∈(linesP p),z_.size<=1000000)/\Q ((joinT (linesP p)).1,(((joinT (linesP p)).2)==0)))))))))
def pcheck_vc (p:Patch)(Q:ByteArray×Bool->Prop):Prop:=
 ((((¬ p.base=(⟨#[]⟩:ByteArray)/\¬(p.base.size:Int)=32)\/(p.hunks.length:Int)>3072)->Q ((⟨#[]⟩:ByteArray),false))/\(((p.base=(⟨#[]⟩:ByteArray)\/(p.base.size:Int)=32)/\¬(p.hunks.length:Int)>3072)->lfp (S:=Int) (fun again3 ss=>pcheck_L1 p Q again3 ss) 0))
def papply_L1 (p:Patch)(data:ByteArray)(Q:(List ByteArray)×(List ByteArray)×Int->Prop)(again6:(List ByteArray)×Int×Int->Prop)(out:(List ByteArray))(at_:Int)(x:Int):Prop:=
 ((x<(p.hunks.length:Int)->(inL x p.hunks.length/\(((gi p.hunks x).kind=1->(inI (at_+((gi p.hunks x).n))/\inS at_ (at_+((gi p.hunks x).n)) ((zar data).1).length/\((out.length+(zbc ((zar data).1) at_ (at_+((gi p.hunks x).n))).length)*16<=140737488355328/\out.length+(zbc ((zar data).1) at_ (at_+((gi p.hunks x).n))).length<=9223372036854775807)/\(inI (at_+((gi p.hunks x).n))/\(inI (x+1)/\again6 ((out++(zbc ((zar data).1) at_ (at_+((gi p.hunks x).n)))),(at_+((gi p.hunks x).n)),(x+1))))))/\(¬(gi p.hunks x).kind=1->(((gi p.hunks x).kind=2->(inI (at_+((gi p.hunks x).n))/\(inI (x+1)/\again6 (out,(at_+((gi p.hunks x).n)),(x+1)))))/\(¬(gi p.hunks x).kind=2->(((out.length+((gi p.hunks x).lines).length)*16<=140737488355328/\out.length+((gi p.hunks x).lines).length<=9223372036854775807)/\(inI (x+1)/\again6 ((out++((gi p.hunks x).lines)),at_,(x+1))))))))))/\(¬ x<(p.hunks.length:Int)->(out.length<=1000000/\(∀ z_∈out,z_.size<=1000000)/\((¬(joinT out).2=0->Q (([]:List ByteArray),[],(joinT out).2))/\((joinT out).2=0->Q ((zar data).1,out,0))))))
def papply_vc (p:Patch)(data:ByteArray)(Q:(List ByteArray)×(List ByteArray)×Int->Prop):Prop:=
 (okP4 p/\(((checkP p).2=false->Q (([]:List ByteArray),[],1))/\((checkP p).2=true->(data.size<=1000000/\((¬(zar data).2=0->Q (([]:List ByteArray),[],(zar data).2))/\((zar data).2=0->(okP4 p/\(inI (((zbk p).1)+((zbk p).2.1))/\((((zbk p).1)+((zbk p).2.1))=(((zar data).1).length:Int)->(¬ p.base=(⟨#[]⟩:ByteArray)->data.size<=1000000))/\(((¬(((zbk p).1)+((zbk p).2.1))=(((zar data).1).length:Int)\/(¬ p.base=(⟨#[]⟩:ByteArray)/\¬p.base=(sumD data)))->Q (([]:List ByteArray),[],9))/\(((((zbk p).1)+((zbk p).2.1))=(((zar data).1).length:Int)/\(p.base=(⟨#[]⟩:ByteArray)\/p.base=(sumD data)))->lfp (S:=(List ByteArray)×Int×Int) (fun again6 ss=>papply_L1 p data Q again6 ss.1 ss.2.1 ss.2.2) (([]:List ByteArray),0,0)))))))))))
def pApply_vc (p:Patch)(data:ByteArray)(Q:ByteArray×Int->Prop):Prop:=
 (okP4 p/\data.size<=1000000/\(((applyP p data).2.1).length<=1000000/\(∀ z_∈((applyP p data).2.1),z_.size<=1000000)/\(⟨#[10]⟩:ByteArray).size=1/\Q ((joinS ((applyP p data).2.1) (⟨#[10]⟩:ByteArray)),(applyP p data).2.2)))
def cawake_vc (Q:Bool->Prop):Prop:=
 ((⟨#[97]⟩:ByteArray).size<=1000000/\(⟨#[120,32,61,32,121,32,43,32,49]⟩:ByteArray).size<=1000000/\((⟨#[98]⟩:ByteArray).size<=1000000/\(⟨#[122,32,61,32,121,32,43,32,50]⟩:ByteArray).size<=1000000/\(okTs ([(zbe (⟨#[97]⟩:ByteArray) (⟨#[120,32,61,32,121,32,43,32,49]⟩:ByteArray) false false).1,(zbe (⟨#[98]⟩:ByteArray) (⟨#[122,32,61,32,121,32,43,32,50]⟩:ByteArray) false false).1]:List Text)/\(((((zbe (⟨#[97]⟩:ByteArray) (⟨#[120,32,61,32,121,32,43,32,49]⟩:ByteArray) false false).2=0/\(zbe (⟨#[98]⟩:ByteArray) (⟨#[122,32,61,32,121,32,43,32,50]⟩:ByteArray) false false).2=0)/\(findC ([(zbe (⟨#[97]⟩:ByteArray) (⟨#[120,32,61,32,121,32,43,32,49]⟩:ByteArray) false false).1,(zbe (⟨#[98]⟩:ByteArray) (⟨#[122,32,61,32,121,32,43,32,50]⟩:ByteArray) false false).1]:List Text) 2 2).2=0)->((findC ([(zbe (⟨#[97]⟩:ByteArray) (⟨#[120,32,61,32,121,32,43,32,49]⟩:ByteArray) false false).1,(zbe (⟨#[98]⟩:ByteArray) (⟨#[122,32,61,32,121,32,43,32,50]⟩:ByteArray) false false).1]:List Text) 2 2).1).length<=9223372036854775807)/\Q ((((((zbe (⟨#[97]⟩:ByteArray) (⟨#[120,32,61,32,121,32,43,32,49]⟩:ByteArray) false false).2)==0)&&(((zbe (⟨#[98]⟩:ByteArray) (⟨#[122,32,61,32,121,32,43,32,50]⟩:ByteArray) false false).2)==0))&&(((findC ([(zbe (⟨#[97]⟩:ByteArray) (⟨#[120,32,61,32,121,32,43,32,49]⟩:ByteArray) false false).1,(zbe (⟨#[98]⟩:ByteArray) (⟨#[122,32,61,32,121,32,43,32,50]⟩:ByteArray) false false).1]:List Text) 2 2).2)==0))&&(decide (((findC ([(zbe (⟨#[97]⟩:ByteArray) (⟨#[120,32,61,32,121,32,43,32,49]⟩:ByteArray) false false).1,(zbe (⟨#[98]⟩:ByteArray) (⟨#[122,32,61,32,121,32,43,32,50]⟩:ByteArray) false false).1]:List Text) 2 2).1)=([(Clone.mk 0 1 1 1 3)]:List Clone))))))))
def lhasp_vc (s_:ByteArray)(prefix_:ByteArray)(Q:Bool->Prop):Prop:=
 (((s_.size:Int)>=(prefix_.size:Int)->inS 0 (prefix_.size:Int) s_.size)/\Q ((decide ((s_.size:Int)>=(prefix_.size:Int)))&&(decide ((ssub s_ 0 (prefix_.size:Int))=prefix_))))
def lcutp_vc (s_:ByteArray)(prefix_:ByteArray)(Q:ByteArray×Bool->Prop):Prop:=
 (((hasPreF s_ prefix_)=false->Q (s_,false))/\((hasPreF s_ prefix_)=true->(inS (prefix_.size:Int) (s_.size:Int) s_.size/\Q ((ssub s_ (prefix_.size:Int) (s_.size:Int)),true))))
def scutp_vc (s_:ByteArray)(prefix_:ByteArray)(Q:ByteArray×Bool->Prop):Prop:=
 Q ((cutPreF s_ prefix_).1,(cutPreF s_ prefix_).2)
def lcut_vc (s_:ByteArray)(sep:ByteArray)(Q:ByteArray×ByteArray×Bool->Prop):Prop:=
 (sep.size=1/\(((zbj s_ sep)>=0->(inS 0 (zbj s_ sep) s_.size/\inI ((zbj s_ sep)+(sep.size:Int))/\inS ((zbj s_ sep)+(sep.size:Int)) (s_.size:Int) s_.size/\Q ((ssub s_ 0 (zbj s_ sep)),(ssub s_ ((zbj s_ sep)+(sep.size:Int)) (s_.size:Int)),true)))/\(¬(zbj s_ sep)>=0->Q (s_,(⟨#[]⟩:ByteArray),false))))
def scut_vc (s_:ByteArray)(sep:ByteArray)(Q:ByteArray×ByteArray×Bool->Prop):Prop:=
 (s_.size<=1000000/\sep.size=1/\Q ((scutF s_ sep).1,(scutF s_ sep).2.1,(scutF s_ sep).2.2))
def cloneS_vc (s_:(List ByteArray))(Q:(List ByteArray)->Prop):Prop:=
 (∀ isnil:Bool,(isnil=true->s_= [])->((isnil=true->Q [])/\(isnil=false->(((([]:List ByteArray).length+s_.length)*16<=140737488355328/\([]:List ByteArray).length+s_.length<=9223372036854775807)/\Q (([]:List ByteArray)++s_)))))
def pparse_J1 (text:ByteArray)(p_base:ByteArray)(Q:Patch×Int->Prop)(xs1:(List Hunk)):Prop:=
 (okP4 (Patch.mk p_base xs1)/\((((checkP (Patch.mk p_base xs1)).2=false\/¬(checkP (Patch.mk p_base xs1)).1=text)->Q ((Patch.mk ByteArray.empty []),4))/\(((checkP (Patch.mk p_base xs1)).2=true/\(checkP (Patch.mk p_base xs1)).1=text)->Q ((Patch.mk p_base xs1),0))))
def pparse_L2 (text:ByteArray)(p_base:ByteArray)(Q:Patch×Int->Prop)(again7:(List Hunk)×(List ByteArray)->Prop)(xs2:(List Hunk))(l2:(List ByteArray)):Prop:=
 (((l2.length:Int)>0->(inL 0 l2.length/\(gi l2 0).size<=1000000/\(⟨#[32]⟩:ByteArray).size=1/\(((scutF (gi l2 0) (⟨#[32]⟩:ByteArray)).2.1).size<=1000000/\(∀ num1:Int,atoiO ((scutF (gi l2 0) (⟨#[32]⟩:ByteArray)).2.1)=some num1->(((num1<1\/num1>1024)->Q ((Patch.mk ByteArray.empty []),4))/\((¬ num1<1/\¬num1>1024)->(inS 1 (l2.length:Int) l2.length/\(((scutF (gi l2 0) (⟨#[32]⟩:ByteArray)).1=(⟨#[107,101,101,112]⟩:ByteArray)->(((xs2.length+([(Hunk.mk 1 num1 [])]:List Hunk).length)*40<=140737488355328/\xs2.length+([(Hunk.mk 1 num1 [])]:List Hunk).length<=9223372036854775807)/\again7 ((xs2++([(Hunk.mk 1 num1 [])]:List Hunk)),(zbc l2 1 (l2.length:Int)))))/\(¬(scutF (gi l2 0) (⟨#[32]⟩:ByteArray)).1=(⟨#[107,101,101,112]⟩:ByteArray)->(((scutF (gi l2 0) (⟨#[32]⟩:ByteArray)).1=(⟨#[100,114,111,112]⟩:ByteArray)->(((xs2.length+([(Hunk.mk 2 num1 [])]:List Hunk).length)*40<=140737488355328/\xs2.length+([(Hunk.mk 2 num1 [])]:List Hunk).length<=9223372036854775807)/\again7 ((xs2++([(Hunk.mk 2 num1 [])]:List Hunk)),(zbc l2 1 (l2.length:Int)))))/\(¬(scutF (gi l2 0) (⟨#[32]⟩:ByteArray)).1=(⟨#[100,114,111,112]⟩:ByteArray)->(((scutF (gi l2 0) (⟨#[32]⟩:ByteArray)).1=(⟨#[97,100,100]⟩:ByteArray)->((num1>((zbc l2 1 (l2.length:Int)).length:Int)->pparse_J1 text p_base Q xs2)/\(¬ num1>((zbc l2 1 (l2.length:Int)).length:Int)->(inS 0 num1 (zbc l2 1 (l2.length:Int)).length/\(zbc (zbc l2 1 (l2.length:Int)) 0 num1).length<=1000000/\inS num1 ((zbc l2 1 (l2.length:Int)).length:Int) (zbc l2 1 (l2.length:Int)).length/\(((xs2.length+([(Hunk.mk 3 num1 (zbc (zbc l2 1 (l2.length:Int)) 0 num1))]:List Hunk).length)*40<=140737488355328/\xs2.length+([(Hunk.mk 3 num1 (zbc (zbc l2 1 (l2.length:Int)) 0 num1))]:List Hunk).length<=9223372036854775807)/\again7 ((xs2++([(Hunk.mk 3 num1 (zbc (zbc l2 1 (l2.length:Int)) 0 num1))]:List Hunk)),(zbc (zbc l2 1 (l2.length:Int)) num1 ((zbc l2 1 (l2.length:Int)).length:Int))))))))/\(¬(scutF (gi l2 0) (⟨#[32]⟩:ByteArray)).1=(⟨#[97,100,100]⟩:ByteArray)->(((xs2.length+([(Hunk.mk 0 num1 [])]:List Hunk).length)*40<=140737488355328/\xs2.length+([(Hunk.mk 0 num1 [])]:List Hunk).length<=9223372036854775807)/\again7 ((xs2++([(Hunk.mk 0 num1 [])]:List Hunk)),(zbc l2 1 (l2.length:Int))))))))))))))/\(∀ num1:Int,atoiO ((scutF (gi l2 0) (⟨#[32]⟩:ByteArray)).2.1)=none->Q ((Patch.mk ByteArray.empty []),4)))))/\(¬(l2.length:Int)>0->pparse_J1 text p_base Q xs2))
def pparse_J2 (text:ByteArray)(Q:Patch×Int->Prop)(p_base:ByteArray)(l:(List ByteArray)):Prop:=
 lfp (S:=(List Hunk)×(List ByteArray)) (fun again7 ss=>pparse_L2 text p_base Q again7 ss.1 ss.2) (([]:List Hunk),l)
def pparse_vc (text:ByteArray)(Q:Patch×Int->Prop):Prop:=
 (text.size<=1000000/\((¬(zar text).2=0->Q ((Patch.mk ByteArray.empty []),(zar text).2))/\((zar text).2=0->(inL 0 ((zar text).1).length/\(((cutPreF (gi ((zar text).1) 0) (⟨#[98,97,115,101,32]⟩:ByteArray)).2=true->((¬(parseD ((cutPreF (gi ((zar text).1) 0) (⟨#[98,97,115,101,32]⟩:ByteArray)).1)).2=0->Q ((Patch.mk ByteArray.empty []),4))/\((parseD ((cutPreF (gi ((zar text).1) 0) (⟨#[98,97,115,101,32]⟩:ByteArray)).1)).2=0->(inS 1 (((zar text).1).length:Int) ((zar text).1).length/\pparse_J2 text Q ((parseD ((cutPreF (gi ((zar text).1) 0) (⟨#[98,97,115,101,32]⟩:ByteArray)).1)).1) (zbc ((zar text).1) 1 (((zar text).1).length:Int))))))/\((cutPreF (gi ((zar text).1) 0) (⟨#[98,97,115,101,32]⟩:ByteArray)).2=false->pparse_J2 text Q ByteArray.empty ((zar text).1)))))))
end Go.Lic
set_option linter.all false
namespace Go.Lic
def rot_vc (x:Int)(k:Int)(Q:Int->Prop):Prop:=
 ((0:Int)<=(gand .u64 (IntKind.u64.wrap k) 63)/\(0:Int)<=(IntKind.u64.wrap (64-(gand .u64 (IntKind.u64.wrap k) 63)))/\Q (gor .u64 (gshl .u64 x (gand .u64 (IntKind.u64.wrap k) 63)) (gshr .u64 x (IntKind.u64.wrap (64-(gand .u64 (IntKind.u64.wrap k) 63))))))
def slib_vc (s_:ByteArray)(c:Int)(Q:Int->Prop):Prop:=
 Q (firstIdx s_ (Int.toNat c).toUInt8)
def idxB_vc (s_:ByteArray)(c:Int)(Q:Int->Prop):Prop:=
 Q (idxB s_ c)
def offs_vc (Q:(List Int)->Prop):Prop:=
 Q [0,1,62,28,27,36,44,6,55,20,3,10,43,25,39,41,45,15,21,8,18,2,61,56,14]
def cons_vc (Q:(List Int)->Prop):Prop:=
 Q [1,32898,9223372036854808714,9223372039002292224,32907,2147483649,9223372039002292353,9223372036854808585,138,136,2147516425,2147483658,2147516555,9223372036854775947,9223372036854808713,9223372036854808579,9223372036854808578,9223372036854775936,32778,9223372039002259466,9223372039002292353,9223372036854808704,2147483649,9223372039002292232]
def round_L3 (constant:Int)(t:(List Int))(Q:(List Int)->Prop)(again10:(List Int)×Int->Prop)(s_1:(List Int))(x2:Int):Prop:=
 ((x2<25->(((0:Int)<=x2/\(0:Int)<5)/\inI (x2-(x2 % 5))/\(inL x2 25/\inI (x2+1)/\((0:Int)<=(x2+1)/\(0:Int)<5)/\inI ((x2-(x2 % 5))+((x2+1) % 5))/\inL ((x2-(x2 % 5))+((x2+1) % 5)) 25/\inI (x2+2)/\((0:Int)<=(x2+2)/\(0:Int)<5)/\inI ((x2-(x2 % 5))+((x2+2) % 5))/\inL ((x2-(x2 % 5))+((x2+2) % 5)) 25/\s_1.length=25/\(inI (x2+1)/\again10 ((si s_1 x2 (gxor .u64 (gi t x2) (gand .u64 (gnot .u64 (gi t ((x2-(x2 % 5))+((x2+1) % 5)))) (gi t ((x2-(x2 % 5))+((x2+2) % 5)))))),(x2+1))))))/\(¬ x2<25->(inL 0 25/\s_1.length=25/\Q (si s_1 0 (gxor .u64 (gi s_1 0) constant)))))
def round_L2 (s_:(List Int))(offset:(List Int))(constant:Int)(c:(List Int))(Q:(List Int)->Prop)(again8:(List Int)×Int->Prop)(t:(List Int))(x1:Int):Prop:=
 ((x1<25->(inL x1 25/\(((0:Int)<=x1/\(0:Int)<5)/\(((0:Int)<=x1/\(0:Int)<5)/\x1<=9223372036854775807)/\(inI ((x1 % 5)+4)/\((0:Int)<=((x1 % 5)+4)/\(0:Int)<5)/\inL (((x1 % 5)+4) % 5) 5/\inI ((x1 % 5)+1)/\((0:Int)<=((x1 % 5)+1)/\(0:Int)<5)/\inL (((x1 % 5)+1) % 5) 5/\(inI (2*(x1 % 5))/\inI (3*(x1 / 5))/\inI ((2*(x1 % 5))+(3*(x1 / 5)))/\((0:Int)<=((2*(x1 % 5))+(3*(x1 / 5)))/\(0:Int)<5)/\inI (5*(((2*(x1 % 5))+(3*(x1 / 5))) % 5))/\inI ((x1 / 5)+(5*(((2*(x1 % 5))+(3*(x1 / 5))) % 5)))/\inL x1 25/\inL ((x1 / 5)+(5*(((2*(x1 % 5))+(3*(x1 / 5))) % 5))) 25/\t.length=25/\(inI (x1+1)/\again8 ((si t ((x1 / 5)+(5*(((2*(x1 % 5))+(3*(x1 / 5))) % 5))) (rotF (gxor .u64 (gi s_ x1) (gxor .u64 (gi c (((x1 % 5)+4) % 5)) (rotF (gi c (((x1 % 5)+1) % 5)) 1))) (gi offset x1))),(x1+1))))))))/\(¬ x1<25->lfp (S:=(List Int)×Int) (fun again10 ss=>round_L3 constant t Q again10 ss.1 ss.2) (s_,0)))
def round_L1 (s_:(List Int))(offset:(List Int))(constant:Int)(Q:(List Int)->Prop)(again5:(List Int)×Int->Prop)(c:(List Int))(x:Int):Prop:=
 ((x<25->(inL x 25/\(((0:Int)<=x/\(0:Int)<5)/\inL (x % 5) 5/\c.length=5/\(inI (x+1)/\again5 ((si c (x % 5) (gxor .u64 (gi c (x % 5)) (gi s_ x))),(x+1))))))/\(¬ x<25->lfp (S:=(List Int)×Int) (fun again8 ss=>round_L2 s_ offset constant c Q again8 ss.1 ss.2) ((List.replicate 25 0),0)))
def round_vc (s_:(List Int))(offset:(List Int))(constant:Int)(Q:(List Int)->Prop):Prop:=
 lfp (S:=(List Int)×Int) (fun again5 ss=>round_L1 s_ offset constant Q again5 ss.1 ss.2) ((List.replicate 5 0),0)
def perm_L1 (Q:(List Int)->Prop)(again4:(List Int)×Int->Prop)(state1:(List Int))(x:Int):Prop:=
 ((x<24->(inL x 24/\(state1.length=25/\(inI (x+1)/\again4 ((roundF state1 offsF (gi consF x)),(x+1))))))/\(¬ x<24->Q state1))
def perm_vc (state:(List Int))(Q:(List Int)->Prop):Prop:=
 lfp (S:=(List Int)×Int) (fun again4 ss=>perm_L1 Q again4 ss.1 ss.2) (state,0)
def dparse_L1 (text:ByteArray)(Q:ByteArray×Int->Prop)(again3:(List Int)×Int->Prop)(out:(List Int))(i:Int):Prop:=
 ((i<(text.size:Int)->(inL i text.size/\(((idxB (⟨#[48,49,50,51,52,53,54,55,56,57,97,98,99,100,101,102]⟩:ByteArray) (sgi text i))<0->Q ((⟨#[]⟩:ByteArray),4))/\(¬(idxB (⟨#[48,49,50,51,52,53,54,55,56,57,97,98,99,100,101,102]⟩:ByteArray) (sgi text i))<0->((((0:Int)<=i/\(0:Int)<2)/\i<=9223372036854775807)/\inL (i / 2) out.length/\(0:Int)<=4/\(inI (i+1)/\again3 ((si out (i / 2) (gor .u8 (gshl .u8 (gi out (i / 2)) 4) (IntKind.u8.wrap (idxB (⟨#[48,49,50,51,52,53,54,55,56,57,97,98,99,100,101,102]⟩:ByteArray) (sgi text i))))),(i+1))))))))/\(¬ i<(text.size:Int)->Q ((bstr out),0)))
def dparse_vc (text:ByteArray)(Q:ByteArray×Int->Prop):Prop:=
 ((¬(text.size:Int)=64->Q ((⟨#[]⟩:ByteArray),4))/\((text.size:Int)=64->((((0:Int)<=32/\(32:Int)<=32)/\(1:Int)*32<=281474976710656/\(32:Int)<=9223372036854775807)/\lfp (S:=(List Int)×Int) (fun again3 ss=>dparse_L1 text Q again3 ss.1 ss.2) ((List.replicate (Int.toNat 32) (0:Int)),0))))
def dhex1_vc (half:Int)(b:(List Int))(Q:(List Int)->Prop):Prop:=
 (inL half (⟨#[48,49,50,51,52,53,54,55,56,57,97,98,99,100,101,102]⟩:ByteArray).size/\((b.length+([(sgi (⟨#[48,49,50,51,52,53,54,55,56,57,97,98,99,100,101,102]⟩:ByteArray) half)]:List Int).length)*1<=140737488355328/\b.length+([(sgi (⟨#[48,49,50,51,52,53,54,55,56,57,97,98,99,100,101,102]⟩:ByteArray) half)]:List Int).length<=9223372036854775807)/\Q (b++ [(sgi (⟨#[48,49,50,51,52,53,54,55,56,57,97,98,99,100,101,102]⟩:ByteArray) half)]))
def dhex_L1 (digest:ByteArray)(Q:ByteArray×Int->Prop)(again4:(List Int)×Int->Prop)(xs:(List Int))(i:Int):Prop:=
 ((i<(digest.size:Int)->(inL i digest.size/\(0:Int)<=4/\inL (gshr .u8 (sgi digest i) 4) 16/\xs.length<=1000/\(inL i digest.size/\inL (gand .u8 (sgi digest i) 15) 16/\(dhex1 (gshr .u8 (sgi digest i) 4) xs).length<=1000/\(inI (i+1)/\again4 ((dhex1 (gand .u8 (sgi digest i) 15) (dhex1 (gshr .u8 (sgi digest i) 4) xs)),(i+1))))))/\(¬ i<(digest.size:Int)->(xs.length<=9223372036854775807/\Q ((bstr xs),0))))
def dhex_vc (digest:ByteArray)(Q:ByteArray×Int->Prop):Prop:=
 ((¬(digest.size:Int)=32->Q ((⟨#[]⟩:ByteArray),1))/\((digest.size:Int)=32->lfp (S:=(List Int)×Int) (fun again4 ss=>dhex_L1 digest Q again4 ss.1 ss.2) (([]:List Int),0)))
def dnew_vc (Q:DigestSponge->Prop):Prop:=
 Q (DigestSponge.mk (List.replicate 25 0) ([]:List Int) 0 (List.replicate 25 0) ByteArray.empty ByteArray.empty)
def abs_L1 (s_:DigestSponge)(b:(List Int))(Q:DigestSponge->Prop)(again1:(List Int)×Int->Prop)(s_state:(List Int))(x:Int):Prop:=
 ((x<(b.length:Int)->((((0:Int)<=x/\(0:Int)<8)/\x<=9223372036854775807)/\inL (x / 8) 25/\inL x b.length/\((0:Int)<=x/\(0:Int)<8)/\inI (8*(x % 8))/\(0:Int)<=(8*(x % 8))/\s_state.length=25/\(inI (x+1)/\again1 ((si s_state (x / 8) (gxor .u64 (gi s_state (x / 8)) (gshl .u64 (IntKind.u64.wrap (gi b x)) (8*(x % 8))))),(x+1)))))/\(¬ x<(b.length:Int)->(s_state.length=25/\Q (DigestSponge.mk (permF s_state) s_.rest s_.taken s_.seen s_.tail s_.sum))))
def abs_vc (s_:DigestSponge)(b:(List Int))(Q:DigestSponge->Prop):Prop:=
 lfp (S:=(List Int)×Int) (fun again1 ss=>abs_L1 s_ b Q again1 ss.1 ss.2) (s_.state,0)
def cl_vc (s_:DigestSponge)(Q:DigestSponge×DigestSponge->Prop):Prop:=
 ((s_.rest.length*1<=140737488355328/\s_.rest.length<=9223372036854775807)/\Q (s_,s_))
def wr_L2 (x:Int)(again1:(List Int)×Int×(List Int)×ByteArray×ByteArray×(List Int)×Int->Prop)(again5:(List Int)×Int×(List Int)×ByteArray×ByteArray×(List Int)->Prop)(s_state1:(List Int))(s_taken1:Int)(s_seen1:(List Int))(s_tail1:ByteArray)(s_sum1:ByteArray)(xs1:(List Int)):Prop:=
 (((xs1.length:Int)>=136->(inS 0 136 xs1.length/\(zbc xs1 0 136).length=136/\(DigestSponge.mk s_state1 xs1 s_taken1 s_seen1 s_tail1 s_sum1).state.length=25/\(inS 136 (xs1.length:Int) xs1.length/\((zbc xs1 136 (xs1.length:Int)).length*1<=140737488355328/\(zbc xs1 136 (xs1.length:Int)).length<=9223372036854775807)/\again5 ((absF (DigestSponge.mk s_state1 xs1 s_taken1 s_seen1 s_tail1 s_sum1) (zbc xs1 0 136)).state,(absF (DigestSponge.mk s_state1 xs1 s_taken1 s_seen1 s_tail1 s_sum1) (zbc xs1 0 136)).taken,(absF (DigestSponge.mk s_state1 xs1 s_taken1 s_seen1 s_tail1 s_sum1) (zbc xs1 0 136)).seen,(absF (DigestSponge.mk s_state1 xs1 s_taken1 s_seen1 s_tail1 s_sum1) (zbc xs1 0 136)).tail,(absF (DigestSponge.mk s_state1 xs1 s_taken1 s_seen1 s_tail1 s_sum1) (zbc xs1 0 136)).sum,(zbc xs1 136 (xs1.length:Int))))))/\(¬(xs1.length:Int)>=136->(inI (x+1)/\again1 (s_state1,s_taken1,s_seen1,s_tail1,s_sum1,xs1,(x+1)))))
def wr_L1 (parts:(List ByteArray))(Q:Int×DigestSponge->Prop)(again1:(List Int)×Int×(List Int)×ByteArray×ByteArray×(List Int)×Int->Prop)(s_state:(List Int))(s_taken:Int)(s_seen:(List Int))(s_tail:ByteArray)(s_sum:ByteArray)(xs:(List Int))(x:Int):Prop:=
 ((x<(parts.length:Int)->(inL x parts.length/\(inI (s_taken+((gi parts x).size:Int))/\(((xs.length+(zbl (gi parts x)).length)*1<=140737488355328/\xs.length+(zbl (gi parts x)).length<=9223372036854775807)/\lfp (S:=(List Int)×Int×(List Int)×ByteArray×ByteArray×(List Int)) (fun again5 ss=>wr_L2 x again1 again5 ss.1 ss.2.1 ss.2.2.1 ss.2.2.2.1 ss.2.2.2.2.1 ss.2.2.2.2.2) (s_state,(s_taken+((gi parts x).size:Int)),s_seen,s_tail,s_sum,(xs++zbl (gi parts x)))))))/\(¬ x<(parts.length:Int)->Q (s_taken,(DigestSponge.mk s_state xs s_taken s_seen s_tail s_sum))))
def wr_vc (s_:DigestSponge)(parts:(List ByteArray))(Q:Int×DigestSponge->Prop):Prop:=
 lfp (S:=(List Int)×Int×(List Int)×ByteArray×ByteArray×(List Int)×Int) (fun again1 ss=>wr_L1 parts Q again1 ss.1 ss.2.1 ss.2.2.1 ss.2.2.2.1 ss.2.2.2.2.1 ss.2.2.2.2.2.1 ss.2.2.2.2.2.2) (s_.state,s_.taken,s_.seen,s_.tail,s_.sum,s_.rest,0)
def ss_L1 (s_:DigestSponge)(Q:ByteArray×DigestSponge->Prop)(again9:(List Int)×Int->Prop)(out:(List Int))(x:Int):Prop:=
 ((x<((List.replicate (Int.toNat 32) (0:Int)).length:Int)->((((0:Int)<=x/\(0:Int)<8)/\x<=9223372036854775807)/\inL (x / 8) 25/\((0:Int)<=x/\(0:Int)<8)/\inI (8*(x % 8))/\(0:Int)<=(8*(x % 8))/\inL x out.length/\(inI (x+1)/\again9 ((si out x (IntKind.u8.wrap (gshr .u64 (gi ((absF ((clF s_).1) (si (si (gcopy (List.replicate (Int.toNat 136) (0:Int)) (((clF s_).1).rest)) ((((clF s_).1).rest).length:Int) 6) 135 (gxor .u8 (gi (si (gcopy (List.replicate (Int.toNat 136) (0:Int)) (((clF s_).1).rest)) ((((clF s_).1).rest).length:Int) 6) 135) 128))).state) (x / 8)) (8*(x % 8))))),(x+1)))))/\(¬ x<((List.replicate (Int.toNat 32) (0:Int)).length:Int)->Q ((bstr out),(DigestSponge.mk (((clF s_).2).state) (((clF s_).2).rest) (((clF s_).2).taken) (((clF s_).2).state) (bstr (((clF s_).2).rest)) (bstr out)))))
def ss_vc (s_:DigestSponge)(Q:ByteArray×DigestSponge->Prop):Prop:=
 ((((¬ s_.sum=(⟨#[]⟩:ByteArray)/\(aeq 25 s_.seen s_.state)=true)/\s_.tail=(bstr s_.rest))->Q (s_.sum,s_))/\(((s_.sum=(⟨#[]⟩:ByteArray)\/(aeq 25 s_.seen s_.state)=false)\/¬s_.tail=(bstr s_.rest))->(s_.rest.length<=136/\((((0:Int)<=136/\(136:Int)<=136)/\(1:Int)*136<=281474976710656/\(136:Int)<=9223372036854775807)/\(inL ((((clF s_).1).rest).length:Int) (gcopy (List.replicate (Int.toNat 136) (0:Int)) (((clF s_).1).rest)).length/\(inL 135 (si (gcopy (List.replicate (Int.toNat 136) (0:Int)) (((clF s_).1).rest)) ((((clF s_).1).rest).length:Int) 6).length/\((si (si (gcopy (List.replicate (Int.toNat 136) (0:Int)) (((clF s_).1).rest)) ((((clF s_).1).rest).length:Int) 6) 135 (gxor .u8 (gi (si (gcopy (List.replicate (Int.toNat 136) (0:Int)) (((clF s_).1).rest)) ((((clF s_).1).rest).length:Int) 6) 135) 128)).length=136/\((clF s_).1).state.length=25/\((((0:Int)<=32/\(32:Int)<=32)/\(1:Int)*32<=281474976710656/\(32:Int)<=9223372036854775807)/\lfp (S:=(List Int)×Int) (fun again9 ss=>ss_L1 s_ Q again9 ss.1 ss.2) ((List.replicate (Int.toNat 32) (0:Int)),0)))))))))
def dsum_vc (data:ByteArray)(Q:ByteArray->Prop):Prop:=
 (newD.state.length=25/\newD.rest.length<=135/\(0:Int)<=newD.taken/\newD.taken<=(1000000:Int)/\([data]:List ByteArray).length<=6/\(∀ p∈([data]:List ByteArray),p.size<=1000000)/\(((wrF newD ([data]:List ByteArray)).2).state.length=25/\((wrF newD ([data]:List ByteArray)).2).rest.length<=135/\Q ((ssF ((wrF newD ([data]:List ByteArray)).2)).1)))
end Go.Lic
set_option linter.all false
namespace Go.Lic
theorem rot_ok (x k:Int)(Q:Int->Prop)(h:Q (rotF x k)):rot_vc x k Q:=by
 unfold rot_vc
 exact⟨wrap_nn rfl _,wrap_nn rfl _,h⟩
theorem offs_ok (Q:List Int->Prop)(h:Q offsF):offs_vc Q:=h
theorem cons_ok (Q:List Int->Prop)(h:Q consF):cons_vc Q:=h
theorem round_ok (s o:List Int)(c:Int)(Q:List Int->Prop)(hl:s.length=25)(h:Q (roundF s o c)):round_vc s o c Q:=by
 unfold round_vc
 unfold roundF at h
 refine lfp_for 25 (fori (colF s) (List.replicate 5 0)) (fun i hi again hag=>?_) (fun again=>?_)
 · unfold round_L1
   have hc:(fori (colF s) (List.replicate 5 0) i).length=5:=by rw [fori_len (fun _ _=>by simp)]; simp
   rw [fori_succ]at hag
   generalize fori (colF s) (List.replicate 5 0) i=u at hc hag ⊢
   unfold colF at hag
   exact⟨fun _=>⟨by omega,by omega,by omega,hc,by omega,hag⟩,fun hn=>absurd (by omega) hn⟩
 · unfold round_L1
   generalize fori (colF s) (List.replicate 5 0) 25=p at h ⊢
   refine⟨fun hn=>absurd hn (by omega),fun _=>?_⟩
   refine lfp_for 25 (fori (movF s o p) (List.replicate 25 0)) (fun i hi again hag=>?_) (fun again=>?_)
   · unfold round_L2
     have hc:(fori (movF s o p) (List.replicate 25 0) i).length=25:=by rw [fori_len (fun _ _=>by simp)]; simp
     rw [fori_succ]at hag
     generalize fori (movF s o p) (List.replicate 25 0) i=u at hc hag ⊢
     unfold movF at hag
     refine⟨fun _=>⟨by omega,by omega,by omega,by omega,by omega,by omega,by omega,by omega,by omega,by omega,by omega,by omega,by omega,by omega,by omega,by omega,by omega,hc,by omega,hag⟩,fun hn=>absurd (by omega) hn⟩
   · unfold round_L2
     generalize fori (movF s o p) (List.replicate 25 0) 25=t at h ⊢
     refine⟨fun hn=>absurd hn (by omega),fun _=>?_⟩
     refine lfp_for 25 (fori (chiF t) s) (fun i hi again hag=>?_) (fun again=>?_)
     · unfold round_L3
       have hc:(fori (chiF t) s i).length=25:=by rw [fori_len (fun _ _=>by simp)]; exact hl
       rw [fori_succ]at hag
       generalize fori (chiF t) s i=u at hc hag ⊢
       unfold chiF at hag
       refine⟨fun _=>⟨by omega,by omega,by omega,by omega,by omega,by omega,by omega,by omega,by omega,by omega,by omega,hc,by omega,hag⟩,fun hn=>absurd (by omega) hn⟩
     · unfold round_L3
       have hc:(fori (chiF t) s 25).length=25:=by rw [fori_len (fun _ _=>by simp)]; exact hl
       generalize fori (chiF t) s 25=u at hc h ⊢
       unfold iotF at h
       refine⟨fun hn=>absurd hn (by omega),fun _=>?_⟩
       exact⟨by omega,hc,h⟩
theorem perm_ok (s:List Int)(Q:List Int->Prop)(hl:s.length=25)(h:Q (permF s)):perm_vc s Q:=by
 unfold perm_vc
 refine lfp_for 24 (fori (fun s i=>roundF s offsF (gi consF i)) s) (fun i hi again hag=>?_) (fun again=>?_)
 · unfold perm_L1
   rw [fori_succ]at hag
   exact⟨fun _=>⟨by omega,by rw [fori_len (fun _ _=>roundF_len _ _ _)]; exact hl,by omega,hag⟩,fun hn=>absurd (by omega) hn⟩
 · unfold perm_L1
   unfold permF at h
   generalize fori (fun s i=>roundF s offsF (gi consF i)) s 24=u at h ⊢
   exact⟨fun hn=>absurd hn (by omega),fun _=>h⟩
end Go.Lic
set_option linter.all false
namespace Go.Lic
theorem dnew_ok (Q:DigestSponge->Prop)(h:Q newD):dnew_vc Q:=h
theorem cl_ok (s:DigestSponge)(Q:DigestSponge×DigestSponge->Prop)(hr:s.rest.length<=136)(h:Q (clF s)):cl_vc s Q:=⟨by omega,h⟩
theorem abs_ok (s:DigestSponge)(b:List Int)(Q:DigestSponge->Prop)(hb:b.length=136)(hs:s.state.length=25)(h:Q (absF s b)):abs_vc s b Q:=by
 unfold abs_vc
 refine lfp_for 136 (fori (xorF b) s.state) (fun i hi again hag=>?_) (fun again=>?_)
 · unfold abs_L1
   have hc:(fori (xorF b) s.state i).length=25:=by rw [fori_len (fun _ _=>by simp)]; exact hs
   rw [fori_succ]at hag
   generalize fori (xorF b) s.state i=u at hc hag ⊢
   unfold xorF at hag
   exact⟨fun _=>⟨by omega,by omega,by omega,by omega,by omega,by omega,hc,by omega,hag⟩,fun hn=>absurd (by omega) hn⟩
 · unfold abs_L1
   have hc:(fori (xorF b) s.state 136).length=25:=by rw [fori_len (fun _ _=>by simp)]; exact hs
   unfold absF takeF at h
   generalize fori (xorF b) s.state 136=u at hc h ⊢
   exact⟨fun hn=>absurd hn (by omega),fun _=>⟨hc,h⟩⟩
theorem wr_ok (s:DigestSponge)(l:List ByteArray)(Q:Int×DigestSponge->Prop)(hs:s.state.length=25)(hr:s.rest.length<=135)(t0:0<=s.taken)(t1:s.taken<=1000000)(hl:l.length<=6)(hp:∀ p∈l,p.size<=1000000)(h:Q (wrF s l)):wr_vc s l Q:=by
 unfold wr_vc
 refine lfp_seq (S:=List Int×Int×List Int×ByteArray×ByteArray×List Int×Int) l.length (fun i=>let S:=eatsS s (l.take i); (S.state,S.taken,S.seen,S.tail,S.sum,S.rest,(i:Int))) (fun i hi again hag=>?_) (fun again=>?_)
 · unfold wr_L1
   dsimp only
   have hS:(eatsS s (l.take i)).state.length=25:=by rw [eatsS_st]; exact hs
   have hR:=eatsS_rest hr (l.take i)
   have hT:=eatsS_taken (s:=s) (l.take i) (B:=1000000) fun p hq=>hp p (List.mem_of_mem_take hq)
   have hT2:(l.take i).length<=6:=by rw [List.length_take]; omega
   generalize (l.take i).length=li at hT hT2
   have hz:(l[i]).size<=1000000:=hp _ (List.getElem_mem _)
   simp only [eatsS_succ s l hi]at hag
   generalize eatsS s (l.take i)=S at hS hR hT hag ⊢
   have hg:gi l (i:Int)=l[i]:=gi_nat hi
   generalize hpp:l[i]=p at hg hz hag
   refine⟨fun _=>⟨by omega,?_⟩,fun hn=>absurd (by simp; omega) hn⟩
   simp only [hg]
   have hb:(zbl p).length=p.size:=sbytes_lenD p
   refine⟨by omega,by omega,?_⟩
   generalize hbb:S.rest++zbl p=b
   have hlb:b.length=S.rest.length+p.size:=by rw [<- hbb,List.length_append,hb]
   refine lfp_seq (S:=List Int×Int×List Int×ByteArray×ByteArray×List Int) (b.length / 136) (fun k=>(eatF k S.state b,S.taken+p.size,S.seen,S.tail,S.sum,b.drop (136*k))) (fun k hk again2 hag2=>?_) (fun again2=>?_)
   · unfold wr_L2
     dsimp only
     have hd:(b.drop (136*k)).length=b.length-136*k:=by simp
     refine⟨fun _=>⟨by simp only [hd]; omega,?_,?_,?_,?_,?_⟩,fun hn=>absurd (by simp only [hd]; omega) hn⟩
     · simp only [lsub_to,List.length_take,hd]; omega
     · simp [eatF_len,hS]
     · simp only [hd]; omega
     · have:=List.length_drop (i:=136) (l:=b.drop (136*k))
       simp only [lsub_from]; rw [show(136:Int).toNat=136 from rfl]; omega
     · simp only [absF,lsub_from,lsub_to,List.drop_drop]
       rw [eatF_succ]at hag2
       exact hag2
   · unfold wr_L2
     dsimp only
     have hd:(b.drop (136*(b.length / 136))).length=b.length-136*(b.length / 136):=by simp
     refine⟨fun hn=>absurd hn (by simp only [hd]; omega),fun _=>⟨by omega,?_⟩⟩
     unfold eatS at hag
     rw [hbb]at hag
     exact hag
 · unfold wr_L1
   dsimp only
   refine⟨fun hn=>absurd hn (by simp),fun _=>?_⟩
   simp only [List.take_length]
   exact h
theorem ss_ok (s:DigestSponge)(Q:ByteArray×DigestSponge->Prop)(hs:s.state.length=25)(hr:s.rest.length<=135)(h:Q (ssF s)):ss_vc s Q:=by
 unfold ss_vc
 unfold ssF at h
 refine⟨fun hc=>?_,fun hc=>?_⟩
 · rw [if_pos ⟨hc.1.1,hc.1.2,hc.2⟩]at h; exact h
 · rw [if_neg (by
     rintro⟨h1,h2,h3⟩
     rcases hc with(hc|hc)|hc
     · exact h1 hc
     · rw [h2]at hc; cases hc
     · exact hc h3)]at h
   have hg:(gcopy (List.replicate (Int.toNat 136) 0) s.rest).length=136:=by rw [zah]; rfl
   simp only [clF,show Int.toNat 136=136 from rfl]at hg ⊢
   refine⟨by omega,by omega,by rw [hg]; omega,by rw [zan,hg]; omega,by rw [zan,zan,hg],hs,by omega,?_⟩
   refine lfp_for 32 (fori (outD (takeF s.state (lastDg s.rest))) (List.replicate 32 0)) (fun i hi again hag=>?_) (fun again=>?_)
   · unfold ss_L1
     simp only [clF,absF,show Int.toNat 136=136 from rfl,show Int.toNat 32=32 from rfl]
     have hc:(fori (outD (takeF s.state (lastDg s.rest))) (List.replicate 32 0) i).length=32:=by rw [fori_len (fun _ _=>by simp)]; simp
     rw [fori_succ]at hag
     generalize fori (outD (takeF s.state (lastDg s.rest))) (List.replicate 32 0) i=u at hc hag ⊢
     unfold outD lastDg at hag
     exact⟨fun _=>⟨by omega,by omega,by omega,by omega,by omega,by simp only [hc]; omega,by omega,hag⟩,fun hn=>absurd (by rw [List.length_replicate]; omega) hn⟩
   · unfold ss_L1
     simp only [clF,absF,show Int.toNat 136=136 from rfl,show Int.toNat 32=32 from rfl]
     unfold endD bytesF at h
     generalize fori (outD (takeF s.state (lastDg s.rest))) (List.replicate 32 0) 32=u at h ⊢
     exact⟨fun hn=>absurd hn (by rw [List.length_replicate]; omega),fun _=>h⟩
theorem dsum_ok (d:ByteArray)(Q:ByteArray->Prop)(hd:d.size<=1000000)(h:Q (sumD d)):dsum_vc d Q:=by
 unfold dsum_vc
 have hn:=HoldsD.new
 have hw:=hn.eats [d]
 have e:List.foldl (· ++ ·) (⟨#[]⟩:ByteArray) [d]=d:=by
   apply ByteArray.ext; simp [ByteArray.data_append]
 rw [e]at hw
 refine⟨hn.st25,hn.r135,by decide,by decide,by simp,by simpa using hd,hw.st25,hw.r135,?_⟩
 have:=hw.sum1
 rw [<- this]at h; exact h
end Go.Lic
set_option linter.all false
namespace Go.Lic
theorem byteN (x:Int)(h:0<=x/\x<=255):∃ n:Fin 256,x=n.val:=⟨⟨x.toNat,by omega⟩,by simp; omega⟩
theorem hi_b :∀ n:Fin 256,inL (gshr .u8 (n.val:Int) 4) 16/\inL (gand .u8 (n.val:Int) 15) 16/\16*gshr .u8 (n.val:Int) 4+gand .u8 (n.val:Int) 15=n.val:=by decide +kernel
theorem idx_b :∀ n:Fin 256,idxB digsF (n.val:Int)=digD n.val/\ -1<=digD n.val/\digD n.val<=15/\(0<=digD n.val->sgi digsF (digD n.val)=n.val):=by decide +kernel
theorem nib_b :∀ a b:Fin 16,gor .u8 (gshl .u8 (a.val:Int) 4) (IntKind.u8.wrap (b.val:Int))=16*a.val+b.val/\IntKind.u8.wrap (16*(a.val:Int)+b.val)=16*a.val+b.val/\gshr .u8 (16*(a.val:Int)+b.val) 4=a.val/\gand .u8 (16*(a.val:Int)+b.val) 15=b.val:=by decide +kernel
theorem sgi_b (s:ByteArray)(i:Int):inL (gshr .u8 (sgi s i) 4) 16/\inL (gand .u8 (sgi s i) 15) 16/\16*gshr .u8 (sgi s i) 4+gand .u8 (sgi s i) 15=sgi s i:=by
 obtain⟨n,e⟩:=byteN _ (sgi_bd s i)
 rw [e]; exact hi_b n
theorem idx_s (s:ByteArray)(i:Int):idxB digsF (sgi s i)=digD (sgi s i)/\ -1<=digD (sgi s i)/\digD (sgi s i)<=15/\(0<=digD (sgi s i)->sgi digsF (digD (sgi s i))=sgi s i):=by
 obtain⟨n,e⟩:=byteN _ (sgi_bd s i)
 rw [e]; exact idx_b n
theorem nib_s {a b:Int}(ha:inL a 16)(hb:inL b 16):gor .u8 (gshl .u8 a 4) (IntKind.u8.wrap b)=16*a+b/\IntKind.u8.wrap (16*a+b)=16*a+b/\gshr .u8 (16*a+b) 4=a/\gand .u8 (16*a+b) 15=b:=by
 have:=nib_b ⟨a.toNat,by omega⟩ ⟨b.toNat,by omega⟩
 simpa [Int.toNat_of_nonneg ha.1,Int.toNat_of_nonneg hb.1]using this
theorem dhex1_ok (x:Int)(b:List Int)(Q:List Int->Prop)(hx:inL x 16)(hb:b.length<=1000)(h:Q (dhex1 x b)):dhex1_vc x b Q:=⟨hx,by simp; omega,h⟩
theorem dhex_ok (d:ByteArray)(Q:ByteArray×Int->Prop)(h:Q (hexD d)):dhex_vc d Q:=by
 unfold dhex_vc
 unfold hexD at h
 refine⟨fun hc=>by rwa [if_neg hc]at h,fun hc=>?_⟩
 rw [if_pos hc]at h
 have hl:∀ n,(fori (hexL d) [] n).length=2*n:=by
   intro n; induction n with
   |zero=>rfl
   |succ n ih=>rw [fori_succ]; simp [hexL,dhex1,ih]; omega
 refine lfp_for 32 (fori (hexL d) []) (fun i hi again hag=>?_) (fun again=>?_)
 · unfold dhex_L1
   dsimp only
   have hc2:=hl i
   rw [fori_succ]at hag
   generalize fori (hexL d) [] i=u at hc2 hag ⊢
   have hb:=sgi_b d i
   refine⟨fun _=>⟨by omega,by omega,hb.1,by omega,by omega,hb.2.1,by simp [dhex1]; omega,by omega,hag⟩,fun hn=>absurd (by omega) hn⟩
 · unfold dhex_L1
   dsimp only
   have hc2:=hl 32
   generalize fori (hexL d) [] 32=u at h hc2 ⊢
   exact⟨fun hn=>absurd hn (by omega),fun _=>⟨by omega,h⟩⟩
theorem slib_ok (s:ByteArray)(c:Int)(Q:Int->Prop)(h:Q (idxB s c)):slib_vc s c Q:=h
theorem idxB_ok (s:ByteArray)(c:Int)(Q:Int->Prop)(h:Q (idxB s c)):idxB_vc s c Q:=h
abbrev dgD (t:ByteArray)(k:Nat):Int:=digD (sgi t (k:Int))
theorem parseD_neg {t:ByteArray}(ht:t.size=64){k:Nat}(hk:k<64)(h:dgD t k<0):parseD t=(⟨#[]⟩,4):=by
 unfold parseD
 rw [if_pos (by omega),if_neg]
 intro hh
 rw [List.all_eq_true]at hh
 have:=hh k (by simpa using hk)
 simp only [decide_eq_true_eq]at this
 have h2:0<=dgD t k:=this
 omega
theorem parseD_pos {t:ByteArray}(ht:t.size=64)(h:∀ k<64,0<=dgD t k):parseD t=(bstr ((List.range 32).map fun i=>16*dgD t (2*i)+dgD t (2*i+1)),0):=by
 unfold parseD
 rw [if_pos (by omega),if_pos]
 · rfl
 · rw [List.all_eq_true]
   intro k hk
   simpa using h k (by simpa using hk)
def parS (t:ByteArray)(i:Nat):List Int:=(List.range 32).map fun j=>if 2*j+1<i then 16*dgD t (2*j)+dgD t (2*j+1)else if 2*j<i then dgD t (2*j)else 0
theorem gi_rangeD {f:Nat->Int}{n i:Nat}(h:i<n):gi ((List.range n).map f) (i:Int)=f i:=by
 rw [gi_nat (by simpa using h)]; simp
theorem si_getElemD {α:Type}(l:List α)(i:Int)(v:α)(k:Nat)(h:k<(si l i v).length):(si l i v)[k]=if i.toNat=k then v else l[k]'(by simpa using h):=by
 unfold si; exact List.getElem_set ..
theorem dparse_ok (t:ByteArray)(Q:ByteArray×Int->Prop)(h:Q (parseD t)):dparse_vc t Q:=by
 unfold dparse_vc
 refine⟨fun hc=>by unfold parseD at h; rwa [if_neg hc]at h,fun hc=>⟨by omega,?_⟩⟩
 have ht:t.size=64:=by omega
 refine lfp_of (fun s:List Int×Int=>∃ j:Nat,j<=64/\s=(parS t j,(j:Int))/\∀ k<j,0<=dgD t k) (fun s=>(64-s.2).toNat) ?_ ⟨0,by omega,by simp [parS]; rfl,fun k hk=>by omega⟩
 rintro _ ⟨j,hj,rfl,hd⟩ again hag
 unfold dparse_L1
 have e0:(⟨#[48,49,50,51,52,53,54,55,56,57,97,98,99,100,101,102]⟩:ByteArray)=digsF:=rfl
 rw [e0]
 dsimp only
 have hi:=idx_s t (j:Int)
 rw [hi.1]
 have e1:digD (sgi t (j:Int))=dgD t j:=rfl
 rw [e1]at hi ⊢
 refine⟨fun hlt=>⟨by omega,fun hn=>?_,fun hn=>⟨by omega,by simp [parS]; omega,by omega,by omega,?_⟩⟩,fun hlt=>?_⟩
 · rwa [parseD_neg ht (by omega) hn]at h
 · refine hag _ ⟨j+1,by omega,?_,fun k hk=>?_⟩ (by dsimp only; omega)
   · congr 1
     have hg:gi (parS t j) ((j:Int) / 2)=if 2*(j / 2)+1<j then 16*dgD t (2*(j / 2))+dgD t (2*(j / 2)+1)else if 2*(j / 2)<j then dgD t (2*(j / 2))else 0:=by
       rw [show((j:Int) / 2)=((j / 2:Nat):Int) by omega,parS,gi_rangeD (by omega)]
     rw [hg]
     refine List.ext_getElem (by simp [parS]) fun k h1 h2=>?_
     have hk:k<32:=by simpa [parS]using h2
     rw [si_getElemD]
     by_cases hkj:((j:Int) / 2).toNat=k
     · rw [if_pos hkj]
       have hkj2:j / 2=k:=by omega
       rw [hkj2]
       simp only [parS,List.getElem_map,List.getElem_range]
       rcases Nat.mod_two_eq_zero_or_one j with hm|hm
       · rw [if_neg (by omega),if_neg (by omega),if_neg (by omega),if_pos (by omega),show 2*k=j by omega]
         have:=nib_s (a:=0) (b:=dgD t j) (by omega) (by omega)
         rw [this.1]; omega
       · rw [if_neg (by omega),if_pos (by omega),if_pos (by omega),show 2*k+1=j by omega]
         have h0:=hd (2*k) (by omega)
         have h15:dgD t (2*k)<=15:=(idx_s t _).2.2.1
         exact(nib_s (a:=dgD t (2*k)) (b:=dgD t j) (by omega) (by omega)).1
     · rw [if_neg hkj]
       simp only [parS,List.getElem_map,List.getElem_range]
       have:(2*k+1<j)=(2*k+1<j+1):=by apply propext; omega
       have h3:(2*k<j)=(2*k<j+1):=by apply propext; omega
       simp only [this,h3]
   · by_cases hk2:k=j
     · rw [hk2]; omega
     · exact hd k (by omega)
 · have:j=64:=by omega
   subst this
   rw [parseD_pos ht (fun k hk=>hd k hk)]at h
   have e:parS t 64=(List.range 32).map fun i=>16*dgD t (2*i)+dgD t (2*i+1):=by
     refine List.map_congr_left fun k hk=>?_
     have:k<32:=by simpa using hk
     rw [if_pos (by omega)]
   rwa [e]
def hexAt (s:ByteArray)(k:Nat):Int:=if k % 2=0 then sgi digsF (gshr .u8 (sgi s ((k / 2:Nat):Int)) 4)else sgi digsF (gand .u8 (sgi s ((k / 2:Nat):Int)) 15)
theorem hexL_eq (s:ByteArray)(n:Nat):fori (hexL s) [] n=(List.range (2*n)).map (hexAt s):=by
 induction n with
 |zero=>rfl
 | succ n ih=>
   rw [fori_succ,ih,show 2*(n+1)=2*n+1+1 by omega,List.range_succ,List.range_succ,List.map_append,List.map_append]
   unfold hexL dhex1
   have e1:hexAt s (2*n)=sgi digsF (gshr .u8 (sgi s (n:Int)) 4):=by
     unfold hexAt; rw [if_pos (by omega),show 2*n / 2=n by omega]
   have e2:hexAt s (2*n+1)=sgi digsF (gand .u8 (sgi s (n:Int)) 15):=by
     unfold hexAt; rw [if_neg (by omega),show(2*n+1) / 2=n by omega]
   simp [e1,e2]
theorem bstr_size (l:List Int):(bstr l).size=l.length:=by
 unfold bstr; show Array.size _=_; simp
end Go.Lic
set_option linter.all false
namespace Go.Lic
open Go.Proofs Go.Sort
theorem ndigit_ok (c:Int)(Q:Bool->Prop)(h:Q (digB c)):ndigit_vc c Q:=h
theorem npart_ok (c:Int)(Q:Bool->Prop)(h:Q (wordB c)):npart_vc c Q:=h
theorem nsplit1_ok (r_:Int)(Q:Bool->Prop)(h:Q (stopB r_)):nsplit1_vc r_ Q:=h
theorem nnote_ok (words:(List ByteArray))(Q:Int->Prop)(hp0:words.length<=1000000)(h:Q (noteF words)):nnote_vc words Q:=by
 unfold noteF at h
 refine⟨fun h2=>by omega,fun⟨h2,_⟩=>by omega,fun hb=>?_,fun⟨⟨h2,h3⟩,h4⟩=>?_⟩
 · rw [if_neg (by rintro⟨k1,k2,k3⟩; rcases hb with(hb|hb)|hb<;>first|omega|exact hb k2)]at h
   exact h
 · rw [if_pos ⟨by omega,h3,h4⟩]at h
   refine⟨by omega,by omega,fun num hn=>?_,fun num hn=>?_⟩
   · rw [hn]at h
     simp only at h
     have hb:(-9223372036854775808:Int)<=num/\num<=9223372036854775807:=by
       unfold atoiO at hn
       split at hn
       · next v hv=>cases hn; exact Lib.atoiAll_bounds hv
       · cases hn
     refine⟨hb.1,hb.2,by omega,fun hne=>by rw [if_neg hne]at h; exact h,fun he=>by rw [if_pos he]at h; exact h⟩
   · rw [hn]at h; exact h
theorem nclass_ok (word:ByteArray)(names:Bool)(numbers:Bool)(Q:ByteArray->Prop)(hp0:0<word.size)(h:Q (classF word names numbers)):nclass_vc word names numbers Q:=by
 unfold classF at h
 refine⟨by omega,fun h1=>by rw [if_pos h1]at h; exact h,fun h1=>?_⟩
 have h1':¬(digB (sgi word 0)=true/\numbers=true):=by rintro⟨a,b⟩; rcases h1 with h1|h1<;>simp_all
 rw [if_neg h1']at h
 refine⟨fun h2=>by rw [if_pos h2]at h; exact h,fun h2=>?_⟩
 rw [if_neg (by rintro⟨⟨a,b⟩,c⟩; rcases h2 with(h2|h2)|h2<;>simp_all)]at h
 exact h
theorem scont_ok (s_:ByteArray)(substr:ByteArray)(Q:Bool->Prop)(hp0:substr.size=1)(h:Q ((decide (0<=zbj s_ substr)))):scont_vc s_ substr Q:=⟨hp0,h⟩
theorem nl_size :(⟨#[10]⟩:ByteArray).size=1:=rfl
theorem tlines_ok (data:ByteArray)(Q:(List ByteArray)×Int->Prop)(hp0:data.size<=1000000)(h:Q (zar data)):tlines_vc data Q:=by
 unfold zar bigT at h
 refine⟨fun _=>nl_size,fun hb=>?_,fun⟨h1,h2⟩=>⟨hp0,nl_size,?_⟩⟩
 · rw [if_pos (by simpa using hb)]at h; exact h
 · rw [if_neg (by simp only [Bool.or_eq_true,decide_eq_true_eq,not_or]; exact⟨h1,h2⟩)]at h; exact h
theorem tjoin1_ok (s_:ByteArray)(Q:Bool->Prop)(h:Q (nlB s_)):tjoin1_vc s_ Q:=⟨nl_size,h⟩
theorem phunk1_ok (s_:ByteArray)(Q:Bool->Prop)(h:Q (nlB s_)):phunk1_vc s_ Q:=⟨nl_size,h⟩
theorem sizeS_nn :∀ l:List ByteArray,0<=sizeS l
 | []=>by simp [sizeS]
 |s::l=>by have:=sizeS_nn l; unfold sizeS; omega
theorem sizeS_le {m:Nat}:∀ l:List ByteArray,(∀ z∈l,z.size<=m)->sizeS l<=l.length*m
 | [],_=>by simp [sizeS]
 | s::l,h=>by
   have h1:=sizeS_le l (fun z hz=>h z (List.mem_cons_of_mem _ hz))
   have h2:=h s (by simp)
   unfold sizeS
   rw [List.length_cons,Int.natCast_add,Int.add_mul]
   omega
theorem tjoin_ok (lines:(List ByteArray)) (Q:ByteArray×Int->Prop) (hp0:lines.length<=1000000) (hp1:∀ z_∈lines,z_.size<=1000000) (h:Q (joinT lines)):tjoin_vc lines Q:=by
 unfold joinT at h
 refine⟨fun _=>⟨by omega,fun _ _=>trivial⟩,fun hb=>?_,fun⟨h1,h2⟩=>⟨by omega,?_⟩⟩
 · rw [if_pos (hb.imp (fun k=>by omega) id)]at h; exact h
 · rw [if_neg (by rintro(k|k); · omega
                  · rw [h2]at k; cases k)]at h
   have hle:=sizeS_le (m:=1000000) lines hp1
   have hm:(lines.length:Int)*((1000000:Nat):Int)<=1000000*1000000:=Int.mul_le_mul (by omega) (by omega) (by omega) (by omega)
   refine lfp2 _ (fun(size x:Int)=>0<=x/\x<=lines.length/\size+sizeS (lines.drop x.toNat)=(lines.length:Int)-1+sizeS lines/\ -1<=size) (fun(_ x:Int)=>(lines.length-x).toNat) (fun size x hx again hag=>?_) ⟨by omega,by omega,by simp,by omega⟩
   obtain⟨h0,h3,h4,h5⟩:=hx
   have hnn:=sizeS_nn (lines.drop x.toNat)
   refine⟨fun hlt=>?_,fun hn=>⟨fun hb=>?_,fun⟨k1,k2⟩=>⟨hp0,hp1,nl_size,?_⟩⟩⟩
   · rw [zbn (by omega)]at h4
     have hnn2:=sizeS_nn (lines.drop (x+1).toNat)
     simp only [sizeS]at h4
     exact⟨by omega,by omega,by omega,hag _ _ ⟨by omega,by omega,by omega,by omega⟩ (by omega)⟩
   · rw [zbv hn]at h4
     simp only [sizeS]at h4
     rw [if_pos (by omega)]at h; exact h
   · rw [zbv hn]at h4
     simp only [sizeS]at h4
     rw [if_neg (by omega)]at h; exact h
theorem phunk_ok (h_:Hunk)(Q:Bool->Prop)(hp0:h_.lines.length<=1000000)(h:Q (hunkB h_)):phunk_vc h_ Q:=by
 unfold hunkB at h
 refine⟨fun hb=>?_,fun⟨⟨⟨a,b⟩,c⟩,d⟩=>?_⟩
 · have e:(decide (1<=h_.kind)&&decide (h_.kind<=3)&&decide (1<=h_.n)&&decide (h_.n<=1024))=false:=by
     rw [<- Bool.not_eq_true]
     simp only [Bool.and_eq_true,decide_eq_true_eq]
     omega
   rw [e]at h; exact h
 · have e:(decide (1<=h_.kind)&&decide (h_.kind<=3)&&decide (1<=h_.n)&&decide (h_.n<=1024))=true:=by
     simp only [Bool.and_eq_true,decide_eq_true_eq]
     omega
   rw [e,Bool.true_and]at h
   refine⟨fun k=>?_,fun k=>⟨fun _=>⟨by omega,fun _ _=>trivial⟩,?_⟩⟩
   · rw [if_neg k]at h
     have:((h_.lines.length:Int)==0)=decide (h_.lines.length=0):=by rw [int_beq]; simp
     rw [this]; exact h
   · rw [if_pos k]at h
     rw [int_beq]; exact h
theorem plines1_ok (l:(List ByteArray))(out:(List ByteArray))(Q:(List ByteArray)->Prop)(hp0:l.length<=1000000)(hp1:out.length<=1000000000)(h:Q ((out++l))):plines1_vc l out Q:=⟨⟨by omega,by omega⟩,h⟩
theorem psizes_ok (p:Patch)(Q:Int×Int×Int->Prop)(hp0:okP4 p)(h:Q (zbk p)):psizes_vc p Q:=by
 refine lfp4 _ (fun(k d a x:Int)=>0<=x/\x<=p.hunks.length/\(p.hunks.drop x.toNat).foldl sizeStep (k,d,a)=zbk p/\(0<=k/\k<=x*1000000)/\(0<=d/\d<=x*1000000)/\(0<=a/\a<=x*1000000)) (fun(_ _ _ x:Int)=>(p.hunks.length-x).toNat) (fun k d a x hs again hag=>?_) ⟨by simp,by simp,rfl,by simp,by simp,by simp⟩
 obtain⟨h0,h1,h2,h3,h4,h5⟩:=hs
 have hl:=hp0.len
 refine⟨fun hlt=>⟨by omega,?_⟩,fun hn=>?_⟩
 · have hh:=hp0.ok _ (gi_mem (l:=p.hunks) (i:=x) (by omega))
   have n0:=hh.n0; have n1:=hh.n1
   rw [zbn (by omega),List.foldl_cons]at h2
   unfold sizeStep at h2
   refine⟨fun hk=>?_,fun hk=>⟨fun hk2=>?_,fun hk2=>?_⟩⟩
   · rw [if_pos hk]at h2
     exact⟨by omega,by omega,hag _ _ _ _ ⟨by omega,by omega,h2,by omega,by omega,by omega⟩ (by omega)⟩
   · rw [if_neg hk,if_pos hk2]at h2
     exact⟨by omega,by omega,hag _ _ _ _ ⟨by omega,by omega,h2,by omega,by omega,by omega⟩ (by omega)⟩
   · rw [if_neg hk,if_neg hk2]at h2
     exact⟨by omega,by omega,hag _ _ _ _ ⟨by omega,by omega,h2,by omega,by omega,by omega⟩ (by omega)⟩
 · rw [zbv hn]at h2
   simp only [List.foldl_nil]at h2
   rw [<- h2]at h; exact h
theorem sizes_bd {p:Patch}(hp0:okP4 p):(0<=(zbk p).1/\(zbk p).1<=500000000)/\(0<=(zbk p).2.1/\(zbk p).2.1<=500000000)/\(0<=(zbk p).2.2/\(zbk p).2.2<=500000000):=by
 have key:∀(l:List Hunk) (s:Int×Int×Int) (m:Nat),(∀ h∈l,OkH h)->0<=s.1/\s.1<=m*1000000->0<=s.2.1/\s.2.1<=m*1000000->0<=s.2.2/\s.2.2<=m*1000000->
     (0<=(l.foldl sizeStep s).1/\(l.foldl sizeStep s).1<=(m+l.length:Nat)*1000000)/\(0<=(l.foldl sizeStep s).2.1/\(l.foldl sizeStep s).2.1<=(m+l.length:Nat)*1000000)/\(0<=(l.foldl sizeStep s).2.2/\(l.foldl sizeStep s).2.2<=(m+l.length:Nat)*1000000):=by
   intro l
   induction l with
   |nil=>intro s m _ h1 h2 h3; exact⟨h1,h2,h3⟩
   | cons h l ih=>
     intro s m hok h1 h2 h3
     have hh:=hok h (by simp)
     have n0:=hh.n0; have n1:=hh.n1
     have hs:(0<=(sizeStep s h).1/\(sizeStep s h).1<=((m+1:Nat):Int)*1000000)/\(0<=(sizeStep s h).2.1/\(sizeStep s h).2.1<=((m+1:Nat):Int)*1000000)/\(0<=(sizeStep s h).2.2/\(sizeStep s h).2.2<=((m+1:Nat):Int)*1000000):=by
       unfold sizeStep
       by_cases k1:h.kind=1
       · rw [if_pos k1]; simp only; omega
       · rw [if_neg k1]
         by_cases k2:h.kind=2
         · rw [if_pos k2]; simp only; omega
         · rw [if_neg k2]; simp only; omega
     have:=ih (sizeStep s h) (m+1) (fun x hx=>hok x (List.mem_cons_of_mem _ hx)) hs.1 hs.2.1 hs.2.2
     rw [List.foldl_cons,List.length_cons,show m+(l.length+1)=m+1+l.length by omega]
     exact this
 have:=key p.hunks (0,0,0) 0 hp0.ok (by simp) (by simp) (by simp)
 have hl:=hp0.len
 unfold zbk
 omega
end Go.Lic
set_option linter.all false
namespace Go.Lic
open Go.Proofs Go.Sort
theorem itoa_le {n:Int}(h0:0<=n)(h1:n<=1000000):(itoaF n).size<=21:=by
 have:=Lib.itoa_length_le n (by omega) (by omega)
 simpa [itoaF,ByteArray.size]using this
theorem app_size (a b:ByteArray):(a++b).size=a.size+b.size:=ByteArray.size_append
theorem head_le {h:Hunk}(hh:OkH h):(headH h).size<=26:=by
 have h1:=itoa_le hh.n0 hh.n1
 unfold headH
 rw [app_size]
 split
 · have:(⟨#[100,114,111,112,32]⟩:ByteArray).size=5:=rfl
   omega
 · split
   · have:(⟨#[97,100,100,32]⟩:ByteArray).size=4:=rfl
     omega
   · have:(⟨#[107,101,101,112,32]⟩:ByteArray).size=5:=rfl
     omega
theorem lines_len {m:Nat}:∀ l:List Hunk,(∀ h∈l,h.lines.length<=m)->(l.flatMap hunkL).length<=l.length*(m+1)
 | [],_=>by simp
 | h::l,hm=>by
   have h1:=lines_len l (fun x hx=>hm x (List.mem_cons_of_mem _ hx))
   have h2:=hm h (by simp)
   rw [List.flatMap_cons,List.length_append,List.length_cons,Nat.succ_mul]
   simp only [hunkL,List.length_cons]
   omega
def baseL (p:Patch):List ByteArray:=if p.base=(⟨#[]⟩:ByteArray)then []else [(⟨#[98,97,115,101,32]⟩:ByteArray)++(hexD p.base).1]
theorem linesP_eq (p:Patch):linesP p=baseL p++p.hunks.flatMap hunkL:=rfl
theorem hexD_le (d:ByteArray):(hexD d).1.size<=64:=by
 unfold hexD
 split
 · rw [bstr_size,hexL_eq]; simp
 · exact Nat.zero_le _
theorem baseL_ok (p:Patch):(baseL p).length<=1/\∀ z∈baseL p,z.size<=1000:=by
 unfold baseL
 split
 · simp
 · refine⟨by simp,fun z hz=>?_⟩
   rw [List.mem_singleton.1 hz,app_size]
   have:=hexD_le p.base
   have e:(⟨#[98,97,115,101,32]⟩:ByteArray).size=5:=rfl
   omega
theorem linesP_ok {p:Patch}(hp:okP4 p):(linesP p).length<=1000000/\∀ z∈linesP p,z.size<=1000000:=by
 rw [linesP_eq]
 obtain⟨b1,b2⟩:=baseL_ok p
 refine⟨?_,fun z hz=>?_⟩
 · have h1:=lines_len p.hunks (fun h hh=>(hp.ok h hh).len)
   have h2:=hp.len
   have:p.hunks.length*(1000+1)<=500*1001:=Nat.mul_le_mul h2 (by omega)
   rw [List.length_append]
   omega
 · rcases List.mem_append.1 hz with hz|hz
   · have:=b2 z hz; omega
   · obtain⟨h,hh,hz⟩:=List.mem_flatMap.1 hz
     rcases List.mem_cons.1 hz with e|hz
     · rw [e]; have:=head_le (hp.ok h hh); omega
     · have:=(hp.ok h hh).size z hz; omega
theorem plines_loop {p:Patch}(hp0:okP4 p){Q:(List ByteArray)->Prop}(b:List ByteArray)(hb:b.length<=1)(h:Q (b++p.hunks.flatMap hunkL)):plines_J2 p Q b:=by
 unfold plines_J2
 have hl:=hp0.len
 refine lfp2 _ (fun(xs:List ByteArray) (x:Int)=>0<=x/\x<=p.hunks.length/\xs++(p.hunks.drop x.toNat).flatMap hunkL=b++p.hunks.flatMap hunkL/\(xs.length:Int)<=1+x*1001) (fun(_:List ByteArray) (x:Int)=>(p.hunks.length-x).toNat) (fun xs x hs again hag=>?_) ⟨by omega,by omega,rfl,by simp; omega⟩
 obtain⟨h0,h1,h2,h3⟩:=hs
 refine⟨fun hlt=>⟨by omega,?_⟩,fun hn=>?_⟩
 · have hh:=hp0.ok _ (gi_mem (l:=p.hunks) (i:=x) (by omega))
   have n0:=hh.n0; have n1:=hh.n1; have ln:=hh.len
   have hi:=itoa_le n0 n1
   rw [zbn (by omega),List.flatMap_cons]at h2
   have key:∀ w:ByteArray,w.size<=5->headH (gi p.hunks x)=w++itoaF (gi p.hunks x).n->plines_J1 p xs x again w:=by
     intro w hw e
     refine⟨by omega,by omega,by omega,by simp,by omega,by omega,by simp; omega,by omega,hag _ _ ⟨by omega,by omega,?_,?_⟩ (by omega)⟩
     · rw [<- h2,hunkL,e]; simp
     · simp only [List.length_append,List.length_cons,List.length_nil]; omega
   refine⟨fun k=>key _ (by decide) (by unfold headH; rw [if_pos k]),fun k=>⟨fun k2=>key _ (by decide) (by unfold headH; rw [if_neg k,if_pos k2]),fun k2=>key _ (by decide) (by unfold headH; rw [if_neg k,if_neg k2])⟩⟩
 · rw [zbv hn,List.flatMap_nil,List.append_nil]at h2
   rw [h2]; exact h
theorem plines_ok (p:Patch)(Q:(List ByteArray)->Prop)(hp0:okP4 p)(h:Q (linesP p)):plines_vc p Q:=by
 rw [linesP_eq]at h
 unfold baseL at h
 refine⟨fun hb=>?_,fun hb=>?_⟩
 · rw [if_neg hb]at h
   have:=hexD_le p.base
   have e:(⟨#[98,97,115,101,32]⟩:ByteArray).size=5:=rfl
   exact⟨by omega,by simp,by simp,plines_loop hp0 _ (by simp) h⟩
 · rw [if_pos hb]at h
   exact plines_loop hp0 _ (by simp) h
theorem hunksB_iff {l:List Hunk}:hunksB l=true↔∀ k:Nat,k<l.length->okAt l k=true:=by
 unfold hunksB; simp
theorem okAt_eq (l:List Hunk)(x:Nat):okAt l x=true↔hunkB (gi l x)=true/\(x=0\/(¬(gi l ((x:Int)-1)).kind=(gi l x).kind/\¬((gi l ((x:Int)-1)).kind=3/\(gi l x).kind=2))):=by
 unfold okAt adjB
 by_cases hb:(gi l ((x:Int)-1)).kind=3<;>simp [hb]
theorem pcheck_ok (p:Patch)(Q:ByteArray×Bool->Prop)(hp0:okP4 p)(h:Q (checkP p)):pcheck_vc p Q:=by
 have hl:=hp0.len
 have s:=sizes_bd hp0
 refine⟨fun hbad=>?_,fun hgood=>?_⟩
 · have hb:baseB p=false:=by
     unfold baseB
     rcases hbad with⟨k,k2⟩|k
     · rw [decide_eq_false k,decide_eq_false (by omega)]; rfl
     · omega
   unfold checkP at h
   rw [hb,Bool.false_and,if_neg (by decide)]at h
   exact h
 have hb:baseB p=true:=by
   unfold baseB
   rw [Bool.and_eq_true,Bool.or_eq_true,decide_eq_true_eq,decide_eq_true_eq,decide_eq_true_eq]
   exact⟨hgood.1.imp id (fun k=>by omega),by omega⟩
 refine lfp_of (fun x:Int=>0<=x/\x<=p.hunks.length/\∀ k:Nat,(k:Int)<x->okAt p.hunks k=true) (fun x=>(p.hunks.length-x).toNat) (fun x hx again hag=>?_) ⟨by omega,by omega,fun k hk=>by omega⟩
 obtain⟨h0,h1,h2⟩:=hx
 have ex:((x.toNat:Nat):Int)=x:=by omega
 refine⟨fun hlt=>?_,fun hn=>?_⟩
 · have hh :=hp0.ok _ (gi_mem (l:=p.hunks) (i:=x) (by omega))
   have e:=okAt_eq p.hunks x.toNat
   rw [ex]at e
   refine⟨by omega,by have:=hh.len; omega,fun _ _=>⟨by omega,by omega⟩,fun hbad=>?_,fun⟨g1,g2⟩=>⟨by omega,hag _ ⟨by omega,by omega,fun k hk=>?_⟩ (by omega)⟩⟩
   · have:hunksB p.hunks=false:=by
       rw [<- Bool.not_eq_true,hunksB_iff]
       intro hall
       have:=e.1 (hall x.toNat (by omega))
       rcases hbad with k|⟨k1,k2⟩
       · rw [k]at this; exact absurd this.1 (by decide)
       · rcases this.2 with k3|⟨k3,k4⟩
         · omega
         · rcases k2 with k2|k2
           · exact k3 k2
           · exact k4 k2
     unfold checkP at h
     rw [this,Bool.false_and,Bool.and_false,if_neg (by decide)]at h
     exact h
   · rcases Int.lt_or_eq_of_le (show(k:Int)<=x by omega)with k1|k1
     · exact h2 k k1
     · have:k=x.toNat:=by omega
       subst this
       refine e.2 ⟨g1,?_⟩
       rcases g2 with g2|⟨g2,g3⟩
       · left; omega
       · right; exact⟨g2,by rintro⟨a,b⟩; rcases g3 with g3|g3; exact g3 a; exact g3 b⟩
 · have hall:hunksB p.hunks=true:=hunksB_iff.2 (fun k hk=>h2 k (by omega))
   unfold checkP at h
   rw [hb,hall,Bool.true_and,Bool.true_and]at h
   refine⟨hp0,by omega,fun _=>by omega,fun _=>by omega,fun hbad=>?_,fun hg=>⟨hp0,(linesP_ok hp0).1,(linesP_ok hp0).2,?_⟩⟩
   · have:sizesB (zbk p)=false:=by
       rw [<- Bool.not_eq_true]; unfold sizesB
       simp only [Bool.and_eq_true,decide_eq_true_eq]
       omega
     rw [this,if_neg (by decide)]at h
     exact h
   · have:sizesB (zbk p)=true:=by
       unfold sizesB
       simp only [Bool.and_eq_true,decide_eq_true_eq]
       omega
     rw [this,if_pos rfl]at h
     rw [int_beq]; exact h
theorem check_hunks {p:Patch}(h:(checkP p).2=true):hunksB p.hunks=true/\sizesB (zbk p)=true/\(joinT (linesP p)).2=0:=by
 unfold checkP at h
 split at h
 · next hc=>
   simp only [Bool.and_eq_true]at hc
   exact⟨hc.2.1,hc.2.2,by simpa using h⟩
 · cases h
theorem hunk_n {h:Hunk}(hb:hunkB h=true):1<=h.kind/\h.kind<=3/\1<=h.n/\h.n<=1024/\(h.kind=3->(h.lines.length:Int)=h.n/\h.lines.any nlB=false)/\(¬ h.kind=3->h.lines.length=0):=by
 unfold hunkB at hb
 simp only [Bool.and_eq_true,decide_eq_true_eq]at hb
 obtain⟨⟨⟨⟨a,b⟩,c⟩,d⟩,e⟩:=hb
 refine⟨a,b,c,d,fun k=>?_,fun k=>?_⟩
 · rw [if_pos k]at e; simpa using e
 · rw [if_neg k]at e; simpa using e
def takesL :List Hunk->Int
 | []=>0
 |h::l=>(if h.kind=3 then 0 else h.n)+takesL l
theorem takes_sizes :∀(l:List Hunk) (s:Int×Int×Int),(∀ h∈l,1<=h.kind/\h.kind<=3)->(l.foldl sizeStep s).1+(l.foldl sizeStep s).2.1=s.1+s.2.1+takesL l
 | [],s,_=>by simp [takesL]
 | h ::l,s,hk=>by
   have h1:=hk h (by simp)
   rw [List.foldl_cons,takes_sizes l _ (fun x hx=>hk x (List.mem_cons_of_mem _ hx)),takesL]
   unfold sizeStep
   by_cases k1:h.kind=1
   · rw [if_pos k1,if_neg (by omega)]; simp only; omega
   · rw [if_neg k1]
     by_cases k2:h.kind=2
     · rw [if_pos k2,if_neg (by omega)]; simp only; omega
     · rw [if_neg k2,if_pos (by omega)]; simp only; omega
theorem takes_nn :∀ l:List Hunk,(∀ h∈l,0<=h.n)->0<=takesL l
 | [],_=>by simp [takesL]
 | h::l,hk=>by
   have h1:=hk h (by simp)
   have h2:=takes_nn l (fun x hx=>hk x (List.mem_cons_of_mem _ hx))
   unfold takesL; split<;>omega
theorem mem_hunk {l:List Hunk}(hb:hunksB l=true){h:Hunk}(hh:h∈l):hunkB h=true:=by
 obtain⟨k,hk,rfl⟩:=List.mem_iff_getElem.1 hh
 have:=(okAt_eq l k).1 (hunksB_iff.1 hb k hk)
 rw [gi_nat hk]at this
 exact this.1
theorem linesT_len (data:ByteArray):(zar data).1.length<=1024/\((∀ z∈(zar data).1,z.size<=65536)):=by
 unfold zar
 split
 · exact⟨by simp,by simp⟩
 · next h=>
   unfold bigT at h
   simp only [Bool.or_eq_true,decide_eq_true_eq,not_or]at h
   refine⟨?_,fun z hz=>?_⟩
   · have e:(zad data nlS).length=data.data.toList.count 10+1:=by unfold zad; rw [List.length_map,split_len]; rfl
     have h2:=h.2
     unfold countF at h2
     have e2:sepOf nlS=10:=rfl
     rw [e2]at h2
     show(zad data nlS).length<=1024
     omega
   · have:=splitF_size data 10 z hz
     omega
theorem papply_ok (p:Patch)(data:ByteArray)(Q:(List ByteArray)×(List ByteArray)×Int->Prop)(hp0:okP4 p)(hp1:data.size<=1000000)(h:Q (applyP p data)):papply_vc p data Q:=by
 have s:=sizes_bd hp0
 have hl:=hp0.len
 have hT:=linesT_len data
 unfold applyP at h
 refine⟨hp0,fun k=>by rw [k,if_neg (by decide)]at h; exact h,fun k=>?_⟩
 rw [k,if_pos rfl]at h
 refine⟨hp1,fun k2=>by rw [if_neg k2]at h; exact h,fun k2=>?_⟩
 rw [if_pos k2]at h
 refine⟨hp0,by omega,fun _ _=>hp1,fun hbad=>?_,fun⟨g1,g2⟩=>?_⟩
 · rw [if_neg (by rintro⟨a,b⟩; rcases hbad with c|⟨c,d⟩; exact c a; rcases b with b|b; exact c b; exact d b)]at h
   exact h
 rw [if_pos ⟨g1,g2⟩]at h
 obtain⟨hb,_,_⟩:=check_hunks k
 have hk:∀ x∈p.hunks,1<=x.kind/\x.kind<=3:=fun x hx=>⟨(hunk_n (mem_hunk hb hx)).1,(hunk_n (mem_hunk hb hx)).2.1⟩
 have ht:takesL p.hunks=((zar data).1.length:Int):=by
   have:=takes_sizes p.hunks (0,0,0) hk
   unfold zbk at g1
   simp only at this
   omega
 refine lfp3 _ (fun(out:List ByteArray) (at_ x:Int)=>0<=x/\x<=p.hunks.length/\((p.hunks.drop x.toNat).foldl (applyStep (zar data).1) (out,at_)).1=outP (zar data).1 p.hunks/\0<=at_/\at_+takesL (p.hunks.drop x.toNat)=((zar data).1.length:Int)/\(out.length:Int)<=x*1024/\∀ z∈out,z.size<=1000000)
   (fun(_:List ByteArray) (_ x:Int)=>(p.hunks.length-x).toNat) (fun out at_ x hs again hag=>?_) ⟨by omega,by omega,rfl,by omega,by simpa using ht,by simp,by simp⟩
 obtain⟨h0,h1,h2,h3,h4,h5,h6⟩:=hs
 refine⟨fun hlt=>⟨by omega,?_⟩,fun hn=>?_⟩
 · have hm:=gi_mem (l:=p.hunks) (i:=x) (by omega)
   obtain⟨c1,c2,c3,c4,c5,c6⟩:=hunk_n (mem_hunk hb hm)
   have hh:=hp0.ok _ hm
   have ln:=hh.len
   rw [zbn (by omega),takesL]at h4
   rw [zbn (by omega),List.foldl_cons]at h2
   have tn:=takes_nn (p.hunks.drop (x+1).toNat) (fun y hy=>(hp0.ok y (List.mem_of_mem_drop hy)).n0)
   unfold applyStep at h2
   refine⟨fun k1=>?_,fun k1=>⟨fun k3=>?_,fun k3=>?_⟩⟩
   · rw [if_pos k1]at h2
     rw [if_neg (by omega)]at h4
     have hs:inS at_ (at_+(gi p.hunks x).n) (zar data).1.length:=⟨by omega,by omega,by omega⟩
     have hlen:=lsub_length (l:=(zar data).1) hs
     refine⟨by omega,hs,⟨by omega,by omega⟩,by omega,by omega,hag _ _ _ ⟨by omega,by omega,h2,by omega,by omega,?_,fun z hz=>?_⟩ (by omega)⟩
     · rw [List.length_append]; omega
     · rcases List.mem_append.1 hz with hz|hz
       · exact h6 z hz
       · have:=hT.2 z (List.mem_of_mem_take (List.mem_of_mem_drop hz)); omega
   · rw [if_neg k1,if_pos k3]at h2
     rw [if_neg (by omega)]at h4
     exact⟨by omega,by omega,hag _ _ _ ⟨by omega,by omega,h2,by omega,by omega,by omega,h6⟩ (by omega)⟩
   · rw [if_neg k1,if_neg k3]at h2
     rw [if_pos (by omega)]at h4
     refine⟨⟨by omega,by omega⟩,by omega,hag _ _ _ ⟨by omega,by omega,h2,by omega,by omega,?_,fun z hz=>?_⟩ (by omega)⟩
     · rw [List.length_append]; omega
     · rcases List.mem_append.1 hz with hz|hz
       · exact h6 z hz
       · have:=hh.size z hz; omega
 · rw [zbv hn]at h2
   simp only [List.foldl_nil]at h2
   rw [<- h2]at h
   refine⟨by omega,h6,fun k3=>by rw [if_neg k3]at h; exact h,fun k3=>by rw [if_pos k3]at h; exact h⟩
theorem out_ok {p:Patch}(hp0:okP4 p)(data:ByteArray):(applyP p data).2.1.length<=1000000/\∀ z∈(applyP p data).2.1,z.size<=1000000:=by
 have hT:=linesT_len data
 have key:∀(l:List Hunk) (r:List ByteArray×Int) (m:Nat),(∀ h∈l,OkH h)->r.1.length<=m->(∀ z∈r.1,z.size<=1000000)->(l.foldl (applyStep (zar data).1) r).1.length<=m+l.length*1024/\∀ z∈(l.foldl (applyStep (zar data).1) r).1,z.size<=1000000:=by
   intro l
   induction l with
   |nil=>intro r m _ h1 h2; exact⟨by simpa using h1,h2⟩
   | cons h l ih=>
     intro r m hok h1 h2
     have hh:=hok h (by simp)
     have:(applyStep (zar data).1 r h).1.length<=m+1024/\∀ z∈(applyStep (zar data).1 r h).1,z.size<=1000000:=by
       unfold applyStep
       split
       · refine⟨?_,fun z hz=>?_⟩
         · have:(zbc (zar data).1 r.2 (r.2+h.n)).length<=(zar data).1.length:=by simp [zbc]; omega
           rw [List.length_append]; omega
         · rcases List.mem_append.1 hz with hz|hz
           · exact h2 z hz
           · have:=hT.2 z (List.mem_of_mem_take (List.mem_of_mem_drop hz)); omega
       · split
         · exact⟨by simp only; omega,h2⟩
         · refine⟨by have:=hh.len; rw [List.length_append]; omega,fun z hz=>?_⟩
           rcases List.mem_append.1 hz with hz|hz
           · exact h2 z hz
           · have:=hh.size z hz; omega
     obtain⟨a,b⟩:=ih _ (m+1024) (fun x hx=>hok x (List.mem_cons_of_mem _ hx)) this.1 this.2
     rw [List.foldl_cons,List.length_cons]
     exact⟨by omega,b⟩
 obtain⟨a,b⟩:=key p.hunks ([],0) 0 hp0.ok (by simp) (by simp)
 have hl:=hp0.len
 unfold applyP
 split
 · split
   · split
     · split
       · exact⟨by simp only [outP]; omega,b⟩
       · exact⟨by simp,by simp⟩
     · exact⟨by simp,by simp⟩
   · exact⟨by simp,by simp⟩
 · exact⟨by simp,by simp⟩
theorem pApply_ok (p:Patch)(data:ByteArray)(Q:ByteArray×Int->Prop)(hp0:okP4 p)(hp1:data.size<=1000000)(h:Q (zbg p data)):pApply_vc p data Q:=⟨hp0,hp1,(out_ok hp0 data).1,(out_ok hp0 data).2,rfl,h⟩
end Go.Lic
set_option linter.all false
namespace Go.Lic
open Go.Proofs Go.Sort
theorem word_lt {c:Int}(h:wordB c=true):48<=c/\c<=122:=by
 unfold wordB digB at h
 simp only [Bool.or_eq_true,Bool.and_eq_true,decide_eq_true_eq,beq_iff_eq]at h
 omega
theorem wrap8 {c:Int}(h0:0<=c)(h1:c<=255):IntKind.u8.wrap c=c:=by
 simp [IntKind.wrap,IntKind.signed,IntKind.bits]; omega
theorem stop_low {c:Int}(h0:0<=c)(h1:c<128):stopB c= !wordB c:=by
 unfold stopB
 rw [wrap8 h0 (by omega)]
 cases hw:wordB c with
 |true=>have:=word_lt hw; simp; omega
 |false=>simp
theorem stop_high {c:Int}(h:128<=c):stopB c=true:=by
 unfold stopB; simp; left; omega
theorem rune_word (s:ByteArray):∀(n i k:Nat),s.size-i<n->i<=k->k<=s.size->(∀ j,i<=j->j<k->wordB (sgi s (j:Int))=true)->(k<s.size->wordB (sgi s (k:Int))=false)->
   runeIdxL (fun r=>stopB r==true) s n (i:Int)=if k<s.size then(k:Int)else -1
 |0,i,k,h,_,_,_,_=>by omega
 | n + 1,i,k,h,hik,hk,hw,hs=>by
   unfold runeIdxL
   by_cases hi:i<s.size
   · rw [if_pos (by omega)]
     simp only [Int.toNat_natCast]
     have e:sgi s (i:Int)=(((s.get! i).toNat:Nat):Int):=sgi_get s i
     by_cases he:i=k
     · subst he
       have hw0:=hs hi
       rw [e]at hw0
       rw [if_pos hi]
       by_cases hb:(s.get! i).toNat<128
       · rw [decode_low hb]
         simp only
         rw [stop_low (by omega) (by omega),hw0]
         rfl
       · have h1:=decode_high hb
         rw [stop_high (by omega)]
         rfl
     · have hw0:=hw i (Nat.le_refl _) (by omega)
       rw [e]at hw0
       have hlt:=word_lt hw0
       have hb:(s.get! i).toNat<128:=by omega
       rw [decode_low hb]
       simp only
       rw [stop_low (by omega) (by omega),hw0]
       have e2:((!true)==true)=false:=rfl
       rw [e2,if_neg (by decide),show((i:Int)+((1:Nat):Int))=((i+1:Nat):Int) by omega]
       exact rune_word s n (i+1) k (by omega) (by omega) hk (fun j h1 h2=>hw j (by omega) h2) hs
   · rw [if_neg (by omega),if_neg (by omega)]
theorem drop_len (p:UInt8->Bool):∀ l:List UInt8,(l.dropWhile p).length<=l.length
 | []=>by simp
 | x::l=>by
   have:=drop_len p l
   rw [List.dropWhile_cons]
   split<;>simp<;>omega
theorem words_fuel :∀(n m:Nat) (l:List UInt8),l.length<=n->l.length<=m->wordsU n l=wordsU m l
 | 0,m,l,hn,_=>by
   have:l= []:=List.eq_nil_of_length_eq_zero (by omega)
   subst this
   cases m<;>rfl
 | n+1,0,l,_,hm=>by
   have:l= []:=List.eq_nil_of_length_eq_zero (by omega)
   subst this; rfl
 |n+1,m+1,[],_,_=>rfl
 | n+1,m+1,x::r,hn,hm=>by
   simp only [List.length_cons]at hn hm
   have h1:=drop_len wordC r
   unfold wordsU
   rw [words_fuel n m r (by omega) (by omega),words_fuel n m (r.dropWhile wordC) (by omega) (by omega)]
theorem wordsL_ba (l:List UInt8):zbw (ba l)=(wordsU l.length l).map ba:=by
 unfold zbw; rw [ba_size]; rfl
theorem take_drop_while (p:UInt8->Bool)(l:List UInt8):l.take (l.takeWhile p).length=l.takeWhile p/\l.drop (l.takeWhile p).length=l.dropWhile p:=by
 induction l with
 |nil=>simp
 | cons x l ih=>
   by_cases h:p x=true
   · rw [List.takeWhile_cons_of_pos h,List.dropWhile_cons_of_pos h]; simpa using ih
   · rw [List.takeWhile_cons_of_neg h,List.dropWhile_cons_of_neg h]; simp
theorem tw_word (l:List UInt8):∀ j,j<(l.takeWhile wordC).length->wordB (sgi (ba l) (j:Int))=true:=by
 intro j hj
 have hl:(l.takeWhile wordC).length<=l.length:=(List.takeWhile_prefix wordC).length_le
 rw [sgi_ba l j (by omega)]
 have h1:=List.getElem_mem hj
 have h2:(l.takeWhile wordC)[j]=l[j]:=by
   have:=(List.takeWhile_prefix (p:=wordC) (l:=l))
   exact this.getElem hj
 have h3 :wordC (l.takeWhile wordC)[j]=true:=by
   have:∀(l:List UInt8),∀ x∈l.takeWhile wordC,wordC x=true:=by
     intro l
     induction l with
     |nil=>intro x hx; cases hx
     | cons y l ih=>
       intro x hx
       by_cases hy:wordC y=true
       · rw [List.takeWhile_cons_of_pos hy]at hx
         rcases List.mem_cons.1 hx with e|hx
         · rw [e]; exact hy
         · exact ih x hx
       · rw [List.takeWhile_cons_of_neg hy]at hx; cases hx
   exact this l _ h1
 rw [h2]at h3; exact h3
theorem tw_stop (l:List UInt8)(h:(l.takeWhile wordC).length<l.length):wordB (sgi (ba l) (((l.takeWhile wordC).length:Nat):Int))=false:=by
 rw [sgi_ba l _ h]
 induction l with
 |nil=>simp at h
 | cons y l ih=>
   by_cases hy:wordC y=true
   · simp only [List.takeWhile_cons_of_pos hy,List.length_cons]at h ⊢
     rw [List.getElem_cons_succ]
     exact ih (by omega)
   · simp only [List.takeWhile_cons_of_neg hy,List.length_nil]
     rw [List.getElem_cons_zero]
     simpa using hy
theorem nsplit_ok (line:ByteArray)(Q:(List ByteArray)->Prop)(hp0:line.size<=1000000)(h:Q (zbw line)):nsplit_vc line Q:=by
 refine lfp2 _ (fun(out:List ByteArray) (s:ByteArray)=>out++zbw s=zbw line/\out.length+s.size<=line.size) (fun(_:List ByteArray) (s:ByteArray)=>s.size) (fun out s hs again hag=>?_) ⟨rfl,by simp⟩
 obtain⟨h1,h2⟩:=hs
 obtain⟨l,rfl⟩:∃ l,s=ba l:=⟨s.data.toList,(ba_of s).symm⟩
 rw [ba_size]at h2
 refine⟨fun hne=>?_,fun he=>?_⟩
 · rcases l with _|⟨x,r⟩
   · exact absurd rfl hne
   simp only [List.length_cons]at h2
   have hsz:(ba (x::r)).size=r.length+1:=by rw [ba_size]; simp
   have e0:sgi (ba (x::r)) 0=(x.toNat:Int):=sgi_ba (x::r) 0 (by simp)
   have tail:∀ k:Nat,1<=k->k<=r.length+1->ssub (ba (x::r)) ((k:Nat):Int) ((ba (x::r)).size:Int)=ba ((x::r).drop k):=by
     intro k _ hk
     rw [ssub_ba,hsz,Int.toNat_natCast,Int.toNat_natCast,List.take_of_length_le (by simp)]
   have front:∀ k:Nat,k<=r.length+1->ssub (ba (x::r)) 0 ((k:Nat):Int)=ba ((x::r).take k):=by
     intro k hk
     rw [ssub_ba,Int.toNat_natCast]; rfl
   have join:∀ k:Nat,1<=k->k<=r.length+1->zbw (ba (x::r))=ba ((x::r).take k)::zbw (ba ((x::r).drop k))->nsplit_J1 out (ba (x::r)) again (k:Int):=by
     intro k k1 k2 e
     refine⟨⟨by omega,by omega,by omega⟩,⟨by simp; omega,by simp; omega⟩,⟨by omega,by omega,by omega⟩,?_⟩
     rw [front k k2,tail k k1 k2]
     refine hag _ _ ⟨?_,?_⟩ ?_
     · rw [<- h1,e]; simp
     · rw [ba_size,List.length_append,List.length_drop]; simp; omega
     · rw [ba_size,hsz,List.length_drop]; simp; omega
   have w1:blankF (x.toNat:Int)=false->wordC x=false->zbw (ba (x::r))=ba [x]::zbw (ba r):=by
     intro a b
     rw [wordsL_ba,wordsL_ba,List.length_cons,wordsU,if_neg (by rw [a]; decide),if_neg (by rw [b]; decide)]; rfl
   refine⟨by omega,fun hb=>⟨⟨by omega,by omega,by omega⟩,?_⟩,fun hb=>⟨by omega,fun hw=>?_,fun hw=>?_⟩⟩
   · rw [show(1:Int)=((1:Nat):Int)from rfl,tail 1 (by omega) (by omega)]
     refine hag _ _ ⟨?_,?_⟩ ?_
     · rw [<- h1]
       congr 1
       rw [e0]at hb
       rw [wordsL_ba (x::r),List.length_cons,wordsU,if_pos hb,wordsL_ba]; rfl
     · rw [ba_size]; simp; omega
     · rw [ba_size,hsz]; simp
   · rw [e0]at hb hw
     have hx:wordC x=true:=hw
     have e1:runeIx (fun(x0_:Int)=>stopB x0_) (ba (x::r)) true=if((x::r).takeWhile wordC).length<(ba (x::r)).size then((((x::r).takeWhile wordC).length:Nat):Int)else -1:=by
       have hl:((x::r).takeWhile wordC).length<=(x::r).length:=(List.takeWhile_prefix wordC).length_le
       exact rune_word (ba (x::r)) _ 0 _ (by omega) (by omega) (by rw [ba_size]; exact hl) (fun j _ hj=>tw_word (x::r) j hj) (fun hlt=>tw_stop (x::r) (by rw [ba_size]at hlt; exact hlt))
     have hk1:1<=((x::r).takeWhile wordC).length:=by rw [List.takeWhile_cons_of_pos hx]; simp
     have hk2:((x::r).takeWhile wordC).length<=r.length+1:=(List.takeWhile_prefix wordC).length_le
     have ew:zbw (ba (x::r))=ba ((x::r).take ((x::r).takeWhile wordC).length)::zbw (ba ((x::r).drop ((x::r).takeWhile wordC).length)):=by
       have hd:=drop_len wordC r
       rw [(take_drop_while wordC (x::r)).1,(take_drop_while wordC (x::r)).2,List.takeWhile_cons_of_pos hx,List.dropWhile_cons_of_pos hx,wordsL_ba,wordsL_ba,List.length_cons,wordsU,if_neg (by rw [hb]; decide),if_pos hx,words_fuel r.length _ (r.dropWhile wordC) (by omega) (Nat.le_refl _)]
       rfl
     refine⟨fun _=>trivial,fun hn=>?_,fun hn=>?_⟩
     · rw [e1]at hn
       have:((x::r).takeWhile wordC).length=r.length+1:=by
         split at hn
         · omega
         · omega
       rw [hsz,<-this]
       exact join _ hk1 hk2 ew
     · rw [e1]at hn ⊢
       split at hn
       · next hlt=>rw [if_pos hlt]; exact join _ hk1 hk2 ew
       · omega
   · rw [e0]at hb hw
     exact join 1 (by omega) (by omega) (by rw [w1 hb hw]; rfl)
 · have:l= []:=by
     cases l with
     |nil=>rfl
     | cons x r=>
       have h0:(x::r).length=0:=by rw [<- ba_size,he]; rfl
       simp at h0
   subst this
   have e:zbw (ba [])= []:=rfl
   rw [e,List.append_nil]at h1
   rw [h1]; exact h
theorem words_pos :∀(n:Nat) (l:List UInt8),∀ p∈wordsU n l,0<p.length/\p.length<=l.length
 |0,l,p,h=>by cases h
 |n+1,[],p,h=>by cases h
 | n + 1,x::r,p,h=>by
   unfold wordsU at h
   split at h
   · have:=words_pos n r p h; simp; omega
   · split at h
     · rcases List.mem_cons.1 h with e|h
       · subst e
         have hl:(r.takeWhile wordC).length<=r.length:=(List.takeWhile_prefix wordC).length_le
         simp; omega
       · have:=words_pos n _ p h
         have h1:=drop_len wordC r
         simp; omega
     · rcases List.mem_cons.1 h with e|h
       · subst e; simp
       · have:=words_pos n r p h; simp; omega
theorem words_len :∀(n:Nat) (l:List UInt8),(wordsU n l).length<=l.length
 |0,l=>by simp [wordsU]
 |n+1,[]=>by simp [wordsU]
 | n+1,x::r=>by
   have h1:=words_len n r; have h2:=words_len n (r.dropWhile wordC); have h3:=drop_len wordC r
   unfold wordsU
   split
   · simp; omega
   · split<;>simp<;>omega
theorem wordsL_len (s:ByteArray):(zbw s).length<=s.size:=by
 unfold zbw; rw [List.length_map]; exact words_len _ _
theorem wordsL_pos (s:ByteArray):∀ w∈zbw s,0<w.size/\w.size<=s.size:=by
 intro w hw
 obtain⟨l,hl,rfl⟩:=List.mem_map.1 hw
 exact(words_pos _ _ l hl).imp (fun a=>by rw [show(⟨l.toArray⟩:ByteArray).size=l.length from ba_size l]; exact a) (fun a=>by rw [show(⟨l.toArray⟩:ByteArray).size=l.length from ba_size l]; exact a)
theorem note_ge (l:List ByteArray):noteF l<=9223372036854775807/\ -1<=noteF l\/noteF l< -1/\ -9223372036854775808<=noteF l:=by
 unfold noteF
 split
 · split
   · next n hn=>
     split
     · have hb:(-9223372036854775808:Int)<=n/\n<=9223372036854775807:=by
         unfold atoiO at hn
         split at hn
         · next v hv=>cases hn; exact Lib.atoiAll_bounds hv
         · cases hn
       omega
     · left; omega
   · left; omega
 · left; omega
theorem split_sum (c:UInt8):∀ l:List UInt8,((zcf c l).map (·.length)).sum+(zcf c l).length=l.length+1
 | []=>rfl
 | b ::l=>by
   have ih:=split_sum c l
   unfold zcf
   by_cases hb:b=c
   · rw [if_pos hb]; simp only [List.map_cons,List.sum_cons,List.length_cons,List.length_nil]; omega
   · rw [if_neg hb]
     cases hs:zcf c l with
     |nil=>exact absurd hs (split_ne l)
     |cons p r=>rw [hs]at ih; simp only [List.map_cons,List.sum_cons,List.length_cons]at ih ⊢; omega
def sumW :List ByteArray->Nat
 | []=>0
 |s::l=>s.size+sumW l
theorem sumW_eq (l:List (List UInt8)):sumW (l.map ba)=(l.map (·.length)).sum:=by
 induction l with
 |nil=>rfl
 |cons p l ih=>simp only [List.map_cons,sumW,List.sum_cons,ih,ba_size]
theorem sum_split (data:ByteArray):sumW (zad data nlS)<=data.size:=by
 have h:=split_sum 10 data.data.toList
 have e:zad data nlS=(zcf 10 data.data.toList).map ba:=rfl
 have hl:0<(zcf 10 data.data.toList).length:=List.length_pos_iff.2 (split_ne _)
 rw [e,sumW_eq]
 have:data.data.toList.length=data.size:=rfl
 omega
theorem nwords_ok (path:ByteArray)(data:ByteArray)(names:Bool)(numbers:Bool)(Q:Text×Int->Prop)(hq:path.size<=1000000)(hp0:data.size<=1000000)(h:Q (zbe path data names numbers)):nwords_vc path data names numbers Q:=by
 unfold zbe at h
 simp only [nlS]at h
 refine⟨hq,fun k=>by rw [if_neg k]at h; exact h,fun k=>⟨fun _=>rfl,fun hb=>?_,fun hb=>⟨hp0,rfl,?_⟩⟩⟩
 · rw [if_pos k,if_pos (by unfold bigT; simpa using hb)]at h; exact h
 rw [if_pos k,if_neg (by unfold bigT; simp only [Bool.or_eq_true,decide_eq_true_eq,not_or]; exact hb)]at h
 have hsum:sumW (zad data (⟨#[10]⟩:ByteArray))<=data.size:=sum_split data
 refine⟨fun s=>0<=s.2/\s.2<=((zad data (⟨#[10]⟩:ByteArray)).length:Int)/\s.1.1++normL names numbers s.1.2.1 s.1.2.2 ((zad data (⟨#[10]⟩:ByteArray)).drop s.2.toNat)=normL names numbers 0 0 (zad data (⟨#[10]⟩:ByteArray))/\s.1.1.length+sumW ((zad data (⟨#[10]⟩:ByteArray)).drop s.2.toNat)<=data.size/\(0<=s.1.2.2/\s.1.2.2<=s.2)/\(0<=s.1.2.1/\s.1.2.1<=9223372036854775807),⟨by simp,by simp,rfl,by simpa using hsum,by simp,by simp⟩,?_⟩
 rintro⟨⟨xs,skip,at_⟩,ix⟩ ⟨h0,h1,h2,h3,h4,h5⟩
 simp only at h0 h1 h2 h3 h4 h5
 show nwords_L1 path data names numbers Q _ xs skip at_ ix
 have hlen:((zad data (⟨#[10]⟩:ByteArray)).length:Int)<=1000001:=by have:(zad data (⟨#[10]⟩:ByteArray)).length<=data.size+1:=splitF_len data 10; omega
 refine⟨fun hlt=>?_,fun hn=>?_⟩
 · have hm:=gi_mem (l:=zad data (⟨#[10]⟩:ByteArray)) (i:=ix) hlt
   have hz:(gi (zad data (⟨#[10]⟩:ByteArray)) ix).size<=data.size:=splitF_size data 10 _ hm
   have hwl:=wordsL_len (gi (zad data (⟨#[10]⟩:ByteArray)) ix)
   have hnote:=note_ge (zbw (gi (zad data (⟨#[10]⟩:ByteArray)) ix))
   rw [zbn (by omega),normL]at h2
   rw [zbn (by omega),sumW]at h3
   refine⟨by omega,by omega,fun k1=>⟨by omega,by omega,?_⟩,fun k1=>⟨fun k2=>⟨by omega,?_⟩,fun k2=>?_⟩⟩
   · rw [if_pos k1]at h2
     exact⟨by simp only; omega,by simp only; omega,h2,by simp only; omega,by simp only; omega,by simp only; omega⟩
   · rw [if_neg k1,if_pos k2]at h2
     exact⟨by simp only; omega,by simp only; omega,h2,by simp only; omega,by simp only; omega,by simp only; omega⟩
   · rw [if_neg k1,if_neg k2]at h2
     refine lfp2 _ (fun(ys:List Lexeme) (x:Int)=>0<=x/\x<=((zbw (gi (zad data (⟨#[10]⟩:ByteArray)) ix)).length:Int)/\ys++((zbw (gi (zad data (⟨#[10]⟩:ByteArray)) ix)).drop x.toNat).map (fun w=>(⟨classF w names numbers,at_⟩:Lexeme))=xs++(zbw (gi (zad data (⟨#[10]⟩:ByteArray)) ix)).map (fun w=>(⟨classF w names numbers,at_⟩:Lexeme))/\(ys.length:Int)=xs.length+x) (fun(_:List Lexeme) (x:Int)=>((zbw (gi (zad data (⟨#[10]⟩:ByteArray)) ix)).length-x).toNat) (fun ys x hs again hag=>?_) ⟨by omega,by omega,rfl,by omega⟩
     obtain⟨g0,g1,g2,g3⟩:=hs
     refine⟨fun hx=>⟨by omega,(wordsL_pos _ _ (gi_mem (by omega))).1,⟨by simp; omega,by simp; omega⟩,by omega,hag _ _ ⟨by omega,by omega,?_,?_⟩ (by omega)⟩,fun hx=>⟨by omega,?_⟩⟩
     · rw [<- g2,zbn (l:=zbw (gi (zad data (⟨#[10]⟩:ByteArray)) ix)) (x:=x) (by omega)]; simp
     · simp; omega
     · rw [zbv hx,List.map_nil,List.append_nil]at g2
       refine⟨by simp only; omega,by simp only; omega,?_,?_,by simp only; omega,by simp only; omega⟩
       · simp only
         rw [<- h2,g2,List.append_assoc]
       · simp only
         rw [g2,List.length_append,List.length_map]
         omega
 · have e:ix=((zad data (⟨#[10]⟩:ByteArray)).length:Int):=by omega
   subst e
   rw [Int.toNat_natCast,List.drop_length,normL,List.append_nil]at h2
   rw [h2]
   exact⟨fun k1=>by rw [if_pos k1]at h; exact h,fun k1=>by rw [if_neg k1]at h; exact h⟩
end Go.Lic
