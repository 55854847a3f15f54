/-
  Structures of chapter 16 and how memory holds them.
-/
import Derived.Test.YtkifpidbpoghlaaGreatDoorRead
import Derived.Test.YtkifpidbpoghlaaGreatDoorStates
import Derived.Sort.AssemblyPlain
import Derived.Shelf.SlSortCmp.Insertion
import Derived.Lib.BitFns
import Derived.Test.YtkifpidbpoghlaaGreatDoorHeap
import Derived.Lib.Bytealg
import Derived.Lib.ItoaNum
import Derived.KernelRfl
import Derived.Shelf.SlSortCmp.WholeK
import Derived.Laws.RangeAny
import Derived.Maps.RangeRun
set_option linter.all false
namespace Go.Lic
structure Span where
 path:ByteArray
 from_:Int
 to:Int
deriving DecidableEq
instance :Inhabited Span:=⟨⟨default,default,default⟩⟩
def zbd (x:Span):D:= .agg ([D.s x.path,D.i x.from_,D.i x.to])
structure Line where
 path:ByteArray
 n:Int
deriving DecidableEq
instance :Inhabited Line:=⟨⟨default,default⟩⟩
def encLine (x:Line):D:= .agg ([D.s x.path,D.i x.n])
def valSpan (x:Span):List Value:= [.string x.path,.int .i64 x.from_,.int .i64 x.to]
theorem valSpan_one :∀ x:Span,∀ v∈valSpan x,v.oneCell'=true:=by
 intro x v hv
 simp only [valSpan,List.mem_cons,List.not_mem_nil,or_false]at hv
 rcases hv with rfl|rfl|rfl<;>rfl
end Go.Lic
set_option linter.all false
namespace Go.Lic
structure Lexeme where
 text:ByteArray
 line:Int
deriving DecidableEq
instance :Inhabited Lexeme:=⟨⟨default,default⟩⟩
def zau (x:Lexeme):D:= .agg ([D.s x.text,D.i x.line])
structure Text where
 path:ByteArray
 words:(List Lexeme)
deriving DecidableEq
instance :Inhabited Text:=⟨⟨default,default⟩⟩
def zaa (x:Text):D:= .agg ([D.s x.path,(zai 2 zau) x.words])
structure Print where
 hash:Int
 at_:Int
deriving DecidableEq
instance :Inhabited Print:=⟨⟨default,default⟩⟩
def zbm (x:Print):D:= .agg ([D.i x.hash,D.i x.at_])
structure Pst where
 hash:Int
 text:Int
 at_:Int
deriving DecidableEq
instance :Inhabited Pst:=⟨⟨default,default,default⟩⟩
def encPst (x:Pst):D:= .agg ([D.i x.hash,D.i x.text,D.i x.at_])
def eqPst (a b:Pst):Bool:=decide (a.hash=b.hash)&&(decide (a.text=b.text)&&(decide (a.at_=b.at_)&&true))
structure Corpus where
 k:Int
 w:Int
 texts:(List Text)
 posts:(List Pst)
deriving DecidableEq
instance :Inhabited Corpus:=⟨⟨default,default,default,default⟩⟩
def zao (x:Corpus):D:= .agg ([D.i x.k,D.i x.w,(zai 2 zaa) x.texts,(zai 3 encPst) x.posts])
def valPst (x:Pst):List Value:= [.int .i64 x.hash,.int .i64 x.text,.int .i64 x.at_]
theorem valPst_one :∀ x:Pst,∀ v∈valPst x,v.oneCell'=true:=by
 intro x v hv
 simp only [valPst,List.mem_cons,List.not_mem_nil,or_false]at hv
 rcases hv with rfl|rfl|rfl<;>rfl
end Go.Lic
set_option linter.all false
namespace Go.Lic
structure DigestSponge where
 state:(List Int)
 rest:(List Int)
 taken:Int
 seen:(List Int)
 tail:ByteArray
 sum:ByteArray
instance :Inhabited DigestSponge:=⟨⟨default,default,default,default,default,default⟩⟩
end Go.Lic
set_option linter.all false
namespace Go.Lic
structure Hunk where
 kind:Int
 n:Int
 lines:(List ByteArray)
instance :Inhabited Hunk:=⟨⟨default,default,default⟩⟩
def zce (x:Hunk):D:= .agg ([D.i x.kind,D.i x.n,(zai 1 D.s) x.lines])
structure Patch where
 base:ByteArray
 hunks:(List Hunk)
instance :Inhabited Patch:=⟨⟨default,default⟩⟩
def zby (x:Patch):D:= .agg ([D.s x.base,(zai 3 zce) x.hunks])
end Go.Lic
set_option linter.all false
namespace Go.Lic
structure Piece where
 from_:Int
 to:Int
 text:Int
 at_:Int
deriving DecidableEq
instance :Inhabited Piece:=⟨⟨default,default,default,default⟩⟩
def zca (x:Piece):D:= .agg ([D.i x.from_,D.i x.to,D.i x.text,D.i x.at_])
structure Attribution where
 path:ByteArray
 pieces:(List Piece)
deriving DecidableEq
instance :Inhabited Attribution:=⟨⟨default,default⟩⟩
def zaz (x:Attribution):D:= .agg ([D.s x.path,(zai 4 zca) x.pieces])
end Go.Lic
set_option linter.all false
namespace Go.Lic
structure Clone where
 a:Int
 atA:Int
 b:Int
 atB:Int
 len:Int
deriving DecidableEq
instance :Inhabited Clone:=⟨⟨default,default,default,default,default⟩⟩
def zap (x:Clone):D:= .agg ([D.i x.a,D.i x.atA,D.i x.b,D.i x.atB,D.i x.len])
def eqClone (a b:Clone):Bool:=decide (a.a=b.a)&&(decide (a.atA=b.atA)&&(decide (a.b=b.b)&&(decide (a.atB=b.atB)&&(decide (a.len=b.len)&&true))))
structure CloneDiagonal where
 a:Int
 b:Int
 by_:Int
deriving DecidableEq
instance :Inhabited CloneDiagonal:=⟨⟨default,default,default⟩⟩
def zbz (x:CloneDiagonal):D:= .agg ([D.i x.a,D.i x.b,D.i x.by_])
structure ClonePlace where
 text:Int
 at_:Int
deriving DecidableEq
instance :Inhabited ClonePlace:=⟨⟨default,default⟩⟩
def zab (x:ClonePlace):D:= .agg ([D.i x.text,D.i x.at_])
def eqClonePlace (a b:ClonePlace):Bool:=decide (a.text=b.text)&&(decide (a.at_=b.at_)&&true)
def valClone (x:Clone):List Value:= [.int .i64 x.a,.int .i64 x.atA,.int .i64 x.b,.int .i64 x.atB,.int .i64 x.len]
theorem valClone_one :∀ x:Clone,∀ v∈valClone x,v.oneCell'=true:=by
 intro x v hv
 simp only [valClone,List.mem_cons,List.not_mem_nil,or_false]at hv
 rcases hv with rfl|rfl|rfl|rfl|rfl<;>rfl
end Go.Lic
set_option linter.all false
namespace Go.Lic
open Go.Proofs Go.Sort
def sortF {T:Type} [Inhabited T](cf:T->T->Int)(l:List T):List T:=(pdq (ltOf cf) l.toArray 0 l.length (Lib.bitLen l.length) true true).toList
theorem sortF_perm {T:Type} [Inhabited T]{cf:T->T->Int}(hO:SWO (ltOf cf))(l:List T):(sortF cf l).Perm l:=by
 have h:=(pdq_sorts (ltOf cf) hO l.toArray 0 l.length (Lib.bitLen l.length) true true (Nat.zero_le _) (by simp) (Or.inl rfl)).1
 obtain⟨h1,_,h3⟩:=h
 have e1:(pdq (ltOf cf) l.toArray 0 l.length (Lib.bitLen l.length) true true).extract 0 l.length=pdq (ltOf cf) l.toArray 0 l.length (Lib.bitLen l.length) true true:=by
   apply Array.ext'
   rw [Array.toList_extract]
   have:(pdq (ltOf cf) l.toArray 0 l.length (Lib.bitLen l.length) true true).toList.length=l.length:=by rw [Array.length_toList,h1]; simp
   show((pdq (ltOf cf) l.toArray 0 l.length (Lib.bitLen l.length) true true).toList.drop 0).take (l.length-0)=_
   rw [List.drop_zero,Nat.sub_zero,List.take_of_length_le (by omega)]
 have e2:l.toArray.extract 0 l.length=l.toArray:=by
   apply Array.ext'
   rw [Array.toList_extract]
   simp [List.extract_eq_take_drop]
 rw [e1,e2]at h3
 simpa [sortF]using h3
theorem zac {T:Type} [Inhabited T]{cf:T->T->Int}(hO:SWO (ltOf cf))(l:List T):(sortF cf l).length=l.length:=(sortF_perm hO l).length_eq
theorem sortF_sorted {T:Type} [Inhabited T]{cf:T->T->Int}(hO:SWO (ltOf cf))(l:List T):∀ i j,i<j->j<l.length->¬cf ((sortF cf l)[j]!) ((sortF cf l)[i]!)<0:=by
 have h:=(pdq_sorts (ltOf cf) hO l.toArray 0 l.length (Lib.bitLen l.length) true true (Nat.zero_le _) (by simp) (Or.inl rfl)).2
 intro i j hij hj
 have:=h i j (Nat.zero_le _) hij hj
 simp only [ltOf,decide_eq_false_iff_not]at this
 unfold sortF
 rw [<- List.getElem!_toArray,<-List.getElem!_toArray,Array.toArray_toList]
 exact this
end Go.Lic
set_option linter.all false
namespace Go.Lic
def idxOf {α:Type}(p:α->Bool)(l:List α):Int:=match l.findIdx? p with|some i=>i|none=> -1
def cmpB (a b:ByteArray):Int:=Lib.compareBytes a.data.toList b.data.toList
def cmpI (a b:Int):Int:=if a<b then -1 else if b<a then 1 else 0
def orF (l:List Int):Int:=(l.find? (· != 0)).getD 0
def lenF (n:Int):Int:=Lib.bitLen n.toNat
def sepOf (s:ByteArray):UInt8:=s.data.toList.headD 0
def countF (s sep:ByteArray):Int:=(s.data.toList.count (sepOf sep):Nat)
def zbj (s sep:ByteArray):Int:=Lib.indexByte s.data.toList (sepOf sep)
def itoaF (n:Int):ByteArray:=⟨(Lib.itoa n).toArray⟩
def zcf (c:UInt8):List UInt8->List (List UInt8)
 | []=> [[]]
 |b::l=>if b=c then []::zcf c l else match zcf c l with|p::r=>(b::p)::r| []=> [[b]]
def zad (s sep:ByteArray):List ByteArray:=(zcf (sepOf sep) s.data.toList).map fun l=>⟨l.toArray⟩
def nameB (c:Int):Bool:=(decide (97<=c)&&decide (c<=122))||(decide (48<=c)&&decide (c<=57))||decide (c=46)||decide (c=95)||decide (c=45)
def badR (r:Int):Bool:= !nameB r
def runeIdxL (f:Int->Bool)(s:ByteArray):Nat->Int->Int
 |0,_=> -1
 |n+1,i=>if i<s.size then if f (Utf8.decode s i.toNat).1 then i else runeIdxL f s n (i+(Utf8.decode s i.toNat).2)else -1
def partF (s:ByteArray):Bool:=decide (1<=s.size)&&decide (s.size<=32)&& !decide (sgi s 0=46)&& !decide (sgi s 0=45)&&(zbl s).all nameB
def pathB (s:ByteArray):Bool:=decide (s.size<=128)&&decide ((zad s ⟨#[47]⟩).length<=8)&&(zad s ⟨#[47]⟩).all partF
def pathF (s:ByteArray):Int:=if pathB s then 0 else 2
def zbh (a b:Span):Int:=orF [cmpB a.path b.path,cmpI a.from_ b.from_]
def insideF (s:Span):Bool:=decide (0<=s.from_)&&decide (s.from_<s.to)&&decide (s.to<=1024)
def behindF (a b:Span):Bool:=sless a.path b.path||(decide (a.path=b.path)&&decide (a.to<b.from_))
end Go.Lic
set_option linter.all false
namespace Go.Lic
open Go.Sort
def splitG (s sep:ByteArray)(_ _:Int):List ByteArray:=zad s sep
def runeIx (p:Int->Bool)(s:ByteArray)(t:Bool):Int:=runeIdxL (fun r=>p r==t) s (s.size+1) 0
def lastD (l:List Span):Span:=gi l ((l.length:Int)-1)
def mergeStep (out:List Span)(s:Span):List Span:=
 if 0<out.length/\behindF (lastD out) s=false then si out ((out.length:Int)-1) ⟨(lastD out).path,(lastD out).from_,gmax (lastD out).to [s.to]⟩else out++ [s]
def mergeF (l:List Span):List Span:=(sortF zbh l).foldl mergeStep []
def unitW (x:Line):Span:=⟨x.path,x.n,IntKind.i64.wrap (x.n+1)⟩
def badLine (x:Line):Bool:= !(pathB x.path&&insideF (unitW x))
def ofF (l:List Line):List Span×Int:=match l.find? badLine with|some x=>([],if pathB x.path then 3 else 2)|none=>(mergeF (l.map unitW),0)
end Go.Lic
set_option linter.all false
namespace Go.Lic
def rotF (x k:Int):Int:=gor .u64 (gshl .u64 x (gand .u64 (IntKind.u64.wrap k) 63)) (gshr .u64 x (IntKind.u64.wrap (64-(gand .u64 (IntKind.u64.wrap k) 63))))
def offsF :List Int:= [0,1,62,28,27,36,44,6,55,20,3,10,43,25,39,41,45,15,21,8,18,2,61,56,14]
def consF :List Int:= [1,32898,9223372036854808714,9223372039002292224,32907,2147483649,9223372039002292353,9223372036854808585,138,136,2147516425,2147483658,2147516555,9223372036854775947,9223372036854808713,9223372036854808579,9223372036854808578,9223372036854775936,32778,9223372039002259466,9223372039002292353,9223372036854808704,2147483649,9223372039002292232]
def colF (s:List Int)(c:List Int)(i:Nat):List Int:=si c ((i:Int) % 5) (gxor .u64 (gi c ((i:Int) % 5)) (gi s i))
def movF (s offset c:List Int)(t:List Int)(i:Nat):List Int:=
 si t (((i:Int) / 5)+(5*(((2*((i:Int) % 5))+(3*((i:Int) / 5))) % 5))) (rotF (gxor .u64 (gi s i) (gxor .u64 (gi c ((((i:Int) % 5)+4) % 5)) (rotF (gi c ((((i:Int) % 5)+1) % 5)) 1))) (gi offset i))
def chiF (t:List Int)(s:List Int)(i:Nat):List Int:=
 si s i (gxor .u64 (gi t i) (gand .u64 (gnot .u64 (gi t (((i:Int)-((i:Int) % 5))+(((i:Int)+1) % 5)))) (gi t (((i:Int)-((i:Int) % 5))+(((i:Int)+2) % 5)))))
def iotF (s:List Int)(c:Int):List Int:=si s 0 (gxor .u64 (gi s 0) c)
def roundF (s offset:List Int)(c:Int):List Int:=
 iotF (fori (chiF (fori (movF s offset (fori (colF s) (List.replicate 5 0) 25)) (List.replicate 25 0) 25)) s 25) c
@[simp] theorem colF_len (s c:List Int)(i:Nat):(colF s c i).length=c.length:=by simp [colF]
@[simp] theorem movF_len (s o c t:List Int)(i:Nat):(movF s o c t i).length=t.length:=by simp [movF]
@[simp] theorem chiF_len (t s:List Int)(i:Nat):(chiF t s i).length=s.length:=by simp [chiF]
@[simp] theorem iotF_len (s:List Int)(c:Int):(iotF s c).length=s.length:=by simp [iotF]
theorem roundF_len (s o:List Int)(c:Int):(roundF s o c).length=s.length:=by rw [roundF,iotF_len,fori_len (fun _ _=>by simp)]
def permF (s:List Int):List Int:=fori (fun s i=>roundF s offsF (gi consF i)) s 24
theorem permF_len (s:List Int):(permF s).length=s.length:=fori_len (fun s i=>roundF_len s _ _) 24
def xorF (b:List Int)(s:List Int)(i:Nat):List Int:=si s ((i:Int) / 8) (gxor .u64 (gi s ((i:Int) / 8)) (gshl .u64 (IntKind.u64.wrap (gi b i)) (8*((i:Int) % 8))))
@[simp] theorem xorF_len (b s:List Int)(i:Nat):(xorF b s i).length=s.length:=by simp [xorF]
def takeF (s b:List Int):List Int:=permF (fori (xorF b) s 136)
@[simp] theorem takeF_len (s b:List Int):(takeF s b).length=s.length:=by rw [takeF,permF_len,fori_len (fun _ _=>by simp)]
def absF (s:DigestSponge)(b:List Int):DigestSponge:=⟨takeF s.state b,s.rest,s.taken,s.seen,s.tail,s.sum⟩
def clF (s:DigestSponge):DigestSponge×DigestSponge:=(s,s)
def newD :DigestSponge:=⟨List.replicate 25 0,[],0,List.replicate 25 0,⟨#[]⟩,⟨#[]⟩⟩
def eatF :Nat->List Int->List Int->List Int
 |0,s,_=>s
 |n+1,s,b=>eatF n (takeF s (b.take 136)) (b.drop 136)
@[simp] theorem eatF_len (n:Nat)(s b:List Int):(eatF n s b).length=s.length:=by
 induction n generalizing s b with
 |zero=>rfl
 |succ n ih=>rw [eatF,ih,takeF_len]
def outD (s:List Int)(l:List Int)(i:Nat):List Int:=si l i (IntKind.u8.wrap (gshr .u64 (gi s ((i:Int) / 8)) (8*((i:Int) % 8))))
@[simp] theorem outF_len (b s:List Int)(i:Nat):(outD b s i).length=s.length:=by simp [outD]
def bytesF (s:List Int):List Int:=fori (outD s) (List.replicate 32 0) 32
def lastDg (rest:List Int):List Int:=si (si (gcopy (List.replicate 136 0) rest) (rest.length:Int) 6) 135 (gxor .u8 (gi (si (gcopy (List.replicate 136 0) rest) (rest.length:Int) 6) 135) 128)
def endD (s rest:List Int):ByteArray:=bstr (bytesF (takeF s (lastDg rest)))
def eatS (s:DigestSponge)(p:ByteArray):DigestSponge:=
 let b:=s.rest++zbl p
 ⟨eatF (b.length / 136) s.state b,b.drop (136*(b.length / 136)),s.taken+p.size,s.seen,s.tail,s.sum⟩
def eatsS (s:DigestSponge)(l:List ByteArray):DigestSponge:=l.foldl eatS s
def wrF (s:DigestSponge)(l:List ByteArray):Int×DigestSponge:=((eatsS s l).taken,eatsS s l)
def ssF (s:DigestSponge):ByteArray×DigestSponge:=
 if ¬s.sum=(⟨#[]⟩:ByteArray)/\aeq 25 s.seen s.state=true/\s.tail=bstr s.rest then(s.sum,s)else(endD s.state s.rest,⟨s.state,s.rest,s.taken,s.state,bstr s.rest,endD s.state s.rest⟩)
def sumD (data:ByteArray):ByteArray:=endD (eatF ((zbl data).length / 136) (List.replicate 25 0) (zbl data)) ((zbl data).drop (136*((zbl data).length / 136)))
def digsF :ByteArray:=⟨#[48,49,50,51,52,53,54,55,56,57,97,98,99,100,101,102]⟩
def dhex1 (h:Int)(b:List Int):List Int:=b++ [sgi digsF h]
def hexL (d:ByteArray)(l:List Int)(i:Nat):List Int:=dhex1 (gand .u8 (sgi d i) 15) (dhex1 (gshr .u8 (sgi d i) 4) l)
def hexD (d:ByteArray):ByteArray×Int:=if(d.size:Int)=32 then(bstr (fori (hexL d) [] 32),0)else(⟨#[]⟩,1)
def digD (c:Int):Int:=if c>=48/\c<=57 then c-48 else if c>=97/\c<=102 then c-97+10 else -1
def parseD (t:ByteArray):ByteArray×Int:=
 if(t.size:Int)=64 then if(List.range 64).all (fun i=>decide (0<=digD (sgi t i)))then(bstr ((List.range 32).map fun i=>16*digD (sgi t (2*i:Nat))+digD (sgi t ((2*i:Nat)+1))),0)else(⟨#[]⟩,4)else(⟨#[]⟩,4)
def idxB (s:ByteArray)(c:Int):Int:=firstIdx s (Int.toNat c).toUInt8
end Go.Lic
set_option linter.all false
namespace Go.Lic
abbrev byteL (l:List Int):Prop:=∀ x∈l,0<=x/\x<=255
theorem sbytes_lenD (s:ByteArray):(zbl s).length=s.size:=by
 unfold zbl; rw [List.length_map]; exact Array.length_toList
theorem sbytes_app (a b:ByteArray):zbl (a++b)=zbl a++zbl b:=by
 simp [zbl,ByteArray.data_append]
theorem sbytes_byte (s:ByteArray):byteL (zbl s):=by
 intro x hx
 simp only [zbl,List.mem_map]at hx
 obtain⟨b,_,rfl⟩:=hx
 have:=b.toNat_lt
 omega
theorem sbytes_bstr {l:List Int}(h:byteL l):zbl (bstr l)=l:=by
 simp only [bstr,zbl,List.map_map]
 conv=>rhs; rw [<- List.map_id l]
 refine List.map_congr_left fun x hx=>?_
 have:=h x hx
 simp
 omega
theorem bstr_inj {a b:List Int}(ha:byteL a)(hb:byteL b)(h:bstr a=bstr b):a=b:=by
 rw [<- sbytes_bstr ha,<-sbytes_bstr hb,h]
theorem eatF_succ (n:Nat)(s b:List Int):eatF (n+1) s b=takeF (eatF n s b) ((b.drop (136*n)).take 136):=by
 induction n generalizing s b with
 |zero=>simp [eatF]
 |succ n ih=>rw [eatF,ih,eatF,List.drop_drop]; congr 3; omega
theorem eatF_add (n m:Nat)(s b:List Int):eatF (n+m) s b=eatF m (eatF n s b) (b.drop (136*n)):=by
 induction n generalizing s b with
 |zero=>simp [eatF]
 |succ n ih=>rw [show n+1+m=(n+m)+1 by omega,eatF,ih,eatF,List.drop_drop]; congr 2; omega
theorem eatF_app (n:Nat)(s a b:List Int)(h:136*n<=a.length):eatF n s (a++b)=eatF n s a:=by
 induction n generalizing s a with
 |zero=>rfl
 |succ n ih=>rw [eatF,eatF,List.take_append_of_le_length (by omega),List.drop_append_of_le_length (by omega),ih _ _ (by simp; omega)]
abbrev zero25 :List Int:=List.replicate 25 0
def stF (b:List Int):List Int:=eatF (b.length / 136) zero25 b
def restF (b:List Int):List Int:=b.drop (136*(b.length / 136))
theorem stF_len (b:List Int):(stF b).length=25:=by rw [stF,eatF_len]; simp
theorem restF_len (b:List Int):(restF b).length<=135:=by simp [restF]; omega
theorem restF_byte {b:List Int}(h:byteL b):byteL (restF b):=fun x hx=>h x (List.mem_of_mem_drop hx)
theorem sumD_eq (d:ByteArray):sumD d=endD (stF (zbl d)) (restF (zbl d)):=rfl
theorem stF_app (a b:List Int):eatF ((restF a++b).length / 136) (stF a) (restF a++b)=stF (a++b)/\(restF a++b).drop (136*((restF a++b).length / 136))=restF (a++b):=by
 have hq:136*(a.length / 136)<=a.length:=by omega
 have hn:(a++b).length / 136=a.length / 136+(restF a++b).length / 136:=by simp [restF]; omega
 have hd:restF a++b=(a++b).drop (136*(a.length / 136)):=by rw [restF,List.drop_append_of_le_length hq]
 constructor
 · rw [stF,stF,hn,eatF_add,<-hd,eatF_app _ _ _ _ hq]
 · conv=>rhs; rw [restF,hn,Nat.mul_add,<-List.drop_drop,<-hd]
theorem aeq25 {a b:List Int}(ha:a.length=25)(hb:b.length=25):aeq 25 a b=true↔a=b:=by
 unfold aeq
 rw [List.all_eq_true]
 constructor
 · intro h
   refine List.ext_getElem (by omega) fun i h1 h2=>?_
   have:=h i (by simp; omega)
   simp only [beq_iff_eq]at this
   simpa [List.getD_eq_getElem?_getD,h1,h2]using this
 · rintro rfl i _; simp
structure HoldsD (s:DigestSponge)(d:ByteArray):Prop where
 state:s.state=stF (zbl d)
 rest:s.rest=restF (zbl d)
 taken:s.taken=d.size
 cache:s.sum=⟨#[]⟩\/∃ r,byteL r/\s.seen.length=25/\s.tail=bstr r/\s.sum=endD s.seen r
theorem HoldsD.new :HoldsD newD ⟨#[]⟩:=⟨rfl,rfl,rfl,.inl rfl⟩
theorem HoldsD.st25 {s:DigestSponge}{d:ByteArray}(h:HoldsD s d):s.state.length=25:=by rw [h.state,stF_len]
theorem HoldsD.r135 {s:DigestSponge}{d:ByteArray}(h:HoldsD s d):s.rest.length<=135:=by rw [h.rest]; exact restF_len _
theorem HoldsD.eat {s:DigestSponge}{d:ByteArray}(h:HoldsD s d)(p:ByteArray):HoldsD (eatS s p) (d++p):=by
 obtain⟨h1,h2,h3,h4⟩:=h
 have e:=stF_app (zbl d) (zbl p)
 refine⟨?_,?_,?_,h4⟩
 · simp only [eatS]; rw [h1,h2,sbytes_app]; exact e.1
 · simp only [eatS]; rw [h2,sbytes_app]; exact e.2
 · simp only [eatS]; rw [h3,ByteArray.size_append]; omega
theorem HoldsD.eats {s:DigestSponge}{d:ByteArray}(h:HoldsD s d)(l:List ByteArray):HoldsD (eatsS s l) (l.foldl (· ++ ·) d):=by
 induction l generalizing s d with
 |nil=>exact h
 |cons p l ih=>exact ih (h.eat p)
theorem HoldsD.sum1 {s:DigestSponge}{d:ByteArray}(h:HoldsD s d):(ssF s).1=sumD d:=by
 unfold ssF
 split
 · next hc=>
   obtain⟨hc1,hc2,hc3⟩:=hc
   rcases h.cache with h4|⟨r,r1,r2,r3,r4⟩
   · exact absurd h4 hc1
   · have e1:=(aeq25 r2 h.st25).1 hc2
     have e2:r=s.rest:=bstr_inj r1 (by rw [h.rest]; exact restF_byte (sbytes_byte _)) (by rw [<- r3,hc3])
     rw [sumD_eq,<-h.state,<-h.rest,<-e1,<-e2]; exact r4
 · rw [sumD_eq,<-h.state,<-h.rest]
theorem eatsS_succ (s:DigestSponge)(l:List ByteArray){i:Nat}(hi:i<l.length):eatsS s (l.take (i+1))=eatS (eatsS s (l.take i)) l[i]:=by
 rw [eatsS,List.take_succ_eq_append_getElem hi,List.foldl_append]; rfl
theorem eatS_st (s:DigestSponge)(p:ByteArray):(eatS s p).state.length=s.state.length:=by simp [eatS]
theorem eatS_rest (s:DigestSponge)(p:ByteArray):(eatS s p).rest.length<=135:=by simp [eatS]; omega
theorem eatsS_st (s:DigestSponge)(l:List ByteArray):(eatsS s l).state.length=s.state.length:=by
 induction l generalizing s with
 |nil=>rfl
 |cons p l ih=>exact(ih _).trans (eatS_st _ _)
theorem eatsS_rest {s:DigestSponge}(h:s.rest.length<=135)(l:List ByteArray):(eatsS s l).rest.length<=135:=by
 induction l generalizing s with
 |nil=>exact h
 |cons p l ih=>exact ih (eatS_rest _ _)
theorem eatsS_taken {s:DigestSponge}(l:List ByteArray){B:Nat}(hl:∀ p∈l,p.size<=B):s.taken<=(eatsS s l).taken/\(eatsS s l).taken<=s.taken+l.length*B:=by
 induction l generalizing s with
 |nil=>simp [eatsS]
 | cons p l ih=>
   have h1:=ih (s:=eatS s p) fun q hq=>hl q (by simp [hq])
   have h2:=hl p (by simp)
   have h3:(eatS s p).taken=s.taken+p.size:=rfl
   rw [h3]at h1
   have h4:eatsS s (p::l)=eatsS (eatS s p) l:=rfl
   rw [h4,List.length_cons]
   have:((l.length+1:Nat):Int)*B=l.length*B+B:=by push_cast; rw [Int.add_mul]; omega
   omega
end Go.Lic
set_option linter.all false
namespace Go.Lic
variable [Fl]
open Go.Proofs Go.Sort Go.Shelf
theorem flatMap_get {T:Type}{f:T->List Value}{k:Nat}(hk:∀ x,(f x).length=k):∀(l:List T) (i:Nat) (x:T),l[i]? =some x->∀ c,c<k->(l.flatMap f)[i*k+c]? =(f x)[c]?
 | [],i,x,h,c,hc=>by simp at h
 | y::l,0,x,h,c,hc=>by
   simp at h; subst h
   rw [List.flatMap_cons,List.getElem?_append_left (by rw [hk]; omega)]; simp
 | y::l,i+1,x,h,c,hc=>by
   rw [List.flatMap_cons,List.getElem?_append_right (by rw [hk,Nat.add_mul]; omega),hk,show(i+1)*k+c-k=i*k+c by rw [Nat.add_mul]; omega]
   exact flatMap_get hk l i x (by simpa using h) c hc
theorem flatK_eq {T:Type} [Inhabited T]{f:T->List Value}{k:Nat}(hk:∀ x,(f x).length=k)(l:List T):(flatK f k l.toArray).toList=l.flatMap f:=by
 have hl:(l.flatMap f).length=l.length*k:=by
   induction l with
   |nil=>simp
   |cons x l ih=>rw [List.flatMap_cons,List.length_append,ih,hk,List.length_cons,Nat.add_mul]; omega
 refine List.ext_getElem (by simp [hl]) fun t h1 h2=>?_
 have ht:t<l.length*k:=by rw [hl]at h2; exact h2
 have hk0:0<k:=by rcases Nat.eq_zero_or_pos k with h|h<;>simp_all
 have hi:t / k<l.length:=by rw [Nat.div_lt_iff_lt_mul hk0]; exact ht
 have hm:t % k<k:=Nat.mod_lt _ hk0
 have e:=flatMap_get hk l (t / k) l[t / k] (by simp [hi]) (t % k) hm
 rw [show t / k*k+t % k=t by rw [Nat.mul_comm]; exact Nat.div_add_mod t k]at e
 rw [List.getElem?_eq_getElem h2,List.getElem?_eq_getElem (by rw [hk]; exact hm)]at e
 simp only [Option.some.injEq]at e
 rw [e]
 simp only [Array.getElem_toList,flatK,Array.getElem_map,Array.getElem_range,List.getElem!_toArray]
 rw [getElem!_pos l (t / k) hi,getElem!_pos _ (t % k) (by rw [hk]; exact hm)]
theorem vl_split {w:World}{X:Nat->Prop}:∀ {ds es:List D} {xs:List Value},VL w X (ds++es) xs->∃ ys zs,xs=ys++zs/\VL w X ds ys/\VL w X es zs
 | [],es,xs,h=>⟨[],xs,rfl,.nil,h⟩
 | d::ds,es,_,.cons h1 h2=>by
   obtain⟨ys,zs,rfl,h3,h4⟩:=vl_split h2
   exact⟨_::ys,zs,rfl,.cons h1 h3,h4⟩
theorem flats_encV {T:Type}{enc:T->D}{encV:T->List Value}(he:∀ x,enc x= .agg ((encV x).map D.v)):∀ l:List T,D.flats (l.map enc)=(l.flatMap encV).map D.v
 | []=>rfl
 |x::l=>by rw [List.map_cons,flats_cons,flats_encV he l,he,List.flatMap_cons,List.map_append]; rfl
theorem world_grown {w w':World}(on:Fl.on)(h:Ext (fun _=>False) w w'):∃ q os,w'=grow (w.drewN q) os:=by
 refine⟨w'.drawn-w.drawn,w'.heap.extract w.heap.size,?_⟩
 have hh:w'.heap=w.heap++w'.heap.extract w.heap.size:=by
   apply Array.ext
   · simp; have:=h.size; omega
   · intro i h1 h2
     by_cases hi:i<w.heap.size
     · have:=h.keep i hi (fun x=>x)
       rw [Array.getElem?_eq_getElem h1,Array.getElem?_eq_getElem hi]at this
       rw [Array.getElem_append_left hi]; exact Option.some.inj this
     · rw [Array.getElem_append_right (by omega)]; simp; congr 1; omega
 have hd:=h.drawn on
 obtain⟨heap,tape,drawn,os,output⟩:=w
 obtain⟨heap',tape',drawn',os',output'⟩:=w'
 have h1:=h.os; have h2:=h.tape; have h3:=h.output
 simp only at h1 h2 h3 hh hd
 subst h1; subst h2; subst h3
 simp only [grow,World.drewN]
 congr 1
 · omega
end Go.Lic
set_option linter.all false
namespace Go.Lic
variable [Fl]
open Go.Proofs Go.Sort Go.Shelf
section
variable {P:Program}{o:Oper}{fr:Nat->D}{h:zbb}{K:D->zbb->Prop}
theorem sortWorldK_heap {T:Type} [Inhabited T]{encV:T->List Value}{k:Nat}{w:World}{blk off m:Nat}{dk:Array T}{os:Array Obj}(hb:blk<w.heap.size):
   (∀ b,b<w.heap.size->b≠blk->(sortWorldK encV k w blk off m dk os).heap[b]? =w.heap[b]?)/\w.heap.size<=(sortWorldK encV k w blk off m dk os).heap.size:=by
 constructor
 · intro b hb2 hne
   simp only [sortWorldK,grow,putRowK,putRow,mapBlock,Sort.ahead]
   rw [Array.getElem?_append_left (by simpa using hb2),Array.getElem?_modify]
   simp [Ne.symm hne]
 · simp [sortWorldK,grow,putRowK,putRow,mapBlock,Sort.ahead]
theorem vl_of_vals {w:World}{X:Nat->Prop}:∀ l:List Value,VL w X (l.map D.v) l
 | []=> .nil
 |v::l=> .cons (.v v) (vl_of_vals l)
theorem splice_get {α:Type}(A X Y B R:List α)(h:X.length=Y.length)(i:Nat):(A++(Y++B)++R)[i]? =if A.length<=i/\i<A.length+Y.length then Y[i-A.length]? else(A++(X++B)++R)[i]? :=by
 simp only [List.append_assoc,List.getElem?_append,h]
 repeat' split
 all_goals first|rfl|(exfalso; omega)|(congr 1; omega)
set_option maxHeartbeats 1000000 in
theorem OpA.sortW {T:Type} [Inhabited T]{enc:T->D}{ρ:Ren}(L:SlLaysF0.n6 P ρ){k:Nat}(aE:∀ w,(isAgg (ρ.t 24)).run P w= .ok true w)(zE:∀ w,(Go.sizeOf (ρ.t 24)).run P w= .ok k w){encV:T->List Value}(hk:∀ x,(encV x).length=k)
   (h1:∀ x,∀ v∈encV x,v.oneCell'=true) (he:∀ x,enc x= .agg ((encV x).map D.v)) {cf:T->T->Int} {g f6:Nat} (hf6:ρ.f 6=f6) {cl:Call} {fo s x:Operand} {c:Nat} {pre post:List D} {xs:List T} {h':zbb} (ho:o.op= .call cl) (hc:cl.callee= .value fo) (hg:ev fr fo= .fn (.func f6) [] [])
   (hent:entersB P f6=true) (ha:cl.args= #[s,x]) (hs:ev fr s= .own c k pre.length xs.length) (hx:ev fr x= .fn (.func g) [] []) (henG:entersB P g=true) (hcf:∀ a b,@Fun flYes false P g [enc a,enc b] (fun d=>d=D.i (cf a b)))
   (h0:Fun false P f6 [.list k [],.fn (.func g) [] []] (fun d=>d= .tup [])) (hq:SWO (ltOf cf)/\xs.length<4611686018427387904)
   (hrepl:Repl c (.cells k (zas enc pre xs post)) c (.cells k (zas enc pre (sortF cf xs) post)) h h') (hK:K (.tup []) h'):OpA P o fr h K:=by
 subst hf6
 intro A M w0 ac w hr hv next Q hn
 obtain⟨vs,hvs,h2⟩:=call_wp ho hc hg hent hr hv
 intro ro
 refine wd_op h2 (by simp) ⟨fun h=>(by cases h),wd_calls ?_⟩
 revert ro; intro _
 rw [ha]at hvs
 simp only [List.nil_append,List.append_nil,List.map_cons,List.map_nil,hs,hx]at hvs
 obtain⟨hb1,hb2⟩:=hr.avoid
 cases hvs with
 | @cons _ _ vS _ hvS hvs=>
 cases hvs with
 | @cons _ _ vC _ hvC hvs=>
 cases hvs
 cases hvC with
 | @fn _ _ _ vs1 us1 e1 e2=>
 cases e1; cases e2
 have hsl:=zac hq.1 xs
 cases hvS with
 | @own _ _ _ _ cap a hlc hd=>
 rcases hd with⟨hev,rfl,e0,n0,hsh,hn0⟩|⟨hz1,hz2⟩
 · -- a block of ours
   obtain⟨hok,hblk⟩:=hr.cells hrepl.has
   rcases hblk with⟨hodd,_⟩|⟨_,arr,e,cs,ho1,hv1,hp1⟩
   · omega
   have hlt:c / 2<w.heap.size:=lt_of_shape hsh
   rw [zas,zcc,zcc,flats_encV he]at hv1
   obtain⟨csP,csR,rfl,hvP,hvR⟩:=vl_split hv1
   obtain⟨csX,csQ,rfl,hvX,hvQ⟩:=vl_split hvR
   have ex:=vl_vals _ _ hvX
   subst ex
   have hokP:∀ d∈pre,d.ok k:=fun d hd=>hok d (by simp [hd])
   have lP:csP.length=pre.length*k:=by rw [<- hvP.length,zbq _ hokP]
   have lX:∀ l:List T,(l.flatMap encV).length=l.length*k:=by
     intro l
     induction l with
     |nil=>simp
     |cons y l ih=>rw [List.flatMap_cons,List.length_append,ih,hk,List.length_cons,Nat.add_mul]; omega
   obtain⟨tl,htl⟩:=hp1
   have hsz:pre.length*k+xs.length*k<=arr.size:=by
     have:=congrArg List.length htl
     simp only [List.length_append,lX,lP,Array.length_toList]at this
     omega
   -- what the row holds
   have hH:HoldsK encV k w (c / 2) (pre.length*k) xs.toArray:=by
     intro j hj
     have hj':j<xs.length*k:=by simpa using hj
     have e1:(flatK encV k xs.toArray).toList[j]? =(xs.flatMap encV)[j]? :=by rw [flatK_eq hk]
     have hjl:j<(xs.flatMap encV).length:=by rw [lX]; exact hj'
     have e2:arr[pre.length*k+j]? =(xs.flatMap encV)[j]? :=by
       rw [<- Array.getElem?_toList,<-htl,List.append_assoc,List.append_assoc,List.getElem?_append_right (by omega),lP,Nat.add_sub_cancel_left,List.getElem?_append_left hjl]
     refine⟨?_,ho1.frozen (by omega)⟩
     rw [ho1.cell,e2,<-e1,Array.getElem?_toList,Array.getElem?_eq_getElem (by simpa using hj),getElem!_pos _ j (by simpa using hj)]; rfl
   have eg:∀ args w,(callFunc g args).run P w= .ok (.enter g args) w:=fun args w=>run_enter henG args w
   -- the closure in every world of the sort
   have hcmp:CmpLays P g #[] encV k cf (c / 2) (pre.length*k) xs.toArray.size w:=by
     intro m os dk hdk y z
     obtain⟨q1,q2⟩:=sortWorldK_heap (encV:=encV) (k:=k) (off:=pre.length*k) (m:=m) (dk:=dk) (os:=os) hlt
     generalize hW:sortWorldK encV k w (c / 2) (pre.length*k) m dk os=W at q1 q2
     have hgl:Glob W (fun b=>A (2*b)\/2*b∈keys h):=by
       obtain⟨W0,g0,g1⟩:=hr.glob
       refine⟨W0,g0,fun i hi=>?_⟩
       obtain⟨a1,a2,a3⟩:=g1 i hi
       refine⟨a1,by omega,?_⟩
       have hne:i≠c / 2:=by
         rintro rfl
         exact a1 (.inr (by have:=hrepl.has.key; rwa [show 2*(c / 2)=c from by omega]))
       rw [q1 i a2 hne]; exact a3
     have:=hcf y z (fun c'=>A c'\/c'∈keys h) W [.agg (encV y).toArray,.agg (encV z).toArray] hb1 (fun b hb=>by have:=hb2 b hb; omega) hgl (.cons (by rw [he]; exact .agg (vl_of_vals _)) (.cons (by rw [he]; exact .agg (vl_of_vals _)) .nil))
     refine this.mono ?_
     rintro e' w' ⟨v,d,rfl,rfl,hvv,hext⟩
     cases hvv
     exact⟨rfl,@world_grown flYes _ _ trivial hext⟩
   have hcall:=AnyQ.slices_SortFunc_eq L k aE zE encV hk h1 cf hq.1 g #[] (c / 2) (pre.length*k) cap xs.toArray w eg hcmp hH hlt (by simpa using hq.2)
   rw [show(xs.toArray.size)=xs.length by simp]at hcall
   refine hcall.mono ?_
   rintro e' w' ⟨rfl,n,os,rfl⟩
   -- the world behind it
   generalize hd':pdq (ltOf cf) xs.toArray 0 xs.length (Lib.bitLen xs.length) true true=d'
   have hd2:d'.toList=sortF cf xs:=by unfold sortF; rw [hd']
   have hd3:d'=(sortF cf xs).toArray:=by rw [<- hd2]
   obtain⟨r1,m1⟩:=hr.quiet (w':=Sort.ahead w n) rfl rfl rfl rfl (by show w.drawn<=w.drawn+n; omega)
   have hfl:(flatK encV k d').toList=(sortF cf xs).flatMap encV:=by rw [hd3]; exact flatK_eq hk _
   have hfs:(flatK encV k d').size=xs.length*k:=by rw [<- Array.length_toList,hfl,lX,hsl]
   obtain⟨z,hz1,hz2⟩:=ho1
   have harr':(putCells id (pre.length*k) (flatK encV k d') arr).toList=csP++((sortF cf xs).flatMap encV++csQ)++tl:=by
     have l2:=lX (sortF cf xs)
     have l1:=lX xs
     rw [hsl]at l2
     refine List.ext_getElem? fun i=>?_
     rw [splice_get csP (xs.flatMap encV) _ csQ tl (by rw [l1,l2]) i,Array.getElem?_toList]
     simp only [putCells,Array.getElem?_mapIdx]
     rw [<- Array.getElem?_toList,<-htl,l2,lP]
     by_cases hi:pre.length*k<=i/\i<pre.length*k+xs.length*k
     · rw [if_pos hi]
       have hlen:i<(csP++(xs.flatMap encV++csQ)++tl).length:=by simp only [List.length_append,l1,lP]; omega
       rw [List.getElem?_eq_getElem hlen,Option.map_some,if_pos (by rw [hfs]; exact hi),<-hfl,Array.getElem?_toList,Array.getElem?_eq_getElem (by omega),getElem!_pos _ (i-pre.length*k) (by omega)]; rfl
     · rw [if_neg hi]
       generalize (csP++(xs.flatMap encV++csQ)++tl)[i]? =q
       cases q with
       |none=>rfl
       |some v=>rw [Option.map_some,if_neg (by rw [hfs]; exact hi)]
   have hw1:(putRowK encV k (Sort.ahead w n) (c / 2) (pre.length*k) d').heap[c / 2]? =some (.cells (putCells id (pre.length*k) (flatK encV k d') arr) e z):=by
     simp only [putRowK,putRow,mapBlock,Sort.ahead,Array.getElem?_modify,if_true,hz1,Option.map_some,onCells]
   have hpsz:(putCells id (pre.length*k) (flatK encV k d') arr).size=arr.size:=by simp [putCells]
   obtain ⟨r2,m2⟩:=r1.write (sz':=k) (es':=zas enc pre (sortF cf xs) post) (w':=putRowK encV k (Sort.ahead w n) (c / 2) (pre.length*k) d') (arr:=arr) (arr':=putCells id (pre.length*k) (flatK encV k d') arr) (e:=e) (cs':=csP++((sortF cf xs).flatMap encV++csQ)) hrepl hev (by
       intro d hd
       rcases List.mem_append.1 hd with hd|hd
       · exact hokP d hd
       · rcases List.mem_append.1 hd with hd|hd
         · obtain⟨y,_,rfl⟩:=List.mem_map.1 hd
           rw [he]; exact⟨by show((encV y).map D.v).length=k; simpa using hk y,fun v hv=>by
             obtain⟨u,hu,rfl⟩:=List.mem_map.1 (show v∈(encV y).map D.v from hv)
             exact h1 y u hu⟩
         · exact hok d (by simp [hd])) ⟨z,hz1,hz2⟩ ⟨z,hw1,by rw [hpsz]; exact hz2⟩ hpsz (by
       rw [zas,zcc,zcc,flats_encV he]
       exact(hvP.mono m1).append ((vl_of_vals _).append (hvQ.mono m1))) ⟨tl,by rw [harr']⟩ (by simp [putRowK,putRow,mapBlock,Sort.ahead]) (fun b hb=>by
       simp only [putRowK,putRow,mapBlock,Sort.ahead,Array.getElem?_modify]
       simp [Ne.symm hb]) rfl rfl ⟨rfl,rfl⟩
   have hext:Ext (fun _=>False) (putRowK encV k (Sort.ahead w n) (c / 2) (pre.length*k) d') (sortWorldK encV k w (c / 2) (pre.length*k) n d' os):=
     ⟨rfl,rfl,rfl,by simp [sortWorldK,grow],fun b hb _=>by
       simp only [sortWorldK,grow]; rw [Array.getElem?_append_left hb],fun b hb=>by
       apply zax; simp only [sortWorldK,grow]; rw [Array.getElem?_append_left hb],fun _=>Nat.le_refl _⟩
   obtain⟨r3,m3⟩:=r2.extend hext
   exact hn _ _ (.tup []) h' hK r3 ((m1.trans m2).trans m3) (.tup .nil)
 · -- nothing to sort
   have hx0:xs= []:=List.eq_nil_of_length_eq_zero hz1
   subst hx0
   subst hz2
   have hs0:sortF cf ([]:List T)= []:=List.eq_nil_of_length_eq_zero (by rw [hsl]; rfl)
   rw [hs0]at hrepl
   have hsame:h'=h:=by
     obtain⟨h1',h2',e1,e2⟩:=hrepl.split
     rw [e1,e2]
   subst hsame
   refine(h0 (fun c'=>A c'\/c'∈keys h') w _ hb1 hb2 hr.glob (.cons (.list (ds:= []) (cs:= []) (b:=0) (o:=0) (by simp) .nil (by simp) (.inl rfl) (Nat.zero_le _)) (.cons (.fn (vs:= []) (us:= []) .nil .nil) .nil))).mono ?_
   rintro e' w' ⟨v,d,rfl,rfl,hvv,hext⟩
   obtain⟨r1,r2⟩:=hr.extend hext
   exact hn v w' (.tup []) h' hK r1 r2 (hvv.mono (.less fun b hb=>hb))
end
end Go.Lic
set_option linter.all false
namespace Go.Lic
variable [Fl]
section
variable {A M:Nat->Prop}{w0 w:World}{h:zbb}
theorem HRel.allocRaw (hr:HRel A M w0 h w)(o:Obj):
   2*w.heap.size ∉ keys h/\HRel A M w0 ((2*w.heap.size,.raw o)::h) (w.alloc o)/\Mono w (XX A h) (w.alloc o) (XX A ((2*w.heap.size,.raw o)::h)):=by
 have hnew:2*w.heap.size ∉ keys h:=fun hc=>by have:=hr.lt hc (by omega); omega
 have hx:∀ b,b<w.heap.size->XX A ((2*w.heap.size,.raw o)::h) b->XX A h b:=fun b hb hx=>by
   rcases hx with hx|hx
   · exact .inl hx
   · simp at hx; rcases hx with hx|hx
     · omega
     · exact .inr hx
 have hm:Mono w (XX A h) (w.alloc o) (XX A ((2*w.heap.size,.raw o)::h)):=
   ⟨by simp,fun b hb _=>get_alloc w _ b hb,fun b hb=>zax (get_alloc w _ b hb),hx⟩
 refine⟨hnew,⟨?_,?_,?_,?_,hr.bound,fun b hb=>by have:=hr.old b hb; simp; omega,?_,hr.glob.mono hm⟩,hm⟩
 · simp only [keys_cons,List.nodup_cons]; exact⟨hnew,hr.nodup⟩
 · intro c b hc
   rcases List.mem_cons.1 hc with hc|hc
   · cases hc
     have e2:2*w.heap.size / 2=w.heap.size:=by omega
     refine⟨by omega,?_⟩
     rw [e2]; exact get_alloc_new w _
   · exact(hr.blk c b hc).mono hm (fun he=>get_alloc w _ _ ((hr.blk c b hc).lt he))
 · intro c hc ha
   rcases List.mem_cons.1 (by simpa using hc)with hc|hc
   · subst hc; have:=hr.old _ ha; have:=hr.ext.size; omega
   · exact hr.free c hc ha
 · intro c hc he
   rcases List.mem_cons.1 (by simpa using hc)with hc|hc
   · subst hc; have:=hr.ext.size; right; omega
   · exact hr.mine c hc he
 · exact hr.ext.trans ⟨rfl,rfl,rfl,by simp,fun b hb _=>get_alloc w _ b hb,fun b hb=>zax (get_alloc w _ b hb),fun _=>Nat.le_refl _⟩
theorem HRel.setRaw (hr:HRel A M w0 h w){h':zbb}{c:Nat}{o o':Obj}(ht:Repl c (.raw o) c (.raw o') h h')(hc:c % 2=0){w':World}(hw:w'.heap[c / 2]? =some o')(hs:w'.heap.size=w.heap.size)
   (hk:∀ b,b≠c / 2->w'.heap[b]? =w.heap[b]?) (hsh:w'.shape? (c / 2)=w.shape? (c / 2)) (ho:w'.os=w.os) (htp:w'.tape=w.tape) (hout:w'.output=w.output/\w'.drawn=w.drawn):HRel A M w0 h' w'/\Mono w (XX A h) w' (XX A h'):=by
 have hkeys:=ht.keys_eq
 have hin:XX A h (c / 2):= .inr (by have:=ht.has.key; rwa [show 2*(c / 2)=c from by omega])
 have hxx:XX A h'=XX A h:=by funext b; simp [XX,hkeys]
 have hm:Mono w (XX A h) w' (XX A h'):=by
   rw [hxx]
   refine⟨by omega,fun b _ hx=>hk b (fun e=>hx (e▸hin)),fun b _=>?_,fun _ _ hx=>hx⟩
   by_cases hb:b=c / 2
   · subst hb; exact hsh
   · exact zax (hk b hb)
 refine⟨⟨by rw [hkeys]; exact hr.nodup,?_,fun c hc=>hr.free c (hkeys▸hc),fun c hc=>hr.mine c (hkeys▸hc),hr.bound,by rw [hs]; exact hr.old,?_,hr.glob.mono hm⟩,hm⟩
 · intro c1 b1 hc1
   obtain⟨h1,h2,e1,e2⟩:=ht.split
   subst e1; subst e2
   have hnd:=hr.nodup
   simp only [zch,keys_cons,List.nodup_append,List.nodup_cons]at hnd
   rcases List.mem_append.1 hc1 with hc1|hc1
   · have hne:c1≠c:=fun e=>hnd.2.2 c1 (List.mem_map.2 ⟨_,hc1,rfl⟩) c (by simp) e
     exact(hr.blk c1 b1 (by simp [hc1])).mono hm (fun he=>hk _ (by omega))
   · rcases List.mem_cons.1 hc1 with hc1|hc1
     · cases hc1; exact⟨hc,hw⟩
     · have hne:c1≠c:=fun e=>hnd.2.1.1 (e▸List.mem_map.2 ⟨_,hc1,rfl⟩)
       exact(hr.blk c1 b1 (by simp [hc1])).mono hm (fun he=>hk _ (by omega))
 · refine⟨ho.trans hr.ext.os,htp.trans hr.ext.tape,hout.1.trans hr.ext.output,by rw [hs]; exact hr.ext.size,fun b hb hn=>?_,fun b hb=>(hm.shape b (Nat.lt_of_lt_of_le hb hr.ext.size)).trans (hr.ext.shape b hb),fun o_=>by rw [hout.2]; exact hr.ext.drawn o_⟩
   by_cases hbc:b=c / 2
   · subst hbc
     rcases hr.mine c ht.has.key hc with hmm|hmm
     · exact absurd hmm hn
     · omega
   · exact(hk b hbc).trans (hr.ext.keep b hb hn)
end
theorem em_split {p Q:Prop}(h1:p->Q)(h2:¬p->Q):Q:=(Classical.em p).elim h1 h2
def runeAt (s:ByteArray)(i:Int):Int:=(Utf8.decode s i.toNat).1
def runeW (s:ByteArray)(i:Int):Int:=(Utf8.decode s i.toNat).2
section
variable {P:Program}{o:Oper}{fr:Nat->D}{h:zbb}{K:D->zbb->Prop}
theorem OpA.rangeStr {t:TypeId}{x:Operand}{s:ByteArray}(ho:o.op= .range t x)(ht:P.underlying t=some .string)(hx:ev fr x= .s s)(hk:∀ c,K (.ptr c 1 0 0) ((c,.raw (.stringIter s (Int.toNat 0)))::h)):OpA P o fr h K:=
 .of_run fun A M w0 ac w hr hv=>by
   have h1:=hv x (by simp [ho,Op.operands])
   rw [hx]at h1
   generalize hu:ac.eval x=u at h1
   cases h1
   obtain⟨_,h5,h6⟩:=hr.allocRaw (.stringIter s 0)
   refine⟨.pointer (some ⟨w.heap.size,0,none⟩),_,_,_,?_,hk (2*w.heap.size),h5,h6,?_⟩
   · simp only [execOp,ho,hu,Sem.run_bind,run_range_string w t s ht,Result.andThen_ok,Sem.run_pure,World.iter]
   · have:=V.ptr (w:=w.alloc (.stringIter s 0)) (X:=XX A ((2*w.heap.size,.raw (.stringIter s 0))::h)) (c:=2*w.heap.size) (sz:=1) (i:=0) (k:=0) (by omega)
     rwa [show 2*w.heap.size / 2=w.heap.size from by omega]at this
theorem OpA.nextStr {x:Operand}{c:Nat}{s:ByteArray}{i:Int}{h':zbb}(ho:o.op= .next x true)(hx:ev fr x= .ptr c 1 0 0)(hi:0<=i/\i<s.size)
   (hrepl:Repl c (.raw (.stringIter s (Int.toNat i))) c (.raw (.stringIter s (Int.toNat (i+runeW s i)))) h h') (hk:K (.tup [.b true,.i i,.k .i32 (runeAt s i)]) h'):OpA P o fr h K:=
 .of_run fun A M w0 ac w hr hv=>by
   have h1:=hv x (by simp [ho,Op.operands])
   rw [hx]at h1
   generalize hu:ac.eval x=u at h1
   cases h1 with
   | ptr hc=>
     obtain⟨_,hb⟩:=hr.blk _ _ hrepl.has.mem
     have hlt:c / 2<w.heap.size:=(Array.getElem?_eq_some_iff.1 hb).1
     have hpos:i.toNat<s.size:=by omega
     have hw:(i+runeW s i).toNat=i.toNat+(Utf8.decode s i.toNat).2:=by unfold runeW; omega
     rw [hw]at hrepl
     obtain⟨h5,h6⟩:=hr.setRaw hrepl hc (w':= {w with heap:=w.heap.setIfInBounds (c / 2) (.stringIter s (i.toNat+(Utf8.decode s i.toNat).2))}) (by simp [hlt]) (by simp) (fun b hb=>by simp [Array.getElem?_setIfInBounds,Ne.symm hb]) (by
       have e1:w.shape? (c / 2)=none:=by unfold World.shape?; rw [hb]
       rw [e1]; unfold World.shape?; simp [hlt]) rfl rfl ⟨rfl,rfl⟩
     refine⟨.tuple #[.bool true,.int .i64 i,.int .i32 (runeAt s i)],_,_,_,?_,hk,h5,h6,.tup (.cons (.v _) (.cons (.v _) (.cons (.v _) .nil)))⟩
     have e0:0*1+0=0:=rfl
     have ei:((i.toNat:Nat):Int)=i:=by omega
     simp only [execOp,ho,hu,Instr.next,getObj,setObj,Sem.run_bind,Sem.run,hb,Result.andThen,hpos,if_true,e0]
     simp [goInt,runeAt,ei]
theorem OpA.overStr {x:Operand}{c:Nat}{s:ByteArray}{i:Int}(ho:o.op= .next x true)(hx:ev fr x= .ptr c 1 0 0)(hi:¬i<s.size)(hh:Has c (.raw (.stringIter s (Int.toNat i))) h)(hk:K (.tup [.b false]) h):OpA P o fr h K:=
 .of_run fun A M w0 ac w hr hv=>by
   have h1:=hv x (by simp [ho,Op.operands])
   rw [hx]at h1
   generalize hu:ac.eval x=u at h1
   cases h1 with
   | ptr hc=>
     obtain⟨_,hb⟩:=hr.blk _ _ hh.mem
     have hpos:¬i.toNat<s.size:=by omega
     refine⟨.tuple #[.bool false],w,_,_,?_,hk,hr,Mono.refl _ _,.tup (.cons (.v _) .nil)⟩
     have e0:0*1+0=0:=rfl
     simp only [execOp,ho,hu,Instr.next,getObj,setObj,Sem.run_bind,Sem.run,hb,Result.andThen,hpos,if_false,e0]
     rfl
end
end Go.Lic
set_option linter.all false
namespace Go.Lic
variable [Fl]
abbrev vI (n:Int):Value:= .int .i64 n
def mget {T:Type}(d:T):List (Int×T)->Int->T
 | [],_=>d
 |p::l,k=>if p.1=k then p.2 else mget d l k
def mset {T:Type}:List (Int×T)->Int->T->List (Int×T)
 | [],k,v=> [(k,v)]
 |p::l,k,v=>if p.1=k then(k,v)::l else p::mset l k v
section
variable {T:Type}{vf:T->Value}
end
section
variable {P:Program}{o:Oper}{fr:Nat->D}{h:zbb}{K:D->zbb->Prop}{T:Type}{vf:T->Value}
theorem run_checkKey {w:World}{kt:TypeId}(hkt:P.underlying kt=some (.int .i64))(b:Bool)(k:Int):(Instr.checkKey b 10000 kt (.int .i64 k)).run P w= .ok () w:=by
 rw [Instr.checkKey]
 simp only [Sem.run_bind,run_underlying hkt,Result.andThen_ok,Sem.run_pure]
theorem V.nilL {w:World}{X:Nat->Prop}{sz:Nat}:V w X (.list sz []) (.slice none 0 0):= .list (sz:=sz) (ds:= []) (cs:= []) (b:=0) (o:=0) (by simp) .nil (by simp) (.inl rfl) (by simp)
theorem OpA.told {s:Nat}{d d':D}(hd:fr s=d)(hsn:Snap false [] [d] [d'])(hh:OpA P o (upd fr s d') h K):OpA P o fr h K:=fun A M w0 a w hr hv next Q hn=>by
 refine hh A M w0 a w hr (fun y hy=>?_) next Q hn
 have h1:=hv y hy
 by_cases hi:y= .tmp s
 · subst hi
   show V w (XX A h) (upd fr s d' s) _
   rw [upd_same]
   have e:ev fr (.tmp s)=d:=hd
   rw [e]at h1
   have:=hsn.sound (X':=XX A h) hr (fun c b hh=>by cases hh) (fun _ b hb=>hb) (fun c hc _ _=>by cases hc) [_] (.cons h1 .nil)
   cases this with|cons h _=>exact h
 · cases y with
   | tmp t=>
     have ht:t≠s:=fun e=>hi (by rw [e])
     show V w (XX A h) (upd fr s d' t) _
     rw [upd_ne _ _ ht]; exact h1
   |_=>exact h1
theorem OpA.frz {s:Nat}{d d':D}{h0:zbb}{x:Nat×Blk}(hp:h.Perm (x::h0))(hd:fr s=d)(hsn:Snap false [x] [d] [d'])(hh:OpA P o (upd fr s d') h0 K):OpA P o fr h K:=fun A M w0 a w hr hv next Q hn=>by
 obtain⟨r1,m1⟩:=hr.perm hp
 obtain⟨r2,m2⟩:=r1.tail
 refine hh A M w0 a w r2 (fun y hy=>?_) next Q (fun v w' d h' hk hr' hm hv'=>hn v w' d h' hk hr' ((m1.trans m2).trans hm) hv')
 have h1:=hv y hy
 by_cases hi:y= .tmp s
 · subst hi
   show V w (XX A h0) (upd fr s d' s) _
   rw [upd_same]
   have hv2:=h1.mono m1
   have e:ev fr (.tmp s)=d:=hd
   rw [e]at hv2
   have hk:x.1 ∉ keys h0:=(List.nodup_cons.1 (by simpa using r1.nodup)).1
   have:=hsn.sound (X':=XX A h0) r1 (fun c b hh=>by cases hh with|head=>exact .head|tail t=>cases t) (fun _ b hb=>by
       rcases hb with hb|hb
       · exact .inl hb
       · exact .inr (by simp [hb])) (fun c hc hev hx=>by
       simp at hc; subst hc
       rcases hx with hx|hx
       · rw [show 2*(x.1 / 2)=x.1 from by omega]at hx
         exact r1.free x.1 (by simp) hx
       · rw [show 2*(x.1 / 2)=x.1 from by omega]at hx
         exact hk hx) [_] (.cons hv2 .nil)
   cases this with
   |cons h1 _=>exact h1
 · have e:ev (upd fr s d') y=ev fr y:=by
     cases y with
     |tmp t=>exact upd_ne _ _ (fun e=>hi (by rw [e]))
     |_=>rfl
   rw [e]; exact(h1.mono m1).mono m2
end
end Go.Lic
set_option linter.all false
namespace Go.Lic
variable [Fl]
def itO (c n:Nat)(seen:List Nat):Obj:= .mapIter (some (c / 2)) n seen.toArray n
section
variable {P:Program}{o:Oper}{fr:Nat->D}{h:zbb}{K:D->zbb->Prop}{T:Type}{vf:T->Value}
end
end Go.Lic
set_option linter.all false
namespace Go.Lic
open Go.Sort
def blankF (c:Int):Bool:=decide (c<=32)||decide (c=127)
def wordF (least:Int)(w:Lexeme):Bool:=decide (0<w.text.size)&& !(zbl w.text).any blankF&&decide (least<=w.line)&&decide (w.line<1024)
def wordsF :Int->List Lexeme->Bool
 |_,[]=>true
 |least,w::l=>wordF least w&&wordsF w.line l
def zbi (t:Text):Bool:=decide (t.words.length<=8192)&&pathB t.path&&wordsF 0 t.words
def okW (l:List Lexeme):Prop:=l.length<=1000000/\∀ w∈l,w.text.size<=1000000
def okT (t:Text):Prop:=t.path.size<=1000000/\okW t.words
def okTs (l:List Text):Prop:=l.length<=1000/\∀ t∈l,okT t
def okC (c:Corpus):Prop:=okTs c.texts/\c.posts.length<=1000000000
abbrev PR :Int:=2305843009213693951
def addP (a b:Int):Int:=(a+b) % PR
def mulP (a b:Int):Int:=(a*b) % PR
def codeF (s:ByteArray):Int:=(zbl s).foldl (fun c b=>addP (mulP 257 c) (b+1)) 0
def pushF (h:Int)(s:ByteArray):Int:=addP (mulP 1000003 h) (addP (codeF s) 1)
def hashF (l:List Lexeme):Int:=l.foldl (fun h w=>pushF h w.text) 0
def powF (n:Int):Int:=(1000003 ^ n.toNat) % PR
def rollF (h:Int)(o i:ByteArray)(top:Int):Int:=pushF (addP h (PR-mulP (addP (codeF o) 1) top)) i
def gramsL (l:List Lexeme)(k:Nat):List Int:=(List.range (l.length+1-k)).map fun i=>hashF ((l.drop i).take k)
def zbt (l:List Lexeme)(k:Int):List Int×Int:=if k<1\/8192<k then([],3)else if 8192<l.length then([],10)else(gramsL l k.toNat,0)
def mul64F (a b:Int):Int×Int:=(a*b / 18446744073709551616,a*b % 18446744073709551616)
def zbs (n:Int):Bool:=decide (1<=n)&&decide (n<=1024)
def leastF (l:List Int)(a b:Int):Int:=(List.range (b-a).toNat).foldl (fun out d=>if gi l (a+(d:Nat))<=gi l out then a+(d:Nat)else out) a
def selStep (out:List Int)(n:Int):List Int:=if 0<out.length/\¬gi out ((out.length:Int)-1)<n then out else out++ [n]
def selL (l:List Int)(w:Nat):List Int:=((List.range (l.length+1-w)).map fun i:Nat=>leastF l i ((i:Int)+w)).foldl selStep []
def zbu (l:List Int)(w:Int):List Int×Int:=if zbs w then if 8192<l.length then([],10)else(selL l w.toNat,0)else([],3)
def printsL (l:List Lexeme)(k w:Nat):List Print:=(selL (gramsL l k) w).map fun a=>⟨gi (gramsL l k) a,a⟩
def zak (t:Text)(k w:Int):List Print×Int:=if zbi t then if zbs k&&zbs w then(printsL t.words k.toNat w.toNat,0)else([],3)else([],1)
def guarF (k w:Int):Int×Int:=if zbs k&&zbs w then(k+w-1,0)else(0,3)
def postCmp (a b:Pst):Int:=orF [cmpI a.hash b.hash,cmpI a.text b.text,cmpI a.at_ b.at_]
def postLt (a b:Pst):Bool:=decide (a.hash<b.hash)||(decide (a.hash=b.hash)&&(decide (a.text<b.text)||(decide (a.text=b.text)&&decide (a.at_<b.at_))))
def postsOf (i:Nat)(l:List Print):List Pst:=l.map fun p=>⟨p.hash,(i:Int),p.at_⟩
def flatP :Nat->List Text->Int->Int->List Pst
 |_,[],_,_=> []
 |i,t::l,k,w=>postsOf i (zak t k w).1++flatP (i+1) l k w
def postsF (l:List Text)(k w:Int):List Pst:=sortF postCmp (flatP 0 l k w)
def checkT :Option ByteArray->List Text->Int
 |_,[]=>0
 |p,t::l=>if zbi t then if p.all (fun q=>sless q t.path)then checkT (some t.path) l else 5 else 1
def checkF (c:Corpus):Int:=if zbs c.k&&zbs c.w then if 64<c.texts.length then 10 else if checkT none c.texts=0 then(if c.posts=postsF c.texts c.k c.w then 0 else 9)else checkT none c.texts else 3
def zay (l:List Text)(k w:Int):Corpus:=⟨k,w,l,postsF l k w⟩
def growTF (_:Int):List Text:= []
def noC :Corpus:=⟨0,0,[],[]⟩
def newF (k w:Int):Corpus×Int:=if zbs k&&zbs w then(⟨k,w,[],[]⟩,0)else(noC,3)
def placeT (l:List Text)(p:ByteArray):Nat:=(l.takeWhile fun t=>sless t.path p).length
def hasT (l:List Text)(p:ByteArray):Bool:=l.any fun t=>decide (t.path=p)
def findT (l:List Text)(p:ByteArray):Int×Bool:=((placeT l p:Nat),hasT l p)
def addF (c:Corpus)(t:Text):Corpus×Int:=
 if checkF c=0/\zbi t=true then if hasT c.texts t.path then(noC,6)else if c.texts.length=64 then(noC,10)else(zay (c.texts.take (placeT c.texts t.path)++t::c.texts.drop (placeT c.texts t.path)) c.k c.w,0)else(noC,1)
def zba :List Lexeme->List Lexeme->Nat
 |x::a,y::b=>if x.text=y.text then zba a b+1 else 0
 |_,_=>0
def fewW (l:List Lexeme):Bool:=decide (l.length<=40)&&l.all fun w=>decide (w.text.size<=40)
def fewTs (l:List Text):Bool:=decide (l.length<=5)&&l.all fun t=>fewW t.words&&decide (t.path.size<=200)
end Go.Lic
set_option linter.all false
namespace Go.Lic
open Go.Proofs Go.Sort
def gsplit_L1 (s_:ByteArray)(sep:ByteArray)(sepSave:Int)(n1:Int)(Q:(List ByteArray)->Prop)(again4:(List ByteArray)×ByteArray×Int->Prop)(a:(List ByteArray))(s_1:ByteArray)(i:Int):Prop:=
 ((i<((gmin n1 [((s_.size:Int)+1)])-1)->(sep.size=1/\(((zbj s_1 sep)<0->(inL i a.length/\(inI (i+1)/\inS 0 (i+1) (si a i s_1).length/\Q (zbc (si a i s_1) 0 (i+1)))))/\(¬(zbj s_1 sep)<0->(inI ((zbj s_1 sep)+sepSave)/\inS 0 ((zbj s_1 sep)+sepSave) s_1.size/\inL i a.length/\(inI ((zbj s_1 sep)+(sep.size:Int))/\inS ((zbj s_1 sep)+(sep.size:Int)) (s_1.size:Int) s_1.size/\(inI (i+1)/\again4 ((si a i (ssub s_1 0 ((zbj s_1 sep)+sepSave))),(ssub s_1 ((zbj s_1 sep)+(sep.size:Int)) (s_1.size:Int)),(i+1)))))))))/\(¬ i<((gmin n1 [((s_.size:Int)+1)])-1)->(inL i a.length/\(inI (i+1)/\inS 0 (i+1) (si a i s_1).length/\Q (zbc (si a i s_1) 0 (i+1))))))
def gsplit_J1 (s_:ByteArray)(sep:ByteArray)(sepSave:Int)(Q:(List ByteArray)->Prop)(n1:Int):Prop:=
 (inI ((s_.size:Int)+1)/\((((0:Int)<=(gmin n1 [((s_.size:Int)+1)])/\((gmin n1 [((s_.size:Int)+1)]):Int)<=(gmin n1 [((s_.size:Int)+1)]))/\(16:Int)*(gmin n1 [((s_.size:Int)+1)])<=281474976710656/\((gmin n1 [((s_.size:Int)+1)]):Int)<=9223372036854775807)/\(inI ((gmin n1 [((s_.size:Int)+1)])-1)/\lfp (S:=(List ByteArray)×ByteArray×Int) (fun again4 ss=>gsplit_L1 s_ sep sepSave n1 Q again4 ss.1 ss.2.1 ss.2.2) ((List.replicate (Int.toNat (gmin n1 [((s_.size:Int)+1)])) ByteArray.empty),s_,0))))
def gsplit_vc (s_:ByteArray)(sep:ByteArray)(sepSave:Int)(n:Int)(Q:(List ByteArray)->Prop):Prop:=
 ((n=0->Q [])/\(¬ n=0->((sep=(⟨#[]⟩:ByteArray)->False)/\(¬ sep=(⟨#[]⟩:ByteArray)->((n<0->(sep.size=1/\inI ((countF s_ sep)+1)/\gsplit_J1 s_ sep sepSave Q ((countF s_ sep)+1)))/\(¬ n<0->gsplit_J1 s_ sep sepSave Q n))))))
def split_vc (s_:ByteArray)(sep:ByteArray)(Q:(List ByteArray)->Prop):Prop:=
 (s_.size<=1000000/\sep.size=1/\0=(0:Int)/\(-1)=(-1:Int)/\Q (splitG s_ sep 0 (-1)))
def sixf_L1 (s_:ByteArray)(p:Int->Bool)(pD:Int->Prop)(truth:Bool)(Q:Int->Prop)(again2:Int->Prop)(pos:Int):Prop:=
 ((pos<(s_.size:Int)->((0:Int)<=pos/\(pD (runeAt s_ pos)/\((((p (runeAt s_ pos))==truth)=true->Q pos)/\(((p (runeAt s_ pos))==truth)=false->again2 (pos+runeW s_ pos))))))/\(¬ pos<(s_.size:Int)->Q (-1)))
def sixf_vc (s_:ByteArray)(p:Int->Bool)(pD:Int->Prop)(truth:Bool)(Q:Int->Prop):Prop:=
 lfp (S:=Int) (fun again2 ss=>sixf_L1 s_ p pD truth Q again2 ss) 0
def sixF_vc (s_:ByteArray)(p:Int->Bool)(pD:Int->Prop)(Q:Int->Prop):Prop:=
 ((∀ z_,pD z_)/\Q (runeIx p s_ true))
def scf_vc (s_:ByteArray)(p:Int->Bool)(pD:Int->Prop)(Q:Bool->Prop):Prop:=
 ((∀ z_,pD z_)/\Q (decide ((runeIx p s_ true)>=0)))
def ixStr_L1 (s_:(List ByteArray))(p:ByteArray->Bool)(pD:ByteArray->Prop)(Q:Int->Prop)(again1:Int->Prop)(x:Int):Prop:=
 ((x<(s_.length:Int)->(inL x s_.length/\pD (gi s_ x)/\(((p (gi s_ x))=true->Q x)/\((p (gi s_ x))=false->(inI (x+1)/\again1 (x+1))))))/\(¬ x<(s_.length:Int)->Q (-1)))
def ixStr_vc (s_:(List ByteArray))(p:ByteArray->Bool)(pD:ByteArray->Prop)(Q:Int->Prop):Prop:=
 lfp (S:=Int) (fun again1 ss=>ixStr_L1 s_ p pD Q again1 ss) 0
def cfStr_vc (s_:(List ByteArray))(p:ByteArray->Bool)(pD:ByteArray->Prop)(Q:Bool->Prop):Prop:=
 (s_.length<=9223372036854775807/\(∀ z_∈s_,pD z_)/\Q (decide ((idxOf p s_)>=0)))
def part1_vc (c:Int)(Q:Bool->Prop):Prop:=
 Q (!((((((decide (c>=97))&&(decide (c<=122)))||((decide (c>=48))&&(decide (c<=57))))||(c==46))||(c==95))||(c==45)))
def part_vc (s_:ByteArray)(Q:Bool->Prop):Prop:=
 (((¬ s_=(⟨#[]⟩:ByteArray)/\¬(s_.size:Int)>32)->inL 0 s_.size)/\(((¬ s_=(⟨#[]⟩:ByteArray)/\¬(s_.size:Int)>32)/\¬(sgi s_ 0)=46)->inL 0 s_.size)/\(((((s_=(⟨#[]⟩:ByteArray)\/(s_.size:Int)>32)\/(sgi s_ 0)=46)\/(sgi s_ 0)=45)->Q false)/\((((¬ s_=(⟨#[]⟩:ByteArray)/\¬(s_.size:Int)>32)/\¬(sgi s_ 0)=46)/\¬(sgi s_ 0)=45)->((∀ z_,(fun(x0_:Int)=>True) z_)/\Q (!(decide (0<=runeIx (fun(x0_:Int)=>badR x0_) s_ true)))))))
def path1_vc (s_:ByteArray)(Q:Bool->Prop):Prop:=
 (s_.size<=1000000/\Q (!(partF s_)))
def path_vc (path:ByteArray)(Q:Int->Prop):Prop:=
 (path.size<=1000000/\(⟨#[47]⟩:ByteArray).size=1/\(((¬(path.size:Int)>128/\¬((zad path (⟨#[47]⟩:ByteArray)).length:Int)>8)->(zad path (⟨#[47]⟩:ByteArray)).length<=9223372036854775807/\(∀ z_∈(zad path (⟨#[47]⟩:ByteArray)),(fun(x0_:ByteArray)=>x0_.size<=1000000) z_))/\(((((path.size:Int)>128\/((zad path (⟨#[47]⟩:ByteArray)).length:Int)>8)\/((zad path (⟨#[47]⟩:ByteArray)).any (fun(x0_:ByteArray)=>(!partF x0_)))=true)->Q 2)/\(((¬(path.size:Int)>128/\¬((zad path (⟨#[47]⟩:ByteArray)).length:Int)>8)/\((zad path (⟨#[47]⟩:ByteArray)).any (fun(x0_:ByteArray)=>(!partF x0_)))=false)->Q 0))))
def or_L1 (vals:(List Int))(Q:Int->Prop)(again1:Int->Prop)(x:Int):Prop:=
 ((x<(vals.length:Int)->(inL x vals.length/\((¬(gi vals x)=0->Q (gi vals x))/\((gi vals x)=0->(inI (x+1)/\again1 (x+1))))))/\(¬ x<(vals.length:Int)->Q 0))
def or_vc (vals:(List Int))(Q:Int->Prop):Prop:=
 lfp (S:=Int) (fun again1 ss=>or_L1 vals Q again1 ss) 0
end Go.Lic
set_option linter.all false
namespace Go.Lic
open Go.Proofs Go.Sort
def sorti_L2 (data:(List Span))(a:Int)(p:Span->Span->Int)(pD:Span->Span->Prop)(i:Int)(again1:Int->Prop)(again3:Unit->Prop):Prop:=
 ((i>a->inL i data.length/\inI (i-1)/\inL (i-1) data.length/\pD (gi data i) (gi data (i-1)))/\(((i>a/\(p (gi data i) (gi data (i-1)))<0)->False)/\((¬ i>a\/¬(p (gi data i) (gi data (i-1)))<0)->(inI (i+1)/\again1 (i+1)))))
def sorti_L1 (data:(List Span))(a:Int)(b:Int)(p:Span->Span->Int)(pD:Span->Span->Prop)(Q:Unit->Prop)(again1:Int->Prop)(i:Int):Prop:=
 ((i<b->lfp (S:=Unit) (fun again3 ss=>sorti_L2 data a p pD i again1 again3) ())/\(¬ i<b->Q ()))
def sorti_vc (data:(List Span))(a:Int)(b:Int)(p:Span->Span->Int)(pD:Span->Span->Prop)(Q:Unit->Prop):Prop:=
 (inI (a+1)/\lfp (S:=Int) (fun again1 ss=>sorti_L1 data a b p pD Q again1 ss) (a+1))
def sortp_L1 (data:(List Span))(a:Int)(b:Int)(limit:Int)(Q:Unit->Prop)(again1:Unit->Prop):Prop:=
 (inI (b-a)/\(((b-a)<=12->(data=([]:List Span)/\a=(0:Int)/\b=(0:Int)/\Q ()))/\(¬(b-a)<=12->((limit=0->False)/\(¬ limit=0->False)))))
def sortp_vc (data:(List Span))(a:Int)(b:Int)(limit:Int)(p:Span->Span->Int)(pD:Span->Span->Prop)(Q:Unit->Prop):Prop:=
 lfp (S:=Unit) (fun again1 ss=>sortp_L1 data a b limit Q again1) ()
def sort0_vc (x:(List Span))(p:Span->Span->Int)(pD:Span->Span->Prop)(Q:Unit->Prop):Prop:=
 ((0:Int)<=(IntKind.u64.wrap (x.length:Int))/\(IntKind.u64.wrap (x.length:Int))<=(18446744073709551615:Int)/\x=([]:List Span)/\0=(0:Int)/\(x.length:Int)=(0:Int)/\Q ())
def inside_vc (s_:Span)(Q:Bool->Prop):Prop:=
 Q (((decide (0<=s_.from_))&&(decide (s_.from_<s_.to)))&&(decide (s_.to<=1024)))
def behind_vc (a:Span)(b:Span)(Q:Bool->Prop):Prop:=
 Q ((sless a.path b.path)||((decide (a.path=b.path))&&(decide (a.to<b.from_))))
def merge1_vc (a:Span)(b:Span)(Q:Int->Prop):Prop:=
 (([(cmpB a.path b.path),(cmpI a.from_ b.from_)]:List Int).length<=9223372036854775807/\Q (orF ([(cmpB a.path b.path),(cmpI a.from_ b.from_)]:List Int)))
def merge_L1 (l:(List Span))(Q:(List Span)->Prop)(again3:(List Span)×Int->Prop)(out:(List Span))(x:Int):Prop:=
 ((x<((sortF zbh l).length:Int)->(inL x (sortF zbh l).length/\(inI ((out.length:Int)-1)/\((((out.length:Int)-1)>=0->inL ((out.length:Int)-1) out.length)/\(((((out.length:Int)-1)>=0/\(behindF (gi out ((out.length:Int)-1)) (gi (sortF zbh l) x))=false)->(inL ((out.length:Int)-1) out.length/\(inI (x+1)/\again3 ((si out ((out.length:Int)-1) (Span.mk ((gi out ((out.length:Int)-1)).path) ((gi out ((out.length:Int)-1)).from_) (gmax ((gi out ((out.length:Int)-1)).to) [(gi (sortF zbh l) x).to]))),(x+1)))))/\((¬((out.length:Int)-1)>=0\/(behindF (gi out ((out.length:Int)-1)) (gi (sortF zbh l) x))=true)->(((out.length+([(gi (sortF zbh l) x)]:List Span).length)*32<=140737488355328/\out.length+([(gi (sortF zbh l) x)]:List Span).length<=9223372036854775807)/\(inI (x+1)/\again3 ((out++([(gi (sortF zbh l) x)]:List Span)),(x+1))))))))))/\(¬ x<((sortF zbh l).length:Int)->Q out))
def merge_vc (l:(List Span))(Q:(List Span)->Prop):Prop:=
 ((SWO (ltOf zbh)/\l.length<4611686018427387904)/\lfp (S:=(List Span)×Int) (fun again3 ss=>merge_L1 l Q again3 ss.1 ss.2) (([]:List Span),0))
def of_L1 (l:(List Line))(Q:(List Span)×Int->Prop)(again2:(List Span)×Int->Prop)(spans:(List Span))(x:Int):Prop:=
 ((x<(l.length:Int)->(inL x l.length/\(((gi l x).path).size<=1000000/\((¬(pathF ((gi l x).path))=0->Q ([],2))/\((pathF ((gi l x).path))=0->(((insideF (Span.mk ((gi l x).path) ((gi l x).n) (IntKind.i64.wrap (((gi l x).n)+1))))=false->Q ([],3))/\((insideF (Span.mk ((gi l x).path) ((gi l x).n) (IntKind.i64.wrap (((gi l x).n)+1))))=true->(((spans.length+([(Span.mk ((gi l x).path) ((gi l x).n) (IntKind.i64.wrap (((gi l x).n)+1)))]:List Span).length)*32<=140737488355328/\spans.length+([(Span.mk ((gi l x).path) ((gi l x).n) (IntKind.i64.wrap (((gi l x).n)+1)))]:List Span).length<=9223372036854775807)/\again2 ((spans++([(Span.mk ((gi l x).path) ((gi l x).n) (IntKind.i64.wrap (((gi l x).n)+1)))]:List Span)),(IntKind.i64.wrap (x+1)))))))))))/\(¬ x<(l.length:Int)->(spans.length<=1000000/\Q ((mergeF spans),0))))
def of_vc (l:(List Line))(Q:(List Span)×Int->Prop):Prop:=
 ((((0:Int)<=0/\(0:Int)<=(l.length:Int))/\(32:Int)*(l.length:Int)<=281474976710656/\((l.length:Int):Int)<=9223372036854775807)/\lfp (S:=(List Span)×Int) (fun again2 ss=>of_L1 l Q again2 ss.1 ss.2) ((List.replicate (Int.toNat 0) (Span.mk ByteArray.empty 0 0)),0))
end Go.Lic
