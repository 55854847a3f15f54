/-
  A small program logic over abstract data ('D'): what a Go value reads as, with slices as lists. No program in sight. Not trusted: Lean checks it.
-/
import Derived.WalkKit
import Derived.Orders
import Derived.OrdersIn
import Derived.TacticsIn
import Derived.RangeFuncRecord
import Derived.RangeFuncLeaves
set_option linter.all false
namespace Go.Lic
inductive D where
 |v (x:Value)
 |agg (ds:List D)
 |list (sz:Nat) (ds:List D)
 |own (c sz i len:Nat)
 |ptr (c sz i k:Nat)
 |iptr (d:D) (k:Nat)
 |map (c:Nat)
 |fn (f:Fn) (first captured:List D)
 |tup (ds:List D)
 |iface (t:TypeId) (d:D)
 |top
 |tself (c T:Nat) (u:Bool)
 |tbuf (c e i len:Nat)
 |clip (sz:Nat) (ds:List D)
instance :Inhabited D:=⟨.v undef⟩
abbrev D.i (n:Int):D:= .v (.int .i64 n)
abbrev D.b (b:Bool):D:= .v (.bool b)
abbrev D.s (s:ByteArray):D:= .v (.string s)
def D.flat :D->List D
 | .agg ds=>ds
 |d=> [d]
def D.flats (ds:List D):List D:=ds.flatMap D.flat
def D.cell :D->Bool
 | .agg _=>false
 | .tup _=>false
 | .top=>false
 | .v x=>x.oneCell'
 |_=>true
def D.ok (sz:Nat)(d:D):Prop:=d.flat.length=sz/\∀ x∈d.flat,x.cell=true
def Lie (w:World)(X:Nat->Prop)(b o:Nat)(cs:List Value):Prop:=
 cs= []\/(¬ X b/\∀ j c,cs[j]? =some c->w.cell? ⟨b,o+j,none⟩=some c)
mutual
inductive V (w:World)(X:Nat->Prop):D->Value->Prop
 |v (x:Value):V w X (.v x) x
 |agg {ds:List D} {vs:List Value} (h:VL w X ds vs):V w X (.agg ds) (.agg vs.toArray)
 |list {sz:Nat} {ds:List D} {cs:List Value} {a:Option Addr} {b o cap:Nat} (hok:∀ d∈ds,d.ok sz) (h:VL w X (D.flats ds) cs)
     (ha:cs≠ []->a=some ⟨b,o,none⟩) (hl:Lie w X b o cs) (hc:ds.length<=cap):V w X (.list sz ds) (.slice a ds.length cap)
 |own {c sz i len cap:Nat} {a:Option Addr} (hc:len<=cap)
     (h:(c % 2=0/\a=some ⟨c / 2,i*sz,none⟩/\∃ e n,w.shape? (c / 2)=some (e,n)/\(i+cap)*sz<=n)\/(len=0/\cap=0)):V w X (.own c sz i len) (.slice a len cap)
 |ptr {c sz i k:Nat} (hc:c % 2=0):V w X (.ptr c sz i k) (.pointer (some ⟨c / 2,i*sz+k,none⟩))
 |iptr {d:D} {k:Nat} {cs:List Value} {b o:Nat} (hok:∀ x∈d.flat,x.cell=true) (h:VL w X d.flat cs) (hl:Lie w X b o cs):V w X (.iptr d k) (.pointer (some ⟨b,o+k,none⟩))
 |map {c:Nat} (hc:c % 2=0):V w X (.map c) (.map (some (c / 2)))
 |fn {f:Fn} {ds es:List D} {vs us:List Value} (h:VL w X ds vs) (h':VL w X es us):V w X (.fn f ds es) (.func f vs.toArray us.toArray)
 |tup {ds:List D} {vs:List Value} (h:VL w X ds vs):V w X (.tup ds) (.tuple vs.toArray)
 |iface {t:TypeId} {d:D} {x:Value} (h:V w X d x):V w X (.iface t d) (.iface t x)
 |top (x:Value):V w X .top x
 |tself {c T:Nat} {u:Bool} (hc:c % 2=0) (h:w.shape? (c / 2)=some (T,2)):V w X (.tself c T u) (.pointer (cond u (some ⟨c / 2,0,none⟩) none))
 |tbuf {c e i len cap:Nat} {a:Option Addr} (hc:len<=cap)
     (h:c % 2=0/\a=some ⟨c / 2,i,none⟩/\0<cap/\∃ n,w.shape? (c / 2)=some (e,n)/\i+cap<=n):V w X (.tbuf c e i len) (.slice a len cap)
 |clip {sz:Nat} {ds:List D} {cs:List Value} {a:Option Addr} {b o:Nat} (hok:∀ d∈ds,d.ok sz) (h:VL w X (D.flats ds) cs)
     (ha:cs≠ []->a=some ⟨b,o,none⟩) (hl:Lie w X b o cs):V w X (.clip sz ds) (.slice a ds.length ds.length)
inductive VL (w:World)(X:Nat->Prop):List D->List Value->Prop
 |nil:VL w X [] []
 |cons {d:D} {ds:List D} {x:Value} {xs:List Value} (h:V w X d x) (hs:VL w X ds xs):VL w X (d::ds) (x::xs)
end
structure Mono (w:World)(X:Nat->Prop)(w':World)(X':Nat->Prop):Prop where
 size:w.heap.size<=w'.heap.size
 keep:∀ b,b<w.heap.size->¬X b->w'.heap[b]? =w.heap[b]?
 shape:∀ b,b<w.heap.size->w'.shape? b=w.shape? b
 avoid:∀ b,b<w.heap.size->X' b->X b
theorem Mono.refl (w:World)(X:Nat->Prop):Mono w X w X:=⟨Nat.le_refl _,fun _ _ _=>rfl,fun _ _=>rfl,fun _ _ h=>h⟩
theorem Mono.trans {w w1 w2:World}{X X1 X2:Nat->Prop}(h:Mono w X w1 X1)(k:Mono w1 X1 w2 X2):Mono w X w2 X2 where
 size:=Nat.le_trans h.size k.size
 keep:=fun b hb hx=>(k.keep b (Nat.lt_of_lt_of_le hb h.size) (fun hx1=>hx (h.avoid b hb hx1))).trans (h.keep b hb hx)
 shape:=fun b hb=>(k.shape b (Nat.lt_of_lt_of_le hb h.size)).trans (h.shape b hb)
 avoid:=fun b hb hx=>h.avoid b hb (k.avoid b (Nat.lt_of_lt_of_le hb h.size) hx)
theorem Mono.less {w:World}{X X':Nat->Prop}(h:∀ b,X' b->X b):Mono w X w X':=⟨Nat.le_refl _,fun _ _ _=>rfl,fun _ _=>rfl,fun b _ hb=>h b hb⟩
theorem lt_of_shape {w:World}{b e n:Nat}(h:w.shape? b=some (e,n)):b<w.heap.size:=by
 unfold World.shape? at h
 rcases Nat.lt_or_ge b w.heap.size with h'|h'
 · exact h'
 · rw [Array.getElem?_eq_none h']at h; simp at h
theorem Lie.mono {w w':World}{X X':Nat->Prop}(hm:Mono w X w' X'){b o:Nat}{cs:List Value}(h:Lie w X b o cs):Lie w' X' b o cs:=by
 rcases h with h|⟨hx,h⟩
 · exact .inl h
 · cases cs with
   |nil=>exact .inl rfl
   | cons c cs=>
     have h0:=h 0 c rfl
     have hb:b<w.heap.size:=World.block_lt_of_cell? (w:=w) (a:=⟨b,o+0,none⟩) h0
     exact .inr ⟨fun hx'=>hx (hm.avoid b hb hx'),fun j c' hj=>(World.cell?_of_block (w:=w) (hm.keep b hb hx)).trans (h j c' hj)⟩
mutual
theorem V.mono {w w':World}{X X':Nat->Prop}(hm:Mono w X w' X'):∀ {d:D} {x:Value},V w X d x->V w' X' d x
 |_,_,.v x=> .v x
 |_,_,.agg h=> .agg (h.mono hm)
 |_,_,.list hok h ha hl hc=> .list hok (h.mono hm) ha (hl.mono hm) hc
 |_,_,.own hc h=> .own hc (h.imp (fun⟨h1,h2,e,n,hs,hn⟩=>⟨h1,h2,e,n,(hm.shape _ (lt_of_shape hs)).trans hs,hn⟩) id)
 |_,_,.ptr hc=> .ptr hc
 |_,_,.iptr hok h hl=> .iptr hok (h.mono hm) (hl.mono hm)
 |_,_,.map hc=> .map hc
 |_,_,.fn h h'=> .fn (h.mono hm) (h'.mono hm)
 |_,_,.tup h=> .tup (h.mono hm)
 |_,_,.iface h=> .iface (h.mono hm)
 |_,_,.top x=> .top x
 |_,_,.tself hc hs=> .tself hc ((hm.shape _ (lt_of_shape hs)).trans hs)
 |_,_,.tbuf hc ⟨h1,h2,h3,n,hs,hn⟩=> .tbuf hc ⟨h1,h2,h3,n,(hm.shape _ (lt_of_shape hs)).trans hs,hn⟩
 |_,_,.clip hok h ha hl=> .clip hok (h.mono hm) ha (hl.mono hm)
theorem VL.mono {w w':World}{X X':Nat->Prop}(hm:Mono w X w' X'):∀ {ds:List D} {xs:List Value},VL w X ds xs->VL w' X' ds xs
 |_,_,.nil=> .nil
 |_,_,.cons h hs=> .cons (h.mono hm) (hs.mono hm)
end
theorem VL.length {w:World}{X:Nat->Prop}:∀ {ds:List D} {xs:List Value},VL w X ds xs->ds.length=xs.length
 |_,_,.nil=>rfl
 |_,_,.cons _ hs=>by simp [hs.length]
theorem VL.get {w:World}{X:Nat->Prop}:∀ {ds:List D} {xs:List Value},VL w X ds xs->∀(i:Nat) (d:D),ds[i]? =some d->∃ x,xs[i]? =some x/\V w X d x
 |_,_,.nil,i,d,h=>by simp at h
 |_,_,.cons h _,0,d,hd=>by simp at hd; subst hd; exact⟨_,rfl,h⟩
 |_,_,.cons _ hs,i+1,d,hd=>by simpa using hs.get i d (by simpa using hd)
theorem VL.get' {w:World}{X:Nat->Prop}:∀ {ds:List D} {xs:List Value},VL w X ds xs->∀(i:Nat) (x:Value),xs[i]? =some x->∃ d,ds[i]? =some d/\V w X d x
 |_,_,.nil,i,d,h=>by simp at h
 |_,_,.cons h _,0,d,hd=>by simp at hd; subst hd; exact⟨_,rfl,h⟩
 |_,_,.cons _ hs,i+1,d,hd=>by simpa using hs.get' i d (by simpa using hd)
theorem VL.append {w:World}{X:Nat->Prop}:∀ {ds es:List D} {xs ys:List Value},VL w X ds xs->VL w X es ys->VL w X (ds++es) (xs++ys)
 |_,_,_,_,.nil,k=>k
 |_,_,_,_,.cons h hs,k=> .cons h (hs.append k)
theorem VL.take {w:World}{X:Nat->Prop}:∀ {ds:List D} {xs:List Value} (n:Nat),VL w X ds xs->VL w X (ds.take n) (xs.take n)
 |_,_,n,.nil=>by simpa using .nil
 |_,_,0,.cons _ _=> .nil
 |_,_,n+1,.cons h hs=> .cons h (hs.take n)
theorem VL.drop {w:World}{X:Nat->Prop}:∀ {ds:List D} {xs:List Value} (n:Nat),VL w X ds xs->VL w X (ds.drop n) (xs.drop n)
 |_,_,n,.nil=>by simpa using .nil
 |_,_,0,.cons h hs=> .cons h hs
 |_,_,n+1,.cons h hs=>hs.drop n
theorem VL.set {w:World}{X:Nat->Prop}:∀ {ds:List D} {xs:List Value} (i:Nat) {d:D} {x:Value},V w X d x->VL w X ds xs->VL w X (ds.set i d) (xs.set i x)
 |_,_,_,_,_,_,.nil=> .nil
 |_,_,0,_,_,h,.cons _ hs=> .cons h hs
 |_,_,n+1,_,_,h,.cons h' hs=> .cons h' (hs.set n h)
theorem V.oneCell {w:World}{X:Nat->Prop}{d:D}{x:Value}(h:V w X d x)(hd:d.cell=true):x.oneCell'=true:=by
 cases h<;>first|rfl|exact hd|(simp [D.cell]at hd)
theorem V.flat {w:World}{X:Nat->Prop}{d:D}{x:Value}(h:V w X d x)(hx:d.cell=true\/∃ ds,d= .agg ds):VL w X d.flat x.cells.toList:=by
 rcases hx with hx|⟨ds,rfl⟩
 · cases h<;>first|(simp [D.cell]at hx; done)|skip
   case v=>cases x<;>first|(simp [D.cell,Value.oneCell']at hx; done)|exact .cons (.v _) .nil
   all_goals exact .cons (by constructor<;>assumption) .nil
 · cases h with
   |agg h=>simpa [D.flat,Value.cells]using h
end Go.Lic
set_option linter.all false
namespace Go.Lic
def globIds :List Nat:= [5,1,2,0]
def pow10L :List Int:= [1,10,100,1000,10000,100000,1000000,10000000,100000000,1000000000,10000000000,100000000000,1000000000000,10000000000000,100000000000000,1000000000000000,10000000000000000,100000000000000000,1000000000000000000,10000000000000000000]
def globP (w:World):Prop:=(∃ t z,w.heap[5]? =some (.cells (pow10L.map fun n=>Value.int .u64 n).toArray t z))/\(∃ u p,w.cell? ⟨1,0,none⟩=some (.iface u p))/\(∃ u p,w.cell? ⟨2,0,none⟩=some (.iface u p))/\(∃ m,w.cell? ⟨0,0,none⟩=some (.int .i64 m))
end Go.Lic
set_option linter.all false
namespace Go.Lic
def gi {α:Type} [Inhabited α](l:List α)(i:Int):α:=l.getD i.toNat default
def si {α:Type}(l:List α)(i:Int)(v:α):List α:=l.set i.toNat v
def zbc {α:Type}(l:List α)(lo hi:Int):List α:=(l.take hi.toNat).drop lo.toNat
def ssub (s:ByteArray)(lo hi:Int):ByteArray:=s.extract lo.toNat hi.toNat
def sgi (s:ByteArray)(i:Int):Int:=(s.data.toList.getD i.toNat 0).toNat
abbrev inI (n:Int):Prop:= -9223372036854775808<=n/\n<=9223372036854775807
abbrev inL (i:Int)(n:Nat):Prop:=0<=i/\i<n
abbrev inS (lo hi:Int)(n:Nat):Prop:=0<=lo/\lo<=hi/\hi<=n
def gand (k:IntKind)(a b:Int):Int:=k.wrap (BitVec.ofInt k.bits a &&& BitVec.ofInt k.bits b).toNat
def gor (k:IntKind)(a b:Int):Int:=k.wrap (BitVec.ofInt k.bits a ||| BitVec.ofInt k.bits b).toNat
def gxor (k:IntKind)(a b:Int):Int:=k.wrap (BitVec.ofInt k.bits a ^^^ BitVec.ofInt k.bits b).toNat
def gnot (k:IntKind)(a:Int):Int:=gxor k (if k.signed then -1 else k.max) a
def gshl (k:IntKind)(x y:Int):Int:=k.wrap (x*2 ^ (min y.toNat k.bits))
def gshr (k:IntKind)(x y:Int):Int:=x.fdiv (2 ^ (min y.toNat k.bits))
def zbl (s:ByteArray):List Int:=s.data.toList.map fun b=>(b.toNat:Int)
def bstr (l:List Int):ByteArray:=⟨(l.map fun n=>UInt8.ofNat n.toNat).toArray⟩
abbrev zcb {α:Type} [Inhabited α](n:Nat)(e:α->D)(l:List α):D:= .agg ((List.range n).map fun i=>e (l.getD i default))
def aeq (n:Nat)(a b:List Int):Bool:=(List.range n).all fun i=>a.getD i 0==b.getD i 0
def lfp {S:Type}(body:(S->Prop)->S->Prop)(s:S):Prop:=∀ I:S->Prop,(∀ s,body I s->I s)->I s
def gfp {S:Type}(body:(S->Prop)->S->Prop)(s:S):Prop:=∃ J:S->Prop,J s/\∀ s,J s->body J s
theorem lfp_of {S:Type}{body:(S->Prop)->S->Prop}(Inv:S->Prop)(m:S->Nat)(round:∀ s,Inv s->∀ again:S->Prop,(∀ s',Inv s'->m s'<m s->again s')->body again s){s:S}(h:Inv s):lfp body s:=by
 intro I hI
 generalize hk:m s=k
 induction k using Nat.strongRecOn generalizing s with
 | _ k ih=>
   subst hk
   exact hI s (round s h I fun s' h' hlt=>ih _ hlt h' rfl)
section
variable {α:Type} [Inhabited α]
theorem gi_lt {l:List α}{i:Int}(h:inL i l.length):gi l i=l[i.toNat]'(by omega):=by
 unfold gi; rw [List.getD_eq_getElem?_getD,List.getElem?_eq_getElem (by omega)]; rfl
theorem gi_get? {l:List α}{i:Int}(h:inL i l.length):l[i.toNat]? =some (gi l i):=by
 rw [gi_lt h]; exact List.getElem?_eq_getElem _
theorem gi_nat {l:List α}{i:Nat}(h:i<l.length):gi l (i:Int)=l[i]:=by
 rw [gi_lt (by omega)]; congr 1
theorem gi_mem {l:List α}{i:Int}(h:inL i l.length):gi l i∈l:=by rw [gi_lt h]; exact List.getElem_mem _
theorem gi_map {β:Type} [Inhabited β]{f:α->β}{l:List α}{i:Int}(h:inL i l.length):gi (l.map f) i=f (gi l i):=by
 rw [gi_lt (by simpa using h),gi_lt h]; simp
end
@[simp] theorem zan {α:Type}(l:List α)(i:Int)(v:α):(si l i v).length=l.length:=by simp [si]
theorem sgi_bd (s:ByteArray)(i:Int):0<=sgi s i/\sgi s i<=255:=by
 unfold sgi; have:=(s.data.toList.getD i.toNat 0).toNat_lt; omega
theorem lsub_length {α:Type}{l:List α}{lo hi:Int}(h:inS lo hi l.length):(zbc l lo hi).length=(hi-lo).toNat:=by simp [zbc]; omega
theorem lsub_from {α:Type}(l:List α)(lo:Int):zbc l lo l.length=l.drop lo.toNat:=by simp [zbc]
theorem lsub_to {α:Type}(l:List α)(hi:Int):zbc l 0 hi=l.take hi.toNat:=by simp [zbc]
theorem decT {p:Prop} [Decidable p](h:decide p=true):p:=of_decide_eq_true h
theorem decF {p:Prop} [Decidable p](h:decide p=false):¬p:=of_decide_eq_false h
theorem ndecT {p:Prop} [Decidable p](h:(!decide p)=true):¬p:=by simpa using h
theorem ndecF {p:Prop} [Decidable p](h:(!decide p)=false):p:=by simpa using h
theorem beqT {a b:Int}(h:(a==b)=true):a=b:=by simpa using h
theorem beqF {a b:Int}(h:(a==b)=false):¬a=b:=by simpa using h
theorem bneT {a b:Int}(h:(a != b)=true):¬a=b:=by simpa using h
theorem bneF {a b:Int}(h:(a != b)=false):a=b:=by simpa using h
theorem notT {b:Bool}(h:(!b)=true):b=false:=by simpa using h
theorem notF {b:Bool}(h:(!b)=false):b=true:=by simpa using h
theorem orS {a b:Bool}(h:a=true):(a||b)=true:=by simp [h]
theorem orN {a b v:Bool}(h:a=false)(h2:b=v):(a||b)=v:=by simp [h,h2]
theorem andS {a b:Bool}(h:a=false):(a&&b)=false:=by simp [h]
theorem andN {a b v:Bool}(h:a=true)(h2:b=v):(a&&b)=v:=by simp [h,h2]
theorem notFt {a:Bool}(h:a=true):(!a)=false:=by simp [h]
theorem or0 {a b:Bool}(h:(a||b)=true):a=true\/b=true:=by simpa using h
theorem or1 {a b:Bool}(h:(a||b)=false):a=false:=by simp at h; exact h.1
theorem or2 {a b:Bool}(h:(a||b)=false):b=false:=by simp at h; exact h.2
theorem and0 {a b:Bool}(h:(a&&b)=false):a=false\/b=false:=by cases a<;>cases b<;>simp_all
theorem and1 {a b:Bool}(h:(a&&b)=true):a=true:=by simp at h; exact h.1
theorem and2 {a b:Bool}(h:(a&&b)=true):b=true:=by simp at h; exact h.2
abbrev gmin (z:Int)(l:List Int):Int:=l.foldl (fun x y=>if y<x then y else x) z
abbrev gmax (z:Int)(l:List Int):Int:=l.foldl (fun x y=>if x<y then y else x) z
abbrev encA2 {α:Type}(e:α->D)(p:α×α):D:= .agg [e p.1,e p.2]
abbrev zai {α:Type}(sz:Nat)(e:α->D)(l:List α):D:= .list sz (l.map e)
abbrev D.k (k:IntKind)(n:Int):D:= .v (.int k n)
end Go.Lic
set_option linter.all false
namespace Go.Lic
theorem lfp_seq {S:Type}{body:(S->Prop)->S->Prop}(n:Nat)(st:Nat->S)(round:∀ i,i<n->∀ again:S->Prop,again (st (i+1))->body again (st i))(last:∀ again:S->Prop,body again (st n)):lfp body (st 0):=by
 intro I hI
 have:∀ k,k<=n->I (st (n-k)):=by
   intro k
   induction k with
   |zero=>intro _; exact hI _ (last I)
   | succ k ih=>
     intro hk
     refine hI _ (round _ (by omega) I ?_)
     have:=ih (by omega)
     rwa [show n-(k+1)+1=n-k by omega]
 simpa using this n (Nat.le_refl n)
theorem lfp_for {S:Type}{body:(S×Int->Prop)->S×Int->Prop}(n:Nat)(st:Nat->S)(round:∀ i:Nat,i<n->∀ again:S×Int->Prop,again (st (i+1),(i:Int)+1)->body again (st i,(i:Int)))(last:∀ again:S×Int->Prop,body again (st n,(n:Int))):lfp body (st 0,0):=
 lfp_seq (S:=S×Int) n (fun i=>(st i,(i:Int))) round last
def fori {S:Type}(f:S->Nat->S)(s:S)(n:Nat):S:=(List.range n).foldl f s
@[simp] theorem fori_zero {S:Type}(f:S->Nat->S)(s:S):fori f s 0=s:=rfl
theorem fori_succ {S:Type}(f:S->Nat->S)(s:S)(n:Nat):fori f s (n+1)=f (fori f s n) n:=by simp [fori,List.range_succ]
theorem fori_inv {S:Type}{f:S->Nat->S}{s:S}(P:S->Prop)(h0:P s)(h1:∀ s i,P s->P (f s i))(n:Nat):P (fori f s n):=by
 induction n with
 |zero=>exact h0
 |succ n ih=>rw [fori_succ]; exact h1 _ _ ih
theorem fori_len {α:Type}{f:List α->Nat->List α}{s:List α}(h1:∀ s i,(f s i).length=s.length)(n:Nat):(fori f s n).length=s.length:=
 fori_inv (fun t:List α=>t.length=s.length) rfl (fun t i h=>by rw [h1,h]) n
theorem wrap_nn {k:IntKind}(hk:k.signed=false)(n:Int):0<=k.wrap n:=by
 cases k<;>simp [IntKind.signed]at hk<;>simp [IntKind.wrap,IntKind.signed,IntKind.bits]<;>omega
end Go.Lic
set_option linter.all false
namespace Go.Lic
inductive Blk where
 |cells (sz:Nat) (es:List D)
 |map (es:List (Value×D))
 |raw (o:Obj)
 |loop (n:Nat) (fr:Nat->D) (ps:Array Tmp) (assign body:Code)
abbrev zbb :=List (Nat×Blk)
def keys (h:zbb):List Nat:=h.map (·.1)
@[simp] theorem keys_nil :keys []= []:=rfl
@[simp] theorem keys_cons (x:Nat×Blk)(h:zbb):keys (x::h)=x.1::keys h:=rfl
@[simp] theorem zch (h k:zbb):keys (h++k)=keys h++keys k:=by simp [keys]
def XX (A:Nat->Prop)(h:zbb)(b:Nat):Prop:=A (2*b)\/2*b∈keys h
def OwnCells (w:World)(b:Nat)(arr:Array Value)(e:TypeId):Prop:=∃ z:Nat×Nat,w.heap[b]? =some (.cells arr e z)/\(z.2<=z.1\/arr.size<=z.1)
theorem OwnCells.of {w:World}{b:Nat}{arr:Array Value}{e:TypeId}(h:w.heap[b]? =some (.cells arr e (0,0))):OwnCells w b arr e:=⟨(0,0),h,.inl (Nat.le_refl _)⟩
theorem OwnCells.eq {w w':World}{b:Nat}{arr:Array Value}{e:TypeId}(hk:w'.heap[b]? =w.heap[b]?)(h:OwnCells w b arr e):OwnCells w' b arr e:=by obtain⟨z,h1,h2⟩:=h; exact⟨z,hk.trans h1,h2⟩
theorem OwnCells.shape {w:World}{b:Nat}{arr:Array Value}{e:TypeId}(h:OwnCells w b arr e):w.shape? b=some (e,arr.size):=by obtain⟨z,h1,_⟩:=h; simp [World.shape?,h1]
theorem OwnCells.cell {w:World}{b:Nat}{arr:Array Value}{e:TypeId}(h:OwnCells w b arr e)(j:Nat):w.cell? ⟨b,j,none⟩=arr[j]? :=by obtain⟨z,h1,_⟩:=h; simp [World.cell?,h1]
theorem OwnCells.frozen {w:World}{b:Nat}{arr:Array Value}{e:TypeId}(h:OwnCells w b arr e){j:Nat}(hj:j<arr.size):w.frozen? ⟨b,j,none⟩=false:=by
 obtain⟨z,h1,h2⟩:=h
 simp [World.frozen?,h1]; omega
def BlkRel (w:World)(X:Nat->Prop)(c:Nat):Blk->Prop
 | .cells sz es=>(∀ d∈es,d.ok sz)/\((c % 2=1/\es= [])\/
     (c % 2=0/\∃(arr:Array Value) (e:TypeId) (cs:List Value),OwnCells w (c / 2) arr e/\VL w X (D.flats es) cs/\cs <+: arr.toList))
 | .map es=>c % 2=0/\∃(ents:Array MapEntry) (clock:Nat),w.heap[c / 2]? =some (.map ents clock)/\ents.toList.map (·.key)=es.map (·.1)/\
     VL w X (es.map (·.2)) (ents.toList.map (·.val))/\(∀ e∈ents.toList,e.born<clock)/\(ents.toList.map (·.born)).Nodup
 | .raw o=>c % 2=0/\w.heap[c / 2]? =some o
 | .loop n fr ps assign body=>c % 2=0/\∃(fn:FuncId) (tmps:Array Value) (b:Nat),w.heap[c / 2]? =some (.loop {state:= .ready,pending:=none,fn:=fn,tmps:=tmps,params:=ps,assign:=assign,body:=body,defers:=b})/\tmps.size=n/\∀ i,V w X (fr i) (tmps.getD i undef)
class Fl where
 on:Prop
instance flNo:Fl:=⟨False⟩
abbrev flYes :Fl:=⟨True⟩
variable [Fl]
structure Ext (M:Nat->Prop)(w0 w:World):Prop where
 os:w.os=w0.os
 tape:w.tape=w0.tape
 output:w.output=w0.output
 size:w0.heap.size<=w.heap.size
 keep:∀ b,b<w0.heap.size->¬M b->w.heap[b]? =w0.heap[b]?
 shape:∀ b,b<w0.heap.size->w.shape? b=w0.shape? b
 drawn:Fl.on->w0.drawn<=w.drawn
theorem Ext.refl (M:Nat->Prop)(w:World):Ext M w w:=⟨rfl,rfl,rfl,Nat.le_refl _,fun _ _ _=>rfl,fun _ _=>rfl,fun _=>Nat.le_refl _⟩
theorem Ext.trans {M:Nat->Prop}{a b c:World}(h:Ext M a b)(k:Ext M b c):Ext M a c:=
 ⟨k.os.trans h.os,k.tape.trans h.tape,k.output.trans h.output,Nat.le_trans h.size k.size,fun i hi hm=>(k.keep i (Nat.lt_of_lt_of_le hi h.size) hm).trans (h.keep i hi hm),fun i hi=>(k.shape i (Nat.lt_of_lt_of_le hi h.size)).trans (h.shape i hi),fun o_=>Nat.le_trans (h.drawn o_) (k.drawn o_)⟩
theorem Ext.more {M M':Nat->Prop}{a b:World}(h:Ext M a b)(hm:∀ i,i<a.heap.size->M i->M' i):Ext M' a b:=
 ⟨h.os,h.tape,h.output,h.size,fun i hi hm'=>h.keep i hi (fun x=>hm' (hm i hi x)),h.shape,h.drawn⟩
def Glob (w:World)(X:Nat->Prop):Prop:=∃ W0,globP W0/\∀ g∈globIds,¬X g/\g<w.heap.size/\w.heap[g]? =W0.heap[g]?
theorem Glob.mono {w w':World}{X X':Nat->Prop}(h:Glob w X)(hm:Mono w X w' X'):Glob w' X':=by
 obtain⟨W0,h0,h1⟩:=h
 refine⟨W0,h0,fun g hg=>?_⟩
 obtain⟨a,b,c⟩:=h1 g hg
 exact⟨fun hx=>a (hm.avoid g b hx),Nat.lt_of_lt_of_le b hm.size,(hm.keep g b a).trans c⟩
structure HRel (A M:Nat->Prop)(w0:World)(h:zbb)(w:World):Prop where
 nodup:(keys h).Nodup
 blk:∀ c b,(c,b)∈h->BlkRel w (XX A h) c b
 free:∀ c,c∈keys h->¬A c
 mine:∀ c,c∈keys h->c % 2=0->M (c / 2)\/w0.heap.size<=c / 2
 bound:∃ N,∀ c,A c->c<N
 old:∀ b,A (2*b)->b<w.heap.size
 ext:Ext M w0 w
 glob:Glob w (XX A h)
@[reducible] def sel (b:Bool)(x y:D):D:=match b with|true=>x|false=>y
@[reducible] def upd (fr:Nat->D)(i:Nat)(d:D):Nat->D:=fun j=>sel (Nat.beq j i) d (fr j)
theorem upd_same (fr:Nat->D)(i:Nat)(d:D):upd fr i d i=d:=by simp [upd,sel]
theorem upd_ne (fr:Nat->D){i j:Nat}(d:D)(h:j≠i):upd fr i d j=fr j:=by
 have:Nat.beq j i=false:=by
   cases hb:Nat.beq j i with
   |false=>rfl
   |true=>exact absurd (Nat.eq_of_beq_eq_true hb) h
 simp [upd,sel,this]
@[reducible] def ev (fr:Nat->D):Operand->D
 | .tmp t=>fr t
 | .const v=> .v v
 | .global g=> .v (.pointer (some ⟨g,0,none⟩))
 | .func f=> .fn (.func f) [] []
def Marks (w0 w:World)(X:Nat->Prop)(ds:List Deferred):Prop:=
 ∃ Ds:List Nat,ds=Ds.map (fun b=> {target:= .collected b,args:= #[]})/\Ds.Nodup/\∀ b∈Ds,w.heap[b]? =some (.deferred (some []))/\¬X b/\w0.heap.size<=b/\b ∉ globIds
theorem Marks.nil (w0 w:World)(X:Nat->Prop):Marks w0 w X []:=⟨[],rfl,by simp,by simp⟩
theorem Marks.mono {w0 w w':World}{X X':Nat->Prop}{ds:List Deferred}(hm:Mono w X w' X')(h:Marks w0 w X ds):Marks w0 w' X' ds:=by
 obtain⟨Ds,h1,h2,h3⟩:=h
 refine⟨Ds,h1,h2,fun b hb=>?_⟩
 obtain⟨a1,a2,a3,a4⟩:=h3 b hb
 have hlt:b<w.heap.size:=(Array.getElem?_eq_some_iff.1 a1).1
 exact⟨(hm.keep b hlt a2).trans a1,fun hx=>a2 (hm.avoid b hlt hx),a3,a4⟩
structure Rel (n:Nat)(A M:Nat->Prop)(w0:World)(fr:Nat->D)(h:zbb)(a:Act)(w:World):Prop where
 size:a.tmps.size=n
 frame:∀ i,V w (XX A h) (fr i) (a.tmps.getD i undef)
 defers:Marks w0 w (XX A h) a.defers
 heap:HRel A M w0 h w
theorem Rel.ev {n:Nat}{A M:Nat->Prop}{w0:World}{fr:Nat->D}{h:zbb}{a:Act}{w:World}(r:Rel n A M w0 fr h a w)(x:Operand):
   V w (XX A h) (ev fr x) (a.eval x):=by
 cases x with
 |tmp t=>exact r.frame t
 |const v=>exact .v v
 |global g=>exact .v _
 |func f=>exact .fn (vs:= []) (us:= []) .nil .nil
theorem Rel.put {n:Nat}{A A' M:Nat->Prop}{w0:World}{fr:Nat->D}{h h':zbb}{a:Act}{w w':World}(r:Rel n A M w0 fr h a w)
   (hr:HRel A' M w0 h' w') (hm:Mono w (XX A h) w' (XX A' h')) {d:Nat} (hd:d<n) {x:D} {v:Value} (hv:V w' (XX A' h') x v):
   Rel n A' M w0 (upd fr d x) h' (a.put (some d) v) w' where
 size:=by simp [Act.put,r.size]
 frame :=fun i=>by
   by_cases hi:i=d
   · subst hi
     rw [upd_same]
     have:i<a.tmps.size:=by rw [r.size]; exact hd
     simpa [Act.put,Array.getElem?_setIfInBounds,this]using hv
   · rw [upd_ne _ _ hi]
     have:((a.put (some d) v).tmps.getD i undef)=a.tmps.getD i undef:=by
       simp [Act.put,Ne.symm hi]
     rw [this]
     exact(r.frame i).mono hm
 defers:=r.defers.mono hm
 heap:=hr
theorem Rel.turn {n:Nat}{A M:Nat->Prop}{w0:World}{fr:Nat->D}{h h':zbb}{a:Act}{w w':World}(r:Rel n A M w0 fr h a w)
   (hr:HRel A M w0 h' w') (hm:Mono w (XX A h) w' (XX A h')):Rel n A M w0 fr h' a w':=
 ⟨r.size,fun i=>(r.frame i).mono hm,r.defers.mono hm,hr⟩
abbrev Post :=Exit->(Nat->D)->zbb->Prop
def Conc (n:Nat)(A M:Nat->Prop)(w0:World)(Q:Post)(e:Exit)(a:Act)(w:World):Prop:=∃ fr h,Q e fr h/\Rel n A M w0 fr h a w
abbrev Wd (ro:Option Nat):Fence:= {Fence.wide with round:=ro}
theorem wd_room (ro:Option Nat)(m:Nat):(Wd ro).room m:=fun _ h=>by simp [Wd,Fence.wide]at h
theorem wd_calls {ro:Option Nat}{m:Nat}{P:Program}{f:FuncId}{args:Array Value}{w:World}{R:Ending->World->Prop}(h:Calls P f args w R):CallsIn (Wd ro) m P f args w R:=
 callsIn_wide (n:=m).2 h
def noRange :Code->Bool
 | .seq x y=>noRange x&&noRange y
 | .cond _ x y=>noRange x&&noRange y
 | .block _ c=>noRange c
 | .loop c=>noRange c
 | .scope c=>noRange c
 | .rangeFunc .. =>false
 |_=>true
abbrev RoOk (ro:Option Nat)(c:Code):Prop:=ro=none\/noRange c=true
theorem RoOk.l {ro:Option Nat}{x y:Code}(h:RoOk ro (.seq x y)):RoOk ro x:=h.imp id fun h=>by simp only [noRange,Bool.and_eq_true]at h; exact h.1
theorem RoOk.r {ro:Option Nat}{x y:Code}(h:RoOk ro (.seq x y)):RoOk ro y:=h.imp id fun h=>by simp only [noRange,Bool.and_eq_true]at h; exact h.2
theorem RoOk.t {ro:Option Nat}{c:Operand}{x y:Code}(h:RoOk ro (.cond c x y)):RoOk ro x:=h.imp id fun h=>by simp only [noRange,Bool.and_eq_true]at h; exact h.1
theorem RoOk.f {ro:Option Nat}{c:Operand}{x y:Code}(h:RoOk ro (.cond c x y)):RoOk ro y:=h.imp id fun h=>by simp only [noRange,Bool.and_eq_true]at h; exact h.2
theorem RoOk.blk {ro:Option Nat}{id:Nat}{x:Code}(h:RoOk ro (.block id x)):RoOk ro x:=h
theorem RoOk.lp {ro:Option Nat}{x:Code}(h:RoOk ro (.loop x)):RoOk ro x:=h
theorem semAt_run {ro:Option Nat}{ρ:Operand->Value}{o:Oper}{P:Program}{w:World}{r:Result Next}(h:(execOp ρ o).run P w=r)(hd:∀ d w',r≠ .ok (.defer d) w'):(o.semAt ro ρ).run P w=r:=by
 cases ro with
 |none=>exact h
 | some l=>
   cases ho:o.op with
   | defer c=>
     simp only [execOp,ho,Sem.run_bind]at h
     simp only [Oper.semAt,ho,Sem.run_bind]
     generalize (resolve ρ c o.type).run P w=q at h
     cases q with
     |ok d w1=>simp only [Result.andThen_ok,Sem.run_pure]at h; exact absurd h.symm (hd d w1)
     |halt x w1=>exact h
   |_=>rw [Oper.semAt_eq _ _ _ (by rw [ho]; intro c hc; cases hc)]; exact h
theorem wd_op {ro:Option Nat}{P:Program}{o:Oper}{a:Act}{w:World}{next:Act->World->Prop}{Q:Exit->Act->World->Prop}{r:Result Next}(h:(execOp a.eval o).run P w=r)(hd:∀ d w',r≠ .ok (.defer d) w')(hh:o.uponIn (Wd ro) 0 P a next Q r):o.wpIn (Wd ro) 0 P a w next Q:=
 ⟨fun _ _=>trivial,by rw [show(o.semAt (Wd ro).round a.eval).run P w=r from semAt_run h hd]; exact hh⟩
def wpA (P:Program)(n:Nat)(c:Code)(Q:Post)(fr:Nat->D)(h:zbb):Prop:=
 ∀ A M w0 a w,Rel n A M w0 fr h a w->∀ ro,RoOk ro c->c.wpIn (Wd ro) 0 P (Conc n A M w0 Q) a w
def OpA (P:Program)(o:Oper)(fr:Nat->D)(h:zbb)(K:D->zbb->Prop):Prop:=
 ∀ A M w0 (a:Act) w,HRel A M w0 h w->(∀ x,x∈o.op.operands->V w (XX A h) (ev fr x) (a.eval x))->
   ∀ (next:Act->World->Prop) (Q:Exit->Act->World->Prop),
     (∀ v w' d h',K d h'->HRel A M w0 h' w'->Mono w (XX A h) w' (XX A h')->V w' (XX A h') d v->next (a.put o.dst v) w')->∀ ro,o.wpIn (Wd ro) 0 P a w next Q
def wpL (P:Program)(n:Nat)(ops:Array Oper)(l:List Oper)(Q:Post)(fr:Nat->D)(h:zbb):Prop:=
 ∀ A M w0 a w,Rel n A M w0 fr h a w->∀ ro,wpListIn (Wd ro) 0 P ops (Conc n A M w0 Q) l a w
section
variable {P:Program}{n:Nat}{ops:Array Oper}{Q:Post}{fr:Nat->D}{h:zbb}
theorem zbo {id:Nat}(hh:wpL P n ops ops.toList Q fr h):wpA P n (.region id ops false) Q fr h:=
 fun A M w0 a w r ro _=>wpIn_region_list (hh A M w0 a w r ro)
theorem wpL_nil (hh:Q .normal fr h):wpL P n ops [] Q fr h:=fun _ _ _ _ _ r _=>⟨fr,h,hh,r⟩
theorem wpL_op {o:Oper}{l:List Oper}{d:Nat}(hg:o.guard=none)(hd:o.dst=some d)(hn:Nat.blt d n=true)
   (hh:OpA P o fr h fun x h'=>wpL P n ops l Q (upd fr d x) h'):wpL P n ops (o::l) Q fr h:=
 fun A M w0 a w r ro=>wpListIn_plain hg fun K hK=>hh A M w0 a w r.heap (fun x _=>r.ev x) K _ (fun v w' x h' hk hr hm hv=>
   hK _ _ (hk A M w0 _ w' (by rw [hd]; exact r.put hr hm (by simpa [Nat.blt_eq]using hn) hv) ro)) ro
theorem wpL_eff {o:Oper}{l:List Oper}(hg:o.guard=none)(hd:o.dst=none)
   (hh:OpA P o fr h fun _ h'=>wpL P n ops l Q fr h'):wpL P n ops (o::l) Q fr h:=
 fun A M w0 a w r ro=>wpListIn_plain hg fun K hK=>hh A M w0 a w r.heap (fun x _=>r.ev x) K _ (fun v w' x h' hk hr hm hv=>
   hK _ _ (hk A M w0 _ w' (by rw [hd]; exact r.turn hr hm) ro)) ro
theorem yielded_of {A M:Nat->Prop}{w0:World}{a:Act}{w:World}(r:Rel n A M w0 fr h a w){j s:Nat}{b:Bool}(hj:(ops[j]?).bind (·.dst)=some s)(hb:fr s= .b b):
   yielded ops a.tmps j=some b:=by
 have hv:=r.frame s
 rw [hb]at hv
 generalize hx:a.tmps.getD s undef=x at hv
 cases hv
 unfold yielded
 rw [hj]
 have:a.tmps[s]? =some (.bool b):=by
   have:a.tmps[s]?.getD undef= .bool b:=by simpa using hx
   cases hs:a.tmps[s]? with
   |none=>rw [hs]at this; simp [undef]at this
   |some y=>rw [hs]at this; simpa using this
 simp [this]
theorem wpL_skip {o:Oper}{l:List Oper}{d j s:Nat}{want b:Bool}(hg:o.guard=some (j,want))(hj:(ops[j]?).bind (·.dst)=some s)(hb:fr s= .b b)(hne:(b==want)=false)
   (hd:o.dst=some d) (hn:Nat.blt d n=true) (hh:wpL P n ops l Q (upd fr d (.v undef)) h):wpL P n ops (o::l) Q fr h:=
 fun A M w0 a w r ro=>wpListIn_step fun K hK=>by
   have hy:=yielded_of r hj hb
   have:Region.wanted o (yielded ops a.tmps)=false:=by
     simp only [Region.wanted,hg,hy]
     cases b<;>cases want<;>first|rfl|simp at hne
   rw [if_neg (by simp [this])]
   refine⟨fun _ _=>trivial,hK _ _ (hh A M w0 _ w ?_ ro)⟩
   rw [hd]
   exact r.put r.heap (Mono.refl _ _) (by simpa [Nat.blt_eq]using hn) (.v _)
theorem yielded_undef {A M:Nat->Prop}{w0:World}{a:Act}{w:World}(r:Rel n A M w0 fr h a w){j s:Nat}(hj:(ops[j]?).bind (·.dst)=some s)(hb:fr s= .v undef):
   yielded ops a.tmps j=none:=by
 have hv:=r.frame s
 rw [hb]at hv
 generalize hx:a.tmps.getD s undef=x at hv
 cases hv
 unfold yielded
 rw [hj]
 cases hs:a.tmps[s]? with
 |none=>simp [hs]
 | some y=>
   have:y=undef:=by simpa [hs]using hx
   subst this
   simp [hs,undef]
theorem wpL_skipU {o:Oper}{l:List Oper}{d j s:Nat}{want:Bool}(hg:o.guard=some (j,want))(hj:(ops[j]?).bind (·.dst)=some s)(hb:fr s= .v undef)
   (hd:o.dst=some d) (hn:Nat.blt d n=true) (hh:wpL P n ops l Q (upd fr d (.v undef)) h):wpL P n ops (o::l) Q fr h:=
 fun A M w0 a w r ro=>wpListIn_step fun K hK=>by
   have hy:=yielded_undef r hj hb
   have:Region.wanted o (yielded ops a.tmps)=false:=by
     simp only [Region.wanted,hg,hy]; rfl
   rw [if_neg (by simp [this])]
   refine⟨fun _ _=>trivial,hK _ _ (hh A M w0 _ w ?_ ro)⟩
   rw [hd]
   exact r.put r.heap (Mono.refl _ _) (by simpa [Nat.blt_eq]using hn) (.v _)
theorem wpL_opg {o:Oper}{l:List Oper}{d j s:Nat}{want b:Bool}(hg:o.guard=some (j,want))(hj:(ops[j]?).bind (·.dst)=some s)(hb:fr s= .b b)(hne:(b==want)=true)
   (hd:o.dst=some d) (hn:Nat.blt d n=true) (hh:OpA P o fr h fun x h'=>wpL P n ops l Q (upd fr d x) h'):wpL P n ops (o::l) Q fr h:=
 fun A M w0 a w r ro=>wpListIn_step fun K hK=>by
   have hy:=yielded_of r hj hb
   have:Region.wanted o (yielded ops a.tmps)=true:=by
     simp only [Region.wanted,hg,hy]
     cases b<;>cases want<;>first|rfl|simp at hne
   rw [if_pos this]
   exact hh A M w0 a w r.heap (fun x _=>r.ev x) K _ (fun v w' x h' hk hr hm hv=>
     hK _ _ (hk A M w0 _ w' (by rw [hd]; exact r.put hr hm (by simpa [Nat.blt_eq]using hn) hv) ro)) ro
theorem wpA_seq {x y:Code}(hh:wpA P n x (fun e fr' h'=>match e with| .normal=>wpA P n y Q fr' h'|e=>Q e fr' h') fr h):wpA P n (.seq x y) Q fr h:=
 fun A M w0 a w r ro hro=>wpIn_seq (wpIn_mono (hh A M w0 a w r ro hro.l) fun e a' w' ⟨fr',h',hq,r'⟩=>by
   cases e<;>first|exact hq A M w0 a' w' r' ro hro.r|exact⟨fr',h',hq,r'⟩)
theorem wpA_skip (hh:Q .normal fr h):wpA P n .skip Q fr h:=fun _ _ _ _ _ r _ _=>wpIn_skip ⟨fr,h,hh,r⟩
theorem wpA_label {l:Nat}(hh:Q .normal fr h):wpA P n (.label l) Q fr h:=fun _ _ _ _ _ r _ _=>wpIn_label ⟨fr,h,hh,r⟩
theorem wpA_ret (hh:Q .ret fr h):wpA P n .ret Q fr h:=fun _ _ _ _ _ r _ _=>wpIn_ret ⟨fr,h,hh,r⟩
theorem wpA_exit {id:Nat}(hh:Q (.exit id) fr h):wpA P n (.exit id) Q fr h:=fun _ _ _ _ _ r _ _=>wpIn_exit ⟨fr,h,hh,r⟩
theorem wpA_cond {c:Operand}{x y:Code}{b:Bool}(hb:ev fr c= .b b)(ht:b=true->wpA P n x Q fr h)(hf:b=false->wpA P n y Q fr h):wpA P n (.cond c x y) Q fr h:=
 fun A M w0 a w r ro hro=>by
   have hv:=r.ev c
   rw [hb]at hv
   generalize hx:a.eval c=u at hv
   cases hv
   exact wpIn_cond_split hx (fun h1=>ht h1 A M w0 a w r ro hro.t) (fun h1=>hf h1 A M w0 a w r ro hro.f)
abbrev InBlock (id:Nat)(Q:Post):Post
 | .exit id',fr,h=>cond (Nat.beq id' id) (Q .normal fr h) (Q (.exit id') fr h)
 |e,fr,h=>Q e fr h
theorem wpA_block {id:Nat}{c:Code}(hh:wpA P n c (InBlock id Q) fr h):wpA P n (.block id c) Q fr h:=
 fun A M w0 a w r ro hro=>wpIn_block (wpIn_mono (hh A M w0 a w r ro hro.blk) fun e a' w' ⟨fr',h',hq,r'⟩=>by
   cases e with
   | exit id'=>
     simp only [Exit.inBlock]
     by_cases hid:id'=id
     · subst hid; rw [if_pos rfl]; exact⟨fr',h',by simpa [InBlock]using hq,r'⟩
     · rw [if_neg hid]
       have:Nat.beq id' id=false:=by
         cases hb:Nat.beq id' id with
         |false=>rfl
         |true=>exact absurd (Nat.eq_of_beq_eq_true hb) hid
       exact⟨fr',h',by simpa [InBlock,this]using hq,r'⟩
   |_=>exact⟨fr',h',hq,r'⟩)
theorem wpA_mono {c:Code}{Q':Post}(hh:wpA P n c Q fr h)(hq:∀ e fr h,Q e fr h->Q' e fr h):wpA P n c Q' fr h:=
 fun A M w0 a w r ro hro=>wpIn_mono (hh A M w0 a w r ro hro) fun _ _ _ ⟨fr',h',q,r'⟩=>⟨fr',h',hq _ _ _ q,r'⟩
theorem wpA_loop {c:Code}(I:Nat->(Nat->D)->zbb->Prop){k:Nat}(h0:I k fr h)
   (round:∀ k fr h,I k fr h->wpA P n c (fun e fr' h'=>match e with| .normal=>∃ k',k'<k/\I k' fr' h'|e=>Q e fr' h') fr h):wpA P n (.loop c) Q fr h:=by
 intro A M w0 a w r ro hro b ks cs hbr hb hr
 have key:∀ m k a w fr h,k=m->I k fr h->Rel n A M w0 fr h a w->
     ∃ e a' w',Conc n A M w0 Q e a' w'/\ArrivesIn (Machine.fenced P (Wd ro)) P (lone (b.atR a (.code c:: .inLoop c::ks)) cs w) b ks cs e a' w':=by
   intro m
   induction m using Nat.strongRecOn with
   | _ m ih=>
     intro k a w fr h hk hI r
     obtain⟨e,a₁,w₁,⟨fr₁,h₁,hq,r₁⟩,harr⟩:=round k fr h hI A M w0 a w r ro hro.lp b (.inLoop c::ks) cs hbr hb hr
     cases e with
     | normal=>
       obtain⟨k',hlt,hI₁⟩:=hq
       obtain⟨e₂,a₂,w₂,hq₂,harr₂⟩:=ih k' (hk▸hlt) k' a₁ w₁ fr₁ h₁ rfl hI₁ r₁
       exact⟨e₂,a₂,w₂,hq₂,.of_steps (StepsIn.trans harr (.one (fenced_calm hb (wd_room ro (cs.length+1+0)) rfl) stepR_inLoop)) harr₂⟩
     |exit id=>exact⟨_,a₁,w₁,⟨fr₁,h₁,hq,r₁⟩,.pass (x:= .inLoop c) rfl (fun _ _=> .inl (by simp)) harr⟩
     |goto l=>exact⟨_,a₁,w₁,⟨fr₁,h₁,hq,r₁⟩,.pass (x:= .inLoop c) rfl (fun _ _=> .inl (by simp)) harr⟩
     |ret=>exact⟨_,a₁,w₁,⟨fr₁,h₁,hq,r₁⟩,.pass (x:= .inLoop c) rfl (fun _ _=> .inl (by simp)) harr⟩
     |panic ch=>exact⟨_,a₁,w₁,⟨fr₁,h₁,hq,r₁⟩,.pass (x:= .inLoop c) rfl (fun _ _=> .inl (by simp)) harr⟩
     |outgrown=>exact⟨_,a₁,w₁,⟨fr₁,h₁,hq,r₁⟩,.pass (x:= .inLoop c) rfl (fun _ _=> .inl (by simp)) harr⟩
 obtain⟨e,a',w',hq,harr⟩:=key _ k a w fr h rfl h0 r
 exact⟨e,a',w',hq,.of_steps (.one (fenced_calm hb hr rfl) stepR_loop) harr⟩
end
end Go.Lic
set_option linter.all false
namespace Go.Lic
variable [Fl]
inductive Has (c:Nat)(b:Blk):zbb->Prop
 |head {h:zbb}:Has c b ((c,b)::h)
 |tail {x:Nat×Blk} {h:zbb} (t:Has c b h):Has c b (x::h)
inductive Repl (c:Nat)(b:Blk)(c':Nat)(b':Blk):zbb->zbb->Prop
 |head {h:zbb}:Repl c b c' b' ((c,b)::h) ((c',b')::h)
 |tail {x:Nat×Blk} {h h':zbb} (t:Repl c b c' b' h h'):Repl c b c' b' (x::h) (x::h')
theorem Has.mem {c:Nat}{b:Blk}{h:zbb}(t:Has c b h):(c,b)∈h:=by
 induction t with
 |head=>simp
 |tail _ ih=>exact List.mem_cons_of_mem _ ih
theorem Has.key {c:Nat}{b:Blk}{h:zbb}(t:Has c b h):c∈keys h:=List.mem_map.2 ⟨_,t.mem,rfl⟩
theorem Repl.split {c:Nat}{b:Blk}{c':Nat}{b':Blk}{h h':zbb}(t:Repl c b c' b' h h'):∃ h1 h2,h=h1++(c,b)::h2/\h'=h1++(c',b')::h2:=by
 induction t with
 | @head h=>exact⟨[],h,rfl,rfl⟩
 | @tail x _ _ _ ih=>obtain⟨h1,h2,rfl,rfl⟩:=ih; exact⟨x::h1,h2,rfl,rfl⟩
theorem Repl.has {c:Nat}{b:Blk}{c':Nat}{b':Blk}{h h':zbb}(t:Repl c b c' b' h h'):Has c b h:=by
 induction t with
 |head=>exact .head
 |tail _ ih=>exact .tail ih
theorem Repl.keys_eq {c:Nat}{b b':Blk}{h h':zbb}(t:Repl c b c b' h h'):keys h'=keys h:=by
 induction t with
 |head=>rfl
 |tail _ ih=>simp [ih]
theorem BlkRel.mono {w w':World}{X X':Nat->Prop}(hm:Mono w X w' X'){c:Nat}{b:Blk}(h:BlkRel w X c b)(hk:c % 2=0->w'.heap[c / 2]? =w.heap[c / 2]?):BlkRel w' X' c b:=by
 cases b with
 | cells sz es=>
   refine⟨h.1,h.2.imp id ?_⟩
   rintro⟨hc,arr,e,cs,h1,h2,h3⟩
   exact⟨hc,arr,e,cs,h1.eq (hk hc),h2.mono hm,h3⟩
 | map es=>
   obtain⟨hc,ents,clock,h1,h2,h3,h4⟩:=h
   exact⟨hc,ents,clock,(hk hc).trans h1,h2,h3.mono hm,h4⟩
 |raw o=>exact⟨h.1,(hk h.1).trans h.2⟩
 | loop n fr ps assign body=>
   obtain⟨hc,fn,tmps,b,h1,h2,h3⟩:=h
   exact⟨hc,fn,tmps,b,(hk hc).trans h1,h2,fun i=>(h3 i).mono hm⟩
theorem BlkRel.lt {w:World}{X:Nat->Prop}{c:Nat}{b:Blk}(h:BlkRel w X c b)(hc:c % 2=0):c / 2<w.heap.size:=by
 have key:∀ o,w.heap[c / 2]? =some o->c / 2<w.heap.size:=fun o ho=>by
   rcases Nat.lt_or_ge (c / 2) w.heap.size with h'|h'
   · exact h'
   · rw [Array.getElem?_eq_none h']at ho; simp at ho
 cases b with
 | cells sz es=>
   rcases h.2 with⟨h1,_⟩|⟨_,arr,e,cs,⟨z,h1,_⟩,_⟩
   · omega
   · exact key _ h1
 |map es=>obtain⟨_,ents,clock,h1,_⟩:=h; exact key _ h1
 |raw o=>exact key _ h.2
 |loop n fr ps assign body=>obtain⟨_,fn,tmps,b,h1,_⟩:=h; exact key _ h1
section
variable {A M:Nat->Prop}{w0 w:World}{h:zbb}
theorem HRel.lt (hr:HRel A M w0 h w){c:Nat}(hc:c∈keys h)(he:c % 2=0):c / 2<w.heap.size:=by
 obtain⟨⟨c',b⟩,hm,rfl⟩:=List.mem_map.1 hc
 exact(hr.blk c' b hm).lt he
theorem HRel.xlt (hr:HRel A M w0 h w){b:Nat}(hx:XX A h b):b<w.heap.size:=by
 rcases hx with hx|hx
 · exact hr.old b hx
 · have:=hr.lt hx (by omega); omega
theorem HRel.quiet (hr:HRel A M w0 h w){w':World}(hh:w'.heap=w.heap)(ho:w'.os=w.os)(ht:w'.tape=w.tape)(hp:w'.output=w.output)(hdr:w.drawn<=w'.drawn):
   HRel A M w0 h w'/\Mono w (XX A h) w' (XX A h):=by
 have hm:Mono w (XX A h) w' (XX A h):=⟨by rw [hh]; exact Nat.le_refl _,fun b _ _=>by rw [hh],fun b _=>by unfold World.shape?; rw [hh],fun _ _ hx=>hx⟩
 refine⟨⟨hr.nodup,fun c b hc=>(hr.blk c b hc).mono hm (fun _=>by rw [hh]),hr.free,hr.mine,hr.bound,by rw [hh]; exact hr.old,?_,hr.glob.mono hm⟩,hm⟩
 exact⟨ho.trans hr.ext.os,ht.trans hr.ext.tape,hp.trans hr.ext.output,by rw [hh]; exact hr.ext.size,fun b hb hn=>by rw [hh]; exact hr.ext.keep b hb hn,fun b hb=>by rw [show w'.shape? b=w.shape? b from by unfold World.shape?; rw [hh]]; exact hr.ext.shape b hb,fun o_=>Nat.le_trans (hr.ext.drawn o_) hdr⟩
theorem get_alloc (w:World)(o:Obj)(b:Nat)(hb:b<w.heap.size):(w.alloc o).heap[b]? =w.heap[b]? :=RowKit.Below.heap_alloc w o b hb
theorem get_alloc_new (w:World)(o:Obj):(w.alloc o).heap[w.heap.size]? =some o:=by
 show(w.heap.push o)[_]? =_
 simp
theorem zax {w w':World}{b:Nat}(h:w'.heap[b]? =w.heap[b]?):w'.shape? b=w.shape? b:=by unfold World.shape?; rw [h]
theorem HRel.allocOut (hr:HRel A M w0 h w)(o:Obj):HRel A M w0 h (w.alloc o)/\Mono w (XX A h) (w.alloc o) (XX A h):=by
 have hm:Mono w (XX A h) (w.alloc o) (XX A h):=⟨by simp,fun b hb _=>get_alloc w o b hb,fun b hb=>zax (get_alloc w o b hb),fun _ _ hx=>hx⟩
 refine⟨⟨hr.nodup,fun c b hc=>(hr.blk c b hc).mono hm (fun he=>get_alloc w o _ ((hr.blk c b hc).lt he)),hr.free,hr.mine,hr.bound,fun b hb=>by have:=hr.old b hb; simp; omega,?_,hr.glob.mono hm⟩,hm⟩
 exact hr.ext.trans ⟨rfl,rfl,rfl,by simp,fun b hb _=>get_alloc w o b hb,fun b hb=>zax (get_alloc w o b hb),fun _=>Nat.le_refl _⟩
theorem HRel.alloc (hr:HRel A M w0 h w){sz:Nat}{es:List D}{cs:List Value}(arr:Array Value)(e:TypeId)(hok:∀ d∈es,d.ok sz)(hv:VL w (XX A h) (D.flats es) cs)(hp:cs <+: arr.toList):
   2*w.heap.size ∉ keys h/\HRel A M w0 ((2*w.heap.size,.cells sz es)::h) (w.alloc (.cells arr e))/\Mono w (XX A h) (w.alloc (.cells arr e)) (XX A ((2*w.heap.size,.cells sz es)::h)):=by
 have hnew:2*w.heap.size ∉ keys h:=fun hc=>by have:=hr.lt hc (by omega); omega
 have hx:∀ b,b<w.heap.size->XX A ((2*w.heap.size,.cells sz es)::h) b->XX A h b:=fun b hb hx=>by
   rcases hx with hx|hx
   · exact .inl hx
   · simp at hx; rcases hx with hx|hx
     · omega
     · exact .inr hx
 have hm:Mono w (XX A h) (w.alloc (.cells arr e)) (XX A ((2*w.heap.size,.cells sz es)::h)):=
   ⟨by simp,fun b hb _=>get_alloc w _ b hb,fun b hb=>zax (get_alloc w _ b hb),hx⟩
 refine⟨hnew,⟨?_,?_,?_,?_,hr.bound,fun b hb=>by have:=hr.old b hb; simp; omega,?_,hr.glob.mono hm⟩,hm⟩
 · simp only [keys_cons,List.nodup_cons]; exact⟨hnew,hr.nodup⟩
 · intro c b hc
   rcases List.mem_cons.1 hc with hc|hc
   · cases hc
     have e2:2*w.heap.size / 2=w.heap.size:=by omega
     refine⟨hok,.inr ⟨by omega,arr,e,cs,?_,hv.mono hm,hp⟩⟩
     rw [e2]; exact .of (get_alloc_new w _)
   · exact(hr.blk c b hc).mono hm (fun he=>get_alloc w _ _ ((hr.blk c b hc).lt he))
 · intro c hc ha
   rcases List.mem_cons.1 (by simpa using hc)with hc|hc
   · subst hc; have:=hr.old _ ha; have:=hr.ext.size; omega
   · exact hr.free c hc ha
 · intro c hc he
   rcases List.mem_cons.1 (by simpa using hc)with hc|hc
   · subst hc; have:=hr.ext.size; right; omega
   · exact hr.mine c hc he
 · exact hr.ext.trans ⟨rfl,rfl,rfl,by simp,fun b hb _=>get_alloc w _ b hb,fun b hb=>zax (get_alloc w _ b hb),fun _=>Nat.le_refl _⟩
theorem HRel.write (hr:HRel A M w0 h w){h':zbb}{c sz sz':Nat}{es es':List D}(ht:Repl c (.cells sz es) c (.cells sz' es') h h')(hc:c % 2=0)(hok:∀ d∈es',d.ok sz')
   {w':World} {arr arr':Array Value} {e:TypeId} {cs':List Value} (ha:OwnCells w (c / 2) arr e) (ha':OwnCells w' (c / 2) arr' e) (hsz:arr'.size=arr.size)
   (hv:VL w (XX A h) (D.flats es') cs') (hp:cs' <+: arr'.toList) (hs:w'.heap.size=w.heap.size) (hk:∀ b,b≠c / 2->w'.heap[b]? =w.heap[b]?)
   (ho:w'.os=w.os) (htp:w'.tape=w.tape) (hout:w'.output=w.output/\w'.drawn=w.drawn):HRel A M w0 h' w'/\Mono w (XX A h) w' (XX A h'):=by
 have hkeys:=ht.keys_eq
 have hin:XX A h (c / 2):= .inr (by have:=ht.has.key; rwa [show 2*(c / 2)=c from by omega])
 have hxx:XX A h'=XX A h:=by funext b; simp [XX,hkeys]
 have hm:Mono w (XX A h) w' (XX A h'):=by
   rw [hxx]
   refine⟨by omega,fun b _ hx=>hk b (fun e=>hx (e▸hin)),fun b _=>?_,fun _ _ hx=>hx⟩
   by_cases hb:b=c / 2
   · subst hb; rw [ha.shape,ha'.shape,hsz]
   · exact zax (hk b hb)
 refine⟨⟨by rw [hkeys]; exact hr.nodup,?_,fun c hc=>hr.free c (hkeys▸hc),fun c hc=>hr.mine c (hkeys▸hc),hr.bound,by rw [hs]; exact hr.old,?_,hr.glob.mono hm⟩,hm⟩
 · intro c1 b1 hc1
   obtain⟨h1,h2,e1,e2⟩:=ht.split
   subst e1; subst e2
   have hnd:=hr.nodup
   simp only [zch,keys_cons,List.nodup_append,List.nodup_cons]at hnd
   rcases List.mem_append.1 hc1 with hc1|hc1
   · have hne:c1≠c:=fun e=>hnd.2.2 c1 (List.mem_map.2 ⟨_,hc1,rfl⟩) c (by simp) e
     exact(hr.blk c1 b1 (by simp [hc1])).mono hm (fun he=>hk _ (by omega))
   · rcases List.mem_cons.1 hc1 with hc1|hc1
     · cases hc1; exact⟨hok,.inr ⟨hc,arr',e,cs',ha',hv.mono hm,hp⟩⟩
     · have hne:c1≠c:=fun e=>hnd.2.1.1 (e▸List.mem_map.2 ⟨_,hc1,rfl⟩)
       exact(hr.blk c1 b1 (by simp [hc1])).mono hm (fun he=>hk _ (by omega))
 · refine⟨ho.trans hr.ext.os,htp.trans hr.ext.tape,hout.1.trans hr.ext.output,by rw [hs]; exact hr.ext.size,fun b hb hn=>?_,fun b hb=>(hm.shape b (Nat.lt_of_lt_of_le hb hr.ext.size)).trans (hr.ext.shape b hb),fun o_=>by rw [hout.2]; exact hr.ext.drawn o_⟩
   by_cases hbc:b=c / 2
   · subst hbc
     rcases hr.mine c ht.has.key hc with hmm|hmm
     · exact absurd hmm hn
     · omega
   · exact(hk b hbc).trans (hr.ext.keep b hb hn)
theorem HRel.cells (hr:HRel A M w0 h w){c sz:Nat}{es:List D}(hh:Has c (.cells sz es) h):
   (∀ d∈es,d.ok sz)/\((c % 2=1/\es= [])\/(c % 2=0/\∃(arr:Array Value) (e:TypeId) (cs:List Value),OwnCells w (c / 2) arr e/\VL w (XX A h) (D.flats es) cs/\cs <+: arr.toList)):=
 hr.blk c _ hh.mem
end
def setAt {α:Type}(l:List α)(i:Nat):List α->List α
 | []=>l
 |x::xs=>setAt (l.set i x) (i+1) xs
theorem setAt_length {α:Type}(xs:List α):∀(l:List α) (i:Nat),(setAt l i xs).length=l.length:=by
 induction xs with
 |nil=>intro l i; rfl
 |cons x xs ih=>intro l i; simp [setAt,ih]
theorem VL.setAt {w:World}{X:Nat->Prop}{xs:List D}{ys:List Value}(h:VL w X xs ys):∀ {ds:List D} {cs:List Value} (i:Nat),VL w X ds cs->VL w X (setAt ds i xs) (setAt cs i ys):=by
 match h with
 | .nil=>intro ds cs i hd; exact hd
 | .cons h hs=>intro ds cs i hd; exact hs.setAt (i+1) (VL.set i h hd)
theorem setAt_get {α:Type}(xs:List α):∀(l:List α) (i j:Nat),(setAt l i xs)[j]? =if i<=j/\j<i+xs.length/\j<l.length then xs[j-i]? else l[j]? :=by
 induction xs with
 |nil=>intro l i j; simp [setAt]; intro h1 h2; omega
 | cons x xs ih=>
   intro l i j
   simp only [setAt,ih,List.length_cons,List.length_set]
   by_cases h1:i+1<=j/\j<i+1+xs.length/\j<l.length
   · rw [if_pos h1,if_pos (by omega)]
     have:j-i=(j-(i+1))+1:=by omega
     rw [this,List.getElem?_cons_succ]
   · rw [if_neg h1]
     by_cases h2:i<=j/\j<i+(xs.length+1)/\j<l.length
     · rw [if_pos h2]
       have:j=i:=by omega
       subst this
       simp [h2.2.2]
     · rw [if_neg h2]
       by_cases h3:i=j
       · subst h3
         rw [List.getElem?_set]
         have:¬i<l.length:=by omega
         simp [this]
       · rw [List.getElem?_set_ne h3]
theorem run_loadCellsFrom' {P:Program}{w:World}{b o:Nat}(cs:List Value):∀(i:Nat) (acc:Array Value),(∀ j c,cs[j]? =some c->w.cell? ⟨b,o+(i+j),none⟩=some c)->
   (loadCellsFrom ⟨b,o,none⟩ i cs.length acc).run P w= .ok (acc++cs.toArray) w:=by
 induction cs with
 |nil=>intro i acc _; simp [loadCellsFrom]
 | cons c cs ih=>
   intro i acc h
   have h0:w.cell? (Addr.add ⟨b,o,none⟩ i)=some c:=by rw [Addr.add_lit]; exact h 0 c rfl
   simp only [List.length_cons,loadCellsFrom,Sem.run_bind,run_load,h0,Result.andThen_ok]
   rw [ih (i+1) (acc.push c) (fun j c' hj=>by have:=h (j+1) c' (by simpa using hj); rwa [show i+1+j=i+(j+1)from by omega])]
   simp
theorem run_loadCells' {P:Program}{w:World}{b o:Nat}(cs:List Value)(h:∀ j c,cs[j]? =some c->w.cell? ⟨b,o+j,none⟩=some c):
   (loadCells ⟨b,o,none⟩ cs.length).run P w= .ok cs.toArray w:=by
 unfold loadCells
 rw [run_loadCellsFrom' cs 0 #[] (by simpa using h)]
 simp
theorem run_storeCells' {P:Program}{b:Nat}{e:TypeId}(vs:List Value):∀(i o:Nat) (w:World) (arr:Array Value),OwnCells w b arr e->(∀ v∈vs,v.oneCell'=true)->o+i+vs.length<=arr.size->
   ∃ w' arr',(storeCells ⟨b,o,none⟩ vs i).run P w= .ok () w'/\OwnCells w' b arr' e/\arr'.toList=setAt arr.toList (o+i) vs/\arr'.size=arr.size/\
     w'.heap.size=w.heap.size/\(∀ b',b'≠b->w'.heap[b']? =w.heap[b']?)/\w'.os=w.os/\w'.tape=w.tape/\(w'.output=w.output/\w'.drawn=w.drawn):=by
 induction vs with
 |nil=>intro i o w arr ha _ _; exact⟨w,arr,by simp [storeCells],ha,rfl,rfl,rfl,fun _ _=>rfl,rfl,rfl,rfl,rfl⟩
 | cons v vs ih=>
   intro i o w arr ha hv hn
   simp only [List.length_cons]at hn
   have hc:w.cell? ⟨b,o+i,none⟩=some arr[o+i]:=by rw [ha.cell]; simp [show o+i<arr.size from by omega]
   have hf:w.frozen? ⟨b,o+i,none⟩=false:=ha.frozen (by omega)
   have ha1:OwnCells (w.setCell ⟨b,o+i,none⟩ v) b (arr.setIfInBounds (o+i) v) e:=by
     obtain⟨z,h1,h2⟩:=ha
     refine⟨z,?_,by simpa using h2⟩
     simp only [World.setCell,Array.getElem?_modify,if_true,h1,Option.map_some]; simp
   obtain⟨w',arr',h1,h2,h3,h4,h5,h6,h7,h8,h9⟩:=ih (i+1) o (w.setCell ⟨b,o+i,none⟩ v) _ ha1 (fun x hx=>hv x (List.mem_cons_of_mem _ hx)) (by simp; omega)
   refine⟨w',arr',?_,h2,?_,by simpa using h4,by simpa using h5,fun b' hb=>(h6 b' hb).trans (RowKit.Below.heap_setCell _ _ _ _ hb),h7,h8,h9⟩
   · simp only [storeCells,Sem.run_bind,Addr.add_lit,run_store P w _ v .plain (hv v (by simp)),hc,hf,Bool.false_eq_true,if_false,Result.andThen_ok]
     exact h1
   · rw [h3]; simp [setAt,Nat.add_assoc]
theorem flats_cons (d:D)(ds:List D):D.flats (d::ds)=d.flat++D.flats ds:=rfl
theorem zcc (ds es:List D):D.flats (ds++es)=D.flats ds++D.flats es:=by simp [D.flats]
theorem zbq {sz:Nat}:∀(ds:List D),(∀ d∈ds,d.ok sz)->(D.flats ds).length=ds.length*sz
 | [],_=>by simp [D.flats]
 | d::ds,h=>by
   rw [flats_cons,List.length_append,zbq ds (fun x hx=>h x (List.mem_cons_of_mem _ hx)),(h d (by simp)).1,List.length_cons,Nat.succ_mul]; omega
theorem flats_get {sz:Nat}:∀(ds:List D) (i:Nat) (d:D),(∀ d∈ds,d.ok sz)->ds[i]? =some d->((D.flats ds).drop (i*sz)).take sz=d.flat
 | [],i,d,_,h=>by simp at h
 | e::ds,0,d,hok,h=>by
   simp at h; subst h
   rw [flats_cons]; simp [(hok e (by simp)).1]
 | e::ds,i+1,d,hok,h=>by
   have he:=(hok e (by simp)).1
   rw [flats_cons,show(i+1)*sz=e.flat.length+i*sz by rw [he,Nat.succ_mul]; omega,List.drop_append,List.drop_eq_nil_of_le (by omega)]
   simpa using flats_get ds i d (fun x hx=>hok x (List.mem_cons_of_mem _ hx)) (by simpa using h)
theorem flats_take {sz:Nat}(ds:List D)(hok:∀ d∈ds,d.ok sz)(n:Nat):D.flats (ds.take n)=(D.flats ds).take (n*sz):=by
 induction n generalizing ds with
 |zero=>simp [D.flats]
 | succ n ih=>
   cases ds with
   |nil=>simp [D.flats]
   | cons d ds=>
     have hd:=(hok d (by simp)).1
     rw [List.take_succ_cons,flats_cons,flats_cons,ih ds (fun x hx=>hok x (List.mem_cons_of_mem _ hx)),show(n+1)*sz=d.flat.length+n*sz by rw [hd,Nat.succ_mul]; omega,
       List.take_append,List.take_of_length_le (by omega:d.flat.length<=_)]
     simp
theorem flats_drop {sz:Nat}(ds:List D)(hok:∀ d∈ds,d.ok sz)(n:Nat):D.flats (ds.drop n)=(D.flats ds).drop (n*sz):=by
 induction n generalizing ds with
 |zero=>simp
 | succ n ih=>
   cases ds with
   |nil=>simp [D.flats]
   | cons d ds=>
     have hd:=(hok d (by simp)).1
     rw [List.drop_succ_cons,flats_cons,ih ds (fun x hx=>hok x (List.mem_cons_of_mem _ hx)),show(n+1)*sz=d.flat.length+n*sz by rw [hd,Nat.succ_mul]; omega,
       List.drop_append,List.drop_eq_nil_of_le (as:=d.flat) (by omega),show d.flat.length+n*sz-d.flat.length=n*sz from by omega]
     simp
theorem flats_set {sz:Nat}(ds:List D)(hok:∀ d∈ds,d.ok sz):∀(i:Nat) (d:D),i<ds.length->d.ok sz->D.flats (ds.set i d)=setAt (D.flats ds) (i*sz) d.flat:=by
 intro i d hi hd
 apply List.ext_getElem?
 intro j
 have hok':∀ x∈ds.set i d,x.ok sz:=fun x hx=>by
   rcases List.mem_or_eq_of_mem_set hx with h|h
   · exact hok x h
   · exact h▸hd
 rw [setAt_get,hd.1,zbq ds hok]
 rcases Nat.eq_zero_or_pos sz with hz|hz
 · subst hz
   have l1:=zbq _ hok'
   have l2:=zbq _ hok
   simp at l1 l2
   simp [l1,l2]
 · have part:∀(es:List D) (k:Nat) (x:D),(∀ y∈es,y.ok sz)->es[k]? =some x->∀ r,r<sz->(D.flats es)[k*sz+r]? =x.flat[r]? :=fun es k x ho hx r hr=>by
     rw [<- flats_get es k x ho hx]
     simp [hr]
   by_cases hj:j<ds.length*sz
   · have hjk:j=(j / sz)*sz+j % sz:=by rw [Nat.mul_comm]; exact(Nat.div_add_mod j sz).symm
     have hr:j % sz<sz:=Nat.mod_lt _ hz
     have hq:j / sz<ds.length:=Nat.div_lt_of_lt_mul (by rw [Nat.mul_comm]; exact hj)
     by_cases hji:j / sz=i
     · have hpos:i*sz<=j/\j<i*sz+sz/\j<ds.length*sz:=by rw [<- hji]; omega
       rw [if_pos hpos]
       have h1:(ds.set i d)[j / sz]? =some d:=by rw [hji]; simp [hi]
       have h2:=part _ _ _ hok' h1 _ hr
       rw [<- hjk]at h2
       rw [h2]
       congr 1
       rw [<- hji]; omega
     · have hneg:¬(i*sz<=j/\j<i*sz+sz/\j<ds.length*sz):=by
         intro ⟨h1,h2,_⟩
         apply hji
         apply Nat.div_eq_of_lt_le
         · exact h1
         · rw [Nat.succ_mul]; exact h2
       rw [if_neg hneg]
       have hg:∃ y,ds[j / sz]? =some y:=⟨_,List.getElem?_eq_getElem hq⟩
       obtain⟨y,hy⟩:=hg
       have h1:(ds.set i d)[j / sz]? =some y:=by rw [List.getElem?_set_ne (Ne.symm hji)]; exact hy
       have h2:=part _ _ _ hok' h1 _ hr
       have h3:=part _ _ _ hok hy _ hr
       rw [<- hjk]at h2 h3
       rw [h2,h3]
   · rw [if_neg (by omega)]
     rw [List.getElem?_eq_none (by rw [zbq _ hok']; simp; omega),List.getElem?_eq_none (by rw [zbq _ hok]; omega)]
end Go.Lic
