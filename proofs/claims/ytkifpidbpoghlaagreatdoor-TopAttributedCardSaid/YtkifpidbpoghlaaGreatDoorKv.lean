/-
  The conditions of functions of chapter 26 hold: posts, faults, changes. No program in sight.
-/
import Derived.Test.YtkifpidbpoghlaaGreatDoorCo2
import Derived.Test.YtkifpidbpoghlaaGreatDoorRule
import Derived.Test.YtkifpidbpoghlaaGreatDoorCo0
import Derived.Test.YtkifpidbpoghlaaGreatDoorMapK
set_option linter.all false
namespace Go.Lic
open Go.Proofs Go.Sort Go.Shelf
theorem ccompare_ok (a:Pst)(b:Pst)(Q:Int->Prop)(h:Q (postCmp a b)):ccompare_vc a b Q:=⟨by simp,h⟩
theorem sortiP_ok (data:(List Pst))(a:Int)(b:Int)(p:Pst->Pst->Int)(pD:Pst->Pst->Prop)(Q:Unit->Prop)(hp0:data=([]:List Pst))(hp1:a=(0:Int))(hp2:b=(0:Int))(h:Q (())):sortiP_vc data a b p pD Q:=by
 subst hp0 hp1 hp2
 refine⟨by omega,fun I hI=>hI _ ⟨fun h=>by omega,fun _=>h⟩⟩
theorem sortpP_ok (data:(List Pst))(a:Int)(b:Int)(limit:Int)(p:Pst->Pst->Int)(pD:Pst->Pst->Prop)(Q:Unit->Prop)(hp0:data=([]:List Pst))(hp1:a=(0:Int))(hp2:b=(0:Int))(h:Q (())):sortpP_vc data a b limit p pD Q:=by
 subst hp0 hp1 hp2
 exact fun I hI=>hI _ ⟨by omega,fun _=>⟨rfl,rfl,rfl,h⟩,fun hn=>absurd hn (by omega)⟩
theorem sort0P_ok (x:(List Pst))(p:Pst->Pst->Int)(pD:Pst->Pst->Prop)(Q:Unit->Prop)(hp0:x=([]:List Pst))(h:Q (())):sort0P_vc x p pD Q:=by
 subst hp0
 exact⟨by decide,by decide,rfl,rfl,rfl,h⟩
theorem postsOf_len (i:Nat)(l:List Print):(postsOf i l).length=l.length:=by simp [postsOf]
theorem flatP_len :∀(l:List Text) (i:Nat) (k w:Int),(∀ t∈l,okT t)->(flatP i l k w).length<=l.length*1000001
 | [],i,k,w,_=>by simp [flatP]
 | t::l,i,k,w,h=>by
   have h1:=flatP_len l (i+1) k w (fun u hu=>h u (List.mem_cons_of_mem _ hu))
   have h2:=prints_len t k w
   have h3:=(h t (by simp)).2.1
   simp only [flatP,List.length_append,postsOf_len,List.length_cons]
   omega
theorem flatP_at {l:List Text}{x:Int}(h:inL x l.length)(k w:Int):flatP x.toNat (l.drop x.toNat) k w=postsOf x.toNat (zak (gi l x) k w).1++flatP (x+1).toNat (l.drop (x+1).toNat) k w:=by
 rw [zbn h,show(x+1).toNat=x.toNat+1 by omega]; rfl
theorem postsOf_at {l:List Print}{x:Int}(h:inL x l.length)(i:Nat):postsOf i (l.drop x.toNat)=⟨(gi l x).hash,(i:Int),(gi l x).at_⟩::postsOf i (l.drop (x+1).toNat):=by
 rw [zbn h]; rfl
theorem cposts_ok (texts:(List Text))(k:Int)(w:Int)(Q:(List Pst)->Prop)(hp0:okTs texts)(h:Q (postsF texts k w)):cposts_vc texts k w Q:=by
 have hfl:=flatP_len texts 0 k w hp0.2
 have hlen:=hp0.1
 unfold postsF at h
 refine lfp2 (cposts_L1 texts k w Q) (fun out x=>0<=x/\x<=texts.length/\out++flatP x.toNat (texts.drop x.toNat) k w=flatP 0 texts k w) (fun _ x=>(texts.length-x).toNat) (fun out x hst again hag=>?_) ⟨by omega,by omega,rfl⟩
 obtain⟨h0,h1,h2⟩:=hst
 refine⟨fun hlt=>⟨by omega,hp0.2 _ (gi_mem (by omega)),?_⟩,fun hn=>?_⟩
 · rw [flatP_at (by omega)]at h2
   refine lfp2 (cposts_L2 texts k w x again) (fun out1 x1=>0<=x1/\x1<=(zak (gi texts x) k w).1.length/\out1++(postsOf x.toNat ((zak (gi texts x) k w).1.drop x1.toNat)++flatP (x+1).toNat (texts.drop (x+1).toNat) k w)=flatP 0 texts k w) (fun _ x1=>((zak (gi texts x) k w).1.length-x1).toNat) (fun out1 x1 hst1 again5 hag5=>?_) ⟨by omega,by omega,h2⟩
   obtain⟨g0,g1,g2⟩:=hst1
   have g3:=congrArg List.length g2
   have hpl:=prints_len (gi texts x) k w
   have hwl:=(hp0.2 _ (gi_mem (l:=texts) (i:=x) (by omega))).2.1
   simp only [List.length_append]at g3
   refine⟨fun hlt1=>⟨by omega,⟨by simp; omega,by simp; omega⟩,by omega,hag5 _ _ ⟨by omega,by omega,?_⟩ (by omega)⟩,fun hn1=>⟨by omega,hag _ _ ⟨by omega,by omega,?_⟩ (by omega)⟩⟩
   · rw [postsOf_at (by omega),show((x.toNat:Nat):Int)=x by omega]at g2
     rw [<- g2]; simp
   · rw [zbv hn1]at g2
     exact g2
 · rw [zbv hn]at h2
   simp only [flatP,List.append_nil]at h2
   subst h2
   exact⟨⟨zam,by omega⟩,h⟩
theorem take_whileI {α:Type} [Inhabited α]{p:α->Bool}{l:List α}{x:Int}(h0:0<=x/\x<=l.length)(h1:∀ j:Int,0<=j->j<x->p (gi l j)=true)(h2:x<l.length->p (gi l x)=false):l.takeWhile p=l.take x.toNat/\l.dropWhile p=l.drop x.toNat:=
 take_while (by omega) (fun j hj=>h1 j (by omega) (by omega)) (fun hj=>by rw [show((x.toNat:Nat):Int)=x by omega]; exact h2 (by omega))
theorem eqPst_iff (a b:Pst):eqPst a b=true↔a=b:=by
 obtain⟨a1,a2,a3⟩:=a; obtain⟨b1,b2,b3⟩:=b
 simp [eqPst]
theorem eqPosts_ok (s1:(List Pst))(s2:(List Pst))(Q:Bool->Prop)(hp0:s1.length<=9223372036854775807)(h:Q ((decide (s1=s2)))):eqPosts_vc s1 s2 Q:=eq_gen eqPst eqPst_iff s1 s2 Q hp0 h
def pathAt (l:List Text)(i:Int):Option ByteArray:=if i>0 then some (gi l (i-1)).path else none
theorem checkT_at {l:List Text}{x:Int}(h:inL x l.length):checkT (pathAt l x) (l.drop x.toNat)=if zbi (gi l x)then if(x>0->sless (gi l (x-1)).path (gi l x).path=true)then checkT (pathAt l (x+1)) (l.drop (x+1).toNat)else 5 else 1:=by
 rw [zbn h,checkT]
 have e:pathAt l (x+1)=some (gi l x).path:=by unfold pathAt; rw [if_pos (by omega),show x+1-1=x by omega]
 rw [e]
 by_cases hv:zbi (gi l x)=true
 · rw [if_pos hv,if_pos hv]
   by_cases hx:x>0
   · have e2:pathAt l x=some (gi l (x-1)).path:=by unfold pathAt; rw [if_pos hx]
     rw [e2]
     simp only [Option.all_some]
     by_cases hs:sless (gi l (x-1)).path (gi l x).path=true
     · rw [if_pos hs,if_pos (fun _=>hs)]
     · rw [if_neg hs,if_neg (fun k=>hs (k hx))]
   · have e2:pathAt l x=none:=by unfold pathAt; rw [if_neg hx]
     rw [e2,if_pos (show(Option.all (fun q=>sless q (gi l x).path) none=true)from rfl),if_pos (fun k=>absurd k hx)]
 · rw [if_neg hv,if_neg hv]
theorem le_sless (a b:ByteArray):(sless a b||decide (a=b))=true↔¬sless b a=true:=by
 rw [Bool.or_eq_true,decide_eq_true_eq]
 constructor
 · rintro(h|h)
   · exact sl_asymm h
   · rw [h]; exact sl_irrefl _
 · intro h
   rcases sl_tri a b with h1|h1|h1
   · exact .inl h1
   · exact .inr h1
   · exact absurd h1 h
theorem ccheck_ok (c:Corpus)(Q:Int->Prop)(hp0:okC c)(h:Q (checkF c)):ccheck_vc c Q:=by
 unfold checkF at h
 refine⟨fun hb=>by rw [if_neg (sizes_not hb)]at h; exact h,fun hg=>?_⟩
 rw [if_pos ((sizes_iff _ _).2 hg)]at h
 refine⟨fun hb=>by rw [if_pos (by omega)]at h; exact h,fun hs=>?_⟩
 rw [if_neg (by omega)]at h
 refine lfp_of (fun x:Int=>0<=x/\x<=c.texts.length/\checkT (pathAt c.texts x) (c.texts.drop x.toNat)=checkT none c.texts) (fun x=>(c.texts.length-x).toNat) (fun x hst again hag=>?_) ⟨by omega,by omega,rfl⟩
 obtain⟨h0,h1,h2⟩:=hst
 refine⟨fun hlt=>?_,fun hn=>?_⟩
 · rw [checkT_at (by omega)]at h2
   refine⟨by omega,hp0.1.2 _ (gi_mem (by omega)),fun hv=>?_,fun hv=>⟨fun hx=>⟨by omega,by omega⟩,fun hb=>?_,fun hb=>⟨by omega,hag _ ⟨by omega,by omega,?_⟩ (by omega)⟩⟩⟩
   · rw [hv,if_neg (by decide)]at h2
     rw [<- h2,if_neg (by decide)]at h; exact h
   · rw [hv,if_pos rfl,if_neg (fun k=>(le_sless _ _).1 hb.2 (k hb.1))]at h2
     rw [<- h2,if_neg (by decide)]at h; exact h
   · rw [hv,if_pos rfl,if_pos]at h2
     · exact h2
     · intro hx
       rcases hb with hb|hb
       · exact absurd hx hb
       · cases hs2:sless (gi c.texts (x-1)).path (gi c.texts x).path with
         |true=>rfl
         |false=>rw [(le_sless _ _).2 (by rw [hs2]; decide)]at hb; cases hb
 · rw [zbv hn,checkT]at h2
   rw [<- h2,if_pos rfl]at h
   refine⟨hp0.1,by have:=hp0.2; omega,fun hf=>?_,fun ht=>?_⟩
   · rw [if_neg (of_decide_eq_false hf)]at h; exact h
   · rw [if_pos (of_decide_eq_true ht)]at h; exact h
theorem cnew_ok (k:Int)(w:Int)(Q:Corpus×Int->Prop)(h:Q (newF k w)):cnew_vc k w Q:=by
 unfold newF at h
 refine⟨fun hb=>by rw [if_neg (sizes_not hb)]at h; exact h,fun hg=>?_⟩
 rw [if_pos ((sizes_iff _ _).2 hg)]at h; exact h
theorem cfind1_ok (t:Text)(p:ByteArray)(Q:Int->Prop)(h:Q ((cmpB t.path p))):cfind1_vc t p Q:=h
theorem half_eq {n:Int}(h:0<=n/\n<=4611686018427387904):IntKind.i64.wrap (gshr .u64 (IntKind.u64.wrap n) 1)=n / 2:=by
 rw [wrapu64 (by omega)]
 have e:gshr .u64 n 1=n / 2:=by
   unfold gshr
   rw [show(2:Int) ^ min (1:Int).toNat IntKind.u64.bits=2 from by decide,Int.fdiv_eq_ediv_of_nonneg _ (by decide)]
 rw [e,wrap_small (by omega)]
theorem cmpB_neg (a b:ByteArray):cmpB a b<0↔sless a b=true:=by
 rw [cmpB_eq]
 split
 · next h=>simp [h]
 · next h=>split<;>simp [h]
theorem cmpB_zero (a b:ByteArray):cmpB a b=0↔a=b:=by
 rw [cmpB_eq]
 split
 · next h=>simp [sl_ne h]
 · next h=>split<;>simp_all
theorem pw_gi {α:Type} [Inhabited α]{R:α->α->Prop}{l:List α}(h:l.Pairwise R){i j:Int}(h0:0<=i)(h1:i<j)(h2:j<l.length):R (gi l i) (gi l j):=by
 rw [gi_lt (by omega),gi_lt (by omega)]
 exact List.pairwise_iff_getElem.1 h _ _ (by omega) (by omega) (by omega)
theorem placeT_at {l:List Text}{p:ByteArray}{x:Int}(h0:0<=x/\x<=l.length)(h1:∀ j:Int,0<=j->j<x->sless (gi l j).path p=true)(h2:x<l.length->sless (gi l x).path p=false):((placeT l p:Nat):Int)=x:=by
 have:=(take_whileI (p:=fun t=>sless t.path p) h0 h1 h2).1
 unfold placeT
 rw [this,List.length_take]; omega
theorem hasT_at {l:List Text}{p:ByteArray}{x:Int}(hs:l.Pairwise TLt)(h0:0<=x/\x<=l.length)(h1:∀ j:Int,0<=j->j<x->sless (gi l j).path p=true)(h2:x<l.length->sless (gi l x).path p=false):hasT l p=(decide (x<l.length)&&decide ((gi l x).path=p)):=by
 rw [Bool.eq_iff_iff]
 unfold hasT
 rw [anyI,Bool.and_eq_true,decide_eq_true_eq,decide_eq_true_eq]
 constructor
 · rintro⟨j,hj,hp⟩
   have hp:=of_decide_eq_true hp
   rcases Int.lt_trichotomy j x with h|h|h
   · exact absurd hp (sl_ne (h1 j hj.1 h))
   · rw [<- h]; exact⟨by omega,hp⟩
   · have h3:sless (gi l x).path (gi l j).path=true:=pw_gi hs h0.1 h hj.2
     rw [hp,h2 (by omega)]at h3; cases h3
 · rintro⟨hx,hp⟩
   exact⟨x,by omega,decide_eq_true hp⟩
theorem cbsearch_ok (x:(List Text))(target:ByteArray)(p:Text->ByteArray->Int)(pD:Text->ByteArray->Prop)(Q:Int×Bool->Prop)(hp0:x.length<=1000000)(hp1:x.Pairwise TLt)(hp2:∀ y_ z_,p y_ z_=cmpB y_.path z_)(hp3:∀ y_ z_,pD y_ z_)(h:Q (findT x target)):cbsearch_vc x target p pD Q:=by
 refine lfp2 (cbsearch_L1 x target p pD Q) (fun i j=>0<=i/\i<=j/\j<=x.length/\(∀ q:Int,0<=q->q<i->sless (gi x q).path target=true)/\(∀ q:Int,j<=q->q<x.length->sless (gi x q).path target=false)) (fun i j=>(j-i).toNat) (fun i j hst again hag=>?_) ⟨by omega,by omega,by omega,fun q _ _=>by omega,fun q _ _=>by omega⟩
 obtain⟨h0,h1,h2,h3,h4⟩:=hst
 refine⟨fun hlt=>?_,fun hn=>⟨fun hi=>⟨by omega,hp3 _ _⟩,?_⟩⟩
 · rw [half_eq (by omega)]
   refine⟨by omega,by decide,by omega,hp3 _ _,fun hc=>⟨by omega,hag _ _ ⟨by omega,by omega,by omega,fun q hq hq2=>?_,h4⟩ (by omega)⟩,fun hc=>hag _ _ ⟨by omega,by omega,by omega,h3,fun q hq hq2=>?_⟩ (by omega)⟩
   · rw [hp2,cmpB_neg]at hc
     by_cases e:q=(i+j) / 2
     · rw [e]; exact hc
     · exact sl_trans (pw_gi hp1 hq (by omega) (by omega)) hc
   · rw [hp2,cmpB_neg]at hc
     cases hs:sless (gi x q).path target with
     |false=>rfl
     | true=>
       exfalso; apply hc
       by_cases e:q=(i+j) / 2
       · rw [<- e]; exact hs
       · exact sl_trans (pw_gi hp1 (by omega) (show(i+j) / 2<q by omega) hq2) hs
 · obtain rfl:i=j:=by omega
   have hpl:=placeT_at (l:=x) (p:=target) ⟨h0,h2⟩ h3 (fun hx=>h4 i (by omega) hx)
   have hha:=hasT_at (l:=x) (p:=target) hp1 ⟨h0,h2⟩ h3 (fun hx=>h4 i (by omega) hx)
   unfold findT at h
   rw [hpl,hha]at h
   rw [hp2,int_beq]
   have e:decide (cmpB (gi x i).path target=0)=decide ((gi x i).path=target):=by
     rw [Bool.eq_iff_iff,decide_eq_true_eq,decide_eq_true_eq]; exact cmpB_zero _ _
   rw [e]
   exact h
theorem cfind_ok (texts:(List Text))(path:ByteArray)(Q:Int×Bool->Prop)(hp0:texts.length<=1000000)(hp1:texts.Pairwise TLt)(h:Q (findT texts path)):cfind_vc texts path Q:=⟨hp0,hp1,fun _ _=>rfl,fun _ _=>trivial,h⟩
theorem cclone_ok (s_:(List Lexeme))(Q:(List Lexeme)->Prop)(hp0:s_.length<=1000000)(h:Q (s_)):cclone_vc s_ Q:=by
 intro isnil hi
 refine⟨fun e=>?_,fun _=>⟨⟨by simp; omega,by simp; omega⟩,by rw [List.nil_append]; exact h⟩⟩
 rw [hi e]at h; exact h
theorem cwith_ok (c:Corpus)(texts:(List Text))(Q:Corpus->Prop)(hp0:okTs texts)(h:Q ((zay texts c.k c.w))):cwith_vc c texts Q:=by
 have hl:=hp0.1
 refine lfp2 (cwith_L1 c texts Q) (fun own_ x=>0<=x/\x<=texts.length/\own_=texts.take x.toNat) (fun _ x=>(texts.length-x).toNat) (fun own_ x hst again hag=>?_) ⟨by omega,by omega,rfl⟩
 obtain⟨h0,h1,h2⟩:=hst
 have hol:own_.length<=1000:=by rw [h2,List.length_take]; omega
 refine⟨fun hlt=>⟨by omega,(hp0.2 _ (gi_mem (by omega))).2.1,⟨by simp; omega,by simp; omega⟩,by omega,hag _ _ ⟨by omega,by omega,?_⟩ (by omega)⟩,fun hn=>?_⟩
 · rw [tk_gi (by omega),h2]
 · rw [tk_end hn]at h2
   subst h2
   exact⟨hp0,h⟩
theorem growT_ok (n:Int)(Q:(List Text)->Prop)(hp0:(0:Int)<=n)(hp1:n<=(1000000:Int))(h:Q (growTF n)):growT_vc n Q:=by
 refine⟨fun hn=>by omega,fun _=>⟨by omega,by omega,fun _=>⟨⟨by omega,by omega,by omega⟩,by omega,?_⟩,fun _=>h⟩⟩
 have e:zbc (List.replicate (Int.toNat (n-((0:Int)-0))) (Text.mk ByteArray.empty [])) 0 0= []:=by simp [zbc]
 rw [e]; exact h
theorem concatT_ok (slices:(List (List Text)))(Q:(List Text)->Prop)(hp0:slices.length<=10)(hp1:(List.flatten slices).length<=1000000)(h:Q ((List.flatten slices))):concatT_vc slices Q:=by
 have hfl:∀ x:Int,0<=x->x<slices.length->(slices.drop x.toNat).flatten.length=(gi slices x).length+(slices.drop (x+1).toNat).flatten.length:=by
   intro x h1 h2
   rw [zbn (by omega)]; simp
 refine lfp2 (concatT_L1 slices Q) (fun size x=>0<=x/\x<=slices.length/\0<=size/\size+(slices.drop x.toNat).flatten.length=slices.flatten.length) (fun _ x=>(slices.length-x).toNat) (fun size x hst again hag=>?_) ⟨by simp,by simp,by simp,by simp⟩
 obtain⟨h0,h1,h2,h3⟩:=hst
 refine⟨fun hlt=>?_,fun hn=>?_⟩
 · have h4:=hfl x h0 hlt
   refine⟨by omega,by omega,fun hneg=>by omega,fun _=>⟨by omega,hag _ _ ⟨by omega,by omega,by omega,by omega⟩ (by omega)⟩⟩
 · rw [zbv hn]at h3
   simp only [List.flatten_nil,List.length_nil]at h3
   refine⟨h2,by omega,?_⟩
   refine lfp2 (concatT_L2 slices Q) (fun nw x1=>0<=x1/\x1<=slices.length/\nw++(slices.drop x1.toNat).flatten=slices.flatten) (fun _ x1=>(slices.length-x1).toNat) (fun nw x1 hst again hag=>?_) ⟨by simp,by simp,by simp [growTF]⟩
   obtain⟨g0,g1,g2⟩:=hst
   have g3:=congrArg List.length g2
   simp only [List.length_append]at g3
   refine⟨fun hlt=>?_,fun hn=>?_⟩
   · have h4:=hfl x1 g0 hlt
     refine⟨by omega,⟨by omega,by omega⟩,by omega,hag _ _ ⟨by omega,by omega,?_⟩ (by omega)⟩
     rw [zbn (by omega)]at g2
     simpa using g2
   · rw [zbv hn]at g2
     simp only [List.flatten_nil,List.append_nil]at g2
     rw [<- g2]at h
     exact h
theorem placeT_le (l:List Text)(p:ByteArray):placeT l p<=l.length:=by
 unfold placeT; exact List.Sublist.length_le (List.takeWhile_sublist _)
theorem okTs_add {c:Corpus}{t:Text}(h:okC c)(ht:okT t)(h64:c.texts.length<=64)(n:Nat)(hn:n<=c.texts.length):okTs (c.texts.take n++t::c.texts.drop n):=by
 refine⟨by simp; omega,fun u hu=>?_⟩
 rcases List.mem_append.1 hu with hu|hu
 · exact h.1.2 u (List.mem_of_mem_take hu)
 · rcases List.mem_cons.1 hu with rfl|hu
   · exact ht
   · exact h.1.2 u (List.mem_of_mem_drop hu)
theorem cadd_ok (c:Corpus)(t:Text)(Q:Corpus×Int->Prop)(hp0:okC c)(hp1:okT t)(h:Q (addF c t)):cadd_vc c t Q:=by
 unfold addF at h
 refine⟨hp0,fun _=>hp1,fun hb=>?_,fun hg=>?_⟩
 · rw [if_neg (by rintro⟨h1,h2⟩; rcases hb with hb|hb; exact hb h1; rw [h2]at hb; cases hb)]at h; exact h
 rw [if_pos hg]at h
 have G:=(checkF_iff c).1 hg.1
 have hpl:=placeT_le c.texts t.path
 have h64:=G.few
 refine⟨by have:=hp0.1.1; omega,G.ord,fun hf=>?_,fun hf=>?_⟩
 · rw [if_pos (show hasT c.texts t.path=true from hf)]at h; exact h
 rw [if_neg (by rw [show hasT c.texts t.path=false from hf]; decide)]at h
 refine⟨fun hs=>by rw [if_pos (by omega)]at h; exact h,fun hs=>?_⟩
 rw [if_neg (by omega)]at h
 have e:List.flatten [zbc c.texts 0 (findT c.texts t.path).1,[Text.mk t.path t.words],zbc c.texts (findT c.texts t.path).1 (c.texts.length:Int)]=c.texts.take (placeT c.texts t.path)++t::c.texts.drop (placeT c.texts t.path):=by
   rw [lsub_to,lsub_from]
   simp [findT]
 have hok:=okTs_add hp0 hp1 h64 _ hpl
 have ef:(findT c.texts t.path).1=((placeT c.texts t.path:Nat):Int):=rfl
 rw [e]
 exact⟨hp1.2.1,by omega,by omega,by simp,by have:=hok.1; omega,hok,h⟩
end Go.Lic
set_option linter.all false
namespace Go.Lic
open Go.Proofs Go.Sort Go.Shelf
theorem c26fewt_ok (l:(List Text))(Q:Bool->Prop)(h:Q (fewTs l)):c26fewt_vc l Q:=by
 unfold fewTs at h
 refine⟨fun hb=>by rw [decide_eq_false (by omega)]at h; exact h,fun hg=>?_⟩
 rw [decide_eq_true (by omega),Bool.true_and]at h
 refine lfp_of (fun x:Int=>0<=x/\x<=l.length/\(l.drop x.toNat).all (fun t=>fewW t.words&&decide (t.path.size<=200))=l.all (fun t=>fewW t.words&&decide (t.path.size<=200))) (fun x=>(l.length-x).toNat) (fun x hst again hag=>?_) ⟨by omega,by omega,rfl⟩
 obtain⟨h0,h1,h2⟩:=hst
 refine⟨fun hlt=>?_,fun hn=>?_⟩
 · rw [zbn (by omega),List.all_cons]at h2
   refine⟨by omega,fun hb=>?_,fun hs=>⟨by omega,hag _ ⟨by omega,by omega,?_⟩ (by omega)⟩⟩
   · have e:(fewW (gi l x).words&&decide ((gi l x).path.size<=200))=false:=by
       rcases hb with hb|hb
       · rw [hb,Bool.false_and]
       · rw [decide_eq_false (by omega),Bool.and_false]
     rw [e,Bool.false_and]at h2
     rw [<- h2]at h; exact h
   · rw [hs.1,decide_eq_true (by omega),Bool.true_and,Bool.true_and]at h2
     exact h2
 · rw [zbv hn]at h2
   rw [<- h2]at h; exact h
end Go.Lic
set_option linter.all false
namespace Go.Lic
open Go.Sort
theorem lfp4 {A B C E:Type}(f:(A×B×C×E->Prop)->A->B->C->E->Prop)(Inv:A->B->C->E->Prop)(m:A->B->C->E->Nat)(round:∀ a b c d,Inv a b c d->∀ again:A×B×C×E->Prop,(∀ a' b' c' d',Inv a' b' c' d'->m a' b' c' d'<m a b c d->again (a',b',c',d'))->f again a b c d){a:A}{b:B}{c:C}{d:E}(h:Inv a b c d):lfp (S:=A×B×C×E) (fun again ss=>f again ss.1 ss.2.1 ss.2.2.1 ss.2.2.2) (a,b,c,d):=
 lfp_of (fun s=>Inv s.1 s.2.1 s.2.2.1 s.2.2.2) (fun s=>m s.1 s.2.1 s.2.2.1 s.2.2.2) (fun s hs again hag=>round s.1 s.2.1 s.2.2.1 s.2.2.2 hs again fun a' b' c' d' h1 h2=>hag (a',b',c',d') h1 h2) h
theorem has_app {c:Nat}{b:Blk}{h2:zbb}:∀(h1:zbb),Has c b h2->Has c b (h1++h2)
 | [],h=>h
 |_::h1,h=> .tail (has_app h1 h)
theorem repl_app {c c':Nat}{b b':Blk}{h2 h3:zbb}:∀(h1:zbb),Repl c b c' b' h2 h3->Repl c b c' b' (h1++h2) (h1++h3)
 | [],h=>h
 |_::h1,h=> .tail (repl_app h1 h)
theorem splitF_ne (r sep:ByteArray):zad r sep≠ []:=by
 unfold zad
 intro h
 exact split_ne _ (List.map_eq_nil_iff.1 h)
theorem index_neg {l:List UInt8}{c:UInt8}(h:Lib.indexByte l c<0):∀ x∈l,x≠c:=by
 rcases Nat.eq_zero_or_pos (l.count c)with h1|h1
 · intro x hx e; subst e
   exact absurd (List.count_pos_iff.2 hx) (by omega)
 · obtain⟨p,r,e1,e2,e3⟩:=count_split h1
   omega
theorem splitF_last {s sep r:ByteArray}{j:Nat}(h1:sep.size=1)(hi:zbj r sep<0)(hd:(zad s sep).drop j=zad r sep):j+1=(zad s sep).length/\gi (zad s sep) (j:Int)=r:=by
 have e:zad r sep= [r]:=by
   unfold zad
   rw [split_none (index_neg hi)]; rfl
 rw [e]at hd
 have hl:=congrArg List.length hd
 rw [List.length_drop,List.length_singleton]at hl
 refine⟨by omega,?_⟩
 rw [gi_nat (by omega)]
 have h2:=List.drop_eq_getElem_cons (l:=zad s sep) (i:=j) (by omega)
 rw [h2]at hd
 exact(List.cons.inj hd).1
theorem splitF_step {s sep r:ByteArray}{j:Nat}(h1:sep.size=1)(hi:¬zbj r sep<0)(hd:(zad s sep).drop j=zad r sep):
   inS 0 (zbj r sep) r.size/\inS (zbj r sep+(sep.size:Int)) (r.size:Int) r.size/\gi (zad s sep) (j:Int)=ssub r 0 (zbj r sep)/\(zad s sep).drop (j+1)=zad (ssub r (zbj r sep+(sep.size:Int)) (r.size:Int)) sep/\(ssub r (zbj r sep+(sep.size:Int)) (r.size:Int)).size<r.size:=by
 rcases Nat.eq_zero_or_pos (r.data.toList.count (sepOf sep))with h0|h0
 · refine absurd ?_ hi
   have key:∀ l:List UInt8,l.count (sepOf sep)=0->Lib.indexByte l (sepOf sep)= -1:=by
     intro l
     induction l with
     |nil=>intro _; rfl
     | cons x l ih=>
       intro h
       have hx:¬x=sepOf sep:=fun e=>by subst e; simp at h
       have h2:l.count (sepOf sep)=0:=by rwa [List.count_cons_of_ne hx]at h
       unfold Lib.indexByte
       rw [ih h2]
       have:(x==sepOf sep)=false:=by simpa using hx
       rw [this]; rfl
   unfold zbj
   rw [key _ h0]; decide
 · obtain⟨p,q,e1,e2,e3⟩:=count_split h0
   have er:r=ba (p++sepOf sep::q):=by rw [<- e1]; rfl
   have ei:zbj r sep=p.length:=e3
   have hz:r.size=p.length+1+q.length:=by rw [size_list,e1]; simp; omega
   have es:ssub r 0 (zbj r sep)=ba p:=by
     rw [ei,er,ssub_ba]; simp
   have et:ssub r (zbj r sep+(sep.size:Int)) (r.size:Int)=ba q:=by
     rw [ei,h1,er,ssub_ba,ba_size]
     have:((p.length:Int)+((1:Nat):Int)).toNat=p.length+1:=by omega
     rw [this,List.take_of_length_le (by simp; omega),List.drop_append,List.drop_eq_nil_of_le (Nat.le_succ _)]
     simp
   have e4:zad r sep=ba p::zad (ba q) sep:=by
     unfold zad
     rw [e1,split_at e2]; rfl
   rw [e4]at hd
   have hl:j<(zad s sep).length:=by
     rcases Nat.lt_or_ge j (zad s sep).length with hj|hj
     · exact hj
     · rw [List.drop_eq_nil_of_le hj]at hd; cases hd
   rw [List.drop_eq_getElem_cons hl]at hd
   obtain⟨k1,k2⟩:=List.cons.inj hd
   rw [et,es,ei]
   refine⟨⟨by omega,by omega,by omega⟩,⟨by omega,by omega,by omega⟩,by rw [gi_nat hl]; exact k1,k2,by rw [ba_size]; omega⟩
end Go.Lic
set_option linter.all false
namespace Go.Lic
open Go.Sort
theorem gi_cons {α:Type} [Inhabited α](t:α)(l:List α)(j:Nat):gi (t::l) ((j+1:Nat):Int)=gi l (j:Int):=by
 unfold gi
 rw [show(((j+1:Nat):Int)).toNat=j+1 by omega,show((j:Int)).toNat=j by omega]
 simp
theorem common_le :∀ a b:List Lexeme,zba a b<=a.length/\zba a b<=b.length
 | [],b=>by simp [zba]
 |_::_,[]=>by simp [zba]
 | x::a,y::b=>by
   rw [zba]
   have:=common_le a b
   split<;>simp<;>omega
theorem common_takeR :∀(a b:List Lexeme) (n:Nat),zba a (b.take n)=min (zba a b) n
 | [],b,n=>by simp [zba]
 |x::a,[],n=>by simp [zba]
 |x::a,y::b,0=>by simp [zba]
 | x::a,y::b,n+1=>by
   rw [List.take_succ_cons,zba,zba]
   split
   · rw [common_takeR a b n]; omega
   · omega
theorem runMax_ge (a:List Lexeme):∀(l:List Lexeme) (j:Nat),zba (l.drop j) a<=runMax a l
 | [],j=>by simp [zba]
 |x::l,0=>by rw [runMax]; simp only [List.drop_zero]; omega
 | x::l,j+1=>by
   rw [runMax,List.drop_succ_cons]
   have:=runMax_ge a l j
   omega
theorem runMax_ex (a:List Lexeme):∀ l:List Lexeme,0<runMax a l->∃ j,j<l.length/\zba (l.drop j) a=runMax a l
 | [],h=>by simp [runMax]at h
 | x ::l,h=>by
   rw [runMax]at h ⊢
   rcases Nat.le_total (zba (x::l) a) (runMax a l)with h1|h1
   · obtain⟨j,hj,e⟩:=runMax_ex a l (by omega)
     exact⟨j+1,by simpa using hj,by rw [List.drop_succ_cons,e]; omega⟩
   · exact⟨0,by simp,by rw [List.drop_zero]; omega⟩
theorem runMax_le (a l:List Lexeme):runMax a l<=a.length:=by
 rcases Nat.eq_zero_or_pos (runMax a l)with h|h
 · omega
 · obtain⟨j,_,e⟩:=runMax_ex a l h
   have:=(common_le (l.drop j) a).2
   omega
theorem foldmax_eq {α:Type}(f:α->Nat):∀(l:List α) (m:Nat),m<=l.foldl (fun m t=>max m (f t)) m/\(∀ t∈l,f t<=l.foldl (fun m t=>max m (f t)) m)/\(l.foldl (fun m t=>max m (f t)) m=m\/∃ t∈l,l.foldl (fun m t=>max m (f t)) m=f t)
 | [],m=>by simp
 | t ::l,m=>by
   obtain⟨h1,h2,h3⟩:=foldmax_eq f l (max m (f t))
   rw [List.foldl_cons]
   refine⟨by omega,fun u hu=>?_,?_⟩
   · rcases List.mem_cons.1 hu with rfl|hu
     · omega
     · exact h2 u hu
   · rcases h3 with h3|⟨u,hu,h3⟩
     · rcases Nat.le_total m (f t)with h4|h4
       · right; exact⟨t,by simp,by omega⟩
       · left; omega
     · right; exact⟨u,by simp [hu],h3⟩
theorem longW_ge {ts:List Text}{a:List Lexeme}{t:Text}(h:t∈ts):runMax a t.words<=longW ts a:=(foldmax_eq (fun t:Text=>runMax a t.words) ts 0).2.1 t h
theorem longW_ex {ts:List Text}{a:List Lexeme}(h:0<longW ts a):∃ t∈ts,longW ts a=runMax a t.words:=by
 rcases(foldmax_eq (fun t:Text=>runMax a t.words) ts 0).2.2 with h1|h1
 · unfold longW at h; omega
 · exact h1
theorem longW_le (ts:List Text)(a:List Lexeme):longW ts a<=a.length:=by
 rcases Nat.eq_zero_or_pos (longW ts a)with h|h
 · omega
 · obtain⟨t,_,e⟩:=longW_ex h
   rw [e]; exact runMax_le _ _
@[simp] theorem longsN_len (ts:List Text):∀ l:List Lexeme,(longsN ts l).length=l.length
 | []=>rfl
 |w::l=>by simp [longsN,longsN_len ts l]
theorem longsN_get (ts:List Text):∀(l:List Lexeme) (i:Nat),i<l.length->(longsN ts l).getD i 0=longW ts (l.drop i)
 | [],i,h=>by simp at h
 |w::l,0,h=>by simp [longsN]
 | w::l,i+1,h=>by
   rw [longsN,List.drop_succ_cons,List.getD_cons_succ,longsN_get ts l i (by simpa using h)]
theorem srcW_some {a:List Lexeme}:∀ {l:List Lexeme} {k:Nat},srcW a l=some k->k<l.length/\zba (l.drop k) a=a.length/\∀ j,j<k->zba (l.drop j) a≠a.length
 | [],k,h=>by simp [srcW]at h
 | x ::l,k,h=>by
   rw [srcW]at h
   split at h
   · next e=>
     obtain rfl:=Option.some.inj h
     exact⟨by simp,by simpa using e,fun j hj=>by omega⟩
   · next e=>
     obtain⟨m,hm,rfl⟩:=Option.map_eq_some_iff.1 h
     obtain⟨h1,h2,h3⟩:=srcW_some hm
     refine⟨by simpa using h1,by simpa using h2,fun j hj=>?_⟩
     cases j with
     |zero=>simpa using e
     |succ j=>simpa using h3 j (by omega)
theorem srcW_none {a:List Lexeme}:∀ {l:List Lexeme},srcW a l=none->∀ j,j<l.length->zba (l.drop j) a≠a.length
 | [],_,j,hj=>by simp at hj
 | x ::l,h,j,hj=>by
   rw [srcW]at h
   split at h
   · cases h
   · next e=>
     rw [Option.map_eq_none_iff]at h
     cases j with
     |zero=>simpa using e
     |succ j=>simpa using srcW_none h j (by simpa using hj)
theorem srcT_some {a:List Lexeme}:∀ {ts:List Text} {p:Nat×Nat},srcT a ts=some p->∃ h:p.1<ts.length,srcW a (ts[p.1]).words=some p.2/\∀ i (hi:i<p.1),srcW a (ts[i]'(by omega)).words=none
 | [],p,h=>by simp [srcT]at h
 | t ::ts,p,h=>by
   rw [srcT]at h
   split at h
   · next k e=>
     obtain rfl:=Option.some.inj h
     exact⟨by simp,by simpa using e,fun i hi=>by simp at hi⟩
   · next e=>
     obtain⟨q,hq,rfl⟩:=Option.map_eq_some_iff.1 h
     obtain⟨h1,h2,h3⟩:=srcT_some hq
     refine⟨by simpa using h1,by simpa using h2,fun i hi=>?_⟩
     cases i with
     |zero=>simpa using e
     |succ i=>simpa using h3 i (by simpa using hi)
theorem srcT_none {a:List Lexeme}:∀ {ts:List Text},srcT a ts=none->∀ t∈ts,srcW a t.words=none
 | [],_,t,ht=>by cases ht
 | u ::ts,h,t,ht=>by
   rw [srcT]at h
   split at h
   · cases h
   · next e=>
     rw [Option.map_eq_none_iff]at h
     rcases List.mem_cons.1 ht with rfl|ht
     · exact e
     · exact srcT_none h t ht
theorem srcT_ex {ts:List Text}{w:List Lexeme}{m:Nat}(h0:0<m)(h:m<=longW ts w):∃ p,srcT (w.take m) ts=some p:=by
 cases e:srcT (w.take m) ts with
 |some p=>exact⟨p,rfl⟩
 | none=>
   exfalso
   obtain⟨t,ht,e1⟩:=longW_ex (a:=w) (ts:=ts) (by omega)
   obtain⟨j,hj,e2⟩:=runMax_ex w t.words (by omega)
   refine srcW_none (srcT_none e t ht) j hj ?_
   have:=longW_le ts w
   rw [common_takeR,List.length_take]
   omega
abbrev Val3 :=Int×Int×Nat
abbrev val2 (v:Val3):Int×Int:=(v.1,v.2.1)
theorem betV_iff (a b:Int×Int):betV a b=true↔b.1<a.1\/(a.1=b.1/\a.2<b.2):=by
 unfold betV; simp
def valA (least:Nat)(los:List Nat):Val3:=(dpL least los).headD default
theorem dpL_len (least:Nat):∀ los:List Nat,(dpL least los).length=los.length+1
 | []=>rfl
 |lo::los=>by simp [dpL,dpL_len least los]
theorem dpL_get (least:Nat):∀(los:List Nat) (k:Nat),k<=los.length->(dpL least los).getD k default=valA least (los.drop k)
 | [],0,_=>rfl
 | [],k+1,h=>by simp at h
 |lo::los,0,_=>rfl
 | lo::los,k+1,h=>by
   rw [dpL,List.getD_cons_succ,List.drop_succ_cons]
   exact dpL_get least los k (by simpa using h)
theorem dpL_drop (least:Nat):∀(los:List Nat) (k:Nat),k<=los.length->(dpL least los).drop k=dpL least (los.drop k)
 | [],0,_=>rfl
 | [],k+1,h=>by simp at h
 |lo::los,0,_=>rfl
 | lo::los,k+1,h=>by
   rw [dpL,List.drop_succ_cons,List.drop_succ_cons]
   exact dpL_drop least los k (by simpa using h)
structure Chosen (c0:Int×Int)(cd:Nat->Val3)(ks:List Nat)(v:Val3):Prop where
 ge0:¬betV c0 (val2 v)=true
 gek:∀ k∈ks,¬betV (val2 (cd k)) (val2 v)=true
 len0:v.2.2=0->val2 v=c0
 len1:v.2.2≠0->v.2.2∈ks/\v=cd v.2.2
 last:∀ k∈ks,v.2.2<k->betV (val2 v) (val2 (cd k))=true
theorem candV_len (rest:List Val3)(k:Nat):(candV rest k).2.2=k:=rfl
theorem chosen_fold (rest:List Val3)(c0:Int×Int):∀(ks done:List Nat) (v:Val3),(∀ k∈ks,0<k)->(∀ a∈done,∀ k∈ks,a<k)->ks.Pairwise (· < ·)->Chosen c0 (candV rest) done v->Chosen c0 (candV rest) (done++ks) (ks.foldl (takeV rest) v)
 | [],done,v,_,_,_,h=>by simpa using h
 | k ::ks,done,v,hp,hd,hs,h=>by
   obtain⟨hs1,hs2⟩:=List.pairwise_cons.1 hs
   rw [List.foldl_cons,show done++k::ks=(done++ [k])++ks by simp]
   refine chosen_fold rest c0 ks (done++ [k]) _ (fun a ha=>hp a (by simp [ha])) (fun a ha b hb=>?_) hs2 ?_
   · rcases List.mem_append.1 ha with ha|ha
     · exact hd a ha b (by simp [hb])
     · rw [List.mem_singleton.1 ha]; exact hs1 b hb
   · unfold takeV
     split
     · next hb=>
       have hb:betV (val2 v) (val2 (candV rest k))=true:=hb
       refine⟨h.ge0,fun a ha=>?_,h.len0,fun hn=>⟨List.mem_append.2 (.inl (h.len1 hn).1),(h.len1 hn).2⟩,fun a ha hl=>?_⟩
       · rcases List.mem_append.1 ha with ha|ha
         · exact h.gek a ha
         · rw [List.mem_singleton.1 ha]
           rw [betV_iff]at hb ⊢
           omega
       · rcases List.mem_append.1 ha with ha|ha
         · exact h.last a ha hl
         · rw [List.mem_singleton.1 ha]; exact hb
     · next hb=>
       have hb:¬betV (val2 v) (val2 (candV rest k))=true:=hb
       have h0:=h.ge0
       refine⟨?_,fun a ha=>?_,fun hz=>?_,fun _=>⟨by rw [candV_len]; simp,by rw [candV_len]⟩,fun a ha hl=>?_⟩
       · rw [betV_iff]at h0 hb ⊢
         simp only [val2]at h0 hb ⊢
         omega
       · rcases List.mem_append.1 ha with ha|ha
         · have h1:=h.gek a ha
           rw [betV_iff]at h1 hb ⊢
           simp only [val2]at h1 hb ⊢
           omega
         · rw [List.mem_singleton.1 ha,betV_iff]; omega
       · rw [candV_len]at hz
         have:=hp k (by simp)
         omega
       · rw [candV_len]at hl
         rcases List.mem_append.1 ha with ha|ha
         · have:=hd a ha k (by simp); omega
         · rw [List.mem_singleton.1 ha]at hl; omega
theorem fromTo_mem {least lo k:Nat}:k∈fromTo least lo↔least<=k/\k<=lo:=by
 unfold fromTo
 rw [List.mem_map]
 constructor
 · rintro⟨a,ha,rfl⟩
   have:=List.mem_range.1 ha
   omega
 · rintro⟨h1,h2⟩
   exact⟨k-least,List.mem_range.2 (by omega),by omega⟩
theorem fromTo_pw (least lo:Nat):(fromTo least lo).Pairwise (· < ·):=by
 unfold fromTo
 rw [List.pairwise_map]
 exact(List.pairwise_lt_range (n:=lo+1-least)).imp (by omega)
theorem stepV_chosen {least:Nat}(hl:0<least)(rest:List Val3)(lo:Nat):Chosen (val2 (rest.headD default)) (candV rest) (fromTo least lo) (stepV least rest lo):=by
 have:=chosen_fold rest (val2 (rest.headD default)) (fromTo least lo) [] ((rest.headD default).1,(rest.headD default).2.1,0) (fun k hk=>by have:=fromTo_mem.1 hk; omega) (fun a ha=>by cases ha) (fromTo_pw _ _) ⟨by rw [betV_iff]; simp only [val2]; omega,(fun k hk=>by cases hk),fun _=>rfl,fun h=>absurd rfl h,(fun k hk=>by cases hk)⟩
 exact this
theorem valA_cons (least lo:Nat)(los:List Nat):valA least (lo::los)=stepV least (dpL least los) lo:=rfl
def Fit :List Nat->Prop
 | []=>True
 |lo::los=>lo<=los.length+1/\Fit los
theorem fit_longs (ts:List Text):∀ l:List Lexeme,Fit (longsN ts l)
 | []=>trivial
 |w::l=>⟨by have:=longW_le ts (w::l); simpa using this,fit_longs ts l⟩
theorem fit_drop :∀ {los:List Nat} (k:Nat),Fit los->Fit (los.drop k)
 |los,0,h=>by simpa using h
 | [],k+1,h=>by simpa using h
 |lo::los,k+1,h=>by rw [List.drop_succ_cons]; exact fit_drop k h.2
theorem cand_eq {least:Nat}{los:List Nat}{k:Nat}(h0:0<k)(hk:k<=los.length+1):candV (dpL least los) k=((valA least (los.drop (k-1))).1+k,(valA least (los.drop (k-1))).2.1+1,k):=by
 unfold candV
 rw [dpL_get least los (k-1) (by omega)]
theorem valA_mono {least:Nat}(hl:0<least):∀(los:List Nat) (k:Nat),¬betV (val2 (valA least (los.drop k))) (val2 (valA least los))=true
 |los,0=>by rw [List.drop_zero,betV_iff]; omega
 | [],k+1=>by rw [List.drop_nil,betV_iff]; omega
 | lo::los,k+1=>by
   rw [List.drop_succ_cons]
   have h1:=valA_mono hl los k
   have h2:=(stepV_chosen hl (dpL least los) lo).ge0
   rw [<- valA_cons]at h2
   have e:(dpL least los).headD default=valA least los:=rfl
   rw [e]at h2
   rw [betV_iff]at h1 h2 ⊢
   simp only [val2]at h1 h2 ⊢
   omega
theorem valA_nn {least:Nat}(hl:0<least)(los:List Nat):¬betV (0,0) (val2 (valA least los))=true:=by
 have:=valA_mono hl los los.length
 rw [List.drop_length]at this
 exact this
theorem cut_val {least:Nat}(hl:0<least):∀(los:List Nat) (i s:Nat),Fit los->s<=los.length->(((cutL i s ((dpL least los).map fun v=>v.2.2)).map fun p=>p.2).sum:Int)=(valA least (los.drop s)).1/\((cutL i s ((dpL least los).map fun v=>v.2.2)).length:Int)=(valA least (los.drop s)).2.1
 | [],i,0,_,_=>by simp [dpL,cutL,valA]
 | [],i,s+1,_,h=>by simp at h
 | lo::los,i,s+1,hf,h=>by
   rw [dpL,List.map_cons,cutL,List.drop_succ_cons]
   exact cut_val hl los (i+1) s hf.2 (by simpa using h)
 | lo::los,i,0,hf,h=>by
   have C:=stepV_chosen hl (dpL least los) lo
   rw [List.drop_zero,valA_cons,dpL,List.map_cons]
   generalize hv:stepV least (dpL least los) lo=v at C ⊢
   cases hz:v.2.2 with
   | zero=>
     rw [cutL]
     have h1:=C.len0 hz
     have e:(dpL least los).headD default=valA least los:=rfl
     rw [e]at h1
     have h2:=cut_val hl los (i+1) 0 hf.2 (by omega)
     rw [List.drop_zero]at h2
     have h3:=congrArg Prod.fst h1; have h4:=congrArg Prod.snd h1
     simp only [val2]at h3 h4
     rw [h3,h4]; exact h2
   | succ k=>
     rw [cutL]
     obtain⟨h1,h2⟩:=C.len1 (by omega)
     rw [hz]at h1 h2
     have h3:=fromTo_mem.1 h1
     have h4:=hf.1
     rw [cand_eq (by omega) (by omega)]at h2
     obtain⟨i1,i2⟩:=cut_val hl los (i+1) k hf.2 (by omega)
     rw [h2]
     simp only [List.map_cons,List.sum_cons,List.length_cons,show k+1-1=k by omega]
     constructor<;>omega
theorem cut_mem {least:Nat}(hl:0<least):∀(los:List Nat) (i s:Nat),Fit los->s<=los.length->(∀ p∈cutL i s ((dpL least los).map fun v=>v.2.2),i+s<=p.1/\p.1<i+los.length/\least<=p.2/\p.2<=los.getD (p.1-i) 0)/\(cutL i s ((dpL least los).map fun v=>v.2.2)).Pairwise (fun a b=>a.1+a.2<=b.1)
 | [],i,0,_,_=>by simp [dpL,cutL]
 | [],i,s+1,_,h=>by simp at h
 | lo::los,i,s+1,hf,h=>by
   rw [dpL,List.map_cons,cutL]
   obtain⟨h1,h2⟩:=cut_mem hl los (i+1) s hf.2 (by simpa using h)
   refine⟨fun p hp=>?_,h2⟩
   obtain⟨k1,k2,k3,k4⟩:=h1 p hp
   refine⟨by omega,by simp; omega,k3,?_⟩
   rw [show p.1-i=(p.1-(i+1))+1 by omega,List.getD_cons_succ]
   exact k4
 | lo :: los,i,0,hf,h=>by
   have C:=stepV_chosen hl (dpL least los) lo
   rw [dpL,List.map_cons]
   generalize hv:stepV least (dpL least los) lo=v at C ⊢
   cases hz:v.2.2 with
   | zero=>
     rw [cutL]
     obtain⟨h1,h2⟩:=cut_mem hl los (i+1) 0 hf.2 (by omega)
     refine⟨fun p hp=>?_,h2⟩
     obtain⟨k1,k2,k3,k4⟩:=h1 p hp
     refine⟨by omega,by simp; omega,k3,?_⟩
     rw [show p.1-i=(p.1-(i+1))+1 by omega,List.getD_cons_succ]
     exact k4
   | succ k=>
     rw [cutL]
     obtain⟨h1,h2⟩:=C.len1 (by omega)
     rw [hz]at h1 h2
     have h3:=fromTo_mem.1 h1
     have h4:=hf.1
     obtain⟨i1,i2⟩:=cut_mem hl los (i+1) k hf.2 (by omega)
     refine⟨fun p hp=>?_,List.pairwise_cons.2 ⟨fun p hp=>?_,i2⟩⟩
     · rcases List.mem_cons.1 hp with rfl|hp
       · refine⟨by omega,by simp,h3.1,?_⟩
         simp only [Nat.sub_self,List.getD_cons_zero]
         exact h3.2
       · obtain⟨k1,k2,k3,k4⟩:=i1 p hp
         refine⟨by omega,by simp; omega,k3,?_⟩
         rw [show p.1-i=(p.1-(i+1))+1 by omega,List.getD_cons_succ]
         exact k4
     · obtain⟨k1,_⟩:=i1 p hp
       simp only
       omega
end Go.Lic
set_option linter.all false
namespace Go.Lic
open Go.Proofs Go.Sort Go.Shelf
theorem hash_texts :∀(a b:List Lexeme) (h:Int),a.map (fun x=>x.text)=b.map (fun x=>x.text)->a.foldl (fun h w=>pushF h w.text) h=b.foldl (fun h w=>pushF h w.text) h
 | [],[],_,_=>rfl
 | x::a,y::b,h,e=>by
   simp only [List.map_cons,List.cons.injEq]at e
   simp only [List.foldl_cons]
   rw [e.1]; exact hash_texts a b _ e.2
 | [],_::_,_,e=>by simp at e
 |_::_,[],_,e=>by simp at e
theorem grams_at {l:List Lexeme}{k i:Nat}(h:i+k<=l.length):gi (gramsL l k) (i:Int)=hashF ((l.drop i).take k):=by
 rw [gi_nat (by rw [grams_len]; omega)]; simp [gramsL]
theorem common_map :∀(a b:List Lexeme) (n:Nat),n<=zba a b->(a.take n).map (fun x=>x.text)=(b.take n).map (fun x=>x.text)
 |_,_,0,_=>by simp
 | [],_,n+1,h=>by simp [zba]at h
 |_::_,[],n+1,h=>by simp [zba]at h
 | x::a,y::b,n+1,h=>by
   simp only [zba]at h
   split at h
   · next e=>simp only [List.take_succ_cons,List.map_cons,e,common_map a b n (by omega)]
   · omega
theorem guarantee {a b:List Lexeme}{k w i j:Nat}(hk:0<k)(hw:0<w)(hi:i<=a.length)(hj:j<=b.length)(h:k+w-1<=zba (a.drop i) (b.drop j)):∃(d:Nat) (g:Int),d<w/\(⟨g,(i:Int)+d⟩:Print)∈printsL a k w/\(⟨g,(j:Int)+d⟩:Print)∈printsL b k w:=by
 obtain⟨c1,c2⟩:=common_le (a.drop i) (b.drop j)
 rw [List.length_drop]at c1 c2
 have hg:∀ d:Nat,d<w->gi (gramsL a k) ((i:Int)+d)=gi (gramsL b k) ((j:Int)+d):=fun d hd=>by
   rw [show(i:Int)+d=((i+d:Nat):Int) by omega,show(j:Int)+d=((j+d:Nat):Int) by omega,grams_at (by omega),grams_at (by omega)]
   refine hash_texts _ _ _ ?_
   have e:=congrArg (fun l=>(l.drop d).take k) (common_map _ _ _ h)
   simp only [List.map_take,List.map_drop,List.drop_take,List.take_take,List.drop_drop]at e
   rw [Nat.min_eq_left (by omega)]at e
   simpa [List.map_take,List.map_drop]using e
 have h1:=leastF_spec (l:=gramsL a k) (show(i:Int)<(i:Int)+w by omega)
 obtain⟨m,hm⟩:∃ m,m=leastF (gramsL a k) (i:Int) ((i:Int)+w):=⟨_,rfl⟩
 rw [<- hm]at h1
 obtain⟨d,hd⟩:∃ d:Nat,m=(i:Int)+d:=⟨(m-i).toNat,by have:=h1.1; omega⟩
 subst hd
 have hdw:d<w:=by have:=h1.2.1; omega
 have h2:IsL (gramsL b k) (j:Int) ((j:Int)+w) ((j:Int)+d):=⟨by omega,by omega,fun x x1 x2=>by
     obtain⟨e,rfl⟩:∃ e:Nat,x=(j:Int)+e:=⟨(x-j).toNat,by omega⟩
     rw [<- hg d hdw,<-hg e (by omega)]; exact h1.2.2.1 _ (by omega) (by omega),fun x x1 x2=>by
     obtain⟨e,rfl⟩:∃ e:Nat,x=(j:Int)+e:=⟨(x-j).toNat,by omega⟩
     rw [<- hg d hdw,<-hg e (by omega)]; exact h1.2.2.2 _ (by omega) (by omega)⟩
 refine⟨d,gi (gramsL a k) ((i:Int)+d),hdw,?_,?_⟩
 · unfold printsL
   rw [List.mem_map]
   exact⟨_,(selL_mem hw).2 ⟨i,by rw [grams_len]; omega,h1⟩,rfl⟩
 · unfold printsL
   rw [List.mem_map]
   exact⟨_,(selL_mem hw).2 ⟨j,by rw [grams_len]; omega,h2⟩,by rw [hg d hdw]⟩
end Go.Lic
set_option linter.all false
namespace Go.Lic
open Go.Proofs Go.Sort Go.Shelf
section
variable {U T:Type} [DecidableEq U]
theorem kget_set (d:T)(k k':U)(v:T):∀ l:List (U×T),kget d (kset l k v) k'=if k=k' then v else kget d l k'
 | []=>by simp [kset,kget]
 | p ::l=>by
   by_cases h:p.1=k
   · simp only [kset,if_pos h,kget]
     by_cases h2:k=k'
     · simp [h2]
     · rw [if_neg h2,if_neg h2,if_neg (by rw [h]; exact h2)]
   · simp only [kset,if_neg h,kget,kget_set d k k' v l]
     by_cases h2:p.1=k'
     · rw [if_pos h2,if_pos h2,if_neg (by rw [<- h2]; exact fun e=>h e.symm)]
     · rw [if_neg h2,if_neg h2]
theorem kset_keys (k:U)(v:T):∀ l:List (U×T),(kset l k v).map (·.1)=if k∈l.map (·.1)then l.map (·.1)else l.map (·.1)++ [k]
 | []=>by simp [kset]
 | p ::l=>by
   by_cases h:p.1=k
   · subst h; simp [kset]
   · simp only [kset,if_neg h,List.map_cons,kset_keys k v l,List.mem_cons]
     by_cases h2:k∈l.map (·.1)
     · simp [h2]
     · have:¬(k=p.1\/k∈l.map (·.1)):=fun e=>e.elim (fun e=>h e.symm) h2
       rw [if_neg h2,if_neg this]; rfl
theorem kset_nd {k:U}{v:T}{l:List (U×T)}(h:(l.map (·.1)).Nodup):((kset l k v).map (·.1)).Nodup:=by
 rw [kset_keys]
 split
 · exact h
 · next hk=>
   rw [List.nodup_append]
   exact⟨h,by simp,fun a ha b hb=>by simp at hb; subst hb; exact fun e=>hk (e▸ha)⟩
theorem kset_mem {k c:U}{v:T}{l:List (U×T)}:c∈(kset l k v).map (·.1)↔c∈l.map (·.1)\/c=k:=by
 rw [kset_keys]
 split
 · next hk=>exact⟨.inl,fun h=>h.elim id (fun e=>e▸hk)⟩
 · simp
end
theorem mget_set {T:Type}(d:T)(k k':Int)(v:T):∀ l:List (Int×T),mget d (mset l k v) k'=if k=k' then v else mget d l k'
 | []=>by simp [mset,mget]
 | p ::l=>by
   by_cases h:p.1=k
   · simp only [mset,if_pos h,mget]
     by_cases h2:k=k'
     · simp [h2]
     · rw [if_neg h2,if_neg h2,if_neg (by rw [h]; exact h2)]
   · simp only [mset,if_neg h,mget,mget_set d k k' v l]
     by_cases h2:p.1=k'
     · rw [if_pos h2,if_pos h2,if_neg (by rw [<- h2]; exact fun e=>h e.symm)]
     · rw [if_neg h2,if_neg h2]
theorem mset_keys {T:Type}(k:Int)(v:T):∀ l:List (Int×T),(mset l k v).map (·.1)=if k∈l.map (·.1)then l.map (·.1)else l.map (·.1)++ [k]
 | []=>by simp [mset]
 | p ::l=>by
   by_cases h:p.1=k
   · subst h; simp [mset]
   · simp only [mset,if_neg h,List.map_cons,mset_keys k v l,List.mem_cons]
     by_cases h2:k∈l.map (·.1)
     · simp [h2]
     · have:¬(k=p.1\/k∈l.map (·.1)):=fun e=>e.elim (fun e=>h e.symm) h2
       rw [if_neg h2,if_neg this]; rfl
theorem mset_nd {T:Type}{k:Int}{v:T}{l:List (Int×T)}(h:mnd l):mnd (mset l k v):=by
 unfold mnd at*
 rw [mset_keys]
 split
 · exact h
 · next hk=>
   rw [List.nodup_append]
   exact⟨h,by simp,fun a ha b hb=>by simp at hb; subst hb; exact fun e=>hk (e▸ha)⟩
theorem places_acc :∀(l:List Pst) (m:List (Int×List ClonePlace)) (h:Int),mget [] (l.foldl putP m) h=mget [] m h++(l.filter fun p=>decide (p.hash=h)).map plOf
 | [],m,h=>by simp
 | p::l,m,h=>by
   rw [List.foldl_cons,places_acc l,putP,mget_set]
   by_cases e:p.hash=h
   · simp [e]
   · simp [e]
theorem places_get (l:List Pst)(h:Int):mget [] (placesF l) h=(l.filter fun p=>decide (p.hash=h)).map plOf:=by
 rw [placesF,places_acc]; simp [mget]
theorem places_nd_acc :∀(l:List Pst) (m:List (Int×List ClonePlace)),mnd m->mnd (l.foldl putP m)
 | [],_,h=>h
 |p::l,m,h=>places_nd_acc l _ (mset_nd h)
theorem places_nd (l:List Pst):mnd (placesF l):=places_nd_acc l [] (by simp [mnd])
theorem places_snoc (l:List Pst)(p:Pst):placesF (l++ [p])=putP (placesF l) p:=by simp [placesF]
theorem places_len (l:List Pst)(h:Int):(mget [] (placesF l) h).length<=l.length:=by
 rw [places_get,List.length_map]; exact List.length_filter_le _ _
def eqAt (A B:List Lexeme)(i j:Nat):Prop:=∃ x y,A[i]? =some x/\B[j]? =some y/\x.text=y.text
theorem common_lt :∀ {a b:List Lexeme} {s:Nat},s<zba a b->eqAt a b s s
 | [],_,_,h=>by simp [zba]at h
 |_::_,[],_,h=>by simp [zba]at h
 | x ::a,y::b,s,h=>by
   simp only [zba]at h
   split at h
   · next e=>
     cases s with
     |zero=>exact⟨x,y,rfl,rfl,e⟩
     |succ s=>obtain⟨u,v,h1,h2,h3⟩:=common_lt (a:=a) (b:=b) (s:=s) (by omega); exact⟨u,v,by simpa using h1,by simpa using h2,h3⟩
   · omega
theorem common_end :∀ {a b:List Lexeme},¬eqAt a b (zba a b) (zba a b)
 | [],_=>fun⟨_,_,h,_⟩=>by simp at h
 |_::_,[]=>fun⟨_,_,_,h,_⟩=>by simp at h
 | x ::a,y::b=>by
   simp only [zba]
   split
   · next e=>
     intro ⟨u,v,h1,h2,h3⟩
     exact common_end (a:=a) (b:=b) ⟨u,v,by simpa using h1,by simpa using h2,h3⟩
   · next e=>
     intro ⟨u,v,h1,h2,h3⟩
     simp at h1 h2; subst h1; subst h2; exact e h3
theorem common_uniq {a b:List Lexeme}{t:Nat}(h1:∀ s,s<t->eqAt a b s s)(h2:¬eqAt a b t t):zba a b=t:=by
 rcases Nat.lt_trichotomy (zba a b) t with h|h|h
 · exact absurd (h1 _ h) common_end
 · exact h
 · exact absurd (common_lt h) h2
section
variable {A B:List Lexeme}
theorem eqAt_drop {i j s:Nat}:eqAt (A.drop i) (B.drop j) s s↔eqAt A B (i+s) (j+s):=by simp [eqAt,List.getElem?_drop]
theorem eqAt_rev {i j s:Nat}(hi:i<=A.length)(hj:j<=B.length):eqAt (A.take i).reverse (B.take j).reverse s s↔s<i/\s<j/\eqAt A B (i-1-s) (j-1-s):=by
 have key:∀(A:List Lexeme) (i:Nat),i<=A.length->∀ x,(A.take i).reverse[s]? =some x↔s<i/\A[i-1-s]? =some x:=fun A i hi x=>by
   have hl:(A.take i).length=i:=by simp; omega
   by_cases h:s<i
   · rw [List.getElem?_reverse (by omega),hl,List.getElem?_take_of_lt (by omega)]; simp [h]
   · rw [List.getElem?_eq_none (by simp; omega)]; simp [h]
 constructor
 · rintro⟨x,y,h1,h2,h3⟩
   have h1:=(key A i hi x).1 h1; have h2:=(key B j hj y).1 h2
   exact⟨h1.1,h2.1,x,y,h1.2,h2.2,h3⟩
 · rintro⟨h1,h2,x,y,h3,h4,h5⟩
   exact⟨x,y,(key A i hi x).2 ⟨h1,h3⟩,(key B j hj y).2 ⟨h2,h4⟩,h5⟩
theorem eqAt_lt {i j:Nat}(h:eqAt A B i j):i<A.length/\j<B.length:=by
 obtain⟨x,y,h1,h2,_⟩:=h
 exact⟨(List.getElem?_eq_some_iff.1 h1).1,(List.getElem?_eq_some_iff.1 h2).1⟩
theorem toN_lt {i j s:Nat}(h:s<toN A B i j):eqAt A B (i+s) (j+s):=eqAt_drop.1 (common_lt h)
theorem toN_end {i j:Nat}:¬eqAt A B (i+toN A B i j) (j+toN A B i j):=fun h=>common_end (eqAt_drop.2 h)
theorem toN_uniq {i j t:Nat}(h1:∀ s,s<t->eqAt A B (i+s) (j+s))(h2:¬eqAt A B (i+t) (j+t)):toN A B i j=t:=
 common_uniq (fun s hs=>eqAt_drop.2 (h1 s hs)) (fun h=>h2 (eqAt_drop.1 h))
theorem backN_lt {i j s:Nat}(hi:i<=A.length)(hj:j<=B.length)(h:s<backN A B i j):s<i/\s<j/\eqAt A B (i-1-s) (j-1-s):=(eqAt_rev hi hj).1 (common_lt h)
theorem backN_end {i j:Nat}(hi:i<=A.length)(hj:j<=B.length)(h1:backN A B i j<i)(h2:backN A B i j<j):¬eqAt A B (i-1-backN A B i j) (j-1-backN A B i j):=fun h=>common_end ((eqAt_rev hi hj).2 ⟨h1,h2,h⟩)
theorem backN_le {i j:Nat}(hi:i<=A.length)(hj:j<=B.length):backN A B i j<=i/\backN A B i j<=j:=by
 rcases Nat.eq_zero_or_pos (backN A B i j)with h|h
 · omega
 · have:=backN_lt hi hj (s:=backN A B i j-1) (by omega); omega
def preN (A B:List Lexeme)(i j:Nat):Prop:=0<i/\0<j/\eqAt A B (i-1) (j-1)
theorem run_start {p q:Nat}(ht:0<toN A B p q):p<A.length/\q<B.length/\backN A B p q<=p/\backN A B p q<=q/\¬preN A B (p-backN A B p q) (q-backN A B p q)/\toN A B (p-backN A B p q) (q-backN A B p q)=backN A B p q+toN A B p q:=by
 obtain⟨h1,h2⟩:=eqAt_lt (toN_lt ht)
 simp only [Nat.add_zero]at h1 h2
 obtain⟨h3,h4⟩:=backN_le (A:=A) (B:=B) (i:=p) (j:=q) (by omega) (by omega)
 refine⟨h1,h2,h3,h4,fun⟨g1,g2,g3⟩=>?_,toN_uniq (fun s hs=>?_) ?_⟩
 · refine backN_end (A:=A) (B:=B) (i:=p) (j:=q) (by omega) (by omega) (by omega) (by omega) ?_
   rwa [show p-backN A B p q-1=p-1-backN A B p q by omega,show q-backN A B p q-1=q-1-backN A B p q by omega]at g3
 · by_cases hb:s<backN A B p q
   · have:=(backN_lt (A:=A) (B:=B) (i:=p) (j:=q) (s:=backN A B p q-1-s) (by omega) (by omega) (by omega)).2.2
     rwa [show p-1-(backN A B p q-1-s)=p-backN A B p q+s by omega,show q-1-(backN A B p q-1-s)=q-backN A B p q+s by omega]at this
   · have:=toN_lt (A:=A) (B:=B) (i:=p) (j:=q) (s:=s-backN A B p q) (by omega)
     rwa [show p+(s-backN A B p q)=p-backN A B p q+s by omega,show q+(s-backN A B p q)=q-backN A B p q+s by omega]at this
 · have:=toN_end (A:=A) (B:=B) (i:=p) (j:=q)
   rwa [show p-backN A B p q+(backN A B p q+toN A B p q)=p+toN A B p q by omega,show q-backN A B p q+(backN A B p q+toN A B p q)=q+toN A B p q by omega]
theorem run_at {i j d:Nat}(hp:¬preN A B i j)(hd:d<toN A B i j):toN A B (i+d) (j+d)=toN A B i j-d/\backN A B (i+d) (j+d)=d:=by
 refine⟨toN_uniq (fun s hs=>?_) ?_,?_⟩
 · have:=toN_lt (A:=A) (B:=B) (i:=i) (j:=j) (s:=d+s) (by omega)
   rwa [<- Nat.add_assoc,<-Nat.add_assoc]at this
 · have:=toN_end (A:=A) (B:=B) (i:=i) (j:=j)
   rwa [show i+d+(toN A B i j-d)=i+toN A B i j by omega,show j+d+(toN A B i j-d)=j+toN A B i j by omega]
 · obtain⟨l1,l2⟩:=eqAt_lt (toN_lt hd)
   rcases Nat.lt_trichotomy (backN A B (i+d) (j+d)) d with h|h|h
   · have h1:=backN_end (A:=A) (B:=B) (i:=i+d) (j:=j+d) (by omega) (by omega) (by omega) (by omega)
     have h2:=toN_lt (A:=A) (B:=B) (i:=i) (j:=j) (s:=d-1-backN A B (i+d) (j+d)) (by omega)
     rw [show i+(d-1-backN A B (i+d) (j+d))=i+d-1-backN A B (i+d) (j+d) by omega,show j+(d-1-backN A B (i+d) (j+d))=j+d-1-backN A B (i+d) (j+d) by omega]at h2
     exact absurd h2 h1
   · exact h
   · obtain⟨h1,h2,h3⟩:=backN_lt (A:=A) (B:=B) (i:=i+d) (j:=j+d) (by omega) (by omega) h
     rw [show i+d-1-d=i-1 by omega,show j+d-1-d=j-1 by omega]at h3
     exact absurd ⟨by omega,by omega,h3⟩ hp
end
theorem sameW_pre (a b:Text)(i j:Nat):sameW a ((i:Int)-1) b ((j:Int)-1)=true↔preN a.words b.words i j:=by
 simp only [sameW,Bool.and_eq_true,decide_eq_true_eq,preN,eqAt]
 constructor
 · rintro⟨⟨⟨⟨h1,h2⟩,h3⟩,h4⟩,h5⟩
   refine⟨by omega,by omega,a.words[i-1],b.words[j-1],List.getElem?_eq_getElem (by omega),List.getElem?_eq_getElem (by omega),?_⟩
   rw [show(i:Int)-1=((i-1:Nat):Int) by omega,show(j:Int)-1=((j-1:Nat):Int) by omega,gi_nat (by omega),gi_nat (by omega)]at h5
   exact h5
 · rintro⟨h1,h2,x,y,h3,h4,h5⟩
   obtain⟨l1,e1⟩:=List.getElem?_eq_some_iff.1 h3
   obtain⟨l2,e2⟩:=List.getElem?_eq_some_iff.1 h4
   refine⟨⟨⟨⟨by omega,by omega⟩,by omega⟩,by omega⟩,?_⟩
   rw [show(i:Int)-1=((i-1:Nat):Int) by omega,show(j:Int)-1=((j-1:Nat):Int) by omega,gi_nat (by omega),gi_nat (by omega),e1,e2]
   exact h5
theorem lenC_pos {a b:Text}{i j:Nat}(h:0<lenC a i b j):¬preN a.words b.words i j/\lenC a i b j=(toN a.words b.words i j:Nat):=by
 unfold lenC at*
 split at h
 · omega
 · next hs=>
   rw [if_neg hs]
   exact⟨fun hp=>hs ((sameW_pre a b i j).2 hp),by simp⟩
theorem lenC_of {a b:Text}{i j:Nat}(h:¬preN a.words b.words i j):lenC a i b j=(toN a.words b.words i j:Nat):=by
 unfold lenC
 rw [if_neg (fun hs=>h ((sameW_pre a b i j).1 hs))]; simp
theorem mem_pair {l:List Text}{a b:Nat}{i:Nat}{n:Int}{c:Clone}:c∈pairF l a i b n↔∃ j:Nat,j<(gi l (b:Nat)).words.length/\(a≠b\/i<j)/\n<=lenC (gi l (a:Nat)) i (gi l (b:Nat)) j/\c=⟨a,i,b,j,lenC (gi l (a:Nat)) i (gi l (b:Nat)) j⟩:=by
 simp only [pairF,List.mem_map,List.mem_filter,List.mem_range,Bool.and_eq_true,Bool.or_eq_true,decide_eq_true_eq]
 constructor
 · rintro⟨j,⟨h1,h2,h3⟩,rfl⟩; exact⟨j,h1,by omega,h3,rfl⟩
 · rintro⟨j,h1,h2,h3,rfl⟩; exact⟨j,⟨h1,by omega,h3⟩,rfl⟩
theorem mem_ref {l:List Text}{n only:Int}{c:Clone}:c∈refL l n only↔∃ a i b j:Nat,a<l.length/\i<(gi l (a:Nat)).words.length/\b<l.length/\okB only a b=true/\j<(gi l (b:Nat)).words.length/\(a≠b\/i<j)/\n<=lenC (gi l (a:Nat)) i (gi l (b:Nat)) j/\c=⟨a,i,b,j,lenC (gi l (a:Nat)) i (gi l (b:Nat)) j⟩:=by
 simp only [refL,List.mem_flatMap,List.mem_range,List.mem_filter,mem_pair]
 constructor
 · rintro⟨a,h1,i,h2,b,⟨h3,h4⟩,j,h5,h6,h7,h8⟩; exact⟨a,i,b,j,h1,h2,h3,h4,h5,h6,h7,h8⟩
 · rintro⟨a,i,b,j,h1,h2,h3,h4,h5,h6,h7,h8⟩; exact⟨a,h1,i,h2,b,⟨h3,h4⟩,j,h5,h6,h7,h8⟩
def CLt (x y:Clone):Prop:=x.a<y.a\/(x.a=y.a/\(x.atA<y.atA\/(x.atA=y.atA/\(x.b<y.b\/(x.b=y.b/\x.atB<y.atB)))))
theorem orF4 (x y z u:Int):orF [x,y,z,u]=if x≠0 then x else if y≠0 then y else if z≠0 then z else u:=by
 unfold orF
 by_cases h1:x=0
 · by_cases h2:y=0
   · by_cases h3:z=0
     · by_cases h4:u=0<;>simp [h1,h2,h3,h4]
     · simp [h1,h2,h3]
   · simp [h1,h2]
 · simp [h1]
theorem cloneCmp_neg (a b:Clone):zbp a b<0↔CLt a b:=by
 unfold CLt zbp
 rw [orF4]
 have h1:=cmpI_neg a.a b.a; have h2:=cmpI_zero a.a b.a
 have h3:=cmpI_neg a.atA b.atA; have h4:=cmpI_zero a.atA b.atA
 have h5:=cmpI_neg a.b b.b; have h6:=cmpI_zero a.b b.b
 have h7:=cmpI_neg a.atB b.atB
 generalize cmpI a.a b.a=x at*
 generalize cmpI a.atA b.atA=y at*
 generalize cmpI a.b b.b=z at*
 generalize cmpI a.atB b.atB=u at*
 split
 · omega
 · split
   · omega
   · split<;>omega
theorem zaf :SWO (ltOf zbp):=by
 have h1:∀ a b,ltOf zbp a b=true↔CLt a b:=fun a b=>by unfold ltOf; rw [decide_eq_true_eq]; exact cloneCmp_neg a b
 have h2:∀ a b,ltOf zbp a b=false↔¬CLt a b:=fun a b=>by rw [<- h1]; simp
 exact {irrefl:=fun a=>(h2 _ _).2 (by unfold CLt; omega),trans:=fun a b c k1 k2=>(h1 _ _).2 (by have:=(h1 _ _).1 k1; have:=(h1 _ _).1 k2; unfold CLt at *; omega),ntrans:=fun a b c k1 k2=>(h2 _ _).2 (by have:=(h2 _ _).1 k1; have:=(h2 _ _).1 k2; unfold CLt at *; omega)}
theorem range_lt (n:Nat):(List.range n).Pairwise (· < ·):=List.pairwise_lt_range
theorem pair_sorted (l:List Text)(a b:Nat)(i:Nat)(n:Int):(pairF l a i b n).Pairwise CLt:=by
 unfold pairF
 rw [List.pairwise_map]
 refine((range_lt _).filter _).imp ?_
 intro x y h
 unfold CLt; simp; omega
theorem ref_sorted (l:List Text)(n only:Int):(refL l n only).Pairwise CLt:=by
 unfold refL
 rw [List.pairwise_flatMap]
 refine⟨fun a _=>?_,(range_lt _).imp fun {x y} hxy u hu v hv=>?_⟩
 · rw [List.pairwise_flatMap]
   refine⟨fun i _=>?_,(range_lt _).imp fun {x y} hxy u hu v hv=>?_⟩
   · rw [List.pairwise_flatMap]
     refine⟨fun b _=>pair_sorted l a b i n,((range_lt _).filter _).imp fun {x y} hxy u hu v hv=>?_⟩
     obtain⟨_,_,_,_,rfl⟩:=mem_pair.1 hu
     obtain⟨_,_,_,_,rfl⟩:=mem_pair.1 hv
     unfold CLt; simp; omega
   · simp only [List.mem_flatMap]at hu hv
     obtain⟨_,_,hu⟩:=hu; obtain⟨_,_,hv⟩:=hv
     obtain⟨_,_,_,_,rfl⟩:=mem_pair.1 hu
     obtain⟨_,_,_,_,rfl⟩:=mem_pair.1 hv
     unfold CLt; simp; omega
 · simp only [List.mem_flatMap]at hu hv
   obtain⟨_,_,_,_,hu⟩:=hu; obtain⟨_,_,_,_,hv⟩:=hv
   obtain⟨_,_,_,_,rfl⟩:=mem_pair.1 hu
   obtain⟨_,_,_,_,rfl⟩:=mem_pair.1 hv
   unfold CLt; simp; omega
theorem ref_nodup (l:List Text)(n only:Int):(refL l n only).Nodup:=(ref_sorted l n only).imp fun h e=>by subst e; unfold CLt at h; omega
theorem nodup_leK {T:Type} [DecidableEq T]:∀ {a b:List T},a.Nodup->(∀ x∈a,x∈b)->a.length<=b.length
 | [],_,_,_=>by simp
 | x::a,b,hn,hs=>by
   obtain⟨h1,h2⟩:=List.nodup_cons.1 hn
   have hx:=hs x (by simp)
   have:=nodup_leK (a:=a) (b:=b.erase x) h2 (fun y hy=>(List.mem_erase_of_ne (fun e:y=x=>h1 (by rw [<- e]; exact hy))).2 (hs y (List.mem_cons_of_mem _ hy)))
   rw [List.length_erase_of_mem hx]at this
   have:0<b.length:=List.length_pos_of_mem hx
   simp; omega
theorem ext_sorted {T:Type}{lt:T->T->Prop}(asym:∀ x y,lt x y->¬lt y x):∀ {a b:List T},a.Pairwise lt->b.Pairwise lt->(∀ x,x∈a↔x∈b)->a=b
 | [],[],_,_,_=>rfl
 | [],y::b,_,_,h=>by have:=(h y).2 (by simp); simp at this
 |x::a,[],_,_,h=>by have:=(h x).1 (by simp); simp at this
 | x ::a,y::b,ha,hb,h=>by
   obtain⟨ha1,ha2⟩:=List.pairwise_cons.1 ha
   obtain⟨hb1,hb2⟩:=List.pairwise_cons.1 hb
   have irr:∀ x,¬lt x x:=fun x hx=>asym x x hx hx
   have e:x=y:=by
     rcases List.mem_cons.1 ((h x).1 (by simp))with e|h1
     · exact e
     rcases List.mem_cons.1 ((h y).2 (by simp))with e|h2
     · exact e.symm
     exact absurd (hb1 x h1) (asym _ _ (ha1 y h2))
   subst e
   rw [ext_sorted asym ha2 hb2 (fun z=>⟨fun hz=>by
     rcases List.mem_cons.1 ((h z).1 (List.mem_cons_of_mem _ hz))with e|h1
     · subst e; exact absurd (ha1 _ hz) (irr _)
     · exact h1,fun hz=>by
     rcases List.mem_cons.1 ((h z).2 (List.mem_cons_of_mem _ hz))with e|h1
     · subst e; exact absurd (hb1 _ hz) (irr _)
     · exact h1⟩)]
theorem found_sorted {l:List Text}{n only:Int}{m:List Clone}(hn:m.Nodup)(hm:∀ c,c∈m↔c∈refL l n only):sortF zbp m=refL l n only:=by
 have hp:(sortF zbp m).Perm m:=sortF_perm zaf m
 have hs:=sortF_sorted zaf m
 have hlen:=zac zaf m
 generalize hS:sortF zbp m=S at*
 have hSm:∀ c,c∈S↔c∈refL l n only:=fun c=>hp.mem_iff.trans (hm c)
 have hSn:S.Nodup:=hp.nodup_iff.2 hn
 -- two clones of the list with the same places are the same
 have huniq:∀ x∈S,∀ y∈S,¬CLt x y->¬CLt y x->x=y:=fun x hx y hy h1 h2=>by
   obtain⟨a,i,b,j,_,_,_,_,_,_,_,rfl⟩:=mem_ref.1 ((hSm x).1 hx)
   obtain⟨a',i',b',j',_,_,_,_,_,_,_,rfl⟩:=mem_ref.1 ((hSm y).1 hy)
   unfold CLt at h1 h2
   simp only at h1 h2
   have e1:a=a':=by omega
   have e2:i=i':=by omega
   have e3:b=b':=by omega
   have e4:j=j':=by omega
   subst e1; subst e2; subst e3; subst e4; rfl
 have hSs:S.Pairwise CLt:=by
   rw [List.pairwise_iff_getElem]
   intro i j hi hj hij
   have h1:=hs i j hij (by rw [<- hlen]; exact hj)
   rw [getElem!_pos S i hi,getElem!_pos S j hj,cloneCmp_neg]at h1
   by_cases h2:CLt S[i] S[j]
   · exact h2
   · have e:=huniq _ (List.getElem_mem hi) _ (List.getElem_mem hj) h2 h1
     have:=(List.nodup_iff_pairwise_ne.1 hSn)
     rw [List.pairwise_iff_getElem]at this
     exact absurd e (this i j hi hj hij)
 have asym:∀ x y,CLt x y->¬CLt y x:=fun x y=>by unfold CLt; omega
 exact(ext_sorted asym hSs (ref_sorted l n only) hSm)
end Go.Lic
set_option linter.all false
namespace Go.Lic
open Go.Proofs Go.Sort Go.Shelf
end Go.Lic
set_option linter.all false
namespace Go.Lic
open Go.Proofs Go.Sort
def sortiC_L2 (data:(List Clone))(a:Int)(p:Clone->Clone->Int)(pD:Clone->Clone->Prop)(i:Int)(again1:Int->Prop)(again3:Unit->Prop):Prop:=
 ((i>a->inL i data.length/\inI (i-1)/\inL (i-1) data.length/\pD (gi data i) (gi data (i-1)))/\(((i>a/\(p (gi data i) (gi data (i-1)))<0)->False)/\((¬ i>a\/¬(p (gi data i) (gi data (i-1)))<0)->(inI (i+1)/\again1 (i+1)))))
def sortiC_L1 (data:(List Clone))(a:Int)(b:Int)(p:Clone->Clone->Int)(pD:Clone->Clone->Prop)(Q:Unit->Prop)(again1:Int->Prop)(i:Int):Prop:=
 ((i<b->lfp (S:=Unit) (fun again3 ss=>sortiC_L2 data a p pD i again1 again3) ())/\(¬ i<b->Q ()))
def sortiC_vc (data:(List Clone))(a:Int)(b:Int)(p:Clone->Clone->Int)(pD:Clone->Clone->Prop)(Q:Unit->Prop):Prop:=
 (inI (a+1)/\lfp (S:=Int) (fun again1 ss=>sortiC_L1 data a b p pD Q again1 ss) (a+1))
def sortpC_L1 (data:(List Clone))(a:Int)(b:Int)(limit:Int)(Q:Unit->Prop)(again1:Unit->Prop):Prop:=
 (inI (b-a)/\(((b-a)<=12->(data=([]:List Clone)/\a=(0:Int)/\b=(0:Int)/\Q ()))/\(¬(b-a)<=12->((limit=0->False)/\(¬ limit=0->False)))))
def sortpC_vc (data:(List Clone))(a:Int)(b:Int)(limit:Int)(p:Clone->Clone->Int)(pD:Clone->Clone->Prop)(Q:Unit->Prop):Prop:=
 lfp (S:=Unit) (fun again1 ss=>sortpC_L1 data a b limit Q again1) ()
def sort0C_vc (x:(List Clone))(p:Clone->Clone->Int)(pD:Clone->Clone->Prop)(Q:Unit->Prop):Prop:=
 ((0:Int)<=(IntKind.u64.wrap (x.length:Int))/\(IntKind.u64.wrap (x.length:Int))<=(18446744073709551615:Int)/\x=([]:List Clone)/\0=(0:Int)/\(x.length:Int)=(0:Int)/\Q ())
def kright_L1 (l:(List Text))(Q:Bool->Prop)(again2:Int->Prop)(x:Int):Prop:=
 ((x<(l.length:Int)->(inL x l.length/\(okT (gi l x)/\((zbi (gi l x))=true->(x>0->inI (x-1)/\inL (x-1) l.length))/\((((zbi (gi l x))=false\/(x>0/\(sless ((gi l x).path) ((gi l (x-1)).path)||decide ((gi l x).path=(gi l (x-1)).path))=true))->Q false)/\(((zbi (gi l x))=true/\(¬ x>0\/(sless ((gi l x).path) ((gi l (x-1)).path)||decide ((gi l x).path=(gi l (x-1)).path))=false))->(inI (x+1)/\again2 (x+1)))))))/\(¬ x<(l.length:Int)->Q true))
def kright_vc (l:(List Text))(Q:Bool->Prop):Prop:=
 (((l.length:Int)>64->Q false)/\(¬(l.length:Int)>64->lfp (S:=Int) (fun again2 ss=>kright_L1 l Q again2 ss) 0))
def kcompare_vc (a:Clone)(b:Clone)(Q:Int->Prop):Prop:=
 (([(cmpI a.a b.a),(cmpI a.atA b.atA),(cmpI a.b b.b),(cmpI a.atB b.atB)]:List Int).length<=9223372036854775807/\Q (orF ([(cmpI a.a b.a),(cmpI a.atA b.atA),(cmpI a.b b.b),(cmpI a.atB b.atB)]:List Int)))
def klook_L2 (texts:(List Text))(least:Int)(seen:(List (CloneDiagonal×Int)))(found:(List (Clone×Unit)))(x:ClonePlace)(y:ClonePlace)(to:Int)(Q:(List (CloneDiagonal×Int))×(List (Clone×Unit))->Prop)(again7:Int->Prop)(from_:Int):Prop:=
 ((((to>0/\x.at_>from_)/\y.at_>from_)->inI (x.at_-from_)/\inI ((x.at_-from_)-1)/\inL ((x.at_-from_)-1) ((gi texts x.text).words).length/\inI (y.at_-from_)/\inI ((y.at_-from_)-1)/\inL ((y.at_-from_)-1) ((gi texts y.text).words).length)/\(((((to>0/\x.at_>from_)/\y.at_>from_)/\(gi ((gi texts x.text).words) ((x.at_-from_)-1)).text=(gi ((gi texts y.text).words) ((y.at_-from_)-1)).text)->(inI (from_+1)/\again7 (from_+1)))/\((((¬ to>0\/¬x.at_>from_)\/¬y.at_>from_)\/¬(gi ((gi texts x.text).words) ((x.at_-from_)-1)).text=(gi ((gi texts y.text).words) ((y.at_-from_)-1)).text)->(inI (from_+to)/\((((from_+to)>=least/\to>0)->(inI (x.at_-from_)/\inI (y.at_-from_)/\inI (from_+to)/\Q ((kset seen (CloneDiagonal.mk x.text y.text (y.at_-x.at_)) (x.at_+(gmax to [1]))),(kset found (Clone.mk x.text (x.at_-from_) y.text (y.at_-from_) (from_+to)) ()))))/\((¬(from_+to)>=least\/¬to>0)->Q ((kset seen (CloneDiagonal.mk x.text y.text (y.at_-x.at_)) (x.at_+(gmax to [1]))),found)))))))
def klook_L1 (texts:(List Text))(least:Int)(seen:(List (CloneDiagonal×Int)))(found:(List (Clone×Unit)))(x:ClonePlace)(y:ClonePlace)(Q:(List (CloneDiagonal×Int))×(List (Clone×Unit))->Prop)(again5:Int->Prop)(to:Int):Prop:=
 (inI (x.at_+to)/\((x.at_+to)<(((gi texts x.text).words).length:Int)->inI (y.at_+to))/\(((x.at_+to)<(((gi texts x.text).words).length:Int)/\(y.at_+to)<(((gi texts y.text).words).length:Int))->inL (x.at_+to) ((gi texts x.text).words).length/\inI (y.at_+to)/\inL (y.at_+to) ((gi texts y.text).words).length)/\(((((x.at_+to)<(((gi texts x.text).words).length:Int)/\(y.at_+to)<(((gi texts y.text).words).length:Int))/\(gi ((gi texts x.text).words) (x.at_+to)).text=(gi ((gi texts y.text).words) (y.at_+to)).text)->(inI (to+1)/\again5 (to+1)))/\(((¬(x.at_+to)<(((gi texts x.text).words).length:Int)\/¬(y.at_+to)<(((gi texts y.text).words).length:Int))\/¬(gi ((gi texts x.text).words) (x.at_+to)).text=(gi ((gi texts y.text).words) (y.at_+to)).text)->(inI (x.at_+(gmax to [1]))/\lfp (S:=Int) (fun again7 ss=>klook_L2 texts least seen found x y to Q again7 ss) 0))))
def klook_vc (texts:(List Text))(least:Int)(seen:(List (CloneDiagonal×Int)))(found:(List (Clone×Unit)))(x:ClonePlace)(y:ClonePlace)(Q:(List (CloneDiagonal×Int))×(List (Clone×Unit))->Prop):Prop:=
 (inI (y.at_-x.at_)/\(((kget 0 seen (CloneDiagonal.mk x.text y.text (y.at_-x.at_)))>x.at_->Q (seen,found))/\(¬(kget 0 seen (CloneDiagonal.mk x.text y.text (y.at_-x.at_)))>x.at_->(inL x.text texts.length/\inL y.text texts.length/\lfp (S:=Int) (fun again5 ss=>klook_L1 texts least seen found x y Q again5 ss) 0))))
def kclones_L2 (texts:(List Text))(k:Int)(w:Int)(prints:(List (List Print)))(x:Int)(again6:(List (List Print))×(List (Int×List ClonePlace))×Int->Prop)(again9:(List (Int×List ClonePlace))×Int->Prop)(m_351:(List (Int×List ClonePlace)))(x1:Int):Prop:=
 ((x1<((gi (si prints x ((zak (gi texts x) k w).1)) x).length:Int)->(inL x1 (gi (si prints x ((zak (gi texts x) k w).1)) x).length/\((((mget [] m_351 ((gi (gi (si prints x ((zak (gi texts x) k w).1)) x) x1).hash)).length+([(ClonePlace.mk x ((gi (gi (si prints x ((zak (gi texts x) k w).1)) x) x1).at_))]:List ClonePlace).length)*16<=140737488355328/\(mget [] m_351 ((gi (gi (si prints x ((zak (gi texts x) k w).1)) x) x1).hash)).length+([(ClonePlace.mk x ((gi (gi (si prints x ((zak (gi texts x) k w).1)) x) x1).at_))]:List ClonePlace).length<=9223372036854775807)/\mnd m_351/\(inI (x1+1)/\again9 ((mset m_351 ((gi (gi (si prints x ((zak (gi texts x) k w).1)) x) x1).hash) ((mget [] m_351 ((gi (gi (si prints x ((zak (gi texts x) k w).1)) x) x1).hash))++([(ClonePlace.mk x ((gi (gi (si prints x ((zak (gi texts x) k w).1)) x) x1).at_))]:List ClonePlace))),(x1+1))))))/\(¬ x1<((gi (si prints x ((zak (gi texts x) k w).1)) x).length:Int)->(inI (x+1)/\again6 ((si prints x ((zak (gi texts x) k w).1)),m_351,(x+1)))))
def kclones_L5 (texts:(List Text))(k:Int)(w:Int)(only_:Int)(prints:(List (List Print)))(m_35:(List (Int×List ClonePlace)))(x2:Int)(x3:Int)(Q:(List Clone)×Int->Prop)(again174:(List (Clone×Unit))×(List (CloneDiagonal×Int))×Int->Prop)(again178:(List (Clone×Unit))×(List (CloneDiagonal×Int))×Int->Prop)(m_322:(List (Clone×Unit)))(m_312:(List (CloneDiagonal×Int)))(x4:Int):Prop:=
 ((x4<((mget [] m_35 ((gi (gi prints x2) x3).hash)).length:Int)->(inL x4 (mget [] m_35 ((gi (gi prints x2) x3).hash)).length/\((((((eqClonePlace (gi (mget [] m_35 ((gi (gi prints x2) x3).hash)) x4) (ClonePlace.mk x2 ((gi (gi prints x2) x3).at_)))=true\/(gi (mget [] m_35 ((gi (gi prints x2) x3).hash)) x4).text<x2)\/((gi (mget [] m_35 ((gi (gi prints x2) x3).hash)) x4).text=x2/\(gi (mget [] m_35 ((gi (gi prints x2) x3).hash)) x4).at_<(gi (gi prints x2) x3).at_))\/(only_>=0/\(¬(gi (mget [] m_35 ((gi (gi prints x2) x3).hash)) x4).text=only_\/x2=only_)))->(inI (x4+1)/\again178 (m_322,m_312,(x4+1))))/\(((((eqClonePlace (gi (mget [] m_35 ((gi (gi prints x2) x3).hash)) x4) (ClonePlace.mk x2 ((gi (gi prints x2) x3).at_)))=false/\¬(gi (mget [] m_35 ((gi (gi prints x2) x3).hash)) x4).text<x2)/\(¬(gi (mget [] m_35 ((gi (gi prints x2) x3).hash)) x4).text=x2\/¬(gi (mget [] m_35 ((gi (gi prints x2) x3).hash)) x4).at_<(gi (gi prints x2) x3).at_))/\(¬ only_>=0\/((gi (mget [] m_35 ((gi (gi prints x2) x3).hash)) x4).text=only_/\¬x2=only_)))->(okTs texts/\OkP texts ((ClonePlace.mk x2 ((gi (gi prints x2) x3).at_)),(gi (mget [] m_35 ((gi (gi prints x2) x3).hash)) x4))/\(((((lookF texts ((k+w)-1) m_312 m_322 (ClonePlace.mk x2 ((gi (gi prints x2) x3).at_)) (gi (mget [] m_35 ((gi (gi prints x2) x3).hash)) x4)).2).length:Int)>1024->Q ([],10))/\(¬(((lookF texts ((k+w)-1) m_312 m_322 (ClonePlace.mk x2 ((gi (gi prints x2) x3).at_)) (gi (mget [] m_35 ((gi (gi prints x2) x3).hash)) x4)).2).length:Int)>1024->(inI (x4+1)/\again178 (((lookF texts ((k+w)-1) m_312 m_322 (ClonePlace.mk x2 ((gi (gi prints x2) x3).at_)) (gi (mget [] m_35 ((gi (gi prints x2) x3).hash)) x4)).2),((lookF texts ((k+w)-1) m_312 m_322 (ClonePlace.mk x2 ((gi (gi prints x2) x3).at_)) (gi (mget [] m_35 ((gi (gi prints x2) x3).hash)) x4)).1),(x4+1))))))))))/\(¬ x4<((mget [] m_35 ((gi (gi prints x2) x3).hash)).length:Int)->(inI (x3+1)/\again174 (m_322,m_312,(x3+1)))))
def kclones_L4 (texts:(List Text))(k:Int)(w:Int)(only_:Int)(prints:(List (List Print)))(m_35:(List (Int×List ClonePlace)))(x2:Int)(Q:(List Clone)×Int->Prop)(again172:(List (Clone×Unit))×(List (CloneDiagonal×Int))×Int->Prop)(again174:(List (Clone×Unit))×(List (CloneDiagonal×Int))×Int->Prop)(m_321:(List (Clone×Unit)))(m_311:(List (CloneDiagonal×Int)))(x3:Int):Prop:=
 ((x3<((gi prints x2).length:Int)->(inL x3 (gi prints x2).length/\lfp (S:=(List (Clone×Unit))×(List (CloneDiagonal×Int))×Int) (fun again178 ss=>kclones_L5 texts k w only_ prints m_35 x2 x3 Q again174 again178 ss.1 ss.2.1 ss.2.2) (m_321,m_311,0)))/\(¬ x3<((gi prints x2).length:Int)->(inI (x2+1)/\again172 (m_321,m_311,(x2+1)))))
def kclones_L6 (m_32:(List (Clone×Unit)))(Q:(List Clone)×Int->Prop)(again193:(List Nat)×(List Clone)->Prop)(seen:(List Nat))(out:(List Clone)):Prop:=
 (((∀ k_:Nat,k_<m_32.length->k_∈seen)->((SWO (ltOf zbp)/\out.length<4611686018427387904)/\Q ((sortF zbp out),0)))/\(∀ at_:Nat,at_<m_32.length->at_ ∉ seen->(((out.length+([(gi m_32 (at_:Int)).1]:List Clone).length)*40<=140737488355328/\out.length+([(gi m_32 (at_:Int)).1]:List Clone).length<=9223372036854775807)/\again193 ((seen++ [at_]),(out++([(gi m_32 (at_:Int)).1]:List Clone))))))
def kclones_L3 (texts:(List Text))(k:Int)(w:Int)(only_:Int)(prints:(List (List Print)))(m_35:(List (Int×List ClonePlace)))(Q:(List Clone)×Int->Prop)(again172:(List (Clone×Unit))×(List (CloneDiagonal×Int))×Int->Prop)(m_32:(List (Clone×Unit)))(m_31:(List (CloneDiagonal×Int)))(x2:Int):Prop:=
 ((x2<(prints.length:Int)->(inL x2 prints.length/\lfp (S:=(List (Clone×Unit))×(List (CloneDiagonal×Int))×Int) (fun again174 ss=>kclones_L4 texts k w only_ prints m_35 x2 Q again172 again174 ss.1 ss.2.1 ss.2.2) (m_32,m_31,0)))/\(¬ x2<(prints.length:Int)->lfp (S:=(List Nat)×(List Clone)) (fun again193 ss=>kclones_L6 m_32 Q again193 ss.1 ss.2) (([]:List Nat),([]:List Clone))))
def kclones_L1 (texts:(List Text))(k:Int)(w:Int)(only_:Int)(Q:(List Clone)×Int->Prop)(again6:(List (List Print))×(List (Int×List ClonePlace))×Int->Prop)(prints:(List (List Print)))(m_35:(List (Int×List ClonePlace)))(x:Int):Prop:=
 ((x<(texts.length:Int)->(inL x texts.length/\(okT (gi texts x)/\inL x prints.length/\(inL x (si prints x ((zak (gi texts x) k w).1)).length/\lfp (S:=(List (Int×List ClonePlace))×Int) (fun again9 ss=>kclones_L2 texts k w prints x again6 again9 ss.1 ss.2) (m_35,0)))))/\(¬ x<(texts.length:Int)->lfp (S:=(List (Clone×Unit))×(List (CloneDiagonal×Int))×Int) (fun again172 ss=>kclones_L3 texts k w only_ prints m_35 Q again172 ss.1 ss.2.1 ss.2.2) (([]:List (Clone×Unit)),([]:List (CloneDiagonal×Int)),0)))
def kclones_vc (texts:(List Text))(k:Int)(w:Int)(only_:Int)(Q:(List Clone)×Int->Prop):Prop:=
 (inI (k+w)/\inI ((k+w)-1)/\((((0:Int)<=(texts.length:Int)/\((texts.length:Int):Int)<=(texts.length:Int))/\(24:Int)*(texts.length:Int)<=281474976710656/\((texts.length:Int):Int)<=9223372036854775807)/\lfp (S:=(List (List Print))×(List (Int×List ClonePlace))×Int) (fun again6 ss=>kclones_L1 texts k w only_ Q again6 ss.1 ss.2.1 ss.2.2) ((List.replicate (Int.toNat (texts.length:Int)) ([]:(List Print))),([]:List (Int×List ClonePlace)),0)))
def kfind_vc (l:(List Text))(k:Int)(w:Int)(Q:(List Clone)×Int->Prop):Prop:=
 (okTs l/\(((rightL l)=false->Q (([]:List Clone),1))/\((rightL l)=true->((¬(guarF k w).2=0->Q (([]:List Clone),3))/\((guarF k w).2=0->(okTs l/\(∀ t_∈l,zbi t_=true)/\zbs k=true/\zbs w=true/\inI (-1)/\Q ((zbx l k w (-1)).1,(zbx l k w (-1)).2)))))))
def kagainst_vc (c:Corpus)(t:Text)(Q:(List Clone)×Int->Prop):Prop:=
 (okC c/\((checkF c)=0->okT t)/\(((¬(checkF c)=0\/(zbi t)=false)->Q (([]:List Clone),1))/\(((checkF c)=0/\(zbi t)=true)->((((c.texts.length+([t]:List Text).length)*40<=140737488355328/\c.texts.length+([t]:List Text).length<=9223372036854775807)/\0<([t]:List Text).length)/\okTs (c.texts++([t]:List Text))/\(∀ t_∈(c.texts++([t]:List Text)),zbi t_=true)/\zbs c.k=true/\zbs c.w=true/\inI (c.texts.length:Int)/\Q ((zbx (c.texts++([t]:List Text)) c.k c.w (c.texts.length:Int)).1,(zbx (c.texts++([t]:List Text)) c.k c.w (c.texts.length:Int)).2)))))
def eqClones_L1 (s1:(List Clone))(s2:(List Clone))(Q:Bool->Prop)(again2:Int->Prop)(x:Int):Prop:=
 ((x<(s1.length:Int)->(inL x s1.length/\inL x s2.length/\(((eqClone (gi s1 x) (gi s2 x))=false->Q false)/\((eqClone (gi s1 x) (gi s2 x))=true->(inI (x+1)/\again2 (x+1))))))/\(¬ x<(s1.length:Int)->Q true))
def eqClones_vc (s1:(List Clone))(s2:(List Clone))(Q:Bool->Prop):Prop:=
 ((¬(s1.length:Int)=(s2.length:Int)->Q false)/\((s1.length:Int)=(s2.length:Int)->lfp (S:=Int) (fun again2 ss=>eqClones_L1 s1 s2 Q again2 ss) 0))
def ixClone_L1 (s_:(List Clone))(p:Clone->Bool)(pD:Clone->Prop)(Q:Int->Prop)(again1:Int->Prop)(x:Int):Prop:=
 ((x<(s_.length:Int)->(inL x s_.length/\pD (gi s_ x)/\(((p (gi s_ x))=true->Q x)/\((p (gi s_ x))=false->(inI (x+1)/\again1 (x+1))))))/\(¬ x<(s_.length:Int)->Q (-1)))
def ixClone_vc (s_:(List Clone))(p:Clone->Bool)(pD:Clone->Prop)(Q:Int->Prop):Prop:=
 lfp (S:=Int) (fun again1 ss=>ixClone_L1 s_ p pD Q again1 ss) 0
def cfClone_vc (s_:(List Clone))(p:Clone->Bool)(pD:Clone->Prop)(Q:Bool->Prop):Prop:=
 (s_.length<=9223372036854775807/\(∀ z_∈s_,pD z_)/\Q (decide ((idxOf p s_)>=0)))
end Go.Lic
