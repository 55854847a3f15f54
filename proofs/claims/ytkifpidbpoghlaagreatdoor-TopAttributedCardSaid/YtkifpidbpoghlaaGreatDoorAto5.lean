/-
  The conditions of functions of chapter 16 that chapter 30 uses hold. No program in sight.
-/
import Derived.Test.YtkifpidbpoghlaaGreatDoorTl
import Derived.Test.YtkifpidbpoghlaaGreatDoorCo0
import Derived.Test.YtkifpidbpoghlaaGreatDoorAo6
import Derived.Test.YtkifpidbpoghlaaGreatDoorRead
import Derived.Test.YtkifpidbpoghlaaGreatDoorStates
import Derived.Test.YtkifpidbpoghlaaGreatDoorV1
set_option maxRecDepth 10000
set_option maxHeartbeats 2000000
set_option linter.all false
namespace Go.Lic
open Go.Proofs Go.Sort Go.Shelf
theorem sorti_ok (data:(List Span))(a:Int)(b:Int)(p:Span->Span->Int)(pD:Span->Span->Prop)(Q:Unit->Prop)(hp0:data=([]:List Span))(hp1:a=(0:Int))(hp2:b=(0:Int))(h:Q ()):sorti_vc data a b p pD Q:=by
 subst hp0 hp1 hp2
 refine⟨by omega,fun I hI=>hI _ ⟨fun h=>by omega,fun _=>h⟩⟩
theorem sortp_ok (data:(List Span))(a:Int)(b:Int)(limit:Int)(p:Span->Span->Int)(pD:Span->Span->Prop)(Q:Unit->Prop)(hp0:data=([]:List Span))(hp1:a=(0:Int))(hp2:b=(0:Int))(h:Q ()):sortp_vc data a b limit p pD Q:=by
 subst hp0 hp1 hp2
 exact fun I hI=>hI _ ⟨by omega,fun _=>⟨rfl,rfl,rfl,h⟩,fun hn=>absurd hn (by omega)⟩
theorem sort0_ok (x:(List Span))(p:Span->Span->Int)(pD:Span->Span->Prop)(Q:Unit->Prop)(hp0:x=([]:List Span))(h:Q (())):sort0_vc x p pD Q:=by
 subst hp0
 exact⟨by decide,by decide,rfl,rfl,rfl,h⟩
theorem inside_ok (s_:Span)(Q:Bool->Prop)(h:Q (insideF s_)):inside_vc s_ Q:=h
theorem behind_ok (a:Span)(b:Span)(Q:Bool->Prop)(h:Q (behindF a b)):behind_vc a b Q:=h
theorem merge1_ok (a:Span)(b:Span)(Q:Int->Prop)(h:Q (zbh a b)):merge1_vc a b Q:=⟨by simp,h⟩
def merge_L1S (S:List Span)(Q:(List Span)->Prop)(again3:(List Span)×Int->Prop)(out:(List Span))(x:Int):Prop:=
 ((x<(S.length:Int)->(inL x S.length/\(inI ((out.length:Int)-1)/\((((out.length:Int)-1)>=0->inL ((out.length:Int)-1) out.length)/\(((((out.length:Int)-1)>=0/\(behindF (gi out ((out.length:Int)-1)) (gi S x))=false)->(inL ((out.length:Int)-1) out.length/\(inI (x+1)/\again3 ((si out ((out.length:Int)-1) (Span.mk ((gi out ((out.length:Int)-1)).path) ((gi out ((out.length:Int)-1)).from_) (gmax ((gi out ((out.length:Int)-1)).to) [(gi S x).to]))),(x+1)))))/\((¬((out.length:Int)-1)>=0\/(behindF (gi out ((out.length:Int)-1)) (gi S x))=true)->(((out.length+([(gi S x)]:List Span).length)*32<=140737488355328/\out.length+([(gi S x)]:List Span).length<=9223372036854775807)/\(inI (x+1)/\again3 ((out++([(gi S x)]:List Span)),(x+1))))))))))/\(¬ x<(S.length:Int)->Q out))
theorem merge_ok (l:(List Span))(Q:(List Span)->Prop)(hp0:l.length<=1000000)(h:Q (mergeF l)):merge_vc l Q:=by
 refine⟨⟨zal,by omega⟩,?_⟩
 have hl:=zac zal l
 have hS:(sortF zbh l).foldl mergeStep []=mergeF l:=rfl
 show lfp (S:=List Span×Int) (fun again ss=>merge_L1 l Q again ss.1 ss.2) ([],0)
 have hb:∀(again:List Span×Int->Prop) out x,merge_L1S (sortF zbh l) Q again out x->merge_L1 l Q again out x:=fun _ _ _ h=>h
 generalize sortF zbh l=S at hl hS hb
 refine lfp2 (merge_L1 l Q) (fun out x=>0<=x/\x<=S.length/\(out.length:Int)<=x/\(S.drop x.toNat).foldl mergeStep out=mergeF l) (fun _ x=>(S.length-x).toNat) (fun out x hst again hag=>?_) ⟨by simp,by simp,by simp,hS⟩
 obtain⟨h0,h1,h2,h3⟩:=hst
 refine hb _ _ _ ?_
 refine⟨fun hlt=>⟨by omega,by omega,fun hg=>by omega,fun hc=>⟨by omega,by omega,hag _ _ ⟨by omega,by omega,by rw [zan]; omega,?_⟩ (by omega)⟩,fun hc=>⟨⟨?_,?_⟩,by omega,hag _ _ ⟨by omega,by omega,?_,?_⟩ (by omega)⟩⟩,fun hn=>?_⟩
 · rw [zbn (by omega),List.foldl_cons]at h3
   have e:mergeStep out (gi S x)=si out ((out.length:Int)-1) ⟨(lastD out).path,(lastD out).from_,gmax (lastD out).to [(gi S x).to]⟩:=by
     unfold mergeStep
     exact if_pos ⟨by omega,hc.2⟩
   rw [e]at h3
   exact h3
 · simp only [List.length_cons,List.length_nil]; omega
 · simp only [List.length_cons,List.length_nil]; omega
 · simp only [List.length_append,List.length_cons,List.length_nil]; omega
 · rw [zbn (by omega),List.foldl_cons]at h3
   have e:mergeStep out (gi S x)=out++ [gi S x]:=by
     unfold mergeStep
     refine if_neg ?_
     rintro⟨h4,h5⟩
     rcases hc with hc|hc
     · omega
     · unfold lastD at h5; rw [hc]at h5; cases h5
   rw [e]at h3
   exact h3
 · rw [zbv hn]at h3
   rw [<- h3]at h
   exact h
theorem of_ok (l:(List Line))(Q:(List Span)×Int->Prop)(hp0:l.length<=1000000)(hp1:∀ x∈l,x.path.size<=1000000)(h:Q (ofF l)):of_vc l Q:=by
 refine⟨⟨⟨by omega,by omega⟩,by omega,by omega⟩,?_⟩
 refine lfp2 (of_L1 l Q) (fun out x=>0<=x/\x<=l.length/\(out.length:Int)=x/\(ofF l=match(l.drop x.toNat).find? badLine with|some x=>([],if pathB x.path then 3 else 2)|none=>(mergeF (out++(l.drop x.toNat).map unitW),0))) (fun _ x=>(l.length-x).toNat) (fun out x hst again hag=>?_) ⟨by simp,by simp,by simp,rfl⟩
 obtain⟨h0,h1,h2,h3⟩:=hst
 have eu:(Span.mk ((gi l x).path) ((gi l x).n) (IntKind.i64.wrap (((gi l x).n)+1)))=unitW (gi l x):=rfl
 unfold of_L1
 simp only [eu]
 refine⟨fun hlt=>⟨by omega,hp1 _ (gi_mem (by omega)),fun hp=>?_,fun hp=>⟨fun hi=>?_,fun hi=>⟨⟨?_,?_⟩,hag _ _ ⟨?_,?_,?_,?_⟩ ?_⟩⟩⟩,fun hn=>?_⟩
 · have hb:pathB (gi l x).path=false:=by
     cases hh:pathB (gi l x).path with
     |false=>rfl
     |true=>exact absurd (by unfold pathF; rw [hh]; rfl) hp
   have hbad:badLine (gi l x)=true:=by unfold badLine; rw [hb]; rfl
   rw [h3,zbn (by omega),List.find?_cons,hbad]at h
   simp only [hb]at h
   exact h
 · have hb:pathB (gi l x).path=true:=by
     cases hh:pathB (gi l x).path with
     |true=>rfl
     |false=>unfold pathF at hp; rw [hh]at hp; cases hp
   have hbad:badLine (gi l x)=true:=by unfold badLine; rw [hi,hb]; rfl
   rw [h3,zbn (by omega),List.find?_cons,hbad]at h
   simp only [hb]at h
   exact h
 · simp only [List.length_cons,List.length_nil]; omega
 · simp only [List.length_cons,List.length_nil]; omega
 · rw [wrap_small (by omega)]; omega
 · rw [wrap_small (by omega)]; omega
 · simp only [List.length_append,List.length_cons,List.length_nil]; rw [wrap_small (by omega)]; omega
 · have hb:pathB (gi l x).path=true:=by
     cases hh:pathB (gi l x).path with
     |true=>rfl
     |false=>unfold pathF at hp; rw [hh]at hp; cases hp
   have hbad:badLine (gi l x)=false:=by unfold badLine; rw [hi,hb]; rfl
   rw [wrap_small (by omega),h3,zbn (by omega),List.find?_cons,hbad]
   simp only [List.map_cons,List.append_assoc,List.cons_append,List.nil_append]
 · rw [wrap_small (by omega)]; omega
 · rw [h3,zbv hn]at h
   simp only [List.find?_nil,List.map_nil,List.append_nil]at h
   exact⟨by omega,h⟩
end Go.Lic
set_option linter.all false
namespace Go.Lic
open Go.Proofs Go.Sort Go.Shelf
theorem cmpInts_ok (s1:(List Int))(s2:(List Int))(Q:Int->Prop)(hp0:s1.length<=1000000)(hp1:s2.length<=1000000)(h:Q (cmpL s1 s2)):cmpInts_vc s1 s2 Q:=by
 refine lfp_of (fun x:Int=>0<=x/\x<=s1.length/\x<=s2.length/\cmpL (s1.drop x.toNat) (s2.drop x.toNat)=cmpL s1 s2) (fun x=>(s1.length-x).toNat) (fun x hx again hag=>?_) ⟨by omega,by omega,by omega,rfl⟩
 obtain⟨h0,h1,h2,h3⟩:=hx
 refine⟨fun hlt=>⟨by omega,fun hge=>?_,fun hng=>⟨by omega,fun hne=>?_,fun he=>⟨by omega,hag _ ⟨by omega,by omega,by omega,?_⟩ (by omega)⟩⟩⟩,fun hn=>⟨fun hlt=>?_,fun hn2=>?_⟩⟩
 · rw [zbn (x:=x) (by omega),zbv (l:=s2) (by omega)]at h3; rw [<- h3]at h; exact h
 · rw [zbn (l:=s1) (x:=x) (by omega),zbn (l:=s2) (x:=x) (by omega),cmpL,if_neg hne]at h3; rw [<- h3]at h; exact h
 · rw [zbn (l:=s1) (x:=x) (by omega),zbn (l:=s2) (x:=x) (by omega),cmpL,if_pos he]at h3; exact h3
 · rw [zbv (l:=s1) (by omega),zbn (l:=s2) (x:=x) (by omega)]at h3; rw [<- h3]at h; exact h
 · rw [zbv (l:=s1) (by omega),zbv (l:=s2) (by omega)]at h3; rw [<- h3]at h; exact h
theorem tvalid_ok (c:Corpus)(t:Text)(Q:Bool->Prop)(hp0:okC c)(hp1:okT t)(h:Q (rightCT c t)):tvalid_vc c t Q:=by
 refine⟨hp0,fun _=>hp1,?_⟩
 rw [int_beq]; exact h
theorem common_nilR (a:List Lexeme):zba a []=0:=by cases a<;>rfl
theorem tsame_ok (words:(List Lexeme))(known:(List Lexeme))(at_:Int)(Q:Bool->Prop)(hp0:words.length<=1000000)(hp1:known.length<=1000000)(h:Q (sameF words known at_)):tsame_vc words known at_ Q:=by
 unfold sameF at h
 refine⟨fun _=>by omega,fun hb=>?_,fun hg=>?_⟩
 · have e:(decide (0<=at_)&&decide (at_+words.length<=known.length)&&decide (zba (known.drop at_.toNat) words=words.length))=false:=by
     rw [Bool.and_eq_false_iff,Bool.and_eq_false_iff,decide_eq_false_iff_not,decide_eq_false_iff_not]
     left; omega
   rw [e]at h; exact h
 · rw [decide_eq_true (show 0<=at_ by omega),decide_eq_true (show at_+words.length<=known.length by omega),Bool.and_self,Bool.true_and]at h
   refine lfp_of (fun x:Int=>0<=x/\x<=words.length/\(zba (known.drop (at_+x).toNat) (words.drop x.toNat)=words.length-x.toNat↔zba (known.drop at_.toNat) words=words.length)) (fun x=>(words.length-x).toNat) (fun x hx again hag=>?_) ⟨by omega,by omega,by simp⟩
   obtain⟨h0,h1,h2⟩:=hx
   refine⟨fun hlt=>⟨by omega,by omega,by omega,fun hne=>?_,fun he=>⟨by omega,hag _ ⟨by omega,by omega,?_⟩ (by omega)⟩⟩,fun hn=>?_⟩
   · rw [zbn (l:=known) (x:=at_+x) (by omega),zbn (l:=words) (x:=x) (by omega),zba,if_neg hne]at h2
     rw [decide_eq_false (fun e=>by have:=h2.2 e; omega)]at h; exact h
   · rw [zbn (l:=known) (x:=at_+x) (by omega),zbn (l:=words) (x:=x) (by omega),zba,if_pos he]at h2
     rw [<- h2,show at_+(x+1)=at_+x+1 by omega]
     omega
   · rw [zbv (l:=words) (by omega),common_nilR]at h2
     rw [decide_eq_true (h2.1 (by omega))]at h; exact h
theorem tafter_ok (v:(Int×Int))(n:Int)(Q:(Int×Int)->Prop)(hp0:inI (v.1+n))(hp1:inI (v.2-1))(h:Q (afterP v n)):tafter_vc v n Q:=⟨hp0,hp1,h⟩
theorem tbetter_ok (a:(Int×Int))(b:(Int×Int))(Q:(Int×Int)->Prop)(h:Q (betterP a b)):tbetter_vc a b Q:=by
 unfold betterP at h
 refine⟨by simp,by simp,fun hg=>?_,fun hn=>?_⟩
 · rw [if_pos (by omega)]at h; exact h
 · rw [if_neg (by omega)]at h; exact h
theorem tranged_ok (t:Text)(p:Piece)(Q:Bool->Prop)(hp0:okT t)(h:Q (rangedF t p)):tranged_vc t p Q:=h
theorem srcW_first {a l:List Lexeme}{k:Nat}(hk:k<l.length)(h:zba (l.drop k) a=a.length)(hm:∀ j,j<k->zba (l.drop j) a≠a.length):srcW a l=some k:=by
 cases hs:srcW a l with
 |none=>exact absurd h (srcW_none hs k hk)
 | some q=>
   obtain⟨h1,h2,h3⟩:=srcW_some hs
   rcases Nat.lt_trichotomy q k with hlt|rfl|hlt
   · exact absurd h2 (hm q hlt)
   · rfl
   · exact absurd h (h3 k hlt)
theorem srcW_not {a l:List Lexeme}(hm:∀ j,j<l.length->zba (l.drop j) a≠a.length):srcW a l=none:=by
 cases hs:srcW a l with
 |none=>rfl
 |some q=>obtain⟨h1,h2,_⟩:=srcW_some hs; exact absurd h2 (hm q h1)
def srcAt (x:Int):Option (Nat×Nat)->Int×Int
 |some p=>((p.1:Int)+x,(p.2:Int))
 |none=>(0,0)
theorem srcAt_zero (c:Corpus)(a:List Lexeme):srcAt 0 (srcT a c.texts)=srcF c a:=by
 unfold srcF
 cases srcT a c.texts with
 |none=>rfl
 |some p=>simp [srcAt]
theorem srcAt_found {x:Int}{a:List Lexeme}{t:Text}{ts:List Text}{k:Nat}(h:srcW a t.words=some k):srcAt x (srcT a (t::ts))=(x,(k:Int)):=by
 rw [srcT,h]; simp [srcAt]
theorem srcAt_next {x:Int}{a:List Lexeme}{t:Text}{ts:List Text}(h:srcW a t.words=none):srcAt x (srcT a (t::ts))=srcAt (x+1) (srcT a ts):=by
 rw [srcT,h]
 cases srcT a ts with
 |none=>rfl
 |some p=>simp only [Option.map_some,srcAt]; congr 1; omega
theorem sameF_at {a l:List Lexeme}{j:Nat}(hj:j<l.length):sameF a l (j:Nat)=true↔zba (l.drop j) a=a.length:=by
 rw [sameF_iff]
 constructor
 · rintro⟨_,_,h⟩; simpa using h
 · intro h
   have:=(common_le (l.drop j) a).1
   rw [h,List.length_drop]at this
   exact⟨by omega,by omega,by simpa using h⟩
theorem tsource_ok (c:Corpus)(words:(List Lexeme))(Q:Int×Int->Prop)(hp0:okC c)(hp1:words.length<=1000000)(h:Q (srcF c words)):tsource_vc c words Q:=by
 have hcl:=hp0.1.1
 refine lfp_of (fun x:Int=>0<=x/\x<=c.texts.length/\srcAt x (srcT words (c.texts.drop x.toNat))=srcF c words) (fun x=>(c.texts.length-x).toNat) (fun x hx again hag=>?_) ⟨by omega,by omega,srcAt_zero c words⟩
 obtain⟨h0,h1,h2⟩:=hx
 refine⟨fun hlt=>⟨by omega,?_⟩,fun hn=>?_⟩
 · have hwl:=(hp0.1.2 _ (gi_mem (l:=c.texts) (i:=x) (by omega))).2.1
   rw [zbn (l:=c.texts) (x:=x) (by omega)]at h2
   refine lfp_of (fun y:Int=>0<=y/\y<=(gi c.texts x).words.length/\∀ j:Nat,(j:Int)<y->zba ((gi c.texts x).words.drop j) words≠words.length) (fun y=>((gi c.texts x).words.length-y).toNat) (fun y hy again5 hag5=>?_) ⟨by omega,by omega,fun j hj=>by omega⟩
   obtain⟨g0,g1,g2⟩:=hy
   refine⟨fun hlt1=>⟨hp1,hwl,fun ht=>?_,fun hf=>⟨by omega,hag5 _ ⟨by omega,by omega,fun j hj=>?_⟩ (by omega)⟩⟩,fun hn1=>⟨by omega,hag _ ⟨by omega,by omega,?_⟩ (by omega)⟩⟩
   · obtain⟨n,rfl⟩:=Int.eq_ofNat_of_zero_le g0
     have e:=srcW_first (k:=n) (by omega) ((sameF_at (by omega)).1 ht) (fun j hj=>g2 j (by omega))
     rw [srcAt_found e]at h2
     rw [<- h2]at h; exact h
   · rcases Int.lt_or_eq_of_le (show(j:Int)<=y by omega)with hlt2|rfl
     · exact g2 j hlt2
     · intro hc
       rw [(sameF_at (by omega)).2 hc]at hf; cases hf
   · rw [srcAt_next (srcW_not (fun j hj=>g2 j (by omega)))]at h2; exact h2
 · rw [zbv (by omega)]at h2
   rw [<- h2]at h; exact h
theorem rightA_split {c:Corpus}{t:Text}{least:Int}:(rightCT c t=false/\rightA c t least=1)\/(rightCT c t=true/\(least<1\/least>8192)/\rightA c t least=3)\/(rightCT c t=true/\1<=least/\least<=8192/\rightA c t least=0):=by
 unfold rightA
 cases h:rightCT c t with
 |false=>exact .inl ⟨rfl,by simp⟩
 | true=>
   right
   by_cases hl:1<=least/\least<=8192
   · right; exact⟨rfl,hl.1,hl.2,by simp [hl]⟩
   · left; exact⟨rfl,by omega,by simp [hl]⟩
theorem tcheck_ok (c:Corpus)(t:Text)(least:Int)(a:Attribution)(Q:Int->Prop)(hp0:okC c)(hp1:okT t)(hp2:okA a)(h:Q (checkA c t least a)):tcheck_vc c t least a Q:=by
 unfold checkA at h
 have hal:=hp2.2; have htl:=hp1.2.1
 refine⟨hp0,hp1,fun hb=>?_,fun hb=>⟨fun hl=>?_,fun hl=>⟨fun hp=>?_,fun hp=>?_⟩⟩⟩
 · rcases rightA_split (c:=c) (t:=t) (least:=least)with⟨_,e⟩|⟨h1,_⟩|⟨h1,_⟩
   · rw [e]at h; exact h
   · rw [hb]at h1; cases h1
   · rw [hb]at h1; cases h1
 · rcases rightA_split (c:=c) (t:=t) (least:=least)with⟨h1,e⟩|⟨h1,_,e⟩|⟨h1,_,_,_⟩
   · rw [hb]at h1; cases h1
   · rw [e]at h; exact h
   · omega
 all_goals
   have e:rightA c t least=0:=by
     rcases rightA_split (c:=c) (t:=t) (least:=least)with⟨h1,_⟩|⟨_,h1,_⟩|⟨_,_,_,e⟩
     · rw [hb]at h1; cases h1
     · omega
     · exact e
   rw [e,if_pos rfl]at h
 · rw [if_neg hp]at h; exact h
 · rw [if_pos hp]at h
   refine lfp2 (tcheck_L1 c t least a Q) (fun e x=>0<=x/\x<=a.pieces.length/\checkPs c t least e (a.pieces.drop x.toNat)=checkPs c t least 0 a.pieces) (fun _ x=>(a.pieces.length-x).toNat) (fun e x hst again hag=>?_) ⟨by omega,by omega,rfl⟩
   obtain⟨h0,h1,h2⟩:=hst
   refine⟨fun hlt=>⟨by omega,hp1,fun hr=>?_,fun hg=>?_,fun hbad=>?_,fun hg=>⟨fun he=>?_,fun he=>⟨by omega,hag _ _ ⟨by omega,by omega,?_⟩ (by omega)⟩⟩⟩,fun hn=>?_⟩
   · obtain⟨r1,r2,r3⟩:=(rangedF_iff _ _).1 hr; omega
   · obtain⟨r1,r2,r3⟩:=(rangedF_iff _ _).1 hg.1.1
     have hx:inL (gi a.pieces x).text c.texts.length:=by omega
     have:=(hp0.1.2 _ (gi_mem hx)).2.1
     refine⟨by omega,hx,?_,this⟩
     rw [lsub_length (by omega)]; omega
   · rw [zbn (x:=x) (by omega),checkPs,if_neg]at h2
     · rw [<- h2]at h; exact h
     · rw [pieceOk_iff,<-rangedF_iff]
       rintro⟨k1,k2,k3,k4⟩
       rcases hbad with((hbad|hbad)|hbad)|hbad
       · rw [k1]at hbad; cases hbad
       · omega
       · omega
       · rw [k4]at hbad; cases hbad
   · rw [zbn (x:=x) (by omega),checkPs,if_pos,if_pos he]at h2
     · rw [<- h2]at h; exact h
     · rw [pieceOk_iff,<-rangedF_iff]; exact⟨hg.1.1.1,by omega,by omega,hg.2⟩
   · rw [zbn (x:=x) (by omega),checkPs,if_pos,if_neg he]at h2
     · exact h2
     · rw [pieceOk_iff,<-rangedF_iff]; exact⟨hg.1.1.1,by omega,by omega,hg.2⟩
   · rw [zbv (by omega)]at h2
     rw [<- h2]at h; exact h
theorem trest_ok (to:Int)(t:Text)(e:Int)(l:(List Line))(Q:(List Line)->Prop)(hp0:inS e to t.words.length)(hp1:l.length+t.words.length<=1000000)(h:Q ((l++linesW t (zbc t.words e to)))):trest_vc to t e l Q:=by
 have hl:=lsub_length hp0
 refine⟨hp0,lfp2 (trest_L1 to t e Q) (fun xs x=>0<=x/\x<=(zbc t.words e to).length/\xs++linesW t ((zbc t.words e to).drop x.toNat)=l++linesW t (zbc t.words e to)) (fun _ x=>((zbc t.words e to).length-x).toNat) (fun xs x hst again hag=>?_) ⟨by omega,by omega,rfl⟩⟩
 obtain⟨h0,h1,h2⟩:=hst
 have h3:=congrArg List.length h2
 simp only [List.length_append,linesW,List.length_map,List.length_drop]at h3
 refine⟨fun hlt=>⟨by omega,⟨by simp; omega,by simp; omega⟩,by omega,hag _ _ ⟨by omega,by omega,?_⟩ (by omega)⟩,fun hn=>?_⟩
 · rw [zbn (x:=x) (by omega)]at h2
   rw [<- h2]; simp [linesW]
 · rw [zbv (by omega)]at h2
   simp only [linesW,List.map_nil,List.append_nil]at h2 h
   rw [h2]; exact h
theorem linesW_len (t:Text)(l:List Lexeme):(linesW t l).length=l.length:=by simp [linesW]
theorem linesW_path {t:Text}{l:List Lexeme}{z:Line}(h:z∈linesW t l):z.path=t.path:=by
 unfold linesW at h
 obtain⟨w,_,rfl⟩:=List.mem_map.1 h; rfl
theorem tunknown_ok (t:Text)(a:Attribution)(Q:(List Span)×Int->Prop)(hp0:okT t)(hp1:okA a)(h:Q (unknownF t a)):tunknown_vc t a Q:=by
 unfold unknownF at h
 have hal:=hp1.2; have htl:=hp0.2.1
 refine⟨hp0,fun hv=>by rw [hv]at h; exact h,fun hv=>?_⟩
 rw [hv,if_pos rfl]at h
 have hwl:t.words.length<=8192:=by
   unfold zbi at hv; simp only [Bool.and_eq_true,decide_eq_true_eq]at hv; exact hv.1.1
 refine⟨fun hp=>by rw [if_neg hp]at h; exact h,fun hp=>?_⟩
 rw [if_pos hp]at h
 refine lfp3 (tunknown_L1 t a Q) (fun xs e x=>0<=x/\x<=a.pieces.length/\0<=e/\e<=t.words.length/\(xs.length:Int)<=e/\(∀ z∈xs,z.path=t.path)/\(restL t e (a.pieces.drop x.toNat)).map (fun y=>xs++y)=restL t 0 a.pieces) (fun _ _ x=>(a.pieces.length-x).toNat) (fun xs e x hst again hag=>?_) ⟨by omega,by omega,by omega,by omega,by simp,by simp,by simp⟩
 obtain⟨h0,h1,h2,h3,h4,h5,h6⟩:=hst
 refine⟨fun hlt=>⟨by omega,hp0,fun hb=>?_,fun hg=>?_⟩,fun hn=>?_⟩
 · rw [zbn (x:=x) (by omega),restL,if_neg]at h6
   · rw [<- h6]at h; exact h
   · rw [Bool.and_eq_true,decide_eq_true_eq]
     rintro⟨k1,k2⟩
     rcases hb with hb|hb
     · rw [k1]at hb; cases hb
     · omega
 · obtain⟨r1,r2,r3⟩:=(rangedF_iff _ _).1 hg.1
   have hs:inS e (gi a.pieces x).from_ t.words.length:=by omega
   have hl:=lsub_length hs
   refine⟨hs,by omega,by omega,hag _ _ _ ⟨by omega,by omega,by omega,by omega,?_,fun z hz=>?_,?_⟩ (by omega)⟩
   · rw [List.length_append,linesW_len]; omega
   · rcases List.mem_append.1 hz with hz|hz
     · exact h5 z hz
     · exact linesW_path hz
   · rw [zbn (x:=x) (by omega),restL,if_pos (by rw [Bool.and_eq_true,decide_eq_true_eq]; exact⟨hg.1,by omega⟩),Option.map_map]at h6
     rw [<- h6]; congr 1; funext y; simp
 · have hs:inS e (t.words.length:Int) t.words.length:=by omega
   have hl:=lsub_length hs
   rw [zbv (by omega),restL]at h6
   rw [<- h6]at h
   rw [lsub_from]at hl ⊢
   refine⟨hs,by omega,?_,fun z hz=>?_,h⟩
   · rw [List.length_append,linesW_len]; omega
   · have:z.path=t.path:=by
       rcases List.mem_append.1 hz with hz|hz
       · exact h5 z hz
       · exact linesW_path hz
     rw [this]; exact hp0.1
end Go.Lic
set_option linter.all false
namespace Go.Lic
variable [Fl]
def BackC (P:Program)(g:Nat)(cs:List D)(n0:Nat)(arg:Nat->List D):Prop:=
 ∀ (c n:Nat) (fr:Nat->D) (ps:Array Tmp) (assign body:Code) (I:Nat->zbb->Prop),(∀ j h,j<n0->I j h->RoundA P n fr ps assign body (arg j) h (I (j+1)))->∀ h0,I 0 h0->
   CallH P g (.fn (.yield (c / 2)) [] []::cs) ((c,.loop n fr ps assign body)::h0) (fun _ h'=>∃ h1,h'.Perm ((c,.loop n fr ps assign body)::h1)/\I n0 h1)
abbrev backArg {T:Type} [Inhabited T](enc:T->D)(xs:List T)(j:Nat):List D:= [D.i ((xs.length:Int)-1-j),enc (gi xs ((xs.length:Int)-1-j))]
section
variable {P:Program}{n:Nat}{o:Oper}{fr:Nat->D}{h:zbb}{K:D->zbb->Prop}{Q:Post}
theorem wpA_back {T S G:Type} [Inhabited T]{enc:T->D}{xs:List T}{L:(S×Int->Prop)->S×Int->Prop}{s0:S}{f:Operand}{g:Nat}{cs:List D}{ps:Array Tmp}{assign body:Code}(g0:G)(H:G->S->zbb)(hf:ev fr f= .fn (.func g) [] cs)
   (he:entersB P g=true) (hit:BackC P g cs xs.length (backArg enc xs)) (hl:gfp L (s0,(xs.length:Int)-1)) (hh:List.Sublist (H g0 s0) h)
   (hnr:(noRange assign&&noRange body&&ps.toList.all (fun p=>Nat.blt p n)&&Nat.beq ps.size 2)=true)
   (round:∀(again:S×Int->Prop) g s i,0<=i->L again (s,i)->wpA P n assign (fun e fr1 h1=>match e with| .normal=>wpA P n body (fun e _ h2=>match e with| .normal=>∃ g s',again (s',i-1)/\List.Sublist (H g s') h2|_=>False) fr1 h1|_=>False) (setP fr ps.toList [D.i i,enc (gi xs i)]) (H g s))
   (hq:∀(again:S×Int->Prop) g s i,¬0<=i->L again (s,i)->Q .normal fr (H g s)):wpA P n (.rangeFunc f ps assign body) Q fr h:=by
 obtain⟨J,j0,hJ⟩:=hl
 refine wpA_rangeFunc (I:=fun h1=>∃ g s,J (s,(xs.length:Int)-1-(xs.length:Nat))/\List.Sublist (H g s) h1) hf he (fun c=>?_) ?_
 · refine hit c n fr ps assign body (fun j h1=>∃ g s,J (s,(xs.length:Int)-1-(j:Nat))/\List.Sublist (H g s) h1) ?_ h ⟨g0,s0,by simpa using j0,hh⟩
   rintro j h1 hj ⟨g,s,hs,hsub⟩
   refine⟨hnr,wpA_sub hsub (wpA_mono (round J g s _ (by omega) (hJ _ hs)) ?_)⟩
   intro e fr1 h1 q
   cases e with
   | normal=>
     refine wpA_mono q ?_
     intro e fr2 h2 q
     cases e with
     | normal=>
       obtain⟨g',s',k1,k2⟩:=q
       exact⟨g',s',by rw [show(xs.length:Int)-1-((j+1:Nat):Int)=(xs.length:Int)-1-(j:Nat)-1 by omega]; exact k1,k2⟩
     |_=>exact q.elim
   |_=>exact q.elim
 · rintro h1 ⟨g,s,hs,hsub⟩
   exact⟨H g s,hsub,hq J g s _ (by omega) (hJ _ hs)⟩
theorem OpA.isliceA {t et:TypeId}{len:Nat}{agg:Bool}{x:Operand}{ds:List D}(ho:o.op= .slice t x none none none)(ht:P.underlying t=some (.array len et))(hte:TI P et 1 agg)(hx:ev fr x= .iptr (.agg ds) 0)(hl:Nat.beq ds.length len=true)
   (hp:Nat.blt 0 len=true) (hk:K (.list 1 ds) h):OpA P o fr h K:=
 .of_quiet (fun A M w0 a w _ hv=>by
   have h1:=hv x (by simp [ho,Op.operands])
   rw [hx]at h1
   generalize hu:a.eval x=u at h1
   have hl:=Nat.eq_of_beq_eq_true hl
   have hp:0<len:=by simpa [Nat.blt_eq]using hp
   cases h1 with
   | @iptr _ _ cs b oo hok hvl hlie=>
     refine⟨.slice (some ⟨b,oo,none⟩) len len,?_,?_⟩
     · simp only [execOp,ho,Option.map_none,hu,Instr.sliceAt,Sem.run_bind,run_underlying ht,Result.andThen_ok,Instr.sureAddr,Instr.sliceBounds,Sem.run_pure,hte.size,Option.isSome_none]
       simp [show ¬len=0 by omega,Addr.add_lit]
     · have hfl:D.flats ds=ds:=by
         have:∀ l:List D,(∀ d∈l,d.cell=true)->D.flats l=l:=by
           intro l
           induction l with
           |nil=>intro _; rfl
           | cons d l ih=>
             intro hc
             have hd:=hc d (by simp)
             have:d.flat= [d]:=by cases d<;>first|rfl|simp [D.cell]at hd
             simp only [D.flats,List.flatMap_cons,this]at ih ⊢
             rw [ih fun x hx=>hc x (by simp [hx])]; rfl
         exact this ds hok
       rw [<- hl]
       refine .list (cs:=cs) (b:=b) (o:=oo) (fun d hd=>?_) (by rw [hfl]; exact hvl) (fun _=>rfl) hlie (Nat.le_refl _)
       have hc:=hok d hd
       have:d.flat= [d]:=by cases d<;>first|rfl|simp [D.cell]at hc
       exact⟨by rw [this]; rfl,by rw [this]; simpa using hc⟩) hk
end
end Go.Lic
set_option linter.all false
namespace Go.Proofs.YtkifpidbpoghlaaGreatDoor
open Go Go.Lic Go.Sort Go.Proofs
variable [Fl]
end Go.Proofs.YtkifpidbpoghlaaGreatDoor
set_option linter.all false
namespace Go.Proofs.YtkifpidbpoghlaaGreatDoor
open Go Go.Lic Go.Sort Go.Proofs
theorem backL_c (xs:List Lexeme)(_:xs.length<=9223372036854775807):Fun false Tryz.prog 65 [zai 2 zau xs] (fun d=>d= .fn (.func 112) [] [.iptr (zai 2 zau xs) 0]):=by
 refine Fun.of_body Tryz.func65 rfl Tryz.ntmps65 rfl ?_
 refine wpA_seq ?_
 refine zbo ?_
 refine wpL_op rfl rfl rfl (OpA.bx (sz:=1) rfl (by with_reducible conv=>lhs; whnf) (.of rfl) (fun c1 _=>?_))
 refine wpL_op rfl rfl rfl (OpA.asn rfl (by with_reducible conv=>lhs; whnf) ?_)
 refine wpL_nil ?_
 refine wpA_seq ?_
 refine zbo ?_
 refine wpL_op rfl rfl rfl (OpA.makeFunc rfl ?_)
 refine wpL_op rfl rfl rfl (OpA.asn rfl (by with_reducible conv=>lhs; whnf) ?_)
 refine wpL_nil ?_
 refine wpA_ret ?_
 exact⟨_,(.tmp rfl .nil),_,(.fn .nil (.ptrp rfl .head rfl .nil) .nil),rfl⟩
theorem backL_it (xs:List Lexeme)(hx:xs.length<=9223372036854775807):BackC Tryz.prog 112 [.iptr (zai 2 zau xs) 0] xs.length (backArg zau xs):=by
 intro c n fr ps assign body I hround h0 hI0
 refine CallH.of_body Tryz.func112 rfl Tryz.ntmps112 rfl ?_
 refine wpA_perm (List.perm_append_comm (l₁:= [(c,Blk.loop n fr ps assign body)]) (l₂:=h0)) ?_
 refine wpA_seq ?_
 refine zbo ?_
 refine wL (OpA.iload rfl ti24 rfl rfl ?_)
 refine wL (OpA.len rfl rfl rfl rfl ts24.desc (.inl ⟨_,_,rfl,(List.length_map _).symm⟩) ?_)
 refine wL (OpA.subi rfl rfl rfl (by omega) ?_)
 refine wL (OpA.a ?_)
 refine wpL_nil ?_
 refine wpA_block ?_
 refine wpA_loopP (fun k f h=>∃(j:Nat) (h1:zbb),j<=xs.length/\k=xs.length-j/\I j h1/\f=asg [(0,.fn (.yield (c / 2)) [] []),(1,.iptr (zai 2 zau xs) 0),(3,D.i ((xs.length:Int)-1-j))]/\h=h1++ [(c,.loop n fr ps assign body)])
   ⟨xs.length,_,_,⟨0,h0,by omega,rfl,hI0,rfl,rfl⟩,.refl _,Cov.asg ⟨rfl,rfl,by simp [show((0:Nat):Int)=0 from rfl,Int.sub_zero],trivial⟩⟩ ?_
 rintro k f h ⟨j,h1,hj,rfl,hI,rfl,rfl⟩
 refine wpA_seq ?_
 refine wpA_seq ?_
 refine zbo ?_
 refine wL (OpA.m ?_)
 refine wL (OpA.geq rfl rfl rfl ?_)
 refine wpL_nil ?_
 refine wpA_cond rfl (fun b1=>?_) (fun b1=>?_)
 · have b1:=decT b1
   refine wpA_skip ?_
   refine wpA_seq ?_
   refine wpA_block ?_
   refine wpA_seq ?_
   refine zbo ?_
   iterate 2 refine wL (OpA.m ?_)
   refine wL (OpA.iload rfl ti24 rfl rfl ?_)
   refine wL (OpA.m ?_)
   refine wL (OpA.iixV (enc:=zau) rfl ts24 rfl rfl rfl ⟨by omega,by omega⟩ ?_)
   refine wL (OpA.iload_whole rfl ti30 rfl ⟨_,rfl,rfl⟩ ?_)
   refine wL (OpA.yield rfl rfl rfl (.refl _) (hround j h1 (by omega) hI) (fun h2 hI2=>?_))
   refine wL (OpA.not rfl rfl ?_)
   refine wpL_nil ?_
   refine wpA_condF rfl ?_
   refine wpA_skip ?_
   refine zbo ?_
   refine wL (OpA.m ?_)
   refine wL (OpA.subi rfl rfl rfl (by omega) ?_)
   refine wL (OpA.a ?_)
   refine wpL_nil ?_
   exact⟨xs.length-(j+1),_,_,by omega,⟨j+1,h2,by omega,rfl,hI2,rfl,rfl⟩,.refl _,Cov.asg ⟨rfl,rfl,by rw [show(xs.length:Int)-1-((j+1:Nat):Int)=(xs.length:Int)-1-(j:Nat)-1 by omega],trivial⟩⟩
 · have b1:=decF b1
   refine wpA_exit ?_
   obtain rfl:j=xs.length:=by omega
   exact⟨_,.nil,h1,List.perm_append_comm,hI⟩
end Go.Proofs.YtkifpidbpoghlaaGreatDoor
set_option linter.all false
namespace Go.Proofs.YtkifpidbpoghlaaGreatDoor
open Go Go.Lic Go.Sort Go.Proofs
variable [Fl]
attribute [local irreducible] addF addP zaw badR behindF blankF checkF zbp zbx cmpB cmpI cmpL codeF countF fewTs fewW findC findT zbt growTF guarF hashF zbj insideF itoaF lenF lookF mergeF mul64F mulP newF ofF orF partF pathF postCmp postsF powF zak pushF rightL rollF zbu zbs zbh zad splitG zbi
theorem sorti_c (data:(List Span))(a:Int)(b:Int)(g_p:Nat)(fs_p cs_p:List D)(p:Span->Span->Int)(pD:Span->Span->Prop)(hen_p:entersB Tryz.prog g_p=true)(hg_p:∀ x0_ x1_,pD x0_ x1_->Fun false Tryz.prog g_p (fs_p++ [zbd x0_,zbd x1_]++cs_p) (fun d=>d=D.i (p x0_ x1_)))(hp0:data=([]:List Span))(hp1:a=(0:Int))(hp2:b=(0:Int)):Fun false Tryz.prog 207 [(zai 3 zbd) data,D.i a,D.i b,.fn (.func g_p) fs_p cs_p] (fun d=>d= .tup []):=by
 refine fB Tryz.func207 Tryz.ntmps207 (v:=()) (enc:=fun r=> .tup []) (sorti_ok data a b p pD _ hp0 hp1 hp2 rfl) fun Q h=>?_
 unfold sorti_vc at h
 obtain⟨q1,h⟩:=h
 refine G ?_
 refine zl h () (fun gg ss=> [(0,(zai 3 zbd) data),(1,D.i a),(2,D.i b),(3,.fn (.func g_p) fs_p cs_p),(8,D.i ss)]) (fun gg ss=> []) ?_
 rintro again1 _ i h
 unfold sorti_L1 at h
 refine G ?_
 refine zc h (fun _ h=>G ?_) (fun _ h=>G ?_)
 refine zl h () (fun gg ss=> [(0,(zai 3 zbd) data),(1,D.i a),(2,D.i b),(3,.fn (.func g_p) fs_p cs_p),(8,D.i i),(9,D.i i)]) (fun gg ss=> []) ?_
 rintro again3 _ _ h
 unfold sorti_L2 at h
 obtain⟨q1,h⟩:=h
 iterate 2 refine g ?_
 refine zav (asg [(0,(zai 3 zbd) data),(1,D.i a),(2,D.i b),(3,.fn (.func g_p) fs_p cs_p),(8,D.i i),(9,D.i i),(34,D.b ((decide (i>a))&&(decide ((p (gi data i) (gi data (i-1)))<0))))]) [] ?_ ?_
 refine zbf (m:=17) mo zK rfl ?_
 iterate 4 refine g ?_
 refine zbr (s:=21) rfl (fun b5=>?_) (fun b5=>?_)
 refine G ?_
 refine dG (oIx (enc:=zbd) ts73 (q1 (decT b5)).1 oR) ?_
 refine G ?_
 refine dG (oSb (q1 (decT b5)).2.1 oR) ?_
 refine dG (oIx (enc:=zbd) ts73 (q1 (decT b5)).2.2.1 oR) ?_
 refine G ?_
 refine dG (OpA.call rfl rfl rfl hen_p (hg_p (gi data i) (gi data (i-1)) (q1 (decT b5)).2.2.2) (by rintro _ rfl; exact⟨rfl,rfl⟩)) ?_
 iterate 2 refine g ?_
 refine DetK.nil ?_
 refine G ?_
 exact⟨(cvB (andN b5 rfl)),(.refl _)⟩
 iterate 13 refine g ?_
 refine DetK.nil ?_
 refine G ?_
 exact⟨(cvB (andS b5)),(.refl _)⟩
 refine zc h (fun _ h=>?_) (fun _ h=>?_)
 exact h.elim
 obtain⟨q1,h⟩:=h
 refine G ?_
 exact⟨(),(i+1),h,cvZ,(.refl _)⟩
 exact⟨_,.nil,_,(.tup .nil .nil),⟨(),rfl,h⟩⟩
theorem sortp_c (data:(List Span))(a:Int)(b:Int)(limit:Int)(g_p:Nat)(fs_p cs_p:List D)(p:Span->Span->Int)(pD:Span->Span->Prop)(hen_p:entersB Tryz.prog g_p=true)(hg_p:∀ x0_ x1_,pD x0_ x1_->Fun false Tryz.prog g_p (fs_p++ [zbd x0_,zbd x1_]++cs_p) (fun d=>d=D.i (p x0_ x1_)))(hp0:data=([]:List Span))(hp1:a=(0:Int))(hp2:b=(0:Int)):Fun false Tryz.prog 178 [(zai 3 zbd) data,D.i a,D.i b,D.i limit,.fn (.func g_p) fs_p cs_p] (fun d=>d= .tup []):=by
 refine fB Tryz.func178 Tryz.ntmps178 (v:=()) (enc:=fun r=> .tup []) (sortp_ok data a b limit p pD _ hp0 hp1 hp2 rfl) fun Q h=>?_
 unfold sortp_vc at h
 refine G ?_
 refine zl h () (fun gg ss=> [(0,(zai 3 zbd) data),(1,D.i a),(2,D.i b),(3,D.i limit),(4,.fn (.func g_p) fs_p cs_p),(10,D.b true),(11,D.b true)]) (fun gg ss=> []) ?_
 rintro again1 _ _ h
 unfold sortp_L1 at h
 obtain⟨q1,h⟩:=h
 refine G ?_
 refine zc h (fun _ h=>?_) (fun _ h=>G ?_)
 obtain⟨q1,q2,q3,h⟩:=h
 refine G ?_
 refine wL (oC (sorti_c data a b g_p fs_p cs_p p pD hen_p hg_p q1 q2 q3) ?_)
 refine G ?_
 exact⟨_,.nil,_,(.tup .nil .nil),⟨(),rfl,h⟩⟩
 refine zc h (fun _ h=>?_) (fun _ h=>?_)
 exact h.elim
 exact h.elim
theorem sort0_c (x:(List Span))(g_p:Nat)(fs_p cs_p:List D)(p:Span->Span->Int)(pD:Span->Span->Prop)(hen_p:entersB Tryz.prog g_p=true)(hg_p:∀ x0_ x1_,pD x0_ x1_->Fun false Tryz.prog g_p (fs_p++ [zbd x0_,zbd x1_]++cs_p) (fun d=>d=D.i (p x0_ x1_)))(hp0:x=([]:List Span)):Fun false Tryz.prog 154 [(zai 3 zbd) x,.fn (.func g_p) fs_p cs_p] (fun d=>d= .tup []):=by
 refine fB Tryz.func154 Tryz.ntmps154 (v:=()) (enc:=fun r=> .tup []) (sort0_ok x p pD _ hp0 rfl) fun Q h=>?_
 unfold sort0_vc at h
 obtain⟨q1,q2,q3,q4,q5,h⟩:=h
 refine G ?_
 refine wL (OpA.conv rfl td3 td169 rfl ?_)
 refine wL (oC (len_c (IntKind.u64.wrap (x.length:Int)) q1 q2) ?_)
 refine G ?_
 refine wL (oC (sortp_c x 0 (x.length:Int) (lenF (IntKind.u64.wrap (x.length:Int))) g_p fs_p cs_p p pD hen_p hg_p q3 q4 q5) ?_)
 refine G ?_
 exact⟨_,.nil,_,(.tup .nil .nil),⟨(),rfl,h⟩⟩
theorem inside_c (s_:Span) :Fun false Tryz.prog 115 [zbd s_] (fun d=>d=D.b (insideF s_)):=by
 refine fB Tryz.func115 Tryz.ntmps115 (inside_ok s_ _  rfl) fun Q h=>?_
 unfold inside_vc at h
 refine G ?_
 refine wL (oB 3 (fun c1 _=>?_))
 iterate 3 refine g ?_
 refine zav (asg [(2,D.b (((decide (0<=s_.from_))&&(decide (s_.from_<s_.to)))&&(decide (s_.to<=1024))))]) [(c1,.cells 3 [zbd s_])] ?_ ?_
 refine G ?_
 refine zp 6 (fun b2=>G ?_) (fun b2=>?_)
 refine zp 13 (fun b3=>G ?_) (fun b3=>?_)
 exact⟨(cvB (andN (andN b2 b3) rfl)),(.refl _)⟩
 refine G ?_
 exact⟨(cvB (andS (andN b2 b3))),(.refl _)⟩
 refine G ?_
 exact⟨(cvB (andS (andS b2))),(.refl _)⟩
 refine G ?_
 exact zr h
theorem behind_c (a:Span)(b:Span) :Fun false Tryz.prog 157 [zbd a,zbd b] (fun d=>d=D.b (behindF a b)):=by
 refine fB Tryz.func157 Tryz.ntmps157 (behind_ok a b _  rfl) fun Q h=>?_
 unfold behind_vc at h
 refine G ?_
 refine wL (oB 3 (fun c1 _=>?_))
 refine wL (oB 3 (fun c2 _=>?_))
 iterate 3 refine g ?_
 refine zav (asg [(4,D.b ((sless a.path b.path)||((decide (a.path=b.path))&&(decide (a.to<b.from_)))))]) [(c2,.cells 3 [zbd b]),(c1,.cells 3 [zbd a])] ?_ ?_
 refine G ?_
 refine wL (OpA.slss rfl rfl rfl ?_)
 refine G ?_
 refine zp 10 (fun b3=>G ?_) (fun b3=>?_)
 iterate 5 refine wpL_skipU rfl rfl rfl rfl rfl ?_
 refine G ?_
 exact⟨(cvB (orS b3)),(.refl _)⟩
 refine G ?_
 refine wG (OpA.seql rfl rfl rfl ?_)
 refine G ?_
 refine zp 16 (fun b4=>G ?_) (fun b4=>?_)
 exact⟨(cvB (orN b3 (andN b4 rfl))),(.refl _)⟩
 refine G ?_
 exact⟨(cvB (orN b3 (andS b4))),(.refl _)⟩
 refine G ?_
 exact zr h
theorem merge1_c (a:Span)(b:Span) :Fun false Tryz.prog 155 [zbd a,zbd b] (fun d=>d=D.i (zbh a b)):=by
 refine fB Tryz.func155 Tryz.ntmps155 (merge1_ok a b _  rfl) fun Q h=>?_
 unfold merge1_vc at h
 refine G ?_
 refine wL (oB 3 (fun c1 _=>?_))
 refine wL (oB 3 (fun c2 _=>?_))
 obtain⟨q1,h⟩:=h
 iterate 3 refine g ?_
 refine zbf (m:=13) mo zK rfl ?_
 refine G ?_
 refine dL (oC (sCompare_c a.path b.path) oR) ?_
 refine G ?_
 refine dL (oC (iCompare_c a.from_ b.from_) oR) ?_
 refine dL (OpA.ibuildSliceO rfl ts41 rfl (.cons (.of (sz:=1) rfl) (.cons (.of (sz:=1) rfl) .nil)) (by decide) oR) ?_
 refine dL (oC (or_c ([(cmpB a.path b.path),(cmpI a.from_ b.from_)]:List Int) q1) oR) ?_
 refine g ?_
 refine DetK.nil ?_
 refine G ?_
 exact zr h
theorem merge_w (l:(List Span))(c_l:Nat)(pre_l post_l:List D)(Q:(List Span)->Prop)(h:merge_vc l Q):CallH Tryz.prog 116 [.own c_l 3 pre_l.length l.length] [(c_l,.cells 3 (zas zbd pre_l l post_l))] (fun d h'=>∃(r:(List Span)) (g:Nat×List D×List D),d= .own g.1 3 g.2.1.length r.length/\h'= [(g.1,.cells 3 (zas zbd g.2.1 r g.2.2))]/\Q r):=by
 unfold merge_vc at h
 refine CallH.of_bodyP Tryz.func116 rfl Tryz.ntmps116 rfl ?_
 iterate 2 refine g ?_
 refine wL (OpA.asnG (T:=Span) (enc:=zbd) (sz:=3) rfl rfl (fun c2_g1=>?_))
 obtain⟨q1,h⟩:=h
 refine G ?_
 refine wL (OpA.sortW (enc:=zbd) (encV:=valSpan) Tryz.sortSpan Tryz.isAgg191 Tryz.sizeOf191 (fun _=>rfl) valSpan_one (fun _=>rfl) (cf:=zbh) (xs:=l) rfl rfl rfl rfl zK rfl rfl rfl zK (fun a b=> @merge1_c flYes a b) (sort0_c [] 155 [] [] zbh (fun _ _=>True) zK (fun a b _=>merge1_c a b) rfl) q1 (.tail .head) ?_)
 iterate 3 refine g ?_
 refine wL (OpA.asnG (T:=Span) (enc:=zbd) (sz:=3) rfl rfl (fun c3_g2=>?_))
 iterate 3 refine g ?_
 refine wpA_cov (fr0:=asg [(0,.own c_l 3 pre_l.length (sortF zbh l).length),(2,.own c2_g1 3 ([]:List D).length ([]:List Span).length),(3,.own c3_g2 3 ([]:List D).length ([]:List Span).length),(7,.own c_l 3 pre_l.length (sortF zbh l).length),(8,.tup [])]) (Cov.asg ⟨(congrArg (D.own c_l 3 pre_l.length) (by simp only [zan,zah,zac zam,zac zaf,zac zal]<;>rfl)),rfl,rfl,(congrArg (D.own c_l 3 pre_l.length) (by simp only [zan,zah,zac zam,zac zaf,zac zal]<;>rfl)),rfl,trivial⟩) ?_
 iterate 2 refine g ?_
 refine wL (OpA.len rfl rfl rfl rfl ts73.desc (.inr (.inl ⟨_,_,_,rfl⟩)) ?_)
 refine G ?_
 refine zl h (c3_g2,([]:List D),([]:List D)) (fun gg ss=> [(2,.own c2_g1 3 ([]:List D).length ([]:List Span).length),(3,.own gg.1 3 gg.2.1.length ss.1.length),(9,.own c_l 3 pre_l.length (sortF zbh l).length),(10,D.i ((sortF zbh l).length:Int)),(11,D.i ss.2)]) (fun gg ss=> [(gg.1,.cells 3 (zas zbd gg.2.1 ss.1 gg.2.2)),(c2_g1,.cells 3 (zas zbd ([]:List D) ([]:List Span) ([]:List D))),(c_l,.cells 3 (zas zbd pre_l (sortF zbh l) post_l))]) ?_
 rintro again3 ⟨cb3,pre3,post3⟩ ⟨out,x⟩ h
 dsimp only at h
 unfold merge_L1 at h
 refine G ?_
 refine zc h (fun _ h=>?_) (fun _ h=>G ?_)
 obtain⟨q1,h⟩:=h
 refine G ?_
 refine wL (oIv ts73 q1 ?_)
 refine wL (OpA.load_whole rfl ti191 rfl rfl (.tail (.tail .head)) (getV (enc:=zbd) q1) ⟨_,rfl⟩ ?_)
 refine wL (oA 3 (zbd (Span.mk ByteArray.empty 0 0)) tz191 (fun c5 _=>?_))
 refine g ?_
 obtain⟨q1,h⟩:=h
 iterate 4 refine g ?_
 refine wL (OpA.len rfl rfl rfl rfl ts74.desc (.inr (.inl ⟨_,_,_,rfl⟩)) ?_)
 obtain⟨q1,h⟩:=h
 iterate 4 refine g ?_
 refine zav (asg [(2,.own c2_g1 3 ([]:List D).length ([]:List Span).length),(3,.own cb3 3 pre3.length out.length),(5,.ptr c5 3 0 0),(6,D.i ((out.length:Int)-1)),(9,.own c_l 3 pre_l.length (sortF zbh l).length),(10,D.i ((sortF zbh l).length:Int)),(11,D.i x),(28,D.b ((decide (((out.length:Int)-1)>=0))&&(!(behindF (gi out ((out.length:Int)-1)) (gi (sortF zbh l) x)))))]) [(c5,.cells 3 [zbd (gi (sortF zbh l) x)]),(cb3,.cells 3 (zas zbd pre3 out post3)),(c2_g1,.cells 3 (zas zbd ([]:List D) ([]:List Span) ([]:List D))),(c_l,.cells 3 (zas zbd pre_l (sortF zbh l) post_l))] ?_ ?_
 refine zbf (m:=11) mo zK rfl ?_
 iterate 3 refine g ?_
 refine zbr (s:=20) rfl (fun b9=>?_) (fun b9=>?_)
 refine G ?_
 refine dG (oIv ts74 (q1 (decT b9)) oR) ?_
 refine dG (OpA.load_whole rfl ti191 rfl rfl (.tail .head) (getV (enc:=zbd) (q1 (decT b9))) ⟨_,rfl⟩ oR) ?_
 refine G ?_
 refine dG (oC (behind_c (gi out ((out.length:Int)-1)) (gi (sortF zbh l) x)) oR) ?_
 iterate 2 refine g ?_
 refine DetK.nil ?_
 refine G ?_
 exact⟨(cvB (andN b9 rfl)),(.refl _)⟩
 iterate 8 refine g ?_
 refine DetK.nil ?_
 refine G ?_
 exact⟨(cvB (andS b9)),(.refl _)⟩
 refine zc h (fun _ h=>?_) (fun _ h=>?_)
 obtain⟨q1,h⟩:=h
 refine zbf (m:=12) mo zK rfl ?_
 refine G ?_
 refine dL (oIv ts74 q1 oR) ?_
 refine G ?_
 refine dL (OpA.load rfl ti3 rfl (.tail .head) (getV (enc:=zbd) q1) rfl oR) ?_
 refine G ?_
 refine dL (OpA.max (l:= [_]) rfl rfl rfl rfl oR) ?_
 refine dL (oIv ts74 q1 oR) ?_
 refine g ?_
 refine DetK.nil ?_
 refine wE (OpA.storeVf (enc:=zbd) (v:=(Span.mk ((gi out ((out.length:Int)-1)).path) ((gi out ((out.length:Int)-1)).from_) (gmax ((gi out ((out.length:Int)-1)).to) [(gi (sortF zbh l) x).to]))) rfl ti3 rfl (.of rfl) (Nat.le_of_ble_eq_true rfl) rfl q1 (.tail .head) ?_)
 obtain⟨q1,h⟩:=h
 refine G ?_
 exact⟨(cb3,pre3,post3),((si out ((out.length:Int)-1) (Span.mk ((gi out ((out.length:Int)-1)).path) ((gi out ((out.length:Int)-1)).from_) (gmax ((gi out ((out.length:Int)-1)).to) [(gi (sortF zbh l) x).to]))),(x+1)),h,(Cov.asg ⟨rfl,(congrArg (D.own cb3 3 pre3.length) (by simp only [zan,zah,zac zam,zac zaf,zac zal]<;>rfl)),rfl,rfl,rfl,trivial⟩),(.cons _ (.refl _))⟩
 obtain⟨q1,h⟩:=h
 refine G ?_
 refine wL (OpA.ibuildSliceO rfl ts74 rfl (.cons (.of (sz:=3) rfl) .nil) (by decide) ?_)
 refine wL (OpA.appendW (enc:=zbd) rfl rfl rfl rfl ts74 rfl (fun _ _=>(.tail .head)) (.list (ys:=([(gi (sortF zbh l) x)]:List Span))) q1 (fun c7 pre8=>?_))
 obtain⟨q1,h⟩:=h
 refine G ?_
 exact⟨(c7,pre8,([]:List D)),((out++([(gi (sortF zbh l) x)]:List Span)),(x+1)),h,cvZ,(.cons _ (.refl _))⟩
 exact⟨_,(.tmp (d:= .own cb3 3 pre3.length out.length) rfl .nil),[(cb3,.cells 3 (zas zbd pre3 out post3)),(c2_g1,.cells 3 (zas zbd ([]:List D) ([]:List Span) ([]:List D))),(c_l,.cells 3 (zas zbd pre_l (sortF zbh l) post_l))],[(cb3,.cells 3 (zas zbd pre3 out post3))],(.refl _),(.cons₂ _ (.cons _ (.cons _ (.refl _)))),out,(cb3,pre3,post3),rfl,rfl,h⟩
theorem merge_c (l:(List Span))(c_l:Nat)(pre_l post_l:List D)(hp0:l.length<=1000000):CallH Tryz.prog 116 [.own c_l 3 pre_l.length l.length] [(c_l,.cells 3 (zas zbd pre_l l post_l))] (fun d h'=>∃(g:Nat×List D×List D),d= .own g.1 3 g.2.1.length (mergeF l).length/\h'= [(g.1,.cells 3 (zas zbd g.2.1 (mergeF l) g.2.2))]):=
 (merge_w l c_l pre_l post_l  (fun r=>r=mergeF l) (merge_ok l _ hp0 rfl)).mono (by rintro d h' ⟨r,g,hd,hh,rfl⟩; exact⟨g,hd,hh⟩)
theorem of_c (l:(List Line))(hp0:l.length<=1000000)(hp1:∀ z_∈l,z_.path.size<=1000000):Fun false Tryz.prog 71 [(zai 2 encLine) l] (fun d=>d= .tup [(zai 3 zbd) ((ofF l).1),D.i ((ofF l).2)]):=by
 refine fB Tryz.func71 Tryz.ntmps71 (v:=ofF l) (enc:=fun r=> .tup [(zai 3 zbd) (r.1),D.i (r.2)]) (of_ok l _ hp0 hp1 rfl) fun Q h=>?_
 unfold of_vc at h
 obtain⟨q1,h⟩:=h
 refine G ?_
 refine wL (OpA.makeSliceV (enc:=zbd) (v0:=(Span.mk ByteArray.empty 0 0)) rfl ts73 rfl rfl tz191 (fun _ _=> .agg (.cons (.v _) (.cons (.v _) (.cons (.v _) .nil)))) (.of rfl) q1 (fun c1=>?_))
 refine G ?_
 refine zl h (c1,([]:List D),([]:List D)) (fun gg ss=> [(2,.v (.slice none 0 0)),(3,D.i 0),(4,.own gg.1 3 gg.2.1.length ss.1.length),(11,(zai 2 encLine) l),(12,D.i (l.length:Int)),(13,D.i ss.2)]) (fun gg ss=> [(gg.1,.cells 3 (zas zbd gg.2.1 ss.1 gg.2.2))]) ?_
 rintro again2 ⟨cb10,pre10,post10⟩ ⟨spans,x⟩ h
 dsimp only at h
 unfold of_L1 at h
 refine G ?_
 refine zc h (fun _ h=>?_) (fun _ h=>?_)
 obtain⟨q1,h⟩:=h
 refine G ?_
 refine wL (oIx (enc:=encLine) ts147 q1 ?_)
 refine G ?_
 refine wL (oA 2 (encLine (Line.mk ByteArray.empty 0)) tz149 (fun c4 _=>?_))
 refine G ?_
 refine wL (OpA.add rfl rfl rfl ?_)
 refine wL (oU [.v (.string ⟨#[]⟩),.v (.int .i64 0),.v (.int .i64 0)] tp191 tz191 ?_)
 refine wL (oA 3 (zbd (Span.mk ByteArray.empty 0 0)) tz191 (fun c5 _=>?_))
 refine G ?_
 obtain⟨q1,h⟩:=h
 refine G ?_
 refine wL (oC (path_c ((gi l x).path) q1) ?_)
 refine G ?_
 refine zc h (fun _ h=>G ?_) (fun _ h=>G ?_)
 exact⟨_,(.tmp (d:= .v (.slice none 0 0)) rfl (.tmp (d:=D.i 2) rfl .nil)),_,(.tup (.nilv (sz:=3) (.same rfl .nil)) .nil),⟨([],2),rfl,h⟩⟩
 refine wL (oC (inside_c (Span.mk ((gi l x).path) ((gi l x).n) (IntKind.i64.wrap (((gi l x).n)+1)))) ?_)
 refine G ?_
 refine zc h (fun _ h=>G ?_) (fun _ h=>?_)
 exact⟨_,(.tmp (d:= .v (.slice none 0 0)) rfl (.tmp (d:=D.i 3) rfl .nil)),_,(.tup (.nilv (sz:=3) (.same rfl .nil)) .nil),⟨([],3),rfl,h⟩⟩
 obtain⟨q1,h⟩:=h
 refine G ?_
 refine wL (OpA.ibuildSliceO rfl ts73 rfl (.cons (.of (sz:=3) rfl) .nil) (by decide) ?_)
 refine wL (OpA.appendW (enc:=zbd) rfl rfl rfl rfl ts73 rfl (fun _ _=>(.tail (.tail .head))) (.list (ys:=([(Span.mk ((gi l x).path) ((gi l x).n) (IntKind.i64.wrap (((gi l x).n)+1)))]:List Span))) q1 (fun c8 pre9=>?_))
 refine G ?_
 refine wL (OpA.add rfl rfl rfl ?_)
 refine G ?_
 exact⟨(c8,pre9,([]:List D)),((spans++([(Span.mk ((gi l x).path) ((gi l x).n) (IntKind.i64.wrap (((gi l x).n)+1)))]:List Span)),(IntKind.i64.wrap (x+1))),h,cvZ,(.cons _ (.cons _ (.refl _)))⟩
 obtain⟨q1,h⟩:=h
 refine G ?_
 refine wL (OpA.callH rfl rfl rfl zK (h1:= [(cb10,.cells 3 (zas zbd pre10 spans post10))]) (h2:= []) (.refl _) (merge_c spans cb10 pre10 post10 q1) ?_)
 rintro _ _ ⟨⟨c10,pre11,post12⟩,rfl,rfl⟩
 refine G ?_
 exact⟨_,(.tmp (d:= .own c10 3 pre11.length (mergeF spans).length) rfl (.tmp (d:=D.i 0) rfl .nil)),_,(.tup (.win .head (by intro hf; cases hf) (.same rfl .nil)) .nil),⟨((mergeF spans),0),rfl,h⟩⟩
end Go.Proofs.YtkifpidbpoghlaaGreatDoor
set_option linter.all false
namespace Go.Lic
open Go.Proofs Go.Sort Go.Shelf
theorem gi_siA {α:Type} [Inhabited α]{l:List α}{i:Int}(h:inL i l.length)(v:α){j:Int}(hj:0<=j):gi (si l i v) j=if j=i then v else gi l j:=by
 unfold gi si
 rw [List.getD_eq_getElem?_getD,List.getElem?_set,List.getD_eq_getElem?_getD]
 by_cases e:j=i
 · subst e
   rw [if_pos rfl,if_pos rfl,if_pos (by omega)]; rfl
 · rw [if_neg e,if_neg (by omega)]
theorem checkA_zero {c:Corpus}{t:Text}{least:Int}{a:Attribution}:checkA c t least a=0↔rightA c t least=0/\a.path=t.path/\checkPs c t least 0 a.pieces=0:=by
 unfold checkA
 by_cases h:rightA c t least=0
 · rw [if_pos h]
   by_cases hp:a.path=t.path
   · rw [if_pos hp]; exact⟨fun e=>⟨h,hp,e⟩,fun e=>e.2.2⟩
   · rw [if_neg hp]; exact⟨fun e=>(by cases e),fun e=>absurd e.2.1 hp⟩
 · rw [if_neg h]; exact⟨fun e=>absurd e h,fun e=>absurd e.1 h⟩
abbrev shareS (out:List Int)(p:Piece):List Int:=si out p.text (gi out p.text+(p.to-p.from_))
structure ShareI (c:Corpus)(t:Text)(e:Int)(out:List Int)(l:List Piece):Prop where
 len:out.length=c.texts.length
 e0:0<=e
 e1:e<=t.words.length
 chk:checkPs c t 1 e l=0
 bd:∀ i:Int,inL i out.length->0<=gi out i/\gi out i<=e
theorem ShareI.step {c:Corpus}{t:Text}{e:Int}{out:List Int}{p:Piece}{l:List Piece}(h:ShareI c t e out (p::l)):ShareI c t p.to (shareS out p) l/\inL p.text out.length/\0<=p.from_/\p.from_<p.to/\p.to<=t.words.length/\e<=p.from_:=by
 obtain⟨h1,h2,h3⟩:=checkPs_cons.1 h.chk
 obtain⟨⟨k1,k2,k3⟩,_,k4,_⟩:=(pieceOk_iff _ _ _ _).1 h1
 have hx:inL p.text out.length:=by rw [h.len]; exact k4
 refine⟨⟨by rw [zan]; exact h.len,by omega,k3,h3,fun i hi=>?_⟩,hx,k1,k2,k3,h2⟩
 rw [zan]at hi
 rw [gi_siA hx _ hi.1]
 have:=h.bd i hi; have:=h.bd _ hx; have:=h.e0
 split<;>omega
theorem gi_rep {n:Nat}{i:Int}:gi (List.replicate n (0:Int)) i=0:=by
 unfold gi
 rw [List.getD_eq_getElem?_getD,List.getElem?_replicate]
 split<;>rfl
theorem ShareI.start {c:Corpus}{t:Text}{a:Attribution}(h:checkA c t 1 a=0):ShareI c t 0 (List.replicate c.texts.length 0) a.pieces:=
 ⟨by simp,by omega,by omega,(checkA_zero.1 h).2.2,fun i _=>by rw [gi_rep]; omega⟩
theorem tshare_ok (c:Corpus)(t:Text)(a:Attribution)(Q:(List Int)×Int->Prop)(hp0:okC c)(hp1:okT t)(hp2:okA a)(h:Q (shareF c t a)):tshare_vc c t a Q:=by
 unfold shareF at h
 have hcl:=hp0.1.1; have htl:=hp1.2.1; have hal:=hp2.2
 refine⟨hp0,hp1,fun hb=>by rw [hb]at h; exact h,fun hb=>⟨hp0,hp1,hp2,fun hn=>?_,fun hz=>⟨⟨by omega,by omega,by omega⟩,?_⟩⟩⟩
 · rw [hb,if_pos rfl,if_neg hn]at h; exact h
 · rw [hb,if_pos rfl,if_pos hz]at h
   refine lfp2 (tshare_L1 a Q) (fun out x=>0<=x/\x<=a.pieces.length/\(∃ e,ShareI c t e out (a.pieces.drop x.toNat))/\(a.pieces.drop x.toNat).foldl shareS out=shareL c.texts.length a.pieces) (fun _ x=>(a.pieces.length-x).toNat) (fun out x hst again hag=>?_) ⟨by omega,by omega,⟨0,ShareI.start (t:=t) hz⟩,rfl⟩
   obtain⟨h0,h1,⟨e,h2⟩,h3⟩:=hst
   refine⟨fun hlt=>?_,fun hn=>?_⟩
   · rw [zbn (x:=x) (by omega)]at h2 h3
     obtain⟨s1,s2,s3,s4,s5,s6⟩:=h2.step
     have:=h2.bd _ s2; have:=h2.e1; have:=h2.e0
     exact⟨by omega,s2,by omega,by omega,by omega,hag _ _ ⟨by omega,by omega,⟨(gi a.pieces x).to,s1⟩,h3⟩ (by omega)⟩
   · rw [zbv (by omega)]at h3
     rw [<- h3]at h; exact h
end Go.Lic
set_option linter.all false
namespace Go.Lic
open Go.Proofs Go.Sort Go.Shelf
theorem common_drop {A B:List Lexeme}{i j:Int}(hi:inL i A.length)(hj:inL j B.length)(h:(gi A i).text=(gi B j).text):zba (A.drop i.toNat) (B.drop j.toNat)=zba (A.drop (i+1).toNat) (B.drop (j+1).toNat)+1:=by
 rw [zbn hi,zbn hj,zba,if_pos h]
theorem common_stop {A B:List Lexeme}{i j:Int}(hi:0<=i)(hj:0<=j)(h:¬i<A.length\/¬j<B.length\/(inL i A.length/\inL j B.length/\¬(gi A i).text=(gi B j).text)):zba (A.drop i.toNat) (B.drop j.toNat)=0:=by
 rcases h with h|h|⟨h1,h2,h3⟩
 · rw [zbv h]; rfl
 · rw [zbv h]; exact common_nilR _
 · rw [zbn h1,zbn h2,zba,if_neg h3]
end Go.Lic
set_option linter.all false
namespace Go.Lic
open Go.Proofs Go.Sort Go.Shelf
theorem longW_succ {ts:List Text}{a:List Lexeme}{x:Int}(h:inL x ts.length):longW (ts.take (x+1).toNat) a=max (longW (ts.take x.toNat) a) (runMax a (gi ts x).words):=by
 unfold longW
 rw [show(x+1).toNat=x.toNat+1 by omega,List.take_succ,gi_get? h,List.foldl_append]; rfl
theorem runMax_drop {a l:List Lexeme}{j:Int}(h:inL j l.length):runMax a (l.drop j.toNat)=max (zba (l.drop j.toNat) a) (runMax a (l.drop (j+1).toNat)):=by
 rw [zbn h]; rfl
theorem gi_replA {n:Int}{i:Int}:gi (List.replicate n.toNat (0:Int)) i=0:=gi_rep
structure LongJ (c:Corpus)(t:Text)(x:Int)(runs out:List Int)(ix:Int):Prop where
 lo: -1<=ix
 hi:ix<=(t.words.length:Int)-1
 lr:(runs.length:Int)=(gi c.texts x).words.length+1
 lo':out.length=t.words.length
 rn:∀ j:Int,0<=j->j<=(gi c.texts x).words.length->gi runs j=(zba ((gi c.texts x).words.drop j.toNat) (t.words.drop (ix+1).toNat):Nat)
 ou:∀ i:Int,inL i t.words.length->gi out i=if i<=ix then((longW (c.texts.take x.toNat) (t.words.drop i.toNat):Nat):Int)else((longW (c.texts.take (x+1).toNat) (t.words.drop i.toNat):Nat):Int)
theorem longAF_gi {c:Corpus}{t:Text}{j:Int}(h:inL j t.words.length):gi (longAF c t) j=((longW c.texts (t.words.drop j.toNat):Nat):Int):=by
 unfold longAF
 rw [gi_map (by rw [longsN_len]; exact h)]
 have:=longsN_get c.texts t.words j.toNat (by omega)
 rw [<- this]; rfl
theorem tlongest_ok (c:Corpus)(t:Text)(Q:(List Int)->Prop)(hp0:okC c)(hp1:okT t)(h:Q (longAF c t)):tlongest_vc c t Q:=by
 have hcl:=hp0.1.1; have htl:=hp1.2.1
 refine⟨⟨by omega,by omega,by omega⟩,?_⟩
 refine lfp2 (tlongest_L1 c t Q) (fun out x=>0<=x/\x<=c.texts.length/\out.length=t.words.length/\∀ i:Int,inL i t.words.length->gi out i=((longW (c.texts.take x.toNat) (t.words.drop i.toNat):Nat):Int)) (fun _ x=>(c.texts.length-x).toNat) (fun out x hst again hag=>?_) ⟨by omega,by omega,by simp,fun i hi=>by rw [gi_replA]; simp [longW]⟩
 obtain⟨h0,h1,h2,h3⟩:=hst
 refine⟨fun hlt=>?_,fun hn=>?_⟩
 · have hx : inL x c.texts.length:=by omega
   have hkl:=(hp0.1.2 _ (gi_mem hx)).2.1
   refine⟨hx,by omega,⟨by omega,by omega,by omega⟩,by omega,(fun s=>LongJ c t x s.1.1 s.1.2 s.2),⟨by simp only; omega,by simp only; omega,by simp only [List.length_replicate]; omega,h2,fun j k0 k1=>?_,fun i hi=>?_⟩,?_⟩
   · simp only
     rw [gi_replA,show((t.words.length:Int)-1+1).toNat=t.words.length by omega,List.drop_length,common_nilR]; rfl
   · simp only
     rw [if_pos (by omega)]; exact h3 i hi
   rintro⟨⟨runs,out1⟩,ix⟩ J
   simp only at J ⊢
   have jl:=J.lo; have jh:=J.hi; have jr:=J.lr; have jo:=J.lo'
   refine⟨fun hix=>?_,fun hn=>⟨by omega,hag _ _ ⟨by omega,by omega,J.lo',fun i hi=>?_⟩ (by omega)⟩⟩
   · have hixl:inL ix t.words.length:=by omega
     refine lfp3 (tlongest_L3 c t x ix _) (fun rs os y=>0<=y/\y<=(gi c.texts x).words.length/\(rs.length:Int)=(gi c.texts x).words.length+1/\os.length=t.words.length/\
         (∀ j:Int,0<=j->j<=(gi c.texts x).words.length->gi rs j=if j<y then((zba ((gi c.texts x).words.drop j.toNat) (t.words.drop ix.toNat):Nat):Int)else((zba ((gi c.texts x).words.drop j.toNat) (t.words.drop (ix+1).toNat):Nat):Int))/\
         (∀ i:Int,inL i t.words.length->i≠ix->gi os i=gi out1 i)/\max (gi os ix) ((runMax (t.words.drop ix.toNat) ((gi c.texts x).words.drop y.toNat):Nat):Int)=((longW (c.texts.take (x+1).toNat) (t.words.drop ix.toNat):Nat):Int)/\0<=gi os ix)
       (fun _ _ y=>((gi c.texts x).words.length-y).toNat) (fun rs os y hst again12 hag12=>?_) ⟨by omega,by omega,J.lr,J.lo',fun j k0 k1=>by rw [if_neg (by omega)]; exact J.rn j k0 k1,fun _ _ _=>rfl,?_,by have e1:=J.ou ix hixl; rw [if_pos (by omega)]at e1; omega⟩
     · obtain⟨g0,g1,g2,g3,g4,g5,g6,g7⟩:=hst
       have fin:∀ v:Int,y<(gi c.texts x).words.length->v=((zba ((gi c.texts x).words.drop y.toNat) (t.words.drop ix.toNat):Nat):Int)->tlongest_J1 ix os y again12 (si rs y v):=fun v hlt hv=>by
         have hyl:inL y rs.length:=by omega
         have hol:inL ix os.length:=by omega
         have e1:gi (si rs y v) y=v:=by rw [gi_siA hyl v (by omega),if_pos rfl]
         refine⟨hol,by rw [zan]; exact hyl,by omega,hag12 _ _ _ ⟨by omega,by omega,by rw [zan]; exact g2,by rw [zan]; exact g3,fun j k0 k1=>?_,fun i hi hne=>?_,?_,?_⟩ (by omega)⟩
         · rw [gi_siA hyl v k0]
           by_cases hj:j=y
           · subst hj; rw [if_pos rfl,if_pos (by omega)]; exact hv
           · rw [if_neg hj,g4 j k0 k1]
             by_cases hlt2:j<y
             · rw [if_pos hlt2,if_pos (by omega)]
             · rw [if_neg hlt2,if_neg (by omega)]
         · rw [gi_siA hol _ hi.1,if_neg hne]; exact g5 i hi hne
         · rw [gi_siA hol _ hixl.1,if_pos rfl,gmax1,e1,hv]
           rw [runMax_drop (by omega)]at g6
           omega
         · rw [gi_siA hol _ hixl.1,if_pos rfl,gmax1]; omega
       refine⟨fun hlt=>⟨by omega,fun he=>?_,fun hne=>⟨by omega,fin 0 hlt ?_⟩⟩,fun hn=>?_⟩
       · have e1:=g4 (y+1) (by omega) (by omega)
         rw [if_neg (by omega)]at e1
         have b1:=(common_le ((gi c.texts x).words.drop (y+1).toNat) (t.words.drop (ix+1).toNat)).1
         rw [List.length_drop]at b1
         refine⟨by omega,by omega,by omega,by omega,fin _ hlt ?_⟩
         rw [common_drop (i:=y) (j:=ix) (by omega) hixl he,e1]; omega
       · rw [common_stop (i:=y) (j:=ix) (by omega) (by omega) (.inr (.inr ⟨by omega,hixl,hne⟩))]; rfl
       · have hy:y=(gi c.texts x).words.length:=by omega
         refine⟨by omega,by omega,g2,g3,fun j k0 k1=>?_,fun i hi=>?_⟩
         · simp only
           rw [show ix-1+1=ix by omega]
           by_cases hj:j<y
           · rw [g4 j k0 k1,if_pos hj]
           · have e1:=g4 j k0 k1
             rw [if_neg hj]at e1
             have hjd:(gi c.texts x).words.drop j.toNat= []:=List.drop_eq_nil_of_le (by omega)
             rw [hjd]at e1 ⊢; rw [e1]; rfl
         · simp only
           rw [zbv (l:=(gi c.texts x).words) (by omega)]at g6
           have e0:runMax (t.words.drop ix.toNat) []=0:=rfl
           rw [e0]at g6
           by_cases hie:i=ix
           · subst hie
             rw [if_neg (by omega)]
             have:=J.ou i hi
             omega
           · rw [g5 i hi hie,J.ou i hi]
             by_cases hl:i<=ix
             · rw [if_pos hl,if_pos (by omega)]
             · rw [if_neg hl,if_neg (by omega)]
     · have e1:=J.ou ix hixl
       rw [if_pos (by omega)]at e1
       rw [e1,longW_succ hx]
       simp only [Int.toNat_zero,List.drop_zero]
       omega
   · have:=J.ou i hi
     rw [if_neg (by omega)]at this
     exact this
 · have hx:x.toNat=c.texts.length:=by omega
   rw [hx,List.take_length]at h3
   have e:out=longAF c t:=by
     refine list_ext_gi (by simp [longAF,longsN_len,h2]) fun j k0 k1=>?_
     rw [h3 j (by omega)]
     exact(longAF_gi (by omega)).symm
   rw [e]; exact h
end Go.Lic
set_option linter.all false
namespace Go.Lic
open Go.Proofs Go.Sort Go.Shelf
def negV (v:Val3):Int×Int:=(v.1,-v.2.1)
theorem cmpL_two (a b c d:Int):0<=cmpL [a,b] [c,d]↔¬(a<c\/(a=c/\b<d)):=by
 simp only [cmpL,cmpI]
 by_cases h1:a<c
 · simp [h1]
 · by_cases h2:c<a
   · simp [h1,h2]; omega
   · have:a=c:=by omega
     subst this
     by_cases h3:b<d
     · simp [h3]
     · by_cases h4:d<b
       · simp [h3,h4]
       · simp [h3,h4]
theorem better_take (rest:List Val3)(cur:Val3)(k:Nat):negV (takeV rest cur k)=betterP (negV cur) (afterP (negV (rest.getD (k-1) default)) k):=by
 unfold takeV betterP
 by_cases h:betV (cur.1,cur.2.1) ((candV rest k).1,(candV rest k).2.1)=true
 · rw [if_pos h,if_pos]
   rw [cmpL_two]
   rw [betV_iff]at h
   simp only [negV,afterP,candV]at h ⊢
   omega
 · rw [if_neg h]
   rw [betV_iff]at h
   by_cases h2:0<=cmpL [(negV cur).1,(negV cur).2] [(afterP (negV (rest.getD (k-1) default)) k).1,(afterP (negV (rest.getD (k-1) default)) k).2]
   · rw [if_pos h2]
     rw [cmpL_two]at h2
     simp only [negV,afterP,candV,Prod.mk.injEq]at h h2 ⊢; omega
   · rw [if_neg h2]
     simp only [negV,afterP,candV]
     congr 1; omega
theorem valA_bd {L:Nat}(hl:0<L):∀(n:Nat) (los:List Nat),los.length=n->Fit los->0<=(valA L los).1/\(valA L los).1<=los.length/\0<=(valA L los).2.1/\(valA L los).2.1<=los.length/\(valA L los).2.2<=los.length:=by
 intro n
 induction n using Nat.strongRecOn with
 | _ n ih=>
   intro los hn hf
   match los,hn,hf with
   | [],_,_=>have e:valA L []=(0,0,0):=rfl; rw [e]; simp
   | lo::los,hn,hf=>
     simp only [List.length_cons]at hn
     have C:=stepV_chosen hl (dpL L los) lo
     rw [<- valA_cons]at C
     by_cases hz:(valA L (lo::los)).2.2=0
     · have e:=C.len0 hz
       have e0:(dpL L los).headD default=valA L los:=rfl
       rw [e0]at e
       have i:=ih los.length (by omega) los rfl hf.2
       simp only [val2,Prod.mk.injEq]at e
       simp only [List.length_cons]
       omega
     · obtain⟨h1,h2⟩:=C.len1 hz
       have h3:=fromTo_mem.1 h1
       have h4:=hf.1
       rw [cand_eq (by omega) (by omega)]at h2
       have i:=ih (los.drop ((valA L (lo::los)).2.2-1)).length (by rw [List.length_drop]; omega) _ rfl (fit_drop _ hf.2)
       rw [List.length_drop]at i
       have e1:=congrArg (fun v:Val3=>v.1) h2
       have e2:=congrArg (fun v:Val3=>v.2.1) h2
       simp only at e1 e2
       simp only [List.length_cons]
       omega
theorem takes_succ {L lo k:Nat}(h1:L<=k)(h2:k<=lo):(fromTo L lo).take (k+1-L)=(fromTo L lo).take (k-L)++ [k]:=by
 rw [show k+1-L=k-L+1 by omega,List.take_succ]
 congr 1
 unfold fromTo
 rw [List.getElem?_map,List.getElem?_range (by omega)]
 simp; omega
theorem takes_all {L lo k:Nat}(h:lo<k):(fromTo L lo).take (k-L)=fromTo L lo:=by
 apply List.take_of_length_le
 simp [fromTo]; omega
def curV (L:Nat)(los:List Nat)(lo k:Nat):Val3:=((fromTo L lo).take (k-L)).foldl (takeV (dpL L los)) ((valA L los).1,(valA L los).2.1,0)
theorem curV_start (L:Nat)(los:List Nat)(lo:Nat):curV L los lo L=((valA L los).1,(valA L los).2.1,0):=by unfold curV; simp
theorem curV_succ {L lo k:Nat}(los:List Nat)(h1:L<=k)(h2:k<=lo):curV L los lo (k+1)=takeV (dpL L los) (curV L los lo k) k:=by
 unfold curV
 rw [takes_succ h1 h2,List.foldl_append]; rfl
theorem curV_end {L lo k:Nat}(los:List Nat)(h:lo<k):curV L los lo k=valA L (lo::los):=by
 unfold curV
 rw [takes_all h]; rfl
theorem cutL_skip :∀(s i:Nat) (l:List Nat),s<=l.length->cutL i s l=cutL (i+s) 0 (l.drop s)
 |0,i,l,_=>by rw [List.drop_zero]; rfl
 |s+1,i,[],h=>by simp at h
 | s+1,i,x::l,h=>by
   rw [cutL,cutL_skip s (i+1) l (by simpa using h),List.drop_succ_cons]
   congr 1; omega
abbrev losA (c:Corpus)(t:Text):List Nat:=longsN c.texts t.words
theorem los_at {c:Corpus}{t:Text}{i:Int}(h:inL i t.words.length):(losA c t).drop i.toNat=longW c.texts (t.words.drop i.toNat)::(losA c t).drop (i+1).toNat:=by
 rw [drop_getD (by rw [longsN_len]; omega),longsN_get _ _ _ (by omega),show(i+1).toNat=i.toNat+1 by omega]
def lenA (L:Nat)(c:Corpus)(t:Text)(i:Int):Nat:=(valA L ((losA c t).drop i.toNat)).2.2
theorem lens_at {L:Nat}{c:Corpus}{t:Text}{i:Int}(h:inL i t.words.length):(lenL c t L).drop i.toNat=lenA L c t i::(lenL c t L).drop (i+1).toNat:=by
 unfold lenL lenA
 rw [<- List.map_drop,<-List.map_drop,dpL_drop _ _ _ (by rw [longsN_len]; omega),dpL_drop _ _ _ (by rw [longsN_len]; omega)]
 rw [los_at h,dpL,List.map_cons,valA_cons]
theorem lens_end {L:Nat}{c:Corpus}{t:Text}{i:Int}(h:i=t.words.length):cutL i.toNat 0 ((lenL c t L).drop i.toNat)= []:=by
 unfold lenL
 rw [<- List.map_drop,dpL_drop _ _ _ (by rw [longsN_len]; omega),List.drop_eq_nil_of_le (by rw [longsN_len]; omega)]
 rfl
theorem lenL_len {L:Nat}{c:Corpus}{t:Text}:(lenL c t L).length=t.words.length+1:=by
 unfold lenL; rw [List.length_map,dpL_len,longsN_len]
def restP (c:Corpus)(t:Text)(L:Nat)(i:Int):List Piece:=(cutL i.toNat 0 ((lenL c t L).drop i.toNat)).map (pieceF c t)
theorem restP_zero (c:Corpus)(t:Text)(L:Nat):restP c t L 0=piecesF c t L:=rfl
theorem restP_end {c:Corpus}{t:Text}{L:Nat}{i:Int}(h:i=t.words.length):restP c t L i= []:=by unfold restP; rw [lens_end h]; rfl
theorem restP_skip {c:Corpus}{t:Text}{L:Nat}{i:Int}(h:inL i t.words.length)(hz:lenA L c t i=0):restP c t L i=restP c t L (i+1):=by
 unfold restP
 rw [lens_at h,hz,cutL,show(i+1).toNat=i.toNat+1 by omega]
theorem lenA_bd {L:Nat}(hl:0<L){c:Corpus}{t:Text}{i:Int}(h:inL i t.words.length):(lenA L c t i:Int)<=t.words.length-i:=by
 have:=(valA_bd hl _ ((losA c t).drop i.toNat) rfl (fit_drop _ (fit_longs _ _))).2.2.2.2
 rw [List.length_drop,longsN_len]at this
 unfold lenA; omega
theorem restP_take {c:Corpus}{t:Text}{L:Nat}(hl:0<L){i:Int}(h:inL i t.words.length)(hz:lenA L c t i≠0):
   restP c t L i=⟨i,i+lenA L c t i,(srcF c (zbc t.words i (i+lenA L c t i))).1,(srcF c (zbc t.words i (i+lenA L c t i))).2⟩::restP c t L (i+lenA L c t i):=by
 have hb:=lenA_bd hl (c:=c) h
 obtain⟨m,hm⟩:∃ m,lenA L c t i=m+1:=⟨lenA L c t i-1,by omega⟩
 unfold restP
 rw [lens_at h,hm,cutL,List.map_cons]
 rw [cutL_skip m _ _ (by rw [List.length_drop,lenL_len]; omega),List.drop_drop]
 rw [show(i+((m+1:Nat):Int)).toNat=i.toNat+1+m by omega,show(i+1).toNat+m=i.toNat+1+m by omega]
 congr 1
 unfold pieceF
 simp only
 rw [lsub_eq _ h.1 (by omega),show(i+((m+1:Nat):Int)-i).toNat=m+1 by omega]
 have e1:((i.toNat:Nat):Int)=i:=by omega
 have e2:((i.toNat+(m+1):Nat):Int)=i+((m+1:Nat):Int):=by omega
 rw [e1,e2]
theorem aeq_two (a b c d:Int):aeq 2 [a,b] [c,d]=true↔a=c/\b=d:=by
 simp [aeq,List.range_succ,List.range_zero]
theorem chosenA {L:Nat}(hl:0<L){c:Corpus}{t:Text}{i:Int}(h:inL i t.words.length):Chosen (val2 (valA L ((losA c t).drop (i+1).toNat))) (candV (dpL L ((losA c t).drop (i+1).toNat))) (fromTo L (longW c.texts (t.words.drop i.toNat))) (valA L ((losA c t).drop i.toNat)):=by
 rw [los_at h]
 exact stepV_chosen hl _ _
theorem long_bd {c:Corpus}{t:Text}{i:Int}(h:inL i t.words.length):((longW c.texts (t.words.drop i.toNat):Nat):Int)<=t.words.length-i:=by
 have:=longW_le c.texts (t.words.drop i.toNat)
 rw [List.length_drop]at this
 omega
theorem rest_get {L:Nat}{c:Corpus}{t:Text}{i k:Int}(h:inL i t.words.length)(h1:1<=k)(h2:i+k<=t.words.length):(dpL L ((losA c t).drop (i+1).toNat)).getD (k.toNat-1) default=valA L ((losA c t).drop (i+k).toNat):=by
 rw [dpL_get _ _ _ (by rw [List.length_drop,longsN_len]; omega),List.drop_drop]
 congr 2; omega
theorem val_bd {L:Nat}(hl:0<L){c:Corpus}{t:Text}(i:Int):0<=(valA L ((losA c t).drop i.toNat)).1/\(valA L ((losA c t).drop i.toNat)).1<=t.words.length/\0<=(valA L ((losA c t).drop i.toNat)).2.1/\(valA L ((losA c t).drop i.toNat)).2.1<=t.words.length:=by
 have:=valA_bd hl _ ((losA c t).drop i.toNat) rfl (fit_drop _ (fit_longs _ _))
 rw [List.length_drop,longsN_len]at this
 omega
theorem same_iff {L:Nat}{c:Corpus}{t:Text}{i k:Int}(h:inL i t.words.length)(h1:1<=k)(h2:i+k<=t.words.length):
   aeq 2 [(afterP (negV (valA L ((losA c t).drop (i+k).toNat))) k).1,(afterP (negV (valA L ((losA c t).drop (i+k).toNat))) k).2] [(negV (valA L ((losA c t).drop i.toNat))).1,(negV (valA L ((losA c t).drop i.toNat))).2]=true↔
     val2 (candV (dpL L ((losA c t).drop (i+1).toNat)) k.toNat)=val2 (valA L ((losA c t).drop i.toNat)):=by
 rw [aeq_two]
 simp only [afterP,negV,val2,candV,rest_get h h1 h2,Prod.mk.injEq]
 omega
theorem last_len {L:Nat}(hl:0<L){c:Corpus}{t:Text}{i k1:Int}(h:inL i t.words.length)(hk:k1<=longW c.texts (t.words.drop i.toNat))(h0:0<=k1)
   (hno:∀ k:Int,k1<k->k<=longW c.texts (t.words.drop i.toNat)->(L:Int)<=k->val2 (candV (dpL L ((losA c t).drop (i+1).toNat)) k.toNat)≠val2 (valA L ((losA c t).drop i.toNat))):
   (k1<L->lenA L c t i=0)/\((L:Int)<=k1->val2 (candV (dpL L ((losA c t).drop (i+1).toNat)) k1.toNat)=val2 (valA L ((losA c t).drop i.toNat))->(lenA L c t i:Int)=k1):=by
 have C:=chosenA hl (c:=c) h
 have at_:lenA L c t i≠0->L<=lenA L c t i/\lenA L c t i<=longW c.texts (t.words.drop i.toNat)/\val2 (candV (dpL L ((losA c t).drop (i+1).toNat)) (lenA L c t i))=val2 (valA L ((losA c t).drop i.toNat)):=fun hz=>by
   obtain⟨h1,h2⟩:=C.len1 hz
   have h3:=fromTo_mem.1 h1
   exact⟨h3.1,h3.2,congrArg val2 h2.symm⟩
 constructor
 · intro hlt
   apply Classical.byContradiction
   intro hz
   obtain⟨a1,a2,a3⟩:=at_ hz
   exact hno (lenA L c t i) (by omega) (by omega) (by omega) (by simpa using a3)
 · intro hge he
   have hk1:k1.toNat∈fromTo L (longW c.texts (t.words.drop i.toNat)):=fromTo_mem.2 ⟨by omega,by omega⟩
   have hle:¬lenA L c t i<k1.toNat:=fun hlt=>by
     have:=C.last _ hk1 hlt
     rw [he,betV_iff]at this
     omega
   by_cases hz:lenA L c t i=0
   · omega
   · obtain⟨a1,a2,a3⟩:=at_ hz
     apply Classical.byContradiction
     intro hne
     exact hno (lenA L c t i) (by omega) (by omega) (by omega) (by simpa using a3)
theorem gi_repP {n:Nat}{i:Int}:gi (List.replicate n ((0:Int),(0:Int))) i=(0,0):=by
 unfold gi
 rw [List.getD_eq_getElem?_getD,List.getElem?_replicate]
 split<;>rfl
theorem valA_nil {L:Nat}{c:Corpus}{t:Text}{j:Int}(h:j=t.words.length):valA L ((losA c t).drop j.toNat)=(0,0,0):=by
 rw [List.drop_eq_nil_of_le (by rw [longsN_len]; omega)]; rfl
theorem valA_at {L:Nat}{c:Corpus}{t:Text}{i:Int}(h:inL i t.words.length){k:Nat}(hk:longW c.texts (t.words.drop i.toNat)<k):curV L ((losA c t).drop (i+1).toNat) (longW c.texts (t.words.drop i.toNat)) k=valA L ((losA c t).drop i.toNat):=by
 rw [curV_end _ hk,los_at h]
theorem tof_ok (c:Corpus)(t:Text)(least:Int)(Q:Attribution×Int->Prop)(hp0:okC c)(hp1:okT t)(h:Q (attrF c t least)):tof_vc c t least Q:=by
 unfold attrF at h
 have hcl:=hp0.1.1; have htl:=hp1.2.1
 have hnoA:(Attribution.mk ByteArray.empty [])=noA:=rfl
 rw [show(tof_vc c t least Q)=_ from rfl]
 refine⟨hp0,hp1,fun hb=>?_,fun hb=>⟨fun hl=>?_,fun hl=>?_⟩⟩
 · rcases rightA_split (c:=c) (t:=t) (least:=least)with⟨_,e⟩|⟨h1,_⟩|⟨h1,_⟩
   · rw [e]at h; exact h
   · rw [hb]at h1; cases h1
   · rw [hb]at h1; cases h1
 · rcases rightA_split (c:=c) (t:=t) (least:=least)with⟨h1,_⟩|⟨_,_,e⟩|⟨_,h1,h2,_⟩
   · rw [hb]at h1; cases h1
   · rw [e]at h; exact h
   · omega
 have e:rightA c t least=0:=by
   rcases rightA_split (c:=c) (t:=t) (least:=least)with⟨h1,_⟩|⟨_,h1,_⟩|⟨_,_,_,e⟩
   · rw [hb]at h1; cases h1
   · omega
   · exact e
 rw [e,if_pos rfl]at h
 have hL:0<least.toNat:=by omega
 have hLi:((least.toNat:Nat):Int)=least:=by omega
 generalize hLd:least.toNat=L at h hL hLi
 refine⟨hp0,hp1,by omega,⟨by omega,by omega,by omega⟩,by omega,(fun s=> -1<=s.2/\s.2<=(t.words.length:Int)-1/\(s.1.length:Int)=t.words.length+1/\∀ j:Int,s.2<j->j<=t.words.length->gi s.1 j=negV (valA L ((losA c t).drop j.toNat))),⟨by simp only; omega,by simp only; omega,by simp only [List.length_replicate]; omega,fun j k0 k1=>?_⟩,?_⟩
 · simp only at k0
   rw [gi_repP,valA_nil (by omega)]; rfl
 rintro⟨xs,ix⟩ ⟨j0,j1,j2,j3⟩
 simp only at j0 j1 j2 j3 ⊢
 refine⟨fun hix=>?_,fun hn=>?_⟩
 · have hixl:inL ix t.words.length:=by omega
   have hlg:=longAF_gi (c:=c) hixl
   have hlb:=long_bd (c:=c) hixl
   have hlal:(longAF c t).length=t.words.length:=by simp [longAF,longsN_len]
   refine⟨by omega,by omega,by omega,?_⟩
   refine lfp2 (tof_L2 c t ix _) (fun xs1 k=>least<=k/\(k<=longW c.texts (t.words.drop ix.toNat)+1\/k=least)/\(xs1.length:Int)=t.words.length+1/\(∀ j:Int,ix<j->j<=t.words.length->gi xs1 j=negV (valA L ((losA c t).drop j.toNat)))/\gi xs1 ix=negV (curV L ((losA c t).drop (ix+1).toNat) (longW c.texts (t.words.drop ix.toNat)) k.toNat))
     (fun _ k=>(longW c.texts (t.words.drop ix.toNat)+1-k).toNat) (fun xs1 k hst again11 hag11=>?_) ⟨by omega,.inr rfl,by rw [zan]; exact j2,fun j k0 k1=>?_,?_⟩
   · obtain⟨g0,g1,g2,g3,g4⟩:=hst
     refine⟨by omega,fun hle=>?_,fun hgt=>⟨by omega,by omega,g2,fun j k0 k1=>?_⟩⟩
     · rw [hlg]at hle
       have hv:=val_bd hL (c:=c) (t:=t) (ix+k)
       have e1:=g3 (ix+k) (by omega) (by omega)
       have hxl:inL ix xs1.length:=by omega
       rw [e1]
       simp only [negV]
       refine⟨by omega,by omega,by omega,by omega,by omega,by omega,hag11 _ _ ⟨by omega,.inl (by omega),by rw [zan]; exact g2,fun j k0 k1=>?_,?_⟩ (by omega)⟩
       · rw [gi_siA hxl _ (by omega),if_neg (by omega)]; exact g3 j k0 k1
       · rw [gi_siA hxl _ (by omega),if_pos rfl,g4,show(k+1).toNat=k.toNat+1 by omega,curV_succ _ (by omega) (by omega),better_take,rest_get hixl (by omega) (by omega),show((k.toNat:Nat):Int)=k by omega]; rfl
     · simp only at k0 ⊢
       rw [hlg]at hgt
       by_cases hj:j=ix
       · subst hj
         rw [g4,valA_at hixl (by omega)]
       · exact g3 j (by omega) k1
   · rw [gi_siA (by omega) _ (by omega),if_neg (by omega)]; exact j3 j k0 k1
   · rw [gi_siA (by omega) _ (by omega),if_pos rfl,j3 (ix+1) (by omega) (by omega),hLd,curV_start]; rfl
 · have hxs:∀ j:Int,0<=j->j<=t.words.length->gi xs j=negV (valA L ((losA c t).drop j.toNat)):=fun j k0 k1=>j3 j (by omega) k1
   have hlal:(longAF c t).length=t.words.length:=by simp [longAF,longsN_len]
   refine lfp2 (tof_L3 c t least xs Q) (fun ps i=>0<=i/\i<=t.words.length/\(ps.length:Int)<=i/\ps++restP c t L i=piecesF c t L) (fun _ i=>(t.words.length-i).toNat) (fun ps i hst again15 hag15=>?_) ⟨by omega,by omega,by simp,by rw [restP_zero]; rfl⟩
   obtain⟨g0,g1,g2,g3⟩:=hst
   refine⟨fun hlt=>?_,fun hn2=>?_⟩
   · have hil:inL i t.words.length:=by omega
     have hlg:=longAF_gi (c:=c) hil
     have hlb:=long_bd (c:=c) hil
     refine⟨by omega,?_⟩
     refine lfp_of (fun k1:Int=>0<=k1/\k1<=longW c.texts (t.words.drop i.toNat)/\∀ k:Int,k1<k->k<=longW c.texts (t.words.drop i.toNat)->(L:Int)<=k->val2 (candV (dpL L ((losA c t).drop (i+1).toNat)) k.toNat)≠val2 (valA L ((losA c t).drop i.toNat))) (fun k1=>k1.toNat) (fun k1 hst again17 hag17=>?_) ⟨by omega,by omega,fun k a b=>by omega⟩
     obtain⟨q0,q1,q2⟩:=hst
     obtain⟨l1,l2⟩:=last_len hL hil q1 q0 q2
     have hsame:k1>=least->(aeq 2 [(afterP (gi xs (i+k1)) k1).1,(afterP (gi xs (i+k1)) k1).2] [(gi xs i).1,(gi xs i).2]=true↔val2 (candV (dpL L ((losA c t).drop (i+1).toNat)) k1.toNat)=val2 (valA L ((losA c t).drop i.toNat))):=fun hge=>by
       rw [hxs (i+k1) (by omega) (by omega),hxs i (by omega) (by omega)]
       exact same_iff hil (by omega) (by omega)
     refine⟨fun hge=>?_,fun hb=>⟨by omega,hag17 _ ⟨by omega,by omega,fun k k0 k2 k3=>?_⟩ (by omega)⟩,fun hg=>⟨fun hlt2=>⟨by omega,hag15 _ _ ⟨by omega,by omega,by omega,?_⟩ (by omega)⟩,fun hge=>?_⟩⟩
     · have hv:=val_bd hL (c:=c) (t:=t) (i+k1)
       rw [hxs (i+k1) (by omega) (by omega)]
       simp only [negV]
       exact⟨by omega,by omega,by omega,by omega,by omega⟩
     · rcases Int.lt_or_eq_of_le (show k1<=k by omega)with hlt2|rfl
       · exact q2 k hlt2 k2 k3
       · intro he
         rw [(hsame hb.1).2 he]at hb; cases hb.2
     · rw [<- restP_skip hil (l1 (by omega))]; exact g3
     · have hek:aeq 2 [(afterP (gi xs (i+k1)) k1).1,(afterP (gi xs (i+k1)) k1).2] [(gi xs i).1,(gi xs i).2]=true:=by
         rcases hg with hg|hg
         · omega
         · exact hg
       have hlen:=l2 (by omega) ((hsame (by omega)).1 hek)
       have htk:=restP_take hL (c:=c) hil (by omega)
       rw [hlen]at htk
       have hs:inS i (i+k1) t.words.length:=by omega
       have hsl:=lsub_length hs
       refine⟨by omega,hs,hp0,by omega,by omega,⟨by simp only [List.length_append,List.length_singleton]; omega,by simp only [List.length_append,List.length_singleton]; omega⟩,by omega,hag15 _ _ ⟨by omega,by omega,by simp only [List.length_append,List.length_singleton]; omega,?_⟩ (by omega)⟩
       rw [htk]at g3
       rw [<- g3]; simp
   · rw [restP_end (by omega),List.append_nil]at g3
     rw [g3]; exact h
end Go.Lic
