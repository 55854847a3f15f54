/-
  The statement TopAttributed: the two texts added; words of lines. No program in sight.
-/
import Derived.Test.YtkifpidbpoghlaaGreatDoorAo6
import Derived.Test.YtkifpidbpoghlaaGreatDoorKv
import Derived.Test.YtkifpidbpoghlaaGreatDoorV1
import Derived.Test.YtkifpidbpoghlaaGreatDoorA3
set_option maxRecDepth 10000
set_option maxHeartbeats 2000000
set_option linter.all false
namespace Go.Lic
open Go.Proofs Go.Sort
theorem good_list {l:List Text}(h:l.length<=64)(hv:∀ t∈l,zbi t=true)(ho:l.Pairwise TLt):checkF (zay l 1 1)=0:=
 (checkF_iff _).2 ⟨(by decide:zbs 1=true),(by decide:zbs 1=true),h,hv,ho,rfl⟩
theorem two_added {a b:Text}(ha:zbi a=true)(hb:zbi b=true)(pa:a.path=⟨#[97]⟩)(pb:b.path=⟨#[98]⟩):
   newF 1 1=(zay [] 1 1,0)/\addF (zay [] 1 1) a=(zay [a] 1 1,0)/\addF (zay [a] 1 1) b=(zay [a,b] 1 1,0)/\checkF (zay [a,b] 1 1)=0:=by
 have hab:sless a.path b.path=true:=by rw [pa,pb]; decide +kernel
 have c0:=good_list (l:= []) (by decide) (by simp) .nil
 have c1:=good_list (l:= [a]) (by simp) (by simp [ha]) (List.pairwise_singleton _ _)
 refine⟨by decide +kernel,?_,?_,good_list (by simp) (by simp [ha,hb]) (by simp [TLt,hab])⟩
 · unfold addF
   rw [if_pos ⟨c0,ha⟩]
   rfl
 · unfold addF
   rw [if_pos ⟨c1,hb⟩]
   have h1:hasT (zay [a] 1 1).texts b.path=false:=by
     show([a].any fun t=>decide (t.path=b.path))=false
     simp [pa,pb]
   have h2:placeT (zay [a] 1 1).texts b.path=1:=by
     show([a].takeWhile fun t=>sless t.path b.path).length=1
     simp [hab]
   rw [h1,h2]
   rfl
theorem class_no (w:ByteArray):classF w false false=w:=by unfold classF; simp
theorem norm_mem :∀(ls:List ByteArray) (skip at_:Int) (w:Lexeme),w∈normL false false skip at_ ls->∃ l∈ls,w.text∈zbw l
 | [],_,_,w,h=>by cases h
 | l ::ls,skip,at_,w,h=>by
   rw [normL]at h
   split at h
   · obtain⟨l',h1,h2⟩:=norm_mem ls _ _ w h; exact⟨l',List.mem_cons_of_mem _ h1,h2⟩
   · split at h
     · obtain⟨l',h1,h2⟩:=norm_mem ls _ _ w h; exact⟨l',List.mem_cons_of_mem _ h1,h2⟩
     · rcases List.mem_append.1 h with h|h
       · obtain⟨x,hx,rfl⟩:=List.mem_map.1 h
         exact⟨l,by simp,by simp only [class_no]; exact hx⟩
       · obtain⟨l',h1,h2⟩:=norm_mem ls _ _ w h; exact⟨l',List.mem_cons_of_mem _ h1,h2⟩
theorem norm_all :∀(ls:List ByteArray) (at_:Int),(∀ l∈ls,noteF (zbw l)<0)->∀ l∈ls,∀ x∈zbw l,∃ w∈normL false false 0 at_ ls,w.text=x
 | [],_,_,l,h,_,_=>by cases h
 | l0::ls,at_,hn,l,h,x,hx=>by
   have h0:=hn l0 (by simp)
   rw [normL,if_neg (by omega),if_neg (by omega)]
   rcases List.mem_cons.1 h with rfl|h
   · exact⟨⟨x,at_⟩,List.mem_append_left _ (List.mem_map.2 ⟨x,hx,by rw [class_no]⟩),rfl⟩
   · obtain⟨w,h1,h2⟩:=norm_all ls (at_+1) (fun l hl=>hn l (List.mem_cons_of_mem _ hl)) l h x hx
     exact⟨w,List.mem_append_right _ h1,h2⟩
theorem norm_len :∀(ls:List ByteArray) (skip at_:Int),((normL false false skip at_ ls).length:Int)<=sizeS ls
 | [],_,_=>by simp [normL,sizeS]
 | l ::ls,skip,at_=>by
   have:=wordsL_len l
   rw [normL,sizeS]
   split
   · have:=norm_len ls (skip-1) (at_+1); omega
   · split
     · have:=norm_len ls (noteF (zbw l)) (at_+1); omega
     · have:=norm_len ls skip (at_+1)
       rw [List.length_append,List.length_map]; omega
def Inf (l s:List UInt8):Prop:=∃ u v,s=u++l++v
theorem Inf.trans {a b c:List UInt8}(h:Inf a b)(k:Inf b c):Inf a c:=by
 obtain⟨u,v,rfl⟩:=h; obtain⟨x,y,rfl⟩:=k
 exact⟨x++u,v++y,by simp⟩
theorem Inf.refl (a:List UInt8):Inf a a:=⟨[],[],by simp⟩
theorem words_inf :∀(n:Nat) (l:List UInt8),∀ p∈wordsU n l,Inf p l
 |0,l,p,h=>by cases h
 |n+1,[],p,h=>by cases h
 | n + 1,x::r,p,h=>by
   rw [wordsU]at h
   have hd:Inf (r.dropWhile wordC) r:=⟨r.takeWhile wordC,[],by rw [List.append_nil,List.takeWhile_append_dropWhile]⟩
   have hr:Inf r (x::r):=⟨[x],[],by simp⟩
   split at h
   · exact(words_inf n r p h).trans hr
   · split at h
     · rcases List.mem_cons.1 h with rfl|h
       · exact⟨[],r.dropWhile wordC,by simp [List.takeWhile_append_dropWhile]⟩
       · exact((words_inf n _ p h).trans hd).trans hr
     · rcases List.mem_cons.1 h with rfl|h
       · exact⟨[],r,by simp⟩
       · exact(words_inf n r p h).trans hr
theorem inf_contains {s p:List UInt8}(h:Inf p s):Lib.contains s p=true:=by
 obtain⟨u,v,rfl⟩:=h
 unfold Lib.contains
 rw [decide_eq_true_eq]
 rcases Lib.index_spec (u++p++v) p with⟨h1,h2⟩|⟨i,h1,_⟩
 · have:=h2 u.length (by simp)
   simp only [Lib.occAt,List.append_assoc,List.drop_left]at this
   rw [List.isPrefixOf_iff_prefix.2 (List.prefix_append p v)]at this
   cases this
 · omega
end Go.Lic
set_option linter.all false
namespace Go.Lic
open Go.Proofs Go.Sort
theorem split_first {c:UInt8}:∀ {l q:List UInt8} {r:List (List UInt8)},zcf c l=q::r->∃ v,l=q++v
 | [],q,r,h=>by
   rw [zcf]at h; cases h; exact⟨[],rfl⟩
 | b ::l,q,r,h=>by
   rw [zcf]at h
   split at h
   · cases h; exact⟨b::l,rfl⟩
   · cases hs:zcf c l with
     |nil=>exact absurd hs (split_ne l)
     | cons p r'=>
       rw [hs]at h
       cases h
       obtain⟨v,rfl⟩:=split_first hs
       exact⟨v,rfl⟩
theorem split_inf {c:UInt8}:∀(l:List UInt8),∀ p∈zcf c l,Inf p l
 | [],p,h=>by
   rw [zcf,List.mem_singleton]at h
   rw [h]; exact Inf.refl _
 | b ::l,p,h=>by
   have hl:Inf l (b::l):=⟨[b],[],by simp⟩
   rw [zcf]at h
   split at h
   · rcases List.mem_cons.1 h with rfl|h
     · exact⟨[],b::l,rfl⟩
     · exact(split_inf l p h).trans hl
   · cases hs:zcf c l with
     |nil=>exact absurd hs (split_ne l)
     | cons q r=>
       rw [hs]at h
       rcases List.mem_cons.1 h with rfl|h
       · obtain⟨v,rfl⟩:=split_first hs
         exact⟨[],v,rfl⟩
       · exact(split_inf l p (by rw [hs]; exact List.mem_cons_of_mem _ h)).trans hl
theorem split_joinL {c:UInt8}:∀(l:List (List UInt8)) (x:List UInt8),(∀ y∈x,y≠c)->(∀ p∈l,∀ y∈p,y≠c)->zcf c (Lib.join (x::l) [c])=x::l
 | [],x,hx,_=>by rw [show Lib.join [x] [c]=x by simp [Lib.join]]; exact split_none hx
 | z::l,x,hx,hl=>by
   have e:Lib.join (x::z::l) [c]=x++c::Lib.join (z::l) [c]:=by simp [Lib.join]
   rw [e,split_at hx,split_joinL l z (hl z (by simp)) (fun p hp=>hl p (List.mem_cons_of_mem _ hp))]
theorem nl_free {z:ByteArray}(h:nlB z=false):∀ y∈z.data.toList,y≠10:=by
 unfold nlB at h
 rw [decide_eq_false_iff_not]at h
 exact index_neg (by show Lib.indexByte z.data.toList (sepOf nlS)<0; unfold zbj at h; omega)
theorem split_joinS {l:List ByteArray}(hne:l≠ [])(h:∀ z∈l,nlB z=false):zad (joinS l nlS) nlS=l:=by
 rcases l with _|⟨x,l⟩
 · exact absurd rfl hne
 have e:zad (joinS (x::l) nlS) nlS=(zcf 10 (Lib.join ((x::l).map (·.data.toList)) [10])).map fun l=>⟨l.toArray⟩:=rfl
 rw [e,List.map_cons,split_joinL _ _ (nl_free (h x (by simp))) (fun p hp=>by
   obtain⟨z,hz,rfl⟩:=List.mem_map.1 hp
   exact nl_free (h z (List.mem_cons_of_mem _ hz)))]
 rw [List.map_cons,List.map_map]
 congr 1
 conv=>rhs; rw [<- List.map_id l]
 exact List.map_congr_left (fun z _=>rfl)
theorem sizeS_split (s:ByteArray):sizeS (zad s nlS)<=s.size:=by
 have h:=split_sum 10 s.data.toList
 have hz:s.data.toList.length=s.size:=rfl
 have e:zad s nlS=(zcf 10 s.data.toList).map ba:=rfl
 have key:∀ l:List (List UInt8),sizeS (l.map ba)=(((l.map (·.length)).sum:Nat):Int):=by
   intro l
   induction l with
   |nil=>rfl
   |cons p l ih=>simp only [List.map_cons,sizeS,List.sum_cons,ih,ba_size]; omega
 have hp:0<(zcf 10 s.data.toList).length:=List.length_pos_iff.2 (split_ne _)
 rw [e,key]; omega
theorem no_note {s:ByteArray}(h:contF s (⟨#[110,111,116,101]⟩:ByteArray)=false):∀ z:ByteArray,Inf z.data.toList s.data.toList->noteF (zbw z)<0:=by
 intro z hz
 rcases Int.lt_or_le (noteF (zbw z)) 0 with k|k
 · exact k
 exfalso
 unfold noteF at k
 split at k
 · next hc=>
   obtain⟨h1,h2,_⟩:=hc
   have hm:(⟨#[110,111,116,101]⟩:ByteArray)∈zbw z:=by rw [<- h2]; exact gi_mem ⟨by omega,by omega⟩
   unfold zbw at hm
   obtain⟨p,hp,e⟩:=List.mem_map.1 hm
   have hi:=(words_inf _ _ p hp).trans hz
   have ep:p= [110,111,116,101]:=by
     have:=congrArg (fun b:ByteArray=>b.data.toList) e
     simpa using this
   rw [ep]at hi
   have:=inf_contains hi
   unfold contF at h
   rw [show(⟨#[110,111,116,101]⟩:ByteArray).data.toList= [110,111,116,101]from rfl,this]at h
   cases h
 · omega
end Go.Lic
set_option linter.all false
namespace Go.Lic
open Go.Proofs Go.Sort
theorem word_noblank {c:Int}(h:wordB c=true):blankF c=false:=by
 have:=word_lt h
 unfold blankF
 simp only [Bool.or_eq_false_iff,decide_eq_false_iff_not]
 omega
theorem tw_mem {p:UInt8->Bool}:∀ {l:List UInt8} {y:UInt8},y∈l.takeWhile p->p y=true
 | [],y,h=>by cases h
 | x ::l,y,h=>by
   rw [List.takeWhile_cons]at h
   split at h
   · next hx=>
     rcases List.mem_cons.1 h with rfl|h
     · exact hx
     · exact tw_mem h
   · cases h
theorem words_good :∀(n:Nat) (l:List UInt8),∀ p∈wordsU n l,∀ y∈p,blankF (y.toNat:Int)=false
 |0,l,p,h=>by cases h
 |n+1,[],p,h=>by cases h
 | n + 1,x::r,p,h=>by
   rw [wordsU]at h
   split at h
   · exact words_good n r p h
   · next hb=>
     split at h
     · next hw=>
       rcases List.mem_cons.1 h with rfl|h
       · intro y hy
         rcases List.mem_cons.1 hy with rfl|hy
         · simpa using hb
         · exact word_noblank (tw_mem (p:=wordC) hy)
       · exact words_good n _ p h
     · rcases List.mem_cons.1 h with rfl|h
       · intro y hy
         rw [List.mem_singleton.1 hy]; simpa using hb
       · exact words_good n r p h
theorem wordsL_good (s:ByteArray):∀ w∈zbw s,0<w.size/\(zbl w).any blankF=false:=by
 intro w hw
 refine⟨(wordsL_pos s w hw).1,?_⟩
 unfold zbw at hw
 obtain⟨p,hp,rfl⟩:=List.mem_map.1 hw
 have:=words_good _ _ p hp
 unfold zbl
 rw [List.any_eq_false]
 intro x hx
 obtain⟨y,hy,rfl⟩:=List.mem_map.1 hx
 rw [this y (by simpa using hy)]; decide
theorem words_run {at_:Int}(h1:at_<1024){B:List Lexeme}(hB:∀ m:Int,m<=at_->wordsF m B=true):∀(xs:List ByteArray) (least:Int),least<=at_->(∀ x∈xs,0<x.size/\(zbl x).any blankF=false)->wordsF least (xs.map (fun w=>(⟨classF w false false,at_⟩:Lexeme))++B)=true
 | [],least,h,_=>hB least h
 | x::xs,least,h,hx=>by
   obtain⟨g1,g2⟩:=hx x (by simp)
   rw [List.map_cons,List.cons_append,wordsF,words_run h1 hB xs at_ (Int.le_refl _) (fun y hy=>hx y (List.mem_cons_of_mem _ hy)),class_no,Bool.and_true]
   unfold wordF
   simp only
   rw [g2]
   simp only [Bool.not_false,Bool.and_true,Bool.and_eq_true,decide_eq_true_eq]
   exact⟨⟨g1,h⟩,h1⟩
theorem norm_valid :∀(ls:List ByteArray) (skip at_ least:Int),least<=at_->at_+ls.length<=1024->wordsF least (normL false false skip at_ ls)=true
 | [],_,_,_,_,_=>rfl
 | l ::ls,skip,at_,least,h,h1=>by
   rw [List.length_cons]at h1
   rw [normL]
   split
   · exact norm_valid ls _ _ _ (by omega) (by omega)
   · split
     · exact norm_valid ls _ _ _ (by omega) (by omega)
     · exact words_run (by omega) (fun m hm=>norm_valid ls _ _ _ (by omega) (by omega)) _ _ h (wordsL_good l)
theorem normF_eq {path data:ByteArray}(hp:pathF path=0)(hp2:pathB path=true)(hb:bigT data=false)(hl:sizeS (zad data nlS)<=8192):
   zbe path data false false=(⟨path,normL false false 0 0 (zad data nlS)⟩,0)/\zbi ⟨path,normL false false 0 0 (zad data nlS)⟩=true:=by
 have hn:=norm_len (zad data nlS) 0 0
 have hlen:(zad data nlS).length<=1024:=by
   have el:(zad data nlS).length=data.data.toList.count 10+1:=by unfold zad; rw [List.length_map,split_len]; rfl
   have ec:countF data nlS=((data.data.toList.count 10:Nat):Int):=rfl
   unfold bigT at hb
   simp only [Bool.or_eq_false_iff,decide_eq_false_iff_not]at hb
   omega
 refine⟨?_,?_⟩
 · unfold zbe
   rw [if_pos hp,if_neg (by rw [hb]; decide),if_neg (by omega)]
 · unfold zbi
   rw [norm_valid _ _ _ _ (Int.le_refl _) (by omega),hp2,Bool.and_true,Bool.and_true,decide_eq_true_eq]
   simp only; omega
theorem big_small {s:ByteArray}(h:s.size<=700):bigT s=false:=by
 have ec:countF s nlS=((s.data.toList.count 10:Nat):Int):=rfl
 have hc:s.data.toList.count 10<=s.data.toList.length:=List.count_le_length
 have hz:s.data.toList.length=s.size:=rfl
 unfold bigT
 simp only [Bool.or_eq_false_iff,decide_eq_false_iff_not]
 omega
theorem normF_small {path data:ByteArray}(hp:pathF path=0)(hp2:pathB path=true)(h:data.size<=700):
   zbe path data false false=(⟨path,normL false false 0 0 (zad data nlS)⟩,0)/\zbi ⟨path,normL false false 0 0 (zad data nlS)⟩=true:=
 normF_eq hp hp2 (big_small h) (by have:=sizeS_split data; omega)
end Go.Lic
set_option linter.all false
namespace Go.Lic
open Go.Proofs Go.Sort
theorem sizeS_app :∀ a b:List ByteArray,sizeS (a++b)=sizeS a+sizeS b
 | [],b=>by simp [sizeS]
 |x::a,b=>by rw [List.cons_append,sizeS,sizeS,sizeS_app a b]; omega
theorem sizeS_cut (l:List ByteArray)(n:Nat):sizeS (l.take n)+sizeS (l.drop n)=sizeS l:=by rw [<- sizeS_app,List.take_append_drop]
theorem sizeS_pos :∀ l:List ByteArray,0<=sizeS l
 | []=>by simp [sizeS]
 |x::l=>by have:=sizeS_pos l; rw [sizeS]; omega
theorem out_mem {old:List ByteArray}{z:ByteArray}:∀(l:List Hunk) (r:List ByteArray×Int),z∈(l.foldl (applyStep old) r).1->z∈r.1\/z∈old\/∃ h∈l,z∈h.lines
 | [],r,h=> .inl h
 | h ::l,r,hz=>by
   rw [List.foldl_cons]at hz
   rcases out_mem l _ hz with k|k|⟨h',k1,k2⟩
   · unfold applyStep at k
     split at k
     · rcases List.mem_append.1 k with k|k
       · exact .inl k
       · exact .inr (.inl (List.mem_of_mem_take (List.mem_of_mem_drop k)))
     · split at k
       · exact .inl k
       · rcases List.mem_append.1 k with k|k
         · exact .inl k
         · exact .inr (.inr ⟨h,by simp,k⟩)
   · exact .inr (.inl k)
   · exact .inr (.inr ⟨h',List.mem_cons_of_mem _ k1,k2⟩)
theorem out_size {old:List ByteArray}:∀(l:List Hunk) (r:List ByteArray×Int),0<=r.2->(∀ h∈l,0<=h.n)->sizeS (l.foldl (applyStep old) r).1<=sizeS r.1+sizeS (old.drop r.2.toNat)+sizeS (l.flatMap fun h=>h.lines)
 | [],r,_,_=>by have:=sizeS_pos (old.drop r.2.toNat); simp only [List.foldl_nil,List.flatMap_nil,sizeS]; omega
 | h ::l,r,h0,hn=>by
   have n0:=hn h (by simp)
   have hl:=sizeS_pos h.lines
   rw [List.foldl_cons,List.flatMap_cons,sizeS_app]
   have ec:sizeS ((old.drop r.2.toNat).take h.n.toNat)+sizeS (old.drop (r.2+h.n).toNat)=sizeS (old.drop r.2.toNat):=by
     have:=sizeS_cut (old.drop r.2.toNat) h.n.toNat
     rwa [List.drop_drop,show r.2.toNat+h.n.toNat=(r.2+h.n).toNat by omega]at this
   have ep:=sizeS_pos ((old.drop r.2.toNat).take h.n.toNat)
   have step:0<=(applyStep old r h).2/\sizeS (applyStep old r h).1+sizeS (old.drop (applyStep old r h).2.toNat)<=sizeS r.1+sizeS (old.drop r.2.toNat)+sizeS h.lines:=by
     unfold applyStep
     split
     · simp only
       rw [sizeS_app,lsub_eq _ h0 (by omega),show(r.2+h.n-r.2).toNat=h.n.toNat by omega]
       omega
     · split
       · simp only; omega
       · simp only; rw [sizeS_app]; omega
   have:=out_size (old:=old) l (applyStep old r h) step.1 (fun x hx=>hn x (List.mem_cons_of_mem _ hx))
   omega
theorem lines_size :∀ l:List Hunk,sizeS (l.flatMap fun h=>h.lines)<=sizeS (l.flatMap hunkL)
 | []=>by simp [sizeS]
 | h::l=>by
   have:=lines_size l
   rw [List.flatMap_cons,List.flatMap_cons,sizeS_app,sizeS_app,hunkL,sizeS]
   omega
theorem done_eq {text base:ByteArray}{o:Option (List Hunk)}(h:(doneP text base o).2=0):(checkP (doneP text base o).1).2=true/\(checkP (doneP text base o).1).1=text:=by
 unfold doneP at h ⊢
 cases o with
 |none=>simp at h
 | some hs=>
   simp only at h ⊢
   split at h
   · next hc=>rw [if_pos hc]; exact hc
   · simp at h
theorem parse_eq {text:ByteArray}(h:(zaq text).2=0):(checkP (zaq text).1).2=true/\(checkP (zaq text).1).1=text:=by
 unfold zaq at h ⊢
 split at h
 · next h1=>
   rw [if_pos h1]
   split at h
   · next h2=>
     rw [if_pos h2]
     split at h
     · next h3=>rw [if_pos h3]; exact done_eq h
     · exact absurd h (by decide)
   · next h2=>rw [if_neg h2]; exact done_eq h
 · next h1=>exact absurd h h1
theorem joinT_eq {l:List ByteArray}(h:(joinT l).2=0):l≠ []/\(∀ z∈l,nlB z=false)/\l.length<=1024/\(l.length:Int)-1+sizeS l<=65536/\(joinT l).1=joinS l nlS:=by
 unfold joinT at h ⊢
 split at h
 · exact absurd h (by decide)
 · next h1=>
   split at h
   · exact absurd h (by decide)
   · next h2=>
     rw [if_neg h1,if_neg h2]
     refine⟨fun e=>h1 (.inl (by rw [e]; rfl)),fun z hz=>?_,by omega,by omega,rfl⟩
     cases hb:nlB z with
     |false=>rfl
     |true=>exact absurd (.inr (List.any_eq_true.2 ⟨z,hz,hb⟩)) h1
theorem result_lines {data text:ByteArray}(h1:(zaq text).2=0)(h2:(zbg (zaq text).1 data).2=0):
   let r:=(zbg (zaq text).1 data).1
   bigT r=false/\sizeS (zad r nlS)<=data.size+text.size/\r.size<=65536/\∀ z∈zad r nlS,z∈zad data nlS\/z∈zad text nlS:=by
 obtain⟨c1,c2⟩:=parse_eq h1
 generalize (zaq text).1=p at*
 obtain⟨k1,k2,k3⟩:=check_hunks c1
 obtain⟨j1,j2,j3,j4,j5⟩:=joinT_eq k3
 have et:text=joinS (linesP p) nlS:=by
   rw [<- c2,<-j5]
   unfold checkP at c1 ⊢
   split at c1
   · next hc=>rw [if_pos hc]
   · cases c1
 have es:zad text nlS=linesP p:=by rw [et]; exact split_joinS j1 j2
 intro r
 have hr:(applyP p data).2.2=0:=h2
 have er:r=joinS (applyP p data).2.1 nlS:=rfl
 unfold applyP at hr er
 rw [if_pos c1]at hr er
 split at hr
 · next d1 =>
   rw [if_pos d1]at er
   split at hr
   · next d2=>
     rw [if_pos d2]at er
     split at hr
     · next d3=>
       rw [if_pos d3]at er
       simp only at er
       have eo:(zar data).1=zad data nlS:=by
         unfold zar at d1 ⊢
         split at d1
         · exact absurd d1 (by decide)
         · next hb=>rw [if_neg hb]
       rw [eo]at er d3
       obtain⟨g1,g2,g3,g4,g5⟩:=joinT_eq d3
       generalize eout:outP (zad data nlS) p.hunks=out at*
       have e2:zad r nlS=out:=by rw [er]; exact split_joinS g1 g2
       have hss:=split_sum 10 r.data.toList
       have hz:r.data.toList.length=r.size:=rfl
       have e3:zad r nlS=(zcf 10 r.data.toList).map ba:=rfl
       have key:∀ l:List (List UInt8),sizeS (l.map ba)=(((l.map (·.length)).sum:Nat):Int):=by
         intro l
         induction l with
         |nil=>rfl
         |cons p l ih=>simp only [List.map_cons,sizeS,List.sum_cons,ih,ba_size]; omega
       have k4:=key (zcf 10 r.data.toList)
       rw [<- e3,e2]at k4
       have e4:(zcf 10 r.data.toList).length=out.length:=by rw [<- e2,e3,List.length_map]
       have e5:(zcf 10 r.data.toList).length=r.data.toList.count 10+1:=split_len _
       have ec:countF r nlS=((r.data.toList.count 10:Nat):Int):=rfl
       have hsz:(r.size:Int)<=65536:=by omega
       refine⟨?_,?_,by omega,?_⟩
       · unfold bigT
         simp only [Bool.or_eq_false_iff,decide_eq_false_iff_not]
         omega
       · rw [e2,<-eout]
         have hn:∀ h∈p.hunks,0<=h.n:=fun h hh=>by have:=(hunk_n (mem_hunk k1 hh)).2.2.1; omega
         have o1:=out_size (old:=zad data nlS) p.hunks ([],0) (by simp) hn
         have o2:=lines_size p.hunks
         have o3:=sizeS_split text
         rw [es,linesP_eq,sizeS_app]at o3
         have o4:=sizeS_pos (baseL p)
         have o5:=sizeS_split data
         unfold outP
         simp only [sizeS,Int.toNat_zero,List.drop_zero]at o1
         omega
       · rw [e2,<-eout]
         intro z hz
         rcases out_mem p.hunks ([],0) hz with k|k|⟨h,k,k'⟩
         · cases k
         · exact .inl k
         · right
           rw [es,linesP_eq]
           exact List.mem_append_right _ (List.mem_flatMap.2 ⟨h,k,List.mem_cons_of_mem _ k'⟩)
     · next d3=>exact absurd hr d3
   · exact absurd hr (by decide)
 · next d1=>exact absurd hr d1
end Go.Lic
set_option linter.all false
namespace Go.Lic
open Go.Proofs Go.Sort
theorem ParI.next {n:Int}(n1:¬n<1)(n2:¬n>1024){hs:List Hunk}{z:ByteArray}{r:List ByteArray}(hi:ParI 301 hs (z::r))(kd:Int)(ls r2:List ByteArray)(a:ls.length<=301)(b:∀ y∈ls,y.size<=300)(c:r2.length<=r.length)(d:∀ y∈r2,y.size<=300):ParI 301 (hs++ [⟨kd,n,ls⟩]) r2:=by
 have hlen:=hi.len
 rw [List.length_cons]at hlen
 refine⟨by rw [List.length_append,List.length_singleton]; omega,fun x hx=>?_,d⟩
 rcases List.mem_append.1 hx with hx|hx
 · exact hi.ok x hx
 · rw [List.mem_singleton.1 hx]; exact⟨by simp only; omega,by simp only; omega,by simp only; omega,fun y hy=>by have:=b y hy; omega⟩
theorem parseL_ok :∀(k:Nat) (hs:List Hunk) (l:List ByteArray) (o:List Hunk),ParI 301 hs l->parseL k hs l=some o->∃ l',ParI 301 o l'
 |0,hs,l,o,hi,h=>by rw [parseL]at h; cases h; exact⟨l,hi⟩
 |k+1,hs,[],o,hi,h=>by rw [parseL]at h; cases h; exact⟨[],hi⟩
 | k + 1,hs,z::r,o,hi,h=>by
   have hr:∀ y∈r,y.size<=300:=fun y hy=>hi.size y (List.mem_cons_of_mem _ hy)
   have hlen:=hi.len
   rw [List.length_cons]at hlen
   rw [parseL]at h
   split at h
   · cases h
   · next n hn =>
     split at h
     · cases h
     · next hb =>
       have b1:¬n<1:=fun e=>hb (.inl e)
       have b2:¬n>1024:=fun e=>hb (.inr e)
       split at h
       · exact parseL_ok k _ _ o (hi.next b1 b2 1 [] r (by simp) (by simp) (Nat.le_refl _) hr) h
       · split at h
         · exact parseL_ok k _ _ o (hi.next b1 b2 2 [] r (by simp) (by simp) (Nat.le_refl _) hr) h
         · split at h
           · split at h
             · cases h; exact⟨_,hi⟩
             · have e1:zbc r 0 n=r.take n.toNat:=by simp [zbc]
               have e2:zbc r n (r.length:Int)=r.drop n.toNat:=by simp [zbc]
               rw [e1,e2]at h
               exact parseL_ok k _ _ o (hi.next b1 b2 3 _ _ (by rw [List.length_take]; omega) (fun y hy=>hr y (List.mem_of_mem_take hy)) (by rw [List.length_drop]; omega) (fun y hy=>hr y (List.mem_of_mem_drop hy))) h
           · exact parseL_ok k _ _ o (hi.next b1 b2 0 [] r (by simp) (by simp) (Nat.le_refl _) hr) h
theorem okP_no :okP4 ⟨ByteArray.empty,[]⟩:=⟨by decide,by decide,by simp⟩
theorem done_ok {text base:ByteArray}(hb:base.size<=32){k:Nat}{l:List ByteArray}(hi:ParI 301 [] l):okP4 (doneP text base (parseL k [] l)).1:=by
 cases ho:parseL k [] l with
 |none=>exact okP_no
 | some hs=>
   obtain⟨l',h⟩:=parseL_ok k [] l hs hi ho
   unfold doneP
   simp only
   split
   · exact h.patch hb
   · exact okP_no
theorem parse_ok {text:ByteArray}(h:text.size<=300):okP4 (zaq text).1:=by
 obtain⟨h1,h2⟩:=linesT_300 h
 have hI:∀ l:List ByteArray,l.length<=301->(∀ z∈l,z.size<=300)->ParI 301 [] l:=fun l a b=>⟨by simpa using a,by simp,b⟩
 have hs:∀ z∈zbc (zar text).1 1 ((zar text).1.length:Int),z.size<=300:=fun z hz=>h2 z (List.mem_of_mem_take (List.mem_of_mem_drop hz))
 have hl:(zbc (zar text).1 1 ((zar text).1.length:Int)).length<=301:=by simp [zbc]; omega
 unfold zaq
 split
 · split
   · split
     · exact done_ok (parseD_size _) (hI _ hl hs)
     · exact okP_no
   · exact done_ok (by decide) (hI _ h1 h2)
 · exact okP_no
theorem share_nn :∀(l:List Piece) (out:List Int),(∀ p∈l,0<=p.to-p.from_)->(∀ x∈out,0<=x)->∀ x∈l.foldl (fun out p=>si out p.text (gi out p.text+(p.to-p.from_))) out,0<=x
 | [],out,_,h=>h
 | p ::l,out,hl,h=>by
   rw [List.foldl_cons]
   refine share_nn l _ (fun q hq=>hl q (List.mem_cons_of_mem _ hq)) (fun x hx=>?_)
   rcases List.mem_or_eq_of_mem_set hx with hx|hx
   · exact h x hx
   · have h1:=hl p (by simp)
     have h2:0<=gi out p.text:=by
       unfold gi
       rw [List.getD_eq_getElem?_getD]
       cases he:out[p.text.toNat]? with
       |none=>exact Int.le_refl _
       |some y=>exact h y (List.mem_of_getElem? he)
     omega
theorem take_sum :∀(l:List Int),(∀ x∈l,0<=x)->∀ n:Nat,0<=(l.take n).sum/\(l.take n).sum<=l.sum
 | [],_,n=>by simp
 | x::l,h,0=>by
   have:=take_sum l (fun y hy=>h y (List.mem_cons_of_mem _ hy)) 0
   have hx:=h x (by simp)
   rw [List.take_zero,List.sum_nil,List.sum_cons]at*
   omega
 | x::l,h,n+1=>by
   have:=take_sum l (fun y hy=>h y (List.mem_cons_of_mem _ hy)) n
   have hx:=h x (by simp)
   rw [List.take_succ_cons,List.sum_cons,List.sum_cons]
   omega
end Go.Lic
set_option linter.all false
namespace Go.Lic
open Go.Proofs Go.Sort Go.Shelf
theorem eqAt_gi {A B:List Lexeme}{i j:Nat}:eqAt A B i j↔i<A.length/\j<B.length/\(gi A (i:Int)).text=(gi B (j:Int)).text:=by
 constructor
 · rintro⟨x,y,h1,h2,h3⟩
   obtain⟨l1,e1⟩:=List.getElem?_eq_some_iff.1 h1
   obtain⟨l2,e2⟩:=List.getElem?_eq_some_iff.1 h2
   exact⟨l1,l2,by rw [gi_nat l1,gi_nat l2,e1,e2,h3]⟩
 · rintro⟨h1,h2,h3⟩
   rw [gi_nat h1,gi_nat h2]at h3
   exact⟨A[i],B[j],List.getElem?_eq_getElem h1,List.getElem?_eq_getElem h2,h3⟩
theorem eqAt_int {A B:List Lexeme}{i j:Int}(hi:0<=i)(hj:0<=j):eqAt A B i.toNat j.toNat↔i<A.length/\j<B.length/\(gi A i).text=(gi B j).text:=by
 rw [eqAt_gi,show((i.toNat:Nat):Int)=i by omega,show((j.toNat:Nat):Int)=j by omega]
 constructor<;>rintro⟨h1,h2,h3⟩<;>exact⟨by omega,by omega,h3⟩
theorem toN_le (A B:List Lexeme)(i j:Nat):toN A B i j<=A.length/\toN A B i j<=B.length:=by
 have:=common_le (A.drop i) (B.drop j)
 simp only [List.length_drop]at this
 unfold toN; omega
theorem klook_ok (texts:(List Text))(least:Int)(seen:(List (CloneDiagonal×Int)))(found:(List (Clone×Unit)))(x:ClonePlace)(y:ClonePlace)(Q:(List (CloneDiagonal×Int))×(List (Clone×Unit))->Prop)(hp0:okTs texts)(hp1:OkP texts (x,y))(h:Q (lookF texts least seen found x y)):klook_vc texts least seen found x y Q:=by
 obtain⟨ha,hb,x0,x1,y0,y1⟩:=hp1
 simp only at ha hb x0 x1 y0 y1
 have hwa:=(hp0.2 _ (gi_mem ha)).2.1
 have hwb:=(hp0.2 _ (gi_mem hb)).2.1
 unfold lookF at h
 have eT:toP texts (x,y)=toN (gi texts x.text).words (gi texts y.text).words x.at_.toNat y.at_.toNat:=rfl
 have eF:backP texts (x,y)=backN (gi texts x.text).words (gi texts y.text).words x.at_.toNat y.at_.toNat:=rfl
 have ed:diagP (x,y)=CloneDiagonal.mk x.text y.text (y.at_-x.at_):=rfl
 unfold cloneP at h
 simp only [eT,eF,ed]at h
 unfold klook_vc klook_L1 klook_L2
 generalize hA:(gi texts x.text).words=A at*
 generalize hB:(gi texts y.text).words=B at*
 obtain⟨tA,tB⟩:=toN_le A B x.at_.toNat y.at_.toNat
 have hlt:∀ s,s<toN A B x.at_.toNat y.at_.toNat->eqAt A B (x.at_.toNat+s) (y.at_.toNat+s):=fun s hs=>toN_lt hs
 have hend:¬eqAt A B (x.at_.toNat+toN A B x.at_.toNat y.at_.toNat) (y.at_.toNat+toN A B x.at_.toNat y.at_.toNat):=toN_end
 obtain⟨bA,bB⟩:=backN_le (A:=A) (B:=B) (i:=x.at_.toNat) (j:=y.at_.toNat) (by omega) (by omega)
 have hblt:∀ s,s<backN A B x.at_.toNat y.at_.toNat->s<x.at_.toNat/\s<y.at_.toNat/\eqAt A B (x.at_.toNat-1-s) (y.at_.toNat-1-s):=fun s hs=>backN_lt (by omega) (by omega) hs
 have hbend:backN A B x.at_.toNat y.at_.toNat<x.at_.toNat->backN A B x.at_.toNat y.at_.toNat<y.at_.toNat->¬eqAt A B (x.at_.toNat-1-backN A B x.at_.toNat y.at_.toNat) (y.at_.toNat-1-backN A B x.at_.toNat y.at_.toNat):=backN_end (by omega) (by omega)
 generalize toN A B x.at_.toNat y.at_.toNat=t at*
 generalize backN A B x.at_.toNat y.at_.toNat=f at*
 refine⟨by omega,fun hgt=>by rw [if_pos hgt]at h; exact h,fun hgt=>⟨ha,hb,?_⟩⟩
 rw [if_neg hgt]at h
 refine lfp_of (fun to:Int=>0<=to/\to<=t) (fun to=>((t:Int)+1-to).toNat) (fun to hto again hag=>?_) ⟨by omega,by omega⟩
 obtain⟨t0,t1⟩:=hto
 by_cases hc:to<t
 · have hq:=hlt to.toNat (by omega)
   rw [show x.at_.toNat+to.toNat=(x.at_+to).toNat by omega,show y.at_.toNat+to.toNat=(y.at_+to).toNat by omega,eqAt_int (by omega) (by omega)]at hq
   refine⟨by omega,fun _=>by omega,fun _=>⟨by omega,by omega,by omega⟩,fun _=>⟨by omega,hag _ ⟨by omega,by omega⟩ (by omega)⟩,fun hn=>?_⟩
   exfalso
   rcases hn with(hn|hn)|hn
   · exact hn hq.1
   · exact hn hq.2.1
   · exact hn hq.2.2
 · have e:to=t:=by omega
   subst e
   rw [show x.at_.toNat+t=(x.at_+(t:Int)).toNat by omega,show y.at_.toNat+t=(y.at_+(t:Int)).toNat by omega,eqAt_int (by omega) (by omega)]at hend
   refine⟨by omega,fun _=>by omega,fun _=>⟨by omega,by omega,by omega⟩,fun hq=>absurd ⟨hq.1.1,hq.1.2,hq.2⟩ hend,fun _=>⟨?_,?_⟩⟩
   · simp only [gmax,List.foldl_cons,List.foldl_nil]; split<;>omega
   · have eg:gmax (t:Int) [1]=((max t 1:Nat):Int):=by simp only [gmax,List.foldl_cons,List.foldl_nil]; split<;>omega
     rw [eg]
     rcases Nat.eq_zero_or_pos t with hz|hz
     · subst hz
       refine lfp_of (fun fr:Int=>fr=0) (fun _=>0) (fun fr hfr again hag=>?_) rfl
       subst hfr
       refine⟨fun hq=>by omega,fun hq=>by omega,fun _=>⟨by omega,fun hq=>by omega,fun _=>?_⟩⟩
       rw [if_neg (by omega)]at h
       exact h
     · refine lfp_of (fun fr:Int=>0<=fr/\fr<=f) (fun fr=>((f:Int)+1-fr).toNat) (fun fr hfr again hag=>?_) ⟨by omega,by omega⟩
       obtain⟨f0,f1⟩:=hfr
       by_cases hc:fr<f
       · obtain⟨q1,q2,q3⟩:=hblt fr.toNat (by omega)
         rw [show x.at_.toNat-1-fr.toNat=(x.at_-fr-1).toNat by omega,show y.at_.toNat-1-fr.toNat=(y.at_-fr-1).toNat by omega,eqAt_int (by omega) (by omega)]at q3
         refine⟨fun _=>⟨by omega,by omega,by omega,by omega,by omega,by omega⟩,fun _=>⟨by omega,hag _ ⟨by omega,by omega⟩ (by omega)⟩,fun hn=>?_⟩
         exfalso
         rcases hn with((hn|hn)|hn)|hn
         · omega
         · omega
         · omega
         · exact hn q3.2.2
       · have e:fr=f:=by omega
         subst e
         refine⟨fun hq=>⟨by omega,by omega,by omega,by omega,by omega,by omega⟩,fun hq=>?_,fun _=>⟨by omega,fun hq=>⟨by omega,by omega,by omega,?_⟩,fun hq=>?_⟩⟩
         · exfalso
           have:=hbend (by omega) (by omega)
           rw [show x.at_.toNat-1-f=(x.at_-(f:Int)-1).toNat by omega,show y.at_.toNat-1-f=(y.at_-(f:Int)-1).toNat by omega,eqAt_int (by omega) (by omega)]at this
           exact this ⟨by omega,by omega,hq.2⟩
         · rw [if_pos ⟨by omega,by omega⟩]at h
           exact h
         · rw [if_neg (by omega)]at h
           exact h
end Go.Lic
set_option linter.all false
namespace Go.Lic
open Go.Proofs Go.Sort
theorem few40 {l:List Text}(h:fewTs l=true):∀ t∈l,t.words.length<=40:=fun t ht=>by
 unfold fewTs fewW at h
 rw [Bool.and_eq_true,List.all_eq_true]at h
 have:=h.2 t ht
 simp only [Bool.and_eq_true,decide_eq_true_eq]at this
 exact this.1.1
theorem against_bd {c:Corpus}{t:Text}(hA:∀ x∈c.texts++ [t],x.words.length<=40)(hl:c.texts.length<=5)(hk:c.k+c.w-1=1)(h1:checkF c=0)(h2:zbi t=true):
   ((zaw c t).2=0\/(zaw c t).2=10)/\(zaw c t).1.length<=1024/\∀ z∈(zaw c t).1,(0<=z.atA/\z.atA<=40)/\(0<=z.atB/\z.atB<=40)/\(0<=z.len/\z.len<=40):=by
 unfold zaw
 rw [if_pos ⟨h1,h2⟩]
 unfold zbx
 rw [hk]
 split
 · exact⟨.inr rfl,by simp,by simp⟩
 · next hn=>
   refine⟨.inl rfl,by simp only; omega,fun z hz=>?_⟩
   obtain⟨a',i',b',j',z1,z2,z3,z4,z5,z6,z7,rfl⟩:=mem_ref.1 hz
   have w2:=hA _ (gi_mem (l:=c.texts++ [t]) (i:=(a':Int)) ⟨by omega,by omega⟩)
   have w3:=hA _ (gi_mem (l:=c.texts++ [t]) (i:=(b':Int)) ⟨by omega,by omega⟩)
   have w4:=(lenC_pos (a:=gi (c.texts++ [t]) (a':Nat)) (b:=gi (c.texts++ [t]) (b':Nat)) (i:=i') (j:=j') (by omega)).2
   have w5:=(toN_le (gi (c.texts++ [t]) (a':Nat)).words (gi (c.texts++ [t]) (b':Nat)).words i' j').1
   simp only
   refine⟨⟨?_,?_⟩,⟨?_,?_⟩,⟨?_,?_⟩⟩<;>omega
theorem few_pieces {c:Corpus}{t:Text}{least:Int}(hl:1<=least):∀(l:List Piece) (e:Int),checkPs c t least e l=0->(l.length:Int)<=coverF l
 | [],_,_=>by simp
 | p::l,e,h=>by
   obtain⟨h1,h2,h3⟩:=checkPs_cons.1 h
   obtain⟨⟨k1,k2,k3⟩,_⟩:=(pieceOk_iff _ _ _ _).1 h1
   have:=few_pieces hl l p.to h3
   rw [coverF_cons,List.length_cons]; omega
theorem check_one {c:Corpus}{t:Text}{least:Int}(hl:1<=least):∀(l:List Piece) (e:Int),checkPs c t least e l=0->checkPs c t 1 e l=0
 | [],_,_=>rfl
 | p::l,e,h=>by
   obtain⟨h1,h2,h3⟩:=checkPs_cons.1 h
   obtain⟨k1,k2,k3,k4⟩:=(pieceOk_iff _ _ _ _).1 h1
   exact checkPs_cons.2 ⟨(pieceOk_iff _ _ _ _).2 ⟨k1,by omega,k3,k4⟩,h2,check_one hl l p.to h3⟩
theorem inf_app1 (a b:ByteArray):Inf a.data.toList (a++b).data.toList:=⟨[],b.data.toList,by simp [ByteArray.data_append]⟩
theorem inf_app2 (a b:ByteArray):Inf b.data.toList (a++b).data.toList:=⟨a.data.toList,[],by simp [ByteArray.data_append]⟩
theorem line_inf {s z:ByteArray}(h:z∈zad s nlS):Inf z.data.toList s.data.toList:=by
 have e:zad s nlS=(zcf 10 s.data.toList).map ba:=rfl
 rw [e]at h
 obtain⟨p,hp,rfl⟩:=List.mem_map.1 h
 exact split_inf _ p hp
theorem lawAttr_ok (data:ByteArray)(text:ByteArray)(least:Int)(Q:Bool->Prop)(hp0:inL least 256)(h:Q (true)):lawAttr_vc data text least Q:=by
 refine⟨nofun,fun _=>⟨fun⟨g1,g2⟩=>⟨by omega,by rw [ByteArray.size_append]; omega,by decide⟩,fun _=>h,fun hg=>?_⟩⟩
 obtain⟨⟨g1,g2⟩,gn⟩:=hg
 refine⟨by omega,parse_ok (by omega),by omega,fun _=>h,fun⟨e1,e2⟩=>?_⟩
 obtain⟨r1,r2,r3,r4⟩:=result_lines e1 e2
 obtain⟨na,va⟩:=normF_small (path:=⟨#[97]⟩) (data:=data) (by decide +kernel) (by decide +kernel) (by omega)
 obtain⟨nb,vb⟩:=normF_small (path:=⟨#[98]⟩) (data:=text) (by decide +kernel) (by decide +kernel) (by omega)
 obtain⟨nt,vt⟩:=normF_eq (path:=⟨#[116]⟩) (data:=(zbg (zaq text).1 data).1) (by decide +kernel) (by decide +kernel) r1 (by omega)
 have hna:∀ z∈zad data nlS,noteF (zbw z)<0:=fun z hz=>no_note gn z ((line_inf hz).trans (inf_app1 _ _))
 have hnb:∀ z∈zad text nlS,noteF (zbw z)<0:=fun z hz=>no_note gn z ((line_inf hz).trans (inf_app2 _ _))
 have hkn:∀ w∈normL false false 0 0 (zad (zbg (zaq text).1 data).1 nlS),(∃ v∈normL false false 0 0 (zad data nlS),v.text=w.text)\/(∃ v∈normL false false 0 0 (zad text nlS),v.text=w.text):=by
   intro w hw
   obtain⟨l,hl,hx⟩:=norm_mem _ _ _ w hw
   rcases r4 l hl with k|k
   · exact .inl (norm_all _ 0 hna l k _ hx)
   · exact .inr (norm_all _ 0 hnb l k _ hx)
 generalize eA:(⟨⟨#[97]⟩,normL false false 0 0 (zad data nlS)⟩:Text)=A at na va
 generalize eB:(⟨⟨#[98]⟩,normL false false 0 0 (zad text nlS)⟩:Text)=B at nb vb
 generalize eT:(⟨⟨#[116]⟩,normL false false 0 0 (zad (zbg (zaq text).1 data).1 nlS)⟩:Text)=T at nt vt
 have hkA:normL false false 0 0 (zad data nlS)=A.words:=by rw [<- eA]
 have hkB:normL false false 0 0 (zad text nlS)=B.words:=by rw [<- eB]
 have hkT:normL false false 0 0 (zad (zbg (zaq text).1 data).1 nlS)=T.words:=by rw [<- eT]
 rw [hkA,hkB,hkT]at hkn
 have pA:A.path=⟨#[97]⟩:=by rw [<- eA]
 have pB:B.path=⟨#[98]⟩:=by rw [<- eB]
 refine⟨by decide,by omega,by decide,by omega,by decide,by omega,fun hbad=>?_,fun _=>⟨fun _=>h,fun hf=>?_⟩⟩
 · rw [na,nb,nt]at hbad; simp at hbad
 rw [na,nb,nt]at hf
 simp only at hf
 have hok:=fewTsT hf
 have hw40:∀ x∈ [A,B,T],x.words.length<=40:=few40 hf
 have oA:=hok.2 A (by simp); have oB:=hok.2 B (by simp); have oT:=hok.2 T (by simp)
 obtain⟨c0,c1,c2,ck⟩:=two_added va vb pA pB
 have hoks:okTs [A,B]:=⟨by simp,fun x hx=>hok.2 x (by rcases List.mem_cons.1 hx with rfl|hx; simp; rw [List.mem_singleton.1 hx]; simp)⟩
 have oc0:okC (zay [] 1 1):=⟨⟨by simp [zay],by simp [zay]⟩,by decide +kernel⟩
 have hfl:∀ l:List Text,okTs l->l.length<=5->okC (zay l 1 1):=fun l h1 h2=>⟨h1,by
   show(postsF l 1 1).length<=1000000000
   rw [(posts_perm l 1 1).length_eq]
   have:=flatP_len l 0 1 1 h1.2
   omega⟩
 have oc1:=hfl [A] ⟨by simp,fun x hx=>hoks.2 x (by rw [List.mem_singleton.1 hx]; simp)⟩ (by simp)
 have oc2:=hfl [A,B] hoks (by simp)
 refine lfp3 (lawAttr_L1 data text least Q) (fun c j x=>(x=0/\c=zay [] 1 1/\j=0)\/(x=1/\c=zay [A] 1 1/\j=0)\/(x=2/\c=zay [A,B] 1 1/\j=0)) (fun _ _ x=>(2-x).toNat) (fun c j x hst again hag=>?_) (.inl ⟨rfl,by rw [c0],by rw [c0]⟩)
 unfold lawAttr_L1
 simp only [na,nb,nt]
 refine⟨fun hx=>?_,fun hx=>?_⟩
 · rcases hst with⟨rfl,rfl,rfl⟩|⟨rfl,rfl,rfl⟩|⟨rfl,rfl,rfl⟩
   · refine⟨⟨by decide,by show(0:Int)<2; decide⟩,fun _=>⟨oc0,oA,by omega,?_⟩,fun k=>absurd rfl k⟩
     rw [show gi [A,B] 0=A from rfl,c1]
     exact hag _ _ _ (.inr (.inl ⟨rfl,rfl,rfl⟩)) (by decide)
   · refine⟨⟨by decide,by show(1:Int)<2; decide⟩,fun _=>⟨oc1,oB,by omega,?_⟩,fun k=>absurd rfl k⟩
     rw [show gi [A,B] 1=B from rfl,c2]
     exact hag _ _ _ (.inr (.inr ⟨rfl,rfl,rfl⟩)) (by decide)
   · simp at hx
 obtain⟨rfl,rfl,rfl⟩:x=2/\c=zay [A,B] 1 1/\j=0:=by
   rcases hst with⟨rfl,_⟩|⟨rfl,_⟩|k
   · simp at hx
   · simp at hx
   · exact k
 have hk:∀ w∈T.words,∃ a:Nat,a<(zay [A,B] 1 1).texts.length/\∃ i:Nat,∃ h:i<(gi (zay [A,B] 1 1).texts (a:Int)).words.length,((gi (zay [A,B] 1 1).texts (a:Int)).words[i]).text=w.text:=by
   intro w hw
   rcases hkn w hw with⟨v,hv,e⟩|⟨v,hv,e⟩
   · obtain⟨i,hi,rfl⟩:=List.getElem_of_mem hv; exact⟨0,by show 0<2; decide,i,hi,e⟩
   · obtain⟨i,hi,rfl⟩:=List.getElem_of_mem hv; exact⟨1,by show 1<2; decide,i,hi,e⟩
 have hcov:=full_cover hk
 have hun:=unknown_none vt hcov
 obtain⟨b1,b2,b3⟩:=against_bd (c:=zay [A,B] 1 1) (t:=T) hw40 (by show 2<=5; decide) (by show(1:Int)+1-1=1; decide) ck vt
 have hra:∀ L:Int,1<=L->L<=8192->attrF (zay [A,B] 1 1) T L=(⟨T.path,piecesF (zay [A,B] 1 1) T L.toNat⟩,0):=by
   intro L l1 l2
   have:rightA (zay [A,B] 1 1) T L=0:=by
     unfold rightA rightCT
     rw [ck,vt,if_pos (by rfl),if_pos ⟨l1,l2⟩]
   unfold attrF
   rw [if_pos this]
 have hfew:∀ L:Int,1<=L->((piecesF (zay [A,B] 1 1) T L.toNat).length:Int)<=40:=by
   intro L l1
   have f:=found_right (c:=zay [A,B] 1 1) (t:=T) l1
   have:=few_pieces l1 _ 0 f
   have:=cover_le _ 0 (by omega) f
   have:=hw40 T (by simp)
   omega
 have hoka:∀ L:Int,1<=L->okA ⟨T.path,piecesF (zay [A,B] 1 1) T L.toNat⟩:=fun L l1=>⟨oT.1,by have:=hfew L l1; simp only; omega⟩
 have hpin:∀ L:Int,1<=L->∀ p∈piecesF (zay [A,B] 1 1) T L.toNat,pieceOk (zay [A,B] 1 1) T L p=true:=fun L l1=>checkPs_mem _ 0 (found_right (c:=zay [A,B] 1 1) (t:=T) l1)
 have hw8:IntKind.i64.wrap least=least:=wrap_small (by omega)
 have hhas:∀ p:Piece,pieceOk (zay [A,B] 1 1) T 1 p=true->(zaw (zay [A,B] 1 1) T).2=0->((zaw (zay [A,B] 1 1) T).1).any (fun z=>inPieceF z p)=true:=fun p hp hz=>against_has (by show(1:Int)+1-1=1; decide) hz hp
 have hat:∀ p:Piece,pieceOk (zay [A,B] 1 1) T 1 p=true->(0<=p.from_/\p.from_<=40)/\(0<=p.to/\p.to<=40)/\(0<=p.at_/\p.at_<=40):=by
   intro p hp
   obtain⟨⟨k1,k2,k3⟩,_,k5,k6⟩:=(pieceOk_iff _ _ _ _).1 hp
   obtain⟨s1,s2,_⟩:=(sameF_iff _ _ _).1 k6
   have t40:=hw40 T (by simp)
   have a40:=hw40 (gi (zay [A,B] 1 1).texts p.text) (by have:=gi_mem k5; rcases List.mem_cons.1 this with e|e; rw [e]; simp; rw [List.mem_singleton.1 e]; simp)
   omega
 have hsh:∀ L:Int,1<=L->shareF (zay [A,B] 1 1) T ⟨T.path,piecesF (zay [A,B] 1 1) T L.toNat⟩=(shareL 2 (piecesF (zay [A,B] 1 1) T L.toNat),0):=by
   intro L l1
   have f:=check_one l1 _ 0 (found_right (c:=zay [A,B] 1 1) (t:=T) l1)
   have r0:rightA (zay [A,B] 1 1) T 1=0:=by
     unfold rightA rightCT
     rw [ck,vt,if_pos (by rfl),if_pos ⟨by decide,by decide⟩]
   have r1:rightCT (zay [A,B] 1 1) T=true:=by unfold rightCT; rw [ck,vt]; rfl
   have r2:checkA (zay [A,B] 1 1) T 1 ⟨T.path,piecesF (zay [A,B] 1 1) T L.toNat⟩=0:=by
     unfold checkA
     rw [if_pos r0,if_pos rfl]
     exact f
   unfold shareF
   rw [if_pos r1,if_pos r2]
   rfl
 have hsum:∀ L:Int,1<=L->(shareL 2 (piecesF (zay [A,B] 1 1) T L.toNat)).sum<=T.words.length/\(∀ x∈shareL 2 (piecesF (zay [A,B] 1 1) T L.toNat),0<=x):=by
   intro L l1
   have f:=found_right (c:=zay [A,B] 1 1) (t:=T) l1
   refine⟨shares_le f,share_nn _ _ (fun p hp=>?_) (fun x hx=>?_)⟩
   · have:=((pieceOk_iff _ _ _ _).1 (hpin L l1 p hp)).1; omega
   · rw [(List.mem_replicate.1 hx).2]; exact Int.le_refl _
 have t40:=hw40 T (by simp)
 generalize zay [A,B] 1 1=c at*
 rw [hra 1 (by decide) (by decide),show(1:Int).toNat=1 from rfl,hun]
 refine⟨oc2,oT,oT,hoka 1 (by decide),oc2,oT,fun hbad=>?_,fun _=>?_⟩
 · exfalso
   simp only at hbad
   rcases hbad with(((k|k)|k)|k)|⟨k,k2⟩
   · first|exact k rfl|exact k trivial
   · first|exact k rfl|exact k trivial
   · first|exact k rfl|exact k trivial
   · first|exact k rfl|exact k trivial
   · rcases b1 with b|b
     · exact k b
     · exact k2 b
 have hra1:=hra 1 (by decide) (by decide)
 rw [show(1:Int).toNat=1 from rfl]at hra1
 have hp1:=hpin 1 (by decide)
 rw [show(1:Int).toNat=1 from rfl]at hp1
 have h40:=hfew 1 (by decide)
 rw [show(1:Int).toNat=1 from rfl]at h40
 refine lfp_of (fun x:Int=>0<=x/\x<=(piecesF c T 1).length) (fun x=>((piecesF c T 1).length-x).toNat) (fun x hx again2 hag2=>?_) ⟨by omega,by omega⟩
 obtain⟨x0,x1⟩:=hx
 unfold lawAttr_L2
 simp only [nt,hra1,hw8]
 refine⟨fun hlt=>?_,fun hnl=>?_⟩
 · have hin:inL x (piecesF c T 1).length:=⟨x0,hlt⟩
   have hpo:=hp1 _ (gi_mem hin)
   have hb:=hat _ hpo
   refine⟨hin,by omega,fun z hz=>?_,fun hbad=>?_,fun _=>⟨by omega,hag2 _ ⟨by omega,by omega⟩ (by omega)⟩⟩
   · have:=b3 z hz
     exact⟨⟨by omega,by omega⟩,⟨by omega,by omega⟩,⟨by omega,by omega⟩,⟨by omega,by omega⟩,⟨by omega,by omega⟩⟩
   · exfalso
     have:=hhas _ hpo hbad.1
     rw [hbad.2]at this
     cases this
 have l1:1<=1+least % 6:=by omega
 have l2:1+least % 6<=8192:=by omega
 have hraL:=hra (1+least % 6) l1 l2
 have hshL:=hsh (1+least % 6) l1
 obtain⟨q1,q2⟩:=hsum (1+least % 6) l1
 refine⟨⟨by omega,by decide⟩,⟨by omega,by omega⟩,oc2,oT,oc2,oT,by rw [hraL]; exact hoka _ l1,?_⟩
 refine lfp2 (lawAttr_L3 data text least c Q) (fun sum y=>0<=y/\y<=(shareL 2 (piecesF c T (1+least % 6).toNat)).length/\sum=((shareL 2 (piecesF c T (1+least % 6).toNat)).take y.toNat).sum) (fun _ y=>((shareL 2 (piecesF c T (1+least % 6).toNat)).length-y).toNat) (fun sum y hy again3 hag3=>?_) ⟨by omega,by omega,by simp⟩
 obtain⟨y0,y1,y2⟩:=hy
 unfold lawAttr_L3
 simp only [nt,hw8,hraL,hshL]
 refine⟨fun hlt=>?_,fun hnl=>?_⟩
 · have hin:inL y (shareL 2 (piecesF c T (1+least % 6).toNat)).length:=⟨y0,hlt⟩
   have hs:sum+gi (shareL 2 (piecesF c T (1+least % 6).toNat)) y=((shareL 2 (piecesF c T (1+least % 6).toNat)).take (y+1).toNat).sum:=by
     rw [y2,show(y+1).toNat=y.toNat+1 by omega,List.take_succ_eq_append_getElem (by omega),List.sum_append,gi_lt hin]
     simp
   have ht:=take_sum _ q2 (y+1).toNat
   have hl2:=shareL_len 2 (piecesF c T (1+least % 6).toNat)
   exact⟨hin,by omega,by omega,hag3 _ _ ⟨by omega,by omega,hs⟩ (by omega)⟩
 · have e:sum=(shareL 2 (piecesF c T (1+least % 6).toNat)).sum:=by rw [y2,List.take_of_length_le (by omega)]
   have:decide (sum<=(T.words.length:Int))=true:=decide_eq_true (by omega)
   rw [this]
   exact h
end Go.Lic
set_option linter.all false
namespace Go.Lic
open Go.Proofs Go.Sort Go.Shelf
theorem gi_siK {α:Type} [Inhabited α]{l:List α}{i:Int}(h:inL i l.length)(v:α){j:Int}(hj:0<=j):gi (si l i v) j=if j=i then v else gi l j:=by
 unfold gi si
 by_cases e:j=i
 · subst e; rw [if_pos rfl]; simp [List.getD,show j.toNat<l.length by omega]
 · rw [if_neg e]; simp only [List.getD,List.getElem?_set]; rw [if_neg (by omega)]
theorem flatP_appK (k w:Int):∀(a b:List Text) (i:Nat),flatP i (a++b) k w=flatP i a k w++flatP (i+a.length) b k w
 | [],b,i=>by simp [flatP]
 | t::a,b,i=>by
   rw [List.cons_append,flatP,flatP,flatP_appK k w a b (i+1),List.append_assoc,show i+1+a.length=i+(t::a).length by simp; omega]
theorem flatP_takeK {l:List Text}{x:Int}(h:inL x l.length)(k w:Int):flatP 0 (l.take (x+1).toNat) k w=flatP 0 (l.take x.toNat) k w++postsOf x.toNat (zak (gi l x) k w).1:=by
 rw [tk_gi h,flatP_appK]
 simp only [flatP,List.append_nil,Nat.zero_add,List.length_take]
 rw [show min x.toNat l.length=x.toNat by omega]
theorem gi_posts {l:List Print}{x:Int}(h:inL x l.length)(i:Nat):gi (postsOf i l) x=⟨(gi l x).hash,(i:Int),(gi l x).at_⟩:=by
 unfold postsOf gi
 simp [List.getD,show x.toNat<l.length by omega]
theorem postsOf_lenK (i:Nat)(l:List Print):(postsOf i l).length=l.length:=by simp [postsOf]
theorem skip_iff {only:Int}{x y:ClonePlace}:skipF only x y=true↔(((eqClonePlace y x)=true\/y.text<x.text)\/(y.text=x.text/\y.at_<x.at_))\/(only>=0/\(¬ y.text=only\/x.text=only)):=by
 obtain⟨xa,xb⟩:=x; obtain⟨ya,yb⟩:=y
 simp only [skipF,eqClonePlace,Bool.or_eq_true,Bool.and_eq_true,decide_eq_true_eq,ClonePlace.mk.injEq,and_true,ge_iff_le,ne_eq]
theorem kclones_L6_ok {only:Int}{texts:List Text}{n:Int}(found:List (Clone×Unit))(hl:found.length<=1024)(hp:∀ m:List Clone,m.Perm (found.map (·.1))->sortF zbp m=refL texts n only)(Q:(List Clone)×Int->Prop)(h:Q (refL texts n only,0)):lfp (S:=(List Nat)×(List Clone)) (fun again193 ss=>kclones_L6 found Q again193 ss.1 ss.2) (([]:List Nat),([]:List Clone)):=by
 refine lfp2 (kclones_L6 found Q) (fun seen out=>seen.Nodup/\(∀ i∈seen,i<found.length)/\out=seen.map (fun i=>(gi found (i:Nat)).1)) (fun seen _=>found.length-seen.length) (fun seen out hst again hag=>?_) ⟨by simp,by simp,rfl⟩
 obtain⟨h1,h2,rfl⟩:=hst
 have hlen:seen.length<=found.length:=by
   have:=nodup_leK (b:=List.range found.length) h1 (fun x hx=>by rw [List.mem_range]; exact h2 x hx)
   simpa using this
 refine⟨fun hall=>⟨⟨zaf,by simp; omega⟩,?_⟩,fun at_ ha hn=>⟨by simp; omega,hag _ _ ⟨?_,?_,by simp⟩ ?_⟩⟩
 · rw [hp]
   · exact h
   · have hpm:seen.Perm (List.range found.length):=(List.perm_ext_iff_of_nodup h1 List.nodup_range).2 (fun i=>⟨fun hi=>List.mem_range.2 (h2 i hi),fun hi=>hall i (List.mem_range.1 hi)⟩)
     refine(hpm.map _).trans ?_
     have:(List.range found.length).map (fun i:Nat=>(gi found (i:Int)).1)=found.map (·.1):=by
       apply List.ext_getElem
       · simp
       · intro i h1 h2
         simp only [List.getElem_map,List.getElem_range]
         rw [gi_nat (by simpa using h2)]
     rw [this]
 · rw [List.nodup_append]
   exact⟨h1,by simp,fun a ha' b hb=>by simp at hb; subst hb; exact fun e=>hn (e▸ha')⟩
 · intro i hi
   rcases List.mem_append.1 hi with hi|hi
   · exact h2 i hi
   · simp at hi; omega
 · have:=nodup_leK (a:=seen++ [at_]) (b:=List.range found.length) (by
     rw [List.nodup_append]
     exact⟨h1,by simp,fun a ha' b hb=>by simp at hb; subst hb; exact fun e=>hn (e▸ha')⟩) (fun x hx=>by
     rw [List.mem_range]
     rcases List.mem_append.1 hx with hi|hi
     · exact h2 x hi
     · simp at hi; omega)
   simp at this ⊢; omega
section
variable {texts:List Text}{k w only:Int}(hp0:okTs texts)(hp1:∀ t_∈texts,zbi t_=true)(hp2:zbs k=true)(hp3:zbs w=true)
include hp0 hp1 hp2 hp3
theorem kclones_L3_ok {prints:List (List Print)}(Q:(List Clone)×Int->Prop)(h:Q (zbx texts k w only))(hpl:prints.length=texts.length)(hpr:∀ j:Int,inL j texts.length->gi prints j=(zak (gi texts j) k w).1):
   lfp (S:=(List (Clone×Unit))×(List (CloneDiagonal×Int))×Int) (fun again172 ss=>kclones_L3 texts k w only prints (placesF (flatP 0 texts k w)) Q again172 ss.1 ss.2.1 ss.2.2) (([]:List (Clone×Unit)),([]:List (CloneDiagonal×Int)),0):=by
 obtain⟨all,hall⟩:∃ all,all=flatP 0 texts k w:=⟨_,rfl⟩
 have hok:=pairs_ok (texts:=texts) hp1 hp2 hp3
 have hsc:=scan_all hp1 hp2 hp3 only
 have hfl:=flatP_len texts 0 k w hp0.2
 have hnl:=hp0.1
 rw [<- hall]at hok hsc hfl ⊢
 obtain⟨R,hR⟩:∃ R,R=scanF texts (k+w-1) only (pairsF all) ([],[]):=⟨_,rfl⟩
 rw [<- hR]at hsc
 unfold zbx at h
 have hflat:flatP 0 texts k w=flatP (0:Int).toNat (texts.drop (0:Int).toNat) k w:=by simp
 -- the pairs that are left, from a place on
 have hmem:∀ x2:Int,0<=x2->x2<=texts.length->∀ p∈flatP x2.toNat (texts.drop x2.toNat) k w,p∈all:=fun x2 h0 h1 p hp=>by
   rw [hall]
   have:=flatP_appK k w (texts.take x2.toNat) (texts.drop x2.toNat) 0
   rw [List.take_append_drop,Nat.zero_add,List.length_take,show min x2.toNat texts.length=x2.toNat by omega]at this
   rw [this]; exact List.mem_append_right _ hp
 refine lfp3 (kclones_L3 texts k w only prints (placesF all) Q) (fun found seen x2=>0<=x2/\x2<=texts.length/\found.length<=1024/\scanF texts (k+w-1) only ((flatP x2.toNat (texts.drop x2.toNat) k w).flatMap (pairsX all)) (seen,found)=R) (fun _ _ x2=>(texts.length-x2).toNat) (fun found seen x2 hst again hag=>?_) ⟨by omega,by omega,by simp,by rw [hR,<-hflat,<-hall]; rfl⟩
 obtain⟨h0,h1,hfd,h2⟩:=hst
 refine⟨fun hlt=>⟨by omega,?_⟩,fun hn=>?_⟩
 · have hlt':inL x2 texts.length:=⟨by omega,by omega⟩
   rw [flatP_at hlt']at h2
   have hm2:=hmem x2 h0 h1
   rw [flatP_at hlt']at hm2
   have hpx:=hpr x2 hlt'
   have hwl:=(hp0.2 _ (gi_mem hlt')).2.1
   have hpl':=prints_len (gi texts x2) k w
   generalize hP:(zak (gi texts x2) k w).1=P at*
   refine lfp3 (kclones_L4 texts k w only prints (placesF all) x2 Q again) (fun found seen x3=>0<=x3/\x3<=P.length/\found.length<=1024/\scanF texts (k+w-1) only ((postsOf x2.toNat (P.drop x3.toNat)++flatP (x2+1).toNat (texts.drop (x2+1).toNat) k w).flatMap (pairsX all)) (seen,found)=R) (fun _ _ x3=>(P.length-x3).toNat) (fun found seen x3 hst again4 hag4=>?_) ⟨by omega,by omega,hfd,h2⟩
   obtain⟨g0,g1,gfd,g2⟩:=hst
   unfold kclones_L4
   rw [hpx]
   refine⟨fun hlt3=>⟨by omega,?_⟩,fun hn3=>⟨by omega,hag _ _ _ ⟨by omega,by omega,gfd,?_⟩ (by omega)⟩⟩
   · have hlt3':inL x3 P.length:=⟨by omega,by omega⟩
     rw [postsOf_at hlt3',show((x2.toNat:Nat):Int)=x2 by omega,List.cons_append,List.flatMap_cons]at g2
     have hx:(⟨(gi P x3).hash,x2,(gi P x3).at_⟩:Pst)∈all:=by
       refine hm2 _ (List.mem_append_left _ ?_)
       have:=List.mem_of_mem_drop (i:=x3.toNat) (l:=postsOf x2.toNat P) (a:=⟨(gi P x3).hash,x2,(gi P x3).at_⟩) (by
         have e:(postsOf x2.toNat P).drop x3.toNat=postsOf x2.toNat (P.drop x3.toNat):=by simp [postsOf,List.map_drop]
         rw [e,postsOf_at hlt3',show((x2.toNat:Nat):Int)=x2 by omega]; simp)
       exact this
     generalize hrest:(postsOf x2.toNat (P.drop (x3+1).toNat)++flatP (x2+1).toNat (texts.drop (x2+1).toNat) k w).flatMap (pairsX all)=rest at*
     unfold pairsX at g2
     have hokx:∀ y∈mget [] (placesF all) (gi P x3).hash,OkP texts (⟨x2,(gi P x3).at_⟩,y):=fun y hy=>by
       refine hok (⟨x2,(gi P x3).at_⟩,y) (List.mem_flatMap.2 ⟨_,hx,?_⟩)
       unfold pairsX
       exact List.mem_map.2 ⟨y,hy,rfl⟩
     have hyl:=places_len all (gi P x3).hash
     generalize hY:mget [] (placesF all) (gi P x3).hash=Y at*
     refine lfp3 (kclones_L5 texts k w only prints (placesF all) x2 x3 Q again4) (fun found seen x4=>0<=x4/\x4<=Y.length/\found.length<=1024/\scanF texts (k+w-1) only ((Y.drop x4.toNat).map (fun y=>((⟨x2,(gi P x3).at_⟩:ClonePlace),y))++rest) (seen,found)=R) (fun _ _ x4=>(Y.length-x4).toNat) (fun found seen x4 hst again5 hag5=>?_) ⟨by omega,by omega,gfd,g2⟩
     obtain⟨k0,k1,kfd,k2⟩:=hst
     unfold kclones_L5
     rw [hpx,hY]
     refine⟨fun hlt4=>⟨by omega,fun hs=>⟨by omega,hag5 _ _ _ ⟨by omega,by omega,kfd,?_⟩ (by omega)⟩,fun hs=>⟨hp0,hokx _ (gi_mem (by omega)),fun hbig=>?_,fun hsm=>⟨by omega,hag5 _ _ _ ⟨by omega,by omega,by omega,?_⟩ (by omega)⟩⟩⟩,fun hn4=>⟨by omega,hag4 _ _ _ ⟨by omega,by omega,kfd,?_⟩ (by omega)⟩⟩
     · rw [zbn (by omega),List.map_cons,List.cons_append,scanF,stepF,if_pos (skip_iff.2 hs)]at k2
       exact k2
     · have hsk:¬skipF only (⟨x2,(gi P x3).at_⟩:ClonePlace) (gi Y x4)=true:=fun hk=>by
         have:=skip_iff.1 hk
         obtain⟨⟨⟨a1,a2⟩,a3⟩,a4⟩:=hs
         rcases this with((b|b)|b)|b
         · rw [a1]at b; cases b
         · exact a2 b
         · exact a3.elim (fun f=>f b.1) (fun f=>f b.2)
         · exact a4.elim (fun f=>f b.1) (fun f=>b.2.elim (fun g=>g f.1) (fun g=>f.2 g))
       rw [zbn (by omega),List.map_cons,List.cons_append,scanF,stepF,if_neg hsk,if_pos (by simp only; omega)]at k2
       have hnone:R=none:=k2.symm
       rcases hsc with⟨_,s2⟩|⟨s,s1,_⟩
       · rw [if_pos s2]at h; exact h
       · rw [hnone]at s1; cases s1
     · have hsk:¬skipF only (⟨x2,(gi P x3).at_⟩:ClonePlace) (gi Y x4)=true:=fun hk=>by
         have:=skip_iff.1 hk
         obtain⟨⟨⟨a1,a2⟩,a3⟩,a4⟩:=hs
         rcases this with((b|b)|b)|b
         · rw [a1]at b; cases b
         · exact a2 b
         · exact a3.elim (fun f=>f b.1) (fun f=>f b.2)
         · exact a4.elim (fun f=>f b.1) (fun f=>b.2.elim (fun g=>g f.1) (fun g=>f.2 g))
       rw [zbn (by omega),List.map_cons,List.cons_append,scanF,stepF,if_neg hsk,if_neg (by simp only; omega)]at k2
       exact k2
     · rw [zbv hn4]at k2
       rw [hrest]
       exact k2
   · rw [zbv hn3]at g2
     exact g2
 · have:texts.drop x2.toNat= []:=zbv (by omega)
   rw [this]at h2
   simp only [flatP,List.flatMap_nil,scanF]at h2
   rcases hsc with⟨s1,_⟩|⟨s,s1,s2,s3⟩
   · rw [s1]at h2; cases h2
   · rw [if_neg s2]at h
     have:s=(seen,found):=by rw [s1]at h2; simpa using h2.symm
     subst this
     exact kclones_L6_ok found hfd s3 Q h
end
theorem kclones_ok (texts:(List Text))(k:Int)(w:Int)(only_:Int)(Q:(List Clone)×Int->Prop)(hp0:okTs texts)(hp1:∀ t_∈texts,zbi t_=true)(hp2:zbs k=true)(hp3:zbs w=true)(hp4:inI only_)(h:Q (zbx texts k w only_)):kclones_vc texts k w only_ Q:=by
 have hk:=sizeF_pos hp2; have hw:=sizeF_pos hp3
 have hnl:=hp0.1
 refine⟨by omega,by omega,⟨⟨by omega,by omega⟩,by omega,by omega⟩,?_⟩
 refine lfp3 (kclones_L1 texts k w only_ Q) (fun prints m x=>0<=x/\x<=texts.length/\prints.length=texts.length/\(∀ j:Int,0<=j->j<x->gi prints j=(zak (gi texts j) k w).1)/\m=placesF (flatP 0 (texts.take x.toNat) k w)) (fun _ _ x=>(texts.length-x).toNat) (fun prints m x hst again hag=>?_) ⟨by omega,by omega,by simp,fun j h0 h1=>by omega,by simp [flatP,placesF]⟩
 obtain⟨h0,h1,h2,h3,rfl⟩:=hst
 refine⟨fun hlt=>⟨by omega,hp0.2 _ (gi_mem (by omega)),by omega,by rw [zan]; omega,?_⟩,fun hn=>?_⟩
 · have hx:inL x texts.length:=⟨by omega,by omega⟩
   have hg:gi (si prints x (zak (gi texts x) k w).1) x=(zak (gi texts x) k w).1:=by rw [gi_siK (by omega) _ (by omega),if_pos rfl]
   have hwl:=(hp0.2 _ (gi_mem hx)).2.1
   have hpl:=prints_len (gi texts x) k w
   have htk:=flatP_takeK hx k w
   have hfl:=flatP_len (texts.take x.toNat) 0 k w (fun t ht=>hp0.2 t (List.mem_of_mem_take ht))
   rw [List.length_take]at hfl
   have hfl2:min x.toNat texts.length*1000001<=1000*1000001:=Nat.mul_le_mul_right _ (by omega)
   refine lfp2 (kclones_L2 texts k w prints x again) (fun m x1=>0<=x1/\x1<=(zak (gi texts x) k w).1.length/\m=placesF (flatP 0 (texts.take x.toNat) k w++(postsOf x.toNat (zak (gi texts x) k w).1).take x1.toNat)) (fun _ x1=>((zak (gi texts x) k w).1.length-x1).toNat) (fun m x1 hst again9 hag9=>?_) ⟨by omega,by omega,by simp⟩
   obtain⟨g0,g1,rfl⟩:=hst
   unfold kclones_L2
   rw [hg]
   refine⟨fun hlt1=>?_,fun hn1=>⟨by omega,hag _ _ _ ⟨by omega,by omega,by rw [zan]; exact h2,fun j j0 j1=>?_,?_⟩ (by omega)⟩⟩
   · have hx1:inL x1 (zak (gi texts x) k w).1.length:=⟨by omega,by omega⟩
     have hlen:=places_len (flatP 0 (texts.take x.toNat) k w++(postsOf x.toNat (zak (gi texts x) k w).1).take x1.toNat) (gi (zak (gi texts x) k w).1 x1).hash
     rw [List.length_append,List.length_take,postsOf_lenK]at hlen
     refine⟨by omega,⟨by simp only [List.length_singleton]; omega,by simp only [List.length_singleton]; omega⟩,places_nd _,by omega,hag9 _ _ ⟨by omega,by omega,?_⟩ (by omega)⟩
     rw [tk_gi (by rw [postsOf_lenK]; omega),<-List.append_assoc,places_snoc,gi_posts hx1,putP,show((x.toNat:Nat):Int)=x by omega]
     rfl
   · by_cases e:j=x
     · subst e; exact hg
     · rw [gi_siK (by omega) _ j0,if_neg e]; exact h3 j j0 (by omega)
   · rw [htk,show(postsOf x.toNat (zak (gi texts x) k w).1).take x1.toNat=postsOf x.toNat (zak (gi texts x) k w).1 from List.take_of_length_le (by rw [postsOf_lenK]; omega)]
 · have e:texts.take x.toNat=texts:=List.take_of_length_le (by omega)
   rw [e]
   exact kclones_L3_ok hp0 hp1 hp2 hp3 Q h h2 (fun j hj=>h3 j hj.1 (by have:=hj.2; omega))
end Go.Lic
set_option linter.all false
namespace Go.Lic
open Go.Proofs Go.Sort Go.Shelf
theorem sortiC_ok (data:(List Clone))(a:Int)(b:Int)(p:Clone->Clone->Int)(pD:Clone->Clone->Prop)(Q:Unit->Prop)(hp0:data=([]:List Clone))(hp1:a=(0:Int))(hp2:b=(0:Int))(h:Q (())):sortiC_vc data a b p pD Q:=by
 subst hp0 hp1 hp2
 refine⟨by omega,fun I hI=>hI _ ⟨fun h=>by omega,fun _=>h⟩⟩
theorem sortpC_ok (data:(List Clone))(a:Int)(b:Int)(limit:Int)(p:Clone->Clone->Int)(pD:Clone->Clone->Prop)(Q:Unit->Prop)(hp0:data=([]:List Clone))(hp1:a=(0:Int))(hp2:b=(0:Int))(h:Q (())):sortpC_vc data a b limit p pD Q:=by
 subst hp0 hp1 hp2
 exact fun I hI=>hI _ ⟨by omega,fun _=>⟨rfl,rfl,rfl,h⟩,fun hn=>absurd hn (by omega)⟩
theorem sort0C_ok (x:(List Clone))(p:Clone->Clone->Int)(pD:Clone->Clone->Prop)(Q:Unit->Prop)(hp0:x=([]:List Clone))(h:Q (())):sort0C_vc x p pD Q:=by
 subst hp0
 exact⟨by decide,by decide,rfl,rfl,rfl,h⟩
theorem rightL_iff (l:List Text):rightL l=true↔l.length<=64/\checkT none l=0:=by simp [rightL]
theorem right_rest {l:List Text}{x:Int}(hx:inL x l.length)(h:checkT (pathAt l x) (l.drop x.toNat)=0):zbi (gi l x)=true/\(x>0->sless (gi l (x-1)).path (gi l x).path=true)/\checkT (pathAt l (x+1)) (l.drop (x+1).toNat)=0:=by
 rw [checkT_at hx]at h
 split at h
 · next hv=>
   split at h
   · next hs=>exact⟨hv,hs,h⟩
   · cases h
 · cases h
theorem right_loop (l:List Text)(Q:Bool->Prop)(f:(Int->Prop)->Int->Prop)(h:Q (rightL l))(hl:l.length<=64)
   (round:∀ x:Int,0<=x->x<=l.length->∀ again:Int->Prop,(x<l.length->¬(zbi (gi l x)=true/\(x>0->sless (gi l (x-1)).path (gi l x).path=true))->Q false)->(x<l.length->zbi (gi l x)=true->(x>0->sless (gi l (x-1)).path (gi l x).path=true)->again (x+1))->(¬ x<l.length->Q true)->f again x):lfp (S:=Int) (fun again x=>f again x) 0:=by
 refine lfp_of (fun x:Int=>0<=x/\x<=l.length/\(checkT (pathAt l x) (l.drop x.toNat)=0↔checkT none l=0)) (fun x=>(l.length-x).toNat) (fun x hst again hag=>?_) ⟨by omega,by omega,Iff.rfl⟩
 obtain⟨h0,h1,h2⟩:=hst
 refine round x h0 h1 again (fun hlt hn=>?_) (fun hlt hv hs=>hag _ ⟨by omega,by omega,?_⟩ (by omega)) (fun hn=>?_)
 · have:rightL l=false:=by
     rw [Bool.eq_false_iff]
     intro hr
     have:=right_rest ⟨h0,hlt⟩ (h2.2 ((rightL_iff l).1 hr).2)
     exact hn ⟨this.1,this.2.1⟩
   rw [this]at h; exact h
 · rw [checkT_at ⟨h0,hlt⟩,if_pos hv,if_pos hs]at h2
   exact h2
 · rw [zbv hn]at h2
   have:rightL l=true:=(rightL_iff l).2 ⟨hl,h2.1 (by simp [checkT])⟩
   rw [this]at h; exact h
theorem rightL_big {l:List Text}(h:(l.length:Int)>64):rightL l=false:=by
 rw [Bool.eq_false_iff]; intro hr; have:=((rightL_iff l).1 hr).1; omega
theorem kright_ok (l:(List Text))(Q:Bool->Prop)(hp0:okTs l)(h:Q (rightL l)):kright_vc l Q:=by
 refine⟨fun hb=>by rw [rightL_big hb]at h; exact h,fun hs=>right_loop l Q (kright_L1 l Q) h (by omega) (fun x h0 h1 again k1 k2 k3=>?_)⟩
 refine⟨fun hlt=>⟨by omega,hp0.2 _ (gi_mem (by omega)),fun _ hx=>⟨by omega,by omega⟩,fun hb=>k1 hlt ?_,fun hg=>⟨by omega,k2 hlt hg.1 (fun hx=>?_)⟩⟩,fun hn=>k3 hn⟩
 · rintro⟨h2,h3⟩
   rcases hb with hb|⟨hx,hb⟩
   · rw [hb]at h2; cases h2
   · exact(le_sless _ _).1 hb (h3 hx)
 · rcases hg.2 with hg|hg
   · exact absurd hx hg
   · by_cases hs:sless (gi l (x-1)).path (gi l x).path=true
     · exact hs
     · rw [(le_sless _ _).2 hs]at hg; cases hg
theorem kcompare_ok (a:Clone)(b:Clone)(Q:Int->Prop)(h:Q (zbp a b)):kcompare_vc a b Q:=⟨by simp,h⟩
theorem kfind_ok (l:(List Text))(k:Int)(w:Int)(Q:(List Clone)×Int->Prop)(hp0:okTs l)(h:Q (findC l k w)):kfind_vc l k w Q:=by
 unfold findC at h
 refine⟨hp0,fun hb=>by rw [if_neg (by rw [hb]; simp)]at h; exact h,fun hg=>?_⟩
 rw [if_pos hg]at h
 unfold guarF
 by_cases hs:(zbs k&&zbs w)=true
 · rw [if_pos hs]at h ⊢
   refine⟨fun hb=>absurd rfl hb,fun _=>⟨hp0,((checkT_none l).1 ((rightL_iff l).1 hg).2).1,(Bool.and_eq_true_iff.1 hs).1,(Bool.and_eq_true_iff.1 hs).2,by omega,h⟩⟩
 · rw [if_neg hs]at h ⊢
   exact⟨fun _=>h,fun hb=>by cases hb⟩
theorem eqClone_iff (a b:Clone):eqClone a b=true↔a=b:=by
 obtain⟨a1,a2,a3,a4,a5⟩:=a; obtain⟨b1,b2,b3,b4,b5⟩:=b
 simp [eqClone]
theorem eqClones_ok (s1:(List Clone))(s2:(List Clone))(Q:Bool->Prop)(hp0:s1.length<=9223372036854775807)(h:Q ((decide (s1=s2)))):eqClones_vc s1 s2 Q:=eq_gen eqClone eqClone_iff s1 s2 Q hp0 h
theorem ixClone_ok (s_:(List Clone))(p:Clone->Bool)(pD:Clone->Prop)(Q:Int->Prop)(hp0:s_.length<=9223372036854775807)(hp1:∀ z_∈s_,pD z_)(h:Q ((idxOf p s_))):ixClone_vc s_ p pD Q:=ix_gen s_ p pD Q hp0 hp1 h
theorem cfClone_ok (s_:(List Clone))(p:Clone->Bool)(pD:Clone->Prop)(Q:Bool->Prop)(hp0:s_.length<=9223372036854775807)(hp1:∀ z_∈s_,pD z_)(h:Q ((s_.any p))):cfClone_vc s_ p pD Q:=⟨hp0,hp1,by rw [idx_nn]; exact h⟩
end Go.Lic
set_option linter.all false
namespace Go.Lic
open Go.Proofs Go.Sort Go.Shelf
end Go.Lic
set_option linter.all false
namespace Go.Lic
open Go.Proofs Go.Sort Go.Shelf
theorem against_texts {c:Corpus}{t:Text}(hp0:okC c)(hp1:okT t)(G:GoodC c)(hv:zbi t=true):okTs (c.texts++ [t])/\(∀ t_∈(c.texts++ [t]),zbi t_=true)/\c.texts.length<=64:=by
 have hl:=G.few
 refine⟨⟨by simp; omega,fun u hu=>?_⟩,fun u hu=>?_,hl⟩
 · rcases List.mem_append.1 hu with hu|hu
   · exact hp0.1.2 u hu
   · simp at hu; subst hu; exact hp1
 · rcases List.mem_append.1 hu with hu|hu
   · exact G.val u hu
   · simp at hu; subst hu; exact hv
theorem kagainst_ok (c:Corpus)(t:Text)(Q:(List Clone)×Int->Prop)(hp0:okC c)(hp1:okT t)(h:Q (zaw c t)):kagainst_vc c t Q:=by
 unfold zaw at h
 refine⟨hp0,fun _=>hp1,fun hb=>?_,fun hg=>?_⟩
 · rw [if_neg]at h
   · exact h
   · rintro⟨h1,h2⟩
     rcases hb with hb|hb
     · exact hb h1
     · rw [h2]at hb; cases hb
 · rw [if_pos hg]at h
   have G:=(checkF_iff c).1 hg.1
   obtain⟨h1,h2,h3⟩:=against_texts hp0 hp1 G hg.2
   exact⟨⟨⟨by simp; omega,by simp; omega⟩,by simp⟩,h1,h2,G.k,G.w,by omega,h⟩
end Go.Lic
set_option linter.all false
namespace Go.Lic
open Go.Proofs Go.Sort Go.Shelf
end Go.Lic
set_option linter.all false
namespace Go.Proofs.YtkifpidbpoghlaaGreatDoor
open Go Go.Lic Go.Sort Go.Proofs
variable [Fl]
attribute [local irreducible] addF addP zaw badR behindF blankF checkF zbp zbx cmpB cmpI cmpL codeF countF fewTs fewW findC findT zbt growTF guarF hashF zbj insideF itoaF lenF lookF mergeF mul64F mulP newF ofF orF partF pathF postCmp postsF powF zak pushF rightL rollF zbu zbs zbh zad splitG zbi
theorem sortiC_c (data:(List Clone))(a:Int)(b:Int)(g_p:Nat)(fs_p cs_p:List D)(p:Clone->Clone->Int)(pD:Clone->Clone->Prop)(hen_p:entersB Tryz.prog g_p=true)(hg_p:∀ x0_ x1_,pD x0_ x1_->Fun false Tryz.prog g_p (fs_p++ [zap x0_,zap x1_]++cs_p) (fun d=>d=D.i (p x0_ x1_)))(hp0:data=([]:List Clone))(hp1:a=(0:Int))(hp2:b=(0:Int)):Fun false Tryz.prog 182 [(zai 5 zap) data,D.i a,D.i b,.fn (.func g_p) fs_p cs_p] (fun d=>d= .tup []):=by
 refine fB Tryz.func182 Tryz.ntmps182 (v:=()) (enc:=fun r=> .tup []) (sortiC_ok data a b p pD _ hp0 hp1 hp2 rfl) fun Q h=>?_
 unfold sortiC_vc at h
 obtain⟨q1,h⟩:=h
 refine G ?_
 refine zl h () (fun gg ss=> [(0,(zai 5 zap) data),(1,D.i a),(2,D.i b),(3,.fn (.func g_p) fs_p cs_p),(8,D.i ss)]) (fun gg ss=> []) ?_
 rintro again1 _ i h
 unfold sortiC_L1 at h
 refine G ?_
 refine zc h (fun _ h=>G ?_) (fun _ h=>G ?_)
 refine zl h () (fun gg ss=> [(0,(zai 5 zap) data),(1,D.i a),(2,D.i b),(3,.fn (.func g_p) fs_p cs_p),(8,D.i i),(9,D.i i)]) (fun gg ss=> []) ?_
 rintro again3 _ _ h
 unfold sortiC_L2 at h
 obtain⟨q1,h⟩:=h
 iterate 2 refine g ?_
 refine zav (asg [(0,(zai 5 zap) data),(1,D.i a),(2,D.i b),(3,.fn (.func g_p) fs_p cs_p),(8,D.i i),(9,D.i i),(34,D.b ((decide (i>a))&&(decide ((p (gi data i) (gi data (i-1)))<0))))]) [] ?_ ?_
 refine zbf (m:=17) mo zK rfl ?_
 iterate 4 refine g ?_
 refine zbr (s:=21) rfl (fun b5=>?_) (fun b5=>?_)
 refine G ?_
 refine dG (oIx (enc:=zap) ts77 (q1 (decT b5)).1 oR) ?_
 refine G ?_
 refine dG (oSb (q1 (decT b5)).2.1 oR) ?_
 refine dG (oIx (enc:=zap) ts77 (q1 (decT b5)).2.2.1 oR) ?_
 refine G ?_
 refine dG (OpA.call rfl rfl rfl hen_p (hg_p (gi data i) (gi data (i-1)) (q1 (decT b5)).2.2.2) (by rintro _ rfl; exact⟨rfl,rfl⟩)) ?_
 iterate 2 refine g ?_
 refine DetK.nil ?_
 refine G ?_
 exact⟨(cvB (andN b5 rfl)),(.refl _)⟩
 iterate 13 refine g ?_
 refine DetK.nil ?_
 refine G ?_
 exact⟨(cvB (andS b5)),(.refl _)⟩
 refine zc h (fun _ h=>?_) (fun _ h=>?_)
 exact h.elim
 obtain⟨q1,h⟩:=h
 refine G ?_
 exact⟨(),(i+1),h,cvZ,(.refl _)⟩
 exact⟨_,.nil,_,(.tup .nil .nil),⟨(),rfl,h⟩⟩
theorem sortpC_c (data:(List Clone))(a:Int)(b:Int)(limit:Int)(g_p:Nat)(fs_p cs_p:List D)(p:Clone->Clone->Int)(pD:Clone->Clone->Prop)(hen_p:entersB Tryz.prog g_p=true)(hg_p:∀ x0_ x1_,pD x0_ x1_->Fun false Tryz.prog g_p (fs_p++ [zap x0_,zap x1_]++cs_p) (fun d=>d=D.i (p x0_ x1_)))(hp0:data=([]:List Clone))(hp1:a=(0:Int))(hp2:b=(0:Int)):Fun false Tryz.prog 160 [(zai 5 zap) data,D.i a,D.i b,D.i limit,.fn (.func g_p) fs_p cs_p] (fun d=>d= .tup []):=by
 refine fB Tryz.func160 Tryz.ntmps160 (v:=()) (enc:=fun r=> .tup []) (sortpC_ok data a b limit p pD _ hp0 hp1 hp2 rfl) fun Q h=>?_
 unfold sortpC_vc at h
 refine G ?_
 refine zl h () (fun gg ss=> [(0,(zai 5 zap) data),(1,D.i a),(2,D.i b),(3,D.i limit),(4,.fn (.func g_p) fs_p cs_p),(10,D.b true),(11,D.b true)]) (fun gg ss=> []) ?_
 rintro again1 _ _ h
 unfold sortpC_L1 at h
 obtain⟨q1,h⟩:=h
 refine G ?_
 refine zc h (fun _ h=>?_) (fun _ h=>G ?_)
 obtain⟨q1,q2,q3,h⟩:=h
 refine G ?_
 refine wL (oC (sortiC_c data a b g_p fs_p cs_p p pD hen_p hg_p q1 q2 q3) ?_)
 refine G ?_
 exact⟨_,.nil,_,(.tup .nil .nil),⟨(),rfl,h⟩⟩
 refine zc h (fun _ h=>?_) (fun _ h=>?_)
 exact h.elim
 exact h.elim
theorem sort0C_c (x:(List Clone))(g_p:Nat)(fs_p cs_p:List D)(p:Clone->Clone->Int)(pD:Clone->Clone->Prop)(hen_p:entersB Tryz.prog g_p=true)(hg_p:∀ x0_ x1_,pD x0_ x1_->Fun false Tryz.prog g_p (fs_p++ [zap x0_,zap x1_]++cs_p) (fun d=>d=D.i (p x0_ x1_)))(hp0:x=([]:List Clone)):Fun false Tryz.prog 119 [(zai 5 zap) x,.fn (.func g_p) fs_p cs_p] (fun d=>d= .tup []):=by
 refine fB Tryz.func119 Tryz.ntmps119 (v:=()) (enc:=fun r=> .tup []) (sort0C_ok x p pD _ hp0 rfl) fun Q h=>?_
 unfold sort0C_vc at h
 obtain⟨q1,q2,q3,q4,q5,h⟩:=h
 refine G ?_
 refine wL (OpA.conv rfl td3 td169 rfl ?_)
 refine wL (oC (len_c (IntKind.u64.wrap (x.length:Int)) q1 q2) ?_)
 refine G ?_
 refine wL (oC (sortpC_c x 0 (x.length:Int) (lenF (IntKind.u64.wrap (x.length:Int))) g_p fs_p cs_p p pD hen_p hg_p q3 q4 q5) ?_)
 refine G ?_
 exact⟨_,.nil,_,(.tup .nil .nil),⟨(),rfl,h⟩⟩
theorem kcompare_c (a:Clone)(b:Clone) :Fun false Tryz.prog 120 [zap a,zap b] (fun d=>d=D.i (zbp a b)):=by
 refine fB Tryz.func120 Tryz.ntmps120 (kcompare_ok a b _  rfl) fun Q h=>?_
 unfold kcompare_vc at h
 refine G ?_
 refine wL (oB 5 (fun c1 _=>?_))
 refine wL (oB 5 (fun c2 _=>?_))
 obtain⟨q1,h⟩:=h
 iterate 3 refine g ?_
 refine zbf (m:=23) mo zK rfl ?_
 refine G ?_
 refine dL (oC (iCompare_c a.a b.a) oR) ?_
 refine G ?_
 refine dL (oC (iCompare_c a.atA b.atA) oR) ?_
 refine G ?_
 refine dL (oC (iCompare_c a.b b.b) oR) ?_
 refine G ?_
 refine dL (oC (iCompare_c a.atB b.atB) oR) ?_
 refine dL (OpA.ibuildSliceO rfl ts41 rfl (.cons (.of (sz:=1) rfl) (.cons (.of (sz:=1) rfl) (.cons (.of (sz:=1) rfl) (.cons (.of (sz:=1) rfl) .nil)))) (by decide) oR) ?_
 refine dL (oC (or_c ([(cmpI a.a b.a),(cmpI a.atA b.atA),(cmpI a.b b.b),(cmpI a.atB b.atB)]:List Int) q1) oR) ?_
 refine g ?_
 refine DetK.nil ?_
 refine G ?_
 exact zr h
end Go.Proofs.YtkifpidbpoghlaaGreatDoor
set_option linter.all false
namespace Go.Proofs.YtkifpidbpoghlaaGreatDoor
open Go Go.Lic Go.Sort Go.Proofs
attribute [local irreducible] addF addP zaw badR behindF blankF checkF zbp zbx cmpB cmpI cmpL codeF countF fewTs fewW findC findT zbt growTF guarF hashF zbj insideF itoaF lenF lookF mergeF mul64F mulP newF ofF orF partF pathF postCmp postsF powF zak pushF rightL rollF zbu zbs zbh zad splitG zbi
theorem kright_c (l:(List Text))(hp0:okTs l):Fun false Tryz.prog 76 [(zai 2 zaa) l] (fun d=>d=D.b (rightL l)):=by
 refine fB Tryz.func76 Tryz.ntmps76 (kright_ok l _ hp0 rfl) fun Q h=>?_
 unfold kright_vc at h
 refine G ?_
 refine zc h (fun _ h=>G ?_) (fun _ h=>G ?_)
 exact zr h
 refine zl h () (fun gg ss=> [(0,(zai 2 zaa) l),(2,D.b false),(8,(zai 2 zaa) l),(9,D.i (l.length:Int)),(10,D.i ss)]) (fun gg ss=> []) ?_
 rintro again2 _ x h
 unfold kright_L1 at h
 refine G ?_
 refine zc h (fun _ h=>?_) (fun _ h=>G ?_)
 obtain⟨q1,h⟩:=h
 refine G ?_
 refine wL (oIx (enc:=zaa) ts61 q1 ?_)
 refine G ?_
 refine wL (oA 2 (.agg ([D.s ByteArray.empty,.v (.slice none 0 0)])) tz57 (fun c4 _=>?_))
 iterate 2 refine g ?_
 obtain⟨q1,q2,h⟩:=h
 iterate 2 refine g ?_
 refine zav (asg [(0,(zai 2 zaa) l),(2,D.b false),(8,(zai 2 zaa) l),(9,D.i (l.length:Int)),(10,D.i x),(32,D.b ((!(zbi (gi l x)))||((decide (x>0))&&(sless ((gi l x).path) ((gi l (x-1)).path)||decide ((gi l x).path=(gi l (x-1)).path)))))]) [(c4,.cells 2 [zaa (gi l x)])] ?_ ?_
 refine zbf (m:=18) mo zK rfl ?_
 refine G ?_
 refine dL (oC (nvalid_c (gi l x) q1) oR) ?_
 iterate 2 refine g ?_
 refine zbr (s:=18) rfl (fun b6=>?_) (fun b6=>?_)
 refine G ?_
 iterate 9 refine DetK.skipU rfl rfl rfl ?_
 iterate 2 refine g ?_
 refine DetK.nil ?_
 refine G ?_
 exact⟨(cvB (orS b6)),(.refl _)⟩
 iterate 3 refine g ?_
 refine zbr (s:=21) rfl (fun b7=>?_) (fun b7=>?_)
 refine G ?_
 refine dG (oSb ((q2 (notF b6)) (decT b7)).1 oR) ?_
 refine dG (oIx (enc:=zaa) ts61 ((q2 (notF b6)) (decT b7)).2 oR) ?_
 refine G ?_
 refine dG (OpA.sleq rfl rfl rfl oR) ?_
 iterate 2 refine g ?_
 refine DetK.nil ?_
 refine G ?_
 exact⟨(cvB (orN b6 (andN b7 rfl))),(.refl _)⟩
 iterate 11 refine g ?_
 refine DetK.nil ?_
 refine G ?_
 exact⟨(cvB (orN b6 (andS b7))),(.refl _)⟩
 refine zc h (fun _ h=>G ?_) (fun _ h=>?_)
 exact zr h
 obtain⟨q1,h⟩:=h
 refine G ?_
 exact⟨(),(x+1),h,cvZ,(.cons _ (.refl _))⟩
 exact zr h
abbrev klook_e0 (x:ClonePlace)(y:ClonePlace):=(CloneDiagonal.mk x.text y.text (y.at_-x.at_))
theorem klook_w (texts:(List Text))(least:Int)(seen:(List (CloneDiagonal×Int)))(found:(List (Clone×Unit)))(c_f d_seen d_found:Nat)(x:ClonePlace)(y:ClonePlace)(Q:(List (CloneDiagonal×Int))×(List (Clone×Unit))->Prop)(h:klook_vc texts least seen found x y Q):CallH Tryz.prog 118 [.ptr c_f 4 0 0,zab x,zab y] [(c_f,.cells 4 [.agg ([(zai 2 zaa) texts,D.i least,.map d_seen,.map d_found])]),(d_seen,.raw (mapK kf241 vI seen)),(d_found,.raw (mapK kf84 vU found))] (fun d h'=>∃(r:(List (CloneDiagonal×Int))×(List (Clone×Unit))) (g:Unit),d= .tup []/\h'= [(c_f,.cells 4 [.agg ([(zai 2 zaa) texts,D.i least,.map d_seen,.map d_found])]),(d_seen,.raw (mapK kf241 vI r.1)),(d_found,.raw (mapK kf84 vU r.2))]/\Q r):=by
 unfold klook_vc at h
 refine CallH.of_bodyP Tryz.func118 rfl Tryz.ntmps118 rfl ?_
 refine G ?_
 refine wL (oB 2 (fun c1 _=>?_))
 refine wL (oB 2 (fun c2 _=>?_))
 obtain⟨q1,h⟩:=h
 refine G ?_
 refine wL (oU [.v (.int .i64 0),.v (.int .i64 0),.v (.int .i64 0)] tp241 tz241 ?_)
 refine wL (oA 3 (zbz (CloneDiagonal.mk 0 0 0)) tz241 (fun c3 _=>?_))
 iterate 4 refine g ?_
 refine zbf (m:=9) mo zK rfl ?_
 refine G ?_
 refine dL (OpA.nc rfl zW (.inl ⟨_,_,_,_,rfl⟩) oR) ?_
 refine G ?_
 refine dL (OpA.mapGetK (kf:=kf241) (vf:=vI) (kd:=zbz) (vd:=D.i) (k:=(klook_e0 x y)) (l:=seen) 0 kt241 pk241 (plain_v vI) rfl td195 tz3 rfl rfl (.tail (.tail (.tail (.tail .head)))) oR) ?_
 iterate 3 refine g ?_
 refine DetK.nil ?_
 refine G ?_
 refine zc h (fun _ h=>G ?_) (fun _ h=>?_)
 exact⟨_,.nil,[(c_f,.cells 4 [.agg ([(zai 2 zaa) texts,D.i least,.map d_seen,.map d_found])]),(d_seen,.raw (mapK kf241 vI seen)),(d_found,.raw (mapK kf84 vU found)),(c3,.cells 3 [zbz (klook_e0 x y)]),(c2,.cells 2 [zab y]),(c1,.cells 2 [zab x])],[(c_f,.cells 4 [.agg ([(zai 2 zaa) texts,D.i least,.map d_seen,.map d_found])]),(d_seen,.raw (mapK kf241 vI seen)),(d_found,.raw (mapK kf84 vU found))],(pull3.trans (.cons _ (pull3.trans (.cons _ pull3)))),(.cons₂ _ (.cons₂ _ (.cons₂ _ (.cons _ (.cons _ (.cons _ (.refl _))))))),(seen,found),(),rfl,rfl,h⟩
 obtain⟨q1,q2,h⟩:=h
 iterate 2 refine g ?_
 refine zbf (m:=20) mo zK rfl ?_
 refine G ?_
 refine dL (OpA.nc rfl zW (.inl ⟨_,_,_,_,rfl⟩) oR) ?_
 refine G ?_
 refine dL (oIx (enc:=zaa) ts61 q1 oR) ?_
 refine G ?_
 refine dL (OpA.nc rfl zW (.inl ⟨_,_,_,_,rfl⟩) oR) ?_
 refine G ?_
 refine dL (oIx (enc:=zaa) ts61 q2 oR) ?_
 iterate 4 refine g ?_
 refine DetK.nil ?_
 refine G ?_
 refine zl h () (fun gg ss=> [(0,.ptr c_f 4 0 0),(4,.ptr c1 2 0 0),(5,.ptr c2 2 0 0),(6,.ptr c3 3 0 0),(7,(zai 2 zau) ((gi texts x.text).words)),(8,(zai 2 zau) ((gi texts y.text).words)),(9,D.i 0),(10,D.i ss)]) (fun gg ss=> [(c3,.cells 3 [zbz (klook_e0 x y)]),(c2,.cells 2 [zab y]),(c1,.cells 2 [zab x]),(c_f,.cells 4 [.agg ([(zai 2 zaa) texts,D.i least,.map d_seen,.map d_found])]),(d_seen,.raw (mapK kf241 vI seen)),(d_found,.raw (mapK kf84 vU found))]) ?_
 rintro again5 _ to h
 unfold klook_L1 at h
 obtain⟨q1,q2,q3,h⟩:=h
 iterate 2 refine g ?_
 refine zav (asg [(0,.ptr c_f 4 0 0),(4,.ptr c1 2 0 0),(5,.ptr c2 2 0 0),(6,.ptr c3 3 0 0),(7,(zai 2 zau) ((gi texts x.text).words)),(8,(zai 2 zau) ((gi texts y.text).words)),(9,D.i 0),(10,D.i to),(82,D.b (((decide ((x.at_+to)<(((gi texts x.text).words).length:Int)))&&(decide ((y.at_+to)<(((gi texts y.text).words).length:Int))))&&(decide ((gi ((gi texts x.text).words) (x.at_+to)).text=(gi ((gi texts y.text).words) (y.at_+to)).text))))]) [(c3,.cells 3 [zbz (klook_e0 x y)]),(c2,.cells 2 [zab y]),(c1,.cells 2 [zab x]),(c_f,.cells 4 [.agg ([(zai 2 zaa) texts,D.i least,.map d_seen,.map d_found])]),(d_seen,.raw (mapK kf241 vI seen)),(d_found,.raw (mapK kf84 vU found))] ?_ ?_
 refine zbf (m:=35) mo zK rfl ?_
 iterate 8 refine g ?_
 refine zbr (s:=55) rfl (fun b14=>?_) (fun b14=>?_)
 refine G ?_
 refine dG (oAd (q2 (decT b14)) oR) ?_
 iterate 5 refine g ?_
 refine zbr (s:=64) rfl (fun b15=>?_) (fun b15=>?_)
 refine G ?_
 refine dG (oIx (enc:=zau) ts24 (q3 ⟨(decT b14),(decT b15)⟩).1 oR) ?_
 refine G ?_
 refine dG (oAd (q3 ⟨(decT b14),(decT b15)⟩).2.1 oR) ?_
 refine dG (oIx (enc:=zau) ts24 (q3 ⟨(decT b14),(decT b15)⟩).2.2 oR) ?_
 refine G ?_
 refine dG (OpA.seql rfl rfl rfl oR) ?_
 refine g ?_
 refine DetK.nil ?_
 refine G ?_
 exact⟨(cvB (andN (andN b14 b15) rfl)),(.refl _)⟩
 iterate 18 refine g ?_
 refine DetK.nil ?_
 refine G ?_
 exact⟨(cvB (andS (andN b14 b15))),(.refl _)⟩
 iterate 27 refine g ?_
 refine DetK.nil ?_
 refine G ?_
 exact⟨(cvB (andS (andS b14))),(.refl _)⟩
 refine zc h (fun _ h=>?_) (fun _ h=>?_)
 obtain⟨q1,h⟩:=h
 refine G ?_
 exact⟨(),(to+1),h,cvZ,(.refl _)⟩
 obtain⟨q1,h⟩:=h
 iterate 2 refine g ?_
 refine zbf (m:=10) mo zK rfl ?_
 refine G ?_
 refine dL (OpA.nc rfl zW (.inl ⟨_,_,_,_,rfl⟩) oR) ?_
 refine G ?_
 refine dL (OpA.max (l:= [_]) rfl rfl rfl rfl oR) ?_
 refine g ?_
 refine DetK.nil ?_
 refine wE (OpA.mapSetK (kf:=kf241) (vf:=vI) (kd:=zbz) (vd:=D.i) (k:=(klook_e0 x y)) (v:=(x.at_+(gmax to [1]))) (l:=seen) kt241 pk241 (plain_v vI) rfl td195 rfl rfl rfl (.tail (.tail (.tail (.tail .head)))) ?_)
 refine G ?_
 refine zl h () (fun gg ss=> [(0,.ptr c_f 4 0 0),(4,.ptr c1 2 0 0),(5,.ptr c2 2 0 0),(7,(zai 2 zau) ((gi texts x.text).words)),(8,(zai 2 zau) ((gi texts y.text).words)),(9,D.i ss),(10,D.i to)]) (fun gg ss=> [(c3,.cells 3 [zbz (klook_e0 x y)]),(c2,.cells 2 [zab y]),(c1,.cells 2 [zab x]),(c_f,.cells 4 [.agg ([(zai 2 zaa) texts,D.i least,.map d_seen,.map d_found])]),(d_seen,.raw (mapK kf241 vI (kset seen (klook_e0 x y) (x.at_+(gmax to [1]))))),(d_found,.raw (mapK kf84 vU found))]) ?_
 rintro again7 _ from_ h
 unfold klook_L2 at h
 obtain⟨q1,h⟩:=h
 iterate 2 refine g ?_
 refine zav (asg [(0,.ptr c_f 4 0 0),(4,.ptr c1 2 0 0),(5,.ptr c2 2 0 0),(7,(zai 2 zau) ((gi texts x.text).words)),(8,(zai 2 zau) ((gi texts y.text).words)),(9,D.i from_),(10,D.i to),(129,D.b ((((decide (to>0))&&(decide (x.at_>from_)))&&(decide (y.at_>from_)))&&(decide ((gi ((gi texts x.text).words) ((x.at_-from_)-1)).text=(gi ((gi texts y.text).words) ((y.at_-from_)-1)).text))))]) [(c3,.cells 3 [zbz (klook_e0 x y)]),(c2,.cells 2 [zab y]),(c1,.cells 2 [zab x]),(c_f,.cells 4 [.agg ([(zai 2 zaa) texts,D.i least,.map d_seen,.map d_found])]),(d_seen,.raw (mapK kf241 vI (kset seen (klook_e0 x y) (x.at_+(gmax to [1]))))),(d_found,.raw (mapK kf84 vU found))] ?_ ?_
 refine zbf (m:=35) mo zK rfl ?_
 iterate 3 refine g ?_
 refine zbr (s:=97) rfl (fun b11=>?_) (fun b11=>?_)
 iterate 6 refine g ?_
 refine zbr (s:=103) rfl (fun b12=>?_) (fun b12=>?_)
 iterate 6 refine g ?_
 refine zbr (s:=109) rfl (fun b13=>?_) (fun b13=>?_)
 refine G ?_
 refine dG (oSb (q1 ⟨⟨(decT b11),(decT b12)⟩,(decT b13)⟩).1 oR) ?_
 refine dG (oSb (q1 ⟨⟨(decT b11),(decT b12)⟩,(decT b13)⟩).2.1 oR) ?_
 refine dG (oIx (enc:=zau) ts24 (q1 ⟨⟨(decT b11),(decT b12)⟩,(decT b13)⟩).2.2.1 oR) ?_
 refine G ?_
 refine dG (oSb (q1 ⟨⟨(decT b11),(decT b12)⟩,(decT b13)⟩).2.2.2.1 oR) ?_
 refine dG (oSb (q1 ⟨⟨(decT b11),(decT b12)⟩,(decT b13)⟩).2.2.2.2.1 oR) ?_
 refine dG (oIx (enc:=zau) ts24 (q1 ⟨⟨(decT b11),(decT b12)⟩,(decT b13)⟩).2.2.2.2.2 oR) ?_
 refine G ?_
 refine dG (OpA.seql rfl rfl rfl oR) ?_
 refine g ?_
 refine DetK.nil ?_
 refine G ?_
 exact⟨(cvB (andN (andN (andN b11 b12) b13) rfl)),(.refl _)⟩
 iterate 20 refine g ?_
 refine DetK.nil ?_
 refine G ?_
 exact⟨(cvB (andS (andN (andN b11 b12) b13))),(.refl _)⟩
 iterate 26 refine g ?_
 refine DetK.nil ?_
 refine G ?_
 exact⟨(cvB (andS (andS (andN b11 b12)))),(.refl _)⟩
 iterate 32 refine g ?_
 refine DetK.nil ?_
 refine G ?_
 exact⟨(cvB (andS (andS (andS b11)))),(.refl _)⟩
 refine zc h (fun _ h=>?_) (fun _ h=>?_)
 obtain⟨q1,h⟩:=h
 refine G ?_
 exact⟨(),(from_+1),h,cvZ,(.refl _)⟩
 obtain⟨q1,h⟩:=h
 iterate 2 refine g ?_
 refine zav (asg [(0,.ptr c_f 4 0 0),(4,.ptr c1 2 0 0),(5,.ptr c2 2 0 0),(9,D.i from_),(10,D.i to),(143,D.b ((decide ((from_+to)>=least))&&(decide (to>0))))]) [(c3,.cells 3 [zbz (klook_e0 x y)]),(c2,.cells 2 [zab y]),(c1,.cells 2 [zab x]),(c_f,.cells 4 [.agg ([(zai 2 zaa) texts,D.i least,.map d_seen,.map d_found])]),(d_seen,.raw (mapK kf241 vI (kset seen (klook_e0 x y) (x.at_+(gmax to [1]))))),(d_found,.raw (mapK kf84 vU found))] ?_ ?_
 refine G ?_
 refine wL (OpA.nc rfl zW (.inl ⟨_,_,_,_,rfl⟩) ?_)
 refine G ?_
 refine zp 140 (fun b10=>G ?_) (fun b10=>?_)
 exact⟨(cvB (andN b10 rfl)),(.refl _)⟩
 refine G ?_
 exact⟨(cvB (andS b10)),(.refl _)⟩
 refine zc h (fun _ h=>?_) (fun _ h=>G ?_)
 obtain⟨q1,q2,q3,h⟩:=h
 refine zbf (m:=21) mo zK rfl ?_
 refine G ?_
 refine dL (OpA.nc rfl zW (.inl ⟨_,_,_,_,rfl⟩) oR) ?_
 refine G ?_
 refine dL (oU [.v (.int .i64 0),.v (.int .i64 0),.v (.int .i64 0),.v (.int .i64 0),.v (.int .i64 0)] tp84 tz84 oR) ?_
 refine dL (oU [] tp242 tz242 oR) ?_
 refine DetK.nil ?_
 refine wE (OpA.mapSetK (kf:=kf84) (vf:=vU) (kd:=zap) (vd:=encU) (k:=(Clone.mk x.text (x.at_-from_) y.text (y.at_-from_) (from_+to))) (v:=()) (l:=found) kt84 pk84 plain_u rfl td196 rfl rfl rfl (.tail (.tail (.tail (.tail (.tail .head))))) ?_)
 refine G ?_
 exact⟨_,.nil,[(c_f,.cells 4 [.agg ([(zai 2 zaa) texts,D.i least,.map d_seen,.map d_found])]),(d_seen,.raw (mapK kf241 vI (kset seen (klook_e0 x y) (x.at_+(gmax to [1]))))),(d_found,.raw (mapK kf84 vU (kset found (Clone.mk x.text (x.at_-from_) y.text (y.at_-from_) (from_+to)) ()))),(c3,.cells 3 [zbz (klook_e0 x y)]),(c2,.cells 2 [zab y]),(c1,.cells 2 [zab x])],[(c_f,.cells 4 [.agg ([(zai 2 zaa) texts,D.i least,.map d_seen,.map d_found])]),(d_seen,.raw (mapK kf241 vI (kset seen (klook_e0 x y) (x.at_+(gmax to [1]))))),(d_found,.raw (mapK kf84 vU (kset found (Clone.mk x.text (x.at_-from_) y.text (y.at_-from_) (from_+to)) ())))],(pull3.trans (.cons _ (pull3.trans (.cons _ pull3)))),(.cons₂ _ (.cons₂ _ (.cons₂ _ (.cons _ (.cons _ (.cons _ (.refl _))))))),((kset seen (klook_e0 x y) (x.at_+(gmax to [1]))),(kset found (Clone.mk x.text (x.at_-from_) y.text (y.at_-from_) (from_+to)) ())),(),rfl,rfl,h⟩
 exact⟨_,.nil,[(c_f,.cells 4 [.agg ([(zai 2 zaa) texts,D.i least,.map d_seen,.map d_found])]),(d_seen,.raw (mapK kf241 vI (kset seen (klook_e0 x y) (x.at_+(gmax to [1]))))),(d_found,.raw (mapK kf84 vU found)),(c3,.cells 3 [zbz (klook_e0 x y)]),(c2,.cells 2 [zab y]),(c1,.cells 2 [zab x])],[(c_f,.cells 4 [.agg ([(zai 2 zaa) texts,D.i least,.map d_seen,.map d_found])]),(d_seen,.raw (mapK kf241 vI (kset seen (klook_e0 x y) (x.at_+(gmax to [1]))))),(d_found,.raw (mapK kf84 vU found))],(pull3.trans (.cons _ (pull3.trans (.cons _ pull3)))),(.cons₂ _ (.cons₂ _ (.cons₂ _ (.cons _ (.cons _ (.cons _ (.refl _))))))),((kset seen (klook_e0 x y) (x.at_+(gmax to [1]))),found),(),rfl,rfl,h⟩
theorem klook_c (texts:(List Text))(least:Int)(seen:(List (CloneDiagonal×Int)))(found:(List (Clone×Unit)))(c_f d_seen d_found:Nat)(x:ClonePlace)(y:ClonePlace)(hp0:okTs texts)(hp1:OkP texts (x,y)):CallH Tryz.prog 118 [.ptr c_f 4 0 0,zab x,zab y] [(c_f,.cells 4 [.agg ([(zai 2 zaa) texts,D.i least,.map d_seen,.map d_found])]),(d_seen,.raw (mapK kf241 vI seen)),(d_found,.raw (mapK kf84 vU found))] (fun d h'=>∃(g:Unit),d= .tup []/\h'= [(c_f,.cells 4 [.agg ([(zai 2 zaa) texts,D.i least,.map d_seen,.map d_found])]),(d_seen,.raw (mapK kf241 vI ((lookF texts least seen found x y).1))),(d_found,.raw (mapK kf84 vU ((lookF texts least seen found x y).2)))]):=
 (klook_w texts least seen found c_f d_seen d_found x y  (fun r=>r=lookF texts least seen found x y) (klook_ok texts least seen found x y _ hp0 hp1 rfl)).mono (by rintro d h' ⟨r,g,hd,hh,rfl⟩; exact⟨g,hd,hh⟩)
end Go.Proofs.YtkifpidbpoghlaaGreatDoor
