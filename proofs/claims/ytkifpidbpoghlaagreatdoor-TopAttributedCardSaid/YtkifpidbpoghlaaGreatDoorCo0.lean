/-
  Maps of our own from whole numbers to slices of our own: while such a map grows, the blocks of its slices stand at the heap's end; then the slices are frozen.
-/
import Derived.Test.YtkifpidbpoghlaaGreatDoorMapK
import Derived.Test.YtkifpidbpoghlaaGreatDoorTl
set_option linter.all false
namespace Go.Lic
variable [Fl]
abbrev GS :=Nat×List D×List D
def gup (γ:Int->GS)(k:Int)(g:GS):Int->GS:=fun j=>if j=k then g else γ j
section
variable {T:Type}
def mdel :List (Int×T)->Int->List (Int×T)
 | [],_=> []
 |p::l,k=>if p.1=k then l else p::mdel l k
abbrev mnd (L:List (Int×T)):Prop:=(L.map (·.1)).Nodup
def smD (sz:Nat)(γ:Int->GS)(L:List (Int×List T)):List (Value×D):=L.map fun p=>(.int .i64 p.1,.own (γ p.1).1 sz (γ p.1).2.1.length p.2.length)
def smB (sz:Nat)(enc:T->D)(γ:Int->GS)(L:List (Int×List T)):zbb:=L.map fun p=>((γ p.1).1,.cells sz (zas enc (γ p.1).2.1 p.2 (γ p.1).2.2))
def smF (sz:Nat)(enc:T->D)(L:List (Int×List T)):List (Value×D):=L.map fun p=>(.int .i64 p.1,zai sz enc p.2)
end
inductive Tl (T T':zbb):zbb->zbb->Prop
 |here:Tl T T' T T'
 |cons {x:Nat×Blk} {h h':zbb} (t:Tl T T' h h'):Tl T T' (x::h) (x::h')
theorem Tl.split {T T' h h':zbb}(t:Tl T T' h h'):∃ p,h=p++T/\h'=p++T':=by
 induction t with
 |here=>exact⟨[],rfl,rfl⟩
 | @cons x _ _ _ ih=>obtain⟨p,rfl,rfl⟩:=ih; exact⟨x::p,rfl,rfl⟩
section
variable {T:Type}
theorem msplit (k:Int):∀ L:List (Int×T),k ∉ L.map (·.1)\/∃ L1 x L2,L=L1++(k,x)::L2/\k ∉ L1.map (·.1)
 | []=> .inl (by simp)
 | (j, x)::L=>by
   by_cases h:j=k
   · subst h; exact .inr ⟨[],x,L,rfl,by simp⟩
   · rcases msplit k L with h1|⟨L1,y,L2,rfl,h2⟩
     · left; simp only [List.map_cons,List.mem_cons,not_or]; exact⟨fun e=>h e.symm,h1⟩
     · refine .inr ⟨(j,x)::L1,y,L2,rfl,?_⟩
       simp only [List.map_cons,List.mem_cons,not_or]; exact⟨fun e=>h e.symm,h2⟩
theorem mget_no (d:T){k:Int}:∀ {L:List (Int×T)},k ∉ L.map (·.1)->mget d L k=d
 | [],_=>rfl
 | p::L,h=>by
   simp only [List.map_cons,List.mem_cons,not_or]at h
   rw [mget,if_neg (fun e=>h.1 e.symm)]; exact mget_no d h.2
theorem mget_at (d:T){k:Int}{x:T}{L2:List (Int×T)}:∀ {L1:List (Int×T)},k ∉ L1.map (·.1)->mget d (L1++(k,x)::L2) k=x
 | [],_=>by simp [mget]
 | p::L,h=>by
   simp only [List.map_cons,List.mem_cons,not_or]at h
   rw [List.cons_append,mget,if_neg (fun e=>h.1 e.symm)]; exact mget_at d h.2
theorem mdel_no {k:Int}:∀ {L:List (Int×T)},k ∉ L.map (·.1)->mdel L k=L
 | [],_=>rfl
 | p::L,h=>by
   simp only [List.map_cons,List.mem_cons,not_or]at h
   rw [mdel,if_neg (fun e=>h.1 e.symm),mdel_no h.2]
theorem mdel_at {k:Int}{x:T}{L2:List (Int×T)}:∀ {L1:List (Int×T)},k ∉ L1.map (·.1)->mdel (L1++(k,x)::L2) k=L1++L2
 | [],_=>by simp [mdel]
 | p::L,h=>by
   simp only [List.map_cons,List.mem_cons,not_or]at h
   rw [List.cons_append,mdel,if_neg (fun e=>h.1 e.symm),mdel_at h.2]; rfl
theorem mset_no {k:Int}{y:T}:∀ {L:List (Int×T)},k ∉ L.map (·.1)->mset L k y=L++ [(k,y)]
 | [],_=>rfl
 | p::L,h=>by
   simp only [List.map_cons,List.mem_cons,not_or]at h
   rw [mset,if_neg (fun e=>h.1 e.symm),mset_no h.2]; rfl
theorem mset_at {k:Int}{x y:T}{L2:List (Int×T)}:∀ {L1:List (Int×T)},k ∉ L1.map (·.1)->mset (L1++(k,x)::L2) k y=L1++(k,y)::L2
 | [],_=>by simp [mset]
 | p::L,h=>by
   simp only [List.map_cons,List.mem_cons,not_or]at h
   rw [List.cons_append,mset,if_neg (fun e=>h.1 e.symm),mset_at h.2]; rfl
end
theorem modify_mid {α:Type}(f:α->α)(x:α)(b:List α):∀ a:List α,(a++x::b).modify a.length f=a++f x::b
 | []=>rfl
 |y::a=>by simp only [List.cons_append,List.length_cons,List.modify_succ_cons,modify_mid f x b a]
theorem findNow_no {k:Int}:∀ {es:List MapEntry} {ks:List Int} (i:Nat),es.map (·.key)=ks.map (fun j=>Value.int .i64 j)->k ∉ ks->Instr.findNow (.int .i64) (.int .i64 k) es i=some none
 | [],_,_,_,_=>rfl
 |e::es,[],_,h,_=>by simp at h
 | e::es,j::ks,i,h,hk=>by
   simp only [List.map_cons,List.cons.injEq]at h
   simp only [List.mem_cons,not_or]at hk
   simp only [Instr.findNow,h.1,Instr.sameNow,if_true]
   rw [show(k==j)=false from by simpa using hk.1]
   exact findNow_no (i+1) h.2 hk.2
theorem findNow_at {k:Int}{k2:List Int}:∀ {es:List MapEntry} {k1:List Int} (i:Nat),es.map (·.key)=(k1++k::k2).map (fun j=>Value.int .i64 j)->k ∉ k1->
   ∃ e1 e e2,es=e1++e::e2/\e1.length=k1.length/\e.key= .int .i64 k/\Instr.findNow (.int .i64) (.int .i64 k) es i=some (some (i+k1.length,e.val))
 | [],k1,_,h,_=>by simp at h
 | e::es,[],i,h,_=>by
   simp only [List.nil_append,List.map_cons,List.cons.injEq]at h
   refine⟨[],e,es,rfl,rfl,h.1,?_⟩
   simp [Instr.findNow,h.1,Instr.sameNow]
 | e::es,j::k1,i,h,hk=>by
   simp only [List.cons_append,List.map_cons,List.cons.injEq]at h
   simp only [List.mem_cons,not_or]at hk
   obtain⟨e1,e',e2,q1,q2,q3,q4⟩:=findNow_at (k2:=k2) (i+1) h.2 hk.2
   refine⟨e::e1,e',e2,by rw [q1]; rfl,by simp [q2],q3,?_⟩
   simp only [Instr.findNow,h.1,Instr.sameNow,if_true]
   rw [show(k==j)=false from by simpa using hk.1]
   rw [q4]; simp; omega
section
variable {A M:Nat->Prop}{w0 w:World}{h:zbb}
theorem HRel.setBlk (hr:HRel A M w0 h w){h':zbb}{c:Nat}{o o':Blk}(ht:Repl c o c o' h h')(hc:c % 2=0){w':World}(hw:∀ X',Mono w (XX A h) w' X'->BlkRel w' X' c o')(hs:w'.heap.size=w.heap.size)
   (hk:∀ b,b≠c / 2->w'.heap[b]? =w.heap[b]?) (hsh:w'.shape? (c / 2)=w.shape? (c / 2)) (ho:w'.os=w.os) (htp:w'.tape=w.tape) (hout:w'.output=w.output/\w'.drawn=w.drawn):HRel A M w0 h' w'/\Mono w (XX A h) w' (XX A h'):=by
 have hkeys:=ht.keys_eq
 have hin:XX A h (c / 2):= .inr (by have:=ht.has.key; rwa [show 2*(c / 2)=c from by omega])
 have hxx:XX A h'=XX A h:=by funext b; simp [XX,hkeys]
 have hm:Mono w (XX A h) w' (XX A h'):=by
   rw [hxx]
   refine⟨by omega,fun b _ hx=>hk b (fun e=>hx (e▸hin)),fun b _=>?_,fun _ _ hx=>hx⟩
   by_cases hb:b=c / 2
   · subst hb; exact hsh
   · exact zax (hk b hb)
 refine⟨⟨by rw [hkeys]; exact hr.nodup,?_,fun c hc=>hr.free c (hkeys▸hc),fun c hc=>hr.mine c (hkeys▸hc),hr.bound,by rw [hs]; exact hr.old,?_,hr.glob.mono hm⟩,hm⟩
 · intro c1 b1 hc1
   obtain⟨h1,h2,e1,e2⟩:=ht.split
   subst e1; subst e2
   have hnd:=hr.nodup
   simp only [zch,keys_cons,List.nodup_append,List.nodup_cons]at hnd
   rcases List.mem_append.1 hc1 with hc1|hc1
   · have hne:c1≠c:=fun e=>hnd.2.2 c1 (List.mem_map.2 ⟨_,hc1,rfl⟩) c (by simp) e
     exact(hr.blk c1 b1 (by simp [hc1])).mono hm (fun he=>hk _ (by omega))
   · rcases List.mem_cons.1 hc1 with hc1|hc1
     · cases hc1; exact hw _ hm
     · have hne:c1≠c:=fun e=>hnd.2.1.1 (e▸List.mem_map.2 ⟨_,hc1,rfl⟩)
       exact(hr.blk c1 b1 (by simp [hc1])).mono hm (fun he=>hk _ (by omega))
 · refine⟨ho.trans hr.ext.os,htp.trans hr.ext.tape,hout.1.trans hr.ext.output,by rw [hs]; exact hr.ext.size,fun b hb hn=>?_,fun b hb=>(hm.shape b (Nat.lt_of_lt_of_le hb hr.ext.size)).trans (hr.ext.shape b hb),fun o_=>by rw [hout.2]; exact hr.ext.drawn o_⟩
   by_cases hbc:b=c / 2
   · subst hbc
     rcases hr.mine c ht.has.key hc with hmm|hmm
     · exact absurd hmm hn
     · omega
   · exact(hk b hbc).trans (hr.ext.keep b hb hn)
theorem HRel.allocMap (hr:HRel A M w0 h w):
   HRel A M w0 ((2*w.heap.size,.map [])::h) (w.alloc (.map #[] 0))/\Mono w (XX A h) (w.alloc (.map #[] 0)) (XX A ((2*w.heap.size,.map [])::h)):=by
 obtain⟨_,h5,h6⟩:=hr.allocRaw (.map #[] 0)
 have e:XX A ((2*w.heap.size,.map [])::h)=XX A ((2*w.heap.size,.raw (.map #[] 0))::h):=rfl
 refine⟨⟨h5.nodup,fun c b hc=>?_,h5.free,h5.mine,h5.bound,h5.old,h5.ext,h5.glob⟩,h6⟩
 rcases List.mem_cons.1 hc with hc|hc
 · cases hc
   refine⟨by omega,#[],0,?_,by simp,.nil,by simp,by simp⟩
   have:=(h5.blk _ _ (List.mem_cons_self ..)).2
   exact this
 · rw [e]; exact h5.blk c b (List.mem_cons_of_mem _ hc)
end
section
variable {P:Program}{o:Oper}{fr:Nat->D}{h:zbb}{K:D->zbb->Prop}{T:Type}{enc:T->D}{sz:Nat}{γ:Int->GS}{L:List (Int×List T)}
theorem OpA.makeSm {t:TypeId}(T:Type)(enc:T->D)(sz:Nat){hm:Nat->zbb}(ho:o.op= .makeMap t none)(hT:∀ c,Tl [] (smB sz enc (fun _=>(0,[],[])) ([]:List (Int×List T))) ((c,.map (smD (T:=T) sz (fun _=>(0,[],[])) []))::h) (hm c))(hk:∀ c,K (.map c) (hm c)):OpA P o fr h K:=
 .of_run fun A M w0 ac w hr hv=>by
   obtain⟨h5,h6⟩:=hr.allocMap
   have e:hm (2*w.heap.size)=(2*w.heap.size,.map [])::h:=by
     obtain⟨p,e1,e2⟩:=(hT (2*w.heap.size)).split
     rw [e2,<-show _=p from by simpa using e1]
     simp [smB,smD]
   refine⟨.map (some w.heap.size),_,_,_,?_,hk (2*w.heap.size),by rw [e]; exact h5,by rw [e]; exact h6,?_⟩
   · simp only [execOp,ho,Option.map_none,Instr.makeMap,Sem.run_bind,Sem.run_pure,Result.andThen_ok,run_newObj]
     rfl
   · have:=V.map (w:=w.alloc (.map #[] 0)) (X:=XX A (hm (2*w.heap.size))) (c:=2*w.heap.size) (by omega)
     rwa [show 2*w.heap.size / 2=w.heap.size from by omega]at this
theorem keys_of {α:Type}{ents:Array MapEntry}{f:(Int×α)->D}{L:List (Int×α)}(h:ents.toList.map (·.key)=(L.map fun p=>(Value.int .i64 p.1,f p)).map (·.1)):ents.toList.map (·.key)=(L.map (·.1)).map (fun j=>Value.int .i64 j):=by
 rw [h]; simp
theorem OpA.smGet {mt kt et:TypeId}{x y:Operand}{c:Nat}{k:Int}{h':zbb}(ho:o.op= .lookup mt x y false)(ht:P.underlying mt=some (.map kt et))(hkt:P.underlying kt=some (.int .i64))(hzi:(P.info? et).bind (·.zero)=some (.slice none 0 0))
   (hx:ev fr x= .map c) (hy:ev fr y= .i k) (hh:Has c (.map (smD sz γ L)) h) (hT:Tl (smB sz enc γ L) (smB sz enc γ (mdel L k)) h h') (hk:∀ g pre post,K (.own g sz (List.length pre) (mget [] L k).length) ((g,.cells sz (zas enc pre (mget [] L k) post))::h')):OpA P o fr h K:=
 .of_run fun A M w0 ac w hr hv=>by
   obtain⟨i0,hi0,hi1⟩:=Option.bind_eq_some_iff.1 hzi
   have hz:∀ w,(zeroValue et).run P w= .ok (.slice none 0 0) w:=fun w=>by simp [zeroValue,typeInfo,hi0,hi1]
   have h1:=hv x (by simp [ho,Op.operands])
   have h2:=hv y (by simp [ho,Op.operands])
   rw [hx]at h1; rw [hy]at h2
   generalize hu:ac.eval x=u at h1
   generalize hu2:ac.eval y=u2 at h2
   cases h2
   cases h1 with
   | map hc=>
     obtain⟨_,ents,clock,hb,hkeys,hvals,hborn,hnd⟩:=hr.blk _ _ hh.mem
     have hkeys:=keys_of hkeys
     obtain⟨p,e1,e2⟩:=hT.split
     rcases msplit k L with hno|⟨L1,xs,L2,hL,hno⟩
     · obtain⟨g,_,_,hr',hm⟩:=hr.ghost sz
       have hk':=hk g [] []
       rw [mget_no [] hno]at hk'
       rw [mdel_no hno]at e2
       have ehh:h'=h:=by rw [e1,e2]
       rw [ehh]at hk'
       refine⟨.slice none 0 0,w,_,_,?_,hk',hr',hm,.own (by simp) (.inr ⟨rfl,rfl⟩)⟩
       simp only [execOp,ho,hu,hu2,Instr.lookup,Sem.run_bind,run_underlying ht,Result.andThen_ok,getObj,Sem.run,hb,run_checkKey hkt,Sem.run_pure,Result.andThen,Instr.findKey,run_underlying hkt,findNow_no 0 hkeys hno,hz]
       simp [Sem.run,Result.andThen]
     · subst hL
       have hks:ents.toList.map (·.key)=((L1.map (·.1))++k::(L2.map (·.1))).map (fun j=>Value.int .i64 j):=by rw [hkeys]; simp
       obtain⟨a1,e,a2,q1,q2,q3,q4⟩:=findNow_at 0 hks hno
       have hk':=hk (γ k).1 (γ k).2.1 (γ k).2.2
       rw [mget_at [] hno]at hk'
       rw [mdel_at hno]at e2
       have hp:h.Perm (((γ k).1,.cells sz (zas enc (γ k).2.1 xs (γ k).2.2))::h'):=by
         rw [e1,e2]
         simp only [smB,List.map_append,List.map_cons,<-List.append_assoc]
         exact List.perm_middle
       obtain⟨hr',hm⟩:=hr.perm hp
       have hvv:V w (XX A h) (.own (γ k).1 sz (γ k).2.1.length xs.length) e.val:=by
         obtain⟨x',g1,g2⟩:=hvals.get L1.length (.own (γ k).1 sz (γ k).2.1.length xs.length) (by simp [smD])
         have:(ents.toList.map (·.val))[L1.length]? =some e.val:=by
           rw [q1]; simp only [List.map_append,List.map_cons]
           rw [show L1.length=(a1.map (·.val)).length from by simp [q2]]
           simp
         rw [this]at g1; cases g1; exact g2
       refine⟨e.val,w,_,_,?_,hk',hr',hm,hvv.mono hm⟩
       simp only [execOp,ho,hu,hu2,Instr.lookup,Sem.run_bind,run_underlying ht,Result.andThen_ok,getObj,Sem.run,hb,run_checkKey hkt,Sem.run_pure,Result.andThen,Instr.findKey,run_underlying hkt,q4]
       simp [Sem.run,Result.andThen]
theorem OpA.fmGet {mt kt et:TypeId}{x y:Operand}{c:Nat}{k:Int}(ho:o.op= .lookup mt x y false)(ht:P.underlying mt=some (.map kt et))(hkt:P.underlying kt=some (.int .i64))(hzi:(P.info? et).bind (·.zero)=some (.slice none 0 0))
   (hx:ev fr x= .map c) (hy:ev fr y= .i k) (hh:Has c (.map (smF sz enc L)) h) (hk:K (zai sz enc (mget [] L k)) h):OpA P o fr h K:=
 .of_run fun A M w0 ac w hr hv=>by
   obtain⟨i0,hi0,hi1⟩:=Option.bind_eq_some_iff.1 hzi
   have hz:∀ w,(zeroValue et).run P w= .ok (.slice none 0 0) w:=fun w=>by simp [zeroValue,typeInfo,hi0,hi1]
   have h1:=hv x (by simp [ho,Op.operands])
   have h2:=hv y (by simp [ho,Op.operands])
   rw [hx]at h1; rw [hy]at h2
   generalize hu:ac.eval x=u at h1
   generalize hu2:ac.eval y=u2 at h2
   cases h2
   cases h1 with
   | map hc=>
     obtain⟨_,ents,clock,hb,hkeys,hvals,hborn,hnd⟩:=hr.blk _ _ hh.mem
     have hkeys:=keys_of hkeys
     rcases msplit k L with hno|⟨L1,xs,L2,hL,hno⟩
     · rw [mget_no [] hno]at hk
       refine⟨.slice none 0 0,w,_,_,?_,hk,hr,Mono.refl _ _,V.nilL⟩
       simp only [execOp,ho,hu,hu2,Instr.lookup,Sem.run_bind,run_underlying ht,Result.andThen_ok,getObj,Sem.run,hb,run_checkKey hkt,Sem.run_pure,Result.andThen,Instr.findKey,run_underlying hkt,findNow_no 0 hkeys hno,hz]
       simp [Sem.run,Result.andThen]
     · subst hL
       have hks:ents.toList.map (·.key)=((L1.map (·.1))++k::(L2.map (·.1))).map (fun j=>Value.int .i64 j):=by rw [hkeys]; simp
       obtain⟨a1,e,a2,q1,q2,q3,q4⟩:=findNow_at 0 hks hno
       rw [mget_at [] hno]at hk
       have hvv:V w (XX A h) (zai sz enc xs) e.val:=by
         obtain⟨x',g1,g2⟩:=hvals.get L1.length (zai sz enc xs) (by simp [smF])
         have:(ents.toList.map (·.val))[L1.length]? =some e.val:=by
           rw [q1]; simp only [List.map_append,List.map_cons]
           rw [show L1.length=(a1.map (·.val)).length from by simp [q2]]
           simp
         rw [this]at g1; cases g1; exact g2
       refine⟨e.val,w,_,_,?_,hk,hr,Mono.refl _ _,hvv⟩
       simp only [execOp,ho,hu,hu2,Instr.lookup,Sem.run_bind,run_underlying ht,Result.andThen_ok,getObj,Sem.run,hb,run_checkKey hkt,Sem.run_pure,Result.andThen,Instr.findKey,run_underlying hkt,q4]
       simp [Sem.run,Result.andThen]
theorem smB_up {k:Int}{g:GS}:∀ {L:List (Int×List T)},k ∉ L.map (·.1)->smB sz enc (gup γ k g) L=smB sz enc γ L
 | [],_=>rfl
 | p::L,h=>by
   simp only [List.map_cons,List.mem_cons,not_or]at h
   simp only [smB,List.map_cons]at*
   rw [show(L.map fun p=>((gup γ k g p.1).1,Blk.cells sz (zas enc (gup γ k g p.1).2.1 p.2 (gup γ k g p.1).2.2)))=_ from smB_up h.2]
   have hp:¬p.1=k:=fun e=>h.1 e.symm
   simp only [gup,if_neg hp]; rfl
theorem smD_up {k:Int}{g:GS}:∀ {L:List (Int×List T)},k ∉ L.map (·.1)->smD sz (gup γ k g) L=smD sz γ L
 | [],_=>rfl
 | p::L,h=>by
   simp only [List.map_cons,List.mem_cons,not_or]at h
   simp only [smD,List.map_cons]at*
   rw [show(L.map fun p=>(Value.int .i64 p.1,D.own (gup γ k g p.1).1 sz (gup γ k g p.1).2.1.length p.2.length))=_ from smD_up h.2]
   have hp:¬p.1=k:=fun e=>h.1 e.symm
   simp only [gup,if_neg hp]; rfl
theorem OpA.smSet {mt kt et:TypeId}{x y z:Operand}{c g:Nat}{k:Int}{pre post:List D}{xs:List T}{h1 hm h2:zbb}(hnd:(L.map (·.1)).Nodup)(ho:o.op= .mapUpdate mt x y z)(ht:P.underlying mt=some (.map kt et))(hkt:P.underlying kt=some (.int .i64))
   (hx:ev fr x= .map c) (hy:ev fr y= .i k) (hz:ev fr z= .own g sz pre.length xs.length) (hp:h.Perm ((g,.cells sz (zas enc pre xs post))::h1))
   (hR:Repl c (.map (smD sz γ L)) c (.map (smD sz (gup γ k (g,pre,post)) (mset L k xs))) h1 hm) (hT:Tl (smB sz enc γ (mdel L k)) (smB sz enc (gup γ k (g,pre,post)) (mset L k xs)) hm h2) (hk:K (.v undef) h2):OpA P o fr h K:=
 .of_skip fun A M w0 ac w hr hv=>by
   have h1':=hv x (by simp [ho,Op.operands])
   have h2':=hv y (by simp [ho,Op.operands])
   have h3:=hv z (by simp [ho,Op.operands])
   rw [hx]at h1'; rw [hy]at h2'; rw [hz]at h3
   generalize hu:ac.eval x=u at h1'
   generalize hu2:ac.eval y=u2 at h2'
   generalize hu3:ac.eval z=u3 at h3
   cases h2'
   cases h1' with
   | map hc=>
     obtain⟨r1,m1⟩:=hr.perm hp
     have hR1:Repl c (.map (smD sz γ L)) c (.map (smD sz (gup γ k (g,pre,post)) (mset L k xs))) ((g,.cells sz (zas enc pre xs post))::h1) ((g,.cells sz (zas enc pre xs post))::hm):= .tail hR
     obtain⟨_,ents,clock,hb,hkeys0,hvals,hborn,hnb⟩:=r1.blk _ _ hR1.has.mem
     have hkeys:=keys_of hkeys0
     have hlt:c / 2<w.heap.size:=(Array.getElem?_eq_some_iff.1 hb).1
     have eg:(getObj (c / 2)).run P w= .ok (.map ents clock) w:=by simp [getObj,Sem.run,hb]
     have es:∀ o,(setObj (c / 2) o).run P w= .ok () {w with heap:=w.heap.setIfInBounds (c / 2) o}:=fun o=>by simp [setObj,Sem.run,hb]
     have hv3:=h3.mono m1
     obtain⟨p,t1,t2⟩:=hT.split
     have key:∀(ents':Array MapEntry) (clock':Nat),(∀ X',Mono w (XX A ((g,.cells sz (zas enc pre xs post))::h1)) {w with heap:=w.heap.setIfInBounds (c / 2) (.map ents' clock')} X'->BlkRel {w with heap:=w.heap.setIfInBounds (c / 2) (.map ents' clock')} X' c (.map (smD sz (gup γ k (g,pre,post)) (mset L k xs))))->
         ((g,Blk.cells sz (zas enc pre xs post))::hm).Perm h2->HRel A M w0 h2 {w with heap:=w.heap.setIfInBounds (c / 2) (.map ents' clock')}/\Mono w (XX A h) {w with heap:=w.heap.setIfInBounds (c / 2) (.map ents' clock')} (XX A h2):=fun ents' clock' hbr hpm=>by
       obtain⟨r2,m2⟩:=r1.setBlk hR1 hc (w':= {w with heap:=w.heap.setIfInBounds (c / 2) (.map ents' clock')}) hbr (by simp) (fun b hb=>by simp [Array.getElem?_setIfInBounds,Ne.symm hb]) (by
         have e1:w.shape? (c / 2)=none:=by unfold World.shape?; rw [hb]
         rw [e1]; unfold World.shape?; simp [hlt]) rfl rfl ⟨rfl,rfl⟩
       obtain⟨r3,m3⟩:=r2.perm hpm
       exact⟨r3,(m1.trans m2).trans m3⟩
     rcases msplit k L with hno|⟨L1,ys,L2,hL,hno⟩
     · have hpm:((g,Blk.cells sz (zas enc pre xs post))::hm).Perm h2:=by
         rw [t1,t2,mdel_no hno,mset_no hno]
         have e:smB sz enc (gup γ k (g,pre,post)) (L++ [(k,xs)])=smB sz enc γ L++ [(g,Blk.cells sz (zas enc pre xs post))]:=by
           have:=smB_up (sz:=sz) (enc:=enc) (γ:=γ) (g:=(g,pre,post)) hno
           unfold smB at*
           rw [List.map_append,this]; simp [gup]
         rw [e,<-List.append_assoc]
         exact List.perm_append_comm (l₁:= [(g,Blk.cells sz (zas enc pre xs post))])
       obtain⟨r3,m3⟩:=key (ents.push {key:= .int .i64 k,val:=u3,born:=clock}) (clock+1) (fun X' hm'=>by
         refine⟨hc,ents.push {key:= .int .i64 k,val:=u3,born:=clock},clock+1,by simp [hlt],?_,?_,?_,?_⟩
         · rw [Array.toList_push,List.map_append,hkeys,mset_no hno]; simp [smD]
         · rw [Array.toList_push,List.map_append,mset_no hno]
           have e:(smD sz (gup γ k (g,pre,post)) (L++ [(k,xs)])).map (·.2)=(smD sz γ L).map (·.2)++ [.own g sz pre.length xs.length]:=by
             have:=smD_up (sz:=sz) (γ:=γ) (g:=(g,pre,post)) hno
             unfold smD at*
             rw [List.map_append,this]; simp [gup]
           rw [e]
           exact(hvals.mono hm').append (.cons (hv3.mono hm') .nil)
         · intro e he
           rw [Array.toList_push,List.mem_append]at he
           rcases he with he|he
           · exact Nat.lt_succ_of_lt (hborn e he)
           · simp at he; subst he; simp
         · rw [Array.toList_push,List.map_append,List.nodup_append]
           refine⟨hnb,by simp,fun a ha b hb=>?_⟩
           simp at hb; subst hb
           obtain⟨e,he,rfl⟩:=List.mem_map.1 ha
           have:=hborn e he; omega) hpm
       refine⟨_,_,?_,hk,r3,m3⟩
       simp only [execOp,ho,hu,hu2,hu3,Instr.mapUpdate,Sem.run_bind,run_underlying ht,Result.andThen_ok,eg,run_checkKey hkt,Instr.findKey,run_underlying hkt,findNow_no 0 hkeys hno,Sem.run_pure,es]
     · subst hL
       have hks:ents.toList.map (·.key)=((L1.map (·.1))++k::(L2.map (·.1))).map (fun j=>Value.int .i64 j):=by rw [hkeys]; simp
       obtain⟨a1,e,a2,q1,q2,q3,q4⟩:=findNow_at 0 hks hno
       have hno2:k ∉ L2.map (·.1):=by
         simp only [List.map_append,List.map_cons,List.nodup_append,List.nodup_cons]at hnd
         exact hnd.2.1.1
       have hpm:((g,Blk.cells sz (zas enc pre xs post))::hm).Perm h2:=by
         rw [t1,t2,mdel_at hno,mset_at hno]
         have e:smB sz enc (gup γ k (g,pre,post)) (L1++(k,xs)::L2)=smB sz enc γ L1++(g,Blk.cells sz (zas enc pre xs post))::smB sz enc γ L2:=by
           have e1:=smB_up (sz:=sz) (enc:=enc) (γ:=γ) (g:=(g,pre,post)) hno
           have e2:=smB_up (sz:=sz) (enc:=enc) (γ:=γ) (g:=(g,pre,post)) hno2
           unfold smB at*
           rw [List.map_append,List.map_cons,e1,e2]; simp [gup]
         rw [e,<-List.append_assoc,show smB sz enc γ (L1++L2)=smB sz enc γ L1++smB sz enc γ L2 from by simp [smB],<-List.append_assoc]
         exact List.perm_middle.symm
       have hm1:ents.toList.modify L1.length (fun e=> {e with key:=Value.int .i64 k,val:=u3})=a1++ {e with key:=Value.int .i64 k,val:=u3}::a2:=by
         rw [q1,show L1.length=a1.length from by simp [q2]]
         exact modify_mid _ _ _ _
       obtain⟨r3,m3⟩:=key (ents.modify L1.length fun e=> {e with key:=Value.int .i64 k,val:=u3}) clock (fun X' hm'=>by
         have hmm:(ents.modify L1.length fun e=> {e with key:=Value.int .i64 k,val:=u3}).toList=a1++ {e with key:=Value.int .i64 k,val:=u3}::a2:=by rw [Array.toList_modify,hm1]
         have hb1:(a1++ {e with key:=Value.int .i64 k,val:=u3}::a2).map (·.born)=ents.toList.map (·.born):=by rw [q1]; simp
         refine⟨hc,ents.modify L1.length (fun e=> {e with key:=Value.int .i64 k,val:=u3}),clock,by simp [hlt],?_,?_,?_,?_⟩
         · rw [hmm,mset_at hno]
           have:(a1++ {e with key:=Value.int .i64 k,val:=u3}::a2).map (·.key)=ents.toList.map (·.key):=by rw [q1]; simp [q3]
           rw [this,hkeys]; simp [smD,Function.comp_def]
         · rw [hmm,mset_at hno]
           have e0:(smD sz (gup γ k (g,pre,post)) (L1++(k,xs)::L2)).map (·.2)=((smD sz γ (L1++(k,ys)::L2)).map (·.2)).set L1.length (.own g sz pre.length xs.length):=by
             have e1:=smD_up (sz:=sz) (γ:=γ) (g:=(g,pre,post)) hno
             have e2:=smD_up (sz:=sz) (γ:=γ) (g:=(g,pre,post)) hno2
             unfold smD at*
             rw [List.map_append,List.map_cons,e1,e2]
             simp only [List.map_append,List.map_cons,List.map_map]
             rw [List.set_append_right _ _ (by simp)]
             simp [gup]
           have e1:(a1++ {e with key:=Value.int .i64 k,val:=u3}::a2).map (·.val)=(ents.toList.map (·.val)).set L1.length u3:=by
             rw [q1,show L1.length=(a1.map (·.val)).length from by simp [q2]]
             simp
           rw [e0,e1]
           exact VL.set _ (hv3.mono hm') (hvals.mono hm')
         · intro e' he'
           rw [hmm]at he'
           have:e'.born∈ents.toList.map (·.born):=by rw [<- hb1]; exact List.mem_map.2 ⟨_,he',rfl⟩
           obtain⟨e'',h1'',h2''⟩:=List.mem_map.1 this
           rw [<- h2'']; exact hborn _ h1''
         · rw [hmm,hb1]; exact hnb) hpm
       refine⟨_,_,?_,hk,r3,m3⟩
       have e4:((ents[L1.length]?).map (·.key))=some (.int .i64 k):=by
         rw [<- Array.getElem?_toList,q1,show L1.length=a1.length from by simp [q2]]
         simp [q3]
       simp only [execOp,ho,hu,hu2,hu3,Instr.mapUpdate,Sem.run_bind,run_underlying ht,Result.andThen_ok,eg,run_checkKey hkt,Instr.findKey,run_underlying hkt,q4,Sem.run_pure]
       simp only [Nat.zero_add,List.length_map,e4,Option.getD_some,Instr.keyThatStays,Instr.sameBits,Sem.run_bind,es]
       simp [Sem.run_pure,es]
theorem Has.of_mem {c:Nat}{b:Blk}:∀ {h:zbb},(c,b)∈h->Has c b h
 | [],hm=>by cases hm
 | x::h,hm=>by
   rcases List.mem_cons.1 hm with e|hm
   · subst e; exact .head
   · exact .tail (Has.of_mem hm)
theorem snap_sm [Inhabited T]{g:zbb}:∀(L:List (Int×List T)),(∀ p∈L,Has (γ p.1).1 (.cells sz (zas enc (γ p.1).2.1 p.2 (γ p.1).2.2)) g)->Snap false g ((smD sz γ L).map (·.2)) ((smF sz enc L).map (·.2))
 | [],_=> .nil
 |p::L,h=> .win (h p (by simp)) (by intro hf; cases hf) (snap_sm (g:=g) L (fun q hq=>h q (List.mem_cons_of_mem _ hq)))
theorem wpA_smFrz [Inhabited T]{n:Nat}{Q:Post}{c0:Code}{c:Nat}{hm h':zbb}(hT:Tl (smB sz enc γ L) [] h hm)(hR:Repl c (.map (smD sz γ L)) c (.map (smF sz enc L)) hm h')(hh:wpA P n c0 Q fr h'):wpA P n c0 Q fr h:=
 fun A M w0 a w r=>by
   obtain⟨p,e1,e2⟩:=hT.split
   rw [List.append_nil]at e2
   have hs:List.Sublist hm h:=by rw [e1,e2]; exact List.sublist_append_left _ _
   have r1:=r.sub hs
   have hc0:(c,Blk.map (smD sz γ L))∈h:=hs.subset hR.has.mem
   obtain⟨hc,ents,clock,hb,hkeys,hvals,hborn,hnb⟩:=r.heap.blk _ _ hc0
   have hsn:=snap_sm (sz:=sz) (enc:=enc) (γ:=γ) (g:=smB sz enc γ L) L (fun q hq=>Has.of_mem (List.mem_map.2 ⟨q,hq,rfl⟩))
   have hv2:VL w (XX A hm) ((smF sz enc L).map (·.2)) (ents.toList.map (·.val)):=by
     refine hsn.sound (X':=XX A hm) r.heap (fun c b hh=>by rw [e1]; exact Has.of_mem (List.mem_append_right _ hh.mem)) (fun _ b hb=>hb.imp id (fun hb=>(hs.map _).subset hb)) (fun c' hc' he hx=>?_) _ hvals
     have e3:2*(c' / 2)=c':=by omega
     have hin:c'∈keys h:=by rw [e1,zch]; exact List.mem_append_right _ hc'
     rcases hx with hx|hx
     · rw [e3]at hx; exact r.heap.free c' hin hx
     · rw [e3,e2]at hx
       have hnd:=r.heap.nodup
       rw [e1,zch,List.nodup_append]at hnd
       exact hnd.2.2 c' hx c' hc' rfl
   obtain⟨r2,m2⟩:=r1.heap.setBlk hR hc (w':=w) (fun X' hm'=>⟨hc,ents,clock,hb,by rw [hkeys]; simp [smD,smF],hv2.mono hm',hborn,hnb⟩) rfl (fun _ _=>rfl) rfl rfl rfl ⟨rfl,rfl⟩
   exact hh A M w0 a w (r1.turn r2 m2)
end
end Go.Lic
set_option linter.all false
namespace Go.Lic
variable [Fl]
section
variable {T:Type}
variable {sz:Nat}{enc:T->D}{γ:Nat->Nat}
end
section
variable {A M:Nat->Prop}{w0 w:World}{h:zbb}
end
section
variable {P:Program}{o:Oper}{fr:Nat->D}{h:zbb}{K:D->zbb->Prop}{T:Type}{enc:T->D}{sz:Nat}{γ:Nat->Nat}{L:List (List T)}
variable [Inhabited T]
end
end Go.Lic
set_option linter.all false
namespace Go.Lic
open Go.Sort Go.Proofs Go.Shelf
theorem bl_irrefl :∀ a:List UInt8,Op.bytesLess a a=false
 | []=>rfl
 |x::a=>by simp [Op.bytesLess,UInt8.lt_irrefl,bl_irrefl a]
theorem bl_trans :∀ a b c:List UInt8,Op.bytesLess a b=true->Op.bytesLess b c=true->Op.bytesLess a c=true
 | [],[],_,h,_=>by cases h
 | [],_::_,[],_,h=>by cases h
 | [],_::_,_::_,_,_=>rfl
 |_::_,[],_,h,_=>by cases h
 |_::_,_::_,[],_,h=>by cases h
 | x ::a,y::b,z::c,h1,h2=>by
   simp only [Op.bytesLess,Bool.or_eq_true,Bool.and_eq_true,decide_eq_true_eq,beq_iff_eq]at h1 h2 ⊢
   rcases h1 with h1|⟨rfl,h1⟩
   · rcases h2 with h2|⟨rfl,h2⟩
     · exact .inl (UInt8.lt_trans h1 h2)
     · exact .inl h1
   · rcases h2 with h2|⟨rfl,h2⟩
     · exact .inl h2
     · exact .inr ⟨rfl,bl_trans a b c h1 h2⟩
theorem bl_tri :∀ a b:List UInt8,Op.bytesLess a b=true\/a=b\/Op.bytesLess b a=true
 | [],[]=> .inr (.inl rfl)
 | [],_::_=> .inl rfl
 |_::_,[]=> .inr (.inr rfl)
 | x ::a,y::b=>by
   simp only [Op.bytesLess,Bool.or_eq_true,Bool.and_eq_true,decide_eq_true_eq,beq_iff_eq,List.cons.injEq]
   by_cases h:x=y
   · subst h
     rcases bl_tri a b with h1|h1|h1
     · exact .inl (.inr ⟨rfl,h1⟩)
     · exact .inr (.inl ⟨rfl,h1⟩)
     · exact .inr (.inr (.inr ⟨rfl,h1⟩))
   · rcases UInt8.lt_or_lt_of_ne h with h1|h1
     · exact .inl (.inl h1)
     · exact .inr (.inr (.inl h1))
theorem cb_eq :∀ a b:List UInt8,Lib.compareBytes a b=if Op.bytesLess a b=true then -1 else if a=b then 0 else 1
 | [],[]=>rfl
 | [],_::_=>rfl
 |_::_,[]=>by simp [Lib.compareBytes,Op.bytesLess]
 | x ::a,y::b=>by
   simp only [Lib.compareBytes,Op.bytesLess,Bool.or_eq_true,Bool.and_eq_true,decide_eq_true_eq,beq_iff_eq,List.cons.injEq]
   rw [cb_eq a b]
   by_cases h:x=y
   · subst h
     simp [UInt8.lt_irrefl]
   · rcases UInt8.lt_or_lt_of_ne h with h1|h1
     · simp [h1]
     · have:¬x<y:=UInt8.lt_asymm h1
       simp [h1,this,h]
theorem ba_eq {a b:ByteArray}(h:a.data.toList=b.data.toList):a=b:=by
 obtain⟨⟨a⟩⟩:=a; obtain⟨⟨b⟩⟩:=b
 cases h; rfl
abbrev SLt (a b:ByteArray):Prop:=sless a b=true
theorem sl_irrefl (a:ByteArray):¬SLt a a:=by simp [sless,bl_irrefl]
theorem sl_trans {a b c:ByteArray}(h1:SLt a b)(h2:SLt b c):SLt a c:=bl_trans _ _ _ h1 h2
theorem sl_asymm {a b:ByteArray}(h1:SLt a b):¬SLt b a:=fun h2=>sl_irrefl a (sl_trans h1 h2)
theorem sl_ne {a b:ByteArray}(h1:SLt a b):a≠b:=fun h=>sl_irrefl a (by rw [<- h]at h1; exact h1)
theorem sl_tri (a b:ByteArray):SLt a b\/a=b\/SLt b a:=by
 rcases bl_tri a.data.toList b.data.toList with h|h|h
 · exact .inl h
 · exact .inr (.inl (ba_eq h))
 · exact .inr (.inr h)
theorem cmpB_eq (a b:ByteArray):cmpB a b=if sless a b=true then -1 else if a=b then 0 else 1:=by
 unfold cmpB
 rw [cb_eq]
 by_cases h:a=b
 · subst h; simp [sless]
 · have:¬a.data.toList=b.data.toList:=fun e=>h (ba_eq e)
   simp [sless,h,this]
def PLt (p:ByteArray)(n:Int)(q:ByteArray)(m:Int):Prop:=SLt p q\/(p=q/\n<m)
theorem pl_irrefl (p:ByteArray)(n:Int):¬PLt p n p n:=by
 rintro(h|⟨_,h⟩)
 · exact sl_irrefl _ h
 · omega
theorem pl_trans {p q r:ByteArray}{n m k:Int}(h1:PLt p n q m)(h2:PLt q m r k):PLt p n r k:=by
 rcases h1 with h1|⟨rfl,h1⟩
 · rcases h2 with h2|⟨rfl,h2⟩
   · exact .inl (sl_trans h1 h2)
   · exact .inl h1
 · rcases h2 with h2|⟨rfl,h2⟩
   · exact .inl h2
   · exact .inr ⟨rfl,by omega⟩
theorem pl_tri (p:ByteArray)(n:Int)(q:ByteArray)(m:Int):PLt p n q m\/(p=q/\n=m)\/PLt q m p n:=by
 rcases sl_tri p q with h|rfl|h
 · exact .inl (.inl h)
 · rcases Int.lt_trichotomy n m with h|h|h
   · exact .inl (.inr ⟨rfl,h⟩)
   · exact .inr (.inl ⟨rfl,h⟩)
   · exact .inr (.inr (.inr ⟨rfl,h⟩))
 · exact .inr (.inr (.inl h))
abbrev SpLt (a b:Span):Prop:=PLt a.path a.from_ b.path b.from_
theorem spanCmp_neg (a b:Span):zbh a b<0↔SpLt a b:=by
 have e:zbh a b=if cmpB a.path b.path≠0 then cmpB a.path b.path else if cmpI a.from_ b.from_≠0 then cmpI a.from_ b.from_ else 0:=by
   unfold zbh orF
   by_cases h1:cmpB a.path b.path=0
   · by_cases h2:cmpI a.from_ b.from_=0
     · simp [h1,h2]
     · simp [h1,h2]
   · simp [h1]
 rw [e,cmpB_eq]
 unfold SpLt PLt cmpI SLt
 by_cases h:sless a.path b.path=true
 · simp [h]
 · by_cases h2:a.path=b.path
   · rw [h2]
     have:¬(sless b.path b.path=true):=sl_irrefl _
     simp only [this,if_false,if_true,ne_eq,not_true,false_or,true_and]
     by_cases h3:a.from_<b.from_
     · simp [h3]
     · by_cases h4:b.from_<a.from_
       · simp [h3,h4]
       · simp [h3,h4]
   · simp [h,h2]
theorem ltOf_iff (a b:Span):ltOf zbh a b=true↔SpLt a b:=by
 unfold ltOf
 rw [decide_eq_true_eq]
 exact spanCmp_neg a b
theorem ltOf_false (a b:Span):ltOf zbh a b=false↔¬SpLt a b:=by
 rw [<- ltOf_iff]; simp
theorem pl_ntrans {p q r:ByteArray}{n m k:Int}(h1:¬PLt p n q m)(h2:¬PLt q m r k):¬PLt p n r k:=by
 intro h3
 rcases pl_tri p n q m with h|⟨rfl,rfl⟩|h
 · exact h1 h
 · exact h2 h3
 · exact h2 (pl_trans h h3)
theorem zal :SWO (ltOf zbh) where
 irrefl a:=(ltOf_false _ _).2 (pl_irrefl _ _)
 trans a b c h1 h2:=(ltOf_iff _ _).2 (pl_trans ((ltOf_iff _ _).1 h1) ((ltOf_iff _ _).1 h2))
 ntrans a b c h1 h2:=(ltOf_false _ _).2 (pl_ntrans ((ltOf_false _ _).1 h1) ((ltOf_false _ _).1 h2))
def inSpan (s:Span)(p:ByteArray)(n:Int):Prop:=s.path=p/\s.from_<=n/\n<s.to
def In (l:List Span)(p:ByteArray)(n:Int):Prop:=∃ s∈l,inSpan s p n
theorem gi_last {α:Type} [Inhabited α](o:List α)(t:α):gi (o++ [t]) (((o++ [t]).length:Int)-1)=t:=by
 have:(((o++ [t]).length:Int)-1)=((o.length:Nat):Int):=by simp
 rw [this,gi_nat (by simp)]
 simp
theorem si_last {α:Type}(o:List α)(t v:α):si (o++ [t]) (((o++ [t]).length:Int)-1) v=o++ [v]:=by
 have:(((o++ [t]).length:Int)-1).toNat=o.length:=by simp
 unfold si
 rw [this]
 simp
theorem gmax1 (a b:Int):gmax a [b]=max a b:=by simp only [gmax,List.foldl]; omega
theorem gmin1 (a b:Int):gmin a [b]=min a b:=by simp only [gmin,List.foldl]; omega
theorem list_last {α:Type}(l:List α):l= []\/∃ o t,l=o++ [t]:=by
 rcases List.eq_nil_or_concat l with h|⟨o,t,h⟩
 · exact .inl h
 · exact .inr ⟨o,t,by simpa using h⟩
theorem foldl_len {α β:Type}{f:List α->β->List α}(h:∀ o x,(f o x).length<=o.length+1):∀(r:List β) (o:List α),(r.foldl f o).length<=o.length+r.length
 | [],o=>by simp
 | x::r,o=>by
   rw [List.foldl_cons]
   have h1:=foldl_len h r (f o x)
   have h2:=h o x
   simp only [List.length_cons]; omega
end Go.Lic
set_option linter.all false
namespace Go.Lic
open Go.Sort Go.Proofs Go.Shelf
end Go.Lic
set_option linter.all false
namespace Go.Lic
open Go.Sort Go.Proofs Go.Shelf
end Go.Lic
set_option linter.all false
namespace Go.Lic
open Go.Sort
def runMax (a:List Lexeme):List Lexeme->Nat
 | []=>0
 |x::l=>max (zba (x::l) a) (runMax a l)
def longW (ts:List Text)(a:List Lexeme):Nat:=ts.foldl (fun m t=>max m (runMax a t.words)) 0
def longsN (ts:List Text):List Lexeme->List Nat
 | []=> []
 |w::l=>longW ts (w::l)::longsN ts l
def longAF (c:Corpus)(t:Text):List Int:=(longsN c.texts t.words).map fun n:Nat=>(n:Int)
def sameF (words known:List Lexeme)(at_:Int):Bool:=decide (0<=at_)&&decide (at_+words.length<=known.length)&&decide (zba (known.drop at_.toNat) words=words.length)
def srcW (a:List Lexeme):List Lexeme->Option Nat
 | []=>none
 |x::l=>if zba (x::l) a=a.length then some 0 else(srcW a l).map (· +1)
def srcT (a:List Lexeme):List Text->Option (Nat×Nat)
 | []=>none
 | t::ts=>match srcW a t.words with
   |some k=>some (0,k)
   |none=>(srcT a ts).map fun p=>(p.1+1,p.2)
def srcF (c:Corpus)(a:List Lexeme):Int×Int:=match srcT a c.texts with
 |some p=>((p.1:Int),(p.2:Int))
 |none=>(0,0)
def betV (a b:Int×Int):Bool:=decide (b.1<a.1)||(decide (a.1=b.1)&&decide (a.2<b.2))
def candV (rest:List (Int×Int×Nat))(k:Nat):Int×Int×Nat:=((rest.getD (k-1) default).1+k,(rest.getD (k-1) default).2.1+1,k)
def takeV (rest:List (Int×Int×Nat))(cur:Int×Int×Nat)(k:Nat):Int×Int×Nat:=if betV (cur.1,cur.2.1) ((candV rest k).1,(candV rest k).2.1)then cur else candV rest k
def fromTo (least lo:Nat):List Nat:=(List.range (lo+1-least)).map (· +least)
def stepV (least:Nat)(rest:List (Int×Int×Nat))(lo:Nat):Int×Int×Nat:=(fromTo least lo).foldl (takeV rest) ((rest.headD default).1,(rest.headD default).2.1,0)
def dpL (least:Nat):List Nat->List (Int×Int×Nat)
 | []=> [(0,0,0)]
 |lo::los=>stepV least (dpL least los) lo::dpL least los
def cutL :Nat->Nat->List Nat->List (Nat×Nat)
 |_,_,[]=> []
 |i,s+1,_::l=>cutL (i+1) s l
 |i,0,0::l=>cutL (i+1) 0 l
 |i,0,(k+1)::l=>(i,k+1)::cutL (i+1) k l
def pieceF (c:Corpus)(t:Text)(p:Nat×Nat):Piece:=⟨(p.1:Int),((p.1+p.2:Nat):Int),(srcF c ((t.words.drop p.1).take p.2)).1,(srcF c ((t.words.drop p.1).take p.2)).2⟩
def piecesF (c:Corpus)(t:Text)(least:Nat):List Piece:=(cutL 0 0 ((dpL least (longsN c.texts t.words)).map fun v=>v.2.2)).map (pieceF c t)
def noA :Attribution:=⟨⟨#[]⟩,[]⟩
def rightCT (c:Corpus)(t:Text):Bool:=decide (checkF c=0)&&zbi t
def rightA (c:Corpus)(t:Text)(least:Int):Int:=if rightCT c t then if 1<=least/\least<=8192 then 0 else 3 else 1
def attrF (c:Corpus)(t:Text)(least:Int):Attribution×Int:=if rightA c t least=0 then(⟨t.path,piecesF c t least.toNat⟩,0)else(noA,rightA c t least)
def rangedF (t:Text)(p:Piece):Bool:=decide (0<=p.from_)&&decide (p.from_<p.to)&&decide (p.to<=t.words.length)
def pieceOk (c:Corpus)(t:Text)(least:Int)(p:Piece):Bool:=rangedF t p&&decide (least<=p.to-p.from_)&&(decide (0<=p.text)&&decide (p.text<c.texts.length))&&sameF (zbc t.words p.from_ p.to) (gi c.texts p.text).words p.at_
def checkPs (c:Corpus)(t:Text)(least:Int):Int->List Piece->Int
 |_,[]=>0
 |e,p::l=>if pieceOk c t least p then if p.from_<e then 5 else checkPs c t least p.to l else 18
def checkA (c:Corpus)(t:Text)(least:Int)(a:Attribution):Int:=if rightA c t least=0 then if a.path=t.path then checkPs c t least 0 a.pieces else 9 else rightA c t least
def shareL (n:Nat)(l:List Piece):List Int:=l.foldl (fun out p=>si out p.text (gi out p.text+(p.to-p.from_))) (List.replicate n 0)
def shareF (c:Corpus)(t:Text)(a:Attribution):List Int×Int:=if rightCT c t then if checkA c t 1 a=0 then(shareL c.texts.length a.pieces,0)else([],18)else([],1)
def linesW (t:Text)(l:List Lexeme):List Line:=l.map fun w=>⟨t.path,w.line⟩
def restL (t:Text):Int->List Piece->Option (List Line)
 |e,[]=>some (linesW t (t.words.drop e.toNat))
 |e,p::l=>if rangedF t p&&decide (e<=p.from_)then(restL t p.to l).map fun x=>linesW t (zbc t.words e p.from_)++x else none
def cmpL :List Int->List Int->Int
 | [],[]=>0
 | [],_::_=> -1
 |_::_,[]=>1
 |x::a,y::b=>if cmpI x y=0 then cmpL a b else cmpI x y
def betterP (a b:Int×Int):Int×Int:=if 0<=cmpL [a.1,a.2] [b.1,b.2]then a else b
def afterP (v:Int×Int)(n:Int):Int×Int:=(v.1+n,v.2-1)
def unknownF (t:Text)(a:Attribution):List Span×Int:=if zbi t then if a.path=t.path then match restL t 0 a.pieces with
 |some l=>ofF l
 |none=>([],3)else([],9)else([],1)
def okA (a:Attribution):Prop:=a.path.size<=1000000/\a.pieces.length<=1000000
def coverF (l:List Piece):Int:=l.foldl (fun n p=>n+(p.to-p.from_)) 0
end Go.Lic
set_option linter.all false
namespace Go.Lic
variable [Fl]
abbrev vU (_:Unit):Value:= .agg #[]
abbrev encU (_:Unit):D:= .agg []
section
variable {P:Program}
theorem run_checkKey_plain {t:TypeId}{d:TypeDesc}(ht:P.underlying t=some d)(hd:(∃ k,d= .int k)\/d= .string\/d= .bool)(n:Nat)(b:Bool)(v:Value)(w:World):(Instr.checkKey b (n+1) t v).run P w= .ok () w:=by
 rw [Instr.checkKey]
 simp only [Sem.run_bind,run_underlying ht,Result.andThen_ok]
 rcases hd with⟨k,rfl⟩|rfl|rfl<;>simp [Sem.run_pure]
inductive CKey (P:Program)(xs:List Value):List (Nat×TypeId)->Prop
 |nil:CKey P xs []
 |cons {o:Nat} {t:TypeId} {l:List (Nat×TypeId)} {d:TypeDesc} {v:Value} (ht:P.underlying t=some d) (hd:(∃ k,d= .int k)\/d= .string\/d= .bool) (hti:TI P t 1 false) (hx:xs[o]? =some v) (h:CKey P xs l):CKey P xs ((o,t)::l)
theorem run_checkKey_struct {t : TypeId} {l : List (Nat × TypeId)} (hu : P.underlying t = some (.struct (P.fieldsOf t))) (hl : (P.fieldsOf t).toList.map (fun f => (f.name == "_", f.offset, f.type)) = l.map (fun p => (false, p.1, p.2))) {xs : List Value} (h : CKey P xs l) (n : Nat) (b : Bool) (w : World) :
   (Instr.checkKey b (n+2) t (.agg xs.toArray)).run P w= .ok () w:=by
 rw [Instr.checkKey]
 simp only [Sem.run_bind,run_underlying hu,Result.andThen_ok]
 generalize P.fieldsOf t=fs at hl
 obtain⟨fs⟩:=fs
 simp only at hl
 rw [List.forIn_toArray]
 induction h generalizing fs with
 | nil=>
   have:fs= []:=by simpa using hl
   subst this
   simp [Sem.run_pure]
 | @cons o ty l d v ht hd hti hx h ih=>
   cases fs with
   |nil=>simp at hl
   | cons f fs=>
     simp only [List.map_cons,List.cons.injEq,Prod.mk.injEq]at hl
     obtain⟨⟨h1,h2,h3⟩,hf⟩:=hl
     have h1' : f.name ≠ "_" := by simpa using h1
     rw [List.forIn_cons]
     simp only [h1',ne_eq,not_false_eq_true,if_true,Sem.run_bind,h2,h3,run_part1 hti hx,Result.andThen_ok,run_checkKey_plain ht hd,Sem.run_pure]
     exact ih fs hf
theorem KeyT.struct {kt : TypeId} {U : Type} [DecidableEq U] {vs : U → List Value} {l : List (Nat × TypeId)} (hu : P.underlying kt = some (.struct (P.fieldsOf kt))) (hp : P.stoodInHeld kt = false) (hl : (P.fieldsOf kt).toList.map (fun f => (f.name == "_", f.offset, f.type)) = l.map (fun p => (false, p.1, p.2)))
   (hs:∀ a b:U,∃ r,SEq P (vs a) (vs b) l r/\(r=true↔a=b)) (hc:∀ a:U,CKey P (vs a) l) (hb:∀ k:U,Instr.sameBits 10000 (.agg (vs k).toArray) (.agg (vs k).toArray)=true):KeyT P kt (fun u=> .agg (vs u).toArray):=
 KeyT.asking hu (fun _ _=>rfl) (fun w a b=>by
   obtain⟨r,h1,h2⟩:=hs a b
   have e:decide (a=b)=r:=by
     by_cases hab:a=b
     · rw [decide_eq_true hab,h2.2 hab]
     · rw [decide_eq_false hab]
       cases r with
       |true=>exact absurd (h2.1 rfl) hab
       |false=>rfl
   rw [e]
   show(Op.equalIn 10000 kt _ _).run P w=_
   rw [run_equalIn_struct w 9999 kt _ _ hu hp]; exact h1.run 9998 w _ hl) (fun w b k=>run_checkKey_struct hu hl (hc k) 9998 b w) hb
theorem plain_agg {U:Type}{kd:U->D}{vs:U->List Value}(h:∀ u,kd u= .agg ((vs u).map D.v)):PlainK kd (fun u=> .agg (vs u).toArray):=fun w X u=>by
 have key:∀ l:List Value,VL w X (l.map D.v) l/\∀ l',VL w X (l.map D.v) l'->l'=l:=by
   intro l
   induction l with
   |nil=>exact⟨.nil,fun l' h=>by cases h; rfl⟩
   |cons x l ih=>exact⟨.cons (.v x) ih.1,fun l' h=>by
       cases h with
       |cons h1 h2=>cases h1; rw [ih.2 _ h2]⟩
 rw [h u]
 refine⟨.agg (key _).1,fun v hv=>?_⟩
 cases hv with
 |agg h1=>rw [(key _).2 _ h1]
theorem plain_u :PlainK encU vU:=plain_agg (vs:=fun _:Unit=> []) (fun _=>rfl)
theorem plain_v {U:Type}(f:U->Value):PlainK (fun u=>D.v (f u)) f:=fun w X u=>⟨.v _,fun v hv=>by cases hv; rfl⟩
end
end Go.Lic
set_option linter.all false
namespace Go.Lic
open Go.Sort
def zbp (x y:Clone):Int:=orF [cmpI x.a y.a,cmpI x.atA y.atA,cmpI x.b y.b,cmpI x.atB y.atB]
def rightL (l:List Text):Bool:=decide (l.length<=64)&&decide (checkT none l=0)
def sameW (a:Text)(i:Int)(b:Text)(j:Int):Bool:=decide (0<=i)&&decide (0<=j)&&decide (i<(a.words.length:Int))&&decide (j<(b.words.length:Int))&&decide ((gi a.words i).text=(gi b.words j).text)
def toN (A B:List Lexeme)(i j:Nat):Nat:=zba (A.drop i) (B.drop j)
def backN (A B:List Lexeme)(i j:Nat):Nat:=zba (A.take i).reverse (B.take j).reverse
def lenC (a:Text)(i:Int)(b:Text)(j:Int):Int:=if sameW a (i-1) b (j-1)then 0 else(toN a.words b.words i.toNat j.toNat:Nat)
def pairF (l:List Text)(a at_ b n:Int):List Clone:=
 ((List.range (gi l b).words.length).filter fun j=>(decide (a≠b)||decide (at_<(j:Nat)))&&decide (n<=lenC (gi l a) at_ (gi l b) (j:Nat))).map fun j=>⟨a,at_,b,((j:Nat):Int),lenC (gi l a) at_ (gi l b) (j:Nat)⟩
def okB (only:Int)(a b:Nat):Bool:=decide (a<=b)&&(decide (only<0)||(decide ((b:Int)=only)&&decide ((a:Int)≠only)))
def refL (l:List Text)(n only:Int):List Clone:=
 (List.range l.length).flatMap fun a=>(List.range (gi l (a:Nat)).words.length).flatMap fun i=>((List.range l.length).filter (okB only a)).flatMap fun b=>pairF l (a:Nat) (i:Nat) (b:Nat) n
def zbx (l:List Text)(k w only:Int):List Clone×Int:=if 1024<(refL l (k+w-1) only).length then([],10)else(refL l (k+w-1) only,0)
def findC (l:List Text)(k w:Int):List Clone×Int:=if rightL l then if zbs k&&zbs w then zbx l k w (-1)else([],3)else([],1)
def zaw (c:Corpus)(t:Text):List Clone×Int:=if checkF c=0/\zbi t=true then zbx (c.texts++ [t]) c.k c.w c.texts.length else([],1)
abbrev CSt :=List (CloneDiagonal×Int)×List (Clone×Unit)
abbrev CPr :=ClonePlace×ClonePlace
def diagP (p:CPr):CloneDiagonal:=⟨p.1.text,p.2.text,p.2.at_-p.1.at_⟩
def toP (texts:List Text)(p:CPr):Nat:=toN (gi texts p.1.text).words (gi texts p.2.text).words p.1.at_.toNat p.2.at_.toNat
def backP (texts:List Text)(p:CPr):Nat:=backN (gi texts p.1.text).words (gi texts p.2.text).words p.1.at_.toNat p.2.at_.toNat
def cloneP (texts:List Text)(p:CPr):Clone:=⟨p.1.text,p.1.at_-backP texts p,p.2.text,p.2.at_-backP texts p,(backP texts p:Int)+toP texts p⟩
def lookF (texts:List Text)(least:Int)(seen:List (CloneDiagonal×Int))(found:List (Clone×Unit))(x y:ClonePlace):CSt:=
 if kget 0 seen (diagP (x,y))>x.at_ then(seen,found)else
 (kset seen (diagP (x,y)) (x.at_+((max (toP texts (x,y)) 1:Nat):Int)),if least<=(backP texts (x,y):Int)+toP texts (x,y)/\0<toP texts (x,y)then kset found (cloneP texts (x,y)) ()else found)
def skipF (only:Int)(x y:ClonePlace):Bool:=decide (y=x)||decide (y.text<x.text)||(decide (y.text=x.text)&&decide (y.at_<x.at_))||(decide (0<=only)&&(decide (y.text≠only)||decide (x.text=only)))
def stepF (texts:List Text)(least only:Int)(s:CSt)(p:CPr):Option CSt:=
 if skipF only p.1 p.2 then some s else if 1024<(lookF texts least s.1 s.2 p.1 p.2).2.length then none else some (lookF texts least s.1 s.2 p.1 p.2)
def scanF (texts:List Text)(least only:Int):List CPr->CSt->Option CSt
 | [],s=>some s
 |p::l,s=>(stepF texts least only s p).bind (scanF texts least only l)
def plOf (p:Pst):ClonePlace:=⟨p.text,p.at_⟩
def putP (m:List (Int×List ClonePlace))(p:Pst):List (Int×List ClonePlace):=mset m p.hash (mget [] m p.hash++ [plOf p])
def placesF (l:List Pst):List (Int×List ClonePlace):=l.foldl putP []
def pairsX (all:List Pst)(x:Pst):List CPr:=(mget [] (placesF all) x.hash).map fun y=>(plOf x,y)
def pairsF (all:List Pst):List CPr:=all.flatMap (pairsX all)
structure OkP (texts:List Text)(p:CPr):Prop where
 a:inL p.1.text texts.length
 b:inL p.2.text texts.length
 x0:0<=p.1.at_
 x1:p.1.at_<=(gi texts p.1.text).words.length
 y0:0<=p.2.at_
 y1:p.2.at_<=(gi texts p.2.text).words.length
end Go.Lic
set_option linter.all false
namespace Go.Lic
open Go.Proofs Go.Sort
def IsL (l:List Int)(a b p:Int):Prop:=a<=p/\p<b/\(∀ q,a<=q->q<p->gi l p<=gi l q)/\(∀ q,p<q->q<b->gi l p<gi l q)
theorem isL_unique {l:List Int}{a b p q:Int}(h:IsL l a b p)(k:IsL l a b q):p=q:=by
 obtain⟨h1,h2,h3,h4⟩:=h
 obtain⟨k1,k2,k3,k4⟩:=k
 rcases Int.lt_trichotomy p q with h|h|h
 · have:=h4 q h k2; have:=k3 p h1 h; omega
 · exact h
 · have:=k4 p h h2; have:=h3 q k1 h; omega
theorem isL_snoc {l:List Int}{a b p:Int}(h:IsL l a b p):IsL l a (b+1) (if gi l b<=gi l p then b else p):=by
 obtain⟨h1,h2,h3,h4⟩:=h
 split
 · next hle=>
   refine⟨by omega,by omega,fun q hq hq2=>?_,fun q hq hq2=>by omega⟩
   rcases Int.lt_trichotomy q p with h|h|h
   · have:=h3 q hq h; omega
   · rw [h]; exact hle
   · have:=h4 q h hq2; omega
 · next hn=>
   refine⟨h1,by omega,h3,fun q hq hq2=>?_⟩
   by_cases e:q=b
   · rw [e]; omega
   · exact h4 q hq (by omega)
theorem leastF_isL (l:List Int)(a:Int):∀ n:Nat,0<n->IsL l a (a+n) (leastF l a (a+n))
 |0,h=>by omega
 | 1,_=>by
   have:leastF l a (a+(1:Nat))=a:=by
     unfold leastF
     rw [show(a+((1:Nat):Int)-a).toNat=1 from by omega]
     simp [List.range_succ]
   rw [this]
   exact⟨by omega,by omega,fun q _ _=>by omega,fun q _ _=>by omega⟩
 | n +2,_=>by
   have ih:=isL_snoc (leastF_isL l a (n+1) (by omega))
   have e:leastF l a (a+((n+2:Nat):Int))=if gi l (a+((n+1:Nat):Int))<=gi l (leastF l a (a+((n+1:Nat):Int)))then a+((n+1:Nat):Int)else leastF l a (a+((n+1:Nat):Int)):=by
     unfold leastF
     rw [show(a+((n+2:Nat):Int)-a).toNat=(n+1)+1 from by omega,show(a+((n+1:Nat):Int)-a).toNat=n+1 from by omega,List.range_succ (n:=n+1),List.foldl_append]
     rfl
   rw [e,show a+((n+2:Nat):Int)=a+((n+1:Nat):Int)+1 from by omega]
   exact ih
theorem leastF_spec {l:List Int}{a b:Int}(h:a<b):IsL l a b (leastF l a b):=by
 have:=leastF_isL l a (b-a).toNat (by omega)
 rwa [show a+(((b-a).toNat:Nat):Int)=b from by omega]at this
theorem isL_mono {l:List Int}{a b p q:Int}(h:IsL l a b p)(k:IsL l (a+1) (b+1) q):p<=q:=by
 obtain⟨h1,h2,h3,h4⟩:=h
 obtain⟨k1,k2,k3,k4⟩:=k
 by_cases hlt:q<p
 · have:=h3 q (by omega) hlt; have:=k4 p hlt (by omega); omega
 · omega
def selN (l:List Int)(w n:Nat):List Int:=((List.range n).map fun i:Nat=>leastF l i ((i:Int)+w)).foldl selStep []
theorem selL_eq (l:List Int)(w:Nat):selL l w=selN l w (l.length+1-w):=rfl
theorem selN_succ (l:List Int)(w n:Nat):selN l w (n+1)=selStep (selN l w n) (leastF l n ((n:Int)+w)):=by
 unfold selN; rw [List.range_succ,List.map_append,List.foldl_append]; rfl
theorem selStep_app (o:List Int)(t n:Int):selStep (o++ [t]) n=if t<n then o++ [t]++ [n]else o++ [t]:=by
 unfold selStep
 rw [gi_last]
 have:0<(o++ [t]).length:=by simp
 by_cases h:t<n
 · rw [if_neg (by omega),if_pos h]
 · rw [if_pos ⟨this,h⟩,if_neg h]
theorem selN_facts (l:List Int){w:Nat}(hw:0<w):∀ n,(selN l w n).Pairwise (· < ·)/\(0<n->∃ o,selN l w n=o++ [leastF l ((n:Int)-1) ((n:Int)-1+w)])/\(∀ p∈selN l w n,∃ i:Nat,i<n/\p=leastF l i ((i:Int)+w))/\(∀ i:Nat,i<n->leastF l i ((i:Int)+w)∈selN l w n)
 |0=>⟨.nil,by omega,(fun p hp=>by cases hp),by omega⟩
 | n + 1 =>by
   obtain⟨h1,h2,h3,h4⟩:=selN_facts l hw n
   have e0:((n+1:Nat):Int)-1=n:=by omega
   rw [selN_succ,e0]
   rcases Nat.eq_zero_or_pos n with hn|hn
   · subst hn
     have:selN l w 0= []:=rfl
     rw [this]
     have e:selStep [] (leastF l ((0:Nat):Int) (((0:Nat):Int)+w))= [leastF l ((0:Nat):Int) (((0:Nat):Int)+w)]:=by simp [selStep]
     rw [e]
     refine⟨List.pairwise_singleton _ _,fun _=>⟨[],rfl⟩,fun p hp=>⟨0,by omega,List.mem_singleton.1 hp⟩,fun i hi=>?_⟩
     obtain rfl:i=0:=by omega
     exact List.mem_singleton.2 rfl
   · obtain⟨o,ho⟩:=h2 hn
     have hm:leastF l ((n:Int)-1) ((n:Int)-1+w)<=leastF l n ((n:Int)+w):=by
       refine isL_mono (leastF_spec (l:=l) (a:=(n:Int)-1) (b:=(n:Int)-1+w) (by omega)) ?_
       have:=leastF_spec (l:=l) (a:=(n:Int)) (b:=(n:Int)+w) (by omega)
       rwa [show(n:Int)-1+1=n from by omega,show(n:Int)-1+w+1=n+w from by omega]
     rw [ho]at h1 h3 h4 ⊢
     rw [selStep_app]
     split
     · next hlt=>
       refine⟨?_,fun _=>⟨_,rfl⟩,fun p hp=>?_,fun i hi=>?_⟩
       · rw [List.pairwise_append]
         refine⟨h1,List.pairwise_singleton _ _,fun p hp q hq=>?_⟩
         rw [List.mem_singleton.1 hq]
         rw [List.pairwise_append]at h1
         rcases List.mem_append.1 hp with hp|hp
         · have:=h1.2.2 p hp _ (List.mem_singleton.2 rfl); omega
         · rw [List.mem_singleton.1 hp]; exact hlt
       · rcases List.mem_append.1 hp with hp|hp
         · obtain⟨i,hi,e⟩:=h3 p hp; exact⟨i,by omega,e⟩
         · exact⟨n,by omega,List.mem_singleton.1 hp⟩
       · by_cases e:i=n
         · subst e; exact List.mem_append_right _ (List.mem_singleton.2 rfl)
         · exact List.mem_append_left _ (h4 i (by omega))
     · next hn2=>
       have e:leastF l ((n:Int)-1) ((n:Int)-1+w)=leastF l n ((n:Int)+w):=by omega
       refine⟨h1,fun _=>⟨o,by rw [e]⟩,fun p hp=>?_,fun i hi=>?_⟩
       · obtain⟨i,hi,e⟩:=h3 p hp; exact⟨i,by omega,e⟩
       · by_cases e2:i=n
         · subst e2; exact List.mem_append_right _ (List.mem_singleton.2 e.symm)
         · exact h4 i (by omega)
theorem selL_sorted (l:List Int){w:Nat}(hw:0<w):(selL l w).Pairwise (· < ·):=by rw [selL_eq]; exact(selN_facts l hw _).1
theorem selL_mem {l:List Int}{w:Nat}(hw:0<w){p:Int}:p∈selL l w↔∃ i:Nat,i+w<=l.length/\IsL l i ((i:Int)+w) p:=by
 rw [selL_eq]
 obtain⟨_,_,h3,h4⟩:=selN_facts l hw (l.length+1-w)
 constructor
 · intro h
   obtain⟨i,hi,e⟩:=h3 p h
   exact⟨i,by omega,e▸leastF_spec (by omega)⟩
 · rintro⟨i,hi,h⟩
   have:=h4 i (by omega)
   rwa [isL_unique (leastF_spec (by omega)) h]at this
theorem selL_bd {l:List Int}{w:Nat}(hw:0<w){p:Int}(h:p∈selL l w):inL p l.length:=by
 obtain⟨i,hi,h1,h2,_⟩:=(selL_mem hw).1 h
 exact⟨by omega,by omega⟩
theorem selStep_len (o:List Int)(n:Int):(selStep o n).length<=o.length+1:=by unfold selStep; split<;>simp
theorem selN_len (l:List Int)(w n:Nat):(selN l w n).length<=n:=by
 have:=foldl_len (f:=selStep) selStep_len ((List.range n).map fun i:Nat=>leastF l i ((i:Int)+w)) []
 simpa [selN]using this
structure Deq (l:List Int)(lo i:Int)(L:List Int):Prop where
 asc:L.Pairwise (fun p q=>p<q/\gi l p<gi l q)
 inn:∀ p∈L,lo<=p/\p<i
 dom:∀ p,lo<=p->p<i->∃ s∈L,p<=s/\gi l s<=gi l p
theorem Deq.head {l:List Int}{lo i h:Int}{L:List Int}(d:Deq l lo i (h::L)):IsL l lo i h:=by
 obtain⟨h1,h2⟩:=d.inn h (by simp)
 have ha:=List.pairwise_cons.1 d.asc
 refine⟨h1,h2,fun q hq hq2=>?_,fun q hq hq2=>?_⟩
 · obtain⟨s,hs,hs1,hs2⟩:=d.dom q hq (by omega)
   rcases List.mem_cons.1 hs with rfl|hs
   · exact hs2
   · have:=(ha.1 s hs).2; omega
 · obtain⟨s,hs,hs1,hs2⟩:=d.dom q (by omega) hq2
   rcases List.mem_cons.1 hs with rfl|hs
   · omega
   · have:=(ha.1 s hs).2; omega
structure DeqP (l:List Int)(lo i:Int)(L:List Int):Prop where
 asc:L.Pairwise (fun p q=>p<q/\gi l p<gi l q)
 inn:∀ p∈L,lo<=p/\p<i
 dom:∀ p,lo<=p->p<i->(∃ s∈L,p<=s/\gi l s<=gi l p)\/gi l i<=gi l p
theorem Deq.start {l:List Int}{lo i:Int}{L:List Int}(d:Deq l lo i L):DeqP l lo i L:=⟨d.asc,d.inn,fun p h1 h2=> .inl (d.dom p h1 h2)⟩
theorem DeqP.pop {l:List Int}{lo i t:Int}{o:List Int}(d:DeqP l lo i (o++ [t]))(h:gi l i<=gi l t):DeqP l lo i o:=by
 refine⟨(List.pairwise_append.1 d.asc).1,fun p hp=>d.inn p (List.mem_append_left _ hp),fun p h1 h2=>?_⟩
 rcases d.dom p h1 h2 with⟨s,hs,hs1,hs2⟩|h3
 · rcases List.mem_append.1 hs with hs|hs
   · exact .inl ⟨s,hs,hs1,hs2⟩
   · rw [List.mem_singleton.1 hs]at hs2; exact .inr (by omega)
 · exact .inr h3
theorem DeqP.push {l:List Int}{lo i:Int}{L:List Int}(d:DeqP l lo i L)(hlo:lo<=i)(h:∀ o t,L=o++ [t]->gi l t<gi l i):Deq l lo (i+1) (L++ [i]):=by
 have hall:∀ p∈L,gi l p<gi l i:=by
   rcases list_last L with rfl|⟨o,t,rfl⟩
   · intro p hp; cases hp
   · intro p hp
     have ht:=h o t rfl
     rcases List.mem_append.1 hp with hp|hp
     · have:=((List.pairwise_append.1 d.asc).2.2 p hp t (by simp)).2; omega
     · rw [List.mem_singleton.1 hp]; exact ht
 refine⟨?_,fun p hp=>?_,fun p h1 h2=>?_⟩
 · rw [List.pairwise_append]
   exact⟨d.asc,List.pairwise_singleton _ _,fun p hp q hq=>by rw [List.mem_singleton.1 hq]; exact⟨(d.inn p hp).2,hall p hp⟩⟩
 · rcases List.mem_append.1 hp with hp|hp
   · have:=d.inn p hp; omega
   · rw [List.mem_singleton.1 hp]; omega
 · by_cases e:p=i
   · exact⟨i,by simp,by omega,by rw [e]; exact Int.le_refl _⟩
   · rcases d.dom p h1 (by omega)with⟨s,hs,hs1,hs2⟩|h3
     · exact⟨s,List.mem_append_left _ hs,hs1,hs2⟩
     · exact⟨i,by simp,by omega,h3⟩
theorem Deq.shift {l:List Int}{lo i h:Int}{L:List Int}(d:Deq l lo i (h::L)):Deq l (lo+1) i (if h<=lo then L else h::L):=by
 obtain⟨h1,h2⟩:=d.inn h (by simp)
 have ha:=List.pairwise_cons.1 d.asc
 split
 · next hle=>
   refine⟨ha.2,fun p hp=>?_,fun p hp1 hp2=>?_⟩
   · have:=(ha.1 p hp).1; have:=d.inn p (List.mem_cons_of_mem _ hp); omega
   · obtain⟨s,hs,hs1,hs2⟩:=d.dom p (by omega) hp2
     rcases List.mem_cons.1 hs with rfl|hs
     · omega
     · exact⟨s,hs,hs1,hs2⟩
 · next hn=>
   refine⟨d.asc,fun p hp=>?_,fun p hp1 hp2=>d.dom p (by omega) hp2⟩
   rcases List.mem_cons.1 hp with rfl|hp
   · omega
   · have:=(ha.1 p hp).1; have:=d.inn p (List.mem_cons_of_mem _ hp); omega
end Go.Lic
namespace Go.Lic
open Go.Proofs Go.Sort
theorem mod_bd (a:Int):0<=a % PR/\a % PR<PR:=⟨Int.emod_nonneg _ (by decide),Int.emod_lt_of_pos _ (by decide)⟩
theorem addP_bd (a b:Int):0<=addP a b/\addP a b<PR:=mod_bd _
theorem mulP_bd (a b:Int):0<=mulP a b/\mulP a b<PR:=mod_bd _
theorem mm (a:Int):a % PR % PR=a % PR:=Int.emod_emod_of_dvd _ (Int.dvd_refl _)
theorem add_l (a b:Int):(a % PR+b) % PR=(a+b) % PR:=by rw [Int.add_emod,mm,<-Int.add_emod]
theorem add_r (a b:Int):(a+b % PR) % PR=(a+b) % PR:=by rw [Int.add_emod,mm,<-Int.add_emod]
theorem mul_l (a b:Int):(a % PR*b) % PR=(a*b) % PR:=by rw [Int.mul_emod,mm,<-Int.mul_emod]
theorem mul_r (a b:Int):(a*(b % PR)) % PR=(a*b) % PR:=by rw [Int.mul_emod,mm,<-Int.mul_emod]
theorem addP_small {a b:Int}(h:0<=a/\a<=PR)(h2:0<=b/\b<=PR):addP a b=if a+b>=PR then(if a+b-PR>=PR then a+b-PR-PR else a+b-PR)else a+b:=by
 unfold addP; simp only [PR]at *; split<;>(try split)<;>omega
theorem mod_small {a:Int}(h:0<=a/\a<PR):a % PR=a:=Int.emod_eq_of_lt h.1 h.2
theorem fold61 (x:Int)(hx:0<=x):(x % 2305843009213693952+x / 2305843009213693952) % PR=x % PR:=by simp only [PR]; omega
def wnum (w:Lexeme):Int:=codeF w.text+1
def bigH (l:List Lexeme):Int:=l.foldl (fun h w=>h*1000003+wnum w) 0
theorem bigH_from (l:List Lexeme):∀ h:Int,l.foldl (fun h w=>h*1000003+wnum w) h=h*1000003 ^ l.length+bigH l:=by
 induction l with
 |nil=>intro h; simp [bigH]
 | cons w l ih=>
   intro h
   have e:bigH (w::l)=(0*1000003+wnum w)*1000003 ^ l.length+bigH l:=by
     show List.foldl _ _ _=_
     rw [List.foldl_cons,ih]
   rw [List.foldl_cons,ih,e,List.length_cons,Int.pow_succ]
   simp only [Int.add_mul,Int.zero_mul,Int.zero_add]
   rw [Int.mul_assoc h,Int.mul_comm (1000003 ^ l.length) 1000003,Int.add_assoc]
theorem bigH_cons (w:Lexeme)(l:List Lexeme):bigH (w::l)=wnum w*1000003 ^ l.length+bigH l:=by
 show List.foldl _ _ _=_
 rw [List.foldl_cons,bigH_from]; simp
theorem bigH_snoc (l:List Lexeme)(w:Lexeme):bigH (l++ [w])=bigH l*1000003+wnum w:=by
 unfold bigH; rw [List.foldl_append]; rfl
theorem pushF_mod (h:Int)(w:Lexeme):pushF (h % PR) w.text=(h*1000003+wnum w) % PR:=by
 unfold pushF addP mulP wnum
 rw [mul_r,add_l,add_r,Int.mul_comm]
theorem pushF_bd (h:Int)(s:ByteArray):0<=pushF h s/\pushF h s<PR:=mod_bd _
theorem hashF_from (l:List Lexeme):∀ h:Int,l.foldl (fun h w=>pushF h w.text) (h % PR)=(l.foldl (fun h w=>h*1000003+wnum w) h) % PR:=by
 induction l with
 |nil=>intro h; rfl
 |cons w l ih=>intro h; rw [List.foldl_cons,List.foldl_cons,pushF_mod,ih]
theorem hashF_eq (l:List Lexeme):hashF l=bigH l % PR:=by
 have:=hashF_from l 0
 simpa [hashF,bigH]using this
theorem hashF_bd (l:List Lexeme):0<=hashF l/\hashF l<PR:=by rw [hashF_eq]; exact mod_bd _
theorem codeF_from (s:List Int):∀ c:Int,0<=c/\c<PR->0<=s.foldl (fun c b=>addP (mulP 257 c) (b+1)) c/\s.foldl (fun c b=>addP (mulP 257 c) (b+1)) c<PR:=by
 induction s with
 |nil=>intro c h; exact h
 |cons b s ih=>intro c _; rw [List.foldl_cons]; exact ih _ (addP_bd _ _)
theorem codeF_bd (s:ByteArray):0<=codeF s/\codeF s<PR:=codeF_from _ 0 ⟨by decide,by decide⟩
theorem roll_eq (x:Lexeme)(l:List Lexeme)(y:Lexeme):rollF (hashF (x::l)) x.text y.text (powF l.length)=hashF (l++ [y]):=by
 unfold rollF
 have e:addP (hashF (x::l)) (PR-mulP (addP (codeF x.text) 1) (powF l.length))=(bigH l) % PR:=by
   unfold addP mulP powF
   rw [hashF_eq,bigH_cons,mul_l,mul_r,add_l]
   have e1:(codeF x.text+1)=wnum x:=rfl
   rw [e1,Int.toNat_natCast]
   generalize wnum x*1000003 ^ l.length=a
   generalize bigH l=b
   rw [show a+b+(PR-a % PR)=b+(a+(PR-a % PR))from by omega,Int.add_emod,show(a+(PR-a % PR)) % PR=0 from by simp only [PR]; omega,Int.add_zero,mm]
 rw [e,pushF_mod,<-bigH_snoc,<-hashF_eq]
theorem grams_len (l:List Lexeme)(k:Nat):(gramsL l k).length=l.length+1-k:=by simp [gramsL]
end Go.Lic
set_option linter.all false
namespace Go.Lic
open Go.Proofs Go.Sort
structure Tot {T:Type}(lt:T->T->Prop):Prop where
 irrefl:∀ a,¬lt a a
 trans:∀ a b c,lt a b->lt b c->lt a c
 tri:∀ a b,lt a b\/a=b\/lt b a
section
variable {T:Type}{lt:T->T->Prop}
theorem Tot.ntrans (h:Tot lt){a b c:T}(h1:¬lt a b)(h2:¬lt b c):¬lt a c:=by
 intro h3
 rcases h.tri a b with h4|rfl|h4
 · exact h1 h4
 · exact h2 h3
 · exact h2 (h.trans _ _ _ h4 h3)
theorem Tot.swo (h:Tot lt){cf:T->T->Int}(he:∀ a b,cf a b<0↔lt a b):SWO (ltOf cf):=by
 have h1:∀ a b,ltOf cf a b=true↔lt a b:=fun a b=>by unfold ltOf; rw [decide_eq_true_eq]; exact he a b
 have h2:∀ a b,ltOf cf a b=false↔¬lt a b:=fun a b=>by rw [<- h1]; simp
 exact {irrefl:=fun a=>(h2 _ _).2 (h.irrefl a),trans:=fun a b c k1 k2=>(h1 _ _).2 (h.trans _ _ _ ((h1 _ _).1 k1) ((h1 _ _).1 k2)),ntrans:=fun a b c k1 k2=>(h2 _ _).2 (h.ntrans ((h2 _ _).1 k1) ((h2 _ _).1 k2))}
end
abbrev PoLt (a b:Pst):Prop:=postLt a b=true
theorem poLt_iff (a b:Pst):PoLt a b↔a.hash<b.hash\/(a.hash=b.hash/\(a.text<b.text\/(a.text=b.text/\a.at_<b.at_))):=by
 unfold PoLt postLt; simp
theorem post_tot :Tot PoLt where
 irrefl a:=by rw [poLt_iff]; omega
 trans a b c:=by rw [poLt_iff,poLt_iff,poLt_iff]; omega
 tri a b:=by
   rw [poLt_iff,poLt_iff]
   obtain⟨a1,a2,a3⟩:=a; obtain⟨b1,b2,b3⟩:=b
   simp only [Pst.mk.injEq]
   omega
theorem orF3 (x y z:Int):orF [x,y,z]=if x≠0 then x else if y≠0 then y else z:=by
 unfold orF
 by_cases h1:x=0
 · by_cases h2:y=0
   · by_cases h3:z=0<;>simp [h1,h2,h3]
   · simp [h1,h2]
 · simp [h1]
theorem cmpI_neg (a b:Int):cmpI a b<0↔a<b:=by unfold cmpI; split<;>(try split)<;>omega
theorem cmpI_zero (a b:Int):cmpI a b=0↔a=b:=by unfold cmpI; split<;>(try split)<;>omega
theorem postCmp_neg (a b:Pst):postCmp a b<0↔PoLt a b:=by
 rw [poLt_iff]
 unfold postCmp
 rw [orF3]
 have h1:=cmpI_neg a.hash b.hash; have h2:=cmpI_zero a.hash b.hash
 have h3:=cmpI_neg a.text b.text; have h4:=cmpI_zero a.text b.text
 have h5:=cmpI_neg a.at_ b.at_
 generalize cmpI a.hash b.hash=x at*
 generalize cmpI a.text b.text=y at*
 generalize cmpI a.at_ b.at_=z at*
 split
 · omega
 · split<;>omega
theorem zam :SWO (ltOf postCmp):=post_tot.swo postCmp_neg
theorem posts_perm (l:List Text)(k w:Int):(postsF l k w).Perm (flatP 0 l k w):=sortF_perm zam _
abbrev TLt (a b:Text):Prop:=sless a.path b.path=true
theorem checkT_iff :∀(l:List Text) (p:Option ByteArray),checkT p l=0↔(∀ t∈l,zbi t=true)/\l.Pairwise TLt/\(∀ q t,p=some q->l.head? =some t->sless q t.path=true)
 | [],p=>by simp [checkT]
 | t :: l, p =>by
   unfold checkT
   by_cases hv:zbi t=true
   · rw [if_pos hv]
     by_cases hp:(p.all fun q=>sless q t.path)=true
     · rw [if_pos hp,checkT_iff l (some t.path)]
       constructor
       · rintro⟨h1,h2,h3⟩
         refine⟨fun u hu=>?_,List.pairwise_cons.2 ⟨fun u hu=>?_,h2⟩,fun q u hq hu=>?_⟩
         · rcases List.mem_cons.1 hu with rfl|hu
           · exact hv
           · exact h1 u hu
         · cases l with
           |nil=>cases hu
           | cons v l=>
             have hv2:=h3 _ v rfl rfl
             rcases List.mem_cons.1 hu with rfl|hu
             · exact hv2
             · exact sl_trans hv2 ((List.pairwise_cons.1 h2).1 u hu)
         · subst hq; simp at hu; subst hu; simpa using hp
       · rintro⟨h1,h2,h3⟩
         obtain⟨h4,h5⟩:=List.pairwise_cons.1 h2
         refine⟨fun u hu=>h1 u (List.mem_cons_of_mem _ hu),h5,fun q u hq hu=>?_⟩
         cases hq
         exact h4 u (by cases l with|nil=>cases hu|cons v l=>simp at hu; simp [hu])
     · rw [if_neg hp]
       refine⟨fun h=>absurd h (by decide),fun⟨_,_,h3⟩=>absurd ?_ hp⟩
       cases p with
       |none=>rfl
       |some q=>exact h3 q t rfl rfl
   · rw [if_neg hv]
     exact⟨fun h=>absurd h (by decide),fun⟨h1,_⟩=>absurd (h1 t (by simp)) hv⟩
theorem checkT_none (l:List Text):checkT none l=0↔(∀ t∈l,zbi t=true)/\l.Pairwise TLt:=by
 rw [checkT_iff]; simp
structure GoodC (c:Corpus):Prop where
 k:zbs c.k=true
 w:zbs c.w=true
 few:c.texts.length<=64
 val:∀ t∈c.texts,zbi t=true
 ord:c.texts.Pairwise TLt
 posts:c.posts=postsF c.texts c.k c.w
theorem checkF_iff (c:Corpus):checkF c=0↔GoodC c:=by
 unfold checkF
 by_cases h1:(zbs c.k&&zbs c.w)=true
 · rw [if_pos h1]
   rw [Bool.and_eq_true]at h1
   by_cases h2:64<c.texts.length
   · rw [if_pos h2]; exact⟨fun h=>absurd h (by decide),fun h=>absurd h.few (by omega)⟩
   · rw [if_neg h2]
     by_cases h3:checkT none c.texts=0
     · rw [if_pos h3]
       obtain⟨h4,h5⟩:=(checkT_none _).1 h3
       by_cases h6:c.posts=postsF c.texts c.k c.w
       · rw [if_pos h6]; exact⟨fun _=>⟨h1.1,h1.2,by omega,h4,h5,h6⟩,fun _=>rfl⟩
       · rw [if_neg h6]; exact⟨fun h=>absurd h (by decide),fun h=>absurd h.posts h6⟩
     · rw [if_neg h3]
       exact⟨fun h=>absurd h h3,fun h=>absurd ((checkT_none _).2 ⟨h.val,h.ord⟩) h3⟩
 · rw [if_neg h1]
   exact⟨fun h=>absurd h (by decide),fun h=>absurd (by rw [h.k,h.w]; rfl) h1⟩
end Go.Lic
set_option linter.all false
namespace Go.Lic
open Go.Proofs Go.Sort Go.Shelf
theorem idx_none {α:Type} [Inhabited α]{p:α->Bool}{l:List α}(h:∀ j:Int,0<=j->j<l.length->p (gi l j)=false):idxOf p l= -1:=by
 unfold idxOf
 have:l.findIdx? p=none:=by
   rw [List.findIdx?_eq_none_iff]
   intro x hx
   obtain⟨i,hi,rfl⟩:=List.getElem_of_mem hx
   have:=h i (by omega) (by omega)
   rwa [gi_nat hi]at this
 rw [this]
theorem idx_some {α:Type} [Inhabited α]{p:α->Bool}{l:List α}{x:Int}(hx:inL x l.length)(h1:p (gi l x)=true)(h2:∀ j:Int,0<=j->j<x->p (gi l j)=false):idxOf p l=x:=by
 unfold idxOf
 have:l.findIdx? p=some x.toNat:=by
   rw [List.findIdx?_eq_some_iff_getElem]
   refine⟨by omega,?_,fun j hj=>?_⟩
   · rwa [gi_lt hx]at h1
   · have:=h2 j (by omega) (by omega)
     rw [gi_nat (by omega)]at this
     simp [this]
 rw [this]
 simp only; omega
theorem idx_nn {α:Type}(p:α->Bool)(l:List α):(decide (idxOf p l>=0))=l.any p:=by
 unfold idxOf
 cases h:l.findIdx? p with
 | none=>
   rw [List.findIdx?_eq_none_iff]at h
   have:l.any p=false:=by rw [List.any_eq_false]; exact fun x hx=>by simp [h x hx]
   rw [this]; rfl
 | some i=>
   have:l.any p=true:=by
     rw [List.findIdx?_eq_some_iff_getElem]at h
     obtain⟨hi,h1,_⟩:=h
     exact List.any_eq_true.2 ⟨_,List.getElem_mem hi,h1⟩
   rw [this]; simp
theorem ix_gen {α:Type} [Inhabited α](s:List α)(p:α->Bool)(pD:α->Prop)(Q:Int->Prop)(hp0:s.length<=9223372036854775807)(hp1:∀ x∈s,pD x)(h:Q (idxOf p s)):
   lfp (S:=Int) (fun again1 x=>((x<(s.length:Int)->(inL x s.length/\pD (gi s x)/\(((p (gi s x))=true->Q x)/\((p (gi s x))=false->(inI (x+1)/\again1 (x+1))))))/\(¬ x<(s.length:Int)->Q (-1)))) 0:=by
 refine lfp_of (fun x:Int=>0<=x/\x<=s.length/\∀ j:Int,0<=j->j<x->p (gi s j)=false) (fun x=>(s.length-x).toNat) (fun x hx again hag=>?_) ⟨by omega,by omega,fun j _ _=>by omega⟩
 obtain⟨h0,h1,h2⟩:=hx
 refine⟨fun hlt=>⟨by omega,hp1 _ (gi_mem (by omega)),fun hp=>?_,fun hp=>⟨by omega,hag _ ⟨by omega,by omega,fun j hj hj2=>?_⟩ (by omega)⟩⟩,fun hn=>?_⟩
 · rwa [idx_some (by omega) hp h2]at h
 · by_cases e:j=x
   · rw [e]; exact hp
   · exact h2 j hj (by omega)
 · rwa [idx_none (fun j hj hj2=>h2 j hj (by omega))]at h
theorem ixStr_ok (s_:(List ByteArray))(p:ByteArray->Bool)(pD:ByteArray->Prop)(Q:Int->Prop)(hp0:s_.length<=9223372036854775807)(hp1:∀ x∈s_,pD x)(h:Q ((idxOf p s_))):ixStr_vc s_ p pD Q:=ix_gen s_ p pD Q hp0 hp1 h
theorem cfStr_ok (s_:(List ByteArray))(p:ByteArray->Bool)(pD:ByteArray->Prop)(Q:Bool->Prop)(hp0:s_.length<=9223372036854775807)(hp1:∀ x∈s_,pD x)(h:Q (s_.any p)):cfStr_vc s_ p pD Q:=⟨hp0,hp1,by rw [idx_nn]; exact h⟩
theorem list_ext_gi {α:Type} [Inhabited α]{a b:List α}(hl:a.length=b.length)(h:∀ j:Int,0<=j->j<a.length->gi a j=gi b j):a=b:=by
 refine List.ext_getElem hl fun i h1 h2=>?_
 have:=h i (by omega) (by omega)
 rwa [gi_nat h1,gi_nat h2]at this
theorem eq_gen {α:Type} [Inhabited α] [DecidableEq α](e:α->α->Bool)(he:∀ a b,e a b=true↔a=b)(s1 s2:List α)(Q:Bool->Prop)(hp0:s1.length<=9223372036854775807)(h:Q (decide (s1=s2))):
   ((¬(s1.length:Int)=(s2.length:Int)->Q false)/\((s1.length:Int)=(s2.length:Int)->lfp (S:=Int) (fun again2 x=>((x<(s1.length:Int)->(inL x s1.length/\inL x s2.length/\(((e (gi s1 x) (gi s2 x))=false->Q false)/\((e (gi s1 x) (gi s2 x))=true->(inI (x+1)/\again2 (x+1))))))/\(¬ x<(s1.length:Int)->Q true))) 0)):=by
 refine⟨fun hn=>?_,fun hl=>?_⟩
 · rwa [decide_eq_false (fun e=>hn (by rw [e]))]at h
 · refine lfp_of (fun x:Int=>0<=x/\x<=s1.length/\∀ j:Int,0<=j->j<x->gi s1 j=gi s2 j) (fun x=>(s1.length-x).toNat) (fun x hx again hag=>?_) ⟨by omega,by omega,fun j _ _=>by omega⟩
   obtain⟨h0,h1,h2⟩:=hx
   refine⟨fun hlt=>⟨by omega,by omega,fun hp=>?_,fun hp=>⟨by omega,hag _ ⟨by omega,by omega,fun j hj hj2=>?_⟩ (by omega)⟩⟩,fun hn=>?_⟩
   · rwa [decide_eq_false (fun e2=>by rw [e2,(he _ _).2 rfl]at hp; cases hp)]at h
   · by_cases e2:j=x
     · rw [e2]; exact(he _ _).1 hp
     · exact h2 j hj (by omega)
   · rwa [decide_eq_true (list_ext_gi (by omega) (fun j hj hj2=>h2 j hj (by omega)))]at h
theorem split_none {c:UInt8}:∀ {l:List UInt8},(∀ x∈l,x≠c)->zcf c l= [l]
 | [],_=>rfl
 | b::l,h=>by
   have hb:b≠c:=h b (by simp)
   rw [zcf,if_neg hb,split_none (fun x hx=>h x (by simp [hx]))]
theorem split_at {c:UInt8}:∀ {p r:List UInt8},(∀ x∈p,x≠c)->zcf c (p++c::r)=p::zcf c r
 | [],r,_=>by rw [List.nil_append,zcf,if_pos rfl]
 | b::p,r,h=>by
   have hb:b≠c:=h b (by simp)
   rw [List.cons_append,zcf,if_neg hb,split_at (fun x hx=>h x (by simp [hx]))]
theorem split_ne {c:UInt8}:∀ l:List UInt8,zcf c l≠ []
 | []=>by simp [zcf]
 | b::l=>by
   rw [zcf]
   split
   · simp
   · split<;>simp
theorem split_len {c:UInt8}:∀ l:List UInt8,(zcf c l).length=l.count c+1
 | []=>rfl
 | b ::l=>by
   rw [zcf]
   have ih:=split_len (c:=c) l
   by_cases h:b=c
   · rw [if_pos h,h]; simp [ih]
   · rw [if_neg h,List.count_cons_of_ne h]
     cases hs:zcf c l with
     |nil=>exact absurd hs (split_ne l)
     |cons p r=>rw [hs]at ih; simpa using ih
theorem split_size {c:UInt8}:∀ l:List UInt8,∀ p∈zcf c l,p.length<=l.length
 | [],p,h=>by simp [zcf]at h; simp [h]
 | b ::l,p,h=>by
   rw [zcf]at h
   have ih:=split_size (c:=c) l
   split at h
   · rcases List.mem_cons.1 h with rfl|h
     · simp
     · have:=ih p h; simp; omega
   · cases hs:zcf c l with
     |nil=>exact absurd hs (split_ne l)
     | cons q r=>
       rw [hs]at h ih
       rcases List.mem_cons.1 h with rfl|h
       · have:=ih q (by simp); simp; omega
       · have:=ih p (by simp [h]); simp; omega
theorem count_split {c:UInt8}:∀ {l:List UInt8},0<l.count c->∃ p r,l=p++c::r/\(∀ x∈p,x≠c)/\Lib.indexByte l c=p.length
 | [],h=>by simp at h
 | b ::l,h=>by
   by_cases hb:b=c
   · subst hb
     exact⟨[],l,rfl,(fun x hx=>by cases hx),by simp [Lib.indexByte]⟩
   · rw [List.count_cons_of_ne hb]at h
     obtain⟨p,r,rfl,h1,h2⟩:=count_split h
     refine⟨b::p,r,rfl,fun x hx=>?_,?_⟩
     · rcases List.mem_cons.1 hx with rfl|hx
       · exact hb
       · exact h1 x hx
     · have h3:(b==c)=false:=by simpa using hb
       have h4:((p.length:Int)== -1)=false:=by rw [beq_eq_false_iff_ne]; omega
       rw [Lib.indexByte,h3,h2,h4]
       simp
def ba (l:List UInt8):ByteArray:=⟨l.toArray⟩
@[simp] theorem ba_list (l:List UInt8):(ba l).data.toList=l:=rfl
theorem ba_of (s:ByteArray):ba s.data.toList=s:=rfl
theorem ba_size (l:List UInt8):(ba l).size=l.length:=by simp [ba,ByteArray.size]
theorem size_list (s:ByteArray):s.size=s.data.toList.length:=rfl
theorem ssub_ba (l:List UInt8)(lo hi:Int):ssub (ba l) lo hi=ba ((l.take hi.toNat).drop lo.toNat):=by
 apply ba_eq
 unfold ssub
 rw [ByteArray.data_extract]
 simp [ba,List.drop_take]
theorem sgi_ba (l:List UInt8)(i:Nat)(h:i<l.length):sgi (ba l) (i:Int)=(l[i].toNat:Int):=by
 simp [sgi,ba,List.getD,List.getElem?_eq_getElem h]
theorem count_le {c:UInt8}(l:List UInt8):l.count c<=l.length:=List.count_le_length
theorem gsplit_ok (s_:ByteArray)(sep:ByteArray)(sepSave:Int)(n:Int)(Q:(List ByteArray)->Prop)(hp0:s_.size<=1000000)(hp1:sep.size=1)(hp2:sepSave=(0:Int))(hp3:n=(-1:Int))(h:Q (splitG s_ sep sepSave n)):gsplit_vc s_ sep sepSave n Q:=by
 subst hp2 hp3
 obtain⟨c,rfl⟩:∃ c,sep=⟨#[c]⟩:=by
   obtain⟨⟨l⟩⟩:=sep
   match l,hp1 with
   | [c],_=>exact⟨c,rfl⟩
 rw [<- ba_of s_]at h hp0 ⊢
 generalize s_.data.toList=l at h hp0 ⊢
 rw [ba_size]at hp0
 have hc:=count_le (c:=c) l
 have hQ:Q ((zcf c l).map ba):=h
 refine⟨fun hn=>absurd hn (by omega),fun _=>⟨(fun he=>by cases he),fun _=>⟨fun _=>⟨rfl,?_,?_⟩,fun hn=>absurd hn (by omega)⟩⟩⟩
 · show inI (((l.count c:Nat):Int)+1); omega
 · have e0:countF (ba l) ⟨#[c]⟩=(l.count c:Nat):=rfl
   rw [e0]
   unfold gsplit_J1
   have e1:gmin ((l.count c:Int)+1) [(((ba l).size:Int)+1)]=(l.count c:Int)+1:=by rw [gmin1,ba_size]; omega
   rw [e1,ba_size]
   refine⟨by omega,⟨⟨by omega,by omega⟩,by omega,by omega⟩,by omega,?_⟩
   refine lfp_of (fun st:(List ByteArray)×ByteArray×Int=>∃(d:List ByteArray) (r:List UInt8),st=(d++List.replicate (r.count c+1) ByteArray.empty,ba r,(d.length:Int))/\d++(zcf c r).map ba=(zcf c l).map ba/\d.length+r.count c=l.count c/\r.length<=l.length)
     (fun st=>(l.count c-st.2.2).toNat) (fun st hst again hag=>?_) ⟨[],l,by simp,rfl,by simp,Nat.le_refl _⟩
   obtain⟨d,r,rfl,hs,hd,hr⟩:=hst
   unfold gsplit_L1
   simp only
   have fin:r.count c=0->Q (zbc (si (d++List.replicate (r.count c+1) ByteArray.empty) (d.length:Int) (ba r)) 0 ((d.length:Int)+1)):=by
     intro h0
     have e:si (d++List.replicate (r.count c+1) ByteArray.empty) (d.length:Int) (ba r)=d++ [ba r]:=by
       rw [h0]
       have:=si_last d ByteArray.empty (ba r)
       have e2:(((d++ [ByteArray.empty]).length:Int)-1)=(d.length:Int):=by simp
       rw [e2]at this
       exact this
     rw [e,lsub_to]
     have e3:(d++ [ba r]).take ((d.length:Int)+1).toNat=d++ [ba r]:=by
       rw [List.take_of_length_le]
       simp
     rw [e3]
     have:zcf c r= [r]:=split_none (fun x hx he=>by
       have:=List.count_pos_iff.2 (he▸hx)
       omega)
     rw [this]at hs
     have hs':d++ [ba r]=(zcf c l).map ba:=hs
     rw [hs']
     exact hQ
   rw [gmin1,ba_size]
   refine⟨fun hlt=>⟨rfl,fun hneg=>?_,fun hpos=>?_⟩,fun hn=>?_⟩
   · have hr0:0<r.count c:=by omega
     obtain⟨p,q,_,_,h3⟩:=count_split hr0
     have:zbj (ba r) ⟨#[c]⟩=p.length:=h3
     omega
   · have hr0:0<r.count c:=by omega
     obtain⟨p,q,rfl,h2,h3⟩:=count_split hr0
     have e3:zbj (ba (p++c::q)) ⟨#[c]⟩=p.length:=h3
     have e4:(⟨#[c]⟩:ByteArray).size=1:=rfl
     rw [e3,e4]
     have h5:(p++c::q).length=p.length+1+q.length:=by simp; omega
     have h6:(p++c::q).count c=q.count c+1:=by
       rw [List.count_append,List.count_cons_self,List.count_eq_zero.2 (fun hx=>h2 c hx rfl)]; omega
     refine⟨by omega,by rw [ba_size]; omega,by simp; omega,by omega,by rw [ba_size]; omega,by omega,hag _ ⟨d++ [ba p],q,?_,?_,?_,by omega⟩ ?_⟩
     · rw [ssub_ba,ssub_ba,h6]
       have e5:si (d++List.replicate (q.count c+1+1) ByteArray.empty) (d.length:Int) (ba (List.drop (Int.toNat 0) (List.take ((p.length:Int)+0).toNat (p++c::q))))=d++ [ba p]++List.replicate (q.count c+1) ByteArray.empty:=by
         have e6:List.take ((p.length:Int)+0).toNat (p++c::q)=p:=by simp
         rw [e6]
         simp [si,List.replicate_succ]
       rw [e5]
       have e7:List.drop ((p.length:Int)+((1:Nat):Int)).toNat (List.take (((ba (p++c::q)).size:Nat):Int).toNat (p++c::q))=q:=by
         rw [ba_size,List.take_of_length_le (by omega)]
         have:((p.length:Int)+((1:Nat):Int)).toNat=p.length+1:=by omega
         rw [this]
         simp
       rw [e7]
       simp
     · rw [split_at h2]at hs
       simpa using hs
     · simp only [List.length_append,List.length_cons,List.length_nil]; omega
     · simp only; omega
   · have h0:r.count c=0:=by omega
     refine⟨by simp; omega,by omega,?_,fin h0⟩
     rw [zan]
     simp only [List.length_append,List.length_replicate]; omega
theorem split_ok (s_:ByteArray)(sep:ByteArray)(Q:(List ByteArray)->Prop)(hp0:s_.size<=1000000)(hp1:sep.size=1)(h:Q (zad s_ sep)):split_vc s_ sep Q:=⟨hp0,hp1,rfl,rfl,h⟩
end Go.Lic
set_option linter.all false
namespace Go.Lic
open Go.Proofs Go.Sort Go.Shelf
theorem decode_low {s:ByteArray}{i:Nat}(h:(s.get! i).toNat<128):Utf8.decode s i=((s.get! i).toNat,1):=by
 unfold Utf8.decode
 simp only [Nat.add_zero]
 rw [if_pos h]
theorem decode_high {s:ByteArray}{i:Nat}(h:¬(s.get! i).toNat<128):128<=(Utf8.decode s i).1:=by
 unfold Utf8.decode Utf8.runeError
 simp only [Nat.add_zero]
 rw [if_neg h]
 split
 · split
   · assumption
   · decide
 · split
   · split
     · next h1=>simp only [Bool.and_eq_true,decide_eq_true_eq]at h1; simp only; omega
     · decide
   · split
     · split
       · next h1=>simp only [Bool.and_eq_true,decide_eq_true_eq]at h1; simp only; omega
       · decide
     · decide
theorem decode_w (s:ByteArray)(i:Nat):1<=(Utf8.decode s i).2:=by
 unfold Utf8.decode
 simp only
 split
 · exact Nat.le_refl _
 · split
   · split<;>simp only<;>omega
   · split
     · split<;>simp only<;>omega
     · split
       · split<;>simp only<;>omega
       · exact Nat.le_refl _
theorem get_list (s:ByteArray)(i:Nat):(s.get! i)=s.data.toList.getD i 0:=by
 obtain⟨⟨l⟩⟩:=s
 show(Array.mk l)[i]! =l.getD i 0
 by_cases h:i<l.length
 · rw [getElem!_pos _ _ (by simpa using h)]; simp [List.getD,List.getElem?_eq_getElem h]
 · rw [getElem!_neg _ _ (by simpa using h)]; simp [List.getD,List.getElem?_eq_none (Nat.le_of_not_lt h)]; rfl
theorem sgi_get (s:ByteArray)(i:Nat):sgi s (i:Int)=((s.get! i).toNat:Int):=by rw [get_list]; rfl
theorem bad_high {r:Int}(h:128<=r):badR r=true:=by
 unfold badR nameB
 simp only [Bool.not_eq_true',Bool.or_eq_false_iff,Bool.and_eq_false_iff,decide_eq_false_iff_not]
 omega
theorem runes_bytes (s:ByteArray):∀(n:Nat) (i:Nat),s.size-i<n->(0<=runeIdxL (fun r=>badR r==true) s n (i:Int)↔∃ k:Nat,i<=k/\k<s.size/\nameB (sgi s (k:Int))=false)
 |0,i,h=>by omega
 | n + 1,i,h=>by
   unfold runeIdxL
   by_cases hi:i<s.size
   · have hi':(i:Int)<s.size:=by omega
     rw [if_pos hi']
     simp only [Int.toNat_natCast]
     by_cases hb:(s.get! i).toNat<128
     · rw [decode_low hb]
       have e:sgi s (i:Int)=(((s.get! i).toNat:Nat):Int):=sgi_get s i
       simp only
       cases hn:nameB ((s.get! i).toNat:Int)with
       | false=>
         have:badR ((s.get! i).toNat:Int)=true:=by unfold badR; rw [hn]; rfl
         rw [this]
         simp only [beq_self_eq_true,if_true]
         exact⟨fun _=>⟨i,Nat.le_refl _,hi,by rw [e]; exact hn⟩,fun _=>by omega⟩
       | true=>
         have:badR ((s.get! i).toNat:Int)=false:=by unfold badR; rw [hn]; rfl
         rw [this]
         have e2:((false==true)=true)=False:=by simp
         simp only [e2,if_false]
         have ih:=runes_bytes s n (i+1) (by omega)
         have e3:((i:Int)+((1:Nat):Int))=((i+1:Nat):Int):=by omega
         rw [e3,ih]
         constructor
         · rintro⟨k,h1,h2⟩; exact⟨k,by omega,h2⟩
         · rintro⟨k,h1,h2,h3⟩
           refine⟨k,?_,h2,h3⟩
           rcases Nat.lt_or_eq_of_le h1 with h4|h4
           · exact h4
           · rw [<- h4,e,hn]at h3; cases h3
     · have h1:=decode_high hb
       have:badR ((Utf8.decode s i).1:Int)=true:=bad_high (by omega)
       rw [this]
       simp only [beq_self_eq_true,if_true]
       refine⟨fun _=>⟨i,Nat.le_refl _,hi,?_⟩,fun _=>by omega⟩
       have h2:badR (sgi s (i:Int))=true:=bad_high (by rw [sgi_get]; omega)
       unfold badR at h2
       simpa using h2
   · have hi':¬(i:Int)<s.size:=by omega
     rw [if_neg hi']
     constructor
     · intro h; omega
     · rintro⟨k,h1,h2,_⟩; omega
theorem sbytes_all (s:ByteArray)(f:Int->Bool):(zbl s).all f=false↔∃ k:Nat,k<s.size/\f (sgi s (k:Int))=false:=by
 rw [List.all_eq_false]
 unfold zbl
 constructor
 · rintro⟨x,hx,h⟩
   obtain⟨b,hb,rfl⟩:=List.mem_map.1 hx
   obtain⟨k,hk,rfl⟩:=List.getElem_of_mem hb
   refine⟨k,hk,?_⟩
   have:sgi s (k:Int)=((s.data.toList[k].toNat:Nat):Int):=by
     simp only [sgi,Int.toNat_natCast,List.getD,List.getElem?_eq_getElem hk]; rfl
   rw [this]; simpa using h
 · rintro⟨k,hk,h⟩
   have hk':k<s.data.toList.length:=hk
   refine⟨(s.data.toList[k].toNat:Int),List.mem_map.2 ⟨_,List.getElem_mem hk',rfl⟩,?_⟩
   have:sgi s (k:Int)=((s.data.toList[k].toNat:Nat):Int):=by
     simp only [sgi,Int.toNat_natCast,List.getD,List.getElem?_eq_getElem hk']; rfl
   rw [this]at h; simpa using h
theorem rune_part (s:ByteArray):(!(decide (0<=runeIx (fun r=>badR r) s true)))=(zbl s).all nameB:=by
 have h:=runes_bytes s (s.size+1) 0 (by omega)
 have h2:=sbytes_all s nameB
 unfold runeIx
 cases ha:(zbl s).all nameB with
 | false=>
   obtain⟨k,hk,h3⟩:=h2.1 ha
   have:0<=runeIdxL (fun r=>badR r==true) s (s.size+1) 0:=h.2 ⟨k,Nat.zero_le _,hk,h3⟩
   rw [decide_eq_true this]; rfl
 | true=>
   have:¬0<=runeIdxL (fun r=>badR r==true) s (s.size+1) 0:=fun h3=>by
     obtain⟨k,_,hk,h4⟩:=h.1 h3
     rw [h2.2 ⟨k,hk,h4⟩]at ha; cases ha
   rw [decide_eq_false this]; rfl
theorem sixf_ok (s_:ByteArray)(p:Int->Bool)(pD:Int->Prop)(truth:Bool)(Q:Int->Prop)(hp0:∀ x,pD x)(h:Q ((runeIx p s_ truth))):sixf_vc s_ p pD truth Q:=by
 unfold sixf_vc
 refine lfp_of (fun i:Int=>0<=i/\∃ n,runeIx p s_ truth=runeIdxL (fun r=>p r==truth) s_ n i/\s_.size-i<n) (fun i=>(s_.size-i).toNat) (fun i hi again hag=>?_) ⟨by omega,s_.size+1,rfl,by omega⟩
 obtain⟨h0,n,h1,h2⟩:=hi
 unfold sixf_L1
 have hw:=decode_w s_ i.toNat
 have ew:runeW s_ i=((Utf8.decode s_ i.toNat).2:Int):=rfl
 refine⟨fun hlt=>⟨h0,hp0 _,?_⟩,fun hn=>?_⟩
 · obtain⟨m,rfl⟩:∃ m,n=m+1:=⟨n-1,by omega⟩
   rw [runeIdxL,if_pos hlt]at h1
   refine⟨fun hp=>?_,fun hp=>?_⟩
   · have:(p ((Utf8.decode s_ i.toNat).1:Int)==truth)=true:=hp
     rw [if_pos this]at h1
     rwa [h1]at h
   · have:¬(p ((Utf8.decode s_ i.toNat).1:Int)==truth)=true:=by
       have h3:(p ((Utf8.decode s_ i.toNat).1:Int)==truth)=false:=hp
       simp [h3]
     rw [if_neg this]at h1
     exact hag _ ⟨by omega,m,h1,by omega⟩ (by omega)
 · cases n with
   |zero=>rw [h1]at h; exact h
   |succ m=>rw [runeIdxL,if_neg hn]at h1; rwa [h1]at h
theorem sixF_ok (s_:ByteArray)(p:Int->Bool)(pD:Int->Prop)(Q:Int->Prop)(hp0:∀ x,pD x)(h:Q ((runeIx p s_ true))):sixF_vc s_ p pD Q:=⟨hp0,h⟩
theorem scf_ok (s_:ByteArray)(p:Int->Bool)(pD:Int->Prop)(Q:Bool->Prop)(hp0:∀ x,pD x)(h:Q ((decide (0<=runeIx p s_ true)))):scf_vc s_ p pD Q:=⟨hp0,h⟩
theorem int_beq (a b:Int):(a==b)=decide (a=b):=by
 cases h:(a==b)with
 |true=>rw [decide_eq_true (by simpa using h)]
 |false=>rw [decide_eq_false (by simpa using h)]
theorem part1_ok (c:Int)(Q:Bool->Prop)(h:Q (badR c)):part1_vc c Q:=by
 unfold part1_vc
 have:badR c=(!((((((decide (c>=97))&&(decide (c<=122)))||((decide (c>=48))&&(decide (c<=57))))||(c==46))||(c==95))||(c==45))):=by
   simp only [badR,nameB,ge_iff_le,int_beq]
 rwa [<- this]
theorem empty_iff (s:ByteArray):s=(⟨#[]⟩:ByteArray)↔s.size=0:=by
 obtain⟨⟨l⟩⟩:=s
 show _↔l.length=0
 cases l<;>simp
theorem partF_eq (s:ByteArray):partF s=(decide (1<=s.size)&&decide (s.size<=32)&& !decide (sgi s 0=46)&& !decide (sgi s 0=45)&&(zbl s).all nameB):=rfl
theorem part_ok (s_:ByteArray)(Q:Bool->Prop)(hp0:s_.size<=1000000)(h:Q (partF s_)):part_vc s_ Q:=by
 unfold part_vc
 rw [empty_iff]
 refine⟨fun h1=>by omega,fun h1=>by omega,fun h1=>?_,fun h1=>⟨fun _=>trivial,?_⟩⟩
 · have:partF s_=false:=by
     rw [partF_eq]
     rcases h1 with((h1|h1)|h1)|h1
     · simp [h1]
     · have:¬s_.size<=32:=by omega
       simp [this]
     · simp [h1]
     · simp [h1]
   rwa [this]at h
 · obtain⟨⟨⟨h1,h2⟩,h3⟩,h4⟩:=h1
   rw [rune_part]
   have:partF s_=(zbl s_).all nameB:=by
     rw [partF_eq]
     have e1:1<=s_.size:=by omega
     have e2:s_.size<=32:=by omega
     simp [e1,e2,h3,h4]
   rwa [this]at h
theorem path1_ok (s_:ByteArray)(Q:Bool->Prop)(hp0:s_.size<=1000000)(h:Q ((!partF s_))):path1_vc s_ Q:=⟨hp0,h⟩
theorem splitF_len (s:ByteArray)(c:UInt8):(zad s ⟨#[c]⟩).length<=s.size+1:=by
 show((zcf c s.data.toList).map _).length<=_
 rw [List.length_map,split_len]
 have:=count_le (c:=c) s.data.toList
 rw [size_list]; omega
theorem splitF_size (s:ByteArray)(c:UInt8):∀ x∈zad s ⟨#[c]⟩,x.size<=s.size:=by
 intro x hx
 have hx:x∈(zcf c s.data.toList).map ba:=hx
 obtain⟨p,hp,rfl⟩:=List.mem_map.1 hx
 have:=split_size _ p hp
 rw [ba_size,size_list]; exact this
theorem path_ok (path:ByteArray)(Q:Int->Prop)(hp0:path.size<=1000000)(h:Q (pathF path)):path_vc path Q:=by
 have hl:=splitF_len path 47
 have hs:=splitF_size path 47
 have e:((zad path (⟨#[47]⟩:ByteArray)).any (fun(x0_:ByteArray)=>(!partF x0_)))= !(zad path (⟨#[47]⟩:ByteArray)).all partF:=by
   rw [List.all_eq_not_any_not,Bool.not_not]
 unfold path_vc
 rw [e]
 unfold pathF pathB at h
 refine⟨hp0,rfl,fun _=>⟨by omega,fun x hx=>by have:=hs x hx; show x.size<=1000000; omega⟩,fun h1=>?_,fun h1=>?_⟩
 · rw [if_neg]at h
   · exact h
   · rintro h2
     simp only [Bool.and_eq_true,decide_eq_true_eq]at h2
     rcases h1 with(h1|h1)|h1
     · omega
     · omega
     · rw [h2.2]at h1; cases h1
 · rw [if_pos]at h
   · exact h
   · simp only [Bool.and_eq_true,decide_eq_true_eq]
     obtain⟨⟨h1,h2⟩,h3⟩:=h1
     exact⟨⟨by omega,by omega⟩,by simpa using h3⟩
end Go.Lic
set_option linter.all false
namespace Go.Lic
open Go.Proofs Go.Sort Go.Shelf
theorem zbn {α:Type} [Inhabited α]{l:List α}{x:Int}(h:inL x l.length):l.drop x.toNat=gi l x::l.drop (x+1).toNat:=by
 rw [List.drop_eq_getElem_cons (by omega),gi_lt h,show(x+1).toNat=x.toNat+1 by omega]
theorem zbv {α:Type}{l:List α}{x:Int}(h:¬x<l.length):l.drop x.toNat= []:=List.drop_eq_nil_of_le (by omega)
theorem lfp2 {A B:Type}(f:(A×B->Prop)->A->B->Prop)(Inv:A->B->Prop)(m:A->B->Nat)(round:∀ a b,Inv a b->∀ again:A×B->Prop,(∀ a' b',Inv a' b'->m a' b'<m a b->again (a',b'))->f again a b){a:A}{b:B}(h:Inv a b):lfp (S:=A×B) (fun again ss=>f again ss.1 ss.2) (a,b):=
 lfp_of (fun s=>Inv s.1 s.2) (fun s=>m s.1 s.2) (fun s hs again hag=>round s.1 s.2 hs again fun a' b' h1 h2=>hag (a',b') h1 h2) h
theorem lfp3 {A B C:Type}(f:(A×B×C->Prop)->A->B->C->Prop)(Inv:A->B->C->Prop)(m:A->B->C->Nat)(round:∀ a b c,Inv a b c->∀ again:A×B×C->Prop,(∀ a' b' c',Inv a' b' c'->m a' b' c'<m a b c->again (a',b',c'))->f again a b c){a:A}{b:B}{c:C}(h:Inv a b c):lfp (S:=A×B×C) (fun again ss=>f again ss.1 ss.2.1 ss.2.2) (a,b,c):=
 lfp_of (fun s=>Inv s.1 s.2.1 s.2.2) (fun s=>m s.1 s.2.1 s.2.2) (fun s hs again hag=>round s.1 s.2.1 s.2.2 hs again fun a' b' c' h1 h2=>hag (a',b',c') h1 h2) h
theorem or_ok (vals:(List Int))(Q:Int->Prop)(hp0:vals.length<=9223372036854775807)(h:Q (orF vals)):or_vc vals Q:=by
 refine lfp_of (fun x:Int=>0<=x/\x<=vals.length/\orF vals=orF (vals.drop x.toNat)) (fun x=>(vals.length-x).toNat) (fun x hx again hag=>?_) ⟨by omega,by omega,rfl⟩
 obtain⟨h0,h1,h2⟩:=hx
 refine⟨fun hlt=>⟨by omega,fun hp=>?_,fun hp=>⟨by omega,hag _ ⟨by omega,by omega,?_⟩ (by omega)⟩⟩,fun hn=>?_⟩
 · rw [h2,zbn (by omega)]at h
   simpa [orF,hp]using h
 · rw [h2,zbn (by omega)]
   simp [orF,hp]
 · rw [h2,zbv hn]at h; exact h
theorem wrap_small {n:Int}(h:inI n):IntKind.i64.wrap n=n:=wrap64_in h
end Go.Lic
set_option linter.all false
namespace Go.Lic
open Go.Proofs Go.Sort Go.Shelf
theorem sbytes_len (s:ByteArray):(zbl s).length=s.size:=by unfold zbl; rw [List.length_map]; rfl
theorem take_while {α:Type} [Inhabited α]{p:α->Bool}:∀ {l:List α} {k:Nat},k<=l.length->(∀ j:Nat,j<k->p (gi l (j:Int))=true)->(k<l.length->p (gi l (k:Int))=false)->l.takeWhile p=l.take k/\l.dropWhile p=l.drop k
 | [],k,hk,_,_=>by simp
 | x::l,0,hk,_,h=>by
   have:=h (by simp)
   have e:gi (x::l) ((0:Nat):Int)=x:=rfl
   rw [e]at this
   simp [this]
 | x::l,k+1,hk,h1,h2=>by
   have h0:=h1 0 (by omega)
   have e:gi (x::l) ((0:Nat):Int)=x:=rfl
   rw [e]at h0
   have ih:=take_while (p:=p) (l:=l) (k:=k) (by simpa using hk) (fun j hj=>h1 (j+1) (by omega)) (fun hk2=>h2 (by simpa using hk2))
   simp [h0,ih.1,ih.2]
end Go.Lic
