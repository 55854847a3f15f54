/-
  What each operation does, of abstract states.
-/
import Derived.Test.YtkifpidbpoghlaaGreatDoorHeap
set_option linter.all false
namespace Go.Lic
variable [Fl]
structure TI (P:Program)(t:TypeId)(n:Nat)(agg:Bool):Prop where
 size:∀ w,(sizeOf t).run P w= .ok n w
 isAgg:∀ w,(Go.isAgg t).run P w= .ok agg w
def aggDesc :TypeDesc->Bool
 | .struct _| .array _ _=>true
 |_=>false
theorem TI.mk' {P:Program}{t:TypeId}{n:Nat}{agg:Bool}(h1:(P.info? t).map (·.size)=some n)(h2:(P.underlying t).map aggDesc=some agg):TI P t n agg where
 size:=fun w=>by
   obtain⟨i,hi,rfl⟩:=Option.map_eq_some_iff.1 h1
   simp [sizeOf,typeInfo,hi]
 isAgg:=fun w=>by
   obtain⟨d,hd,rfl⟩:=Option.map_eq_some_iff.1 h2
   simp only [Go.isAgg,Sem.run_bind,run_underlying hd,Result.andThen_ok]
   cases d<;>rfl
structure TS (P:Program)(t e:TypeId)(sz bytes:Nat)(agg:Bool):Prop where
 desc:P.underlying t=some (.slice e)
 elem:TI P e sz agg
 bytes:(P.info? e).map (·.bytes)=some bytes
 zero:((P.info? e).bind (·.zero)).map (·.cells.size)=some sz
section
variable {P:Program}{o:Oper}{fr:Nat->D}{h:zbb}{K:D->zbb->Prop}
theorem OpA.of_run (hh:∀ A M w0 (a:Act) w,HRel A M w0 h w->(∀ x,x∈o.op.operands->V w (XX A h) (ev fr x) (a.eval x))->
   ∃ v w' d h',(execOp a.eval o).run P w= .ok (.value v) w'/\K d h'/\HRel A M w0 h' w'/\Mono w (XX A h) w' (XX A h')/\V w' (XX A h') d v):OpA P o fr h K:=
 fun A M w0 a w hr hv next Q hn=>by
   obtain⟨v,w',d,h',h1,h2,h3,h4,h5⟩:=hh A M w0 a w hr hv
   exact fun ro=>wd_op h1 (by simp) (hn v w' d h' h2 h3 h4 h5)
theorem OpA.of_quiet {d:D}(hh:∀ A M w0 (a:Act) w,HRel A M w0 h w->(∀ x,x∈o.op.operands->V w (XX A h) (ev fr x) (a.eval x))->
   ∃ v,(execOp a.eval o).run P w= .ok (.value v) w/\V w (XX A h) d v) (hk:K d h):OpA P o fr h K:=
 .of_run fun A M w0 a w hr hv=>by
   obtain⟨v,h1,h2⟩:=hh A M w0 a w hr hv
   exact⟨v,w,d,h,h1,hk,hr,Mono.refl _ _,h2⟩
theorem OpA.of_skip (hh:∀ A M w0 (a:Act) w,HRel A M w0 h w->(∀ x,x∈o.op.operands->V w (XX A h) (ev fr x) (a.eval x))->
   ∃ w' h',(execOp a.eval o).run P w= .ok .skip w'/\K (.v undef) h'/\HRel A M w0 h' w'/\Mono w (XX A h) w' (XX A h')):OpA P o fr h K:=
 fun A M w0 a w hr hv next Q hn=>by
   obtain⟨w',h',h1,h2,h3,h4⟩:=hh A M w0 a w hr hv
   exact fun ro=>wd_op h1 (by simp) (hn undef w' _ h' h2 h3 h4 (.v _))
theorem OpA.move {x:Operand}(ho:o.op= .move x)(hk:K (ev fr x) h):OpA P o fr h K:=
 .of_quiet (fun A M w0 a w _ hv=>⟨a.eval x,by simp [execOp,ho],hv x (by simp [ho,Op.operands])⟩) hk
theorem OpA.assign {x:Operand}(ho:o.op= .assign x)(hk:K (ev fr x) h):OpA P o fr h K:=
 .of_quiet (fun A M w0 a w _ hv=>⟨a.eval x,by simp [execOp,ho],hv x (by simp [ho,Op.operands])⟩) hk
theorem OpA.pick {c x y:Operand}{b:Bool}(ho:o.op= .pick c x y)(hc:ev fr c= .b b)(hk:K (cond b (ev fr x) (ev fr y)) h):OpA P o fr h K:=
 .of_quiet (fun A M w0 a w _ hv=>by
   have h1:=hv c (by simp [ho,Op.operands])
   rw [hc]at h1
   generalize hx:a.eval c=u at h1
   cases h1
   refine⟨if b then a.eval x else a.eval y,by simp [execOp,ho,hx,asBool],?_⟩
   cases b
   · exact hv y (by simp [ho,Op.operands])
   · exact hv x (by simp [ho,Op.operands])) hk
theorem D.ok.shape {sz:Nat}{d:D}(hd:d.ok sz):d.cell=true\/∃ ds,d= .agg ds:=by
 cases d with
 |agg ds=>exact .inr ⟨ds,rfl⟩
 |_=>exact .inl (hd.2 _ (by simp [D.flat]))
theorem V.cells {w:World}{X:Nat->Prop}{d:D}{x:Value}{sz:Nat}(h:V w X d x)(hd:d.ok sz):VL w X d.flat x.cells.toList:=h.flat hd.shape
theorem V.cells_size {w:World}{X:Nat->Prop}{d:D}{x:Value}{sz:Nat}(h:V w X d x)(hd:d.ok sz):x.cells.size=sz:=by
 have:=(h.cells hd).length
 rw [hd.1]at this
 simpa using this.symm
theorem VL.oneCell {w:World}{X:Nat->Prop}{ds:List D}{vs:List Value}(h:VL w X ds vs)(hd:∀ d∈ds,d.cell=true):∀ v∈vs,v.oneCell'=true:=by
 intro v hv
 obtain⟨i,hi⟩:=List.mem_iff_getElem?.1 hv
 obtain⟨d,h1,h2⟩:=h.get' i v hi
 exact h2.oneCell (hd d (List.mem_of_getElem? h1))
theorem OpA.box {e:TypeId}{x:Operand}{sz:Nat}(ho:o.op= .box e x)(hx:(ev fr x).ok sz)(hk:∀ c,c ∉ keys h->K (.ptr c sz 0 0) ((c,.cells sz [ev fr x])::h)):OpA P o fr h K:=
 .of_run fun A M w0 a w hr hv=>by
   have h1:=hv x (by simp [ho,Op.operands])
   have hc:VL w (XX A h) (D.flats [ev fr x]) (a.eval x).cells.toList:=by simpa [D.flats]using h1.cells hx
   obtain⟨h2,h3,h4⟩:=hr.alloc (sz:=sz) (a.eval x).cells e (by simpa using hx) hc (List.prefix_refl _)
   refine⟨.pointer (some ⟨w.heap.size,0,none⟩),_,_,_,by simp [execOp,ho,Instr.box,newVar,newRow],hk _ h2,h3,h4,?_⟩
   have:=V.ptr (w:=w.alloc (.cells (a.eval x).cells e)) (X:=XX A ((2*w.heap.size,.cells sz [ev fr x])::h)) (c:=2*w.heap.size) (sz:=sz) (i:=0) (k:=0) (by omega)
   simpa using this
theorem OpA.alloc {e:TypeId}{sz:Nat}{z:Value}{d:D}(ho:o.op= .alloc e)(hz:(P.info? e).bind (·.zero)=some z)(hd:∀ w X,V w X d z)(hok:d.ok sz)
   (hk:∀ c,c ∉ keys h->K (.ptr c sz 0 0) ((c,.cells sz [d])::h)):OpA P o fr h K:=
 .of_run fun A M w0 a w hr _=>by
   have hc:VL w (XX A h) (D.flats [d]) z.cells.toList:=by simpa [D.flats]using(hd w (XX A h)).cells hok
   obtain⟨h2,h3,h4⟩:=hr.alloc (sz:=sz) z.cells e (by simpa using hok) hc (List.prefix_refl _)
   have hzr:∀ w,(zeroValue e).run P w= .ok z w:=fun w=>by
     obtain⟨i,hi,hi2⟩:=Option.bind_eq_some_iff.1 hz
     simp [zeroValue,typeInfo,hi,hi2]
   refine⟨.pointer (some ⟨w.heap.size,0,none⟩),_,_,_,by simp [execOp,ho,Instr.alloc,hzr,newVar,newRow],hk _ h2,h3,h4,?_⟩
   have:=V.ptr (w:=w.alloc (.cells z.cells e)) (X:=XX A ((2*w.heap.size,.cells sz [d])::h)) (c:=2*w.heap.size) (sz:=sz) (i:=0) (k:=0) (by omega)
   simpa using this
theorem elem_cells {w:World}{X:Nat->Prop}{sz i:Nat}{es:List D}{e:D}{cs:List Value}(hok:∀ d∈es,d.ok sz)(hv:VL w X (D.flats es) cs)(he:es[i]? =some e):
   VL w X e.flat ((cs.drop (i*sz)).take sz):=by
 rw [<- flats_get es i e hok he]
 exact(hv.drop _).take _
theorem own_cell {w:World}{b:Nat}{arr:Array Value}{e:TypeId}{cs:List Value}(ha:OwnCells w b arr e)(hp:cs <+: arr.toList):
   ∀ j c,cs[j]? =some c->w.cell? ⟨b,j,none⟩=some c:=by
 intro j c hj
 obtain⟨t,ht⟩:=hp
 have:arr.toList[j]? =some c:=by rw [<- ht,List.getElem?_append_left (List.getElem?_eq_some_iff.1 hj).1]; exact hj
 rw [ha.cell]
 simpa using this
theorem run_loadVar' {t:TypeId}{n:Nat}{agg:Bool}(ht:TI P t n agg){w:World}{X:Nat->Prop}{b o:Nat}{ds:List D}{cs:List Value}(hv:VL w X ds cs)
   (hc:∀ j c,cs[j]? =some c->w.cell? ⟨b,o+j,none⟩=some c) (hn:ds.length=n):
   (agg=true->∃ v,(loadVar t ⟨b,o,none⟩).run P w= .ok v w/\V w X (.agg ds) v)/\(agg=false->∀ d,ds[0]? =some d->∃ v,(loadVar t ⟨b,o,none⟩).run P w= .ok v w/\V w X d v):=by
 refine⟨fun hag=>?_,fun hag d hd=>?_⟩
 · subst hag
   refine⟨.agg cs.toArray,?_,.agg hv⟩
   simp only [loadVar,Sem.run_bind,ht.isAgg,Result.andThen_ok,if_true,ht.size]
   have hl:n=cs.length:=by rw [<- hn]; exact hv.length
   rw [hl,run_loadCells' cs hc]
   rfl
 · subst hag
   obtain⟨v,h1,h2⟩:=hv.get 0 d hd
   refine⟨v,?_,h2⟩
   have h0:=hc 0 v h1
   simp only [loadVar,Sem.run_bind,ht.isAgg,Result.andThen_ok,Bool.false_eq_true,if_false,run_load]
   rw [show(⟨b,o,none⟩:Addr)=⟨b,o+0,none⟩from rfl,h0]
theorem own_part {A M:Nat->Prop}{w0 w:World}(hr:HRel A M w0 h w){c sz i k n:Nat}{es:List D}{e:D}(hh:Has c (.cells sz es) h)(he:es[i]? =some e)(hkn:k+n<=e.flat.length):
   c % 2=0/\∃ cs,VL w (XX A h) ((e.flat.drop k).take n) cs/\cs.length=n/\∀ j c',cs[j]? =some c'->w.cell? ⟨c / 2,i*sz+k+j,none⟩=some c':=by
 obtain⟨hok,hb⟩:=hr.cells hh
 rcases hb with⟨_,hb⟩|⟨hc,arr,et,cs,ha,hv,hp⟩
 · subst hb; simp at he
 · refine⟨hc,_,((elem_cells hok hv he).drop k).take n,?_,?_⟩
   · rw [<-(((elem_cells hok hv he).drop k).take n).length]; simp; omega
   · intro j c' hj
     have hcell:=own_cell ha hp (i*sz+k+j) c'
     apply hcell
     have hjn:j<n:=by
       have:=(List.getElem?_eq_some_iff.1 hj).1
       simp at this; omega
     rw [List.getElem?_take_of_lt hjn,List.getElem?_drop]at hj
     have hks:k+j<sz:=by rw [(hok e (List.mem_of_getElem? he)).1]at hkn; omega
     rw [List.getElem?_take_of_lt hks,List.getElem?_drop]at hj
     rw [<- hj]; congr 1; omega
theorem OpA.load_agg {t:TypeId}{x:Operand}{c sz i k n:Nat}{es ds:List D}{e:D}(ho:o.op= .load t x)(ht:TI P t n true)(hx:ev fr x= .ptr c sz i k)(hh:Has c (.cells sz es) h)
   (he:es[i]? =some e) (hd:(e.flat.drop k).take n=ds) (hl:ds.length=n) (hk:K (.agg ds) h):OpA P o fr h K:=
 .of_quiet (fun A M w0 a w hr hv=>by
   have h1:=hv x (by simp [ho,Op.operands])
   rw [hx]at h1
   generalize hu:a.eval x=u at h1
   cases h1
   have hkn:k+n<=e.flat.length\/n=0:=by subst hd; simp at hl; omega
   rcases hkn with hkn|hn
   · obtain⟨_,cs,hcs,hcl,hcell⟩:=own_part hr hh he hkn
     rw [hd]at hcs
     obtain⟨v,hv1,hv2⟩:=(run_loadVar' ht hcs hcell hl).1 rfl
     exact⟨v,by simp [execOp,ho,hu,Instr.loadAt,Instr.sureAddr,hv1],hv2⟩
   · have:ds= []:=by rw [<- hd,hn]; simp
     subst this
     obtain⟨v,hv1,hv2⟩:=(run_loadVar' (b:=c / 2) (o:=i*sz+k) ht (.nil:VL w (XX A h) [] []) (by simp) hl).1 rfl
     exact⟨v,by simp [execOp,ho,hu,Instr.loadAt,Instr.sureAddr,hv1],hv2⟩) hk
theorem OpA.load_whole {t:TypeId}{x:Operand}{c sz i n:Nat}{es:List D}{e:D}(ho:o.op= .load t x)(ht:TI P t n true)(hx:ev fr x= .ptr c sz i 0)(hn:Nat.beq sz n=true)(hh:Has c (.cells sz es) h)
   (he:es[i]? =some e) (hag:∃ ds,e= .agg ds) (hk:K e h):OpA P o fr h K:=by
 intro A M w0 a w hr hv
 have hok:=(hr.cells hh).1 e (List.mem_of_getElem? he)
 have hn:=Nat.eq_of_beq_eq_true hn
 obtain⟨ds,rfl⟩:=hag
 have hl:ds.length=n:=by rw [<- hn]; exact hok.1
 exact OpA.load_agg (ds:=ds) ho ht hx hh he (by simp [D.flat,<-hl]) hl hk A M w0 a w hr hv
theorem OpA.load {t:TypeId}{x:Operand}{c sz i k:Nat}{es:List D}{e d:D}(ho:o.op= .load t x)(ht:TI P t 1 false)(hx:ev fr x= .ptr c sz i k)(hh:Has c (.cells sz es) h)
   (he:es[i]? =some e) (hd:e.flat[k]? =some d) (hk:K d h):OpA P o fr h K:=
 .of_quiet (fun A M w0 a w hr hv=>by
   have h1:=hv x (by simp [ho,Op.operands])
   rw [hx]at h1
   generalize hu:a.eval x=u at h1
   cases h1
   have hlt:=(List.getElem?_eq_some_iff.1 hd).1
   obtain⟨_,cs,hcs,hcl,hcell⟩:=own_part (k:=k) (n:=1) hr hh he (by omega)
   have hd0:((e.flat.drop k).take 1)[0]? =some d:=by simpa using hd
   obtain⟨v,hv1,hv2⟩:=(run_loadVar' ht hcs hcell (by simp; omega)).2 rfl d hd0
   exact⟨v,by simp [execOp,ho,hu,Instr.loadAt,Instr.sureAddr,hv1],hv2⟩) hk
theorem iptr_part {w:World}{X:Nat->Prop}{e:D}{cs:List Value}{b o k n:Nat}(hv:VL w X e.flat cs)(hl:Lie w X b o cs)(_hkn:k+n<=e.flat.length):
   VL w X ((e.flat.drop k).take n) ((cs.drop k).take n)/\∀ j c',((cs.drop k).take n)[j]? =some c'->w.cell? ⟨b,o+k+j,none⟩=some c':=by
 refine⟨(hv.drop k).take n,fun j c' hj=>?_⟩
 have hjn:j<n:=by
   have:=(List.getElem?_eq_some_iff.1 hj).1
   simp at this; omega
 rw [List.getElem?_take_of_lt hjn,List.getElem?_drop]at hj
 rcases hl with hl|⟨_,hl⟩
 · subst hl; simp at hj
 · have:=hl (k+j) c' hj
   rwa [show o+k+j=o+(k+j)from by omega]
theorem OpA.iload_agg {t:TypeId}{x:Operand}{k n:Nat}{ds:List D}{e:D}(ho:o.op= .load t x)(ht:TI P t n true)(hx:ev fr x= .iptr e k)
   (hd:(e.flat.drop k).take n=ds) (hl:ds.length=n) (hk:K (.agg ds) h):OpA P o fr h K:=
 .of_quiet (fun A M w0 a w hr hv=>by
   have h1:=hv x (by simp [ho,Op.operands])
   rw [hx]at h1
   generalize hu:a.eval x=u at h1
   cases h1 with
   | @iptr _ _ cs b oo _ hv hlie=>
     have hkn:k+n<=e.flat.length\/n=0:=by subst hd; simp at hl; omega
     rcases hkn with hkn|hn
     · obtain⟨h2,h3⟩:=iptr_part hv hlie hkn
       rw [hd]at h2
       obtain⟨v,hv1,hv2⟩:=(run_loadVar' ht h2 h3 hl).1 rfl
       exact⟨v,by simp [execOp,ho,hu,Instr.loadAt,Instr.sureAddr,hv1],hv2⟩
     · have:ds= []:=by rw [<- hd,hn]; simp
       subst this
       obtain⟨v,hv1,hv2⟩:=(run_loadVar' (b:=b) (o:=oo+k) ht (.nil:VL w (XX A h) [] []) (by simp) hl).1 rfl
       exact⟨v,by simp [execOp,ho,hu,Instr.loadAt,Instr.sureAddr,hv1],hv2⟩) hk
theorem OpA.iload_whole {t:TypeId}{x:Operand}{n:Nat}{e:D}(ho:o.op= .load t x)(ht:TI P t n true)(hx:ev fr x= .iptr e 0)(hag:∃ ds,e= .agg ds/\ds.length=n)(hk:K e h):OpA P o fr h K:=by
 obtain⟨ds,rfl,hl⟩:=hag
 exact OpA.iload_agg (ds:=ds) ho ht hx (by simp [D.flat,<-hl]) hl hk
theorem OpA.iload {t:TypeId}{x:Operand}{k:Nat}{e d:D}(ho:o.op= .load t x)(ht:TI P t 1 false)(hx:ev fr x= .iptr e k)(hd:e.flat[k]? =some d)(hk:K d h):OpA P o fr h K:=
 .of_quiet (fun A M w0 a w hr hv=>by
   have h1:=hv x (by simp [ho,Op.operands])
   rw [hx]at h1
   generalize hu:a.eval x=u at h1
   cases h1 with
   | @iptr _ _ cs b oo _ hv hlie=>
     have hlt:=(List.getElem?_eq_some_iff.1 hd).1
     obtain⟨h2,h3⟩:=iptr_part (k:=k) (n:=1) hv hlie (by omega)
     have hd0:((e.flat.drop k).take 1)[0]? =some d:=by simpa using hd
     obtain⟨v,hv1,hv2⟩:=(run_loadVar' ht h2 h3 (by simp; omega)).2 rfl d hd0
     exact⟨v,by simp [execOp,ho,hu,Instr.loadAt,Instr.sureAddr,hv1],hv2⟩) hk
end
end Go.Lic
set_option linter.all false
namespace Go.Lic
variable [Fl]
section
variable {P:Program}{o:Oper}{fr:Nat->D}{h:zbb}{K:D->zbb->Prop}
theorem HRel.perm {A M:Nat->Prop}{w0 w:World}{h h':zbb}(hr:HRel A M w0 h w)(hp:h.Perm h'):HRel A M w0 h' w/\Mono w (XX A h) w (XX A h'):=by
 have hk:∀ c,c∈keys h'↔c∈keys h:=fun c=>(hp.map _).symm.mem_iff
 have hx:XX A h'=XX A h:=by funext b; simp [XX,hk]
 refine⟨⟨(hp.map _).nodup_iff.1 hr.nodup,fun c b hc=>by rw [hx]; exact hr.blk c b (hp.symm.subset hc),fun c hc=>hr.free c ((hk c).1 hc),fun c hc=>hr.mine c ((hk c).1 hc),hr.bound,hr.old,hr.ext,by rw [hx]; exact hr.glob⟩,?_⟩
 rw [hx]; exact Mono.refl _ _
theorem HRel.tail {A M:Nat->Prop}{w0 w:World}{x:Nat×Blk}{h:zbb}(hr:HRel A M w0 (x::h) w):HRel A M w0 h w/\Mono w (XX A (x::h)) w (XX A h):=by
 have hm:Mono w (XX A (x::h)) w (XX A h):= .less fun b hb=>by
   rcases hb with hb|hb
   · exact .inl hb
   · exact .inr (by simp [hb])
 refine⟨⟨(List.nodup_cons.1 (by simpa using hr.nodup)).2,fun c b hc=>(hr.blk c b (by simp [hc])).mono hm (fun _=>rfl),fun c hc=>hr.free c (by simp [hc]),fun c hc=>hr.mine c (by simp [hc]),hr.bound,hr.old,hr.ext,hr.glob.mono hm⟩,hm⟩
theorem Repl.perm {c:Nat}{b:Blk}{c':Nat}{b':Blk}{h h':zbb}(t:Repl c b c' b' h h'):∃ h0,h.Perm ((c,b)::h0)/\h'.Perm ((c',b')::h0):=by
 obtain⟨h1,h2,rfl,rfl⟩:=t.split
 exact⟨h1++h2,List.perm_middle,List.perm_middle⟩
theorem HRel.ghost {A M:Nat->Prop}{w0 w:World}{h:zbb}(hr:HRel A M w0 h w)(sz:Nat):∃ c,c ∉ keys h/\c % 2=1/\HRel A M w0 ((c,.cells sz [])::h) w/\Mono w (XX A h) w (XX A ((c,.cells sz [])::h)):=by
 obtain⟨N,hN⟩:=hr.bound
 obtain⟨m,hm⟩:∃ m,∀ c,c∈keys h->c<=m:=by
   generalize keys h=l
   induction l with
   |nil=>exact⟨0,by simp⟩
   | cons x l ih=>
     obtain⟨m,hm⟩:=ih
     refine⟨max x m,fun c hc=>?_⟩
     rcases List.mem_cons.1 hc with h|h
     · subst h; omega
     · have:=hm c h; omega
 have hodd:(2*(N+m)+1) % 2=1:=by omega
 have hnew:2*(N+m)+1 ∉ keys h:=fun hc=>by have:=hm _ hc; omega
 have hmono:Mono w (XX A h) w (XX A ((2*(N+m)+1,.cells sz [])::h)):= .less fun b hb=>by
   rcases hb with hb|hb
   · exact .inl hb
   · simp at hb; rcases hb with hb|hb
     · omega
     · exact .inr hb
 refine⟨_,hnew,hodd,⟨by simp only [keys_cons,List.nodup_cons]; exact⟨hnew,hr.nodup⟩,?_,?_,?_,hr.bound,hr.old,hr.ext,hr.glob.mono hmono⟩,hmono⟩
 · intro c b hc
   rcases List.mem_cons.1 hc with hc|hc
   · cases hc; exact⟨by simp,.inl ⟨hodd,rfl⟩⟩
   · exact(hr.blk c b hc).mono hmono (fun _=>rfl)
 · intro c hc ha
   rcases List.mem_cons.1 (by simpa using hc)with hc|hc
   · subst hc; have:=hN _ ha; omega
   · exact hr.free c hc ha
 · intro c hc he
   rcases List.mem_cons.1 (by simpa using hc)with hc|hc
   · subst hc; omega
   · exact hr.mine c hc he
theorem run_storeVar' {t:TypeId}{n:Nat}{agg:Bool}(ht:TI P t n agg){b oo:Nat}{e:TypeId}{w:World}{arr:Array Value}{v:Value}(ha:OwnCells w b arr e)
   (hv:∀ x∈v.cells.toList,x.oneCell'=true) (hl:v.cells.size=n) (hn:oo+n<=arr.size):
   ∃ w' arr',(storeVar t ⟨b,oo,none⟩ v).run P w= .ok () w'/\OwnCells w' b arr' e/\arr'.toList=setAt arr.toList oo v.cells.toList/\arr'.size=arr.size/\
     w'.heap.size=w.heap.size/\(∀ b',b'≠b->w'.heap[b']? =w.heap[b']?)/\w'.os=w.os/\w'.tape=w.tape/\(w'.output=w.output/\w'.drawn=w.drawn):=by
 obtain⟨w',arr',h1,h2⟩:=run_storeCells' (P:=P) v.cells.toList 0 oo w arr ha hv (by simp; omega)
 refine⟨w',arr',?_,by simpa using h2⟩
 simp only [storeVar,Sem.run_bind,ht.size,Result.andThen_ok,hl,ne_eq,not_true,if_false]
 simpa using h1
theorem OpA.store {t:TypeId}{x y:Operand}{c sz i k n:Nat}{agg:Bool}{es:List D}{e e':D}{h':zbb}(ho:o.op= .store t x y)(ht:TI P t n agg)(hx:ev fr x= .ptr c sz i k)
   (hd:(ev fr y).ok n) (he:es[i]? =some e) (hkn:k+n<=e.flat.length) (he':e'.flat=setAt e.flat k (ev fr y).flat)
   (hh:Repl c (.cells sz es) c (.cells sz (es.set i e')) h h') (hk:K (.v undef) h'):OpA P o fr h K:=
 .of_skip fun A M w0 a w hr hv=>by
   have h1:=hv x (by simp [ho,Op.operands])
   have h2:=hv y (by simp [ho,Op.operands])
   rw [hx]at h1
   generalize hu:a.eval x=u at h1
   cases h1
   obtain⟨hok,hb⟩:=hr.cells hh.has
   rcases hb with⟨_,hb⟩|⟨hc,arr,et,cs,ha,hvl,hp⟩
   · subst hb; simp at he
   · have hcells:=h2.cells hd
     have hsz:=h2.cells_size hd
     have hi:=(List.getElem?_eq_some_iff.1 he).1
     have hesz:e.flat.length=sz:=(hok e (List.mem_of_getElem? he)).1
     have hlen:=hvl.length
     rw [zbq es hok]at hlen
     have hpl:cs.length<=arr.size:=by have:=hp.length_le; simpa using this
     have hmul:(i+1)*sz<=es.length*sz:=Nat.mul_le_mul_right _ hi
     rw [Nat.succ_mul]at hmul
     obtain⟨w',arr',g1,g2,g3,g4,g5,g6,g7,g8,g9⟩:=run_storeVar' (P:=P) ht (oo:=i*sz+k) ha (hcells.oneCell hd.2) hsz (by omega)
     have hok':e'.ok sz:=by
       refine⟨by rw [he',setAt_length]; exact hesz,?_⟩
       rw [he']
       intro z hz
       obtain⟨j,hj⟩:=List.mem_iff_getElem?.1 hz
       rw [setAt_get]at hj
       split at hj
       · exact hd.2 z (List.mem_of_getElem? hj)
       · exact(hok e (List.mem_of_getElem? he)).2 z (List.mem_of_getElem? hj)
     have hoks:∀ d∈es.set i e',d.ok sz:=fun d hd'=>by
       rcases List.mem_or_eq_of_mem_set hd' with hq|hq
       · exact hok d hq
       · exact hq▸hok'
     -- the flat cells behind the store
     have hflat:D.flats (es.set i e')=setAt (D.flats es) (i*sz+k) (ev fr y).flat:=by
       rw [flats_set es hok i e' hi hok',he']
       apply List.ext_getElem?
       intro j
       have hpart:∀ r,r<sz->(D.flats es)[i*sz+r]? =e.flat[r]? :=fun r hr'=>by
         rw [<- flats_get es i e hok he]; simp [hr']
       simp only [setAt_get,setAt_length,zbq es hok,hesz,hd.1]
       by_cases hj1:i*sz<=j/\j<i*sz+sz/\j<es.length*sz
       · rw [if_pos hj1]
         by_cases hj2:k<=j-i*sz/\j-i*sz<k+n/\j-i*sz<sz
         · rw [if_pos hj2,if_pos (by omega)]; congr 1; omega
         · rw [if_neg hj2,if_neg (by omega)]
           have:=hpart (j-i*sz) (by omega)
           rw [show i*sz+(j-i*sz)=j from by omega]at this
           exact this.symm
       · rw [if_neg hj1,if_neg (by omega)]
     have hvl':VL w (XX A h) (D.flats (es.set i e')) (setAt cs (i*sz+k) (a.eval y).cells.toList):=by
       rw [hflat]; exact VL.setAt hcells _ hvl
     have hp':setAt cs (i*sz+k) (a.eval y).cells.toList <+: arr'.toList:=by
       rw [g3]
       obtain⟨tl,htl⟩:=hp
       refine⟨tl,?_⟩
       apply List.ext_getElem?
       intro j
       have hsz':(a.eval y).cells.toList.length=n:=by simpa using hsz
       rw [<- htl]
       by_cases hj:j<cs.length
       · rw [List.getElem?_append_left (by rw [setAt_length]; exact hj),setAt_get,setAt_get]
         simp only [List.length_append,List.getElem?_append_left hj]
         by_cases hq:i*sz+k<=j/\j<i*sz+k+(a.eval y).cells.toList.length
         · rw [if_pos ⟨hq.1,hq.2,hj⟩,if_pos ⟨hq.1,hq.2,by omega⟩]
         · rw [if_neg (by omega),if_neg (by omega)]
       · rw [List.getElem?_append_right (by rw [setAt_length]; omega),setAt_length,setAt_get,if_neg (by omega),List.getElem?_append_right (by omega)]
     obtain⟨r1,r2⟩:=hr.write hh hc hoks ha g2 g4 hvl' hp' g5 g6 g7 g8 g9
     exact⟨w',h',by simp [execOp,ho,hu,Instr.storeAt,Instr.sureAddr,g1],hk,r1,r2⟩
def zat (P:Program)(s:TypeId)(f:Nat):Option Nat:=
 match P.underlying s with
 |some (.struct fs)=>(fs[f]?).bind fun fl=>(P.info? fl.type).bind fun i=>if i.size=0 then none else some fl.offset
 |_=>none
theorem run_fieldAt {s:TypeId}{f off:Nat}(hf:zat P s f=some off)(w:World)(b oo:Nat):
   (Instr.fieldAt s (.pointer (some ⟨b,oo,none⟩)) f).run P w= .ok (.pointer (some ⟨b,oo+off,none⟩)) w:=by
 unfold zat at hf
 split at hf
 · rename_i fs hs
   obtain⟨fl,h1,h2⟩:=Option.bind_eq_some_iff.1 hf
   obtain⟨i,h3,h4⟩:=Option.bind_eq_some_iff.1 h2
   by_cases hz:i.size=0
   · simp [hz]at h4
   · rw [if_neg hz]at h4
     obtain rfl:=Option.some.inj h4
     simp [Instr.fieldAt,run_underlying hs,h1,Instr.sureAddr,fieldPlace,sizeOf,typeInfo,h3,hz,Addr.add_lit]
 · simp at hf
theorem OpA.fieldAddr {s:TypeId}{x:Operand}{f off c sz i k:Nat}(ho:o.op= .fieldAddr s x f)(hf:zat P s f=some off)(hx:ev fr x= .ptr c sz i k)(hk:K (.ptr c sz i (k+off)) h):OpA P o fr h K:=
 .of_quiet (fun A M w0 a w _ hv=>by
   have h1:=hv x (by simp [ho,Op.operands])
   rw [hx]at h1
   generalize hu:a.eval x=u at h1
   cases h1 with
   | ptr hc=>
     refine⟨_,by simp only [execOp,ho,hu,Sem.run_bind,run_fieldAt hf,Result.andThen_ok,Sem.run_pure]; rfl,?_⟩
     rw [Nat.add_assoc]; exact .ptr hc) hk
theorem OpA.ifieldAddr {s:TypeId}{x:Operand}{f off k:Nat}{e:D}(ho:o.op= .fieldAddr s x f)(hf:zat P s f=some off)(hx:ev fr x= .iptr e k)(hk:K (.iptr e (k+off)) h):OpA P o fr h K:=
 .of_quiet (fun A M w0 a w _ hv=>by
   have h1:=hv x (by simp [ho,Op.operands])
   rw [hx]at h1
   generalize hu:a.eval x=u at h1
   cases h1 with
   | iptr h1 h2 h3=>
     refine⟨_,by simp only [execOp,ho,hu,Sem.run_bind,run_fieldAt hf,Result.andThen_ok,Sem.run_pure]; rfl,?_⟩
     rw [Nat.add_assoc]; exact .iptr h1 h2 h3) hk
theorem OpA.indexAddr {t et:TypeId}{bytes:Nat}{agg:Bool}{x ix:Operand}{kd:IntKind}{j:Int}{c sz i len:Nat}(ho:o.op= .indexAddr t x ix)(ht:TS P t et sz bytes agg)(hx:ev fr x= .own c sz i len)
   (hi:ev fr ix= .v (.int kd j)) (h0:0<=j) (hl:j<len) (hk:K (.ptr c sz (i+j.toNat) 0) h):OpA P o fr h K:=
 .of_quiet (fun A M w0 a w _ hv=>by
   have h1:=hv x (by simp [ho,Op.operands])
   have h2:=hv ix (by simp [ho,Op.operands])
   rw [hx]at h1; rw [hi]at h2
   generalize hu:a.eval x=u at h1
   generalize hu2:a.eval ix=u2 at h2
   cases h2
   cases h1 with
   | own hc hh=>
     rcases hh with⟨hc2,rfl,_⟩|⟨hz,_⟩
     · have e1:i*sz+j.toNat*sz=(i+j.toNat)*sz+0:=by rw [Nat.add_mul]; rfl
       refine⟨_,by simp only [execOp,ho,hu,hu2,Instr.indexAt,asIntOf,Sem.run_bind,run_underlying ht.desc,Result.andThen_ok,Sem.run_pure,Sem.run_ite,if_pos (And.intro h0 hl),ht.elem.size,Addr.add_lit]; rfl,?_⟩
       rw [e1]; exact .ptr hc2
     · omega) hk
theorem OpA.iindexAddr {t et:TypeId}{bytes:Nat}{agg:Bool}{x ix:Operand}{kd:IntKind}{j:Int}{sz:Nat}{ds:List D}{e:D}(ho:o.op= .indexAddr t x ix)(ht:TS P t et sz bytes agg)(hsz:Nat.blt 0 sz=true)(hx:ev fr x= .list sz ds)
   (hi:ev fr ix= .v (.int kd j)) (h0:0<=j) (he:ds[j.toNat]? =some e) (hk:K (.iptr e 0) h):OpA P o fr h K:=
 .of_quiet (fun A M w0 a w _ hv=>by
   have h1:=hv x (by simp [ho,Op.operands])
   have h2:=hv ix (by simp [ho,Op.operands])
   rw [hx]at h1; rw [hi]at h2
   generalize hu:a.eval x=u at h1
   generalize hu2:a.eval ix=u2 at h2
   cases h2
   have hlt:=(List.getElem?_eq_some_iff.1 he).1
   have hsz:0<sz:=by simpa [Nat.blt_eq]using hsz
   cases h1 with
   | @list _ _ cs _ b oo cap hok hvl ha hl hc=>
     have hll:(j:Int)<ds.length:=by omega
     have hcs:cs≠ []:=by
       intro hcs
       have:=hvl.length
       rw [zbq ds hok,hcs]at this
       have h3:0<ds.length*sz:=Nat.mul_pos (by omega) hsz
       simp at this; omega
     obtain rfl:=ha hcs
     refine⟨_,by simp only [execOp,ho,hu,hu2,Instr.indexAt,asIntOf,Sem.run_bind,run_underlying ht.desc,Result.andThen_ok,Sem.run_pure,Sem.run_ite,if_pos (And.intro h0 hll),ht.elem.size,Addr.add_lit]; rfl,?_⟩
     have hoke:=hok e (List.mem_of_getElem? he)
     have hce:=elem_cells hok hvl he
     refine .iptr (b:=b) (o:=oo+j.toNat*sz) (k:=0) hoke.2 hce ?_
     rcases hl with hl|⟨hx1,hl⟩
     · exact absurd hl hcs
     · refine .inr ⟨hx1,fun q c' hq=>?_⟩
       have hqn:q<sz:=by
         have:=(List.getElem?_eq_some_iff.1 hq).1
         simp at this; omega
       rw [List.getElem?_take_of_lt hqn,List.getElem?_drop]at hq
       have:=hl _ c' hq
       rwa [show oo+(j.toNat*sz+q)=oo+j.toNat*sz+q from by omega]at this) hk
theorem OpA.aindexAddr {t et:TypeId}{len esz:Nat}{agg:Bool}{x ix:Operand}{kd:IntKind}{j:Int}{c sz i k:Nat}(ho:o.op= .indexAddr t x ix)(ht:P.underlying t=some (.array len et))(hte:TI P et esz agg)(hx:ev fr x= .ptr c sz i k)
   (hi:ev fr ix= .v (.int kd j)) (h0:0<=j) (hl:j<len) (hk:K (.ptr c sz i (k+j.toNat*esz)) h):OpA P o fr h K:=
 .of_quiet (fun A M w0 a w _ hv=>by
   have h1:=hv x (by simp [ho,Op.operands])
   have h2:=hv ix (by simp [ho,Op.operands])
   rw [hx]at h1; rw [hi]at h2
   generalize hu:a.eval x=u at h1
   generalize hu2:a.eval ix=u2 at h2
   cases h2
   cases h1 with
   | ptr hc=>
     refine⟨_,by simp only [execOp,ho,hu,hu2,Instr.indexAt,asIntOf,Instr.sureAddr,Sem.run_bind,run_underlying ht,Result.andThen_ok,Sem.run_pure,Sem.run_ite,if_pos (And.intro h0 hl),hte.size,Addr.add_lit]; rfl,?_⟩
     rw [Nat.add_assoc]; exact .ptr hc) hk
theorem OpA.extract {x:Operand}{ix:Nat}{ds:List D}{d:D}(ho:o.op= .extract x ix)(hx:ev fr x= .tup ds)(hd:ds[ix]? =some d)(hk:K d h):OpA P o fr h K:=
 .of_quiet (fun A M w0 a w _ hv=>by
   have h1:=hv x (by simp [ho,Op.operands])
   rw [hx]at h1
   generalize hu:a.eval x=u at h1
   cases h1 with
   | @tup _ vs h1=>
     obtain⟨v,h2,h3⟩:=h1.get ix d hd
     exact⟨v,by simp [execOp,ho,hu,Instr.extract,h2],h3⟩) hk
theorem OpA.makeFunc {f:Fn}{fs cs:Array Operand}(ho:o.op= .makeFunc f fs cs)(hk:K (.fn f (fs.toList.map (ev fr)) (cs.toList.map (ev fr))) h):OpA P o fr h K:=
 .of_quiet (fun A M w0 a w _ hv=>by
   have hl:∀ l:List Operand,(∀ x∈l,V w (XX A h) (ev fr x) (a.eval x))->VL w (XX A h) (l.map (ev fr)) (l.map a.eval):=by
     intro l
     induction l with
     |nil=>intro _; exact .nil
     |cons x l ih=>intro hx; exact .cons (hx x (by simp)) (ih fun y hy=>hx y (List.mem_cons_of_mem _ hy))
   refine⟨.func f (fs.toList.map a.eval).toArray (cs.toList.map a.eval).toArray,?_,.fn (hl _ fun x hx=>hv x ?_) (hl _ fun x hx=>hv x ?_)⟩
   · simp only [execOp,ho,Instr.makeFunc,Sem.run_bind,Sem.run_pure,Result.andThen_ok]
     rw [show fs.map a.eval=(fs.toList.map a.eval).toArray from by apply Array.toList_inj.1; simp,show cs.map a.eval=(cs.toList.map a.eval).toArray from by apply Array.toList_inj.1; simp]
   · simp [ho,Op.operands]; exact .inl (by simpa using hx)
   · simp [ho,Op.operands]; exact .inr (by simpa using hx)) hk
theorem OpA.nilCheck {x:Operand}(ho:o.op= .nilCheck x)(hx:(∃ c sz i k,ev fr x= .ptr c sz i k)\/(∃ e k,ev fr x= .iptr e k)\/(∃ f cs,ev fr x= .fn (.func f) [] cs))(hk:K (ev fr x) h):OpA P o fr h K:=
 .of_quiet (fun A M w0 a w _ hv=>by
   have h1:=hv x (by simp [ho,Op.operands])
   refine⟨a.eval x,?_,h1⟩
   generalize hu:a.eval x=u at h1
   rcases hx with⟨c,sz,i,k,hx⟩|⟨e,k,hx⟩|⟨f,cs,hx⟩<;>rw [hx]at h1<;>cases h1
   · simp [execOp,ho,hu]
   · simp [execOp,ho,hu]
   · rename_i h3 h4; cases h3; simp [execOp,ho,hu]) hk
end
end Go.Lic
set_option linter.all false
namespace Go.Lic
variable [Fl]
section
variable {P:Program}{o:Oper}{fr:Nat->D}{h:zbb}{K:D->zbb->Prop}
theorem OpA.arith {op:BinOp}{t t2:TypeId}{x y:Operand}{k:IntKind}{a b r:Int}(ho:o.op= .binOp op t x y t2)(hx:ev fr x= .v (.int k a))(hy:ev fr y= .v (.int k b))
   (hop:(op= .add/\r=k.wrap (a+b))\/(op= .sub/\r=k.wrap (a-b))\/(op= .mul/\r=k.wrap (a*b))) (hk:K (.v (.int k r)) h):OpA P o fr h K:=
 .of_quiet (fun A M w0 ac w _ hv=>by
   have h1:=hv x (by simp [ho,Op.operands])
   have h2:=hv y (by simp [ho,Op.operands])
   rw [hx]at h1; rw [hy]at h2
   generalize hu:ac.eval x=u at h1
   generalize hu2:ac.eval y=u2 at h2
   cases h1; cases h2
   refine⟨_,?_,.v _⟩
   rcases hop with⟨rfl,rfl⟩|⟨rfl,rfl⟩|⟨rfl,rfl⟩
   · simp [execOp,ho,hu,hu2,eqGuard_at_int,binOp_add,Op.intArith]
   · simp [execOp,ho,hu,hu2,eqGuard_at_int,binOp_sub,Op.intArith]
   · simp [execOp,ho,hu,hu2,eqGuard_at_int,binOp_mul,Op.intArith]) hk
theorem OpA.add {t t2:TypeId}{x y:Operand}{k:IntKind}{a b:Int}(ho:o.op= .binOp .add t x y t2)(hx:ev fr x= .v (.int k a))(hy:ev fr y= .v (.int k b))(hk:K (.v (.int k (k.wrap (a+b)))) h):OpA P o fr h K:=
 .arith ho hx hy (.inl ⟨rfl,rfl⟩) hk
theorem OpA.sub {t t2:TypeId}{x y:Operand}{k:IntKind}{a b:Int}(ho:o.op= .binOp .sub t x y t2)(hx:ev fr x= .v (.int k a))(hy:ev fr y= .v (.int k b))(hk:K (.v (.int k (k.wrap (a-b)))) h):OpA P o fr h K:=
 .arith ho hx hy (.inr (.inl ⟨rfl,rfl⟩)) hk
theorem OpA.mul {t t2:TypeId}{x y:Operand}{k:IntKind}{a b:Int}(ho:o.op= .binOp .mul t x y t2)(hx:ev fr x= .v (.int k a))(hy:ev fr y= .v (.int k b))(hk:K (.v (.int k (k.wrap (a*b)))) h):OpA P o fr h K:=
 .arith ho hx hy (.inr (.inr ⟨rfl,rfl⟩)) hk
theorem wrap64_in {x:Int}(h: -9223372036854775808<=x/\x<=9223372036854775807):IntKind.i64.wrap x=x:=by
 rw [IntKind.wrap_i64]; omega
theorem OpA.addi {t t2:TypeId}{x y:Operand}{a b:Int}(ho:o.op= .binOp .add t x y t2)(hx:ev fr x= .i a)(hy:ev fr y= .i b)(hb: -9223372036854775808<=a+b/\a+b<=9223372036854775807)(hk:K (.i (a+b)) h):OpA P o fr h K:=
 .add ho hx hy (by rw [wrap64_in hb]; exact hk)
theorem OpA.subi {t t2:TypeId}{x y:Operand}{a b:Int}(ho:o.op= .binOp .sub t x y t2)(hx:ev fr x= .i a)(hy:ev fr y= .i b)(hb: -9223372036854775808<=a-b/\a-b<=9223372036854775807)(hk:K (.i (a-b)) h):OpA P o fr h K:=
 .sub ho hx hy (by rw [wrap64_in hb]; exact hk)
theorem OpA.muli {t t2:TypeId}{x y:Operand}{a b:Int}(ho:o.op= .binOp .mul t x y t2)(hx:ev fr x= .i a)(hy:ev fr y= .i b)(hb: -9223372036854775808<=a*b/\a*b<=9223372036854775807)(hk:K (.i (a*b)) h):OpA P o fr h K:=
 .mul ho hx hy (by rw [wrap64_in hb]; exact hk)
theorem OpA.cmp {op:BinOp}{t t2:TypeId}{x y:Operand}{k:IntKind}{a b:Int}{r:Bool}(ho:o.op= .binOp op t x y t2)(hx:ev fr x= .v (.int k a))(hy:ev fr y= .v (.int k b))
   (hop:(op= .eql/\r=(a==b))\/(op= .neq/\r=(a != b))\/(op= .lss/\r=decide (a<b))\/(op= .leq/\r=decide (a<=b))\/(op= .gtr/\r=decide (a>b))\/(op= .geq/\r=decide (a>=b))) (hk:K (.b r) h):OpA P o fr h K:=
 .of_quiet (fun A M w0 ac w _ hv=>by
   have h1:=hv x (by simp [ho,Op.operands])
   have h2:=hv y (by simp [ho,Op.operands])
   rw [hx]at h1; rw [hy]at h2
   generalize hu:ac.eval x=u at h1
   generalize hu2:ac.eval y=u2 at h2
   cases h1; cases h2
   refine⟨_,?_,.v _⟩
   rcases hop with⟨rfl,rfl⟩|⟨rfl,rfl⟩|⟨rfl,rfl⟩|⟨rfl,rfl⟩|⟨rfl,rfl⟩|⟨rfl,rfl⟩
   · simp only [execOp,ho,hu,hu2,eqGuard_at_int,binOp_eql,Sem.run_bind,Sem.run_pure,Result.andThen_ok]
   · simp only [execOp,ho,hu,hu2,eqGuard_at_int,binOp_neq,Sem.run_bind,Sem.run_pure,Result.andThen_ok]
   · simp only [execOp,ho,hu,hu2,eqGuard_at_int,binOp_lss,Sem.run_bind,Sem.run_pure,Result.andThen_ok]
   · simp only [execOp,ho,hu,hu2,eqGuard_at_int,binOp_leq,Sem.run_bind,Sem.run_pure,Result.andThen_ok]
   · simp only [execOp,ho,hu,hu2,eqGuard_at_int,binOp_gtr,Sem.run_bind,Sem.run_pure,Result.andThen_ok]
   · simp only [execOp,ho,hu,hu2,eqGuard_at_int,binOp_geq,Sem.run_bind,Sem.run_pure,Result.andThen_ok]) hk
section
variable {t t2:TypeId}{x y:Operand}{k:IntKind}{a b:Int}(hx:ev fr x= .v (.int k a))(hy:ev fr y= .v (.int k b))
include hx hy
theorem OpA.eql (ho:o.op= .binOp .eql t x y t2)(hk:K (.b (a==b)) h):OpA P o fr h K:= .cmp ho hx hy (.inl ⟨rfl,rfl⟩) hk
theorem OpA.neq (ho:o.op= .binOp .neq t x y t2)(hk:K (.b (a != b)) h):OpA P o fr h K:= .cmp ho hx hy (.inr (.inl ⟨rfl,rfl⟩)) hk
theorem OpA.lss (ho:o.op= .binOp .lss t x y t2)(hk:K (.b (decide (a<b))) h):OpA P o fr h K:= .cmp ho hx hy (.inr (.inr (.inl ⟨rfl,rfl⟩))) hk
theorem OpA.leq (ho:o.op= .binOp .leq t x y t2)(hk:K (.b (decide (a<=b))) h):OpA P o fr h K:= .cmp ho hx hy (.inr (.inr (.inr (.inl ⟨rfl,rfl⟩)))) hk
theorem OpA.gtr (ho:o.op= .binOp .gtr t x y t2)(hk:K (.b (decide (a>b))) h):OpA P o fr h K:= .cmp ho hx hy (.inr (.inr (.inr (.inr (.inl ⟨rfl,rfl⟩))))) hk
theorem OpA.geq (ho:o.op= .binOp .geq t x y t2)(hk:K (.b (decide (a>=b))) h):OpA P o fr h K:= .cmp ho hx hy (.inr (.inr (.inr (.inr (.inr ⟨rfl,rfl⟩))))) hk
end
theorem OpA.not {t:TypeId}{x:Operand}{b:Bool}(ho:o.op= .unOp .not t x)(hx:ev fr x= .b b)(hk:K (.b (!b)) h):OpA P o fr h K:=
 .of_quiet (fun A M w0 ac w _ hv=>by
   have h1:=hv x (by simp [ho,Op.operands])
   rw [hx]at h1
   generalize hu:ac.eval x=u at h1
   cases h1
   exact⟨.bool !b,by simp [execOp,ho,hu,Op.unary],.v _⟩) hk
theorem str_beq (a b:ByteArray):(a.toList==b.toList)=decide (a=b):=by
 rw [Bool.eq_iff_iff]; simp only [beq_iff_eq,decide_eq_true_eq,ByteArray.toList_eq]
 constructor
 · intro hab; cases a; cases b; simpa using hab
 · intro hab; rw [hab]
def sless (a b:ByteArray):Bool:=Op.bytesLess a.data.toList b.data.toList
theorem OpA.strop {op:BinOp}{t t2:TypeId}{x y:Operand}{a b:ByteArray}{r:Value}(ho:o.op= .binOp op t x y t2)(hx:ev fr x= .s a)(hy:ev fr y= .s b)
   (hop:(op= .eql/\r= .bool (decide (a=b)))\/(op= .neq/\r= .bool (!decide (a=b)))\/(op= .lss/\r= .bool (sless a b))\/(op= .leq/\r= .bool (sless a b||decide (a=b)))\/
     (op= .gtr/\r= .bool (!(sless a b||decide (a=b))))\/(op= .geq/\r= .bool (!sless a b))\/(op= .add/\a.size+b.size<=9223372036854775807/\r= .string (a++b))) (hk:K (.v r) h):OpA P o fr h K:=
 .of_quiet (fun A M w0 ac w _ hv=>by
   have h1:=hv x (by simp [ho,Op.operands])
   have h2:=hv y (by simp [ho,Op.operands])
   rw [hx]at h1; rw [hy]at h2
   generalize hu:ac.eval x=u at h1
   generalize hu2:ac.eval y=u2 at h2
   cases h1; cases h2
   refine⟨_,?_,.v _⟩
   have e1:=str_beq a b
   have e2:Op.bytesLess a.toList b.toList=sless a b:=by simp only [sless,ByteArray.toList_eq]
   rcases hop with⟨rfl,rfl⟩|⟨rfl,rfl⟩|⟨rfl,rfl⟩|⟨rfl,rfl⟩|⟨rfl,rfl⟩|⟨rfl,rfl⟩|⟨rfl,hs,rfl⟩
   · simp only [execOp,ho,hu,hu2,eqGuard_at_string,binOp,Op.stringOp,Sem.run_bind,Sem.run_pure,Result.andThen_ok,e1]
   · simp only [execOp,ho,hu,hu2,eqGuard_at_string,binOp,Op.stringOp,Sem.run_bind,Sem.run_pure,Result.andThen_ok,e1]
   · simp only [execOp,ho,hu,hu2,eqGuard_at_string,binOp,Op.stringOp,Sem.run_bind,Sem.run_pure,Result.andThen_ok,e2]
   · simp only [execOp,ho,hu,hu2,eqGuard_at_string,binOp,Op.stringOp,Sem.run_bind,Sem.run_pure,Result.andThen_ok,e1,e2]
   · simp only [execOp,ho,hu,hu2,eqGuard_at_string,binOp,Op.stringOp,Sem.run_bind,Sem.run_pure,Result.andThen_ok,e1,e2]
   · simp only [execOp,ho,hu,hu2,eqGuard_at_string,binOp,Op.stringOp,Sem.run_bind,Sem.run_pure,Result.andThen_ok,e2]
   · have hn:¬((a.size+b.size:Nat):Int)>IntKind.i64.max:=by rw [IntKind.max_i64]; omega
     simp only [execOp,ho,hu,hu2,eqGuard_at_string,binOp,Op.stringOp,Sem.run_bind,Sem.run_pure,Result.andThen_ok,if_neg hn]) hk
section
variable {t t2:TypeId}{x y:Operand}{a b:ByteArray}(hx:ev fr x= .s a)(hy:ev fr y= .s b)
include hx hy
theorem OpA.seql (ho:o.op= .binOp .eql t x y t2)(hk:K (.b (decide (a=b))) h):OpA P o fr h K:= .strop ho hx hy (.inl ⟨rfl,rfl⟩) hk
theorem OpA.sneq (ho:o.op= .binOp .neq t x y t2)(hk:K (.b (!decide (a=b))) h):OpA P o fr h K:= .strop ho hx hy (.inr (.inl ⟨rfl,rfl⟩)) hk
theorem OpA.slss (ho:o.op= .binOp .lss t x y t2)(hk:K (.b (sless a b)) h):OpA P o fr h K:= .strop ho hx hy (.inr (.inr (.inl ⟨rfl,rfl⟩))) hk
theorem OpA.sleq (ho:o.op= .binOp .leq t x y t2)(hk:K (.b (sless a b||decide (a=b))) h):OpA P o fr h K:= .strop ho hx hy (.inr (.inr (.inr (.inl ⟨rfl,rfl⟩)))) hk
theorem OpA.sadd (ho:o.op= .binOp .add t x y t2)(hs:a.size+b.size<=9223372036854775807)(hk:K (.s (a++b)) h):OpA P o fr h K:= .strop ho hx hy (.inr (.inr (.inr (.inr (.inr (.inr ⟨rfl,hs,rfl⟩)))))) hk
end
theorem OpA.bcmp {op:BinOp}{t t2:TypeId}{x y:Operand}{a b r:Bool}(ho:o.op= .binOp op t x y t2)(ht:P.underlying t=some .bool)(hx:ev fr x= .b a)(hy:ev fr y= .b b)
   (hop:(op= .eql/\r=(a==b))\/(op= .neq/\r=(a != b))) (hk:K (.b r) h):OpA P o fr h K:=
 .of_quiet (fun A M w0 ac w _ hv=>by
   have h1:=hv x (by simp [ho,Op.operands])
   have h2:=hv y (by simp [ho,Op.operands])
   rw [hx]at h1; rw [hy]at h2
   generalize hu:ac.eval x=u at h1
   generalize hu2:ac.eval y=u2 at h2
   cases h1; cases h2
   refine⟨.bool r,?_,.v _⟩
   rcases hop with⟨rfl,rfl⟩|⟨rfl,rfl⟩
   · simp only [execOp,ho,hu,hu2,eqGuard_at_bool,Sem.run_bind,Sem.run_pure,Result.andThen_ok,run_eql_bool w t a b ht]
   · simp only [execOp,ho,hu,hu2,eqGuard_at_bool,Sem.run_bind,Sem.run_pure,Result.andThen_ok,run_neq_bool w t a b ht]; rfl) hk
theorem OpA.sindex {t:TypeId}{x ix:Operand}{k:IntKind}{j:Int}{s:ByteArray}{u:UInt8}(ho:o.op= .index t x ix)(ht:P.underlying t=some .string)(hx:ev fr x= .s s)(hi:ev fr ix= .v (.int k j))(h0:0<=j)
   (hu:s.data.toList[j.toNat]? =some u) (hk:K (.v (.int .u8 u.toNat)) h):OpA P o fr h K:=
 .of_quiet (fun A M w0 ac w _ hv=>by
   have h1:=hv x (by simp [ho,Op.operands])
   have h2:=hv ix (by simp [ho,Op.operands])
   rw [hx]at h1; rw [hi]at h2
   generalize hu1:ac.eval x=u1 at h1
   generalize hu2:ac.eval ix=u2 at h2
   cases h1; cases h2
   have hs:s[j.toNat]? =some u:=by
     have hlt:=(List.getElem?_eq_some_iff.1 hu).1
     have hlt':j.toNat<s.size:=by simpa using hlt
     rw [getElem?_pos s j.toNat hlt']
     have:=(List.getElem?_eq_some_iff.1 hu).2
     simp at this
     rw [<- this]; rfl
   exact⟨.int .u8 u.toNat,by simp [execOp,ho,hu1,hu2,Instr.index,asIntOf,run_underlying ht,if_pos h0,hs],.v _⟩) hk
theorem OpA.len {t:TypeId}{c:Call}{x:Operand}{e:TypeId}{n:Nat}(ho:o.op= .call c)(hc:c.callee= .builtin .len)(ha:c.args= #[x])(hty:c.argTypes= #[t])(ht:P.underlying t=some (.slice e))
   (hx:(∃ sz ds,ev fr x= .list sz ds/\n=ds.length)\/(∃ c sz i,ev fr x= .own c sz i n)\/(ev fr x= .v (.slice none 0 0)/\n=0)) (hk:K (.i n) h):OpA P o fr h K:=
 .of_quiet (fun A M w0 ac w _ hv=>by
   have h1:=hv x (by simp [ho,Op.operands,Call.operands,hc,ha])
   generalize hu:ac.eval x=u at h1
   have key:∃ a cap,u= .slice a n cap:=by
     rcases hx with⟨sz,ds,hx,rfl⟩|⟨c,sz,i,hx⟩|⟨hx,rfl⟩<;>rw [hx]at h1<;>cases h1<;>exact⟨_,_,rfl⟩
   obtain⟨a,cap,rfl⟩:=key
   exact⟨.int .i64 n,by simp [execOp,ho,hc,resolve,invoke,builtin,Builtin.len_,hty,ha,hu,run_underlying ht,goInt],.v _⟩) hk
theorem OpA.slen {t:TypeId}{c:Call}{x:Operand}{s:ByteArray}(ho:o.op= .call c)(hc:c.callee= .builtin .len)(ha:c.args= #[x])(hty:c.argTypes= #[t])(ht:P.underlying t=some .string)
   (hx:ev fr x= .s s) (hk:K (.i s.size) h):OpA P o fr h K:=
 .of_quiet (fun A M w0 ac w _ hv=>by
   have h1:=hv x (by simp [ho,Op.operands,Call.operands,hc,ha])
   rw [hx]at h1
   generalize hu:ac.eval x=u at h1
   cases h1
   exact⟨.int .i64 s.size,by simp [execOp,ho,hc,resolve,invoke,builtin,Builtin.len_,hty,ha,hu,run_underlying ht,goInt],.v _⟩) hk
theorem foldlM_min {w:World}{k:IntKind}:∀(l:List Int) (z:Int),((l.map (Value.int k)).foldlM Builtin.min2 (.int k z)).run P w= .ok (.int k (l.foldl (fun x y=>if y<x then y else x) z)) w
 | [],z=>by simp
 |y::l,z=>by simp only [List.map_cons,List.foldlM_cons,Sem.run_bind,Builtin.min2,Sem.run_pure,Result.andThen_ok,List.foldl_cons]; exact foldlM_min l _
theorem foldlM_max {w:World}{k:IntKind}:∀(l:List Int) (z:Int),((l.map (Value.int k)).foldlM Builtin.max2 (.int k z)).run P w= .ok (.int k (l.foldl (fun x y=>if x<y then y else x) z)) w
 | [],z=>by simp
 |y::l,z=>by simp only [List.map_cons,List.foldlM_cons,Sem.run_bind,Builtin.max2,Sem.run_pure,Result.andThen_ok,List.foldl_cons]; exact foldlM_max l _
theorem ev_ints {w:World}{X:Nat->Prop}{k:IntKind}{ac:Act}:∀(xs:List Operand) (l:List Int),(∀ x∈xs,V w X (ev fr x) (ac.eval x))->xs.map (ev fr)=l.map (fun n=> .v (.int k n))->xs.map ac.eval=l.map (Value.int k)
 | [],[],_,_=>rfl
 | [],_::_,_,h=>by simp at h
 |_::_,[],_,h=>by simp at h
 | x::xs,n::l,hv,h=>by
   simp only [List.map_cons,List.cons.injEq]at h
   have h1:=hv x (by simp)
   rw [h.1]at h1
   generalize hu:ac.eval x=u at h1
   cases h1
   simp only [List.map_cons,hu,ev_ints xs l (fun y hy=>hv y (List.mem_cons_of_mem _ hy)) h.2]
theorem OpA.min {c:Call}{xs:List Operand}{k:IntKind}{z:Int}{l:List Int}(ho:o.op= .call c)(hc:c.callee= .builtin .min)(ha:c.args.toList=xs)(hx:xs.map (ev fr)=(z::l).map (fun n=> .v (.int k n)))
   (hk:K (.v (.int k (l.foldl (fun x y=>if y<x then y else x) z))) h):OpA P o fr h K:=
 .of_quiet (fun A M w0 ac w _ hv=>by
   have h1:=ev_ints (ac:=ac) xs (z::l) (fun x hx=>hv x (by rw [<- ha]at hx; simp [ho,Op.operands,Call.operands,hc]; simpa using hx)) hx
   have h2:(c.args.map ac.eval).toList= .int k z::l.map (Value.int k):=by rw [Array.toList_map,ha,h1]; rfl
   exact⟨_,by simp only [execOp,ho,hc,resolve,invoke,builtin,Builtin.min_,Sem.run_bind,Sem.run_pure,Result.andThen_ok,h2,foldlM_min],.v _⟩) hk
theorem OpA.max {c:Call}{xs:List Operand}{k:IntKind}{z:Int}{l:List Int}(ho:o.op= .call c)(hc:c.callee= .builtin .max)(ha:c.args.toList=xs)(hx:xs.map (ev fr)=(z::l).map (fun n=> .v (.int k n)))
   (hk:K (.v (.int k (l.foldl (fun x y=>if x<y then y else x) z))) h):OpA P o fr h K:=
 .of_quiet (fun A M w0 ac w _ hv=>by
   have h1:=ev_ints (ac:=ac) xs (z::l) (fun x hx=>hv x (by rw [<- ha]at hx; simp [ho,Op.operands,Call.operands,hc]; simpa using hx)) hx
   have h2:(c.args.map ac.eval).toList= .int k z::l.map (Value.int k):=by rw [Array.toList_map,ha,h1]; rfl
   exact⟨_,by simp only [execOp,ho,hc,resolve,invoke,builtin,Builtin.max_,Sem.run_bind,Sem.run_pure,Result.andThen_ok,h2,foldlM_max],.v _⟩) hk
end
end Go.Lic
set_option linter.all false
namespace Go.Lic
variable [Fl]
inductive Bd (fr:Nat->D):Option Operand->Nat->Nat->Prop
 |none (n:Nat):Bd fr none n n
 |some {x:Operand} {k:IntKind} {i:Int} {d:Nat} (hx:ev fr x= .v (.int k i)) (h0:0<=i):Bd fr (some x) d i.toNat
theorem run_sliceBound' {P:Program}{w:World}{k:IntKind}{i:Int}{y:Nat}{c:BoundsCode}(h0:0<=i)(h:i.toNat<=y):(Instr.sliceBound (.int k i) y c).run P w= .ok i.toNat w:=by
 have:0<=i/\i<=y:=⟨h0,by omega⟩
 simp only [Instr.sliceBound,asIntOf,Sem.run_bind,Sem.run_pure,Result.andThen_ok,if_pos this]
theorem run_sliceBounds' {P:Program}{w:World}{X:Nat->Prop}{fr:Nat->D}{ac:Act}{lo hi:Option Operand}{b:Bool}{len cap l h:Nat}(hl:Bd fr lo 0 l)(hh:Bd fr hi len h)
   (hv:∀ x,(x∈lo\/x∈hi)->V w X (ev fr x) (ac.eval x)) (h1:l<=h) (h2:h<=cap):(Instr.sliceBounds b len cap (lo.map ac.eval) (hi.map ac.eval) none).run P w= .ok (l,h,cap) w:=by
 have eval:∀ x k i,(x∈lo\/x∈hi)->ev fr x= .v (.int k i)->ac.eval x= .int k i:=fun x k i hx he=>by
   have:=hv x hx
   rw [he]at this
   generalize hu:ac.eval x=u at this
   cases this; rfl
 cases hl with
 | none=>
   cases hh with
   |none=>simp [Instr.sliceBounds]
   | some hx h0=>
     rename_i x k i
     have:=eval x k i (.inr rfl) hx
     simp [Instr.sliceBounds,this,run_sliceBound' h0 h2]
 | some hx h0=>
   rename_i x k i
   have e1:=eval x k i (.inl rfl) hx
   cases hh with
   |none=>simp [Instr.sliceBounds,e1,run_sliceBound' h0 h1]
   | some hx' h0'=>
     rename_i x' k' i'
     have e2:=eval x' k' i' (.inr rfl) hx'
     simp [Instr.sliceBounds,e1,e2,run_sliceBound' h0' h2,run_sliceBound' h0 h1]
section
variable {P:Program}{o:Oper}{fr:Nat->D}{h:zbb}{K:D->zbb->Prop}
theorem slice_operands {t:TypeId}{x:Operand}{lo hi:Option Operand}(ho:o.op= .slice t x lo hi none):x∈o.op.operands/\∀ y,(y∈lo\/y∈hi)->y∈o.op.operands:=by
 refine⟨by simp [ho,Op.operands],fun y hy=>?_⟩
 simp only [ho,Op.operands]
 rcases hy with hy|hy
 · have:lo=some y:=hy
   subst this; simp
 · have:hi=some y:=hy
   subst this; simp
theorem OpA.slice {t et:TypeId}{bytes:Nat}{agg:Bool}{x:Operand}{lo hi:Option Operand}{c sz i len l r:Nat}(ho:o.op= .slice t x lo hi none)(ht:TS P t et sz bytes agg)(hx:ev fr x= .own c sz i len)
   (hl:Bd fr lo 0 l) (hh:Bd fr hi len r) (h1:l<=r) (h2:r<=len) (hk:K (.own c sz (i+l) (r-l)) h):OpA P o fr h K:=
 .of_quiet (fun A M w0 ac w _ hv=>by
   have h3:=hv x (slice_operands ho).1
   rw [hx]at h3
   generalize hu:ac.eval x=u at h3
   cases h3 with
   | @own _ _ _ _ cap a hc hd=>
     have hb:=run_sliceBounds' (P:=P) (b:=true) (cap:=cap) hl hh (fun y hy=>hv y ((slice_operands ho).2 y hy)) h1 (by omega)
     refine⟨.slice (if cap=l then a else a.map (·.add (l*sz))) (r-l) (cap-l),?_,.own (by omega) ?_⟩
     · simp [execOp,ho,hu,Instr.sliceAt,Instr.slice,run_underlying ht.desc,hb,ht.elem.size]
     · rcases hd with⟨hc2,rfl,e,n,hs,hn⟩|⟨hz,hz2⟩
       · by_cases hcl:cap=l
         · exact .inr ⟨by omega,by omega⟩
         · refine .inl ⟨hc2,by simp [if_neg hcl,Addr.add_lit,Nat.add_mul],e,n,hs,?_⟩
           rwa [show i+l+(cap-l)=i+cap from by omega]
       · exact .inr ⟨by omega,by omega⟩) hk
theorem OpA.islice {t et:TypeId}{bytes:Nat}{agg:Bool}{x:Operand}{lo hi:Option Operand}{sz l r:Nat}{ds:List D}(ho:o.op= .slice t x lo hi none)(ht:TS P t et sz bytes agg)(hx:ev fr x= .list sz ds)
   (hl:Bd fr lo 0 l) (hh:Bd fr hi ds.length r) (h1:l<=r) (h2:r<=ds.length) (hk:K (.list sz ((ds.take r).drop l)) h):OpA P o fr h K:=
 .of_quiet (fun A M w0 ac w _ hv=>by
   have h3:=hv x (slice_operands ho).1
   rw [hx]at h3
   generalize hu:ac.eval x=u at h3
   cases h3 with
   | @list _ _ cs a b oo cap hok hvl ha hlie hc=>
     have hb:=run_sliceBounds' (P:=P) (b:=true) (cap:=cap) hl hh (fun y hy=>hv y ((slice_operands ho).2 y hy)) h1 (by omega)
     refine⟨.slice (if cap=l then a else a.map (·.add (l*sz))) (r-l) (cap-l),?_,?_⟩
     · simp [execOp,ho,hu,Instr.sliceAt,Instr.slice,run_underlying ht.desc,hb,ht.elem.size]
     · have hlen:((ds.take r).drop l).length=r-l:=by simp; omega
       have hoks:∀ d∈(ds.take r).drop l,d.ok sz:=fun d hd=>hok d (List.mem_of_mem_take (List.mem_of_mem_drop hd))
       rw [<- hlen]
       refine .list (cs:=(cs.take (r*sz)).drop (l*sz)) (b:=b) (o:=oo+l*sz) hoks ?_ ?_ ?_ (by omega)
       · rw [flats_drop _ (fun d hd=>hok d (List.mem_of_mem_take hd)),flats_take _ hok]
         exact(hvl.take _).drop _
       · intro hne
         have hcs:cs≠ []:=fun e=>hne (by simp [e])
         obtain rfl:=ha hcs
         by_cases hcl:cap=l
         · exfalso; apply hne
           have:r=l:=by omega
           subst this
           simp
         · simp [if_neg hcl,Addr.add_lit]
       · rcases hlie with hlie|⟨hx1,hlie⟩
         · exact .inl (by simp [hlie])
         · refine .inr ⟨hx1,fun j c hj=>?_⟩
           rw [List.getElem?_drop]at hj
           have hlt:=(List.getElem?_eq_some_iff.1 hj).1
           rw [List.length_take]at hlt
           rw [List.getElem?_take_of_lt (by omega)]at hj
           have:=hlie _ c hj
           rwa [show oo+(l*sz+j)=oo+l*sz+j from by omega]at this) hk
theorem OpA.sslice {t:TypeId}{x:Operand}{lo hi:Option Operand}{l r:Nat}{s:ByteArray}(ho:o.op= .slice t x lo hi none)(ht:P.underlying t=some .string)(hx:ev fr x= .s s)
   (hl:Bd fr lo 0 l) (hh:Bd fr hi s.size r) (h1:l<=r) (h2:r<=s.size) (hk:K (.s (s.extract l r)) h):OpA P o fr h K:=
 .of_quiet (fun A M w0 ac w _ hv=>by
   have h3:=hv x (slice_operands ho).1
   rw [hx]at h3
   generalize hu:ac.eval x=u at h3
   cases h3
   have hb:=run_sliceBounds' (P:=P) (b:=false) (cap:=s.size) hl hh (fun y hy=>hv y ((slice_operands ho).2 y hy)) h1 h2
   exact⟨.string (s.extract l r),by simp [execOp,ho,hu,Instr.sliceAt,Instr.slice,run_underlying ht,hb],.v _⟩) hk
theorem foldl_sets (vs:List Value):∀(k off:Nat) (cs:Array Value),((vs.zipIdx k).foldl (fun cs (x:Value×Nat)=>cs.setIfInBounds (off+x.2) x.1) cs).toList=setAt cs.toList (off+k) vs:=by
 induction vs with
 |nil=>intro k off cs; rfl
 | cons v vs ih=>
   intro k off cs
   simp only [List.zipIdx_cons,List.foldl_cons,setAt]
   rw [ih (k+1) off]
   simp [Nat.add_assoc]
def fillD (place:Nat->Option (Nat×Nat))(cells:List D):List (Nat×D)->Option (List D)
 | []=>some cells
 | (i,d)::rest=>
   match place i with
   |none=>none
   |some (off,size)=>cond (Nat.beq d.flat.length size&&Nat.ble (off+d.flat.length) cells.length) (fillD place (setAt cells off d.flat) rest) none
theorem fill_of_fillD {w:World}{X:Nat->Prop}{place:Nat->Option (Nat×Nat)}:∀(ps:List (Nat×D)) (qs:List (Nat×Value)) (ds es:List D) (cs:Array Value),VL w X ds cs.toList->
   ps.map (·.1)=qs.map (·.1)->VL w X (ps.map (·.2)) (qs.map (·.2))->(∀ p∈ps,∃ sz,p.2.ok sz)->fillD place ds ps=some es->∃ cs',Instr.fill place cs qs=some cs'/\VL w X es cs'.toList
 | [],qs,ds,es,cs,hv,h1,_,_,h2=>by
   cases qs with
   |nil=>simp [fillD]at h2; subst h2; exact⟨cs,rfl,hv⟩
   |cons _ _=>simp at h1
 |(i,d)::ps,[],ds,es,cs,hv,h1,_,_,h2=>by simp at h1
 | (i, d)::ps,(j,v)::qs,ds,es,cs,hv,h1,hvs,hok,h2=>by
   simp only [List.map_cons,List.cons.injEq]at h1
   obtain⟨rfl,h1⟩:=h1
   cases hvs with
   | cons hd hvs=>
     obtain⟨sz,hsz⟩:=hok (i,d) (by simp)
     have hsz:d.ok sz:=hsz
     have hcl:v.cells.size=sz:=hd.cells_size hsz
     have hcv:=hd.cells hsz
     simp only [fillD]at h2
     simp only [Instr.fill]
     cases hp:place i with
     |none=>simp [hp]at h2
     | some os=>
       obtain⟨off,size⟩:=os
       simp only [hp]at h2 ⊢
       cases hb:(Nat.beq d.flat.length size&&Nat.ble (off+d.flat.length) ds.length)with
       |false=>simp [hb]at h2
       | true=>
         rw [hb]at h2
         simp only [Bool.and_eq_true]at hb
         have e1:=Nat.eq_of_beq_eq_true hb.1
         have e2:=Nat.le_of_ble_eq_true hb.2
         have hlen:=hv.length
         simp only [Array.length_toList]at hlen
         have hfl:d.flat.length=sz:=hsz.1
         have hcond:¬((decide (v.cells.size≠size)||decide (off+v.cells.size>cs.size))=true):=by
           rw [Bool.or_eq_true,decide_eq_true_eq,decide_eq_true_eq]; omega
         rw [if_neg hcond]
         refine fill_of_fillD ps qs (setAt ds off d.flat) es _ ?_ h1 hvs (fun p hp=>hok p (List.mem_cons_of_mem _ hp)) h2
         have:=foldl_sets v.cells.toList 0 off cs
         rw [<- Array.foldl_toList,Array.toList_zipIdx]
         rw [this]
         exact VL.setAt hcv off hv
def placesOf (P:Program)(t:TypeId):Option (List (Nat×Nat)):=
 match P.underlying t with
 |some (.struct fs)=>fs.toList.mapM fun f=>(P.info? f.type).map fun i=>(f.offset,i.size)
 |_=>none
theorem mapM_places {w:World}:∀(fs:List Field) (l:List (Nat×Nat)),(fs.mapM fun f=>(P.info? f.type).map fun i=>(f.offset,i.size))=some l->
   (fs.mapM fun f=>do pure (f.offset,<-sizeOf f.type):Sem (List (Nat×Nat))).run P w= .ok l w
 | [],l,hl=>by simp at hl; subst hl; simp
 | f::fs,l,hl=>by
   rw [List.mapM_cons]at hl
   obtain⟨x,h1,hl⟩:=Option.bind_eq_some_iff.1 hl
   obtain⟨xs,h2,hl⟩:=Option.bind_eq_some_iff.1 hl
   obtain⟨i,h3,rfl⟩:=Option.map_eq_some_iff.1 h1
   cases hl
   rw [List.mapM_cons]
   have hs:(sizeOf f.type).run P w= .ok i.size w:=by simp [sizeOf,typeInfo,h3]
   simp only [Sem.run_bind,hs,Result.andThen_ok,Sem.run_pure,mapM_places fs xs h2]
theorem parts_VL {w:World}{X:Nat->Prop}{ac:Act}:∀(ps:List (Nat×Operand)),(∀ p∈ps,V w X (ev fr p.2) (ac.eval p.2))->VL w X (ps.map fun p=>ev fr p.2) (ps.map fun p=>ac.eval p.2)
 | [],_=> .nil
 |p::ps,hv=> .cons (hv p (by simp)) (parts_VL ps fun q hq=>hv q (List.mem_cons_of_mem _ hq))
theorem OpA.build {t:TypeId}{parts:Array (Nat×Operand)}{pl:List (Nat×Nat)}{zc:Array Value}{zs ds:List D}(ho:o.op= .build t parts)(hp:placesOf P t=some pl)(hz:(P.info? t).bind (·.zero)=some (.agg zc))
   (hzs:∀ w X,VL w X zs zc.toList) (hok:∀ p∈parts.toList,∃ sz,(ev fr p.2).ok sz) (hd:fillD (pl[·]?) zs (parts.toList.map fun p=>(p.1,ev fr p.2))=some ds) (hk:K (.agg ds) h):OpA P o fr h K:=
 .of_quiet (fun A M w0 ac w _ hv=>by
   have hvs:=parts_VL (ac:=ac) parts.toList (fun p hp=>hv p.2 (by simp [ho,Op.operands]; exact⟨p.1,by simpa using hp⟩))
   obtain⟨cs',h1,h2⟩:=fill_of_fillD (place:=(pl[·]?)) (parts.toList.map fun p=>(p.1,ev fr p.2)) (parts.toList.map fun p=>(p.1,ac.eval p.2)) zs ds zc (hzs w _) (by simp) (by rw [List.map_map,List.map_map]; exact hvs)
     (by intro p hp; obtain⟨q,hq,rfl⟩:=List.mem_map.1 hp; exact hok q hq) hd
   refine⟨.agg cs',?_,.agg (vs:=cs'.toList) h2⟩
   unfold placesOf at hp
   split at hp
   · rename_i fs hs
     have hpl:=mapM_places (P:=P) (w:=w) fs.toList pl hp
     have hzr:(zeroValue t).run P w= .ok (.agg zc) w:=by
       obtain⟨i,hi,hi2⟩:=Option.bind_eq_some_iff.1 hz
       simp [zeroValue,typeInfo,hi,hi2]
     have hpa:(fs.mapM fun f=>do pure (f.offset,<-sizeOf f.type):Sem (Array (Nat×Nat))).run P w= .ok pl.toArray w:=by
       rw [Array.mapM_eq_mapM_toList]
       simp only [Sem.run_map,hpl,Result.andThen_ok]
     have hpt:(parts.map fun(x:Nat×Operand)=>(x.1,ac.eval x.2)).toList=parts.toList.map fun p=>(p.1,ac.eval p.2):=by simp
     simp only [execOp,ho,Instr.build,Sem.run_bind,hzr,Result.andThen_ok,run_underlying hs,hpa,Value.cells,hpt]
     have hpf:(fun x:Nat=>(pl.toArray)[x]?)=fun x=>pl[x]? :=by funext x; simp
     rw [hpf,h1]
     rfl
   · simp at hp) hk
end
end Go.Lic
set_option linter.all false
namespace Go.Lic
variable [Fl]
theorem setAt_eq {α:Type}(l xs:List α)(i:Nat)(h:i+xs.length<=l.length):setAt l i xs=l.take i++xs++l.drop (i+xs.length):=by
 apply List.ext_getElem?
 intro j
 rw [setAt_get]
 by_cases h1:i<=j/\j<i+xs.length/\j<l.length
 · rw [if_pos h1,List.append_assoc,List.getElem?_append_right (by simp; omega),List.getElem?_append_left (by simp; omega)]
   congr 1; simp; omega
 · rw [if_neg h1]
   by_cases h2:j<i
   · rw [List.append_assoc,List.getElem?_append_left (by simp; omega),List.getElem?_take_of_lt h2]
   · rw [List.getElem?_append_right (by simp; omega),List.getElem?_drop]
     congr 1; simp; omega
theorem fillD_row {sz:Nat}:∀(ds:List D) (k:Nat) (cells:List D) (ps:List (Nat×D)),(∀ d∈ds,d.ok sz)->(k+ds.length)*sz<=cells.length->ps.map (·.1)=List.range' k ds.length->ps.map (·.2)=ds->
   fillD (fun i=>some (i*sz,sz)) cells ps=some (cells.take (k*sz)++D.flats ds++cells.drop ((k+ds.length)*sz))
 | [],k,cells,ps,_,_,h1,_=>by
   have:ps= []:=by simpa using h1
   subst this
   simp [fillD,D.flats]
 |d::ds,k,cells,[],_,_,_,h2=>by simp at h2
 | d ::ds,k,cells,(i,e)::ps,hok,hl,h1,h2=>by
   simp only [List.map_cons,List.cons.injEq,List.length_cons,List.range'_succ]at h1 h2
   obtain⟨rfl,h1⟩:=h1
   obtain⟨rfl,h2⟩:=h2
   have he:=(hok e (by simp)).1
   simp only [List.length_cons]at hl ⊢
   have e1:(i+(ds.length+1))*sz=i*sz+sz+ds.length*sz:=by rw [show i+(ds.length+1)=i+1+ds.length from by omega,Nat.add_mul,Nat.succ_mul]
   have hb:(Nat.beq e.flat.length sz&&Nat.ble (i*sz+e.flat.length) cells.length)=true:=by
     rw [Bool.and_eq_true]
     refine⟨?_,Nat.ble_eq_true_of_le (by omega)⟩
     rw [he]; simp
   simp only [fillD,hb,cond_true]
   have e2:(i+1+ds.length)*sz=i*sz+sz+ds.length*sz:=by rw [Nat.add_mul,Nat.succ_mul]
   rw [fillD_row ds (i+1) _ ps (fun x hx=>hok x (List.mem_cons_of_mem _ hx)) (by rw [setAt_length,e2]; omega) h1 h2]
   congr 1
   rw [setAt_eq _ _ _ (by omega),he,flats_cons,e1,e2,Nat.succ_mul]
   have t1:(cells.take (i*sz)++e.flat++cells.drop (i*sz+sz)).take (i*sz+sz)=cells.take (i*sz)++e.flat:=by
     rw [List.take_append_of_le_length (by simp; omega),List.take_of_length_le (by simp; omega)]
   have t2:(cells.take (i*sz)++e.flat++cells.drop (i*sz+sz)).drop (i*sz+sz+ds.length*sz)=cells.drop (i*sz+sz+ds.length*sz):=by
     rw [List.drop_append,List.drop_eq_nil_of_le (by simp; omega),List.nil_append,List.drop_drop]
     congr 1; simp; omega
   rw [t1,t2]
   simp
theorem TS.zeroRun {P:Program}{t e:TypeId}{sz bytes:Nat}{agg:Bool}(h:TS P t e sz bytes agg):∃ z,(∀ w,(zeroValue e).run P w= .ok z w)/\z.cells.size=sz/\(P.info? e).bind (·.zero)=some z:=by
 obtain⟨z,h1,h2⟩:=Option.map_eq_some_iff.1 h.zero
 refine⟨z,fun w=>?_,h2,h1⟩
 obtain⟨i,hi,hi2⟩:=Option.bind_eq_some_iff.1 h1
 simp [zeroValue,typeInfo,hi,hi2]
theorem shape_alloc_new (w:World)(arr:Array Value)(e:TypeId):(w.alloc (.cells arr e)).shape? w.heap.size=some (e,arr.size):=by
 unfold World.shape?; rw [get_alloc_new]
section
variable {P:Program}{o:Oper}{fr:Nat->D}{h:zbb}{K:D->zbb->Prop}
theorem buildSlice_run {A M:Nat->Prop}{w0 w:World}{ac:Act}{t e:TypeId}{sz bytes len:Nat}{agg:Bool}{parts:Array (Nat×Operand)}(ht:TS P t e sz bytes agg)(hidx:parts.toList.map (·.1)=List.range len)
   (hok:∀ p∈parts.toList,(ev fr p.2).ok sz) (hb:len*sz<=16777216) (hv:∀ p∈parts.toList,V w (XX A h) (ev fr p.2) (ac.eval p.2)) (_hr:HRel A M w0 h w):
   ∃ arr:Array Value,(Instr.buildSlice t len (parts.map fun(i,x)=>(i,ac.eval x))).run P w= .ok (.slice (some ⟨w.heap.size,0,none⟩) len len) (w.alloc (.cells arr e))/\
     VL w (XX A h) (D.flats (parts.toList.map fun p=>ev fr p.2)) arr.toList/\arr.size=len*sz/\(parts.toList.map fun p=>ev fr p.2).length=len:=by
 obtain⟨z,hz,hzs,_⟩:=ht.zeroRun
 have hlen:(parts.toList.map fun p=>ev fr p.2).length=len:=by
   have:=congrArg List.length hidx
   simpa using this
 have hoks:∀ d∈(parts.toList.map fun p=>ev fr p.2),d.ok sz:=fun d hd=>by
   obtain⟨p,hp,rfl⟩:=List.mem_map.1 hd
   exact hok p hp
 have hvs:=parts_VL (ac:=ac) parts.toList hv
 -- zero cells of data: any will do
 have hzero:∀(arr0:Array Value),arr0.size=len*sz->∃ cs',Instr.fill (fun i=>some (i*sz,sz)) arr0 (parts.toList.map fun p=>(p.1,ac.eval p.2))=some cs'/\VL w (XX A h) (D.flats (parts.toList.map fun p=>ev fr p.2)) cs'.toList:=by
   intro arr0 h0
   have hv0:VL w (XX A h) (arr0.toList.map D.v) arr0.toList:=by
     generalize arr0.toList=l
     induction l with
     |nil=>exact .nil
     |cons x l ih=>exact .cons (.v x) ih
   have hf:=fillD_row (sz:=sz) (parts.toList.map fun p=>ev fr p.2) 0 (arr0.toList.map D.v) (parts.toList.map fun p=>(p.1,ev fr p.2)) hoks (by simp at hlen; simp [hlen,h0]) (by
     rw [hlen,List.map_map,<-List.range_eq_range',<-hidx]; rfl) (by rw [List.map_map]; rfl)
   have hll:(arr0.toList.map D.v).drop ((0+(parts.toList.map fun p=>ev fr p.2).length)*sz)= []:=by
     apply List.drop_eq_nil_of_le; rw [hlen]; simp [h0]
   rw [hll]at hf
   simp only [Nat.zero_mul,List.take_zero,List.nil_append,List.append_nil]at hf
   exact fill_of_fillD (place:=fun i=>some (i*sz,sz)) _ (parts.toList.map fun p=>(p.1,ac.eval p.2)) _ _ arr0 hv0 (by simp) (by rw [List.map_map,List.map_map]; exact hvs)
     (by intro p hp; obtain⟨q,hq,rfl⟩:=List.mem_map.1 hp; exact⟨sz,hok q hq⟩) hf
 have hpt:(parts.map fun(x:Nat×Operand)=>(x.1,ac.eval x.2)).toList=parts.toList.map fun p=>(p.1,ac.eval p.2):=by simp
 have hb':¬(len*sz>2 ^ 24):=by omega
 by_cases h0:len*sz=0
 · obtain⟨cs',h1,h2⟩:=hzero ((Array.range (len*sz)).map (fun j=>(#[]:Array Value)[j % 0]!)) (by simp)
   refine⟨cs',?_,h2,?_,hlen⟩
   · simp only [Instr.buildSlice,Sem.run_bind,run_underlying ht.desc,Result.andThen_ok,ht.elem.size,Sem.run_ite,if_neg hb',if_pos h0,Sem.run_pure,hpt]
     simp only [Array.size_empty]at h1 ⊢
     rw [h1]
     simp [newRow]
   · have:=h2.length; rw [zbq _ hoks,hlen]at this; simpa using this.symm
 · obtain⟨cs',h1,h2⟩:=hzero ((Array.range (len*sz)).map (fun j=>z.cells[j % z.cells.size]!)) (by simp)
   refine⟨cs',?_,h2,?_,hlen⟩
   · simp only [Instr.buildSlice,Sem.run_bind,run_underlying ht.desc,Result.andThen_ok,ht.elem.size,Sem.run_ite,if_neg hb',if_neg h0,Sem.run_pure,hz,hpt]
     rw [h1]
     simp [newRow]
   · have:=h2.length; rw [zbq _ hoks,hlen]at this; simpa using this.symm
theorem buildSlice_operands {t:TypeId}{len:Nat}{parts:Array (Nat×Operand)}(ho:o.op= .buildSlice t len parts):∀ p∈parts.toList,p.2∈o.op.operands:=by
 intro p hp
 simp [ho,Op.operands]
 exact⟨p.1,by simpa using hp⟩
theorem OpA.ibuildSlice {t e:TypeId}{sz bytes len:Nat}{agg:Bool}{parts:Array (Nat×Operand)}(ho:o.op= .buildSlice t len parts)(ht:TS P t e sz bytes agg)(hidx:parts.toList.map (·.1)=List.range len)
   (hok:∀ p∈parts.toList,(ev fr p.2).ok sz) (hb:len*sz<=16777216) (hk:K (.list sz (parts.toList.map fun p=>ev fr p.2)) h):OpA P o fr h K:=
 .of_run fun A M w0 ac w hr hv=>by
   obtain⟨arr,h1,h2,h3,h4⟩:=buildSlice_run (ac:=ac) ht hidx hok hb (fun p hp=>hv p.2 (buildSlice_operands ho p hp)) hr
   obtain⟨h5,h6⟩:=hr.allocOut (.cells arr e)
   refine⟨.slice (some ⟨w.heap.size,0,none⟩) len len,_,_,h,by simp only [execOp,ho,Sem.run_bind,h1,Result.andThen_ok,Sem.run_pure],hk,h5,h6,?_⟩
   have:=V.list (w:=w.alloc (.cells arr e)) (X:=XX A h) (sz:=sz) (a:=some ⟨w.heap.size,0,none⟩) (b:=w.heap.size) (o:=0) (cap:=len) (cs:=arr.toList)
     (fun d hd=>by obtain⟨p,hp,rfl⟩:=List.mem_map.1 hd; exact hok p hp) (h2.mono h6) (fun _=>rfl) (.inr ⟨fun hx=>by have:=hr.xlt hx; omega,fun j c hj=>by simpa using hj⟩) (by omega)
   rwa [h4]at this
theorem OpA.buildSlice {t e:TypeId}{sz bytes len:Nat}{agg:Bool}{parts:Array (Nat×Operand)}(ho:o.op= .buildSlice t len parts)(ht:TS P t e sz bytes agg)(hidx:parts.toList.map (·.1)=List.range len)
   (hok:∀ p∈parts.toList,(ev fr p.2).ok sz) (hb:len*sz<=16777216) (hk:∀ c,K (.own c sz 0 len) ((c,.cells sz (parts.toList.map fun p=>ev fr p.2))::h)):OpA P o fr h K:=
 .of_run fun A M w0 ac w hr hv=>by
   obtain⟨arr,h1,h2,h3,h4⟩:=buildSlice_run (ac:=ac) ht hidx hok hb (fun p hp=>hv p.2 (buildSlice_operands ho p hp)) hr
   obtain⟨_,h5,h6⟩:=hr.alloc (sz:=sz) arr e (fun d hd=>by obtain⟨p,hp,rfl⟩:=List.mem_map.1 hd; exact hok p hp) h2 (List.prefix_refl _)
   refine⟨.slice (some ⟨w.heap.size,0,none⟩) len len,_,_,_,by simp only [execOp,ho,Sem.run_bind,h1,Result.andThen_ok,Sem.run_pure],hk _,h5,h6,?_⟩
   refine .own (Nat.le_refl _) (.inl ⟨by omega,by simp,e,arr.size,?_,by rw [h3]; simp⟩)
   rw [show 2*w.heap.size / 2=w.heap.size from by omega,shape_alloc_new]
theorem made_add (z:Array Value)(a b:Nat)(ha:a % z.size=0):(madeCells z (a+b)).toList=(madeCells z a).toList++(madeCells z b).toList:=by
 simp only [madeCells,Array.toList_map,Array.toList_range,List.range_add,List.map_append,List.map_map]
 congr 1
 apply List.map_congr_left
 intro x _
 simp only [Function.comp]
 rw [Nat.add_mod,ha,Nat.zero_add,Nat.mod_mod]
theorem made_one (z:Array Value):(madeCells z z.size).toList=z.toList:=by
 apply List.ext_getElem?
 intro j
 simp only [madeCells,Array.toList_map,Array.toList_range,List.getElem?_map]
 by_cases hj:j<z.size
 · rw [List.getElem?_range hj]
   simp [Nat.mod_eq_of_lt hj,hj]
 · rw [List.getElem?_eq_none (by simp; omega),List.getElem?_eq_none (by simp; omega)]
   rfl
theorem made_VL {w:World}{X:Nat->Prop}{z:Value}{d:D}{sz:Nat}(hd:V w X d z)(hok:d.ok sz):∀ n,VL w X (D.flats (List.replicate n d)) (madeCells z.cells (n*sz)).toList
 |0=>by simp [madeCells,D.flats]; exact .nil
 | n+1=>by
   have hs:=hd.cells_size hok
   rw [List.replicate_succ',zcc,Nat.succ_mul,made_add _ _ _ (by rw [hs]; simp)]
   refine(made_VL hd hok n).append ?_
   rw [<- hs,made_one]
   simpa [D.flats]using hd.cells hok
theorem OpA.makeSlice {t e:TypeId}{sz bytes:Nat}{agg:Bool}{x y:Operand}{kl kc:IntKind}{l c:Int}{z:Value}{d:D}(ho:o.op= .makeSlice t x y)(ht:TS P t e sz bytes agg)(hx:ev fr x= .v (.int kl l))(hy:ev fr y= .v (.int kc c))
   (hz:(P.info? e).bind (·.zero)=some z) (hd:∀ w X,V w X d z) (hok:d.ok sz) (h0:0<=l) (hlc:l<=c) (hb:(bytes:Int)*c<=281474976710656) (h63:c<=9223372036854775807)
   (hk:∀ b,K (.own b sz 0 l.toNat) ((b,.cells sz (List.replicate l.toNat d))::h)):OpA P o fr h K:=
 .of_run fun A M w0 ac w hr hv=>by
   have h1:=hv x (by simp [ho,Op.operands])
   have h2:=hv y (by simp [ho,Op.operands])
   rw [hx]at h1; rw [hy]at h2
   generalize hu:ac.eval x=u at h1
   generalize hu2:ac.eval y=u2 at h2
   cases h1; cases h2
   obtain⟨i,hi,hiz⟩:=Option.bind_eq_some_iff.1 hz
   have hbi:i.bytes=bytes:=by have:=ht.bytes; simpa [hi]using this
   have hsi:i.size=sz:=by have:=ht.elem.size w; simpa [sizeOf,typeInfo,hi]using this
   have hrun:=run_make (P:=P) w t e i z ht.desc hi hiz kl kc l c h0 hlc (by rw [hbi]; exact hb) h63
   rw [hsi]at hrun
   have hvl:=made_VL (hd w (XX A h)) hok
   have hle:l.toNat<=c.toNat:=by omega
   have hpre:(madeCells z.cells (l.toNat*sz)).toList <+: (madeCells z.cells (c.toNat*sz)).toList:=by
     have e1:c.toNat*sz=l.toNat*sz+(c.toNat-l.toNat)*sz:=by rw [<- Nat.add_mul]; congr 1; omega
     rw [e1,made_add _ _ _ (by rw [(hd w (XX A h)).cells_size hok]; simp)]
     exact List.prefix_append _ _
   obtain⟨_,h5,h6⟩:=hr.alloc (sz:=sz) (es:=List.replicate l.toNat d) (madeCells z.cells (c.toNat*sz)) e (fun d' hd'=>by rw [List.eq_of_mem_replicate hd']; exact hok) (hvl _) hpre
   refine⟨.slice (some ⟨w.heap.size,0,none⟩) l.toNat c.toNat,_,_,_,by simp only [execOp,ho,hu,hu2,Sem.run_bind,hrun,Result.andThen_ok,Sem.run_pure],hk _,h5,h6,?_⟩
   refine .own hle (.inl ⟨by omega,by simp,e,c.toNat*sz,?_,by simp⟩)
   rw [show 2*w.heap.size / 2=w.heap.size from by omega,shape_alloc_new,size_madeCells]
inductive SrcIs (h:zbb)(sz:Nat):D->List D->Prop
 |list {ds:List D}:SrcIs h sz (.list sz ds) ds
 |own {c i len:Nat} {es:List D} (hh:Has c (.cells sz es) h) (hl:i+len<=es.length):SrcIs h sz (.own c sz i len) ((es.drop i).take len)
 |nil:SrcIs h sz (.v (.slice none 0 0)) []
theorem SrcIs.val {A M:Nat->Prop}{w0 w:World}{sz:Nat}{d:D}{ds:List D}{v:Value}(hs:SrcIs h sz d ds)(hr:HRel A M w0 h w)(hv:V w (XX A h) d v):
   ∃ a cap cs,v= .slice a ds.length cap/\ds.length<=cap/\(∀ x∈ds,x.ok sz)/\VL w (XX A h) (D.flats ds) cs/\(cs= []\/∃ b oo,a=some ⟨b,oo,none⟩/\∀ j c,cs[j]? =some c->w.cell? ⟨b,oo+j,none⟩=some c):=by
 cases hs with
 | list=>
   cases hv with
   | @list _ _ cs a b oo cap hok hvl ha hl hc=>
     refine⟨a,cap,cs,rfl,hc,hok,hvl,?_⟩
     rcases hl with hl|⟨_,hl⟩
     · exact .inl hl
     · by_cases hcs:cs= []
       · exact .inl hcs
       · exact .inr ⟨b,oo,ha hcs,hl⟩
 | @own c i len es hh hl=>
   cases hv with
   | @own _ _ _ _ cap a hc hd=>
     obtain⟨hok,hb⟩:=hr.cells hh
     have hlen:((es.drop i).take len).length=len:=by simp; omega
     rw [hlen]
     have hoks:∀ x∈(es.drop i).take len,x.ok sz:=fun x hx=>hok x (List.mem_of_mem_drop (List.mem_of_mem_take hx))
     rcases hb with⟨_,hb⟩|⟨hc2,arr,et,cs,ha,hvl,hp⟩
     · subst hb
       refine⟨a,cap,[],rfl,hc,hoks,by simp [D.flats]; exact .nil,.inl rfl⟩
     · refine⟨a,cap,(cs.drop (i*sz)).take (len*sz),rfl,hc,hoks,?_,?_⟩
       · rw [flats_take _ (fun x hx=>hok x (List.mem_of_mem_drop hx)),flats_drop _ hok]
         exact(hvl.drop _).take _
       · rcases hd with⟨_,rfl,_⟩|⟨hz,_⟩
         · refine .inr ⟨c / 2,i*sz,rfl,fun j c' hj=>?_⟩
           have hlt:=(List.getElem?_eq_some_iff.1 hj).1
           rw [List.length_take]at hlt
           rw [List.getElem?_take_of_lt (by omega),List.getElem?_drop]at hj
           exact own_cell ha hp _ _ hj
         · subst hz; exact .inl (by simp)
 | nil=>
   cases hv
   exact⟨none,0,[],rfl,Nat.le_refl _,by simp,by simp [D.flats]; exact .nil,.inl rfl⟩
theorem run_firstCells' {w:World}{sz n cap:Nat}{a:Option Addr}{cs:List Value}(hl:cs.length=n*sz)(hc:cs= []\/∃ b oo,a=some ⟨b,oo,none⟩/\∀ j c,cs[j]? =some c->w.cell? ⟨b,oo+j,none⟩=some c):
   (Builtin.firstCells sz n (.slice a n cap)).run P w= .ok cs.toArray w:=by
 rcases hc with hc|⟨b,oo,rfl,hc⟩
 · subst hc
   have h0:n*sz=0:=by simpa using hl.symm
   cases a with
   |none=>simp [Builtin.firstCells]
   |some a=>simp [Builtin.firstCells,h0,loadCells,loadCellsFrom]
 · simp only [Builtin.firstCells,<-hl]
   exact run_loadCells' cs hc
theorem append_coreX {A M:Nat->Prop}{w0 w:World}{t ty e:TypeId}{sz bytes:Nat}{agg:Bool}(ht:TS P t e sz bytes agg)(hr:HRel A M w0 h w){c i len:Nat}{es ds:List D}{hf:Nat->Blk->zbb}{v xv:Value}{d:D}
   (hrepl:∀ c' b',Repl c (.cells sz es) c' b' h (hf c' b')) (hil:i+len<=es.length) (hv:V w (XX A h) (.own c sz i len) v) (hs:SrcIs h sz d ds) (hxv:V w (XX A h) d xv) (hbytes:(len+ds.length)*bytes<=140737488355328) (hmax:len+ds.length<=9223372036854775807):
   ∃ v' w' c' pre,(Builtin.append_ #[t,t] ty #[v,xv]).run P w= .ok v' w'/\HRel A M w0 (hf c' (.cells sz (pre++(es.drop i).take len++ds))) w'/\
     Mono w (XX A h) w' (XX A (hf c' (.cells sz (pre++(es.drop i).take len++ds))))/\V w' (XX A (hf c' (.cells sz (pre++(es.drop i).take len++ds)))) (.own c' sz pre.length (len+ds.length)) v'/\(pre.length<=i/\((c'=c/\∀ a n cap,v= .slice a n cap->∃ n',v'= .slice a n' cap)\/(∃ a cap,v'= .slice a (len+ds.length) cap/\0<cap/\0<len+ds.length/\∃ n,w'.shape? (c' / 2)=some (e,n)))):=by
 obtain⟨xa,xcap,cs,rfl,hxcap,hdok,hdv,hcs⟩:=hs.val hr hxv
 have hcl:cs.length=ds.length*sz:=by rw [<- hdv.length,zbq ds hdok]
 have hfirst:=run_firstCells' (P:=P) (w:=w) (n:=ds.length) (cap:=xcap) hcl hcs
 have hone:∀ u∈cs,u.oneCell'=true:=hdv.oneCell (fun x hx=>by
   obtain⟨y,hy,hxy⟩:=List.mem_flatMap.1 hx
   exact(hdok y hy).2 x hxy)
 obtain⟨hok,hblk⟩:=hr.cells (hrepl c (.cells sz es)).has
 have hmid:=SrcIs.val (SrcIs.own (hrepl c (.cells sz es)).has hil) hr hv
 have hmlen:((es.drop i).take len).length=len:=by simp; omega
 obtain⟨a,cap,mcs,hve,hmcap,hmok,hmv,hmc⟩:=hmid
 rw [hmlen]at hve hmcap
 subst hve
 have hmcl:mcs.length=len*sz:=by rw [<- hmv.length,zbq _ hmok,hmlen]
 have hfirstm:=run_firstCells' (P:=P) (w:=w) (n:=len) (cap:=cap) hmcl hmc
 by_cases hroom:len+ds.length<=cap
 · -- within the capacity
   cases hv with
   | own hlc hd=>
     rcases hd with⟨hc2,rfl,et0,n0,hsh,hn0⟩|⟨hz1,hz2⟩
     · rcases hblk with⟨hodd,_⟩|⟨_,arr,et,ocs,ha,hov,hop⟩
       · omega
       · have hn:(i+cap)*sz<=arr.size:=by
           simp only [ha.shape,Option.some.injEq,Prod.mk.injEq]at hsh
           rw [<- hsh.2]at hn0; exact hn0
         have hfit:(i+len)*sz+cs.length<=arr.size:=by
           rw [hcl,<-Nat.add_mul]
           exact Nat.le_trans (Nat.mul_le_mul_right _ (by omega)) hn
         obtain⟨w',arr',g1,g2,g3,g4,g5,g6,g7,g8,g9⟩:=run_storeCells' (P:=P) cs 0 ((i+len)*sz) w arr ha hone (by omega)
         simp only [Nat.add_zero]at g1 g3
         have hocl:ocs.length=es.length*sz:=by rw [<- hov.length,zbq es hok]
         have hoarr:ocs.length<=arr.toList.length:=hop.length_le
         have hle:(i+len)*sz<=ocs.length:=by rw [hocl]; exact Nat.mul_le_mul_right _ hil
         have hpe:es.take i++(es.drop i).take len++ds=es.take (i+len)++ds:=by rw [List.take_add]
         have hpl:(es.take i).length=i:=by simp; omega
         obtain⟨r1,r2⟩:=hr.write (sz':=sz) (es':=es.take i++(es.drop i).take len++ds) (cs':=ocs.take ((i+len)*sz)++cs) (hrepl c _) hc2 (by
             intro x hx; rw [hpe]at hx
             rcases List.mem_append.1 hx with hx|hx
             · exact hok x (List.mem_of_mem_take hx)
             · exact hdok x hx) ha g2 g4 (by
             rw [hpe,zcc,flats_take _ hok]
             exact(hov.take _).append hdv) (by
             obtain⟨tl,htl⟩:=hop
             rw [g3,setAt_eq _ _ _ (by simpa using hfit)]
             refine⟨arr.toList.drop ((i+len)*sz+cs.length),?_⟩
             congr 2
             rw [<- htl,List.take_append_of_le_length hle]) g5 g6 g7 g8 g9
         refine⟨.slice (some ⟨c / 2,i*sz,none⟩) (len+ds.length) cap,w',c,es.take i,?_,r1,r2,?_,by simp; omega,.inl ⟨rfl,fun a n cp hv=>⟨_,by cases hv; rfl⟩⟩⟩
         · simp only [Builtin.append_,Array.getElem?_eq_getElem,List.size_toArray,List.length_cons,List.length_nil,Nat.zero_add,Nat.reduceLT,Nat.reduceAdd,List.getElem_toArray,List.getElem_cons_zero,List.getElem_cons_succ,
             Sem.run_bind,run_underlying ht.desc,Result.andThen_ok,ht.elem.size,Sem.run_pure,Bool.false_eq_true,if_false,Builtin.lenOf,hroom,if_true,hfirst,Addr.add_lit,Bool.not_false,Sem.run_ite]
           rw [show i*sz+len*sz=(i+len)*sz from by rw [Nat.add_mul],g1]
           rfl
         · rw [hpl]
           refine .own hroom (.inl ⟨hc2,rfl,et0,n0,?_,hn0⟩)
           rw [r2.shape _ (lt_of_shape hsh)]; exact hsh
     · -- nothing is appended to nothing
       have hds:ds= []:=List.eq_nil_of_length_eq_zero (by omega)
       subst hds; subst hz1; subst hz2
       have hcs0:cs= []:=List.eq_nil_of_length_eq_zero (by simpa using hcl)
       subst hcs0
       have hfirst0:(Builtin.firstCells sz 0 (.slice xa 0 xcap)).run P w= .ok #[] w:=by simpa using hfirst
       refine⟨.slice a 0 0,w,c,es.take i,?_,?_⟩
       · simp only [Builtin.append_,Array.getElem?_eq_getElem,List.size_toArray,List.length_cons,List.length_nil,Nat.zero_add,Nat.reduceLT,Nat.reduceAdd,List.getElem_toArray,List.getElem_cons_zero,List.getElem_cons_succ,
           Sem.run_bind,run_underlying ht.desc,Result.andThen_ok,ht.elem.size,Sem.run_pure,Bool.false_eq_true,if_false,Builtin.lenOf,Nat.le_refl,if_true,hfirst0,Bool.not_false,Sem.run_ite]
         cases a<;>simp [storeCells]
       · have hpl:(es.take i).length=i:=by simp; omega
         have hkeys:=(hrepl c (.cells sz (es.take i++(es.drop i).take 0++ []))).keys_eq
         have hxx:XX A (hf c (.cells sz (es.take i++(es.drop i).take 0++ [])))=XX A h:=by funext b; simp only [XX,hkeys]
         have htk:es.take i++(es.drop i).take 0++ []=es.take i:=by simp
         refine⟨?_,by rw [hxx]; exact Mono.refl _ _,by rw [hpl]; exact .own (Nat.le_refl _) (.inr ⟨rfl,rfl⟩),by simp; omega,.inl ⟨rfl,fun a n cp hv=>⟨_,by cases hv; rfl⟩⟩⟩
         obtain⟨h0,p1,p2⟩:=(hrepl c (.cells sz (es.take i++(es.drop i).take 0++ []))).perm
         obtain⟨q1,q2⟩:=hr.perm p1
         refine(HRel.perm (h:=(c,.cells sz (es.take i++(es.drop i).take 0++ []))::h0) ?_ p2.symm).1
         rw [htk]
         refine⟨q1.nodup,?_,q1.free,q1.mine,q1.bound,q1.old,q1.ext,q1.glob⟩
         intro c1 b1 hc1
         rcases List.mem_cons.1 hc1 with hc1|hc1
         · cases hc1
           have:=q1.blk c (.cells sz es) (by simp)
           have hxx2:XX A ((c,.cells sz (es.take i))::h0)=XX A ((c,.cells sz es)::h0):=rfl
           rw [hxx2]
           refine⟨fun x hx=>hok x (List.mem_of_mem_take hx),?_⟩
           rcases this.2 with⟨hodd,he⟩|⟨hev,arr,et,ocs,ha,hov,hop⟩
           · exact .inl ⟨hodd,by rw [he]; simp⟩
           · refine .inr ⟨hev,arr,et,ocs.take (i*sz),ha,by rw [flats_take _ hok]; exact hov.take _,?_⟩
             exact(List.take_prefix _ _).trans hop
         · exact q1.blk c1 b1 (by simp [hc1])
 · -- a new array
   obtain⟨z,hz,hzs,hzi⟩:=ht.zeroRun
   obtain⟨bi,hbi,hbb⟩:=Option.map_eq_some_iff.1 ht.bytes
   have hgrow:=growslice_fits (need:=len+ds.length) (old:=cap) (by omega) hbytes
   have hnm:¬((len+ds.length:Nat):Int)>IntKind.i64.max:=by rw [IntKind.max_i64]; omega
   have hng:¬(Builtin.nextslicecap (len+ds.length) cap*bytes>2 ^ 48):=by omega
   obtain⟨ncap,hncap,hncapge⟩:∃ ncap,(Question.appendCap (len+ds.length) cap e).cut (w.tape w.drawn (.appendCap (len+ds.length) cap e))=ncap/\len+ds.length<=ncap:=⟨_,rfl,by simp [Question.cut]⟩
   have hinfo:(typeInfo e).run P w= .ok bi w:=by simp [typeInfo,hbi]
   have hinfo':(typeInfo e).run P w.drew= .ok bi w.drew:=by simp [typeInfo,hbi]
   obtain⟨r1,m1⟩:=hr.quiet (w':=w.drew) rfl rfl rfl rfl (Nat.le_succ _)
   obtain⟨h0,p1,_⟩:=(hrepl c (.cells sz es)).perm
   obtain⟨q1,m2⟩:=r1.perm p1
   obtain⟨q2,m3⟩:=q1.tail
   have hm:Mono w (XX A h) w.drew (XX A h0):=(m1.trans m2).trans m3
   obtain⟨_,q3,m4⟩:=q2.alloc (sz:=sz) (es:= []++(es.drop i).take len++ds) (cs:=mcs++cs) (mcs.toArray++cs.toArray++Builtin.zeroCells z.cells (ncap-(len+ds.length))) e (by
       intro x hx
       simp only [List.nil_append,List.mem_append]at hx
       rcases hx with hx|hx
       · exact hmok x hx
       · exact hdok x hx) (by
       rw [List.nil_append,zcc]
       exact(hmv.append hdv).mono hm) (by simp)
   obtain⟨h0',p1',p2'⟩:=(hrepl (2*w.heap.size) (.cells sz ([]++(es.drop i).take len++ds))).perm
   have hp00:h0'.Perm h0:=List.Perm.cons_inv (p1'.symm.trans p1)
   have hp3:((2*w.heap.size,Blk.cells sz ([]++(es.drop i).take len++ds))::h0).Perm (hf (2*w.heap.size) (.cells sz ([]++(es.drop i).take len++ds))):=(List.Perm.cons _ hp00.symm).trans p2'.symm
   obtain⟨q4,m5⟩:=q3.perm hp3
   refine⟨.slice (some ⟨w.heap.size,0,none⟩) (len+ds.length) ncap,_,2*w.heap.size,[],?_,q4,(hm.trans m4).trans m5,?_,by simp,.inr ⟨_,_,rfl,by omega,by omega,(mcs.toArray++cs.toArray++Builtin.zeroCells z.cells (ncap-(len+ds.length))).size,by rw [show 2*w.heap.size / 2=w.drew.heap.size from by show 2*w.heap.size / 2=w.heap.size; omega]; exact shape_alloc_new _ _ _⟩⟩
   · have hz':=hz w.drew
     have hfd:(Builtin.firstCells sz ds.length (.slice xa ds.length xcap)).run P w.drew= .ok cs.toArray w.drew:=run_firstCells' (P:=P) (w:=w.drew) hcl hcs
     have hfm:(Builtin.firstCells sz len (.slice a len cap)).run P w.drew= .ok mcs.toArray w.drew:=run_firstCells' (P:=P) (w:=w.drew) hmcl hmc
     have hfalse:¬(((len+ds.length:Nat):Int)>IntKind.i64.max/\(False\/bi.bytes=0)):=fun hh=>hnm hh.1
     simp only [Builtin.append_,Array.getElem?_eq_getElem,List.size_toArray,List.length_cons,List.length_nil,Nat.zero_add,Nat.reduceLT,Nat.reduceAdd,List.getElem_toArray,List.getElem_cons_zero,List.getElem_cons_succ,
       Sem.run_bind,run_underlying ht.desc,Result.andThen_ok,ht.elem.size,Sem.run_pure,Bool.false_eq_true,if_false,Builtin.lenOf,hroom,hinfo,hinfo',hbb,hnm,false_and,hng,run_choose,Question.forced,World.drew_eq,hncap,run_askRoom,hfm,hfd,hz',
       Bool.not_false,if_true,newRow,run_newObj,World.alloc_eq,Sem.run_ite]
     rfl
   · refine .own hncapge (.inl ⟨by omega,by simp,e,(mcs.toArray++cs.toArray++Builtin.zeroCells z.cells (ncap-(len+ds.length))).size,?_,?_⟩)
     · rw [show 2*w.heap.size / 2=w.drew.heap.size from by show 2*w.heap.size / 2=w.heap.size; omega]; exact shape_alloc_new _ _ _
     · simp only [Array.size_append,List.size_toArray,hmcl,hcl,size_zeroCells,hzs,List.length_nil,Nat.zero_add]
       rw [<- Nat.add_mul,<-Nat.add_mul]
       apply Nat.mul_le_mul_right
       omega
theorem append_core {A M:Nat->Prop}{w0 w:World}{t ty e:TypeId}{sz bytes:Nat}{agg:Bool}(ht:TS P t e sz bytes agg)(hr:HRel A M w0 h w){c i len:Nat}{es ds:List D}{hf:Nat->Blk->zbb}{v xv:Value}{d:D}
   (hrepl:∀ c' b',Repl c (.cells sz es) c' b' h (hf c' b')) (hil:i+len<=es.length) (hv:V w (XX A h) (.own c sz i len) v) (hs:SrcIs h sz d ds) (hxv:V w (XX A h) d xv) (hbytes:(len+ds.length)*bytes<=140737488355328) (hmax:len+ds.length<=9223372036854775807):
   ∃ v' w' c' pre,(Builtin.append_ #[t,t] ty #[v,xv]).run P w= .ok v' w'/\HRel A M w0 (hf c' (.cells sz (pre++(es.drop i).take len++ds))) w'/\
     Mono w (XX A h) w' (XX A (hf c' (.cells sz (pre++(es.drop i).take len++ds))))/\V w' (XX A (hf c' (.cells sz (pre++(es.drop i).take len++ds)))) (.own c' sz pre.length (len+ds.length)) v':=by
 obtain⟨v',w',c',pre,g1,g2,g3,g4,_⟩:=append_coreX (ty:=ty) ht hr hrepl hil hv hs hxv hbytes hmax
 exact⟨v',w',c',pre,g1,g2,g3,g4⟩
theorem zcg {c:Call}{s x:Operand}(ho:o.op= .call c)(hc:c.callee= .builtin .append)(ha:c.args= #[s,x]):s∈o.op.operands/\x∈o.op.operands:=by
 simp [ho,Op.operands,Call.operands,hc,ha]
theorem OpA.append {t e:TypeId}{sz bytes:Nat}{agg:Bool}{cl:Call}{s x:Operand}{c i len:Nat}{es ds:List D}{hf:Nat->Blk->zbb}(ho:o.op= .call cl)(hc:cl.callee= .builtin .append)(ha:cl.args= #[s,x])(hty:cl.argTypes= #[t,t])
   (ht:TS P t e sz bytes agg) (hs:ev fr s= .own c sz i len) (hrepl:∀ c' b',Repl c (.cells sz es) c' b' h (hf c' b')) (hx:SrcIs h sz (ev fr x) ds) (hil:i+len<=es.length)
   (hbytes:(len+ds.length)*bytes<=140737488355328) (hmax:len+ds.length<=9223372036854775807) (hk:∀ c' pre,K (.own c' sz pre.length (len+ds.length)) (hf c' (.cells sz (pre++(es.drop i).take len++ds)))):OpA P o fr h K:=
 .of_run fun A M w0 ac w hr hv=>by
   have h1:=hv s (zcg ho hc ha).1
   have h2:=hv x (zcg ho hc ha).2
   rw [hs]at h1
   obtain⟨v',w',c',pre,g1,g2,g3,g4⟩:=append_core (ty:=o.type) ht hr hrepl hil h1 hx h2 hbytes hmax
   refine⟨v',w',_,_,?_,hk c' pre,g2,g3,g4⟩
   simp only [execOp,ho,resolve,hc,Sem.run_bind,Sem.run_pure,Result.andThen_ok,invoke,builtin,hty,ha,List.map_toArray,List.map_cons,List.map_nil,g1]
theorem OpA.append_nil {t e:TypeId}{sz bytes:Nat}{agg:Bool}{cl:Call}{s x:Operand}{ds:List D}(ho:o.op= .call cl)(hc:cl.callee= .builtin .append)(ha:cl.args= #[s,x])(hty:cl.argTypes= #[t,t])
   (ht:TS P t e sz bytes agg) (hs:ev fr s= .v (.slice none 0 0)) (hx:SrcIs h sz (ev fr x) ds)
   (hbytes:ds.length*bytes<=140737488355328) (hmax:ds.length<=9223372036854775807) (hk:∀ c' pre,K (.own c' sz pre.length ds.length) ((c',.cells sz (pre++ds))::h)):OpA P o fr h K:=
 .of_run fun A M w0 ac w hr hv=>by
   have h1:=hv s (zcg ho hc ha).1
   have h2:=hv x (zcg ho hc ha).2
   rw [hs]at h1
   generalize hu:ac.eval s=u at h1
   cases h1
   obtain⟨g,_,_,hr',hm⟩:=hr.ghost sz
   have hx':SrcIs ((g,.cells sz [])::h) sz (ev fr x) ds:=by
     generalize ev fr x=dx at hx
     cases hx with
     |list=>exact .list
     |own hh hl=>exact .own (.tail hh) hl
     |nil=>exact .nil
   obtain⟨v',w',c',pre,g1,g2,g3,g4⟩:=append_core (ty:=o.type) (i:=0) (len:=0) (es:= []) (hf:=fun c b=>(c,b)::h) (v:= .slice none 0 0) ht hr' (fun _ _=> .head) (by simp) (.own (Nat.le_refl _) (.inr ⟨rfl,rfl⟩)) hx' (h2.mono hm) (by simpa using hbytes) (by simpa using hmax)
   simp only [List.drop_zero,List.take_nil,List.append_nil,Nat.zero_add]at g2 g3 g4
   refine⟨v',w',_,_,?_,hk c' pre,g2,hm.trans g3,g4⟩
   simp only [execOp,ho,resolve,hc,Sem.run_bind,Sem.run_pure,Result.andThen_ok,invoke,builtin,hty,ha,List.map_toArray,List.map_cons,List.map_nil,hu,g1]
end
end Go.Lic
