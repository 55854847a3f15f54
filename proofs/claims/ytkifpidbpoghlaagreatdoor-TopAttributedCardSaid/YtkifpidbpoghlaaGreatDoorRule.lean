/-
  Calls: contracts of functions in abstract data, from a body and at a call.
-/
import Derived.Test.YtkifpidbpoghlaaGreatDoorOps
import Derived.ChangeKeysEq
set_option linter.all false
namespace Go.Lic
variable [Fl]
inductive Plain :D->Prop
 |v (x:Value):Plain (.v x)
 |agg {ds:List D} (h:∀ d∈ds,Plain d):Plain (.agg ds)
 |tup {ds:List D} (h:∀ d∈ds,Plain d):Plain (.tup ds)
mutual
theorem V.plain {w w':World}{X X':Nat->Prop}:∀ {d:D} {x:Value},V w X d x->Plain d->V w' X' d x
 |_,_,.v x,_=> .v x
 |_,_,.agg h,.agg hp=> .agg (h.plain hp)
 |_,_,.tup h,.tup hp=> .tup (h.plain hp)
 |_,_,.list ..,hp=>by cases hp
 |_,_,.own ..,hp=>by cases hp
 |_,_,.ptr ..,hp=>by cases hp
 |_,_,.iptr ..,hp=>by cases hp
 |_,_,.map ..,hp=>by cases hp
 |_,_,.fn ..,hp=>by cases hp
 |_,_,.iface ..,hp=>by cases hp
 |_,_,.top ..,hp=>by cases hp
 |_,_,.tself ..,hp=>by cases hp
 |_,_,.tbuf ..,hp=>by cases hp
theorem VL.plain {w w':World}{X X':Nat->Prop}:∀ {ds:List D} {xs:List Value},VL w X ds xs->(∀ d∈ds,Plain d)->VL w' X' ds xs
 |_,_,.nil,_=> .nil
 |_,_,.cons h hs,hp=> .cons (h.plain (hp _ (by simp))) (hs.plain fun d hd=>hp d (List.mem_cons_of_mem _ hd))
end
inductive Snap (f:Bool)(h:zbb):List D->List D->Prop
 |nil:Snap f h [] []
 |same {d:D} {ds ds':List D} (hd:f=false) (hs:Snap f h ds ds'):Snap f h (d::ds) (d::ds')
 |plain {d:D} {ds ds':List D} (hd:Plain d) (hs:Snap f h ds ds'):Snap f h (d::ds) (d::ds')
 |own {c sz i len:Nat} {es es' ds ds':List D} (hh:Has c (.cells sz es) h) (hl:i+len<=es.length) (hok:∀ d∈es',d.ok sz) (hlen:es'.length=len) (he:Snap f h (D.flats ((es.drop i).take len)) (D.flats es')) (hs:Snap f h ds ds'):Snap f h (.own c sz i len::ds) (.list sz es'::ds')
 |ownp {c sz i len:Nat} {es ds ds':List D} (hh:Has c (.cells sz es) h) (hl:i+len<=es.length) (he:f=true->∀ d∈D.flats ((es.drop i).take len),Plain d) (hs:Snap f h ds ds'):Snap f h (.own c sz i len::ds) (.list sz ((es.drop i).take len)::ds')
 |nilv {sz:Nat} {ds ds':List D} (hs:Snap f h ds ds'):Snap f h (.v (.slice none 0 0)::ds) (.list sz []::ds')
 |ptr {c sz i k:Nat} {es ds ds':List D} {e e':D} (hh:Has c (.cells sz es) h) (he:es[i]? =some e) (hok:∀ x∈e'.flat,x.cell=true) (hse:Snap f h e.flat e'.flat) (hs:Snap f h ds ds'):Snap f h (.ptr c sz i k::ds) (.iptr e' k::ds')
 |ptrp {c sz i k:Nat} {es ds ds':List D} {e:D} (hf:f=false) (hh:Has c (.cells sz es) h) (he:es[i]? =some e) (hs:Snap f h ds ds'):Snap f h (.ptr c sz i k::ds) (.iptr e k::ds')
 |agg {es es' ds ds':List D} (he:Snap f h es es') (hs:Snap f h ds ds'):Snap f h (.agg es::ds) (.agg es'::ds')
 |tup {es es' ds ds':List D} (he:Snap f h es es') (hs:Snap f h ds ds'):Snap f h (.tup es::ds) (.tup es'::ds')
 |fn {g:Fn} {as as' cs cs' ds ds':List D} (ha:Snap f h as as') (hc:Snap f h cs cs') (hs:Snap f h ds ds'):Snap f h (.fn g as cs::ds) (.fn g as' cs'::ds')
 |iface {t:TypeId} {d d':D} {ds ds':List D} (hd:Snap f h [d] [d']) (hs:Snap f h ds ds'):Snap f h (.iface t d::ds) (.iface t d'::ds')
theorem Snap.refl (h:zbb):∀ ds,Snap false h ds ds
 | []=> .nil
 |_::ds=> .same rfl (Snap.refl h ds)
theorem Snap.sound {A M:Nat->Prop}{w0 w:World}{h g:zbb}(hr:HRel A M w0 h w)(hg:∀ c b,Has c b g->Has c b h){f:Bool}{X':Nat->Prop}(hX:f=false->∀ b,X' b->XX A h b)(hk:∀ c,c∈keys g->c % 2=0->¬X' (c / 2)){ds ds':List D}(hs:Snap f g ds ds'):
   ∀ vs,VL w (XX A h) ds vs->VL w X' ds' vs:=by
 have own:∀ {c sz i len:Nat} {es:List D} {v:Value},Has c (.cells sz es) g->i+len<=es.length->V w (XX A h) (.own c sz i len) v->∀(es':List D),(∀ d∈es',d.ok sz)->es'.length=len->
     (∀ cs,VL w (XX A h) (D.flats ((es.drop i).take len)) cs->VL w X' (D.flats es') cs)->V w X' (.list sz es') v:=by
   intro c sz i len es v hh hl hv es' hok hlen hconv
   cases hv with
   | @own _ _ _ _ cap a hc hd=>
     obtain⟨hoke,hb⟩:=hr.cells (hg _ _ hh)
     rcases hb with⟨_,hb⟩|⟨hc2,arr,et,ocs,ha,hov,hop⟩
     · subst hb
       have hz:len=0:=by simp at hl; omega
       subst hz
       have:es'= []:=List.eq_nil_of_length_eq_zero hlen
       subst this
       exact .list (sz:=sz) (ds:= []) (cs:= []) (b:=0) (o:=0) (by simp) .nil (by simp) (.inl rfl) (by simp)
     · have hmid:VL w (XX A h) (D.flats ((es.drop i).take len)) ((ocs.drop (i*sz)).take (len*sz)):=by
         rw [flats_take _ (fun x hx=>hoke x (List.mem_of_mem_drop hx)),flats_drop _ hoke]
         exact(hov.drop _).take _
       have hcs:=hconv _ hmid
       subst hlen
       rcases hd with⟨_,rfl,_⟩|⟨hz,_⟩
       · refine .list hok hcs (b:=c / 2) (o:=i*sz) (fun _=>rfl) (.inr ⟨hk c hh.key hc2,fun j c' hj=>?_⟩) (by omega)
         have hlt:=(List.getElem?_eq_some_iff.1 hj).1
         rw [List.length_take]at hlt
         rw [List.getElem?_take_of_lt (by omega),List.getElem?_drop]at hj
         exact own_cell ha hop _ _ hj
       · have h0:es'= []:=List.eq_nil_of_length_eq_zero hz
         subst h0
         exact .list (sz:=sz) (ds:= []) (cs:= []) (b:=0) (o:=0) (by simp) .nil (by simp) (.inl rfl) (by simp)
 have ptr:∀ {c sz i k:Nat} {es:List D} {e e':D} {v:Value},Has c (.cells sz es) g->es[i]? =some e->V w (XX A h) (.ptr c sz i k) v->(∀ x∈e'.flat,x.cell=true)->
     (∀ cs,VL w (XX A h) e.flat cs->VL w X' e'.flat cs)->V w X' (.iptr e' k) v:=by
   intro c sz i k es e e' v hh he hv hok hconv
   cases hv with
   | ptr hc=>
     have hle:=((hr.cells (hg _ _ hh)).1 e (List.mem_of_getElem? he)).1
     obtain⟨_,cs,hcs,hcl,hcell⟩:=own_part (k:=0) (n:=sz) hr (hg _ _ hh) he (by omega)
     have ht:(e.flat.drop 0).take sz=e.flat:=by simp [<- hle]
     rw [ht]at hcs
     exact .iptr (b:=c / 2) (o:=i*sz) (cs:=cs) hok (hconv _ hcs) (.inr ⟨hk c hh.key hc,fun j c' hj=>by have:=hcell j c' hj; simpa using this⟩)
 induction hs with
 |nil=>intro vs hv; cases hv; exact .nil
 |same hd _ ih=>intro vs hv; cases hv with|cons h1 h2=>exact .cons (h1.mono (.less (hX hd))) (ih _ h2)
 |plain hd _ ih=>intro vs hv; cases hv with|cons h1 h2=>exact .cons (h1.plain hd) (ih _ h2)
 |own hh hl hok hlen _ _ ihe ih=>intro vs hv; cases hv with|cons h1 h2=>exact .cons (own hh hl h1 _ hok hlen ihe) (ih _ h2)
 | @ownp c sz i len es ds ds' hh hl he _ ih=>
   intro vs hv
   cases hv with
   | cons h1 h2=>
     refine .cons (own hh hl h1 _ (fun x hx=>(hr.cells (hg _ _ hh)).1 x (List.mem_of_mem_drop (List.mem_of_mem_take hx))) (by simp; omega) (fun cs hcs=>?_)) (ih _ h2)
     cases f with
     |false=>exact hcs.mono (.less (hX rfl))
     |true=>exact hcs.plain (he rfl)
 | nilv _ ih=>
   intro vs hv
   cases hv with
   | cons h1 h2=>
     refine .cons ?_ (ih _ h2)
     cases h1
     exact .list (ds:= []) (cs:= []) (b:=0) (o:=0) (by simp) .nil (by simp) (.inl rfl) (by simp)
 |ptr hh he hok _ _ ihe ih=>intro vs hv; cases hv with|cons h1 h2=>exact .cons (ptr hh he h1 hok ihe) (ih _ h2)
 | ptrp hf hh he _ ih=>
   intro vs hv
   cases hv with
   |cons h1 h2=>exact .cons (ptr hh he h1 ((hr.cells (hg _ _ hh)).1 _ (List.mem_of_getElem? he)).2 (fun cs hcs=>hcs.mono (.less (hX hf)))) (ih _ h2)
 |agg _ _ ihe ih=>intro vs hv; cases hv with|cons h1 h2=>cases h1 with|agg h1=>exact .cons (.agg (ihe _ h1)) (ih _ h2)
 |tup _ _ ihe ih=>intro vs hv; cases hv with|cons h1 h2=>cases h1 with|tup h1=>exact .cons (.tup (ihe _ h1)) (ih _ h2)
 |fn _ _ _ iha ihc ih=>intro vs hv; cases hv with|cons h1 h2=>cases h1 with|fn h1 h3=>exact .cons (.fn (iha _ h1) (ihc _ h3)) (ih _ h2)
 | iface _ _ ihd ih=>
   intro vs hv
   cases hv with
   | cons h1 h2=>
     cases h1 with
     | iface h1=>
       cases ihd _ (.cons h1 .nil)with
       |cons h3 _=>exact .cons (.iface h3) (ih _ h2)
def Fun (fresh:Bool)(P:Program)(f:Nat)(ds:List D)(R:D->Prop):Prop:=
 ∀ (A:Nat->Prop) (w:World) (vs:List Value),(∃ N,∀ c,A c->c<N)->(∀ b,A (2*b)->b<w.heap.size)->Glob w (fun b=>A (2*b))->VL w (fun b=>A (2*b)) ds vs->
   Calls P f vs.toArray w fun e w'=>∃ v d,e= .returned v/\R d/\V w' (fun b=>cond fresh (b<w.heap.size) (A (2*b))) d v/\Ext (fun _=>False) w w'
def CallH (P:Program)(f:Nat)(ds:List D)(h:zbb)(K:D->zbb->Prop):Prop:=
 ∀ (A:Nat->Prop) (w:World) (vs:List Value),HRel A (fun b=>2*b∈keys h) w h w->VL w (XX A h) ds vs->
   Calls P f vs.toArray w fun e w'=>∃ v d h',e= .returned v/\K d h'/\HRel A (fun b=>2*b∈keys h) w h' w'/\Mono w (XX A h) w' (XX A h')/\V w' (XX A h') d v
@[reducible] def frOf :List D->Nat->D
 | [],_=> .v undef
 |d::_,0=>d
 |_::ds,i+1=>frOf ds i
theorem frOf_get :∀(ds:List D) (i:Nat),frOf ds i=(ds[i]?).getD (.v undef)
 | [],i=>by simp [frOf]
 |d::ds,0=>rfl
 |d::ds,i+1=>by simpa [frOf]using frOf_get ds i
def LoadA (P:Program)(t:TypeId)(fr:Nat->D)(s:Nat)(h:zbb)(d:D):Prop:=
 ∀ A M w0 w x,HRel A M w0 h w->V w (XX A h) (fr s) x->∃ v,(do loadVar t (<- asAddr x):Sem Value).run P w= .ok v w/\V w (XX A h) d v
theorem LoadA.agg {P:Program}{t:TypeId}{fr:Nat->D}{s:Nat}{h:zbb}{c sz i k n:Nat}{es ds:List D}{e:D}(ht:TI P t n true)(hx:fr s= .ptr c sz i k)(hh:Has c (.cells sz es) h)(he:es[i]? =some e)(hkn:k+n<=e.flat.length)
   (hd:(e.flat.drop k).take n=ds):LoadA P t fr s h (.agg ds):=by
 intro A M w0 w x hr hv
 rw [hx]at hv
 cases hv with
 | ptr hc=>
   obtain⟨_,cs,hcs,hcl,hcell⟩:=own_part hr hh he hkn
   rw [hd]at hcs
   obtain⟨v,hv1,hv2⟩:=(run_loadVar' ht hcs hcell (by rw [hcs.length,hcl])).1 rfl
   exact⟨v,by simp [asAddr,hv1],hv2⟩
theorem LoadA.whole {P:Program}{t:TypeId}{fr:Nat->D}{s:Nat}{h:zbb}{c sz i n:Nat}{es:List D}{e:D}(ht:TI P t n true)(hx:fr s= .ptr c sz i 0)(hn:Nat.beq sz n=true)(hh:Has c (.cells sz es) h)(he:es[i]? =some e)
   (hag:∃ ds,e= .agg ds):LoadA P t fr s h e:=by
 intro A M w0 w x hr hv
 obtain⟨ds,rfl⟩:=hag
 have hok:=(hr.cells hh).1 _ (List.mem_of_getElem? he)
 have hn:=Nat.eq_of_beq_eq_true hn
 have hl:ds.length=n:=by rw [<- hn]; exact hok.1
 exact LoadA.agg (ds:=ds) ht hx hh he (by simp [D.flat,hl]) (by simp [D.flat,<-hl]) A M w0 w x hr hv
inductive ResL (P:Program)(fr:Nat->D)(h:zbb):List ResultVar->List D->Prop
 |nil:ResL P fr h [] []
 |tmp {t:Nat} {d:D} {rs:List ResultVar} {ds:List D} (hd:fr t=d) (hs:ResL P fr h rs ds):ResL P fr h (.tmp t::rs) (d::ds)
 |cell {s:Nat} {t:TypeId} {d:D} {rs:List ResultVar} {ds:List D} (hd:LoadA P t fr s h d) (hs:ResL P fr h rs ds):ResL P fr h (.cell s t::rs) (d::ds)
@[reducible] def tupD :List D->D
 | [d]=>d
 |ds=> .tup ds
def resRun (tmps:Array Value):ResultVar->Sem Value
 | .tmp t=>pure (tmps.getD t undef)
 | .cell b t=>do loadVar t (<- asAddr (tmps.getD b undef))
theorem ResL.run {P:Program}{fr:Nat->D}{h:zbb}{n:Nat}{A M:Nat->Prop}{w0 w:World}{a:Act}(r:Rel n A M w0 fr h a w):∀ {rs:List ResultVar} {ds:List D},ResL P fr h rs ds->
   ∃ vs,(rs.mapM (resRun a.tmps):Sem (List Value)).run P w= .ok vs w/\VL w (XX A h) ds vs
 |_,_,.nil=>⟨[],by simp,.nil⟩
 | _,_,.tmp (t:=t) hd hs=>by
   obtain⟨vs,h1,h2⟩:=hs.run r
   refine⟨a.tmps.getD t undef::vs,?_,.cons (hd▸r.frame t) h2⟩
   rw [List.mapM_cons]
   simp only [Sem.run_bind,resRun,Sem.run_pure,Result.andThen_ok]
   rw [h1]
   rfl
 | _,_,.cell (s:=s) (t:=t) hd hs=>by
   obtain⟨vs,h1,h2⟩:=hs.run r
   obtain⟨v,h3,h4⟩:=hd A M w0 w _ r.heap (r.frame s)
   refine⟨v::vs,?_,.cons h4 h2⟩
   rw [List.mapM_cons]
   rw [Sem.run_bind,show(resRun a.tmps (.cell s t)).run P w= .ok v w from h3]
   simp only [Result.andThen_ok,Sem.run_bind,Sem.run_pure]
   rw [h1]
   rfl
theorem ResL.results {P:Program}{fr:Nat->D}{h:zbb}{n:Nat}{A M:Nat->Prop}{w0 w:World}{a:Act}(r:Rel n A M w0 fr h a w){fn:Func}{ds:List D}(hr:ResL P fr h fn.results.toList ds):
   ∃ v,(results fn a.tmps).run P w= .ok v w/\V w (XX A h) (tupD ds) v:=by
 obtain⟨vs,h1,h2⟩:=hr.run r
 have hrun:(fn.results.mapM (resRun a.tmps):Sem (Array Value)).run P w= .ok vs.toArray w:=by
   rw [Array.mapM_eq_mapM_toList]
   simp only [Sem.run_map]
   rw [h1]
   rfl
 have hres:Go.results fn a.tmps=(do let vs <-fn.results.mapM (resRun a.tmps); pure (if h:vs.size=1 then vs[0]else .tuple vs):Sem Value):=by
   unfold Go.results
   congr 1
 rw [hres]
 simp only [Sem.run_bind]
 rw [hrun]
 cases h2 with
 |nil=>exact⟨.tuple #[],by simp,.tup (vs:= []) .nil⟩
 | @cons d ds x xs h3 h4=>
   cases h4 with
   |nil=>exact⟨x,by simp,h3⟩
   | @cons d' ds' x' xs' h5 h6=>
     refine⟨.tuple (x::x'::xs').toArray,by simp,?_⟩
     exact .tup (.cons h3 (.cons h5 h6))
theorem Lie.other {w w':World}{X:Nat->Prop}{b:Nat}(hk:∀ k,k≠b->w'.heap[k]? =w.heap[k]?)(hc:∀ o,w.cell? ⟨b,o,none⟩=none){b' o:Nat}{cs:List Value}(h:Lie w X b' o cs):Lie w' X b' o cs:=by
 rcases h with h|⟨hx,h⟩
 · exact .inl h
 · cases cs with
   |nil=>exact .inl rfl
   | cons c cs=>
     have hne:b'≠b:=fun e=>by subst e; have:=h 0 c rfl; rw [hc]at this; cases this
     exact .inr ⟨hx,fun j c' hj=>(World.cell?_of_block (hk b' hne)).trans (h j c' hj)⟩
theorem Rel.init {n:Nat}{A M:Nat->Prop}{w:World}{h:zbb}{ds:List D}{vs:List Value}(hr:HRel A M w h w)(hv:VL w (XX A h) ds vs)(hn:ds.length<=n):
   Rel n A M w (frOf ds) h {tmps:=vs.toArray++Array.replicate (n-vs.toArray.size) undef,defers:= []} w where
 size:=by have:=hv.length; simp; omega
 frame :=fun i=>by
   rw [frOf_get]
   cases hd:ds[i]? with
   | some d=>
     obtain⟨x,h1,h2⟩:=hv.get i d hd
     have hlt:=(List.getElem?_eq_some_iff.1 h1).1
     have:(vs.toArray++Array.replicate (n-vs.toArray.size) undef).getD i undef=x:=by
       simp [Array.getElem?_append,hlt]
       have:=(List.getElem?_eq_some_iff.1 h1).2
       exact this
     rw [this]; exact h2
   | none=>
     have hge:vs.length<=i:=by
       rw [<- hv.length]
       rcases Nat.lt_or_ge i ds.length with h|h
       · rw [List.getElem?_eq_getElem h]at hd; simp at hd
       · exact h
     have:(vs.toArray++Array.replicate (n-vs.toArray.size) undef).getD i undef=undef:=by
       simp only [Array.getD_eq_getD_getElem?,Array.getElem?_append,List.size_toArray,if_neg (Nat.not_lt.2 hge),Array.getElem?_replicate]
       split<;>rfl
     rw [this]; exact .v _
 defers:=Marks.nil _ _ _
 heap:=hr
theorem Mono.of_rel {A:Nat->Prop}{w w':World}{h h':zbb}(r:HRel A (fun b=>2*b∈keys h) w h' w'):Mono w (XX A h) w' (XX A h') where
 size:=r.ext.size
 keep:=fun b hb hx=>r.ext.keep b hb fun hm=>hx (.inr hm)
 shape:=r.ext.shape
 avoid:=fun b hb hx=>by
   rcases hx with hx|hx
   · exact .inl hx
   · rcases r.mine _ hx (by omega)with hm|hm
     · rw [show 2*b / 2=b from by omega]at hm; exact .inr hm
     · omega
mutual
theorem V.other {w w':World}{X:Nat->Prop}{b:Nat}(hk:∀ k,k≠b->w'.heap[k]? =w.heap[k]?)(hc:∀ o,w.cell? ⟨b,o,none⟩=none)(hs:w.shape? b=none):∀ {d:D} {x:Value},V w X d x->V w' X d x
 |_,_,.v x=> .v x
 |_,_,.agg h=> .agg (h.other hk hc hs)
 |_,_,.list hok h ha hl hcp=> .list hok (h.other hk hc hs) ha (Lie.other hk hc hl) hcp
 |_,_,.own hcp h=> .own hcp (h.imp (fun⟨h1,h2,e,n,h3,hn⟩=>⟨h1,h2,e,n,(zax (hk _ (fun e=>by rw [e,hs]at h3; cases h3))).trans h3,hn⟩) id)
 |_,_,.ptr hcp=> .ptr hcp
 |_,_,.iptr hok h hl=> .iptr hok (h.other hk hc hs) (Lie.other hk hc hl)
 |_,_,.map hcp=> .map hcp
 |_,_,.fn h h'=> .fn (h.other hk hc hs) (h'.other hk hc hs)
 |_,_,.tup h=> .tup (h.other hk hc hs)
 |_,_,.iface h=> .iface (h.other hk hc hs)
 |_,_,.top x=> .top x
 |_,_,.tself hcp h3=> .tself hcp ((zax (hk _ (fun e=>by rw [e,hs]at h3; cases h3))).trans h3)
 |_,_,.tbuf hcp ⟨h1,h2,h3,n,h4,hn⟩=> .tbuf hcp ⟨h1,h2,h3,n,(zax (hk _ (fun e=>by rw [e,hs]at h4; cases h4))).trans h4,hn⟩
 |_,_,.clip hok h ha hl=> .clip hok (h.other hk hc hs) ha (Lie.other hk hc hl)
theorem VL.other {w w':World}{X:Nat->Prop}{b:Nat}(hk:∀ k,k≠b->w'.heap[k]? =w.heap[k]?)(hc:∀ o,w.cell? ⟨b,o,none⟩=none)(hs:w.shape? b=none):∀ {ds:List D} {xs:List Value},VL w X ds xs->VL w' X ds xs
 |_,_,.nil=> .nil
 |_,_,.cons h hs'=> .cons (h.other hk hc hs) (hs'.other hk hc hs)
end
theorem BlkRel.other {w w':World}{X:Nat->Prop}{b c:Nat}{blk:Blk}(hb:BlkRel w X c blk)(hk:∀ k,k≠b->w'.heap[k]? =w.heap[k]?)(hc:∀ o,w.cell? ⟨b,o,none⟩=none)(hs:w.shape? b=none)(hne:c % 2=0->c / 2≠b):BlkRel w' X c blk:=by
 cases blk with
 | cells sz es=>
   refine⟨hb.1,hb.2.imp id ?_⟩
   rintro⟨h1,arr,e,cs,h2,h3,h4⟩
   exact⟨h1,arr,e,cs,h2.eq (hk _ (hne h1)),h3.other hk hc hs,h4⟩
 | map es=>
   obtain⟨h1,ents,clock,h2,h3,h4,h5⟩:=hb
   exact⟨h1,ents,clock,(hk _ (hne h1)).trans h2,h3,h4.other hk hc hs,h5⟩
 |raw o=>exact⟨hb.1,(hk _ (hne hb.1)).trans hb.2⟩
 | loop n fr ps assign body=>
   obtain⟨h1,fn,tmps,D,h2,h3,h4⟩:=hb
   exact⟨h1,fn,tmps,D,(hk _ (hne h1)).trans h2,h3,fun i=>(h4 i).other hk hc hs⟩
theorem HRel.other {A M:Nat->Prop}{w0 w w':World}{h:zbb}(hr:HRel A M w0 h w){b:Nat}(hk:∀ k,k≠b->w'.heap[k]? =w.heap[k]?)(hc:∀ o,w.cell? ⟨b,o,none⟩=none)(hs:w.shape? b=none)
   (hx:¬XX A h b) (h0:w0.heap.size<=b) (hg:b ∉ globIds) (hsz:w'.heap.size=w.heap.size) (ho:w'.os=w.os) (ht:w'.tape=w.tape) (hp:w'.output=w.output) (hd:w.drawn<=w'.drawn):HRel A M w0 h w':=by
 have hkey:∀ c,c∈keys h->c % 2=0->c / 2≠b:=fun c hc1 hc2 e=>hx (.inr (by rw [<- e,show 2*(c / 2)=c from by omega]; exact hc1))
 refine⟨hr.nodup,fun c blk hm=>?_,hr.free,hr.mine,hr.bound,by rw [hsz]; exact hr.old,⟨ho.trans hr.ext.os,ht.trans hr.ext.tape,hp.trans hr.ext.output,by rw [hsz]; exact hr.ext.size,fun k hk1 hk2=>(hk k (by omega)).trans (hr.ext.keep k hk1 hk2),fun k hk1=>(zax (hk k (by omega))).trans (hr.ext.shape k hk1),fun o_=>Nat.le_trans (hr.ext.drawn o_) hd⟩,?_⟩
 · exact(hr.blk c blk hm).other hk hc hs (hkey c (List.mem_map.2 ⟨_,hm,rfl⟩))
 · obtain⟨W0,g0,g1⟩:=hr.glob
   exact⟨W0,g0,fun g hgm=>⟨(g1 g hgm).1,by rw [hsz]; exact(g1 g hgm).2.1,(hk g (fun e=>hg (e▸hgm))).trans (g1 g hgm).2.2⟩⟩
def cellsB :Obj->Bool
 | .cells .. =>true
 |_=>false
theorem noncell {w:World}{b:Nat}{o:Obj}(h:w.heap[b]? =some o)(hn:cellsB o=false):(∀ i,w.cell? ⟨b,i,none⟩=none)/\w.shape? b=none:=by
 constructor
 · intro i; unfold World.cell?; simp only [h]; cases o<;>first|rfl|simp [cellsB]at hn
 · unfold World.shape?; rw [h]; cases o<;>first|rfl|simp [cellsB]at hn
theorem leaves_marks {P:Program}{fn:Func}{tmps:Array Value}{R:Ending->World->Prop}{A M:Nat->Prop}{w0:World}{fr:Nat->D}{h:zbb}
   (hR:∀ w,HRel A M w0 h w->(∀ i,V w (XX A h) (fr i) (tmps.getD i undef))->∃ v,(results fn tmps).run P w= .ok v w/\R (.returned v) w):
   ∀ (Ds:List Nat) (w:World),Ds.Nodup->(∀ b∈Ds,w.heap[b]? =some (.deferred (some []))/\¬XX A h b/\w0.heap.size<=b/\b ∉ globIds)->HRel A M w0 h w->(∀ i,V w (XX A h) (fr i) (tmps.getD i undef))->
     LeavesInM Fence.wide 0 P fn tmps R (Ds.map fun b=> {target:= .collected b,args:= #[]}) .returning w
 | [],w,_,_,hr,hf=>hR w hr hf
 | b::Ds,w,hn,hb,hr,hf=>by
   obtain⟨a1,a2,a3,a4⟩:=hb b (by simp)
   obtain⟨n1,n2⟩:=List.nodup_cons.1 hn
   obtain⟨c1,c2⟩:=noncell a1 rfl
   have hk:∀ k,k≠b->(w.putObj b (.deferred none)).heap[k]? =w.heap[k]? :=fun k hk=>World.putObj_heap_other hk
   refine⟨by simp,.inl ⟨b,w.putObj b (.deferred none),rfl,run_takeDeferred a1,?_⟩⟩
   refine leaves_marks hR Ds _ n2 (fun d hd=>?_) (hr.other hk c1 c2 a2 a3 a4 (by simp [World.putObj]) rfl rfl rfl (Nat.le_refl _)) (fun i=>(hf i).other hk c1 c2)
   obtain⟨d1,d2,d3,d4⟩:=hb d (by simp [hd])
   exact⟨(hk d (fun e=>n1 (e▸hd))).trans d1,d2,d3,d4⟩
abbrev RetA (P:Program)(fn:Func)(K:D->zbb->Prop):Post
 | .normal,fr,h=>∃ ds,ResL P fr h fn.results.toList ds/\K (tupD ds) h
 | .ret,fr,h=>∃ ds,ResL P fr h fn.results.toList ds/\K (tupD ds) h
 |_,_,_=>False
theorem CallH.of_body {P:Program}{f:Nat}{fn:Func}{c:Code}{n:Nat}{ds:List D}{h:zbb}{K:D->zbb->Prop}(hf:P.funcs[f]? =some fn)(hb:fn.body=some c)(hn:fn.ntmps=n)(hd:Nat.ble ds.length n=true)
   (hh:wpA P n c (RetA P fn K) (frOf ds) h):CallH P f ds h K:=by
 intro A w vs hr hv
 refine(callsIn_wide (n:=0)).1 (callsIn_of_wp_marks (F:=Fence.wide) hf hb trivial (wpIn_mono (hh A (fun b=>2*b∈keys h) w _ w ?_ none (.inl rfl)) ?_))
 · rw [hn]; exact Rel.init hr hv (Nat.le_of_ble_eq_true hd)
 · rintro e a' w' ⟨fr',h',hq,r⟩
   cases e with
   | normal=>
     obtain⟨ds',h1,h2⟩:=hq
     obtain⟨Ds,e1,e2,e3⟩:=r.defers
     show LeavesInM Fence.wide 0 P fn a'.tmps _ a'.defers .returning w'
     rw [e1]
     refine leaves_marks (fun w'' hr' hf'=>?_) Ds w' e2 e3 r.heap r.frame
     obtain⟨v,h3,h4⟩:=h1.results (a:= {tmps:=a'.tmps,defers:= []}) ⟨r.size,hf',Marks.nil _ _ _,hr'⟩
     exact⟨v,h3,v,_,h',rfl,h2,hr',Mono.of_rel hr',h4⟩
   | ret=>
     obtain⟨ds',h1,h2⟩:=hq
     obtain⟨Ds,e1,e2,e3⟩:=r.defers
     show LeavesInM Fence.wide 0 P fn a'.tmps _ a'.defers .returning w'
     rw [e1]
     refine leaves_marks (fun w'' hr' hf'=>?_) Ds w' e2 e3 r.heap r.frame
     obtain⟨v,h3,h4⟩:=h1.results (a:= {tmps:=a'.tmps,defers:= []}) ⟨r.size,hf',Marks.nil _ _ _,hr'⟩
     exact⟨v,h3,v,_,h',rfl,h2,hr',Mono.of_rel hr',h4⟩
   |exit id=>exact hq.elim
   |goto l=>exact hq.elim
   |panic ch=>exact hq.elim
   |outgrown=>exact hq.elim
theorem HRel.empty {A:Nat->Prop}{w:World}(hb:∃ N,∀ c,A c->c<N)(ho:∀ b,A (2*b)->b<w.heap.size)(hg:Glob w (fun b=>A (2*b)))(M:Nat->Prop):HRel A M w [] w:=
 ⟨by simp,by simp,by simp,by simp,hb,ho,Ext.refl _ _,hg.mono (.less fun b hb=>hb.elim id (by simp))⟩
theorem XX_nil (A:Nat->Prop):XX A []=fun b=>A (2*b):=by funext b; simp [XX]
abbrev OutA (fresh:Bool)(R:D->Prop)(d:D)(h:zbb):Prop:=∃ d',Snap fresh h [d] [d']/\R d'
theorem Fun.of_body {fresh:Bool}{P:Program}{f:Nat}{fn:Func}{c:Code}{n:Nat}{ds:List D}{R:D->Prop}(hf:P.funcs[f]? =some fn)(hb:fn.body=some c)(hn:fn.ntmps=n)(hd:Nat.ble ds.length n=true)
   (hh:wpA P n c (RetA P fn (OutA fresh R)) (frOf ds) []):Fun fresh P f ds R:=by
 intro A w vs hbd ho hgl hv
 refine(CallH.of_body hf hb hn hd hh A w vs (HRel.empty hbd ho hgl _) (by rw [XX_nil]; exact hv)).mono ?_
 rintro e w' ⟨v,d,h',rfl,⟨d',hs,hR⟩,hr,hm,hvv⟩
 have hsz:∀ c,c∈keys h'->c % 2=0->w.heap.size<=c / 2:=fun c hc he=>by
   rcases hr.mine c hc he with h|h
   · simp at h
   · exact h
 have:=hs.sound (X':=fun b=>cond fresh (b<w.heap.size) (A (2*b))) hr (fun _ _ h=>h) (by
     intro hff b hx
     subst hff
     exact .inl hx) (by
     intro c hc he hx
     cases fresh with
     |true=>have:=hsz c hc he; simp only [cond_true]at hx; omega
     | false=>
       simp only [cond_false]at hx
       rw [show 2*(c / 2)=c from by omega]at hx
       exact hr.free c hc hx) [v] (.cons hvv .nil)
 cases this with
 |cons h1 _=>exact⟨v,d',rfl,hR,h1,hr.ext.more (by simp)⟩
def entersB (P:Program)(f:Nat):Bool:=
 match P.funcs[f]? with
 | some fn => !(fn.name == "runtime.NumGoroutine") && fn.body.isSome
 |none=>false
theorem run_enter {P:Program}{f:Nat}(h:entersB P f=true)(args:Array Value)(w:World):(callFunc f args).run P w= .ok (.enter f args) w:=by
 unfold entersB at h
 split at h
 · rename_i fn hfn
   simp only [Bool.and_eq_true,Bool.not_eq_true']at h
   have h2:fn.body.isNone=false:=by cases hb:fn.body<;>simp_all
   simp only [callFunc,Sem.run_bind,run_program,Result.andThen_ok,hfn,h.1,h2,Bool.false_eq_true,if_false,Sem.run_pure]
 · simp at h
section
variable {P:Program}{o:Oper}{fr:Nat->D}{h:zbb}{K:D->zbb->Prop}
theorem evs_VL {w:World}{X:Nat->Prop}{ac:Act}:∀(xs:List Operand),(∀ x∈xs,V w X (ev fr x) (ac.eval x))->VL w X (xs.map (ev fr)) (xs.map ac.eval)
 | [],_=> .nil
 |x::xs,hv=> .cons (hv x (by simp)) (evs_VL xs fun y hy=>hv y (List.mem_cons_of_mem _ hy))
theorem call_wp {A M:Nat->Prop}{w0 w:World}{cl:Call}{g:Operand}{f:Nat}{fs cs:List D}{ac:Act}(ho:o.op= .call cl)(hc:cl.callee= .value g)(hg:ev fr g= .fn (.func f) fs cs)(he:entersB P f=true)
   (_hr:HRel A M w0 h w) (hv:∀ x,x∈o.op.operands->V w (XX A h) (ev fr x) (ac.eval x)):
   ∃ vs,VL w (XX A h) (fs++cl.args.toList.map (ev fr)++cs) vs/\(execOp ac.eval o).run P w= .ok (.enter f vs.toArray) w:=by
 have h1:=hv g (by simp [ho,Op.operands,Call.operands,hc])
 have h2:=evs_VL (ac:=ac) cl.args.toList (fun x hx=>hv x (by simp [ho,Op.operands,Call.operands,hc]; exact .inr (by simpa using hx)))
 rw [hg]at h1
 generalize hu:ac.eval g=u at h1
 cases h1 with
 | @fn _ _ _ fv cv h3 h4=>
   refine⟨fv++cl.args.toList.map ac.eval++cv,(h3.append h2).append h4,?_⟩
   have e1:fv.toArray++cl.args.map ac.eval++cv.toArray=(fv++cl.args.toList.map ac.eval++cv).toArray:=by
     apply Array.toList_inj.1; simp
   simp only [execOp,ho,resolve,hc,hu,Deferred.ofValue,Sem.run_bind,Sem.run_pure,Result.andThen_ok,invoke,e1,run_enter he]
theorem HRel.avoid {A M:Nat->Prop}{w0 w:World}(hr:HRel A M w0 h w):(∃ N,∀ c,(A c\/c∈keys h)->c<N)/\∀ b,(A (2*b)\/2*b∈keys h)->b<w.heap.size:=by
 refine⟨?_,fun b hb=>hr.xlt hb⟩
 obtain⟨N,hN⟩:=hr.bound
 obtain⟨m,hm⟩:∃ m,∀ c,c∈keys h->c<=m:=by
   generalize keys h=l
   induction l with
   |nil=>exact⟨0,by simp⟩
   | cons x l ih=>
     obtain⟨m,hm⟩:=ih
     refine⟨max x m,fun c hc=>?_⟩
     rcases List.mem_cons.1 hc with h|h
     · subst h; omega
     · have:=hm c h; omega
 refine⟨N+m+1,fun c hc=>?_⟩
 rcases hc with hc|hc
 · have:=hN c hc; omega
 · have:=hm c hc; omega
theorem HRel.extend {A M:Nat->Prop}{w0 w w':World}(hr:HRel A M w0 h w)(he:Ext (fun _=>False) w w'):HRel A M w0 h w'/\Mono w (XX A h) w' (XX A h):=by
 have hm:Mono w (XX A h) w' (XX A h):=⟨he.size,fun b hb _=>he.keep b hb (fun h=>h),he.shape,fun _ _ hx=>hx⟩
 refine⟨⟨hr.nodup,fun c b hc=>(hr.blk c b hc).mono hm (fun hev=>he.keep _ ((hr.blk c b hc).lt hev) (fun h=>h)),hr.free,hr.mine,hr.bound,fun b hb=>Nat.lt_of_lt_of_le (hr.old b hb) he.size,?_,hr.glob.mono hm⟩,hm⟩
 exact hr.ext.trans (he.more (by simp))
theorem OpA.call {fresh:Bool}{cl:Call}{g:Operand}{f:Nat}{fs cs:List D}{R:D->Prop}(ho:o.op= .call cl)(hc:cl.callee= .value g)(hg:ev fr g= .fn (.func f) fs cs)(he:entersB P f=true)
   (hf:Fun fresh P f (fs++cl.args.toList.map (ev fr)++cs) R) (hk:∀ d,R d->K d h):OpA P o fr h K:=
 fun A M w0 ac w hr hv next Q hn=>by
   obtain⟨vs,h1,h2⟩:=call_wp ho hc hg he hr hv
   obtain⟨hb1,hb2⟩:=hr.avoid
   intro ro
   refine wd_op h2 (by simp) ⟨fun h=>(by cases h),wd_calls ?_⟩
   refine(hf (fun c=>A c\/c∈keys h) w vs hb1 hb2 hr.glob h1).mono ?_
   rintro e w' ⟨v,d,rfl,hR,hvv,hext⟩
   obtain⟨r1,r2⟩:=hr.extend hext
   refine hn v w' d h (hk d hR) r1 r2 (hvv.mono (.less fun b hb=>?_))
   cases fresh with
   |false=>exact hb
   |true=>exact hr.xlt hb
theorem OpA.call_snap {fresh:Bool}{cl:Call}{g:Operand}{f:Nat}{fs cs ds:List D}{R:D->Prop}(ho:o.op= .call cl)(hc:cl.callee= .value g)(hg:ev fr g= .fn (.func f) fs cs)(he:entersB P f=true)
   (hs:Snap false h (fs++cl.args.toList.map (ev fr)++cs) ds) (hf:Fun fresh P f ds R) (hp:∀ d,R d->fresh=true\/Plain d) (hk:∀ d,R d->K d h):OpA P o fr h K:=
 fun A M w0 ac w hr hv next Q hn=>by
   obtain⟨vs,h1,h2⟩:=call_wp ho hc hg he hr hv
   intro ro
   refine wd_op h2 (by simp) ⟨fun h=>(by cases h),wd_calls ?_⟩
   have h3:=hs.sound (X':=fun b=>A (2*b)) hr (fun _ _ h=>h) (fun _ b hb=> .inl hb) (fun c hc hev hx=>by
     rw [show 2*(c / 2)=c from by omega]at hx
     exact hr.free c hc hx) vs h1
   refine(hf A w vs hr.bound hr.old (hr.glob.mono (.less fun b hb=> .inl hb)) h3).mono ?_
   rintro e w' ⟨v,d,rfl,hR,hvv,hext⟩
   obtain⟨r1,r2⟩:=hr.extend hext
   refine hn v w' d h (hk d hR) r1 r2 ?_
   rcases hp d hR with hp|hp
   · subst hp
     exact hvv.mono (.less fun b hb=>hr.xlt hb)
   · exact hvv.plain hp
theorem OpA.callH {cl:Call}{g:Operand}{f:Nat}{fs cs:List D}{h1 h2:zbb}{K':D->zbb->Prop}(ho:o.op= .call cl)(hc:cl.callee= .value g)(hg:ev fr g= .fn (.func f) fs cs)(he:entersB P f=true)
   (hp:h.Perm (h1++h2)) (hf:CallH P f (fs++cl.args.toList.map (ev fr)++cs) h1 K') (hk:∀ d h',K' d h'->K d (h'++h2)):OpA P o fr h K:=
 fun A M w0 ac w hr hv next Q hn=>by
   obtain⟨vs,hvs,h4⟩:=call_wp ho hc hg he hr hv
   intro ro
   refine wd_op h4 (by simp) ⟨fun h=>(by cases h),wd_calls ?_⟩
   obtain⟨hr',hm'⟩:=hr.perm hp
   have hvs':=hvs.mono hm'
   have hnd:=hr'.nodup
   simp only [zch,List.nodup_append]at hnd
   have hxx:XX (fun c=>A c\/c∈keys h2) h1=XX A (h1++h2):=by
     funext b; simp only [XX,zch,List.mem_append,eq_iff_iff]
     constructor
     · rintro((h|h)|h)
       · exact .inl h
       · exact .inr (.inr h)
       · exact .inr (.inl h)
     · rintro(h|h|h)
       · exact .inl (.inl h)
       · exact .inr h
       · exact .inl (.inr h)
   have hcall:HRel (fun c=>A c\/c∈keys h2) (fun b=>2*b∈keys h1) w h1 w:=by
     refine⟨hnd.1,fun c b hc=>by rw [hxx]; exact hr'.blk c b (List.mem_append.2 (.inl hc)),?_,?_,?_,?_,Ext.refl _ _,by rw [hxx]; exact hr'.glob⟩
     · rintro c hc (ha|ha)
       · exact hr'.free c (by simp [hc]) ha
       · exact hnd.2.2 c hc c ha rfl
     · intro c hc hev; left; show 2*(c / 2)∈keys h1; rw [show 2*(c / 2)=c from by omega]; exact hc
     · obtain⟨N,hN⟩:=hr'.avoid.1
       exact⟨N,fun c hc=>hN c (hc.imp id (fun h=>by simp [h]))⟩
     · intro b hb
       exact hr'.avoid.2 b (hb.imp id (fun h=>by simp [h]))
   refine(hf _ w vs hcall (by rw [hxx]; exact hvs')).mono ?_
   rintro e w' ⟨v,d,h',rfl,hK,hrr,hmm,hvv⟩
   have hnd2:(keys (h'++h2)).Nodup:=by
     simp only [zch,List.nodup_append]
     exact⟨hrr.nodup,hnd.2.1,fun c hc c' hc' he=>hrr.free c hc (.inr (he▸hc'))⟩
   have hxx2:XX (fun c=>A c\/c∈keys h2) h'=XX A (h'++h2):=by
     funext b; simp only [XX,zch,List.mem_append,eq_iff_iff]
     constructor
     · rintro((h|h)|h)
       · exact .inl h
       · exact .inr (.inr h)
       · exact .inr (.inl h)
     · rintro(h|h|h)
       · exact .inl (.inl h)
       · exact .inr h
       · exact .inl (.inr h)
   rw [hxx,hxx2]at hmm
   have hmono:=hm'.trans hmm
   have hin1:∀ b,2*b∈keys h1->b<w.heap.size->M b\/w0.heap.size<=b:=fun b hb _=>by
     have:=hr'.mine (2*b) (by simp [hb]) (by omega)
     rwa [show 2*b / 2=b from by omega]at this
   refine hn v w' d (h'++h2) (hk d h' hK) ⟨hnd2,?_,?_,?_,hr.bound,fun b hb=>Nat.lt_of_lt_of_le (hr.old b hb) hrr.ext.size,?_,by rw [<- hxx2]; exact hrr.glob⟩ hmono (by rw [<- hxx2]; exact hvv)
   · intro c b hc
     rcases List.mem_append.1 hc with hc|hc
     · rw [<- hxx2]; exact hrr.blk c b hc
     · have hb:=hr'.blk c b (List.mem_append.2 (.inr hc))
       refine hb.mono hmm (fun hev=>?_)
       refine hrr.ext.keep _ (hb.lt hev) (fun hx=>?_)
       have hx:2*(c / 2)∈keys h1:=hx
       rw [show 2*(c / 2)=c from by omega]at hx
       exact hnd.2.2 c hx c (List.mem_map.2 ⟨_,hc,rfl⟩) rfl
   · intro c hc ha
     simp only [zch,List.mem_append]at hc
     rcases hc with hc|hc
     · exact hrr.free c hc (.inl ha)
     · exact hr'.free c (by simp [hc]) ha
   · intro c hc hev
     simp only [zch,List.mem_append]at hc
     rcases hc with hc|hc
     · rcases hrr.mine c hc hev with hmn|hmn
       · have hmn:2*(c / 2)∈keys h1:=hmn
         rw [show 2*(c / 2)=c from by omega]at hmn
         exact hr'.mine c (by simp [hmn]) hev
       · right; have:=hr.ext.size; omega
     · exact hr'.mine c (by simp [hc]) hev
   · refine⟨hrr.ext.os.trans hr.ext.os,hrr.ext.tape.trans hr.ext.tape,hrr.ext.output.trans hr.ext.output,Nat.le_trans hr.ext.size hrr.ext.size,fun b hb hn'=>?_,fun b hb=>(hrr.ext.shape b (Nat.lt_of_lt_of_le hb hr.ext.size)).trans (hr.ext.shape b hb),fun o_=>Nat.le_trans (hr.ext.drawn o_) (hrr.ext.drawn o_)⟩
     refine(hrr.ext.keep b (Nat.lt_of_lt_of_le hb hr.ext.size) (fun hx=>?_)).trans (hr.ext.keep b hb hn')
     rcases hin1 b hx (Nat.lt_of_lt_of_le hb hr.ext.size)with hq|hq
     · exact hn' hq
     · omega
end
end Go.Lic
set_option linter.all false
namespace Go.Lic
variable [Fl]
@[reducible] def updO (fr:Nat->D)(t:Option Nat)(d:D):Nat->D:=
 match t with
 |some t=>upd fr t d
 |none=>fr
def DetStep (P:Program)(ops:Array Oper)(h:zbb)(o:Oper)(fr:Nat->D)(d:D):Prop:=
 (o.guard=none/\OpA P o fr h fun d' h'=>d'=d/\h'=h)\/
 (∃ j want s b,o.guard=some (j,want)/\(ops[j]?).bind (·.dst)=some s/\fr s= .b b/\(((b==want)=true/\OpA P o fr h fun d' h'=>d'=d/\h'=h)\/((b==want)=false/\d= .v undef)))\/
 ∃ j want s,o.guard=some (j,want)/\(ops[j]?).bind (·.dst)=some s/\fr s= .v undef/\d= .v undef
inductive DetL (P:Program)(ops:Array Oper)(h:zbb):List Oper->(Nat->D)->List D->Prop
 |nil {fr:Nat->D}:DetL P ops h [] fr []
 |cons {o:Oper} {l:List Oper} {fr:Nat->D} {d:D} {ds:List D} (h1:DetStep P ops h o fr d) (h2:DetL P ops h l (updO fr o.dst d) ds):DetL P ops h (o::l) fr (d::ds)
@[reducible] def runFr (fr:Nat->D):List Oper->List D->Nat->D
 |o::l,d::ds=>runFr (updO fr o.dst d) l ds
 |_,_=>fr
def DetK (P:Program)(ops:Array Oper)(h:zbb)(l:List Oper)(fr:Nat->D)(C:(Nat->D)->Prop):Prop:=∃ ds,DetL P ops h l fr ds/\C (runFr fr l ds)
section
variable {P:Program}{ops:Array Oper}{h:zbb}{fr:Nat->D}{C:(Nat->D)->Prop}{o:Oper}{l:List Oper}{d:D}
theorem DetK.nil (hh:C fr):DetK P ops h [] fr C:=⟨[],.nil,hh⟩
theorem DetK.op (hg:o.guard=none)(h1:OpA P o fr h fun d' h'=>d'=d/\h'=h)(h2:DetK P ops h l (updO fr o.dst d) C):DetK P ops h (o::l) fr C:=by
 obtain⟨ds,h3,h4⟩:=h2
 exact⟨d::ds,.cons (.inl ⟨hg,h1⟩) h3,h4⟩
theorem DetK.opg {j s:Nat}{want b:Bool}(hg:o.guard=some (j,want))(hj:(ops[j]?).bind (·.dst)=some s)(hb:fr s= .b b)(hne:(b==want)=true)(h1:OpA P o fr h fun d' h'=>d'=d/\h'=h)
   (h2:DetK P ops h l (updO fr o.dst d) C):DetK P ops h (o::l) fr C:=by
 obtain⟨ds,h3,h4⟩:=h2
 exact⟨d::ds,.cons (.inr (.inl ⟨j,want,s,b,hg,hj,hb,.inl ⟨hne,h1⟩⟩)) h3,h4⟩
theorem DetK.skip {j s:Nat}{want b:Bool}(hg:o.guard=some (j,want))(hj:(ops[j]?).bind (·.dst)=some s)(hb:fr s= .b b)(hne:(b==want)=false)
   (h2:DetK P ops h l (updO fr o.dst (.v undef)) C):DetK P ops h (o::l) fr C:=by
 obtain⟨ds,h3,h4⟩:=h2
 exact⟨.v undef::ds,.cons (.inr (.inl ⟨j,want,s,b,hg,hj,hb,.inr ⟨hne,rfl⟩⟩)) h3,h4⟩
theorem DetK.skipU {j s:Nat}{want:Bool}(hg:o.guard=some (j,want))(hj:(ops[j]?).bind (·.dst)=some s)(hb:fr s= .v undef)
   (h2:DetK P ops h l (updO fr o.dst (.v undef)) C):DetK P ops h (o::l) fr C:=by
 obtain⟨ds,h3,h4⟩:=h2
 exact⟨.v undef::ds,.cons (.inr (.inr ⟨j,want,s,hg,hj,hb,rfl⟩)) h3,h4⟩
theorem DetL.length {l:List Oper}{fr:Nat->D}{ds:List D}(hd:DetL P ops h l fr ds):ds.length=l.length:=by
 induction hd with
 |nil=>rfl
 |cons _ _ ih=>simp [ih]
theorem DetL.nth {l:List Oper}{fr:Nat->D}{ds:List D}(hd:DetL P ops h l fr ds):∀(i:Nat) (o:Oper) (d:D),l[i]? =some o->ds[i]? =some d->DetStep P ops h o (runFr fr (l.take i) (ds.take i)) d:=by
 induction hd with
 |nil=>intro i o d h1; simp at h1
 | cons h1 _ ih=>
   intro i o d h2 h3
   cases i with
   |zero=>simp at h2 h3; subst h2; subst h3; exact h1
   |succ i=>simpa [runFr]using ih i o d (by simpa using h2) (by simpa using h3)
end
def befs (ops:List Oper):List (List Nat):=
 ops.foldl (fun acc o=>acc++ [(o.after.toList.flatMap fun e=>if Region.binds .any e then e.on::acc.getD e.on []else []).eraseDups]) []
def tmpsOf (o:Oper):List Nat:=o.op.operands.toList.filterMap fun| .tmp t=>some t|_=>none
def nodupB :List (Option Nat)->Bool
 | []=>true
 |x::l=>x.isSome&&l.all (fun y=> !(x==y))&&nodupB l
def drawOk (ops:List Oper)(m:Nat):Bool:=
 let L:=befs ops
 let dsts:=(ops.take m).map (·.dst)
 (m<=ops.length)&&
 -- the lists are right
 (ops.zipIdx.all fun(o,i)=>(L.getD i []).all fun j=>o.after.toList.any fun e=>Region.binds .any e&&(e.on==j||(L.getD e.on []).contains j))&&
 -- edges go back
 (ops.zipIdx.all fun(o,i)=>o.after.toList.all fun e=> !Region.binds .any e||decide (e.on<i))&&
 nodupB dsts&&
 -- whatever a first one reads is written before it, or by none of them
 ((ops.take m).zipIdx.all fun(o,i)=>(tmpsOf o).all fun t=>dsts.zipIdx.all fun(x,j)=> !(x==some t)||((L.getD i []).contains j&&decide (j<i))||((L.getD j []).contains i&&decide (i<j)))&&
 ((ops.take m).zipIdx.all fun(o,i)=>match o.guard with|none=>true|some (j,_)=>(L.getD i []).contains j&&decide (j<i))&&
 -- the last ones stand behind all
 (ops.zipIdx.all fun(_,i)=>decide (i<m)||(List.range i).all fun j=>(L.getD i []).contains j)
theorem zipIdx_all {α:Type}{l:List α}{p:α×Nat->Bool}(h:l.zipIdx.all p=true):∀ i x,l[i]? =some x->p (x,i)=true:=by
 intro i x hx
 rw [List.all_eq_true]at h
 exact h _ (List.mem_zipIdx_iff_getElem?.2 hx)
theorem nodupB_spec :∀(l:List (Option Nat)),nodupB l=true->∀(i j:Nat) (a b:Option Nat),l[i]? =some a->l[j]? =some b->a=b->i=j/\a.isSome=true
 | [],_,i,j,a,b,h1,_,_=>by simp at h1
 | x ::l,h,i,j,a,b,h1,h2,hab=>by
   simp only [nodupB,Bool.and_eq_true,List.all_eq_true]at h
   cases i with
   | zero=>
     simp at h1; subst h1
     cases j with
     |zero=>exact⟨rfl,h.1.1⟩
     | succ j=>
       have:=h.1.2 b (List.mem_of_getElem? (by simpa using h2))
       subst hab; simp at this
   | succ i=>
     cases j with
     | zero=>
       simp at h2; subst h2
       have:=h.1.2 a (List.mem_of_getElem? (by simpa using h1))
       subst hab; simp at this
     | succ j=>
       have:=nodupB_spec l h.2 i j a b (by simpa using h1) (by simpa using h2) hab
       exact⟨by omega,this.2⟩
def cnt (li:Array Bool):Nat->Nat
 |0=>0
 |k+1=>cnt li k+cond (li.getD k false) 0 1
theorem cnt_zero {li:Array Bool}:∀ {k:Nat},cnt li k=0->∀ i,i<k->li.getD i false=true
 |0,_,i,hi=>by omega
 | k +1,h,i,hi=>by
   simp only [cnt]at h
   by_cases hik:i=k
   · subst hik
     cases hl:li.getD i false with
     |true=>rfl
     |false=>rw [hl]at h; simp at h
   · exact cnt_zero (k:=k) (by omega) i (by omega)
theorem getD_set {li:Array Bool}{i j:Nat}(hi:i<li.size):(li.setIfInBounds i true).getD j false=if j=i then true else li.getD j false:=by
 by_cases h:j=i
 · subst h; simp [hi]
 · simp [h,Ne.symm h]
theorem cnt_set {li:Array Bool}{i:Nat}(hi:i<li.size)(hl:li.getD i false=false):∀ k,cnt (li.setIfInBounds i true) k+(if i<k then 1 else 0)=cnt li k
 |0=>by simp [cnt]
 | k +1=>by
   have ih:=cnt_set hi hl k
   simp only [cnt,getD_set hi]
   by_cases hk:k=i
   · subst hk
     simp only [Nat.lt_irrefl,if_false]at ih
     rw [if_pos rfl,hl,if_pos (by omega)]
     simp; omega
   · rw [if_neg hk]
     by_cases hik:i<k
     · rw [if_pos hik]at ih; rw [if_pos (by omega)]; omega
     · rw [if_neg hik]at ih; rw [if_neg (by omega)]; omega
section
variable {P:Program}{ops:Array Oper}{Q:Exit->Act->World->Prop}
theorem mem_ready {li:Array Bool}{i:Nat}(hs:li.size=ops.size):i∈Region.ready .any ops li↔∃ o,ops[i]? =some o/\li.getD i false=false/\∀ e∈o.after.toList,Region.binds .any e=true->li.getD e.on false=true:=by
 unfold Region.ready
 rw [List.mem_filter,List.mem_range]
 constructor
 · rintro⟨hi,h⟩
   simp only [Bool.and_eq_true,Bool.not_eq_true']at h
   have ho:ops[i]? =some ops[i]:=Array.getElem?_eq_getElem hi
   refine⟨_,ho,?_,?_⟩
   · have:=h.1
     simp [show i<li.size from by omega]at this ⊢
     exact this
   · intro e he hb
     have h2:=h.2
     rw [ho]at h2
     simp only [Option.map_some,Option.getD_some,Array.all_eq_true_iff_forall_mem]at h2
     have:=h2 e (by simpa using he)
     simpa [hb]using this
 · rintro⟨o,ho,hl,ha⟩
   have hi:i<ops.size:=by
     rcases Nat.lt_or_ge i ops.size with h|h
     · exact h
     · rw [Array.getElem?_eq_none h]at ho; simp at ho
   refine⟨hi,?_⟩
   simp only [Bool.and_eq_true,Bool.not_eq_true']
   refine⟨?_,?_⟩
   · simp [show i<li.size from by omega]at hl ⊢
     exact hl
   · rw [ho]
     simp only [Option.map_some,Option.getD_some,Array.all_eq_true_iff_forall_mem]
     intro e he
     cases hb:Region.binds .any e with
     |false=>simp
     |true=>simpa using ha e (by simpa using he) hb
theorem semAt_put {ro:Option Nat}{o:Oper}(hs:∀ cs b,o.op≠ .select cs b)(a:Act)(dst:Option Tmp)(v:Value)(h:∀ d,dst=some d->d ∉ o.looksAt ops):o.semAt ro (a.put dst v).eval=o.semAt ro a.eval:=by
 cases ro with
 |none=>exact execOp_put o hs a dst v h
 | some l=>
   cases ho:o.op with
   | defer c=>
     simp only [Oper.semAt,ho]
     rw [resolve_congr c o.type (fun x hx=>Act.eval_put fun d hd hxd=>h d hd (by
       subst hxd
       exact List.mem_append_left _ (List.mem_filterMap.2 ⟨.tmp d,by rw [ho]; simpa [Op.operands]using hx,rfl⟩)))]
   | _=>
     have hd:∀ c,o.op≠ .defer c:=by rw [ho]; intro c hc; cases hc
     rw [Oper.semAt_eq _ _ _ hd,Oper.semAt_eq _ _ _ hd]
     exact execOp_put o hs a dst v h
theorem upon_put {ro:Option Nat}{oi oj:Oper}{v:Value}(h2:∀ d,oi.dst=some d->oj.dst≠some d)(hQ:∀ c a w,Q (.panic c) (a.put oi.dst v) w->Q (.panic c) a w){K K':Act->World->Prop}{a:Act}
   (hv:∀ u w,K ((a.put oj.dst u).put oi.dst v) w->K' (a.put oj.dst u) w) (hd:∀ d u w,K (({a with defers:=d::a.defers}.put oj.dst u).put oi.dst v) w->K' ({a with defers:=d::a.defers}.put oj.dst u) w):
   ∀ r:Result Next,oj.uponIn (Wd ro) 0 P (a.put oi.dst v) K Q r->oj.uponIn (Wd ro) 0 P a K' Q r:=by
 have sw:∀ u w,K ((a.put oi.dst v).put oj.dst u) w->K' (a.put oj.dst u) w:=fun u w hk=>hv u w (by rw [<- Act.put_comm a v u h2]; exact hk)
 intro r hr
 match r,hr with
 | .ok (.value u) w,hr=>exact sw u w hr
 | .ok .skip w,hr=>exact sw undef w hr
 | .ok (.defer d) w,hr=>exact hd d undef w (by rw [<- Act.put_comm _ v undef h2,<-Act.put_defers]; exact hr)
 | .ok (.enter f args) w,hr=>exact⟨hr.1,hr.2.mono fun e w' he=>by cases e<;>first|exact sw _ _ he|exact hQ _ _ _ he|exact he⟩
 | .ok (.row row args) w,hr=>exact⟨hr.1,hr.2.mono fun u w' he=>sw u w' he⟩
 | .ok (.round l f tmps x y) w,hr=>exact⟨hr.1,hr.2.mono fun e w' he=>by cases e<;>first|exact sw _ _ he|exact hQ _ _ _ he|exact he⟩
 | .halt (.panic u) w,hr=>exact hQ _ _ _ hr
theorem op_yields {ro:Option Nat}{i:Nat}{o:Oper}{v:Value}{a:Act}(hi:ops[i]? =some o)(hy:Yields P ops o v a){K:Act->World->Prop}{w:World}(h:K (a.put o.dst v) w):wpOpIn (Wd ro) 0 P ops Q i K a w:=by
 unfold wpOpIn
 simp only [hi]
 rcases hy with⟨hw,hv⟩|⟨hw,rfl⟩
 · rw [if_pos hw]; exact wd_op (hv w) (by simp) h
 · rw [if_neg (by simp [hw])]; exact⟨fun _ _=>trivial,h⟩
theorem op_put {ro:Option Nat}{j:Nat}{oi oj:Oper}{v:Value}(hj:ops[j]? =some oj)(hap:oi.apart ops oj=true)(hsi:∀ cs b,oi.op≠ .select cs b)(hsj:∀ cs b,oj.op≠ .select cs b)
   (hQ:∀ c a w,Q (.panic c) (a.put oi.dst v) w->Q (.panic c) a w) {K:Act->World->Prop} {a:Act} {w:World} (hy:Yields P ops oi v a) (h:wpOpIn (Wd ro) 0 P ops Q j K (a.put oi.dst v) w):
   wpOpIn (Wd ro) 0 P ops Q j (fun a' w'=>Yields P ops oi v a'/\K (a'.put oi.dst v) w') a w:=by
 obtain⟨h1,h2,h3⟩:=Oper.apart_spec hap
 have keep:∀(b:Act),Yields P ops oi v b->∀ u,Yields P ops oi v (b.put oj.dst u):=fun b hb u=>hb.of_same (execOp_put oi hsi b oj.dst u h3) (wanted_put oi b oj.dst u h3)
 unfold wpOpIn at h ⊢
 simp only [hj]at h ⊢
 rw [wanted_put oj a oi.dst v h1]at h
 by_cases hw:Region.wanted oj (yielded ops a.tmps)=true
 · rw [if_pos hw]at h ⊢
   refine⟨fun _ _=>trivial,?_⟩
   have h:=h.2
   rw [semAt_put hsj a oi.dst v h1]at h
   exact upon_put h2 hQ (fun u w hk=>⟨keep a hy u,hk⟩) (fun d u w hk=>⟨keep {a with defers:=d::a.defers} (hy.of_same rfl rfl) u,hk⟩) _ h
 · rw [if_neg hw]at h ⊢
   exact⟨fun _ _=>trivial,keep a hy _,by rw [<- Act.put_comm a v undef h2]; exact h.2⟩
theorem wpAnyW_first {ro:Option Nat}{i:Nat}{oi:Oper}{v:Value}(hi:ops[i]? =some oi)(hsel:∀(j:Nat) (o:Oper) cs b,ops[j]? =some o->o.op≠ .select cs b)(hQ:∀ c a w,Q (.panic c) (a.put oi.dst v) w->Q (.panic c) a w):
   ∀ (fuel:Nat) (li:Array Bool) (a:Act) (w:World),(∀ j oj,ops[j]? =some oj->j≠i->li.getD j true=false->(∀ e∈oj.after,Region.binds .any e=true->e.on≠i)->oi.apart ops oj=true)->
     i∈Region.ready .any ops li->Yields P ops oi v a->wpAnyIn (Wd ro) 0 P .any ops Q fuel (li.setIfInBounds i true) (a.put oi.dst v) w->wpAnyIn (Wd ro) 0 P .any ops Q (fuel+1) li a w:=by
 intro fuel
 induction fuel with
 | zero=>
   intro li a w _ hr hy H
   refine⟨fun h0=>(by rw [h0]at hr; cases hr),fun j hj=>?_⟩
   by_cases hji:j=i
   · subst hji; exact op_yields hi hy H
   · have:=ready_mono hj hji
     rw [H.1]at this; cases this
 | succ fuel ih=>
   intro li a w hfree hr hy H
   refine⟨fun h0=>(by rw [h0]at hr; cases hr),fun j hj=>?_⟩
   by_cases hji:j=i
   · subst hji; exact op_yields hi hy H
   · have hjr:=H.2 j (ready_mono hj hji)
     obtain⟨hun,oj,hoj,hall⟩:=Go.mem_ready.1 hj
     have hun':=(Go.mem_ready.1 hr).1
     have hno:∀ e∈oj.after,Region.binds .any e=true->e.on≠i:=fun e he hb heq=>by
       have h1:=hall e he hb
       rw [heq]at h1
       rcases Nat.lt_or_ge i li.size with h'|h'
       · simp [h']at h1 hun'; rw [h1]at hun'; cases hun'
       · simp [h']at h1
     have hap:=hfree j oj hoj hji hun hno
     refine wpOpIn_mono (fun a' w' hk=>?_) (op_put hoj hap (fun cs b=>hsel i oi cs b hi) (fun cs b=>hsel j oj cs b hoj) hQ hy hjr)
     obtain⟨hy',hk⟩:=hk
     refine ih _ a' w' (fun x ox hox hxi hxu hxn=>hfree x ox hox hxi ?_ hxn) (ready_mono hr (Ne.symm hji)) hy' ?_
     · by_cases hxj:x=j
       · subst hxj
         rcases Nat.lt_or_ge x li.size with h'|h'
         · simp [h']at hxu
         · simp [h']at hxu
       · rwa [getD_set_ne true (Ne.symm hxj)]at hxu
     · rw [Array.setIfInBounds_comm _ _ hji]; exact hk
theorem wpAny_tail {ro:Option Nat}(hback:∀ i o,ops[i]? =some o->∀ e∈o.after.toList,Region.binds .any e=true->e.on<i)
   : ∀ (fuel p:Nat) (li:Array Bool) (a:Act) (w:World),li.size=ops.size->(∀ i,i<ops.size->li.getD i false=decide (i<p))->p+fuel=ops.size->
     (∀ i o,p<=i->ops[i]? =some o->∀ j,j<i->∀ li':Array Bool,li'.size=ops.size->(∀ x y,ops[x]? =some y->li'.getD x false=true->∀ e∈y.after.toList,Region.binds .any e=true->li'.getD e.on false=true)->
       (∀ e∈o.after.toList,Region.binds .any e=true->li'.getD e.on false=true)->li'.getD j false=true)->
     wpListIn (Wd ro) 0 P ops Q (ops.toList.drop p) a w->wpAnyIn (Wd ro) 0 P .any ops Q fuel li a w:=by
 intro fuel
 induction fuel with
 | zero=>
   intro p li a w hs hli hp _ hw
   have hd:ops.toList.drop p= []:=List.drop_eq_nil_of_le (by simp; omega)
   rw [hd]at hw
   refine⟨?_,hw⟩
   apply List.eq_nil_iff_forall_not_mem.2
   intro i hi
   obtain⟨o,ho,hl,_⟩:=(mem_ready hs).1 hi
   have hlt:i<ops.size:=(Array.getElem?_eq_some_iff.1 ho).1
   rw [hli i hlt]at hl
   simp at hl; omega
 | succ fuel ih=>
   intro p li a w hs hli hp htail hw
   have hlt:p<ops.size:=by omega
   have ho:ops[p]? =some ops[p]:=Array.getElem?_eq_getElem hlt
   have hd:ops.toList.drop p=ops[p]::ops.toList.drop (p+1):=by
     rw [List.drop_eq_getElem_cons (by simpa using hlt)]; simp
   rw [hd]at hw
   have hready:∀ i,i∈Region.ready .any ops li↔i=p:=by
     intro i
     rw [mem_ready hs]
     constructor
     · rintro⟨o,ho',hl,ha⟩
       have hi:=(Array.getElem?_eq_some_iff.1 ho').1
       rw [hli i hi]at hl
       simp at hl
       by_cases hip:i=p
       · exact hip
       · exfalso
         have:=htail i o hl ho' p (by omega) li hs (by
           intro x y hy hx e he hb
           have hxl:=(Array.getElem?_eq_some_iff.1 hy).1
           have he':=hback x y hy e he hb
           rw [hli _ hxl]at hx; rw [hli _ (by omega)]
           simp at hx ⊢; omega) ha
         rw [hli p hlt]at this
         simp at this
     · rintro rfl
       refine⟨_,ho,by rw [hli _ hlt]; simp,fun e he hb=>?_⟩
       have:=hback _ _ ho e he hb
       rw [hli _ (by omega)]; simpa using this
   refine⟨fun hr=>?_,fun i hi=>?_⟩
   · have:=(hready p).2 rfl
     rw [hr]at this; simp at this
   · obtain rfl:=(hready i).1 hi
     have hK:∀ a w,wpListIn (Wd ro) 0 P ops Q (ops.toList.drop (i+1)) a w->wpAnyIn (Wd ro) 0 P .any ops Q fuel (li.setIfInBounds i true) a w:=fun a w hw'=>
       ih (i+1) _ a w (by simp [hs]) (fun j hj=>by
         rw [getD_set (by omega)]
         by_cases hji:j=i
         · subst hji; simp
         · rw [if_neg hji,hli j hj]
           rw [decide_eq_decide]; omega) (by omega) (fun j o hj=>htail j o (by omega)) hw'
     unfold wpOpIn
     simp only [ho]
     simp only [wpListIn]at hw
     split
     · rename_i hwt
       rw [if_pos hwt]at hw
       exact Oper.wpIn_mono hK hw
     · rename_i hwt
       rw [if_neg hwt]at hw
       exact⟨fun _ _=>trivial,hK _ _ hw.2⟩
def slotOf (fr:Nat->D)(dsts:List (Option Nat))(ds:List D)(li:Array Bool)(m:Nat)(t:Nat):D:=
 match(List.range m).find? fun i=>li.getD i false&&dsts.getD i none==some t with
 |some i=>ds.getD i (.v undef)
 |none=>fr t
theorem slotOf_hit {fr:Nat->D}{dsts:List (Option Nat)}{ds:List D}{li:Array Bool}{m t i:Nat}(hd:nodupB dsts=true)(hi:i<m)(hl:li.getD i false=true)(ht:dsts[i]? =some (some t)):
   slotOf fr dsts ds li m t=ds.getD i (.v undef):=by
 unfold slotOf
 cases hf:(List.range m).find? fun i=>li.getD i false&&dsts.getD i none==some t with
 | none=>
   have:=List.find?_eq_none.1 hf i (List.mem_range.2 hi)
   simp [hl,ht]at this
 | some j=>
   have h1:=List.find?_some hf
   simp only [Bool.and_eq_true,beq_iff_eq]at h1
   have h2:dsts[j]? =some (some t):=by
     cases hj:dsts[j]? with
     |none=>have:=h1.2; simp [hj]at this
     |some x=>have:=h1.2; simp [hj]at this; rw [this]
   have:=(nodupB_spec dsts hd i j _ _ ht h2 rfl).1
   rw [this]
theorem slotOf_miss {fr:Nat->D}{dsts:List (Option Nat)}{ds:List D}{li:Array Bool}{m t:Nat}(h:∀ i,i<m->li.getD i false=true->dsts[i]? ≠some (some t)):slotOf fr dsts ds li m t=fr t:=by
 unfold slotOf
 cases hf:(List.range m).find? fun i=>li.getD i false&&dsts.getD i none==some t with
 |none=>rfl
 | some j=>
   have h1:=List.find?_some hf
   have h0:=List.mem_range.1 (List.mem_of_find?_eq_some hf)
   simp only [Bool.and_eq_true,beq_iff_eq]at h1
   exfalso
   apply h j h0 h1.1
   cases hj:dsts[j]? with
   |none=>have:=h1.2; simp [hj]at this
   |some x=>have:=h1.2; simp [hj]at this; rw [this]
theorem runFr_get :∀(l:List Oper) (ds:List D) (fr:Nat->D) (t:Nat),ds.length=l.length->nodupB (l.map (·.dst))=true->
   (∀ i:Nat,(l.map (·.dst))[i]? =some (some t)->runFr fr l ds t=ds.getD i (.v undef))/\((∀ i:Nat,(l.map (·.dst))[i]? ≠some (some t))->runFr fr l ds t=fr t)
 | [],ds,fr,t,_,_=>by
   refine⟨fun i h=>by simp at h,fun _=>by cases ds<;>rfl⟩
 |o::l,[],fr,t,h,_=>by simp at h
 | o ::l,d::ds,fr,t,h,hd=>by
   simp only [List.map_cons,nodupB,Bool.and_eq_true,List.all_eq_true]at hd
   obtain⟨ih1,ih2⟩:=runFr_get l ds (updO fr o.dst d) t (by simpa using h) hd.2
   constructor
   · intro i hi
     cases i with
     | zero=>
       simp at hi
       show runFr (updO fr o.dst d) l ds t=d
       rw [ih2 (fun j hj=>by
         have:=hd.1.2 _ (List.mem_of_getElem? hj)
         rw [hi]at this; simp at this),hi]
       exact upd_same _ _ _
     |succ i=>simpa [runFr]using ih1 i (by simpa using hi)
   · intro hm
     show runFr (updO fr o.dst d) l ds t=fr t
     rw [ih2 (fun i hi=>hm (i+1) (by simpa using hi))]
     have h0:=hm 0
     simp at h0
     cases hq:o.dst with
     |none=>rfl
     | some x=>
       rw [hq]at h0
       exact upd_ne _ _ (fun e=>h0 (by rw [e]))
theorem take_dsts {l:List Oper}{i:Nat}(m:Nat):((l.take m).map (·.dst))[i]? =if i<m then(l[i]?).map (·.dst)else none:=by
 rw [List.getElem?_map,List.getElem?_take]
 split<;>simp
theorem nodupB_take :∀(l:List (Option Nat)) (k:Nat),nodupB l=true->nodupB (l.take k)=true
 | [],k,_=>by simp [nodupB]
 |x::l,0,_=>rfl
 | x::l,k+1,h=>by
   simp only [nodupB,Bool.and_eq_true,List.all_eq_true,List.take_succ_cons]at h ⊢
   exact⟨⟨h.1.1,fun y hy=>h.1.2 y (List.mem_of_mem_take hy)⟩,nodupB_take l k h.2⟩
theorem zbf {P : Program} {n:Nat} {ops:Array Oper} {Q:Post} {fr:Nat->D} {h:zbb} {id m:Nat} (hm:P.follows .mixedOrders=true) (hok:drawOk ops.toList m=true) (hn:(ops.toList.take m).all (fun o=>(o.dst.all fun d=>Nat.blt d n))=true)
   (hdet:DetK P ops h (ops.toList.take m) fr fun fr'=>wpL P n ops (ops.toList.drop m) Q fr' h):wpA P n (.region id ops true) Q fr h:=by
 intro A M w0 a0 w1 r0 ro hro
 obtain⟨ds,hds,hrest⟩:=hdet
 -- what the check says
 simp only [drawOk,Bool.and_eq_true]at hok
 obtain⟨⟨⟨⟨⟨⟨k1,k2⟩,k3⟩,k4⟩,k5⟩,k6⟩,k7⟩:=hok
 generalize hL:befs ops.toList=L at*
 have hml:m<=ops.size:=by simpa using k1
 have oget:∀(i:Nat) (o:Oper),ops[i]? =some o↔ops.toList[i]? =some o:=fun i o=>by rw [Array.getElem?_toList]
 have hback:∀ i o,ops[i]? =some o->∀ e∈o.after.toList,Region.binds .any e=true->e.on<i:=by
   intro i o ho e he hb
   have:=zipIdx_all k3 i o ((oget i o).1 ho)
   simp only [List.all_eq_true]at this
   have:=this e he
   simpa [hb]using this
 -- a list's members have been done
 have hbef:∀(li:Array Bool),(∀ x y,ops[x]? =some y->li.getD x false=true->∀ e∈y.after.toList,Region.binds .any e=true->li.getD e.on false=true)->
     ∀ N i o,i<=N->ops[i]? =some o->(∀ e∈o.after.toList,Region.binds .any e=true->li.getD e.on false=true)->∀ j,(L.getD i []).contains j=true->li.getD j false=true:=by
   intro li hcl N
   induction N with
   | zero=>
     intro i o hi ho ha j hj
     have:=zipIdx_all k2 i o ((oget i o).1 ho)
     simp only [List.all_eq_true]at this
     have:=this j (by simpa using hj)
     simp only [List.any_eq_true,Bool.and_eq_true,Bool.or_eq_true,beq_iff_eq]at this
     obtain⟨e,he,hb,hj'⟩:=this
     have:=hback i o ho e he hb
     omega
   | succ N ih=>
     intro i o hi ho ha j hj
     have:=zipIdx_all k2 i o ((oget i o).1 ho)
     simp only [List.all_eq_true]at this
     have:=this j (by simpa using hj)
     simp only [List.any_eq_true,Bool.and_eq_true,Bool.or_eq_true,beq_iff_eq]at this
     obtain⟨e,he,hb,hj'⟩:=this
     have hlt:=hback i o ho e he hb
     rcases hj' with rfl|hj'
     · exact ha e he hb
     · have hio:=(Array.getElem?_eq_some_iff.1 ho).1
       have ho2:ops[e.on]? =some ops[e.on]:=Array.getElem?_eq_getElem (by omega)
       exact ih e.on _ (by omega) ho2 (hcl e.on _ ho2 (ha e he hb)) j hj'
 refine wpIn_region_any hm ?_
 -- the first operations, in whatever order
 have key : ∀ (fuel:Nat) (li:Array Bool) (a:Act) (w:World),li.size=ops.size->cnt li ops.size=fuel->(∀ x y,ops[x]? =some y->li.getD x false=true->∀ e∈y.after.toList,Region.binds .any e=true->li.getD e.on false=true)->
     (∀ i,m<=i->li.getD i false=false)->Rel n A M w0 (slotOf fr ((ops.toList.take m).map (·.dst)) ds li m) h a w->wpAnyIn (Wd ro) 0 P .any ops (Conc n A M w0 Q) fuel li a w:=by
   intro fuel
   induction fuel with
   | zero=>
     intro li a w hs hc hcl hpre r
     have hall:=cnt_zero hc
     have hmm:m=ops.size:=by
       rcases Nat.lt_or_ge m ops.size with hlt|hge
       · have:=hall m hlt; rw [hpre m (Nat.le_refl _)]at this; simp at this
       · omega
     have hfr:slotOf fr ((ops.toList.take m).map (·.dst)) ds li m=runFr fr (ops.toList.take m) ds:=by
       funext t
       obtain⟨g1,g2⟩:=runFr_get (ops.toList.take m) ds fr t (hds.length) k4
       by_cases hex:∃ i:Nat,((ops.toList.take m).map (·.dst))[i]? =some (some t)
       · obtain⟨i,hi⟩:=hex
         have him:i<m:=by have:=(List.getElem?_eq_some_iff.1 hi).1; simp at this; omega
         rw [slotOf_hit k4 him (hall i (by omega)) hi,g1 i hi]
       · rw [slotOf_miss (fun i _ _ hi=>hex ⟨i,hi⟩),g2 (fun i hi=>hex ⟨i,hi⟩)]
     rw [hfr]at r
     have:=hrest A M w0 a w r ro
     have hd:ops.toList.drop m= []:=List.drop_eq_nil_of_le (by simp; omega)
     rw [hd]at this
     refine⟨?_,this⟩
     apply List.eq_nil_iff_forall_not_mem.2
     intro i hi
     obtain⟨o,ho,hl,_⟩:=(mem_ready hs).1 hi
     rw [hall i (Array.getElem?_eq_some_iff.1 ho).1]at hl
     simp at hl
   | succ fuel ih=>
     intro li a w hs hc hcl hpre r
     by_cases hdone:∀ i,i<m->li.getD i false=true
     · -- all the first ones are done
       have hfr:slotOf fr ((ops.toList.take m).map (·.dst)) ds li m=runFr fr (ops.toList.take m) ds:=by
         funext t
         obtain⟨g1,g2⟩:=runFr_get (ops.toList.take m) ds fr t (hds.length) k4
         by_cases hex:∃ i:Nat,((ops.toList.take m).map (·.dst))[i]? =some (some t)
         · obtain⟨i,hi⟩:=hex
           have him:i<m:=by have:=(List.getElem?_eq_some_iff.1 hi).1; simp at this; omega
           rw [slotOf_hit k4 him (hdone i him) hi,g1 i hi]
         · rw [slotOf_miss (fun i _ _ hi=>hex ⟨i,hi⟩),g2 (fun i hi=>hex ⟨i,hi⟩)]
       rw [hfr]at r
       have hcnt:∀ k,m<=k->cnt li k=k-m:=by
         intro k
         induction k with
         |zero=>intro _; simp [cnt]
         | succ k ihk=>
           intro hk
           simp only [cnt]
           by_cases hkm:m<=k
           · rw [ihk hkm,hpre k hkm]; simp; omega
           · have hkk:m=k+1:=by omega
             have hz:∀ q,q<=k->cnt li q=0:=by
               intro q
               induction q with
               |zero=>intro _; rfl
               |succ q ihq=>intro hq; simp only [cnt]; rw [ihq (by omega),hdone q (by omega)]; simp
             rw [hz k (Nat.le_refl _),hdone k (by omega)]; simp; omega
       have hf:=hcnt ops.size hml
       refine wpAny_tail hback (fuel+1) m li a w hs (fun i hi=>?_) (by omega) ?_ (hrest A M w0 a w r ro)
       · by_cases him:i<m
         · rw [hdone i him]; simp [him]
         · rw [hpre i (by omega)]; simp [him]
       · intro i o hmi ho j hj li' hs' hcl' ha'
         have h7:=zipIdx_all k7 i o ((oget i o).1 ho)
         simp only [Bool.or_eq_true,decide_eq_true_eq,List.all_eq_true]at h7
         rcases h7 with h7|h7
         · omega
         · exact hbef li' hcl' i i o (Nat.le_refl _) ho ha' j (h7 j (List.mem_range.2 hj))
     · -- one of the first ones is next
       have hnot:∃ i,i<m/\li.getD i false=false:=by
         apply Classical.byContradiction
         intro hno
         apply hdone
         intro i hi
         cases hv:li.getD i false with
         |true=>rfl
         |false=>exact absurd ⟨i,hi,hv⟩ hno
       have hfirst:∀ i,i∈Region.ready .any ops li->i<m:=by
         intro i hi
         obtain⟨o,ho,hl,ha⟩:=(mem_ready hs).1 hi
         rcases Nat.lt_or_ge i m with h1|h1
         · exact h1
         · exfalso
           obtain⟨j,hj,hjf⟩:=hnot
           have h7:=zipIdx_all k7 i o ((oget i o).1 ho)
           simp only [Bool.or_eq_true,decide_eq_true_eq,List.all_eq_true]at h7
           rcases h7 with h7|h7
           · omega
           · have:=hbef li hcl i i o (Nat.le_refl _) ho ha j (h7 j (List.mem_range.2 (by omega)))
             rw [hjf]at this; simp at this
       refine⟨fun hr=>?_,fun i hi=>?_⟩
       · -- the least that is left is ready
         exfalso
         obtain⟨j,hj,hjf⟩:=hnot
         have:∀ N i,i<=N->i<ops.size->li.getD i false=false->False:=by
           intro N
           induction N with
           | zero=>
             intro i hiN his hif
             have hmem:i∈Region.ready .any ops li:=(mem_ready hs).2 ⟨_,Array.getElem?_eq_getElem his,hif,fun e he hb=>by
               have:=hback i _ (Array.getElem?_eq_getElem his) e he hb; omega⟩
             rw [hr]at hmem; simp at hmem
           | succ N ihN=>
             intro i hiN his hif
             have hmem:i∈Region.ready .any ops li:=(mem_ready hs).2 ⟨_,Array.getElem?_eq_getElem his,hif,fun e he hb=>by
               have:=hback i _ (Array.getElem?_eq_getElem his) e he hb
               cases hv:li.getD e.on false with
               |true=>rfl
               |false=>exact(ihN e.on (by omega) (by omega) hv).elim⟩
             rw [hr]at hmem; simp at hmem
         exact this j j (Nat.le_refl _) (by omega) hjf
       · have him:=hfirst i hi
         obtain⟨o,ho,hl,ha⟩:=(mem_ready hs).1 hi
         have hio:=(Array.getElem?_eq_some_iff.1 ho).1
         have hotl:(ops.toList.take m)[i]? =some o:=by rw [List.getElem?_take,if_pos him]; exact(oget i o).1 ho
         have hdi:∃ d,ds[i]? =some d:=⟨_,List.getElem?_eq_getElem (by rw [hds.length]; simp; omega)⟩
         obtain⟨d,hd⟩:=hdi
         have hstep:=hds.nth i o d hotl hd
         -- the slots that it reads
         have hslot:∀ t,(∀ j:Nat,(((ops.toList.take m).map (·.dst))[j]? =some (some t))->((L.getD i []).contains j=true/\j<i)\/((L.getD j []).contains i=true/\i<j))->
             slotOf fr ((ops.toList.take m).map (·.dst)) ds li m t=runFr fr ((ops.toList.take m).take i) (ds.take i) t:=by
           intro t ht
           have e1:(ops.toList.take m).take i=ops.toList.take i:=by rw [List.take_take]; congr 1; omega
           have hlen:(ds.take i).length=(ops.toList.take i).length:=by simp [hds.length]; omega
           have hnd:nodupB ((ops.toList.take i).map (·.dst))=true:=by
             have:=nodupB_take _ i k4
             rwa [<- List.map_take,e1]at this
           rw [e1]
           obtain⟨g1,g2⟩:=runFr_get (ops.toList.take i) (ds.take i) fr t hlen hnd
           by_cases hex:∃ j:Nat,((ops.toList.take m).map (·.dst))[j]? =some (some t)
           · obtain⟨j,hj⟩:=hex
             rcases ht j hj with⟨hb,hji⟩|⟨hb,hij⟩
             · have hjl:=hbef li hcl i i o (Nat.le_refl _) ho ha j hb
               rw [slotOf_hit k4 (by omega) hjl hj]
               rw [take_dsts,if_pos (by omega)]at hj
               rw [g1 j (by rw [take_dsts,if_pos hji]; exact hj)]
               simp [hji]
             · -- what is written behind it has not been written yet
               have hjm:j<m:=by have:=(List.getElem?_eq_some_iff.1 hj).1; simp at this; omega
               have hjf:li.getD j false=false:=by
                 cases hv:li.getD j false with
                 |false=>rfl
                 | true=>
                   have hoj:ops[j]? =some ops[j]:=Array.getElem?_eq_getElem (by omega)
                   have:=hbef li hcl j j _ (Nat.le_refl _) hoj (hcl j _ hoj hv) i hb
                   rw [hl]at this; simp at this
               rw [slotOf_miss (fun q h1 h2 h3=>by
                 have:=(nodupB_spec _ k4 q j _ _ h3 hj rfl).1
                 subst this
                 rw [hjf]at h2; simp at h2),g2 (fun q hq=>by
                 rw [take_dsts]at hq
                 split at hq
                 · have hq':((ops.toList.take m).map (·.dst))[q]? =some (some t):=by rw [take_dsts,if_pos (by omega)]; exact hq
                   have:=(nodupB_spec _ k4 q j _ _ hq' hj rfl).1
                   omega
                 · simp at hq)]
           · rw [slotOf_miss (fun j _ _ hj=>hex ⟨j,hj⟩),g2 (fun j hj=>by
               rw [take_dsts]at hj
               split at hj
               · apply hex; refine⟨j,?_⟩; rw [take_dsts,if_pos (by omega)]; exact hj
               · simp at hj)]
         have hops:∀ x,x∈o.op.operands->ev (slotOf fr ((ops.toList.take m).map (·.dst)) ds li m) x=ev (runFr fr ((ops.toList.take m).take i) (ds.take i)) x:=by
           intro x hx
           cases x with
           | tmp t=>
             apply hslot
             intro j hj
             have h5:=zipIdx_all k5 i o hotl
             simp only [List.all_eq_true]at h5
             have htm:t∈tmpsOf o:=List.mem_filterMap.2 ⟨.tmp t,by simpa using hx,rfl⟩
             have:=h5 t htm
             have:=zipIdx_all (List.all_eq_true.2 this) j _ hj
             simp only [beq_self_eq_true,Bool.not_true,Bool.false_or,Bool.or_eq_true,Bool.and_eq_true,decide_eq_true_eq]at this
             exact this
           |const v=>rfl
           |global g=>rfl
           |func f=>rfl
         -- the state behind it
         have hdst:∃ dd,o.dst=some dd:=by
           have hq:((ops.toList.take m).map (·.dst))[i]? =some o.dst:=by rw [List.getElem?_map,hotl]; rfl
           have:=(nodupB_spec _ k4 i i _ _ hq hq rfl).2
           exact Option.isSome_iff_exists.1 this
         obtain⟨dd,hdd⟩:=hdst
         have hddn:dd<n:=by
           rw [List.all_eq_true]at hn
           have:=hn o (List.mem_of_getElem? hotl)
           rw [hdd]at this
           simpa [Nat.blt_eq]using this
         have hnext:slotOf fr ((ops.toList.take m).map (·.dst)) ds (li.setIfInBounds i true) m=upd (slotOf fr ((ops.toList.take m).map (·.dst)) ds li m) dd d:=by
           funext t
           have hqi:((ops.toList.take m).map (·.dst))[i]? =some (some dd):=by rw [List.getElem?_map,hotl,Option.map_some,hdd]
           by_cases htd:t=dd
           · subst htd
             rw [upd_same,slotOf_hit k4 him (by rw [getD_set (by omega)]; simp) hqi]
             simp [hd]
           · rw [upd_ne _ _ htd]
             by_cases hex:∃ j:Nat,j<m/\li.getD j false=true/\((ops.toList.take m).map (·.dst))[j]? =some (some t)
             · obtain⟨j,hj1,hj2,hj3⟩:=hex
               rw [slotOf_hit k4 hj1 hj2 hj3,slotOf_hit k4 hj1 (by rw [getD_set (by omega)]; split<;>simp [hj2]) hj3]
             · rw [slotOf_miss (fun j h1 h2 h3=>hex ⟨j,h1,h2,h3⟩),slotOf_miss]
               intro j h1 h2 h3
               rw [getD_set (by omega)]at h2
               by_cases hji:j=i
               · subst hji
                 rw [hqi]at h3
                 simp at h3; exact htd h3.symm
               · rw [if_neg hji]at h2
                 exact hex ⟨j,h1,h2,h3⟩
         have hgo:∀(v:Value) (w':World),HRel A M w0 h w'->Mono w (XX A h) w' (XX A h)->V w' (XX A h) d v->wpAnyIn (Wd ro) 0 P .any ops (Conc n A M w0 Q) fuel (li.setIfInBounds i true) (a.put o.dst v) w':=by
           intro v w' hr' hm' hv'
           refine ih _ _ w' (by simp [hs]) ?_ ?_ ?_ ?_
           · have:=cnt_set (li:=li) (i:=i) (by omega) hl ops.size
             rw [if_pos hio]at this
             omega
           · intro x y hy hx e he hb
             rw [getD_set (by omega)]at hx ⊢
             by_cases hxi:x=i
             · subst hxi
               rw [ho]at hy; cases hy
               split
               · rfl
               · exact ha e he hb
             · rw [if_neg hxi]at hx
               split
               · rfl
               · exact hcl x y hy hx e he hb
           · intro j hj
             rw [getD_set (by omega),if_neg (by omega)]
             exact hpre j hj
           · rw [hnext,hdd]
             exact r.put hr' hm' hddn hv'
         have hrun:OpA P o (runFr fr ((ops.toList.take m).take i) (ds.take i)) h (fun d' h'=>d'=d/\h'=h)->o.wpIn (Wd ro) 0 P a w (wpAnyIn (Wd ro) 0 P .any ops (Conc n A M w0 Q) fuel (li.setIfInBounds i true)) (Conc n A M w0 Q):=by
           intro hop
           refine hop A M w0 a w r.heap (fun x hx=>by rw [<- hops x hx]; exact r.ev x) _ _ ?_ ro
           rintro v w' d' h' ⟨rfl,rfl⟩ hr' hm' hv'
           exact hgo v w' hr' hm' hv'
         unfold wpOpIn
         simp only [ho]
         rcases hstep with⟨hg,hop⟩|⟨j,want,s,b,hg,hj,hb,hcase⟩|⟨j,want,s,hg,hj,hb,rfl⟩
         · rw [if_pos (by simp [Region.wanted,hg])]
           exact hrun hop
         · have hsl:slotOf fr ((ops.toList.take m).map (·.dst)) ds li m s= .b b:=by
             rw [hslot s,hb]
             intro j' hj'
             have h6:=zipIdx_all k6 i o hotl
             simp only [hg,Bool.and_eq_true,decide_eq_true_eq]at h6
             left
             have hjs:((ops.toList.take m).map (·.dst))[j]? =some (some s):=by
               rw [take_dsts,if_pos (by omega)]
               obtain⟨oj,hoj,hojd⟩:=Option.bind_eq_some_iff.1 hj
               have:=(oget j oj).1 hoj
               rw [this]; simp [hojd]
             have:=(nodupB_spec _ k4 j' j _ _ hj' hjs rfl).1
             subst this
             exact h6
           have hy:=yielded_of r hj hsl
           rcases hcase with⟨hne,hop⟩|⟨hne,rfl⟩
           · have hw:Region.wanted o (yielded ops a.tmps)=true:=by
               simp only [Region.wanted,hg,hy]
               cases b<;>cases want<;>first|rfl|simp at hne
             rw [if_pos hw]
             exact hrun hop
           · have hw:¬Region.wanted o (yielded ops a.tmps)=true:=by
               simp only [Region.wanted,hg,hy]
               cases b<;>cases want<;>first|(simp at hne; done)|simp
             rw [if_neg hw]
             exact⟨fun _ _=>trivial,hgo undef w r.heap (Mono.refl _ _) (.v _)⟩
         · have hsl:slotOf fr ((ops.toList.take m).map (·.dst)) ds li m s= .v undef:=by
             rw [hslot s,hb]
             intro j' hj'
             have h6:=zipIdx_all k6 i o hotl
             simp only [hg,Bool.and_eq_true,decide_eq_true_eq]at h6
             left
             have hjs:((ops.toList.take m).map (·.dst))[j]? =some (some s):=by
               rw [take_dsts,if_pos (by omega)]
               obtain⟨oj,hoj,hojd⟩:=Option.bind_eq_some_iff.1 hj
               have:=(oget j oj).1 hoj
               rw [this]; simp [hojd]
             have:=(nodupB_spec _ k4 j' j _ _ hj' hjs rfl).1
             subst this
             exact h6
           have hy:=yielded_undef r hj hsl
           have hw:¬Region.wanted o (yielded ops a.tmps)=true:=by
             simp only [Region.wanted,hg,hy]; simp
           rw [if_neg hw]
           exact⟨fun _ _=>trivial,hgo undef w r.heap (Mono.refl _ _) (.v _)⟩
 refine key ops.size (Array.replicate ops.size false) a0 w1.drew (by simp) ?_ ?_ ?_ ?_
 · have:∀ k,k<=ops.size->cnt (Array.replicate ops.size false) k=k:=by
     intro k
     induction k with
     |zero=>intro _; rfl
     |succ k ihk=>intro hk; simp only [cnt]; rw [ihk (by omega)]; simp [show k<ops.size from by omega]
   exact this _ (Nat.le_refl _)
 · intro x y hy hx
   have:=(Array.getElem?_eq_some_iff.1 hy).1
   simp [this]at hx
 · intro i _
   by_cases hi:i<ops.size<;>simp [hi]
 · obtain⟨q1,q2⟩:=r0.heap.quiet (w':=w1.drew) rfl rfl rfl rfl (Nat.le_succ _)
   have e0:slotOf fr ((ops.toList.take m).map (·.dst)) ds (Array.replicate ops.size false) m=fr:=by
     funext t
     apply slotOf_miss
     intro i _ hi
     exfalso
     by_cases hi2:i<ops.size<;>simp [hi2]at hi
   rw [e0]
   exact r0.turn q1 q2
end
end Go.Lic
set_option linter.all false
namespace Go.Lic
variable [Fl]
theorem HRel.base {A M:Nat->Prop}{w0 w:World}{h:zbb}(hr:HRel A M w0 h w):HRel A (fun b=>2*b∈keys h) w h w:=
 ⟨hr.nodup,hr.blk,hr.free,fun c hc he=> .inl (by show 2*(c / 2)∈keys h; rw [show 2*(c / 2)=c from by omega]; exact hc),hr.bound,hr.old,Ext.refl _ _,hr.glob⟩
theorem HRel.join {A M:Nat->Prop}{w0 w w':World}{h h':zbb}(hr:HRel A M w0 h w)(hr':HRel A (fun b=>2*b∈keys h) w h' w'):HRel A M w0 h' w':=by
 refine⟨hr'.nodup,hr'.blk,hr'.free,?_,hr'.bound,hr'.old,?_,hr'.glob⟩
 · intro c hc he
   rcases hr'.mine c hc he with hm|hm
   · have hm:2*(c / 2)∈keys h:=hm
     rw [show 2*(c / 2)=c from by omega]at hm
     exact hr.mine c hm he
   · right; have:=hr.ext.size; omega
 · have e:=hr'.ext
   refine⟨e.os.trans hr.ext.os,e.tape.trans hr.ext.tape,e.output.trans hr.ext.output,Nat.le_trans hr.ext.size e.size,fun b hb hn=>?_,fun b hb=>(e.shape b (Nat.lt_of_lt_of_le hb hr.ext.size)).trans (hr.ext.shape b hb),fun o_=>Nat.le_trans (hr.ext.drawn o_) (e.drawn o_)⟩
   refine(e.keep b (Nat.lt_of_lt_of_le hb hr.ext.size) (fun hx=>?_)).trans (hr.ext.keep b hb hn)
   rcases hr.mine (2*b) hx (by omega)with hq|hq
   · rw [show 2*b / 2=b from by omega]at hq; exact hn hq
   · rw [show 2*b / 2=b from by omega]at hq; omega
section
variable {P:Program}{ops:Array Oper}{h:zbb}{tp sz:Nat}{fr:Nat->D}{C:(Nat->D)->List D->Prop}{o:Oper}{l:List Oper}{d:D}
end
section
variable {P:Program}{ops:Array Oper}
end
end Go.Lic
set_option linter.all false
namespace Go.Lic
variable [Fl]
@[reducible] def asg :List (Nat×D)->Nat->D
 | [],_=> .top
 |(k,d)::l,t=>sel (Nat.beq t k) d (asg l t)
def Cov (fr fr0:Nat->D):Prop:=∀ t,fr0 t= .top\/fr0 t=fr t
def covL (fr:Nat->D):List (Nat×D)->Prop
 | []=>True
 |(k,d)::l=>fr k=d/\covL fr l
theorem Cov.asg {fr:Nat->D}:∀ {l:List (Nat×D)},covL fr l->Cov fr (asg l)
 | [],_,_=> .inl rfl
 | (k,d)::l,h,t=>by
   show sel (Nat.beq t k) d (Lic.asg l t)= .top\/sel (Nat.beq t k) d (Lic.asg l t)=fr t
   cases hb:Nat.beq t k with
   | true=>
     have:=Nat.eq_of_beq_eq_true hb
     subst this
     exact .inr h.1.symm
   |false=>exact Cov.asg h.2 t
theorem Rel.cov {n:Nat}{A M:Nat->Prop}{w0:World}{fr fr0:Nat->D}{h:zbb}{a:Act}{w:World}(r:Rel n A M w0 fr h a w)(hc:Cov fr fr0):Rel n A M w0 fr0 h a w:=
 ⟨r.size,fun i=>by rcases hc i with h1|h1<;>rw [h1]; exact .top _; exact r.frame i,r.defers,r.heap⟩
theorem D.ok.of {sz:Nat}{d:D}(h:(Nat.beq d.flat.length sz&&d.flat.all D.cell)=true):d.ok sz:=by
 simp only [Bool.and_eq_true,List.all_eq_true]at h
 exact⟨Nat.eq_of_beq_eq_true h.1,h.2⟩
section
variable {P:Program}{n:Nat}{ops:Array Oper}{Q:Post}{fr fr0:Nat->D}{h:zbb}{l:List Oper}
theorem wpA_cov {c:Code}(hc:Cov fr fr0)(hh:wpA P n c Q fr0 h):wpA P n c Q fr h:=fun A M w0 a w r=>hh A M w0 a w (r.cov hc)
theorem upd_self {s:Nat}{d:D}(h:fr s=d):upd fr s d=fr:=by
 funext t
 by_cases ht:t=s
 · subst ht; rw [upd_same,h]
 · rw [upd_ne _ _ ht]
theorem wpL_split {s:Nat}{b:Bool}(hb:fr s= .b b)(ht:b=true->wpL P n ops l Q (upd fr s (.b true)) h)(hf:b=false->wpL P n ops l Q (upd fr s (.b false)) h):wpL P n ops l Q fr h:=by
 cases b with
 |true=>have:=ht rfl; rwa [upd_self hb]at this
 |false=>have:=hf rfl; rwa [upd_self hb]at this
theorem zbr {C:(Nat->D)->Prop}{s:Nat}{b:Bool}(hb:fr s= .b b)(ht:b=true->DetK P ops h l (upd fr s (.b true)) C)(hf:b=false->DetK P ops h l (upd fr s (.b false)) C):DetK P ops h l fr C:=by
 cases b with
 |true=>have:=ht rfl; rwa [upd_self hb]at this
 |false=>have:=hf rfl; rwa [upd_self hb]at this
theorem wpA_condT {c:Operand}{x y:Code}(hb:ev fr c= .b true)(ht:wpA P n x Q fr h):wpA P n (.cond c x y) Q fr h:=wpA_cond hb (fun _=>ht) (fun h=>by cases h)
theorem wpA_condF {c:Operand}{x y:Code}(hb:ev fr c= .b false)(hf:wpA P n y Q fr h):wpA P n (.cond c x y) Q fr h:=wpA_cond hb (fun h=>by cases h) (fun _=>hf)
theorem wpA_loopE {c:Code}(I:Nat->(Nat->D)->zbb->Prop)(h0:∃ k fr0,I k fr0 h/\Cov fr fr0)
   (round:∀ k fr h,I k fr h->wpA P n c (fun e fr' h'=>match e with| .normal=>∃ k' fr0,k'<k/\I k' fr0 h'/\Cov fr' fr0|e=>Q e fr' h') fr h):wpA P n (.loop c) Q fr h:=by
 obtain⟨k,fr0,hI,hc⟩:=h0
 refine wpA_cov hc (wpA_loop I hI fun k fr h hI=>?_)
 intro A M w0 a w r ro hro
 refine wpIn_mono (round k fr h hI A M w0 a w r ro hro) ?_
 rintro e a' w' ⟨fr',h',hq,r'⟩
 cases e with
 | normal=>
   obtain⟨k',fr0,hk,hI',hc'⟩:=hq
   exact⟨fr0,h',⟨k',hk,hI'⟩,r'.cov hc'⟩
 |exit id=>exact⟨fr',h',hq,r'⟩
 |goto l=>exact⟨fr',h',hq,r'⟩
 |ret=>exact⟨fr',h',hq,r'⟩
 |panic ch=>exact⟨fr',h',hq,r'⟩
 |outgrown=>exact⟨fr',h',hq,r'⟩
theorem wpA_freeze {c:Code}{s:Nat}{d d':D}{h0:zbb}{x:Nat×Blk}(hp:h.Perm (x::h0))(hd:fr s=d)(hsn:Snap false [x] [d] [d'])(hh:wpA P n c Q (upd fr s d') h0):wpA P n c Q fr h:=
 fun A M w0 a w r=>by
   obtain⟨r1,m1⟩:=r.heap.perm hp
   obtain⟨r2,m2⟩:=r1.tail
   have r':=r.turn r2 (m1.trans m2)
   refine hh A M w0 a w ⟨r'.size,fun i=>?_,r'.defers,r'.heap⟩
   by_cases hi:i=s
   · subst hi
     rw [upd_same]
     have hv:=(r.frame i).mono m1
     rw [hd]at hv
     have hk:x.1 ∉ keys h0:=(List.nodup_cons.1 (by simpa using r1.nodup)).1
     have:=hsn.sound (X':=XX A h0) r1 (fun c b hh=>by cases hh with|head=>exact .head|tail t=>cases t) (fun _ b hb=>by
         rcases hb with hb|hb
         · exact .inl hb
         · exact .inr (by simp [hb])) (fun c hc hev hx=>by
         simp at hc; subst hc
         rcases hx with hx|hx
         · rw [show 2*(x.1 / 2)=x.1 from by omega]at hx
           exact r1.free x.1 (by simp) hx
         · rw [show 2*(x.1 / 2)=x.1 from by omega]at hx
           exact hk hx) [_] (.cons hv .nil)
     cases this with
     |cons h1 _=>exact h1
   · rw [upd_ne _ _ hi]
     exact r'.frame i
end
end Go.Lic
set_option linter.all false
namespace Go.Lic
variable [Fl]
inductive OkL (fr:Nat->D)(sz:Nat):List (Nat×Operand)->Prop
 |nil:OkL fr sz []
 |cons {p:Nat×Operand} {l:List (Nat×Operand)} (h:(ev fr p.2).ok sz) (hs:OkL fr sz l):OkL fr sz (p::l)
inductive OkE (fr:Nat->D):List (Nat×Operand)->Prop
 |nil:OkE fr []
 |cons {sz:Nat} {p:Nat×Operand} {l:List (Nat×Operand)} (h:(ev fr p.2).ok sz) (hs:OkE fr l):OkE fr (p::l)
theorem OkL.all {fr:Nat->D}{sz:Nat}:∀ {l:List (Nat×Operand)},OkL fr sz l->∀ p∈l,(ev fr p.2).ok sz
 |_,.nil,_,h=>by simp at h
 | _,.cons h hs,p,hp=>by
   rcases List.mem_cons.1 hp with rfl|hp
   · exact h
   · exact hs.all p hp
theorem OkE.all {fr:Nat->D}:∀ {l:List (Nat×Operand)},OkE fr l->∀ p∈l,∃ sz,(ev fr p.2).ok sz
 |_,.nil,_,h=>by simp at h
 | _,.cons h hs,p,hp=>by
   rcases List.mem_cons.1 hp with rfl|hp
   · exact⟨_,h⟩
   · exact hs.all p hp
section
variable {P:Program}{o:Oper}{fr:Nat->D}{h:zbb}{K:D->zbb->Prop}
theorem OpA.mv {x:Operand}{d:D}(ho:o.op= .move x)(hd:ev fr x=d)(hk:K d h):OpA P o fr h K:= .move ho (by rw [hd]; exact hk)
theorem OpA.asn {x:Operand}{d:D}(ho:o.op= .assign x)(hd:ev fr x=d)(hk:K d h):OpA P o fr h K:= .assign ho (by rw [hd]; exact hk)
theorem OpA.pck {c x y:Operand}{b:Bool}{d:D}(ho:o.op= .pick c x y)(hc:ev fr c= .b b)(hd:sel b (ev fr x) (ev fr y)=d)(hk:K d h):OpA P o fr h K:=
 .pick ho hc (by cases b<;>(simp only [sel]at hd; subst hd; exact hk))
theorem OpA.bx {e:TypeId}{x:Operand}{sz:Nat}{d:D}(ho:o.op= .box e x)(hd:ev fr x=d)(hx:d.ok sz)(hk:∀ c,c ∉ keys h->K (.ptr c sz 0 0) ((c,.cells sz [d])::h)):OpA P o fr h K:=
 .box ho (by rw [hd]; exact hx) (by rw [hd]; exact hk)
theorem OpA.nc {x:Operand}{d:D}(ho:o.op= .nilCheck x)(hd:ev fr x=d)(hx:(∃ c sz i k,d= .ptr c sz i k)\/(∃ e k,d= .iptr e k)\/(∃ f cs,d= .fn (.func f) [] cs))(hk:K d h):OpA P o fr h K:=
 .nilCheck ho (by rw [hd]; exact hx) (by rw [hd]; exact hk)
theorem vl_vals {w:World}{X:Nat->Prop}:∀(xs ys:List Value),VL w X (xs.map D.v) ys->ys=xs
 | [],ys,h=>by cases h; rfl
 | x::xs,ys,h=>by
   cases h with
   |cons h1 h2=>cases h1; rw [vl_vals xs _ h2]
theorem OpA.aggcmp {op:BinOp}{t t2:TypeId}{x y:Operand}{xs ys:List Value}{r:Bool}(ho:o.op= .binOp op t x y t2)(hm:P.eqGuardType P.depth t=false)(hx:ev fr x= .agg (xs.map D.v))(hy:ev fr y= .agg (ys.map D.v))
   (he:∀ w,(Op.equalIn 10000 t (.agg xs.toArray) (.agg ys.toArray)).run P w= .ok r w) {b:Bool} (hop:(op= .eql/\b=r)\/(op= .neq/\b= !r)) (hk:K (.b b) h):OpA P o fr h K:=
 .of_quiet (fun A M w0 ac w _ hv=>by
   have h1:=hv x (by simp [ho,Op.operands])
   have h2:=hv y (by simp [ho,Op.operands])
   rw [hx]at h1; rw [hy]at h2
   generalize hu:ac.eval x=u at h1
   generalize hu2:ac.eval y=u2 at h2
   cases h1 with
   | agg h1=>
     cases h2 with
     | agg h2=>
       have e1:=vl_vals _ _ h1
       have e2:=vl_vals _ _ h2
       subst e1; subst e2
       refine⟨.bool b,?_,.v _⟩
       have hg:∀ op (xs ys:Array Value),(eqGuard op t x y (.agg xs) (.agg ys)).run P w= .ok () w:=fun op xs ys=>run_eqGuard_agg w op t x y xs ys hm
       rcases hop with⟨rfl,rfl⟩|⟨rfl,rfl⟩
       · simp only [execOp,ho,hu,hu2,Sem.run_bind,hg,Result.andThen_ok,run_eql_struct,he,Sem.run_pure]
       · simp only [execOp,ho,hu,hu2,Sem.run_bind,hg,Result.andThen_ok,run_neq_struct,he,Sem.run_pure]) hk
theorem OpA.ibuildSliceO {t e:TypeId}{sz bytes len:Nat}{agg:Bool}{parts:Array (Nat×Operand)}(ho:o.op= .buildSlice t len parts)(ht:TS P t e sz bytes agg)(hidx:parts.toList.map (·.1)=List.range len)
   (hok:OkL fr sz parts.toList) (hb:len*sz<=16777216) (hk:K (.list sz (parts.toList.map fun p=>ev fr p.2)) h):OpA P o fr h K:= .ibuildSlice ho ht hidx hok.all hb hk
theorem OpA.buildSliceO {t e:TypeId}{sz bytes len:Nat}{agg:Bool}{parts:Array (Nat×Operand)}(ho:o.op= .buildSlice t len parts)(ht:TS P t e sz bytes agg)(hidx:parts.toList.map (·.1)=List.range len)
   (hok:OkL fr sz parts.toList) (hb:len*sz<=16777216) (hk:∀ c,K (.own c sz 0 len) ((c,.cells sz (parts.toList.map fun p=>ev fr p.2))::h)):OpA P o fr h K:= .buildSlice ho ht hidx hok.all hb hk
theorem OpA.buildO {t:TypeId}{parts:Array (Nat×Operand)}{pl:List (Nat×Nat)}{zc:Array Value}{zs ds:List D}(ho:o.op= .build t parts)(hp:placesOf P t=some pl)(hz:(P.info? t).bind (·.zero)=some (.agg zc))
   (hzs:∀ w X,VL w X zs zc.toList) (hok:OkE fr parts.toList) (hd:fillD (pl[·]?) zs (parts.toList.map fun p=>(p.1,ev fr p.2))=some ds) (hk:K (.agg ds) h):OpA P o fr h K:= .build ho hp hz hzs hok.all hd hk
theorem OpA.buildArr {t et:TypeId}{len esz:Nat}{agg:Bool}{parts:Array (Nat×Operand)}{zc:Array Value}{zs ds:List D}(ho:o.op= .build t parts)(ht:P.underlying t=some (.array len et))(hte:TI P et esz agg)(hz:(P.info? t).bind (·.zero)=some (.agg zc))
   (hzs:∀ w X,VL w X zs zc.toList) (hok:OkL fr esz parts.toList) (hd:fillD (fun i=>some (i*esz,esz)) zs (parts.toList.map fun p=>(p.1,ev fr p.2))=some ds) (hk:K (.agg ds) h):OpA P o fr h K:=
 .of_quiet (fun A M w0 ac w _ hv=>by
   have hvs:=parts_VL (ac:=ac) parts.toList (fun p hp=>hv p.2 (by simp [ho,Op.operands]; exact⟨p.1,by simpa using hp⟩))
   obtain⟨cs',h1,h2⟩:=fill_of_fillD (place:=fun i=>some (i*esz,esz)) (parts.toList.map fun p=>(p.1,ev fr p.2)) (parts.toList.map fun p=>(p.1,ac.eval p.2)) zs ds zc (hzs w _) (by simp) (by rw [List.map_map,List.map_map]; exact hvs)
     (by intro p hp; obtain⟨q,hq,rfl⟩:=List.mem_map.1 hp; exact⟨esz,hok.all q hq⟩) hd
   refine⟨.agg cs',?_,.agg (vs:=cs'.toList) h2⟩
   have hzr:(zeroValue t).run P w= .ok (.agg zc) w:=by
     obtain⟨i,hi,hi2⟩:=Option.bind_eq_some_iff.1 hz
     simp [zeroValue,typeInfo,hi,hi2]
   have hpt:(parts.map fun(x:Nat×Operand)=>(x.1,ac.eval x.2)).toList=parts.toList.map fun p=>(p.1,ac.eval p.2):=by simp
   simp only [execOp,ho,Instr.build,Sem.run_bind,hzr,Result.andThen_ok,run_underlying ht,hte.size,Value.cells,hpt,h1]
   rfl) hk
end
end Go.Lic
set_option linter.all false
namespace Go.Lic
variable [Fl]
end Go.Lic
set_option linter.all false
namespace Go.Lic
variable [Fl]
section
variable {P:Program}{o:Oper}{fr:Nat->D}{h:zbb}{K:D->zbb->Prop}
theorem setAt_to {α:Type}:∀(b a:List α) (i:Nat),a.length=i+b.length->setAt a i b=a.take i++b
 | [],a,i,h=>by rw [List.length_nil]at h; rw [setAt,List.append_nil,List.take_of_length_le (by omega)]
 | x::b,a,i,h=>by
   rw [List.length_cons]at h
   rw [setAt,setAt_to b _ _ (by rw [List.length_set]; omega),List.take_succ_eq_append_getElem (by rw [List.length_set]; omega),List.getElem_set_self,List.take_set_of_le (Nat.le_refl i)]
   simp
theorem setAt_all {α:Type}(a b:List α)(h:a.length=b.length):setAt a 0 b=b:=by
 rw [setAt_to b a 0 (by omega)]; simp
theorem OpA.storeW {t:TypeId}{x y:Operand}{c sz i:Nat}{agg:Bool}{d e:D}{es:List D}{h':zbb}(ho:o.op= .store t x y)(ht:TI P t sz agg)(hx:ev fr x= .ptr c sz i 0)
   (hy:ev fr y=d) (hok:d.ok sz) (he:es[i]? =some e) (hl:e.flat.length=sz) (hh:Repl c (.cells sz es) c (.cells sz (es.set i d)) h h') (hk:K (.v undef) h'):OpA P o fr h K:=
 .store (e':=d) ho ht hx (by rw [hy]; exact hok) he (by omega) (by rw [hy,setAt_all _ _ (by rw [hl,hok.1])]) hh hk
end
inductive GhostL (g sz:Nat):List D->List D->Prop
 |nil:GhostL g sz [] []
 |same {d:D} {l l':List D} (h:GhostL g sz l l'):GhostL g sz (d::l) (d::l')
 |turn {l l':List D} (h:GhostL g sz l l'):GhostL g sz (.v (.slice none 0 0)::l) (.own g sz 0 0::l')
theorem GhostL.vl {w:World}{X:Nat->Prop}{g sz:Nat}{l l':List D}(h:GhostL g sz l l'):∀ {vs:List Value},VL w X l vs->VL w X l' vs:=by
 induction h with
 |nil=>exact fun h=>h
 |same _ ih=>intro vs h; cases h with|cons h1 h2=>exact .cons h1 (ih h2)
 |turn _ ih=>intro vs h; cases h with|cons h1 h2=>cases h1; exact .cons (.own (Nat.le_refl _) (.inr ⟨rfl,rfl⟩)) (ih h2)
theorem Rel.ghostM {n:Nat}{fr:Nat->D}{h:zbb}{c sz1 sz:Nat}{es:List D}{es':Nat->List D}{h':Nat->zbb}(hrepl:∀ g,Repl c (.cells sz1 es) c (.cells sz1 (es' g)) h (h' g))
   (hfl:∀ g,GhostL g sz (D.flats es) (D.flats (es' g))) (hlen:∀ g,(es' g).length=es.length) (hok:∀ g,∀ d∈es' g,d.ok sz1) {A M:Nat->Prop} {w0:World} {a:Act} {w:World} (r:Rel n A M w0 fr h a w):∃ g,Rel n A M w0 fr ((g,.cells sz [])::h' g) a w:=by
   obtain⟨g,_,_,hr,hm⟩:=r.heap.ghost sz
   have hk:keys (h' g)=keys h:=(hrepl g).keys_eq
   obtain⟨h1,h2,e1,e2⟩:=(hrepl g).split
   have hX:XX A ((g,.cells sz [])::h' g)=XX A ((g,.cells sz [])::h):=by
     funext b; simp only [XX,keys_cons,hk]
   have hb:BlkRel w (XX A ((g,.cells sz [])::h)) c (.cells sz1 es):=hr.blk _ _ (by rw [e1]; simp)
   have hr':HRel A M w0 ((g,.cells sz [])::h' g) w:=by
     refine⟨by rw [keys_cons,hk]; exact hr.nodup,?_,by rw [keys_cons,hk]; exact hr.free,by rw [keys_cons,hk]; exact hr.mine,hr.bound,hr.old,hr.ext,by rw [hX]; exact hr.glob⟩
     intro c' b' hc'
     rw [hX]
     rcases List.mem_cons.1 hc' with hc'|hc'
     · exact hr.blk _ _ (by rw [hc']; simp)
     · rw [e2]at hc'
       rcases List.mem_append.1 hc' with h3|h3
       · exact hr.blk _ _ (by rw [e1]; simp [h3])
       · rcases List.mem_cons.1 h3 with h3|h3
         · cases h3
           refine⟨hok g,?_⟩
           rcases hb.2 with⟨q1,q2⟩|⟨q1,arr,e,cs,q2,q3,q4⟩
           · left; refine⟨q1,?_⟩
             have:=hlen g; rw [q2]at this; exact List.eq_nil_of_length_eq_zero this
           · exact .inr ⟨q1,arr,e,cs,q2,(hfl g).vl q3,q4⟩
         · exact hr.blk _ _ (by rw [e1]; simp [h3])
   refine⟨g,r.size,fun i=>?_,by rw [hX]; exact r.defers.mono hm,hr'⟩
   rw [hX]; exact(r.frame i).mono hm
theorem wpA_ghostM {P:Program}{n:Nat}{Q:Post}{fr:Nat->D}{h:zbb}{c0:Code}{c sz1 sz:Nat}{es:List D}{es':Nat->List D}{h':Nat->zbb}(hrepl:∀ g,Repl c (.cells sz1 es) c (.cells sz1 (es' g)) h (h' g))
   (hfl:∀ g,GhostL g sz (D.flats es) (D.flats (es' g))) (hlen:∀ g,(es' g).length=es.length) (hok:∀ g,∀ d∈es' g,d.ok sz1) (hh:∀ g,wpA P n c0 Q fr ((g,.cells sz [])::h' g)):wpA P n c0 Q fr h:=
 fun A M w0 a w r=>by
   obtain⟨g,r'⟩:=r.ghostM hrepl hfl hlen hok
   exact hh g A M w0 a w r'
theorem wpA_perm {P:Program}{n:Nat}{Q:Post}{fr:Nat->D}{h h':zbb}{c:Code}(hp:h.Perm h')(hh:wpA P n c Q fr h'):wpA P n c Q fr h:=
 fun A M w0 a w r=>by
   obtain⟨r1,m1⟩:=r.heap.perm hp
   have r':=r.turn r1 m1
   exact hh A M w0 a w r'
theorem wpA_loopP {P:Program}{n:Nat}{Q:Post}{fr:Nat->D}{h:zbb}{c:Code}(I:Nat->(Nat->D)->zbb->Prop)(h0:∃ k fr0 h0,I k fr0 h0/\h.Perm h0/\Cov fr fr0)
   (round:∀ k fr h,I k fr h->wpA P n c (fun e fr' h'=>match e with| .normal=>∃ k' fr0 h0,k'<k/\I k' fr0 h0/\h'.Perm h0/\Cov fr' fr0|e=>Q e fr' h') fr h):wpA P n (.loop c) Q fr h:=by
 obtain⟨k,fr0,h0,hI,hp,hc⟩:=h0
 refine wpA_loopE (fun k fr h=>∃ h0,I k fr h0/\h.Perm h0) ⟨k,fr0,⟨h0,hI,hp⟩,hc⟩ ?_
 rintro k fr h ⟨h0,hI,hp⟩
 refine wpA_perm hp ?_
 intro A M w0 a w r ro hro
 refine wpIn_mono (round k fr h0 hI A M w0 a w r ro hro) ?_
 rintro e a' w' ⟨fr',h',hq,r'⟩
 cases e with
 | normal=>
   obtain⟨k',fr0,h0,hk,hI',hp',hc'⟩:=hq
   exact⟨fr',h',⟨k',fr0,hk,⟨h0,hI',hp'⟩,hc'⟩,r'⟩
 |exit id=>exact⟨fr',h',hq,r'⟩
 |goto l=>exact⟨fr',h',hq,r'⟩
 |ret=>exact⟨fr',h',hq,r'⟩
 |panic ch=>exact⟨fr',h',hq,r'⟩
 |outgrown=>exact⟨fr',h',hq,r'⟩
theorem zN {p:Prop}(h:p:=by first|exact nat_lit0|exact nat_lit1|exact nat_lit2|exact nat_add1 _|exact nat_add _ _|exact rfl|exact nat_sub1 (by omega)|exact nat_sub (by omega)|exact natp1 (nat_sub (by omega))|exact nat_of (by omega)):p:=h
theorem zC {p:Prop}(h:p:=by first|rfl|exact getM _ _ _ (by omega)|exact getO (by omega)|exact getL _ _ (by omega)|(simp; done)):p:=h
theorem zM {p:Prop}(h:p:=by first|omega|(simp; omega)):p:=h
theorem zW {p:Prop}(h:p:=by with_reducible conv=>lhs; whnf):p:=h
theorem zK {p:Prop}(h:p:=by kernel_rfl):p:=h
theorem zH {p:Prop}(h:p:=by first|exact .head|exact .tail .head|exact .tail (.tail .head)|exact .tail (.tail (.tail .head))|exact .tail (.tail (.tail (.tail .head)))):p:=h
theorem zI {p q:Prop}(h:p)(e:p=q:=by conv=>lhs; simp only [decide_eq_true_eq,decide_eq_false_iff_not,beq_iff_eq,bne_iff_ne,beq_eq_false_iff_ne,bne_eq_false_iff_eq,Bool.not_eq_true',Bool.not_eq_false',Int.not_lt,Int.not_le,gt_iff_lt,ge_iff_le,ne_eq]):q:=e▸h
theorem cvZ {fr:Nat->D}{l:List (Nat×D)}(h:covL fr l:=by repeat first|exact trivial|refine⟨rfl,?_⟩):Cov fr (asg l):= .asg h
end Go.Lic
