/-
  A region whose order is drawn, of which some moves may come late.
-/
import Derived.Test.YtkifpidbpoghlaaGreatDoorRule
import Derived.Test.YtkifpidbpoghlaaGreatDoorRead
import Derived.KernelRfl
set_option linter.all false
namespace Go.Lic
variable [Fl]
section
variable {P:Program}{ops:Array Oper}{Q:Exit->Act->World->Prop}
theorem wpAny_tailF {F:List Nat}{ro:Option Nat}(hback:∀ i o,ops[i]? =some o->∀ e∈o.after.toList,Region.binds .any e=true->e.on<i)
   : ∀ (fuel p:Nat) (li:Array Bool) (a:Act) (w:World),li.size=ops.size->(∀ i,i<ops.size->li.getD i false=decide (i<p))->p+fuel=ops.size->(∀ f∈F,f<p)->
     (∀ i o,p<=i->ops[i]? =some o->∀ j,j<i->∀ li':Array Bool,(∀ f∈F,li'.getD f false=true)->li'.size=ops.size->(∀ x y,ops[x]? =some y->li'.getD x false=true->∀ e∈y.after.toList,Region.binds .any e=true->li'.getD e.on false=true)->
       (∀ e∈o.after.toList,Region.binds .any e=true->li'.getD e.on false=true)->li'.getD j false=true)->
     wpListIn (Wd ro) 0 P ops Q (ops.toList.drop p) a w->wpAnyIn (Wd ro) 0 P .any ops Q fuel li a w:=by
 intro fuel
 induction fuel with
 | zero=>
   intro p li a w hs hli hp _ _ hw
   have hd:ops.toList.drop p= []:=List.drop_eq_nil_of_le (by simp; omega)
   rw [hd]at hw
   refine⟨?_,hw⟩
   apply List.eq_nil_iff_forall_not_mem.2
   intro i hi
   obtain⟨o,ho,hl,_⟩:=(mem_ready hs).1 hi
   have hlt:i<ops.size:=(Array.getElem?_eq_some_iff.1 ho).1
   rw [hli i hlt]at hl
   simp at hl; omega
 | succ fuel ih=>
   intro p li a w hs hli hp hfp htail hw
   have hlt:p<ops.size:=by omega
   have ho:ops[p]? =some ops[p]:=Array.getElem?_eq_getElem hlt
   have hd:ops.toList.drop p=ops[p]::ops.toList.drop (p+1):=by
     rw [List.drop_eq_getElem_cons (by simpa using hlt)]; simp
   rw [hd]at hw
   have hready:∀ i,i∈Region.ready .any ops li↔i=p:=by
     intro i
     rw [mem_ready hs]
     constructor
     · rintro⟨o,ho',hl,ha⟩
       have hi:=(Array.getElem?_eq_some_iff.1 ho').1
       rw [hli i hi]at hl
       simp at hl
       by_cases hip:i=p
       · exact hip
       · exfalso
         have:=htail i o hl ho' p (by omega) li (fun f hf=>by
           have:=hfp f hf
           rw [hli f (by omega)]; simpa using this) hs (by
           intro x y hy hx e he hb
           have hxl:=(Array.getElem?_eq_some_iff.1 hy).1
           have he':=hback x y hy e he hb
           rw [hli _ hxl]at hx; rw [hli _ (by omega)]
           simp at hx ⊢; omega) ha
         rw [hli p hlt]at this
         simp at this
     · rintro rfl
       refine⟨_,ho,by rw [hli _ hlt]; simp,fun e he hb=>?_⟩
       have:=hback _ _ ho e he hb
       rw [hli _ (by omega)]; simpa using this
   refine⟨fun hr=>?_,fun i hi=>?_⟩
   · have:=(hready p).2 rfl
     rw [hr]at this; simp at this
   · obtain rfl:=(hready i).1 hi
     have hK:∀ a w,wpListIn (Wd ro) 0 P ops Q (ops.toList.drop (i+1)) a w->wpAnyIn (Wd ro) 0 P .any ops Q fuel (li.setIfInBounds i true) a w:=fun a w hw'=>
       ih (i+1) _ a w (by simp [hs]) (fun j hj=>by
         rw [getD_set (by omega)]
         by_cases hji:j=i
         · subst hji; simp
         · rw [if_neg hji,hli j hj]
           rw [decide_eq_decide]; omega) (by omega) (fun f hf=>by have:=hfp f hf; omega) (fun j o hj=>htail j o (by omega)) hw'
     unfold wpOpIn
     simp only [ho]
     simp only [wpListIn]at hw
     split
     · rename_i hwt
       rw [if_pos hwt]at hw
       exact Oper.wpIn_mono hK hw
     · rename_i hwt
       rw [if_neg hwt]at hw
       exact⟨fun _ _=>trivial,hK _ _ hw.2⟩
end
def drawOkF (ops:Array Oper)(m:Nat)(F:List Nat):Bool:=
 let L:=befs ops.toList
 let dsts:=(ops.toList.take m).map (·.dst)
 (m<=ops.toList.length)&&
 (ops.toList.zipIdx.all fun(o,i)=>(L.getD i []).all fun j=>o.after.toList.any fun e=>Region.binds .any e&&(e.on==j||(L.getD e.on []).contains j))&&
 (ops.toList.zipIdx.all fun(o,i)=>o.after.toList.all fun e=> !Region.binds .any e||decide (e.on<i))&&
 nodupB dsts&&
 ((ops.toList.take m).zipIdx.all fun(o,i)=>(tmpsOf o).all fun t=>dsts.zipIdx.all fun(x,j)=> !(x==some t)||((L.getD i []).contains j&&decide (j<i))||((L.getD j []).contains i&&decide (i<j)))&&
 ((ops.toList.take m).zipIdx.all fun(o,i)=>match o.guard with|none=>true|some (j,_)=>(L.getD i []).contains j&&decide (j<i))&&
 (ops.toList.zipIdx.all fun(_,i)=>decide (i<m)||(List.range i).all fun j=>F.contains j||(L.getD i []).contains j)&&
 (F.all fun f=>decide (f<m)&&(match ops[f]? with|some o=>o.guard.isNone&&(match o.op with| .move (.tmp _)=>true|_=>false)&&o.after.toList.all (fun e=> !Region.binds .any e)|none=>false)&&Region.free .any ops (Array.replicate ops.size false) f)&&
 Region.noSelect ops&&
 decide F.Nodup
section
theorem wpA_drawF (F:List Nat){P:Program}{n:Nat}{ops:Array Oper}{Q:Post}{fr:Nat->D}{h:zbb}{id m:Nat}(hm:P.follows .mixedOrders=true)(hok:drawOkF ops m F=true)(hQ:∀ c fr h,Q (.panic c) fr h->False)(hn:(ops.toList.take m).all (fun o=>(o.dst.all fun d=>Nat.blt d n))=true)
   (hdet:DetK P ops h (ops.toList.take m) fr fun fr'=>wpL P n ops (ops.toList.drop m) Q fr' h):wpA P n (.region id ops true) Q fr h:=by
 intro A M w0 a0 w1 r0 ro hro
 obtain⟨ds,hds,hrest⟩:=hdet
 -- what the check says
 simp only [drawOkF,Bool.and_eq_true]at hok
 obtain⟨⟨⟨⟨⟨⟨⟨⟨⟨k1,k2⟩,k3⟩,k4⟩,k5⟩,k6⟩,k7⟩,k8⟩,k9⟩,k10⟩:=hok
 generalize hL:befs ops.toList=L at*
 have hml:m<=ops.size:=by simpa using k1
 have oget:∀(i:Nat) (o:Oper),ops[i]? =some o↔ops.toList[i]? =some o:=fun i o=>by rw [Array.getElem?_toList]
 have hback:∀ i o,ops[i]? =some o->∀ e∈o.after.toList,Region.binds .any e=true->e.on<i:=by
   intro i o ho e he hb
   have:=zipIdx_all k3 i o ((oget i o).1 ho)
   simp only [List.all_eq_true]at this
   have:=this e he
   simpa [hb]using this
 -- a list's members have been done
 have hbef:∀(li:Array Bool),(∀ x y,ops[x]? =some y->li.getD x false=true->∀ e∈y.after.toList,Region.binds .any e=true->li.getD e.on false=true)->
     ∀ N i o,i<=N->ops[i]? =some o->(∀ e∈o.after.toList,Region.binds .any e=true->li.getD e.on false=true)->∀ j,(L.getD i []).contains j=true->li.getD j false=true:=by
   intro li hcl N
   induction N with
   | zero=>
     intro i o hi ho ha j hj
     have:=zipIdx_all k2 i o ((oget i o).1 ho)
     simp only [List.all_eq_true]at this
     have:=this j (by simpa using hj)
     simp only [List.any_eq_true,Bool.and_eq_true,Bool.or_eq_true,beq_iff_eq]at this
     obtain⟨e,he,hb,hj'⟩:=this
     have:=hback i o ho e he hb
     omega
   | succ N ih=>
     intro i o hi ho ha j hj
     have:=zipIdx_all k2 i o ((oget i o).1 ho)
     simp only [List.all_eq_true]at this
     have:=this j (by simpa using hj)
     simp only [List.any_eq_true,Bool.and_eq_true,Bool.or_eq_true,beq_iff_eq]at this
     obtain⟨e,he,hb,hj'⟩:=this
     have hlt:=hback i o ho e he hb
     rcases hj' with rfl|hj'
     · exact ha e he hb
     · have hio:=(Array.getElem?_eq_some_iff.1 ho).1
       have ho2:ops[e.on]? =some ops[e.on]:=Array.getElem?_eq_getElem (by omega)
       exact ih e.on _ (by omega) ho2 (hcl e.on _ ho2 (ha e he hb)) j hj'
 -- what is done with one more
 have closed:∀(li:Array Bool) (i:Nat) (o:Oper),li.size=ops.size->i<ops.size->ops[i]? =some o->(∀ e∈o.after.toList,Region.binds .any e=true->li.getD e.on false=true)->
     (∀ x y,ops[x]? =some y->li.getD x false=true->∀ e∈y.after.toList,Region.binds .any e=true->li.getD e.on false=true)->
     (∀ x y,ops[x]? =some y->(li.setIfInBounds i true).getD x false=true->∀ e∈y.after.toList,Region.binds .any e=true->(li.setIfInBounds i true).getD e.on false=true):=by
   intro li i o hs hio ho ha hcl x y hy hx e he hb
   rw [getD_set (by omega)]at hx ⊢
   by_cases hxi:x=i
   · subst hxi
     rw [ho]at hy; cases hy
     split
     · rfl
     · exact ha e he hb
   · rw [if_neg hxi]at hx
     split
     · rfl
     · exact hcl x y hy hx e he hb
 have hfl:∀ f∈F,f<m/\∃ o s,ops[f]? =some o/\o.guard=none/\o.op= .move (.tmp s)/\(∀ e∈o.after.toList,Region.binds .any e=false)/\Region.free .any ops (Array.replicate ops.size false) f=true:=by
   intro f hf
   have:=List.all_eq_true.1 k8 f hf
   simp only [Bool.and_eq_true,decide_eq_true_eq]at this
   obtain⟨⟨q1,q2⟩,q3⟩:=this
   refine⟨q1,?_⟩
   cases ho:ops[f]? with
   |none=>rw [ho]at q2; simp at q2
   | some o=>
     rw [ho]at q2
     simp only [Bool.and_eq_true]at q2
     obtain⟨⟨q4,q5⟩,q6⟩:=q2
     cases hop:o.op<;>rw [hop]at q5<;>first|(simp at q5; done)|skip
     rename_i x
     cases x<;>first|(simp at q5; done)|skip
     rename_i s
     refine⟨o,s,rfl,by simpa using q4,hop,fun e he=>?_,q3⟩
     have:=List.all_eq_true.1 q6 e he
     simpa using this
 -- one of the first operations that is ready
 have step : ∀(li:Array Bool) (a:Act) (w:World) (i:Nat) (o:Oper),li.size=ops.size->(∀ x y,ops[x]? =some y->li.getD x false=true->∀ e∈y.after.toList,Region.binds .any e=true->li.getD e.on false=true)->
     Rel n A M w0 (slotOf fr ((ops.toList.take m).map (·.dst)) ds li m) h a w->i<m->ops[i]? =some o->li.getD i false=false->(∀ e∈o.after.toList,Region.binds .any e=true->li.getD e.on false=true)->
     wpOpIn (Wd ro) 0 P ops (Conc n A M w0 Q) i (fun a' w'=>Rel n A M w0 (slotOf fr ((ops.toList.take m).map (·.dst)) ds (li.setIfInBounds i true) m) h a' w') a w:=by
   intro li a w i o hs hcl r him ho hl ha
   have hio:=(Array.getElem?_eq_some_iff.1 ho).1
   have hotl:(ops.toList.take m)[i]? =some o:=by rw [List.getElem?_take,if_pos him]; exact(oget i o).1 ho
   have hdi:∃ d,ds[i]? =some d:=⟨_,List.getElem?_eq_getElem (by rw [hds.length]; simp; omega)⟩
   obtain⟨d,hd⟩:=hdi
   have hstep:=hds.nth i o d hotl hd
   -- the slots that it reads
   have hslot:∀ t,(∀ j:Nat,(((ops.toList.take m).map (·.dst))[j]? =some (some t))->((L.getD i []).contains j=true/\j<i)\/((L.getD j []).contains i=true/\i<j))->
       slotOf fr ((ops.toList.take m).map (·.dst)) ds li m t=runFr fr ((ops.toList.take m).take i) (ds.take i) t:=by
     intro t ht
     have e1:(ops.toList.take m).take i=ops.toList.take i:=by rw [List.take_take]; congr 1; omega
     have hlen:(ds.take i).length=(ops.toList.take i).length:=by simp [hds.length]; omega
     have hnd:nodupB ((ops.toList.take i).map (·.dst))=true:=by
       have:=nodupB_take _ i k4
       rwa [<- List.map_take,e1]at this
     rw [e1]
     obtain⟨g1,g2⟩:=runFr_get (ops.toList.take i) (ds.take i) fr t hlen hnd
     by_cases hex:∃ j:Nat,((ops.toList.take m).map (·.dst))[j]? =some (some t)
     · obtain⟨j,hj⟩:=hex
       rcases ht j hj with⟨hb,hji⟩|⟨hb,hij⟩
       · have hjl:=hbef li hcl i i o (Nat.le_refl _) ho ha j hb
         rw [slotOf_hit k4 (by omega) hjl hj]
         rw [take_dsts,if_pos (by omega)]at hj
         rw [g1 j (by rw [take_dsts,if_pos hji]; exact hj)]
         simp [hji]
       · -- what is written behind it has not been written yet
         have hjm:j<m:=by have:=(List.getElem?_eq_some_iff.1 hj).1; simp at this; omega
         have hjf:li.getD j false=false:=by
           cases hv:li.getD j false with
           |false=>rfl
           | true=>
             have hoj:ops[j]? =some ops[j]:=Array.getElem?_eq_getElem (by omega)
             have:=hbef li hcl j j _ (Nat.le_refl _) hoj (hcl j _ hoj hv) i hb
             rw [hl]at this; simp at this
         rw [slotOf_miss (fun q h1 h2 h3=>by
           have:=(nodupB_spec _ k4 q j _ _ h3 hj rfl).1
           subst this
           rw [hjf]at h2; simp at h2),g2 (fun q hq=>by
           rw [take_dsts]at hq
           split at hq
           · have hq':((ops.toList.take m).map (·.dst))[q]? =some (some t):=by rw [take_dsts,if_pos (by omega)]; exact hq
             have:=(nodupB_spec _ k4 q j _ _ hq' hj rfl).1
             omega
           · simp at hq)]
     · rw [slotOf_miss (fun j _ _ hj=>hex ⟨j,hj⟩),g2 (fun j hj=>by
         rw [take_dsts]at hj
         split at hj
         · apply hex; refine⟨j,?_⟩; rw [take_dsts,if_pos (by omega)]; exact hj
         · simp at hj)]
   have hops:∀ x,x∈o.op.operands->ev (slotOf fr ((ops.toList.take m).map (·.dst)) ds li m) x=ev (runFr fr ((ops.toList.take m).take i) (ds.take i)) x:=by
     intro x hx
     cases x with
     | tmp t=>
       apply hslot
       intro j hj
       have h5:=zipIdx_all k5 i o hotl
       simp only [List.all_eq_true]at h5
       have htm:t∈tmpsOf o:=List.mem_filterMap.2 ⟨.tmp t,by simpa using hx,rfl⟩
       have:=h5 t htm
       have:=zipIdx_all (List.all_eq_true.2 this) j _ hj
       simp only [beq_self_eq_true,Bool.not_true,Bool.false_or,Bool.or_eq_true,Bool.and_eq_true,decide_eq_true_eq]at this
       exact this
     |const v=>rfl
     |global g=>rfl
     |func f=>rfl
   -- the state behind it
   have hdst:∃ dd,o.dst=some dd:=by
     have hq:((ops.toList.take m).map (·.dst))[i]? =some o.dst:=by rw [List.getElem?_map,hotl]; rfl
     have:=(nodupB_spec _ k4 i i _ _ hq hq rfl).2
     exact Option.isSome_iff_exists.1 this
   obtain⟨dd,hdd⟩:=hdst
   have hddn:dd<n:=by
     rw [List.all_eq_true]at hn
     have:=hn o (List.mem_of_getElem? hotl)
     rw [hdd]at this
     simpa [Nat.blt_eq]using this
   have hnext:slotOf fr ((ops.toList.take m).map (·.dst)) ds (li.setIfInBounds i true) m=upd (slotOf fr ((ops.toList.take m).map (·.dst)) ds li m) dd d:=by
     funext t
     have hqi:((ops.toList.take m).map (·.dst))[i]? =some (some dd):=by rw [List.getElem?_map,hotl,Option.map_some,hdd]
     by_cases htd:t=dd
     · subst htd
       rw [upd_same,slotOf_hit k4 him (by rw [getD_set (by omega)]; simp) hqi]
       simp [hd]
     · rw [upd_ne _ _ htd]
       by_cases hex:∃ j:Nat,j<m/\li.getD j false=true/\((ops.toList.take m).map (·.dst))[j]? =some (some t)
       · obtain⟨j,hj1,hj2,hj3⟩:=hex
         rw [slotOf_hit k4 hj1 hj2 hj3,slotOf_hit k4 hj1 (by rw [getD_set (by omega)]; split<;>simp [hj2]) hj3]
       · rw [slotOf_miss (fun j h1 h2 h3=>hex ⟨j,h1,h2,h3⟩),slotOf_miss]
         intro j h1 h2 h3
         rw [getD_set (by omega)]at h2
         by_cases hji:j=i
         · subst hji
           rw [hqi]at h3
           simp at h3; exact htd h3.symm
         · rw [if_neg hji]at h2
           exact hex ⟨j,h1,h2,h3⟩
   have hgo:∀(v:Value) (w':World),HRel A M w0 h w'->Mono w (XX A h) w' (XX A h)->V w' (XX A h) d v->Rel n A M w0 (slotOf fr ((ops.toList.take m).map (·.dst)) ds (li.setIfInBounds i true) m) h (a.put o.dst v) w':=by
     intro v w' hr' hm' hv'
     rw [hnext,hdd]
     exact r.put hr' hm' hddn hv'
   have hrun:OpA P o (runFr fr ((ops.toList.take m).take i) (ds.take i)) h (fun d' h'=>d'=d/\h'=h)->o.wpIn (Wd ro) 0 P a w (fun a' w'=>Rel n A M w0 (slotOf fr ((ops.toList.take m).map (·.dst)) ds (li.setIfInBounds i true) m) h a' w') (Conc n A M w0 Q):=by
     intro hop
     refine hop A M w0 a w r.heap (fun x hx=>by rw [<- hops x hx]; exact r.ev x) _ _ ?_ ro
     rintro v w' d' h' ⟨rfl,rfl⟩ hr' hm' hv'
     exact hgo v w' hr' hm' hv'
   unfold wpOpIn
   simp only [ho]
   rcases hstep with⟨hg,hop⟩|⟨j,want,s,b,hg,hj,hb,hcase⟩|⟨j,want,s,hg,hj,hb,rfl⟩
   · rw [if_pos (by simp [Region.wanted,hg])]
     exact hrun hop
   · have hsl:slotOf fr ((ops.toList.take m).map (·.dst)) ds li m s= .b b:=by
       rw [hslot s,hb]
       intro j' hj'
       have h6:=zipIdx_all k6 i o hotl
       simp only [hg,Bool.and_eq_true,decide_eq_true_eq]at h6
       left
       have hjs:((ops.toList.take m).map (·.dst))[j]? =some (some s):=by
         rw [take_dsts,if_pos (by omega)]
         obtain⟨oj,hoj,hojd⟩:=Option.bind_eq_some_iff.1 hj
         have:=(oget j oj).1 hoj
         rw [this]; simp [hojd]
       have:=(nodupB_spec _ k4 j' j _ _ hj' hjs rfl).1
       subst this
       exact h6
     have hy:=yielded_of r hj hsl
     rcases hcase with⟨hne,hop⟩|⟨hne,rfl⟩
     · have hw:Region.wanted o (yielded ops a.tmps)=true:=by
         simp only [Region.wanted,hg,hy]
         cases b<;>cases want<;>first|rfl|simp at hne
       rw [if_pos hw]
       exact hrun hop
     · have hw:¬Region.wanted o (yielded ops a.tmps)=true:=by
         simp only [Region.wanted,hg,hy]
         cases b<;>cases want<;>first|(simp at hne; done)|simp
       rw [if_neg hw]
       exact⟨fun _ _=>trivial,hgo undef w r.heap (Mono.refl _ _) (.v _)⟩
   · have hsl:slotOf fr ((ops.toList.take m).map (·.dst)) ds li m s= .v undef:=by
       rw [hslot s,hb]
       intro j' hj'
       have h6:=zipIdx_all k6 i o hotl
       simp only [hg,Bool.and_eq_true,decide_eq_true_eq]at h6
       left
       have hjs:((ops.toList.take m).map (·.dst))[j]? =some (some s):=by
         rw [take_dsts,if_pos (by omega)]
         obtain⟨oj,hoj,hojd⟩:=Option.bind_eq_some_iff.1 hj
         have:=(oget j oj).1 hoj
         rw [this]; simp [hojd]
       have:=(nodupB_spec _ k4 j' j _ _ hj' hjs rfl).1
       subst this
       exact h6
     have hy:=yielded_undef r hj hsl
     have hw:¬Region.wanted o (yielded ops a.tmps)=true:=by
       simp only [Region.wanted,hg,hy]; simp
     rw [if_neg hw]
     exact⟨fun _ _=>trivial,hgo undef w r.heap (Mono.refl _ _) (.v _)⟩
 refine wpIn_region_any hm ?_
 -- the first operations, in whatever order
 have key : ∀ (fuel:Nat) (li:Array Bool) (a:Act) (w:World),li.size=ops.size->cnt li ops.size=fuel->(∀ x y,ops[x]? =some y->li.getD x false=true->∀ e∈y.after.toList,Region.binds .any e=true->li.getD e.on false=true)->
     (∀ i,m<=i->li.getD i false=false)->Rel n A M w0 (slotOf fr ((ops.toList.take m).map (·.dst)) ds li m) h a w->(∀ f∈F,li.getD f false=true)->wpAnyIn (Wd ro) 0 P .any ops (Conc n A M w0 Q) fuel li a w:=by
   intro fuel
   induction fuel with
   | zero=>
     intro li a w hs hc hcl hpre r hFd
     have hall:=cnt_zero hc
     have hmm:m=ops.size:=by
       rcases Nat.lt_or_ge m ops.size with hlt|hge
       · have:=hall m hlt; rw [hpre m (Nat.le_refl _)]at this; simp at this
       · omega
     have hfr:slotOf fr ((ops.toList.take m).map (·.dst)) ds li m=runFr fr (ops.toList.take m) ds:=by
       funext t
       obtain⟨g1,g2⟩:=runFr_get (ops.toList.take m) ds fr t (hds.length) k4
       by_cases hex:∃ i:Nat,((ops.toList.take m).map (·.dst))[i]? =some (some t)
       · obtain⟨i,hi⟩:=hex
         have him:i<m:=by have:=(List.getElem?_eq_some_iff.1 hi).1; simp at this; omega
         rw [slotOf_hit k4 him (hall i (by omega)) hi,g1 i hi]
       · rw [slotOf_miss (fun i _ _ hi=>hex ⟨i,hi⟩),g2 (fun i hi=>hex ⟨i,hi⟩)]
     rw [hfr]at r
     have:=hrest A M w0 a w r ro
     have hd:ops.toList.drop m= []:=List.drop_eq_nil_of_le (by simp; omega)
     rw [hd]at this
     refine⟨?_,this⟩
     apply List.eq_nil_iff_forall_not_mem.2
     intro i hi
     obtain⟨o,ho,hl,_⟩:=(mem_ready hs).1 hi
     rw [hall i (Array.getElem?_eq_some_iff.1 ho).1]at hl
     simp at hl
   | succ fuel ih=>
     intro li a w hs hc hcl hpre r hFd
     by_cases hdone:∀ i,i<m->li.getD i false=true
     · -- all the first ones are done
       have hfr:slotOf fr ((ops.toList.take m).map (·.dst)) ds li m=runFr fr (ops.toList.take m) ds:=by
         funext t
         obtain⟨g1,g2⟩:=runFr_get (ops.toList.take m) ds fr t (hds.length) k4
         by_cases hex:∃ i:Nat,((ops.toList.take m).map (·.dst))[i]? =some (some t)
         · obtain⟨i,hi⟩:=hex
           have him:i<m:=by have:=(List.getElem?_eq_some_iff.1 hi).1; simp at this; omega
           rw [slotOf_hit k4 him (hdone i him) hi,g1 i hi]
         · rw [slotOf_miss (fun i _ _ hi=>hex ⟨i,hi⟩),g2 (fun i hi=>hex ⟨i,hi⟩)]
       rw [hfr]at r
       have hcnt:∀ k,m<=k->cnt li k=k-m:=by
         intro k
         induction k with
         |zero=>intro _; simp [cnt]
         | succ k ihk=>
           intro hk
           simp only [cnt]
           by_cases hkm:m<=k
           · rw [ihk hkm,hpre k hkm]; simp; omega
           · have hkk:m=k+1:=by omega
             have hz:∀ q,q<=k->cnt li q=0:=by
               intro q
               induction q with
               |zero=>intro _; rfl
               |succ q ihq=>intro hq; simp only [cnt]; rw [ihq (by omega),hdone q (by omega)]; simp
             rw [hz k (Nat.le_refl _),hdone k (by omega)]; simp; omega
       have hf:=hcnt ops.size hml
       refine wpAny_tailF (F:=F) hback (fuel+1) m li a w hs (fun i hi=>?_) (by omega) (fun f hf=>(hfl f hf).1) ?_ (hrest A M w0 a w r ro)
       · by_cases him:i<m
         · rw [hdone i him]; simp [him]
         · rw [hpre i (by omega)]; simp [him]
       · intro i o hmi ho j hj li' hF' hs' hcl' ha'
         have h7:=zipIdx_all k7 i o ((oget i o).1 ho)
         simp only [Bool.or_eq_true,decide_eq_true_eq,List.all_eq_true]at h7
         rcases h7 with h7|h7
         · omega
         · rcases h7 j (List.mem_range.2 hj)with h8|h8
           · exact hF' j (by simpa using h8)
           · exact hbef li' hcl' i i o (Nat.le_refl _) ho ha' j h8
     · -- one of the first ones is next
       have hnot:∃ i,i<m/\li.getD i false=false:=by
         apply Classical.byContradiction
         intro hno
         apply hdone
         intro i hi
         cases hv:li.getD i false with
         |true=>rfl
         |false=>exact absurd ⟨i,hi,hv⟩ hno
       have hfirst:∀ i,i∈Region.ready .any ops li->i<m:=by
         intro i hi
         obtain⟨o,ho,hl,ha⟩:=(mem_ready hs).1 hi
         rcases Nat.lt_or_ge i m with h1|h1
         · exact h1
         · exfalso
           obtain⟨j,hj,hjf⟩:=hnot
           have h7:=zipIdx_all k7 i o ((oget i o).1 ho)
           simp only [Bool.or_eq_true,decide_eq_true_eq,List.all_eq_true]at h7
           rcases h7 with h7|h7
           · omega
           · rcases h7 j (List.mem_range.2 (by omega))with h8|h8
             · have:=hFd j (by simpa using h8)
               rw [hjf]at this; simp at this
             · have:=hbef li hcl i i o (Nat.le_refl _) ho ha j h8
               rw [hjf]at this; simp at this
       refine⟨fun hr=>?_,fun i hi=>?_⟩
       · -- the least that is left is ready
         exfalso
         obtain⟨j,hj,hjf⟩:=hnot
         have:∀ N i,i<=N->i<ops.size->li.getD i false=false->False:=by
           intro N
           induction N with
           | zero=>
             intro i hiN his hif
             have hmem:i∈Region.ready .any ops li:=(mem_ready hs).2 ⟨_,Array.getElem?_eq_getElem his,hif,fun e he hb=>by
               have:=hback i _ (Array.getElem?_eq_getElem his) e he hb; omega⟩
             rw [hr]at hmem; simp at hmem
           | succ N ihN=>
             intro i hiN his hif
             have hmem:i∈Region.ready .any ops li:=(mem_ready hs).2 ⟨_,Array.getElem?_eq_getElem his,hif,fun e he hb=>by
               have:=hback i _ (Array.getElem?_eq_getElem his) e he hb
               cases hv:li.getD e.on false with
               |true=>rfl
               |false=>exact(ihN e.on (by omega) (by omega) hv).elim⟩
             rw [hr]at hmem; simp at hmem
         exact this j j (Nat.le_refl _) (by omega) hjf
       · have him:=hfirst i hi
         obtain⟨o,ho,hl,ha⟩:=(mem_ready hs).1 hi
         have hio:=(Array.getElem?_eq_some_iff.1 ho).1
         refine wpOpIn_mono (fun a' w' r'=>ih _ a' w' (by simp [hs]) ?_ (closed li i o hs hio ho ha hcl) ?_ r' ?_) (step li a w i o hs hcl r him ho hl ha)
         · have:=cnt_set (li:=li) (i:=i) (by omega) hl ops.size
           rw [if_pos hio]at this
           omega
         · intro j hj
           rw [getD_set (by omega),if_neg (by omega)]
           exact hpre j hj
         · intro f hf
           rw [getD_set (by omega)]
           split
           · rfl
           · exact hFd f hf
 -- the floating ones first
 have pre:∀(G:List Nat),(∀ g∈G,g∈F)->G.Nodup->∀(fuel:Nat) (li:Array Bool) (a:Act) (w:World),li.size=ops.size->cnt li ops.size=fuel->(∀ x y,ops[x]? =some y->li.getD x false=true->∀ e∈y.after.toList,Region.binds .any e=true->li.getD e.on false=true)->
     (∀ i,m<=i->li.getD i false=false)->Rel n A M w0 (slotOf fr ((ops.toList.take m).map (·.dst)) ds li m) h a w->(∀ f∈F,f∈G\/li.getD f false=true)->(∀ g∈G,li.getD g false=false)->wpAnyIn (Wd ro) 0 P .any ops (Conc n A M w0 Q) fuel li a w:=by
   intro G
   induction G with
   | nil=>
     intro _ _ fuel li a w hs hc hcl hpre r hF _
     exact key fuel li a w hs hc hcl hpre r fun f hf=>(hF f hf).resolve_left (by simp)
   | cons g G ihG=>
     intro hGF hnd fuel li a w hs hc hcl hpre r hF hun
     obtain⟨hgm,o,s,ho,hgu,hop,hae,hfree⟩:=hfl g (hGF g (by simp))
     have hio:=(Array.getElem?_eq_some_iff.1 ho).1
     have hl:=hun g (by simp)
     have hcs:=cnt_set (li:=li) (i:=g) (by omega) hl ops.size
     rw [if_pos hio]at hcs
     obtain⟨fuel,rfl⟩:∃ k,fuel=k+1:=⟨cnt (li.setIfInBounds g true) ops.size,by omega⟩
     have hy:Yields P ops o (a.eval (.tmp s)) a:= .inl ⟨by simp [Region.wanted,hgu],fun w=>by simp [execOp,hop]⟩
     have ha:∀ e∈o.after.toList,Region.binds .any e=true->li.getD e.on false=true:=fun e he hb=>by rw [hae e he]at hb; simp at hb
     have hst:=step li a w g o hs hcl r hgm ho hl ha
     have r':Rel n A M w0 (slotOf fr ((ops.toList.take m).map (·.dst)) ds (li.setIfInBounds g true) m) h (a.put o.dst (a.eval (.tmp s))) w:=by
       unfold wpOpIn at hst
       simp only [ho]at hst
       rw [if_pos (by simp [Region.wanted,hgu])]at hst
       have e:(execOp a.eval o).run P w= .ok (.value (a.eval (.tmp s))) w:=by simp [execOp,hop]
       have hst:=hst.2
       rw [show(o.semAt (Wd ro).round a.eval).run P w=_ from semAt_run e (by simp)]at hst
       exact hst
     have hGn:=List.nodup_cons.1 hnd
     refine wpAnyW_first ho (fun j oj cs b=>Region.noSelect_spec k9 j oj cs b) (fun c a w hc=>by
         obtain⟨fr',h',hq,_⟩:=hc
         exact(hQ c fr' h' hq).elim) fuel li a w (fun j oj hj hne _ hno=>Region.free_spec ho hfree j oj hj hne (by
         have:=(Array.getElem?_eq_some_iff.1 hj).1
         simp [this]) hno) (Lic.mem_ready hs |>.2 ⟨o,ho,hl,ha⟩) hy ?_
     refine ihG (fun g' hg'=>hGF g' (by simp [hg'])) hGn.2 fuel _ _ w (by simp [hs]) (by omega) (closed li g o hs hio ho ha hcl) ?_ r' ?_ ?_
     · intro j hj
       rw [getD_set (by omega),if_neg (by omega)]
       exact hpre j hj
     · intro f hf
       rcases hF f hf with hf'|hf'
       · rcases List.mem_cons.1 hf' with rfl|hf'
         · right; rw [getD_set (by omega)]; simp
         · exact .inl hf'
       · right; rw [getD_set (by omega)]; split<;>simp [hf']
     · intro g' hg'
       rw [getD_set (by omega),if_neg (fun e=>hGn.1 (by rw [<- e]; exact hg'))]
       exact hun g' (by simp [hg'])
 refine pre F (fun _ h=>h) (by simpa using k10) ops.size (Array.replicate ops.size false) a0 w1.drew (by simp) ?_ ?_ ?_ ?_ (fun f hf=> .inl hf) (fun g hg=>by
   by_cases hi:g<ops.size<;>simp [hi])
 · have:∀ k,k<=ops.size->cnt (Array.replicate ops.size false) k=k:=by
     intro k
     induction k with
     |zero=>intro _; rfl
     |succ k ihk=>intro hk; simp only [cnt]; rw [ihk (by omega)]; simp [show k<ops.size from by omega]
   exact this _ (Nat.le_refl _)
 · intro x y hy hx
   have:=(Array.getElem?_eq_some_iff.1 hy).1
   simp [this]at hx
 · intro i _
   by_cases hi:i<ops.size<;>simp [hi]
 · obtain⟨q1,q2⟩:=r0.heap.quiet (w':=w1.drew) rfl rfl rfl rfl (Nat.le_succ _)
   have e0:slotOf fr ((ops.toList.take m).map (·.dst)) ds (Array.replicate ops.size false) m=fr:=by
     funext t
     apply slotOf_miss
     intro i _ hi
     exfalso
     by_cases hi2:i<ops.size<;>simp [hi2]at hi
   rw [e0]
   exact r0.turn q1 q2
end
end Go.Lic
set_option linter.all false
namespace Go.Lic
variable [Fl]
section
variable {A M:Nat->Prop}{w0 w:World}{h:zbb}
theorem HRel.setHd {c:Nat}{b b':Blk}{h1:zbb}(hr:HRel A M w0 ((c,b)::h1) w)(hc:c % 2=0){w':World}(hs:w'.heap.size=w.heap.size)(hk:∀ k,k≠c / 2->w'.heap[k]? =w.heap[k]?)(hsh:w'.shape? (c / 2)=w.shape? (c / 2))
   (ho:w'.os=w.os) (ht:w'.tape=w.tape) (hp:w'.output=w.output) (hd:w'.drawn=w.drawn) (hb:BlkRel w' (XX A ((c,b)::h1)) c b'):HRel A M w0 ((c,b')::h1) w'/\Mono w (XX A ((c,b)::h1)) w' (XX A ((c,b')::h1)):=by
 have hin:XX A ((c,b)::h1) (c / 2):= .inr (by simp; left; omega)
 have hm:Mono w (XX A ((c,b)::h1)) w' (XX A ((c,b')::h1)):=⟨by omega,fun k _ hx=>hk k (fun e=>hx (e▸hin)),fun k _=>by
     by_cases hb:k=c / 2
     · subst hb; exact hsh
     · exact zax (hk k hb),fun _ _ hx=>hx⟩
 have hnd:=hr.nodup
 simp only [keys_cons,List.nodup_cons]at hnd
 refine⟨⟨hr.nodup,fun c1 b1 hm1=>?_,hr.free,hr.mine,hr.bound,by rw [hs]; exact hr.old,?_,hr.glob.mono hm⟩,hm⟩
 · rcases List.mem_cons.1 hm1 with e|hm1
   · cases e; exact hb
   · refine(hr.blk c1 b1 (by simp [hm1])).mono hm (fun he=>hk _ (fun e=>hnd.1 ?_))
     rw [show c=c1 by omega]
     exact List.mem_map.2 ⟨_,hm1,rfl⟩
 · refine⟨ho.trans hr.ext.os,ht.trans hr.ext.tape,hp.trans hr.ext.output,by rw [hs]; exact hr.ext.size,fun k hk1 hk2=>?_,fun k hk1=>(hm.shape k (Nat.lt_of_lt_of_le hk1 hr.ext.size)).trans (hr.ext.shape k hk1),fun o_=>by rw [hd]; exact hr.ext.drawn o_⟩
   refine(hk k (fun e=>?_)).trans (hr.ext.keep k hk1 hk2)
   rcases hr.mine c (by simp) hc with hm|hm
   · exact hk2 (e▸hm)
   · omega
theorem HRel.allocB (hr:HRel A M w0 h w)(o:Obj)(b:Blk)(hb:BlkRel (w.alloc o) (XX A ((2*w.heap.size,b)::h)) (2*w.heap.size) b):
   2*w.heap.size ∉ keys h/\HRel A M w0 ((2*w.heap.size,b)::h) (w.alloc o):=by
 have hnew:2*w.heap.size ∉ keys h:=fun hc=>by have:=hr.lt hc (by omega); omega
 have hx:∀ k,k<w.heap.size->XX A ((2*w.heap.size,b)::h) k->XX A h k:=fun k hk hx=>by
   rcases hx with hx|hx
   · exact .inl hx
   · simp at hx; rcases hx with hx|hx
     · omega
     · exact .inr hx
 have hm:Mono w (XX A h) (w.alloc o) (XX A ((2*w.heap.size,b)::h)):=
   ⟨by simp,fun b hb _=>get_alloc w _ b hb,fun b hb=>zax (get_alloc w _ b hb),hx⟩
 refine⟨hnew,⟨?_,?_,?_,?_,hr.bound,fun b hb=>by have:=hr.old b hb; simp; omega,?_,hr.glob.mono hm⟩⟩
 · simp only [keys_cons,List.nodup_cons]; exact⟨hnew,hr.nodup⟩
 · intro c b1 hc
   rcases List.mem_cons.1 hc with hc|hc
   · cases hc; exact hb
   · exact(hr.blk c b1 hc).mono hm (fun he=>get_alloc w _ _ ((hr.blk c b1 hc).lt he))
 · intro c hc ha
   rcases List.mem_cons.1 (by simpa using hc)with hc|hc
   · subst hc; have:=hr.old _ ha; omega
   · exact hr.free c hc ha
 · intro c hc he
   rcases List.mem_cons.1 (by simpa using hc)with hc|hc
   · subst hc; have:=hr.ext.size; right; omega
   · exact hr.mine c hc he
 · exact hr.ext.trans ⟨rfl,rfl,rfl,by simp,fun b hb _=>get_alloc w _ b hb,fun b hb=>zax (get_alloc w _ b hb),fun _=>Nat.le_refl _⟩
theorem XX.part {h1 h2:zbb}:XX (fun c=>A c\/c∈keys h2) h1=XX A (h1++h2):=by
 funext b; simp only [XX,zch,List.mem_append,eq_iff_iff]
 constructor
 · rintro((h|h)|h)
   · exact .inl h
   · exact .inr (.inr h)
   · exact .inr (.inl h)
 · rintro(h|h|h)
   · exact .inl (.inl h)
   · exact .inr h
   · exact .inl (.inr h)
theorem HRel.part {h1 h2:zbb}(hr:HRel A M w0 (h1++h2) w):HRel (fun c=>A c\/c∈keys h2) (fun b=>2*b∈keys h1) w h1 w:=by
 have hnd:=hr.nodup
 simp only [zch,List.nodup_append]at hnd
 refine⟨hnd.1,fun c b hc=>by rw [XX.part]; exact hr.blk c b (List.mem_append.2 (.inl hc)),?_,?_,?_,?_,Ext.refl _ _,by rw [XX.part]; exact hr.glob⟩
 · rintro c hc (ha|ha)
   · exact hr.free c (by simp [hc]) ha
   · exact hnd.2.2 c hc c ha rfl
 · intro c hc hev; left; show 2*(c / 2)∈keys h1; rw [show 2*(c / 2)=c from by omega]; exact hc
 · obtain⟨N,hN⟩:=hr.avoid.1
   exact⟨N,fun c hc=>hN c (hc.imp id (fun h=>by simp [h]))⟩
 · intro b hb
   exact hr.avoid.2 b (hb.imp id (fun h=>by simp [h]))
theorem HRel.whole {h1 h2 h':zbb}{w':World}(hr:HRel A M w0 (h1++h2) w)(hrr:HRel (fun c=>A c\/c∈keys h2) (fun b=>2*b∈keys h1) w h' w'):HRel A M w0 (h'++h2) w'/\Mono w (XX A (h1++h2)) w' (XX A (h'++h2)):=by
 have hmm:=Mono.of_rel hrr
 rw [XX.part,XX.part]at hmm
 have hnd:=hr.nodup
 simp only [zch,List.nodup_append]at hnd
 have hnd2:(keys (h'++h2)).Nodup:=by
   simp only [zch,List.nodup_append]
   exact⟨hrr.nodup,hnd.2.1,fun c hc c' hc' he=>hrr.free c hc (.inr (he▸hc'))⟩
 have hin1:∀ b,2*b∈keys h1->M b\/w0.heap.size<=b:=fun b hb=>by
   have:=hr.mine (2*b) (by simp [hb]) (by omega)
   rwa [show 2*b / 2=b from by omega]at this
 refine⟨⟨hnd2,?_,?_,?_,hr.bound,fun b hb=>Nat.lt_of_lt_of_le (hr.old b hb) hrr.ext.size,?_,by rw [<- XX.part]; exact hrr.glob⟩,hmm⟩
 · intro c b hc
   rcases List.mem_append.1 hc with hc|hc
   · rw [<- XX.part]; exact hrr.blk c b hc
   · have hb:=hr.blk c b (List.mem_append.2 (.inr hc))
     refine hb.mono hmm (fun hev=>hrr.ext.keep _ (hb.lt hev) (fun hx=>?_))
     have hx:2*(c / 2)∈keys h1:=hx
     rw [show 2*(c / 2)=c from by omega]at hx
     exact hnd.2.2 c hx c (List.mem_map.2 ⟨_,hc,rfl⟩) rfl
 · intro c hc ha
   simp only [zch,List.mem_append]at hc
   rcases hc with hc|hc
   · exact hrr.free c hc (.inl ha)
   · exact hr.free c (by simp [hc]) ha
 · intro c hc hev
   simp only [zch,List.mem_append]at hc
   rcases hc with hc|hc
   · rcases hrr.mine c hc hev with hmn|hmn
     · have hmn:2*(c / 2)∈keys h1:=hmn
       rw [show 2*(c / 2)=c from by omega]at hmn
       exact hr.mine c (by simp [hmn]) hev
     · right; have:=hr.ext.size; omega
   · exact hr.mine c (by simp [hc]) hev
 · refine⟨hrr.ext.os.trans hr.ext.os,hrr.ext.tape.trans hr.ext.tape,hrr.ext.output.trans hr.ext.output,Nat.le_trans hr.ext.size hrr.ext.size,fun b hb hn'=>?_,fun b hb=>(hrr.ext.shape b (Nat.lt_of_lt_of_le hb hr.ext.size)).trans (hr.ext.shape b hb),fun o_=>Nat.le_trans (hr.ext.drawn o_) (hrr.ext.drawn o_)⟩
   refine(hrr.ext.keep b (Nat.lt_of_lt_of_le hb hr.ext.size) (fun hx=>?_)).trans (hr.ext.keep b hb hn')
   rcases hin1 b hx with hq|hq
   · exact hn' hq
   · omega
end
theorem Rel.swap {n:Nat}{A M:Nat->Prop}{w0 w:World}{fr:Nat->D}{h:zbb}{a:Act}(r:Rel n A M w0 fr h a w){b:Nat}{o o':Obj}(ho:w.heap[b]? =some o)(hn:cellsB o=false)(hn':cellsB o'=false)(hb:b<w0.heap.size)
   (hkeys:2*b ∉ keys h) (hg:b ∉ globIds):Rel n A M (w0.putObj b o') fr h a (w.putObj b o'):=by
 obtain⟨c1,c2⟩:=noncell ho hn
 have hk:∀ k,k≠b->(w.putObj b o').heap[k]? =w.heap[k]? :=fun k hk=>World.putObj_heap_other hk
 have hk0:∀ k,k≠b->(w0.putObj b o').heap[k]? =w0.heap[k]? :=fun k hk=>World.putObj_heap_other hk
 have hlt:b<w.heap.size:=(Array.getElem?_eq_some_iff.1 ho).1
 have hs1:(w.putObj b o').heap.size=w.heap.size:=by simp [World.putObj]
 have hs0:(w0.putObj b o').heap.size=w0.heap.size:=by simp [World.putObj]
 have e1:(w.putObj b o').heap[b]? =some o':=World.putObj_heap_same hlt
 have e0:(w0.putObj b o').heap[b]? =some o':=World.putObj_heap_same hb
 have hkey:∀ c,c∈keys h->c % 2=0->c / 2≠b:=fun c hc1 hc2 e=>hkeys (by rw [<- e,show 2*(c / 2)=c from by omega]; exact hc1)
 refine⟨r.size,fun i=>(r.frame i).other hk c1 c2,?_,⟨r.heap.nodup,fun c blk hm=>(r.heap.blk c blk hm).other hk c1 c2 (hkey c (List.mem_map.2 ⟨_,hm,rfl⟩)),r.heap.free,fun c hc he=>by rw [hs0]; exact r.heap.mine c hc he,r.heap.bound,by rw [hs1]; exact r.heap.old,?_,?_⟩⟩
 · obtain⟨Ds,d1,d2,d3⟩:=r.defers
   refine⟨Ds,d1,d2,fun k hk1=>?_⟩
   obtain⟨a1,a2,a3,a4⟩:=d3 k hk1
   exact⟨(hk k (by omega)).trans a1,a2,by rw [hs0]; exact a3,a4⟩
 · refine⟨r.heap.ext.os,r.heap.ext.tape,r.heap.ext.output,by rw [hs0,hs1]; exact r.heap.ext.size,fun k hk1 hk2=>?_,fun k hk1=>?_,r.heap.ext.drawn⟩
   · by_cases e:k=b
     · subst e; rw [e1,e0]
     · rw [hk k e,hk0 k e]; exact r.heap.ext.keep k (by rw [hs0]at hk1; exact hk1) hk2
   · by_cases e:k=b
     · subst e; exact zax (by rw [e1,e0])
     · rw [zax (hk k e),zax (hk0 k e)]; exact r.heap.ext.shape k (by rw [hs0]at hk1; exact hk1)
 · obtain⟨W0,g0,g1⟩:=r.heap.glob
   exact⟨W0,g0,fun g hgm=>⟨(g1 g hgm).1,by rw [hs1]; exact(g1 g hgm).2.1,(hk g (fun e=>hg (e▸hgm))).trans (g1 g hgm).2.2⟩⟩
@[reducible] def setP (fr:Nat->D):List Nat->List D->Nat->D
 |p::ps,d::ds=>setP (upd fr p d) ps ds
 |_,_=>fr
theorem setP_ok {w:World}{X:Nat->Prop}:∀(ps:List Nat) (ds:List D) (vs:List Value) (fr:Nat->D) (tmps:Array Value),VL w X ds vs->(∀ i,V w X (fr i) (tmps.getD i undef))->(∀ p∈ps,p<tmps.size)->
   (∀ i,V w X (setP fr ps ds i) (((ps.zip vs).foldl (fun t (x:Nat×Value)=>t.setIfInBounds x.1 x.2) tmps).getD i undef))/\((ps.zip vs).foldl (fun t (x:Nat×Value)=>t.setIfInBounds x.1 x.2) tmps).size=tmps.size
 | [],ds,vs,fr,tmps,_,h,_=>⟨by cases ds<;>simpa [setP]using h,by simp⟩
 |p::ps,[],vs,fr,tmps,hv,h,_=>by cases hv; exact⟨by simpa [setP]using h,by simp⟩
 | p ::ps,d::ds,vs,fr,tmps,hv,h,hp=>by
   cases hv with
   | @cons _ _ x xs h1 h2=>
     have:=setP_ok ps ds xs (upd fr p d) (tmps.setIfInBounds p x) h2 (fun i=>by
       by_cases hi:i=p
       · subst hi
         rw [upd_same]
         have:i<tmps.size:=hp i (by simp)
         simpa [Array.getElem?_setIfInBounds,this]using h1
       · rw [upd_ne _ _ hi]
         have:((tmps.setIfInBounds p x).getD i undef)=tmps.getD i undef:=by simp [Ne.symm hi]
         rw [this]; exact h i) (fun q hq=>by simpa using hp q (by simp [hq]))
     refine⟨this.1,this.2.trans (by simp)⟩
def RoundA (P:Program)(n:Nat)(fr:Nat->D)(ps:Array Tmp)(assign body:Code)(ds:List D)(h:zbb)(K:zbb->Prop):Prop:=
 (noRange assign&&noRange body&&ps.toList.all (fun p=>Nat.blt p n)&&Nat.beq ps.size ds.length)=true/\
 wpA P n assign (fun e fr1 h1=>match e with| .normal=>wpA P n body (fun e _ h2=>match e with| .normal=>K h2|_=>False) fr1 h1|_=>False) (setP fr ps.toList ds) h
section
variable {P:Program}{n:Nat}{o:Oper}{fr:Nat->D}{h:zbb}{K:D->zbb->Prop}{Q:Post}
theorem OpA.yield {m:Nat}{cl:Call}{g:Operand}{c:Nat}{fr':Nat->D}{ps:Array Tmp}{assign body:Code}{h1 hf:zbb}{K':zbb->Prop}(ho:o.op= .call cl)(hc:cl.callee= .value g)(hg:ev fr g= .fn (.yield (c / 2)) [] [])
   (hp:h.Perm (h1++((c,.loop m fr' ps assign body)::hf))) (hround:RoundA P m fr' ps assign body (cl.args.toList.map (ev fr)) h1 K') (hk:∀ h2,K' h2->K (.b true) (h2++((c,.loop m fr' ps assign body)::hf))):OpA P o fr h K:=by
 intro A M w0 ac w hr hv next Q hn ro
 obtain⟨hb,hround⟩:=hround
 simp only [Bool.and_eq_true,List.all_eq_true]at hb
 obtain⟨⟨⟨hb1,hb2⟩,hb3⟩,hb4⟩:=hb
 obtain⟨hr1,hm1⟩:=hr.perm hp
 obtain⟨hc2,fn,tmps,bD,hrec,hsz,hfr⟩:=hr1.blk c (.loop m fr' ps assign body) (by simp)
 have hargs:=evs_VL (ac:=ac) cl.args.toList (fun x hx=>hv x (by simp [ho,Op.operands,Call.operands,hc]; exact .inr (by simpa using hx)))
 have hargs1:=hargs.mono hm1
 have hgv:=hv g (by simp [ho,Op.operands,Call.operands,hc])
 rw [hg]at hgv
 have hlen:(cl.args.map ac.eval).size=ps.size:=by
   rw [Nat.eq_of_beq_eq_true hb4]; simp
 have hrun:(execOp ac.eval o).run P w= .ok (.round (c / 2) fn ((ps.zip (cl.args.map ac.eval)).foldl (fun t (x:Nat×Value)=>t.setIfInBounds x.1 x.2) tmps) assign body) w:=by
   generalize hu:ac.eval g=u at hgv
   cases hgv with
   | @fn _ _ _ fv cv h3 h4=>
     cases h3; cases h4
     have hy:=run_yield (P:=P) (args:=cl.args.map ac.eval) hrec hlen
     simp only [execOp,ho,resolve,hc,hu,Deferred.ofValue,Sem.run_bind,Sem.run_pure,Result.andThen_ok,invoke]
     simpa using hy
 refine wd_op hrun (by simp) ⟨fun h=>(by cases h),roundIn_of_wpIn (F:=Wd ro) trivial ?_⟩
 show assign.wpIn (Wd (some (c / 2))) 0 P _ _ w
 have hkeys1:2*(c / 2) ∉ keys h1:=fun hx=>by
   have hnd:=hr1.nodup
   simp only [zch,List.nodup_append]at hnd
   exact hnd.2.2 _ hx c (by simp) (by omega)
 have hglob:c / 2 ∉ globIds:=fun hx=>by
   obtain⟨W0,g0,g1⟩:=hr1.glob
   exact(g1 _ hx).1 (.inr (by rw [show 2*(c / 2)=c from by omega]; simp))
 have hltB:c / 2<w.heap.size:=(Array.getElem?_eq_some_iff.1 hrec).1
 have hpart:=hr1.part
 have hfr1:=setP_ok ps.toList _ _ fr' tmps hargs1 hfr (fun p hp=>by rw [hsz]; simpa [Nat.blt_eq]using hb3 p hp)
 have ezip:(ps.zip (cl.args.map ac.eval)).foldl (fun t (x:Nat×Value)=>t.setIfInBounds x.1 x.2) tmps=(ps.toList.zip (cl.args.toList.map ac.eval)).foldl (fun t (x:Nat×Value)=>t.setIfInBounds x.1 x.2) tmps:=by
   rw [<- Array.foldl_toList]; simp
 rw [ezip]
 generalize hT:(ps.toList.zip (cl.args.toList.map ac.eval)).foldl (fun t (x:Nat×Value)=>t.setIfInBounds x.1 x.2) tmps=T at hfr1
 have r0:Rel m (fun k=>A k\/k∈keys ((c,.loop m fr' ps assign body)::hf)) (fun b=>2*b∈keys h1) w (setP fr' ps.toList (cl.args.toList.map (ev fr))) h1 {tmps:=T,defers:= []} w:=
   ⟨hfr1.2.trans hsz,fun i=>by rw [XX.part]; exact hfr1.1 i,Marks.nil _ _ _,hpart⟩
 have keep:∀ {v v':World} {fr2:Nat->D} {h2:zbb} {a2:Act} {ob:Obj},v.heap.size=w.heap.size->v.heap[c / 2]? =some ob->Rel m (fun k=>A k\/k∈keys ((c,.loop m fr' ps assign body)::hf)) (fun b=>2*b∈keys h1) v fr2 h2 a2 v'->v'.heap[c / 2]? =some ob/\2*(c / 2) ∉ keys h2:=by
   intro v v' fr2 h2 a2 ob e1 e2 r
   exact⟨(r.heap.ext.keep _ (by omega) hkeys1).trans e2,fun hx=>r.heap.free _ hx (.inr (by simp; left; omega))⟩
 refine wpIn_mono (hround _ _ w _ w r0 (some (c / 2)) (.inr hb1)) ?_
 rintro e a1 w1 ⟨fr1,h1',hq,r1⟩
 cases e with
 | normal=>
   obtain⟨k1,k2⟩:=keep rfl hrec r1
   refine⟨_,run_beginRound k1 rfl,?_⟩
   have r2:=r1.swap (o':= .loop {state:= .busy,pending:=none,fn:=fn,tmps:=tmps,params:=ps,assign:=assign,body:=body,defers:=bD}) k1 rfl rfl hltB k2 hglob
   refine wpIn_mono (hq _ _ _ _ _ r2 (some (c / 2)) (.inr hb2)) ?_
   rintro e a3 w3 ⟨fr2,h2,hq2,r3⟩
   cases e with
   | normal=>
     obtain⟨k3,k4⟩:=keep (by simp [World.putObj]) (World.putObj_heap_same hltB) r3
     refine⟨_,_,run_endRound none k3,?_⟩
     have r4:=r3.swap (o':= .loop {state:= .ready,pending:=none,fn:=fn,tmps:=tmps,params:=ps,assign:=assign,body:=body,defers:=bD}) k3 rfl rfl (by simp [World.putObj]; exact hltB) k4 hglob
     have ew:((w.putObj (c / 2) (.loop {state:= .busy,pending:=none,fn:=fn,tmps:=tmps,params:=ps,assign:=assign,body:=body,defers:=bD})).putObj (c / 2) (.loop {state:= .ready,pending:=none,fn:=fn,tmps:=tmps,params:=ps,assign:=assign,body:=body,defers:=bD}))=w:=by
       obtain⟨g1,g2⟩:=Array.getElem?_eq_some_iff.1 hrec
       simp only [World.putObj]
       rw [Array.setIfInBounds_setIfInBounds]
       rw [<- g2]
       simp [Array.setIfInBounds,g1]
     rw [ew]at r4
     obtain⟨f1,f2⟩:=hr1.whole r4.heap
     exact hn _ _ _ _ (hk h2 hq2) f1 (hm1.trans f2) (.v _)
   |_=>exact hq2.elim
 |_=>exact hq.elim
theorem wpA_rangeFunc {f:Operand}{g:Nat}{cs:List D}{ps:Array Tmp}{assign body:Code}{I:zbb->Prop}(hf:ev fr f= .fn (.func g) [] cs)(he:entersB P g=true)
   (hit:∀ c,CallH P g (.fn (.yield (c / 2)) [] []::cs) ((c,.loop n fr ps assign body)::h) (fun _ h'=>∃ h1,h'.Perm ((c,.loop n fr ps assign body)::h1)/\I h1)) (hq:∀ h1,I h1->∃ h0,List.Sublist h0 h1/\Q .normal fr h0):wpA P n (.rangeFunc f ps assign body) Q fr h:=by
 intro A M w0 a w r ro hro
 obtain rfl:ro=none:=hro.resolve_right (by simp [noRange])
 refine wpIn_rangeFunc (fun fn hfn=>?_)
 obtain⟨q1,m1⟩:=r.heap.allocOut (.deferred (some []))
 obtain⟨w1,hw1⟩:∃ w1,w.alloc (.deferred (some []))=w1:=⟨_,rfl⟩
 have hs1:w1.heap.size=w.heap.size+1:=by rw [<- hw1]; simp
 rw [hw1]at q1 m1
 obtain⟨ob,hob⟩:∃ ob:Obj,ob= .loop {state:= .ready,pending:=none,fn:=fn,tmps:=a.tmps,params:=ps,assign:=assign,body:=body,defers:=w.heap.size}:=⟨_,rfl⟩
 have m2:Mono w1 (XX A h) (w1.alloc ob) (XX A ((2*w1.heap.size,.loop n fr ps assign body)::h)):=⟨by simp,fun b hb _=>get_alloc w1 _ b hb,fun b hb=>zax (get_alloc w1 _ b hb),fun k hk hx=>by
   rcases hx with hx|hx
   · exact .inl hx
   · simp at hx; rcases hx with hx|hx
     · omega
     · exact .inr hx⟩
 have e2:2*w1.heap.size / 2=w1.heap.size:=by omega
 obtain⟨hnew,q2⟩:=q1.allocB ob (.loop n fr ps assign body) ⟨by omega,fn,a.tmps,w.heap.size,by rw [e2,<-hob]; exact get_alloc_new w1 ob,r.size,fun i=>((r.frame i).mono m1).mono m2⟩
 have hfv:=r.ev f
 rw [hf]at hfv
 generalize hu:a.eval f=u at hfv
 cases hfv with
 | @fn _ _ _ fv lb h3 h4=>
 cases h3
 refine⟨w.heap.size+1,[{target:= .collected w.heap.size,args:= #[]}],w1.alloc ob,{target:= .fn (.func g) lb.toArray,args:= #[.func (.yield (w.heap.size+1)) #[] #[]]},w1.alloc ob,g,
   #[.func (.yield (w.heap.size+1)) #[] #[]]++lb.toArray,w1.alloc ob,?_,?_,fun _ _=>trivial,?_,fun h=>(by cases h),?_⟩
 · rw [<- hw1,hob]; exact run_enterLoop_outer _ _ _ _ _
 · simp only [resolve,hu]
   simp [go_sem]
 · simp [invoke,run_enter he]
 · refine wd_calls ?_
   have hcall:=hit (2*w1.heap.size) A (w1.alloc ob) (.func (.yield (w.heap.size+1)) #[] #[]::lb) q2.base (.cons (by rw [e2,hs1]; exact .fn (vs:= []) (us:= []) .nil .nil) ((h4.mono m1).mono m2))
   have ea:(#[.func (.yield (w.heap.size+1)) #[] #[]]++lb.toArray:Array Value)=(.func (.yield (w.heap.size+1)) #[] #[]::lb).toArray:=by simp
   rw [ea]
   refine hcall.mono ?_
   rintro e w' ⟨v,d,h',rfl,⟨h1,hp,hI⟩,q3,m3,hvv⟩
   have q4:=q2.join q3
   obtain⟨q5,m5⟩:=q4.perm hp
   obtain⟨_,fn',tmps',D',hrec,_,_⟩:=q5.blk _ _ (List.mem_cons_self ..)
   rw [e2,hs1]at hrec
   refine⟨none,_,run_endLoop hrec (by simp),?_⟩
   have hlt:w.heap.size+1<w'.heap.size:=(Array.getElem?_eq_some_iff.1 hrec).1
   have e3:2*w1.heap.size / 2=w.heap.size+1:=by omega
   obtain⟨q6,m6⟩:=q5.setHd (b':= .raw (.loop {state:= .exhausted,pending:=none,fn:=fn',tmps:=tmps',params:=ps,assign:=assign,body:=body,defers:=D'})) (w':=w'.putObj (w.heap.size+1) (.loop {state:= .exhausted,pending:=none,fn:=fn',tmps:=tmps',params:=ps,assign:=assign,body:=body,defers:=D'})) (by omega) (by simp [World.putObj])
     (fun k hk=>World.putObj_heap_other (by omega)) (by
       rw [e3]; unfold World.shape?; rw [World.putObj_heap_same hlt,hrec]) rfl rfl rfl rfl ⟨by omega,by rw [e3]; exact World.putObj_heap_same hlt⟩
   obtain⟨q7,m7⟩:=q6.tail
   have mm:=((((m1.trans m2).trans m3).trans m5).trans m6).trans m7
   have mm1:=(((m2.trans m3).trans m5).trans m6).trans m7
   obtain⟨h0,hsub,hq0⟩:=hq h1 hI
   refine⟨fr,h0,hq0,Rel.sub hsub ⟨r.size,fun i=>(r.frame i).mono mm,?_,q7⟩⟩
   obtain⟨Ds,d1,d2,d3⟩:=r.defers
   refine Marks.mono mm1 ⟨w.heap.size::Ds,by simp [d1],List.nodup_cons.2 ⟨fun hx=>?_,d2⟩,fun b hb=>?_⟩
   · have:=(Array.getElem?_eq_some_iff.1 (d3 _ hx).1).1; omega
   · rcases List.mem_cons.1 hb with rfl|hb
     · refine⟨by rw [<- hw1]; exact get_alloc_new w _,fun hx=>?_,r.heap.ext.size,fun hx=>?_⟩
       · have:=r.heap.xlt hx; omega
       · obtain⟨W0,g0,g1⟩:=r.heap.glob
         have:=(g1 _ hx).2.1; omega
     · obtain⟨a1,a2,a3,a4⟩:=d3 b hb
       have hlt:b<w.heap.size:=(Array.getElem?_eq_some_iff.1 a1).1
       exact⟨(m1.keep b hlt a2).trans a1,a2,a3,a4⟩
end
end Go.Lic
set_option linter.all false
namespace Go.Lic
variable [Fl]
theorem pull1 {α:Type}{a b:α}{l:List α}:(a::b::l).Perm (b::a::l):= .swap _ _ _
theorem pull2 {α:Type}{a b c:α}{l:List α}:(a::b::c::l).Perm (c::a::b::l):=(pull1.cons a).trans pull1
theorem pull3 {α:Type}{a b c d:α}{l:List α}:(a::b::c::d::l).Perm (d::a::b::c::l):=(pull2.cons a).trans pull1
theorem pull4 {α:Type}{a b c d e:α}{l:List α}:(a::b::c::d::e::l).Perm (e::a::b::c::d::l):=(pull3.cons a).trans pull1
theorem pull5 {α:Type}{a b c d e f:α}{l:List α}:(a::b::c::d::e::f::l).Perm (f::a::b::c::d::e::l):=(pull4.cons a).trans pull1
theorem pull6 {α:Type}{a b c d e f g:α}{l:List α}:(a::b::c::d::e::f::g::l).Perm (g::a::b::c::d::e::f::l):=(pull5.cons a).trans pull1
theorem CallH.mono {P:Program}{f:Nat}{ds:List D}{h:zbb}{K K':D->zbb->Prop}(hc:CallH P f ds h K)(hk:∀ d h',K d h'->K' d h'):CallH P f ds h K':=by
 intro A w vs hr hv
 refine(hc A w vs hr hv).mono ?_
 rintro e w' ⟨v,d,h',rfl,hK,q⟩
 exact⟨v,d,h',rfl,hk d h' hK,q⟩
theorem CallH.shrink {P:Program}{f:Nat}{ds:List D}{h:zbb}{K:D->zbb->Prop}(hc:CallH P f ds h (fun d h'=>∃ h1 h0:zbb,h'.Perm h1/\List.Sublist h0 h1/\K d h0)):CallH P f ds h K:=by
 intro A w vs hr hv
 refine(hc A w vs hr hv).mono ?_
 rintro e w' ⟨v,d,h',rfl,⟨h1,h0,hp,hs,hk⟩,hrr,hm,hvv⟩
 obtain⟨r1,m1⟩:=hrr.perm hp
 obtain⟨r2,m2⟩:=r1.sub hs
 exact⟨v,d,h0,rfl,hk,r2,(hm.trans m1).trans m2,hvv.mono (m1.trans m2)⟩
theorem CallH.of_bodyP {P:Program}{f:Nat}{fn:Func}{c:Code}{n:Nat}{ds:List D}{h:zbb}{K:D->zbb->Prop}(hf:P.funcs[f]? =some fn)(hb:fn.body=some c)(hn:fn.ntmps=n)(hd:Nat.ble ds.length n=true)
   (hh:wpA P n c (RetA P fn (fun d h'=>∃ h1 h0:zbb,h'.Perm h1/\List.Sublist h0 h1/\K d h0)) (frOf ds) h):CallH P f ds h K:=
 (CallH.of_body hf hb hn hd hh).shrink
section
variable {P:Program}{n:Nat}{ops:Array Oper}{l:List Oper}{Q:Post}{fr:Nat->D}{h h':zbb}
theorem wpL_perm (hp:h.Perm h')(hh:wpL P n ops l Q fr h'):wpL P n ops l Q fr h:=
 fun A M w0 a w r=>by
   obtain⟨r1,m1⟩:=r.heap.perm hp
   exact hh A M w0 a w (r.turn r1 m1)
theorem wpL_keep {h1 h0:zbb}(hp:h.Perm h1)(hs:List.Sublist h0 h1)(hh:wpL P n ops l Q fr h0):wpL P n ops l Q fr h:=
 fun A M w0 a w r=>by
   obtain⟨r1,m1⟩:=r.heap.perm hp
   exact hh A M w0 a w ((r.turn r1 m1).sub hs)
theorem Repl.same {c:Nat}{b:Blk}(hr:Repl c b c b h h'):h'=h:=by
 obtain⟨h1,h2,e1,e2⟩:=hr.split
 rw [e1,e2]
theorem wpL_widen {T:Type} [Inhabited T]{enc:T->D}{c sz:Nat}{pre post:List D}{xs:List T}{a b:Int}(hb:inS a b xs.length)
   (hr:Repl c (.cells sz (zas enc (pre++(xs.take a.toNat).map enc) (zbc xs a b) ((xs.drop b.toNat).map enc++post))) c (.cells sz (zas enc pre xs post)) h h') (hh:wpL P n ops l Q fr h'):wpL P n ops l Q fr h:=by
 rw [<- winL_cut hb]at hr
 rw [hr.same]at hh; exact hh
end
section
variable {P:Program}{o:Oper}{fr:Nat->D}{h:zbb}{K:D->zbb->Prop}{T:Type} [Inhabited T]{enc:T->D}
theorem OpA.appendNW {t e:TypeId}{sz bytes:Nat}{agg:Bool}{cl:Call}{s x:Operand}{ys:List T}(ho:o.op= .call cl)(hc:cl.callee= .builtin .append)(ha:cl.args= #[s,x])(hty:cl.argTypes= #[t,t])
   (ht:TS P t e sz bytes agg) (hs:ev fr s= .v (.slice none 0 0)) (hx:SrcV enc h sz (ev fr x) ys)
   (hb:ys.length*bytes<=140737488355328/\ys.length<=9223372036854775807) (hk:∀ c' pre',K (.own c' sz pre'.length ys.length) ((c',.cells sz (zas enc pre' ys []))::h)):OpA P o fr h K:=
 .append_nil ho hc ha hty ht hs hx.is (by simpa using hb.1) (by simpa using hb.2) (fun c' pre'=>by
   have:=hk c' pre'
   rw [List.length_map]
   rw [zas,List.append_nil]at this
   exact this)
end
end Go.Lic
set_option linter.all false
namespace Go.Lic
variable [Fl]
def SeqC (P:Program)(g:Nat)(cs:List D)(hb:zbb)(n0:Nat)(arg:Nat->List D):Prop:=
 ∀ (c n:Nat) (fr:Nat->D) (ps:Array Tmp) (assign body:Code) (I:Nat->zbb->Prop),(∀ j h,j<n0->I j h->RoundA P n fr ps assign body (arg j) h (I (j+1)))->∀ h0,I 0 h0->
   CallH P g (.fn (.yield (c / 2)) [] []::cs) ((c,.loop n fr ps assign body)::(hb++h0)) (fun _ h'=>∃ h1 h2,h'.Perm ((c,.loop n fr ps assign body)::h1)/\List.Sublist h2 h1/\I n0 h2)
abbrev seqArg {T:Type} [Inhabited T](enc:T->D)(xs:List T)(j:Nat):List D:= [enc (gi xs (j:Int))]
theorem wpA_seqs {P:Program}{n:Nat}{fr:Nat->D}{h hb hr:zbb}{Q:Post}{T S G:Type} [Inhabited T]{enc:T->D}{xs:List T}{L:(S×Int->Prop)->S×Int->Prop}{s0:S}{f:Operand}{g:Nat}{cs:List D}{ps:Array Tmp}{assign body:Code}(g0:G)(H:G->S->zbb)(hf:ev fr f= .fn (.func g) [] cs)
   (he:entersB P g=true) (hit:SeqC P g cs hb xs.length (seqArg enc xs)) (hl:gfp L (s0,0)) (hp:h.Perm (hb++hr)) (hh:List.Sublist (H g0 s0) hr)
   (hnr:(noRange assign&&noRange body&&ps.toList.all (fun p=>Nat.blt p n)&&Nat.beq ps.size 1)=true)
   (round:∀(again:S×Int->Prop) g s i,0<=i/\i<(xs.length:Int)->L again (s,i)->wpA P n assign (fun e fr1 h1=>match e with| .normal=>wpA P n body (fun e _ h2=>match e with| .normal=>∃ g s',again (s',i+1)/\List.Sublist (H g s') h2|_=>False) fr1 h1|_=>False) (setP fr ps.toList [enc (gi xs i)]) (H g s))
   (hq:∀(again:S×Int->Prop) g s i,¬(0<=i/\i<(xs.length:Int))->L again (s,i)->Q .normal fr (H g s)):wpA P n (.rangeFunc f ps assign body) Q fr h:=by
 obtain⟨J,j0,hJ⟩:=hl
 refine wpA_perm hp ?_
 refine wpA_rangeFunc (I:=fun h1=>∃ g s,J (s,(xs.length:Int))/\List.Sublist (H g s) h1) hf he (fun c=>?_) ?_
 · refine CallH.mono (hit c n fr ps assign body (fun j h1=>∃ g s,J (s,(j:Int))/\List.Sublist (H g s) h1) ?_ hr ⟨g0,s0,by simpa using j0,hh⟩) (fun _ h' ⟨h1,h2,q1,q2,g,s,q3,q4⟩=>⟨h1,q1,g,s,q3,q4.trans q2⟩)
   rintro j h1 hj ⟨g,s,hs,hsub⟩
   refine⟨hnr,wpA_sub hsub (wpA_mono (round J g s _ ⟨by omega,by omega⟩ (hJ _ hs)) ?_)⟩
   intro e fr1 h1 q
   cases e with
   | normal=>
     refine wpA_mono q ?_
     intro e fr2 h2 q
     cases e with
     | normal=>
       obtain⟨g',s',k1,k2⟩:=q
       exact⟨g',s',by rw [show((j+1:Nat):Int)=(j:Int)+1 by omega]; exact k1,k2⟩
     |_=>exact q.elim
   |_=>exact q.elim
 · rintro h1 ⟨g,s,hs,hsub⟩
   exact⟨H g s,hsub,hq J g s _ (by omega) (hJ _ hs)⟩
abbrev NoGo (Q:Post):Post
 | .goto _,_,_=>False
 |e,fr,h=>Q e fr h
theorem stepR_scope {P:Program}{b:Frame}{a:Act}{k:List Item}{cs:List Frame}{w:World}{c:Code}:step P (lone (b.atR a (.code (.scope c)::k)) cs w)= .next (lone (b.atR a (.code c:: .inScope c::k)) cs w):=
 step_lone_go (by simp [stepG,stepG.exec,Frame.atR])
theorem stepR_inScope {P:Program}{b:Frame}{a:Act}{k:List Item}{cs:List Frame}{w:World}{c:Code}:step P (lone (b.atR a (.inScope c::k)) cs w)= .next (lone (b.atR a k) cs w):=
 step_lone_go (by simp [stepG,stepG.exec,Frame.atR])
theorem wpA_scope {P:Program}{n:Nat}{fr:Nat->D}{h:zbb}{Q:Post}{c:Code}(hh:wpA P n c (NoGo Q) fr h):wpA P n (.scope c) Q fr h:=by
 intro A M w0 a w r ro hro b k cs hbr hb hr
 have h0:(lone (b.atR a (.code (.scope c)::k)) cs w).fenced P (Wd ro):=fenced_calm hb hr rfl
 obtain⟨e,a₁,w₁,⟨fr1,h1,hq,r1⟩,harr⟩:=hh A M w0 a w r ro hro b (.inScope c::k) cs hbr hb hr
 cases e with
 |normal=>exact⟨.normal,a₁,w₁,⟨fr1,h1,hq,r1⟩,.head h0 stepR_scope (StepsIn.trans harr (.one (fenced_calm hb hr rfl) stepR_inScope))⟩
 |exit id=>exact⟨.exit id,a₁,w₁,⟨fr1,h1,hq,r1⟩,fun k' hk=> .head h0 stepR_scope (harr.1 k' (by simp [exitTo,hk])),fun hr' hk=>let⟨k₁,h1,h2⟩:=harr.2 hr' (by simpa [exitTo]using hk); ⟨k₁,h1,.head h0 stepR_scope h2⟩⟩
 |goto l=>exact hq.elim
 |ret=>exact⟨_,a₁,w₁,⟨fr1,h1,hq,r1⟩,.of_steps (.one h0 stepR_scope) harr⟩
 |panic ch=>exact⟨_,a₁,w₁,⟨fr1,h1,hq,r1⟩,.of_steps (.one h0 stepR_scope) harr⟩
 |outgrown=>exact⟨_,a₁,w₁,⟨fr1,h1,hq,r1⟩,.of_steps (.one h0 stepR_scope) harr⟩
end Go.Lic
set_option linter.all false
namespace Go.Lic
variable [Fl]
section
variable {P:Program}{o:Oper}{fr:Nat->D}{h:zbb}{K:D->zbb->Prop}
theorem OpA.sliceClip {t et:TypeId}{bytes:Nat}{agg:Bool}{x hi mx:Operand}{sz:Nat}{ds:List D}(ho:o.op= .slice t x none (some hi) (some mx))(ht:TS P t et sz bytes agg)(hx:ev fr x= .list sz ds)
   (hh:ev fr hi= .i ds.length) (hm:ev fr mx= .i ds.length) (hk:K (.clip sz ds) h):OpA P o fr h K:=
 .of_quiet (fun A M w0 ac w _ hv=>by
   have h3:=hv x (by simp [ho,Op.operands])
   have h4:=hv hi (by simp [ho,Op.operands])
   have h5:=hv mx (by simp [ho,Op.operands])
   rw [hx]at h3; rw [hh]at h4; rw [hm]at h5
   generalize hu:ac.eval x=u at h3
   generalize hu2:ac.eval hi=u2 at h4
   generalize hu3:ac.eval mx=u3 at h5
   cases h4; cases h5
   cases h3 with
   | @list _ _ cs a b oo cap hok hvl ha hlie hc=>
     have hb:∀ w,(Instr.sliceBounds true ds.length cap none (some (.int .i64 ds.length)) (some (.int .i64 ds.length))).run P w= .ok (0,ds.length,ds.length) w:=fun w=>by
       simp [Instr.sliceBounds,run_sliceBound' (show(0:Int)<=(ds.length:Int) by omega) (show((ds.length:Int)).toNat<=cap by omega),run_sliceBound' (show(0:Int)<=(ds.length:Int) by omega) (show((ds.length:Int)).toNat<=ds.length by omega)]
     refine⟨.slice (if ds.length=0 then a else a.map (·.add (0*sz))) (ds.length-0) (ds.length-0),?_,?_⟩
     · simp [execOp,ho,hu,hu2,hu3,Instr.sliceAt,Instr.slice,run_underlying ht.desc,hb,ht.elem.size]
     · have:(if ds.length=0 then a else a.map (·.add (0*sz)))=a:=by
         split
         · rfl
         · cases a<;>simp [Addr.add]
       rw [this,Nat.sub_zero]
       exact .clip hok hvl ha hlie) hk
theorem OpA.appendClip {T:Type} [Inhabited T]{enc:T->D}{t e:TypeId}{sz bytes:Nat}{agg:Bool}{cl:Call}{s x:Operand}{xs ys:List T}(ho:o.op= .call cl)(hc:cl.callee= .builtin .append)(ha:cl.args= #[s,x])(hty:cl.argTypes= #[t,t])
   (ht:TS P t e sz bytes agg) (hs:ev fr s= .clip sz (xs.map enc)) (hx:SrcV enc h sz (ev fr x) ys) (hb:((xs.length+ys.length)*bytes<=140737488355328/\xs.length+ys.length<=9223372036854775807)/\0<ys.length)
   (hk:∀ c' pre',K (.own c' sz (List.length pre') (xs++ys).length) ((c',.cells sz (zas enc pre' (xs++ys) []))::h)):OpA P o fr h K:=
 .of_run fun A M w0 ac w hr hv=>by
   have h1:=hv s (zcg ho hc ha).1
   have h2:=hv x (zcg ho hc ha).2
   rw [hs]at h1
   obtain⟨⟨hbytes,hmax⟩,hpos⟩:=hb
   obtain⟨xa,xcap,cs,hxe,hxcap,hdok,hdv,hcs⟩:=hx.is.val hr h2
   rw [List.length_map]at hxe hxcap
   have hcl:cs.length=ys.length*sz:=by rw [<- hdv.length,zbq _ hdok,List.length_map]
   generalize hu:ac.eval s=u at h1
   generalize hu2:ac.eval x=u2 at hxe
   subst hxe
   generalize hL:xs.map enc=L at*
   have hLl:L.length=xs.length:=by rw [<- hL,List.length_map]
   cases h1 with
   | @clip _ _ mcs a b oo hmok hmv hma hml=>
     have hmc:mcs= []\/∃ b oo,a=some ⟨b,oo,none⟩/\∀ j c,mcs[j]? =some c->w.cell? ⟨b,oo+j,none⟩=some c:=by
       rcases hml with hl|⟨_,hl⟩
       · exact .inl hl
       · by_cases hne:mcs= []
         · exact .inl hne
         · exact .inr ⟨b,oo,hma hne,hl⟩
     have hmcl:mcs.length=xs.length*sz:=by rw [<- hmv.length,zbq _ hmok,hLl]
     rw [hLl]at hu
     obtain⟨z,hz,hzs,hzi⟩:=ht.zeroRun
     obtain⟨bi,hbi,hbb⟩:=Option.map_eq_some_iff.1 ht.bytes
     have hroom:¬xs.length+ys.length<=xs.length:=by omega
     have hgrow:=growslice_fits (need:=xs.length+ys.length) (old:=xs.length) (by omega) hbytes
     have hnm:¬((xs.length+ys.length:Nat):Int)>IntKind.i64.max:=by rw [IntKind.max_i64]; omega
     have hng:¬(Builtin.nextslicecap (xs.length+ys.length) xs.length*bytes>2 ^ 48):=by omega
     obtain⟨ncap,hncap,hncapge⟩:∃ ncap,(Question.appendCap (xs.length+ys.length) xs.length e).cut (w.tape w.drawn (.appendCap (xs.length+ys.length) xs.length e))=ncap/\xs.length+ys.length<=ncap:=⟨_,rfl,by simp [Question.cut]⟩
     have hinfo:(typeInfo e).run P w= .ok bi w:=by simp [typeInfo,hbi]
     have hinfo':(typeInfo e).run P w.drew= .ok bi w.drew:=by simp [typeInfo,hbi]
     obtain⟨r1,hm⟩:=hr.quiet (w':=w.drew) rfl rfl rfl rfl (Nat.le_succ _)
     obtain⟨_,q3,m4⟩:=r1.alloc (sz:=sz) (es:=L++ys.map enc) (cs:=mcs++cs) (mcs.toArray++cs.toArray++Builtin.zeroCells z.cells (ncap-(xs.length+ys.length))) e (by
         intro x hx
         rcases List.mem_append.1 hx with hx|hx
         · exact hmok x hx
         · exact hdok x hx) (by
         rw [zcc]
         exact(hmv.append hdv).mono hm) (by simp)
     have hk':=hk (2*w.heap.size) []
     have hw:zas enc ([]:List D) (xs++ys) []=L++ys.map enc:=by simp [zas,hL]
     rw [hw]at hk'
     refine⟨.slice (some ⟨w.heap.size,0,none⟩) (xs.length+ys.length) ncap,_,_,_,?_,hk',q3,hm.trans m4,?_⟩
     · have hz':=hz w.drew
       have hfd:(Builtin.firstCells sz ys.length (.slice xa ys.length xcap)).run P w.drew= .ok cs.toArray w.drew:=run_firstCells' (P:=P) (w:=w.drew) hcl hcs
       have hfm:(Builtin.firstCells sz xs.length (.slice a xs.length xs.length)).run P w.drew= .ok mcs.toArray w.drew:=run_firstCells' (P:=P) (w:=w.drew) hmcl hmc
       simp only [execOp,ho,resolve,hc,Sem.run_bind,Sem.run_pure,Result.andThen_ok,invoke,builtin,hty,ha,List.map_toArray,List.map_cons,List.map_nil,hu,hu2]
       simp only [Builtin.append_,Array.getElem?_eq_getElem,List.size_toArray,List.length_cons,List.length_nil,Nat.zero_add,Nat.reduceLT,Nat.reduceAdd,List.getElem_toArray,List.getElem_cons_zero,List.getElem_cons_succ,
         Sem.run_bind,run_underlying ht.desc,Result.andThen_ok,ht.elem.size,Sem.run_pure,Bool.false_eq_true,if_false,Builtin.lenOf,hroom,hinfo,hinfo',hbb,hnm,false_and,hng,run_choose,Question.forced,World.drew_eq,hncap,run_askRoom,hfm,hfd,hz',
         Bool.not_false,if_true,newRow,run_newObj,World.alloc_eq,Sem.run_ite]
       rfl
     · rw [List.length_append]
       refine .own hncapge (.inl ⟨by omega,by simp,e,(mcs.toArray++cs.toArray++Builtin.zeroCells z.cells (ncap-(xs.length+ys.length))).size,?_,?_⟩)
       · rw [show 2*w.heap.size / 2=w.drew.heap.size from by show 2*w.heap.size / 2=w.heap.size; omega]; exact shape_alloc_new _ _ _
       · simp only [Array.size_append,List.size_toArray,hmcl,hcl,size_zeroCells,hzs,List.length_nil,Nat.zero_add]
         rw [<- Nat.add_mul,<-Nat.add_mul]
         apply Nat.mul_le_mul_right
         omega
end
end Go.Lic
set_option linter.all false
namespace Go.Lic
variable [Fl]
def lv (n k:Nat):Array Bool:=((List.range n).map fun i=>k.testBit i).toArray
section
variable {P:Program}{n:Nat}{ops:Array Oper}{Q:Post}{fr:Nat->D}{h:zbb}
def wpS (P:Program)(n:Nat)(ops:Array Oper)(Q:Post)(fuel:Nat)(li:Array Bool)(fr:Nat->D)(h:zbb):Prop:=
 ∀ A M w0 a w,Rel n A M w0 fr h a w->∀ ro,wpAnyIn (Wd ro) 0 P .any ops (Conc n A M w0 Q) fuel li a w
theorem wpA_states {id:Nat}(hm:P.follows .mixedOrders=true)(hh:∀ W:Nat->Array Bool->(Nat->D)->zbb->Prop,W=wpS P n ops Q->W ops.size (Array.replicate ops.size false) fr h):wpA P n (.region id ops true) Q fr h:=by
 intro A M w0 a0 w1 r0 ro hro
 refine wpIn_region_any hm ?_
 obtain⟨q1,q2⟩:=r0.heap.quiet (w':=w1.drew) rfl rfl rfl rfl (Nat.le_succ _)
 exact hh _ rfl A M w0 a0 w1.drew (r0.turn q1 q2) ro
def nextS (P:Program)(n:Nat)(ops:Array Oper)(Q:Post)(fuel:Nat)(li:Array Bool)(fr:Nat->D)(h:zbb):List Nat->Prop
 | []=>True
 |i::l=>(∀ A M w0 a w,Rel n A M w0 fr h a w->∀ ro,wpOpIn (Wd ro) 0 P ops (Conc n A M w0 Q) i (fun a' w'=>wpAnyIn (Wd ro) 0 P .any ops (Conc n A M w0 Q) fuel (li.setIfInBounds i true) a' w') a w)/\nextS P n ops Q fuel li fr h l
theorem wpS_step {fuel:Nat}{li:Array Bool}{rs:List Nat}(hr:Region.ready .any ops li=rs)(hne:rs.isEmpty=false)(hall:nextS P n ops Q fuel li fr h rs):wpS P n ops Q (fuel+1) li fr h:=by
 intro A M w0 a w r ro
 have:∀(l:List Nat),nextS P n ops Q fuel li fr h l->∀ i∈l,wpOpIn (Wd ro) 0 P ops (Conc n A M w0 Q) i (fun a' w'=>wpAnyIn (Wd ro) 0 P .any ops (Conc n A M w0 Q) fuel (li.setIfInBounds i true) a' w') a w:=by
   intro l
   induction l with
   |nil=>intro _ i hi; cases hi
   | cons j l ih=>
     intro hl i hi
     rcases List.mem_cons.1 hi with rfl|hi
     · exact hl.1 A M w0 a w r ro
     · exact ih hl.2 i hi
 refine⟨fun h0=>?_,fun i hi=>this rs hall i (hr▸hi)⟩
 rw [hr]at h0
 rw [h0]at hne; simp at hne
theorem wpS_op {fuel i d:Nat}{li li':Array Bool}{o:Oper}(hi:ops[i]? =some o)(hg:o.guard=none)(hd:o.dst=some d)(hn:Nat.blt d n=true)(hl:li.setIfInBounds i true=li')
   (hh:OpA P o fr h fun x h'=>wpS P n ops Q fuel li' (upd fr d x) h'):∀ A M w0 a w,Rel n A M w0 fr h a w->∀ ro,wpOpIn (Wd ro) 0 P ops (Conc n A M w0 Q) i (fun a' w'=>wpAnyIn (Wd ro) 0 P .any ops (Conc n A M w0 Q) fuel (li.setIfInBounds i true) a' w') a w:=by
 intro A M w0 a w r ro
 unfold wpOpIn
 simp only [hi]
 rw [if_pos (by simp [Region.wanted,hg])]
 refine hh A M w0 a w r.heap (fun x _=>r.ev x) _ _ ?_ ro
 intro v w' x h' hk hr hm hv
 rw [hl]
 exact hk A M w0 _ w' (by rw [hd]; exact r.put hr hm (by simpa [Nat.blt_eq]using hn) hv) ro
theorem wpS_eff {fuel i:Nat}{li li':Array Bool}{o:Oper}(hi:ops[i]? =some o)(hg:o.guard=none)(hd:o.dst=none)(hl:li.setIfInBounds i true=li')
   (hh:OpA P o fr h fun x h'=>wpS P n ops Q fuel li' fr h'):∀ A M w0 a w,Rel n A M w0 fr h a w->∀ ro,wpOpIn (Wd ro) 0 P ops (Conc n A M w0 Q) i (fun a' w'=>wpAnyIn (Wd ro) 0 P .any ops (Conc n A M w0 Q) fuel (li.setIfInBounds i true) a' w') a w:=by
 intro A M w0 a w r ro
 unfold wpOpIn
 simp only [hi]
 rw [if_pos (by simp [Region.wanted,hg])]
 refine hh A M w0 a w r.heap (fun x _=>r.ev x) _ _ ?_ ro
 intro v w' x h' hk hr hm hv
 rw [hl]
 exact hk A M w0 _ w' (by rw [hd]; exact r.turn hr hm) ro
theorem wpS_done {li:Array Bool}(hr:Region.ready .any ops li= [])(hq:Q .normal fr h):wpS P n ops Q 0 li fr h:=fun A M w0 a w r ro=>⟨hr,fr,h,hq,r⟩
theorem wpS_to {W:Nat->Array Bool->(Nat->D)->zbb->Prop}(hW:W=wpS P n ops Q){fuel:Nat}{li:Array Bool}{fr0:Nat->D}{h0:zbb}(hs:W fuel li fr0 h0)(hc:Cov fr fr0)(hp:h.Perm h0):wpS P n ops Q fuel li fr h:=by
 subst hW
 intro A M w0 a w r ro
 obtain⟨r1,m1⟩:=r.heap.perm hp
 exact hs A M w0 a w ((r.turn r1 m1).cov hc) ro
theorem zaj {W:Nat->Array Bool->(Nat->D)->zbb->Prop}(hW:W=wpS P n ops Q){fuel:Nat}{li:Array Bool}(hs:wpS P n ops Q fuel li fr h):W fuel li fr h:=by subst hW; exact hs
def Yield (P:Program)(o:Oper)(fr:Nat->D)(x:D):Prop:=∀(X:Nat->Prop) (w:World) (e:Operand->Value),(∀ y,y∈o.op.operands->V w X (ev fr y) (e y))->∃ v,(∀ w',(execOp e o).run P w'= .ok (.value v) w')/\V w X x v
theorem Yield.move {o:Oper}{x:Operand}(ho:o.op= .move x):Yield P o fr (ev fr x):=fun X w e hv=>⟨e x,fun w'=>by simp [execOp,ho],hv x (by simp [ho,Op.operands])⟩
theorem Yield.assign {o:Oper}{x:Operand}(ho:o.op= .assign x):Yield P o fr (ev fr x):=fun X w e hv=>⟨e x,fun w'=>by simp [execOp,ho],hv x (by simp [ho,Op.operands])⟩
theorem Yield.fieldAddr {o:Oper}{s:TypeId}{x:Operand}{f off c sz i k:Nat}(ho:o.op= .fieldAddr s x f)(hf:zat P s f=some off)(hx:ev fr x= .ptr c sz i k):Yield P o fr (.ptr c sz i (k+off)):=fun X w e hv=>by
 have h1:=hv x (by simp [ho,Op.operands])
 rw [hx]at h1
 generalize hu:e x=u at h1
 cases h1 with
 | ptr hc=>
   refine⟨_,fun w'=>by simp only [execOp,ho,hu,Sem.run_bind,run_fieldAt hf,Result.andThen_ok,Sem.run_pure]; rfl,?_⟩
   rw [Nat.add_assoc]; exact .ptr hc
theorem Yield.len {o:Oper}{t e0:TypeId}{c:Call}{x:Operand}{sz:Nat}{ds:List D}(ho:o.op= .call c)(hc:c.callee= .builtin .len)(ha:c.args= #[x])(hty:c.argTypes= #[t])(ht:P.underlying t=some (.slice e0))(hx:ev fr x= .list sz ds):Yield P o fr (.i ds.length):=fun X w e hv=>by
 have h1:=hv x (by simp [ho,Op.operands,Call.operands,hc,ha])
 rw [hx]at h1
 generalize hu:e x=u at h1
 cases h1 with
 |list _ _ _ _ _=>exact⟨.int .i64 ds.length,fun w'=>by simp [execOp,ho,hc,resolve,invoke,builtin,Builtin.len_,hty,ha,hu,run_underlying ht,goInt],.v _⟩
theorem Yield.lenV {T:Type}{enc:T->D}{o:Oper}{t e0:TypeId}{c:Call}{x:Operand}{sz:Nat}{l:List T}(ho:o.op= .call c)(hc:c.callee= .builtin .len)(ha:c.args= #[x])(hty:c.argTypes= #[t])(ht:P.underlying t=some (.slice e0))(hx:ev fr x= .list sz (l.map enc)):Yield P o fr (.i l.length):=by
 have:=Yield.len ho hc ha hty ht hx
 rwa [List.length_map]at this
theorem wpS_firstY {x:D}{fuel i d:Nat}{li li':Array Bool}{o:Oper}(hi:ops[i]? =some o)(hg:o.guard=none)(hY:Yield P o fr x)(hd:o.dst=some d)(hn:Nat.blt d n=true)(hae:o.after.toList.all (fun e=> !Region.binds .any e||li.getD e.on false)=true)
   (hfree:Region.free .any ops li i=true) (hsel:Region.noSelect ops=true) (hQ:∀ c fr h,Q (.panic c) fr h->False) (hlf:li.getD i false=false) (hs:li.size=ops.size) (hl:li.setIfInBounds i true=li')
   (hh:wpS P n ops Q fuel li' (upd fr d x) h):wpS P n ops Q (fuel+1) li fr h:=by
 intro A M w0 a w r ro
 obtain⟨v,hv1,hv2⟩:=hY (XX A h) w a.eval (fun y _=>r.ev y)
 have r':Rel n A M w0 (upd fr d x) h (a.put o.dst v) w:=by
   rw [hd]; exact r.put r.heap (Mono.refl _ _) (by simpa [Nat.blt_eq]using hn) hv2
 have ha:∀ e∈o.after.toList,Region.binds .any e=true->li.getD e.on false=true:=fun e he hb=>by
   have:=List.all_eq_true.1 hae e he
   rw [hb]at this; simpa using this
 have hy:Yields P ops o v a:= .inl ⟨by simp [Region.wanted,hg],hv1⟩
 refine wpAnyW_first hi (fun j oj cs b=>Region.noSelect_spec hsel j oj cs b) (fun c a w hc=>by
     obtain⟨fr',h',hq,_⟩:=hc
     exact(hQ c fr' h' hq).elim) fuel li a w (fun j oj hj hne hun hno=>Region.free_spec hi hfree j oj hj hne hun hno) (Lic.mem_ready hs |>.2 ⟨o,hi,hlf,ha⟩) hy ?_
 rw [hl]
 exact hh A M w0 _ w r' ro
theorem flip_goal {a b:Prop}(h1:a->b)(h2:a):b:=h1 h2
end
end Go.Lic
namespace Go.Lic
variable [Fl]
section
variable {P:Program}{n:Nat}{ops:Array Oper}{Q:Post}{fr:Nat->D}{h:zbb}
end
section
variable {P:Program}{n:Nat}{ops:Array Oper}{Q:Post}{fr:Nat->D}{h:zbb}
def zo {i k fuel d:Nat}{m0:Nat}{o:Oper}(hi:ops[i]? =some o)(hh:OpA P o fr h fun x h'=>wpS P n ops Q fuel (lv k (Nat.add m0 (Nat.pow 2 i))) (upd fr d x) h')(hl:(lv k m0).setIfInBounds i true=lv k (Nat.add m0 (Nat.pow 2 i)):=by kernel_rfl)(hg:o.guard=none:=by exact rfl)(hd:o.dst=some d:=by exact rfl)(hn:Nat.blt d n=true:=by exact rfl):= @wpS_op _ P n ops Q fr h fuel i d (lv k m0) (lv k (Nat.add m0 (Nat.pow 2 i))) o hi hg hd hn hl hh
def ze {i k fuel:Nat}{m0:Nat}{o:Oper}(hi:ops[i]? =some o)(hh:OpA P o fr h fun x h'=>wpS P n ops Q fuel (lv k (Nat.add m0 (Nat.pow 2 i))) fr h')(hl:(lv k m0).setIfInBounds i true=lv k (Nat.add m0 (Nat.pow 2 i)):=by kernel_rfl)(hg:o.guard=none:=by exact rfl)(hd:o.dst=none:=by exact rfl):= @wpS_eff _ P n ops Q fr h fuel i (lv k m0) (lv k (Nat.add m0 (Nat.pow 2 i))) o hi hg hd hl hh
theorem zy {x:D}{fuel d k m0:Nat}{o:Oper}(i:Nat)(hi:ops[i]? =some o)(hY:Yield P o fr x)(hh:wpS P n ops Q fuel (lv k (Nat.add m0 (Nat.pow 2 i))) (upd fr d x) h)(hg:o.guard=none:=by exact rfl)(hd:o.dst=some d:=by exact rfl)(hn:Nat.blt d n=true:=by kernel_rfl)(hae:o.after.toList.all (fun e=> !Region.binds .any e||(lv k m0).getD e.on false)=true:=by kernel_rfl)
   (hfree:Region.free .any ops (lv k m0) i=true:=by kernel_rfl) (hsel:Region.noSelect ops=true:=by kernel_rfl) (hQ:∀ c fr h,Q (.panic c) fr h->False:=by exact fun _ _ _ hx=>hx) (hlf:(lv k m0).getD i false=false:=by exact rfl) (hs:(lv k m0).size=ops.size:=by exact rfl) (hl:(lv k m0).setIfInBounds i true=lv k (Nat.add m0 (Nat.pow 2 i)):=by kernel_rfl):wpS P n ops Q (fuel+1) (lv k m0) fr h:=wpS_firstY hi hg hY hd hn hae hfree hsel hQ hlf hs hl hh
theorem zs {fuel:Nat}{li:Array Bool}(rs:List Nat)(hall:nextS P n ops Q fuel li fr h rs)(hr:Region.ready .any ops li=rs:=by kernel_rfl)(hne:rs.isEmpty=false:=by exact rfl):wpS P n ops Q (fuel+1) li fr h:=wpS_step hr hne hall
theorem zt {W:Nat->Array Bool->(Nat->D)->zbb->Prop}(hW:W=wpS P n ops Q){fuel:Nat}{li:Array Bool}{l:List (Nat×D)}{h0:zbb}(hs:W fuel li (asg l) h0)(hc:covL fr l:=by repeat first|exact trivial|refine⟨rfl,?_⟩)(hp:h.Perm h0:=by exact .refl _):wpS P n ops Q fuel li fr h:=wpS_to hW hs (.asg hc) hp
end
end Go.Lic
