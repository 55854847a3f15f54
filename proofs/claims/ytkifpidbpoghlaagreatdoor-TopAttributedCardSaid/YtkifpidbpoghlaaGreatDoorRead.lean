/-
  Rules for walks that are printed beside the conditions of a function (words of XGo): each side condition is handed in; own slices are told as windows pre ++ (xs ++ post).
-/
import Derived.Test.YtkifpidbpoghlaaGreatDoorHeap
import Derived.Test.YtkifpidbpoghlaaGreatDoorRule
import Derived.Laws.BytesArg
import Derived.Lib.ConvBytes
import Derived.ProofKit
import Derived.OpenShut
import Derived.Carry
set_option linter.all false
namespace Go.Lic
variable [Fl]
theorem HRel.sub {A M:Nat->Prop}{w0 w:World}{h h0:zbb}(hs:List.Sublist h0 h)(hr:HRel A M w0 h w):HRel A M w0 h0 w/\Mono w (XX A h) w (XX A h0):=by
 have hk:List.Sublist (keys h0) (keys h):=hs.map _
 have hm:Mono w (XX A h) w (XX A h0):= .less fun b hb=>by
   rcases hb with hb|hb
   · exact .inl hb
   · exact .inr (hk.subset hb)
 exact⟨⟨hr.nodup.sublist hk,fun c b hc=>(hr.blk c b (hs.subset hc)).mono hm (fun _=>rfl),fun c hc=>hr.free c (hk.subset hc),fun c hc=>hr.mine c (hk.subset hc),hr.bound,hr.old,hr.ext,hr.glob.mono hm⟩,hm⟩
theorem Rel.sub {n:Nat}{A M:Nat->Prop}{w0:World}{fr:Nat->D}{h h0:zbb}{a:Act}{w:World}(hs:List.Sublist h0 h)(r:Rel n A M w0 fr h a w):Rel n A M w0 fr h0 a w:=
 have⟨r1,m1⟩:=r.heap.sub hs
 r.turn r1 m1
section
variable {P:Program}{n:Nat}{Q:Post}{fr fr0:Nat->D}{h:zbb}
theorem wpA_freezeB {c0:Code}{c sz:Nat}{es es':List D}{x:Nat×Blk}{h0:zbb}(hp:h.Perm (x::(c,.cells sz es)::h0))(hsn:Snap false [x] (D.flats es) (D.flats es'))(hok:∀ d∈es',d.ok sz)(hlen:es'.length=es.length)
   (hh:wpA P n c0 Q fr ((c,.cells sz es')::h0)):wpA P n c0 Q fr h:=
 fun A M w0 a w r=>by
   obtain⟨r1,m1⟩:=r.heap.perm hp
   obtain⟨r2,m2⟩:=r1.tail
   have hx:x.1 ∉ keys ((c,.cells sz es)::h0):=(List.nodup_cons.1 (by simpa using r1.nodup)).1
   have hb:=r1.blk c (.cells sz es) (by simp)
   have hs:∀ cs,VL w (XX A (x::(c,.cells sz es)::h0)) (D.flats es) cs->VL w (XX A ((c,.cells sz es)::h0)) (D.flats es') cs:=fun cs hv=>by
     refine hsn.sound (X':=XX A ((c,.cells sz es)::h0)) r1 (fun c b hh=>by cases hh with|head=>exact .head|tail t=>cases t) (fun _ b hb=>by
       rcases hb with hb|hb
       · exact .inl hb
       · exact .inr (List.mem_cons_of_mem _ hb)) (fun c' hc hev hxx=>?_) cs hv
     simp at hc; subst hc
     rcases hxx with hxx|hxx
     · rw [show 2*(x.1 / 2)=x.1 from by omega]at hxx
       exact r1.free x.1 (by simp) hxx
     · rw [show 2*(x.1 / 2)=x.1 from by omega]at hxx
       exact hx hxx
   have hr':HRel A M w0 ((c,.cells sz es')::h0) w:=by
     refine⟨r2.nodup,fun c1 b1 hc1=>?_,r2.free,r2.mine,r2.bound,r2.old,r2.ext,r2.glob⟩
     rcases List.mem_cons.1 hc1 with e|hc1
     · cases e
       refine⟨hok,?_⟩
       rcases hb.2 with⟨q1,q2⟩|⟨q1,arr,e,cs,q2,q3,q4⟩
       · rw [q2]at hlen; exact .inl ⟨q1,List.eq_nil_of_length_eq_zero hlen⟩
       · exact .inr ⟨q1,arr,e,cs,q2,hs cs q3,q4⟩
     · exact r2.blk c1 b1 (List.mem_cons_of_mem _ hc1)
   exact hh A M w0 a w (r.turn hr' (m1.trans m2))
theorem sub_heq {a h h':zbb}(e:h=h')(hs:List.Sublist a h'):List.Sublist a h:=by subst e; exact hs
theorem wpA_heq {c:Code}{h':zbb}(e:h=h')(hh:wpA P n c Q fr h'):wpA P n c Q fr h:=by subst e; exact hh
theorem wpA_sub {c:Code}{h0:zbb}(hs:List.Sublist h0 h)(hh:wpA P n c Q fr h0):wpA P n c Q fr h:=fun A M w0 a w r=>hh A M w0 a w (r.sub hs)
theorem wpA_lfp {S G:Type}{body:(S->Prop)->S->Prop}{s0:S}{c:Code}(g0:G)(F:G->S->Nat->D)(H:G->S->zbb)(hl:lfp body s0)(hc:Cov fr (F g0 s0))(hh:List.Sublist (H g0 s0) h)
   (round:∀ again:S->Prop,∀ g s,body again s->
     wpA P n c (fun e fr' h'=>match e with| .normal=>∃ g s,again s/\Cov fr' (F g s)/\List.Sublist (H g s) h'|e=>Q e fr' h') (F g s) (H g s)):wpA P n (.loop c) Q fr h:=by
 have key:∀ g A M w0 a w,Rel n A M w0 (F g s0) (H g s0) a w->∀ ro,RoOk ro c->∀(b:Frame) (ks:List Item) (cs:List Frame),b.roundOf=(Wd ro).round->(Wd ro).fn b.fn->∃ e a' w',Conc n A M w0 Q e a' w'/\ArrivesIn (Machine.fenced P (Wd ro)) P (lone (b.atR a (.code c:: .inLoop c::ks)) cs w) b ks cs e a' w':=by
   refine hl (fun s=>∀ g A M w0 a w,Rel n A M w0 (F g s) (H g s) a w->∀ ro,RoOk ro c->∀(b:Frame) (ks:List Item) (cs:List Frame),b.roundOf=(Wd ro).round->(Wd ro).fn b.fn->∃ e a' w',Conc n A M w0 Q e a' w'/\ArrivesIn (Machine.fenced P (Wd ro)) P (lone (b.atR a (.code c:: .inLoop c::ks)) cs w) b ks cs e a' w') ?_
   intro s hbd g A M w0 a w r ro hro b ks cs hbr hb
   obtain⟨e,a₁,w₁,⟨fr₁,h₁,hq,r₁⟩,harr⟩:=round _ g s hbd A M w0 a w r ro hro b (.inLoop c::ks) cs hbr hb (wd_room ro _)
   cases e with
   | normal=>
     obtain⟨g',s',hs',hc',hh'⟩:=hq
     obtain⟨e₂,a₂,w₂,hq₂,harr₂⟩:=hs' g' A M w0 a₁ w₁ ((r₁.cov hc').sub hh') ro hro b ks cs hbr hb
     exact⟨e₂,a₂,w₂,hq₂,.of_steps (StepsIn.trans harr (.one (fenced_calm hb (wd_room ro (cs.length+1+0)) rfl) stepR_inLoop)) harr₂⟩
   |exit id=>exact⟨_,a₁,w₁,⟨fr₁,h₁,hq,r₁⟩,.pass (x:= .inLoop c) rfl (fun _ _=> .inl (by simp)) harr⟩
   |goto l=>exact⟨_,a₁,w₁,⟨fr₁,h₁,hq,r₁⟩,.pass (x:= .inLoop c) rfl (fun _ _=> .inl (by simp)) harr⟩
   |ret=>exact⟨_,a₁,w₁,⟨fr₁,h₁,hq,r₁⟩,.pass (x:= .inLoop c) rfl (fun _ _=> .inl (by simp)) harr⟩
   |panic ch=>exact⟨_,a₁,w₁,⟨fr₁,h₁,hq,r₁⟩,.pass (x:= .inLoop c) rfl (fun _ _=> .inl (by simp)) harr⟩
   |outgrown=>exact⟨_,a₁,w₁,⟨fr₁,h₁,hq,r₁⟩,.pass (x:= .inLoop c) rfl (fun _ _=> .inl (by simp)) harr⟩
 intro A M w0 a w r ro hro b ks cs hbr hb hr
 obtain⟨e,a',w',hq,harr⟩:=key g0 A M w0 a w ((r.cov hc).sub hh) ro hro.lp b ks cs hbr hb
 exact⟨e,a',w',hq,.of_steps (.one (fenced_calm hb hr rfl) stepR_loop) harr⟩
theorem wpA_join {S G:Type}{c:Code}(F:G->S->Nat->D)(H:G->S->zbb)(J:S->Prop)
   (hx:wpA P n c (fun e fr' h'=>match e with| .normal=>∃ g s,J s/\Cov fr' (F g s)/\List.Sublist (H g s) h'|e=>Q e fr' h') fr h)
   (hy:∀ g s,J s->Q .normal (F g s) (H g s)):wpA P n c Q fr h:=by
 intro A M w0 a w r ro hro
 refine wpIn_mono (hx A M w0 a w r ro hro) ?_
 rintro e a' w' ⟨fr',h',hq,r'⟩
 cases e with
 | normal=>
   obtain⟨g,s,hs,hc,hh⟩:=hq
   exact⟨_,_,hy g s hs,(r'.cov hc).sub hh⟩
 |exit id=>exact⟨fr',h',hq,r'⟩
 |goto l=>exact⟨fr',h',hq,r'⟩
 |ret=>exact⟨fr',h',hq,r'⟩
 |panic ch=>exact⟨fr',h',hq,r'⟩
 |outgrown=>exact⟨fr',h',hq,r'⟩
theorem zav {c:Code}(fr0:Nat->D)(h0:zbb)(hx:wpA P n c (fun e fr' h'=>match e with| .normal=>Cov fr' fr0/\List.Sublist h0 h'|e=>Q e fr' h') fr h)(hy:Q .normal fr0 h0):wpA P n c Q fr h:=
 wpA_join (S:=Unit) (G:=Unit) (fun _ _=>fr0) (fun _ _=>h0) (fun _=>True) (wpA_mono hx fun e fr' h' q=>by
   cases e with
   |normal=>exact⟨(),(),trivial,q⟩
   |_=>exact q) (fun _ _ _=>hy)
end
abbrev zas {T:Type}(enc:T->D)(pre:List D)(xs:List T)(post:List D):List D:=pre++(xs.map enc++post)
section
variable {T:Type} [Inhabited T]{enc:T->D}{pre post:List D}{xs:List T}{i:Int}
theorem getV (h:inL i xs.length):(zas enc pre xs post)[pre.length+i.toNat]? =some (enc (gi xs i)):=by
 rw [zas,List.getElem?_append_right (by omega),Nat.add_sub_cancel_left,List.getElem?_append_left (by simp; omega),List.getElem?_map,gi_get? h]; rfl
theorem setV {v:T}(h:inL i xs.length):(zas enc pre xs post).set (pre.length+i.toNat) (enc v)=zas enc pre (si xs i v) post:=by
 rw [zas,List.set_append_right _ _ (by omega),Nat.add_sub_cancel_left,List.set_append_left _ _ (by simp; omega),<-List.map_set]; rfl
theorem winL_mid (xs:List T):((zas enc pre xs post).drop pre.length).take xs.length=xs.map enc:=by
 rw [zas,List.drop_left]; exact List.take_left' (by simp)
theorem winL_cut {lo hi:Int}(h:inS lo hi xs.length):zas enc pre xs post=zas enc (pre++(xs.take lo.toNat).map enc) (zbc xs lo hi) ((xs.drop hi.toNat).map enc++post):=by
 have e:xs=xs.take lo.toNat++(zbc xs lo hi++xs.drop hi.toNat):=by
   have h1:xs=xs.take hi.toNat++xs.drop hi.toNat:=(List.take_append_drop _ _).symm
   have h2:xs.take hi.toNat=(xs.take hi.toNat).take lo.toNat++(xs.take hi.toNat).drop lo.toNat:=(List.take_append_drop _ _).symm
   rw [List.take_take,Nat.min_eq_left (by omega)]at h2
   rw [<- List.append_assoc,zbc,<-h2]; exact h1
 unfold zas
 conv=>lhs; rw [e]
 simp [List.map_append,List.append_assoc]
end
inductive SrcV {T:Type}(enc:T->D)(h:zbb)(sz:Nat):D->List T->Prop
 |list {ys:List T}:SrcV enc h sz (.list sz (ys.map enc)) ys
 |own {c:Nat} {pre post:List D} {ys:List T} (hh:Has c (.cells sz (zas enc pre ys post)) h):SrcV enc h sz (.own c sz pre.length ys.length) ys
 |nil:SrcV enc h sz (.v (.slice none 0 0)) []
theorem SrcV.is {T:Type} [Inhabited T]{enc:T->D}{h:zbb}{sz:Nat}{d:D}{ys:List T}(hs:SrcV enc h sz d ys):SrcIs h sz d (ys.map enc):=by
 cases hs with
 |list=>exact .list
 | @own c pre post ys hh=>have:=SrcIs.own (i:=pre.length) (len:=ys.length) hh (by simp); rwa [winL_mid]at this
 |nil=>exact .nil
theorem Snap.win {T:Type} [Inhabited T]{enc:T->D}{f:Bool}{h:zbb}{c sz:Nat}{pre post ds ds':List D}{xs:List T}(hh:Has c (.cells sz (zas enc pre xs post)) h)(hp:f=true->∀ d∈D.flats (xs.map enc),Plain d)(hs:Snap f h ds ds'):
   Snap f h (.own c sz pre.length xs.length::ds) (.list sz (xs.map enc)::ds'):=by
 have:=Snap.ownp (f:=f) (ds:=ds) (ds':=ds') (i:=pre.length) (len:=xs.length) hh (by simp) (by rw [winL_mid]; exact hp) hs
 rwa [winL_mid]at this
section
variable {P:Program}{o:Oper}{fr:Nat->D}{h:zbb}{K:D->zbb->Prop}{T:Type} [Inhabited T]{enc:T->D}
theorem OpA.iixV {t et:TypeId}{bytes:Nat}{agg:Bool}{x ix:Operand}{kd:IntKind}{i:Int}{sz:Nat}{l:List T}(ho:o.op= .indexAddr t x ix)(ht:TS P t et sz bytes agg)(hsz:Nat.blt 0 sz=true)(hx:ev fr x= .list sz (l.map enc))
   (hi:ev fr ix= .v (.int kd i)) (hb:inL i l.length) (hk:K (.iptr (enc (gi l i)) 0) h):OpA P o fr h K:=
 .iindexAddr ho ht hsz hx hi hb.1 (by rw [List.getElem?_map,gi_get? hb]; rfl) hk
theorem OpA.ixV {t et:TypeId}{bytes:Nat}{agg:Bool}{x ix:Operand}{kd:IntKind}{i:Int}{c sz k len:Nat}(ho:o.op= .indexAddr t x ix)(ht:TS P t et sz bytes agg)(hx:ev fr x= .own c sz k len)
   (hi:ev fr ix= .v (.int kd i)) (hb:inL i len) (hk:K (.ptr c sz (k+i.toNat) 0) h):OpA P o fr h K:=
 .indexAddr ho ht hx hi hb.1 (by omega) hk
theorem OpA.aixV {t et:TypeId}{len esz:Nat}{agg:Bool}{x ix:Operand}{kd:IntKind}{j:Int}{c sz i k:Nat}(ho:o.op= .indexAddr t x ix)(ht:P.underlying t=some (.array len et))(hte:TI P et esz agg)(hx:ev fr x= .ptr c sz i k)
   (hi:ev fr ix= .v (.int kd j)) (hb:inL j len) (hk:K (.ptr c sz i (k+j.toNat*esz)) h):OpA P o fr h K:=
 .aindexAddr ho ht hte hx hi hb.1 hb.2 hk
theorem OpA.sixV {t:TypeId}{x ix:Operand}{k:IntKind}{j:Int}{s:ByteArray}(ho:o.op= .index t x ix)(ht:P.underlying t=some .string)(hx:ev fr x= .s s)(hi:ev fr ix= .v (.int k j))(hb:inL j s.size)
   (hk:K (.v (.int .u8 (sgi s j))) h):OpA P o fr h K:=
 .sindex (u:=s.data.toList.getD j.toNat 0) ho ht hx hi hb.1 (by
   have e:s.data.toList.length=s.size:=rfl
   have:j.toNat<s.data.toList.length:=by rw [e]; omega
   rw [List.getD_eq_getElem?_getD,List.getElem?_eq_getElem this]; rfl) hk
inductive BdV (fr:Nat->D):Option Operand->Int->Int->Prop
 |none (n:Int):BdV fr none n n
 |some {x:Operand} {k:IntKind} {i d:Int} (hx:ev fr x= .v (.int k i)):BdV fr (some x) d i
theorem BdV.bd {lo:Option Operand}{d i:Int}{dn:Nat}(hb:BdV fr lo d i)(hd:d=dn)(h0:0<=i):Bd fr lo dn i.toNat:=by
 cases hb with
 |none=>subst hd; exact .none _
 |some hx=>exact .some hx h0
theorem OpA.isliceV {t et:TypeId}{bytes:Nat}{agg:Bool}{x:Operand}{lo hi:Option Operand}{sz:Nat}{l:List T}{a b:Int}(ho:o.op= .slice t x lo hi none)(ht:TS P t et sz bytes agg)(hx:ev fr x= .list sz (l.map enc))
   (hl:BdV fr lo 0 a) (hh:BdV fr hi l.length b) (hb:inS a b l.length) (hk:K (.list sz ((zbc l a b).map enc)) h):OpA P o fr h K:=
 .islice ho ht hx (hl.bd (dn:=0) rfl hb.1) (hh.bd (dn:=(l.map enc).length) (by simp) (by omega)) (by omega) (by simp; omega) (by
   rw [zbc,List.map_drop,List.map_take]at hk; exact hk)
theorem OpA.ssliceV {t:TypeId}{x:Operand}{lo hi:Option Operand}{a b:Int}{s:ByteArray}(ho:o.op= .slice t x lo hi none)(ht:P.underlying t=some .string)(hx:ev fr x= .s s)
   (hl:BdV fr lo 0 a) (hh:BdV fr hi s.size b) (hb:inS a b s.size) (hk:K (.s (ssub s a b)) h):OpA P o fr h K:=
 .sslice ho ht hx (hl.bd (dn:=0) rfl hb.1) (hh.bd rfl (by omega)) (by omega) (by omega) hk
theorem OpA.sliceV {t et:TypeId}{bytes:Nat}{agg:Bool}{x:Operand}{lo hi:Option Operand}{c sz:Nat}{pre post:List D}{xs:List T}{a b:Int}{h':zbb}(ho:o.op= .slice t x lo hi none)(ht:TS P t et sz bytes agg)(hx:ev fr x= .own c sz pre.length xs.length)
   (hl:BdV fr lo 0 a) (hh:BdV fr hi xs.length b) (hb:inS a b xs.length) (hr:Repl c (.cells sz (zas enc pre xs post)) c (.cells sz (zas enc (pre++(xs.take a.toNat).map enc) (zbc xs a b) ((xs.drop b.toNat).map enc++post))) h h')
   (hk:K (.own c sz (pre++(xs.take a.toNat).map enc).length (zbc xs a b).length) h'):OpA P o fr h K:=by
 have e:h'=h:=by
   rw [<- winL_cut hb]at hr
   obtain⟨h1,h2,e1,e2⟩:=hr.split
   rw [e1,e2]
 subst e
 have e1:(pre++(xs.take a.toNat).map enc).length=pre.length+a.toNat:=by simp; omega
 rw [e1,lsub_length hb,show(b-a).toNat=b.toNat-a.toNat by omega]at hk
 exact .slice ho ht hx (hl.bd (dn:=0) rfl hb.1) (hh.bd rfl (by omega)) (by omega) (by omega) hk
theorem OpA.appendW {t e:TypeId}{sz bytes:Nat}{agg:Bool}{cl:Call}{s x:Operand}{c:Nat}{pre post:List D}{xs ys:List T}{hf:Nat->Blk->zbb}(ho:o.op= .call cl)(hc:cl.callee= .builtin .append)(ha:cl.args= #[s,x])(hty:cl.argTypes= #[t,t])
   (ht:TS P t e sz bytes agg) (hs:ev fr s= .own c sz pre.length xs.length) (hrepl:∀ c' b',Repl c (.cells sz (zas enc pre xs post)) c' b' h (hf c' b')) (hx:SrcV enc h sz (ev fr x) ys)
   (hb:(xs.length+ys.length)*bytes<=140737488355328/\xs.length+ys.length<=9223372036854775807) (hk:∀ c' pre',K (.own c' sz pre'.length (xs++ys).length) (hf c' (.cells sz (zas enc pre' (xs++ys) [])))):OpA P o fr h K:=
 .append ho hc ha hty ht hs hrepl hx.is (by simp) (by simpa using hb.1) (by simpa using hb.2) (fun c' pre'=>by
   have:=hk c' pre'
   rw [winL_mid,List.length_map,List.append_assoc]
   rw [List.length_append,zas,List.append_nil,List.map_append]at this
   exact this)
theorem OpA.makeSliceV {t e:TypeId}{sz bytes:Nat}{agg:Bool}{x y:Operand}{kl kc:IntKind}{l c:Int}{z:Value}{v0:T}(ho:o.op= .makeSlice t x y)(ht:TS P t e sz bytes agg)(hx:ev fr x= .v (.int kl l))(hy:ev fr y= .v (.int kc c))
   (hz:(P.info? e).bind (·.zero)=some z) (hd:∀ w X,V w X (enc v0) z) (hok:(enc v0).ok sz) (hb:(0<=l/\l<=c)/\(bytes:Int)*c<=281474976710656/\c<=9223372036854775807)
   (hk:∀ b,K (.own b sz ([]:List D).length (List.replicate l.toNat v0).length) ((b,.cells sz (zas enc [] (List.replicate l.toNat v0) []))::h)):OpA P o fr h K:=
 .makeSlice ho ht hx hy hz hd hok hb.1.1 hb.1.2 hb.2.1 hb.2.2 (fun b=>by
   have:=hk b
   simpa [zas]using this)
theorem OpA.asnG {x:Operand}{sz:Nat}(ho:o.op= .assign x)(hd:ev fr x= .v (.slice none 0 0))(hk:∀ g,K (.own g sz ([]:List D).length ([]:List T).length) ((g,.cells sz (zas enc [] ([]:List T) []))::h)):OpA P o fr h K:=
 fun A M w0 a w hr hv next Q hn=>by
   have h1:=hv x (by simp [ho,Op.operands])
   rw [hd]at h1
   generalize hu:a.eval x=u at h1
   cases h1
   obtain⟨g,_,_,hr',hm⟩:=hr.ghost sz
   have e:(execOp a.eval o).run P w= .ok (.value (.slice none 0 0)) w:=by simp [execOp,ho,hu]
   exact fun ro=>wd_op e (by simp) (hn _ w _ _ (hk g) hr' hm (.own (Nat.le_refl _) (.inr ⟨rfl,rfl⟩)))
theorem OpA.asnN {x:Operand}{sz:Nat}(ho:o.op= .assign x)(hd:ev fr x= .v (.slice none 0 0))(hk:K (.list sz (([]:List T).map enc)) h):OpA P o fr h K:=
 .of_quiet (d:= .list sz (([]:List T).map enc)) (fun A M w0 a w _ hv=>by
   have h1:=hv x (by simp [ho,Op.operands])
   rw [hd]at h1
   generalize hu:a.eval x=u at h1
   cases h1
   exact⟨.slice none 0 0,by simp [execOp,ho,hu],.list (ds:= []) (cs:= []) (b:=0) (o:=0) (by simp) .nil (by simp) (.inl rfl) (by simp)⟩) hk
theorem OpA.buildSliceV {t e:TypeId}{sz bytes len:Nat}{agg:Bool}{parts:Array (Nat×Operand)}{xs:List T}(ho:o.op= .buildSlice t len parts)(ht:TS P t e sz bytes agg)(hidx:parts.toList.map (·.1)=List.range len)
   (hok:OkL fr sz parts.toList) (hb:len*sz<=16777216) (hxs:(parts.toList.map fun p=>ev fr p.2)=xs.map enc) (hk:∀ c,K (.own c sz ([]:List D).length xs.length) ((c,.cells sz (zas enc [] xs []))::h)):OpA P o fr h K:=
 .buildSliceO ho ht hidx hok hb (fun c=>by
   have hl:len=xs.length:=by have:=congrArg List.length hidx; have h2:=congrArg List.length hxs; simp at this h2; omega
   rw [hxs,hl]
   simpa [zas]using hk c)
theorem OpA.storeV {t:TypeId}{x y:Operand}{c sz:Nat}{agg:Bool}{pre post:List D}{xs:List T}{i:Int}{v:T}{h':zbb}(ho:o.op= .store t x y)(ht:TI P t sz agg)(hx:ev fr x= .ptr c sz (pre.length+i.toNat) 0)
   (hy:ev fr y=enc v) (hok:(enc v).ok sz) (hl:(enc (gi xs i)).flat.length=sz) (hb:inL i xs.length) (hh:Repl c (.cells sz (zas enc pre xs post)) c (.cells sz (zas enc pre (si xs i v) post)) h h') (hk:K (.v undef) h'):OpA P o fr h K:=
 .store (e':=enc v) ho ht hx (by rw [hy]; exact hok) (getV hb) (by rw [hl]; omega) (by rw [hy,setAt_all _ _ (by rw [hl,hok.1])]) (by rw [setV hb]; exact hh) hk
theorem OpA.storeVf {t:TypeId}{x y:Operand}{c sz k n:Nat}{agg:Bool}{pre post:List D}{xs:List T}{i:Int}{v:T}{h':zbb}(ho:o.op= .store t x y)(ht:TI P t n agg)(hx:ev fr x= .ptr c sz (pre.length+i.toNat) k)
   (hok:(ev fr y).ok n) (hkn:k+n<=(enc (gi xs i)).flat.length) (he:(enc v).flat=setAt (enc (gi xs i)).flat k (ev fr y).flat) (hb:inL i xs.length) (hh:Repl c (.cells sz (zas enc pre xs post)) c (.cells sz (zas enc pre (si xs i v) post)) h h') (hk:K (.v undef) h'):OpA P o fr h K:=
 .store (e':=enc v) ho ht hx hok (getV hb) hkn he (by rw [setV hb]; exact hh) hk
end
theorem Fun.at {P:Program}{f:Nat}{ds:List D}{T:Type}{enc:T->D}{v:T}(h:Fun false P f ds (fun d=>∃ r,d=enc r/\r=v)):Fun false P f ds (fun d=>d=enc v):=
 fun A w vs h1 h2 hg h3=>(h A w vs h1 h2 hg h3).mono fun e w' ⟨x,d,he,⟨r,h4,h5⟩,h6⟩=>⟨x,d,he,by rw [h4,h5],h6⟩
end Go.Lic
set_option linter.all false
namespace Go.Lic
variable [Fl]
section
variable {P:Program}{o:Oper}{fr:Nat->D}{h:zbb}{K:D->zbb->Prop}
theorem OpA.int2 {op:BinOp}{t t2:TypeId}{x y:Operand}{k k2:IntKind}{a b r:Int}(ho:o.op= .binOp op t x y t2)(hx:ev fr x= .v (.int k a))(hy:ev fr y= .v (.int k2 b))
   (hr:∀ w,(binOp op t (.int k a) (.int k2 b)).run P w= .ok (.int k r) w) (hg:∀(ax ay:Operand) w,(eqGuard op t ax ay (.int k a) (.int k2 b)).run P w= .ok () w) (hk:K (.v (.int k r)) h):OpA P o fr h K:=
 .of_quiet (fun A M w0 ac w _ hv=>by
   have h1:=hv x (by simp [ho,Op.operands])
   have h2:=hv y (by simp [ho,Op.operands])
   rw [hx]at h1; rw [hy]at h2
   generalize hu:ac.eval x=u at h1
   generalize hu2:ac.eval y=u2 at h2
   cases h1; cases h2
   exact⟨_,by simp only [execOp,ho,hu,hu2,Sem.run_bind,hg,hr,Result.andThen_ok,Sem.run_pure],.v _⟩) hk
theorem OpA.quoN {t t2:TypeId}{x y:Operand}{a b:Int}(ho:o.op= .binOp .quo t x y t2)(hx:ev fr x= .i a)(hy:ev fr y= .i b)(hb:(0<=a/\0<b)/\a<=9223372036854775807)(hk:K (.i (a / b)) h):OpA P o fr h K:=
 .int2 ho hx hy (by
   intro w
   have h1:b≠0:=by omega
   have h2:a.tdiv b=a / b:=Int.tdiv_eq_ediv_of_nonneg hb.1.1
   have h3:0<=a / b:=Int.ediv_nonneg hb.1.1 (by omega)
   have h4:a / b<=a:=Int.ediv_le_self _ hb.1.1
   have h5:IntKind.i64.wrap (a / b)=a / b:=wrap64_in (by omega)
   simp [binOp,Op.intDiv,h1,h2,h5]) (by intro ax ay w; simp [eqGuard_at_int]) hk
theorem OpA.remN {t t2:TypeId}{x y:Operand}{k:IntKind}{a b:Int}(ho:o.op= .binOp .rem t x y t2)(hx:ev fr x= .v (.int k a))(hy:ev fr y= .v (.int k b))(hb:0<=a/\0<b)(hk:K (.v (.int k (a % b))) h):OpA P o fr h K:=
 .int2 ho hx hy (by
   intro w
   have h1:b≠0:=by omega
   have h2:a.tmod b=a % b:=Int.tmod_eq_emod_of_nonneg hb.1
   simp [binOp,Op.intDiv,h1,h2]) (by intro ax ay w; simp [eqGuard_at_int]) hk
theorem OpA.band {t t2:TypeId}{x y:Operand}{k:IntKind}{a b:Int}(ho:o.op= .binOp .and t x y t2)(hx:ev fr x= .v (.int k a))(hy:ev fr y= .v (.int k b))(hk:K (.v (.int k (gand k a b))) h):OpA P o fr h K:=
 .int2 ho hx hy (by intro w; simp [binOp,Op.intBits,gand]) (by intro ax ay w; simp [eqGuard_at_int]) hk
theorem OpA.bor {t t2:TypeId}{x y:Operand}{k:IntKind}{a b:Int}(ho:o.op= .binOp .or t x y t2)(hx:ev fr x= .v (.int k a))(hy:ev fr y= .v (.int k b))(hk:K (.v (.int k (gor k a b))) h):OpA P o fr h K:=
 .int2 ho hx hy (by intro w; simp [binOp,Op.intBits,gor]) (by intro ax ay w; simp [eqGuard_at_int]) hk
theorem OpA.bxor {t t2:TypeId}{x y:Operand}{k:IntKind}{a b:Int}(ho:o.op= .binOp .xor t x y t2)(hx:ev fr x= .v (.int k a))(hy:ev fr y= .v (.int k b))(hk:K (.v (.int k (gxor k a b))) h):OpA P o fr h K:=
 .int2 ho hx hy (by intro w; simp [binOp,Op.intBits,gxor]) (by intro ax ay w; simp [eqGuard_at_int]) hk
theorem OpA.shl {t t2:TypeId}{x y:Operand}{k k2:IntKind}{a b:Int}(ho:o.op= .binOp .shl t x y t2)(hx:ev fr x= .v (.int k a))(hy:ev fr y= .v (.int k2 b))(hb:0<=b)(hk:K (.v (.int k (gshl k a b))) h):OpA P o fr h K:=
 .int2 ho hx hy (by intro w; simp [binOp,Op.shift,gshl,show ¬b<0 by omega]) (by intro ax ay w; simp [eqGuard]) hk
theorem OpA.shr {t t2:TypeId}{x y:Operand}{k k2:IntKind}{a b:Int}(ho:o.op= .binOp .shr t x y t2)(hx:ev fr x= .v (.int k a))(hy:ev fr y= .v (.int k2 b))(hb:0<=b)(hk:K (.v (.int k (gshr k a b))) h):OpA P o fr h K:=
 .int2 ho hx hy (by intro w; simp [binOp,Op.shift,gshr,show ¬b<0 by omega]) (by intro ax ay w; simp [eqGuard]) hk
theorem OpA.unot {t:TypeId}{x:Operand}{k:IntKind}{a:Int}(ho:o.op= .unOp .xor t x)(hx:ev fr x= .v (.int k a))(hk:K (.v (.int k (gnot k a))) h):OpA P o fr h K:=
 .of_quiet (fun A M w0 ac w _ hv=>by
   have h1:=hv x (by simp [ho,Op.operands])
   rw [hx]at h1
   generalize hu:ac.eval x=u at h1
   cases h1
   exact⟨_,by simp [execOp,ho,hu,Op.unary,Op.intBits,gnot,gxor],.v _⟩) hk
theorem OpA.conv {s d:TypeId}{x:Operand}{k1 k2:IntKind}{a:Int}(ho:o.op= .convert s d x)(hs:P.underlying s=some (.int k1))(hd:P.underlying d=some (.int k2))(hx:ev fr x= .v (.int k1 a))(hk:K (.v (.int k2 (k2.wrap a))) h):OpA P o fr h K:=
 .of_quiet (fun A M w0 ac w _ hv=>by
   have h1:=hv x (by simp [ho,Op.operands])
   rw [hx]at h1
   generalize hu:ac.eval x=u at h1
   cases h1
   exact⟨.int k2 (k2.wrap a),by simp [execOp,ho,hu,convert,run_underlying hs,run_underlying hd,Conv.intToInt],.v _⟩) hk
end
end Go.Lic
set_option linter.all false
namespace Go.Lic
variable [Fl]
section
variable {P:Program}{o:Oper}{fr:Nat->D}{h:zbb}{K:D->zbb->Prop}
theorem append_coreSX {A M:Nat->Prop}{w0 w:World}{t ty e:TypeId}{sz bytes:Nat}{agg:Bool}(ht:TS P t e sz bytes agg)(hr:HRel A M w0 h w){c i len:Nat}{es ds:List D}{hf:Nat->Blk->zbb}{v:Value}{u:TypeId}{s:ByteArray}(hu:P.underlying u=some .string)(hds:ds=(zbl s).map (D.k .u8))(hs1:sz=1)
   (hrepl:∀ c' b',Repl c (.cells sz es) c' b' h (hf c' b')) (hil:i+len<=es.length) (hv:V w (XX A h) (.own c sz i len) v) (hbytes:(len+ds.length)*bytes<=140737488355328) (hmax:len+ds.length<=9223372036854775807):
   ∃ v' w' c' pre,(Builtin.append_ #[t,u] ty #[v,.string s]).run P w= .ok v' w'/\HRel A M w0 (hf c' (.cells sz (pre++(es.drop i).take len++ds))) w'/\
     Mono w (XX A h) w' (XX A (hf c' (.cells sz (pre++(es.drop i).take len++ds))))/\V w' (XX A (hf c' (.cells sz (pre++(es.drop i).take len++ds)))) (.own c' sz pre.length (len+ds.length)) v'/\(pre.length<=i/\((c'=c/\∀ a n cap,v= .slice a n cap->∃ n',v'= .slice a n' cap)\/(∃ a cap,v'= .slice a (len+ds.length) cap/\0<cap/\0<len+ds.length/\∃ n,w'.shape? (c' / 2)=some (e,n)))):=by
 have hlen:s.size=ds.length:=by rw [hds]; simp [zbl]
 obtain⟨cs,hcsd⟩:∃ cs:List Value,cs=s.data.toList.map fun b=>Value.int .u8 b.toNat:=⟨_,rfl⟩
 have hdok:∀ x∈ds,x.ok sz:=by
   intro x hx; rw [hds]at hx; obtain⟨n,_,rfl⟩:=List.mem_map.1 hx; rw [hs1]; exact .of rfl
 have hdv:VL w (XX A h) (D.flats ds) cs:=by
   rw [hds,hcsd,zbl]
   generalize s.data.toList=l
   induction l with
   |nil=>exact .nil
   |cons x l ih=>exact .cons (.v _) ih
 have hcl:cs.length=ds.length*sz:=by rw [hcsd,hds,hs1]; simp [zbl]
 have hfirst:∀ w',(Builtin.firstCells sz ds.length (.string s)).run P w'= .ok cs.toArray w':=by
   intro w'
   rw [<- hlen]
   simp only [Builtin.firstCells,Sem.run_pure]
   congr 1
   apply Array.toList_inj.1
   rw [hcsd]
   have:s.extract 0 s.size=s:=by simp
   rw [this]
   simp
 have hone:∀ u∈cs,u.oneCell'=true:=hdv.oneCell (fun x hx=>by
   obtain⟨y,hy,hxy⟩:=List.mem_flatMap.1 hx
   exact(hdok y hy).2 x hxy)
 obtain⟨hok,hblk⟩:=hr.cells (hrepl c (.cells sz es)).has
 have hmid:=SrcIs.val (SrcIs.own (hrepl c (.cells sz es)).has hil) hr hv
 have hmlen:((es.drop i).take len).length=len:=by simp; omega
 obtain⟨a,cap,mcs,hve,hmcap,hmok,hmv,hmc⟩:=hmid
 rw [hmlen]at hve hmcap
 subst hve
 have hmcl:mcs.length=len*sz:=by rw [<- hmv.length,zbq _ hmok,hmlen]
 have hfirstm:=run_firstCells' (P:=P) (w:=w) (n:=len) (cap:=cap) hmcl hmc
 by_cases hroom:len+ds.length<=cap
 · -- within the capacity
   cases hv with
   | own hlc hd=>
     rcases hd with⟨hc2,rfl,et0,n0,hsh,hn0⟩|⟨hz1,hz2⟩
     · rcases hblk with⟨hodd,_⟩|⟨_,arr,et,ocs,ha,hov,hop⟩
       · omega
       · have hn:(i+cap)*sz<=arr.size:=by
           simp only [ha.shape,Option.some.injEq,Prod.mk.injEq]at hsh
           rw [<- hsh.2]at hn0; exact hn0
         have hfit:(i+len)*sz+cs.length<=arr.size:=by
           rw [hcl,<-Nat.add_mul]
           exact Nat.le_trans (Nat.mul_le_mul_right _ (by omega)) hn
         obtain⟨w',arr',g1,g2,g3,g4,g5,g6,g7,g8,g9⟩:=run_storeCells' (P:=P) cs 0 ((i+len)*sz) w arr ha hone (by omega)
         simp only [Nat.add_zero]at g1 g3
         have hocl:ocs.length=es.length*sz:=by rw [<- hov.length,zbq es hok]
         have hoarr:ocs.length<=arr.toList.length:=hop.length_le
         have hle:(i+len)*sz<=ocs.length:=by rw [hocl]; exact Nat.mul_le_mul_right _ hil
         have hpe:es.take i++(es.drop i).take len++ds=es.take (i+len)++ds:=by rw [List.take_add]
         have hpl:(es.take i).length=i:=by simp; omega
         obtain⟨r1,r2⟩:=hr.write (sz':=sz) (es':=es.take i++(es.drop i).take len++ds) (cs':=ocs.take ((i+len)*sz)++cs) (hrepl c _) hc2 (by
             intro x hx; rw [hpe]at hx
             rcases List.mem_append.1 hx with hx|hx
             · exact hok x (List.mem_of_mem_take hx)
             · exact hdok x hx) ha g2 g4 (by
             rw [hpe,zcc,flats_take _ hok]
             exact(hov.take _).append hdv) (by
             obtain⟨tl,htl⟩:=hop
             rw [g3,setAt_eq _ _ _ (by simpa using hfit)]
             refine⟨arr.toList.drop ((i+len)*sz+cs.length),?_⟩
             congr 2
             rw [<- htl,List.take_append_of_le_length hle]) g5 g6 g7 g8 g9
         refine⟨.slice (some ⟨c / 2,i*sz,none⟩) (len+ds.length) cap,w',c,es.take i,?_,r1,r2,?_,by simp; omega,.inl ⟨rfl,fun a n cp hv=>⟨_,by cases hv; rfl⟩⟩⟩
         · simp only [Builtin.append_,Array.getElem?_eq_getElem,List.size_toArray,List.length_cons,List.length_nil,Nat.zero_add,Nat.reduceLT,Nat.reduceAdd,List.getElem_toArray,List.getElem_cons_zero,List.getElem_cons_succ,
             Sem.run_bind,run_underlying ht.desc,run_underlying hu,Result.andThen_ok,ht.elem.size,Sem.run_pure,Bool.false_eq_true,if_false,Builtin.lenOf,hlen,hroom,if_true,hfirst w,Addr.add_lit,Bool.not_false,Sem.run_ite]
           rw [show i*sz+len*sz=(i+len)*sz from by rw [Nat.add_mul],g1]
           rfl
         · rw [hpl]
           refine .own hroom (.inl ⟨hc2,rfl,et0,n0,?_,hn0⟩)
           rw [r2.shape _ (lt_of_shape hsh)]; exact hsh
     · -- nothing is appended to nothing
       have hds0:ds= []:=List.eq_nil_of_length_eq_zero (by omega)
       clear hds
       subst hds0; subst hz1; subst hz2
       have hcs0:cs= []:=List.eq_nil_of_length_eq_zero (by simpa using hcl)
       subst hcs0
       have hlen0:s.size=0:=by simpa using hlen
       have hfirst0:(Builtin.firstCells sz 0 (.string s)).run P w= .ok #[] w:=by simpa using hfirst w
       refine⟨.slice a 0 0,w,c,es.take i,?_,?_⟩
       · simp only [Builtin.append_,Array.getElem?_eq_getElem,List.size_toArray,List.length_cons,List.length_nil,Nat.zero_add,Nat.reduceLT,Nat.reduceAdd,List.getElem_toArray,List.getElem_cons_zero,List.getElem_cons_succ,
           Sem.run_bind,run_underlying ht.desc,run_underlying hu,Result.andThen_ok,ht.elem.size,Sem.run_pure,Bool.false_eq_true,if_false,Builtin.lenOf,hlen0,Nat.le_refl,if_true,hfirst0,Bool.not_false,Sem.run_ite]
         cases a<;>simp [storeCells]
       · have hpl:(es.take i).length=i:=by simp; omega
         have hkeys:=(hrepl c (.cells sz (es.take i++(es.drop i).take 0++ []))).keys_eq
         have hxx:XX A (hf c (.cells sz (es.take i++(es.drop i).take 0++ [])))=XX A h:=by funext b; simp only [XX,hkeys]
         have htk:es.take i++(es.drop i).take 0++ []=es.take i:=by simp
         refine⟨?_,by rw [hxx]; exact Mono.refl _ _,by rw [hpl]; exact .own (Nat.le_refl _) (.inr ⟨rfl,rfl⟩),by simp; omega,.inl ⟨rfl,fun a n cp hv=>⟨_,by cases hv; rfl⟩⟩⟩
         obtain⟨h0,p1,p2⟩:=(hrepl c (.cells sz (es.take i++(es.drop i).take 0++ []))).perm
         obtain⟨q1,q2⟩:=hr.perm p1
         refine(HRel.perm (h:=(c,.cells sz (es.take i++(es.drop i).take 0++ []))::h0) ?_ p2.symm).1
         rw [htk]
         refine⟨q1.nodup,?_,q1.free,q1.mine,q1.bound,q1.old,q1.ext,q1.glob⟩
         intro c1 b1 hc1
         rcases List.mem_cons.1 hc1 with hc1|hc1
         · cases hc1
           have:=q1.blk c (.cells sz es) (by simp)
           have hxx2:XX A ((c,.cells sz (es.take i))::h0)=XX A ((c,.cells sz es)::h0):=rfl
           rw [hxx2]
           refine⟨fun x hx=>hok x (List.mem_of_mem_take hx),?_⟩
           rcases this.2 with⟨hodd,he⟩|⟨hev,arr,et,ocs,ha,hov,hop⟩
           · exact .inl ⟨hodd,by rw [he]; simp⟩
           · refine .inr ⟨hev,arr,et,ocs.take (i*sz),ha,by rw [flats_take _ hok]; exact hov.take _,?_⟩
             exact(List.take_prefix _ _).trans hop
         · exact q1.blk c1 b1 (by simp [hc1])
 · -- a new array
   obtain⟨z,hz,hzs,hzi⟩:=ht.zeroRun
   obtain⟨bi,hbi,hbb⟩:=Option.map_eq_some_iff.1 ht.bytes
   have hgrow:=growslice_fits (need:=len+ds.length) (old:=cap) (by omega) hbytes
   have hnm:¬((len+ds.length:Nat):Int)>IntKind.i64.max:=by rw [IntKind.max_i64]; omega
   have hng:¬(Builtin.nextslicecap (len+ds.length) cap*bytes>2 ^ 48):=by omega
   obtain⟨ncap,hncap,hncapge⟩:∃ ncap,(Question.appendCap (len+ds.length) cap e).cut (w.tape w.drawn (.appendCap (len+ds.length) cap e))=ncap/\len+ds.length<=ncap:=⟨_,rfl,by simp [Question.cut]⟩
   have hinfo:(typeInfo e).run P w= .ok bi w:=by simp [typeInfo,hbi]
   have hinfo':(typeInfo e).run P w.drew= .ok bi w.drew:=by simp [typeInfo,hbi]
   obtain⟨r1,m1⟩:=hr.quiet (w':=w.drew) rfl rfl rfl rfl (Nat.le_succ _)
   obtain⟨h0,p1,_⟩:=(hrepl c (.cells sz es)).perm
   obtain⟨q1,m2⟩:=r1.perm p1
   obtain⟨q2,m3⟩:=q1.tail
   have hm:Mono w (XX A h) w.drew (XX A h0):=(m1.trans m2).trans m3
   obtain⟨_,q3,m4⟩:=q2.alloc (sz:=sz) (es:= []++(es.drop i).take len++ds) (cs:=mcs++cs) (mcs.toArray++cs.toArray++Builtin.zeroCells z.cells (ncap-(len+ds.length))) e (by
       intro x hx
       simp only [List.nil_append,List.mem_append]at hx
       rcases hx with hx|hx
       · exact hmok x hx
       · exact hdok x hx) (by
       rw [List.nil_append,zcc]
       exact(hmv.append hdv).mono hm) (by simp)
   obtain⟨h0',p1',p2'⟩:=(hrepl (2*w.heap.size) (.cells sz ([]++(es.drop i).take len++ds))).perm
   have hp00:h0'.Perm h0:=List.Perm.cons_inv (p1'.symm.trans p1)
   have hp3:((2*w.heap.size,Blk.cells sz ([]++(es.drop i).take len++ds))::h0).Perm (hf (2*w.heap.size) (.cells sz ([]++(es.drop i).take len++ds))):=(List.Perm.cons _ hp00.symm).trans p2'.symm
   obtain⟨q4,m5⟩:=q3.perm hp3
   refine⟨.slice (some ⟨w.heap.size,0,none⟩) (len+ds.length) ncap,_,2*w.heap.size,[],?_,q4,(hm.trans m4).trans m5,?_,by simp,.inr ⟨_,_,rfl,by omega,by omega,(mcs.toArray++cs.toArray++Builtin.zeroCells z.cells (ncap-(len+ds.length))).size,by rw [show 2*w.heap.size / 2=w.drew.heap.size from by show 2*w.heap.size / 2=w.heap.size; omega]; exact shape_alloc_new _ _ _⟩⟩
   · have hz':=hz w.drew
     have hfd:=hfirst w.drew
     have hfm:(Builtin.firstCells sz len (.slice a len cap)).run P w.drew= .ok mcs.toArray w.drew:=run_firstCells' (P:=P) (w:=w.drew) hmcl hmc
     have hfalse:¬(((len+ds.length:Nat):Int)>IntKind.i64.max/\(False\/bi.bytes=0)):=fun hh=>hnm hh.1
     simp only [Builtin.append_,Array.getElem?_eq_getElem,List.size_toArray,List.length_cons,List.length_nil,Nat.zero_add,Nat.reduceLT,Nat.reduceAdd,List.getElem_toArray,List.getElem_cons_zero,List.getElem_cons_succ,
       Sem.run_bind,run_underlying ht.desc,run_underlying hu,Result.andThen_ok,ht.elem.size,Sem.run_pure,Bool.false_eq_true,if_false,Builtin.lenOf,hlen,hroom,hinfo,hinfo',hbb,hnm,false_and,hng,run_choose,Question.forced,World.drew_eq,hncap,run_askRoom,hfm,hfd,hz',
       Bool.not_false,if_true,newRow,run_newObj,World.alloc_eq,Sem.run_ite]
     rfl
   · refine .own hncapge (.inl ⟨by omega,by simp,e,(mcs.toArray++cs.toArray++Builtin.zeroCells z.cells (ncap-(len+ds.length))).size,?_,?_⟩)
     · rw [show 2*w.heap.size / 2=w.drew.heap.size from by show 2*w.heap.size / 2=w.heap.size; omega]; exact shape_alloc_new _ _ _
     · simp only [Array.size_append,List.size_toArray,hmcl,hcl,size_zeroCells,hzs,List.length_nil,Nat.zero_add]
       rw [<- Nat.add_mul,<-Nat.add_mul]
       apply Nat.mul_le_mul_right
       omega
theorem append_coreS {A M:Nat->Prop}{w0 w:World}{t ty e:TypeId}{sz bytes:Nat}{agg:Bool}(ht:TS P t e sz bytes agg)(hr:HRel A M w0 h w){c i len:Nat}{es ds:List D}{hf:Nat->Blk->zbb}{v:Value}{u:TypeId}{s:ByteArray}(hu:P.underlying u=some .string)(hds:ds=(zbl s).map (D.k .u8))(hs1:sz=1)
   (hrepl:∀ c' b',Repl c (.cells sz es) c' b' h (hf c' b')) (hil:i+len<=es.length) (hv:V w (XX A h) (.own c sz i len) v) (hbytes:(len+ds.length)*bytes<=140737488355328) (hmax:len+ds.length<=9223372036854775807):
   ∃ v' w' c' pre,(Builtin.append_ #[t,u] ty #[v,.string s]).run P w= .ok v' w'/\HRel A M w0 (hf c' (.cells sz (pre++(es.drop i).take len++ds))) w'/\
     Mono w (XX A h) w' (XX A (hf c' (.cells sz (pre++(es.drop i).take len++ds))))/\V w' (XX A (hf c' (.cells sz (pre++(es.drop i).take len++ds)))) (.own c' sz pre.length (len+ds.length)) v':=by
 obtain⟨v',w',c',pre,g1,g2,g3,g4,_⟩:=append_coreSX (ty:=ty) ht hr hu hds hs1 hrepl hil hv hbytes hmax
 exact⟨v',w',c',pre,g1,g2,g3,g4⟩
theorem OpA.appendS {t u e:TypeId}{bytes:Nat}{agg:Bool}{cl:Call}{s x:Operand}{c:Nat}{pre post:List D}{xs:List Int}{y:ByteArray}{hf:Nat->Blk->zbb}(ho:o.op= .call cl)(hc:cl.callee= .builtin .append)(ha:cl.args= #[s,x])(hty:cl.argTypes= #[t,u])
   (ht:TS P t e 1 bytes agg) (hu:P.underlying u=some .string) (hs:ev fr s= .own c 1 pre.length xs.length) (hrepl:∀ c' b',Repl c (.cells 1 (zas (D.k .u8) pre xs post)) c' b' h (hf c' b')) (hx:ev fr x= .s y)
   (hb:(xs.length+(zbl y).length)*bytes<=140737488355328/\xs.length+(zbl y).length<=9223372036854775807) (hk:∀ c' pre',K (.own c' 1 pre'.length (xs++zbl y).length) (hf c' (.cells 1 (zas (D.k .u8) pre' (xs++zbl y) [])))):OpA P o fr h K:=
 .of_run fun A M w0 ac w hr hv=>by
   have h1:=hv s (zcg ho hc ha).1
   have h2:=hv x (zcg ho hc ha).2
   rw [hs]at h1; rw [hx]at h2
   generalize hu2:ac.eval x=u2 at h2
   cases h2
   obtain⟨v',w',c',pre',g1,g2,g3,g4⟩:=append_coreS (ty:=o.type) (ds:=(zbl y).map (D.k .u8)) ht hr hu rfl rfl hrepl (by simp) h1 (by simpa using hb.1) (by simpa using hb.2)
   have hk':=hk c' pre'
   rw [List.length_append,zas,List.append_nil,List.map_append]at hk'
   rw [winL_mid,List.append_assoc]at g2 g3 g4
   rw [List.length_map]at g4
   refine⟨v',w',_,_,?_,hk',g2,g3,g4⟩
   simp only [execOp,ho,resolve,hc,Sem.run_bind,Sem.run_pure,Result.andThen_ok,invoke,builtin,hty,ha,List.map_toArray,List.map_cons,List.map_nil,hu2,g1]
theorem flats_u8 (k:IntKind)(xs:List Int):D.flats (xs.map (D.k k))=(xs.map (Value.int k)).map D.v:=by
 induction xs with
 |nil=>rfl
 |cons x xs ih=>rw [List.map_cons,flats_cons,ih]; rfl
theorem SrcV.nums {A M:Nat->Prop}{w0 w:World}{k:IntKind}{d:D}{ys:List Int}{v:Value}(hs:SrcV (D.k k) h 1 d ys)(hr:HRel A M w0 h w)(hv:V w (XX A h) d v):
   ∃ a cap,v= .slice a ys.length cap/\(ys= []\/∃ b oo,a=some ⟨b,oo,none⟩/\∀ i,i<ys.length->w.cell? ⟨b,oo+i,none⟩=some (.int k (ys.getD i 0))):=by
 obtain⟨a,cap,cs,h1,_,_,h4,h5⟩:=hs.is.val hr hv
 rw [flats_u8]at h4
 have h6:=vl_vals _ _ h4
 subst h6
 refine⟨a,cap,by simpa using h1,?_⟩
 rcases h5 with h5|⟨b,oo,h5,h6⟩
 · left; simpa using h5
 · right
   refine⟨b,oo,h5,fun i hi=>h6 i _ ?_⟩
   rw [List.getElem?_map,List.getElem?_eq_getElem hi,List.getD_eq_getElem?_getD,List.getElem?_eq_getElem hi]; rfl
theorem OpA.bytesStr {s d e:TypeId}{x:Operand}{ys:List Int}(ho:o.op= .convert s d x)(hs:P.underlying s=some (.slice e))(he:P.underlying e=some (.int .u8))(hd:P.underlying d=some .string)(hx:SrcV (D.k .u8) h 1 (ev fr x) ys)(hk:K (.s (bstr ys)) h):OpA P o fr h K:=
 .of_quiet (fun A M w0 ac w hr hv=>by
   have h1:=hv x (by simp [ho,Op.operands])
   generalize hu:ac.eval x=u at h1
   obtain⟨a,cap,rfl,h2⟩:=hx.nums hr h1
   refine⟨.string (bstr ys),?_,.v _⟩
   rcases h2 with rfl|⟨b,oo,rfl,h2⟩
   · cases a with
     |none=>simp only [execOp,ho,hu,Sem.run_bind,run_convert_bytes_nil w s e hs he _ _ d hd,Result.andThen_ok,Sem.run_pure]; rfl
     | some a=>
       simp [execOp,ho,hu,convert,run_underlying hs,run_underlying hd,run_underlying he,Conv.bytesToString,loadCells,loadCellsFrom]
       rfl
   · have:=run_convert_bytes_arg w s e hs he b oo ys.length cap ys rfl h2 d hd
     simp only [execOp,ho,hu,Sem.run_bind,this,Result.andThen_ok,Sem.run_pure]; rfl) hk
theorem HRel.allocG {A M:Nat->Prop}{w0 w w':World}{h:zbb}(hr:HRel A M w0 h w){sz:Nat}{es:List D}{cs:List Value}{arr:Array Value}{e:TypeId}(hsz:w'.heap.size=w.heap.size+1)(hold:∀ b,b<w.heap.size->w'.heap[b]? =w.heap[b]?)
   (hnewb:OwnCells w' w.heap.size arr e) (hos:w'.os=w.os) (htp:w'.tape=w.tape) (hout:w'.output=w.output/\w.drawn<=w'.drawn) (hok:∀ d∈es,d.ok sz) (hv:VL w (XX A h) (D.flats es) cs) (hp:cs <+: arr.toList):
   2*w.heap.size ∉ keys h/\HRel A M w0 ((2*w.heap.size,.cells sz es)::h) w'/\Mono w (XX A h) w' (XX A ((2*w.heap.size,.cells sz es)::h)):=by
 have hnew:2*w.heap.size ∉ keys h:=fun hc=>by have:=hr.lt hc (by omega); omega
 have hx:∀ b,b<w.heap.size->XX A ((2*w.heap.size,.cells sz es)::h) b->XX A h b:=fun b hb hx=>by
   rcases hx with hx|hx
   · exact .inl hx
   · simp at hx; rcases hx with hx|hx
     · omega
     · exact .inr hx
 have hm:Mono w (XX A h) w' (XX A ((2*w.heap.size,.cells sz es)::h)):=
   ⟨by omega,fun b hb _=>hold b hb,fun b hb=>zax (hold b hb),hx⟩
 refine⟨hnew,⟨?_,?_,?_,?_,hr.bound,fun b hb=>by have:=hr.old b hb; omega,?_,hr.glob.mono hm⟩,hm⟩
 · simp only [keys_cons,List.nodup_cons]; exact⟨hnew,hr.nodup⟩
 · intro c b hc
   rcases List.mem_cons.1 hc with hc|hc
   · cases hc
     have e2:2*w.heap.size / 2=w.heap.size:=by omega
     refine⟨hok,.inr ⟨by omega,arr,e,cs,?_,hv.mono hm,hp⟩⟩
     rw [e2]; exact hnewb
   · exact(hr.blk c b hc).mono hm (fun he=>hold _ ((hr.blk c b hc).lt he))
 · intro c hc ha
   rcases List.mem_cons.1 (by simpa using hc)with hc|hc
   · subst hc; have:=hr.old _ ha; have:=hr.ext.size; omega
   · exact hr.free c hc ha
 · intro c hc he
   rcases List.mem_cons.1 (by simpa using hc)with hc|hc
   · subst hc; have:=hr.ext.size; right; omega
   · exact hr.mine c hc he
 · exact hr.ext.trans ⟨hos,htp,hout.1,by omega,fun b hb _=>hold b hb,fun b hb=>zax (hold b hb),fun _=>hout.2⟩
def gcopy (xs ys:List Int):List Int:=ys.take (min ys.length xs.length)++xs.drop (min ys.length xs.length)
theorem zah (xs ys:List Int):(gcopy xs ys).length=xs.length:=by simp [gcopy]; omega
theorem OpA_copyW {t u e:TypeId}{bytes:Nat}{agg:Bool}{k:IntKind}{cl:Call}{s x:Operand}{c:Nat}{pre post:List D}{xs ys:List Int}{h':zbb}(ho:o.op= .call cl)(hc:cl.callee= .builtin .copy)(ha:cl.args= #[s,x])(hty:cl.argTypes= #[t,u])
   (ht:TS P t e 1 bytes agg) (hs:ev fr s= .own c 1 pre.length xs.length) (hrepl:Repl c (.cells 1 (zas (D.k k) pre xs post)) c (.cells 1 (zas (D.k k) pre (gcopy xs ys) post)) h h') (hx:SrcV (D.k k) h 1 (ev fr x) ys)
   (hk:K (.i (min ys.length xs.length:Nat)) h'):OpA P o fr h K:=
 OpA.of_run fun A M w0 ac w hr hv=>by
   have h1:=hv s (by simp [ho,Op.operands,Call.operands,hc,ha])
   have h2:=hv x (by simp [ho,Op.operands,Call.operands,hc,ha])
   rw [hs]at h1
   generalize hu:ac.eval s=vs at h1
   generalize hu2:ac.eval x=vx at h2
   obtain⟨xa,xcap,rfl,hx2⟩:=hx.nums hr h2
   have hfirst:∀ n,n<=ys.length->(Builtin.firstCells 1 n (.slice xa ys.length xcap)).run P w= .ok ((ys.take n).map (Value.int k)).toArray w:=by
     intro n hn
     rcases hx2 with rfl|⟨b,oo,rfl,hcell⟩
     · simp at hn; subst hn
       cases xa<;>simp [Builtin.firstCells,loadCells,loadCellsFrom]
     · have hl:((ys.take n).map (Value.int k)).length=n*1:=by simp; omega
       have:=run_firstCells' (P:=P) (w:=w) (sz:=1) (n:=n) (cap:=xcap) (a:=some ⟨b,oo,none⟩) hl (.inr ⟨b,oo,rfl,fun j c' hj=>by
         have hjn:j<n:=by have:=(List.getElem?_eq_some_iff.1 hj).1; simp at this; omega
         rw [hcell j (by omega)]
         rw [List.getElem?_map,List.getElem?_take_of_lt hjn,List.getElem?_eq_getElem (by omega)]at hj
         rw [List.getD_eq_getElem?_getD,List.getElem?_eq_getElem (by omega)]
         simpa using hj⟩)
       simpa [Builtin.firstCells]using this
   cases h1 with
   | @own _ _ _ _ cap a hcap hd=>
     obtain⟨hok,hb⟩:=hr.cells hrepl.has
     have hn:min ys.length xs.length<=ys.length:=Nat.min_le_left _ _
     rcases hd with⟨hc2,rfl,et0,n0,hsh,hn0⟩|⟨hz1,hz2⟩
     · rcases hb with⟨hodd,_⟩|⟨_,arr,et,ocs,hoa,hov,hop⟩
       · omega
       · have harr:(pre.length+cap)<=arr.size:=by
           simp only [hoa.shape,Option.some.injEq,Prod.mk.injEq]at hsh
           rw [<- hsh.2]at hn0; simpa using hn0
         obtain⟨w',arr',g1,g2,g3,g4,g5,g6,g7,g8,g9⟩:=run_storeCells' (P:=P) ((ys.take (min ys.length xs.length)).map (Value.int k)) 0 pre.length w arr hoa (by
           intro v hv'; obtain⟨n,_,rfl⟩:=List.mem_map.1 hv'; rfl) (by simp; omega)
         have hoks:∀ d∈zas (D.k k) pre xs post,d.ok 1:=hok
         have hfl:=zbq _ hok
         have hflp:(D.flats pre).length=pre.length:=by
           have:=zbq (sz:=1) pre (fun d hd=>hok d (by simp [zas,hd])); simpa using this
         rw [zas,zcc,zcc,flats_u8]at hov
         obtain⟨r1,r2⟩:=hr.write (sz':=1) (es':=zas (D.k k) pre (gcopy xs ys) post) (cs':=setAt ocs pre.length ((ys.take (min ys.length xs.length)).map (Value.int k))) hrepl hc2 (by
             intro d hd
             rcases List.mem_append.1 hd with hd|hd
             · exact hok d (by simp [zas,hd])
             · rcases List.mem_append.1 hd with hd|hd
               · obtain⟨n,_,rfl⟩:=List.mem_map.1 hd; exact .of rfl
               · exact hok d (by simp [zas,hd])) hoa g2 g4 (by
             rw [zas,zcc,zcc,flats_u8,gcopy,List.map_append,List.map_append]
             have hv1:VL w (XX A h) (setAt (D.flats pre++((xs.map (Value.int k)).map D.v++D.flats post)) pre.length (((ys.take (min ys.length xs.length)).map (Value.int k)).map D.v)) (setAt ocs pre.length ((ys.take (min ys.length xs.length)).map (Value.int k))):=by
               refine VL.setAt ?_ _ hov
               generalize (ys.take (min ys.length xs.length)).map (Value.int k)=l
               induction l with
               |nil=>exact .nil
               |cons x l ih=>exact .cons (.v _) ih
             rw [setAt_eq _ _ _ (by simp [hflp]; omega)]at hv1
             have e1:(D.flats pre++((xs.map (Value.int k)).map D.v++D.flats post)).take pre.length=D.flats pre:=by rw [<- hflp]; simp
             have e2:(D.flats pre++((xs.map (Value.int k)).map D.v++D.flats post)).drop (pre.length+(((ys.take (min ys.length xs.length)).map (Value.int k)).map D.v).length)=((xs.drop (min ys.length xs.length)).map (Value.int k)).map D.v++D.flats post:=by
               rw [<- hflp,<-List.drop_drop,List.drop_left]
               simp only [List.length_map,List.length_take,Nat.min_eq_left hn]
               rw [List.drop_append_of_le_length (by simp; omega)]
               simp
             rw [e1,e2]at hv1
             simpa [List.append_assoc]using hv1) (by
             have hle:ocs.length<=arr.toList.length:=hop.length_le
             have hol:ocs.length=(zas (D.k k) pre xs post).length:=by
               rw [<- hov.length,<-flats_u8,<-zcc,<-zcc]; rw [hfl,Nat.mul_one]
             obtain⟨tl,htl⟩:=hop
             rw [Nat.add_zero]at g3
             rw [g3,<-htl]
             refine⟨tl,?_⟩
             have hfit:pre.length+((ys.take (min ys.length xs.length)).map (Value.int k)).length<=ocs.length:=by rw [hol]; simp [zas]; omega
             rw [setAt_eq _ _ _ hfit,setAt_eq _ _ _ (by rw [List.length_append]; omega),List.take_append_of_le_length (by omega),List.drop_append_of_le_length (by omega)]
             simp [List.append_assoc]) g5 g6 g7 g8 g9
         refine⟨_,w',_,_,?_,hk,r1,r2,.v _⟩
         rw [Nat.mul_one]at*
         simp only [execOp,ho,resolve,hc,Sem.run_bind,Sem.run_pure,Result.andThen_ok,invoke,builtin,hty,ha,List.map_toArray,List.map_cons,List.map_nil,hu,hu2,Builtin.copy_,Array.getElem?_eq_getElem,List.size_toArray,List.length_cons,List.length_nil,Nat.zero_add,Nat.reduceLT,Nat.reduceAdd,List.getElem_toArray,List.getElem_cons_zero,List.getElem_cons_succ,
           run_underlying ht.desc,ht.elem.size,Builtin.lenOf,hfirst _ hn,g1,goInt]
     · have hx0:xs= []:=List.eq_nil_of_length_eq_zero hz1
       subst hx0
       have hg:gcopy [] ys= []:=by simp [gcopy]
       rw [hg]at hrepl
       have e:h'=h:=by obtain⟨h1,h2,e1,e2⟩:=hrepl.split; rw [e1,e2]
       subst e
       refine⟨_,w,_,_,?_,hk,hr,Mono.refl _ _,.v _⟩
       have hf0:=hfirst 0 (Nat.zero_le _)
       simp only [List.take_zero,List.map_nil]at hf0
       simp only [execOp,ho,resolve,hc,Sem.run_bind,Sem.run_pure,Result.andThen_ok,invoke,builtin,hty,ha,List.map_toArray,List.map_cons,List.map_nil,hu,hu2,Builtin.copy_,Array.getElem?_eq_getElem,List.size_toArray,List.length_cons,List.length_nil,Nat.zero_add,Nat.reduceLT,Nat.reduceAdd,List.getElem_toArray,List.getElem_cons_zero,List.getElem_cons_succ,
         run_underlying ht.desc,ht.elem.size,Builtin.lenOf,Nat.min_zero,Nat.min_eq_right (Nat.zero_le _),hf0,goInt]
       cases a<;>simp [storeCells]
end
end Go.Lic
set_option linter.all false
namespace Go.Lic
variable [Fl]
abbrev zci {α:Type} [Inhabited α](n:Nat)(e:α->D)(l:List α):List D:=(List.range n).map fun i=>e (l.getD i default)
section
variable {α:Type} [Inhabited α]{e:α->D}{n off:Nat}{l:List α}{A B:List D}{j:Int}
theorem arrC_length :(zci n e l).length=n:=by simp
theorem arrAt (hA:A.length=off)(hj:inL j n):(A++(zci n e l++B))[off+j.toNat*1]? =some (e (gi l j)):=by
 rw [Nat.mul_one,List.getElem?_append_right (by omega),hA,Nat.add_sub_cancel_left,List.getElem?_append_left (by rw [arrC_length]; omega)]
 simp [show j.toNat<n by omega,gi]
theorem arrAt0 (hj:inL j n):(zci n e l)[0+j.toNat*1]? =some (e (gi l j)):=by
 have:=arrAt (e:=e) (l:=l) (A:= []) (B:= []) (off:=0) rfl hj
 simpa using this
theorem arrSet {v:α}(hA:A.length=off)(hj:inL j n)(hl:l.length=n):A++(zci n e (si l j v)++B)=setAt (A++(zci n e l++B)) (off+j.toNat*1) [e v]:=by
 rw [Nat.mul_one]
 simp only [setAt]
 rw [List.set_append_right _ _ (by omega),hA,Nat.add_sub_cancel_left,List.set_append_left _ _ (by rw [arrC_length]; omega)]
 congr 2
 apply List.ext_getElem?
 intro i
 rw [List.getElem?_set]
 by_cases hi:i<n
 · simp only [zci,List.getElem?_map,List.getElem?_range hi,Option.map_some,List.length_map,List.length_range]
   split
   · rename_i h; subst h
     rw [if_pos (by omega),si,List.getD_eq_getElem?_getD,List.getElem?_set]
     simp [show j.toNat<l.length by omega]
   · rename_i h
     rw [si,List.getD_eq_getElem?_getD,List.getElem?_set,if_neg (by omega),List.getD_eq_getElem?_getD]
 · rw [List.getElem?_eq_none (by simp; omega),if_neg (by omega),List.getElem?_eq_none (by simp; omega)]
theorem arrSet0 {v:α}(hj:inL j n)(hl:l.length=n):zci n e (si l j v)=setAt (zci n e l) (0+j.toNat*1) [e v]:=by
 have:=arrSet (e:=e) (l:=l) (A:= []) (B:= []) (off:=0) (v:=v) rfl hj hl
 simpa using this
theorem arrFit (hA:A.length=off)(hj:inL j n):off+j.toNat*1+1<=(A++(zci n e l++B)).length:=by
 rw [List.length_append,List.length_append,arrC_length]; omega
theorem arrFit0 (hj:inL j n):0+j.toNat*1+1<=(zci n e l).length:=by rw [arrC_length]; omega
theorem arrPut {l':List α}(hA:A.length=off):A++(zci n e l'++B)=setAt (A++(zci n e l++B)) off (zci n e l'):=by
 rw [setAt_eq _ _ _ (by simp; omega)]
 rw [<- hA,List.take_left,List.append_assoc]
 congr 2
 rw [<- List.drop_drop,List.drop_left,List.drop_append_of_le_length (by rw [arrC_length,arrC_length]; omega)]
 rw [List.drop_eq_nil_of_le (by rw [arrC_length,arrC_length]; omega)]; rfl
theorem arrPut2 {A1 A2:List D}{l':List α}(hA:(A1++A2).length=off):A1++(A2++(zci n e l'++B))=setAt (A1++(A2++(zci n e l++B))) off (zci n e l'):=by
 have:=arrPut (e:=e) (n:=n) (l:=l) (l':=l') (B:=B) hA
 rw [List.append_assoc,List.append_assoc]at this; exact this
theorem arrPutH {l':List α}:zci n e l'++B=setAt (zci n e l++B) 0 (zci n e l'):=arrPut (A:= []) rfl
end
section
variable {P:Program}{o:Oper}{fr:Nat->D}{h:zbb}{K:D->zbb->Prop}
theorem OpA.aindexV {t et:TypeId}{len:Nat}{x ix:Operand}{kd k:IntKind}{j:Int}{l:List Int}(ho:o.op= .index t x ix)(ht:P.underlying t=some (.array len et))(hte:TI P et 1 false)(hx:ev fr x=zcb len (D.k k) l)
   (hi:ev fr ix= .v (.int kd j)) (hb:inL j len) (hk:K (.v (.int k (gi l j))) h):OpA P o fr h K:=
 .of_quiet (fun A M w0 a w _ hv=>by
   have h1:=hv x (by simp [ho,Op.operands])
   have h2:=hv ix (by simp [ho,Op.operands])
   rw [hx]at h1; rw [hi]at h2
   generalize hu:a.eval x=u at h1
   generalize hu2:a.eval ix=u2 at h2
   cases h2
   cases h1 with
   | @agg _ vs h1=>
     obtain⟨v,h3,h4⟩:=h1.get j.toNat (D.k k (gi l j)) (by
       have:=arrAt0 (e:=D.k k) (l:=l) hb
       simpa using this)
     cases h4
     refine⟨.int k (gi l j),?_,.v _⟩
     have hp:(part et vs.toArray (j.toNat*1)).run P w= .ok (.int k (gi l j)) w:=by
       simp only [part,Sem.run_bind,hte.isAgg,Result.andThen_ok,Bool.false_eq_true,if_false,Nat.mul_one]
       simp [h3]
     simp only [execOp,ho,hu,hu2,Instr.index,asIntOf,Sem.run_bind,Sem.run_pure,Result.andThen_ok,run_underlying ht,Sem.run_ite,if_pos (And.intro hb.1 hb.2),hte.size,hp]) hk
theorem run_equal_arr {t et:TypeId}{len:Nat}{k:IntKind}(ht:P.underlying t=some (.array len et))(hte:TI P et 1 false)(hu:P.underlying et=some (.int k))(a b:List Int)(w:World)(d:Nat):
   (Op.equalIn (d+2) t (.agg ((List.range len).map fun i=>Value.int k (a.getD i 0)).toArray) (.agg ((List.range len).map fun i=>Value.int k (b.getD i 0)).toArray)).run P w= .ok (aeq len a b) w:=by
 have hi:∃ i,P.info? et=some i:=by
   have:=hte.size w
   cases h:P.info? et with
   |none=>simp [sizeOf,typeInfo,h]at this
   |some i=>exact⟨i,rfl⟩
 obtain⟨i0,hi0⟩:=hi
 have hsz:P.cellsOf et=1:=by have:=hte.size w; simp [sizeOf,typeInfo,hi0]at this; simp [Program.cellsOf,hi0,this]
 have hp : ∀ (xs : Array Value) i (w : World), (part et xs i).run P w = (match xs[i]? with | some v => .ok v w | none => .halt (.stuck "part: no such cell") w) := by
   intro xs i w
   simp only [part,Sem.run_bind,hte.isAgg,Result.andThen_ok,Bool.false_eq_true,if_false]
   cases xs[i]? <;>simp
 have h3:∀ n a c w,(Op.equalIn (n+1) et (.int k a) (.int k c)).run P w= .ok (a==c) w:=by
   intro n a c w
   simp [Op.equalIn,run_underlying hu]
 rw [run_equalIn_array w (d+1) _ _ ht hi0,hsz]
 have key:∀ is:List Nat,(∀ i∈is,i<len)->(Op.eqItems (d+1) et 1 ((List.range len).map fun i=>Value.int k (a.getD i 0)).toArray ((List.range len).map fun i=>Value.int k (b.getD i 0)).toArray is).run P w= .ok (is.all fun i=>a.getD i 0==b.getD i 0) w:=by
   intro is
   induction is with
   |nil=>intro _; simp [Op.eqItems]
   | cons i is ih=>
     intro hlt
     have hl:=hlt i (by simp)
     have ih':=ih (fun j hj=>hlt j (by simp [hj]))
     simp only [List.getD_eq_getElem?_getD]at ih' ⊢
     by_cases hq:a[i]?.getD 0=b[i]?.getD 0
     · simp [Op.eqItems,hp,hl,h3 d,hq,ih']
     · simp [Op.eqItems,hp,hl,h3 d,hq]
 exact key _ (by simp)
theorem OpA.arrcmp {op:BinOp}{t t2 et:TypeId}{x y:Operand}{len:Nat}{k:IntKind}{l m:List Int}{b:Bool}(ho:o.op= .binOp op t x y t2)(hm:P.eqGuardType P.depth t=false)(ht:P.underlying t=some (.array len et))(hte:TI P et 1 false)(hu:P.underlying et=some (.int k))
   (hx:ev fr x=zcb len (D.k k) l) (hy:ev fr y=zcb len (D.k k) m) (hop:(op= .eql/\b=aeq len l m)\/(op= .neq/\b= !aeq len l m)) (hk:K (.b b) h):OpA P o fr h K:=by
 have e:∀ l:List Int,zcb len (D.k k) l= .agg (((List.range len).map fun i=>Value.int k (l.getD i 0)).map D.v):=fun l=>by
   simp only [zcb,List.map_map]; congr 1
 exact .aggcmp (xs:=(List.range len).map fun i=>Value.int k (l.getD i 0)) (ys:=(List.range len).map fun i=>Value.int k (m.getD i 0)) ho hm (by rw [hx,e]) (by rw [hy,e]) (fun w=>run_equal_arr ht hte hu l m w 9998) hop hk
theorem OpA.istrBytes {s d e:TypeId}{x:Operand}{y:ByteArray}(ho:o.op= .convert s d x)(hs:P.underlying s=some .string)(hd:P.underlying d=some (.slice e))(he:P.underlying e=some (.int .u8))(hx:ev fr x= .s y)
   (hk:K (.list 1 ((zbl y).map (D.k .u8))) h):OpA P o fr h K:=
 .of_run fun A M w0 a w hr hv=>by
   have h1:=hv x (by simp [ho,Op.operands])
   rw [hx]at h1
   generalize hu:a.eval x=u at h1
   cases h1
   have hrun:=Lib.run_convert_string_bytes (P:=P) w s d e y hs hd he
   have hnew:OwnCells (Lib.bytesWorld w e y) w.heap.size (Lib.bytesCells w e y) e:=⟨_,Lib.bytesWorld_at_new w e y,.inr (Nat.le_refl _)⟩
   have hvl:VL w (XX A h) (D.flats ((zbl y).map (D.k .u8))) (y.data.toList.map fun b=>Value.int .u8 b.toNat):=by
     rw [flats_u8,zbl]
     generalize y.data.toList=l
     induction l with
     |nil=>exact .nil
     |cons x l ih=>exact .cons (.v _) ih
   have hokb:∀ d∈(zbl y).map (D.k .u8),d.ok 1:=fun d hd=>by obtain⟨n,_,rfl⟩:=List.mem_map.1 hd; exact .of rfl
   obtain⟨hnk,h5,h6⟩:=hr.allocG (w':=Lib.bytesWorld w e y) (sz:=1) (es:=(zbl y).map (D.k .u8)) (cs:=y.data.toList.map fun b=>Value.int .u8 b.toNat) (Lib.bytesWorld_size w e y) (fun b hb=>Lib.bytesWorld_at_old w e y b hb) hnew rfl rfl ⟨rfl,by show w.drawn<=w.drawn+1; omega⟩ hokb hvl (by simp [Lib.bytesCells])
   obtain⟨h7,h8⟩:=h5.tail
   have hsz:(zbl y).length=y.size:=by simp [zbl]
   have hnA:¬XX A h w.heap.size:=fun hx=>by
     rcases hx with hx|hx
     · have:=hr.old _ hx; omega
     · exact hnk hx
   refine⟨.slice (some ⟨w.heap.size,0,none⟩) y.size (grownCap w y.size 0 e),Lib.bytesWorld w e y,_,_,by simp only [execOp,ho,hu,Sem.run_bind,hrun,Result.andThen_ok,Sem.run_pure],hk,h7,h6.trans h8,?_⟩
   have hl:((zbl y).map (D.k .u8)).length=y.size:=by simp [zbl]
   rw [<- hl]
   refine .list (b:=w.heap.size) (o:=0) hokb (hvl.mono (h6.trans h8)) (fun _=>rfl) (.inr ⟨hnA,fun j c hj=>?_⟩) (by rw [hl]; simp [grownCap,Question.cut])
   have:=own_cell hnew (cs:=y.data.toList.map fun b=>Value.int .u8 b.toNat) (by simp [Lib.bytesCells]) j c hj
   simpa using this
theorem OkL.of {fr:Nat->D}{sz:Nat}:∀ {l:List (Nat×Operand)},(∀ p∈l,(ev fr p.2).ok sz)->OkL fr sz l
 | [],_=> .nil
 |p::l,h=> .cons (h p (by simp)) (OkL.of fun q hq=>h q (by simp [hq]))
theorem OpA.buildArrV {t et:TypeId}{len:Nat}{agg:Bool}{k:IntKind}{parts:Array (Nat×Operand)}{zc:Array Value}{xs:List Int}(ho:o.op= .build t parts)(ht:P.underlying t=some (.array len et))(hte:TI P et 1 agg)(hz:(P.info? t).bind (·.zero)=some (.agg zc))
   (hzl:Nat.beq zc.size len=true) (hidx:parts.toList.map (·.1)=List.range' 0 xs.length) (hxs:(parts.toList.map fun p=>ev fr p.2)=xs.map (D.k k)) (hlen:xs.length=len) (hk:K (zcb len (D.k k) xs) h):OpA P o fr h K:=by
 have hzs:zc.size=len:=Nat.eq_of_beq_eq_true hzl
 have hok:∀ d∈xs.map (D.k k),d.ok 1:=fun d hd=>by obtain⟨n,_,rfl⟩:=List.mem_map.1 hd; exact .of rfl
 have e:zcb len (D.k k) xs= .agg (xs.map (D.k k)):=by
   unfold zcb
   congr 1
   apply List.ext_getElem (by simp [hlen])
   intro i h1 h2
   simp at h1 h2
   simp [List.getD_eq_getElem?_getD,List.getElem?_eq_getElem h2]
 rw [e]at hk
 have hfl:∀ l:List Int,D.flats (l.map (D.k k))=l.map (D.k k):=fun l=>by
   induction l with
   |nil=>rfl
   |cons x l ih=>rw [List.map_cons,flats_cons,ih]; rfl
 refine .buildArr (zs:=zc.toList.map D.v) ho ht hte hz (fun w X=>?_) (OkL.of (fun p hp=>?_)) ?_ hk
 · generalize zc.toList=l
   induction l with
   |nil=>exact .nil
   |cons x l ih=>exact .cons (.v _) ih
 · have:ev fr p.2∈xs.map (D.k k):=by rw [<- hxs]; exact List.mem_map.2 ⟨p,hp,rfl⟩
   exact hok _ this
 · have h1:=fillD_row (sz:=1) (xs.map (D.k k)) 0 (zc.toList.map D.v) (parts.toList.map fun p=>(p.1,ev fr p.2)) hok (by simp [hzs,hlen]) (by rw [List.map_map,List.length_map]; exact hidx) (by rw [List.map_map]; exact hxs)
   rw [h1,hfl]
   simp [hzs,hlen]
end
end Go.Lic
namespace Go.Lic
variable [Fl]
section
variable {P:Program}{n:Nat}{ops:Array Oper}{Q:Post}{fr:Nat->D}{h:zbb}{o:Oper}{l:List Oper}{K:D->zbb->Prop}
theorem wL {d:Nat}(hh:OpA P o fr h fun x h'=>wpL P n ops l Q (upd fr d x) h')(hg:o.guard=none:=by exact rfl)(hd:o.dst=some d:=by exact rfl)(hn:Nat.blt d n=true:=by exact rfl):wpL P n ops (o::l) Q fr h:=wpL_op hg hd hn hh
theorem wE (hh:OpA P o fr h fun _ h'=>wpL P n ops l Q fr h')(hg:o.guard=none:=by exact rfl)(hd:o.dst=none:=by exact rfl):wpL P n ops (o::l) Q fr h:=wpL_eff hg hd hh
theorem wG {d j s:Nat}{want b:Bool}(hh:OpA P o fr h fun x h'=>wpL P n ops l Q (upd fr d x) h')(hg:o.guard=some (j,want):=by exact rfl)(hj:(ops[j]?).bind (·.dst)=some s:=by exact rfl)(hb:fr s= .b b:=by exact rfl)(hne:(b==want)=true:=by exact rfl)(hd:o.dst=some d:=by exact rfl)(hn:Nat.blt d n=true:=by exact rfl):wpL P n ops (o::l) Q fr h:=wpL_opg hg hj hb hne hd hn hh
theorem wS {d j s:Nat}{want b:Bool}(hh:wpL P n ops l Q (upd fr d (.v undef)) h)(hg:o.guard=some (j,want):=by exact rfl)(hj:(ops[j]?).bind (·.dst)=some s:=by exact rfl)(hb:fr s= .b b:=by exact rfl)(hne:(b==want)=false:=by exact rfl)(hd:o.dst=some d:=by exact rfl)(hn:Nat.blt d n=true:=by exact rfl):wpL P n ops (o::l) Q fr h:=wpL_skip hg hj hb hne hd hn hh
theorem OpA.m {x:Operand}{d:D}(hk:K d h)(ho:o.op= .move x:=by exact rfl)(hd:ev fr x=d:=by with_reducible conv=>lhs; whnf):OpA P o fr h K:= .mv ho hd hk
theorem OpA.a {x:Operand}{d:D}(hk:K d h)(ho:o.op= .assign x:=by exact rfl)(hd:ev fr x=d:=by with_reducible conv=>lhs; whnf):OpA P o fr h K:= .asn ho hd hk
theorem OpA.p {c x y:Operand}{b:Bool}{d:D}(hk:K d h)(ho:o.op= .pick c x y:=by exact rfl)(hc:ev fr c= .b b:=by exact rfl)(hd:sel b (ev fr x) (ev fr y)=d:=by with_reducible conv=>lhs; whnf):OpA P o fr h K:= .pck ho hc hd hk
end
section
variable {P:Program}{ops:Array Oper}{h:zbb}{fr:Nat->D}{C:(Nat->D)->Prop}{o:Oper}{l:List Oper}{d:D}
theorem dL (h1:OpA P o fr h fun d' h'=>d'=d/\h'=h)(h2:DetK P ops h l (updO fr o.dst d) C)(hg:o.guard=none:=by exact rfl):DetK P ops h (o::l) fr C:= .op hg h1 h2
theorem dG {j s:Nat}{want b:Bool}(h1:OpA P o fr h fun d' h'=>d'=d/\h'=h)(h2:DetK P ops h l (updO fr o.dst d) C)(hg:o.guard=some (j,want):=by exact rfl)(hj:(ops[j]?).bind (·.dst)=some s:=by exact rfl)(hb:fr s= .b b:=by exact rfl)(hne:(b==want)=true:=by exact rfl):DetK P ops h (o::l) fr C:= .opg hg hj hb hne h1 h2
theorem dS {j s:Nat}{want b:Bool}(h2:DetK P ops h l (updO fr o.dst (.v undef)) C)(hg:o.guard=some (j,want):=by exact rfl)(hj:(ops[j]?).bind (·.dst)=some s:=by exact rfl)(hb:fr s= .b b:=by exact rfl)(hne:(b==want)=false:=by exact rfl):DetK P ops h (o::l) fr C:= .skip hg hj hb hne h2
end
end Go.Lic
namespace Go.Lic
variable [Fl]
section
variable {P:Program}{o:Oper}{fr:Nat->D}{h:zbb}{K:D->zbb->Prop}
section
variable {t t2:TypeId}{x y:Operand}{k:IntKind}{a b:Int}
theorem oEq (hk:K (.b (a==b)) h)(ho:o.op= .binOp .eql t x y t2:=by exact rfl)(hx:ev fr x= .v (.int k a):=by exact rfl)(hy:ev fr y= .v (.int k b):=by exact rfl):OpA P o fr h K:= .eql hx hy ho hk
theorem oNe (hk:K (.b (a != b)) h)(ho:o.op= .binOp .neq t x y t2:=by exact rfl)(hx:ev fr x= .v (.int k a):=by exact rfl)(hy:ev fr y= .v (.int k b):=by exact rfl):OpA P o fr h K:= .neq hx hy ho hk
theorem oLt (hk:K (.b (decide (a<b))) h)(ho:o.op= .binOp .lss t x y t2:=by exact rfl)(hx:ev fr x= .v (.int k a):=by exact rfl)(hy:ev fr y= .v (.int k b):=by exact rfl):OpA P o fr h K:= .lss hx hy ho hk
theorem oLe (hk:K (.b (decide (a<=b))) h)(ho:o.op= .binOp .leq t x y t2:=by exact rfl)(hx:ev fr x= .v (.int k a):=by exact rfl)(hy:ev fr y= .v (.int k b):=by exact rfl):OpA P o fr h K:= .leq hx hy ho hk
theorem oGt (hk:K (.b (decide (a>b))) h)(ho:o.op= .binOp .gtr t x y t2:=by exact rfl)(hx:ev fr x= .v (.int k a):=by exact rfl)(hy:ev fr y= .v (.int k b):=by exact rfl):OpA P o fr h K:= .gtr hx hy ho hk
theorem oGe (hk:K (.b (decide (a>=b))) h)(ho:o.op= .binOp .geq t x y t2:=by exact rfl)(hx:ev fr x= .v (.int k a):=by exact rfl)(hy:ev fr y= .v (.int k b):=by exact rfl):OpA P o fr h K:= .geq hx hy ho hk
end
theorem oNt {t:TypeId}{x:Operand}{b:Bool}(hk:K (.b (!b)) h)(ho:o.op= .unOp .not t x:=by exact rfl)(hx:ev fr x= .b b:=by exact rfl):OpA P o fr h K:= .not ho hx hk
theorem oEx {x:Operand}{ix:Nat}{ds:List D}{d:D}(hk:K d h)(ho:o.op= .extract x ix:=by exact rfl)(hx:ev fr x= .tup ds:=by exact rfl)(hd:ds[ix]? =some d:=by exact rfl):OpA P o fr h K:= .extract ho hx hd hk
theorem oAd {t t2:TypeId}{x y:Operand}{a b:Int}(hb: -9223372036854775808<=a+b/\a+b<=9223372036854775807)(hk:K (.i (a+b)) h)(ho:o.op= .binOp .add t x y t2:=by exact rfl)(hx:ev fr x= .i a:=by exact rfl)(hy:ev fr y= .i b:=by exact rfl):OpA P o fr h K:= .addi ho hx hy hb hk
theorem oSb {t t2:TypeId}{x y:Operand}{a b:Int}(hb: -9223372036854775808<=a-b/\a-b<=9223372036854775807)(hk:K (.i (a-b)) h)(ho:o.op= .binOp .sub t x y t2:=by exact rfl)(hx:ev fr x= .i a:=by exact rfl)(hy:ev fr y= .i b:=by exact rfl):OpA P o fr h K:= .subi ho hx hy hb hk
theorem oLd {t:TypeId}{x:Operand}{c sz i k:Nat}{es:List D}{e d:D}(ht:TI P t 1 false)(hk:K d h)(ho:o.op= .load t x:=by exact rfl)(hx:ev fr x= .ptr c sz i k:=by exact rfl)(hh:Has c (.cells sz es) h:=by repeat (first|exact .head|apply Has.tail))(he:es[i]? =some e:=by exact rfl)(hd:e.flat[k]? =some d:=by exact rfl):OpA P o fr h K:= .load ho ht hx hh he hd hk
theorem oLw {t:TypeId}{x:Operand}{c sz i n:Nat}{es:List D}{e:D}(ht:TI P t n true)(hk:K e h)(ho:o.op= .load t x:=by exact rfl)(hx:ev fr x= .ptr c sz i 0:=by exact rfl)(hn:Nat.beq sz n=true:=by exact rfl)(hh:Has c (.cells sz es) h:=by repeat (first|exact .head|apply Has.tail))(he:es[i]? =some e:=by exact rfl)(hag:∃ ds,e= .agg ds:=by exact⟨_,rfl⟩):OpA P o fr h K:= .load_whole ho ht hx hn hh he hag hk
theorem oIl {t:TypeId}{x:Operand}{k:Nat}{e d:D}(ht:TI P t 1 false)(hk:K d h)(ho:o.op= .load t x:=by exact rfl)(hx:ev fr x= .iptr e k:=by exact rfl)(hd:e.flat[k]? =some d:=by exact rfl):OpA P o fr h K:= .iload ho ht hx hd hk
theorem oIw {t:TypeId}{x:Operand}{n:Nat}{e:D}(ht:TI P t n true)(hk:K e h)(ho:o.op= .load t x:=by exact rfl)(hx:ev fr x= .iptr e 0:=by exact rfl)(hag:∃ ds,e= .agg ds/\ds.length=n:=by exact⟨_,rfl,rfl⟩):OpA P o fr h K:= .iload_whole ho ht hx hag hk
theorem oFa {s:TypeId}{x:Operand}{f off c sz i k:Nat}(hf:zat P s f=some off)(hk:K (.ptr c sz i (k+off)) h)(ho:o.op= .fieldAddr s x f:=by exact rfl)(hx:ev fr x= .ptr c sz i k:=by exact rfl):OpA P o fr h K:= .fieldAddr ho hf hx hk
theorem oFi {s:TypeId}{x:Operand}{f off k:Nat}{e:D}(hf:zat P s f=some off)(hk:K (.iptr e (k+off)) h)(ho:o.op= .fieldAddr s x f:=by exact rfl)(hx:ev fr x= .iptr e k:=by exact rfl):OpA P o fr h K:= .ifieldAddr ho hf hx hk
theorem oLn {t:TypeId}{c:Call}{x:Operand}{e:TypeId}{n:Nat}(ht:P.underlying t=some (.slice e))(hk:K (.i n) h)(ho:o.op= .call c:=by exact rfl)(hc:c.callee= .builtin .len:=by exact rfl)(ha:c.args= #[x]:=by exact rfl)(hty:c.argTypes= #[t]:=by exact rfl)
   (hx:(∃ sz ds,ev fr x= .list sz ds/\n=ds.length)\/(∃ c sz i,ev fr x= .own c sz i n)\/(ev fr x= .v (.slice none 0 0)/\n=0):=by exact .inl ⟨_,_,rfl,(List.length_map _).symm⟩):OpA P o fr h K:= .len ho hc ha hty ht hx hk
theorem oSl {t:TypeId}{c:Call}{x:Operand}{s:ByteArray}(ht:P.underlying t=some .string)(hk:K (.i s.size) h)(ho:o.op= .call c:=by exact rfl)(hc:c.callee= .builtin .len:=by exact rfl)(ha:c.args= #[x]:=by exact rfl)(hty:c.argTypes= #[t]:=by exact rfl)(hx:ev fr x= .s s:=by exact rfl):OpA P o fr h K:= .slen ho hc ha hty ht hx hk
theorem oIx {T:Type} [Inhabited T]{enc:T->D}{t et:TypeId}{bytes:Nat}{agg:Bool}{x ix:Operand}{kd:IntKind}{i:Int}{sz:Nat}{l:List T}(ht:TS P t et sz bytes agg)(hb:inL i l.length)(hk:K (.iptr (enc (gi l i)) 0) h)(ho:o.op= .indexAddr t x ix:=by exact rfl)(hsz:Nat.blt 0 sz=true:=by exact rfl)(hx:ev fr x= .list sz (l.map enc):=by exact rfl)(hi:ev fr ix= .v (.int kd i):=by exact rfl):OpA P o fr h K:= .iixV ho ht hsz hx hi hb hk
theorem oIv {t et:TypeId}{bytes:Nat}{agg:Bool}{x ix:Operand}{kd:IntKind}{i:Int}{c sz k len:Nat}(ht:TS P t et sz bytes agg)(hb:inL i len)(hk:K (.ptr c sz (k+i.toNat) 0) h)(ho:o.op= .indexAddr t x ix:=by exact rfl)(hx:ev fr x= .own c sz k len:=by exact rfl)(hi:ev fr ix= .v (.int kd i):=by exact rfl):OpA P o fr h K:= .ixV ho ht hx hi hb hk
theorem oCl {fresh:Bool}{cl:Call}{g:Operand}{f:Nat}{fs cs:List D}{R:D->Prop}(he:entersB P f=true)(hf:Fun fresh P f (fs++cl.args.toList.map (ev fr)++cs) R)(hk:∀ d,R d->K d h)(ho:o.op= .call cl:=by exact rfl)(hc:cl.callee= .value g:=by exact rfl)(hg:ev fr g= .fn (.func f) fs cs:=by exact rfl):OpA P o fr h K:= .call ho hc hg he hf hk
theorem pLd {t:TypeId}{x:Operand}{c sz i k:Nat}{es:List D}{e d:D}(hk:K d h)(ho:o.op= .load t x:=by exact rfl)(ht:TI P t 1 false)(hx:ev fr x= .ptr c sz i k:=by exact rfl)(hh:Has c (.cells sz es) h:=by repeat (first|exact .head|apply Has.tail))(he:es[i]? =some e:=by exact rfl)(hd:e.flat[k]? =some d:=by exact rfl):OpA P o fr h K:= .load ho ht hx hh he hd hk
theorem pLw {t:TypeId}{x:Operand}{c sz i n:Nat}{es:List D}{e:D}(hk:K e h)(ho:o.op= .load t x:=by exact rfl)(ht:TI P t n true)(hx:ev fr x= .ptr c sz i 0:=by exact rfl)(hn:Nat.beq sz n=true:=by exact rfl)(hh:Has c (.cells sz es) h:=by repeat (first|exact .head|apply Has.tail))(he:es[i]? =some e:=by exact rfl)(hag:∃ ds,e= .agg ds:=by exact⟨_,rfl⟩):OpA P o fr h K:= .load_whole ho ht hx hn hh he hag hk
theorem pIl {t:TypeId}{x:Operand}{k:Nat}{e d:D}(hk:K d h)(ho:o.op= .load t x:=by exact rfl)(ht:TI P t 1 false)(hx:ev fr x= .iptr e k:=by exact rfl)(hd:e.flat[k]? =some d:=by exact rfl):OpA P o fr h K:= .iload ho ht hx hd hk
theorem pIw {t:TypeId}{x:Operand}{n:Nat}{e:D}(hk:K e h)(ho:o.op= .load t x:=by exact rfl)(ht:TI P t n true)(hx:ev fr x= .iptr e 0:=by exact rfl)(hag:∃ ds,e= .agg ds/\ds.length=n:=by exact⟨_,rfl,rfl⟩):OpA P o fr h K:= .iload_whole ho ht hx hag hk
theorem pFa {s:TypeId}{x:Operand}{f off c sz i k:Nat}(hk:K (.ptr c sz i (k+off)) h)(ho:o.op= .fieldAddr s x f:=by exact rfl)(hf:zat P s f=some off)(hx:ev fr x= .ptr c sz i k:=by exact rfl):OpA P o fr h K:= .fieldAddr ho hf hx hk
theorem pFi {s:TypeId}{x:Operand}{f off k:Nat}{e:D}(hk:K (.iptr e (k+off)) h)(ho:o.op= .fieldAddr s x f:=by exact rfl)(hf:zat P s f=some off)(hx:ev fr x= .iptr e k:=by exact rfl):OpA P o fr h K:= .ifieldAddr ho hf hx hk
theorem pLn {t:TypeId}{c:Call}{x:Operand}{e:TypeId}{n:Nat}(hk:K (.i n) h)(ho:o.op= .call c:=by exact rfl)(hc:c.callee= .builtin .len:=by exact rfl)(ha:c.args= #[x]:=by exact rfl)(hty:c.argTypes= #[t]:=by exact rfl)(hx:(∃ sz ds,ev fr x= .list sz ds/\n=ds.length)\/(∃ c sz i,ev fr x= .own c sz i n)\/(ev fr x= .v (.slice none 0 0)/\n=0):=by exact .inl ⟨_,_,rfl,(List.length_map _).symm⟩)(ht:P.underlying t=some (.slice e)):OpA P o fr h K:= .len ho hc ha hty ht hx hk
theorem pSl {t:TypeId}{c:Call}{x:Operand}{s:ByteArray}(hk:K (.i s.size) h)(ho:o.op= .call c:=by exact rfl)(hc:c.callee= .builtin .len:=by exact rfl)(ha:c.args= #[x]:=by exact rfl)(hty:c.argTypes= #[t]:=by exact rfl)(hx:ev fr x= .s s:=by exact rfl)(ht:P.underlying t=some .string):OpA P o fr h K:= .slen ho hc ha hty ht hx hk
theorem pAd {t t2:TypeId}{x y:Operand}{a b:Int}(hk:K (.i (a+b)) h)(ho:o.op= .binOp .add t x y t2:=by exact rfl)(hx:ev fr x= .i a:=by exact rfl)(hy:ev fr y= .i b:=by exact rfl)(hb: -9223372036854775808<=a+b/\a+b<=9223372036854775807):OpA P o fr h K:= .addi ho hx hy hb hk
theorem pSb {t t2:TypeId}{x y:Operand}{a b:Int}(hk:K (.i (a-b)) h)(ho:o.op= .binOp .sub t x y t2:=by exact rfl)(hx:ev fr x= .i a:=by exact rfl)(hy:ev fr y= .i b:=by exact rfl)(hb: -9223372036854775808<=a-b/\a-b<=9223372036854775807):OpA P o fr h K:= .subi ho hx hy hb hk
theorem pIx {T:Type} [Inhabited T]{enc:T->D}{t et:TypeId}{bytes:Nat}{agg:Bool}{x ix:Operand}{kd:IntKind}{i:Int}{sz:Nat}{l:List T}(hk:K (.iptr (enc (gi l i)) 0) h)(ho:o.op= .indexAddr t x ix:=by exact rfl)(hsz:Nat.blt 0 sz=true:=by exact rfl)(hx:ev fr x= .list sz (l.map enc):=by exact rfl)(hi:ev fr ix= .v (.int kd i):=by exact rfl)(ht:TS P t et sz bytes agg)(hb:inL i l.length):OpA P o fr h K:= .iixV ho ht hsz hx hi hb hk
theorem pIv {t et:TypeId}{bytes:Nat}{agg:Bool}{x ix:Operand}{kd:IntKind}{i:Int}{c sz k len:Nat}(hk:K (.ptr c sz (k+i.toNat) 0) h)(ho:o.op= .indexAddr t x ix:=by exact rfl)(hx:ev fr x= .own c sz k len:=by exact rfl)(hi:ev fr ix= .v (.int kd i):=by exact rfl)(ht:TS P t et sz bytes agg)(hb:inL i len):OpA P o fr h K:= .ixV ho ht hx hi hb hk
end
theorem oR {α β:Type}{a:α}{b:β}:a=a/\b=b:=⟨rfl,rfl⟩
end Go.Lic
namespace Go.Lic
variable [Fl]
section
variable {P:Program}{n:Nat}{ops:Array Oper}{Q:Post}{fr:Nat->D}{h:zbb}{o:Oper}{l:List Oper}{K:D->zbb->Prop}
theorem zr {fn:Func}{T:Type}{enc:T->D}{R:T->Prop}{r:T}{ds:List D}(hq:R r)(h1:ResL P fr h fn.results.toList ds:=by first|exact .tmp rfl .nil|exact .tmp rfl (.tmp rfl .nil)|exact .tmp rfl (.tmp rfl (.tmp rfl .nil))|exact .tmp rfl (.tmp rfl (.tmp rfl (.tmp rfl .nil))))(h2:tupD ds=enc r:=by exact rfl):
   ∃ ds,ResL P fr h fn.results.toList ds/\OutA false (fun d=>∃ r,d=enc r/\R r) (tupD ds) h:=⟨ds,h1,_,Snap.refl _ _,r,h2,hq⟩
theorem zc {c:Operand}{x y:Code}{b:Bool}{A B X Y:Prop}(hh:(X->A)/\(Y->B))(k1:b=true->A->wpA P n x Q fr h)(k2:b=false->B->wpA P n y Q fr h)(hb:ev fr c= .b b:=by exact rfl)
   (t:b=true->X:=by
     intro b
     repeat' first|exact decT b|exact bneT b|exact beqT b|exact notT b|exact ndecT b|exact b|exact decF b|exact bneF b|exact beqF b|exact notF b|exact ndecF b|refine(or0 b).imp (fun b=>?_) (fun b=>?_)|refine(and0 b).imp (fun b=>?_) (fun b=>?_)|refine⟨(fun b=>?_) (and1 b),(fun b=>?_) (and2 b)⟩|refine⟨(fun b=>?_) (or1 b),(fun b=>?_) (or2 b)⟩|refine(fun b=>?_) (notT b)|refine(fun b=>?_) (notF b))
   (f:b=false->Y:=by
     intro b
     repeat' first|exact decF b|exact bneF b|exact beqF b|exact notF b|exact ndecF b|exact b|exact decT b|exact bneT b|exact beqT b|exact notT b|exact ndecT b|refine(or0 b).imp (fun b=>?_) (fun b=>?_)|refine(and0 b).imp (fun b=>?_) (fun b=>?_)|refine⟨(fun b=>?_) (and1 b),(fun b=>?_) (and2 b)⟩|refine⟨(fun b=>?_) (or1 b),(fun b=>?_) (or2 b)⟩|refine(fun b=>?_) (notT b)|refine(fun b=>?_) (notF b)):wpA P n (.cond c x y) Q fr h:=
 wpA_cond hb (fun e=>k1 e (hh.1 (t e))) (fun e=>k2 e (hh.2 (f e)))
theorem cvB {l:List (Nat×D)}{a b:Bool}(hb:a=b)(h:D.b b=D.b a->covL fr l:=by intro x; repeat first|exact trivial|refine⟨rfl,?_⟩|refine⟨x,?_⟩):Cov fr (asg l):= .asg (h (congrArg D.b hb.symm))
theorem zp {b:Bool}(s:Nat)(ht:b=true->wpL P n ops l Q (upd fr s (.b true)) h)(hf:b=false->wpL P n ops l Q (upd fr s (.b false)) h)(hb:fr s= .b b:=by exact rfl):wpL P n ops l Q fr h:=wpL_split hb ht hf
theorem cB {a b:Bool}(h:a=b):D.b b=D.b a:=congrArg D.b h.symm
section
variable {fresh:Bool}{cl:Call}{g:Operand}{f:Nat}{fs cs ds:List D}{d:D}
theorem oC (hf:Fun fresh P f ds (fun d'=>d'=d))(hk:K d h)(ho:o.op= .call cl:=by exact rfl)(hc:cl.callee= .value g:=by exact rfl)(hg:ev fr g= .fn (.func f) fs cs:=by exact rfl)(hds:fs++cl.args.toList.map (ev fr)++cs=ds:=by exact rfl)(he:entersB P f=true:=by kernel_rfl):OpA P o fr h K:= .call (R:=fun d'=>d'=d) ho hc hg he (by rw [hds]; exact hf) (fun _ e=>by cases e; exact hk)
end
theorem oSt {t:TypeId}{x y:Operand}{c sz i:Nat}{agg:Bool}{d e:D}{es:List D}{h':zbb}(hk:K (.v undef) h')(ho:o.op= .store t x y:=by exact rfl)(ht:TI P t sz agg)(hx:ev fr x= .ptr c sz i 0:=by exact rfl)(hy:ev fr y=d:=by with_reducible conv=>lhs; whnf)(hok:d.ok sz:=by exact .of rfl)
   (hh:Repl c (.cells sz es) c (.cells sz (es.set i d)) h h':=by repeat (first|exact .head|apply Repl.tail)) (he:es[i]? =some e:=by exact rfl) (hl:e.flat.length=sz:=by exact rfl):OpA P o fr h K:= .storeW ho ht hx hy hok he hl hh hk
theorem oA {e:TypeId}{z:Value}(sz:Nat)(d:D)(hz:(P.info? e).bind (·.zero)=some z)(hk:∀ c,c ∉ keys h->K (.ptr c sz 0 0) ((c,.cells sz [d])::h))(ho:o.op= .alloc e:=by exact rfl)(hd:∀ w X,V w X d z:=by intro _ _; repeat first|exact .v _|exact .nil|refine .cons ?_ ?_|refine .agg ?_)(hok:d.ok sz:=by exact .of rfl):OpA P o fr h K:= .alloc ho hz hd hok hk
theorem oB {e:TypeId}{x:Operand}{d:D}(sz:Nat)(hk:∀ c,c ∉ keys h->K (.ptr c sz 0 0) ((c,.cells sz [d])::h))(ho:o.op= .box e x:=by exact rfl)(hd:ev fr x=d:=by with_reducible conv=>lhs; whnf)(hx:d.ok sz:=by exact .of rfl):OpA P o fr h K:= .bx ho hd hx hk
theorem oU {t:TypeId}{parts:Array (Nat×Operand)}{pl:List (Nat×Nat)}{zc:Array Value}{ds:List D}(zs:List D)(hp:placesOf P t=some pl)(hz:(P.info? t).bind (·.zero)=some (.agg zc))(hk:K (.agg ds) h)(ho:o.op= .build t parts:=by exact rfl)(hzs:∀ w X,VL w X zs zc.toList:=by intro _ _; repeat first|exact .v _|exact .nil|refine .cons ?_ ?_|refine .agg ?_)
   (hok:OkE fr parts.toList:=by repeat first|exact .nil|refine .cons (.of (sz:=1) rfl) ?_|refine .cons (.of (sz:=2) rfl) ?_|refine .cons (.of (sz:=3) rfl) ?_|refine .cons (.of (sz:=4) rfl) ?_) (hd:fillD (pl[·]?) zs (parts.toList.map fun p=>(p.1,ev fr p.2))=some ds:=by exact rfl):OpA P o fr h K:= .buildO ho hp hz hzs hok hd hk
end
theorem fA {P:Program}{f:Nat}{ds:List D}{T:Type}{v:T}{enc:T->D}{V:(T->Prop)->Prop}(h:V (fun r=>r=v))(w:∀ Q,V Q->Fun false P f ds (fun d=>∃ r,d=enc r/\Q r)):Fun false P f ds (fun d=>d=enc v):=Fun.at (w _ h)
theorem fB {P:Program}{f n:Nat}{fn:Func}{c:Code}{ds:List D}{T:Type}{v:T}{enc:T->D}{V:(T->Prop)->Prop}(hf:P.funcs[f]? =some fn)(hn:fn.ntmps=n)(h:V (fun r=>r=v))(w:∀ Q,V Q->wpA P n c (RetA P fn (OutA false fun d=>∃ r,d=enc r/\Q r)) (frOf ds) [])(hb:fn.body=some c:=by exact rfl)(hd:Nat.ble ds.length n=true:=by exact rfl):Fun false P f ds (fun d=>d=enc v):=Fun.at (Fun.of_body hf hb hn hd (w _ h))
section
variable {P:Program}{n:Nat}{Q:Post}{fr:Nat->D}{h:zbb}
theorem zl {S G:Type}{body:(S->Prop)->S->Prop}{s0:S}{c:Code}(hl:lfp body s0)(g0:G)(F:G->S->List (Nat×D))(H:G->S->zbb)
   (round:∀ again:S->Prop,∀ g s,body again s->wpA P n c (fun e fr' h'=>match e with| .normal=>∃ g s,again s/\Cov fr' (asg (F g s))/\List.Sublist (H g s) h'|e=>Q e fr' h') (asg (F g s)) (H g s))
   (hc:covL fr (F g0 s0):=by repeat first|exact trivial|refine⟨rfl,?_⟩) (hh:List.Sublist (H g0 s0) h:=by exact .refl _):wpA P n (.loop c) Q fr h:=wpA_lfp g0 (fun g s=>asg (F g s)) H hl (.asg hc) hh round
end
end Go.Lic
set_option linter.all false
namespace Go.Lic
open Go.ChangeShapes Go.WideShapes Go.ChangeAt Go.RowKit
def Reads (P:Program)(t:TypeId)(sz:Nat){T:Type}(enc:T->D):Prop:=
 ∀(H:Type) (eh:TypeId×Value->H) (w:World) (sp:Nat->Bool) (hd:Bool) (fuel:Nat) (cs:List Value) (x:DataW H×List MemPlace),DataW.trod eh P w 0 sp hd fuel t cs=some x->∃ a:T,VL w (fun _=>False) (enc a).flat cs/\(enc a).ok sz
theorem Reads.string {P:Program}{t:TypeId}(ht:P.underlying t=some .string):Reads P t 1 D.s:=by
 intro H eh w sp hd fuel cs x h
 obtain⟨s,rfl,_,_⟩:=DataW.trod_string ht h
 exact⟨s,.cons (.v _) .nil,.of rfl⟩
theorem Reads.arg1 {P:Program}{t:TypeId}{T:Type}{enc:T->D}(hr:Reads P t 1 enc)(hflat:∀ a,(enc a).flat= [enc a]){W:World}{base:Nat}{v:Value}(hno:∀ cs,¬Value.okWide P W .any base t (.agg cs))(hval:Value.okWide P W .any base t v)
   {H:Type} {eh:TypeId×Value->H} {sp:Nat->Bool} {hd:Bool} {d:DataW H} {ps:List MemPlace} (h:DataW.Trod eh P W 0 sp hd t v d ps):∃ a,V W (fun _=>False) (enc a) v:=by
 obtain⟨fuel,hf⟩:=h
 obtain⟨a,h1,_⟩:=hr H eh W sp hd fuel _ _ hf
 refine⟨a,?_⟩
 rw [hflat]at h1
 have hc:v.cells= #[v]:=by
   cases v with
   |agg cs=>exact absurd hval (hno cs)
   |_=>rfl
 rw [hc]at h1
 cases h1 with
 |cons h2 _=>exact h2
theorem below_of_ext {W W':World}(h:Ext (fun _=>False) W W'):Below W.heap.size W W':=⟨h.os,h.tape,h.output,h.size,fun k hk=>h.keep k hk (fun x=>x)⟩
theorem trodAll_stays {H:Type}{eh:TypeId×Value->H}{P:Program}(hl:laidOutB P=true){W W':World}(hb:Below W.heap.size W W'):∀(ts:List TypeId) (vs:List Value) (ds:List (DataW H)) (ps:List MemPlace),(∀ t∈ts,P.readableRec t=true/\t<P.types.size)->
   DataW.TrodAll eh P W 0 (fun _=>true) true ts vs ds ps->(∀ x∈ps,x.block<W.heap.size)->DataW.TrodAll eh P W' 0 (fun b=>decide (b<W.heap.size)) true ts vs ds ps
 | [],[],[],_,_,h,_=>h
 | t::ts,v::vs,d::ds,ps,ht,⟨p,q,h1,h2,h3⟩,hlt=>by
   subst h3
   exact⟨p,q,Below.trod hl (ht t (by simp)).1 (ht t (by simp)).2 h1 hb (fun x hx=>hlt x (by simp [hx])),trodAll_stays hl hb ts vs ds q (fun t h=>ht t (by simp [h])) h2 (fun x hx=>hlt x (by simp [hx])),rfl⟩
 | [],[],_::_,_,_,h,_=>h.elim
 | [],_::_,_,_,_,h,_=>by cases h
 |_::_,[],_,_,_,h,_=>by cases h
 |_::_,_::_,[],_,_,h,_=>by cases h
theorem post_law {H:Type}{eh:TypeId×Value->H}{P:Program}{f:Func}{s:ChangeSpec}{apart fresh:Bool}{W W':World}{args:Array Value}{ds gs:List (DataW H)}{before:List MemPlace}{bt:TypeId}
   (hl:laidOutB P=true) (hts:∀ t∈f.params.toList,P.readableRec t=true/\t<P.types.size) (hrt:f.resultTypes= #[bt]) (hbt:P.underlying bt=some .bool) (hvars:s.vars= []) (hfn:s.fn H (ds++gs)= {results:= [.lit (.bool true)],args:=ds})
   (hW:DataW.Whole eh P f.params.toList s.vars apart W args.toList ds gs before) (hx:Ext (fun _=>False) W W'):s.post eh P f apart fresh false false W args (.bool true) W':=by
 have hb:=below_of_ext hx
 have hlt:∀ p∈before,p.block<W.heap.size:=fun p hp=>by simpa using hW.lt p hp
 have hW':=hW
 obtain⟨p,q,hA,hV,rfl,hz,hn⟩:=hW'
 rw [hvars]at hV
 obtain⟨rfl,rfl⟩:=trodVars_none hV
 refine⟨ds,[],p++ [],[],p,[],hW,?_,?_,?_,?_,fun h=>by cases h⟩
 · rw [hfn,hrt]
   exact trodAll_cons_mk (shut_bool hbt true) trodAll_mk0
 · rw [hfn]
   exact trodAll_stays hl hb _ _ _ _ hts hA (fun x hx=>hlt x (by simp [hx]))
 · rw [hfn,hvars]; exact hV
 · exact hb.frame _
end Go.Lic
set_option linter.all false
namespace Go.Lic
open Go.ChangeShapes Go.WideShapes Go.ChangeAt Go.RowKit
end Go.Lic
set_option linter.all false
namespace Go.Lic
open Go.ChangeShapes Go.WideShapes Go.ChangeAt Go.RowKit
abbrev inK (k:IntKind)(n:Int):Prop:=k.min<=n/\n<=k.max
theorem Reads.intR {P:Program}{t:TypeId}{k:IntKind}(ht:P.underlying t=some (.int k)):Reads P t 1 (fun n: {n:Int // inK k n}=> .v (.int k n.1)):=by
 intro H eh w sp hd fuel cs x h
 obtain⟨n,rfl,_,hw⟩:=DataW.trod_int ht h
 refine⟨⟨n,?_⟩,.cons (.v _) .nil,.of rfl⟩
 simpa [Lit.wf]using hw
end Go.Lic
