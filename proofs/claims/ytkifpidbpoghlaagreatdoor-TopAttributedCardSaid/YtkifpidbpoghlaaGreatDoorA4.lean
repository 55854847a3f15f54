/-
  walks and contracts
-/
import Derived.Test.YtkifpidbpoghlaaGreatDoorV7
import Derived.Test.YtkifpidbpoghlaaGreatDoorA3
import Derived.Test.YtkifpidbpoghlaaGreatDoorStates
set_option maxRecDepth 10000
set_option maxHeartbeats 2000000
set_option linter.all false
namespace Go.Proofs.YtkifpidbpoghlaaGreatDoor
open Go Go.Lic Go.Sort Go.Proofs
attribute [local irreducible] addF addP zaw badR behindF blankF checkF zbp zbx cmpB cmpI cmpL codeF countF fewTs fewW findC findT zbt growTF guarF hashF zbj insideF itoaF lenF lookF mergeF mul64F mulP newF ofF orF partF pathF postCmp postsF powF zak pushF rightL rollF zbu zbs zbh zad splitG zbi
abbrev kclones_e0 (prints:(List (List Print)))(x:Int)(texts:(List Text))(k:Int)(w:Int):=(gi (si prints x ((zak (gi texts x) k w).1)) x)
abbrev zae (prints:(List (List Print)))(x:Int)(texts:(List Text))(k:Int)(w:Int)(x1:Int):=((gi (kclones_e0 prints x texts k w) x1).hash)
abbrev zcd (x:Int)(prints:(List (List Print)))(texts:(List Text))(k:Int)(w:Int)(x1:Int):=(ClonePlace.mk x ((gi (kclones_e0 prints x texts k w) x1).at_))
theorem kclones_c (texts:(List Text))(k:Int)(w:Int)(only_:Int)(hp0:okTs texts)(hp1:∀ t_∈texts,zbi t_=true)(hp2:zbs k=true)(hp3:zbs w=true)(hp4:inI only_):Fun false Tryz.prog 72 [(zai 2 zaa) texts,D.i k,D.i w,D.i only_] (fun d=>d= .tup [(zai 5 zap) ((zbx texts k w only_).1),D.i ((zbx texts k w only_).2)]):=by
 refine fB Tryz.func72 Tryz.ntmps72 (v:=zbx texts k w only_) (enc:=fun r=> .tup [(zai 5 zap) (r.1),D.i (r.2)]) (kclones_ok texts k w only_ _ hp0 hp1 hp2 hp3 hp4 rfl) fun Q h=>?_
 unfold kclones_vc at h
 obtain⟨q1,q2,h⟩:=h
 refine G ?_
 refine wL (OpA.makeMapK (U:=CloneDiagonal) (T:=Int) kf241 vI rfl (fun c1=>?_))
 refine wL (OpA.makeMapK (U:=Clone) (T:=Unit) kf84 vU rfl (fun c2=>?_))
 refine wL (oU [.v (.slice none 0 0),.v (.int .i64 0),.v (.map none),.v (.map none)] tp198 tz198 ?_)
 refine wL (oB 4 (fun c3 _=>?_))
 refine G ?_
 refine wL (OpA.makeSm (hm:=fun c4=>((c4,.map (smD 2 (fun _=>(0,[],[])) ([]:List (Int×List ClonePlace))))::(c3,.cells 4 [.agg ([(zai 2 zaa) texts,D.i ((k+w)-1),.map c1,.map c2])])::(c2,.raw (mapK kf84 vU ([]:List (Clone×Unit))))::(c1,.raw (mapK kf241 vI ([]:List (CloneDiagonal×Int))))::smB 2 zab (fun _=>(0,[],[])) ([]:List (Int×List ClonePlace)))) ClonePlace zab 2 rfl (fun c4=>(.cons (.cons (.cons (.cons .here))))) (fun c4=>?_))
 obtain⟨q1,h⟩:=h
 refine G ?_
 refine wL (OpA.makeSliceV (enc:=(zai 2 zbm)) (v0:=([]:(List Print))) rfl ts200 rfl rfl tz201 (fun _ _=> .nilL) (.of rfl) q1 (fun c5=>?_))
 refine G ?_
 refine zl h (c5,([]:List D),([]:List D),(fun _=>(0,[],[]))) (fun gg ss=> [(1,D.i k),(2,D.i w),(3,D.i only_),(8,.v (.slice none 0 0)),(9,D.i 0),(10,.ptr c3 4 0 0),(11,.map c4),(12,.own gg.1 1 gg.2.1.length ss.1.length),(39,(zai 2 zaa) texts),(40,D.i (texts.length:Int)),(41,D.i ss.2.2)]) (fun gg ss=>((gg.1,.cells 1 (zas (zai 2 zbm) gg.2.1 ss.1 gg.2.2.1))::(c4,.map (smD 2 gg.2.2.2 ss.2.1))::(c3,.cells 4 [.agg ([(zai 2 zaa) texts,D.i ((k+w)-1),.map c1,.map c2])])::(c2,.raw (mapK kf84 vU ([]:List (Clone×Unit))))::(c1,.raw (mapK kf241 vI ([]:List (CloneDiagonal×Int))))::smB 2 zab gg.2.2.2 ss.2.1)) ?_
 rintro again6 ⟨cb38,pre38,post38,gm_35⟩ ⟨prints,m_35,x⟩ h
 dsimp only at h
 unfold kclones_L1 at h
 refine G ?_
 refine zc h (fun _ h=>?_) (fun _ h=>?_)
 obtain⟨q1,h⟩:=h
 refine G ?_
 refine wL (oIx (enc:=zaa) ts61 q1 ?_)
 refine G ?_
 refine wL (oA 2 (.agg ([D.s ByteArray.empty,.v (.slice none 0 0)])) tz57 (fun c8 _=>?_))
 refine G ?_
 obtain⟨q1,q2,h⟩:=h
 refine G ?_
 refine wL (oC (wprints_c (gi texts x) k w q1) ?_)
 refine G ?_
 refine wL (oIv ts200 q2 ?_)
 refine wE (OpA.storeV (enc:=(zai 2 zbm)) (v:=(zak (gi texts x) k w).1) rfl ti201 rfl rfl (.of rfl) rfl q2 (.tail .head) ?_)
 iterate 2 refine g ?_
 refine wpA_cov (fr0:=asg [(1,D.i k),(2,D.i w),(3,D.i only_),(8,.v (.slice none 0 0)),(9,D.i 0),(10,.ptr c3 4 0 0),(11,.map c4),(12,.own cb38 1 pre38.length (si prints x ((zak (gi texts x) k w).1)).length),(13,D.i x),(14,.ptr c8 2 0 0),(39,(zai 2 zaa) texts),(40,D.i (texts.length:Int)),(41,D.i x),(42,D.b (decide (x<(texts.length:Int)))),(43,D.i x),(44,.iptr (zaa (gi texts x)) 0),(45,zaa (gi texts x)),(46,.tup [(zai 2 zbm) ((zak (gi texts x) k w).1),D.i ((zak (gi texts x) k w).2)]),(47,.own cb38 1 pre38.length (si prints x ((zak (gi texts x) k w).1)).length),(48,D.i x),(49,zaa (gi texts x)),(50,D.i k),(51,D.i w),(52,.tup [(zai 2 zbm) ((zak (gi texts x) k w).1),D.i ((zak (gi texts x) k w).2)]),(53,(zai 2 zbm) ((zak (gi texts x) k w).1)),(54,D.i ((zak (gi texts x) k w).2)),(55,.ptr cb38 1 (pre38.length+(Int.toNat x)) 0)]) (Cov.asg ⟨rfl,rfl,rfl,rfl,rfl,rfl,rfl,(congrArg (D.own cb38 1 pre38.length) (by simp only [zan,zah,zac zam,zac zaf,zac zal]<;>rfl)),rfl,rfl,rfl,rfl,rfl,rfl,rfl,rfl,rfl,rfl,(congrArg (D.own cb38 1 pre38.length) (by simp only [zan,zah,zac zam,zac zaf,zac zal]<;>rfl)),rfl,rfl,rfl,rfl,rfl,rfl,rfl,rfl,trivial⟩) ?_
 obtain⟨q1,h⟩:=h
 refine G ?_
 refine wL (oIv ts200 q1 ?_)
 refine wL (OpA.load rfl ti201 rfl (.tail .head) (getV (enc:=(zai 2 zbm)) q1) rfl ?_)
 refine G ?_
 refine zl h gm_35 (fun gg ss=> [(1,D.i k),(2,D.i w),(3,D.i only_),(8,.v (.slice none 0 0)),(9,D.i 0),(10,.ptr c3 4 0 0),(11,.map c4),(12,.own cb38 1 pre38.length (si prints x ((zak (gi texts x) k w).1)).length),(13,D.i x),(39,(zai 2 zaa) texts),(40,D.i (texts.length:Int)),(41,D.i x),(59,(zai 2 zbm) (kclones_e0 prints x texts k w)),(60,D.i ((kclones_e0 prints x texts k w).length:Int)),(61,D.i ss.2)]) (fun gg ss=>((c8,.cells 2 [zaa (gi texts x)])::(cb38,.cells 1 (zas (zai 2 zbm) pre38 (si prints x ((zak (gi texts x) k w).1)) post38))::(c4,.map (smD 2 gg ss.1))::(c3,.cells 4 [.agg ([(zai 2 zaa) texts,D.i ((k+w)-1),.map c1,.map c2])])::(c2,.raw (mapK kf84 vU ([]:List (Clone×Unit))))::(c1,.raw (mapK kf241 vI ([]:List (CloneDiagonal×Int))))::smB 2 zab gg ss.1)) ?_
 rintro again9 gm_351 ⟨m_351,x1⟩ h
 dsimp only at h
 unfold kclones_L2 at h
 refine G ?_
 refine zc h (fun _ h=>?_) (fun _ h=>?_)
 obtain⟨q1,h⟩:=h
 refine G ?_
 refine wL (oIx (enc:=zbm) ts201 q1 ?_)
 refine G ?_
 refine wL (oA 2 (zbm (Print.mk 0 0)) tz205 (fun c11 _=>?_))
 iterate 2 refine g ?_
 obtain⟨q12_0,q13_0,h⟩:=h
 refine wpA_states mo (fun W hW=>?_)
 refine flip_goal (a:=∀(c82:Nat) (pre83:List D) (post84:List D) (c142:Nat) (pre143:List D),W 0 (lv 14 16383) (asg [(1,D.i k),(2,D.i w),(3,D.i only_),(8,.v (.slice none 0 0)),(9,D.i 0),(10,.ptr c3 4 0 0),(11,.map c4),(12,.own cb38 1 pre38.length (si prints x ((zak (gi texts x) k w).1)).length),(13,D.i x),(39,(zai 2 zaa) texts),(40,D.i (texts.length:Int)),(41,D.i x),(59,(zai 2 zbm) (kclones_e0 prints x texts k w)),(60,D.i ((kclones_e0 prints x texts k w).length:Int)),(61,D.i x1)]) ((c11,.cells 2 [zbm (gi (kclones_e0 prints x texts k w) x1)])::(c8,.cells 2 [zaa (gi texts x)])::(cb38,.cells 1 (zas (zai 2 zbm) pre38 (si prints x ((zak (gi texts x) k w).1)) post38))::(c4,.map (smD 2 (gup gm_351 (zae prints x texts k w x1) (c142,pre143,([]:List D))) (mset m_351 (zae prints x texts k w x1) ((mget [] m_351 (zae prints x texts k w x1))++([(zcd x prints texts k w x1)]:List ClonePlace)))))::(c3,.cells 4 [.agg ([(zai 2 zaa) texts,D.i ((k+w)-1),.map c1,.map c2])])::(c2,.raw (mapK kf84 vU ([]:List (Clone×Unit))))::(c1,.raw (mapK kf241 vI ([]:List (CloneDiagonal×Int))))::smB 2 zab (gup gm_351 (zae prints x texts k w x1) (c142,pre143,([]:List D))) (mset m_351 (zae prints x texts k w x1) ((mget [] m_351 (zae prints x texts k w x1))++([(zcd x prints texts k w x1)]:List ClonePlace))))) (fun s0=>?_) ?_
 let v0:zbb->zbb:=fun v1=>(c11,.cells 2 [zbm (gi (kclones_e0 prints x texts k w) x1)])::(c8,.cells 2 [zaa (gi texts x)])::(cb38,.cells 1 (zas (zai 2 zbm) pre38 (si prints x ((zak (gi texts x) k w).1)) post38))::(c4,.map (smD 2 gm_351 m_351))::(c3,.cells 4 [.agg ([(zai 2 zaa) texts,D.i ((k+w)-1),.map c1,.map c2])])::(c2,.raw (mapK kf84 vU ([]:List (Clone×Unit))))::(c1,.raw (mapK kf241 vI ([]:List (CloneDiagonal×Int))))::v1
 let v9:Nat->Nat->List (Nat×D)->zbb->Prop:=fun v1 v2 v3 v4=>W v1 (lv 14 v2) (asg ((1,D.i k)::(2,D.i w)::(3,D.i only_)::(8,.v (.slice none 0 0))::(9,D.i 0)::(10,.ptr c3 4 0 0)::(11,.map c4)::(12,.own cb38 1 pre38.length (si prints x ((zak (gi texts x) k w).1)).length)::(13,D.i x)::(39,(zai 2 zaa) texts)::(40,D.i (texts.length:Int))::(41,D.i x)::(59,(zai 2 zbm) (kclones_e0 prints x texts k w))::(60,D.i ((kclones_e0 prints x texts k w).length:Int))::(61,D.i x1)::(65,.map c4)::v3)) v4
 have s1:∀(c82:Nat) (pre83:List D) (post84:List D) (c142:Nat) (pre143:List D),v9 1 8191 [(67,D.i (zae prints x texts k w x1)),(77,.own c142 2 pre143.length ((mget [] m_351 (zae prints x texts k w x1))++([(zcd x prints texts k w x1)]:List ClonePlace)).length)] ((c142,.cells 2 (zas zab pre143 ((mget [] m_351 (zae prints x texts k w x1))++([(zcd x prints texts k w x1)]:List ClonePlace)) ([]:List D)))::v0 (smB 2 zab gm_351 (mdel m_351 (zae prints x texts k w x1)))):=fun c82 pre83 post84 c142 pre143=>zaj hW (by refine zs [13] ⟨?_,trivial⟩; refine ze rfl (OpA.smSet (sz:=2) (enc:=zab) (γ:=gm_351) (L:=m_351) (pre:=pre143) (post:=([]:List D)) (xs:=((mget [] m_351 (zae prints x texts k w x1))++([(zcd x prints texts k w x1)]:List ClonePlace))) q13_0 rfl td199 td3 rfl rfl rfl (.refl _) (.tail (.tail (.tail .head))) (.cons (.cons (.cons (.cons (.cons (.cons (.cons .here))))))) ?_); exact zt hW (s0 c82 pre83 post84 c142 pre143))
 have s2:∀(c82:Nat) (pre83:List D) (post84:List D),v9 2 4095 [(67,D.i (zae prints x texts k w x1)),(71,.own c82 2 pre83.length (mget [] m_351 (zae prints x texts k w x1)).length),(76,(zai 2 zab) ([(zcd x prints texts k w x1)]:List ClonePlace))] ((c82,.cells 2 (zas zab pre83 (mget [] m_351 (zae prints x texts k w x1)) post84))::v0 (smB 2 zab gm_351 (mdel m_351 (zae prints x texts k w x1)))):=fun c82 pre83 post84=>zaj hW (by refine zs [12] ⟨?_,trivial⟩; refine zo rfl (OpA.appendW (enc:=zab) rfl rfl rfl rfl ts206 rfl (fun _ _=> .head) (.list (ys:=([(zcd x prints texts k w x1)]:List ClonePlace))) q12_0 (fun c142 pre143=>?_)); exact zt hW (s1 c82 pre83 post84 c142 pre143))
 have s3:∀(c82:Nat) (pre83:List D) (post84:List D) (c142:Nat) (pre143:List D),v9 2 8187 [(66,.ptr c11 2 0 0),(77,.own c142 2 pre143.length ((mget [] m_351 (zae prints x texts k w x1))++([(zcd x prints texts k w x1)]:List ClonePlace)).length)] ((c142,.cells 2 (zas zab pre143 ((mget [] m_351 (zae prints x texts k w x1))++([(zcd x prints texts k w x1)]:List ClonePlace)) ([]:List D)))::v0 (smB 2 zab gm_351 (mdel m_351 (zae prints x texts k w x1)))):=fun c82 pre83 post84 c142 pre143=>zaj hW (by refine zs [2] ⟨?_,trivial⟩; refine zo rfl (oLd ti3 ?_); exact zt hW (s1 c82 pre83 post84 c142 pre143))
 have s4:∀(c82:Nat) (pre83:List D) (post84:List D),v9 3 2047 [(67,D.i (zae prints x texts k w x1)),(71,.own c82 2 pre83.length (mget [] m_351 (zae prints x texts k w x1)).length),(75,zab (zcd x prints texts k w x1))] ((c82,.cells 2 (zas zab pre83 (mget [] m_351 (zae prints x texts k w x1)) post84))::v0 (smB 2 zab gm_351 (mdel m_351 (zae prints x texts k w x1)))):=fun c82 pre83 post84=>zaj hW (by refine zs [11] ⟨?_,trivial⟩; refine zo rfl (OpA.ibuildSliceO rfl ts206 rfl (.cons (.of (sz:=2) rfl) .nil) (by decide) ?_); exact zt hW (s2 c82 pre83 post84))
 have s5:v9 3 4031 [(67,D.i (zae prints x texts k w x1)),(68,.map c4),(70,D.i (zae prints x texts k w x1)),(76,(zai 2 zab) ([(zcd x prints texts k w x1)]:List ClonePlace))] (v0 (smB 2 zab gm_351 m_351)):=zaj hW (by refine zs [6] ⟨?_,trivial⟩; refine zo rfl (OpA.smGet (sz:=2) (enc:=zab) (γ:=gm_351) (L:=m_351) rfl td199 td3 tz206 rfl rfl (.tail (.tail (.tail .head))) (.cons (.cons (.cons (.cons (.cons (.cons (.cons .here))))))) (fun c82 pre83 post84=>?_)); exact zt hW (s2 c82 pre83 post84))
 have s6:∀(c82:Nat) (pre83:List D) (post84:List D),v9 3 4091 [(66,.ptr c11 2 0 0),(71,.own c82 2 pre83.length (mget [] m_351 (zae prints x texts k w x1)).length),(76,(zai 2 zab) ([(zcd x prints texts k w x1)]:List ClonePlace))] ((c82,.cells 2 (zas zab pre83 (mget [] m_351 (zae prints x texts k w x1)) post84))::v0 (smB 2 zab gm_351 (mdel m_351 (zae prints x texts k w x1)))):=fun c82 pre83 post84=>zaj hW (by refine zs [2,12] ⟨?_,?_,trivial⟩; refine zo rfl (oLd ti3 ?_); exact zt hW (s2 c82 pre83 post84); refine zo rfl (OpA.appendW (enc:=zab) rfl rfl rfl rfl ts206 rfl (fun _ _=> .head) (.list (ys:=([(zcd x prints texts k w x1)]:List ClonePlace))) q12_0 (fun c142 pre143=>?_)); exact zt hW (s3 c82 pre83 post84 c142 pre143))
 have s7:∀(c82:Nat) (pre83:List D) (post84:List D),v9 4 1023 [(67,D.i (zae prints x texts k w x1)),(71,.own c82 2 pre83.length (mget [] m_351 (zae prints x texts k w x1)).length),(72,D.i x),(74,D.i ((gi (kclones_e0 prints x texts k w) x1).at_))] ((c82,.cells 2 (zas zab pre83 (mget [] m_351 (zae prints x texts k w x1)) post84))::v0 (smB 2 zab gm_351 (mdel m_351 (zae prints x texts k w x1)))):=fun c82 pre83 post84=>zaj hW (by refine zs [10] ⟨?_,trivial⟩; refine zo rfl (OpA.buildO (zs:= [.v (.int .i64 0),.v (.int .i64 0)]) rfl tp208 tz208 (fun _ _=>(.cons (.v _) (.cons (.v _) .nil))) (.cons (.of (sz:=1) rfl) (.cons (.of (sz:=1) rfl) .nil)) rfl ?_); exact zt hW (s4 c82 pre83 post84))
 have s8:v9 4 1983 [(67,D.i (zae prints x texts k w x1)),(68,.map c4),(70,D.i (zae prints x texts k w x1)),(75,zab (zcd x prints texts k w x1))] (v0 (smB 2 zab gm_351 m_351)):=zaj hW (by refine zs [6,11] ⟨?_,?_,trivial⟩; refine zo rfl (OpA.smGet (sz:=2) (enc:=zab) (γ:=gm_351) (L:=m_351) rfl td199 td3 tz206 rfl rfl (.tail (.tail (.tail .head))) (.cons (.cons (.cons (.cons (.cons (.cons (.cons .here))))))) (fun c82 pre83 post84=>?_)); exact zt hW (s4 c82 pre83 post84); refine zo rfl (OpA.ibuildSliceO rfl ts206 rfl (.cons (.of (sz:=2) rfl) .nil) (by decide) ?_); exact zt hW s5)
 have s9:v9 4 3999 [(67,D.i (zae prints x texts k w x1)),(68,.map c4),(69,.ptr c11 2 0 0),(76,(zai 2 zab) ([(zcd x prints texts k w x1)]:List ClonePlace))] (v0 (smB 2 zab gm_351 m_351)):=zaj hW (by refine zs [5] ⟨?_,trivial⟩; refine zo rfl (oLd ti3 ?_); exact zt hW s5)
 have s10:∀(c82:Nat) (pre83:List D) (post84:List D),v9 4 2043 [(66,.ptr c11 2 0 0),(71,.own c82 2 pre83.length (mget [] m_351 (zae prints x texts k w x1)).length),(75,zab (zcd x prints texts k w x1))] ((c82,.cells 2 (zas zab pre83 (mget [] m_351 (zae prints x texts k w x1)) post84))::v0 (smB 2 zab gm_351 (mdel m_351 (zae prints x texts k w x1)))):=fun c82 pre83 post84=>zaj hW (by refine zs [2,11] ⟨?_,?_,trivial⟩; refine zo rfl (oLd ti3 ?_); exact zt hW (s4 c82 pre83 post84); refine zo rfl (OpA.ibuildSliceO rfl ts206 rfl (.cons (.of (sz:=2) rfl) .nil) (by decide) ?_); exact zt hW (s6 c82 pre83 post84))
 have s11:v9 4 4027 [(66,.ptr c11 2 0 0),(68,.map c4),(70,D.i (zae prints x texts k w x1)),(76,(zai 2 zab) ([(zcd x prints texts k w x1)]:List ClonePlace))] (v0 (smB 2 zab gm_351 m_351)):=zaj hW (by refine zs [2,6] ⟨?_,?_,trivial⟩; refine zo rfl (oLd ti3 ?_); exact zt hW s5; refine zo rfl (OpA.smGet (sz:=2) (enc:=zab) (γ:=gm_351) (L:=m_351) rfl td199 td3 tz206 rfl rfl (.tail (.tail (.tail .head))) (.cons (.cons (.cons (.cons (.cons (.cons (.cons .here))))))) (fun c82 pre83 post84=>?_)); exact zt hW (s6 c82 pre83 post84))
 have s12:∀(c82:Nat) (pre83:List D) (post84:List D),v9 5 511 [(67,D.i (zae prints x texts k w x1)),(71,.own c82 2 pre83.length (mget [] m_351 (zae prints x texts k w x1)).length),(72,D.i x),(73,.ptr c11 2 0 1)] ((c82,.cells 2 (zas zab pre83 (mget [] m_351 (zae prints x texts k w x1)) post84))::v0 (smB 2 zab gm_351 (mdel m_351 (zae prints x texts k w x1)))):=fun c82 pre83 post84=>zaj hW (by refine zs [9] ⟨?_,trivial⟩; refine zo rfl (oLd ti3 ?_); exact zt hW (s7 c82 pre83 post84))
 have s13:v9 5 959 [(67,D.i (zae prints x texts k w x1)),(68,.map c4),(70,D.i (zae prints x texts k w x1)),(72,D.i x),(74,D.i ((gi (kclones_e0 prints x texts k w) x1).at_))] (v0 (smB 2 zab gm_351 m_351)):=zaj hW (by refine zs [6,10] ⟨?_,?_,trivial⟩; refine zo rfl (OpA.smGet (sz:=2) (enc:=zab) (γ:=gm_351) (L:=m_351) rfl td199 td3 tz206 rfl rfl (.tail (.tail (.tail .head))) (.cons (.cons (.cons (.cons (.cons (.cons (.cons .here))))))) (fun c82 pre83 post84=>?_)); exact zt hW (s7 c82 pre83 post84); refine zo rfl (OpA.buildO (zs:= [.v (.int .i64 0),.v (.int .i64 0)]) rfl tp208 tz208 (fun _ _=>(.cons (.v _) (.cons (.v _) .nil))) (.cons (.of (sz:=1) rfl) (.cons (.of (sz:=1) rfl) .nil)) rfl ?_); exact zt hW s8)
 have s14:v9 5 1951 [(67,D.i (zae prints x texts k w x1)),(68,.map c4),(69,.ptr c11 2 0 0),(75,zab (zcd x prints texts k w x1))] (v0 (smB 2 zab gm_351 m_351)):=zaj hW (by refine zs [5,11] ⟨?_,?_,trivial⟩; refine zo rfl (oLd ti3 ?_); exact zt hW s8; refine zo rfl (OpA.ibuildSliceO rfl ts206 rfl (.cons (.of (sz:=2) rfl) .nil) (by decide) ?_); exact zt hW s9)
 have s15:∀(c82:Nat) (pre83:List D) (post84:List D),v9 5 1019 [(66,.ptr c11 2 0 0),(71,.own c82 2 pre83.length (mget [] m_351 (zae prints x texts k w x1)).length),(72,D.i x),(74,D.i ((gi (kclones_e0 prints x texts k w) x1).at_))] ((c82,.cells 2 (zas zab pre83 (mget [] m_351 (zae prints x texts k w x1)) post84))::v0 (smB 2 zab gm_351 (mdel m_351 (zae prints x texts k w x1)))):=fun c82 pre83 post84=>zaj hW (by refine zs [2,10] ⟨?_,?_,trivial⟩; refine zo rfl (oLd ti3 ?_); exact zt hW (s7 c82 pre83 post84); refine zo rfl (OpA.buildO (zs:= [.v (.int .i64 0),.v (.int .i64 0)]) rfl tp208 tz208 (fun _ _=>(.cons (.v _) (.cons (.v _) .nil))) (.cons (.of (sz:=1) rfl) (.cons (.of (sz:=1) rfl) .nil)) rfl ?_); exact zt hW (s10 c82 pre83 post84))
 have s16:v9 5 1979 [(66,.ptr c11 2 0 0),(68,.map c4),(70,D.i (zae prints x texts k w x1)),(75,zab (zcd x prints texts k w x1))] (v0 (smB 2 zab gm_351 m_351)):=zaj hW (by refine zs [2,6,11] ⟨?_,?_,?_,trivial⟩; refine zo rfl (oLd ti3 ?_); exact zt hW s8; refine zo rfl (OpA.smGet (sz:=2) (enc:=zab) (γ:=gm_351) (L:=m_351) rfl td199 td3 tz206 rfl rfl (.tail (.tail (.tail .head))) (.cons (.cons (.cons (.cons (.cons (.cons (.cons .here))))))) (fun c82 pre83 post84=>?_)); exact zt hW (s10 c82 pre83 post84); refine zo rfl (OpA.ibuildSliceO rfl ts206 rfl (.cons (.of (sz:=2) rfl) .nil) (by decide) ?_); exact zt hW s11)
 have s17:v9 5 3995 [(66,.ptr c11 2 0 0),(68,.map c4),(69,.ptr c11 2 0 0),(76,(zai 2 zab) ([(zcd x prints texts k w x1)]:List ClonePlace))] (v0 (smB 2 zab gm_351 m_351)):=zaj hW (by refine zs [2,5] ⟨?_,?_,trivial⟩; refine zo rfl (oLd ti3 ?_); exact zt hW s9; refine zo rfl (oLd ti3 ?_); exact zt hW s11)
 have s18:v9 6 447 [(67,D.i (zae prints x texts k w x1)),(68,.map c4),(70,D.i (zae prints x texts k w x1)),(72,D.i x),(73,.ptr c11 2 0 1)] (v0 (smB 2 zab gm_351 m_351)):=zaj hW (by refine zs [6,9] ⟨?_,?_,trivial⟩; refine zo rfl (OpA.smGet (sz:=2) (enc:=zab) (γ:=gm_351) (L:=m_351) rfl td199 td3 tz206 rfl rfl (.tail (.tail (.tail .head))) (.cons (.cons (.cons (.cons (.cons (.cons (.cons .here))))))) (fun c82 pre83 post84=>?_)); exact zt hW (s12 c82 pre83 post84); refine zo rfl (oLd ti3 ?_); exact zt hW s13)
 have s19:v9 6 927 [(67,D.i (zae prints x texts k w x1)),(68,.map c4),(69,.ptr c11 2 0 0),(72,D.i x),(74,D.i ((gi (kclones_e0 prints x texts k w) x1).at_))] (v0 (smB 2 zab gm_351 m_351)):=zaj hW (by refine zs [5,10] ⟨?_,?_,trivial⟩; refine zo rfl (oLd ti3 ?_); exact zt hW s13; refine zo rfl (OpA.buildO (zs:= [.v (.int .i64 0),.v (.int .i64 0)]) rfl tp208 tz208 (fun _ _=>(.cons (.v _) (.cons (.v _) .nil))) (.cons (.of (sz:=1) rfl) (.cons (.of (sz:=1) rfl) .nil)) rfl ?_); exact zt hW s14)
 have s20:∀(c82:Nat) (pre83:List D) (post84:List D),v9 6 507 [(66,.ptr c11 2 0 0),(71,.own c82 2 pre83.length (mget [] m_351 (zae prints x texts k w x1)).length),(72,D.i x),(73,.ptr c11 2 0 1)] ((c82,.cells 2 (zas zab pre83 (mget [] m_351 (zae prints x texts k w x1)) post84))::v0 (smB 2 zab gm_351 (mdel m_351 (zae prints x texts k w x1)))):=fun c82 pre83 post84=>zaj hW (by refine zs [2,9] ⟨?_,?_,trivial⟩; refine zo rfl (oLd ti3 ?_); exact zt hW (s12 c82 pre83 post84); refine zo rfl (oLd ti3 ?_); exact zt hW (s15 c82 pre83 post84))
 have s21:v9 6 955 [(66,.ptr c11 2 0 0),(68,.map c4),(70,D.i (zae prints x texts k w x1)),(72,D.i x),(74,D.i ((gi (kclones_e0 prints x texts k w) x1).at_))] (v0 (smB 2 zab gm_351 m_351)):=zaj hW (by refine zs [2,6,10] ⟨?_,?_,?_,trivial⟩; refine zo rfl (oLd ti3 ?_); exact zt hW s13; refine zo rfl (OpA.smGet (sz:=2) (enc:=zab) (γ:=gm_351) (L:=m_351) rfl td199 td3 tz206 rfl rfl (.tail (.tail (.tail .head))) (.cons (.cons (.cons (.cons (.cons (.cons (.cons .here))))))) (fun c82 pre83 post84=>?_)); exact zt hW (s15 c82 pre83 post84); refine zo rfl (OpA.buildO (zs:= [.v (.int .i64 0),.v (.int .i64 0)]) rfl tp208 tz208 (fun _ _=>(.cons (.v _) (.cons (.v _) .nil))) (.cons (.of (sz:=1) rfl) (.cons (.of (sz:=1) rfl) .nil)) rfl ?_); exact zt hW s16)
 have s22:v9 6 1947 [(66,.ptr c11 2 0 0),(68,.map c4),(69,.ptr c11 2 0 0),(75,zab (zcd x prints texts k w x1))] (v0 (smB 2 zab gm_351 m_351)):=zaj hW (by refine zs [2,5,11] ⟨?_,?_,?_,trivial⟩; refine zo rfl (oLd ti3 ?_); exact zt hW s14; refine zo rfl (oLd ti3 ?_); exact zt hW s16; refine zo rfl (OpA.ibuildSliceO rfl ts206 rfl (.cons (.of (sz:=2) rfl) .nil) (by decide) ?_); exact zt hW s17)
 have s23:v9 7 415 [(67,D.i (zae prints x texts k w x1)),(68,.map c4),(69,.ptr c11 2 0 0),(72,D.i x),(73,.ptr c11 2 0 1)] (v0 (smB 2 zab gm_351 m_351)):=zaj hW (by refine zs [5,9] ⟨?_,?_,trivial⟩; refine zo rfl (oLd ti3 ?_); exact zt hW s18; refine zo rfl (oLd ti3 ?_); exact zt hW s19)
 have s24:v9 7 443 [(66,.ptr c11 2 0 0),(68,.map c4),(70,D.i (zae prints x texts k w x1)),(72,D.i x),(73,.ptr c11 2 0 1)] (v0 (smB 2 zab gm_351 m_351)):=zaj hW (by refine zs [2,6,9] ⟨?_,?_,?_,trivial⟩; refine zo rfl (oLd ti3 ?_); exact zt hW s18; refine zo rfl (OpA.smGet (sz:=2) (enc:=zab) (γ:=gm_351) (L:=m_351) rfl td199 td3 tz206 rfl rfl (.tail (.tail (.tail .head))) (.cons (.cons (.cons (.cons (.cons (.cons (.cons .here))))))) (fun c82 pre83 post84=>?_)); exact zt hW (s20 c82 pre83 post84); refine zo rfl (oLd ti3 ?_); exact zt hW s21)
 have s25:v9 7 923 [(66,.ptr c11 2 0 0),(68,.map c4),(69,.ptr c11 2 0 0),(72,D.i x),(74,D.i ((gi (kclones_e0 prints x texts k w) x1).at_))] (v0 (smB 2 zab gm_351 m_351)):=zaj hW (by refine zs [2,5,10] ⟨?_,?_,?_,trivial⟩; refine zo rfl (oLd ti3 ?_); exact zt hW s19; refine zo rfl (oLd ti3 ?_); exact zt hW s21; refine zo rfl (OpA.buildO (zs:= [.v (.int .i64 0),.v (.int .i64 0)]) rfl tp208 tz208 (fun _ _=>(.cons (.v _) (.cons (.v _) .nil))) (.cons (.of (sz:=1) rfl) (.cons (.of (sz:=1) rfl) .nil)) rfl ?_); exact zt hW s22)
 have s26:v9 8 411 [(66,.ptr c11 2 0 0),(68,.map c4),(69,.ptr c11 2 0 0),(72,D.i x),(73,.ptr c11 2 0 1)] (v0 (smB 2 zab gm_351 m_351)):=zaj hW (by refine zs [2,5,9] ⟨?_,?_,?_,trivial⟩; refine zo rfl (oLd ti3 ?_); exact zt hW s23; refine zo rfl (oLd ti3 ?_); exact zt hW s24; refine zo rfl (oLd ti3 ?_); exact zt hW s25)
 refine zaj hW ?_
 refine wpS_firstY (fuel:=13) (i:=0) (li':=(lv 14 1)) rfl rfl (.move rfl) rfl rfl zK zK zK (fun _ _ _ hx=>hx) rfl rfl zK ?_
 refine wpS_firstY (fuel:=12) (i:=1) (li':=(lv 14 3)) rfl rfl (.fieldAddr rfl tf205_0 rfl) rfl rfl zK zK zK (fun _ _ _ hx=>hx) rfl rfl zK ?_
 refine wpS_firstY (fuel:=11) (i:=3) (li':=(lv 14 11)) rfl rfl (.move rfl) rfl rfl zK zK zK (fun _ _ _ hx=>hx) rfl rfl zK ?_
 refine wpS_firstY (fuel:=10) (i:=4) (li':=(lv 14 27)) rfl rfl (.fieldAddr rfl tf205_0 rfl) rfl rfl zK zK zK (fun _ _ _ hx=>hx) rfl rfl zK ?_
 refine wpS_firstY (fuel:=9) (i:=7) (li':=(lv 14 155)) rfl rfl (.move rfl) rfl rfl zK zK zK (fun _ _ _ hx=>hx) rfl rfl zK ?_
 refine wpS_firstY (fuel:=8) (i:=8) (li':=(lv 14 411)) rfl rfl (.fieldAddr rfl tf205_1 rfl) rfl rfl zK zK zK (fun _ _ _ hx=>hx) rfl rfl zK ?_
 exact zt hW s26
 intro c82 pre83 post84 c142 pre143
 refine zaj hW (wpS_done zK ?_)
 obtain⟨q1,h⟩:=h
 refine G ?_
 exact⟨(gup gm_351 (zae prints x texts k w x1) (c142,pre143,([]:List D))),((mset m_351 (zae prints x texts k w x1) ((mget [] m_351 (zae prints x texts k w x1))++([(zcd x prints texts k w x1)]:List ClonePlace))),(x1+1)),h,cvZ,(.cons _ (.refl _))⟩
 obtain⟨q1,h⟩:=h
 refine G ?_
 exact⟨(cb38,pre38,post38,gm_351),((si prints x ((zak (gi texts x) k w).1)),m_351,(x+1)),h,cvZ,(.cons _ (.refl _))⟩
 iterate 5 refine g ?_
 refine wL (OpA.len rfl rfl rfl rfl ts200.desc (.inr (.inl ⟨_,_,_,rfl⟩)) ?_)
 iterate 3 refine g ?_
 refine wpA_smFrz (sz:=2) (enc:=zab) (γ:=gm_35) (L:=m_35) (.cons (.cons (.cons (.cons (.cons .here))))) (.tail .head) ?_
 refine zl h () (fun gg ss=> [(3,D.i only_),(8,.v (.slice none 0 0)),(9,D.i 0),(10,.ptr c3 4 0 0),(11,.map c4),(80,.own cb38 1 pre38.length prints.length),(81,D.i (prints.length:Int)),(82,D.i ss.2.2)]) (fun gg ss=> [(cb38,.cells 1 (zas (zai 2 zbm) pre38 prints post38)),(c4,.map (smF 2 zab m_35)),(c3,.cells 4 [.agg ([(zai 2 zaa) texts,D.i ((k+w)-1),.map c1,.map c2])]),(c2,.raw (mapK kf84 vU ss.1)),(c1,.raw (mapK kf241 vI ss.2.1))]) ?_
 rintro again172 _ ⟨m_32,m_31,x2⟩ h
 dsimp only at h
 unfold kclones_L3 at h
 refine G ?_
 refine zc h (fun _ h=>?_) (fun _ h=>?_)
 obtain⟨q1,h⟩:=h
 refine G ?_
 refine wL (oIv ts200 q1 ?_)
 refine wL (OpA.load rfl ti201 rfl .head (getV (enc:=(zai 2 zbm)) q1) rfl ?_)
 refine G ?_
 refine zl h () (fun gg ss=> [(3,D.i only_),(8,.v (.slice none 0 0)),(9,D.i 0),(10,.ptr c3 4 0 0),(11,.map c4),(17,D.i x2),(80,.own cb38 1 pre38.length prints.length),(81,D.i (prints.length:Int)),(82,D.i x2),(87,(zai 2 zbm) (gi prints x2)),(88,D.i ((gi prints x2).length:Int)),(89,D.i ss.2.2)]) (fun gg ss=> [(cb38,.cells 1 (zas (zai 2 zbm) pre38 prints post38)),(c4,.map (smF 2 zab m_35)),(c3,.cells 4 [.agg ([(zai 2 zaa) texts,D.i ((k+w)-1),.map c1,.map c2])]),(c2,.raw (mapK kf84 vU ss.1)),(c1,.raw (mapK kf241 vI ss.2.1))]) ?_
 rintro again174 _ ⟨m_321,m_311,x3⟩ h
 dsimp only at h
 unfold kclones_L4 at h
 refine G ?_
 refine zc h (fun _ h=>?_) (fun _ h=>?_)
 obtain⟨q1,h⟩:=h
 refine G ?_
 refine wL (oIx (enc:=zbm) ts201 q1 ?_)
 refine G ?_
 refine wL (oA 2 (zbm (Print.mk 0 0)) tz205 (fun c176 _=>?_))
 refine G ?_
 refine wL (oU [.v (.int .i64 0),.v (.int .i64 0)] tp208 tz208 ?_)
 refine wL (oA 2 (zab (ClonePlace.mk 0 0)) tz208 (fun c177 _=>?_))
 refine G ?_
 refine wL (OpA.fmGet (sz:=2) (enc:=zab) (L:=m_35) rfl td199 td3 tz206 rfl rfl (.tail (.tail (.tail .head))) ?_)
 refine G ?_
 refine zl h () (fun gg ss=> [(3,D.i only_),(8,.v (.slice none 0 0)),(9,D.i 0),(10,.ptr c3 4 0 0),(11,.map c4),(17,D.i x2),(21,.ptr c177 2 0 0),(80,.own cb38 1 pre38.length prints.length),(81,D.i (prints.length:Int)),(82,D.i x2),(87,(zai 2 zbm) (gi prints x2)),(88,D.i ((gi prints x2).length:Int)),(89,D.i x3),(100,(zai 2 zab) (mget [] m_35 ((gi (gi prints x2) x3).hash))),(101,D.i ((mget [] m_35 ((gi (gi prints x2) x3).hash)).length:Int)),(102,D.i ss.2.2)]) (fun gg ss=> [(c177,.cells 2 [zab (ClonePlace.mk x2 ((gi (gi prints x2) x3).at_))]),(c176,.cells 2 [zbm (gi (gi prints x2) x3)]),(cb38,.cells 1 (zas (zai 2 zbm) pre38 prints post38)),(c4,.map (smF 2 zab m_35)),(c3,.cells 4 [.agg ([(zai 2 zaa) texts,D.i ((k+w)-1),.map c1,.map c2])]),(c2,.raw (mapK kf84 vU ss.1)),(c1,.raw (mapK kf241 vI ss.2.1))]) ?_
 rintro again178 _ ⟨m_322,m_312,x4⟩ h
 dsimp only at h
 unfold kclones_L5 at h
 refine G ?_
 refine zc h (fun _ h=>?_) (fun _ h=>?_)
 obtain⟨q1,h⟩:=h
 refine G ?_
 refine wL (oIx (enc:=zab) ts206 q1 ?_)
 refine G ?_
 refine wL (oA 2 (zab (ClonePlace.mk 0 0)) tz208 (fun c180 _=>?_))
 iterate 4 refine g ?_
 refine zav (asg [(3,D.i only_),(8,.v (.slice none 0 0)),(9,D.i 0),(10,.ptr c3 4 0 0),(11,.map c4),(17,D.i x2),(21,.ptr c177 2 0 0),(23,.ptr c180 2 0 0),(80,.own cb38 1 pre38.length prints.length),(81,D.i (prints.length:Int)),(82,D.i x2),(87,(zai 2 zbm) (gi prints x2)),(88,D.i ((gi prints x2).length:Int)),(89,D.i x3),(100,(zai 2 zab) (mget [] m_35 ((gi (gi prints x2) x3).hash))),(101,D.i ((mget [] m_35 ((gi (gi prints x2) x3).hash)).length:Int)),(102,D.i x4),(145,D.b ((((eqClonePlace (gi (mget [] m_35 ((gi (gi prints x2) x3).hash)) x4) (ClonePlace.mk x2 ((gi (gi prints x2) x3).at_)))||(decide ((gi (mget [] m_35 ((gi (gi prints x2) x3).hash)) x4).text<x2)))||((((gi (mget [] m_35 ((gi (gi prints x2) x3).hash)) x4).text)==x2)&&(decide ((gi (mget [] m_35 ((gi (gi prints x2) x3).hash)) x4).at_<(gi (gi prints x2) x3).at_))))||((decide (only_>=0))&&((((gi (mget [] m_35 ((gi (gi prints x2) x3).hash)) x4).text) != only_)||(x2==only_)))))]) [(c180,.cells 2 [zab (gi (mget [] m_35 ((gi (gi prints x2) x3).hash)) x4)]),(c177,.cells 2 [zab (ClonePlace.mk x2 ((gi (gi prints x2) x3).at_))]),(c176,.cells 2 [zbm (gi (gi prints x2) x3)]),(cb38,.cells 1 (zas (zai 2 zbm) pre38 prints post38)),(c4,.map (smF 2 zab m_35)),(c3,.cells 4 [.agg ([(zai 2 zaa) texts,D.i ((k+w)-1),.map c1,.map c2])]),(c2,.raw (mapK kf84 vU m_322)),(c1,.raw (mapK kf241 vI m_312))] ?_ ?_
 refine G ?_
 refine wL (OpA.structcmp (xs:= [.int .i64 ((gi (mget [] m_35 ((gi (gi prints x2) x3).hash)) x4).text),.int .i64 ((gi (mget [] m_35 ((gi (gi prints x2) x3).hash)) x4).at_)]) (ys:= [.int .i64 x2,.int .i64 ((gi (gi prints x2) x3).at_)]) (r:=(eqClonePlace (gi (mget [] m_35 ((gi (gi prints x2) x3).hash)) x4) (ClonePlace.mk x2 ((gi (gi prints x2) x3).at_)))) rfl eg208 su208.1 su208.2.1 su208.2.2 rfl rfl (.int td3 ti3 rfl rfl (.int td3 ti3 rfl rfl .nil)) (.inl ⟨rfl,rfl⟩) ?_)
 refine G ?_
 refine zp 109 (fun b183=>G ?_) (fun b183=>?_)
 iterate 5 refine wpL_skipU rfl rfl rfl rfl rfl ?_
 refine G ?_
 iterate 10 refine wpL_skipU rfl rfl rfl rfl rfl ?_
 refine G ?_
 exact⟨(cvB (orS (orS (orS b183)))),(.refl _)⟩
 refine G ?_
 refine zp 116 (fun b184=>G ?_) (fun b184=>?_)
 iterate 5 refine wpL_skipU rfl rfl rfl rfl rfl ?_
 refine G ?_
 iterate 10 refine wpL_skipU rfl rfl rfl rfl rfl ?_
 refine G ?_
 exact⟨(cvB (orS (orS (orN b183 b184)))),(.refl _)⟩
 refine G ?_
 refine zp 122 (fun b185=>G ?_) (fun b185=>?_)
 refine zp 130 (fun b186=>G ?_) (fun b186=>?_)
 iterate 10 refine wpL_skipU rfl rfl rfl rfl rfl ?_
 refine G ?_
 exact⟨(cvB (orS (orN (orN b183 b184) (andN b185 b186)))),(.refl _)⟩
 refine G ?_
 refine zp 133 (fun b187=>G ?_) (fun b187=>?_)
 refine zp 138 (fun b188=>G ?_) (fun b188=>?_)
 exact⟨(cvB (orN (orN (orN b183 b184) (andN b185 b186)) (andN b187 (orS b188)))),(.refl _)⟩
 refine G ?_
 exact⟨(cvB (orN (orN (orN b183 b184) (andN b185 b186)) (andN b187 (orN b188 rfl)))),(.refl _)⟩
 refine G ?_
 iterate 4 refine wpL_skipU rfl rfl rfl rfl rfl ?_
 refine G ?_
 exact⟨(cvB (orN (orN (orN b183 b184) (andN b185 b186)) (andS b187))),(.refl _)⟩
 refine G ?_
 refine zp 133 (fun b189=>G ?_) (fun b189=>?_)
 refine zp 138 (fun b190=>G ?_) (fun b190=>?_)
 exact⟨(cvB (orN (orN (orN b183 b184) (andS b185)) (andN b189 (orS b190)))),(.refl _)⟩
 refine G ?_
 exact⟨(cvB (orN (orN (orN b183 b184) (andS b185)) (andN b189 (orN b190 rfl)))),(.refl _)⟩
 refine G ?_
 iterate 4 refine wpL_skipU rfl rfl rfl rfl rfl ?_
 refine G ?_
 exact⟨(cvB (orN (orN (orN b183 b184) (andS b185)) (andS b189))),(.refl _)⟩
 refine zc h (fun _ h=>?_) (fun _ h=>?_)
 obtain⟨q1,h⟩:=h
 refine G ?_
 exact⟨(),(m_322,m_312,(x4+1)),h,cvZ,(.cons _ (.refl _))⟩
 obtain⟨q1,q2,h⟩:=h
 refine G ?_
 refine wL (OpA.callH rfl rfl rfl zK (h1:= [(c3,.cells 4 [.agg ([(zai 2 zaa) texts,D.i ((k+w)-1),.map c1,.map c2])]),(c1,.raw (mapK kf241 vI m_312)),(c2,.raw (mapK kf84 vU m_322))]) (h2:= [(c180,.cells 2 [zab (gi (mget [] m_35 ((gi (gi prints x2) x3).hash)) x4)]),(c177,.cells 2 [zab (ClonePlace.mk x2 ((gi (gi prints x2) x3).at_))]),(c176,.cells 2 [zbm (gi (gi prints x2) x3)]),(cb38,.cells 1 (zas (zai 2 zbm) pre38 prints post38)),(c4,.map (smF 2 zab m_35))]) (pull5.trans (.cons _ (pull6.trans (.cons _ pull5)))) (klook_c texts ((k+w)-1) m_312 m_322 c3 c1 c2 (ClonePlace.mk x2 ((gi (gi prints x2) x3).at_)) (gi (mget [] m_35 ((gi (gi prints x2) x3).hash)) x4) q1 q2) ?_)
 rintro _ _ ⟨_,rfl,rfl⟩
 refine wpL_perm (h':= [(c180,.cells 2 [zab (gi (mget [] m_35 ((gi (gi prints x2) x3).hash)) x4)]),(c177,.cells 2 [zab (ClonePlace.mk x2 ((gi (gi prints x2) x3).at_))]),(c176,.cells 2 [zbm (gi (gi prints x2) x3)]),(cb38,.cells 1 (zas (zai 2 zbm) pre38 prints post38)),(c4,.map (smF 2 zab m_35)),(c3,.cells 4 [.agg ([(zai 2 zaa) texts,D.i ((k+w)-1),.map c1,.map c2])]),(c2,.raw (mapK kf84 vU ((lookF texts ((k+w)-1) m_312 m_322 (ClonePlace.mk x2 ((gi (gi prints x2) x3).at_)) (gi (mget [] m_35 ((gi (gi prints x2) x3).hash)) x4)).2))),(c1,.raw (mapK kf241 vI ((lookF texts ((k+w)-1) m_312 m_322 (ClonePlace.mk x2 ((gi (gi prints x2) x3).at_)) (gi (mget [] m_35 ((gi (gi prints x2) x3).hash)) x4)).1)))]) (pull3.trans (.cons _ (pull3.trans (.cons _ (pull3.trans (.cons _ (pull3.trans (.cons _ (pull3.trans (.cons _ (.cons _ pull1))))))))))) ?_
 refine G ?_
 refine wL (OpA.nc rfl zW (.inl ⟨_,_,_,_,rfl⟩) ?_)
 refine G ?_
 refine wL (OpA.mlenK (kf:=kf84) (vf:=vU) (l:=((lookF texts ((k+w)-1) m_312 m_322 (ClonePlace.mk x2 ((gi (gi prints x2) x3).at_)) (gi (mget [] m_35 ((gi (gi prints x2) x3).hash)) x4)).2)) rfl rfl rfl rfl td196 rfl (.tail (.tail (.tail (.tail (.tail (.tail .head)))))) ?_)
 refine G ?_
 refine zc h (fun _ h=>G ?_) (fun _ h=>?_)
 exact⟨_,(.tmp (d:= .v (.slice none 0 0)) rfl (.tmp (d:=D.i 10) rfl .nil)),_,(.tup (.nilv (sz:=5) (.same rfl .nil)) .nil),⟨([],10),rfl,h⟩⟩
 obtain⟨q1,h⟩:=h
 refine G ?_
 exact⟨(),(((lookF texts ((k+w)-1) m_312 m_322 (ClonePlace.mk x2 ((gi (gi prints x2) x3).at_)) (gi (mget [] m_35 ((gi (gi prints x2) x3).hash)) x4)).2),((lookF texts ((k+w)-1) m_312 m_322 (ClonePlace.mk x2 ((gi (gi prints x2) x3).at_)) (gi (mget [] m_35 ((gi (gi prints x2) x3).hash)) x4)).1),(x4+1)),h,cvZ,(.cons _ (.refl _))⟩
 obtain⟨q1,h⟩:=h
 refine G ?_
 exact⟨(),(m_322,m_312,(x3+1)),h,cvZ,(.cons _ (.cons _ (.refl _)))⟩
 obtain⟨q1,h⟩:=h
 refine G ?_
 exact⟨(),(m_321,m_311,(x2+1)),h,cvZ,(.refl _)⟩
 iterate 3 refine g ?_
 refine wL (OpA.asnG (T:=Clone) (enc:=zap) (sz:=5) rfl rfl (fun c24_g191=>?_))
 refine G ?_
 refine wL (OpA.nc rfl zW (.inl ⟨_,_,_,_,rfl⟩) ?_)
 refine G ?_
 refine wL (OpA.rangeMapK (kf:=kf84) (vf:=vU) (l:=m_32) rfl td196 rfl (.tail (.tail (.tail (.tail .head)))) (fun c192=>?_))
 refine G ?_
 refine zl h (c24_g191,([]:List D),([]:List D)) (fun gg ss=> [(8,.v (.slice none 0 0)),(9,D.i 0),(24,.own gg.1 5 gg.2.1.length ss.2.length),(163,.ptr c192 1 0 0)]) (fun gg ss=> [(c192,.raw (itO c2 m_32.length ss.1)),(gg.1,.cells 5 (zas zap gg.2.1 ss.2 gg.2.2)),(cb38,.cells 1 (zas (zai 2 zbm) pre38 prints post38)),(c4,.map (smF 2 zab m_35)),(c3,.cells 4 [.agg ([(zai 2 zaa) texts,D.i ((k+w)-1),.map c1,.map c2])]),(c2,.raw (mapK kf84 vU m_32)),(c1,.raw (mapK kf241 vI m_31))]) ?_
 rintro again193 ⟨cb24,pre24,post24⟩ ⟨seen,out⟩ h
 dsimp only at h
 unfold kclones_L6 at h
 refine G ?_
 refine wL (OpA.nextMapK (kf:=kf84) (vf:=vU) (kd:=zap) (vd:=encU) (l:=m_32) (seen:=seen) pk84 plain_u rfl rfl (.tail (.tail (.tail (.tail (.tail .head))))) (fun _=> .head) (fun b194=>?_) (fun at_ b195 b196=>?_))
 have h:=h.1 b194
 refine G ?_
 refine wpA_condF rfl ?_
 obtain⟨q1,h⟩:=h
 refine G ?_
 refine wL (OpA.sortW (enc:=zap) (encV:=valClone) Tryz.sortClone Tryz.isAgg84 Tryz.sizeOf84 (fun _=>rfl) valClone_one (fun _=>rfl) (cf:=zbp) (xs:=out) rfl rfl rfl rfl zK rfl rfl rfl zK (fun a b=> @kcompare_c flYes a b) (sort0C_c [] 120 [] [] zbp (fun _ _=>True) zK (fun a b _=>kcompare_c a b) rfl) q1 (.tail .head) ?_)
 iterate 7 refine g ?_
 refine wpA_cov (fr0:=asg [(8,.own cb24 5 pre24.length (sortF zbp out).length),(9,D.i 0),(24,.own cb24 5 pre24.length (sortF zbp out).length),(163,.ptr c192 1 0 0),(164,.tup [D.b false]),(165,D.b false),(172,.own cb24 5 pre24.length (sortF zbp out).length),(173,.tup []),(174,.own cb24 5 pre24.length (sortF zbp out).length)]) (Cov.asg ⟨(congrArg (D.own cb24 5 pre24.length) (by simp only [zan,zah,zac zam,zac zaf,zac zal]<;>rfl)),rfl,(congrArg (D.own cb24 5 pre24.length) (by simp only [zan,zah,zac zam,zac zaf,zac zal]<;>rfl)),rfl,rfl,rfl,(congrArg (D.own cb24 5 pre24.length) (by simp only [zan,zah,zac zam,zac zaf,zac zal]<;>rfl)),rfl,(congrArg (D.own cb24 5 pre24.length) (by simp only [zan,zah,zac zam,zac zaf,zac zal]<;>rfl)),trivial⟩) ?_
 refine G ?_
 exact⟨_,(.tmp (d:= .own cb24 5 pre24.length (sortF zbp out).length) rfl (.tmp (d:=D.i 0) rfl .nil)),_,(.tup (.win (.tail .head) (by intro hf; cases hf) (.same rfl .nil)) .nil),⟨((sortF zbp out),0),rfl,h⟩⟩
 have h:=h.2 at_ b195 b196
 refine G ?_
 refine wpA_condT rfl ?_
 refine G ?_
 refine wL (OpA.entryK (kf:=kf84) (vf:=vU) (kd:=zap) (vd:=encU) (l:=m_32) (k:=at_) pk84 plain_u rfl rfl (.tail (.tail (.tail (.tail (.tail .head))))) .head b195 ?_)
 refine G ?_
 refine wL (oA 5 (zap (Clone.mk 0 0 0 0 0)) tz84 (fun c197 _=>?_))
 refine G ?_
 obtain⟨q1,h⟩:=h
 refine G ?_
 refine wL (OpA.ibuildSliceO rfl ts77 rfl (.cons (.of (sz:=5) rfl) .nil) (by decide) ?_)
 refine wL (OpA.appendW (enc:=zap) rfl rfl rfl rfl ts77 rfl (fun _ _=>(.tail (.tail .head))) (.list (ys:=([(gi m_32 (at_:Int)).1]:List Clone))) q1 (fun c198 pre199=>?_))
 refine G ?_
 exact⟨(c198,pre199,([]:List D)),((seen++ [at_]),(out++([(gi m_32 (at_:Int)).1]:List Clone))),h,cvZ,(.cons _ (.refl _))⟩
theorem kfind_c (l:(List Text))(k:Int)(w:Int)(hp0:okTs l):Fun false Tryz.prog 28 [(zai 2 zaa) l,D.i k,D.i w] (fun d=>d= .tup [(zai 5 zap) ((findC l k w).1),D.i ((findC l k w).2)]):=by
 refine fB Tryz.func28 Tryz.ntmps28 (v:=findC l k w) (enc:=fun r=> .tup [(zai 5 zap) (r.1),D.i (r.2)]) (kfind_ok l k w _ hp0 rfl) fun Q h=>?_
 unfold kfind_vc at h
 iterate 2 refine g ?_
 refine wL (OpA.asnN (T:=Clone) (enc:=zap) (sz:=5) rfl rfl ?_)
 obtain⟨q1,h⟩:=h
 refine G ?_
 refine wL (oC (kright_c l q1) ?_)
 refine G ?_
 refine zc h (fun _ h=>?_) (fun _ h=>G ?_)
 iterate 2 refine g ?_
 refine wL (OpA.asnN (T:=Clone) (enc:=zap) (sz:=5) rfl rfl ?_)
 refine G ?_
 exact zr h
 refine wL (oC (wguar_c k w) ?_)
 refine G ?_
 refine zc h (fun _ h=>?_) (fun _ h=>?_)
 iterate 2 refine g ?_
 refine wL (OpA.asnN (T:=Clone) (enc:=zap) (sz:=5) rfl rfl ?_)
 refine G ?_
 exact zr h
 obtain⟨q1,q2,q3,q4,q5,h⟩:=h
 refine G ?_
 refine wL (oC (kclones_c l k w (-1) q1 q2 q3 q4 q5) ?_)
 refine G ?_
 exact zr h
end Go.Proofs.YtkifpidbpoghlaaGreatDoor
set_option linter.all false
namespace Go.Proofs.YtkifpidbpoghlaaGreatDoor
open Go Go.Lic Go.Sort Go.Proofs
attribute [local irreducible] addF addP zaw badR behindF blankF checkF zbp zbx cmpB cmpI cmpL codeF countF fewTs fewW findC findT zbt growTF guarF hashF zbj insideF itoaF lenF lookF mergeF mul64F mulP newF ofF orF partF pathF postCmp postsF powF zak pushF rightL rollF zbu zbs zbh zad splitG zbi
theorem clip_c (xs:List Text):Fun false Tryz.prog 73 [zai 2 zaa xs] (fun d=>d= .clip 2 (xs.map zaa)):=by
 refine Fun.of_body Tryz.func73 rfl Tryz.ntmps73 rfl ?_
 refine G ?_
 refine wL (OpA.sliceClip rfl ts61 rfl (by rw [List.length_map]) (by rw [List.length_map]) ?_)
 refine G ?_
 exact⟨_,(.tmp rfl .nil),_,(.same rfl .nil),rfl⟩
theorem kagainst_c (c:Corpus)(t:Text)(hp0:okC c)(hp1:okT t):Fun false Tryz.prog 24 [zao c,zaa t] (fun d=>d= .tup [(zai 5 zap) ((zaw c t).1),D.i ((zaw c t).2)]):=by
 refine fB Tryz.func24 Tryz.ntmps24 (v:=zaw c t) (enc:=fun r=> .tup [(zai 5 zap) (r.1),D.i (r.2)]) (kagainst_ok c t _ hp0 hp1 rfl) fun Q h=>?_
 unfold kagainst_vc at h
 refine G ?_
 refine wL (oB 4 (fun c1 _=>?_))
 refine wL (oB 2 (fun c2 _=>?_))
 refine wL (OpA.asnN (T:=Clone) (enc:=zap) (sz:=5) rfl rfl ?_)
 obtain⟨q1,q2,h⟩:=h
 iterate 4 refine g ?_
 refine zav (asg [(2,.ptr c1 4 0 0),(3,.ptr c2 2 0 0),(4,(zai 5 zap) ([]:List Clone)),(5,D.i 0),(13,D.b (((checkF c) != 0)||(!(zbi t))))]) [(c2,.cells 2 [zaa t]),(c1,.cells 4 [zao c])] ?_ ?_
 refine G ?_
 refine wL (oC (ccheck_c c q1) ?_)
 refine G ?_
 refine zp 9 (fun b204=>G ?_) (fun b204=>?_)
 exact⟨(cvB (orS b204)),(.refl _)⟩
 refine G ?_
 refine wG (oC (nvalid_c t (q2 (bneF b204))) ?_)
 refine G ?_
 exact⟨(cvB (orN b204 rfl)),(.refl _)⟩
 refine zc h (fun _ h=>?_) (fun _ h=>?_)
 iterate 2 refine g ?_
 refine wL (OpA.asnN (T:=Clone) (enc:=zap) (sz:=5) rfl rfl ?_)
 refine G ?_
 exact zr h
 iterate 2 refine g ?_
 obtain⟨q5_0,q13_0,q13_1,q13_2,q13_3,q13_4,h⟩:=h
 refine wpA_states mo (fun W hW=>?_)
 refine flip_goal (a:=∀(c64:Nat) (pre65:List D),W 0 (lv 18 262143) (asg [(4,(zai 5 zap) ((zbx (c.texts++([t]:List Text)) c.k c.w (c.texts.length:Int)).1)),(5,D.i ((zbx (c.texts++([t]:List Text)) c.k c.w (c.texts.length:Int)).2))]) [(c2,.cells 2 [zaa t]),(c1,.cells 4 [zao c])]) (fun s0=>?_) ?_
 let v0:zbb->zbb:=fun v1=>(c2,.cells 2 [zaa t])::(c1,.cells 4 [zao c])::v1
 let v9:Nat->Nat->List (Nat×D)->zbb->Prop:=fun v1 v2 v3 v4=>W v1 (lv 18 v2) (asg ((4,(zai 5 zap) ([]:List Clone))::(5,D.i 0)::v3)) v4
 have s1:∀(c64:Nat) (pre65:List D),v9 3 32767 [(27,.tup [(zai 5 zap) ((zbx (c.texts++([t]:List Text)) c.k c.w (c.texts.length:Int)).1),D.i ((zbx (c.texts++([t]:List Text)) c.k c.w (c.texts.length:Int)).2)]),(28,(zai 5 zap) ((zbx (c.texts++([t]:List Text)) c.k c.w (c.texts.length:Int)).1))] (v0 []):=fun c64 pre65=>zaj hW (by refine zs [15] ⟨?_,trivial⟩; refine zo rfl (oEx ?_); refine zy 16 rfl (.assign rfl) ?_; refine zy 17 rfl (.assign rfl) ?_; exact zt hW (s0 c64 pre65))
 have s2:∀(c64:Nat) (pre65:List D),v9 3 49151 [(27,.tup [(zai 5 zap) ((zbx (c.texts++([t]:List Text)) c.k c.w (c.texts.length:Int)).1),D.i ((zbx (c.texts++([t]:List Text)) c.k c.w (c.texts.length:Int)).2)]),(29,D.i ((zbx (c.texts++([t]:List Text)) c.k c.w (c.texts.length:Int)).2))] (v0 []):=fun c64 pre65=>zaj hW (by refine zs [14] ⟨?_,trivial⟩; refine zo rfl (oEx ?_); refine zy 16 rfl (.assign rfl) ?_; refine zy 17 rfl (.assign rfl) ?_; exact zt hW (s0 c64 pre65))
 have s3:∀(c64:Nat) (pre65:List D),v9 4 16383 [(27,.tup [(zai 5 zap) ((zbx (c.texts++([t]:List Text)) c.k c.w (c.texts.length:Int)).1),D.i ((zbx (c.texts++([t]:List Text)) c.k c.w (c.texts.length:Int)).2)])] (v0 []):=fun c64 pre65=>zaj hW (by refine zs [14,15] ⟨?_,?_,trivial⟩; refine zo rfl (oEx ?_); exact zt hW (s1 c64 pre65); refine zo rfl (oEx ?_); exact zt hW (s2 c64 pre65))
 have s4:∀(c64:Nat) (pre65:List D),v9 5 8191 [(19,.own c64 2 pre65.length (c.texts++([t]:List Text)).length),(21,D.i c.k),(23,D.i c.w),(26,D.i (c.texts.length:Int))] ((c64,.cells 2 (zas zaa pre65 (c.texts++([t]:List Text)) ([]:List D)))::v0 []):=fun c64 pre65=>zaj hW (by refine zs [13] ⟨?_,trivial⟩; refine zo rfl (OpA.frz (s:=19) (d:= .own c64 2 pre65.length (c.texts++([t]:List Text)).length) (d':=(zai 2 zaa) (c.texts++([t]:List Text))) (.refl _) rfl (.win (enc:=zaa) .head (by intro hf; cases hf) .nil) (OpA.call rfl rfl rfl zK (kclones_c (c.texts++([t]:List Text)) c.k c.w (c.texts.length:Int) q13_0 q13_1 q13_2 q13_3 q13_4) ?_)); rintro _ rfl; exact zt hW (s3 c64 pre65))
 have s5:∀(c64:Nat) (pre65:List D),v9 6 7679 [(19,.own c64 2 pre65.length (c.texts++([t]:List Text)).length),(21,D.i c.k),(22,.ptr c1 4 0 1),(26,D.i (c.texts.length:Int))] ((c64,.cells 2 (zas zaa pre65 (c.texts++([t]:List Text)) ([]:List D)))::v0 []):=fun c64 pre65=>zaj hW (by refine zs [9] ⟨?_,trivial⟩; refine zo rfl (oLd ti3 ?_); exact zt hW (s4 c64 pre65))
 have s6:∀(c64:Nat) (pre65:List D),v9 6 8063 [(19,.own c64 2 pre65.length (c.texts++([t]:List Text)).length),(20,.ptr c1 4 0 0),(23,D.i c.w),(26,D.i (c.texts.length:Int))] ((c64,.cells 2 (zas zaa pre65 (c.texts++([t]:List Text)) ([]:List D)))::v0 []):=fun c64 pre65=>zaj hW (by refine zs [7] ⟨?_,trivial⟩; refine zo rfl (oLd ti3 ?_); exact zt hW (s4 c64 pre65))
 have s7:v9 6 8159 [(16,.clip 2 (c.texts.map zaa)),(18,(zai 2 zaa) ([t]:List Text)),(21,D.i c.k),(23,D.i c.w),(26,D.i (c.texts.length:Int))] (v0 []):=zaj hW (by refine zs [5] ⟨?_,trivial⟩; refine zo rfl (OpA.appendClip (enc:=zaa) (xs:=c.texts) rfl rfl rfl rfl ts61 rfl (.list (ys:=([t]:List Text))) q5_0 (fun c64 pre65=>?_)); exact zt hW (s4 c64 pre65))
 have s8:∀(c64:Nat) (pre65:List D),v9 7 2047 [(19,.own c64 2 pre65.length (c.texts++([t]:List Text)).length),(21,D.i c.k),(23,D.i c.w),(24,.ptr c1 4 0 2)] ((c64,.cells 2 (zas zaa pre65 (c.texts++([t]:List Text)) ([]:List D)))::v0 []):=fun c64 pre65=>zaj hW (by refine zs [11] ⟨?_,trivial⟩; refine zo rfl (oLd ti61 ?_); refine zy 12 rfl (.lenV (enc:=zaa) rfl rfl rfl rfl ts61.desc rfl) ?_; exact zt hW (s4 c64 pre65))
 have s9:∀(c64:Nat) (pre65:List D),v9 7 7551 [(19,.own c64 2 pre65.length (c.texts++([t]:List Text)).length),(20,.ptr c1 4 0 0),(22,.ptr c1 4 0 1),(26,D.i (c.texts.length:Int))] ((c64,.cells 2 (zas zaa pre65 (c.texts++([t]:List Text)) ([]:List D)))::v0 []):=fun c64 pre65=>zaj hW (by refine zs [7,9] ⟨?_,?_,trivial⟩; refine zo rfl (oLd ti3 ?_); exact zt hW (s5 c64 pre65); refine zo rfl (oLd ti3 ?_); exact zt hW (s6 c64 pre65))
 have s10:v9 7 7647 [(16,.clip 2 (c.texts.map zaa)),(18,(zai 2 zaa) ([t]:List Text)),(21,D.i c.k),(22,.ptr c1 4 0 1),(26,D.i (c.texts.length:Int))] (v0 []):=zaj hW (by refine zs [5,9] ⟨?_,?_,trivial⟩; refine zo rfl (OpA.appendClip (enc:=zaa) (xs:=c.texts) rfl rfl rfl rfl ts61 rfl (.list (ys:=([t]:List Text))) q5_0 (fun c64 pre65=>?_)); exact zt hW (s5 c64 pre65); refine zo rfl (oLd ti3 ?_); exact zt hW s7)
 have s11:v9 7 8031 [(16,.clip 2 (c.texts.map zaa)),(18,(zai 2 zaa) ([t]:List Text)),(20,.ptr c1 4 0 0),(23,D.i c.w),(26,D.i (c.texts.length:Int))] (v0 []):=zaj hW (by refine zs [5,7] ⟨?_,?_,trivial⟩; refine zo rfl (OpA.appendClip (enc:=zaa) (xs:=c.texts) rfl rfl rfl rfl ts61 rfl (.list (ys:=([t]:List Text))) q5_0 (fun c64 pre65=>?_)); exact zt hW (s6 c64 pre65); refine zo rfl (oLd ti3 ?_); exact zt hW s7)
 have s12:v9 7 8143 [(16,.clip 2 (c.texts.map zaa)),(17,zaa t),(21,D.i c.k),(23,D.i c.w),(26,D.i (c.texts.length:Int))] (v0 []):=zaj hW (by refine zs [4] ⟨?_,trivial⟩; refine zo rfl (OpA.ibuildSliceO rfl ts61 rfl (.cons (.of (sz:=2) rfl) .nil) (by decide) ?_); exact zt hW s7)
 have s13:v9 7 8155 [(15,(zai 2 zaa) c.texts),(18,(zai 2 zaa) ([t]:List Text)),(21,D.i c.k),(23,D.i c.w),(26,D.i (c.texts.length:Int))] (v0 []):=zaj hW (by refine zs [2] ⟨?_,trivial⟩; refine zo rfl (OpA.call rfl rfl rfl zK (clip_c c.texts) ?_); rintro _ rfl; exact zt hW s7)
 have s14:∀(c64:Nat) (pre65:List D),v9 8 1535 [(19,.own c64 2 pre65.length (c.texts++([t]:List Text)).length),(21,D.i c.k),(22,.ptr c1 4 0 1),(24,.ptr c1 4 0 2)] ((c64,.cells 2 (zas zaa pre65 (c.texts++([t]:List Text)) ([]:List D)))::v0 []):=fun c64 pre65=>zaj hW (by refine zs [9,11] ⟨?_,?_,trivial⟩; refine zo rfl (oLd ti3 ?_); exact zt hW (s8 c64 pre65); refine zo rfl (oLd ti61 ?_); refine zy 12 rfl (.lenV (enc:=zaa) rfl rfl rfl rfl ts61.desc rfl) ?_; exact zt hW (s5 c64 pre65))
 have s15:∀(c64:Nat) (pre65:List D),v9 8 1919 [(19,.own c64 2 pre65.length (c.texts++([t]:List Text)).length),(20,.ptr c1 4 0 0),(23,D.i c.w),(24,.ptr c1 4 0 2)] ((c64,.cells 2 (zas zaa pre65 (c.texts++([t]:List Text)) ([]:List D)))::v0 []):=fun c64 pre65=>zaj hW (by refine zs [7,11] ⟨?_,?_,trivial⟩; refine zo rfl (oLd ti3 ?_); exact zt hW (s8 c64 pre65); refine zo rfl (oLd ti61 ?_); refine zy 12 rfl (.lenV (enc:=zaa) rfl rfl rfl rfl ts61.desc rfl) ?_; exact zt hW (s6 c64 pre65))
 have s16:v9 8 2015 [(16,.clip 2 (c.texts.map zaa)),(18,(zai 2 zaa) ([t]:List Text)),(21,D.i c.k),(23,D.i c.w),(24,.ptr c1 4 0 2)] (v0 []):=zaj hW (by refine zs [5,11] ⟨?_,?_,trivial⟩; refine zo rfl (OpA.appendClip (enc:=zaa) (xs:=c.texts) rfl rfl rfl rfl ts61 rfl (.list (ys:=([t]:List Text))) q5_0 (fun c64 pre65=>?_)); exact zt hW (s8 c64 pre65); refine zo rfl (oLd ti61 ?_); refine zy 12 rfl (.lenV (enc:=zaa) rfl rfl rfl rfl ts61.desc rfl) ?_; exact zt hW s7)
 have s17:v9 8 7519 [(16,.clip 2 (c.texts.map zaa)),(18,(zai 2 zaa) ([t]:List Text)),(20,.ptr c1 4 0 0),(22,.ptr c1 4 0 1),(26,D.i (c.texts.length:Int))] (v0 []):=zaj hW (by refine zs [5,7,9] ⟨?_,?_,?_,trivial⟩; refine zo rfl (OpA.appendClip (enc:=zaa) (xs:=c.texts) rfl rfl rfl rfl ts61 rfl (.list (ys:=([t]:List Text))) q5_0 (fun c64 pre65=>?_)); exact zt hW (s9 c64 pre65); refine zo rfl (oLd ti3 ?_); exact zt hW s10; refine zo rfl (oLd ti3 ?_); exact zt hW s11)
 have s18:v9 8 7631 [(16,.clip 2 (c.texts.map zaa)),(17,zaa t),(21,D.i c.k),(22,.ptr c1 4 0 1),(26,D.i (c.texts.length:Int))] (v0 []):=zaj hW (by refine zs [4,9] ⟨?_,?_,trivial⟩; refine zo rfl (OpA.ibuildSliceO rfl ts61 rfl (.cons (.of (sz:=2) rfl) .nil) (by decide) ?_); exact zt hW s10; refine zo rfl (oLd ti3 ?_); exact zt hW s12)
 have s19:v9 8 8015 [(16,.clip 2 (c.texts.map zaa)),(17,zaa t),(20,.ptr c1 4 0 0),(23,D.i c.w),(26,D.i (c.texts.length:Int))] (v0 []):=zaj hW (by refine zs [4,7] ⟨?_,?_,trivial⟩; refine zo rfl (OpA.ibuildSliceO rfl ts61 rfl (.cons (.of (sz:=2) rfl) .nil) (by decide) ?_); exact zt hW s11; refine zo rfl (oLd ti3 ?_); exact zt hW s12)
 have s20:v9 8 8135 [(3,.ptr c2 2 0 0),(16,.clip 2 (c.texts.map zaa)),(21,D.i c.k),(23,D.i c.w),(26,D.i (c.texts.length:Int))] (v0 []):=zaj hW (by refine zs [3] ⟨?_,trivial⟩; refine zo rfl (oLw ti57 ?_); exact zt hW s12)
 have s21:v9 8 7643 [(15,(zai 2 zaa) c.texts),(18,(zai 2 zaa) ([t]:List Text)),(21,D.i c.k),(22,.ptr c1 4 0 1),(26,D.i (c.texts.length:Int))] (v0 []):=zaj hW (by refine zs [2,9] ⟨?_,?_,trivial⟩; refine zo rfl (OpA.call rfl rfl rfl zK (clip_c c.texts) ?_); rintro _ rfl; exact zt hW s10; refine zo rfl (oLd ti3 ?_); exact zt hW s13)
 have s22:v9 8 8027 [(15,(zai 2 zaa) c.texts),(18,(zai 2 zaa) ([t]:List Text)),(20,.ptr c1 4 0 0),(23,D.i c.w),(26,D.i (c.texts.length:Int))] (v0 []):=zaj hW (by refine zs [2,7] ⟨?_,?_,trivial⟩; refine zo rfl (OpA.call rfl rfl rfl zK (clip_c c.texts) ?_); rintro _ rfl; exact zt hW s11; refine zo rfl (oLd ti3 ?_); exact zt hW s13)
 have s23:v9 8 8139 [(15,(zai 2 zaa) c.texts),(17,zaa t),(21,D.i c.k),(23,D.i c.w),(26,D.i (c.texts.length:Int))] (v0 []):=zaj hW (by refine zs [2,4] ⟨?_,?_,trivial⟩; refine zo rfl (OpA.call rfl rfl rfl zK (clip_c c.texts) ?_); rintro _ rfl; exact zt hW s12; refine zo rfl (OpA.ibuildSliceO rfl ts61 rfl (.cons (.of (sz:=2) rfl) .nil) (by decide) ?_); exact zt hW s13)
 have s24:v9 8 8153 [(14,.ptr c1 4 0 2),(18,(zai 2 zaa) ([t]:List Text)),(21,D.i c.k),(23,D.i c.w),(26,D.i (c.texts.length:Int))] (v0 []):=zaj hW (by refine zs [1] ⟨?_,trivial⟩; refine zo rfl (oLd ti61 ?_); exact zt hW s13)
 have s25:∀(c64:Nat) (pre65:List D),v9 9 1407 [(19,.own c64 2 pre65.length (c.texts++([t]:List Text)).length),(20,.ptr c1 4 0 0),(22,.ptr c1 4 0 1),(24,.ptr c1 4 0 2)] ((c64,.cells 2 (zas zaa pre65 (c.texts++([t]:List Text)) ([]:List D)))::v0 []):=fun c64 pre65=>zaj hW (by refine zs [7,9,11] ⟨?_,?_,?_,trivial⟩; refine zo rfl (oLd ti3 ?_); exact zt hW (s14 c64 pre65); refine zo rfl (oLd ti3 ?_); exact zt hW (s15 c64 pre65); refine zo rfl (oLd ti61 ?_); refine zy 12 rfl (.lenV (enc:=zaa) rfl rfl rfl rfl ts61.desc rfl) ?_; exact zt hW (s9 c64 pre65))
 have s26:v9 9 1503 [(16,.clip 2 (c.texts.map zaa)),(18,(zai 2 zaa) ([t]:List Text)),(21,D.i c.k),(22,.ptr c1 4 0 1),(24,.ptr c1 4 0 2)] (v0 []):=zaj hW (by refine zs [5,9,11] ⟨?_,?_,?_,trivial⟩; refine zo rfl (OpA.appendClip (enc:=zaa) (xs:=c.texts) rfl rfl rfl rfl ts61 rfl (.list (ys:=([t]:List Text))) q5_0 (fun c64 pre65=>?_)); exact zt hW (s14 c64 pre65); refine zo rfl (oLd ti3 ?_); exact zt hW s16; refine zo rfl (oLd ti61 ?_); refine zy 12 rfl (.lenV (enc:=zaa) rfl rfl rfl rfl ts61.desc rfl) ?_; exact zt hW s10)
 have s27:v9 9 1887 [(16,.clip 2 (c.texts.map zaa)),(18,(zai 2 zaa) ([t]:List Text)),(20,.ptr c1 4 0 0),(23,D.i c.w),(24,.ptr c1 4 0 2)] (v0 []):=zaj hW (by refine zs [5,7,11] ⟨?_,?_,?_,trivial⟩; refine zo rfl (OpA.appendClip (enc:=zaa) (xs:=c.texts) rfl rfl rfl rfl ts61 rfl (.list (ys:=([t]:List Text))) q5_0 (fun c64 pre65=>?_)); exact zt hW (s15 c64 pre65); refine zo rfl (oLd ti3 ?_); exact zt hW s16; refine zo rfl (oLd ti61 ?_); refine zy 12 rfl (.lenV (enc:=zaa) rfl rfl rfl rfl ts61.desc rfl) ?_; exact zt hW s11)
 have s28:v9 9 1999 [(16,.clip 2 (c.texts.map zaa)),(17,zaa t),(21,D.i c.k),(23,D.i c.w),(24,.ptr c1 4 0 2)] (v0 []):=zaj hW (by refine zs [4,11] ⟨?_,?_,trivial⟩; refine zo rfl (OpA.ibuildSliceO rfl ts61 rfl (.cons (.of (sz:=2) rfl) .nil) (by decide) ?_); exact zt hW s16; refine zo rfl (oLd ti61 ?_); refine zy 12 rfl (.lenV (enc:=zaa) rfl rfl rfl rfl ts61.desc rfl) ?_; exact zt hW s12)
 have s29:v9 9 7503 [(16,.clip 2 (c.texts.map zaa)),(17,zaa t),(20,.ptr c1 4 0 0),(22,.ptr c1 4 0 1),(26,D.i (c.texts.length:Int))] (v0 []):=zaj hW (by refine zs [4,7,9] ⟨?_,?_,?_,trivial⟩; refine zo rfl (OpA.ibuildSliceO rfl ts61 rfl (.cons (.of (sz:=2) rfl) .nil) (by decide) ?_); exact zt hW s17; refine zo rfl (oLd ti3 ?_); exact zt hW s18; refine zo rfl (oLd ti3 ?_); exact zt hW s19)
 have s30:v9 9 7623 [(3,.ptr c2 2 0 0),(16,.clip 2 (c.texts.map zaa)),(21,D.i c.k),(22,.ptr c1 4 0 1),(26,D.i (c.texts.length:Int))] (v0 []):=zaj hW (by refine zs [3,9] ⟨?_,?_,trivial⟩; refine zo rfl (oLw ti57 ?_); exact zt hW s18; refine zo rfl (oLd ti3 ?_); exact zt hW s20)
 have s31:v9 9 8007 [(3,.ptr c2 2 0 0),(16,.clip 2 (c.texts.map zaa)),(20,.ptr c1 4 0 0),(23,D.i c.w),(26,D.i (c.texts.length:Int))] (v0 []):=zaj hW (by refine zs [3,7] ⟨?_,?_,trivial⟩; refine zo rfl (oLw ti57 ?_); exact zt hW s19; refine zo rfl (oLd ti3 ?_); exact zt hW s20)
 have s32:v9 9 2011 [(15,(zai 2 zaa) c.texts),(18,(zai 2 zaa) ([t]:List Text)),(21,D.i c.k),(23,D.i c.w),(24,.ptr c1 4 0 2)] (v0 []):=zaj hW (by refine zs [2,11] ⟨?_,?_,trivial⟩; refine zo rfl (OpA.call rfl rfl rfl zK (clip_c c.texts) ?_); rintro _ rfl; exact zt hW s16; refine zo rfl (oLd ti61 ?_); refine zy 12 rfl (.lenV (enc:=zaa) rfl rfl rfl rfl ts61.desc rfl) ?_; exact zt hW s13)
 have s33:v9 9 7515 [(15,(zai 2 zaa) c.texts),(18,(zai 2 zaa) ([t]:List Text)),(20,.ptr c1 4 0 0),(22,.ptr c1 4 0 1),(26,D.i (c.texts.length:Int))] (v0 []):=zaj hW (by refine zs [2,7,9] ⟨?_,?_,?_,trivial⟩; refine zo rfl (OpA.call rfl rfl rfl zK (clip_c c.texts) ?_); rintro _ rfl; exact zt hW s17; refine zo rfl (oLd ti3 ?_); exact zt hW s21; refine zo rfl (oLd ti3 ?_); exact zt hW s22)
 have s34:v9 9 7627 [(15,(zai 2 zaa) c.texts),(17,zaa t),(21,D.i c.k),(22,.ptr c1 4 0 1),(26,D.i (c.texts.length:Int))] (v0 []):=zaj hW (by refine zs [2,4,9] ⟨?_,?_,?_,trivial⟩; refine zo rfl (OpA.call rfl rfl rfl zK (clip_c c.texts) ?_); rintro _ rfl; exact zt hW s18; refine zo rfl (OpA.ibuildSliceO rfl ts61 rfl (.cons (.of (sz:=2) rfl) .nil) (by decide) ?_); exact zt hW s21; refine zo rfl (oLd ti3 ?_); exact zt hW s23)
 have s35:v9 9 8011 [(15,(zai 2 zaa) c.texts),(17,zaa t),(20,.ptr c1 4 0 0),(23,D.i c.w),(26,D.i (c.texts.length:Int))] (v0 []):=zaj hW (by refine zs [2,4,7] ⟨?_,?_,?_,trivial⟩; refine zo rfl (OpA.call rfl rfl rfl zK (clip_c c.texts) ?_); rintro _ rfl; exact zt hW s19; refine zo rfl (OpA.ibuildSliceO rfl ts61 rfl (.cons (.of (sz:=2) rfl) .nil) (by decide) ?_); exact zt hW s22; refine zo rfl (oLd ti3 ?_); exact zt hW s23)
 have s36:v9 9 8131 [(3,.ptr c2 2 0 0),(15,(zai 2 zaa) c.texts),(21,D.i c.k),(23,D.i c.w),(26,D.i (c.texts.length:Int))] (v0 []):=zaj hW (by refine zs [2,3] ⟨?_,?_,trivial⟩; refine zo rfl (OpA.call rfl rfl rfl zK (clip_c c.texts) ?_); rintro _ rfl; exact zt hW s20; refine zo rfl (oLw ti57 ?_); exact zt hW s23)
 have s37:v9 9 7641 [(14,.ptr c1 4 0 2),(18,(zai 2 zaa) ([t]:List Text)),(21,D.i c.k),(22,.ptr c1 4 0 1),(26,D.i (c.texts.length:Int))] (v0 []):=zaj hW (by refine zs [1,9] ⟨?_,?_,trivial⟩; refine zo rfl (oLd ti61 ?_); exact zt hW s21; refine zo rfl (oLd ti3 ?_); exact zt hW s24)
 have s38:v9 9 8025 [(14,.ptr c1 4 0 2),(18,(zai 2 zaa) ([t]:List Text)),(20,.ptr c1 4 0 0),(23,D.i c.w),(26,D.i (c.texts.length:Int))] (v0 []):=zaj hW (by refine zs [1,7] ⟨?_,?_,trivial⟩; refine zo rfl (oLd ti61 ?_); exact zt hW s22; refine zo rfl (oLd ti3 ?_); exact zt hW s24)
 have s39:v9 9 8137 [(14,.ptr c1 4 0 2),(17,zaa t),(21,D.i c.k),(23,D.i c.w),(26,D.i (c.texts.length:Int))] (v0 []):=zaj hW (by refine zs [1,4] ⟨?_,?_,trivial⟩; refine zo rfl (oLd ti61 ?_); exact zt hW s23; refine zo rfl (OpA.ibuildSliceO rfl ts61 rfl (.cons (.of (sz:=2) rfl) .nil) (by decide) ?_); exact zt hW s24)
 have s40:v9 10 1375 [(16,.clip 2 (c.texts.map zaa)),(18,(zai 2 zaa) ([t]:List Text)),(20,.ptr c1 4 0 0),(22,.ptr c1 4 0 1),(24,.ptr c1 4 0 2)] (v0 []):=zaj hW (by refine zs [5,7,9,11] ⟨?_,?_,?_,?_,trivial⟩; refine zo rfl (OpA.appendClip (enc:=zaa) (xs:=c.texts) rfl rfl rfl rfl ts61 rfl (.list (ys:=([t]:List Text))) q5_0 (fun c64 pre65=>?_)); exact zt hW (s25 c64 pre65); refine zo rfl (oLd ti3 ?_); exact zt hW s26; refine zo rfl (oLd ti3 ?_); exact zt hW s27; refine zo rfl (oLd ti61 ?_); refine zy 12 rfl (.lenV (enc:=zaa) rfl rfl rfl rfl ts61.desc rfl) ?_; exact zt hW s17)
 have s41:v9 10 1487 [(16,.clip 2 (c.texts.map zaa)),(17,zaa t),(21,D.i c.k),(22,.ptr c1 4 0 1),(24,.ptr c1 4 0 2)] (v0 []):=zaj hW (by refine zs [4,9,11] ⟨?_,?_,?_,trivial⟩; refine zo rfl (OpA.ibuildSliceO rfl ts61 rfl (.cons (.of (sz:=2) rfl) .nil) (by decide) ?_); exact zt hW s26; refine zo rfl (oLd ti3 ?_); exact zt hW s28; refine zo rfl (oLd ti61 ?_); refine zy 12 rfl (.lenV (enc:=zaa) rfl rfl rfl rfl ts61.desc rfl) ?_; exact zt hW s18)
 have s42:v9 10 1871 [(16,.clip 2 (c.texts.map zaa)),(17,zaa t),(20,.ptr c1 4 0 0),(23,D.i c.w),(24,.ptr c1 4 0 2)] (v0 []):=zaj hW (by refine zs [4,7,11] ⟨?_,?_,?_,trivial⟩; refine zo rfl (OpA.ibuildSliceO rfl ts61 rfl (.cons (.of (sz:=2) rfl) .nil) (by decide) ?_); exact zt hW s27; refine zo rfl (oLd ti3 ?_); exact zt hW s28; refine zo rfl (oLd ti61 ?_); refine zy 12 rfl (.lenV (enc:=zaa) rfl rfl rfl rfl ts61.desc rfl) ?_; exact zt hW s19)
 have s43:v9 10 1991 [(3,.ptr c2 2 0 0),(16,.clip 2 (c.texts.map zaa)),(21,D.i c.k),(23,D.i c.w),(24,.ptr c1 4 0 2)] (v0 []):=zaj hW (by refine zs [3,11] ⟨?_,?_,trivial⟩; refine zo rfl (oLw ti57 ?_); exact zt hW s28; refine zo rfl (oLd ti61 ?_); refine zy 12 rfl (.lenV (enc:=zaa) rfl rfl rfl rfl ts61.desc rfl) ?_; exact zt hW s20)
 have s44:v9 10 7495 [(3,.ptr c2 2 0 0),(16,.clip 2 (c.texts.map zaa)),(20,.ptr c1 4 0 0),(22,.ptr c1 4 0 1),(26,D.i (c.texts.length:Int))] (v0 []):=zaj hW (by refine zs [3,7,9] ⟨?_,?_,?_,trivial⟩; refine zo rfl (oLw ti57 ?_); exact zt hW s29; refine zo rfl (oLd ti3 ?_); exact zt hW s30; refine zo rfl (oLd ti3 ?_); exact zt hW s31)
 have s45:v9 10 1499 [(15,(zai 2 zaa) c.texts),(18,(zai 2 zaa) ([t]:List Text)),(21,D.i c.k),(22,.ptr c1 4 0 1),(24,.ptr c1 4 0 2)] (v0 []):=zaj hW (by refine zs [2,9,11] ⟨?_,?_,?_,trivial⟩; refine zo rfl (OpA.call rfl rfl rfl zK (clip_c c.texts) ?_); rintro _ rfl; exact zt hW s26; refine zo rfl (oLd ti3 ?_); exact zt hW s32; refine zo rfl (oLd ti61 ?_); refine zy 12 rfl (.lenV (enc:=zaa) rfl rfl rfl rfl ts61.desc rfl) ?_; exact zt hW s21)
 have s46:v9 10 1883 [(15,(zai 2 zaa) c.texts),(18,(zai 2 zaa) ([t]:List Text)),(20,.ptr c1 4 0 0),(23,D.i c.w),(24,.ptr c1 4 0 2)] (v0 []):=zaj hW (by refine zs [2,7,11] ⟨?_,?_,?_,trivial⟩; refine zo rfl (OpA.call rfl rfl rfl zK (clip_c c.texts) ?_); rintro _ rfl; exact zt hW s27; refine zo rfl (oLd ti3 ?_); exact zt hW s32; refine zo rfl (oLd ti61 ?_); refine zy 12 rfl (.lenV (enc:=zaa) rfl rfl rfl rfl ts61.desc rfl) ?_; exact zt hW s22)
 have s47:v9 10 1995 [(15,(zai 2 zaa) c.texts),(17,zaa t),(21,D.i c.k),(23,D.i c.w),(24,.ptr c1 4 0 2)] (v0 []):=zaj hW (by refine zs [2,4,11] ⟨?_,?_,?_,trivial⟩; refine zo rfl (OpA.call rfl rfl rfl zK (clip_c c.texts) ?_); rintro _ rfl; exact zt hW s28; refine zo rfl (OpA.ibuildSliceO rfl ts61 rfl (.cons (.of (sz:=2) rfl) .nil) (by decide) ?_); exact zt hW s32; refine zo rfl (oLd ti61 ?_); refine zy 12 rfl (.lenV (enc:=zaa) rfl rfl rfl rfl ts61.desc rfl) ?_; exact zt hW s23)
 have s48:v9 10 7499 [(15,(zai 2 zaa) c.texts),(17,zaa t),(20,.ptr c1 4 0 0),(22,.ptr c1 4 0 1),(26,D.i (c.texts.length:Int))] (v0 []):=zaj hW (by refine zs [2,4,7,9] ⟨?_,?_,?_,?_,trivial⟩; refine zo rfl (OpA.call rfl rfl rfl zK (clip_c c.texts) ?_); rintro _ rfl; exact zt hW s29; refine zo rfl (OpA.ibuildSliceO rfl ts61 rfl (.cons (.of (sz:=2) rfl) .nil) (by decide) ?_); exact zt hW s33; refine zo rfl (oLd ti3 ?_); exact zt hW s34; refine zo rfl (oLd ti3 ?_); exact zt hW s35)
 have s49:v9 10 7619 [(3,.ptr c2 2 0 0),(15,(zai 2 zaa) c.texts),(21,D.i c.k),(22,.ptr c1 4 0 1),(26,D.i (c.texts.length:Int))] (v0 []):=zaj hW (by refine zs [2,3,9] ⟨?_,?_,?_,trivial⟩; refine zo rfl (OpA.call rfl rfl rfl zK (clip_c c.texts) ?_); rintro _ rfl; exact zt hW s30; refine zo rfl (oLw ti57 ?_); exact zt hW s34; refine zo rfl (oLd ti3 ?_); exact zt hW s36)
 have s50:v9 10 8003 [(3,.ptr c2 2 0 0),(15,(zai 2 zaa) c.texts),(20,.ptr c1 4 0 0),(23,D.i c.w),(26,D.i (c.texts.length:Int))] (v0 []):=zaj hW (by refine zs [2,3,7] ⟨?_,?_,?_,trivial⟩; refine zo rfl (OpA.call rfl rfl rfl zK (clip_c c.texts) ?_); rintro _ rfl; exact zt hW s31; refine zo rfl (oLw ti57 ?_); exact zt hW s35; refine zo rfl (oLd ti3 ?_); exact zt hW s36)
 have s51:v9 10 2009 [(14,.ptr c1 4 0 2),(18,(zai 2 zaa) ([t]:List Text)),(21,D.i c.k),(23,D.i c.w),(24,.ptr c1 4 0 2)] (v0 []):=zaj hW (by refine zs [1,11] ⟨?_,?_,trivial⟩; refine zo rfl (oLd ti61 ?_); exact zt hW s32; refine zo rfl (oLd ti61 ?_); refine zy 12 rfl (.lenV (enc:=zaa) rfl rfl rfl rfl ts61.desc rfl) ?_; exact zt hW s24)
 have s52:v9 10 7513 [(14,.ptr c1 4 0 2),(18,(zai 2 zaa) ([t]:List Text)),(20,.ptr c1 4 0 0),(22,.ptr c1 4 0 1),(26,D.i (c.texts.length:Int))] (v0 []):=zaj hW (by refine zs [1,7,9] ⟨?_,?_,?_,trivial⟩; refine zo rfl (oLd ti61 ?_); exact zt hW s33; refine zo rfl (oLd ti3 ?_); exact zt hW s37; refine zo rfl (oLd ti3 ?_); exact zt hW s38)
 have s53:v9 10 7625 [(14,.ptr c1 4 0 2),(17,zaa t),(21,D.i c.k),(22,.ptr c1 4 0 1),(26,D.i (c.texts.length:Int))] (v0 []):=zaj hW (by refine zs [1,4,9] ⟨?_,?_,?_,trivial⟩; refine zo rfl (oLd ti61 ?_); exact zt hW s34; refine zo rfl (OpA.ibuildSliceO rfl ts61 rfl (.cons (.of (sz:=2) rfl) .nil) (by decide) ?_); exact zt hW s37; refine zo rfl (oLd ti3 ?_); exact zt hW s39)
 have s54:v9 10 8009 [(14,.ptr c1 4 0 2),(17,zaa t),(20,.ptr c1 4 0 0),(23,D.i c.w),(26,D.i (c.texts.length:Int))] (v0 []):=zaj hW (by refine zs [1,4,7] ⟨?_,?_,?_,trivial⟩; refine zo rfl (oLd ti61 ?_); exact zt hW s35; refine zo rfl (OpA.ibuildSliceO rfl ts61 rfl (.cons (.of (sz:=2) rfl) .nil) (by decide) ?_); exact zt hW s38; refine zo rfl (oLd ti3 ?_); exact zt hW s39)
 have s55:v9 10 8129 [(3,.ptr c2 2 0 0),(14,.ptr c1 4 0 2),(21,D.i c.k),(23,D.i c.w),(26,D.i (c.texts.length:Int))] (v0 []):=zaj hW (by refine zs [1,3] ⟨?_,?_,trivial⟩; refine zo rfl (oLd ti61 ?_); exact zt hW s36; refine zo rfl (oLw ti57 ?_); exact zt hW s39)
 have s56:v9 11 1359 [(16,.clip 2 (c.texts.map zaa)),(17,zaa t),(20,.ptr c1 4 0 0),(22,.ptr c1 4 0 1),(24,.ptr c1 4 0 2)] (v0 []):=zaj hW (by refine zs [4,7,9,11] ⟨?_,?_,?_,?_,trivial⟩; refine zo rfl (OpA.ibuildSliceO rfl ts61 rfl (.cons (.of (sz:=2) rfl) .nil) (by decide) ?_); exact zt hW s40; refine zo rfl (oLd ti3 ?_); exact zt hW s41; refine zo rfl (oLd ti3 ?_); exact zt hW s42; refine zo rfl (oLd ti61 ?_); refine zy 12 rfl (.lenV (enc:=zaa) rfl rfl rfl rfl ts61.desc rfl) ?_; exact zt hW s29)
 have s57:v9 11 1479 [(3,.ptr c2 2 0 0),(16,.clip 2 (c.texts.map zaa)),(21,D.i c.k),(22,.ptr c1 4 0 1),(24,.ptr c1 4 0 2)] (v0 []):=zaj hW (by refine zs [3,9,11] ⟨?_,?_,?_,trivial⟩; refine zo rfl (oLw ti57 ?_); exact zt hW s41; refine zo rfl (oLd ti3 ?_); exact zt hW s43; refine zo rfl (oLd ti61 ?_); refine zy 12 rfl (.lenV (enc:=zaa) rfl rfl rfl rfl ts61.desc rfl) ?_; exact zt hW s30)
 have s58:v9 11 1863 [(3,.ptr c2 2 0 0),(16,.clip 2 (c.texts.map zaa)),(20,.ptr c1 4 0 0),(23,D.i c.w),(24,.ptr c1 4 0 2)] (v0 []):=zaj hW (by refine zs [3,7,11] ⟨?_,?_,?_,trivial⟩; refine zo rfl (oLw ti57 ?_); exact zt hW s42; refine zo rfl (oLd ti3 ?_); exact zt hW s43; refine zo rfl (oLd ti61 ?_); refine zy 12 rfl (.lenV (enc:=zaa) rfl rfl rfl rfl ts61.desc rfl) ?_; exact zt hW s31)
 have s59:v9 11 1371 [(15,(zai 2 zaa) c.texts),(18,(zai 2 zaa) ([t]:List Text)),(20,.ptr c1 4 0 0),(22,.ptr c1 4 0 1),(24,.ptr c1 4 0 2)] (v0 []):=zaj hW (by refine zs [2,7,9,11] ⟨?_,?_,?_,?_,trivial⟩; refine zo rfl (OpA.call rfl rfl rfl zK (clip_c c.texts) ?_); rintro _ rfl; exact zt hW s40; refine zo rfl (oLd ti3 ?_); exact zt hW s45; refine zo rfl (oLd ti3 ?_); exact zt hW s46; refine zo rfl (oLd ti61 ?_); refine zy 12 rfl (.lenV (enc:=zaa) rfl rfl rfl rfl ts61.desc rfl) ?_; exact zt hW s33)
 have s60:v9 11 1483 [(15,(zai 2 zaa) c.texts),(17,zaa t),(21,D.i c.k),(22,.ptr c1 4 0 1),(24,.ptr c1 4 0 2)] (v0 []):=zaj hW (by refine zs [2,4,9,11] ⟨?_,?_,?_,?_,trivial⟩; refine zo rfl (OpA.call rfl rfl rfl zK (clip_c c.texts) ?_); rintro _ rfl; exact zt hW s41; refine zo rfl (OpA.ibuildSliceO rfl ts61 rfl (.cons (.of (sz:=2) rfl) .nil) (by decide) ?_); exact zt hW s45; refine zo rfl (oLd ti3 ?_); exact zt hW s47; refine zo rfl (oLd ti61 ?_); refine zy 12 rfl (.lenV (enc:=zaa) rfl rfl rfl rfl ts61.desc rfl) ?_; exact zt hW s34)
 have s61:v9 11 1867 [(15,(zai 2 zaa) c.texts),(17,zaa t),(20,.ptr c1 4 0 0),(23,D.i c.w),(24,.ptr c1 4 0 2)] (v0 []):=zaj hW (by refine zs [2,4,7,11] ⟨?_,?_,?_,?_,trivial⟩; refine zo rfl (OpA.call rfl rfl rfl zK (clip_c c.texts) ?_); rintro _ rfl; exact zt hW s42; refine zo rfl (OpA.ibuildSliceO rfl ts61 rfl (.cons (.of (sz:=2) rfl) .nil) (by decide) ?_); exact zt hW s46; refine zo rfl (oLd ti3 ?_); exact zt hW s47; refine zo rfl (oLd ti61 ?_); refine zy 12 rfl (.lenV (enc:=zaa) rfl rfl rfl rfl ts61.desc rfl) ?_; exact zt hW s35)
 have s62:v9 11 1987 [(3,.ptr c2 2 0 0),(15,(zai 2 zaa) c.texts),(21,D.i c.k),(23,D.i c.w),(24,.ptr c1 4 0 2)] (v0 []):=zaj hW (by refine zs [2,3,11] ⟨?_,?_,?_,trivial⟩; refine zo rfl (OpA.call rfl rfl rfl zK (clip_c c.texts) ?_); rintro _ rfl; exact zt hW s43; refine zo rfl (oLw ti57 ?_); exact zt hW s47; refine zo rfl (oLd ti61 ?_); refine zy 12 rfl (.lenV (enc:=zaa) rfl rfl rfl rfl ts61.desc rfl) ?_; exact zt hW s36)
 have s63:v9 11 7491 [(3,.ptr c2 2 0 0),(15,(zai 2 zaa) c.texts),(20,.ptr c1 4 0 0),(22,.ptr c1 4 0 1),(26,D.i (c.texts.length:Int))] (v0 []):=zaj hW (by refine zs [2,3,7,9] ⟨?_,?_,?_,?_,trivial⟩; refine zo rfl (OpA.call rfl rfl rfl zK (clip_c c.texts) ?_); rintro _ rfl; exact zt hW s44; refine zo rfl (oLw ti57 ?_); exact zt hW s48; refine zo rfl (oLd ti3 ?_); exact zt hW s49; refine zo rfl (oLd ti3 ?_); exact zt hW s50)
 have s64:v9 11 1497 [(14,.ptr c1 4 0 2),(18,(zai 2 zaa) ([t]:List Text)),(21,D.i c.k),(22,.ptr c1 4 0 1),(24,.ptr c1 4 0 2)] (v0 []):=zaj hW (by refine zs [1,9,11] ⟨?_,?_,?_,trivial⟩; refine zo rfl (oLd ti61 ?_); exact zt hW s45; refine zo rfl (oLd ti3 ?_); exact zt hW s51; refine zo rfl (oLd ti61 ?_); refine zy 12 rfl (.lenV (enc:=zaa) rfl rfl rfl rfl ts61.desc rfl) ?_; exact zt hW s37)
 have s65:v9 11 1881 [(14,.ptr c1 4 0 2),(18,(zai 2 zaa) ([t]:List Text)),(20,.ptr c1 4 0 0),(23,D.i c.w),(24,.ptr c1 4 0 2)] (v0 []):=zaj hW (by refine zs [1,7,11] ⟨?_,?_,?_,trivial⟩; refine zo rfl (oLd ti61 ?_); exact zt hW s46; refine zo rfl (oLd ti3 ?_); exact zt hW s51; refine zo rfl (oLd ti61 ?_); refine zy 12 rfl (.lenV (enc:=zaa) rfl rfl rfl rfl ts61.desc rfl) ?_; exact zt hW s38)
 have s66:v9 11 1993 [(14,.ptr c1 4 0 2),(17,zaa t),(21,D.i c.k),(23,D.i c.w),(24,.ptr c1 4 0 2)] (v0 []):=zaj hW (by refine zs [1,4,11] ⟨?_,?_,?_,trivial⟩; refine zo rfl (oLd ti61 ?_); exact zt hW s47; refine zo rfl (OpA.ibuildSliceO rfl ts61 rfl (.cons (.of (sz:=2) rfl) .nil) (by decide) ?_); exact zt hW s51; refine zo rfl (oLd ti61 ?_); refine zy 12 rfl (.lenV (enc:=zaa) rfl rfl rfl rfl ts61.desc rfl) ?_; exact zt hW s39)
 have s67:v9 11 7497 [(14,.ptr c1 4 0 2),(17,zaa t),(20,.ptr c1 4 0 0),(22,.ptr c1 4 0 1),(26,D.i (c.texts.length:Int))] (v0 []):=zaj hW (by refine zs [1,4,7,9] ⟨?_,?_,?_,?_,trivial⟩; refine zo rfl (oLd ti61 ?_); exact zt hW s48; refine zo rfl (OpA.ibuildSliceO rfl ts61 rfl (.cons (.of (sz:=2) rfl) .nil) (by decide) ?_); exact zt hW s52; refine zo rfl (oLd ti3 ?_); exact zt hW s53; refine zo rfl (oLd ti3 ?_); exact zt hW s54)
 have s68:v9 11 7617 [(3,.ptr c2 2 0 0),(14,.ptr c1 4 0 2),(21,D.i c.k),(22,.ptr c1 4 0 1),(26,D.i (c.texts.length:Int))] (v0 []):=zaj hW (by refine zs [1,3,9] ⟨?_,?_,?_,trivial⟩; refine zo rfl (oLd ti61 ?_); exact zt hW s49; refine zo rfl (oLw ti57 ?_); exact zt hW s53; refine zo rfl (oLd ti3 ?_); exact zt hW s55)
 have s69:v9 11 8001 [(3,.ptr c2 2 0 0),(14,.ptr c1 4 0 2),(20,.ptr c1 4 0 0),(23,D.i c.w),(26,D.i (c.texts.length:Int))] (v0 []):=zaj hW (by refine zs [1,3,7] ⟨?_,?_,?_,trivial⟩; refine zo rfl (oLd ti61 ?_); exact zt hW s50; refine zo rfl (oLw ti57 ?_); exact zt hW s54; refine zo rfl (oLd ti3 ?_); exact zt hW s55)
 have s70:v9 12 1351 [(3,.ptr c2 2 0 0),(16,.clip 2 (c.texts.map zaa)),(20,.ptr c1 4 0 0),(22,.ptr c1 4 0 1),(24,.ptr c1 4 0 2)] (v0 []):=zaj hW (by refine zs [3,7,9,11] ⟨?_,?_,?_,?_,trivial⟩; refine zo rfl (oLw ti57 ?_); exact zt hW s56; refine zo rfl (oLd ti3 ?_); exact zt hW s57; refine zo rfl (oLd ti3 ?_); exact zt hW s58; refine zo rfl (oLd ti61 ?_); refine zy 12 rfl (.lenV (enc:=zaa) rfl rfl rfl rfl ts61.desc rfl) ?_; exact zt hW s44)
 have s71:v9 12 1355 [(15,(zai 2 zaa) c.texts),(17,zaa t),(20,.ptr c1 4 0 0),(22,.ptr c1 4 0 1),(24,.ptr c1 4 0 2)] (v0 []):=zaj hW (by refine zs [2,4,7,9,11] ⟨?_,?_,?_,?_,?_,trivial⟩; refine zo rfl (OpA.call rfl rfl rfl zK (clip_c c.texts) ?_); rintro _ rfl; exact zt hW s56; refine zo rfl (OpA.ibuildSliceO rfl ts61 rfl (.cons (.of (sz:=2) rfl) .nil) (by decide) ?_); exact zt hW s59; refine zo rfl (oLd ti3 ?_); exact zt hW s60; refine zo rfl (oLd ti3 ?_); exact zt hW s61; refine zo rfl (oLd ti61 ?_); refine zy 12 rfl (.lenV (enc:=zaa) rfl rfl rfl rfl ts61.desc rfl) ?_; exact zt hW s48)
 have s72:v9 12 1475 [(3,.ptr c2 2 0 0),(15,(zai 2 zaa) c.texts),(21,D.i c.k),(22,.ptr c1 4 0 1),(24,.ptr c1 4 0 2)] (v0 []):=zaj hW (by refine zs [2,3,9,11] ⟨?_,?_,?_,?_,trivial⟩; refine zo rfl (OpA.call rfl rfl rfl zK (clip_c c.texts) ?_); rintro _ rfl; exact zt hW s57; refine zo rfl (oLw ti57 ?_); exact zt hW s60; refine zo rfl (oLd ti3 ?_); exact zt hW s62; refine zo rfl (oLd ti61 ?_); refine zy 12 rfl (.lenV (enc:=zaa) rfl rfl rfl rfl ts61.desc rfl) ?_; exact zt hW s49)
 have s73:v9 12 1859 [(3,.ptr c2 2 0 0),(15,(zai 2 zaa) c.texts),(20,.ptr c1 4 0 0),(23,D.i c.w),(24,.ptr c1 4 0 2)] (v0 []):=zaj hW (by refine zs [2,3,7,11] ⟨?_,?_,?_,?_,trivial⟩; refine zo rfl (OpA.call rfl rfl rfl zK (clip_c c.texts) ?_); rintro _ rfl; exact zt hW s58; refine zo rfl (oLw ti57 ?_); exact zt hW s61; refine zo rfl (oLd ti3 ?_); exact zt hW s62; refine zo rfl (oLd ti61 ?_); refine zy 12 rfl (.lenV (enc:=zaa) rfl rfl rfl rfl ts61.desc rfl) ?_; exact zt hW s50)
 have s74:v9 12 1369 [(14,.ptr c1 4 0 2),(18,(zai 2 zaa) ([t]:List Text)),(20,.ptr c1 4 0 0),(22,.ptr c1 4 0 1),(24,.ptr c1 4 0 2)] (v0 []):=zaj hW (by refine zs [1,7,9,11] ⟨?_,?_,?_,?_,trivial⟩; refine zo rfl (oLd ti61 ?_); exact zt hW s59; refine zo rfl (oLd ti3 ?_); exact zt hW s64; refine zo rfl (oLd ti3 ?_); exact zt hW s65; refine zo rfl (oLd ti61 ?_); refine zy 12 rfl (.lenV (enc:=zaa) rfl rfl rfl rfl ts61.desc rfl) ?_; exact zt hW s52)
 have s75:v9 12 1481 [(14,.ptr c1 4 0 2),(17,zaa t),(21,D.i c.k),(22,.ptr c1 4 0 1),(24,.ptr c1 4 0 2)] (v0 []):=zaj hW (by refine zs [1,4,9,11] ⟨?_,?_,?_,?_,trivial⟩; refine zo rfl (oLd ti61 ?_); exact zt hW s60; refine zo rfl (OpA.ibuildSliceO rfl ts61 rfl (.cons (.of (sz:=2) rfl) .nil) (by decide) ?_); exact zt hW s64; refine zo rfl (oLd ti3 ?_); exact zt hW s66; refine zo rfl (oLd ti61 ?_); refine zy 12 rfl (.lenV (enc:=zaa) rfl rfl rfl rfl ts61.desc rfl) ?_; exact zt hW s53)
 have s76:v9 12 1865 [(14,.ptr c1 4 0 2),(17,zaa t),(20,.ptr c1 4 0 0),(23,D.i c.w),(24,.ptr c1 4 0 2)] (v0 []):=zaj hW (by refine zs [1,4,7,11] ⟨?_,?_,?_,?_,trivial⟩; refine zo rfl (oLd ti61 ?_); exact zt hW s61; refine zo rfl (OpA.ibuildSliceO rfl ts61 rfl (.cons (.of (sz:=2) rfl) .nil) (by decide) ?_); exact zt hW s65; refine zo rfl (oLd ti3 ?_); exact zt hW s66; refine zo rfl (oLd ti61 ?_); refine zy 12 rfl (.lenV (enc:=zaa) rfl rfl rfl rfl ts61.desc rfl) ?_; exact zt hW s54)
 have s77:v9 12 1985 [(3,.ptr c2 2 0 0),(14,.ptr c1 4 0 2),(21,D.i c.k),(23,D.i c.w),(24,.ptr c1 4 0 2)] (v0 []):=zaj hW (by refine zs [1,3,11] ⟨?_,?_,?_,trivial⟩; refine zo rfl (oLd ti61 ?_); exact zt hW s62; refine zo rfl (oLw ti57 ?_); exact zt hW s66; refine zo rfl (oLd ti61 ?_); refine zy 12 rfl (.lenV (enc:=zaa) rfl rfl rfl rfl ts61.desc rfl) ?_; exact zt hW s55)
 have s78:v9 12 7489 [(3,.ptr c2 2 0 0),(14,.ptr c1 4 0 2),(20,.ptr c1 4 0 0),(22,.ptr c1 4 0 1),(26,D.i (c.texts.length:Int))] (v0 []):=zaj hW (by refine zs [1,3,7,9] ⟨?_,?_,?_,?_,trivial⟩; refine zo rfl (oLd ti61 ?_); exact zt hW s63; refine zo rfl (oLw ti57 ?_); exact zt hW s67; refine zo rfl (oLd ti3 ?_); exact zt hW s68; refine zo rfl (oLd ti3 ?_); exact zt hW s69)
 have s79:v9 13 1347 [(3,.ptr c2 2 0 0),(15,(zai 2 zaa) c.texts),(20,.ptr c1 4 0 0),(22,.ptr c1 4 0 1),(24,.ptr c1 4 0 2)] (v0 []):=zaj hW (by refine zs [2,3,7,9,11] ⟨?_,?_,?_,?_,?_,trivial⟩; refine zo rfl (OpA.call rfl rfl rfl zK (clip_c c.texts) ?_); rintro _ rfl; exact zt hW s70; refine zo rfl (oLw ti57 ?_); exact zt hW s71; refine zo rfl (oLd ti3 ?_); exact zt hW s72; refine zo rfl (oLd ti3 ?_); exact zt hW s73; refine zo rfl (oLd ti61 ?_); refine zy 12 rfl (.lenV (enc:=zaa) rfl rfl rfl rfl ts61.desc rfl) ?_; exact zt hW s63)
 have s80:v9 13 1353 [(14,.ptr c1 4 0 2),(17,zaa t),(20,.ptr c1 4 0 0),(22,.ptr c1 4 0 1),(24,.ptr c1 4 0 2)] (v0 []):=zaj hW (by refine zs [1,4,7,9,11] ⟨?_,?_,?_,?_,?_,trivial⟩; refine zo rfl (oLd ti61 ?_); exact zt hW s71; refine zo rfl (OpA.ibuildSliceO rfl ts61 rfl (.cons (.of (sz:=2) rfl) .nil) (by decide) ?_); exact zt hW s74; refine zo rfl (oLd ti3 ?_); exact zt hW s75; refine zo rfl (oLd ti3 ?_); exact zt hW s76; refine zo rfl (oLd ti61 ?_); refine zy 12 rfl (.lenV (enc:=zaa) rfl rfl rfl rfl ts61.desc rfl) ?_; exact zt hW s67)
 have s81:v9 13 1473 [(3,.ptr c2 2 0 0),(14,.ptr c1 4 0 2),(21,D.i c.k),(22,.ptr c1 4 0 1),(24,.ptr c1 4 0 2)] (v0 []):=zaj hW (by refine zs [1,3,9,11] ⟨?_,?_,?_,?_,trivial⟩; refine zo rfl (oLd ti61 ?_); exact zt hW s72; refine zo rfl (oLw ti57 ?_); exact zt hW s75; refine zo rfl (oLd ti3 ?_); exact zt hW s77; refine zo rfl (oLd ti61 ?_); refine zy 12 rfl (.lenV (enc:=zaa) rfl rfl rfl rfl ts61.desc rfl) ?_; exact zt hW s68)
 have s82:v9 13 1857 [(3,.ptr c2 2 0 0),(14,.ptr c1 4 0 2),(20,.ptr c1 4 0 0),(23,D.i c.w),(24,.ptr c1 4 0 2)] (v0 []):=zaj hW (by refine zs [1,3,7,11] ⟨?_,?_,?_,?_,trivial⟩; refine zo rfl (oLd ti61 ?_); exact zt hW s73; refine zo rfl (oLw ti57 ?_); exact zt hW s76; refine zo rfl (oLd ti3 ?_); exact zt hW s77; refine zo rfl (oLd ti61 ?_); refine zy 12 rfl (.lenV (enc:=zaa) rfl rfl rfl rfl ts61.desc rfl) ?_; exact zt hW s69)
 have s83:v9 14 1345 [(3,.ptr c2 2 0 0),(14,.ptr c1 4 0 2),(20,.ptr c1 4 0 0),(22,.ptr c1 4 0 1),(24,.ptr c1 4 0 2)] (v0 []):=zaj hW (by refine zs [1,3,7,9,11] ⟨?_,?_,?_,?_,?_,trivial⟩; refine zo rfl (oLd ti61 ?_); exact zt hW s79; refine zo rfl (oLw ti57 ?_); exact zt hW s80; refine zo rfl (oLd ti3 ?_); exact zt hW s81; refine zo rfl (oLd ti3 ?_); exact zt hW s82; refine zo rfl (oLd ti61 ?_); refine zy 12 rfl (.lenV (enc:=zaa) rfl rfl rfl rfl ts61.desc rfl) ?_; exact zt hW s78)
 refine zaj hW ?_
 refine wpS_firstY (fuel:=17) (i:=0) (li':=(lv 18 1)) rfl rfl (.fieldAddr rfl tf64_2 rfl) rfl rfl zK zK zK (fun _ _ _ hx=>hx) rfl rfl zK ?_
 refine wpS_firstY (fuel:=16) (i:=6) (li':=(lv 18 65)) rfl rfl (.fieldAddr rfl tf64_0 rfl) rfl rfl zK zK zK (fun _ _ _ hx=>hx) rfl rfl zK ?_
 refine wpS_firstY (fuel:=15) (i:=8) (li':=(lv 18 321)) rfl rfl (.fieldAddr rfl tf64_1 rfl) rfl rfl zK zK zK (fun _ _ _ hx=>hx) rfl rfl zK ?_
 refine wpS_firstY (fuel:=14) (i:=10) (li':=(lv 18 1345)) rfl rfl (.fieldAddr rfl tf64_2 rfl) rfl rfl zK zK zK (fun _ _ _ hx=>hx) rfl rfl zK ?_
 exact zt hW s83
 intro c64 pre65
 refine zaj hW (wpS_done zK ?_)
 refine G ?_
 exact zr h
theorem ixClone_c (s_:(List Clone))(g_p:Nat)(fs_p cs_p:List D)(p:Clone->Bool)(pD:Clone->Prop)(hen_p:entersB Tryz.prog g_p=true)(hg_p:∀ x0_,pD x0_->Fun false Tryz.prog g_p (fs_p++ [zap x0_]++cs_p) (fun d=>d=D.b (p x0_)))(hp0:s_.length<=9223372036854775807)(hp1:∀ z_∈s_,pD z_):Fun false Tryz.prog 74 [(zai 5 zap) s_,.fn (.func g_p) fs_p cs_p] (fun d=>d=D.i ((idxOf p s_))):=by
 refine fB Tryz.func74 Tryz.ntmps74 (ixClone_ok s_ p pD _ hp0 hp1 rfl) fun Q h=>?_
 unfold ixClone_vc at h
 refine G ?_
 refine zl h () (fun gg ss=> [(0,(zai 5 zap) s_),(1,.fn (.func g_p) fs_p cs_p),(4,D.i 0),(7,D.i (s_.length:Int)),(8,D.i ss)]) (fun gg ss=> []) ?_
 rintro again1 _ x h
 unfold ixClone_L1 at h
 refine G ?_
 refine zc h (fun _ h=>?_) (fun _ h=>G ?_)
 obtain⟨q1,q2,h⟩:=h
 refine G ?_
 refine wL (oIx (enc:=zap) ts77 q1 ?_)
 refine G ?_
 refine wL (OpA.call rfl rfl rfl hen_p (hg_p (gi s_ x) q2) ?_)
 rintro _ rfl
 refine G ?_
 refine zc h (fun _ h=>G ?_) (fun _ h=>?_)
 exact zr h
 obtain⟨q1,h⟩:=h
 refine G ?_
 exact⟨(),(x+1),h,cvZ,(.refl _)⟩
 exact zr h
theorem cfClone_c (s_:(List Clone))(g_p:Nat)(fs_p cs_p:List D)(p:Clone->Bool)(pD:Clone->Prop)(hen_p:entersB Tryz.prog g_p=true)(hg_p:∀ x0_,pD x0_->Fun false Tryz.prog g_p (fs_p++ [zap x0_]++cs_p) (fun d=>d=D.b (p x0_)))(hp0:s_.length<=9223372036854775807)(hp1:∀ z_∈s_,pD z_):Fun false Tryz.prog 25 [(zai 5 zap) s_,.fn (.func g_p) fs_p cs_p] (fun d=>d=D.b ((s_.any p))):=by
 refine fB Tryz.func25 Tryz.ntmps25 (cfClone_ok s_ p pD _ hp0 hp1 rfl) fun Q h=>?_
 unfold cfClone_vc at h
 obtain⟨q1,q2,h⟩:=h
 refine G ?_
 refine wL (oC (ixClone_c s_ g_p fs_p cs_p p pD hen_p hg_p q1 q2) ?_)
 refine G ?_
 exact zr h
end Go.Proofs.YtkifpidbpoghlaaGreatDoor
