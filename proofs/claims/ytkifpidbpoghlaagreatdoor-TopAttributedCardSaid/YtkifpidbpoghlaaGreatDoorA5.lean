/-
  walks and contracts
-/
import Derived.Test.YtkifpidbpoghlaaGreatDoorAto5
import Derived.Test.YtkifpidbpoghlaaGreatDoorAo3
import Derived.Test.YtkifpidbpoghlaaGreatDoorMapK
import Derived.Test.YtkifpidbpoghlaaGreatDoorV1
set_option maxRecDepth 10000
set_option maxHeartbeats 2000000
set_option linter.all false
namespace Go.Proofs.YtkifpidbpoghlaaGreatDoor
open Go Go.Lic Go.Sort Go.Proofs
attribute [local irreducible] absF clF consF dhex1 hexD idxB newD offsF parseD permF rotF roundF ssF sumD wrF
theorem rot_c (x:Int)(k:Int) :Fun false Tryz.prog 239 [(D.k .u64) x,D.i k] (fun d=>d=(D.k .u64) (rotF x k)):=by
 refine fB Tryz.func239 Tryz.ntmps239 (enc:=fun r=>(D.k .u64) r) (rot_ok x k _  rfl) fun Q h=>?_
 unfold rot_vc at h
 refine G ?_
 refine wL (OpA.conv rfl td3 td169 rfl ?_)
 refine wL (OpA.band rfl rfl rfl ?_)
 obtain⟨q1,q2,h⟩:=h
 refine G ?_
 refine wL (OpA.shl rfl rfl rfl q1 ?_)
 refine G ?_
 refine wL (OpA.sub rfl rfl rfl ?_)
 refine wL (OpA.shr rfl rfl rfl q2 ?_)
 refine wL (OpA.bor rfl rfl rfl ?_)
 refine G ?_
 exact zr h
theorem slib_c (s_:ByteArray)(c:Int) :Fun false Tryz.prog 122 [D.s s_,(D.k .u8) c] (fun d=>d=D.i (idxB s_ c)):=by
 refine fB Tryz.func122 Tryz.ntmps122 (slib_ok s_ c _  rfl) fun Q h=>?_
 unfold slib_vc at h
 refine G ?_
 refine wL (OpA.callX (vs:= [.string s_,.int .u8 c]) rfl rfl rfl rfl Tryz.func162 zK zK zK zK (fun w=>run_indexByte_string s_ c w) ?_)
 refine G ?_
 exact zr h
theorem idxB_c (s_:ByteArray)(c:Int) :Fun false Tryz.prog 91 [D.s s_,(D.k .u8) c] (fun d=>d=D.i (idxB s_ c)):=by
 refine fB Tryz.func91 Tryz.ntmps91 (idxB_ok s_ c _  rfl) fun Q h=>?_
 unfold idxB_vc at h
 refine G ?_
 refine wL (oC (slib_c s_ c) ?_)
 refine G ?_
 exact zr h
theorem offs_c :Fun false Tryz.prog 224 [] (fun d=>d=(zcb 25 D.i) (offsF)):=by
 refine fB Tryz.func224 Tryz.ntmps224 (enc:=fun r=>(zcb 25 D.i) r) (offs_ok  _  rfl) fun Q h=>?_
 unfold offs_vc at h
 refine G ?_
 refine wL (oA 25 ((zcb 25 D.i) (List.replicate 25 0)) tz307 (fun c1 _=>?_))
 refine G ?_
 refine wL (OpA.buildArrV (k:= .i64) (xs:= [0,1,62,28,27,36,44,6,55,20,3,10,43,25,39,41,45,15,21,8,18,2,61,56,14]) rfl td307 ti3 tz307 rfl rfl rfl rfl ?_)
 refine G ?_
 exact⟨_,(.cell (.whole ti307 rfl rfl .head rfl ⟨_,rfl⟩) .nil),_,(.same rfl .nil),⟨[0,1,62,28,27,36,44,6,55,20,3,10,43,25,39,41,45,15,21,8,18,2,61,56,14],rfl,h⟩⟩
theorem cons_c :Fun false Tryz.prog 225 [] (fun d=>d=(zcb 24 (D.k .u64)) (consF)):=by
 refine fB Tryz.func225 Tryz.ntmps225 (enc:=fun r=>(zcb 24 (D.k .u64)) r) (cons_ok  _  rfl) fun Q h=>?_
 unfold cons_vc at h
 refine G ?_
 refine wL (oA 24 ((zcb 24 (D.k .u64)) (List.replicate 24 0)) tz309 (fun c1 _=>?_))
 refine G ?_
 refine wL (OpA.buildArrV (k:= .u64) (xs:= [1,32898,9223372036854808714,9223372039002292224,32907,2147483649,9223372039002292353,9223372036854808585,138,136,2147516425,2147483658,2147516555,9223372036854775947,9223372036854808713,9223372036854808579,9223372036854808578,9223372036854775936,32778,9223372039002259466,9223372039002292353,9223372036854808704,2147483649,9223372039002292232]) rfl td309 ti250 tz309 rfl rfl rfl rfl ?_)
 refine G ?_
 exact⟨_,(.cell (.whole ti309 rfl rfl .head rfl ⟨_,rfl⟩) .nil),_,(.same rfl .nil),⟨[1,32898,9223372036854808714,9223372039002292224,32907,2147483649,9223372039002292353,9223372036854808585,138,136,2147516425,2147483658,2147516555,9223372036854775947,9223372036854808713,9223372036854808579,9223372036854808578,9223372036854775936,32778,9223372039002259466,9223372039002292353,9223372036854808704,2147483649,9223372039002292232],rfl,h⟩⟩
theorem round_c (s_:(List Int))(offset:(List Int))(constant:Int)(hp0:s_.length=25):Fun false Tryz.prog 226 [(zcb 25 (D.k .u64)) s_,(zcb 25 D.i) offset,(D.k .u64) constant] (fun d=>d=(zcb 25 (D.k .u64)) (roundF s_ offset constant)):=by
 refine fB Tryz.func226 Tryz.ntmps226 (enc:=fun r=>(zcb 25 (D.k .u64)) r) (round_ok s_ offset constant _ hp0 rfl) fun Q h=>?_
 unfold round_vc at h
 refine G ?_
 refine wL (oB 25 (fun c1 _=>?_))
 refine wL (oB 25 (fun c2 _=>?_))
 refine wL (oA 25 ((zcb 25 (D.k .u64)) (List.replicate 25 0)) tz251 (fun c3 _=>?_))
 refine G ?_
 refine wL (oA 5 ((zcb 5 (D.k .u64)) (List.replicate 5 0)) tz323 (fun c4 _=>?_))
 refine G ?_
 refine zl h () (fun gg ss=> [(2,(D.k .u64) constant),(3,.ptr c1 25 0 0),(4,.ptr c2 25 0 0),(6,.ptr c3 25 0 0),(7,.ptr c4 5 0 0),(17,(zcb 25 (D.k .u64)) s_),(18,D.i ss.2)]) (fun gg ss=> [(c4,.cells 5 [(zcb 5 (D.k .u64)) ss.1]),(c3,.cells 25 [(zcb 25 (D.k .u64)) (List.replicate 25 0)]),(c2,.cells 25 [(zcb 25 D.i) offset]),(c1,.cells 25 [(zcb 25 (D.k .u64)) s_])]) ?_
 rintro again5 _ ⟨c,x⟩ h
 dsimp only at h
 unfold round_L1 at h
 refine G ?_
 refine zc h (fun _ h=>?_) (fun _ h=>G ?_)
 obtain⟨q1,h⟩:=h
 refine G ?_
 refine wL (OpA.aindexV rfl td251 ti250 rfl rfl q1 ?_)
 obtain⟨q1,q2,q3,h⟩:=h
 refine G ?_
 refine wL (OpA.remN rfl rfl rfl q1 ?_)
 refine wL (OpA.aixV rfl td323 ti250 rfl rfl q2 ?_)
 refine wL (OpA.load rfl ti250 rfl .head rfl (arrAt0 q2) ?_)
 refine G ?_
 refine wL (OpA.bxor rfl rfl rfl ?_)
 refine wL (OpA.aixV rfl td323 ti250 rfl rfl q2 ?_)
 refine wE (OpA.store (e:=(zcb 5 (D.k .u64)) c) (e':=(zcb 5 (D.k .u64)) (si c (x % 5) (gxor .u64 (gi c (x % 5)) (gi s_ x)))) rfl ti250 rfl (.of rfl) rfl (arrFit0 q2) (arrSet0 q2 q3) .head ?_)
 obtain⟨q1,h⟩:=h
 refine G ?_
 exact⟨(),((si c (x % 5) (gxor .u64 (gi c (x % 5)) (gi s_ x))),(x+1)),h,cvZ,(.refl _)⟩
 refine wL (oA 25 ((zcb 25 (D.k .u64)) (List.replicate 25 0)) tz251 (fun c7 _=>?_))
 refine G ?_
 refine zl h () (fun gg ss=> [(2,(D.k .u64) constant),(3,.ptr c1 25 0 0),(4,.ptr c2 25 0 0),(6,.ptr c3 25 0 0),(7,.ptr c4 5 0 0),(10,.ptr c7 25 0 0),(30,(zcb 25 (D.k .u64)) s_),(31,D.i ss.2)]) (fun gg ss=> [(c7,.cells 25 [(zcb 25 (D.k .u64)) ss.1]),(c4,.cells 5 [(zcb 5 (D.k .u64)) c]),(c3,.cells 25 [(zcb 25 (D.k .u64)) (List.replicate 25 0)]),(c2,.cells 25 [(zcb 25 D.i) offset]),(c1,.cells 25 [(zcb 25 (D.k .u64)) s_])]) ?_
 rintro again8 _ ⟨t,x1⟩ h
 dsimp only at h
 unfold round_L2 at h
 refine G ?_
 refine zc h (fun _ h=>?_) (fun _ h=>G ?_)
 obtain⟨q1,h⟩:=h
 refine G ?_
 refine wL (OpA.aindexV rfl td251 ti250 rfl rfl q1 ?_)
 obtain⟨q1,q2,h⟩:=h
 refine G ?_
 refine wL (OpA.remN rfl rfl rfl q1 ?_)
 refine G ?_
 refine wL (OpA.quoN rfl rfl rfl q2 ?_)
 obtain⟨q1,q2,q3,q4,q5,q6,h⟩:=h
 iterate 4 refine g ?_
 refine zbf (m:=15) mo zK rfl ?_
 refine G ?_
 refine dL (OpA.remN rfl rfl rfl q2 oR) ?_
 refine dL (OpA.aixV rfl td323 ti250 rfl rfl q3 oR) ?_
 refine dL (OpA.load rfl ti250 rfl (.tail .head) rfl (arrAt0 q3) oR) ?_
 refine G ?_
 refine dL (OpA.remN rfl rfl rfl q5 oR) ?_
 refine dL (OpA.aixV rfl td323 ti250 rfl rfl q6 oR) ?_
 refine dL (OpA.load rfl ti250 rfl (.tail .head) rfl (arrAt0 q6) oR) ?_
 refine dL (oC (rot_c (gi c (((x1 % 5)+1) % 5)) 1) oR) ?_
 iterate 2 refine dL (OpA.bxor rfl rfl rfl oR) ?_
 refine g ?_
 refine DetK.nil ?_
 obtain⟨q1,q2,q3,q4,q5,q6,q7,q8,q9,h⟩:=h
 refine G ?_
 refine wL (OpA.muli rfl rfl rfl q1 ?_)
 refine G ?_
 refine wL (OpA.muli rfl rfl rfl q2 ?_)
 refine G ?_
 refine wL (OpA.remN rfl rfl rfl q4 ?_)
 refine wL (OpA.muli rfl rfl rfl q5 ?_)
 refine G ?_
 refine wL (OpA.aixV rfl td307 ti3 rfl rfl q7 ?_)
 refine wL (OpA.load rfl ti3 rfl (.tail (.tail (.tail .head))) rfl (arrAt0 q7) ?_)
 refine wL (oC (rot_c (gxor .u64 (gi s_ x1) (gxor .u64 (gi c (((x1 % 5)+4) % 5)) (rotF (gi c (((x1 % 5)+1) % 5)) 1))) (gi offset x1)) ?_)
 refine wL (OpA.aixV rfl td251 ti250 rfl rfl q8 ?_)
 refine wE (OpA.store (e:=(zcb 25 (D.k .u64)) t) (e':=(zcb 25 (D.k .u64)) (si t ((x1 / 5)+(5*(((2*(x1 % 5))+(3*(x1 / 5))) % 5))) (rotF (gxor .u64 (gi s_ x1) (gxor .u64 (gi c (((x1 % 5)+4) % 5)) (rotF (gi c (((x1 % 5)+1) % 5)) 1))) (gi offset x1)))) rfl ti250 rfl (.of rfl) rfl (arrFit0 q8) (arrSet0 q8 q9) .head ?_)
 obtain⟨q1,h⟩:=h
 refine G ?_
 exact⟨(),((si t ((x1 / 5)+(5*(((2*(x1 % 5))+(3*(x1 / 5))) % 5))) (rotF (gxor .u64 (gi s_ x1) (gxor .u64 (gi c (((x1 % 5)+4) % 5)) (rotF (gi c (((x1 % 5)+1) % 5)) 1))) (gi offset x1))),(x1+1)),h,cvZ,(.refl _)⟩
 refine zl h () (fun gg ss=> [(2,(D.k .u64) constant),(3,.ptr c1 25 0 0),(6,.ptr c3 25 0 0),(10,.ptr c7 25 0 0),(69,D.i ss.2)]) (fun gg ss=> [(c7,.cells 25 [(zcb 25 (D.k .u64)) t]),(c4,.cells 5 [(zcb 5 (D.k .u64)) c]),(c3,.cells 25 [(zcb 25 (D.k .u64)) (List.replicate 25 0)]),(c2,.cells 25 [(zcb 25 D.i) offset]),(c1,.cells 25 [(zcb 25 (D.k .u64)) ss.1])]) ?_
 rintro again10 _ ⟨s_1,x2⟩ h
 dsimp only at h
 unfold round_L3 at h
 refine G ?_
 refine zc h (fun _ h=>?_) (fun _ h=>?_)
 obtain⟨q1,q2,h⟩:=h
 refine G ?_
 refine wL (OpA.remN rfl rfl rfl q1 ?_)
 obtain⟨q1,q2,q3,q4,q5,q6,q7,q8,q9,q10,h⟩:=h
 iterate 3 refine g ?_
 refine zbf (m:=22) mo zK rfl ?_
 refine G ?_
 refine dL (OpA.aixV rfl td251 ti250 rfl rfl q1 oR) ?_
 refine dL (OpA.load rfl ti250 rfl .head rfl (arrAt0 q1) oR) ?_
 refine G ?_
 refine dL (OpA.remN rfl rfl rfl q3 oR) ?_
 refine G ?_
 refine dL (OpA.aixV rfl td251 ti250 rfl rfl q5 oR) ?_
 refine dL (OpA.load rfl ti250 rfl .head rfl (arrAt0 q5) oR) ?_
 refine dL (OpA.unot rfl rfl oR) ?_
 refine G ?_
 refine dL (OpA.remN rfl rfl rfl q7 oR) ?_
 refine G ?_
 refine dL (OpA.aixV rfl td251 ti250 rfl rfl q9 oR) ?_
 refine dL (OpA.load rfl ti250 rfl .head rfl (arrAt0 q9) oR) ?_
 refine dL (OpA.band rfl rfl rfl oR) ?_
 refine dL (OpA.bxor rfl rfl rfl oR) ?_
 refine dL (OpA.aixV rfl td251 ti250 rfl rfl q1 oR) ?_
 refine DetK.nil ?_
 refine wE (OpA.store (e:=(zcb 25 (D.k .u64)) s_1) (e':=(zcb 25 (D.k .u64)) (si s_1 x2 (gxor .u64 (gi t x2) (gand .u64 (gnot .u64 (gi t ((x2-(x2 % 5))+((x2+1) % 5)))) (gi t ((x2-(x2 % 5))+((x2+2) % 5))))))) rfl ti250 rfl (.of rfl) rfl (arrFit0 q1) (arrSet0 q1 q10) (.tail (.tail (.tail (.tail .head)))) ?_)
 obtain⟨q1,h⟩:=h
 refine G ?_
 exact⟨(),((si s_1 x2 (gxor .u64 (gi t x2) (gand .u64 (gnot .u64 (gi t ((x2-(x2 % 5))+((x2+1) % 5)))) (gi t ((x2-(x2 % 5))+((x2+2) % 5)))))),(x2+1)),h,cvZ,(.refl _)⟩
 obtain⟨q1,q2,h⟩:=h
 refine G ?_
 refine wL (OpA.aixV rfl td251 ti250 rfl rfl q1 ?_)
 refine wL (OpA.load rfl ti250 rfl (.tail (.tail (.tail (.tail .head)))) rfl (arrAt0 q1) ?_)
 refine G ?_
 refine wL (OpA.bxor rfl rfl rfl ?_)
 refine wL (OpA.aixV rfl td251 ti250 rfl rfl q1 ?_)
 refine wE (OpA.store (e:=(zcb 25 (D.k .u64)) s_1) (e':=(zcb 25 (D.k .u64)) (si s_1 0 (gxor .u64 (gi s_1 0) constant))) rfl ti250 rfl (.of rfl) rfl (arrFit0 q1) (arrSet0 q1 q2) (.tail (.tail (.tail (.tail .head)))) ?_)
 refine G ?_
 exact⟨_,(.cell (.whole ti251 rfl rfl (.tail (.tail .head)) rfl ⟨_,rfl⟩) .nil),_,(.same rfl .nil),⟨(si s_1 0 (gxor .u64 (gi s_1 0) constant)),rfl,h⟩⟩
theorem perm_c (state:(List Int))(hp0:state.length=25):Fun false Tryz.prog 192 [(zcb 25 (D.k .u64)) state] (fun d=>d=(zcb 25 (D.k .u64)) (permF state)):=by
 refine fB Tryz.func192 Tryz.ntmps192 (enc:=fun r=>(zcb 25 (D.k .u64)) r) (perm_ok state _ hp0 rfl) fun Q h=>?_
 unfold perm_vc at h
 refine G ?_
 refine wL (oB 25 (fun c1 _=>?_))
 refine wL (oA 25 ((zcb 25 (D.k .u64)) (List.replicate 25 0)) tz251 (fun c2 _=>?_))
 refine G ?_
 refine wL (oC (offs_c ) ?_)
 refine wL (oA 25 ((zcb 25 D.i) (List.replicate 25 0)) tz307 (fun c3 _=>?_))
 refine G ?_
 refine wL (oC (cons_c ) ?_)
 refine G ?_
 refine zl h () (fun gg ss=> [(1,.ptr c1 25 0 0),(2,.ptr c2 25 0 0),(3,.ptr c3 25 0 0),(7,(zcb 24 (D.k .u64)) consF),(8,D.i ss.2)]) (fun gg ss=> [(c3,.cells 25 [(zcb 25 D.i) offsF]),(c2,.cells 25 [(zcb 25 (D.k .u64)) (List.replicate 25 0)]),(c1,.cells 25 [(zcb 25 (D.k .u64)) ss.1])]) ?_
 rintro again4 _ ⟨state1,x⟩ h
 dsimp only at h
 unfold perm_L1 at h
 refine G ?_
 refine zc h (fun _ h=>?_) (fun _ h=>G ?_)
 obtain⟨q1,h⟩:=h
 refine G ?_
 refine wL (OpA.aindexV rfl td309 ti250 rfl rfl q1 ?_)
 obtain⟨q1,h⟩:=h
 refine G ?_
 refine wL (oC (round_c state1 offsF (gi consF x) q1) ?_)
 refine G ?_
 obtain⟨q1,h⟩:=h
 refine G ?_
 exact⟨(),((roundF state1 offsF (gi consF x)),(x+1)),h,cvZ,(.refl _)⟩
 exact⟨_,(.cell (.whole ti251 rfl rfl (.tail .head) rfl ⟨_,rfl⟩) .nil),_,(.same rfl .nil),⟨state1,rfl,h⟩⟩
theorem dparse_c (text:ByteArray) :Fun false Tryz.prog 46 [D.s text] (fun d=>d= .tup [D.s ((parseD text).1),D.i ((parseD text).2)]):=by
 refine fB Tryz.func46 Tryz.ntmps46 (v:=parseD text) (enc:=fun r=> .tup [D.s (r.1),D.i (r.2)]) (dparse_ok text _  rfl) fun Q h=>?_
 unfold dparse_vc at h
 refine G ?_
 refine zc h (fun _ h=>G ?_) (fun _ h=>?_)
 exact zr h
 obtain⟨q1,h⟩:=h
 refine G ?_
 refine wL (OpA.makeSliceV (enc:=(D.k .u8)) (v0:=0) rfl ts165 rfl rfl tz5 (fun _ _=> .v _) (.of rfl) q1 (fun c2=>?_))
 refine G ?_
 refine zl h (c2,([]:List D),([]:List D)) (fun gg ss=> [(0,D.s text),(2,D.s (⟨#[]⟩:ByteArray)),(3,D.i 0),(4,.own gg.1 1 gg.2.1.length ss.1.length),(5,D.i ss.2)]) (fun gg ss=> [(gg.1,.cells 1 (zas (D.k .u8) gg.2.1 ss.1 gg.2.2))]) ?_
 rintro again3 ⟨cb10,pre10,post10⟩ ⟨out,i⟩ h
 dsimp only at h
 unfold dparse_L1 at h
 refine G ?_
 refine zc h (fun _ h=>?_) (fun _ h=>G ?_)
 obtain⟨q1,h⟩:=h
 refine G ?_
 refine wL (OpA.sixV rfl td9 rfl rfl q1 ?_)
 refine wL (oC (idxB_c (⟨#[48,49,50,51,52,53,54,55,56,57,97,98,99,100,101,102]⟩:ByteArray) (sgi text i)) ?_)
 refine G ?_
 refine zc h (fun _ h=>G ?_) (fun _ h=>?_)
 exact zr h
 obtain⟨q1,q2,q3,h⟩:=h
 refine G ?_
 refine wL (OpA.quoN rfl rfl rfl q1 ?_)
 refine G ?_
 refine wL (OpA.quoN rfl rfl rfl q1 ?_)
 refine wL (oIv ts165 q2 ?_)
 refine wL (OpA.load rfl ti5 rfl .head (getV (enc:=(D.k .u8)) q2) rfl ?_)
 refine wL (OpA.shl rfl rfl rfl q3 ?_)
 refine G ?_
 refine wL (OpA.conv rfl td3 td5 rfl ?_)
 refine wL (OpA.bor rfl rfl rfl ?_)
 refine wL (oIv ts165 q2 ?_)
 refine wE (OpA.storeV (enc:=(D.k .u8)) (v:=(gor .u8 (gshl .u8 (gi out (i / 2)) 4) (IntKind.u8.wrap (idxB (⟨#[48,49,50,51,52,53,54,55,56,57,97,98,99,100,101,102]⟩:ByteArray) (sgi text i))))) rfl ti5 rfl rfl (.of rfl) rfl q2 .head ?_)
 obtain⟨q1,h⟩:=h
 refine G ?_
 exact⟨(cb10,pre10,post10),((si out (i / 2) (gor .u8 (gshl .u8 (gi out (i / 2)) 4) (IntKind.u8.wrap (idxB (⟨#[48,49,50,51,52,53,54,55,56,57,97,98,99,100,101,102]⟩:ByteArray) (sgi text i))))),(i+1)),h,(Cov.asg ⟨rfl,rfl,rfl,(congrArg (D.own cb10 1 pre10.length) (by simp only [zan,zah,zac zam,zac zaf,zac zal]<;>rfl)),rfl,trivial⟩),(.refl _)⟩
 refine wL (OpA.bytesStr rfl ts165.desc td5 td9 (.own .head) ?_)
 refine G ?_
 exact zr h
theorem dhex1_w (half:Int)(b:List Int)(c_b:Nat)(u_b:Bool)(g_b:Nat)(post_b:List D)(Q:(List Int)->Prop)(h:dhex1_vc half b Q):CallH Tryz.prog 164 [(D.k .u8) half,.ptr c_b 2 0 0] [(c_b,.cells 2 [bldD 167 5 c_b u_b g_b b]),(g_b,.cells 1 (zas (D.k .u8) ([]:List D) b post_b))] (fun d h'=>∃(r:(List Int)) (g:Bool×Nat×List D),d= .tup []/\h'= [(c_b,.cells 2 [bldD 167 5 c_b g.1 g.2.1 r]),(g.2.1,.cells 1 (zas (D.k .u8) ([]:List D) r g.2.2))]/\Q r):=by
 unfold dhex1_vc at h
 refine CallH.of_bodyP Tryz.func164 rfl Tryz.ntmps164 rfl ?_
 obtain⟨q1,q2,h⟩:=h
 refine G ?_
 refine wL (OpA.sixV rfl td9 rfl rfl q1 ?_)
 refine wL (OpA.callH rfl rfl rfl zK (h1:= [(c_b,.cells 2 [bldD 167 5 c_b u_b g_b b]),(g_b,.cells 1 (zas (D.k .u8) ([]:List D) b post_b))]) (h2:= []) (.refl _) (bldWB_c b c_b u_b g_b post_b (sgi (⟨#[48,49,50,51,52,53,54,55,56,57,97,98,99,100,101,102]⟩:ByteArray) half) q2) ?_)
 rintro _ _ ⟨⟨u1,c2,post3⟩,rfl,rfl⟩
 refine G ?_
 exact⟨_,.nil,[(c_b,.cells 2 [bldD 167 5 c_b u1 c2 (b++ [(sgi (⟨#[48,49,50,51,52,53,54,55,56,57,97,98,99,100,101,102]⟩:ByteArray) half)])]),(c2,.cells 1 (zas (D.k .u8) ([]:List D) (b++ [(sgi (⟨#[48,49,50,51,52,53,54,55,56,57,97,98,99,100,101,102]⟩:ByteArray) half)]) post3))],[(c_b,.cells 2 [bldD 167 5 c_b u1 c2 (b++ [(sgi (⟨#[48,49,50,51,52,53,54,55,56,57,97,98,99,100,101,102]⟩:ByteArray) half)])]),(c2,.cells 1 (zas (D.k .u8) ([]:List D) (b++ [(sgi (⟨#[48,49,50,51,52,53,54,55,56,57,97,98,99,100,101,102]⟩:ByteArray) half)]) post3))],(.refl _),(.refl _),(b++ [(sgi (⟨#[48,49,50,51,52,53,54,55,56,57,97,98,99,100,101,102]⟩:ByteArray) half)]),(u1,c2,post3),rfl,rfl,h⟩
theorem dhex1_c (half:Int)(b:List Int)(c_b:Nat)(u_b:Bool)(g_b:Nat)(post_b:List D)(hp0:inL half 16)(hp1:b.length<=1000):CallH Tryz.prog 164 [(D.k .u8) half,.ptr c_b 2 0 0] [(c_b,.cells 2 [bldD 167 5 c_b u_b g_b b]),(g_b,.cells 1 (zas (D.k .u8) ([]:List D) b post_b))] (fun d h'=>∃(g:Bool×Nat×List D),d= .tup []/\h'= [(c_b,.cells 2 [bldD 167 5 c_b g.1 g.2.1 (dhex1 half b)]),(g.2.1,.cells 1 (zas (D.k .u8) ([]:List D) (dhex1 half b) g.2.2))]):=
 (dhex1_w half b c_b u_b g_b post_b  (fun r=>r=dhex1 half b) (dhex1_ok half b _ hp0 hp1 rfl)).mono (by rintro d h' ⟨r,g,hd,hh,rfl⟩; exact⟨g,hd,hh⟩)
theorem dhex_c (digest:ByteArray) :Fun false Tryz.prog 130 [D.s digest] (fun d=>d= .tup [D.s ((hexD digest).1),D.i ((hexD digest).2)]):=by
 refine fB Tryz.func130 Tryz.ntmps130 (v:=hexD digest) (enc:=fun r=> .tup [D.s (r.1),D.i (r.2)]) (dhex_ok digest _  rfl) fun Q h=>?_
 unfold dhex_vc at h
 refine G ?_
 refine zc h (fun _ h=>G ?_) (fun _ h=>G ?_)
 exact zr h
 refine wL (OpA.allocB (e:=5) rfl tz167 (fun c2 c3=>?_))
 refine G ?_
 refine wL (OpA.makeFunc rfl ?_)
 refine G ?_
 refine zl h (false,c3,([]:List D)) (fun gg ss=> [(0,D.s digest),(2,D.s (⟨#[]⟩:ByteArray)),(3,D.i 0),(4,.ptr c2 2 0 0),(5,.fn (.func 164) [] [.ptr c2 2 0 0]),(6,D.i ss.2)]) (fun gg ss=> [(c2,.cells 2 [bldD 167 5 c2 gg.1 gg.2.1 ss.1]),(gg.2.1,.cells 1 (zas (D.k .u8) ([]:List D) ss.1 gg.2.2))]) ?_
 rintro again4 ⟨u,cb4b,post4b⟩ ⟨xs,i⟩ h
 dsimp only at h
 unfold dhex_L1 at h
 refine G ?_
 refine zc h (fun _ h=>?_) (fun _ h=>?_)
 obtain⟨q1,q2,q3,q4,h⟩:=h
 refine G ?_
 refine wL (OpA.sixV rfl td9 rfl rfl q1 ?_)
 refine wL (OpA.shr rfl rfl rfl q2 ?_)
 refine wL (OpA.callH rfl rfl rfl zK (h1:= [(c2,.cells 2 [bldD 167 5 c2 u cb4b xs]),(cb4b,.cells 1 (zas (D.k .u8) ([]:List D) xs post4b))]) (h2:= []) (.refl _) (dhex1_c (gshr .u8 (sgi digest i) 4) xs c2 u cb4b post4b q3 q4) ?_)
 rintro _ _ ⟨⟨u6,c7,post8⟩,rfl,rfl⟩
 obtain⟨q1,q2,q3,h⟩:=h
 refine G ?_
 refine wL (OpA.sixV rfl td9 rfl rfl q1 ?_)
 refine wL (OpA.band rfl rfl rfl ?_)
 refine wL (OpA.callH rfl rfl rfl zK (h1:= [(c2,.cells 2 [bldD 167 5 c2 u6 c7 (dhex1 (gshr .u8 (sgi digest i) 4) xs)]),(c7,.cells 1 (zas (D.k .u8) ([]:List D) (dhex1 (gshr .u8 (sgi digest i) 4) xs) post8))]) (h2:= []) (.refl _) (dhex1_c (gand .u8 (sgi digest i) 15) (dhex1 (gshr .u8 (sgi digest i) 4) xs) c2 u6 c7 post8 q2 q3) ?_)
 rintro _ _ ⟨⟨u9,c10,post11⟩,rfl,rfl⟩
 obtain⟨q1,h⟩:=h
 refine G ?_
 exact⟨(u9,c10,post11),((dhex1 (gand .u8 (sgi digest i) 15) (dhex1 (gshr .u8 (sgi digest i) 4) xs)),(i+1)),h,cvZ,(.refl _)⟩
 obtain⟨q1,h⟩:=h
 refine G ?_
 refine wL (OpA.callH rfl rfl rfl zK (h1:= [(c2,.cells 2 [bldD 167 5 c2 u cb4b xs]),(cb4b,.cells 1 (zas (D.k .u8) ([]:List D) xs post4b))]) (h2:= []) (.refl _) (bldStr_c xs c2 u cb4b post4b q1) ?_)
 rintro _ _ ⟨_,rfl,rfl⟩
 refine G ?_
 exact zr h
theorem dnew_w (Q:DigestSponge->Prop)(h:dnew_vc  Q):CallH Tryz.prog 131 [] [] (fun d h'=>∃(r:DigestSponge) (g:Nat×Nat×List D×List D),d= .ptr g.1 54 0 0/\h'= [(g.1,.cells 54 [.agg (zci 25 (D.k .u64) r.state++([.own g.2.1 1 g.2.2.1.length r.rest.length,D.i r.taken]++(zci 25 (D.k .u64) r.seen++([D.s r.tail,D.s r.sum]))))]),(g.2.1,.cells 1 (zas (D.k .u8) g.2.2.1 r.rest g.2.2.2))]/\Q r):=by
 unfold dnew_vc at h
 refine CallH.of_bodyP Tryz.func131 rfl Tryz.ntmps131 rfl ?_
 refine G ?_
 refine wL (oU [.v (.int .u64 0),.v (.int .u64 0),.v (.int .u64 0),.v (.int .u64 0),.v (.int .u64 0),.v (.int .u64 0),.v (.int .u64 0),.v (.int .u64 0),.v (.int .u64 0),.v (.int .u64 0),.v (.int .u64 0),.v (.int .u64 0),.v (.int .u64 0),.v (.int .u64 0),.v (.int .u64 0),.v (.int .u64 0),.v (.int .u64 0),.v (.int .u64 0),.v (.int .u64 0),.v (.int .u64 0),.v (.int .u64 0),.v (.int .u64 0),.v (.int .u64 0),.v (.int .u64 0),.v (.int .u64 0),.v (.slice none 0 0),.v (.int .i64 0),.v (.int .u64 0),.v (.int .u64 0),.v (.int .u64 0),.v (.int .u64 0),.v (.int .u64 0),.v (.int .u64 0),.v (.int .u64 0),.v (.int .u64 0),.v (.int .u64 0),.v (.int .u64 0),.v (.int .u64 0),.v (.int .u64 0),.v (.int .u64 0),.v (.int .u64 0),.v (.int .u64 0),.v (.int .u64 0),.v (.int .u64 0),.v (.int .u64 0),.v (.int .u64 0),.v (.int .u64 0),.v (.int .u64 0),.v (.int .u64 0),.v (.int .u64 0),.v (.int .u64 0),.v (.int .u64 0),.v (.string ⟨#[]⟩),.v (.string ⟨#[]⟩)] tp253 tz253 ?_)
 refine wL (oB 54 (fun c1 _=>?_))
 iterate 2 refine g ?_
 refine wpA_ghostM (c:=c1) (sz1:=54) (sz:=1) (es':=fun g2=> [.agg (zci 25 (D.k .u64) (List.replicate 25 0)++([.own g2 1 ([]:List D).length ([]:List Int).length,D.i 0]++(zci 25 (D.k .u64) (List.replicate 25 0)++([D.s ByteArray.empty,D.s ByteArray.empty]))))]) (fun _=> .head) (fun _=>(.same (.same (.same (.same (.same (.same (.same (.same (.same (.same (.same (.same (.same (.same (.same (.same (.same (.same (.same (.same (.same (.same (.same (.same (.same (.turn (.same (.same (.same (.same (.same (.same (.same (.same (.same (.same (.same (.same (.same (.same (.same (.same (.same (.same (.same (.same (.same (.same (.same (.same (.same (.same (.same (.same .nil))))))))))))))))))))))))))))))))))))))))))))))))))))))) (fun _=>rfl) (fun _=>by rintro d (_|⟨_,hd⟩); exact .of rfl; cases hd) (fun g2=>?_)
 refine G ?_
 exact⟨_,(.tmp (d:= .ptr c1 54 0 0) rfl .nil),[(c1,.cells 54 [.agg (zci 25 (D.k .u64) (List.replicate 25 0)++([.own g2 1 ([]:List D).length ([]:List Int).length,D.i 0]++(zci 25 (D.k .u64) (List.replicate 25 0)++([D.s ByteArray.empty,D.s ByteArray.empty]))))]),(g2,.cells 1 (zas (D.k .u8) ([]:List D) ([]:List Int) ([]:List D)))],[(c1,.cells 54 [.agg (zci 25 (D.k .u64) (List.replicate 25 0)++([.own g2 1 ([]:List D).length ([]:List Int).length,D.i 0]++(zci 25 (D.k .u64) (List.replicate 25 0)++([D.s ByteArray.empty,D.s ByteArray.empty]))))]),(g2,.cells 1 (zas (D.k .u8) ([]:List D) ([]:List Int) ([]:List D)))],pull1,(.refl _),(DigestSponge.mk (List.replicate 25 0) ([]:List Int) 0 (List.replicate 25 0) ByteArray.empty ByteArray.empty),(c1,g2,([]:List D),([]:List D)),rfl,rfl,h⟩
theorem dnew_c :CallH Tryz.prog 131 [] [] (fun d h'=>∃(g:Nat×Nat×List D×List D),d= .ptr g.1 54 0 0/\h'= [(g.1,.cells 54 [.agg (zci 25 (D.k .u64) ((newD).state)++([.own g.2.1 1 g.2.2.1.length ((newD).rest).length,D.i ((newD).taken)]++(zci 25 (D.k .u64) ((newD).seen)++([D.s ((newD).tail),D.s ((newD).sum)]))))]),(g.2.1,.cells 1 (zas (D.k .u8) g.2.2.1 ((newD).rest) g.2.2.2))]):=
 (dnew_w   (fun r=>r=newD) (dnew_ok  _  rfl)).mono (by rintro d h' ⟨r,g,hd,hh,rfl⟩; exact⟨g,hd,hh⟩)
theorem abs_w (s_:DigestSponge)(c_s_:Nat)(a_s_:Nat)(i_s_:Nat)(n_s_:Nat)(b:(List Int))(c_b:Nat)(pre_b post_b:List D)(Q:DigestSponge->Prop)(h:abs_vc s_ b Q):CallH Tryz.prog 166 [.ptr c_s_ 54 0 0,.own c_b 1 pre_b.length b.length] [(c_s_,.cells 54 [.agg (zci 25 (D.k .u64) s_.state++([.own a_s_ 1 i_s_ n_s_,D.i s_.taken]++(zci 25 (D.k .u64) s_.seen++([D.s s_.tail,D.s s_.sum]))))]),(c_b,.cells 1 (zas (D.k .u8) pre_b b post_b))] (fun d h'=>∃(r:DigestSponge) (g:Unit),d= .tup []/\h'= [(c_s_,.cells 54 [.agg (zci 25 (D.k .u64) r.state++([.own a_s_ 1 i_s_ n_s_,D.i r.taken]++(zci 25 (D.k .u64) r.seen++([D.s r.tail,D.s r.sum]))))]),(c_b,.cells 1 (zas (D.k .u8) pre_b b post_b))]/\Q r):=by
 unfold abs_vc at h
 refine CallH.of_bodyP Tryz.func166 rfl Tryz.ntmps166 rfl ?_
 iterate 4 refine g ?_
 refine wL (OpA.len rfl rfl rfl rfl ts165.desc (.inr (.inl ⟨_,_,_,rfl⟩)) ?_)
 refine G ?_
 refine zl h () (fun gg ss=> [(0,.ptr c_s_ 54 0 0),(1,.own c_b 1 pre_b.length b.length),(6,D.i (b.length:Int)),(7,D.i ss.2)]) (fun gg ss=> [(c_s_,.cells 54 [.agg (zci 25 (D.k .u64) ss.1++([.own a_s_ 1 i_s_ n_s_,D.i s_.taken]++(zci 25 (D.k .u64) s_.seen++([D.s s_.tail,D.s s_.sum]))))]),(c_b,.cells 1 (zas (D.k .u8) pre_b b post_b))]) ?_
 rintro again1 _ ⟨s_state,x⟩ h
 dsimp only at h
 unfold abs_L1 at h
 refine G ?_
 refine zc h (fun _ h=>?_) (fun _ h=>?_)
 obtain⟨q1,q2,q3,q4,q5,q6,q7,h⟩:=h
 iterate 8 refine g ?_
 refine zbf (m:=20) mo zK rfl ?_
 refine G ?_
 refine dL (OpA.quoN rfl rfl rfl q1 oR) ?_
 refine dL (OpA.nc rfl zW (.inl ⟨_,_,_,_,rfl⟩) oR) ?_
 refine G ?_
 refine dL (OpA.aixV rfl td251 ti250 rfl rfl q2 oR) ?_
 refine dL (OpA.load rfl ti250 rfl .head rfl (arrAt (A:=([]:List D)) rfl q2) oR) ?_
 refine G ?_
 refine dL (oIv ts165 q3 oR) ?_
 refine dL (OpA.load rfl ti5 rfl (.tail .head) (getV (enc:=(D.k .u8)) q3) rfl oR) ?_
 refine dL (OpA.conv rfl td5 td250 rfl oR) ?_
 refine G ?_
 refine dL (OpA.remN rfl rfl rfl q4 oR) ?_
 refine dL (OpA.muli rfl rfl rfl q5 oR) ?_
 refine dL (OpA.shl rfl rfl rfl q6 oR) ?_
 refine dL (OpA.bxor rfl rfl rfl oR) ?_
 refine dL (OpA.nc rfl zW (.inl ⟨_,_,_,_,rfl⟩) oR) ?_
 refine G ?_
 refine dL (OpA.aixV rfl td251 ti250 rfl rfl q2 oR) ?_
 refine DetK.nil ?_
 refine wE (OpA.store (e:= .agg (zci 25 (D.k .u64) s_state++([.own a_s_ 1 i_s_ n_s_,D.i s_.taken]++(zci 25 (D.k .u64) s_.seen++([D.s s_.tail,D.s s_.sum]))))) (e':= .agg (zci 25 (D.k .u64) (si s_state (x / 8) (gxor .u64 (gi s_state (x / 8)) (gshl .u64 (IntKind.u64.wrap (gi b x)) (8*(x % 8)))))++([.own a_s_ 1 i_s_ n_s_,D.i s_.taken]++(zci 25 (D.k .u64) s_.seen++([D.s s_.tail,D.s s_.sum]))))) rfl ti250 rfl (.of rfl) rfl (arrFit (A:=([]:List D)) rfl q2) (arrSet (A:=([]:List D)) rfl q2 q7) .head ?_)
 obtain⟨q1,h⟩:=h
 refine G ?_
 exact⟨(),((si s_state (x / 8) (gxor .u64 (gi s_state (x / 8)) (gshl .u64 (IntKind.u64.wrap (gi b x)) (8*(x % 8))))),(x+1)),h,cvZ,(.refl _)⟩
 obtain⟨q1,h⟩:=h
 refine G ?_
 refine wL (OpA.nc rfl zW (.inl ⟨_,_,_,_,rfl⟩) ?_)
 refine g ?_
 refine wL (OpA.load_agg rfl ti251 rfl .head rfl rfl rfl ?_)
 refine wL (oC (perm_c s_state q1) ?_)
 refine wL (OpA.nc rfl zW (.inl ⟨_,_,_,_,rfl⟩) ?_)
 refine g ?_
 refine wE (OpA.store (e:= .agg (zci 25 (D.k .u64) s_state++([.own a_s_ 1 i_s_ n_s_,D.i s_.taken]++(zci 25 (D.k .u64) s_.seen++([D.s s_.tail,D.s s_.sum]))))) (e':= .agg (zci 25 (D.k .u64) (permF s_state)++([.own a_s_ 1 i_s_ n_s_,D.i s_.taken]++(zci 25 (D.k .u64) s_.seen++([D.s s_.tail,D.s s_.sum]))))) rfl ti251 rfl (.of rfl) rfl (Nat.le_of_ble_eq_true rfl) arrPutH .head ?_)
 refine G ?_
 exact⟨_,.nil,[(c_s_,.cells 54 [.agg (zci 25 (D.k .u64) (permF s_state)++([.own a_s_ 1 i_s_ n_s_,D.i s_.taken]++(zci 25 (D.k .u64) s_.seen++([D.s s_.tail,D.s s_.sum]))))]),(c_b,.cells 1 (zas (D.k .u8) pre_b b post_b))],[(c_s_,.cells 54 [.agg (zci 25 (D.k .u64) (permF s_state)++([.own a_s_ 1 i_s_ n_s_,D.i s_.taken]++(zci 25 (D.k .u64) s_.seen++([D.s s_.tail,D.s s_.sum]))))]),(c_b,.cells 1 (zas (D.k .u8) pre_b b post_b))],(.refl _),(.refl _),(DigestSponge.mk (permF s_state) s_.rest s_.taken s_.seen s_.tail s_.sum),(),rfl,rfl,h⟩
theorem abs_c (s_:DigestSponge)(c_s_:Nat)(a_s_:Nat)(i_s_:Nat)(n_s_:Nat)(b:(List Int))(c_b:Nat)(pre_b post_b:List D)(hp0:b.length=136)(hp1:s_.state.length=25):CallH Tryz.prog 166 [.ptr c_s_ 54 0 0,.own c_b 1 pre_b.length b.length] [(c_s_,.cells 54 [.agg (zci 25 (D.k .u64) s_.state++([.own a_s_ 1 i_s_ n_s_,D.i s_.taken]++(zci 25 (D.k .u64) s_.seen++([D.s s_.tail,D.s s_.sum]))))]),(c_b,.cells 1 (zas (D.k .u8) pre_b b post_b))] (fun d h'=>∃(g:Unit),d= .tup []/\h'= [(c_s_,.cells 54 [.agg (zci 25 (D.k .u64) ((absF s_ b).state)++([.own a_s_ 1 i_s_ n_s_,D.i ((absF s_ b).taken)]++(zci 25 (D.k .u64) ((absF s_ b).seen)++([D.s ((absF s_ b).tail),D.s ((absF s_ b).sum)]))))]),(c_b,.cells 1 (zas (D.k .u8) pre_b b post_b))]):=
 (abs_w s_ c_s_ a_s_ i_s_ n_s_ b c_b pre_b post_b  (fun r=>r=absF s_ b) (abs_ok s_ b _ hp0 hp1 rfl)).mono (by rintro d h' ⟨r,g,hd,hh,rfl⟩; exact⟨g,hd,hh⟩)
theorem cl_w (s_:DigestSponge)(c_s_:Nat)(c_s_1:Nat)(pre_s_:List D)(post_s_:List D)(Q:DigestSponge×DigestSponge->Prop)(h:cl_vc s_ Q):CallH Tryz.prog 167 [.ptr c_s_ 54 0 0] [(c_s_,.cells 54 [.agg (zci 25 (D.k .u64) s_.state++([.own c_s_1 1 pre_s_.length s_.rest.length,D.i s_.taken]++(zci 25 (D.k .u64) s_.seen++([D.s s_.tail,D.s s_.sum]))))]),(c_s_1,.cells 1 (zas (D.k .u8) pre_s_ s_.rest post_s_))] (fun d h'=>∃(r:DigestSponge×DigestSponge) (g:Nat×Nat×List D×List D×Nat×List D×List D),d= .ptr g.1 54 0 0/\h'= [(g.1,.cells 54 [.agg (zci 25 (D.k .u64) r.1.state++([.own g.2.1 1 g.2.2.1.length r.1.rest.length,D.i r.1.taken]++(zci 25 (D.k .u64) r.1.seen++([D.s r.1.tail,D.s r.1.sum]))))]),(g.2.1,.cells 1 (zas (D.k .u8) g.2.2.1 r.1.rest g.2.2.2.1)),(c_s_,.cells 54 [.agg (zci 25 (D.k .u64) r.2.state++([.own g.2.2.2.2.1 1 g.2.2.2.2.2.1.length r.2.rest.length,D.i r.2.taken]++(zci 25 (D.k .u64) r.2.seen++([D.s r.2.tail,D.s r.2.sum]))))]),(g.2.2.2.2.1,.cells 1 (zas (D.k .u8) g.2.2.2.2.2.1 r.2.rest g.2.2.2.2.2.2))]/\Q r):=by
 unfold cl_vc at h
 refine CallH.of_bodyP Tryz.func167 rfl Tryz.ntmps167 rfl ?_
 refine G ?_
 refine wL (OpA.nc rfl zW (.inl ⟨_,_,_,_,rfl⟩) ?_)
 refine G ?_
 refine wL (oA 54 (.agg (zci 25 (D.k .u64) (List.replicate 25 0)++([.v (.slice none 0 0),D.i 0]++(zci 25 (D.k .u64) (List.replicate 25 0)++([D.s ByteArray.empty,D.s ByteArray.empty]))))) tz253 (fun c1 _=>?_))
 refine G ?_
 obtain⟨q1,h⟩:=h
 refine G ?_
 refine wL (OpA.nc rfl zW (.inl ⟨_,_,_,_,rfl⟩) ?_)
 refine G ?_
 refine wL (OpA.appendNW (enc:=(D.k .u8)) rfl rfl rfl rfl ts165 rfl (.own (.tail (.tail .head))) q1 (fun c2 pre3=>?_))
 refine g ?_
 refine wE (OpA.store (e':= .agg (zci 25 (D.k .u64) s_.state++([.own c2 1 pre3.length s_.rest.length,D.i s_.taken]++(zci 25 (D.k .u64) s_.seen++([D.s s_.tail,D.s s_.sum]))))) rfl ti165 rfl (.of rfl) rfl (Nat.le_of_ble_eq_true rfl) rfl (.tail .head) ?_)
 refine G ?_
 exact⟨_,(.tmp (d:= .ptr c1 54 0 0) rfl .nil),[(c1,.cells 54 [.agg (zci 25 (D.k .u64) s_.state++([.own c2 1 pre3.length s_.rest.length,D.i s_.taken]++(zci 25 (D.k .u64) s_.seen++([D.s s_.tail,D.s s_.sum]))))]),(c2,.cells 1 (zas (D.k .u8) pre3 s_.rest ([]:List D))),(c_s_,.cells 54 [.agg (zci 25 (D.k .u64) s_.state++([.own c_s_1 1 pre_s_.length s_.rest.length,D.i s_.taken]++(zci 25 (D.k .u64) s_.seen++([D.s s_.tail,D.s s_.sum]))))]),(c_s_1,.cells 1 (zas (D.k .u8) pre_s_ s_.rest post_s_))],[(c1,.cells 54 [.agg (zci 25 (D.k .u64) s_.state++([.own c2 1 pre3.length s_.rest.length,D.i s_.taken]++(zci 25 (D.k .u64) s_.seen++([D.s s_.tail,D.s s_.sum]))))]),(c2,.cells 1 (zas (D.k .u8) pre3 s_.rest ([]:List D))),(c_s_,.cells 54 [.agg (zci 25 (D.k .u64) s_.state++([.own c_s_1 1 pre_s_.length s_.rest.length,D.i s_.taken]++(zci 25 (D.k .u64) s_.seen++([D.s s_.tail,D.s s_.sum]))))]),(c_s_1,.cells 1 (zas (D.k .u8) pre_s_ s_.rest post_s_))],pull1,(.refl _),(s_,s_),(c1,c2,pre3,([]:List D),c_s_1,pre_s_,post_s_),rfl,rfl,h⟩
theorem cl_c (s_:DigestSponge)(c_s_:Nat)(c_s_1:Nat)(pre_s_:List D)(post_s_:List D)(hp0:s_.rest.length<=136):CallH Tryz.prog 167 [.ptr c_s_ 54 0 0] [(c_s_,.cells 54 [.agg (zci 25 (D.k .u64) s_.state++([.own c_s_1 1 pre_s_.length s_.rest.length,D.i s_.taken]++(zci 25 (D.k .u64) s_.seen++([D.s s_.tail,D.s s_.sum]))))]),(c_s_1,.cells 1 (zas (D.k .u8) pre_s_ s_.rest post_s_))] (fun d h'=>∃(g:Nat×Nat×List D×List D×Nat×List D×List D),d= .ptr g.1 54 0 0/\h'= [(g.1,.cells 54 [.agg (zci 25 (D.k .u64) (((clF s_).1).state)++([.own g.2.1 1 g.2.2.1.length (((clF s_).1).rest).length,D.i (((clF s_).1).taken)]++(zci 25 (D.k .u64) (((clF s_).1).seen)++([D.s (((clF s_).1).tail),D.s (((clF s_).1).sum)]))))]),(g.2.1,.cells 1 (zas (D.k .u8) g.2.2.1 (((clF s_).1).rest) g.2.2.2.1)),(c_s_,.cells 54 [.agg (zci 25 (D.k .u64) (((clF s_).2).state)++([.own g.2.2.2.2.1 1 g.2.2.2.2.2.1.length (((clF s_).2).rest).length,D.i (((clF s_).2).taken)]++(zci 25 (D.k .u64) (((clF s_).2).seen)++([D.s (((clF s_).2).tail),D.s (((clF s_).2).sum)]))))]),(g.2.2.2.2.1,.cells 1 (zas (D.k .u8) g.2.2.2.2.2.1 (((clF s_).2).rest) g.2.2.2.2.2.2))]):=
 (cl_w s_ c_s_ c_s_1 pre_s_ post_s_  (fun r=>r=clF s_) (cl_ok s_ _ hp0 rfl)).mono (by rintro d h' ⟨r,g,hd,hh,rfl⟩; exact⟨g,hd,hh⟩)
abbrev wr_e0 (s_state1:(List Int))(xs1:(List Int))(s_taken1:Int)(s_seen1:(List Int))(s_tail1:ByteArray)(s_sum1:ByteArray):=(absF (DigestSponge.mk s_state1 xs1 s_taken1 s_seen1 s_tail1 s_sum1) (zbc xs1 0 136))
theorem wr_w (s_:DigestSponge)(c_s_:Nat)(c_s_1:Nat)(pre_s_:List D)(post_s_:List D)(parts:(List ByteArray))(Q:Int×DigestSponge->Prop)(h:wr_vc s_ parts Q):CallH Tryz.prog 132 [.ptr c_s_ 54 0 0,(zai 1 D.s) parts] [(c_s_,.cells 54 [.agg (zci 25 (D.k .u64) s_.state++([.own c_s_1 1 pre_s_.length s_.rest.length,D.i s_.taken]++(zci 25 (D.k .u64) s_.seen++([D.s s_.tail,D.s s_.sum]))))]),(c_s_1,.cells 1 (zas (D.k .u8) pre_s_ s_.rest post_s_))] (fun d h'=>∃(r:Int×DigestSponge) (g:Nat×List D×List D),d=D.i r.1/\h'= [(c_s_,.cells 54 [.agg (zci 25 (D.k .u64) r.2.state++([.own g.1 1 g.2.1.length r.2.rest.length,D.i r.2.taken]++(zci 25 (D.k .u64) r.2.seen++([D.s r.2.tail,D.s r.2.sum]))))]),(g.1,.cells 1 (zas (D.k .u8) g.2.1 r.2.rest g.2.2))]/\Q r):=by
 unfold wr_vc at h
 refine CallH.of_bodyP Tryz.func132 rfl Tryz.ntmps132 rfl ?_
 refine G ?_
 refine zl h (c_s_1,pre_s_,post_s_) (fun gg ss=> [(0,.ptr c_s_ 54 0 0),(4,D.i 0),(7,(zai 1 D.s) parts),(8,D.i (parts.length:Int)),(9,D.i ss.2.2.2.2.2.2)]) (fun gg ss=> [(c_s_,.cells 54 [.agg (zci 25 (D.k .u64) ss.1++([.own gg.1 1 gg.2.1.length ss.2.2.2.2.2.1.length,D.i ss.2.1]++(zci 25 (D.k .u64) ss.2.2.1++([D.s ss.2.2.2.1,D.s ss.2.2.2.2.1]))))]),(gg.1,.cells 1 (zas (D.k .u8) gg.2.1 ss.2.2.2.2.2.1 gg.2.2))]) ?_
 rintro again1 ⟨cbs__rest,pres__rest,posts__rest⟩ ⟨s_state,s_taken,s_seen,s_tail,s_sum,xs,x⟩ h
 dsimp only at h
 unfold wr_L1 at h
 refine G ?_
 refine zc h (fun _ h=>?_) (fun _ h=>G ?_)
 obtain⟨q1,h⟩:=h
 refine G ?_
 refine wL (oIx (enc:=D.s) ts25 q1 ?_)
 obtain⟨q1,h⟩:=h
 refine G ?_
 refine wL (OpA.nc rfl zW (.inl ⟨_,_,_,_,rfl⟩) ?_)
 refine G ?_
 refine wL (OpA.nc rfl zW (.inl ⟨_,_,_,_,rfl⟩) ?_)
 refine g ?_
 refine wE (OpA.store (e':= .agg (zci 25 (D.k .u64) s_state++([.own cbs__rest 1 pres__rest.length xs.length,D.i (s_taken+((gi parts x).size:Int))]++(zci 25 (D.k .u64) s_seen++([D.s s_tail,D.s s_sum]))))) rfl ti3 rfl (.of rfl) rfl (Nat.le_of_ble_eq_true rfl) rfl .head ?_)
 obtain⟨q1,h⟩:=h
 refine G ?_
 refine wL (OpA.nc rfl zW (.inl ⟨_,_,_,_,rfl⟩) ?_)
 refine G ?_
 refine wL (OpA.appendS rfl rfl rfl rfl ts165 td9 rfl (fun _ _=>(.tail .head)) rfl q1 (fun c3 pre4=>?_))
 refine wL (OpA.nc rfl zW (.inl ⟨_,_,_,_,rfl⟩) ?_)
 refine g ?_
 refine wE (OpA.store (e':= .agg (zci 25 (D.k .u64) s_state++([.own c3 1 pre4.length (xs++zbl (gi parts x)).length,D.i (s_taken+((gi parts x).size:Int))]++(zci 25 (D.k .u64) s_seen++([D.s s_tail,D.s s_sum]))))) rfl ti165 rfl (.of rfl) rfl (Nat.le_of_ble_eq_true rfl) rfl .head ?_)
 refine G ?_
 refine zl h (c3,pre4,([]:List D)) (fun gg ss=> [(0,.ptr c_s_ 54 0 0),(4,D.i 0),(7,(zai 1 D.s) parts),(8,D.i (parts.length:Int)),(9,D.i x)]) (fun gg ss=> [(c_s_,.cells 54 [.agg (zci 25 (D.k .u64) ss.1++([.own gg.1 1 gg.2.1.length ss.2.2.2.2.2.length,D.i ss.2.1]++(zci 25 (D.k .u64) ss.2.2.1++([D.s ss.2.2.2.1,D.s ss.2.2.2.2.1]))))]),(gg.1,.cells 1 (zas (D.k .u8) gg.2.1 ss.2.2.2.2.2 gg.2.2))]) ?_
 rintro again5 ⟨cbs__rest1,pres__rest1,posts__rest1⟩ ⟨s_state1,s_taken1,s_seen1,s_tail1,s_sum1,xs1⟩ h
 dsimp only at h
 unfold wr_L2 at h
 refine G ?_
 refine wL (OpA.nc rfl zW (.inl ⟨_,_,_,_,rfl⟩) ?_)
 iterate 2 refine g ?_
 refine wL (OpA.len rfl rfl rfl rfl ts165.desc (.inr (.inl ⟨_,_,_,rfl⟩)) ?_)
 refine G ?_
 refine zc h (fun _ h=>?_) (fun _ h=>?_)
 obtain⟨q1,q2,q3,h⟩:=h
 refine G ?_
 refine wL (OpA.nc rfl zW (.inl ⟨_,_,_,_,rfl⟩) ?_)
 refine G ?_
 refine wL (OpA.sliceV (enc:=(D.k .u8)) rfl ts165 rfl (.none _) (.some rfl) q1 (.tail .head) ?_)
 refine wL (OpA.callH rfl rfl rfl zK (h1:= [(c_s_,.cells 54 [.agg (zci 25 (D.k .u64) s_state1++([.own cbs__rest1 1 pres__rest1.length xs1.length,D.i s_taken1]++(zci 25 (D.k .u64) s_seen1++([D.s s_tail1,D.s s_sum1]))))]),(cbs__rest1,.cells 1 (zas (D.k .u8) (pres__rest1++(xs1.take (Int.toNat 0)).map (D.k .u8)) (zbc xs1 0 136) ((xs1.drop (Int.toNat 136)).map (D.k .u8)++posts__rest1)))]) (h2:= []) (.refl _) (abs_c (DigestSponge.mk s_state1 xs1 s_taken1 s_seen1 s_tail1 s_sum1) c_s_ cbs__rest1 pres__rest1.length xs1.length (zbc xs1 0 136) cbs__rest1 (pres__rest1++(xs1.take (Int.toNat 0)).map (D.k .u8)) ((xs1.drop (Int.toNat 136)).map (D.k .u8)++posts__rest1) q2 q3) ?_)
 rintro _ _ ⟨_,rfl,rfl⟩
 refine wpL_widen (enc:=(D.k .u8)) (pre:=pres__rest1) (post:=posts__rest1) (xs:=xs1) q1 (.tail .head) ?_
 obtain⟨q1,q2,h⟩:=h
 refine G ?_
 refine wL (OpA.nc rfl zW (.inl ⟨_,_,_,_,rfl⟩) ?_)
 refine G ?_
 refine wL (OpA.sliceV (enc:=(D.k .u8)) rfl ts165 rfl (.some rfl) (.none _) q1 (.tail .head) ?_)
 refine wL (OpA.appendNW (enc:=(D.k .u8)) rfl rfl rfl rfl ts165 rfl (.own (.tail .head)) q2 (fun c7 pre8=>?_))
 refine wpL_widen (enc:=(D.k .u8)) (pre:=pres__rest1) (post:=posts__rest1) (xs:=xs1) q1 (.tail (.tail .head)) ?_
 refine wL (OpA.nc rfl zW (.inl ⟨_,_,_,_,rfl⟩) ?_)
 refine g ?_
 refine wE (OpA.store (e':= .agg (zci 25 (D.k .u64) ((wr_e0 s_state1 xs1 s_taken1 s_seen1 s_tail1 s_sum1).state)++([.own c7 1 pre8.length (zbc xs1 136 (xs1.length:Int)).length,D.i ((wr_e0 s_state1 xs1 s_taken1 s_seen1 s_tail1 s_sum1).taken)]++(zci 25 (D.k .u64) ((wr_e0 s_state1 xs1 s_taken1 s_seen1 s_tail1 s_sum1).seen)++([D.s ((wr_e0 s_state1 xs1 s_taken1 s_seen1 s_tail1 s_sum1).tail),D.s ((wr_e0 s_state1 xs1 s_taken1 s_seen1 s_tail1 s_sum1).sum)]))))) rfl ti165 rfl (.of rfl) rfl (Nat.le_of_ble_eq_true rfl) rfl (.tail .head) ?_)
 refine wpL_keep (h1:= [(c_s_,.cells 54 [.agg (zci 25 (D.k .u64) ((wr_e0 s_state1 xs1 s_taken1 s_seen1 s_tail1 s_sum1).state)++([.own c7 1 pre8.length (zbc xs1 136 (xs1.length:Int)).length,D.i ((wr_e0 s_state1 xs1 s_taken1 s_seen1 s_tail1 s_sum1).taken)]++(zci 25 (D.k .u64) ((wr_e0 s_state1 xs1 s_taken1 s_seen1 s_tail1 s_sum1).seen)++([D.s ((wr_e0 s_state1 xs1 s_taken1 s_seen1 s_tail1 s_sum1).tail),D.s ((wr_e0 s_state1 xs1 s_taken1 s_seen1 s_tail1 s_sum1).sum)]))))]),(c7,.cells 1 (zas (D.k .u8) pre8 (zbc xs1 136 (xs1.length:Int)) ([]:List D))),(cbs__rest1,.cells 1 (zas (D.k .u8) pres__rest1 xs1 posts__rest1))]) (h0:= [(c_s_,.cells 54 [.agg (zci 25 (D.k .u64) ((wr_e0 s_state1 xs1 s_taken1 s_seen1 s_tail1 s_sum1).state)++([.own c7 1 pre8.length (zbc xs1 136 (xs1.length:Int)).length,D.i ((wr_e0 s_state1 xs1 s_taken1 s_seen1 s_tail1 s_sum1).taken)]++(zci 25 (D.k .u64) ((wr_e0 s_state1 xs1 s_taken1 s_seen1 s_tail1 s_sum1).seen)++([D.s ((wr_e0 s_state1 xs1 s_taken1 s_seen1 s_tail1 s_sum1).tail),D.s ((wr_e0 s_state1 xs1 s_taken1 s_seen1 s_tail1 s_sum1).sum)]))))]),(c7,.cells 1 (zas (D.k .u8) pre8 (zbc xs1 136 (xs1.length:Int)) ([]:List D)))]) pull1 (.cons₂ _ (.cons₂ _ (.cons _ (.refl _)))) ?_
 refine G ?_
 exact⟨(c7,pre8,([]:List D)),((wr_e0 s_state1 xs1 s_taken1 s_seen1 s_tail1 s_sum1).state,(wr_e0 s_state1 xs1 s_taken1 s_seen1 s_tail1 s_sum1).taken,(wr_e0 s_state1 xs1 s_taken1 s_seen1 s_tail1 s_sum1).seen,(wr_e0 s_state1 xs1 s_taken1 s_seen1 s_tail1 s_sum1).tail,(wr_e0 s_state1 xs1 s_taken1 s_seen1 s_tail1 s_sum1).sum,(zbc xs1 136 (xs1.length:Int))),h,cvZ,(.refl _)⟩
 obtain⟨q1,h⟩:=h
 refine G ?_
 exact⟨(cbs__rest1,pres__rest1,posts__rest1),(s_state1,s_taken1,s_seen1,s_tail1,s_sum1,xs1,(x+1)),h,cvZ,(.refl _)⟩
 refine wL (OpA.nc rfl zW (.inl ⟨_,_,_,_,rfl⟩) ?_)
 refine G ?_
 exact⟨_,(.tmp (d:=D.i s_taken) rfl .nil),[(c_s_,.cells 54 [.agg (zci 25 (D.k .u64) s_state++([.own cbs__rest 1 pres__rest.length xs.length,D.i s_taken]++(zci 25 (D.k .u64) s_seen++([D.s s_tail,D.s s_sum]))))]),(cbs__rest,.cells 1 (zas (D.k .u8) pres__rest xs posts__rest))],[(c_s_,.cells 54 [.agg (zci 25 (D.k .u64) s_state++([.own cbs__rest 1 pres__rest.length xs.length,D.i s_taken]++(zci 25 (D.k .u64) s_seen++([D.s s_tail,D.s s_sum]))))]),(cbs__rest,.cells 1 (zas (D.k .u8) pres__rest xs posts__rest))],(.refl _),(.refl _),(s_taken,(DigestSponge.mk s_state xs s_taken s_seen s_tail s_sum)),(cbs__rest,pres__rest,posts__rest),rfl,rfl,h⟩
theorem wr_c (s_:DigestSponge)(c_s_:Nat)(c_s_1:Nat)(pre_s_:List D)(post_s_:List D)(parts:(List ByteArray))(hp0:s_.state.length=25)(hp1:s_.rest.length<=135)(hp2:(0:Int)<=s_.taken)(hp3:s_.taken<=(1000000:Int))(hp4:parts.length<=6)(hp5:∀ p∈parts,p.size<=1000000):CallH Tryz.prog 132 [.ptr c_s_ 54 0 0,(zai 1 D.s) parts] [(c_s_,.cells 54 [.agg (zci 25 (D.k .u64) s_.state++([.own c_s_1 1 pre_s_.length s_.rest.length,D.i s_.taken]++(zci 25 (D.k .u64) s_.seen++([D.s s_.tail,D.s s_.sum]))))]),(c_s_1,.cells 1 (zas (D.k .u8) pre_s_ s_.rest post_s_))] (fun d h'=>∃(g:Nat×List D×List D),d=D.i ((wrF s_ parts).1)/\h'= [(c_s_,.cells 54 [.agg (zci 25 (D.k .u64) (((wrF s_ parts).2).state)++([.own g.1 1 g.2.1.length (((wrF s_ parts).2).rest).length,D.i (((wrF s_ parts).2).taken)]++(zci 25 (D.k .u64) (((wrF s_ parts).2).seen)++([D.s (((wrF s_ parts).2).tail),D.s (((wrF s_ parts).2).sum)]))))]),(g.1,.cells 1 (zas (D.k .u8) g.2.1 (((wrF s_ parts).2).rest) g.2.2))]):=
 (wr_w s_ c_s_ c_s_1 pre_s_ post_s_ parts  (fun r=>r=wrF s_ parts) (wr_ok s_ parts _ hp0 hp1 hp2 hp3 hp4 hp5 rfl)).mono (by rintro d h' ⟨r,g,hd,hh,rfl⟩; exact⟨g,hd,hh⟩)
abbrev ss_e0 (s_:DigestSponge):=(si (gcopy (List.replicate (Int.toNat 136) (0:Int)) (((clF s_).1).rest)) ((((clF s_).1).rest).length:Int) 6)
theorem ss_w (s_:DigestSponge)(c_s_:Nat)(c_s_1:Nat)(pre_s_:List D)(post_s_:List D)(Q:ByteArray×DigestSponge->Prop)(h:ss_vc s_ Q):CallH Tryz.prog 133 [.ptr c_s_ 54 0 0] [(c_s_,.cells 54 [.agg (zci 25 (D.k .u64) s_.state++([.own c_s_1 1 pre_s_.length s_.rest.length,D.i s_.taken]++(zci 25 (D.k .u64) s_.seen++([D.s s_.tail,D.s s_.sum]))))]),(c_s_1,.cells 1 (zas (D.k .u8) pre_s_ s_.rest post_s_))] (fun d h'=>∃(r:ByteArray×DigestSponge) (g:Nat×List D×List D),d=D.s r.1/\h'= [(c_s_,.cells 54 [.agg (zci 25 (D.k .u64) r.2.state++([.own g.1 1 g.2.1.length r.2.rest.length,D.i r.2.taken]++(zci 25 (D.k .u64) r.2.seen++([D.s r.2.tail,D.s r.2.sum]))))]),(g.1,.cells 1 (zas (D.k .u8) g.2.1 r.2.rest g.2.2))]/\Q r):=by
 unfold ss_vc at h
 refine CallH.of_bodyP Tryz.func133 rfl Tryz.ntmps133 rfl ?_
 iterate 6 refine g ?_
 refine zav (asg [(0,.ptr c_s_ 54 0 0),(2,D.s (⟨#[]⟩:ByteArray)),(34,D.b (((!decide (s_.sum=(⟨#[]⟩:ByteArray)))&&(aeq 25 s_.seen s_.state))&&(decide (s_.tail=(bstr s_.rest)))))]) [(c_s_,.cells 54 [.agg (zci 25 (D.k .u64) s_.state++([.own c_s_1 1 pre_s_.length s_.rest.length,D.i s_.taken]++(zci 25 (D.k .u64) s_.seen++([D.s s_.tail,D.s s_.sum]))))]),(c_s_1,.cells 1 (zas (D.k .u8) pre_s_ s_.rest post_s_))] ?_ ?_
 refine zbf (m:=28) mo zK rfl ?_
 refine G ?_
 refine dL (OpA.nc rfl zW (.inl ⟨_,_,_,_,rfl⟩) oR) ?_
 refine G ?_
 refine dL (OpA.sneq rfl rfl rfl oR) ?_
 refine g ?_
 refine zbr (s:=12) rfl (fun b11=>?_) (fun b11=>?_)
 refine G ?_
 refine dG (OpA.nc rfl zW (.inl ⟨_,_,_,_,rfl⟩) oR) ?_
 refine G ?_
 refine dG (OpA.load_agg rfl ti251 rfl .head rfl rfl rfl oR) ?_
 refine G ?_
 refine dG (OpA.nc rfl zW (.inl ⟨_,_,_,_,rfl⟩) oR) ?_
 refine G ?_
 refine dG (OpA.load_agg rfl ti251 rfl .head rfl rfl rfl oR) ?_
 refine dG (OpA.arrcmp rfl eg251 td251 ti250 td250 rfl rfl (.inl ⟨rfl,rfl⟩) oR) ?_
 iterate 2 refine g ?_
 refine zbr (s:=23) rfl (fun b12=>?_) (fun b12=>?_)
 refine G ?_
 refine dG (OpA.nc rfl zW (.inl ⟨_,_,_,_,rfl⟩) oR) ?_
 refine G ?_
 refine dG (OpA.nc rfl zW (.inl ⟨_,_,_,_,rfl⟩) oR) ?_
 refine G ?_
 refine dG (OpA.bytesStr rfl ts165.desc td5 td9 (.own (.tail .head)) oR) ?_
 refine dG (OpA.seql rfl rfl rfl oR) ?_
 refine g ?_
 refine DetK.nil ?_
 refine G ?_
 exact⟨(cvB (andN (andN b11 b12) rfl)),(.refl _)⟩
 iterate 11 refine g ?_
 refine DetK.nil ?_
 refine G ?_
 exact⟨(cvB (andS (andN b11 b12))),(.refl _)⟩
 iterate 22 refine g ?_
 refine DetK.nil ?_
 refine G ?_
 exact⟨(cvB (andS (andS b11))),(.refl _)⟩
 refine zc h (fun _ h=>G ?_) (fun _ h=>?_)
 refine wL (OpA.nc rfl zW (.inl ⟨_,_,_,_,rfl⟩) ?_)
 refine G ?_
 exact⟨_,(.tmp (d:=D.s s_.sum) rfl .nil),[(c_s_,.cells 54 [.agg (zci 25 (D.k .u64) s_.state++([.own c_s_1 1 pre_s_.length s_.rest.length,D.i s_.taken]++(zci 25 (D.k .u64) s_.seen++([D.s s_.tail,D.s s_.sum]))))]),(c_s_1,.cells 1 (zas (D.k .u8) pre_s_ s_.rest post_s_))],[(c_s_,.cells 54 [.agg (zci 25 (D.k .u64) s_.state++([.own c_s_1 1 pre_s_.length s_.rest.length,D.i s_.taken]++(zci 25 (D.k .u64) s_.seen++([D.s s_.tail,D.s s_.sum]))))]),(c_s_1,.cells 1 (zas (D.k .u8) pre_s_ s_.rest post_s_))],(.refl _),(.refl _),(s_.sum,s_),(c_s_1,pre_s_,post_s_),rfl,rfl,h⟩
 obtain⟨q1,h⟩:=h
 refine G ?_
 refine wL (OpA.callH rfl rfl rfl zK (h1:= [(c_s_,.cells 54 [.agg (zci 25 (D.k .u64) s_.state++([.own c_s_1 1 pre_s_.length s_.rest.length,D.i s_.taken]++(zci 25 (D.k .u64) s_.seen++([D.s s_.tail,D.s s_.sum]))))]),(c_s_1,.cells 1 (zas (D.k .u8) pre_s_ s_.rest post_s_))]) (h2:= []) (.refl _) (cl_c s_ c_s_ c_s_1 pre_s_ post_s_ q1) ?_)
 rintro _ _ ⟨⟨c2,c_n3,pre_n3,post_n3,c4,pre5,post6⟩,rfl,rfl⟩
 obtain⟨q1,h⟩:=h
 refine G ?_
 refine wL (OpA.makeSliceV (enc:=(D.k .u8)) (v0:=0) rfl ts165 rfl rfl tz5 (fun _ _=> .v _) (.of rfl) q1 (fun c7=>?_))
 refine G ?_
 refine wL (OpA.nc rfl zW (.inl ⟨_,_,_,_,rfl⟩) ?_)
 refine G ?_
 refine wL (OpA_copyW rfl rfl rfl rfl ts165 rfl .head (.own (.tail (.tail .head))) ?_)
 iterate 2 refine g ?_
 refine wpA_cov (fr0:=asg [(0,.ptr c_s_ 54 0 0),(2,D.s (⟨#[]⟩:ByteArray)),(3,.ptr c2 54 0 0),(4,.own c7 1 ([]:List D).length (gcopy (List.replicate (Int.toNat 136) (0:Int)) (((clF s_).1).rest)).length),(34,D.b (((!decide (s_.sum=(⟨#[]⟩:ByteArray)))&&(aeq 25 s_.seen s_.state))&&(decide (s_.tail=(bstr s_.rest))))),(39,.ptr c_s_ 54 0 0),(40,.ptr c2 54 0 0),(41,.own c7 1 ([]:List D).length (gcopy (List.replicate (Int.toNat 136) (0:Int)) (((clF s_).1).rest)).length),(42,.own c7 1 ([]:List D).length (gcopy (List.replicate (Int.toNat 136) (0:Int)) (((clF s_).1).rest)).length),(43,.ptr c2 54 0 0),(44,.ptr c2 54 0 0),(45,.ptr c2 54 0 25),(46,.own c_n3 1 pre_n3.length (((clF s_).1).rest).length),(47,D.i ((min (((clF s_).1).rest).length (List.replicate (Int.toNat 136) (0:Int)).length:Nat):Int))]) (Cov.asg ⟨rfl,rfl,rfl,(congrArg (D.own c7 1 ([]:List D).length) (by simp only [zan,zah,zac zam,zac zaf,zac zal]<;>rfl)),rfl,rfl,rfl,(congrArg (D.own c7 1 ([]:List D).length) (by simp only [zan,zah,zac zam,zac zaf,zac zal]<;>rfl)),(congrArg (D.own c7 1 ([]:List D).length) (by simp only [zan,zah,zac zam,zac zaf,zac zal]<;>rfl)),rfl,rfl,rfl,rfl,rfl,trivial⟩) ?_
 obtain⟨q1,h⟩:=h
 refine G ?_
 refine wL (OpA.nc rfl zW (.inl ⟨_,_,_,_,rfl⟩) ?_)
 iterate 2 refine g ?_
 refine wL (OpA.len rfl rfl rfl rfl ts165.desc (.inr (.inl ⟨_,_,_,rfl⟩)) ?_)
 refine wL (oIv ts165 q1 ?_)
 refine wE (OpA.storeV (enc:=(D.k .u8)) (v:=6) rfl ti5 rfl rfl (.of rfl) rfl q1 .head ?_)
 iterate 2 refine g ?_
 refine wpA_cov (fr0:=asg [(0,.ptr c_s_ 54 0 0),(2,D.s (⟨#[]⟩:ByteArray)),(3,.ptr c2 54 0 0),(4,.own c7 1 ([]:List D).length (ss_e0 s_).length),(34,D.b (((!decide (s_.sum=(⟨#[]⟩:ByteArray)))&&(aeq 25 s_.seen s_.state))&&(decide (s_.tail=(bstr s_.rest))))),(39,.ptr c_s_ 54 0 0),(40,.ptr c2 54 0 0),(41,.own c7 1 ([]:List D).length (ss_e0 s_).length),(42,.own c7 1 ([]:List D).length (ss_e0 s_).length),(43,.ptr c2 54 0 0),(44,.ptr c2 54 0 0),(45,.ptr c2 54 0 25),(46,.own c_n3 1 pre_n3.length (((clF s_).1).rest).length),(47,D.i ((min (((clF s_).1).rest).length (List.replicate (Int.toNat 136) (0:Int)).length:Nat):Int)),(48,.own c7 1 ([]:List D).length (ss_e0 s_).length),(49,.ptr c2 54 0 0),(50,.ptr c2 54 0 0),(51,.ptr c2 54 0 25),(52,.own c_n3 1 pre_n3.length (((clF s_).1).rest).length),(53,D.i ((((clF s_).1).rest).length:Int)),(54,.ptr c7 1 (([]:List D).length+(Int.toNat ((((clF s_).1).rest).length:Int))) 0)]) (Cov.asg ⟨rfl,rfl,rfl,(congrArg (D.own c7 1 ([]:List D).length) (by simp only [zan,zah,zac zam,zac zaf,zac zal]<;>rfl)),rfl,rfl,rfl,(congrArg (D.own c7 1 ([]:List D).length) (by simp only [zan,zah,zac zam,zac zaf,zac zal]<;>rfl)),(congrArg (D.own c7 1 ([]:List D).length) (by simp only [zan,zah,zac zam,zac zaf,zac zal]<;>rfl)),rfl,rfl,rfl,rfl,rfl,(congrArg (D.own c7 1 ([]:List D).length) (by simp only [zan,zah,zac zam,zac zaf,zac zal]<;>rfl)),rfl,rfl,rfl,rfl,rfl,rfl,trivial⟩) ?_
 obtain⟨q1,h⟩:=h
 refine G ?_
 refine wL (oIv ts165 q1 ?_)
 refine wL (OpA.load rfl ti5 rfl .head (getV (enc:=(D.k .u8)) q1) rfl ?_)
 refine wL (OpA.bxor rfl rfl rfl ?_)
 refine wL (oIv ts165 q1 ?_)
 refine wE (OpA.storeV (enc:=(D.k .u8)) (v:=(gxor .u8 (gi (ss_e0 s_) 135) 128)) rfl ti5 rfl rfl (.of rfl) rfl q1 .head ?_)
 iterate 2 refine g ?_
 refine wpA_cov (fr0:=asg [(0,.ptr c_s_ 54 0 0),(2,D.s (⟨#[]⟩:ByteArray)),(3,.ptr c2 54 0 0),(4,.own c7 1 ([]:List D).length (si (ss_e0 s_) 135 (gxor .u8 (gi (ss_e0 s_) 135) 128)).length),(34,D.b (((!decide (s_.sum=(⟨#[]⟩:ByteArray)))&&(aeq 25 s_.seen s_.state))&&(decide (s_.tail=(bstr s_.rest))))),(39,.ptr c_s_ 54 0 0),(40,.ptr c2 54 0 0),(41,.own c7 1 ([]:List D).length (si (ss_e0 s_) 135 (gxor .u8 (gi (ss_e0 s_) 135) 128)).length),(42,.own c7 1 ([]:List D).length (si (ss_e0 s_) 135 (gxor .u8 (gi (ss_e0 s_) 135) 128)).length),(43,.ptr c2 54 0 0),(44,.ptr c2 54 0 0),(45,.ptr c2 54 0 25),(46,.own c_n3 1 pre_n3.length (((clF s_).1).rest).length),(47,D.i ((min (((clF s_).1).rest).length (List.replicate (Int.toNat 136) (0:Int)).length:Nat):Int)),(48,.own c7 1 ([]:List D).length (si (ss_e0 s_) 135 (gxor .u8 (gi (ss_e0 s_) 135) 128)).length),(49,.ptr c2 54 0 0),(50,.ptr c2 54 0 0),(51,.ptr c2 54 0 25),(52,.own c_n3 1 pre_n3.length (((clF s_).1).rest).length),(53,D.i ((((clF s_).1).rest).length:Int)),(54,.ptr c7 1 (([]:List D).length+(Int.toNat ((((clF s_).1).rest).length:Int))) 0),(55,.own c7 1 ([]:List D).length (si (ss_e0 s_) 135 (gxor .u8 (gi (ss_e0 s_) 135) 128)).length),(56,.ptr c7 1 (([]:List D).length+(Int.toNat 135)) 0),(57,(D.k .u8) (gi (ss_e0 s_) 135)),(58,(D.k .u8) (gxor .u8 (gi (ss_e0 s_) 135) 128)),(59,.ptr c7 1 (([]:List D).length+(Int.toNat 135)) 0)]) (Cov.asg ⟨rfl,rfl,rfl,(congrArg (D.own c7 1 ([]:List D).length) (by simp only [zan,zah,zac zam,zac zaf,zac zal]<;>rfl)),rfl,rfl,rfl,(congrArg (D.own c7 1 ([]:List D).length) (by simp only [zan,zah,zac zam,zac zaf,zac zal]<;>rfl)),(congrArg (D.own c7 1 ([]:List D).length) (by simp only [zan,zah,zac zam,zac zaf,zac zal]<;>rfl)),rfl,rfl,rfl,rfl,rfl,(congrArg (D.own c7 1 ([]:List D).length) (by simp only [zan,zah,zac zam,zac zaf,zac zal]<;>rfl)),rfl,rfl,rfl,rfl,rfl,rfl,(congrArg (D.own c7 1 ([]:List D).length) (by simp only [zan,zah,zac zam,zac zaf,zac zal]<;>rfl)),rfl,rfl,rfl,rfl,trivial⟩) ?_
 obtain⟨q1,q2,h⟩:=h
 refine G ?_
 refine wL (OpA.callH rfl rfl rfl zK (h1:= [(c2,.cells 54 [.agg (zci 25 (D.k .u64) (((clF s_).1).state)++([.own c_n3 1 pre_n3.length (((clF s_).1).rest).length,D.i (((clF s_).1).taken)]++(zci 25 (D.k .u64) (((clF s_).1).seen)++([D.s (((clF s_).1).tail),D.s (((clF s_).1).sum)]))))]),(c7,.cells 1 (zas (D.k .u8) ([]:List D) (si (ss_e0 s_) 135 (gxor .u8 (gi (ss_e0 s_) 135) 128)) ([]:List D)))]) (h2:= [(c_n3,.cells 1 (zas (D.k .u8) pre_n3 (((clF s_).1).rest) post_n3)),(c_s_,.cells 54 [.agg (zci 25 (D.k .u64) (((clF s_).2).state)++([.own c4 1 pre5.length (((clF s_).2).rest).length,D.i (((clF s_).2).taken)]++(zci 25 (D.k .u64) (((clF s_).2).seen)++([D.s (((clF s_).2).tail),D.s (((clF s_).2).sum)]))))]),(c4,.cells 1 (zas (D.k .u8) pre5 (((clF s_).2).rest) post6))]) pull1 (abs_c ((clF s_).1) c2 c_n3 pre_n3.length (((clF s_).1).rest).length (si (ss_e0 s_) 135 (gxor .u8 (gi (ss_e0 s_) 135) 128)) c7 ([]:List D) ([]:List D) q1 q2) ?_)
 rintro _ _ ⟨_,rfl,rfl⟩
 refine wpL_perm (h':= [(c7,.cells 1 (zas (D.k .u8) ([]:List D) (si (ss_e0 s_) 135 (gxor .u8 (gi (ss_e0 s_) 135) 128)) ([]:List D))),(c2,.cells 54 [.agg (zci 25 (D.k .u64) ((absF ((clF s_).1) (si (ss_e0 s_) 135 (gxor .u8 (gi (ss_e0 s_) 135) 128))).state)++([.own c_n3 1 pre_n3.length (((clF s_).1).rest).length,D.i ((absF ((clF s_).1) (si (ss_e0 s_) 135 (gxor .u8 (gi (ss_e0 s_) 135) 128))).taken)]++(zci 25 (D.k .u64) ((absF ((clF s_).1) (si (ss_e0 s_) 135 (gxor .u8 (gi (ss_e0 s_) 135) 128))).seen)++([D.s ((absF ((clF s_).1) (si (ss_e0 s_) 135 (gxor .u8 (gi (ss_e0 s_) 135) 128))).tail),D.s ((absF ((clF s_).1) (si (ss_e0 s_) 135 (gxor .u8 (gi (ss_e0 s_) 135) 128))).sum)]))))]),(c_n3,.cells 1 (zas (D.k .u8) pre_n3 (((clF s_).1).rest) post_n3)),(c_s_,.cells 54 [.agg (zci 25 (D.k .u64) (((clF s_).2).state)++([.own c4 1 pre5.length (((clF s_).2).rest).length,D.i (((clF s_).2).taken)]++(zci 25 (D.k .u64) (((clF s_).2).seen)++([D.s (((clF s_).2).tail),D.s (((clF s_).2).sum)]))))]),(c4,.cells 1 (zas (D.k .u8) pre5 (((clF s_).2).rest) post6))]) pull1 ?_
 obtain⟨q1,h⟩:=h
 refine G ?_
 refine wL (OpA.makeSliceV (enc:=(D.k .u8)) (v0:=0) rfl ts165 rfl rfl tz5 (fun _ _=> .v _) (.of rfl) q1 (fun c8=>?_))
 iterate 6 refine g ?_
 refine wL (OpA.len rfl rfl rfl rfl ts165.desc (.inr (.inl ⟨_,_,_,rfl⟩)) ?_)
 refine G ?_
 refine zl h (c8,([]:List D),([]:List D)) (fun gg ss=> [(0,.ptr c_s_ 54 0 0),(2,D.s (⟨#[]⟩:ByteArray)),(3,.ptr c2 54 0 0),(5,.own gg.1 1 gg.2.1.length ss.1.length),(65,D.i ((List.replicate (Int.toNat 32) (0:Int)).length:Int)),(66,D.i ss.2)]) (fun gg ss=> [(gg.1,.cells 1 (zas (D.k .u8) gg.2.1 ss.1 gg.2.2)),(c7,.cells 1 (zas (D.k .u8) ([]:List D) (si (ss_e0 s_) 135 (gxor .u8 (gi (ss_e0 s_) 135) 128)) ([]:List D))),(c2,.cells 54 [.agg (zci 25 (D.k .u64) ((absF ((clF s_).1) (si (ss_e0 s_) 135 (gxor .u8 (gi (ss_e0 s_) 135) 128))).state)++([.own c_n3 1 pre_n3.length (((clF s_).1).rest).length,D.i ((absF ((clF s_).1) (si (ss_e0 s_) 135 (gxor .u8 (gi (ss_e0 s_) 135) 128))).taken)]++(zci 25 (D.k .u64) ((absF ((clF s_).1) (si (ss_e0 s_) 135 (gxor .u8 (gi (ss_e0 s_) 135) 128))).seen)++([D.s ((absF ((clF s_).1) (si (ss_e0 s_) 135 (gxor .u8 (gi (ss_e0 s_) 135) 128))).tail),D.s ((absF ((clF s_).1) (si (ss_e0 s_) 135 (gxor .u8 (gi (ss_e0 s_) 135) 128))).sum)]))))]),(c_n3,.cells 1 (zas (D.k .u8) pre_n3 (((clF s_).1).rest) post_n3)),(c_s_,.cells 54 [.agg (zci 25 (D.k .u64) (((clF s_).2).state)++([.own c4 1 pre5.length (((clF s_).2).rest).length,D.i (((clF s_).2).taken)]++(zci 25 (D.k .u64) (((clF s_).2).seen)++([D.s (((clF s_).2).tail),D.s (((clF s_).2).sum)]))))]),(c4,.cells 1 (zas (D.k .u8) pre5 (((clF s_).2).rest) post6))]) ?_
 rintro again9 ⟨cb63,pre63,post63⟩ ⟨out,x⟩ h
 dsimp only at h
 unfold ss_L1 at h
 refine G ?_
 refine zc h (fun _ h=>?_) (fun _ h=>?_)
 obtain⟨q1,q2,q3,q4,q5,q6,h⟩:=h
 refine G ?_
 refine wL (OpA.quoN rfl rfl rfl q1 ?_)
 refine wL (OpA.nc rfl zW (.inl ⟨_,_,_,_,rfl⟩) ?_)
 refine G ?_
 refine wL (OpA.aixV rfl td251 ti250 rfl rfl q2 ?_)
 refine wL (OpA.load rfl ti250 rfl (.tail (.tail .head)) rfl (arrAt (A:=([]:List D)) rfl q2) ?_)
 refine G ?_
 refine wL (OpA.remN rfl rfl rfl q3 ?_)
 refine wL (OpA.muli rfl rfl rfl q4 ?_)
 refine wL (OpA.shr rfl rfl rfl q5 ?_)
 refine wL (OpA.conv rfl td250 td5 rfl ?_)
 refine wL (oIv ts165 q6 ?_)
 refine wE (OpA.storeV (enc:=(D.k .u8)) (v:=(IntKind.u8.wrap (gshr .u64 (gi ((absF ((clF s_).1) (si (ss_e0 s_) 135 (gxor .u8 (gi (ss_e0 s_) 135) 128))).state) (x / 8)) (8*(x % 8))))) rfl ti5 rfl rfl (.of rfl) rfl q6 .head ?_)
 obtain⟨q1,h⟩:=h
 refine G ?_
 exact⟨(cb63,pre63,post63),((si out x (IntKind.u8.wrap (gshr .u64 (gi ((absF ((clF s_).1) (si (ss_e0 s_) 135 (gxor .u8 (gi (ss_e0 s_) 135) 128))).state) (x / 8)) (8*(x % 8))))),(x+1)),h,(Cov.asg ⟨rfl,rfl,rfl,(congrArg (D.own cb63 1 pre63.length) (by simp only [zan,zah,zac zam,zac zaf,zac zal]<;>rfl)),rfl,rfl,trivial⟩),(.refl _)⟩
 iterate 2 refine g ?_
 refine wpA_drawF [1,2] (m:=16) mo zK (fun _ _ _ hx=>hx) rfl ?_
 refine G ?_
 refine dL (OpA.nc rfl zW (.inl ⟨_,_,_,_,rfl⟩) oR) ?_
 refine G ?_
 refine dL (OpA.load_agg rfl ti251 rfl (.tail (.tail (.tail (.tail .head)))) rfl rfl rfl oR) ?_
 refine G ?_
 refine dL (OpA.nc rfl zW (.inl ⟨_,_,_,_,rfl⟩) oR) ?_
 refine G ?_
 refine dL (OpA.bytesStr rfl ts165.desc td5 td9 (.own (.tail (.tail (.tail (.tail (.tail .head)))))) oR) ?_
 refine G ?_
 refine dL (OpA.bytesStr rfl ts165.desc td5 td9 (.own .head) oR) ?_
 refine dL (OpA.nc rfl zW (.inl ⟨_,_,_,_,rfl⟩) oR) ?_
 refine g ?_
 refine DetK.nil ?_
 refine wE (OpA.store (e:= .agg (zci 25 (D.k .u64) (((clF s_).2).state)++([.own c4 1 pre5.length (((clF s_).2).rest).length,D.i (((clF s_).2).taken)]++(zci 25 (D.k .u64) (((clF s_).2).seen)++([D.s (((clF s_).2).tail),D.s (((clF s_).2).sum)]))))) (e':= .agg (zci 25 (D.k .u64) (((clF s_).2).state)++([.own c4 1 pre5.length (((clF s_).2).rest).length,D.i (((clF s_).2).taken)]++(zci 25 (D.k .u64) (((clF s_).2).state)++([D.s (((clF s_).2).tail),D.s (((clF s_).2).sum)]))))) rfl ti251 rfl (.of rfl) rfl (Nat.le_of_ble_eq_true rfl) (arrPut2 (A1:=(zci 25 (D.k .u64) (((clF s_).2).state))) (A2:=([.own c4 1 pre5.length (((clF s_).2).rest).length,D.i (((clF s_).2).taken)]:List D)) rfl) (.tail (.tail (.tail (.tail .head)))) ?_)
 refine wL (OpA.nc rfl zW (.inl ⟨_,_,_,_,rfl⟩) ?_)
 refine g ?_
 refine wE (OpA.store (e':= .agg (zci 25 (D.k .u64) (((clF s_).2).state)++([.own c4 1 pre5.length (((clF s_).2).rest).length,D.i (((clF s_).2).taken)]++(zci 25 (D.k .u64) (((clF s_).2).state)++([D.s (bstr (((clF s_).2).rest)),D.s (((clF s_).2).sum)]))))) rfl ti9 rfl (.of rfl) rfl (Nat.le_of_ble_eq_true rfl) rfl (.tail (.tail (.tail (.tail .head)))) ?_)
 refine wL (OpA.nc rfl zW (.inl ⟨_,_,_,_,rfl⟩) ?_)
 refine g ?_
 refine wE (OpA.store (e':= .agg (zci 25 (D.k .u64) (((clF s_).2).state)++([.own c4 1 pre5.length (((clF s_).2).rest).length,D.i (((clF s_).2).taken)]++(zci 25 (D.k .u64) (((clF s_).2).state)++([D.s (bstr (((clF s_).2).rest)),D.s (bstr out)]))))) rfl ti9 rfl (.of rfl) rfl (Nat.le_of_ble_eq_true rfl) rfl (.tail (.tail (.tail (.tail .head)))) ?_)
 refine G ?_
 refine wL (OpA.nc rfl zW (.inl ⟨_,_,_,_,rfl⟩) ?_)
 refine G ?_
 exact⟨_,(.tmp (d:=D.s (bstr out)) rfl .nil),[(c_s_,.cells 54 [.agg (zci 25 (D.k .u64) (((clF s_).2).state)++([.own c4 1 pre5.length (((clF s_).2).rest).length,D.i (((clF s_).2).taken)]++(zci 25 (D.k .u64) (((clF s_).2).state)++([D.s (bstr (((clF s_).2).rest)),D.s (bstr out)]))))]),(c4,.cells 1 (zas (D.k .u8) pre5 (((clF s_).2).rest) post6)),(cb63,.cells 1 (zas (D.k .u8) pre63 out post63)),(c7,.cells 1 (zas (D.k .u8) ([]:List D) (si (ss_e0 s_) 135 (gxor .u8 (gi (ss_e0 s_) 135) 128)) ([]:List D))),(c2,.cells 54 [.agg (zci 25 (D.k .u64) ((absF ((clF s_).1) (si (ss_e0 s_) 135 (gxor .u8 (gi (ss_e0 s_) 135) 128))).state)++([.own c_n3 1 pre_n3.length (((clF s_).1).rest).length,D.i ((absF ((clF s_).1) (si (ss_e0 s_) 135 (gxor .u8 (gi (ss_e0 s_) 135) 128))).taken)]++(zci 25 (D.k .u64) ((absF ((clF s_).1) (si (ss_e0 s_) 135 (gxor .u8 (gi (ss_e0 s_) 135) 128))).seen)++([D.s ((absF ((clF s_).1) (si (ss_e0 s_) 135 (gxor .u8 (gi (ss_e0 s_) 135) 128))).tail),D.s ((absF ((clF s_).1) (si (ss_e0 s_) 135 (gxor .u8 (gi (ss_e0 s_) 135) 128))).sum)]))))]),(c_n3,.cells 1 (zas (D.k .u8) pre_n3 (((clF s_).1).rest) post_n3))],[(c_s_,.cells 54 [.agg (zci 25 (D.k .u64) (((clF s_).2).state)++([.own c4 1 pre5.length (((clF s_).2).rest).length,D.i (((clF s_).2).taken)]++(zci 25 (D.k .u64) (((clF s_).2).state)++([D.s (bstr (((clF s_).2).rest)),D.s (bstr out)]))))]),(c4,.cells 1 (zas (D.k .u8) pre5 (((clF s_).2).rest) post6))],(pull4.trans (.cons _ pull4)),(.cons₂ _ (.cons₂ _ (.cons _ (.cons _ (.cons _ (.cons _ (.refl _))))))),((bstr out),(DigestSponge.mk (((clF s_).2).state) (((clF s_).2).rest) (((clF s_).2).taken) (((clF s_).2).state) (bstr (((clF s_).2).rest)) (bstr out))),(c4,pre5,post6),rfl,rfl,h⟩
theorem ss_c (s_:DigestSponge)(c_s_:Nat)(c_s_1:Nat)(pre_s_:List D)(post_s_:List D)(hp0:s_.state.length=25)(hp1:s_.rest.length<=135):CallH Tryz.prog 133 [.ptr c_s_ 54 0 0] [(c_s_,.cells 54 [.agg (zci 25 (D.k .u64) s_.state++([.own c_s_1 1 pre_s_.length s_.rest.length,D.i s_.taken]++(zci 25 (D.k .u64) s_.seen++([D.s s_.tail,D.s s_.sum]))))]),(c_s_1,.cells 1 (zas (D.k .u8) pre_s_ s_.rest post_s_))] (fun d h'=>∃(g:Nat×List D×List D),d=D.s ((ssF s_).1)/\h'= [(c_s_,.cells 54 [.agg (zci 25 (D.k .u64) (((ssF s_).2).state)++([.own g.1 1 g.2.1.length (((ssF s_).2).rest).length,D.i (((ssF s_).2).taken)]++(zci 25 (D.k .u64) (((ssF s_).2).seen)++([D.s (((ssF s_).2).tail),D.s (((ssF s_).2).sum)]))))]),(g.1,.cells 1 (zas (D.k .u8) g.2.1 (((ssF s_).2).rest) g.2.2))]):=
 (ss_w s_ c_s_ c_s_1 pre_s_ post_s_  (fun r=>r=ssF s_) (ss_ok s_ _ hp0 hp1 rfl)).mono (by rintro d h' ⟨r,g,hd,hh,rfl⟩; exact⟨g,hd,hh⟩)
theorem dsum_c (data:ByteArray)(hp0:data.size<=1000000):Fun false Tryz.prog 86 [D.s data] (fun d=>d=D.s (sumD data)):=by
 refine fB Tryz.func86 Tryz.ntmps86 (dsum_ok data _ hp0 rfl) fun Q h=>?_
 unfold dsum_vc at h
 refine G ?_
 refine wL (OpA.callH rfl rfl rfl zK (h1:= []) (h2:= []) (.refl _) (dnew_c) ?_)
 rintro _ _ ⟨⟨c1,c_n2,pre_n2,post_n2⟩,rfl,rfl⟩
 obtain⟨q1,q2,q3,q4,q5,q6,h⟩:=h
 refine G ?_
 refine wL (OpA.ibuildSliceO rfl ts25 rfl (.cons (.of (sz:=1) rfl) .nil) (by decide) ?_)
 refine wL (OpA.callH rfl rfl rfl zK (h1:= [(c1,.cells 54 [.agg (zci 25 (D.k .u64) newD.state++([.own c_n2 1 pre_n2.length newD.rest.length,D.i newD.taken]++(zci 25 (D.k .u64) newD.seen++([D.s newD.tail,D.s newD.sum]))))]),(c_n2,.cells 1 (zas (D.k .u8) pre_n2 newD.rest post_n2))]) (h2:= []) (.refl _) (wr_c newD c1 c_n2 pre_n2 post_n2 ([data]:List ByteArray) q1 q2 q3 q4 q5 q6) ?_)
 rintro _ _ ⟨⟨c3,pre4,post5⟩,rfl,rfl⟩
 obtain⟨q1,q2,h⟩:=h
 refine G ?_
 refine wL (OpA.callH rfl rfl rfl zK (h1:= [(c1,.cells 54 [.agg (zci 25 (D.k .u64) (((wrF newD ([data]:List ByteArray)).2).state)++([.own c3 1 pre4.length (((wrF newD ([data]:List ByteArray)).2).rest).length,D.i (((wrF newD ([data]:List ByteArray)).2).taken)]++(zci 25 (D.k .u64) (((wrF newD ([data]:List ByteArray)).2).seen)++([D.s (((wrF newD ([data]:List ByteArray)).2).tail),D.s (((wrF newD ([data]:List ByteArray)).2).sum)]))))]),(c3,.cells 1 (zas (D.k .u8) pre4 (((wrF newD ([data]:List ByteArray)).2).rest) post5))]) (h2:= []) (.refl _) (ss_c ((wrF newD ([data]:List ByteArray)).2) c1 c3 pre4 post5 q1 q2) ?_)
 rintro _ _ ⟨⟨c6,pre7,post8⟩,rfl,rfl⟩
 refine G ?_
 exact zr h
end Go.Proofs.YtkifpidbpoghlaaGreatDoor
