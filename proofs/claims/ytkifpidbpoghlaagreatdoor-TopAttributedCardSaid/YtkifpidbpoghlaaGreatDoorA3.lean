/-
  walks and contracts
-/
import Derived.Test.YtkifpidbpoghlaaGreatDoorV1
import Derived.Test.YtkifpidbpoghlaaGreatDoorAto5
set_option maxRecDepth 10000
set_option maxHeartbeats 2000000
set_option linter.all false
namespace Go.Proofs.YtkifpidbpoghlaaGreatDoor
open Go Go.Lic Go.Sort Go.Proofs
attribute [local irreducible] addF addP zaw badR behindF blankF checkF zbp zbx cmpB cmpI cmpL codeF countF fewTs fewW findC findT zbt growTF guarF hashF zbj insideF itoaF lenF lookF mergeF mul64F mulP newF ofF orF partF pathF postCmp postsF powF zak pushF rightL rollF zbu zbs zbh zad splitG zbi
theorem gadd_c (a:Int)(b:Int)(hp0:(0:Int)<=a)(hp1:a<=PR)(hp2:(0:Int)<=b)(hp3:b<=PR):Fun false Tryz.prog 217 [D.i a,D.i b] (fun d=>d=D.i (addP a b)):=by
 refine fB Tryz.func217 Tryz.ntmps217 (gadd_ok a b _ hp0 hp1 hp2 hp3 rfl) fun Q h=>?_
 unfold gadd_vc at h
 obtain⟨q1,h⟩:=h
 iterate 17 refine g ?_
 refine wpA_join (S:=Int) (G:=Unit) (fun gg ss=>asg [(4,D.i 0),(5,D.i ss)]) (fun gg ss=> []) (fun ss=>gadd_J1 Q ss) ?_ ?_
 refine zc h (fun _ h=>?_) (fun _ h=>G ?_)
 obtain⟨q1,h⟩:=h
 refine G ?_
 exact⟨(),((a+b)-2305843009213693951),h,cvZ,(.refl _)⟩
 exact⟨(),(a+b),h,cvZ,(.refl _)⟩
 rintro _ n h
 have h:gadd_J1 Q n:=h
 unfold gadd_J1 at h
 refine G ?_
 refine zc h (fun _ h=>?_) (fun _ h=>G ?_)
 obtain⟨q1,h⟩:=h
 refine G ?_
 exact zr h
 exact zr h
theorem gmul_c (a:Int)(b:Int)(hp0:(0:Int)<=a)(hp1:a<PR)(hp2:(0:Int)<=b)(hp3:b<PR):Fun false Tryz.prog 216 [D.i a,D.i b] (fun d=>d=D.i (mulP a b)):=by
 refine fB Tryz.func216 Tryz.ntmps216 (gmul_ok a b _ hp0 hp1 hp2 hp3 rfl) fun Q h=>?_
 unfold gmul_vc at h
 obtain⟨q1,q2,q3,q4,h⟩:=h
 refine G ?_
 refine wL (OpA.conv rfl td3 td250 rfl ?_)
 refine G ?_
 refine wL (OpA.conv rfl td3 td250 rfl ?_)
 refine wL (oC (mul64_c (IntKind.u64.wrap a) (IntKind.u64.wrap b) q1 q2 q3 q4) ?_)
 obtain⟨q1,q2,q3,q4,q5,q6,h⟩:=h
 refine G ?_
 refine wL (OpA.band rfl rfl rfl ?_)
 refine wL (OpA.conv rfl td250 td3 rfl ?_)
 refine G ?_
 refine wL (OpA.shl rfl rfl rfl q1 ?_)
 refine G ?_
 refine wL (OpA.shr rfl rfl rfl q2 ?_)
 refine wL (OpA.bor rfl rfl rfl ?_)
 refine wL (OpA.conv rfl td250 td3 rfl ?_)
 refine wL (oC (gadd_c (IntKind.i64.wrap (gand .u64 ((mul64F (IntKind.u64.wrap a) (IntKind.u64.wrap b)).2) 2305843009213693951)) (IntKind.i64.wrap (gor .u64 (gshl .u64 ((mul64F (IntKind.u64.wrap a) (IntKind.u64.wrap b)).1) 3) (gshr .u64 ((mul64F (IntKind.u64.wrap a) (IntKind.u64.wrap b)).2) 61))) q3 q4 q5 q6) ?_)
 refine G ?_
 exact zr h
theorem gcode_c (word:ByteArray)(hp0:word.size<=1000000):Fun false Tryz.prog 218 [D.s word] (fun d=>d=D.i (codeF word)):=by
 refine fB Tryz.func218 Tryz.ntmps218 (gcode_ok word _ hp0 rfl) fun Q h=>?_
 unfold gcode_vc at h
 refine G ?_
 refine zl h () (fun gg ss=> [(0,D.s word),(2,D.i 0),(3,D.i ss.1),(6,D.i (word.size:Int)),(7,D.i ss.2)]) (fun gg ss=> []) ?_
 rintro again1 _ ⟨c,x⟩ h
 dsimp only at h
 unfold gcode_L1 at h
 refine G ?_
 refine zc h (fun _ h=>?_) (fun _ h=>G ?_)
 obtain⟨q1,q2,q3,q4,q5,q6,q7,q8,q9,q10,h⟩:=h
 iterate 8 refine g ?_
 refine zbf (m:=9) mo zK rfl ?_
 refine G ?_
 refine dL (oC (gmul_c 257 c q1 q2 q3 q4) oR) ?_
 refine G ?_
 refine dL (OpA.sixV rfl td9 rfl rfl q5 oR) ?_
 refine dL (OpA.conv rfl td5 td3 rfl oR) ?_
 refine G ?_
 refine dL (oC (gadd_c (mulP 257 c) ((IntKind.i64.wrap (sgi word x))+1) q7 q8 q9 q10) oR) ?_
 refine g ?_
 refine DetK.nil ?_
 obtain⟨q1,h⟩:=h
 refine G ?_
 exact⟨(),((addP (mulP 257 c) ((IntKind.i64.wrap (sgi word x))+1)),(x+1)),h,cvZ,(.refl _)⟩
 exact zr h
theorem gpower_c (n:Int)(hp0:(0:Int)<=n)(hp1:n<=(8192:Int)):Fun false Tryz.prog 180 [D.i n] (fun d=>d=D.i (powF n)):=by
 refine fB Tryz.func180 Tryz.ntmps180 (gpower_ok n _ hp0 hp1 rfl) fun Q h=>?_
 unfold gpower_vc at h
 refine G ?_
 refine zl h () (fun gg ss=> [(0,D.i ss.1),(2,D.i 0),(3,D.i ss.2.1),(4,D.i ss.2.2)]) (fun gg ss=> []) ?_
 rintro again1 _ ⟨n1,out,square⟩ h
 dsimp only at h
 unfold gpower_L1 at h
 refine G ?_
 refine zc h (fun _ h=>?_) (fun _ h=>G ?_)
 obtain⟨q1,h⟩:=h
 refine G ?_
 refine wL (OpA.remN rfl rfl rfl q1 ?_)
 refine G ?_
 refine zc h (fun _ h=>?_) (fun _ h=>?_)
 obtain⟨q1,q2,q3,q4,h⟩:=h
 refine G ?_
 refine wL (oC (gmul_c out square q1 q2 q3 q4) ?_)
 obtain⟨q1,q2,h⟩:=h
 refine G ?_
 refine wL (oC (gmul_c square square q1 q2 q1 q2) ?_)
 obtain⟨q1,h⟩:=h
 refine G ?_
 refine wL (OpA.quoN rfl rfl rfl q1 ?_)
 refine G ?_
 exact⟨(),((n1 / 2),(mulP out square),(mulP square square)),h,cvZ,(.refl _)⟩
 obtain⟨q1,q2,h⟩:=h
 refine G ?_
 refine wL (oC (gmul_c square square q1 q2 q1 q2) ?_)
 obtain⟨q1,h⟩:=h
 refine G ?_
 refine wL (OpA.quoN rfl rfl rfl q1 ?_)
 refine G ?_
 exact⟨(),((n1 / 2),out,(mulP square square)),h,cvZ,(.refl _)⟩
 exact zr h
theorem gpush_c (hash:Int)(word:ByteArray)(hp0:(0:Int)<=hash)(hp1:hash<PR)(hp2:word.size<=1000000):Fun false Tryz.prog 215 [D.i hash,D.s word] (fun d=>d=D.i (pushF hash word)):=by
 refine fB Tryz.func215 Tryz.ntmps215 (gpush_ok hash word _ hp0 hp1 hp2 rfl) fun Q h=>?_
 unfold gpush_vc at h
 obtain⟨q1,q2,q3,q4,q5,q6,q7,q8,q9,q10,q11,q12,q13,h⟩:=h
 refine G ?_
 refine wL (oC (gmul_c 1000003 hash q1 q2 q3 q4) ?_)
 refine G ?_
 refine wL (oC (gcode_c word q5) ?_)
 refine wL (oC (gadd_c (codeF word) 1 q6 q7 q8 q9) ?_)
 refine wL (oC (gadd_c (mulP 1000003 hash) (addP (codeF word) 1) q10 q11 q12 q13) ?_)
 refine G ?_
 exact zr h
theorem ghash_c (l:(List Lexeme))(hp0:okW l):Fun false Tryz.prog 179 [(zai 2 zau) l] (fun d=>d=D.i (hashF l)):=by
 refine fB Tryz.func179 Tryz.ntmps179 (ghash_ok l _ hp0 rfl) fun Q h=>?_
 unfold ghash_vc at h
 refine G ?_
 refine zl h () (fun gg ss=> [(2,D.i 0),(3,D.i ss.1),(6,(zai 2 zau) l),(7,D.i (l.length:Int)),(8,D.i ss.2)]) (fun gg ss=> []) ?_
 rintro again1 _ ⟨h_,x⟩ h
 dsimp only at h
 unfold ghash_L1 at h
 refine G ?_
 refine zc h (fun _ h=>?_) (fun _ h=>G ?_)
 obtain⟨q1,h⟩:=h
 refine G ?_
 refine wL (oIx (enc:=zau) ts24 q1 ?_)
 refine G ?_
 refine wL (oA 2 (zau (Lexeme.mk ByteArray.empty 0)) tz30 (fun c3 _=>?_))
 refine G ?_
 obtain⟨q1,q2,q3,h⟩:=h
 refine G ?_
 refine wL (oC (gpush_c h_ ((gi l x).text) q1 q2 q3) ?_)
 obtain⟨q1,h⟩:=h
 refine G ?_
 exact⟨(),((pushF h_ ((gi l x).text)),(x+1)),h,cvZ,(.cons _ (.refl _))⟩
 exact zr h
theorem groll_c (hash:Int)(out:ByteArray)(in_:ByteArray)(top:Int)(hp0:(0:Int)<=hash)(hp1:hash<PR)(hp2:out.size<=1000000)(hp3:in_.size<=1000000)(hp4:(0:Int)<=top)(hp5:top<PR):Fun false Tryz.prog 181 [D.i hash,D.s out,D.s in_,D.i top] (fun d=>d=D.i (rollF hash out in_ top)):=by
 refine fB Tryz.func181 Tryz.ntmps181 (groll_ok hash out in_ top _ hp0 hp1 hp2 hp3 hp4 hp5 rfl) fun Q h=>?_
 unfold groll_vc at h
 obtain⟨q1,q2,q3,q4,q5,q6,q7,q8,q9,h⟩:=h
 refine G ?_
 refine wL (oC (gcode_c out q1) ?_)
 refine wL (oC (gadd_c (codeF out) 1 q2 q3 q4 q5) ?_)
 refine G ?_
 refine wL (oC (gmul_c (addP (codeF out) 1) top q6 q7 q8 q9) ?_)
 obtain⟨q1,q2,q3,q4,q5,q6,q7,q8,h⟩:=h
 refine G ?_
 refine wL (oC (gadd_c hash (2305843009213693951-(mulP (addP (codeF out) 1) top)) q2 q3 q4 q5) ?_)
 refine G ?_
 refine wL (oC (gpush_c (addP hash (2305843009213693951-(mulP (addP (codeF out) 1) top))) in_ q6 q7 q8) ?_)
 refine G ?_
 exact zr h
theorem ggrams_c (l:(List Lexeme))(k:Int)(hp0:okW l):Fun false Tryz.prog 158 [(zai 2 zau) l,D.i k] (fun d=>d= .tup [(zai 1 D.i) ((zbt l k).1),D.i ((zbt l k).2)]):=by
 refine fB Tryz.func158 Tryz.ntmps158 (v:=zbt l k) (enc:=fun r=> .tup [(zai 1 D.i) (r.1),D.i (r.2)]) (ggrams_ok l k _ hp0 rfl) fun Q h=>?_
 unfold ggrams_vc at h
 iterate 8 refine g ?_
 refine zav (asg [(0,(zai 2 zau) l),(1,D.i k),(4,.v (.slice none 0 0)),(5,D.i 0),(10,D.b ((decide (k<1))||(decide (k>8192))))]) [] ?_ ?_
 refine G ?_
 refine zp 13 (fun b10=>G ?_) (fun b10=>?_)
 exact⟨(cvB (orS b10)),(.refl _)⟩
 refine G ?_
 exact⟨(cvB (orN b10 rfl)),(.refl _)⟩
 refine zc h (fun _ h=>G ?_) (fun _ h=>G ?_)
 exact⟨_,(.tmp (d:= .v (.slice none 0 0)) rfl (.tmp (d:=D.i 3) rfl .nil)),_,(.tup (.nilv (sz:=1) (.same rfl .nil)) .nil),⟨([],3),rfl,h⟩⟩
 refine zc h (fun _ h=>G ?_) (fun _ h=>G ?_)
 exact⟨_,(.tmp (d:= .v (.slice none 0 0)) rfl (.tmp (d:=D.i 10) rfl .nil)),_,(.tup (.nilv (sz:=1) (.same rfl .nil)) .nil),⟨([],10),rfl,h⟩⟩
 refine zc h (fun _ h=>G ?_) (fun _ h=>?_)
 exact⟨_,(.tmp (d:= .v (.slice none 0 0)) rfl (.tmp (d:=D.i 0) rfl .nil)),_,(.tup (.nilv (sz:=1) (.same rfl .nil)) .nil),⟨([],0),rfl,h⟩⟩
 obtain⟨q1,q2,h⟩:=h
 refine G ?_
 refine wL (OpA.isliceV (enc:=zau) rfl ts24 rfl (.none _) (.some rfl) q1 ?_)
 refine wL (oC (ghash_c (zbc l 0 k) q2) ?_)
 refine wL (OpA.buildSliceV (enc:=D.i) (xs:=([(hashF (zbc l 0 k))]:List Int)) rfl ts41 rfl (.cons (.of (sz:=1) rfl) .nil) (by decide) rfl (fun c4=>?_))
 obtain⟨q1,q2,q3,h⟩:=h
 refine G ?_
 refine wL (oC (gpower_c (k-1) q2 q3) ?_)
 obtain⟨q1,h⟩:=h
 refine G ?_
 refine wL (OpA.isliceV (enc:=zau) rfl ts24 rfl (.some rfl) (.none _) q1 ?_)
 refine G ?_
 refine zl h (c4,([]:List D),([]:List D)) (fun gg ss=> [(0,(zai 2 zau) l),(4,.v (.slice none 0 0)),(5,D.i 0),(6,.own gg.1 1 gg.2.1.length ss.1.length),(7,D.i (powF (k-1))),(36,(zai 2 zau) (zbc l k (l.length:Int))),(37,D.i ((zbc l k (l.length:Int)).length:Int)),(38,D.i ss.2)]) (fun gg ss=> [(gg.1,.cells 1 (zas D.i gg.2.1 ss.1 gg.2.2))]) ?_
 rintro again5 ⟨cb30,pre30,post30⟩ ⟨out,x⟩ h
 dsimp only at h
 unfold ggrams_L1 at h
 refine G ?_
 refine zc h (fun _ h=>?_) (fun _ h=>G ?_)
 obtain⟨q1,h⟩:=h
 refine G ?_
 refine wL (oIx (enc:=zau) ts24 q1 ?_)
 refine G ?_
 refine wL (oA 2 (zau (Lexeme.mk ByteArray.empty 0)) tz30 (fun c7 _=>?_))
 iterate 2 refine g ?_
 obtain⟨q1,q2,q3,q4,q5,q6,q7,q8,q9,h⟩:=h
 refine g ?_
 refine zbf (m:=15) mo zK rfl ?_
 refine G ?_
 refine dL (oIv ts41 q1 oR) ?_
 refine dL (OpA.load rfl ti3 rfl (.tail .head) (getV (enc:=D.i) q1) rfl oR) ?_
 refine G ?_
 refine dL (oIx (enc:=zau) ts24 q2 oR) ?_
 refine G ?_
 refine dL (oC (groll_c (gi out x) ((gi l x).text) ((gi (zbc l k (l.length:Int)) x).text) (powF (k-1)) q3 q4 q5 q6 q7 q8) oR) ?_
 refine dL (OpA.ibuildSliceO rfl ts41 rfl (.cons (.of (sz:=1) rfl) .nil) (by decide) oR) ?_
 refine DetK.nil ?_
 refine wL (OpA.appendW (enc:=D.i) rfl rfl rfl rfl ts41 rfl (fun _ _=>(.tail .head)) (.list (ys:=([(rollF (gi out x) ((gi l x).text) ((gi (zbc l k (l.length:Int)) x).text) (powF (k-1)))]:List Int))) q9 (fun c8 pre9=>?_))
 obtain⟨q1,h⟩:=h
 refine G ?_
 exact⟨(c8,pre9,([]:List D)),((out++([(rollF (gi out x) ((gi l x).text) ((gi (zbc l k (l.length:Int)) x).text) (powF (k-1)))]:List Int)),(x+1)),h,cvZ,(.cons _ (.refl _))⟩
 exact⟨_,(.tmp (d:= .own cb30 1 pre30.length out.length) rfl (.tmp (d:=D.i 0) rfl .nil)),_,(.tup (.win .head (by intro hf; cases hf) (.same rfl .nil)) .nil),⟨(out,0),rfl,h⟩⟩
theorem g24few_c (l:(List Lexeme)) :Fun false Tryz.prog 55 [(zai 2 zau) l] (fun d=>d=D.b (fewW l)):=by
 refine fB Tryz.func55 Tryz.ntmps55 (g24few_ok l _  rfl) fun Q h=>?_
 unfold g24few_vc at h
 refine G ?_
 refine zc h (fun _ h=>G ?_) (fun _ h=>G ?_)
 exact zr h
 refine zl h () (fun gg ss=> [(0,(zai 2 zau) l),(2,D.b false),(3,D.i ss)]) (fun gg ss=> []) ?_
 rintro again2 _ i h
 unfold g24few_L1 at h
 refine G ?_
 refine zc h (fun _ h=>?_) (fun _ h=>G ?_)
 obtain⟨q1,h⟩:=h
 refine G ?_
 refine wL (oIx (enc:=zau) ts24 q1 ?_)
 refine G ?_
 refine zc h (fun _ h=>G ?_) (fun _ h=>?_)
 exact zr h
 obtain⟨q1,h⟩:=h
 refine G ?_
 exact⟨(),(i+1),h,cvZ,(.refl _)⟩
 exact zr h
end Go.Proofs.YtkifpidbpoghlaaGreatDoor
set_option linter.all false
namespace Go.Proofs.YtkifpidbpoghlaaGreatDoor
open Go Go.Lic Go.Sort Go.Proofs
attribute [local irreducible] addF addP zaw badR behindF blankF checkF zbp zbx cmpB cmpI cmpL codeF countF fewTs fewW findC findT zbt growTF guarF hashF zbj insideF itoaF lenF lookF mergeF mul64F mulP newF ofF orF partF pathF postCmp postsF powF zak pushF rightL rollF zbu zbs zbh zad splitG zbi
theorem wsize_c (n:Int) :Fun false Tryz.prog 121 [D.i n] (fun d=>d=D.b (zbs n)):=by
 refine fB Tryz.func121 Tryz.ntmps121 (wsize_ok n _  rfl) fun Q h=>?_
 unfold wsize_vc at h
 iterate 5 refine g ?_
 refine zav (asg [(2,D.b ((decide (n>=1))&&(decide (n<=1024))))]) [] ?_ ?_
 refine G ?_
 refine zp 5 (fun b1=>G ?_) (fun b1=>?_)
 exact⟨(cvB (andN b1 rfl)),(.refl _)⟩
 refine G ?_
 exact⟨(cvB (andS b1)),(.refl _)⟩
 refine G ?_
 exact zr h
theorem wselect_c (l:(List Int))(w:Int)(hp0:l.length<=1000000):Fun false Tryz.prog 159 [(zai 1 D.i) l,D.i w] (fun d=>d= .tup [(zai 1 D.i) ((zbu l w).1),D.i ((zbu l w).2)]):=by
 refine fB Tryz.func159 Tryz.ntmps159 (v:=zbu l w) (enc:=fun r=> .tup [(zai 1 D.i) (r.1),D.i (r.2)]) (wselect_ok l w _ hp0 rfl) fun Q h=>?_
 unfold wselect_vc at h
 refine G ?_
 refine wL (oC (wsize_c w) ?_)
 refine G ?_
 refine zc h (fun _ h=>G ?_) (fun _ h=>G ?_)
 exact⟨_,(.tmp (d:= .v (.slice none 0 0)) rfl (.tmp (d:=D.i 3) rfl .nil)),_,(.tup (.nilv (sz:=1) (.same rfl .nil)) .nil),⟨([],3),rfl,h⟩⟩
 refine zc h (fun _ h=>G ?_) (fun _ h=>?_)
 exact⟨_,(.tmp (d:= .v (.slice none 0 0)) rfl (.tmp (d:=D.i 10) rfl .nil)),_,(.tup (.nilv (sz:=1) (.same rfl .nil)) .nil),⟨([],10),rfl,h⟩⟩
 iterate 3 refine g ?_
 refine wL (OpA.asnG (T:=Int) (enc:=D.i) (sz:=1) rfl rfl (fun c6_g3=>?_))
 refine wL (OpA.asnG (T:=Int) (enc:=D.i) (sz:=1) rfl rfl (fun c7_g4=>?_))
 refine G ?_
 refine zl h (c7_g4,([]:List D),([]:List D),c6_g3,([]:List D),([]:List D)) (fun gg ss=> [(0,(zai 1 D.i) l),(1,D.i w),(4,.v (.slice none 0 0)),(5,D.i 0),(6,.own gg.2.2.2.1 1 gg.2.2.2.2.1.length ss.2.1.length),(7,.own gg.1 1 gg.2.1.length ss.1.length),(18,D.i (l.length:Int)),(19,D.i ss.2.2)]) (fun gg ss=> [(gg.1,.cells 1 (zas D.i gg.2.1 ss.1 gg.2.2.1)),(gg.2.2.2.1,.cells 1 (zas D.i gg.2.2.2.2.1 ss.2.1 gg.2.2.2.2.2))]) ?_
 rintro again5 ⟨cb7,pre7,post7,cb6,pre6,post6⟩ ⟨list_,out,x⟩ h
 dsimp only at h
 unfold wselect_L1 at h
 refine G ?_
 refine zc h (fun _ h=>G ?_) (fun _ h=>G ?_)
 refine zl h (cb7,pre7,post7) (fun gg ss=> [(0,(zai 1 D.i) l),(1,D.i w),(4,.v (.slice none 0 0)),(5,D.i 0),(6,.own cb6 1 pre6.length out.length),(7,.own gg.1 1 gg.2.1.length ss.length),(8,D.i x),(18,D.i (l.length:Int)),(19,D.i x)]) (fun gg ss=> [(gg.1,.cells 1 (zas D.i gg.2.1 ss gg.2.2)),(cb6,.cells 1 (zas D.i pre6 out post6))]) ?_
 rintro again7 ⟨cb71,pre71,post71⟩ list_1 h
 unfold wselect_L2 at h
 obtain⟨q1,h⟩:=h
 iterate 2 refine g ?_
 refine zav (asg [(0,(zai 1 D.i) l),(1,D.i w),(4,.v (.slice none 0 0)),(5,D.i 0),(6,.own cb6 1 pre6.length out.length),(7,.own cb71 1 pre71.length list_1.length),(8,D.i x),(18,D.i (l.length:Int)),(19,D.i x),(40,D.b ((decide ((list_1.length:Int)>0))&&(decide ((gi l (gi list_1 ((list_1.length:Int)-1)))>=(gi l x)))))]) [(cb71,.cells 1 (zas D.i pre71 list_1 post71)),(cb6,.cells 1 (zas D.i pre6 out post6))] ?_ ?_
 refine zbf (m:=19) mo zK rfl ?_
 refine G ?_
 refine dL (OpA.len rfl rfl rfl rfl ts41.desc (.inr (.inl ⟨_,_,_,rfl⟩)) oR) ?_
 iterate 2 refine g ?_
 refine zbr (s:=25) rfl (fun b17=>?_) (fun b17=>?_)
 refine G ?_
 refine dG (OpA.len rfl rfl rfl rfl ts41.desc (.inr (.inl ⟨_,_,_,rfl⟩)) oR) ?_
 refine dG (oSb (q1 (decT b17)).1 oR) ?_
 refine dG (oIv ts41 (q1 (decT b17)).2.1 oR) ?_
 refine dG (OpA.load rfl ti3 rfl .head (getV (enc:=D.i) (q1 (decT b17)).2.1) rfl oR) ?_
 refine dG (oIx (enc:=D.i) ts41 (q1 (decT b17)).2.2.1 oR) ?_
 refine G ?_
 refine dG (oIx (enc:=D.i) ts41 (q1 (decT b17)).2.2.2 oR) ?_
 iterate 3 refine g ?_
 refine DetK.nil ?_
 refine G ?_
 exact⟨(cvB (andN b17 rfl)),(.refl _)⟩
 iterate 15 refine g ?_
 refine DetK.nil ?_
 refine G ?_
 exact⟨(cvB (andS b17)),(.refl _)⟩
 refine zc h (fun _ h=>?_) (fun _ h=>?_)
 obtain⟨q1,q2,h⟩:=h
 iterate 5 refine g ?_
 refine wL (OpA.len rfl rfl rfl rfl ts41.desc (.inr (.inl ⟨_,_,_,rfl⟩)) ?_)
 refine G ?_
 refine wL (OpA.sliceV (enc:=D.i) rfl ts41 rfl (.none _) (.some rfl) q2 .head ?_)
 refine G ?_
 exact⟨(cb71,(pre71++(list_1.take (Int.toNat 0)).map D.i),((list_1.drop (Int.toNat ((list_1.length:Int)-1))).map D.i++post71)),(zbc list_1 0 ((list_1.length:Int)-1)),h,cvZ,(.refl _)⟩
 obtain⟨q1,h⟩:=h
 refine G ?_
 refine wL (OpA.ibuildSliceO rfl ts41 rfl (.cons (.of (sz:=1) rfl) .nil) (by decide) ?_)
 refine wL (OpA.appendW (enc:=D.i) rfl rfl rfl rfl ts41 rfl (fun _ _=> .head) (.list (ys:=([x]:List Int))) q1 (fun c9 pre10=>?_))
 obtain⟨q1,q2,h⟩:=h
 refine G ?_
 refine wL (oIv ts41 q1 ?_)
 refine wL (OpA.load rfl ti3 rfl .head (getV (enc:=D.i) q1) rfl ?_)
 iterate 5 refine g ?_
 refine wpA_join (S:=(List Int)) (G:=List D×List D) (fun gg ss=>asg [(0,(zai 1 D.i) l),(1,D.i w),(4,.v (.slice none 0 0)),(5,D.i 0),(6,.own cb6 1 pre6.length out.length),(7,.own c9 1 gg.1.length ss.length),(8,D.i x),(18,D.i (l.length:Int)),(19,D.i x)]) (fun gg ss=> [(c9,.cells 1 (zas D.i gg.1 ss gg.2)),(cb6,.cells 1 (zas D.i pre6 out post6))]) (fun ss=>wselect_J1 w out x again5 ss) ?_ ?_
 refine zc h (fun _ h=>?_) (fun _ h=>G ?_)
 obtain⟨q1,h⟩:=h
 refine G ?_
 refine wL (OpA.sliceV (enc:=D.i) rfl ts41 rfl (.some rfl) (.none _) q1 .head ?_)
 refine G ?_
 exact⟨((pre10++((list_1++([x]:List Int)).take (Int.toNat 1)).map D.i),(((list_1++([x]:List Int)).drop (Int.toNat ((list_1++([x]:List Int)).length:Int))).map D.i++([]:List D))),(zbc (list_1++([x]:List Int)) 1 ((list_1++([x]:List Int)).length:Int)),h,cvZ,(.refl _)⟩
 exact⟨(pre10,([]:List D)),(list_1++([x]:List Int)),h,cvZ,(.refl _)⟩
 rintro⟨pre72,post72⟩ list_2 h
 have h:wselect_J1 w out x again5 list_2:=h
 unfold wselect_J1 at h
 obtain⟨q1,q2,h⟩:=h
 refine g ?_
 refine zav (asg [(0,(zai 1 D.i) l),(1,D.i w),(4,.v (.slice none 0 0)),(5,D.i 0),(6,.own cb6 1 pre6.length out.length),(7,.own c9 1 pre72.length list_2.length),(18,D.i (l.length:Int)),(19,D.i x),(79,D.b ((decide (x>=(w-1)))&&(((out.length:Int)==0)||((gi out ((out.length:Int)-1)) != (gi list_2 0)))))]) [(c9,.cells 1 (zas D.i pre72 list_2 post72)),(cb6,.cells 1 (zas D.i pre6 out post6))] ?_ ?_
 refine zbf (m:=21) mo zK rfl ?_
 iterate 5 refine g ?_
 refine zbr (s:=63) rfl (fun b14=>?_) (fun b14=>?_)
 refine G ?_
 refine dG (OpA.len rfl rfl rfl rfl ts41.desc (.inr (.inl ⟨_,_,_,rfl⟩)) oR) ?_
 iterate 2 refine g ?_
 refine zbr (s:=67) rfl (fun b15=>?_) (fun b15=>?_)
 iterate 12 refine g ?_
 refine DetK.nil ?_
 refine G ?_
 exact⟨(cvB (andN b14 (orS b15))),(.refl _)⟩
 refine G ?_
 refine dG (OpA.len rfl rfl rfl rfl ts41.desc (.inr (.inl ⟨_,_,_,rfl⟩)) oR) ?_
 refine dG (oSb ((q2 (decT b14)) (beqF b15)).1 oR) ?_
 refine dG (oIv ts41 ((q2 (decT b14)) (beqF b15)).2.1 oR) ?_
 refine dG (OpA.load rfl ti3 rfl (.tail .head) (getV (enc:=D.i) ((q2 (decT b14)) (beqF b15)).2.1) rfl oR) ?_
 refine G ?_
 refine dG (oIv ts41 ((q2 (decT b14)) (beqF b15)).2.2 oR) ?_
 refine dG (OpA.load rfl ti3 rfl .head (getV (enc:=D.i) ((q2 (decT b14)) (beqF b15)).2.2) rfl oR) ?_
 iterate 3 refine g ?_
 refine DetK.nil ?_
 refine G ?_
 exact⟨(cvB (andN b14 (orN b15 rfl))),(.refl _)⟩
 refine G ?_
 iterate 10 refine DetK.skipU rfl rfl rfl ?_
 iterate 2 refine g ?_
 refine DetK.nil ?_
 refine G ?_
 exact⟨(cvB (andS b14)),(.refl _)⟩
 refine zc h (fun _ h=>?_) (fun _ h=>?_)
 obtain⟨q1,q2,h⟩:=h
 refine G ?_
 refine wL (oIv ts41 q1 ?_)
 refine wL (OpA.load rfl ti3 rfl .head (getV (enc:=D.i) q1) rfl ?_)
 refine wL (OpA.ibuildSliceO rfl ts41 rfl (.cons (.of (sz:=1) rfl) .nil) (by decide) ?_)
 refine wL (OpA.appendW (enc:=D.i) rfl rfl rfl rfl ts41 rfl (fun _ _=>(.tail .head)) (.list (ys:=([(gi list_2 0)]:List Int))) q2 (fun c12 pre13=>?_))
 obtain⟨q1,h⟩:=h
 refine G ?_
 exact⟨(c9,pre72,post72,c12,pre13,([]:List D)),(list_2,(out++([(gi list_2 0)]:List Int)),(x+1)),h,cvZ,(.refl _)⟩
 obtain⟨q1,h⟩:=h
 refine G ?_
 exact⟨(c9,pre72,post72,cb6,pre6,post6),(list_2,out,(x+1)),h,cvZ,(.refl _)⟩
 exact⟨_,(.tmp (d:= .own cb6 1 pre6.length out.length) rfl (.tmp (d:=D.i 0) rfl .nil)),_,(.tup (.win (.tail .head) (by intro hf; cases hf) (.same rfl .nil)) .nil),⟨(out,0),rfl,h⟩⟩
theorem wprints_c (t:Text)(k:Int)(w:Int)(hp0:okT t):Fun false Tryz.prog 117 [zaa t,D.i k,D.i w] (fun d=>d= .tup [(zai 2 zbm) ((zak t k w).1),D.i ((zak t k w).2)]):=by
 refine fB Tryz.func117 Tryz.ntmps117 (v:=zak t k w) (enc:=fun r=> .tup [(zai 2 zbm) (r.1),D.i (r.2)]) (wprints_ok t k w _ hp0 rfl) fun Q h=>?_
 unfold wprints_vc at h
 refine G ?_
 refine wL (oB 2 (fun c1 _=>?_))
 obtain⟨q1,h⟩:=h
 refine G ?_
 refine wL (oC (nvalid_c t q1) ?_)
 refine G ?_
 refine zc h (fun _ h=>G ?_) (fun _ h=>?_)
 exact⟨_,(.tmp (d:= .v (.slice none 0 0)) rfl (.tmp (d:=D.i 1) rfl .nil)),_,(.tup (.nilv (sz:=2) (.same rfl .nil)) .nil),⟨([],1),rfl,h⟩⟩
 refine g ?_
 refine zav (asg [(1,D.i k),(2,D.i w),(3,.ptr c1 2 0 0),(6,.v (.slice none 0 0)),(7,D.i 0),(18,D.b ((!(zbs k))||(!(zbs w))))]) [(c1,.cells 2 [zaa t])] ?_ ?_
 refine G ?_
 refine wL (oC (wsize_c k) ?_)
 refine G ?_
 refine zp 22 (fun b11=>G ?_) (fun b11=>?_)
 exact⟨(cvB (orS b11)),(.refl _)⟩
 refine G ?_
 refine wG (oC (wsize_c w) ?_)
 refine G ?_
 exact⟨(cvB (orN b11 rfl)),(.refl _)⟩
 refine zc h (fun _ h=>G ?_) (fun _ h=>?_)
 exact⟨_,(.tmp (d:= .v (.slice none 0 0)) rfl (.tmp (d:=D.i 3) rfl .nil)),_,(.tup (.nilv (sz:=2) (.same rfl .nil)) .nil),⟨([],3),rfl,h⟩⟩
 obtain⟨q1,h⟩:=h
 refine G ?_
 refine wL (oC (ggrams_c t.words k q1) ?_)
 refine G ?_
 refine zc h (fun _ h=>G ?_) (fun _ h=>?_)
 exact⟨_,(.tmp (d:= .v (.slice none 0 0)) rfl (.tmp (d:=D.i ((zbt t.words k).2)) rfl .nil)),_,(.tup (.nilv (sz:=2) (.same rfl .nil)) .nil),⟨([],(zbt t.words k).2),rfl,h⟩⟩
 obtain⟨q1,h⟩:=h
 refine G ?_
 refine wL (oC (wselect_c ((zbt t.words k).1) w q1) ?_)
 refine G ?_
 refine zc h (fun _ h=>G ?_) (fun _ h=>?_)
 exact⟨_,(.tmp (d:= .v (.slice none 0 0)) rfl (.tmp (d:=D.i ((zbu ((zbt t.words k).1) w).2)) rfl .nil)),_,(.tup (.nilv (sz:=2) (.same rfl .nil)) .nil),⟨([],(zbu ((zbt t.words k).1) w).2),rfl,h⟩⟩
 iterate 3 refine g ?_
 refine wL (OpA.asnG (T:=Print) (enc:=zbm) (sz:=2) rfl rfl (fun c11_g6=>?_))
 refine G ?_
 refine zl h (c11_g6,([]:List D),([]:List D)) (fun gg ss=> [(6,.v (.slice none 0 0)),(7,D.i 0),(8,(zai 1 D.i) ((zbt t.words k).1)),(11,.own gg.1 2 gg.2.1.length ss.1.length),(46,(zai 1 D.i) ((zbu ((zbt t.words k).1) w).1)),(47,D.i (((zbu ((zbt t.words k).1) w).1).length:Int)),(48,D.i ss.2)]) (fun gg ss=> [(gg.1,.cells 2 (zas zbm gg.2.1 ss.1 gg.2.2)),(c1,.cells 2 [zaa t])]) ?_
 rintro again7 ⟨cb11,pre11,post11⟩ ⟨out,x⟩ h
 dsimp only at h
 unfold wprints_L1 at h
 refine G ?_
 refine zc h (fun _ h=>?_) (fun _ h=>G ?_)
 obtain⟨q1,h⟩:=h
 refine G ?_
 refine wL (oIx (enc:=D.i) ts41 q1 ?_)
 obtain⟨q1,q2,h⟩:=h
 refine G ?_
 refine wL (oIx (enc:=D.i) ts41 q1 ?_)
 refine G ?_
 refine wL (oU [.v (.int .i64 0),.v (.int .i64 0)] tp205 tz205 ?_)
 refine wL (OpA.ibuildSliceO rfl ts201 rfl (.cons (.of (sz:=2) rfl) .nil) (by decide) ?_)
 refine wL (OpA.appendW (enc:=zbm) rfl rfl rfl rfl ts201 rfl (fun _ _=> .head) (.list (ys:=([(Print.mk (gi ((zbt t.words k).1) (gi ((zbu ((zbt t.words k).1) w).1) x)) (gi ((zbu ((zbt t.words k).1) w).1) x))]:List Print))) q2 (fun c9 pre10=>?_))
 obtain⟨q1,h⟩:=h
 refine G ?_
 exact⟨(c9,pre10,([]:List D)),((out++([(Print.mk (gi ((zbt t.words k).1) (gi ((zbu ((zbt t.words k).1) w).1) x)) (gi ((zbu ((zbt t.words k).1) w).1) x))]:List Print)),(x+1)),h,cvZ,(.refl _)⟩
 exact⟨_,(.tmp (d:= .own cb11 2 pre11.length out.length) rfl (.tmp (d:=D.i 0) rfl .nil)),_,(.tup (.win .head (by intro hf; cases hf) (.same rfl .nil)) .nil),⟨(out,0),rfl,h⟩⟩
theorem wguar_c (k:Int)(w:Int) :Fun false Tryz.prog 77 [D.i k,D.i w] (fun d=>d= .tup [D.i ((guarF k w).1),D.i ((guarF k w).2)]):=by
 refine fB Tryz.func77 Tryz.ntmps77 (v:=guarF k w) (enc:=fun r=> .tup [D.i (r.1),D.i (r.2)]) (wguar_ok k w _  rfl) fun Q h=>?_
 unfold wguar_vc at h
 iterate 7 refine g ?_
 refine zav (asg [(0,D.i k),(1,D.i w),(4,D.i 0),(5,D.i 0),(13,D.b ((!(zbs k))||(!(zbs w))))]) [] ?_ ?_
 refine G ?_
 refine wL (oC (wsize_c k) ?_)
 refine G ?_
 refine zp 9 (fun b2=>G ?_) (fun b2=>?_)
 exact⟨(cvB (orS b2)),(.refl _)⟩
 refine G ?_
 refine wG (oC (wsize_c w) ?_)
 refine G ?_
 exact⟨(cvB (orN b2 rfl)),(.refl _)⟩
 refine zc h (fun _ h=>G ?_) (fun _ h=>?_)
 exact zr h
 obtain⟨q1,q2,h⟩:=h
 refine G ?_
 exact zr h
end Go.Proofs.YtkifpidbpoghlaaGreatDoor
set_option linter.all false
namespace Go.Proofs.YtkifpidbpoghlaaGreatDoor
open Go Go.Lic Go.Sort Go.Proofs
variable [Fl]
attribute [local irreducible] addF addP zaw badR behindF blankF checkF zbp zbx cmpB cmpI cmpL codeF countF fewTs fewW findC findT zbt growTF guarF hashF zbj insideF itoaF lenF lookF mergeF mul64F mulP newF ofF orF partF pathF postCmp postsF powF zak pushF rightL rollF zbu zbs zbh zad splitG zbi
theorem sortiP_c (data:(List Pst))(a:Int)(b:Int)(g_p:Nat)(fs_p cs_p:List D)(p:Pst->Pst->Int)(pD:Pst->Pst->Prop)(hen_p:entersB Tryz.prog g_p=true)(hg_p:∀ x0_ x1_,pD x0_ x1_->Fun false Tryz.prog g_p (fs_p++ [encPst x0_,encPst x1_]++cs_p) (fun d=>d=D.i (p x0_ x1_)))(hp0:data=([]:List Pst))(hp1:a=(0:Int))(hp2:b=(0:Int)):Fun false Tryz.prog 199 [(zai 3 encPst) data,D.i a,D.i b,.fn (.func g_p) fs_p cs_p] (fun d=>d= .tup []):=by
 refine fB Tryz.func199 Tryz.ntmps199 (v:=()) (enc:=fun r=> .tup []) (sortiP_ok data a b p pD _ hp0 hp1 hp2 rfl) fun Q h=>?_
 unfold sortiP_vc at h
 obtain⟨q1,h⟩:=h
 refine G ?_
 refine zl h () (fun gg ss=> [(0,(zai 3 encPst) data),(1,D.i a),(2,D.i b),(3,.fn (.func g_p) fs_p cs_p),(8,D.i ss)]) (fun gg ss=> []) ?_
 rintro again1 _ i h
 unfold sortiP_L1 at h
 refine G ?_
 refine zc h (fun _ h=>G ?_) (fun _ h=>G ?_)
 refine zl h () (fun gg ss=> [(0,(zai 3 encPst) data),(1,D.i a),(2,D.i b),(3,.fn (.func g_p) fs_p cs_p),(8,D.i i),(9,D.i i)]) (fun gg ss=> []) ?_
 rintro again3 _ _ h
 unfold sortiP_L2 at h
 obtain⟨q1,h⟩:=h
 iterate 2 refine g ?_
 refine zav (asg [(0,(zai 3 encPst) data),(1,D.i a),(2,D.i b),(3,.fn (.func g_p) fs_p cs_p),(8,D.i i),(9,D.i i),(34,D.b ((decide (i>a))&&(decide ((p (gi data i) (gi data (i-1)))<0))))]) [] ?_ ?_
 refine zbf (m:=17) mo zK rfl ?_
 iterate 4 refine g ?_
 refine zbr (s:=21) rfl (fun b5=>?_) (fun b5=>?_)
 refine G ?_
 refine dG (oIx (enc:=encPst) ts62 (q1 (decT b5)).1 oR) ?_
 refine G ?_
 refine dG (oSb (q1 (decT b5)).2.1 oR) ?_
 refine dG (oIx (enc:=encPst) ts62 (q1 (decT b5)).2.2.1 oR) ?_
 refine G ?_
 refine dG (OpA.call rfl rfl rfl hen_p (hg_p (gi data i) (gi data (i-1)) (q1 (decT b5)).2.2.2) (by rintro _ rfl; exact⟨rfl,rfl⟩)) ?_
 iterate 2 refine g ?_
 refine DetK.nil ?_
 refine G ?_
 exact⟨(cvB (andN b5 rfl)),(.refl _)⟩
 iterate 13 refine g ?_
 refine DetK.nil ?_
 refine G ?_
 exact⟨(cvB (andS b5)),(.refl _)⟩
 refine zc h (fun _ h=>?_) (fun _ h=>?_)
 exact h.elim
 obtain⟨q1,h⟩:=h
 refine G ?_
 exact⟨(),(i+1),h,cvZ,(.refl _)⟩
 exact⟨_,.nil,_,(.tup .nil .nil),⟨(),rfl,h⟩⟩
theorem sortpP_c (data:(List Pst))(a:Int)(b:Int)(limit:Int)(g_p:Nat)(fs_p cs_p:List D)(p:Pst->Pst->Int)(pD:Pst->Pst->Prop)(hen_p:entersB Tryz.prog g_p=true)(hg_p:∀ x0_ x1_,pD x0_ x1_->Fun false Tryz.prog g_p (fs_p++ [encPst x0_,encPst x1_]++cs_p) (fun d=>d=D.i (p x0_ x1_)))(hp0:data=([]:List Pst))(hp1:a=(0:Int))(hp2:b=(0:Int)):Fun false Tryz.prog 175 [(zai 3 encPst) data,D.i a,D.i b,D.i limit,.fn (.func g_p) fs_p cs_p] (fun d=>d= .tup []):=by
 refine fB Tryz.func175 Tryz.ntmps175 (v:=()) (enc:=fun r=> .tup []) (sortpP_ok data a b limit p pD _ hp0 hp1 hp2 rfl) fun Q h=>?_
 unfold sortpP_vc at h
 refine G ?_
 refine zl h () (fun gg ss=> [(0,(zai 3 encPst) data),(1,D.i a),(2,D.i b),(3,D.i limit),(4,.fn (.func g_p) fs_p cs_p),(10,D.b true),(11,D.b true)]) (fun gg ss=> []) ?_
 rintro again1 _ _ h
 unfold sortpP_L1 at h
 obtain⟨q1,h⟩:=h
 refine G ?_
 refine zc h (fun _ h=>?_) (fun _ h=>G ?_)
 obtain⟨q1,q2,q3,h⟩:=h
 refine G ?_
 refine wL (oC (sortiP_c data a b g_p fs_p cs_p p pD hen_p hg_p q1 q2 q3) ?_)
 refine G ?_
 exact⟨_,.nil,_,(.tup .nil .nil),⟨(),rfl,h⟩⟩
 refine zc h (fun _ h=>?_) (fun _ h=>?_)
 exact h.elim
 exact h.elim
theorem sort0P_c (x:(List Pst))(g_p:Nat)(fs_p cs_p:List D)(p:Pst->Pst->Int)(pD:Pst->Pst->Prop)(hen_p:entersB Tryz.prog g_p=true)(hg_p:∀ x0_ x1_,pD x0_ x1_->Fun false Tryz.prog g_p (fs_p++ [encPst x0_,encPst x1_]++cs_p) (fun d=>d=D.i (p x0_ x1_)))(hp0:x=([]:List Pst)):Fun false Tryz.prog 149 [(zai 3 encPst) x,.fn (.func g_p) fs_p cs_p] (fun d=>d= .tup []):=by
 refine fB Tryz.func149 Tryz.ntmps149 (v:=()) (enc:=fun r=> .tup []) (sort0P_ok x p pD _ hp0 rfl) fun Q h=>?_
 unfold sort0P_vc at h
 obtain⟨q1,q2,q3,q4,q5,h⟩:=h
 refine G ?_
 refine wL (OpA.conv rfl td3 td169 rfl ?_)
 refine wL (oC (len_c (IntKind.u64.wrap (x.length:Int)) q1 q2) ?_)
 refine G ?_
 refine wL (oC (sortpP_c x 0 (x.length:Int) (lenF (IntKind.u64.wrap (x.length:Int))) g_p fs_p cs_p p pD hen_p hg_p q3 q4 q5) ?_)
 refine G ?_
 exact⟨_,.nil,_,(.tup .nil .nil),⟨(),rfl,h⟩⟩
theorem ccompare_c (a:Pst)(b:Pst) :Fun false Tryz.prog 150 [encPst a,encPst b] (fun d=>d=D.i (postCmp a b)):=by
 refine fB Tryz.func150 Tryz.ntmps150 (ccompare_ok a b _  rfl) fun Q h=>?_
 unfold ccompare_vc at h
 refine G ?_
 refine wL (oB 3 (fun c1 _=>?_))
 refine wL (oB 3 (fun c2 _=>?_))
 obtain⟨q1,h⟩:=h
 iterate 3 refine g ?_
 refine zbf (m:=18) mo zK rfl ?_
 refine G ?_
 refine dL (oC (iCompare_c a.hash b.hash) oR) ?_
 refine G ?_
 refine dL (oC (iCompare_c a.text b.text) oR) ?_
 refine G ?_
 refine dL (oC (iCompare_c a.at_ b.at_) oR) ?_
 refine dL (OpA.ibuildSliceO rfl ts41 rfl (.cons (.of (sz:=1) rfl) (.cons (.of (sz:=1) rfl) (.cons (.of (sz:=1) rfl) .nil))) (by decide) oR) ?_
 refine dL (oC (or_c ([(cmpI a.hash b.hash),(cmpI a.text b.text),(cmpI a.at_ b.at_)]:List Int) q1) oR) ?_
 refine g ?_
 refine DetK.nil ?_
 refine G ?_
 exact zr h
end Go.Proofs.YtkifpidbpoghlaaGreatDoor
set_option linter.all false
namespace Go.Proofs.YtkifpidbpoghlaaGreatDoor
open Go Go.Lic Go.Sort Go.Proofs
attribute [local irreducible] addF addP zaw badR behindF blankF checkF zbp zbx cmpB cmpI cmpL codeF countF fewTs fewW findC findT zbt growTF guarF hashF zbj insideF itoaF lenF lookF mergeF mul64F mulP newF ofF orF partF pathF postCmp postsF powF zak pushF rightL rollF zbu zbs zbh zad splitG zbi
theorem csize_c (n:Int) :Fun false Tryz.prog 56 [D.i n] (fun d=>d=D.b (zbs n)):=by
 refine fB Tryz.func56 Tryz.ntmps56 (csize_ok n _  rfl) fun Q h=>?_
 unfold csize_vc at h
 iterate 5 refine g ?_
 refine zav (asg [(2,D.b ((decide (n>=1))&&(decide (n<=1024))))]) [] ?_ ?_
 refine G ?_
 refine zp 5 (fun b1=>G ?_) (fun b1=>?_)
 exact⟨(cvB (andN b1 rfl)),(.refl _)⟩
 refine G ?_
 exact⟨(cvB (andS b1)),(.refl _)⟩
 refine G ?_
 exact zr h
theorem cposts_c (texts:(List Text))(k:Int)(w:Int)(hp0:okTs texts):Fun false Tryz.prog 106 [(zai 2 zaa) texts,D.i k,D.i w] (fun d=>d=(zai 3 encPst) (postsF texts k w)):=by
 refine fB Tryz.func106 Tryz.ntmps106 (cposts_ok texts k w _ hp0 rfl) fun Q h=>?_
 unfold cposts_vc at h
 iterate 6 refine g ?_
 refine wL (OpA.asnG (T:=Pst) (enc:=encPst) (sz:=3) rfl rfl (fun c7_g1=>?_))
 refine G ?_
 refine zl h (c7_g1,([]:List D),([]:List D)) (fun gg ss=> [(1,D.i k),(2,D.i w),(6,.v (.slice none 0 0)),(7,.own gg.1 3 gg.2.1.length ss.1.length),(14,(zai 2 zaa) texts),(15,D.i (texts.length:Int)),(16,D.i ss.2)]) (fun gg ss=> [(gg.1,.cells 3 (zas encPst gg.2.1 ss.1 gg.2.2))]) ?_
 rintro again2 ⟨cb7,pre7,post7⟩ ⟨out,x⟩ h
 dsimp only at h
 unfold cposts_L1 at h
 refine G ?_
 refine zc h (fun _ h=>?_) (fun _ h=>?_)
 obtain⟨q1,h⟩:=h
 refine G ?_
 refine wL (oIx (enc:=zaa) ts61 q1 ?_)
 refine G ?_
 refine wL (oA 2 (.agg ([D.s ByteArray.empty,.v (.slice none 0 0)])) tz57 (fun c4 _=>?_))
 refine G ?_
 obtain⟨q1,h⟩:=h
 refine G ?_
 refine wL (oC (wprints_c (gi texts x) k w q1) ?_)
 refine G ?_
 refine zl h (cb7,pre7,post7) (fun gg ss=> [(1,D.i k),(2,D.i w),(6,.v (.slice none 0 0)),(7,.own gg.1 3 gg.2.1.length ss.1.length),(8,D.i x),(14,(zai 2 zaa) texts),(15,D.i (texts.length:Int)),(16,D.i x),(28,(zai 2 zbm) ((zak (gi texts x) k w).1)),(29,D.i (((zak (gi texts x) k w).1).length:Int)),(30,D.i ss.2)]) (fun gg ss=> [(c4,.cells 2 [zaa (gi texts x)]),(gg.1,.cells 3 (zas encPst gg.2.1 ss.1 gg.2.2))]) ?_
 rintro again5 ⟨cb71,pre71,post71⟩ ⟨out1,x1⟩ h
 dsimp only at h
 unfold cposts_L2 at h
 refine G ?_
 refine zc h (fun _ h=>?_) (fun _ h=>?_)
 obtain⟨q1,h⟩:=h
 refine G ?_
 refine wL (oIx (enc:=zbm) ts201 q1 ?_)
 refine G ?_
 refine wL (oA 2 (zbm (Print.mk 0 0)) tz205 (fun c7 _=>?_))
 refine G ?_
 obtain⟨q1,h⟩:=h
 refine G ?_
 refine wL (oU [.v (.int .i64 0),.v (.int .i64 0),.v (.int .i64 0)] tp180 tz180 ?_)
 refine wL (OpA.ibuildSliceO rfl ts62 rfl (.cons (.of (sz:=3) rfl) .nil) (by decide) ?_)
 refine wL (OpA.appendW (enc:=encPst) rfl rfl rfl rfl ts62 rfl (fun _ _=>(.tail (.tail .head))) (.list (ys:=([(Pst.mk ((gi ((zak (gi texts x) k w).1) x1).hash) x ((gi ((zak (gi texts x) k w).1) x1).at_))]:List Pst))) q1 (fun c8 pre9=>?_))
 obtain⟨q1,h⟩:=h
 refine G ?_
 exact⟨(c8,pre9,([]:List D)),((out1++([(Pst.mk ((gi ((zak (gi texts x) k w).1) x1).hash) x ((gi ((zak (gi texts x) k w).1) x1).at_))]:List Pst)),(x1+1)),h,cvZ,(.cons _ (.refl _))⟩
 obtain⟨q1,h⟩:=h
 refine G ?_
 exact⟨(cb71,pre71,post71),(out1,(x+1)),h,cvZ,(.cons _ (.refl _))⟩
 obtain⟨q1,h⟩:=h
 refine G ?_
 refine wL (OpA.sortW (enc:=encPst) (encV:=valPst) Tryz.sortPost Tryz.isAgg180 Tryz.sizeOf180 (fun _=>rfl) valPst_one (fun _=>rfl) (cf:=postCmp) (xs:=out) rfl rfl rfl rfl zK rfl rfl rfl zK (fun a b=> @ccompare_c flYes a b) (sort0P_c [] 150 [] [] postCmp (fun _ _=>True) zK (fun a b _=>ccompare_c a b) rfl) q1 .head ?_)
 iterate 6 refine g ?_
 refine wpA_cov (fr0:=asg [(1,D.i k),(2,D.i w),(6,.own cb7 3 pre7.length (sortF postCmp out).length),(7,.own cb7 3 pre7.length (sortF postCmp out).length),(14,(zai 2 zaa) texts),(15,D.i (texts.length:Int)),(16,D.i x),(17,D.b (decide (x<(texts.length:Int)))),(45,.own cb7 3 pre7.length (sortF postCmp out).length),(46,.tup []),(47,.own cb7 3 pre7.length (sortF postCmp out).length)]) (Cov.asg ⟨rfl,rfl,(congrArg (D.own cb7 3 pre7.length) (by simp only [zan,zah,zac zam,zac zaf,zac zal]<;>rfl)),(congrArg (D.own cb7 3 pre7.length) (by simp only [zan,zah,zac zam,zac zaf,zac zal]<;>rfl)),rfl,rfl,rfl,rfl,(congrArg (D.own cb7 3 pre7.length) (by simp only [zan,zah,zac zam,zac zaf,zac zal]<;>rfl)),rfl,(congrArg (D.own cb7 3 pre7.length) (by simp only [zan,zah,zac zam,zac zaf,zac zal]<;>rfl)),trivial⟩) ?_
 refine G ?_
 exact⟨_,(.tmp (d:= .own cb7 3 pre7.length (sortF postCmp out).length) rfl .nil),_,(.win .head (by intro hf; cases hf) .nil),⟨(sortF postCmp out),rfl,h⟩⟩
theorem eqPosts_c (s1:(List Pst))(s2:(List Pst))(hp0:s1.length<=9223372036854775807):Fun false Tryz.prog 105 [(zai 3 encPst) s1,(zai 3 encPst) s2] (fun d=>d=D.b ((decide (s1=s2)))):=by
 refine fB Tryz.func105 Tryz.ntmps105 (eqPosts_ok s1 s2 _ hp0 rfl) fun Q h=>?_
 unfold eqPosts_vc at h
 refine G ?_
 refine zc h (fun _ h=>G ?_) (fun _ h=>G ?_)
 exact zr h
 refine zl h () (fun gg ss=> [(0,(zai 3 encPst) s1),(1,(zai 3 encPst) s2),(4,D.b false),(12,D.i (s1.length:Int)),(13,D.i ss)]) (fun gg ss=> []) ?_
 rintro again2 _ x h
 unfold eqPosts_L1 at h
 refine G ?_
 refine zc h (fun _ h=>?_) (fun _ h=>G ?_)
 obtain⟨q1,q2,h⟩:=h
 iterate 9 refine g ?_
 refine zbf (m:=9) mo zK rfl ?_
 refine G ?_
 refine dL (oIx (enc:=encPst) ts62 q1 oR) ?_
 refine G ?_
 refine dL (oIx (enc:=encPst) ts62 q2 oR) ?_
 refine G ?_
 refine dL (OpA.structcmp (xs:= [.int .i64 ((gi s1 x).hash),.int .i64 ((gi s1 x).text),.int .i64 ((gi s1 x).at_)]) (ys:= [.int .i64 ((gi s2 x).hash),.int .i64 ((gi s2 x).text),.int .i64 ((gi s2 x).at_)]) (r:=(eqPst (gi s1 x) (gi s2 x))) rfl eg180 su180.1 su180.2.1 su180.2.2 rfl rfl (.int td3 ti3 rfl rfl (.int td3 ti3 rfl rfl (.int td3 ti3 rfl rfl .nil))) (.inr ⟨rfl,rfl⟩) oR) ?_
 refine DetK.nil ?_
 refine G ?_
 refine zc h (fun _ h=>G ?_) (fun _ h=>?_)
 exact zr h
 obtain⟨q1,h⟩:=h
 refine G ?_
 exact⟨(),(x+1),h,cvZ,(.refl _)⟩
 exact zr h
theorem ccheck_c (c:Corpus)(hp0:okC c):Fun false Tryz.prog 57 [zao c] (fun d=>d=D.i (checkF c)):=by
 refine fB Tryz.func57 Tryz.ntmps57 (ccheck_ok c _ hp0 rfl) fun Q h=>?_
 unfold ccheck_vc at h
 refine G ?_
 refine wL (oB 4 (fun c1 _=>?_))
 iterate 5 refine g ?_
 refine zav (asg [(1,.ptr c1 4 0 0),(2,D.i 0),(5,D.b ((!(zbs c.k))||(!(zbs c.w))))]) [(c1,.cells 4 [zao c])] ?_ ?_
 refine G ?_
 refine wL (oC (csize_c c.k) ?_)
 refine G ?_
 refine zp 10 (fun b11=>G ?_) (fun b11=>?_)
 exact⟨(cvB (orS b11)),(.refl _)⟩
 refine G ?_
 refine wG (oC (csize_c c.w) ?_)
 refine G ?_
 exact⟨(cvB (orN b11 rfl)),(.refl _)⟩
 refine zc h (fun _ h=>G ?_) (fun _ h=>G ?_)
 exact zr h
 refine zc h (fun _ h=>G ?_) (fun _ h=>G ?_)
 exact zr h
 refine zl h () (fun gg ss=> [(1,.ptr c1 4 0 0),(2,D.i 0),(22,(zai 2 zaa) c.texts),(23,D.i (c.texts.length:Int)),(24,D.i ss)]) (fun gg ss=> [(c1,.cells 4 [zao c])]) ?_
 rintro again4 _ x h
 unfold ccheck_L1 at h
 refine G ?_
 refine zc h (fun _ h=>?_) (fun _ h=>?_)
 obtain⟨q1,h⟩:=h
 refine G ?_
 refine wL (oIx (enc:=zaa) ts61 q1 ?_)
 refine G ?_
 refine wL (oA 2 (.agg ([D.s ByteArray.empty,.v (.slice none 0 0)])) tz57 (fun c6 _=>?_))
 refine G ?_
 obtain⟨q1,h⟩:=h
 refine G ?_
 refine wL (oC (nvalid_c (gi c.texts x) q1) ?_)
 refine G ?_
 refine zc h (fun _ h=>G ?_) (fun _ h=>?_)
 exact zr h
 obtain⟨q1,h⟩:=h
 refine g ?_
 refine zav (asg [(1,.ptr c1 4 0 0),(2,D.i 0),(22,(zai 2 zaa) c.texts),(23,D.i (c.texts.length:Int)),(24,D.i x),(33,D.b ((decide (x>0))&&(sless ((gi c.texts x).path) ((gi c.texts (x-1)).path)||decide ((gi c.texts x).path=(gi c.texts (x-1)).path))))]) [(c6,.cells 2 [zaa (gi c.texts x)]),(c1,.cells 4 [zao c])] ?_ ?_
 refine zbf (m:=15) mo zK rfl ?_
 iterate 3 refine g ?_
 refine zbr (s:=36) rfl (fun b9=>?_) (fun b9=>?_)
 refine G ?_
 refine dG (oSb (q1 (decT b9)).1 oR) ?_
 refine dG (oIx (enc:=zaa) ts61 (q1 (decT b9)).2 oR) ?_
 refine G ?_
 refine dG (OpA.sleq rfl rfl rfl oR) ?_
 iterate 2 refine g ?_
 refine DetK.nil ?_
 refine G ?_
 exact⟨(cvB (andN b9 rfl)),(.refl _)⟩
 iterate 12 refine g ?_
 refine DetK.nil ?_
 refine G ?_
 exact⟨(cvB (andS b9)),(.refl _)⟩
 refine zc h (fun _ h=>G ?_) (fun _ h=>?_)
 exact zr h
 obtain⟨q1,h⟩:=h
 refine G ?_
 exact⟨(),(x+1),h,cvZ,(.cons _ (.refl _))⟩
 obtain⟨q1,q2,h⟩:=h
 iterate 3 refine g ?_
 refine zbf (m:=11) mo zK rfl ?_
 refine G ?_
 refine dL (oC (cposts_c c.texts c.k c.w q1) oR) ?_
 refine dL (oC (eqPosts_c c.posts (postsF c.texts c.k c.w) q2) oR) ?_
 refine g ?_
 refine DetK.nil ?_
 refine G ?_
 refine zc h (fun _ h=>G ?_) (fun _ h=>G ?_)
 exact zr h
 exact zr h
theorem cnew_c (k:Int)(w:Int) :Fun false Tryz.prog 20 [D.i k,D.i w] (fun d=>d= .tup [zao ((newF k w).1),D.i ((newF k w).2)]):=by
 refine fB Tryz.func20 Tryz.ntmps20 (v:=newF k w) (enc:=fun r=> .tup [zao (r.1),D.i (r.2)]) (cnew_ok k w _  rfl) fun Q h=>?_
 unfold cnew_vc at h
 refine G ?_
 refine wL (oA 4 (.agg ([D.i 0,D.i 0,.v (.slice none 0 0),.v (.slice none 0 0)])) tz64 (fun c1 _=>?_))
 iterate 4 refine g ?_
 refine zav (asg [(0,D.i k),(1,D.i w),(4,.ptr c1 4 0 0),(5,D.i 0),(13,D.b ((!(zbs k))||(!(zbs w))))]) [(c1,.cells 4 [.agg ([D.i 0,D.i 0,.v (.slice none 0 0),.v (.slice none 0 0)])])] ?_ ?_
 refine G ?_
 refine wL (oC (csize_c k) ?_)
 refine G ?_
 refine zp 9 (fun b3=>G ?_) (fun b3=>?_)
 exact⟨(cvB (orS b3)),(.refl _)⟩
 refine G ?_
 refine wG (oC (csize_c w) ?_)
 refine G ?_
 exact⟨(cvB (orN b3 rfl)),(.refl _)⟩
 refine zc h (fun _ h=>G ?_) (fun _ h=>G ?_)
 refine wL (oU [.v (.int .i64 0),.v (.int .i64 0),.v (.slice none 0 0),.v (.slice none 0 0)] tp64 tz64 ?_)
 refine G ?_
 exact⟨_,(.cell (.whole ti64 rfl rfl .head rfl ⟨_,rfl⟩) (.tmp (d:=D.i 3) rfl .nil)),_,(.tup (.agg (.same rfl (.same rfl (.nilv (sz:=2) (.nilv (sz:=3) .nil)))) (.same rfl .nil)) .nil),⟨((Corpus.mk 0 0 [] []),3),rfl,h⟩⟩
 refine wL (oU [.v (.int .i64 0),.v (.int .i64 0),.v (.slice none 0 0),.v (.slice none 0 0)] tp64 tz64 ?_)
 refine G ?_
 exact⟨_,(.cell (.whole ti64 rfl rfl .head rfl ⟨_,rfl⟩) (.tmp (d:=D.i 0) rfl .nil)),_,(.tup (.agg (.same rfl (.same rfl (.nilv (sz:=2) (.nilv (sz:=3) .nil)))) (.same rfl .nil)) .nil),⟨((Corpus.mk k w [] []),0),rfl,h⟩⟩
end Go.Proofs.YtkifpidbpoghlaaGreatDoor
set_option linter.all false
namespace Go.Proofs.YtkifpidbpoghlaaGreatDoor
open Go Go.Lic Go.Sort Go.Proofs
attribute [local irreducible] addF addP zaw badR behindF blankF checkF zbp zbx cmpB cmpI cmpL codeF countF fewTs fewW findC findT zbt growTF guarF hashF zbj insideF itoaF lenF lookF mergeF mul64F mulP newF ofF orF partF pathF postCmp postsF powF zak pushF rightL rollF zbu zbs zbh zad splitG zbi
theorem cfind1_c (t:Text)(p:ByteArray) :Fun false Tryz.prog 109 [zaa t,D.s p] (fun d=>d=D.i ((cmpB t.path p))):=by
 refine fB Tryz.func109 Tryz.ntmps109 (cfind1_ok t p _  rfl) fun Q h=>?_
 unfold cfind1_vc at h
 refine G ?_
 refine wL (oB 2 (fun c1 _=>?_))
 refine G ?_
 refine wL (oC (sCompare_c t.path p) ?_)
 refine G ?_
 exact zr h
theorem cbsearch_c (x:(List Text))(target:ByteArray)(g_p:Nat)(fs_p cs_p:List D)(p:Text->ByteArray->Int)(pD:Text->ByteArray->Prop)(hen_p:entersB Tryz.prog g_p=true)(hg_p:∀ x0_ x1_,pD x0_ x1_->Fun false Tryz.prog g_p (fs_p++ [zaa x0_,D.s x1_]++cs_p) (fun d=>d=D.i (p x0_ x1_)))(hp0:x.length<=1000000)(hp1:x.Pairwise TLt)(hp2:∀ y_ z_,p y_ z_=cmpB y_.path z_)(hp3:∀ y_ z_,pD y_ z_):Fun false Tryz.prog 108 [(zai 2 zaa) x,D.s target,.fn (.func g_p) fs_p cs_p] (fun d=>d= .tup [D.i (((findT x target)).1),D.b (((findT x target)).2)]):=by
 refine fB Tryz.func108 Tryz.ntmps108 (v:=(findT x target)) (enc:=fun r=> .tup [D.i (r.1),D.b (r.2)]) (cbsearch_ok x target p pD _ hp0 hp1 hp2 hp3 rfl) fun Q h=>?_
 unfold cbsearch_vc at h
 refine G ?_
 refine zl h () (fun gg ss=> [(0,(zai 2 zaa) x),(1,D.s target),(2,.fn (.func g_p) fs_p cs_p),(6,D.i 0),(7,D.b false),(8,D.i (x.length:Int)),(9,D.i ss.1),(10,D.i ss.2)]) (fun gg ss=> []) ?_
 rintro again1 _ ⟨i,j⟩ h
 dsimp only at h
 unfold cbsearch_L1 at h
 refine G ?_
 refine zc h (fun _ h=>?_) (fun _ h=>?_)
 obtain⟨q1,q2,h⟩:=h
 refine G ?_
 refine wL (OpA.conv rfl td3 td169 rfl ?_)
 refine wL (OpA.shr rfl rfl rfl q2 ?_)
 refine wL (OpA.conv rfl td169 td3 rfl ?_)
 obtain⟨q1,q2,h⟩:=h
 refine G ?_
 refine wL (oIx (enc:=zaa) ts61 q1 ?_)
 refine G ?_
 refine wL (OpA.call rfl rfl rfl hen_p (hg_p (gi x (IntKind.i64.wrap (gshr .u64 (IntKind.u64.wrap (i+j)) 1))) target q2) ?_)
 rintro _ rfl
 refine G ?_
 refine zc h (fun _ h=>?_) (fun _ h=>G ?_)
 obtain⟨q1,h⟩:=h
 refine G ?_
 exact⟨(),(((IntKind.i64.wrap (gshr .u64 (IntKind.u64.wrap (i+j)) 1))+1),j),h,cvZ,(.refl _)⟩
 exact⟨(),(i,(IntKind.i64.wrap (gshr .u64 (IntKind.u64.wrap (i+j)) 1))),h,cvZ,(.refl _)⟩
 obtain⟨q1,h⟩:=h
 iterate 2 refine g ?_
 refine zav (asg [(6,D.i i),(7,D.b ((decide (i<(x.length:Int)))&&((p (gi x i) target)==0)))]) [] ?_ ?_
 refine G ?_
 refine zp 39 (fun b4=>G ?_) (fun b4=>?_)
 refine wG (oIx (enc:=zaa) ts61 (q1 (decT b4)).1 ?_)
 refine G ?_
 refine wG (OpA.call rfl rfl rfl hen_p (hg_p (gi x i) target (q1 (decT b4)).2) ?_)
 rintro _ rfl
 refine G ?_
 exact⟨(cvB (andN b4 rfl)),(.refl _)⟩
 refine G ?_
 exact⟨(cvB (andS b4)),(.refl _)⟩
 refine G ?_
 exact zr h
theorem cfind_c (texts:(List Text))(path:ByteArray)(hp0:texts.length<=1000000)(hp1:texts.Pairwise TLt):Fun false Tryz.prog 59 [(zai 2 zaa) texts,D.s path] (fun d=>d= .tup [D.i ((findT texts path).1),D.b ((findT texts path).2)]):=by
 refine fB Tryz.func59 Tryz.ntmps59 (v:=findT texts path) (enc:=fun r=> .tup [D.i (r.1),D.b (r.2)]) (cfind_ok texts path _ hp0 hp1 rfl) fun Q h=>?_
 unfold cfind_vc at h
 obtain⟨q1,q2,q3,q4,h⟩:=h
 refine G ?_
 refine wL (oC (cbsearch_c texts path 109 [] [] (fun(x0_:Text) (x1_:ByteArray)=>(cmpB x0_.path x1_)) (fun(x0_:Text) (x1_:ByteArray)=>True) zK (fun x0_ x1_ _=>cfind1_c x0_ x1_) q1 q2 q3 q4) ?_)
 refine G ?_
 exact zr h
theorem cclone_c (s_:(List Lexeme))(hp0:s_.length<=1000000):Fun false Tryz.prog 60 [(zai 2 zau) s_] (fun d=>d=(zai 2 zau) (s_)):=by
 refine fB Tryz.func60 Tryz.ntmps60 (cclone_ok s_ _ hp0 rfl) fun Q h=>?_
 unfold cclone_vc at h
 refine G ?_
 refine wL (OpA.listNil (enc:=zau) (xs:=s_) rfl ts24.desc rfl rfl rfl (fun isnil hisnil=>?_))
 have h:=h isnil hisnil
 refine G ?_
 refine zc h (fun _ h=>G ?_) (fun _ h=>?_)
 exact⟨_,(.tmp (d:= .v (.slice none 0 0)) rfl .nil),_,(.nilv (sz:=2) .nil),⟨[],rfl,h⟩⟩
 obtain⟨q1,h⟩:=h
 refine G ?_
 refine wL (OpA.buildSliceV (enc:=zau) (xs:=([]:List Lexeme)) rfl ts24 rfl .nil (by decide) rfl (fun c2=>?_))
 refine G ?_
 refine wL (OpA.appendW (enc:=zau) rfl rfl rfl rfl ts24 rfl (fun _ _=> .head) (.list (ys:=s_)) q1 (fun c3 pre4=>?_))
 refine G ?_
 exact⟨_,(.tmp (d:= .own c3 2 pre4.length (([]:List Lexeme)++s_).length) rfl .nil),_,(.win .head (by intro hf; cases hf) .nil),⟨(([]:List Lexeme)++s_),rfl,h⟩⟩
theorem cwith_c (c:Corpus)(texts:(List Text))(hp0:okTs texts):Fun false Tryz.prog 61 [zao c,(zai 2 zaa) texts] (fun d=>d=zao ((zay texts c.k c.w))):=by
 refine fB Tryz.func61 Tryz.ntmps61 (cwith_ok c texts _ hp0 rfl) fun Q h=>?_
 unfold cwith_vc at h
 refine G ?_
 refine wL (oB 4 (fun c1 _=>?_))
 refine wL (oA 4 (.agg ([D.i 0,D.i 0,.v (.slice none 0 0),.v (.slice none 0 0)])) tz64 (fun c2 _=>?_))
 iterate 3 refine g ?_
 refine wL (OpA.asnG (T:=Text) (enc:=zaa) (sz:=2) rfl rfl (fun c5_g3=>?_))
 refine G ?_
 refine zl h (c5_g3,([]:List D),([]:List D)) (fun gg ss=> [(2,.ptr c1 4 0 0),(4,.ptr c2 4 0 0),(5,.own gg.1 2 gg.2.1.length ss.1.length),(8,(zai 2 zaa) texts),(9,D.i (texts.length:Int)),(10,D.i ss.2)]) (fun gg ss=> [(gg.1,.cells 2 (zas zaa gg.2.1 ss.1 gg.2.2)),(c2,.cells 4 [.agg ([D.i 0,D.i 0,.v (.slice none 0 0),.v (.slice none 0 0)])]),(c1,.cells 4 [zao c])]) ?_
 rintro again4 ⟨cb5,pre5,post5⟩ ⟨own_,x⟩ h
 dsimp only at h
 unfold cwith_L1 at h
 refine G ?_
 refine zc h (fun _ h=>?_) (fun _ h=>?_)
 obtain⟨q1,h⟩:=h
 refine G ?_
 refine wL (oIx (enc:=zaa) ts61 q1 ?_)
 refine G ?_
 refine wL (oA 2 (.agg ([D.s ByteArray.empty,.v (.slice none 0 0)])) tz57 (fun c6 _=>?_))
 refine g ?_
 obtain⟨q1,q2,h⟩:=h
 refine g ?_
 refine zbf (m:=8) mo zK rfl ?_
 refine G ?_
 refine dL (oC (cclone_c ((gi texts x).words) q1) oR) ?_
 refine dL (oU [.v (.string ⟨#[]⟩),.v (.slice none 0 0)] tp57 tz57 oR) ?_
 refine dL (OpA.ibuildSliceO rfl ts61 rfl (.cons (.of (sz:=2) rfl) .nil) (by decide) oR) ?_
 refine DetK.nil ?_
 refine wL (OpA.appendW (enc:=zaa) rfl rfl rfl rfl ts61 rfl (fun _ _=>(.tail .head)) (.list (ys:=([(Text.mk ((gi texts x).path) ((gi texts x).words))]:List Text))) q2 (fun c7 pre8=>?_))
 obtain⟨q1,h⟩:=h
 refine G ?_
 exact⟨(c7,pre8,([]:List D)),((own_++([(Text.mk ((gi texts x).path) ((gi texts x).words))]:List Text)),(x+1)),h,cvZ,(.cons _ (.refl _))⟩
 iterate 2 refine g ?_
 refine wpA_freeze (s:=5) (d:= .own cb5 2 pre5.length own_.length) (d':=(zai 2 zaa) own_) (.refl _) rfl (.win (enc:=zaa) .head (by intro hf; cases hf) .nil) ?_
 obtain⟨q1,h⟩:=h
 refine zbf (m:=12) mo zK rfl ?_
 refine G ?_
 refine dL (oC (cposts_c own_ c.k c.w q1) oR) ?_
 refine dL (oU [.v (.int .i64 0),.v (.int .i64 0),.v (.slice none 0 0),.v (.slice none 0 0)] tp64 tz64 oR) ?_
 refine DetK.nil ?_
 refine G ?_
 exact⟨_,(.cell (.whole ti64 rfl rfl .head rfl ⟨_,rfl⟩) .nil),_,(.same rfl .nil),⟨(Corpus.mk c.k c.w own_ (postsF own_ c.k c.w)),rfl,h⟩⟩
theorem growT_w (n:Int)(Q:(List Text)->Prop)(h:growT_vc n Q):CallH Tryz.prog 111 [.v (.slice none 0 0),D.i n] [] (fun d h'=>∃(r:(List Text)) (g:Nat×List D×List D),d= .own g.1 2 g.2.1.length r.length/\h'= [(g.1,.cells 2 (zas zaa g.2.1 r g.2.2))]/\Q r):=by
 unfold growT_vc at h
 refine CallH.of_bodyP Tryz.func111 rfl Tryz.ntmps111 rfl ?_
 iterate 2 refine g ?_
 refine wL (OpA.asnG (T:=Text) (enc:=zaa) (sz:=2) rfl rfl (fun c4_g1=>?_))
 refine G ?_
 refine zc h (fun _ h=>?_) (fun _ h=>?_)
 exact h.elim
 obtain⟨q1,q2,h⟩:=h
 refine G ?_
 refine wL (OpA.capNil rfl rfl rfl rfl rfl ts61.desc ?_)
 refine g ?_
 refine wL (OpA.len (n:=0) rfl rfl rfl rfl ts61.desc (.inr (.inr ⟨rfl,rfl⟩)) ?_)
 refine G ?_
 refine zc h (fun _ h=>?_) (fun _ h=>?_)
 obtain⟨q1,q2,h⟩:=h
 refine G ?_
 refine wL (OpA.capNil rfl rfl rfl rfl rfl ts61.desc ?_)
 refine wL (OpA.sliceNil rfl ts61 rfl rfl ?_)
 refine G ?_
 refine wL (OpA.appendZ (enc:=zaa) (v0:=(Text.mk ByteArray.empty [])) rfl rfl rfl rfl ts61 td3 rfl rfl tz57 (fun _ _=> .agg (.cons (.v _) (.cons .nilL .nil))) (.of rfl) q1 (fun c4=>?_))
 refine g ?_
 refine wL (OpA.len (n:=0) rfl rfl rfl rfl ts61.desc (.inr (.inr ⟨rfl,rfl⟩)) ?_)
 refine wL (OpA.sliceV (enc:=zaa) rfl ts61 rfl (.none _) (.some rfl) q2 .head ?_)
 refine G ?_
 exact⟨_,(.tmp (d:= .own c4 2 (([]:List D)++((List.replicate (Int.toNat (n-((0:Int)-0))) (Text.mk ByteArray.empty [])).take (Int.toNat 0)).map zaa).length (zbc (List.replicate (Int.toNat (n-((0:Int)-0))) (Text.mk ByteArray.empty [])) 0 0).length) rfl .nil),[(c4,.cells 2 (zas zaa (([]:List D)++((List.replicate (Int.toNat (n-((0:Int)-0))) (Text.mk ByteArray.empty [])).take (Int.toNat 0)).map zaa) (zbc (List.replicate (Int.toNat (n-((0:Int)-0))) (Text.mk ByteArray.empty [])) 0 0) (((List.replicate (Int.toNat (n-((0:Int)-0))) (Text.mk ByteArray.empty [])).drop (Int.toNat 0)).map zaa++([]:List D)))),(c4_g1,.cells 2 (zas zaa ([]:List D) ([]:List Text) ([]:List D)))],[(c4,.cells 2 (zas zaa (([]:List D)++((List.replicate (Int.toNat (n-((0:Int)-0))) (Text.mk ByteArray.empty [])).take (Int.toNat 0)).map zaa) (zbc (List.replicate (Int.toNat (n-((0:Int)-0))) (Text.mk ByteArray.empty [])) 0 0) (((List.replicate (Int.toNat (n-((0:Int)-0))) (Text.mk ByteArray.empty [])).drop (Int.toNat 0)).map zaa++([]:List D))))],(.refl _),(.cons₂ _ (.cons _ (.refl _))),(zbc (List.replicate (Int.toNat (n-((0:Int)-0))) (Text.mk ByteArray.empty [])) 0 0),(c4,(([]:List D)++((List.replicate (Int.toNat (n-((0:Int)-0))) (Text.mk ByteArray.empty [])).take (Int.toNat 0)).map zaa),(((List.replicate (Int.toNat (n-((0:Int)-0))) (Text.mk ByteArray.empty [])).drop (Int.toNat 0)).map zaa++([]:List D))),rfl,rfl,h⟩
 iterate 4 refine g ?_
 refine wL (OpA.asnG (T:=Text) (enc:=zaa) (sz:=2) rfl rfl (fun c4_g5=>?_))
 refine G ?_
 exact⟨_,(.tmp (d:= .own c4_g5 2 ([]:List D).length ([]:List Text).length) rfl .nil),[(c4_g5,.cells 2 (zas zaa ([]:List D) ([]:List Text) ([]:List D))),(c4_g1,.cells 2 (zas zaa ([]:List D) ([]:List Text) ([]:List D)))],[(c4_g5,.cells 2 (zas zaa ([]:List D) ([]:List Text) ([]:List D)))],(.refl _),(.cons₂ _ (.cons _ (.refl _))),([]:List Text),(c4_g5,([]:List D),([]:List D)),rfl,rfl,h⟩
theorem growT_c (n:Int)(hp0:(0:Int)<=n)(hp1:n<=(1000000:Int)):CallH Tryz.prog 111 [.v (.slice none 0 0),D.i n] [] (fun d h'=>∃(g:Nat×List D×List D),d= .own g.1 2 g.2.1.length (growTF n).length/\h'= [(g.1,.cells 2 (zas zaa g.2.1 (growTF n) g.2.2))]):=
 (growT_w n  (fun r=>r=growTF n) (growT_ok n _ hp0 hp1 rfl)).mono (by rintro d h' ⟨r,g,hd,hh,rfl⟩; exact⟨g,hd,hh⟩)
theorem concatT_c (slices:(List (List Text)))(hp0:slices.length<=10)(hp1:(List.flatten slices).length<=1000000):Fun false Tryz.prog 62 [(zai 1 (zai 2 zaa)) slices] (fun d=>d=(zai 2 zaa) ((List.flatten slices))):=by
 refine fB Tryz.func62 Tryz.ntmps62 (concatT_ok slices _ hp0 hp1 rfl) fun Q h=>?_
 unfold concatT_vc at h
 refine G ?_
 refine zl h () (fun gg ss=> [(0,(zai 1 (zai 2 zaa)) slices),(2,.v (.slice none 0 0)),(3,D.i ss.1),(9,(zai 1 (zai 2 zaa)) slices),(10,D.i (slices.length:Int)),(11,D.i ss.2)]) (fun gg ss=> []) ?_
 rintro again1 _ ⟨size,x⟩ h
 dsimp only at h
 unfold concatT_L1 at h
 refine G ?_
 refine zc h (fun _ h=>?_) (fun _ h=>?_)
 obtain⟨q1,h⟩:=h
 refine G ?_
 refine wL (oIx (enc:=(zai 2 zaa)) ts185 q1 ?_)
 obtain⟨q1,h⟩:=h
 refine G ?_
 refine zc h (fun _ h=>?_) (fun _ h=>?_)
 exact h.elim
 obtain⟨q1,h⟩:=h
 refine G ?_
 exact⟨(),((size+((gi slices x).length:Int)),(x+1)),h,cvZ,(.refl _)⟩
 obtain⟨q1,q2,h⟩:=h
 refine G ?_
 refine wL (OpA.callH rfl rfl rfl zK (h1:= []) (h2:= []) (.refl _) (growT_c size q1 q2) ?_)
 rintro _ _ ⟨⟨c4,pre5,post6⟩,rfl,rfl⟩
 refine G ?_
 refine zl h (c4,pre5,post6) (fun gg ss=> [(2,.v (.slice none 0 0)),(6,.own gg.1 2 gg.2.1.length ss.1.length),(25,(zai 1 (zai 2 zaa)) slices),(26,D.i (slices.length:Int)),(27,D.i ss.2)]) (fun gg ss=> [(gg.1,.cells 2 (zas zaa gg.2.1 ss.1 gg.2.2))]) ?_
 rintro again7 ⟨cb24,pre24,post24⟩ ⟨newslice,x1⟩ h
 dsimp only at h
 unfold concatT_L2 at h
 refine G ?_
 refine zc h (fun _ h=>?_) (fun _ h=>G ?_)
 obtain⟨q1,h⟩:=h
 refine G ?_
 refine wL (oIx (enc:=(zai 2 zaa)) ts185 q1 ?_)
 obtain⟨q1,h⟩:=h
 refine G ?_
 refine wL (OpA.appendW (enc:=zaa) rfl rfl rfl rfl ts61 rfl (fun _ _=> .head) (.list (ys:=(gi slices x1))) q1 (fun c9 pre10=>?_))
 obtain⟨q1,h⟩:=h
 refine G ?_
 exact⟨(c9,pre10,([]:List D)),((newslice++(gi slices x1)),(x1+1)),h,cvZ,(.refl _)⟩
 exact⟨_,(.tmp (d:= .own cb24 2 pre24.length newslice.length) rfl .nil),_,(.win .head (by intro hf; cases hf) .nil),⟨newslice,rfl,h⟩⟩
theorem cadd_c (c:Corpus)(t:Text)(hp0:okC c)(hp1:okT t):Fun false Tryz.prog 21 [zao c,zaa t] (fun d=>d= .tup [zao ((addF c t).1),D.i ((addF c t).2)]):=by
 refine fB Tryz.func21 Tryz.ntmps21 (v:=addF c t) (enc:=fun r=> .tup [zao (r.1),D.i (r.2)]) (cadd_ok c t _ hp0 hp1 rfl) fun Q h=>?_
 unfold cadd_vc at h
 refine G ?_
 refine wL (oB 4 (fun c1 _=>?_))
 refine wL (oB 2 (fun c2 _=>?_))
 refine wL (oA 4 (.agg ([D.i 0,D.i 0,.v (.slice none 0 0),.v (.slice none 0 0)])) tz64 (fun c3 _=>?_))
 obtain⟨q1,q2,h⟩:=h
 iterate 4 refine g ?_
 refine zav (asg [(2,.ptr c1 4 0 0),(3,.ptr c2 2 0 0),(4,.ptr c3 4 0 0),(5,D.i 0),(15,D.b (((checkF c) != 0)||(!(zbi t))))]) [(c3,.cells 4 [.agg ([D.i 0,D.i 0,.v (.slice none 0 0),.v (.slice none 0 0)])]),(c2,.cells 2 [zaa t]),(c1,.cells 4 [zao c])] ?_ ?_
 refine G ?_
 refine wL (oC (ccheck_c c q1) ?_)
 refine G ?_
 refine zp 11 (fun b7=>G ?_) (fun b7=>?_)
 exact⟨(cvB (orS b7)),(.refl _)⟩
 refine G ?_
 refine wG (oC (nvalid_c t (q2 (bneF b7))) ?_)
 refine G ?_
 exact⟨(cvB (orN b7 rfl)),(.refl _)⟩
 refine zc h (fun _ h=>G ?_) (fun _ h=>?_)
 refine wL (oU [.v (.int .i64 0),.v (.int .i64 0),.v (.slice none 0 0),.v (.slice none 0 0)] tp64 tz64 ?_)
 refine G ?_
 exact⟨_,(.cell (.whole ti64 rfl rfl .head rfl ⟨_,rfl⟩) (.tmp (d:=D.i 1) rfl .nil)),_,(.tup (.agg (.same rfl (.same rfl (.nilv (sz:=2) (.nilv (sz:=3) .nil)))) (.same rfl .nil)) .nil),⟨((Corpus.mk 0 0 [] []),1),rfl,h⟩⟩
 obtain⟨q1,q2,h⟩:=h
 refine G ?_
 refine wL (oC (cfind_c c.texts t.path q1 q2) ?_)
 refine G ?_
 refine zc h (fun _ h=>G ?_) (fun _ h=>G ?_)
 refine wL (oU [.v (.int .i64 0),.v (.int .i64 0),.v (.slice none 0 0),.v (.slice none 0 0)] tp64 tz64 ?_)
 refine G ?_
 exact⟨_,(.cell (.whole ti64 rfl rfl .head rfl ⟨_,rfl⟩) (.tmp (d:=D.i 6) rfl .nil)),_,(.tup (.agg (.same rfl (.same rfl (.nilv (sz:=2) (.nilv (sz:=3) .nil)))) (.same rfl .nil)) .nil),⟨((Corpus.mk 0 0 [] []),6),rfl,h⟩⟩
 refine zc h (fun _ h=>G ?_) (fun _ h=>?_)
 refine wL (oU [.v (.int .i64 0),.v (.int .i64 0),.v (.slice none 0 0),.v (.slice none 0 0)] tp64 tz64 ?_)
 refine G ?_
 exact⟨_,(.cell (.whole ti64 rfl rfl .head rfl ⟨_,rfl⟩) (.tmp (d:=D.i 10) rfl .nil)),_,(.tup (.agg (.same rfl (.same rfl (.nilv (sz:=2) (.nilv (sz:=3) .nil)))) (.same rfl .nil)) .nil),⟨((Corpus.mk 0 0 [] []),10),rfl,h⟩⟩
 obtain⟨q1,h⟩:=h
 refine G ?_
 refine wL (oC (cclone_c t.words q1) ?_)
 refine g ?_
 refine wE (OpA.store (e':=zaa (Text.mk t.path t.words)) rfl ti24 rfl (.of rfl) rfl (Nat.le_of_ble_eq_true rfl) rfl (.tail .head) ?_)
 obtain⟨q1,q2,q3,q4,q5,h⟩:=h
 iterate 2 refine g ?_
 refine zbf (m:=14) mo zK rfl ?_
 refine G ?_
 refine dL (OpA.isliceV (enc:=zaa) rfl ts61 rfl (.none _) (.some rfl) q1 oR) ?_
 refine G ?_
 refine dL (OpA.ibuildSliceO rfl ts61 rfl (.cons (.of (sz:=2) rfl) .nil) (by decide) oR) ?_
 refine G ?_
 refine dL (OpA.isliceV (enc:=zaa) rfl ts61 rfl (.some rfl) (.none _) q2 oR) ?_
 refine dL (OpA.ibuildSliceO rfl ts185 rfl (.cons (.of (sz:=1) rfl) (.cons (.of (sz:=1) rfl) (.cons (.of (sz:=1) rfl) .nil))) (by decide) oR) ?_
 refine dL (oC (concatT_c ([(zbc c.texts 0 ((findT c.texts t.path).1)),([(Text.mk t.path t.words)]:List Text),(zbc c.texts ((findT c.texts t.path).1) (c.texts.length:Int))]:List (List Text)) q3 q4) oR) ?_
 refine dL (oC (cwith_c c (List.flatten ([(zbc c.texts 0 ((findT c.texts t.path).1)),([(Text.mk t.path t.words)]:List Text),(zbc c.texts ((findT c.texts t.path).1) (c.texts.length:Int))]:List (List Text))) q5) oR) ?_
 refine DetK.nil ?_
 refine G ?_
 exact⟨_,(.cell (.whole ti64 rfl rfl .head rfl ⟨_,rfl⟩) (.tmp (d:=D.i 0) rfl .nil)),_,(.tup (.same rfl (.same rfl .nil)) .nil),⟨((zay (List.flatten ([(zbc c.texts 0 ((findT c.texts t.path).1)),([(Text.mk t.path t.words)]:List Text),(zbc c.texts ((findT c.texts t.path).1) (c.texts.length:Int))]:List (List Text))) c.k c.w),0),rfl,h⟩⟩
theorem c26fewt_c (l:(List Text)) :Fun false Tryz.prog 19 [(zai 2 zaa) l] (fun d=>d=D.b (fewTs l)):=by
 refine fB Tryz.func19 Tryz.ntmps19 (c26fewt_ok l _  rfl) fun Q h=>?_
 unfold c26fewt_vc at h
 refine G ?_
 refine zc h (fun _ h=>G ?_) (fun _ h=>G ?_)
 exact zr h
 refine zl h () (fun gg ss=> [(0,(zai 2 zaa) l),(2,D.b false),(3,D.i ss)]) (fun gg ss=> []) ?_
 rintro again2 _ i h
 unfold c26fewt_L1 at h
 refine G ?_
 refine zc h (fun _ h=>?_) (fun _ h=>G ?_)
 obtain⟨q1,h⟩:=h
 iterate 4 refine g ?_
 refine zav (asg [(0,(zai 2 zaa) l),(2,D.b false),(3,D.i i),(28,D.b ((!(fewW ((gi l i).words)))||(decide ((((gi l i).path).size:Int)>200))))]) [] ?_ ?_
 refine G ?_
 refine wL (oIx (enc:=zaa) ts61 q1 ?_)
 refine G ?_
 refine wL (oC (g24few_c ((gi l i).words)) ?_)
 refine G ?_
 refine zp 20 (fun b5=>G ?_) (fun b5=>?_)
 exact⟨(cvB (orS b5)),(.refl _)⟩
 refine G ?_
 refine wG (oIx (enc:=zaa) ts61 q1 ?_)
 refine G ?_
 exact⟨(cvB (orN b5 rfl)),(.refl _)⟩
 refine zc h (fun _ h=>G ?_) (fun _ h=>?_)
 exact zr h
 obtain⟨q1,h⟩:=h
 refine G ?_
 exact⟨(),(i+1),h,cvZ,(.refl _)⟩
 exact zr h
end Go.Proofs.YtkifpidbpoghlaaGreatDoor
set_option linter.all false
namespace Go.Proofs.YtkifpidbpoghlaaGreatDoor
open Go Go.Lic Go.Sort Go.Proofs
attribute [local irreducible] addF addP zaw badR behindF blankF checkF zbp zbx cmpB cmpI cmpL codeF countF fewTs fewW findC findT zbt growTF guarF hashF zbj insideF itoaF lenF lookF mergeF mul64F mulP newF ofF orF partF pathF postCmp postsF powF zak pushF rightL rollF zbu zbs zbh zad splitG zbi attrF betterP checkA longAF rangedF rightCT sameF shareF srcF unknownF
theorem cmpInts_c (s1:(List Int))(s2:(List Int))(hp0:s1.length<=1000000)(hp1:s2.length<=1000000):Fun false Tryz.prog 113 [(zai 1 D.i) s1,(zai 1 D.i) s2] (fun d=>d=D.i (cmpL s1 s2)):=by
 refine fB Tryz.func113 Tryz.ntmps113 (cmpInts_ok s1 s2 _ hp0 hp1 rfl) fun Q h=>?_
 unfold cmpInts_vc at h
 refine G ?_
 refine zl h () (fun gg ss=> [(0,(zai 1 D.i) s1),(1,(zai 1 D.i) s2),(4,D.i 0),(9,(zai 1 D.i) s1),(10,D.i (s1.length:Int)),(11,D.i ss)]) (fun gg ss=> []) ?_
 rintro again1 _ x h
 unfold cmpInts_L1 at h
 refine G ?_
 refine zc h (fun _ h=>?_) (fun _ h=>G ?_)
 obtain⟨q1,h⟩:=h
 refine G ?_
 refine wL (oIx (enc:=D.i) ts41 q1 ?_)
 refine G ?_
 refine zc h (fun _ h=>G ?_) (fun _ h=>?_)
 exact zr h
 obtain⟨q1,h⟩:=h
 refine G ?_
 refine wL (oIx (enc:=D.i) ts41 q1 ?_)
 refine G ?_
 refine wL (oC (iCompare_c (gi s1 x) (gi s2 x)) ?_)
 refine G ?_
 refine zc h (fun _ h=>G ?_) (fun _ h=>?_)
 exact zr h
 obtain⟨q1,h⟩:=h
 refine G ?_
 exact⟨(),(x+1),h,cvZ,(.refl _)⟩
 refine zc h (fun _ h=>G ?_) (fun _ h=>G ?_)
 exact zr h
 exact zr h
theorem tvalid_c (c:Corpus)(t:Text)(hp0:okC c)(hp1:okT t):Fun false Tryz.prog 63 [zao c,zaa t] (fun d=>d=D.b (rightCT c t)):=by
 refine fB Tryz.func63 Tryz.ntmps63 (tvalid_ok c t _ hp0 hp1 rfl) fun Q h=>?_
 unfold tvalid_vc at h
 refine G ?_
 refine wL (oB 4 (fun c1 _=>?_))
 refine wL (oB 2 (fun c2 _=>?_))
 obtain⟨q1,q2,h⟩:=h
 iterate 3 refine g ?_
 refine zav (asg [(4,D.b (((checkF c)==0)&&(zbi t)))]) [(c2,.cells 2 [zaa t]),(c1,.cells 4 [zao c])] ?_ ?_
 refine G ?_
 refine wL (oC (ccheck_c c q1) ?_)
 refine G ?_
 refine zp 8 (fun b3=>G ?_) (fun b3=>?_)
 refine wG (oC (nvalid_c t (q2 (beqT b3))) ?_)
 refine G ?_
 exact⟨(cvB (andN b3 rfl)),(.refl _)⟩
 refine G ?_
 exact⟨(cvB (andS b3)),(.refl _)⟩
 refine G ?_
 exact zr h
theorem tsame_c (words:(List Lexeme))(known:(List Lexeme))(at_:Int)(hp0:words.length<=1000000)(hp1:known.length<=1000000):Fun false Tryz.prog 114 [(zai 2 zau) words,(zai 2 zau) known,D.i at_] (fun d=>d=D.b (sameF words known at_)):=by
 refine fB Tryz.func114 Tryz.ntmps114 (tsame_ok words known at_ _ hp0 hp1 rfl) fun Q h=>?_
 unfold tsame_vc at h
 obtain⟨q1,h⟩:=h
 iterate 6 refine g ?_
 refine zav (asg [(0,(zai 2 zau) words),(1,(zai 2 zau) known),(2,D.i at_),(6,D.b false),(26,D.b (((decide (at_<0))||(decide ((words.length:Int)>(known.length:Int))))||(decide (at_>((known.length:Int)-(words.length:Int))))))]) [] ?_ ?_
 refine G ?_
 refine zp 11 (fun b6=>G ?_) (fun b6=>?_)
 exact⟨(cvB (orS (orS b6))),(.refl _)⟩
 refine G ?_
 refine zp 18 (fun b7=>G ?_) (fun b7=>?_)
 exact⟨(cvB (orS (orN b6 b7))),(.refl _)⟩
 refine G ?_
 refine wG (oSb (q1 ⟨(decF b6),(decF b7)⟩) ?_)
 refine G ?_
 exact⟨(cvB (orN (orN b6 b7) rfl)),(.refl _)⟩
 refine zc h (fun _ h=>G ?_) (fun _ h=>G ?_)
 exact zr h
 refine zl h () (fun gg ss=> [(1,(zai 2 zau) known),(2,D.i at_),(6,D.b false),(27,(zai 2 zau) words),(28,D.i (words.length:Int)),(29,D.i ss)]) (fun gg ss=> []) ?_
 rintro again2 _ x h
 unfold tsame_L1 at h
 refine G ?_
 refine zc h (fun _ h=>?_) (fun _ h=>G ?_)
 obtain⟨q1,h⟩:=h
 refine G ?_
 refine wL (oIx (enc:=zau) ts24 q1 ?_)
 refine G ?_
 refine wL (oA 2 (zau (Lexeme.mk ByteArray.empty 0)) tz30 (fun c4 _=>?_))
 iterate 2 refine g ?_
 obtain⟨q1,q2,h⟩:=h
 iterate 2 refine g ?_
 refine zbf (m:=10) mo zK rfl ?_
 refine G ?_
 refine dL (oIx (enc:=zau) ts24 q2 oR) ?_
 refine G ?_
 refine dL (OpA.sneq rfl rfl rfl oR) ?_
 refine DetK.nil ?_
 refine G ?_
 refine zc h (fun _ h=>G ?_) (fun _ h=>?_)
 exact zr h
 obtain⟨q1,h⟩:=h
 refine G ?_
 exact⟨(),(x+1),h,cvZ,(.cons _ (.refl _))⟩
 exact zr h
theorem tafter_c (v:(Int×Int))(n:Int)(hp0:inI (v.1+n))(hp1:inI (v.2-1)):Fun false Tryz.prog 67 [(encA2 D.i) v,D.i n] (fun d=>d=(encA2 D.i) (afterP v n)):=by
 refine fB Tryz.func67 Tryz.ntmps67 (enc:=fun r=>(encA2 D.i) r) (tafter_ok v n _ hp0 hp1 rfl) fun Q h=>?_
 unfold tafter_vc at h
 refine G ?_
 refine wL (oB 2 (fun c1 _=>?_))
 refine wL (oA 2 ((encA2 D.i) (0,0)) tz142 (fun c2 _=>?_))
 obtain⟨q1,q2,h⟩:=h
 refine G ?_
 refine wL (OpA.aixV rfl td142 ti3 rfl rfl ⟨by decide,by decide⟩ ?_)
 refine G ?_
 refine wL (OpA.aixV rfl td142 ti3 rfl rfl ⟨by decide,by decide⟩ ?_)
 refine G ?_
 refine wL (OpA.buildArr (zs:= [.v (.int .i64 0),.v (.int .i64 0)]) rfl td142 ti3 tz142 (fun _ _=>(.cons (.v _) (.cons (.v _) .nil))) (.cons (.of (sz:=1) rfl) (.cons (.of (sz:=1) rfl) .nil)) rfl ?_)
 refine G ?_
 exact⟨_,(.cell (.whole ti142 rfl rfl .head rfl ⟨_,rfl⟩) .nil),_,(.same rfl .nil),⟨((v.1+n),(v.2-1)),rfl,h⟩⟩
theorem tbetter_c (a:(Int×Int))(b:(Int×Int)) :Fun false Tryz.prog 66 [(encA2 D.i) a,(encA2 D.i) b] (fun d=>d=(encA2 D.i) (betterP a b)):=by
 refine fB Tryz.func66 Tryz.ntmps66 (enc:=fun r=>(encA2 D.i) r) (tbetter_ok a b _  rfl) fun Q h=>?_
 unfold tbetter_vc at h
 refine G ?_
 refine wL (oB 2 (fun c1 _=>?_))
 refine wL (oB 2 (fun c2 _=>?_))
 refine wL (oA 2 ((encA2 D.i) (0,0)) tz142 (fun c3 _=>?_))
 iterate 3 refine g ?_
 refine wpA_freeze (s:=2) (d:= .ptr c1 2 0 0) (d':= .iptr ((encA2 D.i) a) 0) (List.perm_middle (l₁:=([(c3,.cells 2 [(encA2 D.i) (0,0)]),(c2,.cells 2 [(encA2 D.i) b])]:zbb))) rfl (.ptrp rfl .head rfl .nil) ?_
 refine wpA_freeze (s:=3) (d:= .ptr c2 2 0 0) (d':= .iptr ((encA2 D.i) b) 0) (.swap _ _ _) rfl (.ptrp rfl .head rfl .nil) ?_
 obtain⟨q1,q2,h⟩:=h
 refine zbf (m:=4) mo zK rfl ?_
 refine dL (OpA.isliceA (ds:= [D.i a.1,D.i a.2]) rfl td142 ti3 rfl rfl rfl oR) ?_
 refine dL (OpA.isliceA (ds:= [D.i b.1,D.i b.2]) rfl td142 ti3 rfl rfl rfl oR) ?_
 refine dL (oC (cmpInts_c ([a.1,a.2]:List Int) ([b.1,b.2]:List Int) q1 q2) oR) ?_
 refine g ?_
 refine DetK.nil ?_
 refine G ?_
 refine zc h (fun _ h=>G ?_) (fun _ h=>G ?_)
 exact⟨_,(.cell (.whole ti142 rfl rfl .head rfl ⟨_,rfl⟩) .nil),_,(.same rfl .nil),⟨a,rfl,h⟩⟩
 exact⟨_,(.cell (.whole ti142 rfl rfl .head rfl ⟨_,rfl⟩) .nil),_,(.same rfl .nil),⟨b,rfl,h⟩⟩
theorem tlongest_c (c:Corpus)(t:Text)(hp0:okC c)(hp1:okT t):Fun false Tryz.prog 64 [zao c,zaa t] (fun d=>d=(zai 1 D.i) (longAF c t)):=by
 refine fB Tryz.func64 Tryz.ntmps64 (tlongest_ok c t _ hp0 hp1 rfl) fun Q h=>?_
 unfold tlongest_vc at h
 refine G ?_
 refine wL (oB 4 (fun c1 _=>?_))
 refine wL (oB 2 (fun c2 _=>?_))
 refine wL (OpA.asnN (T:=Int) (enc:=D.i) (sz:=1) rfl rfl ?_)
 obtain⟨q1,h⟩:=h
 refine G ?_
 refine wL (OpA.makeSliceV (enc:=D.i) (v0:=0) rfl ts41 rfl rfl tz3 (fun _ _=> .v _) (.of rfl) q1 (fun c3=>?_))
 refine wL (oA 1 (.v (.slice none 0 0)) tz41 (fun c4 _=>?_))
 refine G ?_
 refine zl h (c3,([]:List D),([]:List D)) (fun gg ss=> [(3,.ptr c2 2 0 0),(4,(zai 1 D.i) ([]:List Int)),(5,.ptr c4 1 0 0),(18,(zai 2 zaa) c.texts),(19,D.i (c.texts.length:Int)),(20,D.i ss.2)]) (fun gg ss=> [(c4,.cells 1 [.own gg.1 1 gg.2.1.length ss.1.length]),(gg.1,.cells 1 (zas D.i gg.2.1 ss.1 gg.2.2)),(c2,.cells 2 [zaa t]),(c1,.cells 4 [zao c])]) ?_
 rintro again5 ⟨cb16,pre16,post16⟩ ⟨xs,x⟩ h
 dsimp only at h
 unfold tlongest_L1 at h
 refine G ?_
 refine zc h (fun _ h=>?_) (fun _ h=>G ?_)
 obtain⟨q1,h⟩:=h
 refine G ?_
 refine wL (oIx (enc:=zaa) ts61 q1 ?_)
 refine G ?_
 refine wL (oA 2 (.agg ([D.s ByteArray.empty,.v (.slice none 0 0)])) tz57 (fun c7 _=>?_))
 refine G ?_
 obtain⟨q1,q2,h⟩:=h
 refine G ?_
 refine wL (OpA.makeSliceV (enc:=D.i) (v0:=0) rfl ts41 rfl rfl tz3 (fun _ _=> .v _) (.of rfl) q2 (fun c8=>?_))
 refine wL (oA 1 (.v (.slice none 0 0)) tz41 (fun c9 _=>?_))
 refine G ?_
 obtain⟨q1,h⟩:=h
 refine G ?_
 refine wL (oC (backL_c t.words q1) ?_)
 iterate 2 refine g ?_
 refine wpA_cov (fr0:=asg [(3,.ptr c2 2 0 0),(4,(zai 1 D.i) ([]:List Int)),(5,.ptr c4 1 0 0),(7,.ptr c7 2 0 0),(8,.ptr c9 1 0 0),(18,(zai 2 zaa) c.texts),(19,D.i (c.texts.length:Int)),(20,D.i x),(31,.fn (.func 112) [] [.iptr ((zai 2 zau) t.words) 0])]) cvZ ?_
 refine wpA_back (enc:=zau) (xs:=t.words) (S:=(List Int)×(List Int)) (G:=Nat×List D×List D×Nat×List D×List D) (c8,([]:List D),([]:List D),cb16,pre16,post16) (fun gg ss=> [(c9,.cells 1 [.own gg.1 1 gg.2.1.length ss.1.length]),(gg.1,.cells 1 (zas D.i gg.2.1 ss.1 gg.2.2.1)),(c7,.cells 2 [zaa (gi c.texts x)]),(c4,.cells 1 [.own gg.2.2.2.1 1 gg.2.2.2.2.1.length ss.2.length]),(gg.2.2.2.1,.cells 1 (zas D.i gg.2.2.2.2.1 ss.2 gg.2.2.2.2.2)),(c2,.cells 2 [zaa t]),(c1,.cells 4 [zao c])]) rfl zK (backL_it t.words (by assumption)) h (.refl _) rfl ?_ ?_
 · skip
   rintro again10 ⟨cb28,pre28,post28,cb161,pre161,post161⟩ ⟨xs1,xs2⟩ ix hix h
   dsimp only at h
   unfold tlongest_L2 at h
   replace h:=h.1 hix
   show wpA _ _ _ _ (upd (upd (asg [(3,.ptr c2 2 0 0),(4,(zai 1 D.i) ([]:List Int)),(5,.ptr c4 1 0 0),(7,.ptr c7 2 0 0),(8,.ptr c9 1 0 0),(18,(zai 2 zaa) c.texts),(19,D.i (c.texts.length:Int)),(20,D.i x),(31,.fn (.func 112) [] [.iptr ((zai 2 zau) t.words) 0])]) 32 (D.i ix)) 33 (zau (gi t.words ix))) [(c9,.cells 1 [.own cb28 1 pre28.length xs1.length]),(cb28,.cells 1 (zas D.i pre28 xs1 post28)),(c7,.cells 2 [zaa (gi c.texts x)]),(c4,.cells 1 [.own cb161 1 pre161.length xs2.length]),(cb161,.cells 1 (zas D.i pre161 xs2 post161)),(c2,.cells 2 [zaa t]),(c1,.cells 4 [zao c])]
   refine G ?_
   refine wL (oA 2 (zau (Lexeme.mk ByteArray.empty 0)) tz30 (fun c11 _=>?_))
   refine G ?_
   refine zl h (cb28,pre28,post28,cb161,pre161,post161) (fun gg ss=> [(5,.ptr c4 1 0 0),(8,.ptr c9 1 0 0),(9,D.i ix),(10,.ptr c11 2 0 0),(35,(zai 2 zau) ((gi c.texts x).words)),(36,D.i (((gi c.texts x).words).length:Int)),(37,D.i ss.2.2)]) (fun gg ss=> [(c11,.cells 2 [zau (gi t.words ix)]),(c9,.cells 1 [.own gg.1 1 gg.2.1.length ss.1.length]),(gg.1,.cells 1 (zas D.i gg.2.1 ss.1 gg.2.2.1)),(c7,.cells 2 [zaa (gi c.texts x)]),(c4,.cells 1 [.own gg.2.2.2.1 1 gg.2.2.2.2.1.length ss.2.1.length]),(gg.2.2.2.1,.cells 1 (zas D.i gg.2.2.2.2.1 ss.2.1 gg.2.2.2.2.2)),(c2,.cells 2 [zaa t]),(c1,.cells 4 [zao c])]) ?_
   rintro again12 ⟨cb281,pre281,post281,cb162,pre162,post162⟩ ⟨xs3,xs4,x1⟩ h
   dsimp only at h
   unfold tlongest_L3 at h
   refine G ?_
   refine zc h (fun _ h=>?_) (fun _ h=>G ?_)
   obtain⟨q1,h⟩:=h
   refine G ?_
   refine wL (oIx (enc:=zau) ts24 q1 ?_)
   refine G ?_
   refine wL (oA 2 (zau (Lexeme.mk ByteArray.empty 0)) tz30 (fun c14 _=>?_))
   refine G ?_
   refine wL (OpA.seql rfl rfl rfl ?_)
   refine g ?_
   refine wpA_join (S:=(List Int)) (G:=Unit) (fun gg ss=>asg [(5,.ptr c4 1 0 0),(8,.ptr c9 1 0 0),(9,D.i ix),(10,.ptr c11 2 0 0),(11,D.i x1),(35,(zai 2 zau) ((gi c.texts x).words)),(36,D.i (((gi c.texts x).words).length:Int)),(37,D.i x1)]) (fun gg ss=> [(c14,.cells 2 [zau (gi ((gi c.texts x).words) x1)]),(c11,.cells 2 [zau (gi t.words ix)]),(c9,.cells 1 [.own cb281 1 pre281.length ss.length]),(cb281,.cells 1 (zas D.i pre281 ss post281)),(c7,.cells 2 [zaa (gi c.texts x)]),(c4,.cells 1 [.own cb162 1 pre162.length xs4.length]),(cb162,.cells 1 (zas D.i pre162 xs4 post162)),(c2,.cells 2 [zaa t]),(c1,.cells 4 [zao c])]) (fun ss=>tlongest_J1 ix xs4 x1 again12 ss) ?_ ?_
   refine zc h (fun _ h=>?_) (fun _ h=>?_)
   obtain⟨q1,q2,q3,q4,h⟩:=h
   refine zbf (m:=9) mo zK rfl ?_
   refine G ?_
   refine dL (oIv ts41 q2 oR) ?_
   refine dL (OpA.load rfl ti3 rfl (.tail (.tail (.tail .head))) (getV (enc:=D.i) q2) rfl oR) ?_
   refine G ?_
   refine dL (oIv ts41 q4 oR) ?_
   refine DetK.nil ?_
   refine wE (OpA.storeV (enc:=D.i) (v:=((gi xs3 (x1+1))+1)) rfl ti3 rfl rfl (.of rfl) rfl q4 (.tail (.tail (.tail .head))) ?_)
   refine G ?_
   exact⟨(),(si xs3 x1 ((gi xs3 (x1+1))+1)),h,cvZ,(sub_heq (h':= [(c14,.cells 2 [zau (gi ((gi c.texts x).words) x1)]),(c11,.cells 2 [zau (gi t.words ix)]),(c9,.cells 1 [.own cb281 1 pre281.length (si xs3 x1 ((gi xs3 (x1+1))+1)).length]),(cb281,.cells 1 (zas D.i pre281 (si xs3 x1 ((gi xs3 (x1+1))+1)) post281)),(c7,.cells 2 [zaa (gi c.texts x)]),(c4,.cells 1 [.own cb162 1 pre162.length xs4.length]),(cb162,.cells 1 (zas D.i pre162 xs4 post162)),(c2,.cells 2 [zaa t]),(c1,.cells 4 [zao c])]) (by simp only [zan,zah,zac zam,zac zaf,zac zal]<;>rfl) (.refl _))⟩
   obtain⟨q1,h⟩:=h
   refine G ?_
   refine wL (oIv ts41 q1 ?_)
   refine wE (OpA.storeV (enc:=D.i) (v:=0) rfl ti3 rfl rfl (.of rfl) rfl q1 (.tail (.tail (.tail .head))) ?_)
   refine G ?_
   exact⟨(),(si xs3 x1 0),h,cvZ,(sub_heq (h':= [(c14,.cells 2 [zau (gi ((gi c.texts x).words) x1)]),(c11,.cells 2 [zau (gi t.words ix)]),(c9,.cells 1 [.own cb281 1 pre281.length (si xs3 x1 0).length]),(cb281,.cells 1 (zas D.i pre281 (si xs3 x1 0) post281)),(c7,.cells 2 [zaa (gi c.texts x)]),(c4,.cells 1 [.own cb162 1 pre162.length xs4.length]),(cb162,.cells 1 (zas D.i pre162 xs4 post162)),(c2,.cells 2 [zaa t]),(c1,.cells 4 [zao c])]) (by simp only [zan,zah,zac zam,zac zaf,zac zal]<;>rfl) (.refl _))⟩
   rintro _ xs5 h
   have h:tlongest_J1 ix xs4 x1 again12 xs5:=h
   unfold tlongest_J1 at h
   obtain⟨q1,q2,h⟩:=h
   refine zbf (m:=12) mo zK rfl ?_
   refine G ?_
   refine dL (oIv ts41 q1 oR) ?_
   refine dL (OpA.load rfl ti3 rfl (.tail (.tail (.tail (.tail (.tail (.tail .head)))))) (getV (enc:=D.i) q1) rfl oR) ?_
   refine G ?_
   refine dL (oIv ts41 q2 oR) ?_
   refine dL (OpA.load rfl ti3 rfl (.tail (.tail (.tail .head))) (getV (enc:=D.i) q2) rfl oR) ?_
   refine dL (OpA.max (l:= [_]) rfl rfl rfl rfl oR) ?_
   refine dL (oIv ts41 q1 oR) ?_
   refine DetK.nil ?_
   refine wE (OpA.storeV (enc:=D.i) (v:=(gmax (gi xs4 ix) [(gi xs5 x1)])) rfl ti3 rfl rfl (.of rfl) rfl q1 (.tail (.tail (.tail (.tail (.tail (.tail .head)))))) ?_)
   obtain⟨q1,h⟩:=h
   refine G ?_
   exact⟨(cb281,pre281,post281,cb162,pre162,post162),(xs5,(si xs4 ix (gmax (gi xs4 ix) [(gi xs5 x1)])),(x1+1)),h,cvZ,(sub_heq (h':= [(c14,.cells 2 [zau (gi ((gi c.texts x).words) x1)]),(c11,.cells 2 [zau (gi t.words ix)]),(c9,.cells 1 [.own cb281 1 pre281.length xs5.length]),(cb281,.cells 1 (zas D.i pre281 xs5 post281)),(c7,.cells 2 [zaa (gi c.texts x)]),(c4,.cells 1 [.own cb162 1 pre162.length (si xs4 ix (gmax (gi xs4 ix) [(gi xs5 x1)])).length]),(cb162,.cells 1 (zas D.i pre162 (si xs4 ix (gmax (gi xs4 ix) [(gi xs5 x1)])) post162)),(c2,.cells 2 [zaa t]),(c1,.cells 4 [zao c])]) (by simp only [zan,zah,zac zam,zac zaf,zac zal]<;>rfl) (.cons _ (.refl _)))⟩
   exact⟨(cb281,pre281,post281,cb162,pre162,post162),(xs3,xs4),h,(.cons _ (.refl _))⟩
 · skip
   rintro again10 ⟨cb28,pre28,post28,cb161,pre161,post161⟩ ⟨xs1,xs2⟩ ix hix h
   dsimp only at h
   unfold tlongest_L2 at h
   replace h:=h.2 hix
   obtain⟨q1,h⟩:=h
   refine G ?_
   exact⟨(cb161,pre161,post161),(xs2,(x+1)),h,cvZ,(.cons _ (.cons _ (.cons _ (.refl _))))⟩
 exact⟨_,(.tmp (d:= .own cb16 1 pre16.length xs.length) rfl .nil),_,(.win (.tail .head) (by intro hf; cases hf) .nil),⟨xs,rfl,h⟩⟩
theorem tsource_c (c:Corpus)(words:(List Lexeme))(hp0:okC c)(hp1:words.length<=1000000):Fun false Tryz.prog 68 [zao c,(zai 2 zau) words] (fun d=>d= .tup [D.i ((srcF c words).1),D.i ((srcF c words).2)]):=by
 refine fB Tryz.func68 Tryz.ntmps68 (v:=srcF c words) (enc:=fun r=> .tup [D.i (r.1),D.i (r.2)]) (tsource_ok c words _ hp0 hp1 rfl) fun Q h=>?_
 unfold tsource_vc at h
 refine G ?_
 refine wL (oB 4 (fun c1 _=>?_))
 refine G ?_
 refine zl h () (fun gg ss=> [(1,(zai 2 zau) words),(4,D.i 0),(5,D.i 0),(10,(zai 2 zaa) c.texts),(11,D.i (c.texts.length:Int)),(12,D.i ss)]) (fun gg ss=> [(c1,.cells 4 [zao c])]) ?_
 rintro again2 _ x h
 unfold tsource_L1 at h
 refine G ?_
 refine zc h (fun _ h=>?_) (fun _ h=>G ?_)
 obtain⟨q1,h⟩:=h
 refine G ?_
 refine wL (oIx (enc:=zaa) ts61 q1 ?_)
 refine G ?_
 refine wL (oA 2 (.agg ([D.s ByteArray.empty,.v (.slice none 0 0)])) tz57 (fun c4 _=>?_))
 refine G ?_
 refine zl h () (fun gg ss=> [(1,(zai 2 zau) words),(4,D.i 0),(5,D.i 0),(6,D.i x),(7,.ptr c4 2 0 0),(10,(zai 2 zaa) c.texts),(11,D.i (c.texts.length:Int)),(12,D.i x),(19,D.i (((gi c.texts x).words).length:Int)),(20,D.i ss)]) (fun gg ss=> [(c4,.cells 2 [zaa (gi c.texts x)]),(c1,.cells 4 [zao c])]) ?_
 rintro again5 _ x1 h
 unfold tsource_L2 at h
 refine G ?_
 refine zc h (fun _ h=>?_) (fun _ h=>?_)
 obtain⟨q1,q2,h⟩:=h
 refine G ?_
 refine wL (oC (tsame_c words ((gi c.texts x).words) x1 q1 q2) ?_)
 refine G ?_
 refine zc h (fun _ h=>G ?_) (fun _ h=>?_)
 exact zr h
 obtain⟨q1,h⟩:=h
 refine G ?_
 exact⟨(),(x1+1),h,cvZ,(.refl _)⟩
 obtain⟨q1,h⟩:=h
 refine G ?_
 exact⟨(),(x+1),h,cvZ,(.cons _ (.refl _))⟩
 exact zr h
theorem tof_c (c:Corpus)(t:Text)(least:Int)(hp0:okC c)(hp1:okT t):Fun false Tryz.prog 22 [zao c,zaa t,D.i least] (fun d=>d= .tup [zaz ((attrF c t least).1),D.i ((attrF c t least).2)]):=by
 refine fB Tryz.func22 Tryz.ntmps22 (v:=attrF c t least) (enc:=fun r=> .tup [zaz (r.1),D.i (r.2)]) (tof_ok c t least _ hp0 hp1 rfl) fun Q h=>?_
 unfold tof_vc at h
 refine G ?_
 refine wL (oB 4 (fun c1 _=>?_))
 refine wL (oB 2 (fun c2 _=>?_))
 refine wL (oB 1 (fun c3 _=>?_))
 refine wL (oA 2 (.agg ([D.s ByteArray.empty,.v (.slice none 0 0)])) tz70 (fun c4 _=>?_))
 obtain⟨q1,q2,h⟩:=h
 refine G ?_
 refine wL (oC (tvalid_c c t q1 q2) ?_)
 refine G ?_
 refine zc h (fun _ h=>G ?_) (fun _ h=>?_)
 refine wL (oU [.v (.string ⟨#[]⟩),.v (.slice none 0 0)] tp70 tz70 ?_)
 refine G ?_
 exact⟨_,(.cell (.whole ti70 rfl rfl .head rfl ⟨_,rfl⟩) (.tmp (d:=D.i 1) rfl .nil)),_,(.tup (.agg (.same rfl (.nilv (sz:=4) .nil)) (.same rfl .nil)) .nil),⟨((Attribution.mk ByteArray.empty []),1),rfl,h⟩⟩
 refine g ?_
 refine zav (asg [(3,.ptr c1 4 0 0),(4,.ptr c2 2 0 0),(5,.ptr c3 1 0 0),(6,.ptr c4 2 0 0),(7,D.i 0),(24,D.b ((decide (least<1))||(decide (least>8192))))]) [(c4,.cells 2 [.agg ([D.s ByteArray.empty,.v (.slice none 0 0)])]),(c3,.cells 1 [D.i least]),(c2,.cells 2 [zaa t]),(c1,.cells 4 [zao c])] ?_ ?_
 refine G ?_
 refine zp 27 (fun b23=>G ?_) (fun b23=>?_)
 exact⟨(cvB (orS b23)),(.refl _)⟩
 refine G ?_
 exact⟨(cvB (orN b23 rfl)),(.refl _)⟩
 refine zc h (fun _ h=>G ?_) (fun _ h=>?_)
 refine wL (oU [.v (.string ⟨#[]⟩),.v (.slice none 0 0)] tp70 tz70 ?_)
 refine G ?_
 exact⟨_,(.cell (.whole ti70 rfl rfl .head rfl ⟨_,rfl⟩) (.tmp (d:=D.i 3) rfl .nil)),_,(.tup (.agg (.same rfl (.nilv (sz:=4) .nil)) (.same rfl .nil)) .nil),⟨((Attribution.mk ByteArray.empty []),3),rfl,h⟩⟩
 obtain⟨q1,q2,h⟩:=h
 refine G ?_
 refine wL (oC (tlongest_c c t q1 q2) ?_)
 refine wL (oA 1 (.v (.slice none 0 0)) tz41 (fun c7 _=>?_))
 refine G ?_
 obtain⟨q1,q2,h⟩:=h
 refine G ?_
 refine wL (OpA.makeSliceV (enc:=(encA2 D.i)) (v0:=(0,0)) rfl ts138 rfl rfl tz142 (fun _ _=> .agg (.cons (.v _) (.cons (.v _) .nil))) (.of rfl) q2 (fun c8=>?_))
 refine wL (oA 1 (.v (.slice none 0 0)) tz138 (fun c9 _=>?_))
 refine G ?_
 obtain⟨q1,h⟩:=h
 refine G ?_
 refine wL (oC (backL_c t.words q1) ?_)
 iterate 2 refine g ?_
 refine wpA_cov (fr0:=asg [(3,.ptr c1 4 0 0),(4,.ptr c2 2 0 0),(5,.ptr c3 1 0 0),(6,.ptr c4 2 0 0),(7,D.i 0),(8,D.i (t.words.length:Int)),(9,.ptr c7 1 0 0),(10,.ptr c9 1 0 0),(43,.fn (.func 112) [] [.iptr ((zai 2 zau) t.words) 0])]) cvZ ?_
 refine wpA_back (enc:=zau) (xs:=t.words) (S:=(List (Int×Int))) (G:=Nat×List D×List D) (c8,([]:List D),([]:List D)) (fun gg ss=> [(c9,.cells 1 [.own gg.1 2 gg.2.1.length ss.length]),(gg.1,.cells 2 (zas (encA2 D.i) gg.2.1 ss gg.2.2)),(c7,.cells 1 [(zai 1 D.i) (longAF c t)]),(c4,.cells 2 [.agg ([D.s ByteArray.empty,.v (.slice none 0 0)])]),(c3,.cells 1 [D.i least]),(c2,.cells 2 [zaa t]),(c1,.cells 4 [zao c])]) rfl zK (backL_it t.words (by assumption)) h (.refl _) rfl ?_ ?_
 · skip
   rintro again10 ⟨cb40,pre40,post40⟩ xs ix hix h
   dsimp only at h
   unfold tof_L1 at h
   replace h:=h.1 hix
   show wpA _ _ _ _ (upd (upd (asg [(3,.ptr c1 4 0 0),(4,.ptr c2 2 0 0),(5,.ptr c3 1 0 0),(6,.ptr c4 2 0 0),(7,D.i 0),(8,D.i (t.words.length:Int)),(9,.ptr c7 1 0 0),(10,.ptr c9 1 0 0),(43,.fn (.func 112) [] [.iptr ((zai 2 zau) t.words) 0])]) 44 (D.i ix)) 45 (zau (gi t.words ix))) [(c9,.cells 1 [.own cb40 2 pre40.length xs.length]),(cb40,.cells 2 (zas (encA2 D.i) pre40 xs post40)),(c7,.cells 1 [(zai 1 D.i) (longAF c t)]),(c4,.cells 2 [.agg ([D.s ByteArray.empty,.v (.slice none 0 0)])]),(c3,.cells 1 [D.i least]),(c2,.cells 2 [zaa t]),(c1,.cells 4 [zao c])]
   obtain⟨q1,q2,q3,h⟩:=h
   iterate 5 refine g ?_
   refine zbf (m:=8) mo zK rfl ?_
   refine G ?_
   refine dL (oIv ts138 q2 oR) ?_
   refine dL (OpA.load_whole rfl ti142 rfl rfl (.tail .head) (getV (enc:=(encA2 D.i)) q2) ⟨_,rfl⟩ oR) ?_
   refine dL (oIv ts138 q3 oR) ?_
   refine DetK.nil ?_
   refine wE (OpA.storeV (enc:=(encA2 D.i)) (v:=(gi xs (ix+1))) rfl ti142 rfl rfl (.of rfl) rfl q3 (.tail .head) ?_)
   iterate 7 refine g ?_
   refine wpA_heq (h':= [(c9,.cells 1 [.own cb40 2 pre40.length (si xs ix (gi xs (ix+1))).length]),(cb40,.cells 2 (zas (encA2 D.i) pre40 (si xs ix (gi xs (ix+1))) post40)),(c7,.cells 1 [(zai 1 D.i) (longAF c t)]),(c4,.cells 2 [.agg ([D.s ByteArray.empty,.v (.slice none 0 0)])]),(c3,.cells 1 [D.i least]),(c2,.cells 2 [zaa t]),(c1,.cells 4 [zao c])]) (by simp only [zan,zah,zac zam,zac zaf,zac zal]<;>rfl) ?_
   refine wpA_cov (fr0:=asg [(3,.ptr c1 4 0 0),(4,.ptr c2 2 0 0),(5,.ptr c3 1 0 0),(6,.ptr c4 2 0 0),(7,D.i 0),(8,D.i (t.words.length:Int)),(9,.ptr c7 1 0 0),(10,.ptr c9 1 0 0),(11,D.i ix),(12,D.i least),(43,.fn (.func 112) [] [.iptr ((zai 2 zau) t.words) 0]),(44,D.i ix),(45,zau (gi t.words ix)),(46,.own cb40 2 pre40.length (si xs ix (gi xs (ix+1))).length),(47,D.i ix),(48,.own cb40 2 pre40.length (si xs ix (gi xs (ix+1))).length),(49,D.i ix),(50,D.i (ix+1)),(51,.ptr cb40 2 (pre40.length+(Int.toNat (ix+1))) 0),(52,(encA2 D.i) (gi xs (ix+1))),(53,.ptr cb40 2 (pre40.length+(Int.toNat ix)) 0),(54,D.i least)]) (Cov.asg ⟨rfl,rfl,rfl,rfl,rfl,rfl,rfl,rfl,rfl,rfl,rfl,rfl,rfl,(congrArg (D.own cb40 2 pre40.length) (by simp only [zan,zah,zac zam,zac zaf,zac zal]<;>rfl)),rfl,(congrArg (D.own cb40 2 pre40.length) (by simp only [zan,zah,zac zam,zac zaf,zac zal]<;>rfl)),rfl,rfl,rfl,rfl,rfl,rfl,trivial⟩) ?_
   refine zl h (cb40,pre40,post40) (fun gg ss=> [(9,.ptr c7 1 0 0),(10,.ptr c9 1 0 0),(11,D.i ix),(12,D.i ss.2)]) (fun gg ss=> [(c9,.cells 1 [.own gg.1 2 gg.2.1.length ss.1.length]),(gg.1,.cells 2 (zas (encA2 D.i) gg.2.1 ss.1 gg.2.2)),(c7,.cells 1 [(zai 1 D.i) (longAF c t)]),(c4,.cells 2 [.agg ([D.s ByteArray.empty,.v (.slice none 0 0)])]),(c3,.cells 1 [D.i least]),(c2,.cells 2 [zaa t]),(c1,.cells 4 [zao c])]) ?_
   rintro again11 ⟨cb401,pre401,post401⟩ ⟨xs1,k⟩ h
   dsimp only at h
   unfold tof_L2 at h
   obtain⟨q1,h⟩:=h
   refine G ?_
   refine wL (oIx (enc:=D.i) ts41 q1 ?_)
   refine G ?_
   refine zc h (fun _ h=>?_) (fun _ h=>G ?_)
   obtain⟨q1,q2,q3,q4,q5,h⟩:=h
   iterate 3 refine g ?_
   refine zbf (m:=16) mo zK rfl ?_
   refine G ?_
   refine dL (oIv ts138 q1 oR) ?_
   refine dL (OpA.load_whole rfl ti142 rfl rfl (.tail .head) (getV (enc:=(encA2 D.i)) q1) ⟨_,rfl⟩ oR) ?_
   refine G ?_
   refine dL (oIv ts138 q3 oR) ?_
   refine dL (OpA.load_whole rfl ti142 rfl rfl (.tail .head) (getV (enc:=(encA2 D.i)) q3) ⟨_,rfl⟩ oR) ?_
   refine G ?_
   refine dL (oC (tafter_c (gi xs1 (ix+k)) k q4 q5) oR) ?_
   refine dL (oC (tbetter_c (gi xs1 ix) (afterP (gi xs1 (ix+k)) k)) oR) ?_
   refine dL (oIv ts138 q1 oR) ?_
   refine DetK.nil ?_
   refine wE (OpA.storeV (enc:=(encA2 D.i)) (v:=(betterP (gi xs1 ix) (afterP (gi xs1 (ix+k)) k))) rfl ti142 rfl rfl (.of rfl) rfl q1 (.tail .head) ?_)
   obtain⟨q1,h⟩:=h
   refine G ?_
   exact⟨(cb401,pre401,post401),((si xs1 ix (betterP (gi xs1 ix) (afterP (gi xs1 (ix+k)) k))),(k+1)),h,cvZ,(sub_heq (h':= [(c9,.cells 1 [.own cb401 2 pre401.length (si xs1 ix (betterP (gi xs1 ix) (afterP (gi xs1 (ix+k)) k))).length]),(cb401,.cells 2 (zas (encA2 D.i) pre401 (si xs1 ix (betterP (gi xs1 ix) (afterP (gi xs1 (ix+k)) k))) post401)),(c7,.cells 1 [(zai 1 D.i) (longAF c t)]),(c4,.cells 2 [.agg ([D.s ByteArray.empty,.v (.slice none 0 0)])]),(c3,.cells 1 [D.i least]),(c2,.cells 2 [zaa t]),(c1,.cells 4 [zao c])]) (by simp only [zan,zah,zac zam,zac zaf,zac zal]<;>rfl) (.refl _))⟩
   exact⟨(cb401,pre401,post401),xs1,h,(.refl _)⟩
 · skip
   rintro again10 ⟨cb40,pre40,post40⟩ xs ix hix h
   dsimp only at h
   unfold tof_L1 at h
   replace h:=h.2 hix
   refine G ?_
   refine wL (oU [.v (.string ⟨#[]⟩),.v (.slice none 0 0)] tp70 tz70 ?_)
   refine wL (oA 2 (.agg ([D.s ByteArray.empty,.v (.slice none 0 0)])) tz70 (fun c13 _=>?_))
   iterate 8 refine g ?_
   refine wpA_ghostM (c:=c13) (sz1:=2) (sz:=4) (es':=fun g14=> [.agg ([D.s t.path,.own g14 4 ([]:List D).length ([]:List Piece).length])]) (fun _=> .head) (fun _=>(.same (.turn .nil))) (fun _=>rfl) (fun _=>by rintro d (_|⟨_,hd⟩); exact .of rfl; cases hd) (fun g14=>?_)
   refine zl h (g14,([]:List D),([]:List D)) (fun gg ss=> [(3,.ptr c1 4 0 0),(4,.ptr c2 2 0 0),(5,.ptr c3 1 0 0),(6,.ptr c4 2 0 0),(7,D.i 0),(8,D.i (t.words.length:Int)),(9,.ptr c7 1 0 0),(10,.ptr c9 1 0 0),(13,.ptr c13 2 0 0),(14,D.i ss.2)]) (fun gg ss=> [(gg.1,.cells 4 (zas zca gg.2.1 ss.1 gg.2.2)),(c13,.cells 2 [.agg ([D.s t.path,.own gg.1 4 gg.2.1.length ss.1.length])]),(c9,.cells 1 [.own cb40 2 pre40.length xs.length]),(cb40,.cells 2 (zas (encA2 D.i) pre40 xs post40)),(c7,.cells 1 [(zai 1 D.i) (longAF c t)]),(c4,.cells 2 [.agg ([D.s ByteArray.empty,.v (.slice none 0 0)])]),(c3,.cells 1 [D.i least]),(c2,.cells 2 [zaa t]),(c1,.cells 4 [zao c])]) ?_
   rintro again15 ⟨cbgh13,pregh13,postgh13⟩ ⟨xs2,i⟩ h
   dsimp only at h
   unfold tof_L3 at h
   refine G ?_
   refine zc h (fun _ h=>?_) (fun _ h=>G ?_)
   obtain⟨q1,h⟩:=h
   refine G ?_
   refine wL (oIx (enc:=D.i) ts41 q1 ?_)
   refine G ?_
   refine zl h () (fun gg ss=> [(3,.ptr c1 4 0 0),(4,.ptr c2 2 0 0),(5,.ptr c3 1 0 0),(6,.ptr c4 2 0 0),(7,D.i 0),(8,D.i (t.words.length:Int)),(9,.ptr c7 1 0 0),(10,.ptr c9 1 0 0),(13,.ptr c13 2 0 0),(14,D.i i),(15,D.i ss)]) (fun gg ss=> [(cbgh13,.cells 4 (zas zca pregh13 xs2 postgh13)),(c13,.cells 2 [.agg ([D.s t.path,.own cbgh13 4 pregh13.length xs2.length])]),(c9,.cells 1 [.own cb40 2 pre40.length xs.length]),(cb40,.cells 2 (zas (encA2 D.i) pre40 xs post40)),(c7,.cells 1 [(zai 1 D.i) (longAF c t)]),(c4,.cells 2 [.agg ([D.s ByteArray.empty,.v (.slice none 0 0)])]),(c3,.cells 1 [D.i least]),(c2,.cells 2 [zaa t]),(c1,.cells 4 [zao c])]) ?_
   rintro again17 _ k1 h
   unfold tof_L4 at h
   obtain⟨q1,h⟩:=h
   iterate 2 refine g ?_
   refine zav (asg [(3,.ptr c1 4 0 0),(4,.ptr c2 2 0 0),(5,.ptr c3 1 0 0),(6,.ptr c4 2 0 0),(7,D.i 0),(8,D.i (t.words.length:Int)),(9,.ptr c7 1 0 0),(10,.ptr c9 1 0 0),(13,.ptr c13 2 0 0),(14,D.i i),(15,D.i k1),(106,D.b ((decide (k1>=least))&&(!(aeq 2 ([(afterP (gi xs (i+k1)) k1).1,(afterP (gi xs (i+k1)) k1).2]:List Int) ([(gi xs i).1,(gi xs i).2]:List Int)))))]) [(cbgh13,.cells 4 (zas zca pregh13 xs2 postgh13)),(c13,.cells 2 [.agg ([D.s t.path,.own cbgh13 4 pregh13.length xs2.length])]),(c9,.cells 1 [.own cb40 2 pre40.length xs.length]),(cb40,.cells 2 (zas (encA2 D.i) pre40 xs post40)),(c7,.cells 1 [(zai 1 D.i) (longAF c t)]),(c4,.cells 2 [.agg ([D.s ByteArray.empty,.v (.slice none 0 0)])]),(c3,.cells 1 [D.i least]),(c2,.cells 2 [zaa t]),(c1,.cells 4 [zao c])] ?_ ?_
   refine zbf (m:=18) mo zK rfl ?_
   iterate 4 refine g ?_
   refine zbr (s:=92) rfl (fun b22=>?_) (fun b22=>?_)
   refine G ?_
   refine dG (oAd (q1 (decT b22)).1 oR) ?_
   refine dG (oIv ts138 (q1 (decT b22)).2.1 oR) ?_
   refine dG (OpA.load_whole rfl ti142 rfl rfl (.tail (.tail (.tail .head))) (getV (enc:=(encA2 D.i)) (q1 (decT b22)).2.1) ⟨_,rfl⟩ oR) ?_
   refine G ?_
   refine dG (oC (tafter_c (gi xs (i+k1)) k1 (q1 (decT b22)).2.2.1 (q1 (decT b22)).2.2.2.1) oR) ?_
   refine G ?_
   refine dG (oIv ts138 (q1 (decT b22)).2.2.2.2 oR) ?_
   refine dG (OpA.load_whole rfl ti142 rfl rfl (.tail (.tail (.tail .head))) (getV (enc:=(encA2 D.i)) (q1 (decT b22)).2.2.2.2) ⟨_,rfl⟩ oR) ?_
   refine dG (OpA.arrcmp (l:=([(afterP (gi xs (i+k1)) k1).1,(afterP (gi xs (i+k1)) k1).2]:List Int)) (m:=([(gi xs i).1,(gi xs i).2]:List Int)) rfl eg142 td142 ti3 td3 rfl rfl (.inr ⟨rfl,rfl⟩) oR) ?_
   refine g ?_
   refine DetK.nil ?_
   refine G ?_
   exact⟨(cvB (andN b22 rfl)),(.refl _)⟩
   iterate 14 refine g ?_
   refine DetK.nil ?_
   refine G ?_
   exact⟨(cvB (andS b22)),(.refl _)⟩
   refine zc h (fun _ h=>?_) (fun _ h=>G ?_)
   obtain⟨q1,h⟩:=h
   refine G ?_
   exact⟨(),(k1-1),h,cvZ,(.refl _)⟩
   refine zc h (fun _ h=>?_) (fun _ h=>?_)
   obtain⟨q1,h⟩:=h
   refine G ?_
   exact⟨(cbgh13,pregh13,postgh13),(xs2,(i+1)),h,cvZ,(.refl _)⟩
   obtain⟨q1,q2,q3,q4,h⟩:=h
   iterate 2 refine g ?_
   refine zbf (m:=14) mo zK rfl ?_
   refine G ?_
   refine dL (OpA.isliceV (enc:=zau) rfl ts24 rfl (.some rfl) (.some rfl) q2 oR) ?_
   refine dL (oC (tsource_c c (zbc t.words i (i+k1)) q3 q4) oR) ?_
   iterate 5 refine g ?_
   refine DetK.nil ?_
   obtain⟨q1,q2,h⟩:=h
   refine G ?_
   refine wL (oU [.v (.int .i64 0),.v (.int .i64 0),.v (.int .i64 0),.v (.int .i64 0)] tp81 tz81 ?_)
   refine wL (OpA.ibuildSliceO rfl ts68 rfl (.cons (.of (sz:=4) rfl) .nil) (by decide) ?_)
   refine wL (OpA.appendW (enc:=zca) rfl rfl rfl rfl ts68 rfl (fun _ _=> .head) (.list (ys:=([(Piece.mk i (i+k1) ((srcF c (zbc t.words i (i+k1))).1) ((srcF c (zbc t.words i (i+k1))).2))]:List Piece))) q2 (fun c20 pre21=>?_))
   refine g ?_
   refine wE (OpA.store (e':= .agg ([D.s t.path,.own c20 4 pre21.length (xs2++([(Piece.mk i (i+k1) ((srcF c (zbc t.words i (i+k1))).1) ((srcF c (zbc t.words i (i+k1))).2))]:List Piece)).length])) rfl ti68 rfl (.of rfl) rfl (Nat.le_of_ble_eq_true rfl) rfl (.tail .head) ?_)
   obtain⟨q1,h⟩:=h
   refine G ?_
   exact⟨(c20,pre21,([]:List D)),((xs2++([(Piece.mk i (i+k1) ((srcF c (zbc t.words i (i+k1))).1) ((srcF c (zbc t.words i (i+k1))).2))]:List Piece)),(i+k1)),h,cvZ,(.refl _)⟩
   exact⟨_,(.cell (.whole ti70 rfl rfl (.tail (.tail (.tail (.tail (.tail .head))))) rfl ⟨_,rfl⟩) (.tmp (d:=D.i 0) rfl .nil)),_,(.tup (.agg (.same rfl (.win .head (by intro hf; cases hf) .nil)) (.same rfl .nil)) .nil),⟨((Attribution.mk t.path xs2),0),rfl,h⟩⟩
theorem tranged_c (t:Text)(p:Piece)(hp0:okT t):Fun false Tryz.prog 70 [zaa t,zca p] (fun d=>d=D.b (rangedF t p)):=by
 refine fB Tryz.func70 Tryz.ntmps70 (tranged_ok t p _ hp0 rfl) fun Q h=>?_
 unfold tranged_vc at h
 refine G ?_
 refine wL (oB 2 (fun c1 _=>?_))
 refine wL (oB 4 (fun c2 _=>?_))
 iterate 3 refine g ?_
 refine zav (asg [(4,D.b (((decide (p.from_>=0))&&(decide (p.from_<p.to)))&&(decide (p.to<=(t.words.length:Int)))))]) [(c2,.cells 4 [zca p]),(c1,.cells 2 [zaa t])] ?_ ?_
 refine G ?_
 refine zp 8 (fun b3=>G ?_) (fun b3=>?_)
 refine zp 15 (fun b4=>G ?_) (fun b4=>?_)
 exact⟨(cvB (andN (andN b3 b4) rfl)),(.refl _)⟩
 refine G ?_
 exact⟨(cvB (andS (andN b3 b4))),(.refl _)⟩
 refine G ?_
 exact⟨(cvB (andS (andS b3))),(.refl _)⟩
 refine G ?_
 exact zr h
theorem tcheck_c (c:Corpus)(t:Text)(least:Int)(a:Attribution)(hp0:okC c)(hp1:okT t)(hp2:okA a):Fun false Tryz.prog 75 [zao c,zaa t,D.i least,zaz a] (fun d=>d=D.i (checkA c t least a)):=by
 refine fB Tryz.func75 Tryz.ntmps75 (tcheck_ok c t least a _ hp0 hp1 hp2 rfl) fun Q h=>?_
 unfold tcheck_vc at h
 refine G ?_
 refine wL (oB 4 (fun c1 _=>?_))
 refine wL (oB 2 (fun c2 _=>?_))
 refine wL (oB 2 (fun c3 _=>?_))
 obtain⟨q1,q2,h⟩:=h
 refine G ?_
 refine wL (oC (tvalid_c c t q1 q2) ?_)
 refine G ?_
 refine zc h (fun _ h=>G ?_) (fun _ h=>?_)
 exact zr h
 refine g ?_
 refine zav (asg [(2,D.i least),(4,.ptr c1 4 0 0),(5,.ptr c2 2 0 0),(7,.ptr c3 2 0 0),(8,D.i 0),(18,D.b ((decide (least<1))||(decide (least>8192))))]) [(c3,.cells 2 [zaz a]),(c2,.cells 2 [zaa t]),(c1,.cells 4 [zao c])] ?_ ?_
 refine G ?_
 refine zp 21 (fun b16=>G ?_) (fun b16=>?_)
 exact⟨(cvB (orS b16)),(.refl _)⟩
 refine G ?_
 exact⟨(cvB (orN b16 rfl)),(.refl _)⟩
 refine zc h (fun _ h=>G ?_) (fun _ h=>G ?_)
 exact zr h
 refine wL (OpA.sneq rfl rfl rfl ?_)
 refine G ?_
 refine zc h (fun _ h=>G ?_) (fun _ h=>G ?_)
 exact zr h
 refine zl h () (fun gg ss=> [(2,D.i least),(4,.ptr c1 4 0 0),(5,.ptr c2 2 0 0),(8,D.i 0),(9,D.i ss.1),(32,(zai 4 zca) a.pieces),(33,D.i (a.pieces.length:Int)),(34,D.i ss.2)]) (fun gg ss=> [(c3,.cells 2 [zaz a]),(c2,.cells 2 [zaa t]),(c1,.cells 4 [zao c])]) ?_
 rintro again7 _ ⟨end_,x⟩ h
 dsimp only at h
 unfold tcheck_L1 at h
 refine G ?_
 refine zc h (fun _ h=>?_) (fun _ h=>G ?_)
 obtain⟨q1,h⟩:=h
 refine G ?_
 refine wL (oIx (enc:=zca) ts68 q1 ?_)
 refine G ?_
 refine wL (oA 4 (zca (Piece.mk 0 0 0 0)) tz81 (fun c9 _=>?_))
 iterate 3 refine g ?_
 refine zav (asg [(2,D.i least),(4,.ptr c1 4 0 0),(5,.ptr c2 2 0 0),(8,D.i 0),(9,D.i end_),(11,.ptr c9 4 0 0),(12,D.b ((decide ((gi a.pieces x).text>=0))&&(decide ((gi a.pieces x).text<(c.texts.length:Int))))),(32,(zai 4 zca) a.pieces),(33,D.i (a.pieces.length:Int)),(34,D.i x)]) [(c9,.cells 4 [zca (gi a.pieces x)]),(c3,.cells 2 [zaz a]),(c2,.cells 2 [zaa t]),(c1,.cells 4 [zao c])] ?_ ?_
 refine G ?_
 refine zp 41 (fun b15=>G ?_) (fun b15=>?_)
 exact⟨(cvB (andN b15 rfl)),(.refl _)⟩
 refine G ?_
 exact⟨(cvB (andS b15)),(.refl _)⟩
 obtain⟨q1,q2,q3,h⟩:=h
 iterate 2 refine g ?_
 refine zav (asg [(2,D.i least),(4,.ptr c1 4 0 0),(5,.ptr c2 2 0 0),(8,D.i 0),(9,D.i end_),(11,.ptr c9 4 0 0),(32,(zai 4 zca) a.pieces),(33,D.i (a.pieces.length:Int)),(34,D.i x),(85,D.b ((((!(rangedF t (gi a.pieces x)))||(decide ((((gi a.pieces x).to)-((gi a.pieces x).from_))<least)))||(!((decide ((gi a.pieces x).text>=0))&&(decide ((gi a.pieces x).text<(c.texts.length:Int))))))||(!(sameF (zbc t.words ((gi a.pieces x).from_) ((gi a.pieces x).to)) ((gi c.texts ((gi a.pieces x).text)).words) ((gi a.pieces x).at_)))))]) [(c9,.cells 4 [zca (gi a.pieces x)]),(c3,.cells 2 [zaz a]),(c2,.cells 2 [zaa t]),(c1,.cells 4 [zao c])] ?_ ?_
 refine zbf (m:=37) mo zK rfl ?_
 refine G ?_
 refine dL (oC (tranged_c t (gi a.pieces x) q1) oR) ?_
 iterate 2 refine g ?_
 refine zbr (s:=53) rfl (fun b12=>?_) (fun b12=>?_)
 iterate 32 refine g ?_
 refine DetK.nil ?_
 refine G ?_
 exact⟨(cvB (orS (orS (orS b12)))),(.refl _)⟩
 refine G ?_
 refine dG (oSb (q2 (notF b12)) oR) ?_
 iterate 4 refine g ?_
 refine zbr (s:=62) rfl (fun b13=>?_) (fun b13=>?_)
 iterate 23 refine g ?_
 refine DetK.nil ?_
 refine G ?_
 exact⟨(cvB (orS (orS (orN b12 b13)))),(.refl _)⟩
 iterate 4 refine g ?_
 refine zbr (s:=66) rfl (fun b14=>?_) (fun b14=>?_)
 iterate 19 refine g ?_
 refine DetK.nil ?_
 refine G ?_
 exact⟨(cvB (orS (orN (orN b12 b13) b14))),(.refl _)⟩
 refine G ?_
 refine dG (OpA.isliceV (enc:=zau) rfl ts24 rfl (.some rfl) (.some rfl) (q3 ⟨⟨(notF b12),(decF b13)⟩,⟨(decT (and1 (notF b14))),(decT (and2 (notF b14)))⟩⟩).1 oR) ?_
 refine G ?_
 refine dG (oIx (enc:=zaa) ts61 (q3 ⟨⟨(notF b12),(decF b13)⟩,⟨(decT (and1 (notF b14))),(decT (and2 (notF b14)))⟩⟩).2.1 oR) ?_
 refine G ?_
 refine dG (oC (tsame_c (zbc t.words ((gi a.pieces x).from_) ((gi a.pieces x).to)) ((gi c.texts ((gi a.pieces x).text)).words) ((gi a.pieces x).at_) (q3 ⟨⟨(notF b12),(decF b13)⟩,⟨(decT (and1 (notF b14))),(decT (and2 (notF b14)))⟩⟩).2.2.1 (q3 ⟨⟨(notF b12),(decF b13)⟩,⟨(decT (and1 (notF b14))),(decT (and2 (notF b14)))⟩⟩).2.2.2) oR) ?_
 iterate 2 refine g ?_
 refine DetK.nil ?_
 refine G ?_
 exact⟨(cvB (orN (orN (orN b12 b13) b14) rfl)),(.refl _)⟩
 refine zc h (fun _ h=>G ?_) (fun _ h=>G ?_)
 exact zr h
 refine zc h (fun _ h=>G ?_) (fun _ h=>?_)
 exact zr h
 obtain⟨q1,h⟩:=h
 refine G ?_
 exact⟨(),((gi a.pieces x).to,(x+1)),h,cvZ,(.cons _ (.refl _))⟩
 exact zr h
theorem tshare_c (c:Corpus)(t:Text)(a:Attribution)(hp0:okC c)(hp1:okT t)(hp2:okA a):Fun false Tryz.prog 27 [zao c,zaa t,zaz a] (fun d=>d= .tup [(zai 1 D.i) ((shareF c t a).1),D.i ((shareF c t a).2)]):=by
 refine fB Tryz.func27 Tryz.ntmps27 (v:=shareF c t a) (enc:=fun r=> .tup [(zai 1 D.i) (r.1),D.i (r.2)]) (tshare_ok c t a _ hp0 hp1 hp2 rfl) fun Q h=>?_
 unfold tshare_vc at h
 refine G ?_
 refine wL (oB 4 (fun c1 _=>?_))
 refine wL (oB 2 (fun c2 _=>?_))
 refine wL (oB 2 (fun c3 _=>?_))
 obtain⟨q1,q2,h⟩:=h
 refine G ?_
 refine wL (oC (tvalid_c c t q1 q2) ?_)
 refine G ?_
 refine zc h (fun _ h=>G ?_) (fun _ h=>?_)
 exact⟨_,(.tmp (d:= .v (.slice none 0 0)) rfl (.tmp (d:=D.i 1) rfl .nil)),_,(.tup (.nilv (sz:=1) (.same rfl .nil)) .nil),⟨([],1),rfl,h⟩⟩
 obtain⟨q1,q2,q3,h⟩:=h
 refine G ?_
 refine wL (oC (tcheck_c c t 1 a q1 q2 q3) ?_)
 refine G ?_
 refine zc h (fun _ h=>G ?_) (fun _ h=>?_)
 exact⟨_,(.tmp (d:= .v (.slice none 0 0)) rfl (.tmp (d:=D.i 18) rfl .nil)),_,(.tup (.nilv (sz:=1) (.same rfl .nil)) .nil),⟨([],18),rfl,h⟩⟩
 obtain⟨q1,h⟩:=h
 refine G ?_
 refine wL (OpA.makeSliceV (enc:=D.i) (v0:=0) rfl ts41 rfl rfl tz3 (fun _ _=> .v _) (.of rfl) q1 (fun c6=>?_))
 refine G ?_
 refine zl h (c6,([]:List D),([]:List D)) (fun gg ss=> [(6,.v (.slice none 0 0)),(7,D.i 0),(8,.own gg.1 1 gg.2.1.length ss.1.length),(25,(zai 4 zca) a.pieces),(26,D.i (a.pieces.length:Int)),(27,D.i ss.2)]) (fun gg ss=> [(gg.1,.cells 1 (zas D.i gg.2.1 ss.1 gg.2.2)),(c3,.cells 2 [zaz a]),(c2,.cells 2 [zaa t]),(c1,.cells 4 [zao c])]) ?_
 rintro again7 ⟨cb23,pre23,post23⟩ ⟨out,x⟩ h
 dsimp only at h
 unfold tshare_L1 at h
 refine G ?_
 refine zc h (fun _ h=>?_) (fun _ h=>G ?_)
 obtain⟨q1,h⟩:=h
 refine G ?_
 refine wL (oIx (enc:=zca) ts68 q1 ?_)
 refine G ?_
 refine wL (oA 4 (zca (Piece.mk 0 0 0 0)) tz81 (fun c9 _=>?_))
 refine g ?_
 obtain⟨q1,q2,q3,h⟩:=h
 refine g ?_
 refine zbf (m:=12) mo zK rfl ?_
 refine G ?_
 refine dL (oIv ts41 q1 oR) ?_
 refine dL (OpA.load rfl ti3 rfl (.tail .head) (getV (enc:=D.i) q1) rfl oR) ?_
 refine G ?_
 refine dL (oIv ts41 q1 oR) ?_
 refine DetK.nil ?_
 refine wE (OpA.storeV (enc:=D.i) (v:=((gi out ((gi a.pieces x).text))+(((gi a.pieces x).to)-((gi a.pieces x).from_)))) rfl ti3 rfl rfl (.of rfl) rfl q1 (.tail .head) ?_)
 obtain⟨q1,h⟩:=h
 refine G ?_
 exact⟨(cb23,pre23,post23),((si out ((gi a.pieces x).text) ((gi out ((gi a.pieces x).text))+(((gi a.pieces x).to)-((gi a.pieces x).from_)))),(x+1)),h,(Cov.asg ⟨rfl,rfl,(congrArg (D.own cb23 1 pre23.length) (by simp only [zan,zah,zac zam,zac zaf,zac zal]<;>rfl)),rfl,rfl,rfl,trivial⟩),(.cons _ (.refl _))⟩
 exact⟨_,(.tmp (d:= .own cb23 1 pre23.length out.length) rfl (.tmp (d:=D.i 0) rfl .nil)),_,(.tup (.win .head (by intro hf; cases hf) (.same rfl .nil)) .nil),⟨(out,0),rfl,h⟩⟩
theorem trest_w (to:Int)(t:Text)(e:Int)(c_e:Nat)(l:(List Line))(c_l d_l:Nat)(pre_l post_l:List D)(Q:(List Line)->Prop)(h:trest_vc to t e l Q):CallH Tryz.prog 69 [D.i to,.iptr (zaa t) 0,.ptr c_e 1 0 0,.ptr c_l 1 0 0] [(c_e,.cells 1 [D.i e]),(c_l,.cells 1 [.own d_l 2 pre_l.length l.length]),(d_l,.cells 2 (zas encLine pre_l l post_l))] (fun d h'=>∃(r:(List Line)) (g:Nat×List D×List D),d= .tup []/\h'= [(c_l,.cells 1 [.own g.1 2 g.2.1.length r.length]),(g.1,.cells 2 (zas encLine g.2.1 r g.2.2)),(c_e,.cells 1 [D.i e])]/\Q r):=by
 unfold trest_vc at h
 refine CallH.of_bodyP Tryz.func69 rfl Tryz.ntmps69 rfl ?_
 obtain⟨q1,h⟩:=h
 refine G ?_
 refine wL (OpA.isliceV (enc:=zau) rfl ts24 rfl (.some rfl) (.some rfl) q1 ?_)
 refine G ?_
 refine zl h (d_l,pre_l,post_l) (fun gg ss=> [(1,.iptr (zaa t) 0),(3,.ptr c_l 1 0 0),(11,(zai 2 zau) (zbc t.words e to)),(12,D.i ((zbc t.words e to).length:Int)),(13,D.i ss.2)]) (fun gg ss=> [(c_e,.cells 1 [D.i e]),(c_l,.cells 1 [.own gg.1 2 gg.2.1.length ss.1.length]),(gg.1,.cells 2 (zas encLine gg.2.1 ss.1 gg.2.2))]) ?_
 rintro again1 ⟨cbp3s,prep3s,postp3s⟩ ⟨xs,x⟩ h
 dsimp only at h
 unfold trest_L1 at h
 refine G ?_
 refine zc h (fun _ h=>?_) (fun _ h=>G ?_)
 obtain⟨q1,h⟩:=h
 refine G ?_
 refine wL (oIx (enc:=zau) ts24 q1 ?_)
 refine G ?_
 refine wL (oA 2 (zau (Lexeme.mk ByteArray.empty 0)) tz30 (fun c3 _=>?_))
 refine G ?_
 obtain⟨q1,h⟩:=h
 refine G ?_
 refine wL (oU [.v (.string ⟨#[]⟩),.v (.int .i64 0)] tp149 tz149 ?_)
 refine wL (OpA.ibuildSliceO rfl ts147 rfl (.cons (.of (sz:=2) rfl) .nil) (by decide) ?_)
 refine wL (OpA.appendW (enc:=encLine) rfl rfl rfl rfl ts147 rfl (fun _ _=>(.tail (.tail (.tail .head)))) (.list (ys:=([(Line.mk t.path ((gi (zbc t.words e to) x).line))]:List Line))) q1 (fun c4 pre5=>?_))
 refine G ?_
 obtain⟨q1,h⟩:=h
 refine G ?_
 exact⟨(c4,pre5,([]:List D)),((xs++([(Line.mk t.path ((gi (zbc t.words e to) x).line))]:List Line)),(x+1)),h,cvZ,(.cons _ (.refl _))⟩
 exact⟨_,.nil,[(c_l,.cells 1 [.own cbp3s 2 prep3s.length xs.length]),(cbp3s,.cells 2 (zas encLine prep3s xs postp3s)),(c_e,.cells 1 [D.i e])],[(c_l,.cells 1 [.own cbp3s 2 prep3s.length xs.length]),(cbp3s,.cells 2 (zas encLine prep3s xs postp3s)),(c_e,.cells 1 [D.i e])],(pull1.trans (.cons _ pull1)),(.refl _),xs,(cbp3s,prep3s,postp3s),rfl,rfl,h⟩
theorem trest_c (to:Int)(t:Text)(e:Int)(c_e:Nat)(l:(List Line))(c_l d_l:Nat)(pre_l post_l:List D)(hp0:inS e to t.words.length)(hp1:l.length+t.words.length<=1000000):CallH Tryz.prog 69 [D.i to,.iptr (zaa t) 0,.ptr c_e 1 0 0,.ptr c_l 1 0 0] [(c_e,.cells 1 [D.i e]),(c_l,.cells 1 [.own d_l 2 pre_l.length l.length]),(d_l,.cells 2 (zas encLine pre_l l post_l))] (fun d h'=>∃(g:Nat×List D×List D),d= .tup []/\h'= [(c_l,.cells 1 [.own g.1 2 g.2.1.length (l++linesW t (zbc t.words e to)).length]),(g.1,.cells 2 (zas encLine g.2.1 (l++linesW t (zbc t.words e to)) g.2.2)),(c_e,.cells 1 [D.i e])]):=
 (trest_w to t e c_e l c_l d_l pre_l post_l  (fun r=>r=(l++linesW t (zbc t.words e to))) (trest_ok to t e l _ hp0 hp1 rfl)).mono (by rintro d h' ⟨r,g,hd,hh,rfl⟩; exact⟨g,hd,hh⟩)
theorem tunknown_c (t:Text)(a:Attribution)(hp0:okT t)(hp1:okA a):Fun false Tryz.prog 23 [zaa t,zaz a] (fun d=>d= .tup [(zai 3 zbd) ((unknownF t a).1),D.i ((unknownF t a).2)]):=by
 refine fB Tryz.func23 Tryz.ntmps23 (v:=unknownF t a) (enc:=fun r=> .tup [(zai 3 zbd) (r.1),D.i (r.2)]) (tunknown_ok t a _ hp0 hp1 rfl) fun Q h=>?_
 unfold tunknown_vc at h
 refine G ?_
 refine wL (oB 2 (fun c1 _=>?_))
 refine wL (oB 2 (fun c2 _=>?_))
 refine wL (OpA.asnN (T:=Span) (enc:=zbd) (sz:=3) rfl rfl ?_)
 iterate 5 refine g ?_
 refine wpA_freeze (s:=2) (d:= .ptr c1 2 0 0) (d':= .iptr (zaa t) 0) (.swap _ _ _) rfl (.ptrp rfl .head rfl .nil) ?_
 obtain⟨q1,h⟩:=h
 refine G ?_
 refine wL (oC (nvalid_c t q1) ?_)
 refine G ?_
 refine zc h (fun _ h=>?_) (fun _ h=>G ?_)
 iterate 2 refine g ?_
 refine wL (OpA.asnN (T:=Span) (enc:=zbd) (sz:=3) rfl rfl ?_)
 refine G ?_
 exact zr h
 refine wL (OpA.sneq rfl rfl rfl ?_)
 refine G ?_
 refine zc h (fun _ h=>?_) (fun _ h=>G ?_)
 iterate 2 refine g ?_
 refine wL (OpA.asnN (T:=Span) (enc:=zbd) (sz:=3) rfl rfl ?_)
 refine G ?_
 exact zr h
 refine wL (oA 1 (.v (.slice none 0 0)) tz147 (fun c5 _=>?_))
 refine G ?_
 refine wL (oA 1 (D.i 0) tz3 (fun c6 _=>?_))
 refine G ?_
 refine wL (OpA.makeFunc rfl ?_)
 iterate 11 refine g ?_
 refine wpA_ghostM (c:=c5) (sz1:=1) (sz:=2) (es':=fun g7=> [.own g7 2 ([]:List D).length ([]:List Line).length]) (fun _=>(.tail .head)) (fun _=>(.turn .nil)) (fun _=>rfl) (fun _=>by rintro d (_|⟨_,hd⟩); exact .of rfl; cases hd) (fun g7=>?_)
 refine zl h (g7,([]:List D),([]:List D)) (fun gg ss=> [(2,.iptr (zaa t) 0),(4,(zai 3 zbd) ([]:List Span)),(5,D.i 0),(6,.ptr c5 1 0 0),(7,.ptr c6 1 0 0),(8,.fn (.func 69) [] [.iptr (zaa t) 0,.ptr c6 1 0 0,.ptr c5 1 0 0]),(23,(zai 4 zca) a.pieces),(24,D.i (a.pieces.length:Int)),(25,D.i ss.2.2)]) (fun gg ss=> [(gg.1,.cells 2 (zas encLine gg.2.1 ss.1 gg.2.2)),(c6,.cells 1 [D.i ss.2.1]),(c5,.cells 1 [.own gg.1 2 gg.2.1.length ss.1.length]),(c2,.cells 2 [zaz a])]) ?_
 rintro again8 ⟨cbgh6,pregh6,postgh6⟩ ⟨xs,end_,x⟩ h
 dsimp only at h
 unfold tunknown_L1 at h
 refine G ?_
 refine zc h (fun _ h=>?_) (fun _ h=>?_)
 obtain⟨q1,h⟩:=h
 refine G ?_
 refine wL (oIx (enc:=zca) ts68 q1 ?_)
 refine G ?_
 refine wL (oA 4 (zca (Piece.mk 0 0 0 0)) tz81 (fun c10 _=>?_))
 refine g ?_
 obtain⟨q1,h⟩:=h
 iterate 3 refine g ?_
 refine zav (asg [(2,.iptr (zaa t) 0),(4,(zai 3 zbd) ([]:List Span)),(5,D.i 0),(6,.ptr c5 1 0 0),(7,.ptr c6 1 0 0),(8,.fn (.func 69) [] [.iptr (zaa t) 0,.ptr c6 1 0 0,.ptr c5 1 0 0]),(10,.ptr c10 4 0 0),(23,(zai 4 zca) a.pieces),(24,D.i (a.pieces.length:Int)),(25,D.i x),(38,D.b ((!(rangedF t (gi a.pieces x)))||(decide ((gi a.pieces x).from_<end_))))]) [(c10,.cells 4 [zca (gi a.pieces x)]),(cbgh6,.cells 2 (zas encLine pregh6 xs postgh6)),(c6,.cells 1 [D.i end_]),(c5,.cells 1 [.own cbgh6 2 pregh6.length xs.length]),(c2,.cells 2 [zaz a])] ?_ ?_
 refine G ?_
 refine wL (oC (tranged_c t (gi a.pieces x) q1) ?_)
 refine G ?_
 refine zp 33 (fun b15=>G ?_) (fun b15=>?_)
 exact⟨(cvB (orS b15)),(.refl _)⟩
 refine G ?_
 exact⟨(cvB (orN b15 rfl)),(.refl _)⟩
 refine zc h (fun _ h=>?_) (fun _ h=>?_)
 iterate 2 refine g ?_
 refine wL (OpA.asnN (T:=Span) (enc:=zbd) (sz:=3) rfl rfl ?_)
 refine G ?_
 exact zr h
 obtain⟨q1,q2,h⟩:=h
 refine G ?_
 refine wL (OpA.callH rfl rfl rfl zK (h1:= [(c6,.cells 1 [D.i end_]),(c5,.cells 1 [.own cbgh6 2 pregh6.length xs.length]),(cbgh6,.cells 2 (zas encLine pregh6 xs postgh6))]) (h2:= [(c10,.cells 4 [zca (gi a.pieces x)]),(c2,.cells 2 [zaz a])]) (pull2.trans (.cons _ (pull2.trans (.cons _ pull1)))) (trest_c ((gi a.pieces x).from_) t end_ c6 xs c5 cbgh6 pregh6 postgh6 q1 q2) ?_)
 rintro _ _ ⟨⟨c12,pre13,post14⟩,rfl,rfl⟩
 refine wpL_perm (h':= [(c10,.cells 4 [zca (gi a.pieces x)]),(c12,.cells 2 (zas encLine pre13 (xs++linesW t (zbc t.words end_ ((gi a.pieces x).from_))) post14)),(c6,.cells 1 [D.i end_]),(c5,.cells 1 [.own c12 2 pre13.length (xs++linesW t (zbc t.words end_ ((gi a.pieces x).from_))).length]),(c2,.cells 2 [zaz a])]) (pull3.trans (.cons _ (pull1.trans (.cons _ pull1)))) ?_
 refine G ?_
 obtain⟨q1,h⟩:=h
 refine G ?_
 exact⟨(c12,pre13,post14),((xs++linesW t (zbc t.words end_ ((gi a.pieces x).from_))),(gi a.pieces x).to,(x+1)),h,cvZ,(.cons _ (.refl _))⟩
 obtain⟨q1,q2,h⟩:=h
 refine G ?_
 refine wL (OpA.callH rfl rfl rfl zK (h1:= [(c6,.cells 1 [D.i end_]),(c5,.cells 1 [.own cbgh6 2 pregh6.length xs.length]),(cbgh6,.cells 2 (zas encLine pregh6 xs postgh6))]) (h2:= [(c2,.cells 2 [zaz a])]) (pull1.trans (.cons _ pull1)) (trest_c (t.words.length:Int) t end_ c6 xs c5 cbgh6 pregh6 postgh6 q1 q2) ?_)
 rintro _ _ ⟨⟨c16,pre17,post18⟩,rfl,rfl⟩
 refine wpL_perm (h':= [(c16,.cells 2 (zas encLine pre17 (xs++linesW t (zbc t.words end_ (t.words.length:Int))) post18)),(c6,.cells 1 [D.i end_]),(c5,.cells 1 [.own c16 2 pre17.length (xs++linesW t (zbc t.words end_ (t.words.length:Int))).length]),(c2,.cells 2 [zaz a])]) (pull1.trans (.cons _ pull1)) ?_
 obtain⟨q1,q2,h⟩:=h
 iterate 4 refine g ?_
 refine wL (OpA.frz (s:=51) (d:= .own c16 2 pre17.length (xs++linesW t (zbc t.words end_ (t.words.length:Int))).length) (d':=(zai 2 encLine) (xs++linesW t (zbc t.words end_ (t.words.length:Int)))) (.refl _) rfl (.win (enc:=encLine) .head (by intro hf; cases hf) .nil) (OpA.call rfl rfl rfl zK (of_c (xs++linesW t (zbc t.words end_ (t.words.length:Int))) q1 q2) ?_))
 rintro _ rfl
 refine G ?_
 exact zr h
end Go.Proofs.YtkifpidbpoghlaaGreatDoor
