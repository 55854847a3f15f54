/-
  walks and contracts
-/
import Derived.Test.YtkifpidbpoghlaaGreatDoorV1
import Derived.Test.YtkifpidbpoghlaaGreatDoorAto5
import Derived.Test.YtkifpidbpoghlaaGreatDoorAo6
import Derived.Test.YtkifpidbpoghlaaGreatDoorAo3
import Derived.Test.YtkifpidbpoghlaaGreatDoorA5
import Derived.Test.YtkifpidbpoghlaaGreatDoorA4
import Derived.Test.YtkifpidbpoghlaaGreatDoorA3
import Derived.Test.YtkifpidbpoghlaaGreatDoorV7
set_option maxRecDepth 10000
set_option maxHeartbeats 2000000
set_option linter.all false
namespace Go.Proofs.YtkifpidbpoghlaaGreatDoor
open Go Go.Lic Go.Sort Go.Proofs
attribute [local irreducible] absF addF addP zaw zbg applyP atoiO attrF badR behindF betterP blankF checkA checkF checkP clF classF zbp zbx cmpB cmpI cmpL codeF consF countF cutPreF dhex1 digB fewTs fewW findC findT zbt growTF guarF hasPreF hashF hexD hunkB idxB zbj insideF itoaF joinS joinT lenF linesP zar longAF lookF mergeF mul64F mulP newD newF nlB zbe noteF ofF offsF orF parseD zaq partF pathF permF postCmp postsF powF zak pushF rangedF rightCT rightL rollF rotF roundF sameF scutF zbu shareF zbs zbk zbh zad splitG srcF ssF stopB sumD unknownF zbi wordB zbw wrF
theorem ndigit_c (c:Int) :Fun false Tryz.prog 104 [(D.k .u8) c] (fun d=>d=D.b (digB c)):=by
 refine fB Tryz.func104 Tryz.ntmps104 (ndigit_ok c _  rfl) fun Q h=>?_
 unfold ndigit_vc at h
 iterate 5 refine g ?_
 refine zav (asg [(2,D.b ((decide (48<=c))&&(decide (c<=57))))]) [] ?_ ?_
 refine G ?_
 refine zp 5 (fun b1=>G ?_) (fun b1=>?_)
 exact⟨(cvB (andN b1 rfl)),(.refl _)⟩
 refine G ?_
 exact⟨(cvB (andS b1)),(.refl _)⟩
 refine G ?_
 exact zr h
theorem npart_c (c:Int) :Fun false Tryz.prog 100 [(D.k .u8) c] (fun d=>d=D.b (wordB c)):=by
 refine fB Tryz.func100 Tryz.ntmps100 (npart_ok c _  rfl) fun Q h=>?_
 unfold npart_vc at h
 iterate 5 refine g ?_
 refine zav (asg [(2,D.b (((((decide (97<=c))&&(decide (c<=122)))||((decide (65<=c))&&(decide (c<=90))))||(digB c))||(c==95)))]) [] ?_ ?_
 refine G ?_
 refine zp 5 (fun b1=>G ?_) (fun b1=>?_)
 refine zp 9 (fun b2=>G ?_) (fun b2=>?_)
 iterate 2 refine wpL_skipU rfl rfl rfl rfl rfl ?_
 refine G ?_
 exact⟨(cvB (orS (orS (orS (andN b1 b2))))),(.refl _)⟩
 refine G ?_
 refine zp 12 (fun b3=>G ?_) (fun b3=>?_)
 refine zp 17 (fun b4=>G ?_) (fun b4=>?_)
 exact⟨(cvB (orS (orS (orN (andN b1 b2) (andN b3 b4))))),(.refl _)⟩
 refine G ?_
 refine wG (oC (ndigit_c c) ?_)
 refine G ?_
 refine zp 21 (fun b5=>G ?_) (fun b5=>?_)
 exact⟨(cvB (orS (orN (orN (andN b1 b2) (andN b3 b4)) b5))),(.refl _)⟩
 refine G ?_
 exact⟨(cvB (orN (orN (orN (andN b1 b2) (andN b3 b4)) b5) rfl)),(.refl _)⟩
 refine G ?_
 refine wG (oC (ndigit_c c) ?_)
 refine G ?_
 refine zp 21 (fun b6=>G ?_) (fun b6=>?_)
 exact⟨(cvB (orS (orN (orN (andN b1 b2) (andS b3)) b6))),(.refl _)⟩
 refine G ?_
 exact⟨(cvB (orN (orN (orN (andN b1 b2) (andS b3)) b6) rfl)),(.refl _)⟩
 refine G ?_
 refine zp 12 (fun b7=>G ?_) (fun b7=>?_)
 refine zp 17 (fun b8=>G ?_) (fun b8=>?_)
 exact⟨(cvB (orS (orS (orN (andS b1) (andN b7 b8))))),(.refl _)⟩
 refine G ?_
 refine wG (oC (ndigit_c c) ?_)
 refine G ?_
 refine zp 21 (fun b9=>G ?_) (fun b9=>?_)
 exact⟨(cvB (orS (orN (orN (andS b1) (andN b7 b8)) b9))),(.refl _)⟩
 refine G ?_
 exact⟨(cvB (orN (orN (orN (andS b1) (andN b7 b8)) b9) rfl)),(.refl _)⟩
 refine G ?_
 refine wG (oC (ndigit_c c) ?_)
 refine G ?_
 refine zp 21 (fun b10=>G ?_) (fun b10=>?_)
 exact⟨(cvB (orS (orN (orN (andS b1) (andS b7)) b10))),(.refl _)⟩
 refine G ?_
 exact⟨(cvB (orN (orN (orN (andS b1) (andS b7)) b10) rfl)),(.refl _)⟩
 refine G ?_
 exact zr h
theorem nsplit1_c (r_:Int) :Fun false Tryz.prog 102 [(D.k .i32) r_] (fun d=>d=D.b (stopB r_)):=by
 refine fB Tryz.func102 Tryz.ntmps102 (nsplit1_ok r_ _  rfl) fun Q h=>?_
 unfold nsplit1_vc at h
 iterate 5 refine g ?_
 refine zav (asg [(2,D.b ((decide (r_>126))||(!(wordB (IntKind.u8.wrap r_)))))]) [] ?_ ?_
 refine G ?_
 refine zp 5 (fun b1=>G ?_) (fun b1=>?_)
 exact⟨(cvB (orS b1)),(.refl _)⟩
 refine G ?_
 refine wG (OpA.conv rfl td21 td5 rfl ?_)
 refine wG (oC (npart_c (IntKind.u8.wrap r_)) ?_)
 refine G ?_
 exact⟨(cvB (orN b1 rfl)),(.refl _)⟩
 refine G ?_
 exact zr h
theorem nsplit_c (line:ByteArray)(hp0:line.size<=1000000):Fun false Tryz.prog 52 [D.s line] (fun d=>d=(zai 1 D.s) (zbw line)):=by
 refine fB Tryz.func52 Tryz.ntmps52 (nsplit_ok line _ hp0 rfl) fun Q h=>?_
 unfold nsplit_vc at h
 iterate 6 refine g ?_
 refine wL (OpA.asnG (T:=ByteArray) (enc:=D.s) (sz:=1) rfl rfl (fun c3_g1=>?_))
 refine G ?_
 refine zl h (c3_g1,([]:List D),([]:List D)) (fun gg ss=> [(0,D.s ss.2),(2,.v (.slice none 0 0)),(3,.own gg.1 1 gg.2.1.length ss.1.length)]) (fun gg ss=> [(gg.1,.cells 1 (zas D.s gg.2.1 ss.1 gg.2.2))]) ?_
 rintro again2 ⟨cb3,pre3,post3⟩ ⟨out,line1⟩ h
 dsimp only at h
 unfold nsplit_L1 at h
 refine G ?_
 refine wL (OpA.sneq rfl rfl rfl ?_)
 refine G ?_
 refine zc h (fun _ h=>?_) (fun _ h=>G ?_)
 iterate 7 refine g ?_
 refine wpA_join (S:=Int) (G:=Unit) (fun gg ss=>asg [(0,D.s line1),(2,.v (.slice none 0 0)),(3,.own cb3 1 pre3.length out.length),(4,D.i ss)]) (fun gg ss=> [(cb3,.cells 1 (zas D.s pre3 out post3))]) (fun ss=>nsplit_J1 out line1 again2 ss) ?_ ?_
 obtain⟨q1,h⟩:=h
 refine G ?_
 refine wL (OpA.sixV rfl td9 rfl rfl q1 ?_)
 refine wL (oC (blank_c (sgi line1 0)) ?_)
 refine G ?_
 refine zc h (fun _ h=>?_) (fun _ h=>?_)
 obtain⟨q1,h⟩:=h
 refine G ?_
 refine wL (OpA.ssliceV rfl td9 rfl (.some rfl) (.none _) q1 ?_)
 refine G ?_
 exact⟨(cb3,pre3,post3),(out,(ssub line1 1 (line1.size:Int))),h,cvZ,(.refl _)⟩
 obtain⟨q1,h⟩:=h
 refine G ?_
 refine wL (OpA.sixV rfl td9 rfl rfl q1 ?_)
 refine wL (oC (npart_c (sgi line1 0)) ?_)
 refine G ?_
 refine zc h (fun _ h=>?_) (fun _ h=>G ?_)
 obtain⟨q1,h⟩:=h
 refine G ?_
 refine wL (oC (sixF_c line1 102 [] [] (fun(x0_:Int)=>stopB x0_) (fun(x0_:Int)=>True) zK (fun x0_ _=>nsplit1_c x0_) q1) ?_)
 refine G ?_
 refine zc h (fun _ h=>G ?_) (fun _ h=>G ?_)
 exact⟨(),(line1.size:Int),h,cvZ,(.refl _)⟩
 exact⟨(),(runeIx (fun(x0_:Int)=>stopB x0_) line1 true),h,cvZ,(.refl _)⟩
 exact⟨(),1,h,cvZ,(.refl _)⟩
 rintro _ n h
 have h:nsplit_J1 out line1 again2 n:=h
 unfold nsplit_J1 at h
 obtain⟨q1,q2,h⟩:=h
 refine G ?_
 refine wL (OpA.ssliceV rfl td9 rfl (.none _) (.some rfl) q1 ?_)
 refine wL (OpA.ibuildSliceO rfl ts25 rfl (.cons (.of (sz:=1) rfl) .nil) (by decide) ?_)
 refine wL (OpA.appendW (enc:=D.s) rfl rfl rfl rfl ts25 rfl (fun _ _=> .head) (.list (ys:=([(ssub line1 0 n)]:List ByteArray))) q2 (fun c4 pre5=>?_))
 obtain⟨q1,h⟩:=h
 refine G ?_
 refine wL (OpA.ssliceV rfl td9 rfl (.some rfl) (.none _) q1 ?_)
 refine G ?_
 exact⟨(c4,pre5,([]:List D)),((out++([(ssub line1 0 n)]:List ByteArray)),(ssub line1 n (line1.size:Int))),h,cvZ,(.refl _)⟩
 exact⟨_,(.tmp (d:= .own cb3 1 pre3.length out.length) rfl .nil),_,(.win .head (by intro hf; cases hf) .nil),⟨out,rfl,h⟩⟩
theorem nnote_c (words:(List ByteArray))(hp0:words.length<=1000000):Fun false Tryz.prog 53 [(zai 1 D.s) words] (fun d=>d=D.i (noteF words)):=by
 refine fB Tryz.func53 Tryz.ntmps53 (nnote_ok words _ hp0 rfl) fun Q h=>?_
 unfold nnote_vc at h
 obtain⟨q1,q2,h⟩:=h
 iterate 6 refine g ?_
 refine zav (asg [(0,(zai 1 D.s) words),(2,D.i 0),(20,D.b ((((words.length:Int) != 2)||(!decide ((gi words 0)=(⟨#[110,111,116,101]⟩:ByteArray))))||(decide (((gi words 1).size:Int)>4))))]) [] ?_ ?_
 refine G ?_
 refine zp 8 (fun b4=>G ?_) (fun b4=>?_)
 exact⟨(cvB (orS (orS b4))),(.refl _)⟩
 refine G ?_
 refine wG (oIx (enc:=D.s) ts25 (q1 (bneF b4)) ?_)
 refine G ?_
 refine wG (OpA.sneq rfl rfl rfl ?_)
 refine G ?_
 refine zp 14 (fun b5=>G ?_) (fun b5=>?_)
 exact⟨(cvB (orS (orN b4 b5))),(.refl _)⟩
 refine G ?_
 refine wG (oIx (enc:=D.s) ts25 (q2 ⟨(bneF b4),(ndecF b5)⟩) ?_)
 refine G ?_
 exact⟨(cvB (orN (orN b4 b5) rfl)),(.refl _)⟩
 refine zc h (fun _ h=>G ?_) (fun _ h=>?_)
 exact zr h
 obtain⟨q1,h⟩:=h
 refine G ?_
 refine wL (oIx (enc:=D.s) ts25 q1 ?_)
 obtain⟨q1,h⟩:=h
 refine G ?_
 refine wL (OpA.call rfl rfl rfl zK (atoi_c (gi words 1) q1) ?_)
 rintro _ ⟨num,e2,rfl,he2⟩
 rcases he2 with⟨he2,rfl⟩|⟨he2,te2,xe2,rfl⟩
 have h:=h.1 num (atoiO_some he2)
 obtain⟨q1,q2,q3,h⟩:=h
 iterate 8 refine g ?_
 refine zbf (m:=10) mo zK rfl ?_
 refine G ?_
 refine dL (OpA.neqNil0 rfl errD rfl rfl oR) ?_
 refine G ?_
 refine dG (oC (itoa_c num q1 q2) oR) ?_
 refine G ?_
 refine dG (oIx (enc:=D.s) ts25 q3 oR) ?_
 refine G ?_
 refine dG (OpA.sneq rfl rfl rfl oR) ?_
 refine g ?_
 refine DetK.nil ?_
 refine G ?_
 refine zc h (fun _ h=>G ?_) (fun _ h=>G ?_)
 exact zr h
 exact zr h
 have h:=h.2 num (atoiO_none he2)
 iterate 8 refine g ?_
 refine zbf (m:=10) mo zK rfl ?_
 refine G ?_
 refine dL (OpA.neqNil1 rfl errD rfl rfl oR) ?_
 iterate 8 refine g ?_
 refine DetK.nil ?_
 refine G ?_
 refine wpA_condT rfl ?_
 refine G ?_
 exact zr h
theorem nclass_c (word:ByteArray)(names:Bool)(numbers:Bool)(hp0:0<word.size):Fun false Tryz.prog 54 [D.s word,D.b names,D.b numbers] (fun d=>d=D.s (classF word names numbers)):=by
 refine fB Tryz.func54 Tryz.ntmps54 (nclass_ok word names numbers _ hp0 rfl) fun Q h=>?_
 unfold nclass_vc at h
 obtain⟨q1,h⟩:=h
 refine G ?_
 refine wL (OpA.sixV rfl td9 rfl rfl q1 ?_)
 iterate 4 refine g ?_
 refine zav (asg [(0,D.s word),(1,D.b names),(6,D.s (⟨#[]⟩:ByteArray)),(7,(D.k .u8) (sgi word 0)),(10,D.b ((digB (sgi word 0))&&numbers))]) [] ?_ ?_
 refine G ?_
 refine wL (oC (ndigit_c (sgi word 0)) ?_)
 refine G ?_
 refine zp 13 (fun b5=>G ?_) (fun b5=>?_)
 exact⟨(cvB (andN b5 rfl)),(.refl _)⟩
 refine G ?_
 exact⟨(cvB (andS b5)),(.refl _)⟩
 refine zc h (fun _ h=>G ?_) (fun _ h=>?_)
 exact zr h
 refine g ?_
 refine zav (asg [(0,D.s word),(6,D.s (⟨#[]⟩:ByteArray)),(16,D.b (((wordB (sgi word 0))&&(!(digB (sgi word 0))))&&names))]) [] ?_ ?_
 refine G ?_
 refine wL (oC (npart_c (sgi word 0)) ?_)
 refine G ?_
 refine zp 19 (fun b3=>G ?_) (fun b3=>?_)
 refine wG (oC (ndigit_c (sgi word 0)) ?_)
 refine G ?_
 refine zp 24 (fun b4=>G ?_) (fun b4=>?_)
 exact⟨(cvB (andN (andN b3 b4) rfl)),(.refl _)⟩
 refine G ?_
 exact⟨(cvB (andS (andN b3 b4))),(.refl _)⟩
 refine G ?_
 exact⟨(cvB (andS (andS b3))),(.refl _)⟩
 refine zc h (fun _ h=>G ?_) (fun _ h=>G ?_)
 exact zr h
 exact zr h
theorem nwords_c (path:ByteArray)(data:ByteArray)(names:Bool)(numbers:Bool)(hp0:path.size<=1000000)(hp1:data.size<=1000000):Fun false Tryz.prog 18 [D.s path,D.s data,D.b names,D.b numbers] (fun d=>d= .tup [zaa ((zbe path data names numbers).1),D.i ((zbe path data names numbers).2)]):=by
 refine fB Tryz.func18 Tryz.ntmps18 (v:=zbe path data names numbers) (enc:=fun r=> .tup [zaa (r.1),D.i (r.2)]) (nwords_ok path data names numbers _ hp0 hp1 rfl) fun Q h=>?_
 unfold nwords_vc at h
 refine G ?_
 refine wL (oB 1 (fun c1 _=>?_))
 refine wL (oB 1 (fun c2 _=>?_))
 refine wL (oA 2 (.agg ([D.s ByteArray.empty,.v (.slice none 0 0)])) tz57 (fun c3 _=>?_))
 obtain⟨q1,h⟩:=h
 refine G ?_
 refine wL (oC (path_c path q1) ?_)
 refine G ?_
 refine zc h (fun _ h=>G ?_) (fun _ h=>?_)
 refine wL (oU [.v (.string ⟨#[]⟩),.v (.slice none 0 0)] tp57 tz57 ?_)
 refine G ?_
 exact⟨_,(.cell (.whole ti57 rfl rfl .head rfl ⟨_,rfl⟩) (.tmp (d:=D.i 2) rfl .nil)),_,(.tup (.agg (.same rfl (.nilv (sz:=2) .nil)) (.same rfl .nil)) .nil),⟨((Text.mk ByteArray.empty []),2),rfl,h⟩⟩
 obtain⟨q1,h⟩:=h
 refine g ?_
 refine zav (asg [(0,D.s path),(1,D.s data),(6,.ptr c1 1 0 0),(7,.ptr c2 1 0 0),(8,.ptr c3 2 0 0),(9,D.i 0),(23,D.b ((decide ((data.size:Int)>65536))||(decide ((countF data (⟨#[10]⟩:ByteArray))>=1024))))]) [(c3,.cells 2 [.agg ([D.s ByteArray.empty,.v (.slice none 0 0)])]),(c2,.cells 1 [D.b numbers]),(c1,.cells 1 [D.b names])] ?_ ?_
 refine G ?_
 refine zp 27 (fun b19=>G ?_) (fun b19=>?_)
 exact⟨(cvB (orS b19)),(.refl _)⟩
 refine G ?_
 refine wG (oC (count_c data (⟨#[10]⟩:ByteArray) (q1 (decF b19))) ?_)
 refine G ?_
 exact⟨(cvB (orN b19 rfl)),(.refl _)⟩
 refine zc h (fun _ h=>G ?_) (fun _ h=>G ?_)
 refine wL (oU [.v (.string ⟨#[]⟩),.v (.slice none 0 0)] tp57 tz57 ?_)
 refine G ?_
 exact⟨_,(.cell (.whole ti57 rfl rfl .head rfl ⟨_,rfl⟩) (.tmp (d:=D.i 10) rfl .nil)),_,(.tup (.agg (.same rfl (.nilv (sz:=2) .nil)) (.same rfl .nil)) .nil),⟨((Text.mk ByteArray.empty []),10),rfl,h⟩⟩
 refine wL (oU [.v (.string ⟨#[]⟩),.v (.slice none 0 0)] tp57 tz57 ?_)
 refine wL (oA 2 (.agg ([D.s ByteArray.empty,.v (.slice none 0 0)])) tz57 (fun c6 _=>?_))
 refine G ?_
 refine wL (oA 1 (D.i 0) tz3 (fun c7 _=>?_))
 refine wL (oA 1 (D.i 0) tz3 (fun c8 _=>?_))
 refine G ?_
 obtain⟨q1,q2,h⟩:=h
 refine G ?_
 refine wL (OpA.callH rfl rfl rfl zK (h1:= []) (h2:= [(c8,.cells 1 [D.i 0]),(c7,.cells 1 [D.i 0]),(c6,.cells 2 [.agg ([D.s path,.v (.slice none 0 0)])]),(c3,.cells 2 [.agg ([D.s ByteArray.empty,.v (.slice none 0 0)])]),(c2,.cells 1 [D.b numbers]),(c1,.cells 1 [D.b names])]) (.refl _) (splitSeq_c data (⟨#[10]⟩:ByteArray)) ?_)
 rintro _ _ ⟨c9,rfl,rfl⟩
 have hq1:=q1
 have hq2:=q2
 iterate 2 refine g ?_
 refine wpA_ghostM (c:=c6) (sz1:=2) (sz:=2) (es':=fun g10=> [.agg ([D.s path,.own g10 2 ([]:List D).length ([]:List Lexeme).length])]) (fun _=>(.tail (.tail (.tail .head)))) (fun _=>(.same (.turn .nil))) (fun _=>rfl) (fun _=>by rintro d (_|⟨_,hd⟩); exact .of rfl; cases hd) (fun g10=>?_)
 refine wpA_cov (fr0:=asg [(6,.ptr c1 1 0 0),(7,.ptr c2 1 0 0),(8,.ptr c3 2 0 0),(9,D.i 0),(10,.ptr c6 2 0 0),(11,.ptr c7 1 0 0),(12,.ptr c8 1 0 0),(36,.fn (.func 145) [] [.iptr (D.s (⟨#[10]⟩:ByteArray)) 0,.ptr c9 1 0 0,.iptr (D.i 0) 0])]) cvZ ?_
 refine wpA_seqs (hb:= [(c9,.cells 1 [D.s data])]) (hr:= [(g10,.cells 2 (zas zau ([]:List D) ([]:List Lexeme) ([]:List D))),(c8,.cells 1 [D.i 0]),(c7,.cells 1 [D.i 0]),(c6,.cells 2 [.agg ([D.s path,.own g10 2 ([]:List D).length ([]:List Lexeme).length])]),(c3,.cells 2 [.agg ([D.s ByteArray.empty,.v (.slice none 0 0)])]),(c2,.cells 1 [D.b numbers]),(c1,.cells 1 [D.b names])]) (enc:=D.s) (xs:=(zad data (⟨#[10]⟩:ByteArray))) (S:=(List Lexeme)×Int×Int) (G:=Nat×List D×List D) (g10,([]:List D),([]:List D)) (fun gg ss=> [(gg.1,.cells 2 (zas zau gg.2.1 ss.1 gg.2.2)),(c8,.cells 1 [D.i ss.2.1]),(c7,.cells 1 [D.i ss.2.2]),(c6,.cells 2 [.agg ([D.s path,.own gg.1 2 gg.2.1.length ss.1.length])]),(c3,.cells 2 [.agg ([D.s ByteArray.empty,.v (.slice none 0 0)])]),(c2,.cells 1 [D.b numbers]),(c1,.cells 1 [D.b names])]) rfl zK (splitSeq_it data (⟨#[10]⟩:ByteArray) c9 (by assumption) (by assumption)) h (.swap _ _ _) (.refl _) rfl ?_ ?_
 · skip
   rintro again11 ⟨cbgh10,pregh10,postgh10⟩ ⟨xs,skip,at_⟩ ix hix h
   dsimp only at h
   unfold nwords_L1 at h
   replace h:=h.1 hix
   show wpA _ _ _ _ (upd (asg [(6,.ptr c1 1 0 0),(7,.ptr c2 1 0 0),(8,.ptr c3 2 0 0),(9,D.i 0),(10,.ptr c6 2 0 0),(11,.ptr c7 1 0 0),(12,.ptr c8 1 0 0),(36,.fn (.func 145) [] [.iptr (D.s (⟨#[10]⟩:ByteArray)) 0,.ptr c9 1 0 0,.iptr (D.i 0) 0])]) 37 (D.s (gi (zad data (⟨#[10]⟩:ByteArray)) ix))) [(cbgh10,.cells 2 (zas zau pregh10 xs postgh10)),(c8,.cells 1 [D.i skip]),(c7,.cells 1 [D.i at_]),(c6,.cells 2 [.agg ([D.s path,.own cbgh10 2 pregh10.length xs.length])]),(c3,.cells 2 [.agg ([D.s ByteArray.empty,.v (.slice none 0 0)])]),(c2,.cells 1 [D.b numbers]),(c1,.cells 1 [D.b names])]
   obtain⟨q1,h⟩:=h
   refine G ?_
   refine wL (oC (nsplit_c (gi (zad data (⟨#[10]⟩:ByteArray)) ix) q1) ?_)
   obtain⟨q1,h⟩:=h
   refine G ?_
   refine wL (oC (nnote_c (zbw (gi (zad data (⟨#[10]⟩:ByteArray)) ix)) q1) ?_)
   refine G ?_
   refine zc h (fun _ h=>?_) (fun _ h=>G ?_)
   obtain⟨q1,h⟩:=h
   refine G ?_
   obtain⟨q1,h⟩:=h
   refine G ?_
   exact⟨(cbgh10,pregh10,postgh10),(xs,(skip-1),(at_+1)),h,(.refl _)⟩
   refine zc h (fun _ h=>G ?_) (fun _ h=>G ?_)
   obtain⟨q1,h⟩:=h
   refine G ?_
   exact⟨(cbgh10,pregh10,postgh10),(xs,(noteF (zbw (gi (zad data (⟨#[10]⟩:ByteArray)) ix))),(at_+1)),h,(.refl _)⟩
   refine zl h (cbgh10,pregh10,postgh10) (fun gg ss=> [(6,.ptr c1 1 0 0),(7,.ptr c2 1 0 0),(10,.ptr c6 2 0 0),(11,.ptr c7 1 0 0),(42,(zai 1 D.s) (zbw (gi (zad data (⟨#[10]⟩:ByteArray)) ix))),(43,D.i ((zbw (gi (zad data (⟨#[10]⟩:ByteArray)) ix)).length:Int)),(44,D.i ss.2)]) (fun gg ss=> [(gg.1,.cells 2 (zas zau gg.2.1 ss.1 gg.2.2)),(c8,.cells 1 [D.i skip]),(c7,.cells 1 [D.i at_]),(c6,.cells 2 [.agg ([D.s path,.own gg.1 2 gg.2.1.length ss.1.length])]),(c3,.cells 2 [.agg ([D.s ByteArray.empty,.v (.slice none 0 0)])]),(c2,.cells 1 [D.b numbers]),(c1,.cells 1 [D.b names])]) ?_
   rintro again14 ⟨cbgh101,pregh101,postgh101⟩ ⟨xs1,x⟩ h
   dsimp only at h
   unfold nwords_L2 at h
   refine G ?_
   refine zc h (fun _ h=>?_) (fun _ h=>?_)
   obtain⟨q1,h⟩:=h
   refine G ?_
   refine wL (oIx (enc:=D.s) ts25 q1 ?_)
   obtain⟨q1,q2,h⟩:=h
   iterate 3 refine g ?_
   refine zbf (m:=9) mo zK rfl ?_
   refine G ?_
   refine dL (oC (nclass_c (gi (zbw (gi (zad data (⟨#[10]⟩:ByteArray)) ix)) x) names numbers q1) oR) ?_
   refine G ?_
   refine dL (oU [.v (.string ⟨#[]⟩),.v (.int .i64 0)] tp30 tz30 oR) ?_
   refine dL (OpA.ibuildSliceO rfl ts24 rfl (.cons (.of (sz:=2) rfl) .nil) (by decide) oR) ?_
   refine DetK.nil ?_
   refine wL (OpA.appendW (enc:=zau) rfl rfl rfl rfl ts24 rfl (fun _ _=> .head) (.list (ys:=([(Lexeme.mk (classF (gi (zbw (gi (zad data (⟨#[10]⟩:ByteArray)) ix)) x) names numbers) at_)]:List Lexeme))) q2 (fun c16 pre17=>?_))
   refine g ?_
   refine wE (OpA.store (e':= .agg ([D.s path,.own c16 2 pre17.length (xs1++([(Lexeme.mk (classF (gi (zbw (gi (zad data (⟨#[10]⟩:ByteArray)) ix)) x) names numbers) at_)]:List Lexeme)).length])) rfl ti24 rfl (.of rfl) rfl (Nat.le_of_ble_eq_true rfl) rfl (.tail (.tail (.tail .head))) ?_)
   obtain⟨q1,h⟩:=h
   refine G ?_
   exact⟨(c16,pre17,([]:List D)),((xs1++([(Lexeme.mk (classF (gi (zbw (gi (zad data (⟨#[10]⟩:ByteArray)) ix)) x) names numbers) at_)]:List Lexeme)),(x+1)),h,cvZ,(.refl _)⟩
   obtain⟨q1,h⟩:=h
   refine G ?_
   exact⟨(cbgh101,pregh101,postgh101),(xs1,skip,(at_+1)),h,(.refl _)⟩
 · skip
   rintro again11 ⟨cbgh10,pregh10,postgh10⟩ ⟨xs,skip,at_⟩ ix hix h
   dsimp only at h
   unfold nwords_L1 at h
   replace h:=h.2 hix
   iterate 5 refine g ?_
   refine wL (OpA.len rfl rfl rfl rfl ts24.desc (.inr (.inl ⟨_,_,_,rfl⟩)) ?_)
   refine G ?_
   refine zc h (fun _ h=>G ?_) (fun _ h=>G ?_)
   refine wL (oU [.v (.string ⟨#[]⟩),.v (.slice none 0 0)] tp57 tz57 ?_)
   refine G ?_
   exact⟨_,(.cell (.whole ti57 rfl rfl (.tail (.tail (.tail (.tail .head)))) rfl ⟨_,rfl⟩) (.tmp (d:=D.i 10) rfl .nil)),_,(.tup (.agg (.same rfl (.nilv (sz:=2) .nil)) (.same rfl .nil)) .nil),⟨((Text.mk ByteArray.empty []),10),rfl,h⟩⟩
   exact⟨_,(.cell (.whole ti57 rfl rfl (.tail (.tail (.tail (.tail .head)))) rfl ⟨_,rfl⟩) (.tmp (d:=D.i 0) rfl .nil)),_,(.tup (.agg (.same rfl (.win .head (by intro hf; cases hf) .nil)) (.same rfl .nil)) .nil),⟨((Text.mk path xs),0),rfl,h⟩⟩
theorem scont_c (s_:ByteArray)(substr:ByteArray)(hp0:substr.size=1):Fun false Tryz.prog 16 [D.s s_,D.s substr] (fun d=>d=D.b ((decide (0<=zbj s_ substr)))):=by
 refine fB Tryz.func16 Tryz.ntmps16 (scont_ok s_ substr _ hp0 rfl) fun Q h=>?_
 unfold scont_vc at h
 obtain⟨q1,h⟩:=h
 refine G ?_
 refine wL (oC (index_c s_ substr q1) ?_)
 refine G ?_
 exact zr h
theorem tlines_c (data:ByteArray)(hp0:data.size<=1000000):Fun false Tryz.prog 8 [D.s data] (fun d=>d= .tup [(zai 1 D.s) ((zar data).1),D.i ((zar data).2)]):=by
 refine fB Tryz.func8 Tryz.ntmps8 (v:=zar data) (enc:=fun r=> .tup [(zai 1 D.s) (r.1),D.i (r.2)]) (tlines_ok data _ hp0 rfl) fun Q h=>?_
 unfold tlines_vc at h
 iterate 2 refine g ?_
 refine wL (OpA.asnN (T:=ByteArray) (enc:=D.s) (sz:=1) rfl rfl ?_)
 obtain⟨q1,h⟩:=h
 iterate 4 refine g ?_
 refine zav (asg [(0,D.s data),(2,(zai 1 D.s) ([]:List ByteArray)),(3,D.i 0),(11,D.b ((decide ((data.size:Int)>65536))||(decide ((countF data (⟨#[10]⟩:ByteArray))>=1024))))]) [] ?_ ?_
 refine G ?_
 refine zp 7 (fun b2=>G ?_) (fun b2=>?_)
 exact⟨(cvB (orS b2)),(.refl _)⟩
 refine G ?_
 refine wG (oC (count_c data (⟨#[10]⟩:ByteArray) (q1 (decF b2))) ?_)
 refine G ?_
 exact⟨(cvB (orN b2 rfl)),(.refl _)⟩
 refine zc h (fun _ h=>?_) (fun _ h=>?_)
 iterate 2 refine g ?_
 refine wL (OpA.asnN (T:=ByteArray) (enc:=D.s) (sz:=1) rfl rfl ?_)
 refine G ?_
 exact zr h
 obtain⟨q1,q2,h⟩:=h
 refine G ?_
 refine wL (oC (split_c data (⟨#[10]⟩:ByteArray) q1 q2) ?_)
 refine G ?_
 exact zr h
theorem tjoin1_c (s_:ByteArray) :Fun false Tryz.prog 128 [D.s s_] (fun d=>d=D.b (nlB s_)):=by
 refine fB Tryz.func128 Tryz.ntmps128 (tjoin1_ok s_ _  rfl) fun Q h=>?_
 unfold tjoin1_vc at h
 obtain⟨q1,h⟩:=h
 refine G ?_
 refine wL (oC (scont_c s_ (⟨#[10]⟩:ByteArray) q1) ?_)
 refine G ?_
 exact zr h
theorem tjoin_c (lines:(List ByteArray))(hp0:lines.length<=1000000)(hp1:∀ z_∈lines,z_.size<=1000000):Fun false Tryz.prog 82 [(zai 1 D.s) lines] (fun d=>d= .tup [D.s ((joinT lines).1),D.i ((joinT lines).2)]):=by
 refine fB Tryz.func82 Tryz.ntmps82 (v:=joinT lines) (enc:=fun r=> .tup [D.s (r.1),D.i (r.2)]) (tjoin_ok lines _ hp0 hp1 rfl) fun Q h=>?_
 unfold tjoin_vc at h
 obtain⟨q1,h⟩:=h
 iterate 7 refine g ?_
 refine zav (asg [(0,(zai 1 D.s) lines),(2,D.s (⟨#[]⟩:ByteArray)),(3,D.i 0),(13,D.b (((lines.length:Int)==0)||(lines.any (fun(x0_:ByteArray)=>nlB x0_))))]) [] ?_ ?_
 refine G ?_
 refine zp 10 (fun b6=>G ?_) (fun b6=>?_)
 exact⟨(cvB (orS b6)),(.refl _)⟩
 refine G ?_
 refine wG (oC (cfStr_c lines 128 [] [] (fun(x0_:ByteArray)=>nlB x0_) (fun(x0_:ByteArray)=>True) zK (fun x0_ _=>tjoin1_c x0_) (q1 (beqF b6)).1 (q1 (beqF b6)).2) ?_)
 refine G ?_
 exact⟨(cvB (orN b6 rfl)),(.refl _)⟩
 refine zc h (fun _ h=>G ?_) (fun _ h=>?_)
 exact zr h
 obtain⟨q1,h⟩:=h
 refine G ?_
 refine zl h () (fun gg ss=> [(0,(zai 1 D.s) lines),(2,D.s (⟨#[]⟩:ByteArray)),(3,D.i 0),(4,D.i ss.1),(17,(zai 1 D.s) lines),(18,D.i (lines.length:Int)),(19,D.i ss.2)]) (fun gg ss=> []) ?_
 rintro again2 _ ⟨size,x⟩ h
 dsimp only at h
 unfold tjoin_L1 at h
 refine G ?_
 refine zc h (fun _ h=>?_) (fun _ h=>?_)
 obtain⟨q1,h⟩:=h
 refine G ?_
 refine wL (oIx (enc:=D.s) ts25 q1 ?_)
 obtain⟨q1,h⟩:=h
 obtain⟨q1,h⟩:=h
 refine G ?_
 exact⟨(),((size+((gi lines x).size:Int)),(x+1)),h,cvZ,(.refl _)⟩
 iterate 3 refine g ?_
 refine zav (asg [(0,(zai 1 D.s) lines),(2,D.s (⟨#[]⟩:ByteArray)),(3,D.i 0),(34,D.b ((decide ((lines.length:Int)>1024))||(decide (size>65536))))]) [] ?_ ?_
 refine G ?_
 refine zp 31 (fun b5=>G ?_) (fun b5=>?_)
 exact⟨(cvB (orS b5)),(.refl _)⟩
 refine G ?_
 exact⟨(cvB (orN b5 rfl)),(.refl _)⟩
 refine zc h (fun _ h=>G ?_) (fun _ h=>?_)
 exact zr h
 obtain⟨q1,q2,q3,h⟩:=h
 refine G ?_
 refine wL (oC (join_c lines (⟨#[10]⟩:ByteArray) q1 q2 q3) ?_)
 refine G ?_
 exact zr h
end Go.Proofs.YtkifpidbpoghlaaGreatDoor
set_option linter.all false
namespace Go.Proofs.YtkifpidbpoghlaaGreatDoor
open Go Go.Lic Go.Sort Go.Proofs
attribute [local irreducible] absF addF addP zaw zbg applyP atoiO attrF badR behindF betterP blankF checkA checkF checkP clF classF zbp zbx cmpB cmpI cmpL codeF consF countF cutPreF dhex1 digB fewTs fewW findC findT zbt growTF guarF hasPreF hashF hexD hunkB idxB zbj insideF itoaF joinS joinT lenF linesP zar longAF lookF mergeF mul64F mulP newD newF nlB zbe noteF ofF offsF orF parseD zaq partF pathF permF postCmp postsF powF zak pushF rangedF rightCT rightL rollF rotF roundF sameF scutF zbu shareF zbs zbk zbh zad splitG srcF ssF stopB sumD unknownF zbi wordB zbw wrF
theorem psizes_c (p:Patch)(hp0:okP4 p):Fun false Tryz.prog 38 [zby p] (fun d=>d= .tup [D.i ((zbk p).1),D.i ((zbk p).2.1),D.i ((zbk p).2.2)]):=by
 refine fB Tryz.func38 Tryz.ntmps38 (v:=zbk p) (enc:=fun r=> .tup [D.i (r.1),D.i (r.2.1),D.i (r.2.2)]) (psizes_ok p _ hp0 rfl) fun Q h=>?_
 unfold psizes_vc at h
 refine G ?_
 refine wL (oB 2 (fun c1 _=>?_))
 refine G ?_
 refine zl h () (fun gg ss=> [(2,D.i ss.1),(3,D.i ss.2.1),(4,D.i ss.2.2.1),(8,(zai 3 zce) p.hunks),(9,D.i (p.hunks.length:Int)),(10,D.i ss.2.2.2)]) (fun gg ss=> [(c1,.cells 2 [zby p])]) ?_
 rintro again2 _ ⟨keep,drop,add,x⟩ h
 dsimp only at h
 unfold psizes_L1 at h
 refine G ?_
 refine zc h (fun _ h=>?_) (fun _ h=>G ?_)
 obtain⟨q1,h⟩:=h
 refine G ?_
 refine wL (oIx (enc:=zce) ts32 q1 ?_)
 refine G ?_
 refine wL (oA 3 (.agg ([D.i 0,D.i 0,.v (.slice none 0 0)])) tz118 (fun c4 _=>?_))
 refine G ?_
 refine zc h (fun _ h=>?_) (fun _ h=>G ?_)
 obtain⟨q1,h⟩:=h
 obtain⟨q1,h⟩:=h
 refine G ?_
 exact⟨(),((keep+((gi p.hunks x).n)),drop,add,(x+1)),h,cvZ,(.cons _ (.refl _))⟩
 refine zc h (fun _ h=>?_) (fun _ h=>?_)
 obtain⟨q1,h⟩:=h
 obtain⟨q1,h⟩:=h
 refine G ?_
 exact⟨(),(keep,(drop+((gi p.hunks x).n)),add,(x+1)),h,cvZ,(.cons _ (.refl _))⟩
 obtain⟨q1,h⟩:=h
 obtain⟨q1,h⟩:=h
 refine G ?_
 exact⟨(),(keep,drop,(add+((gi p.hunks x).n)),(x+1)),h,cvZ,(.cons _ (.refl _))⟩
 exact zr h
theorem phunk1_c (s_:ByteArray) :Fun false Tryz.prog 127 [D.s s_] (fun d=>d=D.b (nlB s_)):=by
 refine fB Tryz.func127 Tryz.ntmps127 (phunk1_ok s_ _  rfl) fun Q h=>?_
 unfold phunk1_vc at h
 obtain⟨q1,h⟩:=h
 refine G ?_
 refine wL (oC (scont_c s_ (⟨#[10]⟩:ByteArray) q1) ?_)
 refine G ?_
 exact zr h
theorem phunk_c (h_:Hunk)(hp0:h_.lines.length<=1000000):Fun false Tryz.prog 81 [zce h_] (fun d=>d=D.b (hunkB h_)):=by
 refine fB Tryz.func81 Tryz.ntmps81 (phunk_ok h_ _ hp0 rfl) fun Q h=>?_
 unfold phunk_vc at h
 refine G ?_
 refine wL (oB 3 (fun c1 _=>?_))
 iterate 4 refine g ?_
 refine zav (asg [(1,.ptr c1 3 0 0),(2,D.b false),(20,D.b ((((decide (h_.kind<1))||(decide (h_.kind>3)))||(decide (h_.n<1)))||(decide (h_.n>1024))))]) [(c1,.cells 3 [zce h_])] ?_ ?_
 refine G ?_
 refine zp 6 (fun b5=>G ?_) (fun b5=>?_)
 exact⟨(cvB (orS (orS (orS b5)))),(.refl _)⟩
 refine G ?_
 refine zp 11 (fun b6=>G ?_) (fun b6=>?_)
 exact⟨(cvB (orS (orS (orN b5 b6)))),(.refl _)⟩
 refine G ?_
 refine zp 16 (fun b7=>G ?_) (fun b7=>?_)
 exact⟨(cvB (orS (orN (orN b5 b6) b7))),(.refl _)⟩
 refine G ?_
 exact⟨(cvB (orN (orN (orN b5 b6) b7) rfl)),(.refl _)⟩
 refine zc h (fun _ h=>G ?_) (fun _ h=>G ?_)
 exact zr h
 refine zc h (fun _ h=>G ?_) (fun _ h=>?_)
 exact zr h
 obtain⟨q1,h⟩:=h
 iterate 2 refine g ?_
 refine zav (asg [(2,D.b (((h_.lines.length:Int)==h_.n)&&(!(h_.lines.any (fun(x0_:ByteArray)=>nlB x0_)))))]) [(c1,.cells 3 [zce h_])] ?_ ?_
 refine G ?_
 refine zp 34 (fun b4=>G ?_) (fun b4=>?_)
 refine wG (oC (cfStr_c h_.lines 127 [] [] (fun(x0_:ByteArray)=>nlB x0_) (fun(x0_:ByteArray)=>True) zK (fun x0_ _=>phunk1_c x0_) (q1 (beqT b4)).1 (q1 (beqT b4)).2) ?_)
 refine G ?_
 exact⟨(cvB (andN b4 rfl)),(.refl _)⟩
 refine G ?_
 exact⟨(cvB (andS b4)),(.refl _)⟩
 refine G ?_
 exact zr h
theorem plines1_w (l:(List ByteArray))(out:(List ByteArray))(c_out d_out:Nat)(pre_out post_out:List D)(Q:(List ByteArray)->Prop)(h:plines1_vc l out Q):CallH Tryz.prog 129 [(zai 1 D.s) l,.ptr c_out 1 0 0] [(c_out,.cells 1 [.own d_out 1 pre_out.length out.length]),(d_out,.cells 1 (zas D.s pre_out out post_out))] (fun d h'=>∃(r:(List ByteArray)) (g:Nat×List D×List D),d= .tup []/\h'= [(c_out,.cells 1 [.own g.1 1 g.2.1.length r.length]),(g.1,.cells 1 (zas D.s g.2.1 r g.2.2))]/\Q r):=by
 unfold plines1_vc at h
 refine CallH.of_bodyP Tryz.func129 rfl Tryz.ntmps129 rfl ?_
 obtain⟨q1,h⟩:=h
 refine G ?_
 refine wL (OpA.appendW (enc:=D.s) rfl rfl rfl rfl ts25 rfl (fun _ _=>(.tail .head)) (.list (ys:=l)) q1 (fun c1 pre2=>?_))
 refine G ?_
 exact⟨_,.nil,[(c_out,.cells 1 [.own c1 1 pre2.length (out++l).length]),(c1,.cells 1 (zas D.s pre2 (out++l) ([]:List D)))],[(c_out,.cells 1 [.own c1 1 pre2.length (out++l).length]),(c1,.cells 1 (zas D.s pre2 (out++l) ([]:List D)))],(.refl _),(.refl _),(out++l),(c1,pre2,([]:List D)),rfl,rfl,h⟩
theorem plines1_c (l:(List ByteArray))(out:(List ByteArray))(c_out d_out:Nat)(pre_out post_out:List D)(hp0:l.length<=1000000)(hp1:out.length<=1000000000):CallH Tryz.prog 129 [(zai 1 D.s) l,.ptr c_out 1 0 0] [(c_out,.cells 1 [.own d_out 1 pre_out.length out.length]),(d_out,.cells 1 (zas D.s pre_out out post_out))] (fun d h'=>∃(g:Nat×List D×List D),d= .tup []/\h'= [(c_out,.cells 1 [.own g.1 1 g.2.1.length (out++l).length]),(g.1,.cells 1 (zas D.s g.2.1 (out++l) g.2.2))]):=
 (plines1_w l out c_out d_out pre_out post_out  (fun r=>r=(out++l)) (plines1_ok l out _ hp0 hp1 rfl)).mono (by rintro d h' ⟨r,g,hd,hh,rfl⟩; exact⟨g,hd,hh⟩)
theorem plines_c (p:Patch)(hp0:okP4 p):Fun false Tryz.prog 83 [zby p] (fun d=>d=(zai 1 D.s) (linesP p)):=by
 refine fB Tryz.func83 Tryz.ntmps83 (plines_ok p _ hp0 rfl) fun Q h=>?_
 unfold plines_vc at h
 refine G ?_
 refine wL (oB 2 (fun c1 _=>?_))
 refine wL (OpA.asnN (T:=ByteArray) (enc:=D.s) (sz:=1) rfl rfl ?_)
 refine G ?_
 refine wL (oA 1 (.v (.slice none 0 0)) tz25 (fun c2 _=>?_))
 refine G ?_
 refine wL (OpA.makeFunc rfl ?_)
 refine G ?_
 refine wL (OpA.sneq rfl rfl rfl ?_)
 refine g ?_
 refine wpA_ghostM (c:=c2) (sz1:=1) (sz:=1) (es':=fun g3=> [.own g3 1 ([]:List D).length ([]:List ByteArray).length]) (fun _=> .head) (fun _=>(.turn .nil)) (fun _=>rfl) (fun _=>by rintro d (_|⟨_,hd⟩); exact .of rfl; cases hd) (fun g3=>?_)
 refine wpA_join (S:=(List ByteArray)) (G:=Nat×List D×List D) (fun gg ss=>asg [(1,.ptr c1 2 0 0),(2,(zai 1 D.s) ([]:List ByteArray)),(3,.ptr c2 1 0 0),(4,.fn (.func 129) [] [.ptr c2 1 0 0])]) (fun gg ss=> [(gg.1,.cells 1 (zas D.s gg.2.1 ss gg.2.2)),(c2,.cells 1 [.own gg.1 1 gg.2.1.length ss.length]),(c1,.cells 2 [zby p])]) (fun ss=>plines_J2 p Q ss) ?_ ?_
 refine zc h (fun _ h=>G ?_) (fun _ h=>G ?_)
 refine wL (oC (dhex_c p.base) ?_)
 obtain⟨q1,q2,q3,h⟩:=h
 refine G ?_
 refine wL (OpA.sadd rfl rfl rfl q1 ?_)
 refine wL (OpA.ibuildSliceO rfl ts25 rfl (.cons (.of (sz:=1) rfl) .nil) (by decide) ?_)
 refine wL (OpA.callH rfl rfl rfl zK (h1:= [(c2,.cells 1 [.own g3 1 ([]:List D).length ([]:List ByteArray).length]),(g3,.cells 1 (zas D.s ([]:List D) ([]:List ByteArray) ([]:List D)))]) (h2:= [(c1,.cells 2 [zby p])]) pull1 (plines1_c ([((⟨#[98,97,115,101,32]⟩:ByteArray)++((hexD p.base).1))]:List ByteArray) ([]:List ByteArray) c2 g3 ([]:List D) ([]:List D) q2 q3) ?_)
 rintro _ _ ⟨⟨c16,pre17,post18⟩,rfl,rfl⟩
 refine wpL_perm (h':= [(c16,.cells 1 (zas D.s pre17 (([]:List ByteArray)++([((⟨#[98,97,115,101,32]⟩:ByteArray)++((hexD p.base).1))]:List ByteArray)) post18)),(c2,.cells 1 [.own c16 1 pre17.length (([]:List ByteArray)++([((⟨#[98,97,115,101,32]⟩:ByteArray)++((hexD p.base).1))]:List ByteArray)).length]),(c1,.cells 2 [zby p])]) pull1 ?_
 refine G ?_
 exact⟨(c16,pre17,post18),(([]:List ByteArray)++([((⟨#[98,97,115,101,32]⟩:ByteArray)++((hexD p.base).1))]:List ByteArray)),h,cvZ,(.refl _)⟩
 exact⟨(g3,([]:List D),([]:List D)),([]:List ByteArray),h,cvZ,(.refl _)⟩
 rintro⟨cbgh3,pregh3,postgh3⟩ xs h
 have h:plines_J2 p Q xs:=h
 unfold plines_J2 at h
 refine G ?_
 refine zl h (cbgh3,pregh3,postgh3) (fun gg ss=> [(2,(zai 1 D.s) ([]:List ByteArray)),(3,.ptr c2 1 0 0),(4,.fn (.func 129) [] [.ptr c2 1 0 0]),(26,(zai 3 zce) p.hunks),(27,D.i (p.hunks.length:Int)),(28,D.i ss.2)]) (fun gg ss=> [(gg.1,.cells 1 (zas D.s gg.2.1 ss.1 gg.2.2)),(c2,.cells 1 [.own gg.1 1 gg.2.1.length ss.1.length]),(c1,.cells 2 [zby p])]) ?_
 rintro again4 ⟨cbgh31,pregh31,postgh31⟩ ⟨xs1,x⟩ h
 dsimp only at h
 unfold plines_L1 at h
 refine G ?_
 refine zc h (fun _ h=>?_) (fun _ h=>G ?_)
 obtain⟨q1,h⟩:=h
 refine G ?_
 refine wL (oIx (enc:=zce) ts32 q1 ?_)
 refine G ?_
 refine wL (oA 3 (.agg ([D.i 0,D.i 0,.v (.slice none 0 0)])) tz118 (fun c6 _=>?_))
 iterate 12 refine g ?_
 refine wpA_join (S:=ByteArray) (G:=Unit) (fun gg ss=>asg [(2,(zai 1 D.s) ([]:List ByteArray)),(3,.ptr c2 1 0 0),(4,.fn (.func 129) [] [.ptr c2 1 0 0]),(8,.ptr c6 3 0 0),(9,D.s ss),(26,(zai 3 zce) p.hunks),(27,D.i (p.hunks.length:Int)),(28,D.i x)]) (fun gg ss=> [(c6,.cells 3 [zce (gi p.hunks x)]),(cbgh31,.cells 1 (zas D.s pregh31 xs1 postgh31)),(c2,.cells 1 [.own cbgh31 1 pregh31.length xs1.length]),(c1,.cells 2 [zby p])]) (fun ss=>plines_J1 p xs1 x again4 ss) ?_ ?_
 refine G ?_
 refine zc h (fun _ h=>G ?_) (fun _ h=>G ?_)
 exact⟨(),(⟨#[100,114,111,112,32]⟩:ByteArray),h,cvZ,(.refl _)⟩
 refine zc h (fun _ h=>G ?_) (fun _ h=>G ?_)
 exact⟨(),(⟨#[97,100,100,32]⟩:ByteArray),h,cvZ,(.refl _)⟩
 exact⟨(),(⟨#[107,101,101,112,32]⟩:ByteArray),h,cvZ,(.refl _)⟩
 rintro _ word h
 have h:plines_J1 p xs1 x again4 word:=h
 unfold plines_J1 at h
 obtain⟨q1,q2,q3,q4,q5,h⟩:=h
 refine G ?_
 refine wL (oC (itoa_c ((gi p.hunks x).n) q1 q2) ?_)
 refine wL (OpA.sadd rfl rfl rfl q3 ?_)
 refine wL (OpA.ibuildSliceO rfl ts25 rfl (.cons (.of (sz:=1) rfl) .nil) (by decide) ?_)
 refine wL (OpA.callH rfl rfl rfl zK (h1:= [(c2,.cells 1 [.own cbgh31 1 pregh31.length xs1.length]),(cbgh31,.cells 1 (zas D.s pregh31 xs1 postgh31))]) (h2:= [(c6,.cells 3 [zce (gi p.hunks x)]),(c1,.cells 2 [zby p])]) (pull2.trans (.cons _ pull1)) (plines1_c ([(word++(itoaF ((gi p.hunks x).n)))]:List ByteArray) xs1 c2 cbgh31 pregh31 postgh31 q4 q5) ?_)
 rintro _ _ ⟨⟨c7,pre8,post9⟩,rfl,rfl⟩
 refine wpL_perm (h':= [(c6,.cells 3 [zce (gi p.hunks x)]),(c7,.cells 1 (zas D.s pre8 (xs1++([(word++(itoaF ((gi p.hunks x).n)))]:List ByteArray)) post9)),(c2,.cells 1 [.own c7 1 pre8.length (xs1++([(word++(itoaF ((gi p.hunks x).n)))]:List ByteArray)).length]),(c1,.cells 2 [zby p])]) (pull2.trans (.cons _ pull1)) ?_
 obtain⟨q1,q2,h⟩:=h
 refine G ?_
 refine wL (OpA.callH rfl rfl rfl zK (h1:= [(c2,.cells 1 [.own c7 1 pre8.length (xs1++([(word++(itoaF ((gi p.hunks x).n)))]:List ByteArray)).length]),(c7,.cells 1 (zas D.s pre8 (xs1++([(word++(itoaF ((gi p.hunks x).n)))]:List ByteArray)) post9))]) (h2:= [(c6,.cells 3 [zce (gi p.hunks x)]),(c1,.cells 2 [zby p])]) (pull2.trans (.cons _ pull1)) (plines1_c ((gi p.hunks x).lines) (xs1++([(word++(itoaF ((gi p.hunks x).n)))]:List ByteArray)) c2 c7 pre8 post9 q1 q2) ?_)
 rintro _ _ ⟨⟨c10,pre11,post12⟩,rfl,rfl⟩
 refine wpL_perm (h':= [(c6,.cells 3 [zce (gi p.hunks x)]),(c10,.cells 1 (zas D.s pre11 ((xs1++([(word++(itoaF ((gi p.hunks x).n)))]:List ByteArray))++((gi p.hunks x).lines)) post12)),(c2,.cells 1 [.own c10 1 pre11.length ((xs1++([(word++(itoaF ((gi p.hunks x).n)))]:List ByteArray))++((gi p.hunks x).lines)).length]),(c1,.cells 2 [zby p])]) (pull2.trans (.cons _ pull1)) ?_
 obtain⟨q1,h⟩:=h
 refine G ?_
 exact⟨(c10,pre11,post12),(((xs1++([(word++(itoaF ((gi p.hunks x).n)))]:List ByteArray))++((gi p.hunks x).lines)),(x+1)),h,cvZ,(.cons _ (.refl _))⟩
 exact⟨_,(.tmp (d:= .own cbgh31 1 pregh31.length xs1.length) rfl .nil),_,(.win .head (by intro hf; cases hf) .nil),⟨xs1,rfl,h⟩⟩
theorem pcheck_c (p:Patch)(hp0:okP4 p):Fun false Tryz.prog 37 [zby p] (fun d=>d= .tup [D.s ((checkP p).1),D.b ((checkP p).2)]):=by
 refine fB Tryz.func37 Tryz.ntmps37 (v:=checkP p) (enc:=fun r=> .tup [D.s (r.1),D.b (r.2)]) (pcheck_ok p _ hp0 rfl) fun Q h=>?_
 unfold pcheck_vc at h
 refine G ?_
 refine wL (oB 2 (fun c1 _=>?_))
 iterate 5 refine g ?_
 refine zav (asg [(1,.ptr c1 2 0 0),(2,D.s (⟨#[]⟩:ByteArray)),(3,D.b false),(25,D.b (((!decide (p.base=(⟨#[]⟩:ByteArray)))&&((p.base.size:Int) != 32))||(decide ((p.hunks.length:Int)>3072))))]) [(c1,.cells 2 [zby p])] ?_ ?_
 refine G ?_
 refine wL (OpA.sneq rfl rfl rfl ?_)
 refine G ?_
 refine zp 14 (fun b15=>G ?_) (fun b15=>?_)
 refine zp 20 (fun b16=>G ?_) (fun b16=>?_)
 exact⟨(cvB (orS (andN b15 b16))),(.refl _)⟩
 refine G ?_
 exact⟨(cvB (orN (andN b15 b16) rfl)),(.refl _)⟩
 refine G ?_
 exact⟨(cvB (orN (andS b15) rfl)),(.refl _)⟩
 refine zc h (fun _ h=>G ?_) (fun _ h=>G ?_)
 exact zr h
 refine zl h () (fun gg ss=> [(1,.ptr c1 2 0 0),(2,D.s (⟨#[]⟩:ByteArray)),(3,D.b false),(27,(zai 3 zce) p.hunks),(28,D.i (p.hunks.length:Int)),(29,D.i ss)]) (fun gg ss=> [(c1,.cells 2 [zby p])]) ?_
 rintro again3 _ x h
 unfold pcheck_L1 at h
 refine G ?_
 refine zc h (fun _ h=>?_) (fun _ h=>?_)
 obtain⟨q1,h⟩:=h
 refine G ?_
 refine wL (oIx (enc:=zce) ts32 q1 ?_)
 refine G ?_
 refine wL (oA 3 (.agg ([D.i 0,D.i 0,.v (.slice none 0 0)])) tz118 (fun c5 _=>?_))
 iterate 2 refine g ?_
 obtain⟨q1,q2,h⟩:=h
 iterate 2 refine g ?_
 refine zav (asg [(1,.ptr c1 2 0 0),(2,D.s (⟨#[]⟩:ByteArray)),(3,D.b false),(27,(zai 3 zce) p.hunks),(28,D.i (p.hunks.length:Int)),(29,D.i x),(67,D.b ((!(hunkB (gi p.hunks x)))||((decide (x>0))&&((((gi p.hunks (x-1)).kind)==((gi p.hunks x).kind))||((((gi p.hunks (x-1)).kind)==3)&&(((gi p.hunks x).kind)==2))))))]) [(c5,.cells 3 [zce (gi p.hunks x)]),(c1,.cells 2 [zby p])] ?_ ?_
 refine zbf (m:=34) mo zK rfl ?_
 refine G ?_
 refine dL (oC (phunk_c (gi p.hunks x) q1) oR) ?_
 iterate 2 refine g ?_
 refine zbr (s:=37) rfl (fun b7=>?_) (fun b7=>?_)
 refine G ?_
 iterate 25 refine DetK.skipU rfl rfl rfl ?_
 iterate 2 refine g ?_
 refine DetK.nil ?_
 refine G ?_
 exact⟨(cvB (orS b7)),(.refl _)⟩
 iterate 3 refine g ?_
 refine zbr (s:=40) rfl (fun b8=>?_) (fun b8=>?_)
 refine G ?_
 refine dG (oSb ((q2 (notF b7)) (decT b8)).1 oR) ?_
 refine dG (oIx (enc:=zce) ts32 ((q2 (notF b7)) (decT b8)).2 oR) ?_
 iterate 6 refine g ?_
 refine zbr (s:=51) rfl (fun b9=>?_) (fun b9=>?_)
 refine G ?_
 iterate 3 refine DetK.skipU rfl rfl rfl ?_
 iterate 4 refine g ?_
 refine DetK.nil ?_
 refine G ?_
 exact⟨(cvB (orN b7 (andN b8 (orS b9)))),(.refl _)⟩
 refine G ?_
 refine dG (oSb ((q2 (notF b7)) (decT b8)).1 oR) ?_
 refine dG (oIx (enc:=zce) ts32 ((q2 (notF b7)) (decT b8)).2 oR) ?_
 iterate 4 refine g ?_
 refine zbr (s:=60) rfl (fun b10=>?_) (fun b10=>?_)
 iterate 7 refine g ?_
 refine DetK.nil ?_
 refine G ?_
 exact⟨(cvB (orN b7 (andN b8 (orN b9 (andN b10 rfl))))),(.refl _)⟩
 iterate 7 refine g ?_
 refine DetK.nil ?_
 refine G ?_
 exact⟨(cvB (orN b7 (andN b8 (orN b9 (andS b10))))),(.refl _)⟩
 refine G ?_
 iterate 13 refine DetK.skipU rfl rfl rfl ?_
 iterate 3 refine g ?_
 refine DetK.nil ?_
 refine G ?_
 exact⟨(cvB (orN b7 (andS b8))),(.refl _)⟩
 refine zc h (fun _ h=>G ?_) (fun _ h=>?_)
 exact zr h
 obtain⟨q1,h⟩:=h
 refine G ?_
 exact⟨(),(x+1),h,cvZ,(.cons _ (.refl _))⟩
 obtain⟨q1,h⟩:=h
 refine G ?_
 refine wL (oC (psizes_c p q1) ?_)
 obtain⟨q1,q2,q3,h⟩:=h
 iterate 10 refine g ?_
 refine zav (asg [(1,.ptr c1 2 0 0),(2,D.s (⟨#[]⟩:ByteArray)),(3,D.b false),(96,D.b ((((decide ((((zbk p).1)+((zbk p).2.1))<1))||(decide ((((zbk p).1)+((zbk p).2.1))>1024)))||(decide ((((zbk p).1)+((zbk p).2.2))<1)))||(decide ((((zbk p).1)+((zbk p).2.2))>1024))))]) [(c1,.cells 2 [zby p])] ?_ ?_
 refine G ?_
 refine zp 79 (fun b12=>G ?_) (fun b12=>?_)
 exact⟨(cvB (orS (orS (orS b12)))),(.refl _)⟩
 refine G ?_
 refine zp 85 (fun b13=>G ?_) (fun b13=>?_)
 exact⟨(cvB (orS (orS (orN b12 b13)))),(.refl _)⟩
 refine G ?_
 refine wG (oAd (q2 ⟨(decF b12),(decF b13)⟩) ?_)
 refine G ?_
 refine zp 91 (fun b14=>G ?_) (fun b14=>?_)
 exact⟨(cvB (orS (orN (orN b12 b13) b14))),(.refl _)⟩
 refine G ?_
 refine wG (oAd (q3 ⟨⟨(decF b12),(decF b13)⟩,(decF b14)⟩) ?_)
 refine G ?_
 exact⟨(cvB (orN (orN (orN b12 b13) b14) rfl)),(.refl _)⟩
 refine zc h (fun _ h=>G ?_) (fun _ h=>?_)
 exact zr h
 obtain⟨q1,q2,q3,h⟩:=h
 refine G ?_
 refine wL (oC (plines_c p q1) ?_)
 refine wL (oC (tjoin_c (linesP p) q2 q3) ?_)
 refine G ?_
 exact zr h
theorem papply_c (p:Patch)(data:ByteArray)(hp0:okP4 p)(hp1:data.size<=1000000):Fun false Tryz.prog 43 [zby p,D.s data] (fun d=>d= .tup [(zai 1 D.s) ((applyP p data).1),(zai 1 D.s) ((applyP p data).2.1),D.i ((applyP p data).2.2)]):=by
 refine fB Tryz.func43 Tryz.ntmps43 (v:=applyP p data) (enc:=fun r=> .tup [(zai 1 D.s) (r.1),(zai 1 D.s) (r.2.1),D.i (r.2.2)]) (papply_ok p data _ hp0 hp1 rfl) fun Q h=>?_
 unfold papply_vc at h
 refine G ?_
 refine wL (oB 2 (fun c1 _=>?_))
 refine wL (OpA.asnN (T:=ByteArray) (enc:=D.s) (sz:=1) rfl rfl ?_)
 obtain⟨q1,h⟩:=h
 refine G ?_
 refine wL (oC (pcheck_c p q1) ?_)
 refine G ?_
 refine zc h (fun _ h=>?_) (fun _ h=>?_)
 iterate 2 refine g ?_
 refine wL (OpA.asnN (T:=ByteArray) (enc:=D.s) (sz:=1) rfl rfl ?_)
 refine G ?_
 exact⟨_,(.tmp (d:=(zai 1 D.s) ([]:List ByteArray)) rfl (.tmp (d:= .v (.slice none 0 0)) rfl (.tmp (d:=D.i 1) rfl .nil))),_,(.tup (.same rfl (.nilv (sz:=1) (.same rfl .nil))) .nil),⟨(([]:List ByteArray),[],1),rfl,h⟩⟩
 obtain⟨q1,h⟩:=h
 refine G ?_
 refine wL (oC (tlines_c data q1) ?_)
 refine G ?_
 refine zc h (fun _ h=>?_) (fun _ h=>?_)
 iterate 3 refine g ?_
 refine wL (OpA.asnN (T:=ByteArray) (enc:=D.s) (sz:=1) rfl rfl ?_)
 refine G ?_
 exact⟨_,(.tmp (d:=(zai 1 D.s) ([]:List ByteArray)) rfl (.tmp (d:= .v (.slice none 0 0)) rfl (.tmp (d:=D.i ((zar data).2)) rfl .nil))),_,(.tup (.same rfl (.nilv (sz:=1) (.same rfl .nil))) .nil),⟨(([]:List ByteArray),[],(zar data).2),rfl,h⟩⟩
 obtain⟨q1,h⟩:=h
 refine G ?_
 refine wL (oC (psizes_c p q1) ?_)
 obtain⟨q1,q2,h⟩:=h
 iterate 10 refine g ?_
 refine zav (asg [(2,.ptr c1 2 0 0),(4,(zai 1 D.s) ([]:List ByteArray)),(5,.v (.slice none 0 0)),(6,D.i 0),(9,(zai 1 D.s) ((zar data).1)),(58,D.b (((((zbk p).1)+((zbk p).2.1)) != (((zar data).1).length:Int))||((!decide (p.base=(⟨#[]⟩:ByteArray)))&&(!decide (p.base=(sumD data))))))]) [(c1,.cells 2 [zby p])] ?_ ?_
 refine zbf (m:=18) mo zK rfl ?_
 iterate 7 refine g ?_
 refine zbr (s:=47) rfl (fun b16=>?_) (fun b16=>?_)
 refine G ?_
 iterate 5 refine DetK.skipU rfl rfl rfl ?_
 iterate 2 refine g ?_
 refine DetK.nil ?_
 refine G ?_
 exact⟨(cvB (orS b16)),(.refl _)⟩
 refine G ?_
 refine dG (OpA.sneq rfl rfl rfl oR) ?_
 refine g ?_
 refine zbr (s:=51) rfl (fun b17=>?_) (fun b17=>?_)
 refine G ?_
 refine dG (oC (dsum_c data ((q2 (bneF b16)) (ndecT b17))) oR) ?_
 refine dG (OpA.sneq rfl rfl rfl oR) ?_
 iterate 2 refine g ?_
 refine DetK.nil ?_
 refine G ?_
 exact⟨(cvB (orN b16 (andN b17 rfl))),(.refl _)⟩
 iterate 7 refine g ?_
 refine DetK.nil ?_
 refine G ?_
 exact⟨(cvB (orN b16 (andS b17))),(.refl _)⟩
 refine zc h (fun _ h=>?_) (fun _ h=>?_)
 iterate 2 refine g ?_
 refine wL (OpA.asnN (T:=ByteArray) (enc:=D.s) (sz:=1) rfl rfl ?_)
 refine G ?_
 exact⟨_,(.tmp (d:=(zai 1 D.s) ([]:List ByteArray)) rfl (.tmp (d:= .v (.slice none 0 0)) rfl (.tmp (d:=D.i 9) rfl .nil))),_,(.tup (.same rfl (.nilv (sz:=1) (.same rfl .nil))) .nil),⟨(([]:List ByteArray),[],9),rfl,h⟩⟩
 iterate 3 refine g ?_
 refine wL (OpA.asnG (T:=ByteArray) (enc:=D.s) (sz:=1) rfl rfl (fun c14_g5=>?_))
 refine G ?_
 refine zl h (c14_g5,([]:List D),([]:List D)) (fun gg ss=> [(4,(zai 1 D.s) ([]:List ByteArray)),(5,.v (.slice none 0 0)),(6,D.i 0),(9,(zai 1 D.s) ((zar data).1)),(14,.own gg.1 1 gg.2.1.length ss.1.length),(15,D.i ss.2.1),(60,(zai 3 zce) p.hunks),(61,D.i (p.hunks.length:Int)),(62,D.i ss.2.2)]) (fun gg ss=> [(gg.1,.cells 1 (zas D.s gg.2.1 ss.1 gg.2.2)),(c1,.cells 2 [zby p])]) ?_
 rintro again6 ⟨cb14,pre14,post14⟩ ⟨out,at_,x⟩ h
 dsimp only at h
 unfold papply_L1 at h
 refine G ?_
 refine zc h (fun _ h=>?_) (fun _ h=>?_)
 obtain⟨q1,h⟩:=h
 refine G ?_
 refine wL (oIx (enc:=zce) ts32 q1 ?_)
 refine G ?_
 refine wL (oA 3 (.agg ([D.i 0,D.i 0,.v (.slice none 0 0)])) tz118 (fun c8 _=>?_))
 refine G ?_
 refine zc h (fun _ h=>?_) (fun _ h=>G ?_)
 obtain⟨q1,q2,q3,h⟩:=h
 refine G ?_
 refine wL (OpA.isliceV (enc:=D.s) rfl ts25 rfl (.some rfl) (.some rfl) q2 ?_)
 refine wL (OpA.appendW (enc:=D.s) rfl rfl rfl rfl ts25 rfl (fun _ _=>(.tail .head)) (.list (ys:=(zbc ((zar data).1) at_ (at_+((gi p.hunks x).n))))) q3 (fun c10 pre11=>?_))
 obtain⟨q1,h⟩:=h
 obtain⟨q1,h⟩:=h
 refine G ?_
 exact⟨(c10,pre11,([]:List D)),((out++(zbc ((zar data).1) at_ (at_+((gi p.hunks x).n)))),(at_+((gi p.hunks x).n)),(x+1)),h,cvZ,(.cons _ (.refl _))⟩
 refine zc h (fun _ h=>?_) (fun _ h=>?_)
 obtain⟨q1,h⟩:=h
 obtain⟨q1,h⟩:=h
 refine G ?_
 exact⟨(cb14,pre14,post14),(out,(at_+((gi p.hunks x).n)),(x+1)),h,cvZ,(.cons _ (.refl _))⟩
 obtain⟨q1,h⟩:=h
 refine G ?_
 refine wL (OpA.appendW (enc:=D.s) rfl rfl rfl rfl ts25 rfl (fun _ _=>(.tail .head)) (.list (ys:=(gi p.hunks x).lines)) q1 (fun c13 pre14=>?_))
 obtain⟨q1,h⟩:=h
 refine G ?_
 exact⟨(c13,pre14,([]:List D)),((out++((gi p.hunks x).lines)),at_,(x+1)),h,cvZ,(.cons _ (.refl _))⟩
 iterate 3 refine g ?_
 refine wpA_freeze (s:=14) (d:= .own cb14 1 pre14.length out.length) (d':=(zai 1 D.s) out) (.refl _) rfl (.win (enc:=D.s) .head (by intro hf; cases hf) .nil) ?_
 obtain⟨q1,q2,h⟩:=h
 refine G ?_
 refine wL (oC (tjoin_c out q1 q2) ?_)
 refine G ?_
 refine zc h (fun _ h=>?_) (fun _ h=>G ?_)
 iterate 3 refine g ?_
 refine wL (OpA.asnN (T:=ByteArray) (enc:=D.s) (sz:=1) rfl rfl ?_)
 refine G ?_
 exact⟨_,(.tmp (d:=(zai 1 D.s) ([]:List ByteArray)) rfl (.tmp (d:= .v (.slice none 0 0)) rfl (.tmp (d:=D.i ((joinT out).2)) rfl .nil))),_,(.tup (.same rfl (.nilv (sz:=1) (.same rfl .nil))) .nil),⟨(([]:List ByteArray),[],(joinT out).2),rfl,h⟩⟩
 exact zr h
theorem pApply_c (p:Patch)(data:ByteArray)(hp0:okP4 p)(hp1:data.size<=1000000):Fun false Tryz.prog 14 [zby p,D.s data] (fun d=>d= .tup [D.s ((zbg p data).1),D.i ((zbg p data).2)]):=by
 refine fB Tryz.func14 Tryz.ntmps14 (v:=zbg p data) (enc:=fun r=> .tup [D.s (r.1),D.i (r.2)]) (pApply_ok p data _ hp0 hp1 rfl) fun Q h=>?_
 unfold pApply_vc at h
 refine G ?_
 refine wL (oB 2 (fun c1 _=>?_))
 obtain⟨q1,q2,h⟩:=h
 refine G ?_
 refine wL (oC (papply_c p data q1 q2) ?_)
 obtain⟨q1,q2,q3,h⟩:=h
 refine G ?_
 refine wL (oC (join_c ((applyP p data).2.1) (⟨#[10]⟩:ByteArray) q1 q2 q3) ?_)
 refine G ?_
 exact zr h
end Go.Proofs.YtkifpidbpoghlaaGreatDoor
set_option linter.all false
namespace Go.Proofs.YtkifpidbpoghlaaGreatDoor
open Go Go.Lic Go.Sort Go.Proofs
attribute [local irreducible] absF addF addP zaw zbg applyP atoiO attrF badR behindF betterP blankF checkA checkF checkP clF classF zbp zbx cmpB cmpI cmpL codeF consF countF cutPreF dhex1 digB fewTs fewW findC findT zbt growTF guarF hasPreF hashF hexD hunkB idxB zbj insideF itoaF joinS joinT lenF linesP zar longAF lookF mergeF mul64F mulP newD newF nlB zbe noteF ofF offsF orF parseD zaq partF pathF permF postCmp postsF powF zak pushF rangedF rightCT rightL rollF rotF roundF sameF scutF zbu shareF zbs zbk zbh zad splitG srcF ssF stopB sumD unknownF zbi wordB zbw wrF
theorem lhasp_c (s_:ByteArray)(prefix_:ByteArray) :Fun false Tryz.prog 136 [D.s s_,D.s prefix_] (fun d=>d=D.b (hasPreF s_ prefix_)):=by
 refine fB Tryz.func136 Tryz.ntmps136 (lhasp_ok s_ prefix_ _  rfl) fun Q h=>?_
 unfold lhasp_vc at h
 obtain⟨q1,h⟩:=h
 iterate 5 refine g ?_
 refine zav (asg [(4,D.b ((decide ((s_.size:Int)>=(prefix_.size:Int)))&&(decide ((ssub s_ 0 (prefix_.size:Int))=prefix_))))]) [] ?_ ?_
 refine G ?_
 refine zp 10 (fun b1=>G ?_) (fun b1=>?_)
 refine wG (OpA.ssliceV rfl td9 rfl (.none _) (.some rfl) (q1 (decT b1)) ?_)
 refine G ?_
 refine wG (OpA.seql rfl rfl rfl ?_)
 refine G ?_
 exact⟨(cvB (andN b1 rfl)),(.refl _)⟩
 refine G ?_
 exact⟨(cvB (andS b1)),(.refl _)⟩
 refine G ?_
 exact zr h
theorem lcutp_c (s_:ByteArray)(prefix_:ByteArray) :Fun false Tryz.prog 90 [D.s s_,D.s prefix_] (fun d=>d= .tup [D.s ((cutPreF s_ prefix_).1),D.b ((cutPreF s_ prefix_).2)]):=by
 refine fB Tryz.func90 Tryz.ntmps90 (v:=cutPreF s_ prefix_) (enc:=fun r=> .tup [D.s (r.1),D.b (r.2)]) (lcutp_ok s_ prefix_ _  rfl) fun Q h=>?_
 unfold lcutp_vc at h
 refine G ?_
 refine wL (oC (lhasp_c s_ prefix_) ?_)
 refine G ?_
 refine zc h (fun _ h=>G ?_) (fun _ h=>?_)
 exact zr h
 obtain⟨q1,h⟩:=h
 refine G ?_
 refine wL (OpA.ssliceV rfl td9 rfl (.some rfl) (.none _) q1 ?_)
 refine G ?_
 exact zr h
theorem scutp_c (s_:ByteArray)(prefix_:ByteArray) :Fun false Tryz.prog 45 [D.s s_,D.s prefix_] (fun d=>d= .tup [D.s ((cutPreF s_ prefix_).1),D.b ((cutPreF s_ prefix_).2)]):=by
 refine fB Tryz.func45 Tryz.ntmps45 (v:=cutPreF s_ prefix_) (enc:=fun r=> .tup [D.s (r.1),D.b (r.2)]) (scutp_ok s_ prefix_ _  rfl) fun Q h=>?_
 unfold scutp_vc at h
 refine G ?_
 refine wL (oC (lcutp_c s_ prefix_) ?_)
 refine G ?_
 exact zr h
theorem lcut_c (s_:ByteArray)(sep:ByteArray)(hp0:s_.size<=1000000)(hp1:sep.size=1):Fun false Tryz.prog 92 [D.s s_,D.s sep] (fun d=>d= .tup [D.s ((scutF s_ sep).1),D.s ((scutF s_ sep).2.1),D.b ((scutF s_ sep).2.2)]):=by
 refine fB Tryz.func92 Tryz.ntmps92 (v:=scutF s_ sep) (enc:=fun r=> .tup [D.s (r.1),D.s (r.2.1),D.b (r.2.2)]) (lcut_ok s_ sep _ hp0 hp1 rfl) fun Q h=>?_
 unfold lcut_vc at h
 obtain⟨q1,h⟩:=h
 refine G ?_
 refine wL (oC (sIndex_c s_ sep q1) ?_)
 refine G ?_
 refine zc h (fun _ h=>?_) (fun _ h=>G ?_)
 obtain⟨q1,q2,q3,h⟩:=h
 refine g ?_
 refine zbf (m:=12) mo zK rfl ?_
 refine G ?_
 refine dL (OpA.ssliceV rfl td9 rfl (.none _) (.some rfl) q1 oR) ?_
 refine G ?_
 refine dL (OpA.ssliceV rfl td9 rfl (.some rfl) (.none _) q3 oR) ?_
 iterate 3 refine g ?_
 refine DetK.nil ?_
 refine G ?_
 exact zr h
 exact zr h
theorem scut_c (s_:ByteArray)(sep:ByteArray)(hp0:s_.size<=1000000)(hp1:sep.size=1):Fun false Tryz.prog 47 [D.s s_,D.s sep] (fun d=>d= .tup [D.s ((scutF s_ sep).1),D.s ((scutF s_ sep).2.1),D.b ((scutF s_ sep).2.2)]):=by
 refine fB Tryz.func47 Tryz.ntmps47 (v:=scutF s_ sep) (enc:=fun r=> .tup [D.s (r.1),D.s (r.2.1),D.b (r.2.2)]) (scut_ok s_ sep _ hp0 hp1 rfl) fun Q h=>?_
 unfold scut_vc at h
 obtain⟨q1,q2,h⟩:=h
 refine G ?_
 refine wL (oC (lcut_c s_ sep q1 q2) ?_)
 refine G ?_
 exact zr h
theorem cloneS_c (s_:(List ByteArray))(hp0:s_.length<=1000000):Fun false Tryz.prog 49 [(zai 1 D.s) s_] (fun d=>d=(zai 1 D.s) (s_)):=by
 refine fB Tryz.func49 Tryz.ntmps49 (cloneS_ok s_ _ hp0 rfl) fun Q h=>?_
 unfold cloneS_vc at h
 refine G ?_
 refine wL (OpA.listNil (enc:=D.s) (xs:=s_) rfl ts25.desc rfl rfl rfl (fun isnil hisnil=>?_))
 have h:=h isnil hisnil
 refine G ?_
 refine zc h (fun _ h=>G ?_) (fun _ h=>?_)
 exact⟨_,(.tmp (d:= .v (.slice none 0 0)) rfl .nil),_,(.nilv (sz:=1) .nil),⟨[],rfl,h⟩⟩
 obtain⟨q1,h⟩:=h
 refine G ?_
 refine wL (OpA.buildSliceV (enc:=D.s) (xs:=([]:List ByteArray)) rfl ts25 rfl .nil (by decide) rfl (fun c2=>?_))
 refine G ?_
 refine wL (OpA.appendW (enc:=D.s) rfl rfl rfl rfl ts25 rfl (fun _ _=> .head) (.list (ys:=s_)) q1 (fun c3 pre4=>?_))
 refine G ?_
 exact⟨_,(.tmp (d:= .own c3 1 pre4.length (([]:List ByteArray)++s_).length) rfl .nil),_,(.win .head (by intro hf; cases hf) .nil),⟨(([]:List ByteArray)++s_),rfl,h⟩⟩
theorem pparse_c (text:ByteArray)(hp0:text.size<=300):Fun false Tryz.prog 17 [D.s text] (fun d=>d= .tup [zby ((zaq text).1),D.i ((zaq text).2)]):=by
 refine fB Tryz.func17 Tryz.ntmps17 (v:=zaq text) (enc:=fun r=> .tup [zby (r.1),D.i (r.2)]) (pparse_ok text _ hp0 rfl) fun Q h=>?_
 unfold pparse_vc at h
 refine G ?_
 refine wL (oA 2 (.agg ([D.s ByteArray.empty,.v (.slice none 0 0)])) tz34 (fun c1 _=>?_))
 iterate 2 refine g ?_
 refine wpA_scope ?_
 obtain⟨q1,h⟩:=h
 refine G ?_
 refine wL (oC (tlines_c text q1) ?_)
 refine G ?_
 refine zc h (fun _ h=>G ?_) (fun _ h=>G ?_)
 refine wL (oU [.v (.string ⟨#[]⟩),.v (.slice none 0 0)] tp34 tz34 ?_)
 refine G ?_
 exact⟨_,(.cell (.whole ti34 rfl rfl .head rfl ⟨_,rfl⟩) (.tmp (d:=D.i ((zar text).2)) rfl .nil)),_,(.tup (.agg (.same rfl (.nilv (sz:=3) .nil)) (.same rfl .nil)) .nil),⟨((Patch.mk ByteArray.empty []),(zar text).2),rfl,h⟩⟩
 refine wL (oA 2 (.agg ([D.s ByteArray.empty,.v (.slice none 0 0)])) tz34 (fun c3 _=>?_))
 obtain⟨q1,h⟩:=h
 refine G ?_
 refine wL (oIx (enc:=D.s) ts25 q1 ?_)
 refine G ?_
 refine wL (oC (scutp_c (gi ((zar text).1) 0) (⟨#[98,97,115,101,32]⟩:ByteArray)) ?_)
 iterate 10 refine g ?_
 refine wpA_join (S:=ByteArray×(List ByteArray)) (G:=Unit) (fun gg ss=>asg [(0,D.s text),(2,.ptr c1 2 0 0),(3,D.i 0),(4,(zai 1 D.s) ss.2),(6,.ptr c3 2 0 0)]) (fun gg ss=> [(c3,.cells 2 [.agg ([D.s ss.1,.v (.slice none 0 0)])]),(c1,.cells 2 [.agg ([D.s ByteArray.empty,.v (.slice none 0 0)])])]) (fun ss=>pparse_J2 text Q ss.1 ss.2) ?_ ?_
 refine zc h (fun _ h=>G ?_) (fun _ h=>G ?_)
 refine wL (oC (dparse_c ((cutPreF (gi ((zar text).1) 0) (⟨#[98,97,115,101,32]⟩:ByteArray)).1)) ?_)
 iterate 4 refine g ?_
 refine wE (OpA.store (e':= .agg ([D.s ((parseD ((cutPreF (gi ((zar text).1) 0) (⟨#[98,97,115,101,32]⟩:ByteArray)).1)).1),.v (.slice none 0 0)])) rfl ti9 rfl (.of rfl) rfl (Nat.le_of_ble_eq_true rfl) rfl .head ?_)
 refine G ?_
 refine zc h (fun _ h=>G ?_) (fun _ h=>?_)
 refine wL (oU [.v (.string ⟨#[]⟩),.v (.slice none 0 0)] tp34 tz34 ?_)
 refine G ?_
 exact⟨_,(.cell (.whole ti34 rfl rfl (.tail .head) rfl ⟨_,rfl⟩) (.tmp (d:=D.i 4) rfl .nil)),_,(.tup (.agg (.same rfl (.nilv (sz:=3) .nil)) (.same rfl .nil)) .nil),⟨((Patch.mk ByteArray.empty []),4),rfl,h⟩⟩
 obtain⟨q1,h⟩:=h
 refine G ?_
 refine wL (OpA.isliceV (enc:=D.s) rfl ts25 rfl (.some rfl) (.none _) q1 ?_)
 refine G ?_
 exact⟨(),((parseD ((cutPreF (gi ((zar text).1) 0) (⟨#[98,97,115,101,32]⟩:ByteArray)).1)).1,(zbc ((zar text).1) 1 (((zar text).1).length:Int))),h,cvZ,(.refl _)⟩
 exact⟨(),(ByteArray.empty,(zar text).1),h,cvZ,(.refl _)⟩
 rintro _ ⟨p_base,l⟩ h
 have h:pparse_J2 text Q p_base l:=h
 unfold pparse_J2 at h
 refine G ?_
 refine wpA_label ?_
 refine g ?_
 refine wpA_ghostM (c:=c3) (sz1:=2) (sz:=3) (es':=fun g4=> [.agg ([D.s p_base,.own g4 3 ([]:List D).length ([]:List Hunk).length])]) (fun _=> .head) (fun _=>(.same (.turn .nil))) (fun _=>rfl) (fun _=>by rintro d (_|⟨_,hd⟩); exact .of rfl; cases hd) (fun g4=>?_)
 refine wpA_join (S:=(List Hunk)) (G:=Nat×List D×List D) (fun gg ss=>asg [(0,D.s text),(2,.ptr c1 2 0 0),(3,D.i 0),(6,.ptr c3 2 0 0)]) (fun gg ss=> [(gg.1,.cells 3 (zas zce gg.2.1 ss gg.2.2)),(c3,.cells 2 [.agg ([D.s p_base,.own gg.1 3 gg.2.1.length ss.length])]),(c1,.cells 2 [.agg ([D.s ByteArray.empty,.v (.slice none 0 0)])])]) (fun ss=>pparse_J1 text p_base Q ss) ?_ ?_
 refine G ?_
 refine zl h (g4,([]:List D),([]:List D)) (fun gg ss=> [(0,D.s text),(2,.ptr c1 2 0 0),(3,D.i 0),(4,(zai 1 D.s) ss.2),(6,.ptr c3 2 0 0)]) (fun gg ss=> [(gg.1,.cells 3 (zas zce gg.2.1 ss.1 gg.2.2)),(c3,.cells 2 [.agg ([D.s p_base,.own gg.1 3 gg.2.1.length ss.1.length])]),(c1,.cells 2 [.agg ([D.s ByteArray.empty,.v (.slice none 0 0)])])]) ?_
 rintro again7 ⟨cbgh61,pregh61,postgh61⟩ ⟨xs2,l2⟩ h
 dsimp only at h
 unfold pparse_L2 at h
 refine G ?_
 refine zc h (fun _ h=>?_) (fun _ h=>G ?_)
 obtain⟨q1,q2,q3,h⟩:=h
 refine G ?_
 refine wL (oIx (enc:=D.s) ts25 q1 ?_)
 refine G ?_
 refine wL (oC (scut_c (gi l2 0) (⟨#[32]⟩:ByteArray) q2 q3) ?_)
 obtain⟨q1,h⟩:=h
 refine G ?_
 refine wL (OpA.call rfl rfl rfl zK (atoi_c ((scutF (gi l2 0) (⟨#[32]⟩:ByteArray)).2.1) q1) ?_)
 rintro _ ⟨num1,e9,rfl,he9⟩
 rcases he9 with⟨he9,rfl⟩|⟨he9,te9,xe9,rfl⟩
 have h:=h.1 num1 (atoiO_some he9)
 iterate 8 refine g ?_
 refine zav (asg [(0,D.s text),(2,.ptr c1 2 0 0),(3,D.i 0),(4,(zai 1 D.s) l2),(6,.ptr c3 2 0 0),(9,D.s ((scutF (gi l2 0) (⟨#[32]⟩:ByteArray)).1)),(12,D.i num1),(70,D.b ((decide (num1<1))||(decide (num1>1024))))]) [(cbgh61,.cells 3 (zas zce pregh61 xs2 postgh61)),(c3,.cells 2 [.agg ([D.s p_base,.own cbgh61 3 pregh61.length xs2.length])]),(c1,.cells 2 [.agg ([D.s ByteArray.empty,.v (.slice none 0 0)])])] ?_ ?_
 refine G ?_
 refine wL (OpA.neqNil0 rfl errD rfl rfl ?_)
 refine G ?_
 refine zp 67 (fun b164=>G ?_) (fun b164=>?_)
 exact⟨(cvB (orS b164)),(.refl _)⟩
 refine G ?_
 exact⟨(cvB (orN b164 rfl)),(.refl _)⟩
 refine zc h (fun _ h=>G ?_) (fun _ h=>?_)
 refine wL (oU [.v (.string ⟨#[]⟩),.v (.slice none 0 0)] tp34 tz34 ?_)
 refine G ?_
 exact⟨_,(.cell (.whole ti34 rfl rfl (.tail (.tail .head)) rfl ⟨_,rfl⟩) (.tmp (d:=D.i 4) rfl .nil)),_,(.tup (.agg (.same rfl (.nilv (sz:=3) .nil)) (.same rfl .nil)) .nil),⟨((Patch.mk ByteArray.empty []),4),rfl,h⟩⟩
 obtain⟨q1,h⟩:=h
 refine G ?_
 refine wL (OpA.isliceV (enc:=D.s) rfl ts25 rfl (.some rfl) (.none _) q1 ?_)
 refine G ?_
 refine wL (oU [.v (.int .i64 0),.v (.int .i64 0),.v (.slice none 0 0)] tp118 tz118 ?_)
 refine wL (oA 3 (.agg ([D.i 0,D.i 0,.v (.slice none 0 0)])) tz118 (fun c11 _=>?_))
 refine G ?_
 refine wL (OpA.seql rfl rfl rfl ?_)
 refine G ?_
 refine zc h (fun _ h=>?_) (fun _ h=>G ?_)
 iterate 2 refine g ?_
 refine wE (OpA.store (e':= .agg ([D.i 1,D.i num1,.v (.slice none 0 0)])) rfl ti3 rfl (.of rfl) rfl (Nat.le_of_ble_eq_true rfl) rfl .head ?_)
 obtain⟨q1,h⟩:=h
 iterate 5 refine g ?_
 refine wL (OpA.told (s:=100) (d:= .agg ([D.i 1,D.i num1,.v (.slice none 0 0)])) (d':=zce (Hunk.mk 1 num1 ([]:List ByteArray))) rfl (.agg (.same rfl (.same rfl (.nilv (sz:=1) .nil))) .nil) (OpA.ibuildSliceO rfl ts32 rfl (.cons (.of (sz:=3) rfl) .nil) (by decide) ?_))
 refine wL (OpA.appendW (enc:=zce) rfl rfl rfl rfl ts32 rfl (fun _ _=>(.tail .head)) (.list (ys:=([(Hunk.mk 1 num1 [])]:List Hunk))) q1 (fun c13 pre14=>?_))
 refine g ?_
 refine wE (OpA.store (e':= .agg ([D.s p_base,.own c13 3 pre14.length (xs2++([(Hunk.mk 1 num1 [])]:List Hunk)).length])) rfl ti32 rfl (.of rfl) rfl (Nat.le_of_ble_eq_true rfl) rfl (.tail (.tail .head)) ?_)
 refine G ?_
 exact⟨(c13,pre14,([]:List D)),((xs2++([(Hunk.mk 1 num1 [])]:List Hunk)),(zbc l2 1 (l2.length:Int))),h,cvZ,(.cons _ (.refl _))⟩
 refine wL (OpA.seql rfl rfl rfl ?_)
 refine G ?_
 refine zc h (fun _ h=>?_) (fun _ h=>G ?_)
 iterate 2 refine g ?_
 refine wE (OpA.store (e':= .agg ([D.i 2,D.i num1,.v (.slice none 0 0)])) rfl ti3 rfl (.of rfl) rfl (Nat.le_of_ble_eq_true rfl) rfl .head ?_)
 obtain⟨q1,h⟩:=h
 iterate 5 refine g ?_
 refine wL (OpA.told (s:=100) (d:= .agg ([D.i 2,D.i num1,.v (.slice none 0 0)])) (d':=zce (Hunk.mk 2 num1 ([]:List ByteArray))) rfl (.agg (.same rfl (.same rfl (.nilv (sz:=1) .nil))) .nil) (OpA.ibuildSliceO rfl ts32 rfl (.cons (.of (sz:=3) rfl) .nil) (by decide) ?_))
 refine wL (OpA.appendW (enc:=zce) rfl rfl rfl rfl ts32 rfl (fun _ _=>(.tail .head)) (.list (ys:=([(Hunk.mk 2 num1 [])]:List Hunk))) q1 (fun c16 pre17=>?_))
 refine g ?_
 refine wE (OpA.store (e':= .agg ([D.s p_base,.own c16 3 pre17.length (xs2++([(Hunk.mk 2 num1 [])]:List Hunk)).length])) rfl ti32 rfl (.of rfl) rfl (Nat.le_of_ble_eq_true rfl) rfl (.tail (.tail .head)) ?_)
 refine G ?_
 exact⟨(c16,pre17,([]:List D)),((xs2++([(Hunk.mk 2 num1 [])]:List Hunk)),(zbc l2 1 (l2.length:Int))),h,cvZ,(.cons _ (.refl _))⟩
 refine wL (OpA.seql rfl rfl rfl ?_)
 refine G ?_
 refine zc h (fun _ h=>G ?_) (fun _ h=>?_)
 refine zc h (fun _ h=>G ?_) (fun _ h=>?_)
 exact⟨(cbgh61,pregh61,postgh61),xs2,h,cvZ,(.cons _ (.refl _))⟩
 refine g ?_
 obtain⟨q2_0,q3_0,q6_0,h⟩:=h
 refine wpA_states mo (fun W hW=>?_)
 refine flip_goal (a:=W 0 (lv 12 4095) (asg [(0,D.s text),(2,.ptr c1 2 0 0),(3,D.i 0),(4,(zai 1 D.s) (zbc (zbc l2 1 (l2.length:Int)) num1 ((zbc l2 1 (l2.length:Int)).length:Int))),(6,.ptr c3 2 0 0),(14,.ptr c11 3 0 0)]) [(c11,.cells 3 [zce (Hunk.mk 3 num1 (zbc (zbc l2 1 (l2.length:Int)) 0 num1))]),(cbgh61,.cells 3 (zas zce pregh61 xs2 postgh61)),(c3,.cells 2 [.agg ([D.s p_base,.own cbgh61 3 pregh61.length xs2.length])]),(c1,.cells 2 [.agg ([D.s ByteArray.empty,.v (.slice none 0 0)])])]) (fun s0=>?_) ?_
 let v0:zbb->zbb:=fun v1=>(cbgh61,.cells 3 (zas zce pregh61 xs2 postgh61))::(c3,.cells 2 [.agg ([D.s p_base,.own cbgh61 3 pregh61.length xs2.length])])::(c1,.cells 2 [.agg ([D.s ByteArray.empty,.v (.slice none 0 0)])])::v1
 let v9:Nat->Nat->List (Nat×D)->zbb->Prop:=fun v1 v2 v3 v4=>W v1 (lv 12 v2) (asg ((0,D.s text)::(2,.ptr c1 2 0 0)::(3,D.i 0)::(4,(zai 1 D.s) (zbc l2 1 (l2.length:Int)))::(6,.ptr c3 2 0 0)::(14,.ptr c11 3 0 0)::v3)) v4
 have s1:v9 2 1023 [(92,(zai 1 D.s) (zbc (zbc l2 1 (l2.length:Int)) 0 num1)),(95,(zai 1 D.s) (zbc (zbc l2 1 (l2.length:Int)) num1 ((zbc l2 1 (l2.length:Int)).length:Int))),(97,.ptr c11 3 0 2)] ((c11,.cells 3 [.agg ([D.i 3,D.i num1,.v (.slice none 0 0)])])::v0 []):=zaj hW (by refine zs [10] ⟨?_,trivial⟩; refine ze rfl (OpA.store (e':=zce (Hunk.mk 3 num1 (zbc (zbc l2 1 (l2.length:Int)) 0 num1))) rfl ti25 rfl (.of rfl) rfl (Nat.le_of_ble_eq_true rfl) rfl .head ?_); refine zy 11 rfl (.assign rfl) ?_; exact zt hW s0)
 have s2:v9 2 1983 [(93,(zai 1 D.s) (zbc l2 1 (l2.length:Int))),(94,D.i num1)] ((c11,.cells 3 [zce (Hunk.mk 3 num1 (zbc (zbc l2 1 (l2.length:Int)) 0 num1))])::v0 []):=zaj hW (by refine zs [6] ⟨?_,trivial⟩; refine zo rfl (OpA.isliceV (enc:=D.s) rfl ts25 rfl (.some rfl) (.none _) q6_0 ?_); refine zy 11 rfl (.assign rfl) ?_; exact zt hW s0)
 have s3:v9 3 959 [(92,(zai 1 D.s) (zbc (zbc l2 1 (l2.length:Int)) 0 num1)),(93,(zai 1 D.s) (zbc l2 1 (l2.length:Int))),(94,D.i num1),(97,.ptr c11 3 0 2)] ((c11,.cells 3 [.agg ([D.i 3,D.i num1,.v (.slice none 0 0)])])::v0 []):=zaj hW (by refine zs [6,10] ⟨?_,?_,trivial⟩; refine zo rfl (OpA.isliceV (enc:=D.s) rfl ts25 rfl (.some rfl) (.none _) q6_0 ?_); exact zt hW s1; refine ze rfl (OpA.store (e':=zce (Hunk.mk 3 num1 (zbc (zbc l2 1 (l2.length:Int)) 0 num1))) rfl ti25 rfl (.of rfl) rfl (Nat.le_of_ble_eq_true rfl) rfl .head ?_); exact zt hW s2)
 have s4:v9 4 255 [(92,(zai 1 D.s) (zbc (zbc l2 1 (l2.length:Int)) 0 num1)),(95,(zai 1 D.s) (zbc (zbc l2 1 (l2.length:Int)) num1 ((zbc l2 1 (l2.length:Int)).length:Int))),(96,.ptr c11 3 0 0)] ((c11,.cells 3 [.agg ([D.i 0,D.i num1,.v (.slice none 0 0)])])::v0 []):=zaj hW (by refine zs [8] ⟨?_,trivial⟩; refine ze rfl (OpA.store (e':= .agg ([D.i 3,D.i num1,.v (.slice none 0 0)])) rfl ti3 rfl (.of rfl) rfl (Nat.le_of_ble_eq_true rfl) rfl .head ?_); refine zy 9 rfl (.fieldAddr rfl tf118_2 rfl) ?_; exact zt hW s1)
 have s5:v9 5 191 [(92,(zai 1 D.s) (zbc (zbc l2 1 (l2.length:Int)) 0 num1)),(93,(zai 1 D.s) (zbc l2 1 (l2.length:Int))),(94,D.i num1),(96,.ptr c11 3 0 0)] ((c11,.cells 3 [.agg ([D.i 0,D.i num1,.v (.slice none 0 0)])])::v0 []):=zaj hW (by refine zs [6,8] ⟨?_,?_,trivial⟩; refine zo rfl (OpA.isliceV (enc:=D.s) rfl ts25 rfl (.some rfl) (.none _) q6_0 ?_); exact zt hW s4; refine ze rfl (OpA.store (e':= .agg ([D.i 3,D.i num1,.v (.slice none 0 0)])) rfl ti3 rfl (.of rfl) rfl (Nat.le_of_ble_eq_true rfl) rfl .head ?_); refine zy 9 rfl (.fieldAddr rfl tf118_2 rfl) ?_; exact zt hW s3)
 have s6:v9 5 247 [(91,(zai 1 D.s) (zbc (zbc l2 1 (l2.length:Int)) 0 num1)),(95,(zai 1 D.s) (zbc (zbc l2 1 (l2.length:Int)) num1 ((zbc l2 1 (l2.length:Int)).length:Int))),(96,.ptr c11 3 0 0)] ((c11,.cells 3 [.agg ([D.i 0,D.i num1,.v (.slice none 0 0)])])::v0 []):=zaj hW (by refine zs [3] ⟨?_,trivial⟩; refine zo rfl (OpA.call rfl rfl rfl zK (cloneS_c (zbc (zbc l2 1 (l2.length:Int)) 0 num1) q3_0) ?_); rintro _ rfl; exact zt hW s4)
 have s7:v9 6 183 [(91,(zai 1 D.s) (zbc (zbc l2 1 (l2.length:Int)) 0 num1)),(93,(zai 1 D.s) (zbc l2 1 (l2.length:Int))),(94,D.i num1),(96,.ptr c11 3 0 0)] ((c11,.cells 3 [.agg ([D.i 0,D.i num1,.v (.slice none 0 0)])])::v0 []):=zaj hW (by refine zs [3,6] ⟨?_,?_,trivial⟩; refine zo rfl (OpA.call rfl rfl rfl zK (cloneS_c (zbc (zbc l2 1 (l2.length:Int)) 0 num1) q3_0) ?_); rintro _ rfl; exact zt hW s5; refine zo rfl (OpA.isliceV (enc:=D.s) rfl ts25 rfl (.some rfl) (.none _) q6_0 ?_); exact zt hW s6)
 have s8:v9 6 243 [(89,(zai 1 D.s) (zbc l2 1 (l2.length:Int))),(90,D.i num1),(95,(zai 1 D.s) (zbc (zbc l2 1 (l2.length:Int)) num1 ((zbc l2 1 (l2.length:Int)).length:Int))),(96,.ptr c11 3 0 0)] ((c11,.cells 3 [.agg ([D.i 0,D.i num1,.v (.slice none 0 0)])])::v0 []):=zaj hW (by refine zs [2] ⟨?_,trivial⟩; refine zo rfl (OpA.isliceV (enc:=D.s) rfl ts25 rfl (.none _) (.some rfl) q2_0 ?_); exact zt hW s6)
 have s9:v9 7 179 [(89,(zai 1 D.s) (zbc l2 1 (l2.length:Int))),(90,D.i num1),(93,(zai 1 D.s) (zbc l2 1 (l2.length:Int))),(94,D.i num1),(96,.ptr c11 3 0 0)] ((c11,.cells 3 [.agg ([D.i 0,D.i num1,.v (.slice none 0 0)])])::v0 []):=zaj hW (by refine zs [2,6] ⟨?_,?_,trivial⟩; refine zo rfl (OpA.isliceV (enc:=D.s) rfl ts25 rfl (.none _) (.some rfl) q2_0 ?_); exact zt hW s7; refine zo rfl (OpA.isliceV (enc:=D.s) rfl ts25 rfl (.some rfl) (.none _) q6_0 ?_); exact zt hW s8)
 refine zaj hW ?_
 refine wpS_firstY (fuel:=11) (i:=0) (li':=(lv 12 1)) rfl rfl (.move rfl) rfl rfl zK zK zK (fun _ _ _ hx=>hx) rfl rfl zK ?_
 refine wpS_firstY (fuel:=10) (i:=1) (li':=(lv 12 3)) rfl rfl (.move rfl) rfl rfl zK zK zK (fun _ _ _ hx=>hx) rfl rfl zK ?_
 refine wpS_firstY (fuel:=9) (i:=4) (li':=(lv 12 19)) rfl rfl (.move rfl) rfl rfl zK zK zK (fun _ _ _ hx=>hx) rfl rfl zK ?_
 refine wpS_firstY (fuel:=8) (i:=5) (li':=(lv 12 51)) rfl rfl (.move rfl) rfl rfl zK zK zK (fun _ _ _ hx=>hx) rfl rfl zK ?_
 refine wpS_firstY (fuel:=7) (i:=7) (li':=(lv 12 179)) rfl rfl (.fieldAddr rfl tf118_0 rfl) rfl rfl zK zK zK (fun _ _ _ hx=>hx) rfl rfl zK ?_
 exact zt hW s9
 refine zaj hW (wpS_done zK ?_)
 obtain⟨q1,h⟩:=h
 refine G ?_
 refine wL (OpA.ibuildSliceO rfl ts32 rfl (.cons (.of (sz:=3) rfl) .nil) (by decide) ?_)
 refine wL (OpA.appendW (enc:=zce) rfl rfl rfl rfl ts32 rfl (fun _ _=>(.tail .head)) (.list (ys:=([(Hunk.mk 3 num1 (zbc (zbc l2 1 (l2.length:Int)) 0 num1))]:List Hunk))) q1 (fun c160 pre161=>?_))
 refine g ?_
 refine wE (OpA.store (e':= .agg ([D.s p_base,.own c160 3 pre161.length (xs2++([(Hunk.mk 3 num1 (zbc (zbc l2 1 (l2.length:Int)) 0 num1))]:List Hunk)).length])) rfl ti32 rfl (.of rfl) rfl (Nat.le_of_ble_eq_true rfl) rfl (.tail (.tail .head)) ?_)
 refine G ?_
 exact⟨(c160,pre161,([]:List D)),((xs2++([(Hunk.mk 3 num1 (zbc (zbc l2 1 (l2.length:Int)) 0 num1))]:List Hunk)),(zbc (zbc l2 1 (l2.length:Int)) num1 ((zbc l2 1 (l2.length:Int)).length:Int))),h,cvZ,(.cons _ (.refl _))⟩
 obtain⟨q1,h⟩:=h
 iterate 5 refine g ?_
 refine wL (OpA.told (s:=100) (d:= .agg ([D.i 0,D.i num1,.v (.slice none 0 0)])) (d':=zce (Hunk.mk 0 num1 ([]:List ByteArray))) rfl (.agg (.same rfl (.same rfl (.nilv (sz:=1) .nil))) .nil) (OpA.ibuildSliceO rfl ts32 rfl (.cons (.of (sz:=3) rfl) .nil) (by decide) ?_))
 refine wL (OpA.appendW (enc:=zce) rfl rfl rfl rfl ts32 rfl (fun _ _=>(.tail .head)) (.list (ys:=([(Hunk.mk 0 num1 [])]:List Hunk))) q1 (fun c162 pre163=>?_))
 refine g ?_
 refine wE (OpA.store (e':= .agg ([D.s p_base,.own c162 3 pre163.length (xs2++([(Hunk.mk 0 num1 [])]:List Hunk)).length])) rfl ti32 rfl (.of rfl) rfl (Nat.le_of_ble_eq_true rfl) rfl (.tail (.tail .head)) ?_)
 refine G ?_
 exact⟨(c162,pre163,([]:List D)),((xs2++([(Hunk.mk 0 num1 [])]:List Hunk)),(zbc l2 1 (l2.length:Int))),h,cvZ,(.cons _ (.refl _))⟩
 have h:=h.2 num1 (atoiO_none he9)
 refine G ?_
 refine wL (OpA.neqNil1 rfl errD rfl rfl ?_)
 refine G ?_
 refine wpA_condT rfl ?_
 refine G ?_
 refine wL (oU [.v (.string ⟨#[]⟩),.v (.slice none 0 0)] tp34 tz34 ?_)
 refine G ?_
 exact⟨_,(.cell (.whole ti34 rfl rfl (.tail (.tail .head)) rfl ⟨_,rfl⟩) (.tmp (d:=D.i 4) rfl .nil)),_,(.tup (.agg (.same rfl (.nilv (sz:=3) .nil)) (.same rfl .nil)) .nil),⟨((Patch.mk ByteArray.empty []),4),rfl,h⟩⟩
 exact⟨(cbgh61,pregh61,postgh61),xs2,h,cvZ,(.refl _)⟩
 rintro⟨cbgh6,pregh6,postgh6⟩ xs1 h
 have h:pparse_J1 text p_base Q xs1:=h
 unfold pparse_J1 at h
 iterate 2 refine g ?_
 refine wpA_freezeB (es:= [.agg ([D.s p_base,.own cbgh6 3 pregh6.length xs1.length])]) (es':= [zby (Patch.mk p_base xs1)]) (.refl _) (.same rfl (.win (enc:=zce) .head (by intro hf; cases hf) .nil)) (fun d hd=>by rcases List.mem_singleton.1 hd with rfl; exact .of rfl) rfl ?_
 obtain⟨q1,h⟩:=h
 refine G ?_
 refine wL (oC (pcheck_c (Patch.mk p_base xs1) q1) ?_)
 iterate 7 refine g ?_
 refine zav (asg [(2,.ptr c1 2 0 0),(3,D.i 0),(6,.ptr c3 2 0 0),(115,D.b ((!(checkP (Patch.mk p_base xs1)).2)||(!decide ((checkP (Patch.mk p_base xs1)).1=text))))]) [(c3,.cells 2 [zby (Patch.mk p_base xs1)]),(c1,.cells 2 [.agg ([D.s ByteArray.empty,.v (.slice none 0 0)])])] ?_ ?_
 refine G ?_
 refine zp 111 (fun b6=>G ?_) (fun b6=>?_)
 exact⟨(cvB (orS b6)),(.refl _)⟩
 refine G ?_
 refine wG (OpA.sneq rfl rfl rfl ?_)
 refine G ?_
 exact⟨(cvB (orN b6 rfl)),(.refl _)⟩
 refine zc h (fun _ h=>G ?_) (fun _ h=>G ?_)
 refine wL (oU [.v (.string ⟨#[]⟩),.v (.slice none 0 0)] tp34 tz34 ?_)
 refine G ?_
 exact⟨_,(.cell (.whole ti34 rfl rfl (.tail .head) rfl ⟨_,rfl⟩) (.tmp (d:=D.i 4) rfl .nil)),_,(.tup (.agg (.same rfl (.nilv (sz:=3) .nil)) (.same rfl .nil)) .nil),⟨((Patch.mk ByteArray.empty []),4),rfl,h⟩⟩
 exact⟨_,(.cell (.whole ti34 rfl rfl (.tail .head) rfl ⟨_,rfl⟩) (.tmp (d:=D.i 0) rfl .nil)),_,(.tup (.same rfl (.same rfl .nil)) .nil),⟨((Patch.mk p_base xs1),0),rfl,h⟩⟩
end Go.Proofs.YtkifpidbpoghlaaGreatDoor
set_option linter.all false
namespace Go.Proofs.YtkifpidbpoghlaaGreatDoor
open Go Go.Lic Go.Sort Go.Proofs
attribute [local irreducible] addF addP zaw badR behindF blankF checkF zbp zbx cmpB cmpI cmpL codeF countF fewTs fewW findC findT zbt growTF guarF hashF zbj insideF itoaF lenF lookF mergeF mul64F mulP newF ofF orF partF pathF postCmp postsF powF zak pushF rightL rollF zbu zbs zbh zad splitG zbi
theorem eqClones_c (s1:(List Clone))(s2:(List Clone))(hp0:s1.length<=9223372036854775807):Fun false Tryz.prog 29 [(zai 5 zap) s1,(zai 5 zap) s2] (fun d=>d=D.b ((decide (s1=s2)))):=by
 refine fB Tryz.func29 Tryz.ntmps29 (eqClones_ok s1 s2 _ hp0 rfl) fun Q h=>?_
 unfold eqClones_vc at h
 refine G ?_
 refine zc h (fun _ h=>G ?_) (fun _ h=>G ?_)
 exact zr h
 refine zl h () (fun gg ss=> [(0,(zai 5 zap) s1),(1,(zai 5 zap) s2),(4,D.b false),(12,D.i (s1.length:Int)),(13,D.i ss)]) (fun gg ss=> []) ?_
 rintro again2 _ x h
 unfold eqClones_L1 at h
 refine G ?_
 refine zc h (fun _ h=>?_) (fun _ h=>G ?_)
 obtain⟨q1,q2,h⟩:=h
 iterate 9 refine g ?_
 refine zbf (m:=9) mo zK rfl ?_
 refine G ?_
 refine dL (oIx (enc:=zap) ts77 q1 oR) ?_
 refine G ?_
 refine dL (oIx (enc:=zap) ts77 q2 oR) ?_
 refine G ?_
 refine dL (OpA.structcmp (xs:= [.int .i64 ((gi s1 x).a),.int .i64 ((gi s1 x).atA),.int .i64 ((gi s1 x).b),.int .i64 ((gi s1 x).atB),.int .i64 ((gi s1 x).len)]) (ys:= [.int .i64 ((gi s2 x).a),.int .i64 ((gi s2 x).atA),.int .i64 ((gi s2 x).b),.int .i64 ((gi s2 x).atB),.int .i64 ((gi s2 x).len)]) (r:=(eqClone (gi s1 x) (gi s2 x))) rfl eg84 su84.1 su84.2.1 su84.2.2 rfl rfl (.int td3 ti3 rfl rfl (.int td3 ti3 rfl rfl (.int td3 ti3 rfl rfl (.int td3 ti3 rfl rfl (.int td3 ti3 rfl rfl .nil))))) (.inr ⟨rfl,rfl⟩) oR) ?_
 refine DetK.nil ?_
 refine G ?_
 refine zc h (fun _ h=>G ?_) (fun _ h=>?_)
 exact zr h
 obtain⟨q1,h⟩:=h
 refine G ?_
 exact⟨(),(x+1),h,cvZ,(.refl _)⟩
 exact zr h
end Go.Proofs.YtkifpidbpoghlaaGreatDoor
set_option linter.all false
namespace Go.Proofs.YtkifpidbpoghlaaGreatDoor
open Go Go.Lic Go.Sort Go.Proofs
attribute [local irreducible] absF addF addP zaw zbg applyP atoiO attrF badR behindF betterP blankF checkA checkF checkP clF classF zbp zbx cmpB cmpI cmpL codeF consF countF cutPreF dhex1 digB fewTs fewW findC findT zbt growTF guarF hasPreF hashF hexD hunkB idxB zbj insideF itoaF joinS joinT lenF linesP zar longAF lookF mergeF mul64F mulP newD newF nlB zbe noteF ofF offsF orF parseD zaq partF pathF permF postCmp postsF powF zak pushF rangedF rightCT rightL rollF rotF roundF sameF scutF zbu shareF zbs zbk zbh zad splitG srcF ssF stopB sumD unknownF zbi wordB zbw wrF
abbrev cawake_e0 :=((((((zbe (⟨#[97]⟩:ByteArray) (⟨#[120,32,61,32,121,32,43,32,49]⟩:ByteArray) false false).2)==0)&&(((zbe (⟨#[98]⟩:ByteArray) (⟨#[122,32,61,32,121,32,43,32,50]⟩:ByteArray) false false).2)==0))&&(((findC ([(zbe (⟨#[97]⟩:ByteArray) (⟨#[120,32,61,32,121,32,43,32,49]⟩:ByteArray) false false).1,(zbe (⟨#[98]⟩:ByteArray) (⟨#[122,32,61,32,121,32,43,32,50]⟩:ByteArray) false false).1]:List Text) 2 2).2)==0))&&(decide (((findC ([(zbe (⟨#[97]⟩:ByteArray) (⟨#[120,32,61,32,121,32,43,32,49]⟩:ByteArray) false false).1,(zbe (⟨#[98]⟩:ByteArray) (⟨#[122,32,61,32,121,32,43,32,50]⟩:ByteArray) false false).1]:List Text) 2 2).1)=([(Clone.mk 0 1 1 1 3)]:List Clone))))
theorem cawake_c :Fun false Tryz.prog 5 [] (fun d=>d=D.b (true)):=by
 refine fB Tryz.func5 Tryz.ntmps5 (cawake_ok  _  rfl) fun Q h=>?_
 unfold cawake_vc at h
 obtain⟨q1,q2,h⟩:=h
 refine G ?_
 refine wL (oC (nwords_c (⟨#[97]⟩:ByteArray) (⟨#[120,32,61,32,121,32,43,32,49]⟩:ByteArray) false false q1 q2) ?_)
 refine G ?_
 refine wL (oA 2 (.agg ([D.s ByteArray.empty,.v (.slice none 0 0)])) tz57 (fun c1 _=>?_))
 refine G ?_
 obtain⟨q1,q2,h⟩:=h
 refine G ?_
 refine wL (oC (nwords_c (⟨#[98]⟩:ByteArray) (⟨#[122,32,61,32,121,32,43,32,50]⟩:ByteArray) false false q1 q2) ?_)
 refine G ?_
 refine wL (oA 2 (.agg ([D.s ByteArray.empty,.v (.slice none 0 0)])) tz57 (fun c2 _=>?_))
 refine G ?_
 obtain⟨q1,h⟩:=h
 refine G ?_
 refine wL (OpA.ibuildSliceO rfl ts61 rfl (.cons (.of (sz:=2) rfl) (.cons (.of (sz:=2) rfl) .nil)) (by decide) ?_)
 refine wL (oC (kfind_c ([(zbe (⟨#[97]⟩:ByteArray) (⟨#[120,32,61,32,121,32,43,32,49]⟩:ByteArray) false false).1,(zbe (⟨#[98]⟩:ByteArray) (⟨#[122,32,61,32,121,32,43,32,50]⟩:ByteArray) false false).1]:List Text) 2 2 q1) ?_)
 obtain⟨q1,h⟩:=h
 iterate 7 refine g ?_
 refine zav (asg [(0,D.b cawake_e0)]) [(c2,.cells 2 [zaa ((zbe (⟨#[98]⟩:ByteArray) (⟨#[122,32,61,32,121,32,43,32,50]⟩:ByteArray) false false).1)]),(c1,.cells 2 [zaa ((zbe (⟨#[97]⟩:ByteArray) (⟨#[120,32,61,32,121,32,43,32,49]⟩:ByteArray) false false).1)])] ?_ ?_
 refine G ?_
 refine zp 24 (fun b3=>G ?_) (fun b3=>?_)
 refine zp 28 (fun b4=>G ?_) (fun b4=>?_)
 refine zp 32 (fun b5=>G ?_) (fun b5=>?_)
 refine wG (oU [.v (.int .i64 0),.v (.int .i64 0),.v (.int .i64 0),.v (.int .i64 0),.v (.int .i64 0)] tp84 tz84 ?_)
 refine wG (OpA.ibuildSliceO rfl ts77 rfl (.cons (.of (sz:=5) rfl) .nil) (by decide) ?_)
 refine wG (oC (eqClones_c ((findC ([(zbe (⟨#[97]⟩:ByteArray) (⟨#[120,32,61,32,121,32,43,32,49]⟩:ByteArray) false false).1,(zbe (⟨#[98]⟩:ByteArray) (⟨#[122,32,61,32,121,32,43,32,50]⟩:ByteArray) false false).1]:List Text) 2 2).1) ([(Clone.mk 0 1 1 1 3)]:List Clone) (q1 ⟨⟨(beqT b3),(beqT b4)⟩,(beqT b5)⟩)) ?_)
 refine G ?_
 exact⟨(cvB (andN (andN (andN b3 b4) b5) rfl)),(.refl _)⟩
 refine G ?_
 exact⟨(cvB (andS (andN (andN b3 b4) b5))),(.refl _)⟩
 refine G ?_
 exact⟨(cvB (andS (andS (andN b3 b4)))),(.refl _)⟩
 refine G ?_
 exact⟨(cvB (andS (andS (andS b3)))),(.refl _)⟩
 refine G ?_
 exact zr h
theorem inPiece_w (z:Clone)(y:Piece)(Q:Bool->Prop)(h:inPiece_vc z y Q):Fun false Tryz.prog 26 [zap z,.iptr (zca y) 0] (fun d=>∃ r,d=D.b r/\Q r):=by
 unfold inPiece_vc at h
 refine Fun.of_body Tryz.func26 rfl Tryz.ntmps26 rfl ?_
 refine G ?_
 refine wL (oB 5 (fun c1 _=>?_))
 obtain⟨q1,q2,h⟩:=h
 iterate 3 refine g ?_
 refine zav (asg [(3,D.b (((((z.a==y.text)&&(decide (z.atA<=y.at_)))&&(decide ((z.atA+z.len)>=((y.at_+y.to)-y.from_))))&&(decide (z.atB<=y.from_)))&&((y.from_-z.atB)==(y.at_-z.atA))))]) [(c1,.cells 5 [zap z])] ?_ ?_
 refine G ?_
 refine zp 9 (fun b2=>G ?_) (fun b2=>?_)
 refine zp 16 (fun b3=>G ?_) (fun b3=>?_)
 refine wG (oAd (q1 ⟨(beqT b2),(decT b3)⟩).1 ?_)
 refine G ?_
 refine wG (oAd (q1 ⟨(beqT b2),(decT b3)⟩).2.1 ?_)
 refine G ?_
 refine wG (oSb (q1 ⟨(beqT b2),(decT b3)⟩).2.2 ?_)
 refine G ?_
 refine zp 32 (fun b4=>G ?_) (fun b4=>?_)
 refine zp 39 (fun b5=>G ?_) (fun b5=>?_)
 refine wG (oSb (q2 ⟨⟨⟨(beqT b2),(decT b3)⟩,(decT b4)⟩,(decT b5)⟩).1 ?_)
 refine G ?_
 refine wG (oSb (q2 ⟨⟨⟨(beqT b2),(decT b3)⟩,(decT b4)⟩,(decT b5)⟩).2 ?_)
 refine G ?_
 exact⟨(cvB (andN (andN (andN (andN b2 b3) b4) b5) rfl)),(.refl _)⟩
 refine G ?_
 exact⟨(cvB (andS (andN (andN (andN b2 b3) b4) b5))),(.refl _)⟩
 refine G ?_
 exact⟨(cvB (andS (andS (andN (andN b2 b3) b4)))),(.refl _)⟩
 refine G ?_
 exact⟨(cvB (andS (andS (andS (andN b2 b3))))),(.refl _)⟩
 refine G ?_
 exact⟨(cvB (andS (andS (andS (andS b2))))),(.refl _)⟩
 refine G ?_
 exact zr h
theorem inPiece_c (z:Clone)(y:Piece)(hp0:inI (z.atA+z.len))(hp1:inI (y.at_+y.to))(hp2:inI (y.at_+y.to-y.from_))(hp3:inI (y.from_-z.atB))(hp4:inI (y.at_-z.atA)):Fun false Tryz.prog 26 [zap z,.iptr (zca y) 0] (fun d=>d=D.b (inPieceF z y)):=
 Fun.at (v:=inPieceF z y) (inPiece_w z y  (fun r=>r=inPieceF z y) (inPiece_ok z y _ hp0 hp1 hp2 hp3 hp4 rfl))
noncomputable abbrev zag (text:ByteArray)(data:ByteArray):=((zbe (⟨#[116]⟩:ByteArray) ((zbg ((zaq text).1) data).1) false false).1)
noncomputable abbrev lawAttr_e1 (c:Corpus)(text:ByteArray)(data:ByteArray)(least:Int):=(attrF c (zag text data) (1+((IntKind.i64.wrap least) % 6)))
noncomputable abbrev lawAttr_e2 (data:ByteArray):=(zbe (⟨#[97]⟩:ByteArray) data false false)
noncomputable abbrev lawAttr_e3 (text:ByteArray):=(zbe (⟨#[98]⟩:ByteArray) text false false)
theorem lawAttr_c (data:ByteArray)(text:ByteArray)(least:Int)(hp0:inL least 256):Fun false Tryz.prog 4 [D.s data,D.s text,(D.k .u8) least] (fun d=>d=D.b (true)):=by
 refine fB Tryz.func4 Tryz.ntmps4 (lawAttr_ok data text least _ hp0 rfl) fun Q h=>?_
 unfold lawAttr_vc at h
 refine G ?_
 refine wL (oC (cawake_c ) ?_)
 refine G ?_
 refine zc h (fun _ h=>G ?_) (fun _ h=>?_)
 exact zr h
 obtain⟨q1,h⟩:=h
 iterate 3 refine g ?_
 refine zav (asg [(0,D.s data),(1,D.s text),(2,(D.k .u8) least),(6,D.b false),(52,D.b (((decide ((data.size:Int)>300))||(decide ((text.size:Int)>300)))||(contF (data++text) (⟨#[110,111,116,101]⟩:ByteArray))))]) [] ?_ ?_
 refine G ?_
 refine zp 42 (fun b35=>G ?_) (fun b35=>?_)
 exact⟨(cvB (orS (orS b35))),(.refl _)⟩
 refine G ?_
 refine zp 47 (fun b36=>G ?_) (fun b36=>?_)
 exact⟨(cvB (orS (orN b35 b36))),(.refl _)⟩
 refine G ?_
 refine wG (OpA.sadd rfl rfl rfl (q1 ⟨(decF b35),(decF b36)⟩).1 ?_)
 refine wG (oC (contG_c (data++text) (⟨#[110,111,116,101]⟩:ByteArray) (q1 ⟨(decF b35),(decF b36)⟩).2.1 (q1 ⟨(decF b35),(decF b36)⟩).2.2) ?_)
 refine G ?_
 exact⟨(cvB (orN (orN b35 b36) rfl)),(.refl _)⟩
 refine zc h (fun _ h=>G ?_) (fun _ h=>?_)
 exact zr h
 obtain⟨q1,h⟩:=h
 refine G ?_
 refine wL (oC (pparse_c text q1) ?_)
 refine G ?_
 refine wL (oA 2 (.agg ([D.s ByteArray.empty,.v (.slice none 0 0)])) tz34 (fun c3 _=>?_))
 refine G ?_
 obtain⟨q1,q2,h⟩:=h
 refine G ?_
 refine wL (oC (pApply_c ((zaq text).1) data q1 q2) ?_)
 iterate 8 refine g ?_
 refine zav (asg [(0,D.s data),(1,D.s text),(2,(D.k .u8) least),(6,D.b false),(9,D.s ((zbg ((zaq text).1) data).1)),(69,D.b ((((zaq text).2) != 0)||(((zbg ((zaq text).1) data).2) != 0)))]) [(c3,.cells 2 [zby ((zaq text).1)])] ?_ ?_
 refine G ?_
 refine zp 66 (fun b34=>G ?_) (fun b34=>?_)
 exact⟨(cvB (orS b34)),(.refl _)⟩
 refine G ?_
 exact⟨(cvB (orN b34 rfl)),(.refl _)⟩
 refine zc h (fun _ h=>G ?_) (fun _ h=>?_)
 exact zr h
 obtain⟨q1,q2,h⟩:=h
 refine G ?_
 refine wL (oC (nwords_c (⟨#[97]⟩:ByteArray) data false false q1 q2) ?_)
 refine G ?_
 refine wL (oA 2 (.agg ([D.s ByteArray.empty,.v (.slice none 0 0)])) tz57 (fun c5 _=>?_))
 refine G ?_
 obtain⟨q1,q2,h⟩:=h
 refine G ?_
 refine wL (oC (nwords_c (⟨#[98]⟩:ByteArray) text false false q1 q2) ?_)
 refine G ?_
 refine wL (oA 2 (.agg ([D.s ByteArray.empty,.v (.slice none 0 0)])) tz57 (fun c6 _=>?_))
 refine G ?_
 obtain⟨q1,q2,h⟩:=h
 refine G ?_
 refine wL (oC (nwords_c (⟨#[116]⟩:ByteArray) ((zbg ((zaq text).1) data).1) false false q1 q2) ?_)
 refine G ?_
 refine wL (oA 2 (.agg ([D.s ByteArray.empty,.v (.slice none 0 0)])) tz57 (fun c7 _=>?_))
 iterate 5 refine g ?_
 refine zav (asg [(2,(D.k .u8) least),(6,D.b false),(11,.ptr c5 2 0 0),(13,.ptr c6 2 0 0),(15,.ptr c7 2 0 0),(94,D.b (((((lawAttr_e2 data).2) != 0)||(((lawAttr_e3 text).2) != 0))||(((zbe (⟨#[116]⟩:ByteArray) ((zbg ((zaq text).1) data).1) false false).2) != 0)))]) [(c7,.cells 2 [zaa (zag text data)]),(c6,.cells 2 [zaa ((lawAttr_e3 text).1)]),(c5,.cells 2 [zaa ((lawAttr_e2 data).1)]),(c3,.cells 2 [zby ((zaq text).1)])] ?_ ?_
 refine G ?_
 refine zp 87 (fun b32=>G ?_) (fun b32=>?_)
 exact⟨(cvB (orS (orS b32))),(.refl _)⟩
 refine G ?_
 refine zp 91 (fun b33=>G ?_) (fun b33=>?_)
 exact⟨(cvB (orS (orN b32 b33))),(.refl _)⟩
 refine G ?_
 exact⟨(cvB (orN (orN b32 b33) rfl)),(.refl _)⟩
 refine zc h (fun _ h=>G ?_) (fun _ h=>G ?_)
 exact zr h
 refine wL (OpA.ibuildSliceO rfl ts61 rfl (.cons (.of (sz:=2) rfl) (.cons (.of (sz:=2) rfl) (.cons (.of (sz:=2) rfl) .nil))) (by decide) ?_)
 refine wL (oC (c26fewt_c ([(lawAttr_e2 data).1,(lawAttr_e3 text).1,(zbe (⟨#[116]⟩:ByteArray) ((zbg ((zaq text).1) data).1) false false).1]:List Text)) ?_)
 refine G ?_
 refine zc h (fun _ h=>G ?_) (fun _ h=>G ?_)
 exact zr h
 refine wL (oC (cnew_c 1 1) ?_)
 refine G ?_
 refine wL (oA 4 (.agg ([D.i 0,D.i 0,.v (.slice none 0 0),.v (.slice none 0 0)])) tz64 (fun c10 _=>?_))
 refine G ?_
 refine wL (OpA.ibuildSliceO rfl ts61 rfl (.cons (.of (sz:=2) rfl) (.cons (.of (sz:=2) rfl) .nil)) (by decide) ?_)
 refine G ?_
 refine zl h () (fun gg ss=> [(2,(D.k .u8) least),(6,D.b false),(15,.ptr c7 2 0 0),(17,.ptr c10 4 0 0),(18,D.i ss.2.1),(107,(zai 2 zaa) ([(lawAttr_e2 data).1,(lawAttr_e3 text).1]:List Text)),(108,D.i (([(lawAttr_e2 data).1,(lawAttr_e3 text).1]:List Text).length:Int)),(109,D.i ss.2.2)]) (fun gg ss=> [(c10,.cells 4 [zao ss.1]),(c7,.cells 2 [zaa (zag text data)]),(c6,.cells 2 [zaa ((lawAttr_e3 text).1)]),(c5,.cells 2 [zaa ((lawAttr_e2 data).1)]),(c3,.cells 2 [zby ((zaq text).1)])]) ?_
 rintro again11 _ ⟨c,j,x⟩ h
 dsimp only at h
 unfold lawAttr_L1 at h
 refine G ?_
 refine zc h (fun _ h=>?_) (fun _ h=>?_)
 obtain⟨q1,h⟩:=h
 refine G ?_
 refine wL (oIx (enc:=zaa) ts61 q1 ?_)
 refine G ?_
 refine wL (oA 2 (.agg ([D.s ByteArray.empty,.v (.slice none 0 0)])) tz57 (fun c13 _=>?_))
 refine G ?_
 refine zc h (fun _ h=>?_) (fun _ h=>?_)
 obtain⟨q1,q2,h⟩:=h
 refine G ?_
 refine wL (oC (cadd_c c (gi ([(lawAttr_e2 data).1,(lawAttr_e3 text).1]:List Text) x) q1 q2) ?_)
 refine G ?_
 obtain⟨q1,h⟩:=h
 refine G ?_
 exact⟨(),((addF c (gi ([(lawAttr_e2 data).1,(lawAttr_e3 text).1]:List Text) x)).1,(addF c (gi ([(lawAttr_e2 data).1,(lawAttr_e3 text).1]:List Text) x)).2,(x+1)),h,cvZ,(.cons _ (.refl _))⟩
 obtain⟨q1,h⟩:=h
 refine G ?_
 exact⟨(),(c,j,(x+1)),h,cvZ,(.cons _ (.refl _))⟩
 obtain⟨q1,q2,h⟩:=h
 refine G ?_
 refine wL (oC (tof_c c (zag text data) 1 q1 q2) ?_)
 refine G ?_
 refine wL (oA 2 (.agg ([D.s ByteArray.empty,.v (.slice none 0 0)])) tz70 (fun c15 _=>?_))
 refine G ?_
 obtain⟨q1,q2,h⟩:=h
 refine G ?_
 refine wL (oC (tunknown_c (zag text data) ((attrF c (zag text data) 1).1) q1 q2) ?_)
 obtain⟨q1,q2,h⟩:=h
 refine G ?_
 refine wL (oC (kagainst_c c (zag text data) q1 q2) ?_)
 iterate 8 refine g ?_
 refine zav (asg [(2,(D.k .u8) least),(6,D.b false),(15,.ptr c7 2 0 0),(17,.ptr c10 4 0 0),(21,.ptr c15 2 0 0),(25,(zai 5 zap) ((zaw c (zag text data)).1)),(26,D.i ((zaw c (zag text data)).2)),(162,D.b (((((j != 0)||(((attrF c (zag text data) 1).2) != 0))||(((unknownF (zag text data) ((attrF c (zag text data) 1).1)).2) != 0))||((((unknownF (zag text data) ((attrF c (zag text data) 1).1)).1).length:Int) != 0))||((((zaw c (zag text data)).2) != 0)&&(((zaw c (zag text data)).2) != 10))))]) [(c15,.cells 2 [zaz ((attrF c (zag text data) 1).1)]),(c10,.cells 4 [zao c]),(c7,.cells 2 [zaa (zag text data)]),(c6,.cells 2 [zaa ((lawAttr_e3 text).1)]),(c5,.cells 2 [zaa ((lawAttr_e2 data).1)]),(c3,.cells 2 [zby ((zaq text).1)])] ?_ ?_
 refine G ?_
 refine zp 142 (fun b27=>G ?_) (fun b27=>?_)
 iterate 2 refine wpL_skipU rfl rfl rfl rfl rfl ?_
 refine G ?_
 exact⟨(cvB (orS (orS (orS (orS b27))))),(.refl _)⟩
 refine G ?_
 refine zp 146 (fun b28=>G ?_) (fun b28=>?_)
 iterate 2 refine wpL_skipU rfl rfl rfl rfl rfl ?_
 refine G ?_
 exact⟨(cvB (orS (orS (orS (orN b27 b28))))),(.refl _)⟩
 refine G ?_
 refine zp 150 (fun b29=>G ?_) (fun b29=>?_)
 iterate 2 refine wpL_skipU rfl rfl rfl rfl rfl ?_
 refine G ?_
 exact⟨(cvB (orS (orS (orN (orN b27 b28) b29)))),(.refl _)⟩
 refine G ?_
 refine zp 155 (fun b30=>G ?_) (fun b30=>?_)
 iterate 2 refine wpL_skipU rfl rfl rfl rfl rfl ?_
 refine G ?_
 exact⟨(cvB (orS (orN (orN (orN b27 b28) b29) b30))),(.refl _)⟩
 refine G ?_
 refine zp 158 (fun b31=>G ?_) (fun b31=>?_)
 exact⟨(cvB (orN (orN (orN (orN b27 b28) b29) b30) (andN b31 rfl))),(.refl _)⟩
 refine G ?_
 exact⟨(cvB (orN (orN (orN (orN b27 b28) b29) b30) (andS b31))),(.refl _)⟩
 refine zc h (fun _ h=>G ?_) (fun _ h=>G ?_)
 exact zr h
 refine zl h () (fun gg ss=> [(2,(D.k .u8) least),(6,D.b false),(15,.ptr c7 2 0 0),(17,.ptr c10 4 0 0),(25,(zai 5 zap) ((zaw c (zag text data)).1)),(26,D.i ((zaw c (zag text data)).2)),(164,(zai 4 zca) (((attrF c (zag text data) 1).1).pieces)),(165,D.i ((((attrF c (zag text data) 1).1).pieces).length:Int)),(166,D.i ss)]) (fun gg ss=> [(c15,.cells 2 [zaz ((attrF c (zag text data) 1).1)]),(c10,.cells 4 [zao c]),(c7,.cells 2 [zaa (zag text data)]),(c6,.cells 2 [zaa ((lawAttr_e3 text).1)]),(c5,.cells 2 [zaa ((lawAttr_e2 data).1)]),(c3,.cells 2 [zby ((zaq text).1)])]) ?_
 rintro again17 _ x1 h
 unfold lawAttr_L2 at h
 refine G ?_
 refine zc h (fun _ h=>?_) (fun _ h=>?_)
 obtain⟨q1,h⟩:=h
 refine G ?_
 refine wL (oIx (enc:=zca) ts68 q1 ?_)
 refine G ?_
 refine wL (oA 4 (zca (Piece.mk 0 0 0 0)) tz81 (fun c19 _=>?_))
 refine G ?_
 obtain⟨q1,q2,h⟩:=h
 refine G ?_
 refine wL (OpA.makeFunc rfl ?_)
 refine wL (OpA.call_snap rfl rfl rfl zK (.same rfl (.fn .nil (.ptrp rfl .head rfl .nil) .nil)) (cfClone_c ((zaw c (zag text data)).1) 26 [] [.iptr (zca (gi (((attrF c (zag text data) 1).1).pieces) x1)) 0] (fun(x0_:Clone)=>inPieceF x0_ (gi (((attrF c (zag text data) 1).1).pieces) x1)) (fun(x0_:Clone)=>inI (x0_.atA+x0_.len)/\inI ((gi (((attrF c (zag text data) 1).1).pieces) x1).at_+(gi (((attrF c (zag text data) 1).1).pieces) x1).to)/\inI ((gi (((attrF c (zag text data) 1).1).pieces) x1).at_+(gi (((attrF c (zag text data) 1).1).pieces) x1).to-(gi (((attrF c (zag text data) 1).1).pieces) x1).from_)/\inI ((gi (((attrF c (zag text data) 1).1).pieces) x1).from_-x0_.atB)/\inI ((gi (((attrF c (zag text data) 1).1).pieces) x1).at_-x0_.atA)) zK (fun x0_ hh=>inPiece_c x0_ (gi (((attrF c (zag text data) 1).1).pieces) x1) hh.1 hh.2.1 hh.2.2.1 hh.2.2.2.1 hh.2.2.2.2) q1 q2) (by rintro _ rfl; exact .inr (.v _)) ?_)
 rintro _ rfl
 iterate 3 refine g ?_
 refine zav (asg [(2,(D.k .u8) least),(6,D.b false),(15,.ptr c7 2 0 0),(17,.ptr c10 4 0 0),(25,(zai 5 zap) ((zaw c (zag text data)).1)),(26,D.i ((zaw c (zag text data)).2)),(164,(zai 4 zca) (((attrF c (zag text data) 1).1).pieces)),(165,D.i ((((attrF c (zag text data) 1).1).pieces).length:Int)),(166,D.i x1),(178,D.b ((((zaw c (zag text data)).2)==0)&&(!(((zaw c (zag text data)).1).any (fun(x0_:Clone)=>inPieceF x0_ (gi (((attrF c (zag text data) 1).1).pieces) x1))))))]) [(c19,.cells 4 [zca (gi (((attrF c (zag text data) 1).1).pieces) x1)]),(c15,.cells 2 [zaz ((attrF c (zag text data) 1).1)]),(c10,.cells 4 [zao c]),(c7,.cells 2 [zaa (zag text data)]),(c6,.cells 2 [zaa ((lawAttr_e3 text).1)]),(c5,.cells 2 [zaa ((lawAttr_e2 data).1)]),(c3,.cells 2 [zby ((zaq text).1)])] ?_ ?_
 refine G ?_
 refine zp 175 (fun b21=>G ?_) (fun b21=>?_)
 exact⟨(cvB (andN b21 rfl)),(.refl _)⟩
 refine G ?_
 exact⟨(cvB (andS b21)),(.refl _)⟩
 refine zc h (fun _ h=>G ?_) (fun _ h=>?_)
 exact zr h
 obtain⟨q1,h⟩:=h
 refine G ?_
 exact⟨(),(x1+1),h,cvZ,(.cons _ (.refl _))⟩
 obtain⟨q1,q2,q3,q4,h⟩:=h
 refine G ?_
 refine wL (OpA.conv rfl td5 td3 rfl ?_)
 refine wL (OpA.remN rfl rfl rfl q1 ?_)
 refine G ?_
 refine wL (oC (tof_c c (zag text data) (1+((IntKind.i64.wrap least) % 6)) q3 q4) ?_)
 refine G ?_
 refine wL (oA 2 (.agg ([D.s ByteArray.empty,.v (.slice none 0 0)])) tz70 (fun c22 _=>?_))
 refine G ?_
 obtain⟨q1,q2,q3,h⟩:=h
 refine G ?_
 refine wL (oC (tshare_c c (zag text data) ((lawAttr_e1 c text data least).1) q1 q2 q3) ?_)
 refine G ?_
 refine zl h () (fun gg ss=> [(6,D.b false),(15,.ptr c7 2 0 0),(31,D.i ((lawAttr_e1 c text data least).2)),(33,D.i ((shareF c (zag text data) ((lawAttr_e1 c text data least).1)).2)),(34,D.i ss.1),(197,(zai 1 D.i) ((shareF c (zag text data) ((lawAttr_e1 c text data least).1)).1)),(198,D.i (((shareF c (zag text data) ((lawAttr_e1 c text data least).1)).1).length:Int)),(199,D.i ss.2)]) (fun gg ss=> [(c22,.cells 2 [zaz ((lawAttr_e1 c text data least).1)]),(c15,.cells 2 [zaz ((attrF c (zag text data) 1).1)]),(c10,.cells 4 [zao c]),(c7,.cells 2 [zaa (zag text data)]),(c6,.cells 2 [zaa ((lawAttr_e3 text).1)]),(c5,.cells 2 [zaa ((lawAttr_e2 data).1)]),(c3,.cells 2 [zby ((zaq text).1)])]) ?_
 rintro again23 _ ⟨sum,x2⟩ h
 dsimp only at h
 unfold lawAttr_L3 at h
 refine G ?_
 refine zc h (fun _ h=>?_) (fun _ h=>?_)
 obtain⟨q1,h⟩:=h
 refine G ?_
 refine wL (oIx (enc:=D.i) ts41 q1 ?_)
 obtain⟨q1,h⟩:=h
 obtain⟨q1,h⟩:=h
 refine G ?_
 exact⟨(),((sum+(gi ((shareF c (zag text data) ((lawAttr_e1 c text data least).1)).1) x2)),(x2+1)),h,cvZ,(.refl _)⟩
 iterate 2 refine g ?_
 refine zav (asg [(6,D.b (((((lawAttr_e1 c text data least).2)==0)&&(((shareF c (zag text data) ((lawAttr_e1 c text data least).1)).2)==0))&&(decide (sum<=(((zag text data).words).length:Int)))))]) [(c22,.cells 2 [zaz ((lawAttr_e1 c text data least).1)]),(c15,.cells 2 [zaz ((attrF c (zag text data) 1).1)]),(c10,.cells 4 [zao c]),(c7,.cells 2 [zaa (zag text data)]),(c6,.cells 2 [zaa ((lawAttr_e3 text).1)]),(c5,.cells 2 [zaa ((lawAttr_e2 data).1)]),(c3,.cells 2 [zby ((zaq text).1)])] ?_ ?_
 refine G ?_
 refine zp 209 (fun b25=>G ?_) (fun b25=>?_)
 refine zp 213 (fun b26=>G ?_) (fun b26=>?_)
 exact⟨(cvB (andN (andN b25 b26) rfl)),(.refl _)⟩
 refine G ?_
 exact⟨(cvB (andS (andN b25 b26))),(.refl _)⟩
 refine G ?_
 exact⟨(cvB (andS (andS b25))),(.refl _)⟩
 refine G ?_
 exact zr h
end Go.Proofs.YtkifpidbpoghlaaGreatDoor
