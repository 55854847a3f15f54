/-
  walks and contracts
-/
import Derived.Test.YtglclijalehcmaaDoorV10
import Derived.Test.YtglclijalehcmaaDoorKwD
set_option linter.all false
namespace Go.Proofs.YtglclijalehcmaaDoor
open Go Go.Lic Go.Sort Go.Proofs
attribute [local irreducible] addP badR blankF checkC checkF29 cloneCmp clonesF cmpI cmpL codeF commonF4 countF fewTs fewW findC gramsF guarF hashF indexF insideT lenC lenF lookF mul64F mulP nameR orF pairF partF pathB pathF powF printsF pushF rightL rollF sameW selectF sizeF splitF splitG textF validT
abbrev lawSound_e0 (l : (List Text)) (grams : Int) (width : Int) := (findC l (1 + ((IntKind.i64.wrap grams) % 4)) (1 + ((IntKind.i64.wrap width) % 4)))
abbrev lawSound_e1 (grams : Int) (width : Int) := (((1 + ((IntKind.i64.wrap grams) % 4)) + (1 + ((IntKind.i64.wrap width) % 4))) - 1)
set_option maxHeartbeats 2000000 in
set_option maxRecDepth 10000 in
theorem lawSound_w (l : (List Text)) (grams : Int) (width : Int) (Q : Bool → Prop) (h : lawSound_vc l grams width Q) : Fun false Tryd.prog 5 [(encL 2 encText) l, (D.k .u8) grams, (D.k .u8) width] (fun d => ∃ r, d = D.b r ∧ Q r) := by
 unfold lawSound_vc at h
 refine Fun.of_body Tryd.func5 rfl Tryd.ntmps5 rfl ?_
 refine wpA_seq ?_
 refine wpA_region ?_
 refine wL (OpA.a ?_)
 refine wpL_nil ?_
 iterate 2 refine wpA_seq ?_
 refine wpA_region ?_
 refine wL (OpA.call rfl rfl rfl en6 (awake_c  ) ?_)
 rintro _ rfl
 refine wL (OpA.not rfl rfl ?_)
 refine wpL_nil ?_
 refine wpA_cond rfl (fun b1 => ?_) (fun b1 => ?_)
 have h := h.1 (notT b1)
 refine wpA_seq ?_
 refine wpA_region ?_
 refine wL (OpA.a ?_)
 refine wpL_nil ?_
 refine wpA_ret ?_
 exact ⟨_, (.tmp (d := D.b false) rfl .nil), _, (.same rfl .nil), ⟨false, rfl, h⟩⟩
 have h := h.2 (notF b1)
 refine wpA_skip ?_
 refine wpA_seq ?_
 obtain ⟨q1, q2, q3, q4, h⟩ := h
 refine wpA_region ?_
 refine wL (OpA.m ?_)
 refine wL (OpA.conv rfl td5 td3 rfl ?_)
 refine wL (OpA.remN rfl rfl rfl q1 ?_)
 refine wL (OpA.addi rfl rfl rfl q2 ?_)
 refine wL (OpA.m ?_)
 refine wL (OpA.conv rfl td5 td3 rfl ?_)
 refine wL (OpA.remN rfl rfl rfl q3 ?_)
 refine wL (OpA.addi rfl rfl rfl q4 ?_)
 iterate 2 refine wL (OpA.a ?_)
 refine wpL_nil ?_
 iterate 2 refine wpA_seq ?_
 refine wpA_region ?_
 refine wL (OpA.m ?_)
 refine wL (OpA.call rfl rfl rfl en7 (c26fewt_c l ) ?_)
 rintro _ rfl
 refine wL (OpA.not rfl rfl ?_)
 refine wpL_nil ?_
 refine wpA_cond rfl (fun b2 => ?_) (fun b2 => ?_)
 have h := h.1 (notT b2)
 refine wpA_seq ?_
 refine wpA_region ?_
 refine wL (OpA.a ?_)
 refine wpL_nil ?_
 refine wpA_ret ?_
 exact ⟨_, (.tmp (d := D.b true) rfl .nil), _, (.same rfl .nil), ⟨true, rfl, h⟩⟩
 have h := h.2 (notF b2)
 refine wpA_skip ?_
 refine wpA_seq ?_
 obtain ⟨q1, h⟩ := h
 refine wpA_region ?_
 iterate 3 refine wL (OpA.m ?_)
 refine wL (OpA.call rfl rfl rfl en8 (kfind_c l (1 + ((IntKind.i64.wrap grams) % 4)) (1 + ((IntKind.i64.wrap width) % 4)) q1) ?_)
 rintro _ rfl
 refine wL (OpA.m ?_)
 iterate 2 refine wL (OpA.extract rfl rfl rfl ?_)
 iterate 2 refine wL (OpA.a ?_)
 refine wpL_nil ?_
 refine wpA_seq ?_
 obtain ⟨q1, q2, q3, h⟩ := h
 refine wpA_region ?_
 iterate 3 refine wL (OpA.m ?_)
 refine wL (OpA.addi rfl rfl rfl q1 ?_)
 refine wL (OpA.subi rfl rfl rfl q2 ?_)
 refine wL (OpA.call rfl rfl rfl en8 (kfind_c l (lawSound_e1 grams width) 1 q3) ?_)
 rintro _ rfl
 refine wL (OpA.m ?_)
 iterate 2 refine wL (OpA.extract rfl rfl rfl ?_)
 iterate 2 refine wL (OpA.a ?_)
 refine wpL_nil ?_
 refine wpA_seq ?_
 obtain ⟨q1, q2, q3, h⟩ := h
 refine wpA_region ?_
 iterate 3 refine wL (OpA.m ?_)
 refine wL (OpA.addi rfl rfl rfl q1 ?_)
 refine wL (OpA.subi rfl rfl rfl q2 ?_)
 refine wL (OpA.call rfl rfl rfl en8 (kfind_c l 1 (lawSound_e1 grams width) q3) ?_)
 rintro _ rfl
 refine wL (OpA.m ?_)
 iterate 2 refine wL (OpA.extract rfl rfl rfl ?_)
 iterate 2 refine wL (OpA.a ?_)
 refine wpL_nil ?_
 iterate 2 refine wpA_seq ?_
 obtain ⟨q1, q2, h⟩ := h
 refine wpA_mid (asg [(0, (encL 2 encText) l), (6, D.b false), (7, D.i (1 + ((IntKind.i64.wrap grams) % 4))), (8, D.i (1 + ((IntKind.i64.wrap width) % 4))), (9, (encL 5 encClone) ((lawSound_e0 l grams width).1)), (75, D.b ((((((lawSound_e0 l grams width).2) != ((findC l (lawSound_e1 grams width) 1).2)) || (((lawSound_e0 l grams width).2) != ((findC l 1 (lawSound_e1 grams width)).2))) || (!(decide (((lawSound_e0 l grams width).1) = ((findC l (lawSound_e1 grams width) 1).1))))) || (!(decide (((lawSound_e0 l grams width).1) = ((findC l 1 (lawSound_e1 grams width)).1))))))]) [] ?_ ?_
 refine wpA_region ?_
 iterate 2 refine wL (OpA.m ?_)
 refine wL (OpA.neq rfl rfl rfl ?_)
 refine wL (OpA.m ?_)
 refine wpL_split (s := 59) rfl (fun b11 => ?_) (fun b11 => ?_)
 iterate 3 refine wS ?_
 refine wL (OpA.p ?_)
 refine wL (OpA.m ?_)
 iterate 4 refine wS ?_
 refine wL (OpA.p ?_)
 refine wL (OpA.m ?_)
 iterate 4 refine wS ?_
 refine wL (OpA.p ?_)
 refine wpL_nil ?_
 exact ⟨(Cov.asg ⟨rfl, rfl, rfl, rfl, rfl, (congrArg D.b (Eq.symm (orS (orS (orS b11))))), trivial⟩), (.refl _)⟩
 iterate 2 refine wG (OpA.m ?_)
 refine wG (OpA.neq rfl rfl rfl ?_)
 refine wL (OpA.p ?_)
 refine wL (OpA.m ?_)
 refine wpL_split (s := 64) rfl (fun b12 => ?_) (fun b12 => ?_)
 iterate 4 refine wS ?_
 refine wL (OpA.p ?_)
 refine wL (OpA.m ?_)
 iterate 4 refine wS ?_
 refine wL (OpA.p ?_)
 refine wpL_nil ?_
 exact ⟨(Cov.asg ⟨rfl, rfl, rfl, rfl, rfl, (congrArg D.b (Eq.symm (orS (orS (orN b11 b12))))), trivial⟩), (.refl _)⟩
 iterate 2 refine wG (OpA.m ?_)
 refine wG (OpA.call rfl rfl rfl en10 (eqClones_c ((lawSound_e0 l grams width).1) ((findC l (lawSound_e1 grams width) 1).1) (q1 ⟨(bneF b11), (bneF b12)⟩)) ?_)
 rintro _ rfl
 refine wG (OpA.not rfl rfl ?_)
 refine wL (OpA.p ?_)
 refine wL (OpA.m ?_)
 refine wpL_split (s := 70) rfl (fun b13 => ?_) (fun b13 => ?_)
 iterate 4 refine wS ?_
 refine wL (OpA.p ?_)
 refine wpL_nil ?_
 exact ⟨(Cov.asg ⟨rfl, rfl, rfl, rfl, rfl, (congrArg D.b (Eq.symm (orS (orN (orN b11 b12) b13)))), trivial⟩), (.refl _)⟩
 iterate 2 refine wG (OpA.m ?_)
 refine wG (OpA.call rfl rfl rfl en10 (eqClones_c ((lawSound_e0 l grams width).1) ((findC l 1 (lawSound_e1 grams width)).1) (q2 ⟨⟨(bneF b11), (bneF b12)⟩, (notF b13)⟩)) ?_)
 rintro _ rfl
 refine wG (OpA.not rfl rfl ?_)
 refine wL (OpA.p ?_)
 refine wpL_nil ?_
 exact ⟨(Cov.asg ⟨rfl, rfl, rfl, rfl, rfl, (congrArg D.b (Eq.symm (orN (orN (orN b11 b12) b13) rfl))), trivial⟩), (.refl _)⟩
 show wpA _ _ _ _ (asg [(0, (encL 2 encText) l), (6, D.b false), (7, D.i (1 + ((IntKind.i64.wrap grams) % 4))), (8, D.i (1 + ((IntKind.i64.wrap width) % 4))), (9, (encL 5 encClone) ((lawSound_e0 l grams width).1)), (75, D.b ((((((lawSound_e0 l grams width).2) != ((findC l (lawSound_e1 grams width) 1).2)) || (((lawSound_e0 l grams width).2) != ((findC l 1 (lawSound_e1 grams width)).2))) || (!(decide (((lawSound_e0 l grams width).1) = ((findC l (lawSound_e1 grams width) 1).1))))) || (!(decide (((lawSound_e0 l grams width).1) = ((findC l 1 (lawSound_e1 grams width)).1))))))]) []
 refine wpA_cond rfl (fun b3 => ?_) (fun b3 => ?_)
 have h := h.1 ((or0 b3).imp (fun hh => ((or0 hh).imp (fun hh => ((or0 hh).imp (fun hh => (bneT hh)) (fun hh => (bneT hh)))) (fun hh => (notT hh)))) (fun hh => (notT hh)))
 refine wpA_seq ?_
 refine wpA_region ?_
 refine wL (OpA.a ?_)
 refine wpL_nil ?_
 refine wpA_ret ?_
 exact ⟨_, (.tmp (d := D.b false) rfl .nil), _, (.same rfl .nil), ⟨false, rfl, h⟩⟩
 have h := h.2 ⟨⟨⟨(bneF (or1 (or1 (or1 b3)))), (bneF (or2 (or1 (or1 b3))))⟩, (notF (or2 (or1 b3)))⟩, (notF (or2 b3))⟩
 refine wpA_skip ?_
 iterate 2 refine wpA_seq ?_
 refine wpA_region ?_
 refine wL (OpA.m ?_)
 refine wL (OpA.len rfl rfl rfl rfl ts25.desc (.inl ⟨_, _, rfl, (List.length_map _).symm⟩) ?_)
 refine wL (OpA.m ?_)
 refine wpL_nil ?_
 refine wpA_block ?_
 refine wpA_lfp (S := Int) (G := Unit) () (fun gg ss => asg [(0, (encL 2 encText) l), (6, D.b false), (7, D.i (1 + ((IntKind.i64.wrap grams) % 4))), (8, D.i (1 + ((IntKind.i64.wrap width) % 4))), (9, (encL 5 encClone) ((lawSound_e0 l grams width).1)), (76, (encL 5 encClone) ((lawSound_e0 l grams width).1)), (77, D.i (((lawSound_e0 l grams width).1).length : Int)), (78, D.i ss)]) (fun gg ss => []) h (Cov.asg ⟨rfl, rfl, rfl, rfl, rfl, rfl, rfl, rfl, trivial⟩) (.refl _) ?_
 rintro again4 _ x h
 have h : lawSound_L1 l grams width Q again4 x := h
 unfold lawSound_L1 at h
 show wpA _ _ _ _ (asg [(0, (encL 2 encText) l), (6, D.b false), (7, D.i (1 + ((IntKind.i64.wrap grams) % 4))), (8, D.i (1 + ((IntKind.i64.wrap width) % 4))), (9, (encL 5 encClone) ((lawSound_e0 l grams width).1)), (76, (encL 5 encClone) ((lawSound_e0 l grams width).1)), (77, D.i (((lawSound_e0 l grams width).1).length : Int)), (78, D.i x)]) []
 refine wpA_seq ?_
 refine wpA_region ?_
 refine wL (OpA.lss rfl rfl rfl ?_)
 refine wpL_nil ?_
 refine wpA_seq ?_
 refine wpA_cond rfl (fun b5 => ?_) (fun b5 => ?_)
 have h := h.1 (decT b5)
 refine wpA_skip ?_
 refine wpA_seq ?_
 refine wpA_block ?_
 refine wpA_seq ?_
 obtain ⟨q1, h⟩ := h
 refine wpA_region ?_
 refine wL (OpA.m ?_)
 refine wL (OpA.iixV (enc := encClone) rfl ts25 rfl rfl rfl q1 ?_)
 refine wL (OpA.iload_whole rfl ti31 rfl ⟨_, rfl, rfl⟩ ?_)
 refine wL (OpA.alloc (sz := 5) (d := encClone (Clone.mk 0 0 0 0 0)) rfl tz31 (fun _ _ => .agg (.cons (.v _) (.cons (.v _) (.cons (.v _) (.cons (.v _) (.cons (.v _) .nil)))))) (.of rfl) (fun c6 _ => ?_))
 refine wL (OpA.a ?_)
 refine wE (OpA.storeW rfl ti31 rfl (by with_reducible conv => lhs; whnf) (.of rfl) rfl rfl .head ?_)
 refine wpL_nil ?_
 iterate 2 refine wpA_seq ?_
 obtain ⟨q1, q2, q3, h⟩ := h
 refine wpA_region ?_
 refine wL (OpA.m ?_)
 refine wL (OpA.load_whole rfl ti31 rfl rfl .head rfl ⟨_, rfl⟩ ?_)
 iterate 2 refine wL (OpA.m ?_)
 refine wL (OpA.addi rfl rfl rfl q1 ?_)
 refine wL (OpA.subi rfl rfl rfl q2 ?_)
 refine wL (OpA.call rfl rfl rfl en14 (kcheck_c l (gi ((lawSound_e0 l grams width).1) x) (lawSound_e1 grams width) q3) ?_)
 rintro _ rfl
 refine wL (OpA.neq rfl rfl rfl ?_)
 refine wpL_nil ?_
 refine wpA_cond rfl (fun b7 => ?_) (fun b7 => ?_)
 have h := h.1 (bneT b7)
 refine wpA_seq ?_
 refine wpA_region ?_
 refine wL (OpA.a ?_)
 refine wpL_nil ?_
 refine wpA_ret ?_
 exact ⟨_, (.tmp (d := D.b false) rfl .nil), _, (.same rfl .nil), ⟨false, rfl, h⟩⟩
 have h := h.2 (bneF b7)
 refine wpA_skip ?_
 iterate 2 refine wpA_seq ?_
 refine wpA_region ?_
 refine wL (OpA.m ?_)
 refine wL (OpA.eql rfl rfl rfl ?_)
 refine wpL_nil ?_
 refine wpA_cond rfl (fun b8 => ?_) (fun b8 => ?_)
 have h := h.1 (beqT b8)
 refine wpA_exit ?_
 obtain ⟨q1, h⟩ := h
 refine wpA_region ?_
 refine wL (OpA.addi rfl rfl rfl q1 ?_)
 refine wL (OpA.m ?_)
 refine wpL_nil ?_
 exact ⟨(), (x + 1), h, (Cov.asg ⟨rfl, rfl, rfl, rfl, rfl, rfl, rfl, rfl, trivial⟩), (.cons _ (.refl _))⟩
 have h := h.2 (beqF b8)
 refine wpA_skip ?_
 refine wpA_seq ?_
 obtain ⟨q1, q2, h⟩ := h
 refine wpA_region ?_
 iterate 2 refine wL (OpA.m ?_)
 refine wL (OpA.subi rfl rfl rfl q1 ?_)
 refine wL (OpA.iixV (enc := encClone) rfl ts25 rfl rfl rfl q2 ?_)
 refine wL (OpA.iload_whole rfl ti31 rfl ⟨_, rfl, rfl⟩ ?_)
 refine wL (OpA.alloc (sz := 5) (d := encClone (Clone.mk 0 0 0 0 0)) rfl tz31 (fun _ _ => .agg (.cons (.v _) (.cons (.v _) (.cons (.v _) (.cons (.v _) (.cons (.v _) .nil)))))) (.of rfl) (fun c9 _ => ?_))
 refine wE (OpA.storeW rfl ti31 rfl (by with_reducible conv => lhs; whnf) (.of rfl) rfl rfl .head ?_)
 refine wpL_nil ?_
 refine wpA_seq ?_
 obtain ⟨q1, q2, h⟩ := h
 refine wpA_region ?_
 refine wL (OpA.fieldAddr rfl tf31_0 rfl ?_)
 refine wL (OpA.load rfl ti3 rfl .head rfl rfl ?_)
 refine wL (OpA.fieldAddr rfl tf31_1 rfl ?_)
 refine wL (OpA.load rfl ti3 rfl .head rfl rfl ?_)
 refine wL (OpA.fieldAddr rfl tf31_2 rfl ?_)
 refine wL (OpA.load rfl ti3 rfl .head rfl rfl ?_)
 refine wL (OpA.fieldAddr rfl tf31_3 rfl ?_)
 refine wL (OpA.load rfl ti3 rfl .head rfl rfl ?_)
 refine wL (OpA.ibuildSliceO rfl ts42 rfl (.cons (.of (sz := 1) rfl) (.cons (.of (sz := 1) rfl) (.cons (.of (sz := 1) rfl) (.cons (.of (sz := 1) rfl) .nil)))) (by decide) ?_)
 refine wL (OpA.fieldAddr rfl tf31_0 rfl ?_)
 refine wL (OpA.load rfl ti3 rfl (.tail .head) rfl rfl ?_)
 refine wL (OpA.fieldAddr rfl tf31_1 rfl ?_)
 refine wL (OpA.load rfl ti3 rfl (.tail .head) rfl rfl ?_)
 refine wL (OpA.fieldAddr rfl tf31_2 rfl ?_)
 refine wL (OpA.load rfl ti3 rfl (.tail .head) rfl rfl ?_)
 refine wL (OpA.fieldAddr rfl tf31_3 rfl ?_)
 refine wL (OpA.load rfl ti3 rfl (.tail .head) rfl rfl ?_)
 refine wL (OpA.ibuildSliceO rfl ts42 rfl (.cons (.of (sz := 1) rfl) (.cons (.of (sz := 1) rfl) (.cons (.of (sz := 1) rfl) (.cons (.of (sz := 1) rfl) .nil)))) (by decide) ?_)
 refine wL (OpA.call rfl rfl rfl en15 (cmpInts_c ([(gi ((lawSound_e0 l grams width).1) (x - 1)).a, (gi ((lawSound_e0 l grams width).1) (x - 1)).atA, (gi ((lawSound_e0 l grams width).1) (x - 1)).b, (gi ((lawSound_e0 l grams width).1) (x - 1)).atB] : List Int) ([(gi ((lawSound_e0 l grams width).1) x).a, (gi ((lawSound_e0 l grams width).1) x).atA, (gi ((lawSound_e0 l grams width).1) x).b, (gi ((lawSound_e0 l grams width).1) x).atB] : List Int) q1 q2) ?_)
 rintro _ rfl
 refine wL (OpA.geq rfl rfl rfl ?_)
 refine wpL_nil ?_
 refine wpA_cond rfl (fun b10 => ?_) (fun b10 => ?_)
 have h := h.1 (decT b10)
 refine wpA_seq ?_
 refine wpA_region ?_
 refine wL (OpA.a ?_)
 refine wpL_nil ?_
 refine wpA_ret ?_
 exact ⟨_, (.tmp (d := D.b false) rfl .nil), _, (.same rfl .nil), ⟨false, rfl, h⟩⟩
 have h := h.2 (decF b10)
 refine wpA_skip ?_
 obtain ⟨q1, h⟩ := h
 refine wpA_region ?_
 refine wL (OpA.addi rfl rfl rfl q1 ?_)
 refine wL (OpA.m ?_)
 refine wpL_nil ?_
 exact ⟨(), (x + 1), h, (Cov.asg ⟨rfl, rfl, rfl, rfl, rfl, rfl, rfl, rfl, trivial⟩), (.cons _ (.cons _ (.refl _)))⟩
 have h := h.2 (decF b5)
 refine wpA_exit ?_
 refine wpA_seq ?_
 refine wpA_region ?_
 refine wL (OpA.a ?_)
 refine wpL_nil ?_
 refine wpA_ret ?_
 exact ⟨_, (.tmp (d := D.b true) rfl .nil), _, (.same rfl .nil), ⟨true, rfl, h⟩⟩
theorem lawSound_c (l : (List Text)) (grams : Int) (width : Int) (hp0 : inL grams 256) (hp1 : inL width 256) : Fun false Tryd.prog 5 [(encL 2 encText) l, (D.k .u8) grams, (D.k .u8) width] (fun d => d = D.b (true)) :=
 Fun.at (enc := fun r => D.b r) (v := true) (lawSound_w l grams width  (fun r => r = true) (lawSound_ok l grams width _ hp0 hp1 rfl))
end Go.Proofs.YtglclijalehcmaaDoor
