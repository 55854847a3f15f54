/-
  walks and contracts
-/
import Derived.Test.YtglclijalehcmaaGreatDoorV10
import Derived.Test.YtglclijalehcmaaGreatDoorV21
import Derived.Test.YtglclijalehcmaaGreatDoorKw2
set_option linter.all false
namespace Go.Proofs.YtglclijalehcmaaGreatDoor
open Go Go.Lic Go.Sort Go.Proofs
attribute [local irreducible] addF addP againstC badR beforeF behindF blankF checkC checkF checkF29 cloneCmp clonesF cmpB cmpI codeF commonF4 countF countL coveredF famF fewC fewTs fewW findC findT gramsF growTF guarF has1F hasF hashF indexF insideF insideT leastF lenC lenF linesF listF lookF mergeF mul64F mulP nameR nearC nearF newF ofF orF packF pairF partF pathB pathF postCmp postLt postsF powF printsF pushF rightL rollF sameW selectF sizeF spanCmp spanR splitF splitG textF validF validT
abbrev lawChecks_e0 (l : (List Text)) (x : (List Clone)) (i : Int) (n : Int) := ((((((coveredF l x i).2) == ((coveredF l x i).2)) && (decide (((coveredF l x i).1) = ((coveredF l x i).1)))) && (((famF n x).2) == ((famF n x).2))) && (decide (((famF n x).1) = ((famF n x).1))))
set_option maxHeartbeats 2000000 in
set_option maxRecDepth 10000 in
theorem lawChecks_w (l : (List Text)) (x : (List Clone)) (n : Int) (i : Int) (Q : Bool → Prop) (h : lawChecks_vc l x n i Q) : Fun false Tryz.prog 5 [(encL 2 encText) l, (encL 5 encClone) x, D.i n, D.i i] (fun d => ∃ r, d = D.b r ∧ Q r) := by
 unfold lawChecks_vc at h
 refine Fun.of_body Tryz.func5 rfl Tryz.ntmps5 rfl ?_
 refine wpA_seq ?_
 refine wpA_region ?_
 refine wL (OpA.a ?_)
 refine wpL_nil ?_
 iterate 2 refine wpA_seq ?_
 refine wpA_region ?_
 refine wL (OpA.call rfl rfl rfl en8 (awake_c  ) ?_)
 rintro _ rfl
 refine wL (OpA.not rfl rfl ?_)
 refine wpL_nil ?_
 refine wpA_cond rfl (fun b1 => ?_) (fun b1 => ?_)
 have h := h.1 (notT b1)
 refine wpA_seq ?_
 refine wpA_region ?_
 refine wL (OpA.a ?_)
 refine wpL_nil ?_
 refine wpA_ret ?_
 exact ⟨_, (.tmp (d := D.b false) rfl .nil), _, (.same rfl .nil), ⟨false, rfl, h⟩⟩
 have h := h.2 (notF b1)
 refine wpA_skip ?_
 iterate 2 refine wpA_seq ?_
 refine wpA_mid (asg [(0, (encL 2 encText) l), (1, (encL 5 encClone) x), (2, D.i n), (3, D.i i), (8, D.b false), (28, D.b ((!(fewTs l)) || (decide ((x.length : Int) > 40))))]) [] ?_ ?_
 refine wpA_region ?_
 refine wL (OpA.m ?_)
 refine wL (OpA.call rfl rfl rfl en10 (c26fewt_c l ) ?_)
 rintro _ rfl
 refine wL (OpA.not rfl rfl ?_)
 refine wL (OpA.m ?_)
 refine wpL_split (s := 24) rfl (fun b10 => ?_) (fun b10 => ?_)
 iterate 3 refine wS ?_
 refine wL (OpA.p ?_)
 refine wpL_nil ?_
 exact ⟨(Cov.asg ⟨rfl, rfl, rfl, rfl, rfl, (congrArg D.b (Eq.symm (orS b10))), trivial⟩), (.refl _)⟩
 refine wG (OpA.m ?_)
 refine wG (OpA.len rfl rfl rfl rfl ts32.desc (.inl ⟨_, _, rfl, (List.length_map _).symm⟩) ?_)
 refine wG (OpA.gtr rfl rfl rfl ?_)
 refine wL (OpA.p ?_)
 refine wpL_nil ?_
 exact ⟨(Cov.asg ⟨rfl, rfl, rfl, rfl, rfl, (congrArg D.b (Eq.symm (orN b10 rfl))), trivial⟩), (.refl _)⟩
 show wpA _ _ _ _ (asg [(0, (encL 2 encText) l), (1, (encL 5 encClone) x), (2, D.i n), (3, D.i i), (8, D.b false), (28, D.b ((!(fewTs l)) || (decide ((x.length : Int) > 40))))]) []
 refine wpA_cond rfl (fun b2 => ?_) (fun b2 => ?_)
 have h := h.1 ((or0 b2).imp (fun hh => (notT hh)) (fun hh => (decT hh)))
 refine wpA_seq ?_
 refine wpA_region ?_
 refine wL (OpA.a ?_)
 refine wpL_nil ?_
 refine wpA_ret ?_
 exact ⟨_, (.tmp (d := D.b true) rfl .nil), _, (.same rfl .nil), ⟨true, rfl, h⟩⟩
 have h := h.2 ⟨(notF (or1 b2)), (decF (or2 b2))⟩
 refine wpA_skip ?_
 iterate 2 refine wpA_seq ?_
 refine wpA_region ?_
 refine wL (OpA.m ?_)
 refine wL (OpA.len rfl rfl rfl rfl ts32.desc (.inl ⟨_, _, rfl, (List.length_map _).symm⟩) ?_)
 refine wL (OpA.m ?_)
 refine wpL_nil ?_
 refine wpA_block ?_
 refine wpA_lfp (S := Int) (G := Unit) () (fun gg ss => asg [(0, (encL 2 encText) l), (1, (encL 5 encClone) x), (2, D.i n), (3, D.i i), (8, D.b false), (29, (encL 5 encClone) x), (30, D.i (x.length : Int)), (31, D.i ss)]) (fun gg ss => []) h (Cov.asg ⟨rfl, rfl, rfl, rfl, rfl, rfl, rfl, rfl, trivial⟩) (.refl _) ?_
 rintro again3 _ x1 h
 have h : lawChecks_L1 l x n i Q again3 x1 := h
 unfold lawChecks_L1 at h
 show wpA _ _ _ _ (asg [(0, (encL 2 encText) l), (1, (encL 5 encClone) x), (2, D.i n), (3, D.i i), (8, D.b false), (29, (encL 5 encClone) x), (30, D.i (x.length : Int)), (31, D.i x1)]) []
 refine wpA_seq ?_
 refine wpA_region ?_
 refine wL (OpA.lss rfl rfl rfl ?_)
 refine wpL_nil ?_
 refine wpA_seq ?_
 refine wpA_cond rfl (fun b4 => ?_) (fun b4 => ?_)
 have h := h.1 (decT b4)
 refine wpA_skip ?_
 refine wpA_seq ?_
 refine wpA_block ?_
 refine wpA_seq ?_
 obtain ⟨q1, h⟩ := h
 refine wpA_region ?_
 refine wL (OpA.iixV (enc := encClone) rfl ts32 rfl rfl rfl q1 ?_)
 refine wL (OpA.iload_whole rfl ti38 rfl ⟨_, rfl, rfl⟩ ?_)
 refine wL (OpA.alloc (sz := 5) (d := encClone (Clone.mk 0 0 0 0 0)) rfl tz38 (fun _ _ => .agg (.cons (.v _) (.cons (.v _) (.cons (.v _) (.cons (.v _) (.cons (.v _) .nil)))))) (.of rfl) (fun c5 _ => ?_))
 refine wE (OpA.storeW rfl ti38 rfl (by with_reducible conv => lhs; whnf) (.of rfl) rfl rfl .head ?_)
 refine wpL_nil ?_
 refine wpA_seq ?_
 obtain ⟨q1, q2, q3, h⟩ := h
 refine wpA_draw (m := 9) mo (by kernel_rfl) rfl ?_
 refine dL (OpA.m ⟨rfl, rfl⟩) ?_
 refine dL (OpA.load_whole rfl ti38 rfl rfl .head rfl ⟨_, rfl⟩ ⟨rfl, rfl⟩) ?_
 refine dL (OpA.m ⟨rfl, rfl⟩) ?_
 refine dL (OpA.call rfl rfl rfl en20 (kcheck_c l (gi x x1) n q1) (by rintro _ rfl; exact ⟨rfl, rfl⟩)) ?_
 refine dL (OpA.m ⟨rfl, rfl⟩) ?_
 refine dL (OpA.load_whole rfl ti38 rfl rfl .head rfl ⟨_, rfl⟩ ⟨rfl, rfl⟩) ?_
 refine dL (OpA.m ⟨rfl, rfl⟩) ?_
 refine dL (OpA.call rfl rfl rfl en21 (rcheck_c l (gi x x1) n q1 q2 q3) (by rintro _ rfl; exact ⟨rfl, rfl⟩)) ?_
 refine dL (OpA.neq rfl rfl rfl ⟨rfl, rfl⟩) ?_
 refine DetK.nil ?_
 refine wpL_nil ?_
 refine wpA_cond rfl (fun b6 => ?_) (fun b6 => ?_)
 have h := h.1 (bneT b6)
 refine wpA_seq ?_
 refine wpA_region ?_
 refine wL (OpA.a ?_)
 refine wpL_nil ?_
 refine wpA_ret ?_
 exact ⟨_, (.tmp (d := D.b false) rfl .nil), _, (.same rfl .nil), ⟨false, rfl, h⟩⟩
 have h := h.2 (bneF b6)
 refine wpA_skip ?_
 obtain ⟨q1, h⟩ := h
 refine wpA_region ?_
 refine wL (OpA.addi rfl rfl rfl q1 ?_)
 refine wL (OpA.m ?_)
 refine wpL_nil ?_
 exact ⟨(), (x1 + 1), h, (Cov.asg ⟨rfl, rfl, rfl, rfl, rfl, rfl, rfl, rfl, trivial⟩), (.cons _ (.refl _))⟩
 have h := h.2 (decF b4)
 refine wpA_exit ?_
 refine wpA_seq ?_
 obtain ⟨q1, q2, q3, h⟩ := h
 refine wpA_region ?_
 iterate 3 refine wL (OpA.m ?_)
 refine wL (OpA.call rfl rfl rfl en22 (kcovered_c l x i q1 q2 q3) ?_)
 rintro _ rfl
 refine wL (OpA.m ?_)
 iterate 2 refine wL (OpA.extract rfl rfl rfl ?_)
 iterate 2 refine wL (OpA.a ?_)
 refine wpL_nil ?_
 refine wpA_seq ?_
 obtain ⟨q1, q2, q3, q4, h⟩ := h
 refine wpA_region ?_
 iterate 3 refine wL (OpA.m ?_)
 refine wL (OpA.call rfl rfl rfl en23 (rcovered_c l x i q1 q2 q3 q4) ?_)
 rintro _ rfl
 refine wL (OpA.m ?_)
 iterate 2 refine wL (OpA.extract rfl rfl rfl ?_)
 iterate 2 refine wL (OpA.a ?_)
 refine wpL_nil ?_
 refine wpA_seq ?_
 obtain ⟨q1, h⟩ := h
 refine wpA_region ?_
 iterate 2 refine wL (OpA.m ?_)
 refine wL (OpA.call rfl rfl rfl en24 (kfam_c n x q1) ?_)
 rintro _ rfl
 refine wL (OpA.m ?_)
 iterate 2 refine wL (OpA.extract rfl rfl rfl ?_)
 iterate 2 refine wL (OpA.a ?_)
 refine wpL_nil ?_
 refine wpA_seq ?_
 obtain ⟨q1, h⟩ := h
 refine wpA_region ?_
 iterate 2 refine wL (OpA.m ?_)
 refine wL (OpA.call rfl rfl rfl en25 (rfam_c n x q1) ?_)
 rintro _ rfl
 refine wL (OpA.m ?_)
 iterate 2 refine wL (OpA.extract rfl rfl rfl ?_)
 iterate 2 refine wL (OpA.a ?_)
 refine wpL_nil ?_
 refine wpA_seq ?_
 obtain ⟨q1, q2, h⟩ := h
 refine wpA_mid (asg [(8, D.b (lawChecks_e0 l x i n))]) [] ?_ ?_
 refine wpA_region ?_
 iterate 2 refine wL (OpA.m ?_)
 refine wL (OpA.eql rfl rfl rfl ?_)
 refine wL (OpA.m ?_)
 refine wpL_split (s := 74) rfl (fun b7 => ?_) (fun b7 => ?_)
 iterate 2 refine wG (OpA.m ?_)
 refine wG (OpA.call rfl rfl rfl en26 (eqSpans_c ((coveredF l x i).1) ((coveredF l x i).1) (q1 (beqT b7))) ?_)
 rintro _ rfl
 refine wL (OpA.p ?_)
 refine wL (OpA.m ?_)
 refine wpL_split (s := 79) rfl (fun b8 => ?_) (fun b8 => ?_)
 iterate 2 refine wG (OpA.m ?_)
 refine wG (OpA.eql rfl rfl rfl ?_)
 refine wL (OpA.p ?_)
 refine wL (OpA.m ?_)
 refine wpL_split (s := 84) rfl (fun b9 => ?_) (fun b9 => ?_)
 iterate 2 refine wG (OpA.m ?_)
 refine wG (OpA.call rfl rfl rfl en27 (rsamel_c ((famF n x).1) ((famF n x).1) (q2 ⟨⟨(beqT b7), b8⟩, (beqT b9)⟩).1 (q2 ⟨⟨(beqT b7), b8⟩, (beqT b9)⟩).2) ?_)
 rintro _ rfl
 refine wL (OpA.p ?_)
 refine wL (OpA.a ?_)
 refine wpL_nil ?_
 exact ⟨(Cov.asg ⟨(congrArg D.b (Eq.symm (andN (andN (andN b7 b8) b9) rfl))), trivial⟩), (.refl _)⟩
 iterate 3 refine wS ?_
 refine wL (OpA.p ?_)
 refine wL (OpA.a ?_)
 refine wpL_nil ?_
 exact ⟨(Cov.asg ⟨(congrArg D.b (Eq.symm (andS (andN (andN b7 b8) b9)))), trivial⟩), (.refl _)⟩
 iterate 3 refine wS ?_
 refine wL (OpA.p ?_)
 refine wL (OpA.m ?_)
 iterate 3 refine wS ?_
 refine wL (OpA.p ?_)
 refine wL (OpA.a ?_)
 refine wpL_nil ?_
 exact ⟨(Cov.asg ⟨(congrArg D.b (Eq.symm (andS (andS (andN b7 b8))))), trivial⟩), (.refl _)⟩
 iterate 3 refine wS ?_
 refine wL (OpA.p ?_)
 refine wL (OpA.m ?_)
 iterate 3 refine wS ?_
 refine wL (OpA.p ?_)
 refine wL (OpA.m ?_)
 iterate 3 refine wS ?_
 refine wL (OpA.p ?_)
 refine wL (OpA.a ?_)
 refine wpL_nil ?_
 exact ⟨(Cov.asg ⟨(congrArg D.b (Eq.symm (andS (andS (andS b7))))), trivial⟩), (.refl _)⟩
 show wpA _ _ _ _ (asg [(8, D.b (lawChecks_e0 l x i n))]) []
 refine wpA_ret ?_
 exact ⟨_, (.tmp (d := D.b (lawChecks_e0 l x i n)) rfl .nil), _, (.same rfl .nil), ⟨(lawChecks_e0 l x i n), rfl, h⟩⟩
theorem lawChecks_c (l : (List Text)) (x : (List Clone)) (n : Int) (i : Int) (hp0 : ∀ c_ ∈ x, inI c_.atA ∧ inI c_.atB) : Fun false Tryz.prog 5 [(encL 2 encText) l, (encL 5 encClone) x, D.i n, D.i i] (fun d => d = D.b (true)) :=
 Fun.at (enc := fun r => D.b r) (v := true) (lawChecks_w l x n i  (fun r => r = true) (lawChecks_ok l x n i _ hp0 rfl))
end Go.Proofs.YtglclijalehcmaaGreatDoor
