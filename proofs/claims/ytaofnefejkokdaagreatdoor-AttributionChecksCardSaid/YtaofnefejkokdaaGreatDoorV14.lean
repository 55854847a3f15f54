/-
  walks and contracts
-/
import Derived.Test.YtaofnefejkokdaaGreatDoorV9
set_option linter.all false
namespace Go.Proofs.YtaofnefejkokdaaGreatDoor
open Go Go.Lic Go.Sort Go.Proofs
attribute [local irreducible] addF addP attrF badR behindF betR betterP blankF checkA checkF cmpB cmpI cmpL codeF countF countL fewC fewTs fewW findT gramsF growTF has1F hasF hashF indexF insideF leastF lenF longAF mainF maxF mergeF mul64F mulP nameR newF ofF orF packF partF pathB pathF pieceOk postCmp postLt postsF powF printsF pushF rangedF rightA rightCT rollF sameF selectF shareF sizeF smallF spanCmp splitF splitG srcF srcR textF unknownF validF validT
abbrev lawChecks_e0 (c : Corpus) (t : Text) (least : Int) (a : Attribution) := ((((((checkA c t least a) == (checkA c t least a)) && (decide (((shareF c t a).1) = ((shareF c t a).1)))) && (((shareF c t a).2) == ((shareF c t a).2))) && (decide (((unknownF t a).1) = ((unknownF t a).1)))) && (((unknownF t a).2) == ((unknownF t a).2)))
set_option maxHeartbeats 2000000 in
set_option maxRecDepth 10000 in
theorem lawChecks_w (c : Corpus) (t : Text) (least : Int) (a : Attribution) (Q : Bool → Prop) (h : lawChecks_vc c t least a Q) : Fun false Tryz.prog 7 [encCorpus c, encText t, D.i least, encAttribution a] (fun d => ∃ r, d = D.b r ∧ Q r) := by
 unfold lawChecks_vc at h
 refine Fun.of_body Tryz.func7 rfl Tryz.ntmps7 rfl ?_
 refine wpA_seq ?_
 refine wpA_region ?_
 refine wL (OpA.bx (sz := 4) rfl (by with_reducible conv => lhs; whnf) (.of rfl) (fun c1 _ => ?_))
 refine wL (OpA.bx (sz := 2) rfl (by with_reducible conv => lhs; whnf) (.of rfl) (fun c2 _ => ?_))
 refine wL (OpA.bx (sz := 2) rfl (by with_reducible conv => lhs; whnf) (.of rfl) (fun c3 _ => ?_))
 refine wL (OpA.a ?_)
 refine wpL_nil ?_
 iterate 2 refine wpA_seq ?_
 refine wpA_region ?_
 refine wL (OpA.call rfl rfl rfl en10 (awake_c  ) ?_)
 rintro _ rfl
 refine wL (OpA.not rfl rfl ?_)
 refine wpL_nil ?_
 refine wpA_cond rfl (fun b4 => ?_) (fun b4 => ?_)
 have h := h.1 (notT b4)
 refine wpA_seq ?_
 refine wpA_region ?_
 refine wL (OpA.a ?_)
 refine wpL_nil ?_
 refine wpA_ret ?_
 exact ⟨_, (.tmp (d := D.b false) rfl .nil), _, (.same rfl .nil), ⟨false, rfl, h⟩⟩
 have h := h.2 (notF b4)
 refine wpA_skip ?_
 iterate 2 refine wpA_seq ?_
 refine wpA_region ?_
 refine wL (OpA.load_whole rfl ti25 rfl rfl (.tail (.tail .head)) rfl ⟨_, rfl⟩ ?_)
 refine wL (OpA.load_whole rfl ti28 rfl rfl (.tail .head) rfl ⟨_, rfl⟩ ?_)
 refine wL (OpA.load_whole rfl ti33 rfl rfl .head rfl ⟨_, rfl⟩ ?_)
 refine wL (OpA.call rfl rfl rfl en11 (lsmall_c c t a ) ?_)
 rintro _ rfl
 refine wL (OpA.not rfl rfl ?_)
 refine wpL_nil ?_
 refine wpA_cond rfl (fun b5 => ?_) (fun b5 => ?_)
 have h := h.1 (notT b5)
 refine wpA_seq ?_
 refine wpA_region ?_
 refine wL (OpA.a ?_)
 refine wpL_nil ?_
 refine wpA_ret ?_
 exact ⟨_, (.tmp (d := D.b true) rfl .nil), _, (.same rfl .nil), ⟨true, rfl, h⟩⟩
 have h := h.2 (notF b5)
 refine wpA_skip ?_
 refine wpA_seq ?_
 obtain ⟨q1, q2, q3, h⟩ := h
 refine wpA_region ?_
 refine wL (OpA.load_whole rfl ti25 rfl rfl (.tail (.tail .head)) rfl ⟨_, rfl⟩ ?_)
 refine wL (OpA.load_whole rfl ti28 rfl rfl (.tail .head) rfl ⟨_, rfl⟩ ?_)
 refine wL (OpA.load_whole rfl ti33 rfl rfl .head rfl ⟨_, rfl⟩ ?_)
 refine wL (OpA.call rfl rfl rfl en21 (tshare_c c t a q1 q2 q3) ?_)
 rintro _ rfl
 refine wL (OpA.m ?_)
 iterate 2 refine wL (OpA.extract rfl rfl rfl ?_)
 iterate 2 refine wL (OpA.a ?_)
 refine wpL_nil ?_
 refine wpA_seq ?_
 obtain ⟨q1, q2, q3, h⟩ := h
 refine wpA_region ?_
 refine wL (OpA.load_whole rfl ti25 rfl rfl (.tail (.tail .head)) rfl ⟨_, rfl⟩ ?_)
 refine wL (OpA.load_whole rfl ti28 rfl rfl (.tail .head) rfl ⟨_, rfl⟩ ?_)
 refine wL (OpA.load_whole rfl ti33 rfl rfl .head rfl ⟨_, rfl⟩ ?_)
 refine wL (OpA.call rfl rfl rfl en22 (rshare_c c t a q1 q2 q3) ?_)
 rintro _ rfl
 refine wL (OpA.m ?_)
 iterate 2 refine wL (OpA.extract rfl rfl rfl ?_)
 iterate 2 refine wL (OpA.a ?_)
 refine wpL_nil ?_
 refine wpA_seq ?_
 obtain ⟨q1, q2, h⟩ := h
 refine wpA_region ?_
 refine wL (OpA.load_whole rfl ti28 rfl rfl (.tail .head) rfl ⟨_, rfl⟩ ?_)
 refine wL (OpA.load_whole rfl ti33 rfl rfl .head rfl ⟨_, rfl⟩ ?_)
 refine wL (OpA.call rfl rfl rfl en23 (tunknown_c t a q1 q2) ?_)
 rintro _ rfl
 refine wL (OpA.m ?_)
 iterate 2 refine wL (OpA.extract rfl rfl rfl ?_)
 iterate 2 refine wL (OpA.a ?_)
 refine wpL_nil ?_
 refine wpA_seq ?_
 obtain ⟨q1, q2, h⟩ := h
 refine wpA_region ?_
 refine wL (OpA.load_whole rfl ti28 rfl rfl (.tail .head) rfl ⟨_, rfl⟩ ?_)
 refine wL (OpA.load_whole rfl ti33 rfl rfl .head rfl ⟨_, rfl⟩ ?_)
 refine wL (OpA.call rfl rfl rfl en24 (runknown_c t a q1 q2) ?_)
 rintro _ rfl
 refine wL (OpA.m ?_)
 iterate 2 refine wL (OpA.extract rfl rfl rfl ?_)
 iterate 2 refine wL (OpA.a ?_)
 refine wpL_nil ?_
 refine wpA_seq ?_
 obtain ⟨q1, q2, q3, q4, q5, h⟩ := h
 refine wpA_mid (asg [(8, D.b (lawChecks_e0 c t least a))]) [(c3, .cells 2 [encAttribution a]), (c2, .cells 2 [encText t]), (c1, .cells 4 [encCorpus c])] ?_ ?_
 refine wpA_draw (m := 32) mo (by kernel_rfl) rfl ?_
 refine dL (OpA.load_whole rfl ti25 rfl rfl (.tail (.tail .head)) rfl ⟨_, rfl⟩ ⟨rfl, rfl⟩) ?_
 refine dL (OpA.load_whole rfl ti28 rfl rfl (.tail .head) rfl ⟨_, rfl⟩ ⟨rfl, rfl⟩) ?_
 refine dL (OpA.m ⟨rfl, rfl⟩) ?_
 refine dL (OpA.load_whole rfl ti33 rfl rfl .head rfl ⟨_, rfl⟩ ⟨rfl, rfl⟩) ?_
 refine dL (OpA.call rfl rfl rfl en17 (tcheck_c c t least a q1 q2 q3) (by rintro _ rfl; exact ⟨rfl, rfl⟩)) ?_
 refine dL (OpA.load_whole rfl ti25 rfl rfl (.tail (.tail .head)) rfl ⟨_, rfl⟩ ⟨rfl, rfl⟩) ?_
 refine dL (OpA.load_whole rfl ti28 rfl rfl (.tail .head) rfl ⟨_, rfl⟩ ⟨rfl, rfl⟩) ?_
 refine dL (OpA.m ⟨rfl, rfl⟩) ?_
 refine dL (OpA.load_whole rfl ti33 rfl rfl .head rfl ⟨_, rfl⟩ ⟨rfl, rfl⟩) ?_
 refine dL (OpA.call rfl rfl rfl en25 (rcheck_c c t least a q1 q2 q3) (by rintro _ rfl; exact ⟨rfl, rfl⟩)) ?_
 refine dL (OpA.eql rfl rfl rfl ⟨rfl, rfl⟩) ?_
 refine dL (OpA.m ⟨rfl, rfl⟩) ?_
 refine DetK_split (s := 61) rfl (fun b6 => ?_) (fun b6 => ?_)
 iterate 2 refine dG (OpA.m ⟨rfl, rfl⟩) ?_
 refine dG (OpA.call rfl rfl rfl en26 (eqInts_c ((shareF c t a).1) ((shareF c t a).1) (q4 (beqT b6))) (by rintro _ rfl; exact ⟨rfl, rfl⟩)) ?_
 refine dL (OpA.p ⟨rfl, rfl⟩) ?_
 refine dL (OpA.m ⟨rfl, rfl⟩) ?_
 refine DetK_split (s := 66) rfl (fun b7 => ?_) (fun b7 => ?_)
 iterate 2 refine dG (OpA.m ⟨rfl, rfl⟩) ?_
 refine dG (OpA.eql rfl rfl rfl ⟨rfl, rfl⟩) ?_
 refine dL (OpA.p ⟨rfl, rfl⟩) ?_
 refine dL (OpA.m ⟨rfl, rfl⟩) ?_
 refine DetK_split (s := 71) rfl (fun b8 => ?_) (fun b8 => ?_)
 iterate 2 refine dG (OpA.m ⟨rfl, rfl⟩) ?_
 refine dG (OpA.call rfl rfl rfl en27 (eqSpans_c ((unknownF t a).1) ((unknownF t a).1) (q5 ⟨⟨(beqT b6), b7⟩, (beqT b8)⟩)) (by rintro _ rfl; exact ⟨rfl, rfl⟩)) ?_
 refine dL (OpA.p ⟨rfl, rfl⟩) ?_
 refine dL (OpA.m ⟨rfl, rfl⟩) ?_
 refine DetK_split (s := 76) rfl (fun b9 => ?_) (fun b9 => ?_)
 iterate 2 refine dG (OpA.m ⟨rfl, rfl⟩) ?_
 refine dG (OpA.eql rfl rfl rfl ⟨rfl, rfl⟩) ?_
 refine dL (OpA.p ⟨rfl, rfl⟩) ?_
 refine dL (OpA.a ⟨rfl, rfl⟩) ?_
 refine DetK.nil ?_
 refine wpL_nil ?_
 exact ⟨(Cov.asg ⟨(congrArg D.b (Eq.symm (andN (andN (andN (andN b6 b7) b8) b9) rfl))), trivial⟩), (.refl _)⟩
 iterate 3 refine dS ?_
 refine dL (OpA.p ⟨rfl, rfl⟩) ?_
 refine dL (OpA.a ⟨rfl, rfl⟩) ?_
 refine DetK.nil ?_
 refine wpL_nil ?_
 exact ⟨(Cov.asg ⟨(congrArg D.b (Eq.symm (andS (andN (andN (andN b6 b7) b8) b9)))), trivial⟩), (.refl _)⟩
 iterate 3 refine dS ?_
 refine dL (OpA.p ⟨rfl, rfl⟩) ?_
 refine dL (OpA.m ⟨rfl, rfl⟩) ?_
 iterate 3 refine dS ?_
 refine dL (OpA.p ⟨rfl, rfl⟩) ?_
 refine dL (OpA.a ⟨rfl, rfl⟩) ?_
 refine DetK.nil ?_
 refine wpL_nil ?_
 exact ⟨(Cov.asg ⟨(congrArg D.b (Eq.symm (andS (andS (andN (andN b6 b7) b8))))), trivial⟩), (.refl _)⟩
 iterate 3 refine dS ?_
 refine dL (OpA.p ⟨rfl, rfl⟩) ?_
 refine dL (OpA.m ⟨rfl, rfl⟩) ?_
 iterate 3 refine dS ?_
 refine dL (OpA.p ⟨rfl, rfl⟩) ?_
 refine dL (OpA.m ⟨rfl, rfl⟩) ?_
 iterate 3 refine dS ?_
 refine dL (OpA.p ⟨rfl, rfl⟩) ?_
 refine dL (OpA.a ⟨rfl, rfl⟩) ?_
 refine DetK.nil ?_
 refine wpL_nil ?_
 exact ⟨(Cov.asg ⟨(congrArg D.b (Eq.symm (andS (andS (andS (andN b6 b7)))))), trivial⟩), (.refl _)⟩
 iterate 3 refine dS ?_
 refine dL (OpA.p ⟨rfl, rfl⟩) ?_
 refine dL (OpA.m ⟨rfl, rfl⟩) ?_
 iterate 3 refine dS ?_
 refine dL (OpA.p ⟨rfl, rfl⟩) ?_
 refine dL (OpA.m ⟨rfl, rfl⟩) ?_
 iterate 3 refine dS ?_
 refine dL (OpA.p ⟨rfl, rfl⟩) ?_
 refine dL (OpA.m ⟨rfl, rfl⟩) ?_
 iterate 3 refine dS ?_
 refine dL (OpA.p ⟨rfl, rfl⟩) ?_
 refine dL (OpA.a ⟨rfl, rfl⟩) ?_
 refine DetK.nil ?_
 refine wpL_nil ?_
 exact ⟨(Cov.asg ⟨(congrArg D.b (Eq.symm (andS (andS (andS (andS b6)))))), trivial⟩), (.refl _)⟩
 show wpA _ _ _ _ (asg [(8, D.b (lawChecks_e0 c t least a))]) [(c3, .cells 2 [encAttribution a]), (c2, .cells 2 [encText t]), (c1, .cells 4 [encCorpus c])]
 refine wpA_ret ?_
 exact ⟨_, (.tmp (d := D.b (lawChecks_e0 c t least a)) rfl .nil), _, (.same rfl .nil), ⟨(lawChecks_e0 c t least a), rfl, h⟩⟩
theorem lawChecks_c (c : Corpus) (t : Text) (least : Int) (a : Attribution)  : Fun false Tryz.prog 7 [encCorpus c, encText t, D.i least, encAttribution a] (fun d => d = D.b (true)) :=
 Fun.at (enc := fun r => D.b r) (v := true) (lawChecks_w c t least a  (fun r => r = true) (lawChecks_ok c t least a _  rfl))
end Go.Proofs.YtaofnefejkokdaaGreatDoor
