/-
  walks and contracts
-/
import Derived.Test.YtaofnefejkokdaaGreatDoorV9
set_option linter.all false
namespace Go.Proofs.YtaofnefejkokdaaGreatDoor
open Go Go.Lic Go.Sort Go.Proofs
attribute [local irreducible] addF addP attrF badR behindF betR betterP blankF checkA checkF cmpB cmpI cmpL codeF countF countL fewC fewTs fewW findT gramsF growTF has1F hasF hashF indexF insideF leastF lenF longAF mainF maxF mergeF mul64F mulP nameR newF ofF orF packF partF pathB pathF pieceOk postCmp postLt postsF powF printsF pushF rangedF rightA rightCT rollF sameF selectF shareF sizeF smallF spanCmp splitF splitG srcF srcR textF unknownF validF validT
set_option maxHeartbeats 2000000 in
set_option maxRecDepth 10000 in
theorem lawMains_w (c : Corpus) (t : Text) (a : Attribution) (percent : Int) (Q : Bool → Prop) (h : lawMains_vc c t a percent Q) : Fun false Tryz.prog 4 [encCorpus c, encText t, encAttribution a, D.i percent] (fun d => ∃ r, d = D.b r ∧ Q r) := by
 unfold lawMains_vc at h
 refine Fun.of_body Tryz.func4 rfl Tryz.ntmps4 rfl ?_
 refine wpA_seq ?_
 refine wpA_region ?_
 refine wL (OpA.bx (sz := 4) rfl (by with_reducible conv => lhs; whnf) (.of rfl) (fun c1 _ => ?_))
 refine wL (OpA.bx (sz := 2) rfl (by with_reducible conv => lhs; whnf) (.of rfl) (fun c2 _ => ?_))
 refine wL (OpA.bx (sz := 2) rfl (by with_reducible conv => lhs; whnf) (.of rfl) (fun c3 _ => ?_))
 refine wL (OpA.a ?_)
 refine wpL_nil ?_
 iterate 2 refine wpA_seq ?_
 refine wpA_region ?_
 refine wL (OpA.call rfl rfl rfl en10 (awake_c  ) ?_)
 rintro _ rfl
 refine wL (OpA.not rfl rfl ?_)
 refine wpL_nil ?_
 refine wpA_cond rfl (fun b4 => ?_) (fun b4 => ?_)
 have h := h.1 (notT b4)
 refine wpA_seq ?_
 refine wpA_region ?_
 refine wL (OpA.a ?_)
 refine wpL_nil ?_
 refine wpA_ret ?_
 exact ⟨_, (.tmp (d := D.b false) rfl .nil), _, (.same rfl .nil), ⟨false, rfl, h⟩⟩
 have h := h.2 (notF b4)
 refine wpA_skip ?_
 iterate 2 refine wpA_seq ?_
 refine wpA_region ?_
 refine wL (OpA.load_whole rfl ti25 rfl rfl (.tail (.tail .head)) rfl ⟨_, rfl⟩ ?_)
 refine wL (OpA.load_whole rfl ti28 rfl rfl (.tail .head) rfl ⟨_, rfl⟩ ?_)
 refine wL (OpA.load_whole rfl ti33 rfl rfl .head rfl ⟨_, rfl⟩ ?_)
 refine wL (OpA.call rfl rfl rfl en11 (lsmall_c c t a ) ?_)
 rintro _ rfl
 refine wL (OpA.not rfl rfl ?_)
 refine wpL_nil ?_
 refine wpA_cond rfl (fun b5 => ?_) (fun b5 => ?_)
 have h := h.1 (notT b5)
 refine wpA_seq ?_
 refine wpA_region ?_
 refine wL (OpA.a ?_)
 refine wpL_nil ?_
 refine wpA_ret ?_
 exact ⟨_, (.tmp (d := D.b true) rfl .nil), _, (.same rfl .nil), ⟨true, rfl, h⟩⟩
 have h := h.2 (notF b5)
 refine wpA_skip ?_
 refine wpA_seq ?_
 obtain ⟨q1, q2, q3, h⟩ := h
 refine wpA_region ?_
 refine wL (OpA.load_whole rfl ti25 rfl rfl (.tail (.tail .head)) rfl ⟨_, rfl⟩ ?_)
 refine wL (OpA.load_whole rfl ti28 rfl rfl (.tail .head) rfl ⟨_, rfl⟩ ?_)
 refine wL (OpA.load_whole rfl ti33 rfl rfl .head rfl ⟨_, rfl⟩ ?_)
 refine wL (OpA.m ?_)
 refine wL (OpA.call rfl rfl rfl en15 (tmain_c c t a percent q1 q2 q3) ?_)
 rintro _ rfl
 refine wL (OpA.m ?_)
 iterate 2 refine wL (OpA.extract rfl rfl rfl ?_)
 iterate 2 refine wL (OpA.a ?_)
 refine wpL_nil ?_
 refine wpA_seq ?_
 obtain ⟨q1, q2, q3, h⟩ := h
 refine wpA_region ?_
 refine wL (OpA.load_whole rfl ti25 rfl rfl (.tail (.tail .head)) rfl ⟨_, rfl⟩ ?_)
 refine wL (OpA.load_whole rfl ti28 rfl rfl (.tail .head) rfl ⟨_, rfl⟩ ?_)
 refine wL (OpA.load_whole rfl ti33 rfl rfl .head rfl ⟨_, rfl⟩ ?_)
 refine wL (OpA.m ?_)
 refine wL (OpA.call rfl rfl rfl en16 (rmain_c c t a percent q1 q2 q3) ?_)
 rintro _ rfl
 refine wL (OpA.m ?_)
 iterate 2 refine wL (OpA.extract rfl rfl rfl ?_)
 iterate 2 refine wL (OpA.a ?_)
 refine wpL_nil ?_
 refine wpA_seq ?_
 refine wpA_mid (asg [(8, D.b ((decide ((mainF c t a percent).1 = (mainF c t a percent).1)) && ((mainF c t a percent).2 == (mainF c t a percent).2)))]) [(c3, .cells 2 [encAttribution a]), (c2, .cells 2 [encText t]), (c1, .cells 4 [encCorpus c])] ?_ ?_
 refine wpA_region ?_
 iterate 2 refine wL (OpA.m ?_)
 refine wL (OpA.seql rfl rfl rfl ?_)
 refine wL (OpA.m ?_)
 refine wpL_split (s := 39) rfl (fun b6 => ?_) (fun b6 => ?_)
 iterate 2 refine wG (OpA.m ?_)
 refine wG (OpA.bcmp rfl td4 rfl rfl (.inl ⟨rfl, rfl⟩) ?_)
 refine wL (OpA.p ?_)
 refine wL (OpA.a ?_)
 refine wpL_nil ?_
 exact ⟨(Cov.asg ⟨(congrArg D.b (Eq.symm (andN b6 rfl))), trivial⟩), (.refl _)⟩
 iterate 3 refine wS ?_
 refine wL (OpA.p ?_)
 refine wL (OpA.a ?_)
 refine wpL_nil ?_
 exact ⟨(Cov.asg ⟨(congrArg D.b (Eq.symm (andS b6))), trivial⟩), (.refl _)⟩
 show wpA _ _ _ _ (asg [(8, D.b ((decide ((mainF c t a percent).1 = (mainF c t a percent).1)) && ((mainF c t a percent).2 == (mainF c t a percent).2)))]) [(c3, .cells 2 [encAttribution a]), (c2, .cells 2 [encText t]), (c1, .cells 4 [encCorpus c])]
 refine wpA_ret ?_
 exact ⟨_, (.tmp (d := D.b ((decide ((mainF c t a percent).1 = (mainF c t a percent).1)) && ((mainF c t a percent).2 == (mainF c t a percent).2))) rfl .nil), _, (.same rfl .nil), ⟨((decide ((mainF c t a percent).1 = (mainF c t a percent).1)) && ((mainF c t a percent).2 == (mainF c t a percent).2)), rfl, h⟩⟩
theorem lawMains_c (c : Corpus) (t : Text) (a : Attribution) (percent : Int)  : Fun false Tryz.prog 4 [encCorpus c, encText t, encAttribution a, D.i percent] (fun d => d = D.b (true)) :=
 Fun.at (enc := fun r => D.b r) (v := true) (lawMains_w c t a percent  (fun r => r = true) (lawMains_ok c t a percent _  rfl))
end Go.Proofs.YtaofnefejkokdaaGreatDoor
