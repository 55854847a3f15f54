/-
  walks and contracts
-/
import Derived.Test.YtaofnefejkokdaaGreatDoorV9
set_option linter.all false
namespace Go.Proofs.YtaofnefejkokdaaGreatDoor
open Go Go.Lic Go.Sort Go.Proofs
attribute [local irreducible] addF addP attrF badR behindF betR betterP blankF checkA checkF cmpB cmpI cmpL codeF countF countL fewC fewTs fewW findT gramsF growTF has1F hasF hashF indexF insideF leastF lenF longAF mainF maxF mergeF mul64F mulP nameR newF ofF orF packF partF pathB pathF pieceOk postCmp postLt postsF powF printsF pushF rangedF rightA rightCT rollF sameF selectF shareF sizeF smallF spanCmp splitF splitG srcF srcR textF unknownF validF validT



abbrev lawBest_e0 (c : Corpus) (t : Text) (least : Int) (other : Attribution) := ((decide ((coverF ((attrF c t least).1).pieces) > (coverF other.pieces))) || (((coverF ((attrF c t least).1).pieces) == (coverF other.pieces)) && (decide (((((attrF c t least).1).pieces).length : Int) ≤ (other.pieces.length : Int)))))
set_option maxHeartbeats 2000000 in
set_option maxRecDepth 10000 in
theorem lawBest_w (c : Corpus) (t : Text) (least : Int) (other : Attribution)  (Q : Bool → Prop) (h : lawBest_vc c t least other Q) : Fun false Tryz.prog 5 [encCorpus c, encText t, D.i least, encAttribution other] (fun d => ∃ r, d = D.b r ∧ Q r) := by
  unfold lawBest_vc at h
  refine Fun.of_body Tryz.func5 rfl Tryz.ntmps5 rfl ?_
  refine wpA_seq ?_
  refine wpA_region ?_
  refine wL (OpA.bx (sz := 4) rfl (by with_reducible conv => lhs; whnf) (.of rfl) (fun c1 _ => ?_))
  refine wL (OpA.bx (sz := 2) rfl (by with_reducible conv => lhs; whnf) (.of rfl) (fun c2 _ => ?_))
  refine wL (OpA.bx (sz := 2) rfl (by with_reducible conv => lhs; whnf) (.of rfl) (fun c3 _ => ?_))
  refine wL (OpA.a ?_)
  refine wpL_nil ?_
  iterate 2 refine wpA_seq ?_
  refine wpA_region ?_
  refine wL (OpA.call rfl rfl rfl en10 (awake_c  ) ?_)
  rintro _ rfl
  refine wL (OpA.not rfl rfl ?_)
  refine wpL_nil ?_
  refine wpA_cond rfl (fun b4 => ?_) (fun b4 => ?_)
  have h := h.1 (notT b4)
  refine wpA_seq ?_
  refine wpA_region ?_
  refine wL (OpA.a ?_)
  refine wpL_nil ?_
  refine wpA_ret ?_
  exact ⟨_, (.tmp (d := D.b false) rfl .nil), _, (.same rfl .nil), ⟨false, rfl, h⟩⟩
  have h := h.2 (notF b4)
  refine wpA_skip ?_
  iterate 2 refine wpA_seq ?_
  refine wpA_region ?_
  refine wL (OpA.load_whole rfl ti25 rfl rfl (.tail (.tail .head)) rfl ⟨_, rfl⟩ ?_)
  refine wL (OpA.load_whole rfl ti28 rfl rfl (.tail .head) rfl ⟨_, rfl⟩ ?_)
  refine wL (OpA.load_whole rfl ti33 rfl rfl .head rfl ⟨_, rfl⟩ ?_)
  refine wL (OpA.call rfl rfl rfl en11 (lsmall_c c t other ) ?_)
  rintro _ rfl
  refine wL (OpA.not rfl rfl ?_)
  refine wpL_nil ?_
  refine wpA_cond rfl (fun b5 => ?_) (fun b5 => ?_)
  have h := h.1 (notT b5)
  refine wpA_seq ?_
  refine wpA_region ?_
  refine wL (OpA.a ?_)
  refine wpL_nil ?_
  refine wpA_ret ?_
  exact ⟨_, (.tmp (d := D.b true) rfl .nil), _, (.same rfl .nil), ⟨true, rfl, h⟩⟩
  have h := h.2 (notF b5)
  refine wpA_skip ?_
  refine wpA_seq ?_
  obtain ⟨q1, q2, h⟩ := h
  refine wpA_region ?_
  refine wL (OpA.load_whole rfl ti25 rfl rfl (.tail (.tail .head)) rfl ⟨_, rfl⟩ ?_)
  refine wL (OpA.load_whole rfl ti28 rfl rfl (.tail .head) rfl ⟨_, rfl⟩ ?_)
  refine wL (OpA.m ?_)
  refine wL (OpA.call rfl rfl rfl en12 (tof_c c t least q1 q2) ?_)
  rintro _ rfl
  refine wL (OpA.m ?_)
  iterate 2 refine wL (OpA.extract rfl rfl rfl ?_)
  refine wL (OpA.alloc (sz := 2) (d := .agg ([D.s ByteArray.empty, .v (.slice none 0 0)])) rfl tz33 (fun _ _ => .agg (.cons (.v _) (.cons (.v _) .nil))) (.of rfl) (fun c6 _ => ?_))
  refine wE (OpA.storeW rfl ti33 rfl (by with_reducible conv => lhs; whnf) (.of rfl) rfl rfl .head ?_)
  refine wL (OpA.a ?_)
  refine wpL_nil ?_
  iterate 2 refine wpA_seq ?_
  refine wpA_region ?_
  refine wL (OpA.m ?_)
  refine wL (OpA.neq rfl rfl rfl ?_)
  refine wpL_nil ?_
  refine wpA_cond rfl (fun b7 => ?_) (fun b7 => ?_)
  have h := h.1 (bneT b7)
  refine wpA_seq ?_
  obtain ⟨q1, h⟩ := h
  refine wpA_mid (asg [(2, D.i least), (4, .ptr c1 4 0 0), (5, .ptr c2 2 0 0), (7, .ptr c3 2 0 0), (8, D.b ((((((attrF c t least).1).pieces).length : Int) == 0) && ((checkA c t least other) == ((attrF c t least).2)))), (9, .ptr c6 2 0 0)]) [(c6, .cells 2 [encAttribution ((attrF c t least).1)]), (c3, .cells 2 [encAttribution other]), (c2, .cells 2 [encText t]), (c1, .cells 4 [encCorpus c])] ?_ ?_
  refine wpA_region ?_
  refine wL (OpA.fieldAddr rfl tf33_1 rfl ?_)
  refine wL (OpA.load rfl ti31 rfl .head rfl rfl ?_)
  refine wL (OpA.len rfl rfl rfl rfl ts31.desc (.inl ⟨_, _, rfl, (List.length_map _).symm⟩) ?_)
  refine wL (OpA.eql rfl rfl rfl ?_)
  refine wL (OpA.m ?_)
  refine wpL_split (s := 33) rfl (fun b8 => ?_) (fun b8 => ?_)
  refine wG (OpA.load_whole rfl ti25 rfl rfl (.tail (.tail (.tail .head))) rfl ⟨_, rfl⟩ ?_)
  refine wG (OpA.load_whole rfl ti28 rfl rfl (.tail (.tail .head)) rfl ⟨_, rfl⟩ ?_)
  refine wG (OpA.m ?_)
  refine wG (OpA.load_whole rfl ti33 rfl rfl (.tail .head) rfl ⟨_, rfl⟩ ?_)
  refine wG (OpA.call rfl rfl rfl en17 (tcheck_c c t least other (q1 (beqT b8)).1 (q1 (beqT b8)).2.1 (q1 (beqT b8)).2.2) ?_)
  rintro _ rfl
  refine wG (OpA.m ?_)
  refine wG (OpA.eql rfl rfl rfl ?_)
  refine wL (OpA.p ?_)
  refine wL (OpA.a ?_)
  refine wpL_nil ?_
  exact ⟨(Cov.asg ⟨rfl, rfl, rfl, rfl, (congrArg D.b (Eq.symm (andN b8 rfl))), rfl, trivial⟩), (.refl _)⟩
  iterate 7 refine wS ?_
  refine wL (OpA.p ?_)
  refine wL (OpA.a ?_)
  refine wpL_nil ?_
  exact ⟨(Cov.asg ⟨rfl, rfl, rfl, rfl, (congrArg D.b (Eq.symm (andS b8))), rfl, trivial⟩), (.refl _)⟩
  show wpA _ _ _ _ (asg [(2, D.i least), (4, .ptr c1 4 0 0), (5, .ptr c2 2 0 0), (7, .ptr c3 2 0 0), (8, D.b ((((((attrF c t least).1).pieces).length : Int) == 0) && ((checkA c t least other) == ((attrF c t least).2)))), (9, .ptr c6 2 0 0)]) [(c6, .cells 2 [encAttribution ((attrF c t least).1)]), (c3, .cells 2 [encAttribution other]), (c2, .cells 2 [encText t]), (c1, .cells 4 [encCorpus c])]
  refine wpA_ret ?_
  exact ⟨_, (.tmp (d := D.b ((((((attrF c t least).1).pieces).length : Int) == 0) && ((checkA c t least other) == ((attrF c t least).2)))) rfl .nil), _, (.same rfl .nil), ⟨((((((attrF c t least).1).pieces).length : Int) == 0) && ((checkA c t least other) == ((attrF c t least).2))), rfl, h⟩⟩
  have h := h.2 (bneF b7)
  refine wpA_skip ?_
  iterate 2 refine wpA_seq ?_
  obtain ⟨q1, q2, q3, h⟩ := h
  refine wpA_region ?_
  refine wL (OpA.load_whole rfl ti25 rfl rfl (.tail (.tail (.tail .head))) rfl ⟨_, rfl⟩ ?_)
  refine wL (OpA.load_whole rfl ti28 rfl rfl (.tail (.tail .head)) rfl ⟨_, rfl⟩ ?_)
  refine wL (OpA.m ?_)
  refine wL (OpA.load_whole rfl ti33 rfl rfl .head rfl ⟨_, rfl⟩ ?_)
  refine wL (OpA.call rfl rfl rfl en17 (tcheck_c c t least ((attrF c t least).1) q1 q2 q3) ?_)
  rintro _ rfl
  refine wL (OpA.neq rfl rfl rfl ?_)
  refine wpL_nil ?_
  refine wpA_cond rfl (fun b9 => ?_) (fun b9 => ?_)
  have h := h.1 (bneT b9)
  refine wpA_seq ?_
  refine wpA_region ?_
  refine wL (OpA.a ?_)
  refine wpL_nil ?_
  refine wpA_ret ?_
  exact ⟨_, (.tmp (d := D.b false) rfl .nil), _, (.same rfl .nil), ⟨false, rfl, h⟩⟩
  have h := h.2 (bneF b9)
  refine wpA_skip ?_
  iterate 2 refine wpA_seq ?_
  obtain ⟨q1, q2, q3, h⟩ := h
  refine wpA_region ?_
  refine wL (OpA.load_whole rfl ti25 rfl rfl (.tail (.tail (.tail .head))) rfl ⟨_, rfl⟩ ?_)
  refine wL (OpA.load_whole rfl ti28 rfl rfl (.tail (.tail .head)) rfl ⟨_, rfl⟩ ?_)
  refine wL (OpA.m ?_)
  refine wL (OpA.load_whole rfl ti33 rfl rfl (.tail .head) rfl ⟨_, rfl⟩ ?_)
  refine wL (OpA.call rfl rfl rfl en17 (tcheck_c c t least other q1 q2 q3) ?_)
  rintro _ rfl
  refine wL (OpA.neq rfl rfl rfl ?_)
  refine wpL_nil ?_
  refine wpA_cond rfl (fun b10 => ?_) (fun b10 => ?_)
  have h := h.1 (bneT b10)
  refine wpA_seq ?_
  refine wpA_region ?_
  refine wL (OpA.a ?_)
  refine wpL_nil ?_
  refine wpA_ret ?_
  exact ⟨_, (.tmp (d := D.b true) rfl .nil), _, (.same rfl .nil), ⟨true, rfl, h⟩⟩
  have h := h.2 (bneF b10)
  refine wpA_skip ?_
  refine wpA_seq ?_
  obtain ⟨q1, q2, h⟩ := h
  refine wpA_draw (m := 6) mo (by kernel_rfl) rfl ?_
  refine dL (OpA.load_whole rfl ti33 rfl rfl .head rfl ⟨_, rfl⟩ ⟨rfl, rfl⟩) ?_
  refine dL (OpA.call rfl rfl rfl en18 (lcover_c ((attrF c t least).1) q1) (by rintro _ rfl; exact ⟨rfl, rfl⟩)) ?_
  refine dL (OpA.load_whole rfl ti33 rfl rfl (.tail .head) rfl ⟨_, rfl⟩ ⟨rfl, rfl⟩) ?_
  refine dL (OpA.call rfl rfl rfl en18 (lcover_c other q2) (by rintro _ rfl; exact ⟨rfl, rfl⟩)) ?_
  iterate 2 refine dL (OpA.a ⟨rfl, rfl⟩) ?_
  refine DetK.nil ?_
  refine wpL_nil ?_
  refine wpA_seq ?_
  refine wpA_mid (asg [(8, D.b (lawBest_e0 c t least other))]) [(c6, .cells 2 [encAttribution ((attrF c t least).1)]), (c3, .cells 2 [encAttribution other]), (c2, .cells 2 [encText t]), (c1, .cells 4 [encCorpus c])] ?_ ?_
  refine wpA_region ?_
  iterate 2 refine wL (OpA.m ?_)
  refine wL (OpA.gtr rfl rfl rfl ?_)
  refine wL (OpA.m ?_)
  refine wpL_split (s := 61) rfl (fun b11 => ?_) (fun b11 => ?_)
  iterate 4 refine wS ?_
  iterate 7 refine wpL_skipU rfl rfl rfl rfl rfl ?_
  refine wS ?_
  refine wL (OpA.p ?_)
  refine wL (OpA.a ?_)
  refine wpL_nil ?_
  exact ⟨(Cov.asg ⟨(congrArg D.b (Eq.symm (orS b11))), trivial⟩), (.refl _)⟩
  iterate 2 refine wG (OpA.m ?_)
  refine wG (OpA.eql rfl rfl rfl ?_)
  refine wG (OpA.m ?_)
  refine wpL_split (s := 65) rfl (fun b12 => ?_) (fun b12 => ?_)
  refine wG (OpA.fieldAddr rfl tf33_1 rfl ?_)
  refine wG (OpA.load rfl ti31 rfl .head rfl rfl ?_)
  refine wG (OpA.len rfl rfl rfl rfl ts31.desc (.inl ⟨_, _, rfl, (List.length_map _).symm⟩) ?_)
  refine wG (OpA.fieldAddr rfl tf33_1 rfl ?_)
  refine wG (OpA.load rfl ti31 rfl (.tail .head) rfl rfl ?_)
  refine wG (OpA.len rfl rfl rfl rfl ts31.desc (.inl ⟨_, _, rfl, (List.length_map _).symm⟩) ?_)
  refine wG (OpA.leq rfl rfl rfl ?_)
  refine wG (OpA.p ?_)
  refine wL (OpA.p ?_)
  refine wL (OpA.a ?_)
  refine wpL_nil ?_
  exact ⟨(Cov.asg ⟨(congrArg D.b (Eq.symm (orN b11 (andN b12 rfl)))), trivial⟩), (.refl _)⟩
  iterate 7 refine wS ?_
  refine wG (OpA.p ?_)
  refine wL (OpA.p ?_)
  refine wL (OpA.a ?_)
  refine wpL_nil ?_
  exact ⟨(Cov.asg ⟨(congrArg D.b (Eq.symm (orN b11 (andS b12)))), trivial⟩), (.refl _)⟩
  show wpA _ _ _ _ (asg [(8, D.b (lawBest_e0 c t least other))]) [(c6, .cells 2 [encAttribution ((attrF c t least).1)]), (c3, .cells 2 [encAttribution other]), (c2, .cells 2 [encText t]), (c1, .cells 4 [encCorpus c])]
  refine wpA_ret ?_
  exact ⟨_, (.tmp (d := D.b (lawBest_e0 c t least other)) rfl .nil), _, (.same rfl .nil), ⟨(lawBest_e0 c t least other), rfl, h⟩⟩
theorem lawBest_c (c : Corpus) (t : Text) (least : Int) (other : Attribution)   : Fun false Tryz.prog 5 [encCorpus c, encText t, D.i least, encAttribution other] (fun d => d = D.b (true)) :=
  Fun.at (enc := fun r => D.b r) (v := true) (lawBest_w c t least other  (fun r => r = true) (lawBest_ok c t least other _  rfl))
end Go.Proofs.YtaofnefejkokdaaGreatDoor
