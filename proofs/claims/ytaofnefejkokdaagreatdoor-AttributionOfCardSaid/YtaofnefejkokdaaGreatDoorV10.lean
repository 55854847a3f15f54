/-
  walks and contracts
-/
import Derived.Test.YtaofnefejkokdaaGreatDoorV9
set_option linter.all false
namespace Go.Proofs.YtaofnefejkokdaaGreatDoor
open Go Go.Lic Go.Sort Go.Proofs
attribute [local irreducible] addF addP attrF badR behindF betR betterP blankF checkA checkF cmpB cmpI cmpL codeF countF countL fewC fewTs fewW findT gramsF growTF has1F hasF hashF indexF insideF leastF lenF longAF mainF maxF mergeF mul64F mulP nameR newF ofF orF packF partF pathB pathF pieceOk postCmp postLt postsF powF printsF pushF rangedF rightA rightCT rollF sameF selectF shareF sizeF smallF spanCmp splitF splitG srcF srcR textF unknownF validF validT
set_option maxHeartbeats 2000000 in
set_option maxRecDepth 10000 in
theorem lawOf_w (c : Corpus) (t : Text) (least : Int) (Q : Bool → Prop) (h : lawOf_vc c t least Q) : Fun false Tryz.prog 3 [encCorpus c, encText t, D.i least] (fun d => ∃ r, d = D.b r ∧ Q r) := by
 unfold lawOf_vc at h
 refine Fun.of_body Tryz.func3 rfl Tryz.ntmps3 rfl ?_
 refine wpA_seq ?_
 refine wpA_region ?_
 refine wL (OpA.bx (sz := 4) rfl (by with_reducible conv => lhs; whnf) (.of rfl) (fun c1 _ => ?_))
 refine wL (OpA.bx (sz := 2) rfl (by with_reducible conv => lhs; whnf) (.of rfl) (fun c2 _ => ?_))
 refine wL (OpA.a ?_)
 refine wpL_nil ?_
 iterate 2 refine wpA_seq ?_
 refine wpA_region ?_
 refine wL (OpA.call rfl rfl rfl en10 (awake_c  ) ?_)
 rintro _ rfl
 refine wL (OpA.not rfl rfl ?_)
 refine wpL_nil ?_
 refine wpA_cond rfl (fun b3 => ?_) (fun b3 => ?_)
 have h := h.1 (notT b3)
 refine wpA_seq ?_
 refine wpA_region ?_
 refine wL (OpA.a ?_)
 refine wpL_nil ?_
 refine wpA_ret ?_
 exact ⟨_, (.tmp (d := D.b false) rfl .nil), _, (.same rfl .nil), ⟨false, rfl, h⟩⟩
 have h := h.2 (notF b3)
 refine wpA_skip ?_
 iterate 2 refine wpA_seq ?_
 refine wpA_region ?_
 refine wL (OpA.load_whole rfl ti25 rfl rfl (.tail .head) rfl ⟨_, rfl⟩ ?_)
 refine wL (OpA.load_whole rfl ti28 rfl rfl .head rfl ⟨_, rfl⟩ ?_)
 refine wL (OpA.buildO (zs := [.v (.string ⟨#[]⟩), .v (.slice none 0 0)]) rfl tp33 tz33 (fun _ _ => (.cons (.v _) (.cons (.v _) .nil))) .nil rfl ?_)
 refine wL (OpA.told (s := 15) (d := .agg ([D.s ByteArray.empty, .v (.slice none 0 0)])) (d' := encAttribution (Attribution.mk ByteArray.empty ([] : List Piece))) rfl (.agg (.same rfl (.nilv (sz := 4) .nil)) .nil) (OpA.call rfl rfl rfl en11 (lsmall_c c t (Attribution.mk ByteArray.empty ([] : List Piece)) ) ?_))
 rintro _ rfl
 refine wL (OpA.not rfl rfl ?_)
 refine wpL_nil ?_
 refine wpA_cond rfl (fun b4 => ?_) (fun b4 => ?_)
 have h := h.1 (notT b4)
 refine wpA_seq ?_
 refine wpA_region ?_
 refine wL (OpA.a ?_)
 refine wpL_nil ?_
 refine wpA_ret ?_
 exact ⟨_, (.tmp (d := D.b true) rfl .nil), _, (.same rfl .nil), ⟨true, rfl, h⟩⟩
 have h := h.2 (notF b4)
 refine wpA_skip ?_
 refine wpA_seq ?_
 obtain ⟨q1, q2, h⟩ := h
 refine wpA_region ?_
 refine wL (OpA.load_whole rfl ti25 rfl rfl (.tail .head) rfl ⟨_, rfl⟩ ?_)
 refine wL (OpA.load_whole rfl ti28 rfl rfl .head rfl ⟨_, rfl⟩ ?_)
 refine wL (OpA.m ?_)
 refine wL (OpA.call rfl rfl rfl en12 (tof_c c t least q1 q2) ?_)
 rintro _ rfl
 refine wL (OpA.m ?_)
 iterate 2 refine wL (OpA.extract rfl rfl rfl ?_)
 refine wL (OpA.alloc (sz := 2) (d := .agg ([D.s ByteArray.empty, .v (.slice none 0 0)])) rfl tz33 (fun _ _ => .agg (.cons (.v _) (.cons (.v _) .nil))) (.of rfl) (fun c5 _ => ?_))
 refine wE (OpA.storeW rfl ti33 rfl (by with_reducible conv => lhs; whnf) (.of rfl) rfl rfl .head ?_)
 refine wL (OpA.a ?_)
 refine wpL_nil ?_
 refine wpA_seq ?_
 obtain ⟨q1, q2, h⟩ := h
 refine wpA_region ?_
 refine wL (OpA.load_whole rfl ti25 rfl rfl (.tail (.tail .head)) rfl ⟨_, rfl⟩ ?_)
 refine wL (OpA.load_whole rfl ti28 rfl rfl (.tail .head) rfl ⟨_, rfl⟩ ?_)
 refine wL (OpA.m ?_)
 refine wL (OpA.call rfl rfl rfl en13 (rof_c c t least q1 q2) ?_)
 rintro _ rfl
 refine wL (OpA.m ?_)
 iterate 2 refine wL (OpA.extract rfl rfl rfl ?_)
 refine wL (OpA.alloc (sz := 2) (d := .agg ([D.s ByteArray.empty, .v (.slice none 0 0)])) rfl tz33 (fun _ _ => .agg (.cons (.v _) (.cons (.v _) .nil))) (.of rfl) (fun c6 _ => ?_))
 refine wE (OpA.storeW rfl ti33 rfl (by with_reducible conv => lhs; whnf) (.of rfl) rfl rfl .head ?_)
 refine wL (OpA.a ?_)
 refine wpL_nil ?_
 refine wpA_seq ?_
 obtain ⟨q1, h⟩ := h
 refine wpA_mid (asg [(6, D.b ((((attrF c t least).2) == ((attrF c t least).2)) && (decide (((attrF c t least).1) = ((attrF c t least).1)))))]) [(c6, .cells 2 [encAttribution ((attrF c t least).1)]), (c5, .cells 2 [encAttribution ((attrF c t least).1)]), (c2, .cells 2 [encText t]), (c1, .cells 4 [encCorpus c])] ?_ ?_
 refine wpA_region ?_
 iterate 2 refine wL (OpA.m ?_)
 refine wL (OpA.eql rfl rfl rfl ?_)
 refine wL (OpA.m ?_)
 refine wpL_split (s := 35) rfl (fun b7 => ?_) (fun b7 => ?_)
 refine wG (OpA.load_whole rfl ti33 rfl rfl (.tail .head) rfl ⟨_, rfl⟩ ?_)
 refine wG (OpA.load_whole rfl ti33 rfl rfl .head rfl ⟨_, rfl⟩ ?_)
 refine wG (OpA.call rfl rfl rfl en14 (rsame_c ((attrF c t least).1) ((attrF c t least).1) (q1 (beqT b7))) ?_)
 rintro _ rfl
 refine wL (OpA.p ?_)
 refine wL (OpA.a ?_)
 refine wpL_nil ?_
 exact ⟨(Cov.asg ⟨(congrArg D.b (Eq.symm (andN b7 rfl))), trivial⟩), (.refl _)⟩
 iterate 3 refine wS ?_
 refine wL (OpA.p ?_)
 refine wL (OpA.a ?_)
 refine wpL_nil ?_
 exact ⟨(Cov.asg ⟨(congrArg D.b (Eq.symm (andS b7))), trivial⟩), (.refl _)⟩
 show wpA _ _ _ _ (asg [(6, D.b ((((attrF c t least).2) == ((attrF c t least).2)) && (decide (((attrF c t least).1) = ((attrF c t least).1)))))]) [(c6, .cells 2 [encAttribution ((attrF c t least).1)]), (c5, .cells 2 [encAttribution ((attrF c t least).1)]), (c2, .cells 2 [encText t]), (c1, .cells 4 [encCorpus c])]
 refine wpA_ret ?_
 exact ⟨_, (.tmp (d := D.b ((((attrF c t least).2) == ((attrF c t least).2)) && (decide (((attrF c t least).1) = ((attrF c t least).1))))) rfl .nil), _, (.same rfl .nil), ⟨((((attrF c t least).2) == ((attrF c t least).2)) && (decide (((attrF c t least).1) = ((attrF c t least).1)))), rfl, h⟩⟩
theorem lawOf_c (c : Corpus) (t : Text) (least : Int)  : Fun false Tryz.prog 3 [encCorpus c, encText t, D.i least] (fun d => d = D.b (true)) :=
 Fun.at (enc := fun r => D.b r) (v := true) (lawOf_w c t least  (fun r => r = true) (lawOf_ok c t least _  rfl))
end Go.Proofs.YtaofnefejkokdaaGreatDoor
