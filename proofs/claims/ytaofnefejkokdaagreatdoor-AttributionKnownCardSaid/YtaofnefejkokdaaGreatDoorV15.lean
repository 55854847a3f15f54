/-
  walks and contracts
-/
import Derived.Test.YtaofnefejkokdaaGreatDoorV9
set_option linter.all false
namespace Go.Proofs.YtaofnefejkokdaaGreatDoor
open Go Go.Lic Go.Sort Go.Proofs
attribute [local irreducible] addF addP attrF badR behindF betR betterP blankF checkA checkF cmpB cmpI cmpL codeF countF countL fewC fewTs fewW findT gramsF growTF has1F hasF hashF indexF insideF leastF lenF longAF mainF maxF mergeF mul64F mulP nameR newF ofF orF packF partF pathB pathF pieceOk postCmp postLt postsF powF printsF pushF rangedF rightA rightCT rollF sameF selectF shareF sizeF smallF spanCmp splitF splitG srcF srcR textF unknownF validF validT



abbrev lawKnown_e0 (c : Corpus) (which : Int) := (gi c.texts ((IntKind.i64.wrap which) % (c.texts.length : Int)))
abbrev lawKnown_e1 (c : Corpus) (which : Int) := ((((((unknownF (lawKnown_e0 c which) ((attrF c (lawKnown_e0 c which) 1).1)).2) == 0) && ((((unknownF (lawKnown_e0 c which) ((attrF c (lawKnown_e0 c which) 1).1)).1).length : Int) == 0)) && (mainF c (lawKnown_e0 c which) ((attrF c (lawKnown_e0 c which) 1).1) 100).2) && (decide ((mainF c (lawKnown_e0 c which) ((attrF c (lawKnown_e0 c which) 1).1) 100).1 = (gi c.texts ((gi (((attrF c (lawKnown_e0 c which) 1).1).pieces) 0).text)).path)))
set_option maxHeartbeats 2000000 in
set_option maxRecDepth 10000 in
theorem lawKnown_w (c : Corpus) (which : Int)  (Q : Bool → Prop) (h : lawKnown_vc c which Q) : Fun false Tryz.prog 8 [encCorpus c, (D.k .u8) which] (fun d => ∃ r, d = D.b r ∧ Q r) := by
  unfold lawKnown_vc at h
  refine Fun.of_body Tryz.func8 rfl Tryz.ntmps8 rfl ?_
  refine wpA_seq ?_
  refine wpA_region ?_
  refine wL (OpA.bx (sz := 4) rfl (by with_reducible conv => lhs; whnf) (.of rfl) (fun c1 _ => ?_))
  refine wL (OpA.a ?_)
  refine wpL_nil ?_
  iterate 2 refine wpA_seq ?_
  refine wpA_region ?_
  refine wL (OpA.call rfl rfl rfl en10 (awake_c  ) ?_)
  rintro _ rfl
  refine wL (OpA.not rfl rfl ?_)
  refine wpL_nil ?_
  refine wpA_cond rfl (fun b2 => ?_) (fun b2 => ?_)
  have h := h.1 (notT b2)
  refine wpA_seq ?_
  refine wpA_region ?_
  refine wL (OpA.a ?_)
  refine wpL_nil ?_
  refine wpA_ret ?_
  exact ⟨_, (.tmp (d := D.b false) rfl .nil), _, (.same rfl .nil), ⟨false, rfl, h⟩⟩
  have h := h.2 (notF b2)
  refine wpA_skip ?_
  iterate 2 refine wpA_seq ?_
  obtain ⟨q1, h⟩ := h
  refine wpA_mid (asg [(1, (D.k .u8) which), (2, .ptr c1 4 0 0), (4, D.b false), (28, D.b (((!(fewC c)) || ((checkF c) != 0)) || ((c.texts.length : Int) == 0)))]) [(c1, .cells 4 [encCorpus c])] ?_ ?_
  refine wpA_region ?_
  refine wL (OpA.load_whole rfl ti25 rfl rfl .head rfl ⟨_, rfl⟩ ?_)
  refine wL (OpA.call rfl rfl rfl en19 (c26few_c c ) ?_)
  rintro _ rfl
  refine wL (OpA.not rfl rfl ?_)
  refine wL (OpA.m ?_)
  refine wpL_split (s := 18) rfl (fun b16 => ?_) (fun b16 => ?_)
  iterate 3 refine wS ?_
  refine wL (OpA.p ?_)
  refine wL (OpA.m ?_)
  iterate 4 refine wS ?_
  refine wL (OpA.p ?_)
  refine wpL_nil ?_
  exact ⟨(Cov.asg ⟨rfl, rfl, rfl, (congrArg D.b (Eq.symm (orS (orS b16)))), trivial⟩), (.refl _)⟩
  refine wG (OpA.load_whole rfl ti25 rfl rfl .head rfl ⟨_, rfl⟩ ?_)
  refine wG (OpA.call rfl rfl rfl en20 (ccheck_c c (q1 (notF b16))) ?_)
  rintro _ rfl
  refine wG (OpA.neq rfl rfl rfl ?_)
  refine wL (OpA.p ?_)
  refine wL (OpA.m ?_)
  refine wpL_split (s := 23) rfl (fun b17 => ?_) (fun b17 => ?_)
  iterate 4 refine wS ?_
  refine wL (OpA.p ?_)
  refine wpL_nil ?_
  exact ⟨(Cov.asg ⟨rfl, rfl, rfl, (congrArg D.b (Eq.symm (orS (orN b16 b17)))), trivial⟩), (.refl _)⟩
  refine wG (OpA.fieldAddr rfl tf25_2 rfl ?_)
  refine wG (OpA.load rfl ti22 rfl .head rfl rfl ?_)
  refine wG (OpA.len rfl rfl rfl rfl ts22.desc (.inl ⟨_, _, rfl, (List.length_map _).symm⟩) ?_)
  refine wG (OpA.eql rfl rfl rfl ?_)
  refine wL (OpA.p ?_)
  refine wpL_nil ?_
  exact ⟨(Cov.asg ⟨rfl, rfl, rfl, (congrArg D.b (Eq.symm (orN (orN b16 b17) rfl))), trivial⟩), (.refl _)⟩
  show wpA _ _ _ _ (asg [(1, (D.k .u8) which), (2, .ptr c1 4 0 0), (4, D.b false), (28, D.b (((!(fewC c)) || ((checkF c) != 0)) || ((c.texts.length : Int) == 0)))]) [(c1, .cells 4 [encCorpus c])]
  refine wpA_cond rfl (fun b3 => ?_) (fun b3 => ?_)
  have h := h.1 ((or0 b3).imp (fun hh => ((or0 hh).imp (fun hh => (notT hh)) (fun hh => (bneT hh)))) (fun hh => (beqT hh)))
  refine wpA_seq ?_
  refine wpA_region ?_
  refine wL (OpA.a ?_)
  refine wpL_nil ?_
  refine wpA_ret ?_
  exact ⟨_, (.tmp (d := D.b true) rfl .nil), _, (.same rfl .nil), ⟨true, rfl, h⟩⟩
  have h := h.2 ⟨⟨(notF (or1 (or1 b3))), (bneF (or2 (or1 b3)))⟩, (beqF (or2 b3))⟩
  refine wpA_skip ?_
  refine wpA_seq ?_
  obtain ⟨q1, h⟩ := h
  refine wpA_region ?_
  refine wL (OpA.m ?_)
  refine wL (OpA.conv rfl td5 td3 rfl ?_)
  refine wL (OpA.fieldAddr rfl tf25_2 rfl ?_)
  refine wL (OpA.load rfl ti22 rfl .head rfl rfl ?_)
  refine wL (OpA.len rfl rfl rfl rfl ts22.desc (.inl ⟨_, _, rfl, (List.length_map _).symm⟩) ?_)
  refine wL (OpA.remN rfl rfl rfl q1 ?_)
  refine wL (OpA.a ?_)
  refine wpL_nil ?_
  refine wpA_seq ?_
  obtain ⟨q1, h⟩ := h
  refine wpA_region ?_
  refine wL (OpA.fieldAddr rfl tf25_2 rfl ?_)
  refine wL (OpA.load rfl ti22 rfl .head rfl rfl ?_)
  refine wL (OpA.m ?_)
  refine wL (OpA.iixV (enc := encText) rfl ts22 rfl rfl rfl q1 ?_)
  refine wL (OpA.iload_whole rfl ti28 rfl ⟨_, rfl, rfl⟩ ?_)
  refine wL (OpA.alloc (sz := 2) (d := .agg ([D.s ByteArray.empty, .v (.slice none 0 0)])) rfl tz28 (fun _ _ => .agg (.cons (.v _) (.cons (.v _) .nil))) (.of rfl) (fun c4 _ => ?_))
  refine wE (OpA.storeW rfl ti28 rfl (by with_reducible conv => lhs; whnf) (.of rfl) rfl rfl .head ?_)
  refine wpL_nil ?_
  iterate 2 refine wpA_seq ?_
  refine wpA_region ?_
  refine wL (OpA.fieldAddr rfl tf28_1 rfl ?_)
  refine wL (OpA.load rfl ti26 rfl .head rfl rfl ?_)
  refine wL (OpA.len rfl rfl rfl rfl ts26.desc (.inl ⟨_, _, rfl, (List.length_map _).symm⟩) ?_)
  refine wL (OpA.eql rfl rfl rfl ?_)
  refine wpL_nil ?_
  refine wpA_cond rfl (fun b5 => ?_) (fun b5 => ?_)
  have h := h.1 (beqT b5)
  refine wpA_seq ?_
  refine wpA_region ?_
  refine wL (OpA.a ?_)
  refine wpL_nil ?_
  refine wpA_ret ?_
  exact ⟨_, (.tmp (d := D.b true) rfl .nil), _, (.same rfl .nil), ⟨true, rfl, h⟩⟩
  have h := h.2 (beqF b5)
  refine wpA_skip ?_
  refine wpA_seq ?_
  obtain ⟨q1, q2, h⟩ := h
  refine wpA_region ?_
  refine wL (OpA.load_whole rfl ti25 rfl rfl (.tail .head) rfl ⟨_, rfl⟩ ?_)
  refine wL (OpA.load_whole rfl ti28 rfl rfl .head rfl ⟨_, rfl⟩ ?_)
  refine wL (OpA.call rfl rfl rfl en12 (tof_c c (lawKnown_e0 c which) 1 q1 q2) ?_)
  rintro _ rfl
  refine wL (OpA.m ?_)
  iterate 2 refine wL (OpA.extract rfl rfl rfl ?_)
  refine wL (OpA.alloc (sz := 2) (d := .agg ([D.s ByteArray.empty, .v (.slice none 0 0)])) rfl tz33 (fun _ _ => .agg (.cons (.v _) (.cons (.v _) .nil))) (.of rfl) (fun c6 _ => ?_))
  refine wE (OpA.storeW rfl ti33 rfl (by with_reducible conv => lhs; whnf) (.of rfl) rfl rfl .head ?_)
  refine wL (OpA.a ?_)
  refine wpL_nil ?_
  iterate 2 refine wpA_seq ?_
  obtain ⟨q1, q2, q3, q4, h⟩ := h
  refine wpA_mid (asg [(2, .ptr c1 4 0 0), (4, D.b false), (6, .ptr c4 2 0 0), (7, .ptr c6 2 0 0), (93, D.b ((((((((attrF c (lawKnown_e0 c which) 1).2) != 0) || (((((attrF c (lawKnown_e0 c which) 1).1).pieces).length : Int) != 1)) || (((gi (((attrF c (lawKnown_e0 c which) 1).1).pieces) 0).from_) != 0)) || (((gi (((attrF c (lawKnown_e0 c which) 1).1).pieces) 0).to) != (((lawKnown_e0 c which).words).length : Int))) || (decide ((gi (((attrF c (lawKnown_e0 c which) 1).1).pieces) 0).text < 0))) || (decide ((gi (((attrF c (lawKnown_e0 c which) 1).1).pieces) 0).text > ((IntKind.i64.wrap which) % (c.texts.length : Int))))))]) [(c6, .cells 2 [encAttribution ((attrF c (lawKnown_e0 c which) 1).1)]), (c4, .cells 2 [encText (lawKnown_e0 c which)]), (c1, .cells 4 [encCorpus c])] ?_ ?_
  refine wpA_draw (m := 44) mo (by kernel_rfl) rfl ?_
  refine dL (OpA.m ⟨rfl, rfl⟩) ?_
  refine dL (OpA.neq rfl rfl rfl ⟨rfl, rfl⟩) ?_
  refine dL (OpA.m ⟨rfl, rfl⟩) ?_
  refine DetK_split (s := 52) rfl (fun b11 => ?_) (fun b11 => ?_)
  iterate 4 refine dS ?_
  refine dL (OpA.p ⟨rfl, rfl⟩) ?_
  refine dL (OpA.m ⟨rfl, rfl⟩) ?_
  iterate 6 refine dS ?_
  refine dL (OpA.p ⟨rfl, rfl⟩) ?_
  refine dL (OpA.m ⟨rfl, rfl⟩) ?_
  iterate 9 refine dS ?_
  refine dL (OpA.p ⟨rfl, rfl⟩) ?_
  refine dL (OpA.m ⟨rfl, rfl⟩) ?_
  iterate 6 refine dS ?_
  refine dL (OpA.p ⟨rfl, rfl⟩) ?_
  refine dL (OpA.m ⟨rfl, rfl⟩) ?_
  iterate 7 refine dS ?_
  refine dL (OpA.p ⟨rfl, rfl⟩) ?_
  refine DetK.nil ?_
  refine wpL_nil ?_
  exact ⟨(Cov.asg ⟨rfl, rfl, rfl, rfl, (congrArg D.b (Eq.symm (orS (orS (orS (orS (orS b11))))))), trivial⟩), (.refl _)⟩
  refine dG (OpA.fieldAddr rfl tf33_1 rfl ⟨rfl, rfl⟩) ?_
  refine dG (OpA.load rfl ti31 rfl .head rfl rfl ⟨rfl, rfl⟩) ?_
  refine dG (OpA.len rfl rfl rfl rfl ts31.desc (.inl ⟨_, _, rfl, (List.length_map _).symm⟩) ⟨rfl, rfl⟩) ?_
  refine dG (OpA.neq rfl rfl rfl ⟨rfl, rfl⟩) ?_
  refine dL (OpA.p ⟨rfl, rfl⟩) ?_
  refine dL (OpA.m ⟨rfl, rfl⟩) ?_
  refine DetK_split (s := 58) rfl (fun b12 => ?_) (fun b12 => ?_)
  iterate 6 refine dS ?_
  refine dL (OpA.p ⟨rfl, rfl⟩) ?_
  refine dL (OpA.m ⟨rfl, rfl⟩) ?_
  iterate 9 refine dS ?_
  refine dL (OpA.p ⟨rfl, rfl⟩) ?_
  refine dL (OpA.m ⟨rfl, rfl⟩) ?_
  iterate 6 refine dS ?_
  refine dL (OpA.p ⟨rfl, rfl⟩) ?_
  refine dL (OpA.m ⟨rfl, rfl⟩) ?_
  iterate 7 refine dS ?_
  refine dL (OpA.p ⟨rfl, rfl⟩) ?_
  refine DetK.nil ?_
  refine wpL_nil ?_
  exact ⟨(Cov.asg ⟨rfl, rfl, rfl, rfl, (congrArg D.b (Eq.symm (orS (orS (orS (orS (orN b11 b12))))))), trivial⟩), (.refl _)⟩
  refine dG (OpA.fieldAddr rfl tf33_1 rfl ⟨rfl, rfl⟩) ?_
  refine dG (OpA.load rfl ti31 rfl .head rfl rfl ⟨rfl, rfl⟩) ?_
  refine dG (OpA.iixV (enc := encPiece) rfl ts31 rfl rfl rfl (q1 ⟨(bneF b11), (bneF b12)⟩) ⟨rfl, rfl⟩) ?_
  refine dG (OpA.ifieldAddr rfl tf48_0 rfl ⟨rfl, rfl⟩) ?_
  refine dG (OpA.iload rfl ti3 rfl rfl ⟨rfl, rfl⟩) ?_
  refine dG (OpA.neq rfl rfl rfl ⟨rfl, rfl⟩) ?_
  refine dL (OpA.p ⟨rfl, rfl⟩) ?_
  refine dL (OpA.m ⟨rfl, rfl⟩) ?_
  refine DetK_split (s := 66) rfl (fun b13 => ?_) (fun b13 => ?_)
  iterate 9 refine dS ?_
  refine dL (OpA.p ⟨rfl, rfl⟩) ?_
  refine dL (OpA.m ⟨rfl, rfl⟩) ?_
  iterate 6 refine dS ?_
  refine dL (OpA.p ⟨rfl, rfl⟩) ?_
  refine dL (OpA.m ⟨rfl, rfl⟩) ?_
  iterate 7 refine dS ?_
  refine dL (OpA.p ⟨rfl, rfl⟩) ?_
  refine DetK.nil ?_
  refine wpL_nil ?_
  exact ⟨(Cov.asg ⟨rfl, rfl, rfl, rfl, (congrArg D.b (Eq.symm (orS (orS (orS (orN (orN b11 b12) b13)))))), trivial⟩), (.refl _)⟩
  refine dG (OpA.fieldAddr rfl tf33_1 rfl ⟨rfl, rfl⟩) ?_
  refine dG (OpA.load rfl ti31 rfl .head rfl rfl ⟨rfl, rfl⟩) ?_
  refine dG (OpA.iixV (enc := encPiece) rfl ts31 rfl rfl rfl (q2 ⟨⟨(bneF b11), (bneF b12)⟩, (bneF b13)⟩) ⟨rfl, rfl⟩) ?_
  refine dG (OpA.ifieldAddr rfl tf48_1 rfl ⟨rfl, rfl⟩) ?_
  refine dG (OpA.iload rfl ti3 rfl rfl ⟨rfl, rfl⟩) ?_
  refine dG (OpA.fieldAddr rfl tf28_1 rfl ⟨rfl, rfl⟩) ?_
  refine dG (OpA.load rfl ti26 rfl (.tail .head) rfl rfl ⟨rfl, rfl⟩) ?_
  refine dG (OpA.len rfl rfl rfl rfl ts26.desc (.inl ⟨_, _, rfl, (List.length_map _).symm⟩) ⟨rfl, rfl⟩) ?_
  refine dG (OpA.neq rfl rfl rfl ⟨rfl, rfl⟩) ?_
  refine dL (OpA.p ⟨rfl, rfl⟩) ?_
  refine dL (OpA.m ⟨rfl, rfl⟩) ?_
  refine DetK_split (s := 77) rfl (fun b14 => ?_) (fun b14 => ?_)
  iterate 6 refine dS ?_
  refine dL (OpA.p ⟨rfl, rfl⟩) ?_
  refine dL (OpA.m ⟨rfl, rfl⟩) ?_
  iterate 7 refine dS ?_
  refine dL (OpA.p ⟨rfl, rfl⟩) ?_
  refine DetK.nil ?_
  refine wpL_nil ?_
  exact ⟨(Cov.asg ⟨rfl, rfl, rfl, rfl, (congrArg D.b (Eq.symm (orS (orS (orN (orN (orN b11 b12) b13) b14))))), trivial⟩), (.refl _)⟩
  refine dG (OpA.fieldAddr rfl tf33_1 rfl ⟨rfl, rfl⟩) ?_
  refine dG (OpA.load rfl ti31 rfl .head rfl rfl ⟨rfl, rfl⟩) ?_
  refine dG (OpA.iixV (enc := encPiece) rfl ts31 rfl rfl rfl (q3 ⟨⟨⟨(bneF b11), (bneF b12)⟩, (bneF b13)⟩, (bneF b14)⟩) ⟨rfl, rfl⟩) ?_
  refine dG (OpA.ifieldAddr rfl tf48_2 rfl ⟨rfl, rfl⟩) ?_
  refine dG (OpA.iload rfl ti3 rfl rfl ⟨rfl, rfl⟩) ?_
  refine dG (OpA.lss rfl rfl rfl ⟨rfl, rfl⟩) ?_
  refine dL (OpA.p ⟨rfl, rfl⟩) ?_
  refine dL (OpA.m ⟨rfl, rfl⟩) ?_
  refine DetK_split (s := 85) rfl (fun b15 => ?_) (fun b15 => ?_)
  iterate 7 refine dS ?_
  refine dL (OpA.p ⟨rfl, rfl⟩) ?_
  refine DetK.nil ?_
  refine wpL_nil ?_
  exact ⟨(Cov.asg ⟨rfl, rfl, rfl, rfl, (congrArg D.b (Eq.symm (orS (orN (orN (orN (orN b11 b12) b13) b14) b15)))), trivial⟩), (.refl _)⟩
  refine dG (OpA.fieldAddr rfl tf33_1 rfl ⟨rfl, rfl⟩) ?_
  refine dG (OpA.load rfl ti31 rfl .head rfl rfl ⟨rfl, rfl⟩) ?_
  refine dG (OpA.iixV (enc := encPiece) rfl ts31 rfl rfl rfl (q4 ⟨⟨⟨⟨(bneF b11), (bneF b12)⟩, (bneF b13)⟩, (bneF b14)⟩, (decF b15)⟩) ⟨rfl, rfl⟩) ?_
  refine dG (OpA.ifieldAddr rfl tf48_2 rfl ⟨rfl, rfl⟩) ?_
  refine dG (OpA.iload rfl ti3 rfl rfl ⟨rfl, rfl⟩) ?_
  refine dG (OpA.m ⟨rfl, rfl⟩) ?_
  refine dG (OpA.gtr rfl rfl rfl ⟨rfl, rfl⟩) ?_
  refine dL (OpA.p ⟨rfl, rfl⟩) ?_
  refine DetK.nil ?_
  refine wpL_nil ?_
  exact ⟨(Cov.asg ⟨rfl, rfl, rfl, rfl, (congrArg D.b (Eq.symm (orN (orN (orN (orN (orN b11 b12) b13) b14) b15) rfl))), trivial⟩), (.refl _)⟩
  show wpA _ _ _ _ (asg [(2, .ptr c1 4 0 0), (4, D.b false), (6, .ptr c4 2 0 0), (7, .ptr c6 2 0 0), (93, D.b ((((((((attrF c (lawKnown_e0 c which) 1).2) != 0) || (((((attrF c (lawKnown_e0 c which) 1).1).pieces).length : Int) != 1)) || (((gi (((attrF c (lawKnown_e0 c which) 1).1).pieces) 0).from_) != 0)) || (((gi (((attrF c (lawKnown_e0 c which) 1).1).pieces) 0).to) != (((lawKnown_e0 c which).words).length : Int))) || (decide ((gi (((attrF c (lawKnown_e0 c which) 1).1).pieces) 0).text < 0))) || (decide ((gi (((attrF c (lawKnown_e0 c which) 1).1).pieces) 0).text > ((IntKind.i64.wrap which) % (c.texts.length : Int))))))]) [(c6, .cells 2 [encAttribution ((attrF c (lawKnown_e0 c which) 1).1)]), (c4, .cells 2 [encText (lawKnown_e0 c which)]), (c1, .cells 4 [encCorpus c])]
  refine wpA_cond rfl (fun b7 => ?_) (fun b7 => ?_)
  have h := h.1 ((or0 b7).imp (fun hh => ((or0 hh).imp (fun hh => ((or0 hh).imp (fun hh => ((or0 hh).imp (fun hh => ((or0 hh).imp (fun hh => (bneT hh)) (fun hh => (bneT hh)))) (fun hh => (bneT hh)))) (fun hh => (bneT hh)))) (fun hh => (decT hh)))) (fun hh => (decT hh)))
  refine wpA_seq ?_
  refine wpA_region ?_
  refine wL (OpA.a ?_)
  refine wpL_nil ?_
  refine wpA_ret ?_
  exact ⟨_, (.tmp (d := D.b false) rfl .nil), _, (.same rfl .nil), ⟨false, rfl, h⟩⟩
  have h := h.2 ⟨⟨⟨⟨⟨(bneF (or1 (or1 (or1 (or1 (or1 b7)))))), (bneF (or2 (or1 (or1 (or1 (or1 b7))))))⟩, (bneF (or2 (or1 (or1 (or1 b7)))))⟩, (bneF (or2 (or1 (or1 b7))))⟩, (decF (or2 (or1 b7)))⟩, (decF (or2 b7))⟩
  refine wpA_skip ?_
  refine wpA_seq ?_
  obtain ⟨q1, q2, h⟩ := h
  refine wpA_region ?_
  refine wL (OpA.load_whole rfl ti28 rfl rfl (.tail .head) rfl ⟨_, rfl⟩ ?_)
  refine wL (OpA.load_whole rfl ti33 rfl rfl .head rfl ⟨_, rfl⟩ ?_)
  refine wL (OpA.call rfl rfl rfl en23 (tunknown_c (lawKnown_e0 c which) ((attrF c (lawKnown_e0 c which) 1).1) q1 q2) ?_)
  rintro _ rfl
  refine wL (OpA.m ?_)
  iterate 2 refine wL (OpA.extract rfl rfl rfl ?_)
  iterate 2 refine wL (OpA.a ?_)
  refine wpL_nil ?_
  refine wpA_seq ?_
  obtain ⟨q1, q2, q3, h⟩ := h
  refine wpA_region ?_
  refine wL (OpA.load_whole rfl ti25 rfl rfl (.tail (.tail .head)) rfl ⟨_, rfl⟩ ?_)
  refine wL (OpA.load_whole rfl ti28 rfl rfl (.tail .head) rfl ⟨_, rfl⟩ ?_)
  refine wL (OpA.load_whole rfl ti33 rfl rfl .head rfl ⟨_, rfl⟩ ?_)
  refine wL (OpA.call rfl rfl rfl en15 (tmain_c c (lawKnown_e0 c which) ((attrF c (lawKnown_e0 c which) 1).1) 100 q1 q2 q3) ?_)
  rintro _ rfl
  refine wL (OpA.m ?_)
  iterate 2 refine wL (OpA.extract rfl rfl rfl ?_)
  iterate 2 refine wL (OpA.a ?_)
  refine wpL_nil ?_
  refine wpA_seq ?_
  obtain ⟨q1, h⟩ := h
  refine wpA_mid (asg [(4, D.b (lawKnown_e1 c which))]) [(c6, .cells 2 [encAttribution ((attrF c (lawKnown_e0 c which) 1).1)]), (c4, .cells 2 [encText (lawKnown_e0 c which)]), (c1, .cells 4 [encCorpus c])] ?_ ?_
  refine wpA_draw (m := 25) mo (by kernel_rfl) rfl ?_
  refine dL (OpA.m ⟨rfl, rfl⟩) ?_
  refine dL (OpA.eql rfl rfl rfl ⟨rfl, rfl⟩) ?_
  refine dL (OpA.m ⟨rfl, rfl⟩) ?_
  refine DetK_split (s := 109) rfl (fun b8 => ?_) (fun b8 => ?_)
  refine dG (OpA.m ⟨rfl, rfl⟩) ?_
  refine dG (OpA.len rfl rfl rfl rfl ts56.desc (.inl ⟨_, _, rfl, (List.length_map _).symm⟩) ⟨rfl, rfl⟩) ?_
  refine dG (OpA.eql rfl rfl rfl ⟨rfl, rfl⟩) ?_
  refine dL (OpA.p ⟨rfl, rfl⟩) ?_
  refine dL (OpA.m ⟨rfl, rfl⟩) ?_
  refine DetK_split (s := 114) rfl (fun b9 => ?_) (fun b9 => ?_)
  refine dG (OpA.m ⟨rfl, rfl⟩) ?_
  refine dL (OpA.p ⟨rfl, rfl⟩) ?_
  refine dL (OpA.m ⟨rfl, rfl⟩) ?_
  refine DetK_split (s := 117) rfl (fun b10 => ?_) (fun b10 => ?_)
  refine dG (OpA.m ⟨rfl, rfl⟩) ?_
  refine dG (OpA.fieldAddr rfl tf25_2 rfl ⟨rfl, rfl⟩) ?_
  refine dG (OpA.load rfl ti22 rfl (.tail (.tail .head)) rfl rfl ⟨rfl, rfl⟩) ?_
  refine dG (OpA.fieldAddr rfl tf33_1 rfl ⟨rfl, rfl⟩) ?_
  refine dG (OpA.load rfl ti31 rfl .head rfl rfl ⟨rfl, rfl⟩) ?_
  refine dG (OpA.iixV (enc := encPiece) rfl ts31 rfl rfl rfl (q1 ⟨⟨(beqT b8), (beqT b9)⟩, b10⟩).1 ⟨rfl, rfl⟩) ?_
  refine dG (OpA.ifieldAddr rfl tf48_2 rfl ⟨rfl, rfl⟩) ?_
  refine dG (OpA.iload rfl ti3 rfl rfl ⟨rfl, rfl⟩) ?_
  refine dG (OpA.iixV (enc := encText) rfl ts22 rfl rfl rfl (q1 ⟨⟨(beqT b8), (beqT b9)⟩, b10⟩).2 ⟨rfl, rfl⟩) ?_
  refine dG (OpA.ifieldAddr rfl tf28_0 rfl ⟨rfl, rfl⟩) ?_
  refine dG (OpA.iload rfl ti9 rfl rfl ⟨rfl, rfl⟩) ?_
  refine dG (OpA.seql rfl rfl rfl ⟨rfl, rfl⟩) ?_
  refine dL (OpA.p ⟨rfl, rfl⟩) ?_
  refine dL (OpA.a ⟨rfl, rfl⟩) ?_
  refine DetK.nil ?_
  refine wpL_nil ?_
  exact ⟨(Cov.asg ⟨(congrArg D.b (Eq.symm (andN (andN (andN b8 b9) b10) rfl))), trivial⟩), (.refl _)⟩
  iterate 12 refine dS ?_
  refine dL (OpA.p ⟨rfl, rfl⟩) ?_
  refine dL (OpA.a ⟨rfl, rfl⟩) ?_
  refine DetK.nil ?_
  refine wpL_nil ?_
  exact ⟨(Cov.asg ⟨(congrArg D.b (Eq.symm (andS (andN (andN b8 b9) b10)))), trivial⟩), (.refl _)⟩
  refine dS ?_
  refine dL (OpA.p ⟨rfl, rfl⟩) ?_
  refine dL (OpA.m ⟨rfl, rfl⟩) ?_
  iterate 12 refine dS ?_
  refine dL (OpA.p ⟨rfl, rfl⟩) ?_
  refine dL (OpA.a ⟨rfl, rfl⟩) ?_
  refine DetK.nil ?_
  refine wpL_nil ?_
  exact ⟨(Cov.asg ⟨(congrArg D.b (Eq.symm (andS (andS (andN b8 b9))))), trivial⟩), (.refl _)⟩
  iterate 3 refine dS ?_
  refine dL (OpA.p ⟨rfl, rfl⟩) ?_
  refine dL (OpA.m ⟨rfl, rfl⟩) ?_
  refine dS ?_
  refine dL (OpA.p ⟨rfl, rfl⟩) ?_
  refine dL (OpA.m ⟨rfl, rfl⟩) ?_
  iterate 12 refine dS ?_
  refine dL (OpA.p ⟨rfl, rfl⟩) ?_
  refine dL (OpA.a ⟨rfl, rfl⟩) ?_
  refine DetK.nil ?_
  refine wpL_nil ?_
  exact ⟨(Cov.asg ⟨(congrArg D.b (Eq.symm (andS (andS (andS b8))))), trivial⟩), (.refl _)⟩
  show wpA _ _ _ _ (asg [(4, D.b (lawKnown_e1 c which))]) [(c6, .cells 2 [encAttribution ((attrF c (lawKnown_e0 c which) 1).1)]), (c4, .cells 2 [encText (lawKnown_e0 c which)]), (c1, .cells 4 [encCorpus c])]
  refine wpA_ret ?_
  exact ⟨_, (.tmp (d := D.b (lawKnown_e1 c which)) rfl .nil), _, (.same rfl .nil), ⟨(lawKnown_e1 c which), rfl, h⟩⟩
theorem lawKnown_c (c : Corpus) (which : Int)  (hp0 : inL which 256) : Fun false Tryz.prog 8 [encCorpus c, (D.k .u8) which] (fun d => d = D.b (true)) :=
  Fun.at (enc := fun r => D.b r) (v := true) (lawKnown_w c which  (fun r => r = true) (lawKnown_ok c which _ hp0 rfl))
end Go.Proofs.YtaofnefejkokdaaGreatDoor
