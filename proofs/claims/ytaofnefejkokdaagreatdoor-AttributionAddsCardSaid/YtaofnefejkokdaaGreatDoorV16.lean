/-
  walks and contracts
-/
import Derived.Test.YtaofnefejkokdaaGreatDoorV9
import Derived.Test.YtaofnefejkokdaaGreatDoorTa
set_option linter.all false
namespace Go.Proofs.YtaofnefejkokdaaGreatDoor
open Go Go.Lic Go.Sort Go.Proofs
attribute [local irreducible] addF addP attrF badR behindF betR betterP blankF checkA checkF cmpB cmpI cmpL codeF countF countL fewC fewTs fewW findT gramsF growTF has1F hasF hashF indexF insideF leastF lenF longAF mainF maxF mergeF mul64F mulP nameR newF ofF orF packF partF pathB pathF pieceOk postCmp postLt postsF powF printsF pushF rangedF rightA rightCT rollF sameF selectF shareF sizeF smallF spanCmp splitF splitG srcF srcR textF unknownF validF validT



set_option maxHeartbeats 2000000 in
set_option maxRecDepth 10000 in
theorem lawAdds_w (c : Corpus) (t : Text) (a : Attribution) (percent : Int)  (Q : Bool → Prop) (h : lawAdds_vc c t a percent Q) : Fun false Tryz.prog 9 [encCorpus c, encText t, encAttribution a, (D.k .u8) percent] (fun d => ∃ r, d = D.b r ∧ Q r) := by
  unfold lawAdds_vc at h
  refine Fun.of_body Tryz.func9 rfl Tryz.ntmps9 rfl ?_
  refine wpA_seq ?_
  refine wpA_region ?_
  refine wL (OpA.bx (sz := 4) rfl (by with_reducible conv => lhs; whnf) (.of rfl) (fun c1 _ => ?_))
  refine wL (OpA.bx (sz := 2) rfl (by with_reducible conv => lhs; whnf) (.of rfl) (fun c2 _ => ?_))
  refine wL (OpA.bx (sz := 2) rfl (by with_reducible conv => lhs; whnf) (.of rfl) (fun c3 _ => ?_))
  refine wL (OpA.a ?_)
  refine wpL_nil ?_
  iterate 2 refine wpA_seq ?_
  refine wpA_region ?_
  refine wL (OpA.call rfl rfl rfl en10 (awake_c  ) ?_)
  rintro _ rfl
  refine wL (OpA.not rfl rfl ?_)
  refine wpL_nil ?_
  refine wpA_cond rfl (fun b4 => ?_) (fun b4 => ?_)
  have h := h.1 (notT b4)
  refine wpA_seq ?_
  refine wpA_region ?_
  refine wL (OpA.a ?_)
  refine wpL_nil ?_
  refine wpA_ret ?_
  exact ⟨_, (.tmp (d := D.b false) rfl .nil), _, (.same rfl .nil), ⟨false, rfl, h⟩⟩
  have h := h.2 (notF b4)
  refine wpA_skip ?_
  iterate 2 refine wpA_seq ?_
  obtain ⟨q1, h⟩ := h
  refine wpA_mid (asg [(3, (D.k .u8) percent), (4, .ptr c1 4 0 0), (5, .ptr c2 2 0 0), (6, .ptr c3 2 0 0), (8, D.b false), (42, D.b ((!(smallF c t a)) || ((checkA c t 1 a) != 0)))]) [(c3, .cells 2 [encAttribution a]), (c2, .cells 2 [encText t]), (c1, .cells 4 [encCorpus c])] ?_ ?_
  refine wpA_region ?_
  refine wL (OpA.load_whole rfl ti25 rfl rfl (.tail (.tail .head)) rfl ⟨_, rfl⟩ ?_)
  refine wL (OpA.load_whole rfl ti28 rfl rfl (.tail .head) rfl ⟨_, rfl⟩ ?_)
  refine wL (OpA.load_whole rfl ti33 rfl rfl .head rfl ⟨_, rfl⟩ ?_)
  refine wL (OpA.call rfl rfl rfl en11 (lsmall_c c t a ) ?_)
  rintro _ rfl
  refine wL (OpA.not rfl rfl ?_)
  refine wL (OpA.m ?_)
  refine wpL_split (s := 36) rfl (fun b34 => ?_) (fun b34 => ?_)
  iterate 5 refine wS ?_
  refine wL (OpA.p ?_)
  refine wpL_nil ?_
  exact ⟨(Cov.asg ⟨rfl, rfl, rfl, rfl, rfl, (congrArg D.b (Eq.symm (orS b34))), trivial⟩), (.refl _)⟩
  refine wG (OpA.load_whole rfl ti25 rfl rfl (.tail (.tail .head)) rfl ⟨_, rfl⟩ ?_)
  refine wG (OpA.load_whole rfl ti28 rfl rfl (.tail .head) rfl ⟨_, rfl⟩ ?_)
  refine wG (OpA.load_whole rfl ti33 rfl rfl .head rfl ⟨_, rfl⟩ ?_)
  refine wG (OpA.call rfl rfl rfl en17 (tcheck_c c t 1 a (q1 (notF b34)).1 (q1 (notF b34)).2.1 (q1 (notF b34)).2.2) ?_)
  rintro _ rfl
  refine wG (OpA.neq rfl rfl rfl ?_)
  refine wL (OpA.p ?_)
  refine wpL_nil ?_
  exact ⟨(Cov.asg ⟨rfl, rfl, rfl, rfl, rfl, (congrArg D.b (Eq.symm (orN b34 rfl))), trivial⟩), (.refl _)⟩
  show wpA _ _ _ _ (asg [(3, (D.k .u8) percent), (4, .ptr c1 4 0 0), (5, .ptr c2 2 0 0), (6, .ptr c3 2 0 0), (8, D.b false), (42, D.b ((!(smallF c t a)) || ((checkA c t 1 a) != 0)))]) [(c3, .cells 2 [encAttribution a]), (c2, .cells 2 [encText t]), (c1, .cells 4 [encCorpus c])]
  refine wpA_cond rfl (fun b5 => ?_) (fun b5 => ?_)
  have h := h.1 ((or0 b5).imp (fun hh => (notT hh)) (fun hh => (bneT hh)))
  refine wpA_seq ?_
  refine wpA_region ?_
  refine wL (OpA.a ?_)
  refine wpL_nil ?_
  refine wpA_ret ?_
  exact ⟨_, (.tmp (d := D.b true) rfl .nil), _, (.same rfl .nil), ⟨true, rfl, h⟩⟩
  have h := h.2 ⟨(notF (or1 b5)), (bneF (or2 b5))⟩
  refine wpA_skip ?_
  refine wpA_seq ?_
  obtain ⟨q1, q2, q3, h⟩ := h
  refine wpA_region ?_
  refine wL (OpA.load_whole rfl ti25 rfl rfl (.tail (.tail .head)) rfl ⟨_, rfl⟩ ?_)
  refine wL (OpA.load_whole rfl ti28 rfl rfl (.tail .head) rfl ⟨_, rfl⟩ ?_)
  refine wL (OpA.load_whole rfl ti33 rfl rfl .head rfl ⟨_, rfl⟩ ?_)
  refine wL (OpA.call rfl rfl rfl en21 (tshare_c c t a q1 q2 q3) ?_)
  rintro _ rfl
  refine wL (OpA.m ?_)
  iterate 2 refine wL (OpA.extract rfl rfl rfl ?_)
  iterate 2 refine wL (OpA.a ?_)
  refine wpL_nil ?_
  refine wpA_seq ?_
  obtain ⟨q1, q2, h⟩ := h
  refine wpA_region ?_
  refine wL (OpA.load_whole rfl ti28 rfl rfl (.tail .head) rfl ⟨_, rfl⟩ ?_)
  refine wL (OpA.load_whole rfl ti33 rfl rfl .head rfl ⟨_, rfl⟩ ?_)
  refine wL (OpA.call rfl rfl rfl en23 (tunknown_c t a q1 q2) ?_)
  rintro _ rfl
  refine wL (OpA.m ?_)
  iterate 2 refine wL (OpA.extract rfl rfl rfl ?_)
  iterate 2 refine wL (OpA.a ?_)
  refine wpL_nil ?_
  iterate 2 refine wpA_seq ?_
  refine wpA_mid (asg [(3, (D.k .u8) percent), (4, .ptr c1 4 0 0), (5, .ptr c2 2 0 0), (6, .ptr c3 2 0 0), (8, D.b false), (9, (encL 1 D.i) ((shareF c t a).1)), (11, (encL 3 encSpan) ((unknownF t a).1)), (69, D.b (((((shareF c t a).2) != 0) || (((unknownF t a).2) != 0)) || ((((shareF c t a).1).length : Int) != (c.texts.length : Int))))]) [(c3, .cells 2 [encAttribution a]), (c2, .cells 2 [encText t]), (c1, .cells 4 [encCorpus c])] ?_ ?_
  refine wpA_region ?_
  refine wL (OpA.m ?_)
  refine wL (OpA.neq rfl rfl rfl ?_)
  refine wL (OpA.m ?_)
  refine wpL_split (s := 58) rfl (fun b32 => ?_) (fun b32 => ?_)
  iterate 2 refine wS ?_
  refine wL (OpA.p ?_)
  refine wL (OpA.m ?_)
  iterate 6 refine wS ?_
  refine wL (OpA.p ?_)
  refine wpL_nil ?_
  exact ⟨(Cov.asg ⟨rfl, rfl, rfl, rfl, rfl, rfl, rfl, (congrArg D.b (Eq.symm (orS (orS b32)))), trivial⟩), (.refl _)⟩
  refine wG (OpA.m ?_)
  refine wG (OpA.neq rfl rfl rfl ?_)
  refine wL (OpA.p ?_)
  refine wL (OpA.m ?_)
  refine wpL_split (s := 62) rfl (fun b33 => ?_) (fun b33 => ?_)
  iterate 6 refine wS ?_
  refine wL (OpA.p ?_)
  refine wpL_nil ?_
  exact ⟨(Cov.asg ⟨rfl, rfl, rfl, rfl, rfl, rfl, rfl, (congrArg D.b (Eq.symm (orS (orN b32 b33)))), trivial⟩), (.refl _)⟩
  refine wG (OpA.m ?_)
  refine wG (OpA.len rfl rfl rfl rfl ts52.desc (.inl ⟨_, _, rfl, (List.length_map _).symm⟩) ?_)
  refine wG (OpA.fieldAddr rfl tf25_2 rfl ?_)
  refine wG (OpA.load rfl ti22 rfl (.tail (.tail .head)) rfl rfl ?_)
  refine wG (OpA.len rfl rfl rfl rfl ts22.desc (.inl ⟨_, _, rfl, (List.length_map _).symm⟩) ?_)
  refine wG (OpA.neq rfl rfl rfl ?_)
  refine wL (OpA.p ?_)
  refine wpL_nil ?_
  exact ⟨(Cov.asg ⟨rfl, rfl, rfl, rfl, rfl, rfl, rfl, (congrArg D.b (Eq.symm (orN (orN b32 b33) rfl))), trivial⟩), (.refl _)⟩
  show wpA _ _ _ _ (asg [(3, (D.k .u8) percent), (4, .ptr c1 4 0 0), (5, .ptr c2 2 0 0), (6, .ptr c3 2 0 0), (8, D.b false), (9, (encL 1 D.i) ((shareF c t a).1)), (11, (encL 3 encSpan) ((unknownF t a).1)), (69, D.b (((((shareF c t a).2) != 0) || (((unknownF t a).2) != 0)) || ((((shareF c t a).1).length : Int) != (c.texts.length : Int))))]) [(c3, .cells 2 [encAttribution a]), (c2, .cells 2 [encText t]), (c1, .cells 4 [encCorpus c])]
  refine wpA_cond rfl (fun b6 => ?_) (fun b6 => ?_)
  have h := h.1 ((or0 b6).imp (fun hh => ((or0 hh).imp (fun hh => (bneT hh)) (fun hh => (bneT hh)))) (fun hh => (bneT hh)))
  refine wpA_seq ?_
  refine wpA_region ?_
  refine wL (OpA.a ?_)
  refine wpL_nil ?_
  refine wpA_ret ?_
  exact ⟨_, (.tmp (d := D.b false) rfl .nil), _, (.same rfl .nil), ⟨false, rfl, h⟩⟩
  have h := h.2 ⟨⟨(bneF (or1 (or1 b6))), (bneF (or2 (or1 b6)))⟩, (bneF (or2 b6))⟩
  refine wpA_skip ?_
  refine wpA_seq ?_
  refine wpA_region ?_
  refine wL (OpA.a ?_)
  refine wpL_nil ?_
  iterate 2 refine wpA_seq ?_
  refine wpA_region ?_
  refine wL (OpA.m ?_)
  refine wL (OpA.len rfl rfl rfl rfl ts52.desc (.inl ⟨_, _, rfl, (List.length_map _).symm⟩) ?_)
  refine wL (OpA.m ?_)
  refine wpL_nil ?_
  refine wpA_block ?_
  refine wpA_lfp (S := Int × Int) (G := Unit) () (fun gg ss => asg [(3, (D.k .u8) percent), (4, .ptr c1 4 0 0), (5, .ptr c2 2 0 0), (6, .ptr c3 2 0 0), (8, D.b false), (11, (encL 3 encSpan) ((unknownF t a).1)), (13, D.i ss.1), (70, (encL 1 D.i) ((shareF c t a).1)), (71, D.i (((shareF c t a).1).length : Int)), (72, D.i ss.2)]) (fun gg ss => [(c3, .cells 2 [encAttribution a]), (c2, .cells 2 [encText t]), (c1, .cells 4 [encCorpus c])]) h (Cov.asg ⟨rfl, rfl, rfl, rfl, rfl, rfl, rfl, rfl, rfl, rfl, trivial⟩) (.refl _) ?_
  rintro again7 _ ⟨sum, x⟩ h
  have h : lawAdds_L1 c t a percent Q again7 sum x := h
  unfold lawAdds_L1 at h
  show wpA _ _ _ _ (asg [(3, (D.k .u8) percent), (4, .ptr c1 4 0 0), (5, .ptr c2 2 0 0), (6, .ptr c3 2 0 0), (8, D.b false), (11, (encL 3 encSpan) ((unknownF t a).1)), (13, D.i sum), (70, (encL 1 D.i) ((shareF c t a).1)), (71, D.i (((shareF c t a).1).length : Int)), (72, D.i x)]) [(c3, .cells 2 [encAttribution a]), (c2, .cells 2 [encText t]), (c1, .cells 4 [encCorpus c])]
  refine wpA_seq ?_
  refine wpA_region ?_
  refine wL (OpA.lss rfl rfl rfl ?_)
  refine wpL_nil ?_
  refine wpA_seq ?_
  refine wpA_cond rfl (fun b8 => ?_) (fun b8 => ?_)
  have h := h.1 (decT b8)
  refine wpA_skip ?_
  refine wpA_seq ?_
  refine wpA_block ?_
  refine wpA_seq ?_
  obtain ⟨q1, h⟩ := h
  refine wpA_region ?_
  refine wL (OpA.iixV (enc := D.i) rfl ts52 rfl rfl rfl q1 ?_)
  refine wL (OpA.iload rfl ti3 rfl rfl ?_)
  refine wL (OpA.a ?_)
  refine wpL_nil ?_
  obtain ⟨q1, h⟩ := h
  refine wpA_region ?_
  iterate 2 refine wL (OpA.m ?_)
  refine wL (OpA.addi rfl rfl rfl q1 ?_)
  refine wL (OpA.a ?_)
  refine wpL_nil ?_
  obtain ⟨q1, h⟩ := h
  refine wpA_region ?_
  refine wL (OpA.addi rfl rfl rfl q1 ?_)
  refine wL (OpA.m ?_)
  refine wpL_nil ?_
  exact ⟨(), ((sum + (gi ((shareF c t a).1) x)), (x + 1)), h, (Cov.asg ⟨rfl, rfl, rfl, rfl, rfl, rfl, rfl, rfl, rfl, rfl, trivial⟩), (.refl _)⟩
  have h := h.2 (decF b8)
  refine wpA_exit ?_
  iterate 2 refine wpA_seq ?_
  obtain ⟨q1, h⟩ := h
  refine wpA_region ?_
  refine wL (OpA.m ?_)
  refine wL (OpA.load_whole rfl ti33 rfl rfl .head rfl ⟨_, rfl⟩ ?_)
  refine wL (OpA.call rfl rfl rfl en18 (lcover_c a q1) ?_)
  rintro _ rfl
  refine wL (OpA.neq rfl rfl rfl ?_)
  refine wpL_nil ?_
  refine wpA_cond rfl (fun b9 => ?_) (fun b9 => ?_)
  have h := h.1 (bneT b9)
  refine wpA_seq ?_
  refine wpA_region ?_
  refine wL (OpA.a ?_)
  refine wpL_nil ?_
  refine wpA_ret ?_
  exact ⟨_, (.tmp (d := D.b false) rfl .nil), _, (.same rfl .nil), ⟨false, rfl, h⟩⟩
  have h := h.2 (bneF b9)
  refine wpA_skip ?_
  refine wpA_seq ?_
  obtain ⟨q1, h⟩ := h
  refine wpA_region ?_
  refine wL (OpA.fieldAddr rfl tf28_1 rfl ?_)
  refine wL (OpA.load rfl ti26 rfl (.tail .head) rfl rfl ?_)
  refine wL (OpA.len rfl rfl rfl rfl ts26.desc (.inl ⟨_, _, rfl, (List.length_map _).symm⟩) ?_)
  refine wL (OpA.makeSliceV (enc := D.b) (v0 := false) rfl ts64 rfl rfl tz4 (fun _ _ => .v _) (.of rfl) q1 (fun c10 => ?_))
  refine wL (OpA.a ?_)
  refine wpL_nil ?_
  iterate 2 refine wpA_seq ?_
  refine wpA_region ?_
  refine wL (OpA.fieldAddr rfl tf33_1 rfl ?_)
  refine wL (OpA.load rfl ti31 rfl (.tail .head) rfl rfl ?_)
  refine wL (OpA.len rfl rfl rfl rfl ts31.desc (.inl ⟨_, _, rfl, (List.length_map _).symm⟩) ?_)
  refine wL (OpA.m ?_)
  refine wpL_nil ?_
  refine wpA_block ?_
  refine wpA_lfp (S := (List Bool) × Int) (G := Nat × List D × List D) (c10, ([] : List D), ([] : List D)) (fun gg ss => asg [(3, (D.k .u8) percent), (4, .ptr c1 4 0 0), (5, .ptr c2 2 0 0), (6, .ptr c3 2 0 0), (8, D.b false), (11, (encL 3 encSpan) ((unknownF t a).1)), (16, .own gg.1 1 gg.2.1.length ss.1.length), (89, (encL 4 encPiece) a.pieces), (90, D.i (a.pieces.length : Int)), (91, D.i ss.2)]) (fun gg ss => [(gg.1, .cells 1 (winL D.b gg.2.1 ss.1 gg.2.2)), (c3, .cells 2 [encAttribution a]), (c2, .cells 2 [encText t]), (c1, .cells 4 [encCorpus c])]) h (Cov.asg ⟨rfl, rfl, rfl, rfl, rfl, rfl, rfl, rfl, rfl, rfl, trivial⟩) (.refl _) ?_
  rintro again11 ⟨cb87, pre87, post87⟩ ⟨known, x1⟩ h
  have h : lawAdds_L2 c t a percent Q again11 known x1 := h
  unfold lawAdds_L2 at h
  show wpA _ _ _ _ (asg [(3, (D.k .u8) percent), (4, .ptr c1 4 0 0), (5, .ptr c2 2 0 0), (6, .ptr c3 2 0 0), (8, D.b false), (11, (encL 3 encSpan) ((unknownF t a).1)), (16, .own cb87 1 pre87.length known.length), (89, (encL 4 encPiece) a.pieces), (90, D.i (a.pieces.length : Int)), (91, D.i x1)]) [(cb87, .cells 1 (winL D.b pre87 known post87)), (c3, .cells 2 [encAttribution a]), (c2, .cells 2 [encText t]), (c1, .cells 4 [encCorpus c])]
  refine wpA_seq ?_
  refine wpA_region ?_
  refine wL (OpA.lss rfl rfl rfl ?_)
  refine wpL_nil ?_
  refine wpA_seq ?_
  refine wpA_cond rfl (fun b12 => ?_) (fun b12 => ?_)
  have h := h.1 (decT b12)
  refine wpA_skip ?_
  refine wpA_seq ?_
  refine wpA_block ?_
  refine wpA_seq ?_
  obtain ⟨q1, h⟩ := h
  refine wpA_region ?_
  refine wL (OpA.iixV (enc := encPiece) rfl ts31 rfl rfl rfl q1 ?_)
  refine wL (OpA.iload_whole rfl ti48 rfl ⟨_, rfl, rfl⟩ ?_)
  refine wL (OpA.alloc (sz := 4) (d := encPiece (Piece.mk 0 0 0 0)) rfl tz48 (fun _ _ => .agg (.cons (.v _) (.cons (.v _) (.cons (.v _) (.cons (.v _) .nil))))) (.of rfl) (fun c13 _ => ?_))
  refine wE (OpA.storeW rfl ti48 rfl (by with_reducible conv => lhs; whnf) (.of rfl) rfl rfl .head ?_)
  refine wpL_nil ?_
  iterate 2 refine wpA_seq ?_
  refine wpA_mid (asg [(3, (D.k .u8) percent), (4, .ptr c1 4 0 0), (5, .ptr c2 2 0 0), (6, .ptr c3 2 0 0), (8, D.b false), (11, (encL 3 encSpan) ((unknownF t a).1)), (16, .own cb87 1 pre87.length known.length), (18, .ptr c13 4 0 0), (89, (encL 4 encPiece) a.pieces), (90, D.i (a.pieces.length : Int)), (91, D.i x1), (112, D.b (((decide ((gi a.pieces x1).from_ < 0)) || (decide ((gi a.pieces x1).from_ > (gi a.pieces x1).to))) || (decide ((gi a.pieces x1).to > (t.words.length : Int)))))]) [(c13, .cells 4 [encPiece (gi a.pieces x1)]), (cb87, .cells 1 (winL D.b pre87 known post87)), (c3, .cells 2 [encAttribution a]), (c2, .cells 2 [encText t]), (c1, .cells 4 [encCorpus c])] ?_ ?_
  refine wpA_region ?_
  refine wL (OpA.fieldAddr rfl tf48_0 rfl ?_)
  refine wL (OpA.load rfl ti3 rfl .head rfl rfl ?_)
  refine wL (OpA.lss rfl rfl rfl ?_)
  refine wL (OpA.m ?_)
  refine wpL_split (s := 98) rfl (fun b17 => ?_) (fun b17 => ?_)
  iterate 5 refine wS ?_
  refine wL (OpA.p ?_)
  refine wL (OpA.m ?_)
  iterate 6 refine wS ?_
  refine wL (OpA.p ?_)
  refine wpL_nil ?_
  exact ⟨(Cov.asg ⟨rfl, rfl, rfl, rfl, rfl, rfl, rfl, rfl, rfl, rfl, rfl, (congrArg D.b (Eq.symm (orS (orS b17)))), trivial⟩), (.refl _)⟩
  refine wG (OpA.fieldAddr rfl tf48_0 rfl ?_)
  refine wG (OpA.load rfl ti3 rfl .head rfl rfl ?_)
  refine wG (OpA.fieldAddr rfl tf48_1 rfl ?_)
  refine wG (OpA.load rfl ti3 rfl .head rfl rfl ?_)
  refine wG (OpA.gtr rfl rfl rfl ?_)
  refine wL (OpA.p ?_)
  refine wL (OpA.m ?_)
  refine wpL_split (s := 105) rfl (fun b18 => ?_) (fun b18 => ?_)
  iterate 6 refine wS ?_
  refine wL (OpA.p ?_)
  refine wpL_nil ?_
  exact ⟨(Cov.asg ⟨rfl, rfl, rfl, rfl, rfl, rfl, rfl, rfl, rfl, rfl, rfl, (congrArg D.b (Eq.symm (orS (orN b17 b18)))), trivial⟩), (.refl _)⟩
  refine wG (OpA.fieldAddr rfl tf48_1 rfl ?_)
  refine wG (OpA.load rfl ti3 rfl .head rfl rfl ?_)
  refine wG (OpA.fieldAddr rfl tf28_1 rfl ?_)
  refine wG (OpA.load rfl ti26 rfl (.tail (.tail (.tail .head))) rfl rfl ?_)
  refine wG (OpA.len rfl rfl rfl rfl ts26.desc (.inl ⟨_, _, rfl, (List.length_map _).symm⟩) ?_)
  refine wG (OpA.gtr rfl rfl rfl ?_)
  refine wL (OpA.p ?_)
  refine wpL_nil ?_
  exact ⟨(Cov.asg ⟨rfl, rfl, rfl, rfl, rfl, rfl, rfl, rfl, rfl, rfl, rfl, (congrArg D.b (Eq.symm (orN (orN b17 b18) rfl))), trivial⟩), (.refl _)⟩
  show wpA _ _ _ _ (asg [(3, (D.k .u8) percent), (4, .ptr c1 4 0 0), (5, .ptr c2 2 0 0), (6, .ptr c3 2 0 0), (8, D.b false), (11, (encL 3 encSpan) ((unknownF t a).1)), (16, .own cb87 1 pre87.length known.length), (18, .ptr c13 4 0 0), (89, (encL 4 encPiece) a.pieces), (90, D.i (a.pieces.length : Int)), (91, D.i x1), (112, D.b (((decide ((gi a.pieces x1).from_ < 0)) || (decide ((gi a.pieces x1).from_ > (gi a.pieces x1).to))) || (decide ((gi a.pieces x1).to > (t.words.length : Int)))))]) [(c13, .cells 4 [encPiece (gi a.pieces x1)]), (cb87, .cells 1 (winL D.b pre87 known post87)), (c3, .cells 2 [encAttribution a]), (c2, .cells 2 [encText t]), (c1, .cells 4 [encCorpus c])]
  refine wpA_cond rfl (fun b14 => ?_) (fun b14 => ?_)
  have h := h.1 ((or0 b14).imp (fun hh => ((or0 hh).imp (fun hh => (decT hh)) (fun hh => (decT hh)))) (fun hh => (decT hh)))
  refine wpA_seq ?_
  refine wpA_region ?_
  refine wL (OpA.a ?_)
  refine wpL_nil ?_
  refine wpA_ret ?_
  exact ⟨_, (.tmp (d := D.b false) rfl .nil), _, (.same rfl .nil), ⟨false, rfl, h⟩⟩
  have h := h.2 ⟨⟨(decF (or1 (or1 b14))), (decF (or2 (or1 b14)))⟩, (decF (or2 b14))⟩
  refine wpA_skip ?_
  refine wpA_seq ?_
  refine wpA_region ?_
  refine wL (OpA.fieldAddr rfl tf48_0 rfl ?_)
  refine wL (OpA.load rfl ti3 rfl .head rfl rfl ?_)
  refine wL (OpA.a ?_)
  refine wpL_nil ?_
  refine wpA_block ?_
  refine wpA_lfp (S := (List Bool) × Int) (G := Nat × List D × List D) (cb87, pre87, post87) (fun gg ss => asg [(3, (D.k .u8) percent), (4, .ptr c1 4 0 0), (5, .ptr c2 2 0 0), (6, .ptr c3 2 0 0), (8, D.b false), (11, (encL 3 encSpan) ((unknownF t a).1)), (16, .own gg.1 1 gg.2.1.length ss.1.length), (18, .ptr c13 4 0 0), (19, D.i ss.2), (89, (encL 4 encPiece) a.pieces), (90, D.i (a.pieces.length : Int)), (91, D.i x1)]) (fun gg ss => [(c13, .cells 4 [encPiece (gi a.pieces x1)]), (gg.1, .cells 1 (winL D.b gg.2.1 ss.1 gg.2.2)), (c3, .cells 2 [encAttribution a]), (c2, .cells 2 [encText t]), (c1, .cells 4 [encCorpus c])]) h (Cov.asg ⟨rfl, rfl, rfl, rfl, rfl, rfl, rfl, rfl, rfl, rfl, rfl, rfl, trivial⟩) (.refl _) ?_
  rintro again15 ⟨cb871, pre871, post871⟩ ⟨known1, i⟩ h
  have h : lawAdds_L3 a x1 again11 again15 known1 i := h
  unfold lawAdds_L3 at h
  show wpA _ _ _ _ (asg [(3, (D.k .u8) percent), (4, .ptr c1 4 0 0), (5, .ptr c2 2 0 0), (6, .ptr c3 2 0 0), (8, D.b false), (11, (encL 3 encSpan) ((unknownF t a).1)), (16, .own cb871 1 pre871.length known1.length), (18, .ptr c13 4 0 0), (19, D.i i), (89, (encL 4 encPiece) a.pieces), (90, D.i (a.pieces.length : Int)), (91, D.i x1)]) [(c13, .cells 4 [encPiece (gi a.pieces x1)]), (cb871, .cells 1 (winL D.b pre871 known1 post871)), (c3, .cells 2 [encAttribution a]), (c2, .cells 2 [encText t]), (c1, .cells 4 [encCorpus c])]
  iterate 2 refine wpA_seq ?_
  refine wpA_region ?_
  refine wL (OpA.m ?_)
  refine wL (OpA.fieldAddr rfl tf48_1 rfl ?_)
  refine wL (OpA.load rfl ti3 rfl .head rfl rfl ?_)
  refine wL (OpA.lss rfl rfl rfl ?_)
  refine wpL_nil ?_
  refine wpA_cond rfl (fun b16 => ?_) (fun b16 => ?_)
  have h := h.1 (decT b16)
  refine wpA_skip ?_
  refine wpA_seq ?_
  refine wpA_block ?_
  obtain ⟨q1, h⟩ := h
  refine wpA_region ?_
  iterate 2 refine wL (OpA.m ?_)
  refine wL (OpA.ixV rfl ts64 rfl rfl q1 ?_)
  refine wE (OpA.storeV (enc := D.b) (v := true) rfl ti4 rfl rfl (.of rfl) rfl q1 (.tail .head) ?_)
  refine wpL_nil ?_
  obtain ⟨q1, h⟩ := h
  refine wpA_region ?_
  refine wL (OpA.m ?_)
  refine wL (OpA.addi rfl rfl rfl q1 ?_)
  refine wL (OpA.a ?_)
  refine wpL_nil ?_
  exact ⟨(cb871, pre871, post871), ((si known1 i true), (i + 1)), h, (Cov.asg ⟨rfl, rfl, rfl, rfl, rfl, rfl, (congrArg (D.own cb871 1 pre871.length) (by simp only [si_length, gcopy_length, sortF_len postCmp_swo, sortF_len spanCmp_swo] <;> rfl)), rfl, rfl, rfl, rfl, rfl, trivial⟩), (.refl _)⟩
  have h := h.2 (decF b16)
  refine wpA_exit ?_
  obtain ⟨q1, h⟩ := h
  refine wpA_region ?_
  refine wL (OpA.addi rfl rfl rfl q1 ?_)
  refine wL (OpA.m ?_)
  refine wpL_nil ?_
  exact ⟨(cb871, pre871, post871), (known1, (x1 + 1)), h, (Cov.asg ⟨rfl, rfl, rfl, rfl, rfl, rfl, rfl, rfl, rfl, rfl, trivial⟩), (.cons _ (.refl _))⟩
  have h := h.2 (decF b12)
  refine wpA_exit ?_
  refine wpA_seq ?_
  refine wpA_region ?_
  refine wL (OpA.makeMap vB rfl (fun c19 => ?_))
  refine wL (OpA.a ?_)
  refine wpL_nil ?_
  iterate 2 refine wpA_seq ?_
  refine wpA_region ?_
  refine wL (OpA.fieldAddr rfl tf28_1 rfl ?_)
  refine wL (OpA.load rfl ti26 rfl (.tail (.tail (.tail .head))) rfl rfl ?_)
  refine wL (OpA.len rfl rfl rfl rfl ts26.desc (.inl ⟨_, _, rfl, (List.length_map _).symm⟩) ?_)
  refine wL (OpA.m ?_)
  refine wpL_nil ?_
  refine wpA_block ?_
  refine wpA_lfp (S := (List (Int × Bool)) × Int) (G := Unit) () (fun gg ss => asg [(3, (D.k .u8) percent), (4, .ptr c1 4 0 0), (5, .ptr c2 2 0 0), (6, .ptr c3 2 0 0), (8, D.b false), (11, (encL 3 encSpan) ((unknownF t a).1)), (16, .own cb87 1 pre87.length known.length), (20, .map c19), (127, (encL 2 encLex) t.words), (128, D.i (t.words.length : Int)), (129, D.i ss.2)]) (fun gg ss => [(c19, .raw (mapO vB ss.1)), (cb87, .cells 1 (winL D.b pre87 known post87)), (c3, .cells 2 [encAttribution a]), (c2, .cells 2 [encText t]), (c1, .cells 4 [encCorpus c])]) h (Cov.asg ⟨rfl, rfl, rfl, rfl, rfl, rfl, rfl, rfl, rfl, rfl, rfl, trivial⟩) (.refl _) ?_
  rintro again20 _ ⟨m_125, x2⟩ h
  have h : lawAdds_L4 c t a percent known Q again20 m_125 x2 := h
  unfold lawAdds_L4 at h
  show wpA _ _ _ _ (asg [(3, (D.k .u8) percent), (4, .ptr c1 4 0 0), (5, .ptr c2 2 0 0), (6, .ptr c3 2 0 0), (8, D.b false), (11, (encL 3 encSpan) ((unknownF t a).1)), (16, .own cb87 1 pre87.length known.length), (20, .map c19), (127, (encL 2 encLex) t.words), (128, D.i (t.words.length : Int)), (129, D.i x2)]) [(c19, .raw (mapO vB m_125)), (cb87, .cells 1 (winL D.b pre87 known post87)), (c3, .cells 2 [encAttribution a]), (c2, .cells 2 [encText t]), (c1, .cells 4 [encCorpus c])]
  refine wpA_seq ?_
  refine wpA_region ?_
  refine wL (OpA.lss rfl rfl rfl ?_)
  refine wpL_nil ?_
  refine wpA_seq ?_
  refine wpA_cond rfl (fun b21 => ?_) (fun b21 => ?_)
  have h := h.1 (decT b21)
  refine wpA_skip ?_
  refine wpA_seq ?_
  refine wpA_block ?_
  refine wpA_seq ?_
  obtain ⟨q1, h⟩ := h
  refine wpA_region ?_
  refine wL (OpA.m ?_)
  refine wL (OpA.iixV (enc := encLex) rfl ts26 rfl rfl rfl q1 ?_)
  refine wL (OpA.iload_whole rfl ti50 rfl ⟨_, rfl, rfl⟩ ?_)
  refine wL (OpA.alloc (sz := 2) (d := encLex (Lexeme.mk ByteArray.empty 0)) rfl tz50 (fun _ _ => .agg (.cons (.v _) (.cons (.v _) .nil))) (.of rfl) (fun c22 _ => ?_))
  refine wL (OpA.a ?_)
  refine wE (OpA.storeW rfl ti50 rfl (by with_reducible conv => lhs; whnf) (.of rfl) rfl rfl .head ?_)
  refine wpL_nil ?_
  refine wpA_seq ?_
  obtain ⟨q1, h⟩ := h
  refine wpA_region ?_
  iterate 2 refine wL (OpA.m ?_)
  refine wL (OpA.ixV rfl ts64 rfl rfl q1 ?_)
  refine wL (OpA.load rfl ti4 rfl (.tail (.tail .head)) (getV (enc := D.b) q1) rfl ?_)
  refine wL (OpA.not rfl rfl ?_)
  refine wpL_nil ?_
  refine wpA_cond rfl (fun b23 => ?_) (fun b23 => ?_)
  have h := h.1 (notT b23)
  refine wpA_region ?_
  refine wL (OpA.m ?_)
  refine wL (OpA.fieldAddr rfl tf50_1 rfl ?_)
  refine wL (OpA.load rfl ti3 rfl .head rfl rfl ?_)
  refine wE (OpA.mapSet (vf := vB) (l := m_125) (v := true) rfl td65 td3 rfl rfl rfl (.tail .head) ?_)
  refine wpL_nil ?_
  obtain ⟨q1, h⟩ := h
  refine wpA_region ?_
  refine wL (OpA.addi rfl rfl rfl q1 ?_)
  refine wL (OpA.m ?_)
  refine wpL_nil ?_
  exact ⟨(), ((mset m_125 ((gi t.words x2).line) true), (x2 + 1)), h, (Cov.asg ⟨rfl, rfl, rfl, rfl, rfl, rfl, rfl, rfl, rfl, rfl, rfl, trivial⟩), (.cons _ (.refl _))⟩
  have h := h.2 (notF b23)
  refine wpA_skip ?_
  obtain ⟨q1, h⟩ := h
  refine wpA_region ?_
  refine wL (OpA.addi rfl rfl rfl q1 ?_)
  refine wL (OpA.m ?_)
  refine wpL_nil ?_
  exact ⟨(), (m_125, (x2 + 1)), h, (Cov.asg ⟨rfl, rfl, rfl, rfl, rfl, rfl, rfl, rfl, rfl, rfl, rfl, trivial⟩), (.cons _ (.refl _))⟩
  have h := h.2 (decF b21)
  refine wpA_exit ?_
  iterate 2 refine wpA_seq ?_
  refine wpA_region ?_
  refine wL (OpA.m ?_)
  refine wL (OpA.rangeMap (vf := vB) (l := m_125) rfl td65 rfl .head (fun c24 => ?_))
  refine wpL_nil ?_
  refine wpA_block ?_
  refine wpA_lfp (S := (List Nat)) (G := Unit) () (fun gg ss => asg [(3, (D.k .u8) percent), (4, .ptr c1 4 0 0), (5, .ptr c2 2 0 0), (6, .ptr c3 2 0 0), (8, D.b false), (11, (encL 3 encSpan) ((unknownF t a).1)), (20, .map c19), (144, .ptr c24 1 0 0)]) (fun gg ss => [(c24, .raw (itO c19 m_125.length ss)), (c19, .raw (mapO vB m_125)), (cb87, .cells 1 (winL D.b pre87 known post87)), (c3, .cells 2 [encAttribution a]), (c2, .cells 2 [encText t]), (c1, .cells 4 [encCorpus c])]) h (Cov.asg ⟨rfl, rfl, rfl, rfl, rfl, rfl, rfl, rfl, trivial⟩) (.refl _) ?_
  rintro again25 _ seen h
  have h : lawAdds_L5 c t a percent m_125 Q again25 seen := h
  unfold lawAdds_L5 at h
  show wpA _ _ _ _ (asg [(3, (D.k .u8) percent), (4, .ptr c1 4 0 0), (5, .ptr c2 2 0 0), (6, .ptr c3 2 0 0), (8, D.b false), (11, (encL 3 encSpan) ((unknownF t a).1)), (20, .map c19), (144, .ptr c24 1 0 0)]) [(c24, .raw (itO c19 m_125.length seen)), (c19, .raw (mapO vB m_125)), (cb87, .cells 1 (winL D.b pre87 known post87)), (c3, .cells 2 [encAttribution a]), (c2, .cells 2 [encText t]), (c1, .cells 4 [encCorpus c])]
  refine wpA_seq ?_
  refine wpA_region ?_
  refine wL (OpA.nextMap (vf := vB) (l := m_125) (seen := seen) rfl rfl (.tail .head) (fun _ => .head) (fun b26 => ?_) (fun at_ b27 b28 => ?_))
  have h := h.1 b26
  refine wL (OpA.extract rfl rfl rfl ?_)
  refine wpL_nil ?_
  refine wpA_seq ?_
  refine wpA_condF rfl ?_
  refine wpA_exit ?_
  refine wpA_seq ?_
  obtain ⟨q1, h⟩ := h
  refine wpA_region ?_
  refine wL (OpA.m ?_)
  refine wL (OpA.conv rfl td5 td3 rfl ?_)
  refine wL (OpA.remN rfl rfl rfl q1 ?_)
  refine wL (OpA.a ?_)
  refine wpL_nil ?_
  refine wpA_seq ?_
  obtain ⟨q1, q2, q3, h⟩ := h
  refine wpA_region ?_
  refine wL (OpA.load_whole rfl ti25 rfl rfl (.tail (.tail (.tail (.tail (.tail .head))))) rfl ⟨_, rfl⟩ ?_)
  refine wL (OpA.load_whole rfl ti28 rfl rfl (.tail (.tail (.tail (.tail .head)))) rfl ⟨_, rfl⟩ ?_)
  refine wL (OpA.load_whole rfl ti33 rfl rfl (.tail (.tail (.tail .head))) rfl ⟨_, rfl⟩ ?_)
  refine wL (OpA.m ?_)
  refine wL (OpA.call rfl rfl rfl en15 (tmain_c c t a ((IntKind.i64.wrap percent) % 100) q1 q2 q3) ?_)
  rintro _ rfl
  refine wL (OpA.m ?_)
  iterate 2 refine wL (OpA.extract rfl rfl rfl ?_)
  iterate 2 refine wL (OpA.a ?_)
  refine wpL_nil ?_
  refine wpA_seq ?_
  obtain ⟨q1, q2, q3, q4, h⟩ := h
  refine wpA_region ?_
  refine wL (OpA.load_whole rfl ti25 rfl rfl (.tail (.tail (.tail (.tail (.tail .head))))) rfl ⟨_, rfl⟩ ?_)
  refine wL (OpA.load_whole rfl ti28 rfl rfl (.tail (.tail (.tail (.tail .head)))) rfl ⟨_, rfl⟩ ?_)
  refine wL (OpA.load_whole rfl ti33 rfl rfl (.tail (.tail (.tail .head))) rfl ⟨_, rfl⟩ ?_)
  refine wL (OpA.m ?_)
  refine wL (OpA.addi rfl rfl rfl q1 ?_)
  refine wL (OpA.call rfl rfl rfl en15 (tmain_c c t a (((IntKind.i64.wrap percent) % 100) + 1) q2 q3 q4) ?_)
  rintro _ rfl
  refine wL (OpA.m ?_)
  iterate 2 refine wL (OpA.extract rfl rfl rfl ?_)
  iterate 2 refine wL (OpA.a ?_)
  refine wpL_nil ?_
  refine wpA_seq ?_
  obtain ⟨q1, q2, h⟩ := h
  refine wpA_mid (asg [(8, D.b (((countL ((unknownF t a).1)) == (m_125.length : Int)) && ((mainF c t a ((IntKind.i64.wrap percent) % 100)).2 || (!(mainF c t a (((IntKind.i64.wrap percent) % 100) + 1)).2))))]) [(c24, .raw (itO c19 m_125.length seen)), (c19, .raw (mapO vB m_125)), (cb87, .cells 1 (winL D.b pre87 known post87)), (c3, .cells 2 [encAttribution a]), (c2, .cells 2 [encText t]), (c1, .cells 4 [encCorpus c])] ?_ ?_
  refine wpA_region ?_
  refine wL (OpA.m ?_)
  refine wL (OpA.call rfl rfl rfl en29 (count_c ((unknownF t a).1) q1 q2) ?_)
  rintro _ rfl
  refine wL (OpA.m ?_)
  refine wL (OpA.mlen (vf := vB) (l := m_125) rfl rfl rfl rfl td65 rfl (.tail .head) ?_)
  refine wL (OpA.eql rfl rfl rfl ?_)
  refine wL (OpA.m ?_)
  refine wpL_split (s := 181) rfl (fun b29 => ?_) (fun b29 => ?_)
  iterate 2 refine wG (OpA.m ?_)
  refine wpL_split (s := 183) rfl (fun b30 => ?_) (fun b30 => ?_)
  iterate 2 refine wS ?_
  refine wG (OpA.p ?_)
  refine wL (OpA.p ?_)
  refine wL (OpA.a ?_)
  refine wpL_nil ?_
  exact ⟨(Cov.asg ⟨(congrArg D.b (Eq.symm (andN b29 (orS b30)))), trivial⟩), (.refl _)⟩
  refine wG (OpA.m ?_)
  refine wG (OpA.not rfl rfl ?_)
  refine wG (OpA.p ?_)
  refine wL (OpA.p ?_)
  refine wL (OpA.a ?_)
  refine wpL_nil ?_
  exact ⟨(Cov.asg ⟨(congrArg D.b (Eq.symm (andN b29 (orN b30 rfl)))), trivial⟩), (.refl _)⟩
  iterate 2 refine wS ?_
  iterate 2 refine wpL_skipU rfl rfl rfl rfl rfl ?_
  refine wS ?_
  refine wL (OpA.p ?_)
  refine wL (OpA.a ?_)
  refine wpL_nil ?_
  exact ⟨(Cov.asg ⟨(congrArg D.b (Eq.symm (andS b29))), trivial⟩), (.refl _)⟩
  show wpA _ _ _ _ (asg [(8, D.b (((countL ((unknownF t a).1)) == (m_125.length : Int)) && ((mainF c t a ((IntKind.i64.wrap percent) % 100)).2 || (!(mainF c t a (((IntKind.i64.wrap percent) % 100) + 1)).2))))]) [(c24, .raw (itO c19 m_125.length seen)), (c19, .raw (mapO vB m_125)), (cb87, .cells 1 (winL D.b pre87 known post87)), (c3, .cells 2 [encAttribution a]), (c2, .cells 2 [encText t]), (c1, .cells 4 [encCorpus c])]
  refine wpA_ret ?_
  exact ⟨_, (.tmp (d := D.b (((countL ((unknownF t a).1)) == (m_125.length : Int)) && ((mainF c t a ((IntKind.i64.wrap percent) % 100)).2 || (!(mainF c t a (((IntKind.i64.wrap percent) % 100) + 1)).2)))) rfl .nil), _, (.same rfl .nil), ⟨(((countL ((unknownF t a).1)) == (m_125.length : Int)) && ((mainF c t a ((IntKind.i64.wrap percent) % 100)).2 || (!(mainF c t a (((IntKind.i64.wrap percent) % 100) + 1)).2))), rfl, h⟩⟩
  have h := h.2 at_ b27 b28
  refine wL (OpA.extract rfl rfl rfl ?_)
  refine wpL_nil ?_
  refine wpA_seq ?_
  refine wpA_condT rfl ?_
  refine wpA_skip ?_
  refine wpA_block ?_
  refine wpA_seq ?_
  refine wpA_region ?_
  refine wL (OpA.entry (vf := vB) (l := m_125) (k := at_) rfl rfl (.tail .head) .head b27 ?_)
  refine wL (OpA.extract rfl rfl rfl ?_)
  refine wL (OpA.a ?_)
  refine wpL_nil ?_
  refine wpA_seq ?_
  obtain ⟨q1, q2, h⟩ := h
  refine wpA_region ?_
  refine wL (OpA.m ?_)
  refine wL (OpA.fieldAddr rfl tf28_0 rfl ?_)
  refine wL (OpA.load rfl ti9 rfl (.tail (.tail (.tail (.tail .head)))) rfl rfl ?_)
  refine wL (OpA.m ?_)
  refine wL (OpA.buildO (zs := [.v (.string ⟨#[]⟩), .v (.int .i64 0)]) rfl tp68 tz68 (fun _ _ => (.cons (.v _) (.cons (.v _) .nil))) (.cons (.of (sz := 1) rfl) (.cons (.of (sz := 1) rfl) .nil)) rfl ?_)
  refine wL (OpA.call rfl rfl rfl en28 (has_c ((unknownF t a).1) (Line.mk t.path ((gi m_125 (at_ : Int)).1)) q1 q2) ?_)
  rintro _ rfl
  refine wL (OpA.not rfl rfl ?_)
  refine wpL_nil ?_
  refine wpA_cond rfl (fun b31 => ?_) (fun b31 => ?_)
  have h := h.1 (notT b31)
  refine wpA_seq ?_
  refine wpA_region ?_
  refine wL (OpA.a ?_)
  refine wpL_nil ?_
  refine wpA_ret ?_
  exact ⟨_, (.tmp (d := D.b false) rfl .nil), _, (.same rfl .nil), ⟨false, rfl, h⟩⟩
  have h := h.2 (notF b31)
  refine wpA_skip ?_
  exact ⟨(), (seen ++ [at_]), h, (Cov.asg ⟨rfl, rfl, rfl, rfl, rfl, rfl, rfl, rfl, trivial⟩), (.refl _)⟩
theorem lawAdds_c (c : Corpus) (t : Text) (a : Attribution) (percent : Int)  (hp0 : inL percent 256) : Fun false Tryz.prog 9 [encCorpus c, encText t, encAttribution a, (D.k .u8) percent] (fun d => d = D.b (true)) :=
  Fun.at (enc := fun r => D.b r) (v := true) (lawAdds_w c t a percent  (fun r => r = true) (lawAdds_ok c t a percent _ hp0 rfl))
end Go.Proofs.YtaofnefejkokdaaGreatDoor
