/-
  walks and contracts
-/
import Derived.Test.YtaofnefejkokdaaGreatDoorV9
set_option linter.all false
namespace Go.Proofs.YtaofnefejkokdaaGreatDoor
open Go Go.Lic Go.Sort Go.Proofs
attribute [local irreducible] addF addP attrF badR behindF betR betterP blankF checkA checkF cmpB cmpI cmpL codeF countF countL fewC fewTs fewW findT gramsF growTF has1F hasF hashF indexF insideF leastF lenF longAF mainF maxF mergeF mul64F mulP nameR newF ofF orF packF partF pathB pathF pieceOk postCmp postLt postsF powF printsF pushF rangedF rightA rightCT rollF sameF selectF shareF sizeF smallF spanCmp splitF splitG srcF srcR textF unknownF validF validT



abbrev lawAssembled_e0 (c : Corpus) (runs : (List Piece)) (x : Int) := (lsub ((gi c.texts ((gmax ((gi runs x).text) [0]) % (c.texts.length : Int))).words) ((gmax ((gi runs x).from_) [0]) % ((((gi c.texts ((gmax ((gi runs x).text) [0]) % (c.texts.length : Int))).words).length : Int) + 1)) (((gmax ((gi runs x).from_) [0]) % ((((gi c.texts ((gmax ((gi runs x).text) [0]) % (c.texts.length : Int))).words).length : Int) + 1)) + ((gmax ((gi runs x).to) [0]) % (((((gi c.texts ((gmax ((gi runs x).text) [0]) % (c.texts.length : Int))).words).length : Int) - ((gmax ((gi runs x).from_) [0]) % ((((gi c.texts ((gmax ((gi runs x).text) [0]) % (c.texts.length : Int))).words).length : Int) + 1))) + 1))))
abbrev lawAssembled_e1 (c : Corpus) (xs : (List Lexeme)) (least : Int) (many : Int) := (((((attrF c (Text.mk (⟨#[116]⟩ : ByteArray) xs) (1 + ((IntKind.i64.wrap least) % 4))).2) == 0) && ((coverF ((attrF c (Text.mk (⟨#[116]⟩ : ByteArray) xs) (1 + ((IntKind.i64.wrap least) % 4))).1).pieces) == (xs.length : Int))) && (decide (((((attrF c (Text.mk (⟨#[116]⟩ : ByteArray) xs) (1 + ((IntKind.i64.wrap least) % 4))).1).pieces).length : Int) ≤ many)))
set_option maxHeartbeats 2000000 in
set_option maxRecDepth 10000 in
theorem lawAssembled_w (c : Corpus) (runs : (List Piece)) (least : Int)  (Q : Bool → Prop) (h : lawAssembled_vc c runs least Q) : Fun false Tryz.prog 6 [encCorpus c, (encL 4 encPiece) runs, (D.k .u8) least] (fun d => ∃ r, d = D.b r ∧ Q r) := by
  unfold lawAssembled_vc at h
  refine Fun.of_body Tryz.func6 rfl Tryz.ntmps6 rfl ?_
  refine wpA_seq ?_
  refine wpA_region ?_
  refine wL (OpA.bx (sz := 4) rfl (by with_reducible conv => lhs; whnf) (.of rfl) (fun c1 _ => ?_))
  refine wL (OpA.a ?_)
  refine wpL_nil ?_
  iterate 2 refine wpA_seq ?_
  refine wpA_region ?_
  refine wL (OpA.call rfl rfl rfl en10 (awake_c  ) ?_)
  rintro _ rfl
  refine wL (OpA.not rfl rfl ?_)
  refine wpL_nil ?_
  refine wpA_cond rfl (fun b2 => ?_) (fun b2 => ?_)
  have h := h.1 (notT b2)
  refine wpA_seq ?_
  refine wpA_region ?_
  refine wL (OpA.a ?_)
  refine wpL_nil ?_
  refine wpA_ret ?_
  exact ⟨_, (.tmp (d := D.b false) rfl .nil), _, (.same rfl .nil), ⟨false, rfl, h⟩⟩
  have h := h.2 (notF b2)
  refine wpA_skip ?_
  refine wpA_seq ?_
  obtain ⟨q1, q2, h⟩ := h
  refine wpA_region ?_
  refine wL (OpA.m ?_)
  refine wL (OpA.conv rfl td5 td3 rfl ?_)
  refine wL (OpA.remN rfl rfl rfl q1 ?_)
  refine wL (OpA.addi rfl rfl rfl q2 ?_)
  refine wL (OpA.a ?_)
  refine wpL_nil ?_
  iterate 2 refine wpA_seq ?_
  obtain ⟨q1, h⟩ := h
  refine wpA_mid (asg [(1, (encL 4 encPiece) runs), (3, .ptr c1 4 0 0), (6, D.b false), (7, D.i (1 + ((IntKind.i64.wrap least) % 4))), (43, D.b ((((!(fewC c)) || (decide ((runs.length : Int) > 8))) || ((checkF c) != 0)) || ((c.texts.length : Int) == 0)))]) [(c1, .cells 4 [encCorpus c])] ?_ ?_
  refine wpA_region ?_
  refine wL (OpA.load_whole rfl ti25 rfl rfl .head rfl ⟨_, rfl⟩ ?_)
  refine wL (OpA.call rfl rfl rfl en19 (c26few_c c ) ?_)
  rintro _ rfl
  refine wL (OpA.not rfl rfl ?_)
  refine wL (OpA.m ?_)
  refine wpL_split (s := 28) rfl (fun b18 => ?_) (fun b18 => ?_)
  iterate 3 refine wS ?_
  refine wL (OpA.p ?_)
  refine wL (OpA.m ?_)
  iterate 3 refine wS ?_
  refine wL (OpA.p ?_)
  refine wL (OpA.m ?_)
  iterate 4 refine wS ?_
  refine wL (OpA.p ?_)
  refine wpL_nil ?_
  exact ⟨(Cov.asg ⟨rfl, rfl, rfl, rfl, (congrArg D.b (Eq.symm (orS (orS (orS b18))))), trivial⟩), (.refl _)⟩
  refine wG (OpA.m ?_)
  refine wG (OpA.len rfl rfl rfl rfl ts31.desc (.inl ⟨_, _, rfl, (List.length_map _).symm⟩) ?_)
  refine wG (OpA.gtr rfl rfl rfl ?_)
  refine wL (OpA.p ?_)
  refine wL (OpA.m ?_)
  refine wpL_split (s := 33) rfl (fun b19 => ?_) (fun b19 => ?_)
  iterate 3 refine wS ?_
  refine wL (OpA.p ?_)
  refine wL (OpA.m ?_)
  iterate 4 refine wS ?_
  refine wL (OpA.p ?_)
  refine wpL_nil ?_
  exact ⟨(Cov.asg ⟨rfl, rfl, rfl, rfl, (congrArg D.b (Eq.symm (orS (orS (orN b18 b19))))), trivial⟩), (.refl _)⟩
  refine wG (OpA.load_whole rfl ti25 rfl rfl .head rfl ⟨_, rfl⟩ ?_)
  refine wG (OpA.call rfl rfl rfl en20 (ccheck_c c (q1 ⟨(notF b18), (decF b19)⟩)) ?_)
  rintro _ rfl
  refine wG (OpA.neq rfl rfl rfl ?_)
  refine wL (OpA.p ?_)
  refine wL (OpA.m ?_)
  refine wpL_split (s := 38) rfl (fun b20 => ?_) (fun b20 => ?_)
  iterate 4 refine wS ?_
  refine wL (OpA.p ?_)
  refine wpL_nil ?_
  exact ⟨(Cov.asg ⟨rfl, rfl, rfl, rfl, (congrArg D.b (Eq.symm (orS (orN (orN b18 b19) b20)))), trivial⟩), (.refl _)⟩
  refine wG (OpA.fieldAddr rfl tf25_2 rfl ?_)
  refine wG (OpA.load rfl ti22 rfl .head rfl rfl ?_)
  refine wG (OpA.len rfl rfl rfl rfl ts22.desc (.inl ⟨_, _, rfl, (List.length_map _).symm⟩) ?_)
  refine wG (OpA.eql rfl rfl rfl ?_)
  refine wL (OpA.p ?_)
  refine wpL_nil ?_
  exact ⟨(Cov.asg ⟨rfl, rfl, rfl, rfl, (congrArg D.b (Eq.symm (orN (orN (orN b18 b19) b20) rfl))), trivial⟩), (.refl _)⟩
  show wpA _ _ _ _ (asg [(1, (encL 4 encPiece) runs), (3, .ptr c1 4 0 0), (6, D.b false), (7, D.i (1 + ((IntKind.i64.wrap least) % 4))), (43, D.b ((((!(fewC c)) || (decide ((runs.length : Int) > 8))) || ((checkF c) != 0)) || ((c.texts.length : Int) == 0)))]) [(c1, .cells 4 [encCorpus c])]
  refine wpA_cond rfl (fun b3 => ?_) (fun b3 => ?_)
  have h := h.1 ((or0 b3).imp (fun hh => ((or0 hh).imp (fun hh => ((or0 hh).imp (fun hh => (notT hh)) (fun hh => (decT hh)))) (fun hh => (bneT hh)))) (fun hh => (beqT hh)))
  refine wpA_seq ?_
  refine wpA_region ?_
  refine wL (OpA.a ?_)
  refine wpL_nil ?_
  refine wpA_ret ?_
  exact ⟨_, (.tmp (d := D.b true) rfl .nil), _, (.same rfl .nil), ⟨true, rfl, h⟩⟩
  have h := h.2 ⟨⟨⟨(notF (or1 (or1 (or1 b3)))), (decF (or2 (or1 (or1 b3))))⟩, (bneF (or2 (or1 b3)))⟩, (beqF (or2 b3))⟩
  refine wpA_skip ?_
  refine wpA_seq ?_
  refine wpA_region ?_
  refine wL (OpA.buildO (zs := [.v (.string ⟨#[]⟩), .v (.slice none 0 0)]) rfl tp28 tz28 (fun _ _ => (.cons (.v _) (.cons (.v _) .nil))) (.cons (.of (sz := 1) rfl) .nil) rfl ?_)
  refine wL (OpA.alloc (sz := 2) (d := .agg ([D.s ByteArray.empty, .v (.slice none 0 0)])) rfl tz28 (fun _ _ => .agg (.cons (.v _) (.cons (.v _) .nil))) (.of rfl) (fun c4 _ => ?_))
  refine wE (OpA.storeW rfl ti28 rfl (by with_reducible conv => lhs; whnf) (.of rfl) rfl rfl .head ?_)
  refine wpL_nil ?_
  refine wpA_seq ?_
  refine wpA_region ?_
  refine wL (OpA.a ?_)
  refine wpL_nil ?_
  iterate 2 refine wpA_seq ?_
  refine wpA_region ?_
  refine wL (OpA.m ?_)
  refine wL (OpA.len rfl rfl rfl rfl ts31.desc (.inl ⟨_, _, rfl, (List.length_map _).symm⟩) ?_)
  refine wL (OpA.m ?_)
  refine wpL_nil ?_
  refine wpA_block ?_
  refine wpA_ghostM (c := c4) (sz1 := 2) (sz := 2) (es' := fun g5 => [.agg ([D.s (⟨#[116]⟩ : ByteArray), .own g5 2 ([] : List D).length ([] : List Lexeme).length])]) (fun _ => .head) (fun _ => (.same (.turn .nil))) (fun _ => rfl) (fun _ => by rintro d (_ | ⟨_, hd⟩); exact .of rfl; cases hd) (fun g5 => ?_)
  refine wpA_lfp (S := (List Lexeme) × Int × Int) (G := Nat × List D × List D) (g5, ([] : List D), ([] : List D)) (fun gg ss => asg [(3, .ptr c1 4 0 0), (6, D.b false), (7, D.i (1 + ((IntKind.i64.wrap least) % 4))), (8, .ptr c4 2 0 0), (9, D.i ss.2.1), (45, (encL 4 encPiece) runs), (46, D.i (runs.length : Int)), (47, D.i ss.2.2)]) (fun gg ss => [(gg.1, .cells 2 (winL encLex gg.2.1 ss.1 gg.2.2)), (c4, .cells 2 [.agg ([D.s (⟨#[116]⟩ : ByteArray), .own gg.1 2 gg.2.1.length ss.1.length])]), (c1, .cells 4 [encCorpus c])]) h (Cov.asg ⟨rfl, rfl, rfl, rfl, rfl, rfl, rfl, rfl, trivial⟩) (.refl _) ?_
  rintro again6 ⟨cbgh8, pregh8, postgh8⟩ ⟨xs, many, x⟩ h
  have h : lawAssembled_L1 c runs least Q again6 xs many x := h
  unfold lawAssembled_L1 at h
  show wpA _ _ _ _ (asg [(3, .ptr c1 4 0 0), (6, D.b false), (7, D.i (1 + ((IntKind.i64.wrap least) % 4))), (8, .ptr c4 2 0 0), (9, D.i many), (45, (encL 4 encPiece) runs), (46, D.i (runs.length : Int)), (47, D.i x)]) [(cbgh8, .cells 2 (winL encLex pregh8 xs postgh8)), (c4, .cells 2 [.agg ([D.s (⟨#[116]⟩ : ByteArray), .own cbgh8 2 pregh8.length xs.length])]), (c1, .cells 4 [encCorpus c])]
  refine wpA_seq ?_
  refine wpA_region ?_
  refine wL (OpA.lss rfl rfl rfl ?_)
  refine wpL_nil ?_
  refine wpA_seq ?_
  refine wpA_cond rfl (fun b7 => ?_) (fun b7 => ?_)
  have h := h.1 (decT b7)
  refine wpA_skip ?_
  refine wpA_seq ?_
  refine wpA_block ?_
  refine wpA_seq ?_
  obtain ⟨q1, h⟩ := h
  refine wpA_region ?_
  refine wL (OpA.iixV (enc := encPiece) rfl ts31 rfl rfl rfl q1 ?_)
  refine wL (OpA.iload_whole rfl ti48 rfl ⟨_, rfl, rfl⟩ ?_)
  refine wL (OpA.alloc (sz := 4) (d := encPiece (Piece.mk 0 0 0 0)) rfl tz48 (fun _ _ => .agg (.cons (.v _) (.cons (.v _) (.cons (.v _) (.cons (.v _) .nil))))) (.of rfl) (fun c8 _ => ?_))
  refine wE (OpA.storeW rfl ti48 rfl (by with_reducible conv => lhs; whnf) (.of rfl) rfl rfl .head ?_)
  refine wpL_nil ?_
  refine wpA_seq ?_
  obtain ⟨q1, q2, h⟩ := h
  refine wpA_draw (m := 13) mo (by kernel_rfl) rfl ?_
  refine dL (OpA.fieldAddr rfl tf25_2 rfl ⟨rfl, rfl⟩) ?_
  refine dL (OpA.load rfl ti22 rfl (.tail (.tail (.tail .head))) rfl rfl ⟨rfl, rfl⟩) ?_
  refine dL (OpA.fieldAddr rfl tf48_2 rfl ⟨rfl, rfl⟩) ?_
  refine dL (OpA.load rfl ti3 rfl .head rfl rfl ⟨rfl, rfl⟩) ?_
  refine dL (OpA.max (l := [_]) rfl rfl rfl rfl ⟨rfl, rfl⟩) ?_
  refine dL (OpA.fieldAddr rfl tf25_2 rfl ⟨rfl, rfl⟩) ?_
  refine dL (OpA.load rfl ti22 rfl (.tail (.tail (.tail .head))) rfl rfl ⟨rfl, rfl⟩) ?_
  refine dL (OpA.len rfl rfl rfl rfl ts22.desc (.inl ⟨_, _, rfl, (List.length_map _).symm⟩) ⟨rfl, rfl⟩) ?_
  refine dL (OpA.remN rfl rfl rfl q1 ⟨rfl, rfl⟩) ?_
  refine dL (OpA.iixV (enc := encText) rfl ts22 rfl rfl rfl q2 ⟨rfl, rfl⟩) ?_
  refine dL (OpA.ifieldAddr rfl tf28_1 rfl ⟨rfl, rfl⟩) ?_
  refine dL (OpA.iload rfl ti26 rfl rfl ⟨rfl, rfl⟩) ?_
  refine dL (OpA.a ⟨rfl, rfl⟩) ?_
  refine DetK.nil ?_
  refine wpL_nil ?_
  refine wpA_seq ?_
  obtain ⟨q1, q2, h⟩ := h
  refine wpA_region ?_
  refine wL (OpA.fieldAddr rfl tf48_0 rfl ?_)
  refine wL (OpA.load rfl ti3 rfl .head rfl rfl ?_)
  refine wL (OpA.max (l := [_]) rfl rfl rfl rfl ?_)
  refine wL (OpA.m ?_)
  refine wL (OpA.len rfl rfl rfl rfl ts26.desc (.inl ⟨_, _, rfl, (List.length_map _).symm⟩) ?_)
  refine wL (OpA.addi rfl rfl rfl q1 ?_)
  refine wL (OpA.remN rfl rfl rfl q2 ?_)
  refine wL (OpA.a ?_)
  refine wpL_nil ?_
  refine wpA_seq ?_
  obtain ⟨q1, q2, q3, q4, h⟩ := h
  refine wpA_region ?_
  refine wL (OpA.m ?_)
  refine wL (OpA.fieldAddr rfl tf48_1 rfl ?_)
  refine wL (OpA.load rfl ti3 rfl .head rfl rfl ?_)
  refine wL (OpA.max (l := [_]) rfl rfl rfl rfl ?_)
  refine wL (OpA.m ?_)
  refine wL (OpA.len rfl rfl rfl rfl ts26.desc (.inl ⟨_, _, rfl, (List.length_map _).symm⟩) ?_)
  refine wL (OpA.m ?_)
  refine wL (OpA.subi rfl rfl rfl q1 ?_)
  refine wL (OpA.addi rfl rfl rfl q2 ?_)
  refine wL (OpA.remN rfl rfl rfl q3 ?_)
  refine wL (OpA.addi rfl rfl rfl q4 ?_)
  refine wL (OpA.a ?_)
  refine wpL_nil ?_
  iterate 2 refine wpA_seq ?_
  obtain ⟨q1, h⟩ := h
  refine wpA_region ?_
  iterate 2 refine wL (OpA.m ?_)
  refine wL (OpA.subi rfl rfl rfl q1 ?_)
  refine wL (OpA.m ?_)
  refine wL (OpA.lss rfl rfl rfl ?_)
  refine wpL_nil ?_
  refine wpA_cond rfl (fun b9 => ?_) (fun b9 => ?_)
  have h := h.1 (decT b9)
  refine wpA_exit ?_
  obtain ⟨q1, h⟩ := h
  refine wpA_region ?_
  refine wL (OpA.addi rfl rfl rfl q1 ?_)
  refine wL (OpA.m ?_)
  refine wpL_nil ?_
  exact ⟨(cbgh8, pregh8, postgh8), (xs, many, (x + 1)), h, (Cov.asg ⟨rfl, rfl, rfl, rfl, rfl, rfl, rfl, rfl, trivial⟩), (.cons _ (.refl _))⟩
  have h := h.2 (decF b9)
  refine wpA_skip ?_
  refine wpA_seq ?_
  obtain ⟨q1, h⟩ := h
  refine wpA_region ?_
  refine wL (OpA.m ?_)
  refine wL (OpA.addi rfl rfl rfl q1 ?_)
  refine wL (OpA.a ?_)
  refine wpL_nil ?_
  refine wpA_seq ?_
  obtain ⟨q1, h⟩ := h
  refine wpA_region ?_
  iterate 3 refine wL (OpA.m ?_)
  refine wL (OpA.isliceV (enc := encLex) rfl ts26 rfl (.some rfl) (.some rfl) q1 ?_)
  refine wL (OpA.len rfl rfl rfl rfl ts26.desc (.inl ⟨_, _, rfl, (List.length_map _).symm⟩) ?_)
  refine wL (OpA.m ?_)
  refine wpL_nil ?_
  refine wpA_block ?_
  refine wpA_lfp (S := (List Lexeme) × Int) (G := Nat × List D × List D) (cbgh8, pregh8, postgh8) (fun gg ss => asg [(3, .ptr c1 4 0 0), (6, D.b false), (7, D.i (1 + ((IntKind.i64.wrap least) % 4))), (8, .ptr c4 2 0 0), (9, D.i (many + 1)), (45, (encL 4 encPiece) runs), (46, D.i (runs.length : Int)), (47, D.i x), (91, (encL 2 encLex) (lawAssembled_e0 c runs x)), (92, D.i ((lawAssembled_e0 c runs x).length : Int)), (93, D.i ss.2)]) (fun gg ss => [(c8, .cells 4 [encPiece (gi runs x)]), (gg.1, .cells 2 (winL encLex gg.2.1 ss.1 gg.2.2)), (c4, .cells 2 [.agg ([D.s (⟨#[116]⟩ : ByteArray), .own gg.1 2 gg.2.1.length ss.1.length])]), (c1, .cells 4 [encCorpus c])]) h (Cov.asg ⟨rfl, rfl, rfl, rfl, rfl, rfl, rfl, rfl, rfl, rfl, rfl, trivial⟩) (.refl _) ?_
  rintro again10 ⟨cbgh81, pregh81, postgh81⟩ ⟨xs1, x1⟩ h
  have h : lawAssembled_L2 c runs many x again6 again10 xs1 x1 := h
  unfold lawAssembled_L2 at h
  show wpA _ _ _ _ (asg [(3, .ptr c1 4 0 0), (6, D.b false), (7, D.i (1 + ((IntKind.i64.wrap least) % 4))), (8, .ptr c4 2 0 0), (9, D.i (many + 1)), (45, (encL 4 encPiece) runs), (46, D.i (runs.length : Int)), (47, D.i x), (91, (encL 2 encLex) (lawAssembled_e0 c runs x)), (92, D.i ((lawAssembled_e0 c runs x).length : Int)), (93, D.i x1)]) [(c8, .cells 4 [encPiece (gi runs x)]), (cbgh81, .cells 2 (winL encLex pregh81 xs1 postgh81)), (c4, .cells 2 [.agg ([D.s (⟨#[116]⟩ : ByteArray), .own cbgh81 2 pregh81.length xs1.length])]), (c1, .cells 4 [encCorpus c])]
  refine wpA_seq ?_
  refine wpA_region ?_
  refine wL (OpA.lss rfl rfl rfl ?_)
  refine wpL_nil ?_
  refine wpA_seq ?_
  refine wpA_cond rfl (fun b11 => ?_) (fun b11 => ?_)
  have h := h.1 (decT b11)
  refine wpA_skip ?_
  refine wpA_seq ?_
  refine wpA_block ?_
  refine wpA_seq ?_
  obtain ⟨q1, h⟩ := h
  refine wpA_region ?_
  refine wL (OpA.iixV (enc := encLex) rfl ts26 rfl rfl rfl q1 ?_)
  refine wL (OpA.iload_whole rfl ti50 rfl ⟨_, rfl, rfl⟩ ?_)
  refine wL (OpA.alloc (sz := 2) (d := encLex (Lexeme.mk ByteArray.empty 0)) rfl tz50 (fun _ _ => .agg (.cons (.v _) (.cons (.v _) .nil))) (.of rfl) (fun c12 _ => ?_))
  refine wE (OpA.storeW rfl ti50 rfl (by with_reducible conv => lhs; whnf) (.of rfl) rfl rfl .head ?_)
  refine wpL_nil ?_
  obtain ⟨q1, h⟩ := h
  refine wpA_region ?_
  refine wL (OpA.fieldAddr rfl tf28_1 rfl ?_)
  refine wL (OpA.load rfl ti26 rfl (.tail (.tail (.tail .head))) rfl rfl ?_)
  refine wL (OpA.fieldAddr rfl tf50_0 rfl ?_)
  refine wL (OpA.load rfl ti9 rfl .head rfl rfl ?_)
  refine wL (OpA.m ?_)
  refine wL (OpA.buildO (zs := [.v (.string ⟨#[]⟩), .v (.int .i64 0)]) rfl tp50 tz50 (fun _ _ => (.cons (.v _) (.cons (.v _) .nil))) (.cons (.of (sz := 1) rfl) (.cons (.of (sz := 1) rfl) .nil)) rfl ?_)
  refine wL (OpA.ibuildSliceO rfl ts26 rfl (.cons (.of (sz := 2) rfl) .nil) (by decide) ?_)
  refine wL (OpA.appendW (enc := encLex) rfl rfl rfl rfl ts26 rfl (fun _ _ => (.tail (.tail .head))) (.list (ys := ([(Lexeme.mk ((gi (lawAssembled_e0 c runs x) x1).text) (many + 1))] : List Lexeme))) q1 (fun c13 pre14 => ?_))
  refine wL (OpA.fieldAddr rfl tf28_1 rfl ?_)
  refine wE (OpA.store (e' := .agg ([D.s (⟨#[116]⟩ : ByteArray), .own c13 2 pre14.length (xs1 ++ ([(Lexeme.mk ((gi (lawAssembled_e0 c runs x) x1).text) (many + 1))] : List Lexeme)).length])) rfl ti26 rfl (.of rfl) rfl (Nat.le_of_ble_eq_true rfl) rfl (.tail (.tail (.tail .head))) ?_)
  refine wpL_nil ?_
  obtain ⟨q1, h⟩ := h
  refine wpA_region ?_
  refine wL (OpA.addi rfl rfl rfl q1 ?_)
  refine wL (OpA.m ?_)
  refine wpL_nil ?_
  exact ⟨(c13, pre14, ([] : List D)), ((xs1 ++ ([(Lexeme.mk ((gi (lawAssembled_e0 c runs x) x1).text) (many + 1))] : List Lexeme)), (x1 + 1)), h, (Cov.asg ⟨rfl, rfl, rfl, rfl, rfl, rfl, rfl, rfl, rfl, rfl, rfl, trivial⟩), (.cons _ (.refl _))⟩
  have h := h.2 (decF b11)
  refine wpA_exit ?_
  obtain ⟨q1, h⟩ := h
  refine wpA_region ?_
  refine wL (OpA.addi rfl rfl rfl q1 ?_)
  refine wL (OpA.m ?_)
  refine wpL_nil ?_
  exact ⟨(cbgh81, pregh81, postgh81), (xs1, (many + 1), (x + 1)), h, (Cov.asg ⟨rfl, rfl, rfl, rfl, rfl, rfl, rfl, rfl, trivial⟩), (.cons _ (.refl _))⟩
  have h := h.2 (decF b7)
  refine wpA_exit ?_
  refine wpA_seq ?_
  refine wpA_freezeB (es := [.agg ([D.s (⟨#[116]⟩ : ByteArray), .own cbgh8 2 pregh8.length xs.length])]) (es' := [encText (Text.mk (⟨#[116]⟩ : ByteArray) xs)]) (.refl _) (.same rfl (.win (enc := encLex) .head (by intro hf; cases hf) .nil)) (fun d hd => by rcases List.mem_singleton.1 hd with rfl; exact .of rfl) rfl ?_
  obtain ⟨q1, q2, h⟩ := h
  refine wpA_region ?_
  refine wL (OpA.load_whole rfl ti25 rfl rfl (.tail .head) rfl ⟨_, rfl⟩ ?_)
  refine wL (OpA.load_whole rfl ti28 rfl rfl .head rfl ⟨_, rfl⟩ ?_)
  refine wL (OpA.m ?_)
  refine wL (OpA.call rfl rfl rfl en12 (tof_c c (Text.mk (⟨#[116]⟩ : ByteArray) xs) (1 + ((IntKind.i64.wrap least) % 4)) q1 q2) ?_)
  rintro _ rfl
  refine wL (OpA.m ?_)
  iterate 2 refine wL (OpA.extract rfl rfl rfl ?_)
  refine wL (OpA.alloc (sz := 2) (d := .agg ([D.s ByteArray.empty, .v (.slice none 0 0)])) rfl tz33 (fun _ _ => .agg (.cons (.v _) (.cons (.v _) .nil))) (.of rfl) (fun c15 _ => ?_))
  refine wE (OpA.storeW rfl ti33 rfl (by with_reducible conv => lhs; whnf) (.of rfl) rfl rfl .head ?_)
  refine wL (OpA.a ?_)
  refine wpL_nil ?_
  refine wpA_seq ?_
  obtain ⟨q1, h⟩ := h
  refine wpA_mid (asg [(6, D.b (lawAssembled_e1 c xs least many))]) [(c15, .cells 2 [encAttribution ((attrF c (Text.mk (⟨#[116]⟩ : ByteArray) xs) (1 + ((IntKind.i64.wrap least) % 4))).1)]), (c4, .cells 2 [encText (Text.mk (⟨#[116]⟩ : ByteArray) xs)]), (c1, .cells 4 [encCorpus c])] ?_ ?_
  refine wpA_draw (m := 18) mo (by kernel_rfl) rfl ?_
  refine dL (OpA.m ⟨rfl, rfl⟩) ?_
  refine dL (OpA.eql rfl rfl rfl ⟨rfl, rfl⟩) ?_
  refine dL (OpA.m ⟨rfl, rfl⟩) ?_
  refine DetK_split (s := 117) rfl (fun b16 => ?_) (fun b16 => ?_)
  refine dG (OpA.load_whole rfl ti33 rfl rfl .head rfl ⟨_, rfl⟩ ⟨rfl, rfl⟩) ?_
  refine dG (OpA.call rfl rfl rfl en18 (lcover_c ((attrF c (Text.mk (⟨#[116]⟩ : ByteArray) xs) (1 + ((IntKind.i64.wrap least) % 4))).1) (q1 (beqT b16))) (by rintro _ rfl; exact ⟨rfl, rfl⟩)) ?_
  refine dG (OpA.fieldAddr rfl tf28_1 rfl ⟨rfl, rfl⟩) ?_
  refine dG (OpA.load rfl ti26 rfl (.tail .head) rfl rfl ⟨rfl, rfl⟩) ?_
  refine dG (OpA.len rfl rfl rfl rfl ts26.desc (.inl ⟨_, _, rfl, (List.length_map _).symm⟩) ⟨rfl, rfl⟩) ?_
  refine dG (OpA.eql rfl rfl rfl ⟨rfl, rfl⟩) ?_
  refine dL (OpA.p ⟨rfl, rfl⟩) ?_
  refine dL (OpA.m ⟨rfl, rfl⟩) ?_
  refine DetK_split (s := 125) rfl (fun b17 => ?_) (fun b17 => ?_)
  refine dG (OpA.fieldAddr rfl tf33_1 rfl ⟨rfl, rfl⟩) ?_
  refine dG (OpA.load rfl ti31 rfl .head rfl rfl ⟨rfl, rfl⟩) ?_
  refine dG (OpA.len rfl rfl rfl rfl ts31.desc (.inl ⟨_, _, rfl, (List.length_map _).symm⟩) ⟨rfl, rfl⟩) ?_
  refine dG (OpA.m ⟨rfl, rfl⟩) ?_
  refine dG (OpA.leq rfl rfl rfl ⟨rfl, rfl⟩) ?_
  refine dL (OpA.p ⟨rfl, rfl⟩) ?_
  refine dL (OpA.a ⟨rfl, rfl⟩) ?_
  refine DetK.nil ?_
  refine wpL_nil ?_
  exact ⟨(Cov.asg ⟨(congrArg D.b (Eq.symm (andN (andN b16 b17) rfl))), trivial⟩), (.refl _)⟩
  iterate 5 refine dS ?_
  refine dL (OpA.p ⟨rfl, rfl⟩) ?_
  refine dL (OpA.a ⟨rfl, rfl⟩) ?_
  refine DetK.nil ?_
  refine wpL_nil ?_
  exact ⟨(Cov.asg ⟨(congrArg D.b (Eq.symm (andS (andN b16 b17)))), trivial⟩), (.refl _)⟩
  iterate 6 refine dS ?_
  refine dL (OpA.p ⟨rfl, rfl⟩) ?_
  refine dL (OpA.m ⟨rfl, rfl⟩) ?_
  iterate 5 refine dS ?_
  refine dL (OpA.p ⟨rfl, rfl⟩) ?_
  refine dL (OpA.a ⟨rfl, rfl⟩) ?_
  refine DetK.nil ?_
  refine wpL_nil ?_
  exact ⟨(Cov.asg ⟨(congrArg D.b (Eq.symm (andS (andS b16)))), trivial⟩), (.refl _)⟩
  show wpA _ _ _ _ (asg [(6, D.b (lawAssembled_e1 c xs least many))]) [(c15, .cells 2 [encAttribution ((attrF c (Text.mk (⟨#[116]⟩ : ByteArray) xs) (1 + ((IntKind.i64.wrap least) % 4))).1)]), (c4, .cells 2 [encText (Text.mk (⟨#[116]⟩ : ByteArray) xs)]), (c1, .cells 4 [encCorpus c])]
  refine wpA_ret ?_
  exact ⟨_, (.tmp (d := D.b (lawAssembled_e1 c xs least many)) rfl .nil), _, (.same rfl .nil), ⟨(lawAssembled_e1 c xs least many), rfl, h⟩⟩
theorem lawAssembled_c (c : Corpus) (runs : (List Piece)) (least : Int)  (hp0 : inL least 256) : Fun false Tryz.prog 6 [encCorpus c, (encL 4 encPiece) runs, (D.k .u8) least] (fun d => d = D.b (true)) :=
  Fun.at (enc := fun r => D.b r) (v := true) (lawAssembled_w c runs least  (fun r => r = true) (lawAssembled_ok c runs least _ hp0 rfl))
end Go.Proofs.YtaofnefejkokdaaGreatDoor
