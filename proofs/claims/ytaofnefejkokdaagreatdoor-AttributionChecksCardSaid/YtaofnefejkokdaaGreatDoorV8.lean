/-
  walks and contracts
-/
import Derived.Test.YtaofnefejkokdaaGreatDoorV7
set_option maxRecDepth 10000
set_option maxHeartbeats 2000000
set_option linter.all false
namespace Go.Proofs.YtaofnefejkokdaaGreatDoor
open Go Go.Lic Go.Sort Go.Proofs
attribute [local irreducible] addF addP attrF badR behindF betR betterP blankF checkA checkF cmpB cmpI cmpL codeF countF countL fewC fewTs fewW findT gramsF growTF has1F hasF hashF indexF insideF leastF lenF longAF mainF maxF mergeF mul64F mulP nameR newF ofF orF packF partF pathB pathF pieceOk postCmp postLt postsF powF printsF pushF rangedF rightA rightCT rollF sameF selectF shareF sizeF smallF spanCmp splitF splitG srcF srcR textF unknownF validF validT
theorem rright_w (c : Corpus) (t : Text) (least : Int) (Q : Int → Prop) (h : rright_vc c t least Q) : Fun false Tryz.prog 41 [encCorpus c, encText t, D.i least] (fun d => ∃ r, d = D.i r ∧ Q r) := by
 unfold rright_vc at h
 refine Fun.of_body Tryz.func41 rfl Tryz.ntmps41 rfl ?_
 refine wpA_seq ?_
 refine wpA_region ?_
 refine wL (OpA.bx (sz := 4) rfl (by with_reducible conv => lhs; whnf) (.of rfl) (fun c1 _ => ?_))
 refine wL (OpA.bx (sz := 2) rfl (by with_reducible conv => lhs; whnf) (.of rfl) (fun c2 _ => ?_))
 refine wL (OpA.a ?_)
 refine wpL_nil ?_
 iterate 2 refine wpA_seq ?_
 obtain ⟨q1, q2, h⟩ := h
 refine wpA_mid (asg [(2, D.i least), (6, D.i 0), (14, D.b (((checkF c) != 0) || (!(validT t))))]) [(c2, .cells 2 [encText t]), (c1, .cells 4 [encCorpus c])] ?_ ?_
 refine wpA_region ?_
 refine wL (OpA.load_whole rfl ti25 rfl rfl (.tail .head) rfl ⟨_, rfl⟩ ?_)
 refine wL (OpA.call rfl rfl rfl en68 (c26check_c c q1) ?_)
 rintro _ rfl
 refine wL (OpA.neq rfl rfl rfl ?_)
 refine wL (OpA.m ?_)
 refine wpL_split (s := 10) rfl (fun b6 => ?_) (fun b6 => ?_)
 iterate 3 refine wS ?_
 refine wL (OpA.p ?_)
 refine wpL_nil ?_
 exact ⟨(Cov.asg ⟨rfl, rfl, (congrArg D.b (Eq.symm (orS b6))), trivial⟩), (.refl _)⟩
 refine wG (OpA.load_whole rfl ti28 rfl rfl .head rfl ⟨_, rfl⟩ ?_)
 refine wG (OpA.call rfl rfl rfl en55 (n23valid_c t (q2 (bneF b6))) ?_)
 rintro _ rfl
 refine wG (OpA.not rfl rfl ?_)
 refine wL (OpA.p ?_)
 refine wpL_nil ?_
 exact ⟨(Cov.asg ⟨rfl, rfl, (congrArg D.b (Eq.symm (orN b6 rfl))), trivial⟩), (.refl _)⟩
 show wpA _ _ _ _ (asg [(2, D.i least), (6, D.i 0), (14, D.b (((checkF c) != 0) || (!(validT t))))]) [(c2, .cells 2 [encText t]), (c1, .cells 4 [encCorpus c])]
 refine wpA_cond rfl (fun b3 => ?_) (fun b3 => ?_)
 have h := h.1 ((or0 b3).imp (fun hh => (bneT hh)) (fun hh => (notT hh)))
 refine wpA_seq ?_
 refine wpA_region ?_
 refine wL (OpA.a ?_)
 refine wpL_nil ?_
 refine wpA_ret ?_
 exact ⟨_, (.tmp (d := D.i 1) rfl .nil), _, (.same rfl .nil), ⟨1, rfl, h⟩⟩
 have h := h.2 ⟨(bneF (or1 b3)), (notF (or2 b3))⟩
 refine wpA_skip ?_
 iterate 2 refine wpA_seq ?_
 refine wpA_mid (asg [(6, D.i 0), (20, D.b ((decide (least < 1)) || (decide (least > 8192))))]) [(c2, .cells 2 [encText t]), (c1, .cells 4 [encCorpus c])] ?_ ?_
 refine wpA_region ?_
 refine wL (OpA.m ?_)
 refine wL (OpA.lss rfl rfl rfl ?_)
 refine wL (OpA.m ?_)
 refine wpL_split (s := 17) rfl (fun b5 => ?_) (fun b5 => ?_)
 iterate 2 refine wS ?_
 refine wL (OpA.p ?_)
 refine wpL_nil ?_
 exact ⟨(Cov.asg ⟨rfl, (congrArg D.b (Eq.symm (orS b5))), trivial⟩), (.refl _)⟩
 refine wG (OpA.m ?_)
 refine wG (OpA.gtr rfl rfl rfl ?_)
 refine wL (OpA.p ?_)
 refine wpL_nil ?_
 exact ⟨(Cov.asg ⟨rfl, (congrArg D.b (Eq.symm (orN b5 rfl))), trivial⟩), (.refl _)⟩
 show wpA _ _ _ _ (asg [(6, D.i 0), (20, D.b ((decide (least < 1)) || (decide (least > 8192))))]) [(c2, .cells 2 [encText t]), (c1, .cells 4 [encCorpus c])]
 refine wpA_cond rfl (fun b4 => ?_) (fun b4 => ?_)
 have h := h.1 ((or0 b4).imp (fun hh => (decT hh)) (fun hh => (decT hh)))
 refine wpA_seq ?_
 refine wpA_region ?_
 refine wL (OpA.a ?_)
 refine wpL_nil ?_
 refine wpA_ret ?_
 exact ⟨_, (.tmp (d := D.i 3) rfl .nil), _, (.same rfl .nil), ⟨3, rfl, h⟩⟩
 have h := h.2 ⟨(decF (or1 b4)), (decF (or2 b4))⟩
 refine wpA_skip ?_
 refine wpA_seq ?_
 refine wpA_region ?_
 refine wL (OpA.a ?_)
 refine wpL_nil ?_
 refine wpA_ret ?_
 exact ⟨_, (.tmp (d := D.i 0) rfl .nil), _, (.same rfl .nil), ⟨0, rfl, h⟩⟩
theorem rright_c (c : Corpus) (t : Text) (least : Int) (hp0 : okC c) (hp1 : okT t) : Fun false Tryz.prog 41 [encCorpus c, encText t, D.i least] (fun d => d = D.i (rightA c t least)) :=
 Fun.at (enc := fun r => D.i r) (v := rightA c t least) (rright_w c t least  (fun r => r = rightA c t least) (rright_ok c t least _ hp0 hp1 rfl))
theorem rrightp_w (c : Corpus) (t : Text) (least : Int) (x : Piece) (Q : Bool → Prop) (h : rrightp_vc c t least x Q) : Fun false Tryz.prog 57 [encCorpus c, encText t, D.i least, encPiece x] (fun d => ∃ r, d = D.b r ∧ Q r) := by
 unfold rrightp_vc at h
 refine Fun.of_body Tryz.func57 rfl Tryz.ntmps57 rfl ?_
 refine wpA_seq ?_
 refine wpA_region ?_
 refine wL (OpA.bx (sz := 4) rfl (by with_reducible conv => lhs; whnf) (.of rfl) (fun c1 _ => ?_))
 refine wL (OpA.bx (sz := 2) rfl (by with_reducible conv => lhs; whnf) (.of rfl) (fun c2 _ => ?_))
 refine wL (OpA.bx (sz := 4) rfl (by with_reducible conv => lhs; whnf) (.of rfl) (fun c3 _ => ?_))
 refine wL (OpA.a ?_)
 refine wpL_nil ?_
 iterate 2 refine wpA_seq ?_
 obtain ⟨q1, h⟩ := h
 refine wpA_mid (asg [(4, .ptr c1 4 0 0), (5, .ptr c2 2 0 0), (7, .ptr c3 4 0 0), (8, D.b false), (55, D.b (((((((decide (x.from_ < 0)) || (decide (x.from_ ≥ x.to))) || (decide (x.to > (t.words.length : Int)))) || (decide ((x.to - x.from_) < least))) || (decide (x.text < 0))) || (decide (x.text ≥ (c.texts.length : Int)))) || (decide (x.at_ < 0))))]) [(c3, .cells 4 [encPiece x]), (c2, .cells 2 [encText t]), (c1, .cells 4 [encCorpus c])] ?_ ?_
 refine wpA_region ?_
 refine wL (OpA.fieldAddr rfl tf48_0 rfl ?_)
 refine wL (OpA.load rfl ti3 rfl .head rfl rfl ?_)
 refine wL (OpA.lss rfl rfl rfl ?_)
 refine wL (OpA.m ?_)
 refine wpL_split (s := 14) rfl (fun b9 => ?_) (fun b9 => ?_)
 iterate 5 refine wS ?_
 refine wL (OpA.p ?_)
 refine wL (OpA.m ?_)
 iterate 6 refine wS ?_
 refine wL (OpA.p ?_)
 refine wL (OpA.m ?_)
 iterate 7 refine wS ?_
 refine wL (OpA.p ?_)
 refine wL (OpA.m ?_)
 iterate 3 refine wS ?_
 refine wL (OpA.p ?_)
 refine wL (OpA.m ?_)
 iterate 6 refine wS ?_
 refine wL (OpA.p ?_)
 refine wL (OpA.m ?_)
 iterate 3 refine wS ?_
 refine wL (OpA.p ?_)
 refine wpL_nil ?_
 exact ⟨(Cov.asg ⟨rfl, rfl, rfl, rfl, (congrArg D.b (Eq.symm (orS (orS (orS (orS (orS (orS b9)))))))), trivial⟩), (.refl _)⟩
 refine wG (OpA.fieldAddr rfl tf48_0 rfl ?_)
 refine wG (OpA.load rfl ti3 rfl .head rfl rfl ?_)
 refine wG (OpA.fieldAddr rfl tf48_1 rfl ?_)
 refine wG (OpA.load rfl ti3 rfl .head rfl rfl ?_)
 refine wG (OpA.geq rfl rfl rfl ?_)
 refine wL (OpA.p ?_)
 refine wL (OpA.m ?_)
 refine wpL_split (s := 21) rfl (fun b10 => ?_) (fun b10 => ?_)
 iterate 6 refine wS ?_
 refine wL (OpA.p ?_)
 refine wL (OpA.m ?_)
 iterate 7 refine wS ?_
 refine wL (OpA.p ?_)
 refine wL (OpA.m ?_)
 iterate 3 refine wS ?_
 refine wL (OpA.p ?_)
 refine wL (OpA.m ?_)
 iterate 6 refine wS ?_
 refine wL (OpA.p ?_)
 refine wL (OpA.m ?_)
 iterate 3 refine wS ?_
 refine wL (OpA.p ?_)
 refine wpL_nil ?_
 exact ⟨(Cov.asg ⟨rfl, rfl, rfl, rfl, (congrArg D.b (Eq.symm (orS (orS (orS (orS (orS (orN b9 b10)))))))), trivial⟩), (.refl _)⟩
 refine wG (OpA.fieldAddr rfl tf48_1 rfl ?_)
 refine wG (OpA.load rfl ti3 rfl .head rfl rfl ?_)
 refine wG (OpA.fieldAddr rfl tf28_1 rfl ?_)
 refine wG (OpA.load rfl ti26 rfl (.tail .head) rfl rfl ?_)
 refine wG (OpA.len rfl rfl rfl rfl ts26.desc (.inl ⟨_, _, rfl, (List.length_map _).symm⟩) ?_)
 refine wG (OpA.gtr rfl rfl rfl ?_)
 refine wL (OpA.p ?_)
 refine wL (OpA.m ?_)
 refine wpL_split (s := 29) rfl (fun b11 => ?_) (fun b11 => ?_)
 iterate 7 refine wS ?_
 refine wL (OpA.p ?_)
 refine wL (OpA.m ?_)
 iterate 3 refine wS ?_
 refine wL (OpA.p ?_)
 refine wL (OpA.m ?_)
 iterate 6 refine wS ?_
 refine wL (OpA.p ?_)
 refine wL (OpA.m ?_)
 iterate 3 refine wS ?_
 refine wL (OpA.p ?_)
 refine wpL_nil ?_
 exact ⟨(Cov.asg ⟨rfl, rfl, rfl, rfl, (congrArg D.b (Eq.symm (orS (orS (orS (orS (orN (orN b9 b10) b11))))))), trivial⟩), (.refl _)⟩
 refine wG (OpA.fieldAddr rfl tf48_1 rfl ?_)
 refine wG (OpA.load rfl ti3 rfl .head rfl rfl ?_)
 refine wG (OpA.fieldAddr rfl tf48_0 rfl ?_)
 refine wG (OpA.load rfl ti3 rfl .head rfl rfl ?_)
 refine wG (OpA.subi rfl rfl rfl (q1 ⟨⟨(decF b9), (decF b10)⟩, (decF b11)⟩) ?_)
 refine wG (OpA.m ?_)
 refine wG (OpA.lss rfl rfl rfl ?_)
 refine wL (OpA.p ?_)
 refine wL (OpA.m ?_)
 refine wpL_split (s := 38) rfl (fun b12 => ?_) (fun b12 => ?_)
 iterate 3 refine wS ?_
 refine wL (OpA.p ?_)
 refine wL (OpA.m ?_)
 iterate 6 refine wS ?_
 refine wL (OpA.p ?_)
 refine wL (OpA.m ?_)
 iterate 3 refine wS ?_
 refine wL (OpA.p ?_)
 refine wpL_nil ?_
 exact ⟨(Cov.asg ⟨rfl, rfl, rfl, rfl, (congrArg D.b (Eq.symm (orS (orS (orS (orN (orN (orN b9 b10) b11) b12)))))), trivial⟩), (.refl _)⟩
 refine wG (OpA.fieldAddr rfl tf48_2 rfl ?_)
 refine wG (OpA.load rfl ti3 rfl .head rfl rfl ?_)
 refine wG (OpA.lss rfl rfl rfl ?_)
 refine wL (OpA.p ?_)
 refine wL (OpA.m ?_)
 refine wpL_split (s := 43) rfl (fun b13 => ?_) (fun b13 => ?_)
 iterate 6 refine wS ?_
 refine wL (OpA.p ?_)
 refine wL (OpA.m ?_)
 iterate 3 refine wS ?_
 refine wL (OpA.p ?_)
 refine wpL_nil ?_
 exact ⟨(Cov.asg ⟨rfl, rfl, rfl, rfl, (congrArg D.b (Eq.symm (orS (orS (orN (orN (orN (orN b9 b10) b11) b12) b13))))), trivial⟩), (.refl _)⟩
 refine wG (OpA.fieldAddr rfl tf48_2 rfl ?_)
 refine wG (OpA.load rfl ti3 rfl .head rfl rfl ?_)
 refine wG (OpA.fieldAddr rfl tf25_2 rfl ?_)
 refine wG (OpA.load rfl ti22 rfl (.tail (.tail .head)) rfl rfl ?_)
 refine wG (OpA.len rfl rfl rfl rfl ts22.desc (.inl ⟨_, _, rfl, (List.length_map _).symm⟩) ?_)
 refine wG (OpA.geq rfl rfl rfl ?_)
 refine wL (OpA.p ?_)
 refine wL (OpA.m ?_)
 refine wpL_split (s := 51) rfl (fun b14 => ?_) (fun b14 => ?_)
 iterate 3 refine wS ?_
 refine wL (OpA.p ?_)
 refine wpL_nil ?_
 exact ⟨(Cov.asg ⟨rfl, rfl, rfl, rfl, (congrArg D.b (Eq.symm (orS (orN (orN (orN (orN (orN b9 b10) b11) b12) b13) b14)))), trivial⟩), (.refl _)⟩
 refine wG (OpA.fieldAddr rfl tf48_3 rfl ?_)
 refine wG (OpA.load rfl ti3 rfl .head rfl rfl ?_)
 refine wG (OpA.lss rfl rfl rfl ?_)
 refine wL (OpA.p ?_)
 refine wpL_nil ?_
 exact ⟨(Cov.asg ⟨rfl, rfl, rfl, rfl, (congrArg D.b (Eq.symm (orN (orN (orN (orN (orN (orN b9 b10) b11) b12) b13) b14) rfl))), trivial⟩), (.refl _)⟩
 show wpA _ _ _ _ (asg [(4, .ptr c1 4 0 0), (5, .ptr c2 2 0 0), (7, .ptr c3 4 0 0), (8, D.b false), (55, D.b (((((((decide (x.from_ < 0)) || (decide (x.from_ ≥ x.to))) || (decide (x.to > (t.words.length : Int)))) || (decide ((x.to - x.from_) < least))) || (decide (x.text < 0))) || (decide (x.text ≥ (c.texts.length : Int)))) || (decide (x.at_ < 0))))]) [(c3, .cells 4 [encPiece x]), (c2, .cells 2 [encText t]), (c1, .cells 4 [encCorpus c])]
 refine wpA_cond rfl (fun b4 => ?_) (fun b4 => ?_)
 have h := h.1 ((or0 b4).imp (fun hh => ((or0 hh).imp (fun hh => ((or0 hh).imp (fun hh => ((or0 hh).imp (fun hh => ((or0 hh).imp (fun hh => ((or0 hh).imp (fun hh => (decT hh)) (fun hh => (decT hh)))) (fun hh => (decT hh)))) (fun hh => (decT hh)))) (fun hh => (decT hh)))) (fun hh => (decT hh)))) (fun hh => (decT hh)))
 refine wpA_seq ?_
 refine wpA_region ?_
 refine wL (OpA.a ?_)
 refine wpL_nil ?_
 refine wpA_ret ?_
 exact ⟨_, (.tmp (d := D.b false) rfl .nil), _, (.same rfl .nil), ⟨false, rfl, h⟩⟩
 have h := h.2 ⟨⟨⟨⟨⟨⟨(decF (or1 (or1 (or1 (or1 (or1 (or1 b4))))))), (decF (or2 (or1 (or1 (or1 (or1 (or1 b4)))))))⟩, (decF (or2 (or1 (or1 (or1 (or1 b4))))))⟩, (decF (or2 (or1 (or1 (or1 b4)))))⟩, (decF (or2 (or1 (or1 b4))))⟩, (decF (or2 (or1 b4)))⟩, (decF (or2 b4))⟩
 refine wpA_skip ?_
 refine wpA_seq ?_
 obtain ⟨q1, h⟩ := h
 refine wpA_region ?_
 refine wL (OpA.fieldAddr rfl tf25_2 rfl ?_)
 refine wL (OpA.load rfl ti22 rfl (.tail (.tail .head)) rfl rfl ?_)
 refine wL (OpA.fieldAddr rfl tf48_2 rfl ?_)
 refine wL (OpA.load rfl ti3 rfl .head rfl rfl ?_)
 refine wL (OpA.iixV (enc := encText) rfl ts22 rfl rfl rfl q1 ?_)
 refine wL (OpA.ifieldAddr rfl tf28_1 rfl ?_)
 refine wL (OpA.iload rfl ti26 rfl rfl ?_)
 refine wL (OpA.a ?_)
 refine wpL_nil ?_
 iterate 2 refine wpA_seq ?_
 refine wpA_region ?_
 refine wL (OpA.a ?_)
 refine wpL_nil ?_
 refine wpA_block ?_
 refine wpA_lfp (S := Int) (G := Unit) () (fun gg ss => asg [(5, .ptr c2 2 0 0), (7, .ptr c3 4 0 0), (8, D.b false), (9, (encL 2 encLex) ((gi c.texts x.text).words)), (10, D.i ss)]) (fun gg ss => [(c3, .cells 4 [encPiece x]), (c2, .cells 2 [encText t]), (c1, .cells 4 [encCorpus c])]) h (Cov.asg ⟨rfl, rfl, rfl, rfl, rfl, trivial⟩) (.refl _) ?_
 rintro again5 _ i h
 have h : rrightp_L1 c t x Q again5 i := h
 unfold rrightp_L1 at h
 show wpA _ _ _ _ (asg [(5, .ptr c2 2 0 0), (7, .ptr c3 4 0 0), (8, D.b false), (9, (encL 2 encLex) ((gi c.texts x.text).words)), (10, D.i i)]) [(c3, .cells 4 [encPiece x]), (c2, .cells 2 [encText t]), (c1, .cells 4 [encCorpus c])]
 iterate 2 refine wpA_seq ?_
 obtain ⟨q1, h⟩ := h
 refine wpA_region ?_
 refine wL (OpA.m ?_)
 refine wL (OpA.fieldAddr rfl tf48_1 rfl ?_)
 refine wL (OpA.load rfl ti3 rfl .head rfl rfl ?_)
 refine wL (OpA.fieldAddr rfl tf48_0 rfl ?_)
 refine wL (OpA.load rfl ti3 rfl .head rfl rfl ?_)
 refine wL (OpA.subi rfl rfl rfl q1 ?_)
 refine wL (OpA.lss rfl rfl rfl ?_)
 refine wpL_nil ?_
 refine wpA_cond rfl (fun b6 => ?_) (fun b6 => ?_)
 have h := h.1 (decT b6)
 refine wpA_skip ?_
 refine wpA_seq ?_
 refine wpA_block ?_
 refine wpA_seq ?_
 obtain ⟨q1, q2, h⟩ := h
 refine wpA_mid (asg [(5, .ptr c2 2 0 0), (7, .ptr c3 4 0 0), (8, D.b false), (9, (encL 2 encLex) ((gi c.texts x.text).words)), (10, D.i i), (98, D.b ((decide (x.at_ ≥ ((((gi c.texts x.text).words).length : Int) - i))) || (!decide ((gi ((gi c.texts x.text).words) (x.at_ + i)).text = (gi t.words (x.from_ + i)).text))))]) [(c3, .cells 4 [encPiece x]), (c2, .cells 2 [encText t]), (c1, .cells 4 [encCorpus c])] ?_ ?_
 refine wpA_draw (m := 27) mo (by kernel_rfl) rfl ?_
 refine dL (OpA.fieldAddr rfl tf48_3 rfl ⟨rfl, rfl⟩) ?_
 refine dL (OpA.load rfl ti3 rfl .head rfl rfl ⟨rfl, rfl⟩) ?_
 refine dL (OpA.m ⟨rfl, rfl⟩) ?_
 refine dL (OpA.len rfl rfl rfl rfl ts26.desc (.inl ⟨_, _, rfl, (List.length_map _).symm⟩) ⟨rfl, rfl⟩) ?_
 refine dL (OpA.m ⟨rfl, rfl⟩) ?_
 refine dL (OpA.subi rfl rfl rfl q1 ⟨rfl, rfl⟩) ?_
 refine dL (OpA.geq rfl rfl rfl ⟨rfl, rfl⟩) ?_
 refine dL (OpA.m ⟨rfl, rfl⟩) ?_
 refine DetK_split (s := 79) rfl (fun b8 => ?_) (fun b8 => ?_)
 iterate 18 refine dS ?_
 refine dL (OpA.p ⟨rfl, rfl⟩) ?_
 refine DetK.nil ?_
 refine wpL_nil ?_
 exact ⟨(Cov.asg ⟨rfl, rfl, rfl, rfl, rfl, (congrArg D.b (Eq.symm (orS b8))), trivial⟩), (.refl _)⟩
 refine dG (OpA.m ⟨rfl, rfl⟩) ?_
 refine dG (OpA.fieldAddr rfl tf48_3 rfl ⟨rfl, rfl⟩) ?_
 refine dG (OpA.load rfl ti3 rfl .head rfl rfl ⟨rfl, rfl⟩) ?_
 refine dG (OpA.m ⟨rfl, rfl⟩) ?_
 refine dG (OpA.addi rfl rfl rfl (q2 (decF b8)).1 ⟨rfl, rfl⟩) ?_
 refine dG (OpA.iixV (enc := encLex) rfl ts26 rfl rfl rfl (q2 (decF b8)).2.1 ⟨rfl, rfl⟩) ?_
 refine dG (OpA.ifieldAddr rfl tf50_0 rfl ⟨rfl, rfl⟩) ?_
 refine dG (OpA.iload rfl ti9 rfl rfl ⟨rfl, rfl⟩) ?_
 refine dG (OpA.fieldAddr rfl tf28_1 rfl ⟨rfl, rfl⟩) ?_
 refine dG (OpA.load rfl ti26 rfl (.tail .head) rfl rfl ⟨rfl, rfl⟩) ?_
 refine dG (OpA.fieldAddr rfl tf48_0 rfl ⟨rfl, rfl⟩) ?_
 refine dG (OpA.load rfl ti3 rfl .head rfl rfl ⟨rfl, rfl⟩) ?_
 refine dG (OpA.m ⟨rfl, rfl⟩) ?_
 refine dG (OpA.addi rfl rfl rfl (q2 (decF b8)).2.2.1 ⟨rfl, rfl⟩) ?_
 refine dG (OpA.iixV (enc := encLex) rfl ts26 rfl rfl rfl (q2 (decF b8)).2.2.2 ⟨rfl, rfl⟩) ?_
 refine dG (OpA.ifieldAddr rfl tf50_0 rfl ⟨rfl, rfl⟩) ?_
 refine dG (OpA.iload rfl ti9 rfl rfl ⟨rfl, rfl⟩) ?_
 refine dG (OpA.sneq rfl rfl rfl ⟨rfl, rfl⟩) ?_
 refine dL (OpA.p ⟨rfl, rfl⟩) ?_
 refine DetK.nil ?_
 refine wpL_nil ?_
 exact ⟨(Cov.asg ⟨rfl, rfl, rfl, rfl, rfl, (congrArg D.b (Eq.symm (orN b8 rfl))), trivial⟩), (.refl _)⟩
 show wpA _ _ _ _ (asg [(5, .ptr c2 2 0 0), (7, .ptr c3 4 0 0), (8, D.b false), (9, (encL 2 encLex) ((gi c.texts x.text).words)), (10, D.i i), (98, D.b ((decide (x.at_ ≥ ((((gi c.texts x.text).words).length : Int) - i))) || (!decide ((gi ((gi c.texts x.text).words) (x.at_ + i)).text = (gi t.words (x.from_ + i)).text))))]) [(c3, .cells 4 [encPiece x]), (c2, .cells 2 [encText t]), (c1, .cells 4 [encCorpus c])]
 refine wpA_cond rfl (fun b7 => ?_) (fun b7 => ?_)
 have h := h.1 ((or0 b7).imp (fun hh => (decT hh)) (fun hh => (ndecT hh)))
 refine wpA_seq ?_
 refine wpA_region ?_
 refine wL (OpA.a ?_)
 refine wpL_nil ?_
 refine wpA_ret ?_
 exact ⟨_, (.tmp (d := D.b false) rfl .nil), _, (.same rfl .nil), ⟨false, rfl, h⟩⟩
 have h := h.2 ⟨(decF (or1 b7)), (ndecF (or2 b7))⟩
 refine wpA_skip ?_
 obtain ⟨q1, h⟩ := h
 refine wpA_region ?_
 refine wL (OpA.m ?_)
 refine wL (OpA.addi rfl rfl rfl q1 ?_)
 refine wL (OpA.a ?_)
 refine wpL_nil ?_
 exact ⟨(), (i + 1), h, (Cov.asg ⟨rfl, rfl, rfl, rfl, rfl, trivial⟩), (.refl _)⟩
 have h := h.2 (decF b6)
 refine wpA_exit ?_
 refine wpA_seq ?_
 refine wpA_region ?_
 refine wL (OpA.a ?_)
 refine wpL_nil ?_
 refine wpA_ret ?_
 exact ⟨_, (.tmp (d := D.b true) rfl .nil), _, (.same rfl .nil), ⟨true, rfl, h⟩⟩
theorem rrightp_c (c : Corpus) (t : Text) (least : Int) (x : Piece) (hp0 : okC c) (hp1 : okT t) : Fun false Tryz.prog 57 [encCorpus c, encText t, D.i least, encPiece x] (fun d => d = D.b (pieceOk c t least x)) :=
 Fun.at (enc := fun r => D.b r) (v := pieceOk c t least x) (rrightp_w c t least x  (fun r => r = pieceOk c t least x) (rrightp_ok c t least x _ hp0 hp1 rfl))
theorem rcheck_w (c : Corpus) (t : Text) (least : Int) (a : Attribution) (Q : Int → Prop) (h : rcheck_vc c t least a Q) : Fun false Tryz.prog 25 [encCorpus c, encText t, D.i least, encAttribution a] (fun d => ∃ r, d = D.i r ∧ Q r) := by
 unfold rcheck_vc at h
 refine Fun.of_body Tryz.func25 rfl Tryz.ntmps25 rfl ?_
 refine wpA_seq ?_
 refine wpA_region ?_
 refine wL (OpA.bx (sz := 4) rfl (by with_reducible conv => lhs; whnf) (.of rfl) (fun c1 _ => ?_))
 refine wL (OpA.bx (sz := 2) rfl (by with_reducible conv => lhs; whnf) (.of rfl) (fun c2 _ => ?_))
 refine wL (OpA.bx (sz := 2) rfl (by with_reducible conv => lhs; whnf) (.of rfl) (fun c3 _ => ?_))
 refine wL (OpA.a ?_)
 refine wpL_nil ?_
 refine wpA_seq ?_
 obtain ⟨q1, q2, h⟩ := h
 refine wpA_region ?_
 refine wL (OpA.load_whole rfl ti25 rfl rfl (.tail (.tail .head)) rfl ⟨_, rfl⟩ ?_)
 refine wL (OpA.load_whole rfl ti28 rfl rfl (.tail .head) rfl ⟨_, rfl⟩ ?_)
 refine wL (OpA.m ?_)
 refine wL (OpA.call rfl rfl rfl en41 (rright_c c t least q1 q2) ?_)
 rintro _ rfl
 refine wL (OpA.a ?_)
 refine wpL_nil ?_
 iterate 2 refine wpA_seq ?_
 refine wpA_region ?_
 refine wL (OpA.m ?_)
 refine wL (OpA.neq rfl rfl rfl ?_)
 refine wpL_nil ?_
 refine wpA_cond rfl (fun b4 => ?_) (fun b4 => ?_)
 have h := h.1 (bneT b4)
 refine wpA_seq ?_
 refine wpA_region ?_
 refine wL (OpA.m ?_)
 refine wL (OpA.a ?_)
 refine wpL_nil ?_
 refine wpA_ret ?_
 exact ⟨_, (.tmp (d := D.i (rightA c t least)) rfl .nil), _, (.same rfl .nil), ⟨(rightA c t least), rfl, h⟩⟩
 have h := h.2 (bneF b4)
 refine wpA_skip ?_
 iterate 2 refine wpA_seq ?_
 refine wpA_region ?_
 refine wL (OpA.fieldAddr rfl tf33_0 rfl ?_)
 refine wL (OpA.load rfl ti9 rfl .head rfl rfl ?_)
 refine wL (OpA.fieldAddr rfl tf28_0 rfl ?_)
 refine wL (OpA.load rfl ti9 rfl (.tail .head) rfl rfl ?_)
 refine wL (OpA.sneq rfl rfl rfl ?_)
 refine wpL_nil ?_
 refine wpA_cond rfl (fun b5 => ?_) (fun b5 => ?_)
 have h := h.1 (ndecT b5)
 refine wpA_seq ?_
 refine wpA_region ?_
 refine wL (OpA.a ?_)
 refine wpL_nil ?_
 refine wpA_ret ?_
 exact ⟨_, (.tmp (d := D.i 9) rfl .nil), _, (.same rfl .nil), ⟨9, rfl, h⟩⟩
 have h := h.2 (ndecF b5)
 refine wpA_skip ?_
 iterate 2 refine wpA_seq ?_
 refine wpA_region ?_
 refine wL (OpA.a ?_)
 refine wpL_nil ?_
 refine wpA_block ?_
 refine wpA_lfp (S := Int) (G := Unit) () (fun gg ss => asg [(2, D.i least), (4, .ptr c1 4 0 0), (5, .ptr c2 2 0 0), (7, .ptr c3 2 0 0), (8, D.i 0), (10, D.i ss)]) (fun gg ss => [(c3, .cells 2 [encAttribution a]), (c2, .cells 2 [encText t]), (c1, .cells 4 [encCorpus c])]) h (Cov.asg ⟨rfl, rfl, rfl, rfl, rfl, rfl, trivial⟩) (.refl _) ?_
 rintro again6 _ i h
 have h : rcheck_L1 c t least a Q again6 i := h
 unfold rcheck_L1 at h
 show wpA _ _ _ _ (asg [(2, D.i least), (4, .ptr c1 4 0 0), (5, .ptr c2 2 0 0), (7, .ptr c3 2 0 0), (8, D.i 0), (10, D.i i)]) [(c3, .cells 2 [encAttribution a]), (c2, .cells 2 [encText t]), (c1, .cells 4 [encCorpus c])]
 iterate 2 refine wpA_seq ?_
 refine wpA_region ?_
 refine wL (OpA.m ?_)
 refine wL (OpA.fieldAddr rfl tf33_1 rfl ?_)
 refine wL (OpA.load rfl ti31 rfl .head rfl rfl ?_)
 refine wL (OpA.len rfl rfl rfl rfl ts31.desc (.inl ⟨_, _, rfl, (List.length_map _).symm⟩) ?_)
 refine wL (OpA.lss rfl rfl rfl ?_)
 refine wpL_nil ?_
 refine wpA_cond rfl (fun b7 => ?_) (fun b7 => ?_)
 have h := h.1 (decT b7)
 refine wpA_skip ?_
 refine wpA_seq ?_
 refine wpA_block ?_
 iterate 2 refine wpA_seq ?_
 obtain ⟨q1, q2, q3, h⟩ := h
 refine wpA_draw (m := 10) mo (by kernel_rfl) rfl ?_
 refine dL (OpA.load_whole rfl ti25 rfl rfl (.tail (.tail .head)) rfl ⟨_, rfl⟩ ⟨rfl, rfl⟩) ?_
 refine dL (OpA.load_whole rfl ti28 rfl rfl (.tail .head) rfl ⟨_, rfl⟩ ⟨rfl, rfl⟩) ?_
 refine dL (OpA.m ⟨rfl, rfl⟩) ?_
 refine dL (OpA.fieldAddr rfl tf33_1 rfl ⟨rfl, rfl⟩) ?_
 refine dL (OpA.load rfl ti31 rfl .head rfl rfl ⟨rfl, rfl⟩) ?_
 refine dL (OpA.m ⟨rfl, rfl⟩) ?_
 refine dL (OpA.iixV (enc := encPiece) rfl ts31 rfl rfl rfl q1 ⟨rfl, rfl⟩) ?_
 refine dL (OpA.iload_whole rfl ti48 rfl ⟨_, rfl, rfl⟩ ⟨rfl, rfl⟩) ?_
 refine dL (OpA.call rfl rfl rfl en57 (rrightp_c c t least (gi a.pieces i) q2 q3) (by rintro _ rfl; exact ⟨rfl, rfl⟩)) ?_
 refine dL (OpA.not rfl rfl ⟨rfl, rfl⟩) ?_
 refine DetK.nil ?_
 refine wpL_nil ?_
 refine wpA_cond rfl (fun b8 => ?_) (fun b8 => ?_)
 have h := h.1 (notT b8)
 refine wpA_seq ?_
 refine wpA_region ?_
 refine wL (OpA.a ?_)
 refine wpL_nil ?_
 refine wpA_ret ?_
 exact ⟨_, (.tmp (d := D.i 18) rfl .nil), _, (.same rfl .nil), ⟨18, rfl, h⟩⟩
 have h := h.2 (notF b8)
 refine wpA_skip ?_
 refine wpA_seq ?_
 obtain ⟨q1, h⟩ := h
 refine wpA_mid (asg [(2, D.i least), (4, .ptr c1 4 0 0), (5, .ptr c2 2 0 0), (7, .ptr c3 2 0 0), (8, D.i 0), (10, D.i i), (57, D.b ((decide (i > 0)) && (decide ((gi a.pieces i).from_ < (gi a.pieces (i - 1)).to))))]) [(c3, .cells 2 [encAttribution a]), (c2, .cells 2 [encText t]), (c1, .cells 4 [encCorpus c])] ?_ ?_
 refine wpA_draw (m := 18) mo (by kernel_rfl) rfl ?_
 refine dL (OpA.m ⟨rfl, rfl⟩) ?_
 refine dL (OpA.gtr rfl rfl rfl ⟨rfl, rfl⟩) ?_
 refine dL (OpA.m ⟨rfl, rfl⟩) ?_
 refine DetK_split (s := 42) rfl (fun b10 => ?_) (fun b10 => ?_)
 refine dG (OpA.fieldAddr rfl tf33_1 rfl ⟨rfl, rfl⟩) ?_
 refine dG (OpA.load rfl ti31 rfl .head rfl rfl ⟨rfl, rfl⟩) ?_
 refine dG (OpA.m ⟨rfl, rfl⟩) ?_
 refine dG (OpA.iixV (enc := encPiece) rfl ts31 rfl rfl rfl (q1 (decT b10)).1 ⟨rfl, rfl⟩) ?_
 refine dG (OpA.ifieldAddr rfl tf48_0 rfl ⟨rfl, rfl⟩) ?_
 refine dG (OpA.iload rfl ti3 rfl rfl ⟨rfl, rfl⟩) ?_
 refine dG (OpA.fieldAddr rfl tf33_1 rfl ⟨rfl, rfl⟩) ?_
 refine dG (OpA.load rfl ti31 rfl .head rfl rfl ⟨rfl, rfl⟩) ?_
 refine dG (OpA.m ⟨rfl, rfl⟩) ?_
 refine dG (OpA.subi rfl rfl rfl (q1 (decT b10)).2.1 ⟨rfl, rfl⟩) ?_
 refine dG (OpA.iixV (enc := encPiece) rfl ts31 rfl rfl rfl (q1 (decT b10)).2.2 ⟨rfl, rfl⟩) ?_
 refine dG (OpA.ifieldAddr rfl tf48_1 rfl ⟨rfl, rfl⟩) ?_
 refine dG (OpA.iload rfl ti3 rfl rfl ⟨rfl, rfl⟩) ?_
 refine dG (OpA.lss rfl rfl rfl ⟨rfl, rfl⟩) ?_
 refine dL (OpA.p ⟨rfl, rfl⟩) ?_
 refine DetK.nil ?_
 refine wpL_nil ?_
 exact ⟨(Cov.asg ⟨rfl, rfl, rfl, rfl, rfl, rfl, (congrArg D.b (Eq.symm (andN b10 rfl))), trivial⟩), (.refl _)⟩
 iterate 14 refine dS ?_
 refine dL (OpA.p ⟨rfl, rfl⟩) ?_
 refine DetK.nil ?_
 refine wpL_nil ?_
 exact ⟨(Cov.asg ⟨rfl, rfl, rfl, rfl, rfl, rfl, (congrArg D.b (Eq.symm (andS b10))), trivial⟩), (.refl _)⟩
 show wpA _ _ _ _ (asg [(2, D.i least), (4, .ptr c1 4 0 0), (5, .ptr c2 2 0 0), (7, .ptr c3 2 0 0), (8, D.i 0), (10, D.i i), (57, D.b ((decide (i > 0)) && (decide ((gi a.pieces i).from_ < (gi a.pieces (i - 1)).to))))]) [(c3, .cells 2 [encAttribution a]), (c2, .cells 2 [encText t]), (c1, .cells 4 [encCorpus c])]
 refine wpA_cond rfl (fun b9 => ?_) (fun b9 => ?_)
 have h := h.1 ⟨(decT (and1 b9)), (decT (and2 b9))⟩
 refine wpA_seq ?_
 refine wpA_region ?_
 refine wL (OpA.a ?_)
 refine wpL_nil ?_
 refine wpA_ret ?_
 exact ⟨_, (.tmp (d := D.i 5) rfl .nil), _, (.same rfl .nil), ⟨5, rfl, h⟩⟩
 have h := h.2 ((and0 b9).imp (fun hh => (decF hh)) (fun hh => (decF hh)))
 refine wpA_skip ?_
 obtain ⟨q1, h⟩ := h
 refine wpA_region ?_
 refine wL (OpA.m ?_)
 refine wL (OpA.addi rfl rfl rfl q1 ?_)
 refine wL (OpA.a ?_)
 refine wpL_nil ?_
 exact ⟨(), (i + 1), h, (Cov.asg ⟨rfl, rfl, rfl, rfl, rfl, rfl, trivial⟩), (.refl _)⟩
 have h := h.2 (decF b7)
 refine wpA_exit ?_
 refine wpA_seq ?_
 refine wpA_region ?_
 refine wL (OpA.a ?_)
 refine wpL_nil ?_
 refine wpA_ret ?_
 exact ⟨_, (.tmp (d := D.i 0) rfl .nil), _, (.same rfl .nil), ⟨0, rfl, h⟩⟩
theorem rcheck_c (c : Corpus) (t : Text) (least : Int) (a : Attribution) (hp0 : okC c) (hp1 : okT t) (hp2 : okA a) : Fun false Tryz.prog 25 [encCorpus c, encText t, D.i least, encAttribution a] (fun d => d = D.i (checkA c t least a)) :=
 Fun.at (enc := fun r => D.i r) (v := checkA c t least a) (rcheck_w c t least a  (fun r => r = checkA c t least a) (rcheck_ok c t least a _ hp0 hp1 hp2 rfl))
theorem rshare_w (c : Corpus) (t : Text) (a : Attribution) (Q : (List Int) × Int → Prop) (h : rshare_vc c t a Q) : Fun false Tryz.prog 22 [encCorpus c, encText t, encAttribution a] (fun d => ∃ r, d = .tup [(encL 1 D.i) (r.1), D.i (r.2)] ∧ Q r) := by
 unfold rshare_vc at h
 refine Fun.of_body Tryz.func22 rfl Tryz.ntmps22 rfl ?_
 refine wpA_seq ?_
 refine wpA_region ?_
 refine wL (OpA.bx (sz := 4) rfl (by with_reducible conv => lhs; whnf) (.of rfl) (fun c1 _ => ?_))
 refine wL (OpA.bx (sz := 2) rfl (by with_reducible conv => lhs; whnf) (.of rfl) (fun c2 _ => ?_))
 refine wL (OpA.bx (sz := 2) rfl (by with_reducible conv => lhs; whnf) (.of rfl) (fun c3 _ => ?_))
 iterate 2 refine wL (OpA.a ?_)
 refine wpL_nil ?_
 iterate 2 refine wpA_seq ?_
 obtain ⟨q1, q2, h⟩ := h
 refine wpA_region ?_
 refine wL (OpA.load_whole rfl ti25 rfl rfl (.tail (.tail .head)) rfl ⟨_, rfl⟩ ?_)
 refine wL (OpA.load_whole rfl ti28 rfl rfl (.tail .head) rfl ⟨_, rfl⟩ ?_)
 refine wL (OpA.call rfl rfl rfl en41 (rright_c c t 1 q1 q2) ?_)
 rintro _ rfl
 refine wL (OpA.neq rfl rfl rfl ?_)
 refine wpL_nil ?_
 refine wpA_cond rfl (fun b4 => ?_) (fun b4 => ?_)
 have h := h.1 (bneT b4)
 refine wpA_seq ?_
 refine wpA_region ?_
 iterate 2 refine wL (OpA.a ?_)
 refine wpL_nil ?_
 refine wpA_ret ?_
 exact ⟨_, (.tmp (d := .v (.slice none 0 0)) rfl (.tmp (d := D.i 1) rfl .nil)), _, (.tup (.nilv (sz := 1) (.same rfl .nil)) .nil), ⟨([], 1), rfl, h⟩⟩
 have h := h.2 (bneF b4)
 refine wpA_skip ?_
 iterate 2 refine wpA_seq ?_
 obtain ⟨q1, q2, q3, h⟩ := h
 refine wpA_region ?_
 refine wL (OpA.load_whole rfl ti25 rfl rfl (.tail (.tail .head)) rfl ⟨_, rfl⟩ ?_)
 refine wL (OpA.load_whole rfl ti28 rfl rfl (.tail .head) rfl ⟨_, rfl⟩ ?_)
 refine wL (OpA.load_whole rfl ti33 rfl rfl .head rfl ⟨_, rfl⟩ ?_)
 refine wL (OpA.call rfl rfl rfl en25 (rcheck_c c t 1 a q1 q2 q3) ?_)
 rintro _ rfl
 refine wL (OpA.neq rfl rfl rfl ?_)
 refine wpL_nil ?_
 refine wpA_cond rfl (fun b5 => ?_) (fun b5 => ?_)
 have h := h.1 (bneT b5)
 refine wpA_seq ?_
 refine wpA_region ?_
 iterate 2 refine wL (OpA.a ?_)
 refine wpL_nil ?_
 refine wpA_ret ?_
 exact ⟨_, (.tmp (d := .v (.slice none 0 0)) rfl (.tmp (d := D.i 18) rfl .nil)), _, (.tup (.nilv (sz := 1) (.same rfl .nil)) .nil), ⟨([], 18), rfl, h⟩⟩
 have h := h.2 (bneF b5)
 refine wpA_skip ?_
 refine wpA_seq ?_
 obtain ⟨q1, h⟩ := h
 refine wpA_region ?_
 refine wL (OpA.fieldAddr rfl tf25_2 rfl ?_)
 refine wL (OpA.load rfl ti22 rfl (.tail (.tail .head)) rfl rfl ?_)
 refine wL (OpA.len rfl rfl rfl rfl ts22.desc (.inl ⟨_, _, rfl, (List.length_map _).symm⟩) ?_)
 refine wL (OpA.makeSliceV (enc := D.i) (v0 := 0) rfl ts52 rfl rfl tz3 (fun _ _ => .v _) (.of rfl) q1 (fun c6 => ?_))
 refine wL (OpA.a ?_)
 refine wpL_nil ?_
 iterate 2 refine wpA_seq ?_
 refine wpA_region ?_
 refine wL (OpA.a ?_)
 refine wpL_nil ?_
 refine wpA_block ?_
 refine wpA_lfp (S := (List Int) × Int) (G := Nat × List D × List D) (c6, ([] : List D), ([] : List D)) (fun gg ss => asg [(5, .ptr c3 2 0 0), (6, .v (.slice none 0 0)), (7, D.i 0), (8, .own gg.1 1 gg.2.1.length ss.1.length), (9, D.i ss.2)]) (fun gg ss => [(gg.1, .cells 1 (winL D.i gg.2.1 ss.1 gg.2.2)), (c3, .cells 2 [encAttribution a]), (c2, .cells 2 [encText t]), (c1, .cells 4 [encCorpus c])]) h (Cov.asg ⟨rfl, rfl, rfl, rfl, rfl, trivial⟩) (.refl _) ?_
 rintro again7 ⟨cb22, pre22, post22⟩ ⟨out, i⟩ h
 have h : rshare_L1 a Q again7 out i := h
 unfold rshare_L1 at h
 show wpA _ _ _ _ (asg [(5, .ptr c3 2 0 0), (6, .v (.slice none 0 0)), (7, D.i 0), (8, .own cb22 1 pre22.length out.length), (9, D.i i)]) [(cb22, .cells 1 (winL D.i pre22 out post22)), (c3, .cells 2 [encAttribution a]), (c2, .cells 2 [encText t]), (c1, .cells 4 [encCorpus c])]
 iterate 2 refine wpA_seq ?_
 refine wpA_region ?_
 refine wL (OpA.m ?_)
 refine wL (OpA.fieldAddr rfl tf33_1 rfl ?_)
 refine wL (OpA.load rfl ti31 rfl (.tail .head) rfl rfl ?_)
 refine wL (OpA.len rfl rfl rfl rfl ts31.desc (.inl ⟨_, _, rfl, (List.length_map _).symm⟩) ?_)
 refine wL (OpA.lss rfl rfl rfl ?_)
 refine wpL_nil ?_
 refine wpA_cond rfl (fun b8 => ?_) (fun b8 => ?_)
 have h := h.1 (decT b8)
 refine wpA_skip ?_
 refine wpA_seq ?_
 refine wpA_block ?_
 obtain ⟨q1, q2, q3, q4, h⟩ := h
 refine wpA_draw (m := 31) mo (by kernel_rfl) rfl ?_
 refine dL (OpA.m ⟨rfl, rfl⟩) ?_
 refine dL (OpA.fieldAddr rfl tf33_1 rfl ⟨rfl, rfl⟩) ?_
 refine dL (OpA.load rfl ti31 rfl (.tail .head) rfl rfl ⟨rfl, rfl⟩) ?_
 refine dL (OpA.m ⟨rfl, rfl⟩) ?_
 refine dL (OpA.iixV (enc := encPiece) rfl ts31 rfl rfl rfl q1 ⟨rfl, rfl⟩) ?_
 refine dL (OpA.ifieldAddr rfl tf48_2 rfl ⟨rfl, rfl⟩) ?_
 refine dL (OpA.iload rfl ti3 rfl rfl ⟨rfl, rfl⟩) ?_
 refine dL (OpA.m ⟨rfl, rfl⟩) ?_
 refine dL (OpA.fieldAddr rfl tf33_1 rfl ⟨rfl, rfl⟩) ?_
 refine dL (OpA.load rfl ti31 rfl (.tail .head) rfl rfl ⟨rfl, rfl⟩) ?_
 refine dL (OpA.m ⟨rfl, rfl⟩) ?_
 refine dL (OpA.iixV (enc := encPiece) rfl ts31 rfl rfl rfl q1 ⟨rfl, rfl⟩) ?_
 refine dL (OpA.ifieldAddr rfl tf48_2 rfl ⟨rfl, rfl⟩) ?_
 refine dL (OpA.iload rfl ti3 rfl rfl ⟨rfl, rfl⟩) ?_
 refine dL (OpA.ixV rfl ts52 rfl rfl q2 ⟨rfl, rfl⟩) ?_
 refine dL (OpA.load rfl ti3 rfl .head (getV (enc := D.i) q2) rfl ⟨rfl, rfl⟩) ?_
 refine dL (OpA.fieldAddr rfl tf33_1 rfl ⟨rfl, rfl⟩) ?_
 refine dL (OpA.load rfl ti31 rfl (.tail .head) rfl rfl ⟨rfl, rfl⟩) ?_
 refine dL (OpA.m ⟨rfl, rfl⟩) ?_
 refine dL (OpA.iixV (enc := encPiece) rfl ts31 rfl rfl rfl q1 ⟨rfl, rfl⟩) ?_
 refine dL (OpA.ifieldAddr rfl tf48_1 rfl ⟨rfl, rfl⟩) ?_
 refine dL (OpA.iload rfl ti3 rfl rfl ⟨rfl, rfl⟩) ?_
 refine dL (OpA.addi rfl rfl rfl q3 ⟨rfl, rfl⟩) ?_
 refine dL (OpA.fieldAddr rfl tf33_1 rfl ⟨rfl, rfl⟩) ?_
 refine dL (OpA.load rfl ti31 rfl (.tail .head) rfl rfl ⟨rfl, rfl⟩) ?_
 refine dL (OpA.m ⟨rfl, rfl⟩) ?_
 refine dL (OpA.iixV (enc := encPiece) rfl ts31 rfl rfl rfl q1 ⟨rfl, rfl⟩) ?_
 refine dL (OpA.ifieldAddr rfl tf48_0 rfl ⟨rfl, rfl⟩) ?_
 refine dL (OpA.iload rfl ti3 rfl rfl ⟨rfl, rfl⟩) ?_
 refine dL (OpA.subi rfl rfl rfl q4 ⟨rfl, rfl⟩) ?_
 refine dL (OpA.ixV rfl ts52 rfl rfl q2 ⟨rfl, rfl⟩) ?_
 refine DetK.nil ?_
 refine wE (OpA.storeV (enc := D.i) (v := (((gi out ((gi a.pieces i).text)) + ((gi a.pieces i).to)) - ((gi a.pieces i).from_))) rfl ti3 rfl rfl (.of rfl) rfl q2 .head ?_)
 refine wpL_nil ?_
 obtain ⟨q1, h⟩ := h
 refine wpA_region ?_
 refine wL (OpA.m ?_)
 refine wL (OpA.addi rfl rfl rfl q1 ?_)
 refine wL (OpA.a ?_)
 refine wpL_nil ?_
 exact ⟨(cb22, pre22, post22), ((si out ((gi a.pieces i).text) (((gi out ((gi a.pieces i).text)) + ((gi a.pieces i).to)) - ((gi a.pieces i).from_))), (i + 1)), h, (Cov.asg ⟨rfl, rfl, rfl, (congrArg (D.own cb22 1 pre22.length) (by simp only [si_length, gcopy_length, sortF_len postCmp_swo, sortF_len spanCmp_swo] <;> rfl)), rfl, trivial⟩), (.refl _)⟩
 have h := h.2 (decF b8)
 refine wpA_exit ?_
 refine wpA_seq ?_
 refine wpA_region ?_
 refine wL (OpA.m ?_)
 iterate 2 refine wL (OpA.a ?_)
 refine wpL_nil ?_
 refine wpA_ret ?_
 exact ⟨_, (.tmp (d := .own cb22 1 pre22.length out.length) rfl (.tmp (d := D.i 0) rfl .nil)), _, (.tup (.win .head (by intro hf; cases hf) (.same rfl .nil)) .nil), ⟨(out, 0), rfl, h⟩⟩
theorem rshare_c (c : Corpus) (t : Text) (a : Attribution) (hp0 : okC c) (hp1 : okT t) (hp2 : okA a) : Fun false Tryz.prog 22 [encCorpus c, encText t, encAttribution a] (fun d => d = .tup [(encL 1 D.i) ((shareF c t a).1), D.i ((shareF c t a).2)]) :=
 Fun.at (enc := fun r => .tup [(encL 1 D.i) (r.1), D.i (r.2)]) (v := shareF c t a) (rshare_w c t a  (fun r => r = shareF c t a) (rshare_ok c t a _ hp0 hp1 hp2 rfl))
theorem runknown_w (t : Text) (a : Attribution) (Q : (List Span) × Int → Prop) (h : runknown_vc t a Q) : Fun false Tryz.prog 24 [encText t, encAttribution a] (fun d => ∃ r, d = .tup [(encL 3 encSpan) (r.1), D.i (r.2)] ∧ Q r) := by
 unfold runknown_vc at h
 refine Fun.of_body Tryz.func24 rfl Tryz.ntmps24 rfl ?_
 refine wpA_seq ?_
 refine wpA_region ?_
 refine wL (OpA.bx (sz := 2) rfl (by with_reducible conv => lhs; whnf) (.of rfl) (fun c1 _ => ?_))
 refine wL (OpA.bx (sz := 2) rfl (by with_reducible conv => lhs; whnf) (.of rfl) (fun c2 _ => ?_))
 refine wL (OpA.asnN (T := Span) (enc := encSpan) (sz := 3) rfl rfl ?_)
 refine wL (OpA.a ?_)
 refine wpL_nil ?_
 iterate 2 refine wpA_seq ?_
 obtain ⟨q1, h⟩ := h
 refine wpA_region ?_
 refine wL (OpA.load_whole rfl ti28 rfl rfl (.tail .head) rfl ⟨_, rfl⟩ ?_)
 refine wL (OpA.call rfl rfl rfl en55 (n23valid_c t q1) ?_)
 rintro _ rfl
 refine wL (OpA.not rfl rfl ?_)
 refine wpL_nil ?_
 refine wpA_cond rfl (fun b3 => ?_) (fun b3 => ?_)
 have h := h.1 (notT b3)
 refine wpA_seq ?_
 refine wpA_region ?_
 refine wL (OpA.asnN (T := Span) (enc := encSpan) (sz := 3) rfl rfl ?_)
 refine wL (OpA.a ?_)
 refine wpL_nil ?_
 refine wpA_ret ?_
 exact ⟨_, (.tmp (d := (encL 3 encSpan) ([] : List Span)) rfl (.tmp (d := D.i 1) rfl .nil)), _, (.tup (.same rfl (.same rfl .nil)) .nil), ⟨(([] : List Span), 1), rfl, h⟩⟩
 have h := h.2 (notF b3)
 refine wpA_skip ?_
 iterate 2 refine wpA_seq ?_
 refine wpA_region ?_
 refine wL (OpA.fieldAddr rfl tf33_0 rfl ?_)
 refine wL (OpA.load rfl ti9 rfl .head rfl rfl ?_)
 refine wL (OpA.fieldAddr rfl tf28_0 rfl ?_)
 refine wL (OpA.load rfl ti9 rfl (.tail .head) rfl rfl ?_)
 refine wL (OpA.sneq rfl rfl rfl ?_)
 refine wpL_nil ?_
 refine wpA_cond rfl (fun b4 => ?_) (fun b4 => ?_)
 have h := h.1 (ndecT b4)
 refine wpA_seq ?_
 refine wpA_region ?_
 refine wL (OpA.asnN (T := Span) (enc := encSpan) (sz := 3) rfl rfl ?_)
 refine wL (OpA.a ?_)
 refine wpL_nil ?_
 refine wpA_ret ?_
 exact ⟨_, (.tmp (d := (encL 3 encSpan) ([] : List Span)) rfl (.tmp (d := D.i 9) rfl .nil)), _, (.tup (.same rfl (.same rfl .nil)) .nil), ⟨(([] : List Span), 9), rfl, h⟩⟩
 have h := h.2 (ndecF b4)
 refine wpA_skip ?_
 refine wpA_seq ?_
 refine wpA_region ?_
 refine wL (OpA.buildSliceV (enc := encLine) (xs := ([] : List Line)) rfl ts104 rfl .nil (by decide) rfl (fun c5 => ?_))
 refine wL (OpA.a ?_)
 refine wpL_nil ?_
 refine wpA_seq ?_
 refine wpA_region ?_
 refine wL (OpA.a ?_)
 refine wpL_nil ?_
 iterate 2 refine wpA_seq ?_
 refine wpA_region ?_
 refine wL (OpA.a ?_)
 refine wpL_nil ?_
 refine wpA_block ?_
 refine wpA_lfp (S := (List Line) × Int × Int) (G := Nat × List D × List D) (c5, ([] : List D), ([] : List D)) (fun gg ss => asg [(2, .ptr c1 2 0 0), (3, .ptr c2 2 0 0), (4, (encL 3 encSpan) ([] : List Span)), (5, D.i 0), (6, .own gg.1 2 gg.2.1.length ss.1.length), (7, D.i ss.2.1), (8, D.i ss.2.2)]) (fun gg ss => [(gg.1, .cells 2 (winL encLine gg.2.1 ss.1 gg.2.2)), (c2, .cells 2 [encAttribution a]), (c1, .cells 2 [encText t])]) h (Cov.asg ⟨rfl, rfl, rfl, rfl, rfl, rfl, rfl, trivial⟩) (.refl _) ?_
 rintro again6 ⟨cb19, pre19, post19⟩ ⟨l, at_, i⟩ h
 have h : runknown_L1 t a Q again6 l at_ i := h
 unfold runknown_L1 at h
 show wpA _ _ _ _ (asg [(2, .ptr c1 2 0 0), (3, .ptr c2 2 0 0), (4, (encL 3 encSpan) ([] : List Span)), (5, D.i 0), (6, .own cb19 2 pre19.length l.length), (7, D.i at_), (8, D.i i)]) [(cb19, .cells 2 (winL encLine pre19 l post19)), (c2, .cells 2 [encAttribution a]), (c1, .cells 2 [encText t])]
 iterate 2 refine wpA_seq ?_
 refine wpA_region ?_
 refine wL (OpA.m ?_)
 refine wL (OpA.fieldAddr rfl tf33_1 rfl ?_)
 refine wL (OpA.load rfl ti31 rfl (.tail .head) rfl rfl ?_)
 refine wL (OpA.len rfl rfl rfl rfl ts31.desc (.inl ⟨_, _, rfl, (List.length_map _).symm⟩) ?_)
 refine wL (OpA.leq rfl rfl rfl ?_)
 refine wpL_nil ?_
 refine wpA_cond rfl (fun b7 => ?_) (fun b7 => ?_)
 have h := h.1 (decT b7)
 refine wpA_skip ?_
 refine wpA_seq ?_
 refine wpA_block ?_
 refine wpA_seq ?_
 refine wpA_region ?_
 refine wL (OpA.fieldAddr rfl tf28_1 rfl ?_)
 refine wL (OpA.load rfl ti26 rfl (.tail (.tail .head)) rfl rfl ?_)
 refine wL (OpA.len rfl rfl rfl rfl ts26.desc (.inl ⟨_, _, rfl, (List.length_map _).symm⟩) ?_)
 refine wL (OpA.fieldAddr rfl tf28_1 rfl ?_)
 refine wL (OpA.load rfl ti26 rfl (.tail (.tail .head)) rfl rfl ?_)
 refine wL (OpA.len rfl rfl rfl rfl ts26.desc (.inl ⟨_, _, rfl, (List.length_map _).symm⟩) ?_)
 refine wL (OpA.buildO (zs := [.v (.int .i64 0), .v (.int .i64 0), .v (.int .i64 0), .v (.int .i64 0)]) rfl tp48 tz48 (fun _ _ => (.cons (.v _) (.cons (.v _) (.cons (.v _) (.cons (.v _) .nil))))) (.cons (.of (sz := 1) rfl) (.cons (.of (sz := 1) rfl) .nil)) rfl ?_)
 refine wL (OpA.alloc (sz := 4) (d := encPiece (Piece.mk 0 0 0 0)) rfl tz48 (fun _ _ => .agg (.cons (.v _) (.cons (.v _) (.cons (.v _) (.cons (.v _) .nil))))) (.of rfl) (fun c8 _ => ?_))
 refine wE (OpA.storeW rfl ti48 rfl (by with_reducible conv => lhs; whnf) (.of rfl) rfl rfl .head ?_)
 refine wpL_nil ?_
 iterate 2 refine wpA_seq ?_
 refine wpA_region ?_
 refine wL (OpA.m ?_)
 refine wL (OpA.fieldAddr rfl tf33_1 rfl ?_)
 refine wL (OpA.load rfl ti31 rfl (.tail (.tail .head)) rfl rfl ?_)
 refine wL (OpA.len rfl rfl rfl rfl ts31.desc (.inl ⟨_, _, rfl, (List.length_map _).symm⟩) ?_)
 refine wL (OpA.lss rfl rfl rfl ?_)
 refine wpL_nil ?_
 refine wpA_join (S := Piece) (G := Unit) (fun gg ss => asg [(2, .ptr c1 2 0 0), (3, .ptr c2 2 0 0), (4, (encL 3 encSpan) ([] : List Span)), (5, D.i 0), (6, .own cb19 2 pre19.length l.length), (7, D.i at_), (8, D.i i), (9, .ptr c8 4 0 0)]) (fun gg ss => [(c8, .cells 4 [encPiece ss]), (cb19, .cells 2 (winL encLine pre19 l post19)), (c2, .cells 2 [encAttribution a]), (c1, .cells 2 [encText t])]) (fun ss => runknown_J1 t l at_ i again6 ss) ?_ ?_
 refine wpA_cond rfl (fun b13 => ?_) (fun b13 => ?_)
 have h := h.1 (decT b13)
 refine wpA_seq ?_
 obtain ⟨q1, h⟩ := h
 refine wpA_region ?_
 refine wL (OpA.fieldAddr rfl tf33_1 rfl ?_)
 refine wL (OpA.load rfl ti31 rfl (.tail (.tail .head)) rfl rfl ?_)
 refine wL (OpA.m ?_)
 refine wL (OpA.iixV (enc := encPiece) rfl ts31 rfl rfl rfl q1 ?_)
 refine wL (OpA.iload_whole rfl ti48 rfl ⟨_, rfl, rfl⟩ ?_)
 refine wE (OpA.storeW rfl ti48 rfl (by with_reducible conv => lhs; whnf) (.of rfl) rfl rfl .head ?_)
 refine wpL_nil ?_
 refine wpA_seq ?_
 refine wpA_mid (asg [(2, .ptr c1 2 0 0), (3, .ptr c2 2 0 0), (4, (encL 3 encSpan) ([] : List Span)), (5, D.i 0), (6, .own cb19 2 pre19.length l.length), (7, D.i at_), (8, D.i i), (9, .ptr c8 4 0 0), (62, D.b (((decide ((gi a.pieces i).from_ < at_)) || (decide ((gi a.pieces i).from_ ≥ (gi a.pieces i).to))) || (decide ((gi a.pieces i).to > (t.words.length : Int)))))]) [(c8, .cells 4 [encPiece (gi a.pieces i)]), (cb19, .cells 2 (winL encLine pre19 l post19)), (c2, .cells 2 [encAttribution a]), (c1, .cells 2 [encText t])] ?_ ?_
 refine wpA_region ?_
 refine wL (OpA.fieldAddr rfl tf48_0 rfl ?_)
 refine wL (OpA.load rfl ti3 rfl .head rfl rfl ?_)
 refine wL (OpA.m ?_)
 refine wL (OpA.lss rfl rfl rfl ?_)
 refine wL (OpA.m ?_)
 refine wpL_split (s := 48) rfl (fun b15 => ?_) (fun b15 => ?_)
 iterate 5 refine wS ?_
 refine wL (OpA.p ?_)
 refine wL (OpA.m ?_)
 iterate 6 refine wS ?_
 refine wL (OpA.p ?_)
 refine wpL_nil ?_
 exact ⟨(Cov.asg ⟨rfl, rfl, rfl, rfl, rfl, rfl, rfl, rfl, (congrArg D.b (Eq.symm (orS (orS b15)))), trivial⟩), (.refl _)⟩
 refine wG (OpA.fieldAddr rfl tf48_0 rfl ?_)
 refine wG (OpA.load rfl ti3 rfl .head rfl rfl ?_)
 refine wG (OpA.fieldAddr rfl tf48_1 rfl ?_)
 refine wG (OpA.load rfl ti3 rfl .head rfl rfl ?_)
 refine wG (OpA.geq rfl rfl rfl ?_)
 refine wL (OpA.p ?_)
 refine wL (OpA.m ?_)
 refine wpL_split (s := 55) rfl (fun b16 => ?_) (fun b16 => ?_)
 iterate 6 refine wS ?_
 refine wL (OpA.p ?_)
 refine wpL_nil ?_
 exact ⟨(Cov.asg ⟨rfl, rfl, rfl, rfl, rfl, rfl, rfl, rfl, (congrArg D.b (Eq.symm (orS (orN b15 b16)))), trivial⟩), (.refl _)⟩
 refine wG (OpA.fieldAddr rfl tf48_1 rfl ?_)
 refine wG (OpA.load rfl ti3 rfl .head rfl rfl ?_)
 refine wG (OpA.fieldAddr rfl tf28_1 rfl ?_)
 refine wG (OpA.load rfl ti26 rfl (.tail (.tail (.tail .head))) rfl rfl ?_)
 refine wG (OpA.len rfl rfl rfl rfl ts26.desc (.inl ⟨_, _, rfl, (List.length_map _).symm⟩) ?_)
 refine wG (OpA.gtr rfl rfl rfl ?_)
 refine wL (OpA.p ?_)
 refine wpL_nil ?_
 exact ⟨(Cov.asg ⟨rfl, rfl, rfl, rfl, rfl, rfl, rfl, rfl, (congrArg D.b (Eq.symm (orN (orN b15 b16) rfl))), trivial⟩), (.refl _)⟩
 show wpA _ _ _ _ (asg [(2, .ptr c1 2 0 0), (3, .ptr c2 2 0 0), (4, (encL 3 encSpan) ([] : List Span)), (5, D.i 0), (6, .own cb19 2 pre19.length l.length), (7, D.i at_), (8, D.i i), (9, .ptr c8 4 0 0), (62, D.b (((decide ((gi a.pieces i).from_ < at_)) || (decide ((gi a.pieces i).from_ ≥ (gi a.pieces i).to))) || (decide ((gi a.pieces i).to > (t.words.length : Int)))))]) [(c8, .cells 4 [encPiece (gi a.pieces i)]), (cb19, .cells 2 (winL encLine pre19 l post19)), (c2, .cells 2 [encAttribution a]), (c1, .cells 2 [encText t])]
 refine wpA_cond rfl (fun b14 => ?_) (fun b14 => ?_)
 have h := h.1 ((or0 b14).imp (fun hh => ((or0 hh).imp (fun hh => (decT hh)) (fun hh => (decT hh)))) (fun hh => (decT hh)))
 refine wpA_seq ?_
 refine wpA_region ?_
 refine wL (OpA.asnN (T := Span) (enc := encSpan) (sz := 3) rfl rfl ?_)
 refine wL (OpA.a ?_)
 refine wpL_nil ?_
 refine wpA_ret ?_
 exact ⟨_, (.tmp (d := (encL 3 encSpan) ([] : List Span)) rfl (.tmp (d := D.i 3) rfl .nil)), _, (.tup (.same rfl (.same rfl .nil)) .nil), ⟨(([] : List Span), 3), rfl, h⟩⟩
 have h := h.2 ⟨⟨(decF (or1 (or1 b14))), (decF (or2 (or1 b14)))⟩, (decF (or2 b14))⟩
 refine wpA_skip ?_
 exact ⟨(), (gi a.pieces i), h, (Cov.asg ⟨rfl, rfl, rfl, rfl, rfl, rfl, rfl, rfl, trivial⟩), (.refl _)⟩
 have h := h.2 (decF b13)
 refine wpA_skip ?_
 exact ⟨(), (Piece.mk (t.words.length : Int) (t.words.length : Int) 0 0), h, (Cov.asg ⟨rfl, rfl, rfl, rfl, rfl, rfl, rfl, rfl, trivial⟩), (.refl _)⟩
 rintro _ v h
 have h : runknown_J1 t l at_ i again6 v := h
 unfold runknown_J1 at h
 show wpA _ _ _ _ (asg [(2, .ptr c1 2 0 0), (3, .ptr c2 2 0 0), (4, (encL 3 encSpan) ([] : List Span)), (5, D.i 0), (6, .own cb19 2 pre19.length l.length), (7, D.i at_), (8, D.i i), (9, .ptr c8 4 0 0)]) [(c8, .cells 4 [encPiece v]), (cb19, .cells 2 (winL encLine pre19 l post19)), (c2, .cells 2 [encAttribution a]), (c1, .cells 2 [encText t])]
 iterate 2 refine wpA_seq ?_
 refine wpA_region ?_
 refine wL (OpA.m ?_)
 refine wL (OpA.a ?_)
 refine wpL_nil ?_
 refine wpA_block ?_
 refine wpA_lfp (S := (List Line) × Int) (G := Nat × List D × List D) (cb19, pre19, post19) (fun gg ss => asg [(2, .ptr c1 2 0 0), (3, .ptr c2 2 0 0), (4, (encL 3 encSpan) ([] : List Span)), (5, D.i 0), (6, .own gg.1 2 gg.2.1.length ss.1.length), (7, D.i at_), (8, D.i i), (9, .ptr c8 4 0 0), (10, D.i ss.2)]) (fun gg ss => [(c8, .cells 4 [encPiece v]), (gg.1, .cells 2 (winL encLine gg.2.1 ss.1 gg.2.2)), (c2, .cells 2 [encAttribution a]), (c1, .cells 2 [encText t])]) h (Cov.asg ⟨rfl, rfl, rfl, rfl, rfl, rfl, rfl, rfl, rfl, trivial⟩) (.refl _) ?_
 rintro again9 ⟨cb191, pre191, post191⟩ ⟨l1, k⟩ h
 have h : runknown_L2 t i v again6 again9 l1 k := h
 unfold runknown_L2 at h
 show wpA _ _ _ _ (asg [(2, .ptr c1 2 0 0), (3, .ptr c2 2 0 0), (4, (encL 3 encSpan) ([] : List Span)), (5, D.i 0), (6, .own cb191 2 pre191.length l1.length), (7, D.i at_), (8, D.i i), (9, .ptr c8 4 0 0), (10, D.i k)]) [(c8, .cells 4 [encPiece v]), (cb191, .cells 2 (winL encLine pre191 l1 post191)), (c2, .cells 2 [encAttribution a]), (c1, .cells 2 [encText t])]
 iterate 2 refine wpA_seq ?_
 refine wpA_region ?_
 refine wL (OpA.m ?_)
 refine wL (OpA.fieldAddr rfl tf48_0 rfl ?_)
 refine wL (OpA.load rfl ti3 rfl .head rfl rfl ?_)
 refine wL (OpA.lss rfl rfl rfl ?_)
 refine wpL_nil ?_
 refine wpA_cond rfl (fun b10 => ?_) (fun b10 => ?_)
 have h := h.1 (decT b10)
 refine wpA_skip ?_
 refine wpA_seq ?_
 refine wpA_block ?_
 obtain ⟨q1, q2, h⟩ := h
 refine wpA_draw (m := 11) mo (by kernel_rfl) rfl ?_
 refine dL (OpA.m ⟨rfl, rfl⟩) ?_
 refine dL (OpA.fieldAddr rfl tf28_0 rfl ⟨rfl, rfl⟩) ?_
 refine dL (OpA.load rfl ti9 rfl (.tail (.tail (.tail .head))) rfl rfl ⟨rfl, rfl⟩) ?_
 refine dL (OpA.fieldAddr rfl tf28_1 rfl ⟨rfl, rfl⟩) ?_
 refine dL (OpA.load rfl ti26 rfl (.tail (.tail (.tail .head))) rfl rfl ⟨rfl, rfl⟩) ?_
 refine dL (OpA.m ⟨rfl, rfl⟩) ?_
 refine dL (OpA.iixV (enc := encLex) rfl ts26 rfl rfl rfl q1 ⟨rfl, rfl⟩) ?_
 refine dL (OpA.ifieldAddr rfl tf50_1 rfl ⟨rfl, rfl⟩) ?_
 refine dL (OpA.iload rfl ti3 rfl rfl ⟨rfl, rfl⟩) ?_
 refine dL (OpA.buildO (zs := [.v (.string ⟨#[]⟩), .v (.int .i64 0)]) rfl tp68 tz68 (fun _ _ => (.cons (.v _) (.cons (.v _) .nil))) (.cons (.of (sz := 1) rfl) (.cons (.of (sz := 1) rfl) .nil)) rfl ⟨rfl, rfl⟩) ?_
 refine dL (OpA.ibuildSliceO rfl ts104 rfl (.cons (.of (sz := 2) rfl) .nil) (by decide) ⟨rfl, rfl⟩) ?_
 refine DetK.nil ?_
 refine wL (OpA.appendW (enc := encLine) rfl rfl rfl rfl ts104 rfl (fun _ _ => (.tail .head)) (.list (ys := ([(Line.mk t.path ((gi t.words k).line))] : List Line))) q2 (fun c11 pre12 => ?_))
 refine wL (OpA.a ?_)
 refine wpL_nil ?_
 obtain ⟨q1, h⟩ := h
 refine wpA_region ?_
 refine wL (OpA.m ?_)
 refine wL (OpA.addi rfl rfl rfl q1 ?_)
 refine wL (OpA.a ?_)
 refine wpL_nil ?_
 exact ⟨(c11, pre12, ([] : List D)), ((l1 ++ ([(Line.mk t.path ((gi t.words k).line))] : List Line)), (k + 1)), h, (Cov.asg ⟨rfl, rfl, rfl, rfl, rfl, rfl, rfl, rfl, rfl, trivial⟩), (.refl _)⟩
 have h := h.2 (decF b10)
 refine wpA_exit ?_
 refine wpA_region ?_
 refine wL (OpA.fieldAddr rfl tf48_1 rfl ?_)
 refine wL (OpA.load rfl ti3 rfl .head rfl rfl ?_)
 refine wL (OpA.a ?_)
 refine wpL_nil ?_
 obtain ⟨q1, h⟩ := h
 refine wpA_region ?_
 refine wL (OpA.m ?_)
 refine wL (OpA.addi rfl rfl rfl q1 ?_)
 refine wL (OpA.a ?_)
 refine wpL_nil ?_
 exact ⟨(cb191, pre191, post191), (l1, v.to, (i + 1)), h, (Cov.asg ⟨rfl, rfl, rfl, rfl, rfl, rfl, rfl, trivial⟩), (.cons _ (.refl _))⟩
 have h := h.2 (decF b7)
 refine wpA_exit ?_
 refine wpA_seq ?_
 obtain ⟨q1, q2, h⟩ := h
 refine wpA_region ?_
 refine wL (OpA.m ?_)
 refine wL (OpA.frz (s := 84) (d := .own cb19 2 pre19.length l.length) (d' := (encL 2 encLine) l) (.refl _) rfl (.win (enc := encLine) .head (by intro hf; cases hf) .nil) (OpA.call rfl rfl rfl en56 (rpack_c l q1 q2) ?_))
 rintro _ rfl
 iterate 2 refine wL (OpA.a ?_)
 refine wpL_nil ?_
 refine wpA_ret ?_
 exact ⟨_, (.tmp (d := (encL 3 encSpan) (packF l)) rfl (.tmp (d := D.i 0) rfl .nil)), _, (.tup (.same rfl (.same rfl .nil)) .nil), ⟨((packF l), 0), rfl, h⟩⟩
theorem runknown_c (t : Text) (a : Attribution) (hp0 : okT t) (hp1 : okA a) : Fun false Tryz.prog 24 [encText t, encAttribution a] (fun d => d = .tup [(encL 3 encSpan) ((unknownF t a).1), D.i ((unknownF t a).2)]) :=
 Fun.at (enc := fun r => .tup [(encL 3 encSpan) (r.1), D.i (r.2)]) (v := unknownF t a) (runknown_w t a  (fun r => r = unknownF t a) (runknown_ok t a _ hp0 hp1 rfl))
end Go.Proofs.YtaofnefejkokdaaGreatDoor
