/-
  walks and contracts
-/
import Derived.Test.YtaofnefejkokdaaGreatDoorV7
set_option maxRecDepth 10000
set_option maxHeartbeats 2000000
set_option linter.all false
namespace Go.Proofs.YtaofnefejkokdaaGreatDoor
open Go Go.Lic Go.Sort Go.Proofs
attribute [local irreducible] addF addP attrF badR behindF betR betterP blankF checkA checkF cmpB cmpI cmpL codeF countF countL fewC fewTs fewW findT gramsF growTF has1F hasF hashF indexF insideF leastF lenF longAF mainF maxF mergeF mul64F mulP nameR newF ofF orF packF partF pathB pathF pieceOk postCmp postLt postsF powF printsF pushF rangedF rightA rightCT rollF sameF selectF shareF sizeF smallF spanCmp splitF splitG srcF srcR textF unknownF validF validT
theorem rsource_w (c : Corpus) (t : Text) (from_ : Int) (to : Int) (Q : Int × Int × Bool → Prop) (h : rsource_vc c t from_ to Q) : Fun false Tryz.prog 44 [encCorpus c, encText t, D.i from_, D.i to] (fun d => ∃ r, d = .tup [D.i (r.1), D.i (r.2.1), D.b (r.2.2)] ∧ Q r) := by
 unfold rsource_vc at h
 refine Fun.of_body Tryz.func44 rfl Tryz.ntmps44 rfl ?_
 refine wpA_seq ?_
 refine wpA_region ?_
 refine wL (OpA.bx (sz := 4) rfl (by with_reducible conv => lhs; whnf) (.of rfl) (fun c1 _ => ?_))
 refine wL (OpA.bx (sz := 2) rfl (by with_reducible conv => lhs; whnf) (.of rfl) (fun c2 _ => ?_))
 iterate 3 refine wL (OpA.a ?_)
 refine wpL_nil ?_
 iterate 2 refine wpA_seq ?_
 refine wpA_region ?_
 refine wL (OpA.a ?_)
 refine wpL_nil ?_
 refine wpA_block ?_
 refine wpA_lfp (S := Int) (G := Unit) () (fun gg ss => asg [(2, D.i from_), (3, D.i to), (4, .ptr c1 4 0 0), (5, .ptr c2 2 0 0), (8, D.i 0), (9, D.i 0), (10, D.b false), (11, D.i ss)]) (fun gg ss => [(c2, .cells 2 [encText t]), (c1, .cells 4 [encCorpus c])]) h (Cov.asg ⟨rfl, rfl, rfl, rfl, rfl, rfl, rfl, rfl, trivial⟩) (.refl _) ?_
 rintro again3 _ k h
 have h : rsource_L1 c t from_ to Q again3 k := h
 unfold rsource_L1 at h
 show wpA _ _ _ _ (asg [(2, D.i from_), (3, D.i to), (4, .ptr c1 4 0 0), (5, .ptr c2 2 0 0), (8, D.i 0), (9, D.i 0), (10, D.b false), (11, D.i k)]) [(c2, .cells 2 [encText t]), (c1, .cells 4 [encCorpus c])]
 iterate 2 refine wpA_seq ?_
 refine wpA_region ?_
 refine wL (OpA.m ?_)
 refine wL (OpA.fieldAddr rfl tf25_2 rfl ?_)
 refine wL (OpA.load rfl ti22 rfl (.tail .head) rfl rfl ?_)
 refine wL (OpA.len rfl rfl rfl rfl ts22.desc (.inl ⟨_, _, rfl, (List.length_map _).symm⟩) ?_)
 refine wL (OpA.lss rfl rfl rfl ?_)
 refine wpL_nil ?_
 refine wpA_cond rfl (fun b4 => ?_) (fun b4 => ?_)
 have h := h.1 (decT b4)
 refine wpA_skip ?_
 refine wpA_seq ?_
 refine wpA_block ?_
 refine wpA_seq ?_
 refine wpA_region ?_
 refine wL (OpA.a ?_)
 refine wpL_nil ?_
 refine wpA_block ?_
 refine wpA_lfp (S := Int) (G := Unit) () (fun gg ss => asg [(2, D.i from_), (3, D.i to), (4, .ptr c1 4 0 0), (5, .ptr c2 2 0 0), (8, D.i 0), (9, D.i 0), (10, D.b false), (11, D.i k), (12, D.i ss)]) (fun gg ss => [(c2, .cells 2 [encText t]), (c1, .cells 4 [encCorpus c])]) h (Cov.asg ⟨rfl, rfl, rfl, rfl, rfl, rfl, rfl, rfl, rfl, trivial⟩) (.refl _) ?_
 rintro again5 _ at_ h
 have h : rsource_L2 c t from_ to k Q again3 again5 at_ := h
 unfold rsource_L2 at h
 show wpA _ _ _ _ (asg [(2, D.i from_), (3, D.i to), (4, .ptr c1 4 0 0), (5, .ptr c2 2 0 0), (8, D.i 0), (9, D.i 0), (10, D.b false), (11, D.i k), (12, D.i at_)]) [(c2, .cells 2 [encText t]), (c1, .cells 4 [encCorpus c])]
 iterate 2 refine wpA_seq ?_
 obtain ⟨q1, h⟩ := h
 refine wpA_region ?_
 refine wL (OpA.m ?_)
 refine wL (OpA.fieldAddr rfl tf25_2 rfl ?_)
 refine wL (OpA.load rfl ti22 rfl (.tail .head) rfl rfl ?_)
 refine wL (OpA.m ?_)
 refine wL (OpA.iixV (enc := encText) rfl ts22 rfl rfl rfl q1 ?_)
 refine wL (OpA.ifieldAddr rfl tf28_1 rfl ?_)
 refine wL (OpA.iload rfl ti26 rfl rfl ?_)
 refine wL (OpA.len rfl rfl rfl rfl ts26.desc (.inl ⟨_, _, rfl, (List.length_map _).symm⟩) ?_)
 refine wL (OpA.lss rfl rfl rfl ?_)
 refine wpL_nil ?_
 refine wpA_cond rfl (fun b6 => ?_) (fun b6 => ?_)
 have h := h.1 (decT b6)
 refine wpA_skip ?_
 refine wpA_seq ?_
 refine wpA_block ?_
 refine wpA_seq ?_
 refine wpA_region ?_
 refine wL (OpA.a ?_)
 refine wpL_nil ?_
 refine wpA_seq ?_
 refine wpA_block ?_
 refine wpA_lfp (S := Int) (G := Unit) () (fun gg ss => asg [(2, D.i from_), (3, D.i to), (4, .ptr c1 4 0 0), (5, .ptr c2 2 0 0), (8, D.i 0), (9, D.i 0), (10, D.b false), (11, D.i k), (12, D.i at_), (13, D.i ss)]) (fun gg ss => [(c2, .cells 2 [encText t]), (c1, .cells 4 [encCorpus c])]) h (Cov.asg ⟨rfl, rfl, rfl, rfl, rfl, rfl, rfl, rfl, rfl, rfl, trivial⟩) (.refl _) ?_
 rintro again7 _ n h
 have h : rsource_L3 c t from_ to k at_ Q again5 again7 n := h
 unfold rsource_L3 at h
 show wpA _ _ _ _ (asg [(2, D.i from_), (3, D.i to), (4, .ptr c1 4 0 0), (5, .ptr c2 2 0 0), (8, D.i 0), (9, D.i 0), (10, D.b false), (11, D.i k), (12, D.i at_), (13, D.i n)]) [(c2, .cells 2 [encText t]), (c1, .cells 4 [encCorpus c])]
 iterate 2 refine wpA_seq ?_
 obtain ⟨q1, q2, q3, h⟩ := h
 refine wpA_mid (asg [(2, D.i from_), (3, D.i to), (4, .ptr c1 4 0 0), (5, .ptr c2 2 0 0), (8, D.i 0), (9, D.i 0), (10, D.b false), (11, D.i k), (12, D.i at_), (13, D.i n), (72, D.b (((decide ((from_ + n) < to)) && (decide ((at_ + n) < (((gi c.texts k).words).length : Int)))) && (decide ((gi ((gi c.texts k).words) (at_ + n)).text = (gi t.words (from_ + n)).text))))]) [(c2, .cells 2 [encText t]), (c1, .cells 4 [encCorpus c])] ?_ ?_
 refine wpA_draw (m := 41) mo (by kernel_rfl) rfl ?_
 iterate 2 refine dL (OpA.m ⟨rfl, rfl⟩) ?_
 refine dL (OpA.addi rfl rfl rfl q1 ⟨rfl, rfl⟩) ?_
 refine dL (OpA.m ⟨rfl, rfl⟩) ?_
 refine dL (OpA.lss rfl rfl rfl ⟨rfl, rfl⟩) ?_
 refine dL (OpA.m ⟨rfl, rfl⟩) ?_
 refine DetK_split (s := 37) rfl (fun b10 => ?_) (fun b10 => ?_)
 iterate 2 refine dG (OpA.m ⟨rfl, rfl⟩) ?_
 refine dG (OpA.addi rfl rfl rfl (q2 (decT b10)).1 ⟨rfl, rfl⟩) ?_
 refine dG (OpA.fieldAddr rfl tf25_2 rfl ⟨rfl, rfl⟩) ?_
 refine dG (OpA.load rfl ti22 rfl (.tail .head) rfl rfl ⟨rfl, rfl⟩) ?_
 refine dG (OpA.m ⟨rfl, rfl⟩) ?_
 refine dG (OpA.iixV (enc := encText) rfl ts22 rfl rfl rfl (q2 (decT b10)).2 ⟨rfl, rfl⟩) ?_
 refine dG (OpA.ifieldAddr rfl tf28_1 rfl ⟨rfl, rfl⟩) ?_
 refine dG (OpA.iload rfl ti26 rfl rfl ⟨rfl, rfl⟩) ?_
 refine dG (OpA.len rfl rfl rfl rfl ts26.desc (.inl ⟨_, _, rfl, (List.length_map _).symm⟩) ⟨rfl, rfl⟩) ?_
 refine dG (OpA.lss rfl rfl rfl ⟨rfl, rfl⟩) ?_
 refine dL (OpA.p ⟨rfl, rfl⟩) ?_
 refine dL (OpA.m ⟨rfl, rfl⟩) ?_
 refine DetK_split (s := 50) rfl (fun b11 => ?_) (fun b11 => ?_)
 refine dG (OpA.fieldAddr rfl tf25_2 rfl ⟨rfl, rfl⟩) ?_
 refine dG (OpA.load rfl ti22 rfl (.tail .head) rfl rfl ⟨rfl, rfl⟩) ?_
 refine dG (OpA.m ⟨rfl, rfl⟩) ?_
 refine dG (OpA.iixV (enc := encText) rfl ts22 rfl rfl rfl (q3 ⟨(decT b10), (decT b11)⟩).1 ⟨rfl, rfl⟩) ?_
 refine dG (OpA.ifieldAddr rfl tf28_1 rfl ⟨rfl, rfl⟩) ?_
 refine dG (OpA.iload rfl ti26 rfl rfl ⟨rfl, rfl⟩) ?_
 iterate 2 refine dG (OpA.m ⟨rfl, rfl⟩) ?_
 refine dG (OpA.addi rfl rfl rfl (q3 ⟨(decT b10), (decT b11)⟩).2.1 ⟨rfl, rfl⟩) ?_
 refine dG (OpA.iixV (enc := encLex) rfl ts26 rfl rfl rfl (q3 ⟨(decT b10), (decT b11)⟩).2.2.1 ⟨rfl, rfl⟩) ?_
 refine dG (OpA.ifieldAddr rfl tf50_0 rfl ⟨rfl, rfl⟩) ?_
 refine dG (OpA.iload rfl ti9 rfl rfl ⟨rfl, rfl⟩) ?_
 refine dG (OpA.fieldAddr rfl tf28_1 rfl ⟨rfl, rfl⟩) ?_
 refine dG (OpA.load rfl ti26 rfl .head rfl rfl ⟨rfl, rfl⟩) ?_
 iterate 2 refine dG (OpA.m ⟨rfl, rfl⟩) ?_
 refine dG (OpA.addi rfl rfl rfl q1 ⟨rfl, rfl⟩) ?_
 refine dG (OpA.iixV (enc := encLex) rfl ts26 rfl rfl rfl (q3 ⟨(decT b10), (decT b11)⟩).2.2.2 ⟨rfl, rfl⟩) ?_
 refine dG (OpA.ifieldAddr rfl tf50_0 rfl ⟨rfl, rfl⟩) ?_
 refine dG (OpA.iload rfl ti9 rfl rfl ⟨rfl, rfl⟩) ?_
 refine dG (OpA.seql rfl rfl rfl ⟨rfl, rfl⟩) ?_
 refine dL (OpA.p ⟨rfl, rfl⟩) ?_
 refine DetK.nil ?_
 refine wpL_nil ?_
 exact ⟨(Cov.asg ⟨rfl, rfl, rfl, rfl, rfl, rfl, rfl, rfl, rfl, rfl, (congrArg D.b (Eq.symm (andN (andN b10 b11) rfl))), trivial⟩), (.refl _)⟩
 iterate 21 refine dS ?_
 refine dL (OpA.p ⟨rfl, rfl⟩) ?_
 refine DetK.nil ?_
 refine wpL_nil ?_
 exact ⟨(Cov.asg ⟨rfl, rfl, rfl, rfl, rfl, rfl, rfl, rfl, rfl, rfl, (congrArg D.b (Eq.symm (andS (andN b10 b11)))), trivial⟩), (.refl _)⟩
 iterate 11 refine dS ?_
 refine dL (OpA.p ⟨rfl, rfl⟩) ?_
 refine dL (OpA.m ⟨rfl, rfl⟩) ?_
 iterate 21 refine dS ?_
 refine dL (OpA.p ⟨rfl, rfl⟩) ?_
 refine DetK.nil ?_
 refine wpL_nil ?_
 exact ⟨(Cov.asg ⟨rfl, rfl, rfl, rfl, rfl, rfl, rfl, rfl, rfl, rfl, (congrArg D.b (Eq.symm (andS (andS b10)))), trivial⟩), (.refl _)⟩
 show wpA _ _ _ _ (asg [(2, D.i from_), (3, D.i to), (4, .ptr c1 4 0 0), (5, .ptr c2 2 0 0), (8, D.i 0), (9, D.i 0), (10, D.b false), (11, D.i k), (12, D.i at_), (13, D.i n), (72, D.b (((decide ((from_ + n) < to)) && (decide ((at_ + n) < (((gi c.texts k).words).length : Int)))) && (decide ((gi ((gi c.texts k).words) (at_ + n)).text = (gi t.words (from_ + n)).text))))]) [(c2, .cells 2 [encText t]), (c1, .cells 4 [encCorpus c])]
 refine wpA_cond rfl (fun b8 => ?_) (fun b8 => ?_)
 have h := h.1 ⟨⟨(decT (and1 (and1 b8))), (decT (and2 (and1 b8)))⟩, (decT (and2 b8))⟩
 refine wpA_skip ?_
 refine wpA_block ?_
 obtain ⟨q1, h⟩ := h
 refine wpA_region ?_
 refine wL (OpA.m ?_)
 refine wL (OpA.addi rfl rfl rfl q1 ?_)
 refine wL (OpA.a ?_)
 refine wpL_nil ?_
 exact ⟨(), (n + 1), h, (Cov.asg ⟨rfl, rfl, rfl, rfl, rfl, rfl, rfl, rfl, rfl, rfl, trivial⟩), (.refl _)⟩
 have h := h.2 ((and0 b8).imp (fun hh => ((and0 hh).imp (fun hh => (decF hh)) (fun hh => (decF hh)))) (fun hh => (decF hh)))
 refine wpA_exit ?_
 refine wpA_seq ?_
 obtain ⟨q1, h⟩ := h
 refine wpA_region ?_
 iterate 2 refine wL (OpA.m ?_)
 refine wL (OpA.addi rfl rfl rfl q1 ?_)
 refine wL (OpA.m ?_)
 refine wL (OpA.eql rfl rfl rfl ?_)
 refine wpL_nil ?_
 refine wpA_cond rfl (fun b9 => ?_) (fun b9 => ?_)
 have h := h.1 (beqT b9)
 refine wpA_seq ?_
 refine wpA_region ?_
 iterate 2 refine wL (OpA.m ?_)
 iterate 3 refine wL (OpA.a ?_)
 refine wpL_nil ?_
 refine wpA_ret ?_
 exact ⟨_, (.tmp (d := D.i k) rfl (.tmp (d := D.i at_) rfl (.tmp (d := D.b true) rfl .nil))), _, (.tup (.same rfl (.same rfl (.same rfl .nil))) .nil), ⟨(k, at_, true), rfl, h⟩⟩
 have h := h.2 (beqF b9)
 refine wpA_skip ?_
 obtain ⟨q1, h⟩ := h
 refine wpA_region ?_
 refine wL (OpA.m ?_)
 refine wL (OpA.addi rfl rfl rfl q1 ?_)
 refine wL (OpA.a ?_)
 refine wpL_nil ?_
 exact ⟨(), (at_ + 1), h, (Cov.asg ⟨rfl, rfl, rfl, rfl, rfl, rfl, rfl, rfl, rfl, trivial⟩), (.refl _)⟩
 have h := h.2 (decF b6)
 refine wpA_exit ?_
 obtain ⟨q1, h⟩ := h
 refine wpA_region ?_
 refine wL (OpA.m ?_)
 refine wL (OpA.addi rfl rfl rfl q1 ?_)
 refine wL (OpA.a ?_)
 refine wpL_nil ?_
 exact ⟨(), (k + 1), h, (Cov.asg ⟨rfl, rfl, rfl, rfl, rfl, rfl, rfl, rfl, trivial⟩), (.refl _)⟩
 have h := h.2 (decF b4)
 refine wpA_exit ?_
 refine wpA_seq ?_
 refine wpA_region ?_
 iterate 3 refine wL (OpA.a ?_)
 refine wpL_nil ?_
 refine wpA_ret ?_
 exact ⟨_, (.tmp (d := D.i 0) rfl (.tmp (d := D.i 0) rfl (.tmp (d := D.b false) rfl .nil))), _, (.tup (.same rfl (.same rfl (.same rfl .nil))) .nil), ⟨(0, 0, false), rfl, h⟩⟩
theorem rsource_c (c : Corpus) (t : Text) (from_ : Int) (to : Int) (hp0 : okC c) (hp1 : okT t) (hp2 : 0 ≤ from_) (hp3 : from_ ≤ to) (hp4 : to ≤ (t.words.length : Int)) : Fun false Tryz.prog 44 [encCorpus c, encText t, D.i from_, D.i to] (fun d => d = .tup [D.i ((srcR c t from_ to).1), D.i ((srcR c t from_ to).2.1), D.b ((srcR c t from_ to).2.2)]) :=
 Fun.at (enc := fun r => .tup [D.i (r.1), D.i (r.2.1), D.b (r.2.2)]) (v := srcR c t from_ to) (rsource_w c t from_ to  (fun r => r = srcR c t from_ to) (rsource_ok c t from_ to _ hp0 hp1 hp2 hp3 hp4 rfl))
theorem rright_w (c : Corpus) (t : Text) (least : Int) (Q : Int → Prop) (h : rright_vc c t least Q) : Fun false Tryz.prog 41 [encCorpus c, encText t, D.i least] (fun d => ∃ r, d = D.i r ∧ Q r) := by
 unfold rright_vc at h
 refine Fun.of_body Tryz.func41 rfl Tryz.ntmps41 rfl ?_
 refine wpA_seq ?_
 refine wpA_region ?_
 refine wL (OpA.bx (sz := 4) rfl (by with_reducible conv => lhs; whnf) (.of rfl) (fun c1 _ => ?_))
 refine wL (OpA.bx (sz := 2) rfl (by with_reducible conv => lhs; whnf) (.of rfl) (fun c2 _ => ?_))
 refine wL (OpA.a ?_)
 refine wpL_nil ?_
 iterate 2 refine wpA_seq ?_
 obtain ⟨q1, q2, h⟩ := h
 refine wpA_mid (asg [(2, D.i least), (6, D.i 0), (14, D.b (((checkF c) != 0) || (!(validT t))))]) [(c2, .cells 2 [encText t]), (c1, .cells 4 [encCorpus c])] ?_ ?_
 refine wpA_region ?_
 refine wL (OpA.load_whole rfl ti25 rfl rfl (.tail .head) rfl ⟨_, rfl⟩ ?_)
 refine wL (OpA.call rfl rfl rfl en68 (c26check_c c q1) ?_)
 rintro _ rfl
 refine wL (OpA.neq rfl rfl rfl ?_)
 refine wL (OpA.m ?_)
 refine wpL_split (s := 10) rfl (fun b6 => ?_) (fun b6 => ?_)
 iterate 3 refine wS ?_
 refine wL (OpA.p ?_)
 refine wpL_nil ?_
 exact ⟨(Cov.asg ⟨rfl, rfl, (congrArg D.b (Eq.symm (orS b6))), trivial⟩), (.refl _)⟩
 refine wG (OpA.load_whole rfl ti28 rfl rfl .head rfl ⟨_, rfl⟩ ?_)
 refine wG (OpA.call rfl rfl rfl en55 (n23valid_c t (q2 (bneF b6))) ?_)
 rintro _ rfl
 refine wG (OpA.not rfl rfl ?_)
 refine wL (OpA.p ?_)
 refine wpL_nil ?_
 exact ⟨(Cov.asg ⟨rfl, rfl, (congrArg D.b (Eq.symm (orN b6 rfl))), trivial⟩), (.refl _)⟩
 show wpA _ _ _ _ (asg [(2, D.i least), (6, D.i 0), (14, D.b (((checkF c) != 0) || (!(validT t))))]) [(c2, .cells 2 [encText t]), (c1, .cells 4 [encCorpus c])]
 refine wpA_cond rfl (fun b3 => ?_) (fun b3 => ?_)
 have h := h.1 ((or0 b3).imp (fun hh => (bneT hh)) (fun hh => (notT hh)))
 refine wpA_seq ?_
 refine wpA_region ?_
 refine wL (OpA.a ?_)
 refine wpL_nil ?_
 refine wpA_ret ?_
 exact ⟨_, (.tmp (d := D.i 1) rfl .nil), _, (.same rfl .nil), ⟨1, rfl, h⟩⟩
 have h := h.2 ⟨(bneF (or1 b3)), (notF (or2 b3))⟩
 refine wpA_skip ?_
 iterate 2 refine wpA_seq ?_
 refine wpA_mid (asg [(6, D.i 0), (20, D.b ((decide (least < 1)) || (decide (least > 8192))))]) [(c2, .cells 2 [encText t]), (c1, .cells 4 [encCorpus c])] ?_ ?_
 refine wpA_region ?_
 refine wL (OpA.m ?_)
 refine wL (OpA.lss rfl rfl rfl ?_)
 refine wL (OpA.m ?_)
 refine wpL_split (s := 17) rfl (fun b5 => ?_) (fun b5 => ?_)
 iterate 2 refine wS ?_
 refine wL (OpA.p ?_)
 refine wpL_nil ?_
 exact ⟨(Cov.asg ⟨rfl, (congrArg D.b (Eq.symm (orS b5))), trivial⟩), (.refl _)⟩
 refine wG (OpA.m ?_)
 refine wG (OpA.gtr rfl rfl rfl ?_)
 refine wL (OpA.p ?_)
 refine wpL_nil ?_
 exact ⟨(Cov.asg ⟨rfl, (congrArg D.b (Eq.symm (orN b5 rfl))), trivial⟩), (.refl _)⟩
 show wpA _ _ _ _ (asg [(6, D.i 0), (20, D.b ((decide (least < 1)) || (decide (least > 8192))))]) [(c2, .cells 2 [encText t]), (c1, .cells 4 [encCorpus c])]
 refine wpA_cond rfl (fun b4 => ?_) (fun b4 => ?_)
 have h := h.1 ((or0 b4).imp (fun hh => (decT hh)) (fun hh => (decT hh)))
 refine wpA_seq ?_
 refine wpA_region ?_
 refine wL (OpA.a ?_)
 refine wpL_nil ?_
 refine wpA_ret ?_
 exact ⟨_, (.tmp (d := D.i 3) rfl .nil), _, (.same rfl .nil), ⟨3, rfl, h⟩⟩
 have h := h.2 ⟨(decF (or1 b4)), (decF (or2 b4))⟩
 refine wpA_skip ?_
 refine wpA_seq ?_
 refine wpA_region ?_
 refine wL (OpA.a ?_)
 refine wpL_nil ?_
 refine wpA_ret ?_
 exact ⟨_, (.tmp (d := D.i 0) rfl .nil), _, (.same rfl .nil), ⟨0, rfl, h⟩⟩
theorem rright_c (c : Corpus) (t : Text) (least : Int) (hp0 : okC c) (hp1 : okT t) : Fun false Tryz.prog 41 [encCorpus c, encText t, D.i least] (fun d => d = D.i (rightA c t least)) :=
 Fun.at (enc := fun r => D.i r) (v := rightA c t least) (rright_w c t least  (fun r => r = rightA c t least) (rright_ok c t least _ hp0 hp1 rfl))
theorem rlongest_w (c : Corpus) (t : Text) (from_ : Int) (Q : Int → Prop) (h : rlongest_vc c t from_ Q) : Fun false Tryz.prog 42 [encCorpus c, encText t, D.i from_] (fun d => ∃ r, d = D.i r ∧ Q r) := by
 unfold rlongest_vc at h
 refine Fun.of_body Tryz.func42 rfl Tryz.ntmps42 rfl ?_
 refine wpA_seq ?_
 refine wpA_region ?_
 refine wL (OpA.bx (sz := 4) rfl (by with_reducible conv => lhs; whnf) (.of rfl) (fun c1 _ => ?_))
 refine wL (OpA.bx (sz := 2) rfl (by with_reducible conv => lhs; whnf) (.of rfl) (fun c2 _ => ?_))
 refine wL (OpA.a ?_)
 refine wpL_nil ?_
 refine wpA_seq ?_
 refine wpA_region ?_
 refine wL (OpA.a ?_)
 refine wpL_nil ?_
 iterate 2 refine wpA_seq ?_
 obtain ⟨q1, h⟩ := h
 refine wpA_region ?_
 refine wL (OpA.m ?_)
 refine wL (OpA.addi rfl rfl rfl q1 ?_)
 refine wL (OpA.a ?_)
 refine wpL_nil ?_
 refine wpA_block ?_
 refine wpA_lfp (S := Int × Int) (G := Unit) () (fun gg ss => asg [(2, D.i from_), (3, .ptr c1 4 0 0), (4, .ptr c2 2 0 0), (6, D.i 0), (7, D.i ss.1), (8, D.i ss.2)]) (fun gg ss => [(c2, .cells 2 [encText t]), (c1, .cells 4 [encCorpus c])]) h (Cov.asg ⟨rfl, rfl, rfl, rfl, rfl, rfl, trivial⟩) (.refl _) ?_
 rintro again3 _ ⟨out, to⟩ h
 have h : rlongest_L1 c t from_ Q again3 out to := h
 unfold rlongest_L1 at h
 show wpA _ _ _ _ (asg [(2, D.i from_), (3, .ptr c1 4 0 0), (4, .ptr c2 2 0 0), (6, D.i 0), (7, D.i out), (8, D.i to)]) [(c2, .cells 2 [encText t]), (c1, .cells 4 [encCorpus c])]
 iterate 2 refine wpA_seq ?_
 refine wpA_region ?_
 refine wL (OpA.m ?_)
 refine wL (OpA.fieldAddr rfl tf28_1 rfl ?_)
 refine wL (OpA.load rfl ti26 rfl .head rfl rfl ?_)
 refine wL (OpA.len rfl rfl rfl rfl ts26.desc (.inl ⟨_, _, rfl, (List.length_map _).symm⟩) ?_)
 refine wL (OpA.leq rfl rfl rfl ?_)
 refine wpL_nil ?_
 refine wpA_cond rfl (fun b4 => ?_) (fun b4 => ?_)
 have h := h.1 (decT b4)
 refine wpA_skip ?_
 refine wpA_seq ?_
 refine wpA_block ?_
 refine wpA_seq ?_
 obtain ⟨q1, q2, q3, q4, q5, h⟩ := h
 refine wpA_region ?_
 refine wL (OpA.load_whole rfl ti25 rfl rfl (.tail .head) rfl ⟨_, rfl⟩ ?_)
 refine wL (OpA.load_whole rfl ti28 rfl rfl .head rfl ⟨_, rfl⟩ ?_)
 iterate 2 refine wL (OpA.m ?_)
 refine wL (OpA.call rfl rfl rfl en44 (rsource_c c t from_ to q1 q2 q3 q4 q5) ?_)
 rintro _ rfl
 refine wL (OpA.m ?_)
 iterate 3 refine wL (OpA.extract rfl rfl rfl ?_)
 iterate 3 refine wL (OpA.a ?_)
 refine wpL_nil ?_
 iterate 2 refine wpA_seq ?_
 refine wpA_region ?_
 refine wL (OpA.m ?_)
 refine wL (OpA.not rfl rfl ?_)
 refine wpL_nil ?_
 refine wpA_cond rfl (fun b5 => ?_) (fun b5 => ?_)
 have h := h.1 (notT b5)
 refine wpA_exit ?_
 refine wpA_seq ?_
 refine wpA_region ?_
 refine wL (OpA.m ?_)
 refine wL (OpA.a ?_)
 refine wpL_nil ?_
 refine wpA_ret ?_
 exact ⟨_, (.tmp (d := D.i out) rfl .nil), _, (.same rfl .nil), ⟨out, rfl, h⟩⟩
 have h := h.2 (notF b5)
 refine wpA_skip ?_
 obtain ⟨q1, h⟩ := h
 refine wpA_region ?_
 iterate 2 refine wL (OpA.m ?_)
 refine wL (OpA.subi rfl rfl rfl q1 ?_)
 refine wL (OpA.a ?_)
 refine wpL_nil ?_
 obtain ⟨q1, h⟩ := h
 refine wpA_region ?_
 refine wL (OpA.m ?_)
 refine wL (OpA.addi rfl rfl rfl q1 ?_)
 refine wL (OpA.a ?_)
 refine wpL_nil ?_
 exact ⟨(), ((to - from_), (to + 1)), h, (Cov.asg ⟨rfl, rfl, rfl, rfl, rfl, rfl, trivial⟩), (.refl _)⟩
 have h := h.2 (decF b4)
 refine wpA_exit ?_
 refine wpA_seq ?_
 refine wpA_region ?_
 refine wL (OpA.m ?_)
 refine wL (OpA.a ?_)
 refine wpL_nil ?_
 refine wpA_ret ?_
 exact ⟨_, (.tmp (d := D.i out) rfl .nil), _, (.same rfl .nil), ⟨out, rfl, h⟩⟩
theorem rlongest_c (c : Corpus) (t : Text) (from_ : Int) (hp0 : okC c) (hp1 : okT t) (hp2 : 0 ≤ from_) (hp3 : from_ < (t.words.length : Int)) : Fun false Tryz.prog 42 [encCorpus c, encText t, D.i from_] (fun d => d = D.i ((((longW c.texts (t.words.drop (Int.toNat from_))) : Nat) : Int))) :=
 Fun.at (enc := fun r => D.i r) (v := (((longW c.texts (t.words.drop (Int.toNat from_))) : Nat) : Int)) (rlongest_w c t from_  (fun r => r = (((longW c.texts (t.words.drop (Int.toNat from_))) : Nat) : Int)) (rlongest_ok c t from_ _ hp0 hp1 hp2 hp3 rfl))
theorem rbetter_w (cover : Int) (pieces : Int) (other : Int) (many : Int) (Q : Bool → Prop) (h : rbetter_vc cover pieces other many Q) : Fun false Tryz.prog 43 [D.i cover, D.i pieces, D.i other, D.i many] (fun d => ∃ r, d = D.b r ∧ Q r) := by
 unfold rbetter_vc at h
 refine Fun.of_body Tryz.func43 rfl Tryz.ntmps43 rfl ?_
 refine wpA_seq ?_
 refine wpA_region ?_
 refine wL (OpA.a ?_)
 refine wpL_nil ?_
 refine wpA_seq ?_
 refine wpA_mid (asg [(8, D.b ((decide (cover > other)) || ((cover == other) && (decide (pieces < many)))))]) [] ?_ ?_
 refine wpA_region ?_
 iterate 2 refine wL (OpA.m ?_)
 refine wL (OpA.gtr rfl rfl rfl ?_)
 refine wL (OpA.m ?_)
 refine wpL_split (s := 12) rfl (fun b1 => ?_) (fun b1 => ?_)
 iterate 4 refine wS ?_
 iterate 3 refine wpL_skipU rfl rfl rfl rfl rfl ?_
 refine wS ?_
 refine wL (OpA.p ?_)
 refine wL (OpA.a ?_)
 refine wpL_nil ?_
 exact ⟨(Cov.asg ⟨(congrArg D.b (Eq.symm (orS b1))), trivial⟩), (.refl _)⟩
 iterate 2 refine wG (OpA.m ?_)
 refine wG (OpA.eql rfl rfl rfl ?_)
 refine wG (OpA.m ?_)
 refine wpL_split (s := 16) rfl (fun b2 => ?_) (fun b2 => ?_)
 iterate 2 refine wG (OpA.m ?_)
 refine wG (OpA.lss rfl rfl rfl ?_)
 refine wG (OpA.p ?_)
 refine wL (OpA.p ?_)
 refine wL (OpA.a ?_)
 refine wpL_nil ?_
 exact ⟨(Cov.asg ⟨(congrArg D.b (Eq.symm (orN b1 (andN b2 rfl)))), trivial⟩), (.refl _)⟩
 iterate 3 refine wS ?_
 refine wG (OpA.p ?_)
 refine wL (OpA.p ?_)
 refine wL (OpA.a ?_)
 refine wpL_nil ?_
 exact ⟨(Cov.asg ⟨(congrArg D.b (Eq.symm (orN b1 (andS b2)))), trivial⟩), (.refl _)⟩
 show wpA _ _ _ _ (asg [(8, D.b ((decide (cover > other)) || ((cover == other) && (decide (pieces < many)))))]) []
 refine wpA_ret ?_
 exact ⟨_, (.tmp (d := D.b ((decide (cover > other)) || ((cover == other) && (decide (pieces < many))))) rfl .nil), _, (.same rfl .nil), ⟨((decide (cover > other)) || ((cover == other) && (decide (pieces < many)))), rfl, h⟩⟩
theorem rbetter_c (cover : Int) (pieces : Int) (other : Int) (many : Int)  : Fun false Tryz.prog 43 [D.i cover, D.i pieces, D.i other, D.i many] (fun d => d = D.b (betR cover pieces other many)) :=
 Fun.at (enc := fun r => D.b r) (v := betR cover pieces other many) (rbetter_w cover pieces other many  (fun r => r = betR cover pieces other many) (rbetter_ok cover pieces other many _  rfl))
abbrev rof_e0 (t : Text) := (winL D.i ([] : List D) (List.replicate (Int.toNat ((t.words.length : Int) + 1)) (0 : Int)) ([] : List D))
theorem rof_w (c : Corpus) (t : Text) (least : Int) (Q : Attribution × Int → Prop) (h : rof_vc c t least Q) : Fun false Tryz.prog 13 [encCorpus c, encText t, D.i least] (fun d => ∃ r, d = .tup [encAttribution (r.1), D.i (r.2)] ∧ Q r) := by
 unfold rof_vc at h
 refine Fun.of_body Tryz.func13 rfl Tryz.ntmps13 rfl ?_
 refine wpA_seq ?_
 refine wpA_region ?_
 refine wL (OpA.bx (sz := 4) rfl (by with_reducible conv => lhs; whnf) (.of rfl) (fun c1 _ => ?_))
 refine wL (OpA.bx (sz := 2) rfl (by with_reducible conv => lhs; whnf) (.of rfl) (fun c2 _ => ?_))
 refine wL (OpA.alloc (sz := 2) (d := .agg ([D.s ByteArray.empty, .v (.slice none 0 0)])) rfl tz33 (fun _ _ => .agg (.cons (.v _) (.cons (.v _) .nil))) (.of rfl) (fun c3 _ => ?_))
 refine wL (OpA.a ?_)
 refine wpL_nil ?_
 refine wpA_seq ?_
 obtain ⟨q1, q2, h⟩ := h
 refine wpA_region ?_
 refine wL (OpA.load_whole rfl ti25 rfl rfl (.tail (.tail .head)) rfl ⟨_, rfl⟩ ?_)
 refine wL (OpA.load_whole rfl ti28 rfl rfl (.tail .head) rfl ⟨_, rfl⟩ ?_)
 refine wL (OpA.m ?_)
 refine wL (OpA.call rfl rfl rfl en41 (rright_c c t least q1 q2) ?_)
 rintro _ rfl
 refine wL (OpA.a ?_)
 refine wpL_nil ?_
 iterate 2 refine wpA_seq ?_
 refine wpA_region ?_
 refine wL (OpA.m ?_)
 refine wL (OpA.neq rfl rfl rfl ?_)
 refine wpL_nil ?_
 refine wpA_cond rfl (fun b4 => ?_) (fun b4 => ?_)
 have h := h.1 (bneT b4)
 refine wpA_seq ?_
 refine wpA_region ?_
 refine wL (OpA.buildO (zs := [.v (.string ⟨#[]⟩), .v (.slice none 0 0)]) rfl tp33 tz33 (fun _ _ => (.cons (.v _) (.cons (.v _) .nil))) .nil rfl ?_)
 refine wL (OpA.m ?_)
 refine wE (OpA.storeW rfl ti33 rfl (by with_reducible conv => lhs; whnf) (.of rfl) rfl rfl .head ?_)
 refine wL (OpA.a ?_)
 refine wpL_nil ?_
 refine wpA_ret ?_
 exact ⟨_, (.cell (.whole ti33 rfl rfl .head rfl ⟨_, rfl⟩) (.tmp (d := D.i (rightA c t least)) rfl .nil)), _, (.tup (.agg (.same rfl (.nilv (sz := 4) .nil)) (.same rfl .nil)) .nil), ⟨((Attribution.mk ByteArray.empty []), (rightA c t least)), rfl, h⟩⟩
 have h := h.2 (bneF b4)
 refine wpA_skip ?_
 refine wpA_seq ?_
 refine wpA_region ?_
 refine wL (OpA.fieldAddr rfl tf28_1 rfl ?_)
 refine wL (OpA.load rfl ti26 rfl (.tail .head) rfl rfl ?_)
 refine wL (OpA.len rfl rfl rfl rfl ts26.desc (.inl ⟨_, _, rfl, (List.length_map _).symm⟩) ?_)
 refine wL (OpA.a ?_)
 refine wpL_nil ?_
 refine wpA_seq ?_
 obtain ⟨q1_0, q2_0, q4_0, q5_0, q7_0, q8_0, h⟩ := h
 refine wpA_states mo (fun W hW => ?_)
 refine flip_goal (a := ∀ (c35 : Nat) (c65 : Nat) (c95 : Nat), W 0 (lv 12 4095) (asg [(2, D.i least), (3, .ptr c1 4 0 0), (4, .ptr c2 2 0 0), (6, .ptr c3 2 0 0), (7, D.i 0), (9, D.i (t.words.length : Int)), (10, .own c35 1 ([] : List D).length (List.replicate (Int.toNat ((t.words.length : Int) + 1)) (0 : Int)).length), (11, .own c65 1 ([] : List D).length (List.replicate (Int.toNat ((t.words.length : Int) + 1)) (0 : Int)).length), (12, .own c95 1 ([] : List D).length (List.replicate (Int.toNat ((t.words.length : Int) + 1)) (0 : Int)).length)]) [(c95, .cells 1 (rof_e0 t)), (c65, .cells 1 (rof_e0 t)), (c35, .cells 1 (rof_e0 t)), (c3, .cells 2 [.agg ([D.s ByteArray.empty, .v (.slice none 0 0)])]), (c2, .cells 2 [encText t]), (c1, .cells 4 [encCorpus c])]) (fun s0 => ?_) ?_
 have s1 : ∀ (c35 : Nat) (c65 : Nat) (c95 : Nat), W 1 (lv 12 2047) (asg [(2, D.i least), (3, .ptr c1 4 0 0), (4, .ptr c2 2 0 0), (6, .ptr c3 2 0 0), (7, D.i 0), (9, D.i (t.words.length : Int)), (10, .own c35 1 ([] : List D).length (List.replicate (Int.toNat ((t.words.length : Int) + 1)) (0 : Int)).length), (11, .own c65 1 ([] : List D).length (List.replicate (Int.toNat ((t.words.length : Int) + 1)) (0 : Int)).length), (42, .own c95 1 ([] : List D).length (List.replicate (Int.toNat ((t.words.length : Int) + 1)) (0 : Int)).length)]) [(c95, .cells 1 (rof_e0 t)), (c65, .cells 1 (rof_e0 t)), (c35, .cells 1 (rof_e0 t)), (c3, .cells 2 [.agg ([D.s ByteArray.empty, .v (.slice none 0 0)])]), (c2, .cells 2 [encText t]), (c1, .cells 4 [encCorpus c])] := fun c35 c65 c95 => wpS_of hW (by refine wpS_step (rs := [11]) (by kernel_rfl) rfl ⟨?_, trivial⟩; refine wpS_op (i := 11) (li' := (lv 12 4095)) rfl rfl rfl rfl (by kernel_rfl) (OpA.a ?_); exact wpS_to hW (s0 c35 c65 c95) (Cov.asg ⟨rfl, rfl, rfl, rfl, rfl, rfl, rfl, rfl, rfl, trivial⟩) (.refl _))
 have s2 : ∀ (c35 : Nat) (c65 : Nat) (c95 : Nat), W 2 (lv 12 1023) (asg [(2, D.i least), (3, .ptr c1 4 0 0), (4, .ptr c2 2 0 0), (6, .ptr c3 2 0 0), (7, D.i 0), (9, D.i (t.words.length : Int)), (10, .own c35 1 ([] : List D).length (List.replicate (Int.toNat ((t.words.length : Int) + 1)) (0 : Int)).length), (39, .own c65 1 ([] : List D).length (List.replicate (Int.toNat ((t.words.length : Int) + 1)) (0 : Int)).length), (42, .own c95 1 ([] : List D).length (List.replicate (Int.toNat ((t.words.length : Int) + 1)) (0 : Int)).length)]) [(c95, .cells 1 (rof_e0 t)), (c65, .cells 1 (rof_e0 t)), (c35, .cells 1 (rof_e0 t)), (c3, .cells 2 [.agg ([D.s ByteArray.empty, .v (.slice none 0 0)])]), (c2, .cells 2 [encText t]), (c1, .cells 4 [encCorpus c])] := fun c35 c65 c95 => wpS_of hW (by refine wpS_step (rs := [10]) (by kernel_rfl) rfl ⟨?_, trivial⟩; refine wpS_op (i := 10) (li' := (lv 12 2047)) rfl rfl rfl rfl (by kernel_rfl) (OpA.a ?_); exact wpS_to hW (s1 c35 c65 c95) (Cov.asg ⟨rfl, rfl, rfl, rfl, rfl, rfl, rfl, rfl, rfl, trivial⟩) (.refl _))
 have s3 : ∀ (c35 : Nat) (c65 : Nat), W 2 (lv 12 1791) (asg [(2, D.i least), (3, .ptr c1 4 0 0), (4, .ptr c2 2 0 0), (6, .ptr c3 2 0 0), (7, D.i 0), (9, D.i (t.words.length : Int)), (10, .own c35 1 ([] : List D).length (List.replicate (Int.toNat ((t.words.length : Int) + 1)) (0 : Int)).length), (11, .own c65 1 ([] : List D).length (List.replicate (Int.toNat ((t.words.length : Int) + 1)) (0 : Int)).length), (41, D.i ((t.words.length : Int) + 1))]) [(c65, .cells 1 (rof_e0 t)), (c35, .cells 1 (rof_e0 t)), (c3, .cells 2 [.agg ([D.s ByteArray.empty, .v (.slice none 0 0)])]), (c2, .cells 2 [encText t]), (c1, .cells 4 [encCorpus c])] := fun c35 c65 => wpS_of hW (by refine wpS_step (rs := [8]) (by kernel_rfl) rfl ⟨?_, trivial⟩; refine wpS_op (i := 8) (li' := (lv 12 2047)) rfl rfl rfl rfl (by kernel_rfl) (OpA.makeSliceV (enc := D.i) (v0 := 0) rfl ts52 rfl rfl tz3 (fun _ _ => .v _) (.of rfl) q8_0 (fun c95 => ?_)); exact wpS_to hW (s1 c35 c65 c95) (Cov.asg ⟨rfl, rfl, rfl, rfl, rfl, rfl, rfl, rfl, rfl, trivial⟩) (.refl _))
 have s4 : ∀ (c35 : Nat) (c65 : Nat) (c95 : Nat), W 3 (lv 12 511) (asg [(2, D.i least), (3, .ptr c1 4 0 0), (4, .ptr c2 2 0 0), (6, .ptr c3 2 0 0), (7, D.i 0), (9, D.i (t.words.length : Int)), (36, .own c35 1 ([] : List D).length (List.replicate (Int.toNat ((t.words.length : Int) + 1)) (0 : Int)).length), (39, .own c65 1 ([] : List D).length (List.replicate (Int.toNat ((t.words.length : Int) + 1)) (0 : Int)).length), (42, .own c95 1 ([] : List D).length (List.replicate (Int.toNat ((t.words.length : Int) + 1)) (0 : Int)).length)]) [(c95, .cells 1 (rof_e0 t)), (c65, .cells 1 (rof_e0 t)), (c35, .cells 1 (rof_e0 t)), (c3, .cells 2 [.agg ([D.s ByteArray.empty, .v (.slice none 0 0)])]), (c2, .cells 2 [encText t]), (c1, .cells 4 [encCorpus c])] := fun c35 c65 c95 => wpS_of hW (by refine wpS_step (rs := [9]) (by kernel_rfl) rfl ⟨?_, trivial⟩; refine wpS_op (i := 9) (li' := (lv 12 1023)) rfl rfl rfl rfl (by kernel_rfl) (OpA.a ?_); exact wpS_to hW (s2 c35 c65 c95) (Cov.asg ⟨rfl, rfl, rfl, rfl, rfl, rfl, rfl, rfl, rfl, trivial⟩) (.refl _))
 have s5 : ∀ (c35 : Nat) (c65 : Nat), W 3 (lv 12 767) (asg [(2, D.i least), (3, .ptr c1 4 0 0), (4, .ptr c2 2 0 0), (6, .ptr c3 2 0 0), (7, D.i 0), (9, D.i (t.words.length : Int)), (10, .own c35 1 ([] : List D).length (List.replicate (Int.toNat ((t.words.length : Int) + 1)) (0 : Int)).length), (39, .own c65 1 ([] : List D).length (List.replicate (Int.toNat ((t.words.length : Int) + 1)) (0 : Int)).length), (41, D.i ((t.words.length : Int) + 1))]) [(c65, .cells 1 (rof_e0 t)), (c35, .cells 1 (rof_e0 t)), (c3, .cells 2 [.agg ([D.s ByteArray.empty, .v (.slice none 0 0)])]), (c2, .cells 2 [encText t]), (c1, .cells 4 [encCorpus c])] := fun c35 c65 => wpS_of hW (by refine wpS_step (rs := [8, 10]) (by kernel_rfl) rfl ⟨?_, ?_, trivial⟩; refine wpS_op (i := 8) (li' := (lv 12 1023)) rfl rfl rfl rfl (by kernel_rfl) (OpA.makeSliceV (enc := D.i) (v0 := 0) rfl ts52 rfl rfl tz3 (fun _ _ => .v _) (.of rfl) q8_0 (fun c95 => ?_)); exact wpS_to hW (s2 c35 c65 c95) (Cov.asg ⟨rfl, rfl, rfl, rfl, rfl, rfl, rfl, rfl, rfl, trivial⟩) (.refl _); refine wpS_op (i := 10) (li' := (lv 12 1791)) rfl rfl rfl rfl (by kernel_rfl) (OpA.a ?_); exact wpS_to hW (s3 c35 c65) (Cov.asg ⟨rfl, rfl, rfl, rfl, rfl, rfl, rfl, rfl, rfl, trivial⟩) (.refl _))
 have s6 : ∀ (c35 : Nat) (c95 : Nat), W 3 (lv 12 991) (asg [(2, D.i least), (3, .ptr c1 4 0 0), (4, .ptr c2 2 0 0), (6, .ptr c3 2 0 0), (7, D.i 0), (9, D.i (t.words.length : Int)), (10, .own c35 1 ([] : List D).length (List.replicate (Int.toNat ((t.words.length : Int) + 1)) (0 : Int)).length), (38, D.i ((t.words.length : Int) + 1)), (42, .own c95 1 ([] : List D).length (List.replicate (Int.toNat ((t.words.length : Int) + 1)) (0 : Int)).length)]) [(c95, .cells 1 (rof_e0 t)), (c35, .cells 1 (rof_e0 t)), (c3, .cells 2 [.agg ([D.s ByteArray.empty, .v (.slice none 0 0)])]), (c2, .cells 2 [encText t]), (c1, .cells 4 [encCorpus c])] := fun c35 c95 => wpS_of hW (by refine wpS_step (rs := [5]) (by kernel_rfl) rfl ⟨?_, trivial⟩; refine wpS_op (i := 5) (li' := (lv 12 1023)) rfl rfl rfl rfl (by kernel_rfl) (OpA.makeSliceV (enc := D.i) (v0 := 0) rfl ts52 rfl rfl tz3 (fun _ _ => .v _) (.of rfl) q5_0 (fun c65 => ?_)); exact wpS_to hW (s2 c35 c65 c95) (Cov.asg ⟨rfl, rfl, rfl, rfl, rfl, rfl, rfl, rfl, rfl, trivial⟩) pull1)
 have s7 : ∀ (c35 : Nat) (c65 : Nat), W 4 (lv 12 255) (asg [(2, D.i least), (3, .ptr c1 4 0 0), (4, .ptr c2 2 0 0), (6, .ptr c3 2 0 0), (7, D.i 0), (9, D.i (t.words.length : Int)), (36, .own c35 1 ([] : List D).length (List.replicate (Int.toNat ((t.words.length : Int) + 1)) (0 : Int)).length), (39, .own c65 1 ([] : List D).length (List.replicate (Int.toNat ((t.words.length : Int) + 1)) (0 : Int)).length), (41, D.i ((t.words.length : Int) + 1))]) [(c65, .cells 1 (rof_e0 t)), (c35, .cells 1 (rof_e0 t)), (c3, .cells 2 [.agg ([D.s ByteArray.empty, .v (.slice none 0 0)])]), (c2, .cells 2 [encText t]), (c1, .cells 4 [encCorpus c])] := fun c35 c65 => wpS_of hW (by refine wpS_step (rs := [8, 9]) (by kernel_rfl) rfl ⟨?_, ?_, trivial⟩; refine wpS_op (i := 8) (li' := (lv 12 511)) rfl rfl rfl rfl (by kernel_rfl) (OpA.makeSliceV (enc := D.i) (v0 := 0) rfl ts52 rfl rfl tz3 (fun _ _ => .v _) (.of rfl) q8_0 (fun c95 => ?_)); exact wpS_to hW (s4 c35 c65 c95) (Cov.asg ⟨rfl, rfl, rfl, rfl, rfl, rfl, rfl, rfl, rfl, trivial⟩) (.refl _); refine wpS_op (i := 9) (li' := (lv 12 767)) rfl rfl rfl rfl (by kernel_rfl) (OpA.a ?_); exact wpS_to hW (s5 c35 c65) (Cov.asg ⟨rfl, rfl, rfl, rfl, rfl, rfl, rfl, rfl, rfl, trivial⟩) (.refl _))
 have s8 : ∀ (c35 : Nat) (c95 : Nat), W 4 (lv 12 479) (asg [(2, D.i least), (3, .ptr c1 4 0 0), (4, .ptr c2 2 0 0), (6, .ptr c3 2 0 0), (7, D.i 0), (9, D.i (t.words.length : Int)), (36, .own c35 1 ([] : List D).length (List.replicate (Int.toNat ((t.words.length : Int) + 1)) (0 : Int)).length), (38, D.i ((t.words.length : Int) + 1)), (42, .own c95 1 ([] : List D).length (List.replicate (Int.toNat ((t.words.length : Int) + 1)) (0 : Int)).length)]) [(c95, .cells 1 (rof_e0 t)), (c35, .cells 1 (rof_e0 t)), (c3, .cells 2 [.agg ([D.s ByteArray.empty, .v (.slice none 0 0)])]), (c2, .cells 2 [encText t]), (c1, .cells 4 [encCorpus c])] := fun c35 c95 => wpS_of hW (by refine wpS_step (rs := [5, 9]) (by kernel_rfl) rfl ⟨?_, ?_, trivial⟩; refine wpS_op (i := 5) (li' := (lv 12 511)) rfl rfl rfl rfl (by kernel_rfl) (OpA.makeSliceV (enc := D.i) (v0 := 0) rfl ts52 rfl rfl tz3 (fun _ _ => .v _) (.of rfl) q5_0 (fun c65 => ?_)); exact wpS_to hW (s4 c35 c65 c95) (Cov.asg ⟨rfl, rfl, rfl, rfl, rfl, rfl, rfl, rfl, rfl, trivial⟩) pull1; refine wpS_op (i := 9) (li' := (lv 12 991)) rfl rfl rfl rfl (by kernel_rfl) (OpA.a ?_); exact wpS_to hW (s6 c35 c95) (Cov.asg ⟨rfl, rfl, rfl, rfl, rfl, rfl, rfl, rfl, rfl, trivial⟩) (.refl _))
 have s9 : ∀ (c35 : Nat), W 4 (lv 12 735) (asg [(2, D.i least), (3, .ptr c1 4 0 0), (4, .ptr c2 2 0 0), (6, .ptr c3 2 0 0), (7, D.i 0), (9, D.i (t.words.length : Int)), (10, .own c35 1 ([] : List D).length (List.replicate (Int.toNat ((t.words.length : Int) + 1)) (0 : Int)).length), (38, D.i ((t.words.length : Int) + 1)), (41, D.i ((t.words.length : Int) + 1))]) [(c35, .cells 1 (rof_e0 t)), (c3, .cells 2 [.agg ([D.s ByteArray.empty, .v (.slice none 0 0)])]), (c2, .cells 2 [encText t]), (c1, .cells 4 [encCorpus c])] := fun c35 => wpS_of hW (by refine wpS_step (rs := [5, 8]) (by kernel_rfl) rfl ⟨?_, ?_, trivial⟩; refine wpS_op (i := 5) (li' := (lv 12 767)) rfl rfl rfl rfl (by kernel_rfl) (OpA.makeSliceV (enc := D.i) (v0 := 0) rfl ts52 rfl rfl tz3 (fun _ _ => .v _) (.of rfl) q5_0 (fun c65 => ?_)); exact wpS_to hW (s5 c35 c65) (Cov.asg ⟨rfl, rfl, rfl, rfl, rfl, rfl, rfl, rfl, rfl, trivial⟩) (.refl _); refine wpS_op (i := 8) (li' := (lv 12 991)) rfl rfl rfl rfl (by kernel_rfl) (OpA.makeSliceV (enc := D.i) (v0 := 0) rfl ts52 rfl rfl tz3 (fun _ _ => .v _) (.of rfl) q8_0 (fun c95 => ?_)); exact wpS_to hW (s6 c35 c95) (Cov.asg ⟨rfl, rfl, rfl, rfl, rfl, rfl, rfl, rfl, rfl, trivial⟩) (.refl _))
 have s10 : ∀ (c65 : Nat) (c95 : Nat), W 4 (lv 12 507) (asg [(2, D.i least), (3, .ptr c1 4 0 0), (4, .ptr c2 2 0 0), (6, .ptr c3 2 0 0), (7, D.i 0), (9, D.i (t.words.length : Int)), (35, D.i ((t.words.length : Int) + 1)), (39, .own c65 1 ([] : List D).length (List.replicate (Int.toNat ((t.words.length : Int) + 1)) (0 : Int)).length), (42, .own c95 1 ([] : List D).length (List.replicate (Int.toNat ((t.words.length : Int) + 1)) (0 : Int)).length)]) [(c95, .cells 1 (rof_e0 t)), (c65, .cells 1 (rof_e0 t)), (c3, .cells 2 [.agg ([D.s ByteArray.empty, .v (.slice none 0 0)])]), (c2, .cells 2 [encText t]), (c1, .cells 4 [encCorpus c])] := fun c65 c95 => wpS_of hW (by refine wpS_step (rs := [2]) (by kernel_rfl) rfl ⟨?_, trivial⟩; refine wpS_op (i := 2) (li' := (lv 12 511)) rfl rfl rfl rfl (by kernel_rfl) (OpA.makeSliceV (enc := D.i) (v0 := 0) rfl ts52 rfl rfl tz3 (fun _ _ => .v _) (.of rfl) q2_0 (fun c35 => ?_)); exact wpS_to hW (s4 c35 c65 c95) (Cov.asg ⟨rfl, rfl, rfl, rfl, rfl, rfl, rfl, rfl, rfl, trivial⟩) (pull1.trans (.cons _ pull1)))
 have s11 : ∀ (c35 : Nat), W 5 (lv 12 223) (asg [(2, D.i least), (3, .ptr c1 4 0 0), (4, .ptr c2 2 0 0), (6, .ptr c3 2 0 0), (7, D.i 0), (9, D.i (t.words.length : Int)), (36, .own c35 1 ([] : List D).length (List.replicate (Int.toNat ((t.words.length : Int) + 1)) (0 : Int)).length), (38, D.i ((t.words.length : Int) + 1)), (41, D.i ((t.words.length : Int) + 1))]) [(c35, .cells 1 (rof_e0 t)), (c3, .cells 2 [.agg ([D.s ByteArray.empty, .v (.slice none 0 0)])]), (c2, .cells 2 [encText t]), (c1, .cells 4 [encCorpus c])] := fun c35 => wpS_of hW (by refine wpS_step (rs := [5, 8, 9]) (by kernel_rfl) rfl ⟨?_, ?_, ?_, trivial⟩; refine wpS_op (i := 5) (li' := (lv 12 255)) rfl rfl rfl rfl (by kernel_rfl) (OpA.makeSliceV (enc := D.i) (v0 := 0) rfl ts52 rfl rfl tz3 (fun _ _ => .v _) (.of rfl) q5_0 (fun c65 => ?_)); exact wpS_to hW (s7 c35 c65) (Cov.asg ⟨rfl, rfl, rfl, rfl, rfl, rfl, rfl, rfl, rfl, trivial⟩) (.refl _); refine wpS_op (i := 8) (li' := (lv 12 479)) rfl rfl rfl rfl (by kernel_rfl) (OpA.makeSliceV (enc := D.i) (v0 := 0) rfl ts52 rfl rfl tz3 (fun _ _ => .v _) (.of rfl) q8_0 (fun c95 => ?_)); exact wpS_to hW (s8 c35 c95) (Cov.asg ⟨rfl, rfl, rfl, rfl, rfl, rfl, rfl, rfl, rfl, trivial⟩) (.refl _); refine wpS_op (i := 9) (li' := (lv 12 735)) rfl rfl rfl rfl (by kernel_rfl) (OpA.a ?_); exact wpS_to hW (s9 c35) (Cov.asg ⟨rfl, rfl, rfl, rfl, rfl, rfl, rfl, rfl, rfl, trivial⟩) (.refl _))
 have s12 : ∀ (c65 : Nat), W 5 (lv 12 251) (asg [(2, D.i least), (3, .ptr c1 4 0 0), (4, .ptr c2 2 0 0), (6, .ptr c3 2 0 0), (7, D.i 0), (9, D.i (t.words.length : Int)), (35, D.i ((t.words.length : Int) + 1)), (39, .own c65 1 ([] : List D).length (List.replicate (Int.toNat ((t.words.length : Int) + 1)) (0 : Int)).length), (41, D.i ((t.words.length : Int) + 1))]) [(c65, .cells 1 (rof_e0 t)), (c3, .cells 2 [.agg ([D.s ByteArray.empty, .v (.slice none 0 0)])]), (c2, .cells 2 [encText t]), (c1, .cells 4 [encCorpus c])] := fun c65 => wpS_of hW (by refine wpS_step (rs := [2, 8]) (by kernel_rfl) rfl ⟨?_, ?_, trivial⟩; refine wpS_op (i := 2) (li' := (lv 12 255)) rfl rfl rfl rfl (by kernel_rfl) (OpA.makeSliceV (enc := D.i) (v0 := 0) rfl ts52 rfl rfl tz3 (fun _ _ => .v _) (.of rfl) q2_0 (fun c35 => ?_)); exact wpS_to hW (s7 c35 c65) (Cov.asg ⟨rfl, rfl, rfl, rfl, rfl, rfl, rfl, rfl, rfl, trivial⟩) pull1; refine wpS_op (i := 8) (li' := (lv 12 507)) rfl rfl rfl rfl (by kernel_rfl) (OpA.makeSliceV (enc := D.i) (v0 := 0) rfl ts52 rfl rfl tz3 (fun _ _ => .v _) (.of rfl) q8_0 (fun c95 => ?_)); exact wpS_to hW (s10 c65 c95) (Cov.asg ⟨rfl, rfl, rfl, rfl, rfl, rfl, rfl, rfl, rfl, trivial⟩) (.refl _))
 have s13 : ∀ (c95 : Nat), W 5 (lv 12 475) (asg [(2, D.i least), (3, .ptr c1 4 0 0), (4, .ptr c2 2 0 0), (6, .ptr c3 2 0 0), (7, D.i 0), (9, D.i (t.words.length : Int)), (35, D.i ((t.words.length : Int) + 1)), (38, D.i ((t.words.length : Int) + 1)), (42, .own c95 1 ([] : List D).length (List.replicate (Int.toNat ((t.words.length : Int) + 1)) (0 : Int)).length)]) [(c95, .cells 1 (rof_e0 t)), (c3, .cells 2 [.agg ([D.s ByteArray.empty, .v (.slice none 0 0)])]), (c2, .cells 2 [encText t]), (c1, .cells 4 [encCorpus c])] := fun c95 => wpS_of hW (by refine wpS_step (rs := [2, 5]) (by kernel_rfl) rfl ⟨?_, ?_, trivial⟩; refine wpS_op (i := 2) (li' := (lv 12 479)) rfl rfl rfl rfl (by kernel_rfl) (OpA.makeSliceV (enc := D.i) (v0 := 0) rfl ts52 rfl rfl tz3 (fun _ _ => .v _) (.of rfl) q2_0 (fun c35 => ?_)); exact wpS_to hW (s8 c35 c95) (Cov.asg ⟨rfl, rfl, rfl, rfl, rfl, rfl, rfl, rfl, rfl, trivial⟩) pull1; refine wpS_op (i := 5) (li' := (lv 12 507)) rfl rfl rfl rfl (by kernel_rfl) (OpA.makeSliceV (enc := D.i) (v0 := 0) rfl ts52 rfl rfl tz3 (fun _ _ => .v _) (.of rfl) q5_0 (fun c65 => ?_)); exact wpS_to hW (s10 c65 c95) (Cov.asg ⟨rfl, rfl, rfl, rfl, rfl, rfl, rfl, rfl, rfl, trivial⟩) pull1)
 have s14 : W 6 (lv 12 219) (asg [(2, D.i least), (3, .ptr c1 4 0 0), (4, .ptr c2 2 0 0), (6, .ptr c3 2 0 0), (7, D.i 0), (9, D.i (t.words.length : Int)), (35, D.i ((t.words.length : Int) + 1)), (38, D.i ((t.words.length : Int) + 1)), (41, D.i ((t.words.length : Int) + 1))]) [(c3, .cells 2 [.agg ([D.s ByteArray.empty, .v (.slice none 0 0)])]), (c2, .cells 2 [encText t]), (c1, .cells 4 [encCorpus c])] := wpS_of hW (by refine wpS_step (rs := [2, 5, 8]) (by kernel_rfl) rfl ⟨?_, ?_, ?_, trivial⟩; refine wpS_op (i := 2) (li' := (lv 12 223)) rfl rfl rfl rfl (by kernel_rfl) (OpA.makeSliceV (enc := D.i) (v0 := 0) rfl ts52 rfl rfl tz3 (fun _ _ => .v _) (.of rfl) q2_0 (fun c35 => ?_)); exact wpS_to hW (s11 c35) (Cov.asg ⟨rfl, rfl, rfl, rfl, rfl, rfl, rfl, rfl, rfl, trivial⟩) (.refl _); refine wpS_op (i := 5) (li' := (lv 12 251)) rfl rfl rfl rfl (by kernel_rfl) (OpA.makeSliceV (enc := D.i) (v0 := 0) rfl ts52 rfl rfl tz3 (fun _ _ => .v _) (.of rfl) q5_0 (fun c65 => ?_)); exact wpS_to hW (s12 c65) (Cov.asg ⟨rfl, rfl, rfl, rfl, rfl, rfl, rfl, rfl, rfl, trivial⟩) (.refl _); refine wpS_op (i := 8) (li' := (lv 12 475)) rfl rfl rfl rfl (by kernel_rfl) (OpA.makeSliceV (enc := D.i) (v0 := 0) rfl ts52 rfl rfl tz3 (fun _ _ => .v _) (.of rfl) q8_0 (fun c95 => ?_)); exact wpS_to hW (s13 c95) (Cov.asg ⟨rfl, rfl, rfl, rfl, rfl, rfl, rfl, rfl, rfl, trivial⟩) (.refl _))
 refine wpS_of hW ?_
 refine wpS_firstY (fuel := 11) (i := 0) (li' := (lv 12 1)) rfl rfl (.move rfl) rfl rfl (by kernel_rfl) (by kernel_rfl) (by kernel_rfl) (fun _ _ _ hx => hx) rfl rfl (by kernel_rfl) ?_
 refine wpS_firstY (fuel := 10) (i := 1) (li' := (lv 12 3)) rfl rfl (.addi rfl rfl rfl q1_0) rfl rfl (by kernel_rfl) (by kernel_rfl) (by kernel_rfl) (fun _ _ _ hx => hx) rfl rfl (by kernel_rfl) ?_
 refine wpS_firstY (fuel := 9) (i := 3) (li' := (lv 12 11)) rfl rfl (.move rfl) rfl rfl (by kernel_rfl) (by kernel_rfl) (by kernel_rfl) (fun _ _ _ hx => hx) rfl rfl (by kernel_rfl) ?_
 refine wpS_firstY (fuel := 8) (i := 4) (li' := (lv 12 27)) rfl rfl (.addi rfl rfl rfl q4_0) rfl rfl (by kernel_rfl) (by kernel_rfl) (by kernel_rfl) (fun _ _ _ hx => hx) rfl rfl (by kernel_rfl) ?_
 refine wpS_firstY (fuel := 7) (i := 6) (li' := (lv 12 91)) rfl rfl (.move rfl) rfl rfl (by kernel_rfl) (by kernel_rfl) (by kernel_rfl) (fun _ _ _ hx => hx) rfl rfl (by kernel_rfl) ?_
 refine wpS_firstY (fuel := 6) (i := 7) (li' := (lv 12 219)) rfl rfl (.addi rfl rfl rfl q7_0) rfl rfl (by kernel_rfl) (by kernel_rfl) (by kernel_rfl) (fun _ _ _ hx => hx) rfl rfl (by kernel_rfl) ?_
 exact wpS_to hW s14 (Cov.asg ⟨rfl, rfl, rfl, rfl, rfl, rfl, rfl, rfl, rfl, trivial⟩) (.refl _)
 intro c35 c65 c95
 refine wpS_of hW (wpS_done (by kernel_rfl) ?_)
 iterate 2 refine wpA_seq ?_
 obtain ⟨q1, h⟩ := h
 refine wpA_region ?_
 refine wL (OpA.m ?_)
 refine wL (OpA.subi rfl rfl rfl q1 ?_)
 refine wL (OpA.a ?_)
 refine wpL_nil ?_
 refine wpA_block ?_
 refine wpA_lfp (S := (List Int) × (List Int) × (List Int) × Int) (G := Nat × List D × List D × Nat × List D × List D × Nat × List D × List D) (c95, ([] : List D), ([] : List D), c65, ([] : List D), ([] : List D), c35, ([] : List D), ([] : List D)) (fun gg ss => asg [(2, D.i least), (3, .ptr c1 4 0 0), (4, .ptr c2 2 0 0), (6, .ptr c3 2 0 0), (7, D.i 0), (9, D.i (t.words.length : Int)), (10, .own gg.2.2.2.2.2.2.1 1 gg.2.2.2.2.2.2.2.1.length ss.2.2.1.length), (11, .own gg.2.2.2.1 1 gg.2.2.2.2.1.length ss.2.1.length), (12, .own gg.1 1 gg.2.1.length ss.1.length), (13, D.i ss.2.2.2)]) (fun gg ss => [(gg.1, .cells 1 (winL D.i gg.2.1 ss.1 gg.2.2.1)), (gg.2.2.2.1, .cells 1 (winL D.i gg.2.2.2.2.1 ss.2.1 gg.2.2.2.2.2.1)), (gg.2.2.2.2.2.2.1, .cells 1 (winL D.i gg.2.2.2.2.2.2.2.1 ss.2.2.1 gg.2.2.2.2.2.2.2.2)), (c3, .cells 2 [.agg ([D.s ByteArray.empty, .v (.slice none 0 0)])]), (c2, .cells 2 [encText t]), (c1, .cells 4 [encCorpus c])]) h (Cov.asg ⟨rfl, rfl, rfl, rfl, rfl, rfl, rfl, rfl, rfl, rfl, trivial⟩) (.refl _) ?_
 rintro again145 ⟨cb42, pre42, post42, cb39, pre39, post39, cb36, pre36, post36⟩ ⟨length, many, cover, i⟩ h
 have h : rof_L1 c t least Q again145 length many cover i := h
 unfold rof_L1 at h
 show wpA _ _ _ _ (asg [(2, D.i least), (3, .ptr c1 4 0 0), (4, .ptr c2 2 0 0), (6, .ptr c3 2 0 0), (7, D.i 0), (9, D.i (t.words.length : Int)), (10, .own cb36 1 pre36.length cover.length), (11, .own cb39 1 pre39.length many.length), (12, .own cb42 1 pre42.length length.length), (13, D.i i)]) [(cb42, .cells 1 (winL D.i pre42 length post42)), (cb39, .cells 1 (winL D.i pre39 many post39)), (cb36, .cells 1 (winL D.i pre36 cover post36)), (c3, .cells 2 [.agg ([D.s ByteArray.empty, .v (.slice none 0 0)])]), (c2, .cells 2 [encText t]), (c1, .cells 4 [encCorpus c])]
 iterate 2 refine wpA_seq ?_
 refine wpA_region ?_
 refine wL (OpA.m ?_)
 refine wL (OpA.geq rfl rfl rfl ?_)
 refine wpL_nil ?_
 refine wpA_cond rfl (fun b146 => ?_) (fun b146 => ?_)
 have h := h.1 (decT b146)
 refine wpA_skip ?_
 refine wpA_seq ?_
 refine wpA_block ?_
 refine wpA_seq ?_
 obtain ⟨q1, q2, q3, q4, q5, h⟩ := h
 refine wpA_drawF [2, 3] (m := 15) mo (by kernel_rfl) (fun _ _ _ hx => hx) rfl ?_
 iterate 6 refine dL (OpA.m ⟨rfl, rfl⟩) ?_
 refine dL (OpA.addi rfl rfl rfl q1 ⟨rfl, rfl⟩) ?_
 refine dL (OpA.ixV rfl ts52 rfl rfl q2 ⟨rfl, rfl⟩) ?_
 refine dL (OpA.load rfl ti3 rfl (.tail (.tail .head)) (getV (enc := D.i) q2) rfl ⟨rfl, rfl⟩) ?_
 iterate 2 refine dL (OpA.m ⟨rfl, rfl⟩) ?_
 refine dL (OpA.addi rfl rfl rfl q1 ⟨rfl, rfl⟩) ?_
 refine dL (OpA.ixV rfl ts52 rfl rfl q3 ⟨rfl, rfl⟩) ?_
 refine dL (OpA.load rfl ti3 rfl (.tail .head) (getV (enc := D.i) q3) rfl ⟨rfl, rfl⟩) ?_
 refine dL (OpA.ixV rfl ts52 rfl rfl q4 ⟨rfl, rfl⟩) ?_
 refine DetK.nil ?_
 refine wE (OpA.storeV (enc := D.i) (v := (gi cover (i + 1))) rfl ti3 rfl rfl (.of rfl) rfl q4 (.tail (.tail .head)) ?_)
 refine wL (OpA.ixV rfl ts52 rfl rfl q5 ?_)
 refine wE (OpA.storeV (enc := D.i) (v := (gi many (i + 1))) rfl ti3 rfl rfl (.of rfl) rfl q5 (.tail .head) ?_)
 refine wpL_nil ?_
 refine wpA_seq ?_
 refine wpA_cov (fr0 := asg [(2, D.i least), (3, .ptr c1 4 0 0), (4, .ptr c2 2 0 0), (6, .ptr c3 2 0 0), (7, D.i 0), (9, D.i (t.words.length : Int)), (10, .own cb36 1 pre36.length (si cover i (gi cover (i + 1))).length), (11, .own cb39 1 pre39.length (si many i (gi many (i + 1))).length), (12, .own cb42 1 pre42.length length.length), (13, D.i i), (45, D.i i), (46, D.b (decide (i ≥ 0))), (49, .own cb36 1 pre36.length (si cover i (gi cover (i + 1))).length), (50, D.i i), (51, .own cb39 1 pre39.length (si many i (gi many (i + 1))).length), (52, D.i i), (53, .own cb36 1 pre36.length (si cover i (gi cover (i + 1))).length), (54, D.i i), (55, D.i (i + 1)), (56, .ptr cb36 1 (pre36.length + (Int.toNat (i + 1))) 0), (57, D.i (gi cover (i + 1))), (58, .own cb39 1 pre39.length (si many i (gi many (i + 1))).length), (59, D.i i), (60, D.i (i + 1)), (61, .ptr cb39 1 (pre39.length + (Int.toNat (i + 1))) 0), (62, D.i (gi many (i + 1))), (63, .ptr cb36 1 (pre36.length + (Int.toNat i)) 0), (64, .ptr cb39 1 (pre39.length + (Int.toNat i)) 0)]) (Cov.asg ⟨rfl, rfl, rfl, rfl, rfl, rfl, (congrArg (D.own cb36 1 pre36.length) (by simp only [si_length, gcopy_length, sortF_len postCmp_swo, sortF_len spanCmp_swo] <;> rfl)), (congrArg (D.own cb39 1 pre39.length) (by simp only [si_length, gcopy_length, sortF_len postCmp_swo, sortF_len spanCmp_swo] <;> rfl)), rfl, rfl, rfl, rfl, (congrArg (D.own cb36 1 pre36.length) (by simp only [si_length, gcopy_length, sortF_len postCmp_swo, sortF_len spanCmp_swo] <;> rfl)), rfl, (congrArg (D.own cb39 1 pre39.length) (by simp only [si_length, gcopy_length, sortF_len postCmp_swo, sortF_len spanCmp_swo] <;> rfl)), rfl, (congrArg (D.own cb36 1 pre36.length) (by simp only [si_length, gcopy_length, sortF_len postCmp_swo, sortF_len spanCmp_swo] <;> rfl)), rfl, rfl, rfl, rfl, (congrArg (D.own cb39 1 pre39.length) (by simp only [si_length, gcopy_length, sortF_len postCmp_swo, sortF_len spanCmp_swo] <;> rfl)), rfl, rfl, rfl, rfl, rfl, rfl, trivial⟩) ?_
 obtain ⟨q1, q2, q3, q4, h⟩ := h
 refine wpA_region ?_
 refine wL (OpA.load_whole rfl ti25 rfl rfl (.tail (.tail (.tail (.tail (.tail .head))))) rfl ⟨_, rfl⟩ ?_)
 refine wL (OpA.load_whole rfl ti28 rfl rfl (.tail (.tail (.tail (.tail .head)))) rfl ⟨_, rfl⟩ ?_)
 refine wL (OpA.m ?_)
 refine wL (OpA.call rfl rfl rfl en42 (rlongest_c c t i q1 q2 q3 q4) ?_)
 rintro _ rfl
 refine wL (OpA.a ?_)
 refine wpL_nil ?_
 refine wpA_seq ?_
 refine wpA_region ?_
 refine wL (OpA.m ?_)
 refine wL (OpA.a ?_)
 refine wpL_nil ?_
 refine wpA_block ?_
 refine wpA_lfp (S := (List Int) × (List Int) × (List Int) × Int) (G := Nat × List D × List D × Nat × List D × List D × Nat × List D × List D) (cb42, pre42, post42, cb39, pre39, post39, cb36, pre36, post36) (fun gg ss => asg [(2, D.i least), (3, .ptr c1 4 0 0), (4, .ptr c2 2 0 0), (6, .ptr c3 2 0 0), (7, D.i 0), (9, D.i (t.words.length : Int)), (10, .own gg.2.2.2.2.2.2.1 1 gg.2.2.2.2.2.2.2.1.length ss.2.2.1.length), (11, .own gg.2.2.2.1 1 gg.2.2.2.2.1.length ss.2.1.length), (12, .own gg.1 1 gg.2.1.length ss.1.length), (13, D.i i), (14, D.i (((longW c.texts (t.words.drop (Int.toNat i))) : Nat) : Int)), (15, D.i ss.2.2.2)]) (fun gg ss => [(gg.1, .cells 1 (winL D.i gg.2.1 ss.1 gg.2.2.1)), (gg.2.2.2.1, .cells 1 (winL D.i gg.2.2.2.2.1 ss.2.1 gg.2.2.2.2.2.1)), (gg.2.2.2.2.2.2.1, .cells 1 (winL D.i gg.2.2.2.2.2.2.2.1 ss.2.2.1 gg.2.2.2.2.2.2.2.2)), (c3, .cells 2 [.agg ([D.s ByteArray.empty, .v (.slice none 0 0)])]), (c2, .cells 2 [encText t]), (c1, .cells 4 [encCorpus c])]) h (Cov.asg ⟨rfl, rfl, rfl, rfl, rfl, rfl, rfl, rfl, rfl, rfl, rfl, rfl, trivial⟩) (.refl _) ?_
 rintro again147 ⟨cb421, pre421, post421, cb391, pre391, post391, cb361, pre361, post361⟩ ⟨length1, many1, cover1, k⟩ h
 have h : rof_L2 c t length i again145 again147 length1 many1 cover1 k := h
 unfold rof_L2 at h
 show wpA _ _ _ _ (asg [(2, D.i least), (3, .ptr c1 4 0 0), (4, .ptr c2 2 0 0), (6, .ptr c3 2 0 0), (7, D.i 0), (9, D.i (t.words.length : Int)), (10, .own cb361 1 pre361.length cover1.length), (11, .own cb391 1 pre391.length many1.length), (12, .own cb421 1 pre421.length length1.length), (13, D.i i), (14, D.i (((longW c.texts (t.words.drop (Int.toNat i))) : Nat) : Int)), (15, D.i k)]) [(cb421, .cells 1 (winL D.i pre421 length1 post421)), (cb391, .cells 1 (winL D.i pre391 many1 post391)), (cb361, .cells 1 (winL D.i pre361 cover1 post361)), (c3, .cells 2 [.agg ([D.s ByteArray.empty, .v (.slice none 0 0)])]), (c2, .cells 2 [encText t]), (c1, .cells 4 [encCorpus c])]
 iterate 2 refine wpA_seq ?_
 refine wpA_region ?_
 iterate 2 refine wL (OpA.m ?_)
 refine wL (OpA.leq rfl rfl rfl ?_)
 refine wpL_nil ?_
 refine wpA_cond rfl (fun b148 => ?_) (fun b148 => ?_)
 have h := h.1 (decT b148)
 refine wpA_skip ?_
 refine wpA_seq ?_
 refine wpA_block ?_
 refine wpA_seq ?_
 obtain ⟨q1, q2, q3, q4, q5, h⟩ := h
 refine wpA_draw (m := 17) mo (by kernel_rfl) rfl ?_
 iterate 3 refine dL (OpA.m ⟨rfl, rfl⟩) ?_
 refine dL (OpA.addi rfl rfl rfl q1 ⟨rfl, rfl⟩) ?_
 refine dL (OpA.ixV rfl ts52 rfl rfl q2 ⟨rfl, rfl⟩) ?_
 refine dL (OpA.load rfl ti3 rfl (.tail (.tail .head)) (getV (enc := D.i) q2) rfl ⟨rfl, rfl⟩) ?_
 refine dL (OpA.m ⟨rfl, rfl⟩) ?_
 refine dL (OpA.addi rfl rfl rfl q3 ⟨rfl, rfl⟩) ?_
 iterate 3 refine dL (OpA.m ⟨rfl, rfl⟩) ?_
 refine dL (OpA.addi rfl rfl rfl q1 ⟨rfl, rfl⟩) ?_
 refine dL (OpA.ixV rfl ts52 rfl rfl q4 ⟨rfl, rfl⟩) ?_
 refine dL (OpA.load rfl ti3 rfl (.tail .head) (getV (enc := D.i) q4) rfl ⟨rfl, rfl⟩) ?_
 refine dL (OpA.addi rfl rfl rfl q5 ⟨rfl, rfl⟩) ?_
 iterate 2 refine dL (OpA.a ⟨rfl, rfl⟩) ?_
 refine DetK.nil ?_
 refine wpL_nil ?_
 refine wpA_seq ?_
 obtain ⟨q1, q2, h⟩ := h
 refine wpA_draw (m := 12) mo (by kernel_rfl) rfl ?_
 iterate 2 refine dL (OpA.m ⟨rfl, rfl⟩) ?_
 refine dL (OpA.ixV rfl ts52 rfl rfl q1 ⟨rfl, rfl⟩) ?_
 refine dL (OpA.load rfl ti3 rfl (.tail (.tail .head)) (getV (enc := D.i) q1) rfl ⟨rfl, rfl⟩) ?_
 iterate 2 refine dL (OpA.m ⟨rfl, rfl⟩) ?_
 refine dL (OpA.ixV rfl ts52 rfl rfl q2 ⟨rfl, rfl⟩) ?_
 refine dL (OpA.load rfl ti3 rfl (.tail .head) (getV (enc := D.i) q2) rfl ⟨rfl, rfl⟩) ?_
 iterate 2 refine dL (OpA.m ⟨rfl, rfl⟩) ?_
 refine dL (OpA.call rfl rfl rfl en43 (rbetter_c (gi cover1 i) (gi many1 i) ((gi cover1 (i + k)) + k) ((gi many1 (i + k)) + 1) ) (by rintro _ rfl; exact ⟨rfl, rfl⟩)) ?_
 refine dL (OpA.not rfl rfl ⟨rfl, rfl⟩) ?_
 refine DetK.nil ?_
 refine wpL_nil ?_
 refine wpA_cond rfl (fun b149 => ?_) (fun b149 => ?_)
 have h := h.1 (notT b149)
 obtain ⟨q1, q2, q3, h⟩ := h
 refine wpA_region ?_
 iterate 9 refine wL (OpA.m ?_)
 refine wL (OpA.ixV rfl ts52 rfl rfl q1 ?_)
 refine wE (OpA.storeV (enc := D.i) (v := ((gi cover1 (i + k)) + k)) rfl ti3 rfl rfl (.of rfl) rfl q1 (.tail (.tail .head)) ?_)
 refine wL (OpA.ixV rfl ts52 rfl rfl q2 ?_)
 refine wE (OpA.storeV (enc := D.i) (v := ((gi many1 (i + k)) + 1)) rfl ti3 rfl rfl (.of rfl) rfl q2 (.tail .head) ?_)
 refine wL (OpA.ixV rfl ts52 rfl rfl q3 ?_)
 refine wE (OpA.storeV (enc := D.i) (v := k) rfl ti3 rfl rfl (.of rfl) rfl q3 .head ?_)
 refine wpL_nil ?_
 obtain ⟨q1, h⟩ := h
 refine wpA_region ?_
 refine wL (OpA.m ?_)
 refine wL (OpA.addi rfl rfl rfl q1 ?_)
 refine wL (OpA.a ?_)
 refine wpL_nil ?_
 exact ⟨(cb421, pre421, post421, cb391, pre391, post391, cb361, pre361, post361), ((si length1 i k), (si many1 i ((gi many1 (i + k)) + 1)), (si cover1 i ((gi cover1 (i + k)) + k)), (k + 1)), h, (Cov.asg ⟨rfl, rfl, rfl, rfl, rfl, rfl, (congrArg (D.own cb361 1 pre361.length) (by simp only [si_length, gcopy_length, sortF_len postCmp_swo, sortF_len spanCmp_swo] <;> rfl)), (congrArg (D.own cb391 1 pre391.length) (by simp only [si_length, gcopy_length, sortF_len postCmp_swo, sortF_len spanCmp_swo] <;> rfl)), (congrArg (D.own cb421 1 pre421.length) (by simp only [si_length, gcopy_length, sortF_len postCmp_swo, sortF_len spanCmp_swo] <;> rfl)), rfl, rfl, rfl, trivial⟩), (.refl _)⟩
 have h := h.2 (notF b149)
 refine wpA_skip ?_
 obtain ⟨q1, h⟩ := h
 refine wpA_region ?_
 refine wL (OpA.m ?_)
 refine wL (OpA.addi rfl rfl rfl q1 ?_)
 refine wL (OpA.a ?_)
 refine wpL_nil ?_
 exact ⟨(cb421, pre421, post421, cb391, pre391, post391, cb361, pre361, post361), (length1, many1, cover1, (k + 1)), h, (Cov.asg ⟨rfl, rfl, rfl, rfl, rfl, rfl, rfl, rfl, rfl, rfl, rfl, rfl, trivial⟩), (.refl _)⟩
 have h := h.2 (decF b148)
 refine wpA_exit ?_
 obtain ⟨q1, h⟩ := h
 refine wpA_region ?_
 refine wL (OpA.m ?_)
 refine wL (OpA.subi rfl rfl rfl q1 ?_)
 refine wL (OpA.a ?_)
 refine wpL_nil ?_
 exact ⟨(cb421, pre421, post421, cb391, pre391, post391, cb361, pre361, post361), (length1, many1, cover1, (i - 1)), h, (Cov.asg ⟨rfl, rfl, rfl, rfl, rfl, rfl, rfl, rfl, rfl, rfl, trivial⟩), (.refl _)⟩
 have h := h.2 (decF b146)
 refine wpA_exit ?_
 refine wpA_seq ?_
 refine wpA_region ?_
 refine wL (OpA.fieldAddr rfl tf28_0 rfl ?_)
 refine wL (OpA.load rfl ti9 rfl (.tail (.tail (.tail (.tail .head)))) rfl rfl ?_)
 refine wL (OpA.buildO (zs := [.v (.string ⟨#[]⟩), .v (.slice none 0 0)]) rfl tp33 tz33 (fun _ _ => (.cons (.v _) (.cons (.v _) .nil))) (.cons (.of (sz := 1) rfl) .nil) rfl ?_)
 refine wL (OpA.alloc (sz := 2) (d := .agg ([D.s ByteArray.empty, .v (.slice none 0 0)])) rfl tz33 (fun _ _ => .agg (.cons (.v _) (.cons (.v _) .nil))) (.of rfl) (fun c150 _ => ?_))
 refine wE (OpA.storeW rfl ti33 rfl (by with_reducible conv => lhs; whnf) (.of rfl) rfl rfl .head ?_)
 refine wpL_nil ?_
 iterate 2 refine wpA_seq ?_
 refine wpA_region ?_
 refine wL (OpA.a ?_)
 refine wpL_nil ?_
 refine wpA_block ?_
 refine wpA_ghostM (c := c150) (sz1 := 2) (sz := 4) (es' := fun g151 => [.agg ([D.s t.path, .own g151 4 ([] : List D).length ([] : List Piece).length])]) (fun _ => .head) (fun _ => (.same (.turn .nil))) (fun _ => rfl) (fun _ => by rintro d (_ | ⟨_, hd⟩); exact .of rfl; cases hd) (fun g151 => ?_)
 refine wpA_lfp (S := (List Piece) × Int) (G := Nat × List D × List D) (g151, ([] : List D), ([] : List D)) (fun gg ss => asg [(3, .ptr c1 4 0 0), (4, .ptr c2 2 0 0), (6, .ptr c3 2 0 0), (7, D.i 0), (9, D.i (t.words.length : Int)), (12, .own cb42 1 pre42.length length.length), (18, .ptr c150 2 0 0), (19, D.i ss.2)]) (fun gg ss => [(gg.1, .cells 4 (winL encPiece gg.2.1 ss.1 gg.2.2)), (c150, .cells 2 [.agg ([D.s t.path, .own gg.1 4 gg.2.1.length ss.1.length])]), (cb42, .cells 1 (winL D.i pre42 length post42)), (cb39, .cells 1 (winL D.i pre39 many post39)), (cb36, .cells 1 (winL D.i pre36 cover post36)), (c3, .cells 2 [.agg ([D.s ByteArray.empty, .v (.slice none 0 0)])]), (c2, .cells 2 [encText t]), (c1, .cells 4 [encCorpus c])]) h (Cov.asg ⟨rfl, rfl, rfl, rfl, rfl, rfl, rfl, rfl, trivial⟩) (.refl _) ?_
 rintro again152 ⟨cbgh18, pregh18, postgh18⟩ ⟨xs, i1⟩ h
 have h : rof_L3 c t length Q again152 xs i1 := h
 unfold rof_L3 at h
 show wpA _ _ _ _ (asg [(3, .ptr c1 4 0 0), (4, .ptr c2 2 0 0), (6, .ptr c3 2 0 0), (7, D.i 0), (9, D.i (t.words.length : Int)), (12, .own cb42 1 pre42.length length.length), (18, .ptr c150 2 0 0), (19, D.i i1)]) [(cbgh18, .cells 4 (winL encPiece pregh18 xs postgh18)), (c150, .cells 2 [.agg ([D.s t.path, .own cbgh18 4 pregh18.length xs.length])]), (cb42, .cells 1 (winL D.i pre42 length post42)), (cb39, .cells 1 (winL D.i pre39 many post39)), (cb36, .cells 1 (winL D.i pre36 cover post36)), (c3, .cells 2 [.agg ([D.s ByteArray.empty, .v (.slice none 0 0)])]), (c2, .cells 2 [encText t]), (c1, .cells 4 [encCorpus c])]
 iterate 2 refine wpA_seq ?_
 refine wpA_region ?_
 iterate 2 refine wL (OpA.m ?_)
 refine wL (OpA.lss rfl rfl rfl ?_)
 refine wpL_nil ?_
 refine wpA_cond rfl (fun b153 => ?_) (fun b153 => ?_)
 have h := h.1 (decT b153)
 refine wpA_skip ?_
 refine wpA_block ?_
 iterate 2 refine wpA_seq ?_
 obtain ⟨q1, h⟩ := h
 refine wpA_region ?_
 iterate 2 refine wL (OpA.m ?_)
 refine wL (OpA.ixV rfl ts52 rfl rfl q1 ?_)
 refine wL (OpA.load rfl ti3 rfl (.tail (.tail .head)) (getV (enc := D.i) q1) rfl ?_)
 refine wL (OpA.eql rfl rfl rfl ?_)
 refine wpL_nil ?_
 refine wpA_cond rfl (fun b154 => ?_) (fun b154 => ?_)
 have h := h.1 (beqT b154)
 refine wpA_seq ?_
 obtain ⟨q1, h⟩ := h
 refine wpA_region ?_
 refine wL (OpA.m ?_)
 refine wL (OpA.addi rfl rfl rfl q1 ?_)
 refine wL (OpA.a ?_)
 refine wpL_nil ?_
 refine wpA_exit ?_
 exact ⟨(cbgh18, pregh18, postgh18), (xs, (i1 + 1)), h, (Cov.asg ⟨rfl, rfl, rfl, rfl, rfl, rfl, rfl, rfl, trivial⟩), (.refl _)⟩
 have h := h.2 (beqF b154)
 refine wpA_skip ?_
 refine wpA_seq ?_
 obtain ⟨q1, q2, q3, q4, q5, q6, q7, h⟩ := h
 refine wpA_draw (m := 17) mo (by kernel_rfl) rfl ?_
 refine dL (OpA.load_whole rfl ti25 rfl rfl (.tail (.tail (.tail (.tail (.tail (.tail (.tail .head))))))) rfl ⟨_, rfl⟩ ⟨rfl, rfl⟩) ?_
 refine dL (OpA.load_whole rfl ti28 rfl rfl (.tail (.tail (.tail (.tail (.tail (.tail .head)))))) rfl ⟨_, rfl⟩ ⟨rfl, rfl⟩) ?_
 iterate 4 refine dL (OpA.m ⟨rfl, rfl⟩) ?_
 refine dL (OpA.ixV rfl ts52 rfl rfl q1 ⟨rfl, rfl⟩) ?_
 refine dL (OpA.load rfl ti3 rfl (.tail (.tail .head)) (getV (enc := D.i) q1) rfl ⟨rfl, rfl⟩) ?_
 refine dL (OpA.addi rfl rfl rfl q2 ⟨rfl, rfl⟩) ?_
 refine dL (OpA.call rfl rfl rfl en44 (rsource_c c t i1 (i1 + (gi length i1)) q3 q4 q5 q6 q7) (by rintro _ rfl; exact ⟨rfl, rfl⟩)) ?_
 refine dL (OpA.m ⟨rfl, rfl⟩) ?_
 iterate 3 refine dL (OpA.extract rfl rfl rfl ⟨rfl, rfl⟩) ?_
 iterate 3 refine dL (OpA.a ⟨rfl, rfl⟩) ?_
 refine DetK.nil ?_
 refine wpL_nil ?_
 refine wpA_seq ?_
 obtain ⟨q1, q2, q3, h⟩ := h
 refine wpA_draw (m := 13) mo (by kernel_rfl) rfl ?_
 refine dL (OpA.fieldAddr rfl tf33_1 rfl ⟨rfl, rfl⟩) ?_
 refine dL (OpA.load rfl ti31 rfl (.tail .head) rfl rfl ⟨rfl, rfl⟩) ?_
 iterate 4 refine dL (OpA.m ⟨rfl, rfl⟩) ?_
 refine dL (OpA.ixV rfl ts52 rfl rfl q1 ⟨rfl, rfl⟩) ?_
 refine dL (OpA.load rfl ti3 rfl (.tail (.tail .head)) (getV (enc := D.i) q1) rfl ⟨rfl, rfl⟩) ?_
 refine dL (OpA.addi rfl rfl rfl q2 ⟨rfl, rfl⟩) ?_
 iterate 2 refine dL (OpA.m ⟨rfl, rfl⟩) ?_
 refine dL (OpA.buildO (zs := [.v (.int .i64 0), .v (.int .i64 0), .v (.int .i64 0), .v (.int .i64 0)]) rfl tp48 tz48 (fun _ _ => (.cons (.v _) (.cons (.v _) (.cons (.v _) (.cons (.v _) .nil))))) (.cons (.of (sz := 1) rfl) (.cons (.of (sz := 1) rfl) (.cons (.of (sz := 1) rfl) (.cons (.of (sz := 1) rfl) .nil)))) rfl ⟨rfl, rfl⟩) ?_
 refine dL (OpA.ibuildSliceO rfl ts31 rfl (.cons (.of (sz := 4) rfl) .nil) (by decide) ⟨rfl, rfl⟩) ?_
 refine DetK.nil ?_
 refine wL (OpA.appendW (enc := encPiece) rfl rfl rfl rfl ts31 rfl (fun _ _ => .head) (.list (ys := ([(Piece.mk i1 (i1 + (gi length i1)) ((srcR c t i1 (i1 + (gi length i1))).1) ((srcR c t i1 (i1 + (gi length i1))).2.1))] : List Piece))) q3 (fun c155 pre156 => ?_))
 refine wL (OpA.fieldAddr rfl tf33_1 rfl ?_)
 refine wE (OpA.store (e' := .agg ([D.s t.path, .own c155 4 pre156.length (xs ++ ([(Piece.mk i1 (i1 + (gi length i1)) ((srcR c t i1 (i1 + (gi length i1))).1) ((srcR c t i1 (i1 + (gi length i1))).2.1))] : List Piece)).length])) rfl ti31 rfl (.of rfl) rfl (Nat.le_of_ble_eq_true rfl) rfl (.tail .head) ?_)
 refine wpL_nil ?_
 obtain ⟨q1, q2, h⟩ := h
 refine wpA_region ?_
 iterate 3 refine wL (OpA.m ?_)
 refine wL (OpA.ixV rfl ts52 rfl rfl q1 ?_)
 refine wL (OpA.load rfl ti3 rfl (.tail (.tail .head)) (getV (enc := D.i) q1) rfl ?_)
 refine wL (OpA.addi rfl rfl rfl q2 ?_)
 refine wL (OpA.a ?_)
 refine wpL_nil ?_
 exact ⟨(c155, pre156, ([] : List D)), ((xs ++ ([(Piece.mk i1 (i1 + (gi length i1)) ((srcR c t i1 (i1 + (gi length i1))).1) ((srcR c t i1 (i1 + (gi length i1))).2.1))] : List Piece)), (i1 + (gi length i1))), h, (Cov.asg ⟨rfl, rfl, rfl, rfl, rfl, rfl, rfl, rfl, trivial⟩), (.refl _)⟩
 have h := h.2 (decF b153)
 refine wpA_exit ?_
 refine wpA_seq ?_
 refine wpA_region ?_
 refine wL (OpA.load_whole rfl ti33 rfl rfl (.tail .head) rfl ⟨_, rfl⟩ ?_)
 refine wE (OpA.storeW rfl ti33 rfl (by with_reducible conv => lhs; whnf) (.of rfl) rfl rfl (.tail (.tail (.tail (.tail (.tail .head))))) ?_)
 refine wL (OpA.a ?_)
 refine wpL_nil ?_
 refine wpA_ret ?_
 exact ⟨_, (.cell (.whole ti33 rfl rfl (.tail (.tail (.tail (.tail (.tail .head))))) rfl ⟨_, rfl⟩) (.tmp (d := D.i 0) rfl .nil)), _, (.tup (.agg (.same rfl (.win .head (by intro hf; cases hf) .nil)) (.same rfl .nil)) .nil), ⟨((Attribution.mk t.path xs), 0), rfl, h⟩⟩
theorem rof_c (c : Corpus) (t : Text) (least : Int) (hp0 : okC c) (hp1 : okT t) : Fun false Tryz.prog 13 [encCorpus c, encText t, D.i least] (fun d => d = .tup [encAttribution ((attrF c t least).1), D.i ((attrF c t least).2)]) :=
 Fun.at (enc := fun r => .tup [encAttribution (r.1), D.i (r.2)]) (v := attrF c t least) (rof_w c t least  (fun r => r = attrF c t least) (rof_ok c t least _ hp0 hp1 rfl))
theorem rrightp_w (c : Corpus) (t : Text) (least : Int) (x : Piece) (Q : Bool → Prop) (h : rrightp_vc c t least x Q) : Fun false Tryz.prog 57 [encCorpus c, encText t, D.i least, encPiece x] (fun d => ∃ r, d = D.b r ∧ Q r) := by
 unfold rrightp_vc at h
 refine Fun.of_body Tryz.func57 rfl Tryz.ntmps57 rfl ?_
 refine wpA_seq ?_
 refine wpA_region ?_
 refine wL (OpA.bx (sz := 4) rfl (by with_reducible conv => lhs; whnf) (.of rfl) (fun c1 _ => ?_))
 refine wL (OpA.bx (sz := 2) rfl (by with_reducible conv => lhs; whnf) (.of rfl) (fun c2 _ => ?_))
 refine wL (OpA.bx (sz := 4) rfl (by with_reducible conv => lhs; whnf) (.of rfl) (fun c3 _ => ?_))
 refine wL (OpA.a ?_)
 refine wpL_nil ?_
 iterate 2 refine wpA_seq ?_
 obtain ⟨q1, h⟩ := h
 refine wpA_mid (asg [(4, .ptr c1 4 0 0), (5, .ptr c2 2 0 0), (7, .ptr c3 4 0 0), (8, D.b false), (55, D.b (((((((decide (x.from_ < 0)) || (decide (x.from_ ≥ x.to))) || (decide (x.to > (t.words.length : Int)))) || (decide ((x.to - x.from_) < least))) || (decide (x.text < 0))) || (decide (x.text ≥ (c.texts.length : Int)))) || (decide (x.at_ < 0))))]) [(c3, .cells 4 [encPiece x]), (c2, .cells 2 [encText t]), (c1, .cells 4 [encCorpus c])] ?_ ?_
 refine wpA_region ?_
 refine wL (OpA.fieldAddr rfl tf48_0 rfl ?_)
 refine wL (OpA.load rfl ti3 rfl .head rfl rfl ?_)
 refine wL (OpA.lss rfl rfl rfl ?_)
 refine wL (OpA.m ?_)
 refine wpL_split (s := 14) rfl (fun b9 => ?_) (fun b9 => ?_)
 iterate 5 refine wS ?_
 refine wL (OpA.p ?_)
 refine wL (OpA.m ?_)
 iterate 6 refine wS ?_
 refine wL (OpA.p ?_)
 refine wL (OpA.m ?_)
 iterate 7 refine wS ?_
 refine wL (OpA.p ?_)
 refine wL (OpA.m ?_)
 iterate 3 refine wS ?_
 refine wL (OpA.p ?_)
 refine wL (OpA.m ?_)
 iterate 6 refine wS ?_
 refine wL (OpA.p ?_)
 refine wL (OpA.m ?_)
 iterate 3 refine wS ?_
 refine wL (OpA.p ?_)
 refine wpL_nil ?_
 exact ⟨(Cov.asg ⟨rfl, rfl, rfl, rfl, (congrArg D.b (Eq.symm (orS (orS (orS (orS (orS (orS b9)))))))), trivial⟩), (.refl _)⟩
 refine wG (OpA.fieldAddr rfl tf48_0 rfl ?_)
 refine wG (OpA.load rfl ti3 rfl .head rfl rfl ?_)
 refine wG (OpA.fieldAddr rfl tf48_1 rfl ?_)
 refine wG (OpA.load rfl ti3 rfl .head rfl rfl ?_)
 refine wG (OpA.geq rfl rfl rfl ?_)
 refine wL (OpA.p ?_)
 refine wL (OpA.m ?_)
 refine wpL_split (s := 21) rfl (fun b10 => ?_) (fun b10 => ?_)
 iterate 6 refine wS ?_
 refine wL (OpA.p ?_)
 refine wL (OpA.m ?_)
 iterate 7 refine wS ?_
 refine wL (OpA.p ?_)
 refine wL (OpA.m ?_)
 iterate 3 refine wS ?_
 refine wL (OpA.p ?_)
 refine wL (OpA.m ?_)
 iterate 6 refine wS ?_
 refine wL (OpA.p ?_)
 refine wL (OpA.m ?_)
 iterate 3 refine wS ?_
 refine wL (OpA.p ?_)
 refine wpL_nil ?_
 exact ⟨(Cov.asg ⟨rfl, rfl, rfl, rfl, (congrArg D.b (Eq.symm (orS (orS (orS (orS (orS (orN b9 b10)))))))), trivial⟩), (.refl _)⟩
 refine wG (OpA.fieldAddr rfl tf48_1 rfl ?_)
 refine wG (OpA.load rfl ti3 rfl .head rfl rfl ?_)
 refine wG (OpA.fieldAddr rfl tf28_1 rfl ?_)
 refine wG (OpA.load rfl ti26 rfl (.tail .head) rfl rfl ?_)
 refine wG (OpA.len rfl rfl rfl rfl ts26.desc (.inl ⟨_, _, rfl, (List.length_map _).symm⟩) ?_)
 refine wG (OpA.gtr rfl rfl rfl ?_)
 refine wL (OpA.p ?_)
 refine wL (OpA.m ?_)
 refine wpL_split (s := 29) rfl (fun b11 => ?_) (fun b11 => ?_)
 iterate 7 refine wS ?_
 refine wL (OpA.p ?_)
 refine wL (OpA.m ?_)
 iterate 3 refine wS ?_
 refine wL (OpA.p ?_)
 refine wL (OpA.m ?_)
 iterate 6 refine wS ?_
 refine wL (OpA.p ?_)
 refine wL (OpA.m ?_)
 iterate 3 refine wS ?_
 refine wL (OpA.p ?_)
 refine wpL_nil ?_
 exact ⟨(Cov.asg ⟨rfl, rfl, rfl, rfl, (congrArg D.b (Eq.symm (orS (orS (orS (orS (orN (orN b9 b10) b11))))))), trivial⟩), (.refl _)⟩
 refine wG (OpA.fieldAddr rfl tf48_1 rfl ?_)
 refine wG (OpA.load rfl ti3 rfl .head rfl rfl ?_)
 refine wG (OpA.fieldAddr rfl tf48_0 rfl ?_)
 refine wG (OpA.load rfl ti3 rfl .head rfl rfl ?_)
 refine wG (OpA.subi rfl rfl rfl (q1 ⟨⟨(decF b9), (decF b10)⟩, (decF b11)⟩) ?_)
 refine wG (OpA.m ?_)
 refine wG (OpA.lss rfl rfl rfl ?_)
 refine wL (OpA.p ?_)
 refine wL (OpA.m ?_)
 refine wpL_split (s := 38) rfl (fun b12 => ?_) (fun b12 => ?_)
 iterate 3 refine wS ?_
 refine wL (OpA.p ?_)
 refine wL (OpA.m ?_)
 iterate 6 refine wS ?_
 refine wL (OpA.p ?_)
 refine wL (OpA.m ?_)
 iterate 3 refine wS ?_
 refine wL (OpA.p ?_)
 refine wpL_nil ?_
 exact ⟨(Cov.asg ⟨rfl, rfl, rfl, rfl, (congrArg D.b (Eq.symm (orS (orS (orS (orN (orN (orN b9 b10) b11) b12)))))), trivial⟩), (.refl _)⟩
 refine wG (OpA.fieldAddr rfl tf48_2 rfl ?_)
 refine wG (OpA.load rfl ti3 rfl .head rfl rfl ?_)
 refine wG (OpA.lss rfl rfl rfl ?_)
 refine wL (OpA.p ?_)
 refine wL (OpA.m ?_)
 refine wpL_split (s := 43) rfl (fun b13 => ?_) (fun b13 => ?_)
 iterate 6 refine wS ?_
 refine wL (OpA.p ?_)
 refine wL (OpA.m ?_)
 iterate 3 refine wS ?_
 refine wL (OpA.p ?_)
 refine wpL_nil ?_
 exact ⟨(Cov.asg ⟨rfl, rfl, rfl, rfl, (congrArg D.b (Eq.symm (orS (orS (orN (orN (orN (orN b9 b10) b11) b12) b13))))), trivial⟩), (.refl _)⟩
 refine wG (OpA.fieldAddr rfl tf48_2 rfl ?_)
 refine wG (OpA.load rfl ti3 rfl .head rfl rfl ?_)
 refine wG (OpA.fieldAddr rfl tf25_2 rfl ?_)
 refine wG (OpA.load rfl ti22 rfl (.tail (.tail .head)) rfl rfl ?_)
 refine wG (OpA.len rfl rfl rfl rfl ts22.desc (.inl ⟨_, _, rfl, (List.length_map _).symm⟩) ?_)
 refine wG (OpA.geq rfl rfl rfl ?_)
 refine wL (OpA.p ?_)
 refine wL (OpA.m ?_)
 refine wpL_split (s := 51) rfl (fun b14 => ?_) (fun b14 => ?_)
 iterate 3 refine wS ?_
 refine wL (OpA.p ?_)
 refine wpL_nil ?_
 exact ⟨(Cov.asg ⟨rfl, rfl, rfl, rfl, (congrArg D.b (Eq.symm (orS (orN (orN (orN (orN (orN b9 b10) b11) b12) b13) b14)))), trivial⟩), (.refl _)⟩
 refine wG (OpA.fieldAddr rfl tf48_3 rfl ?_)
 refine wG (OpA.load rfl ti3 rfl .head rfl rfl ?_)
 refine wG (OpA.lss rfl rfl rfl ?_)
 refine wL (OpA.p ?_)
 refine wpL_nil ?_
 exact ⟨(Cov.asg ⟨rfl, rfl, rfl, rfl, (congrArg D.b (Eq.symm (orN (orN (orN (orN (orN (orN b9 b10) b11) b12) b13) b14) rfl))), trivial⟩), (.refl _)⟩
 show wpA _ _ _ _ (asg [(4, .ptr c1 4 0 0), (5, .ptr c2 2 0 0), (7, .ptr c3 4 0 0), (8, D.b false), (55, D.b (((((((decide (x.from_ < 0)) || (decide (x.from_ ≥ x.to))) || (decide (x.to > (t.words.length : Int)))) || (decide ((x.to - x.from_) < least))) || (decide (x.text < 0))) || (decide (x.text ≥ (c.texts.length : Int)))) || (decide (x.at_ < 0))))]) [(c3, .cells 4 [encPiece x]), (c2, .cells 2 [encText t]), (c1, .cells 4 [encCorpus c])]
 refine wpA_cond rfl (fun b4 => ?_) (fun b4 => ?_)
 have h := h.1 ((or0 b4).imp (fun hh => ((or0 hh).imp (fun hh => ((or0 hh).imp (fun hh => ((or0 hh).imp (fun hh => ((or0 hh).imp (fun hh => ((or0 hh).imp (fun hh => (decT hh)) (fun hh => (decT hh)))) (fun hh => (decT hh)))) (fun hh => (decT hh)))) (fun hh => (decT hh)))) (fun hh => (decT hh)))) (fun hh => (decT hh)))
 refine wpA_seq ?_
 refine wpA_region ?_
 refine wL (OpA.a ?_)
 refine wpL_nil ?_
 refine wpA_ret ?_
 exact ⟨_, (.tmp (d := D.b false) rfl .nil), _, (.same rfl .nil), ⟨false, rfl, h⟩⟩
 have h := h.2 ⟨⟨⟨⟨⟨⟨(decF (or1 (or1 (or1 (or1 (or1 (or1 b4))))))), (decF (or2 (or1 (or1 (or1 (or1 (or1 b4)))))))⟩, (decF (or2 (or1 (or1 (or1 (or1 b4))))))⟩, (decF (or2 (or1 (or1 (or1 b4)))))⟩, (decF (or2 (or1 (or1 b4))))⟩, (decF (or2 (or1 b4)))⟩, (decF (or2 b4))⟩
 refine wpA_skip ?_
 refine wpA_seq ?_
 obtain ⟨q1, h⟩ := h
 refine wpA_region ?_
 refine wL (OpA.fieldAddr rfl tf25_2 rfl ?_)
 refine wL (OpA.load rfl ti22 rfl (.tail (.tail .head)) rfl rfl ?_)
 refine wL (OpA.fieldAddr rfl tf48_2 rfl ?_)
 refine wL (OpA.load rfl ti3 rfl .head rfl rfl ?_)
 refine wL (OpA.iixV (enc := encText) rfl ts22 rfl rfl rfl q1 ?_)
 refine wL (OpA.ifieldAddr rfl tf28_1 rfl ?_)
 refine wL (OpA.iload rfl ti26 rfl rfl ?_)
 refine wL (OpA.a ?_)
 refine wpL_nil ?_
 iterate 2 refine wpA_seq ?_
 refine wpA_region ?_
 refine wL (OpA.a ?_)
 refine wpL_nil ?_
 refine wpA_block ?_
 refine wpA_lfp (S := Int) (G := Unit) () (fun gg ss => asg [(5, .ptr c2 2 0 0), (7, .ptr c3 4 0 0), (8, D.b false), (9, (encL 2 encLex) ((gi c.texts x.text).words)), (10, D.i ss)]) (fun gg ss => [(c3, .cells 4 [encPiece x]), (c2, .cells 2 [encText t]), (c1, .cells 4 [encCorpus c])]) h (Cov.asg ⟨rfl, rfl, rfl, rfl, rfl, trivial⟩) (.refl _) ?_
 rintro again5 _ i h
 have h : rrightp_L1 c t x Q again5 i := h
 unfold rrightp_L1 at h
 show wpA _ _ _ _ (asg [(5, .ptr c2 2 0 0), (7, .ptr c3 4 0 0), (8, D.b false), (9, (encL 2 encLex) ((gi c.texts x.text).words)), (10, D.i i)]) [(c3, .cells 4 [encPiece x]), (c2, .cells 2 [encText t]), (c1, .cells 4 [encCorpus c])]
 iterate 2 refine wpA_seq ?_
 obtain ⟨q1, h⟩ := h
 refine wpA_region ?_
 refine wL (OpA.m ?_)
 refine wL (OpA.fieldAddr rfl tf48_1 rfl ?_)
 refine wL (OpA.load rfl ti3 rfl .head rfl rfl ?_)
 refine wL (OpA.fieldAddr rfl tf48_0 rfl ?_)
 refine wL (OpA.load rfl ti3 rfl .head rfl rfl ?_)
 refine wL (OpA.subi rfl rfl rfl q1 ?_)
 refine wL (OpA.lss rfl rfl rfl ?_)
 refine wpL_nil ?_
 refine wpA_cond rfl (fun b6 => ?_) (fun b6 => ?_)
 have h := h.1 (decT b6)
 refine wpA_skip ?_
 refine wpA_seq ?_
 refine wpA_block ?_
 refine wpA_seq ?_
 obtain ⟨q1, q2, h⟩ := h
 refine wpA_mid (asg [(5, .ptr c2 2 0 0), (7, .ptr c3 4 0 0), (8, D.b false), (9, (encL 2 encLex) ((gi c.texts x.text).words)), (10, D.i i), (98, D.b ((decide (x.at_ ≥ ((((gi c.texts x.text).words).length : Int) - i))) || (!decide ((gi ((gi c.texts x.text).words) (x.at_ + i)).text = (gi t.words (x.from_ + i)).text))))]) [(c3, .cells 4 [encPiece x]), (c2, .cells 2 [encText t]), (c1, .cells 4 [encCorpus c])] ?_ ?_
 refine wpA_draw (m := 27) mo (by kernel_rfl) rfl ?_
 refine dL (OpA.fieldAddr rfl tf48_3 rfl ⟨rfl, rfl⟩) ?_
 refine dL (OpA.load rfl ti3 rfl .head rfl rfl ⟨rfl, rfl⟩) ?_
 refine dL (OpA.m ⟨rfl, rfl⟩) ?_
 refine dL (OpA.len rfl rfl rfl rfl ts26.desc (.inl ⟨_, _, rfl, (List.length_map _).symm⟩) ⟨rfl, rfl⟩) ?_
 refine dL (OpA.m ⟨rfl, rfl⟩) ?_
 refine dL (OpA.subi rfl rfl rfl q1 ⟨rfl, rfl⟩) ?_
 refine dL (OpA.geq rfl rfl rfl ⟨rfl, rfl⟩) ?_
 refine dL (OpA.m ⟨rfl, rfl⟩) ?_
 refine DetK_split (s := 79) rfl (fun b8 => ?_) (fun b8 => ?_)
 iterate 18 refine dS ?_
 refine dL (OpA.p ⟨rfl, rfl⟩) ?_
 refine DetK.nil ?_
 refine wpL_nil ?_
 exact ⟨(Cov.asg ⟨rfl, rfl, rfl, rfl, rfl, (congrArg D.b (Eq.symm (orS b8))), trivial⟩), (.refl _)⟩
 refine dG (OpA.m ⟨rfl, rfl⟩) ?_
 refine dG (OpA.fieldAddr rfl tf48_3 rfl ⟨rfl, rfl⟩) ?_
 refine dG (OpA.load rfl ti3 rfl .head rfl rfl ⟨rfl, rfl⟩) ?_
 refine dG (OpA.m ⟨rfl, rfl⟩) ?_
 refine dG (OpA.addi rfl rfl rfl (q2 (decF b8)).1 ⟨rfl, rfl⟩) ?_
 refine dG (OpA.iixV (enc := encLex) rfl ts26 rfl rfl rfl (q2 (decF b8)).2.1 ⟨rfl, rfl⟩) ?_
 refine dG (OpA.ifieldAddr rfl tf50_0 rfl ⟨rfl, rfl⟩) ?_
 refine dG (OpA.iload rfl ti9 rfl rfl ⟨rfl, rfl⟩) ?_
 refine dG (OpA.fieldAddr rfl tf28_1 rfl ⟨rfl, rfl⟩) ?_
 refine dG (OpA.load rfl ti26 rfl (.tail .head) rfl rfl ⟨rfl, rfl⟩) ?_
 refine dG (OpA.fieldAddr rfl tf48_0 rfl ⟨rfl, rfl⟩) ?_
 refine dG (OpA.load rfl ti3 rfl .head rfl rfl ⟨rfl, rfl⟩) ?_
 refine dG (OpA.m ⟨rfl, rfl⟩) ?_
 refine dG (OpA.addi rfl rfl rfl (q2 (decF b8)).2.2.1 ⟨rfl, rfl⟩) ?_
 refine dG (OpA.iixV (enc := encLex) rfl ts26 rfl rfl rfl (q2 (decF b8)).2.2.2 ⟨rfl, rfl⟩) ?_
 refine dG (OpA.ifieldAddr rfl tf50_0 rfl ⟨rfl, rfl⟩) ?_
 refine dG (OpA.iload rfl ti9 rfl rfl ⟨rfl, rfl⟩) ?_
 refine dG (OpA.sneq rfl rfl rfl ⟨rfl, rfl⟩) ?_
 refine dL (OpA.p ⟨rfl, rfl⟩) ?_
 refine DetK.nil ?_
 refine wpL_nil ?_
 exact ⟨(Cov.asg ⟨rfl, rfl, rfl, rfl, rfl, (congrArg D.b (Eq.symm (orN b8 rfl))), trivial⟩), (.refl _)⟩
 show wpA _ _ _ _ (asg [(5, .ptr c2 2 0 0), (7, .ptr c3 4 0 0), (8, D.b false), (9, (encL 2 encLex) ((gi c.texts x.text).words)), (10, D.i i), (98, D.b ((decide (x.at_ ≥ ((((gi c.texts x.text).words).length : Int) - i))) || (!decide ((gi ((gi c.texts x.text).words) (x.at_ + i)).text = (gi t.words (x.from_ + i)).text))))]) [(c3, .cells 4 [encPiece x]), (c2, .cells 2 [encText t]), (c1, .cells 4 [encCorpus c])]
 refine wpA_cond rfl (fun b7 => ?_) (fun b7 => ?_)
 have h := h.1 ((or0 b7).imp (fun hh => (decT hh)) (fun hh => (ndecT hh)))
 refine wpA_seq ?_
 refine wpA_region ?_
 refine wL (OpA.a ?_)
 refine wpL_nil ?_
 refine wpA_ret ?_
 exact ⟨_, (.tmp (d := D.b false) rfl .nil), _, (.same rfl .nil), ⟨false, rfl, h⟩⟩
 have h := h.2 ⟨(decF (or1 b7)), (ndecF (or2 b7))⟩
 refine wpA_skip ?_
 obtain ⟨q1, h⟩ := h
 refine wpA_region ?_
 refine wL (OpA.m ?_)
 refine wL (OpA.addi rfl rfl rfl q1 ?_)
 refine wL (OpA.a ?_)
 refine wpL_nil ?_
 exact ⟨(), (i + 1), h, (Cov.asg ⟨rfl, rfl, rfl, rfl, rfl, trivial⟩), (.refl _)⟩
 have h := h.2 (decF b6)
 refine wpA_exit ?_
 refine wpA_seq ?_
 refine wpA_region ?_
 refine wL (OpA.a ?_)
 refine wpL_nil ?_
 refine wpA_ret ?_
 exact ⟨_, (.tmp (d := D.b true) rfl .nil), _, (.same rfl .nil), ⟨true, rfl, h⟩⟩
theorem rrightp_c (c : Corpus) (t : Text) (least : Int) (x : Piece) (hp0 : okC c) (hp1 : okT t) : Fun false Tryz.prog 57 [encCorpus c, encText t, D.i least, encPiece x] (fun d => d = D.b (pieceOk c t least x)) :=
 Fun.at (enc := fun r => D.b r) (v := pieceOk c t least x) (rrightp_w c t least x  (fun r => r = pieceOk c t least x) (rrightp_ok c t least x _ hp0 hp1 rfl))
theorem rcheck_w (c : Corpus) (t : Text) (least : Int) (a : Attribution) (Q : Int → Prop) (h : rcheck_vc c t least a Q) : Fun false Tryz.prog 25 [encCorpus c, encText t, D.i least, encAttribution a] (fun d => ∃ r, d = D.i r ∧ Q r) := by
 unfold rcheck_vc at h
 refine Fun.of_body Tryz.func25 rfl Tryz.ntmps25 rfl ?_
 refine wpA_seq ?_
 refine wpA_region ?_
 refine wL (OpA.bx (sz := 4) rfl (by with_reducible conv => lhs; whnf) (.of rfl) (fun c1 _ => ?_))
 refine wL (OpA.bx (sz := 2) rfl (by with_reducible conv => lhs; whnf) (.of rfl) (fun c2 _ => ?_))
 refine wL (OpA.bx (sz := 2) rfl (by with_reducible conv => lhs; whnf) (.of rfl) (fun c3 _ => ?_))
 refine wL (OpA.a ?_)
 refine wpL_nil ?_
 refine wpA_seq ?_
 obtain ⟨q1, q2, h⟩ := h
 refine wpA_region ?_
 refine wL (OpA.load_whole rfl ti25 rfl rfl (.tail (.tail .head)) rfl ⟨_, rfl⟩ ?_)
 refine wL (OpA.load_whole rfl ti28 rfl rfl (.tail .head) rfl ⟨_, rfl⟩ ?_)
 refine wL (OpA.m ?_)
 refine wL (OpA.call rfl rfl rfl en41 (rright_c c t least q1 q2) ?_)
 rintro _ rfl
 refine wL (OpA.a ?_)
 refine wpL_nil ?_
 iterate 2 refine wpA_seq ?_
 refine wpA_region ?_
 refine wL (OpA.m ?_)
 refine wL (OpA.neq rfl rfl rfl ?_)
 refine wpL_nil ?_
 refine wpA_cond rfl (fun b4 => ?_) (fun b4 => ?_)
 have h := h.1 (bneT b4)
 refine wpA_seq ?_
 refine wpA_region ?_
 refine wL (OpA.m ?_)
 refine wL (OpA.a ?_)
 refine wpL_nil ?_
 refine wpA_ret ?_
 exact ⟨_, (.tmp (d := D.i (rightA c t least)) rfl .nil), _, (.same rfl .nil), ⟨(rightA c t least), rfl, h⟩⟩
 have h := h.2 (bneF b4)
 refine wpA_skip ?_
 iterate 2 refine wpA_seq ?_
 refine wpA_region ?_
 refine wL (OpA.fieldAddr rfl tf33_0 rfl ?_)
 refine wL (OpA.load rfl ti9 rfl .head rfl rfl ?_)
 refine wL (OpA.fieldAddr rfl tf28_0 rfl ?_)
 refine wL (OpA.load rfl ti9 rfl (.tail .head) rfl rfl ?_)
 refine wL (OpA.sneq rfl rfl rfl ?_)
 refine wpL_nil ?_
 refine wpA_cond rfl (fun b5 => ?_) (fun b5 => ?_)
 have h := h.1 (ndecT b5)
 refine wpA_seq ?_
 refine wpA_region ?_
 refine wL (OpA.a ?_)
 refine wpL_nil ?_
 refine wpA_ret ?_
 exact ⟨_, (.tmp (d := D.i 9) rfl .nil), _, (.same rfl .nil), ⟨9, rfl, h⟩⟩
 have h := h.2 (ndecF b5)
 refine wpA_skip ?_
 iterate 2 refine wpA_seq ?_
 refine wpA_region ?_
 refine wL (OpA.a ?_)
 refine wpL_nil ?_
 refine wpA_block ?_
 refine wpA_lfp (S := Int) (G := Unit) () (fun gg ss => asg [(2, D.i least), (4, .ptr c1 4 0 0), (5, .ptr c2 2 0 0), (7, .ptr c3 2 0 0), (8, D.i 0), (10, D.i ss)]) (fun gg ss => [(c3, .cells 2 [encAttribution a]), (c2, .cells 2 [encText t]), (c1, .cells 4 [encCorpus c])]) h (Cov.asg ⟨rfl, rfl, rfl, rfl, rfl, rfl, trivial⟩) (.refl _) ?_
 rintro again6 _ i h
 have h : rcheck_L1 c t least a Q again6 i := h
 unfold rcheck_L1 at h
 show wpA _ _ _ _ (asg [(2, D.i least), (4, .ptr c1 4 0 0), (5, .ptr c2 2 0 0), (7, .ptr c3 2 0 0), (8, D.i 0), (10, D.i i)]) [(c3, .cells 2 [encAttribution a]), (c2, .cells 2 [encText t]), (c1, .cells 4 [encCorpus c])]
 iterate 2 refine wpA_seq ?_
 refine wpA_region ?_
 refine wL (OpA.m ?_)
 refine wL (OpA.fieldAddr rfl tf33_1 rfl ?_)
 refine wL (OpA.load rfl ti31 rfl .head rfl rfl ?_)
 refine wL (OpA.len rfl rfl rfl rfl ts31.desc (.inl ⟨_, _, rfl, (List.length_map _).symm⟩) ?_)
 refine wL (OpA.lss rfl rfl rfl ?_)
 refine wpL_nil ?_
 refine wpA_cond rfl (fun b7 => ?_) (fun b7 => ?_)
 have h := h.1 (decT b7)
 refine wpA_skip ?_
 refine wpA_seq ?_
 refine wpA_block ?_
 iterate 2 refine wpA_seq ?_
 obtain ⟨q1, q2, q3, h⟩ := h
 refine wpA_draw (m := 10) mo (by kernel_rfl) rfl ?_
 refine dL (OpA.load_whole rfl ti25 rfl rfl (.tail (.tail .head)) rfl ⟨_, rfl⟩ ⟨rfl, rfl⟩) ?_
 refine dL (OpA.load_whole rfl ti28 rfl rfl (.tail .head) rfl ⟨_, rfl⟩ ⟨rfl, rfl⟩) ?_
 refine dL (OpA.m ⟨rfl, rfl⟩) ?_
 refine dL (OpA.fieldAddr rfl tf33_1 rfl ⟨rfl, rfl⟩) ?_
 refine dL (OpA.load rfl ti31 rfl .head rfl rfl ⟨rfl, rfl⟩) ?_
 refine dL (OpA.m ⟨rfl, rfl⟩) ?_
 refine dL (OpA.iixV (enc := encPiece) rfl ts31 rfl rfl rfl q1 ⟨rfl, rfl⟩) ?_
 refine dL (OpA.iload_whole rfl ti48 rfl ⟨_, rfl, rfl⟩ ⟨rfl, rfl⟩) ?_
 refine dL (OpA.call rfl rfl rfl en57 (rrightp_c c t least (gi a.pieces i) q2 q3) (by rintro _ rfl; exact ⟨rfl, rfl⟩)) ?_
 refine dL (OpA.not rfl rfl ⟨rfl, rfl⟩) ?_
 refine DetK.nil ?_
 refine wpL_nil ?_
 refine wpA_cond rfl (fun b8 => ?_) (fun b8 => ?_)
 have h := h.1 (notT b8)
 refine wpA_seq ?_
 refine wpA_region ?_
 refine wL (OpA.a ?_)
 refine wpL_nil ?_
 refine wpA_ret ?_
 exact ⟨_, (.tmp (d := D.i 18) rfl .nil), _, (.same rfl .nil), ⟨18, rfl, h⟩⟩
 have h := h.2 (notF b8)
 refine wpA_skip ?_
 refine wpA_seq ?_
 obtain ⟨q1, h⟩ := h
 refine wpA_mid (asg [(2, D.i least), (4, .ptr c1 4 0 0), (5, .ptr c2 2 0 0), (7, .ptr c3 2 0 0), (8, D.i 0), (10, D.i i), (57, D.b ((decide (i > 0)) && (decide ((gi a.pieces i).from_ < (gi a.pieces (i - 1)).to))))]) [(c3, .cells 2 [encAttribution a]), (c2, .cells 2 [encText t]), (c1, .cells 4 [encCorpus c])] ?_ ?_
 refine wpA_draw (m := 18) mo (by kernel_rfl) rfl ?_
 refine dL (OpA.m ⟨rfl, rfl⟩) ?_
 refine dL (OpA.gtr rfl rfl rfl ⟨rfl, rfl⟩) ?_
 refine dL (OpA.m ⟨rfl, rfl⟩) ?_
 refine DetK_split (s := 42) rfl (fun b10 => ?_) (fun b10 => ?_)
 refine dG (OpA.fieldAddr rfl tf33_1 rfl ⟨rfl, rfl⟩) ?_
 refine dG (OpA.load rfl ti31 rfl .head rfl rfl ⟨rfl, rfl⟩) ?_
 refine dG (OpA.m ⟨rfl, rfl⟩) ?_
 refine dG (OpA.iixV (enc := encPiece) rfl ts31 rfl rfl rfl (q1 (decT b10)).1 ⟨rfl, rfl⟩) ?_
 refine dG (OpA.ifieldAddr rfl tf48_0 rfl ⟨rfl, rfl⟩) ?_
 refine dG (OpA.iload rfl ti3 rfl rfl ⟨rfl, rfl⟩) ?_
 refine dG (OpA.fieldAddr rfl tf33_1 rfl ⟨rfl, rfl⟩) ?_
 refine dG (OpA.load rfl ti31 rfl .head rfl rfl ⟨rfl, rfl⟩) ?_
 refine dG (OpA.m ⟨rfl, rfl⟩) ?_
 refine dG (OpA.subi rfl rfl rfl (q1 (decT b10)).2.1 ⟨rfl, rfl⟩) ?_
 refine dG (OpA.iixV (enc := encPiece) rfl ts31 rfl rfl rfl (q1 (decT b10)).2.2 ⟨rfl, rfl⟩) ?_
 refine dG (OpA.ifieldAddr rfl tf48_1 rfl ⟨rfl, rfl⟩) ?_
 refine dG (OpA.iload rfl ti3 rfl rfl ⟨rfl, rfl⟩) ?_
 refine dG (OpA.lss rfl rfl rfl ⟨rfl, rfl⟩) ?_
 refine dL (OpA.p ⟨rfl, rfl⟩) ?_
 refine DetK.nil ?_
 refine wpL_nil ?_
 exact ⟨(Cov.asg ⟨rfl, rfl, rfl, rfl, rfl, rfl, (congrArg D.b (Eq.symm (andN b10 rfl))), trivial⟩), (.refl _)⟩
 iterate 14 refine dS ?_
 refine dL (OpA.p ⟨rfl, rfl⟩) ?_
 refine DetK.nil ?_
 refine wpL_nil ?_
 exact ⟨(Cov.asg ⟨rfl, rfl, rfl, rfl, rfl, rfl, (congrArg D.b (Eq.symm (andS b10))), trivial⟩), (.refl _)⟩
 show wpA _ _ _ _ (asg [(2, D.i least), (4, .ptr c1 4 0 0), (5, .ptr c2 2 0 0), (7, .ptr c3 2 0 0), (8, D.i 0), (10, D.i i), (57, D.b ((decide (i > 0)) && (decide ((gi a.pieces i).from_ < (gi a.pieces (i - 1)).to))))]) [(c3, .cells 2 [encAttribution a]), (c2, .cells 2 [encText t]), (c1, .cells 4 [encCorpus c])]
 refine wpA_cond rfl (fun b9 => ?_) (fun b9 => ?_)
 have h := h.1 ⟨(decT (and1 b9)), (decT (and2 b9))⟩
 refine wpA_seq ?_
 refine wpA_region ?_
 refine wL (OpA.a ?_)
 refine wpL_nil ?_
 refine wpA_ret ?_
 exact ⟨_, (.tmp (d := D.i 5) rfl .nil), _, (.same rfl .nil), ⟨5, rfl, h⟩⟩
 have h := h.2 ((and0 b9).imp (fun hh => (decF hh)) (fun hh => (decF hh)))
 refine wpA_skip ?_
 obtain ⟨q1, h⟩ := h
 refine wpA_region ?_
 refine wL (OpA.m ?_)
 refine wL (OpA.addi rfl rfl rfl q1 ?_)
 refine wL (OpA.a ?_)
 refine wpL_nil ?_
 exact ⟨(), (i + 1), h, (Cov.asg ⟨rfl, rfl, rfl, rfl, rfl, rfl, trivial⟩), (.refl _)⟩
 have h := h.2 (decF b7)
 refine wpA_exit ?_
 refine wpA_seq ?_
 refine wpA_region ?_
 refine wL (OpA.a ?_)
 refine wpL_nil ?_
 refine wpA_ret ?_
 exact ⟨_, (.tmp (d := D.i 0) rfl .nil), _, (.same rfl .nil), ⟨0, rfl, h⟩⟩
theorem rcheck_c (c : Corpus) (t : Text) (least : Int) (a : Attribution) (hp0 : okC c) (hp1 : okT t) (hp2 : okA a) : Fun false Tryz.prog 25 [encCorpus c, encText t, D.i least, encAttribution a] (fun d => d = D.i (checkA c t least a)) :=
 Fun.at (enc := fun r => D.i r) (v := checkA c t least a) (rcheck_w c t least a  (fun r => r = checkA c t least a) (rcheck_ok c t least a _ hp0 hp1 hp2 rfl))
theorem rshare_w (c : Corpus) (t : Text) (a : Attribution) (Q : (List Int) × Int → Prop) (h : rshare_vc c t a Q) : Fun false Tryz.prog 22 [encCorpus c, encText t, encAttribution a] (fun d => ∃ r, d = .tup [(encL 1 D.i) (r.1), D.i (r.2)] ∧ Q r) := by
 unfold rshare_vc at h
 refine Fun.of_body Tryz.func22 rfl Tryz.ntmps22 rfl ?_
 refine wpA_seq ?_
 refine wpA_region ?_
 refine wL (OpA.bx (sz := 4) rfl (by with_reducible conv => lhs; whnf) (.of rfl) (fun c1 _ => ?_))
 refine wL (OpA.bx (sz := 2) rfl (by with_reducible conv => lhs; whnf) (.of rfl) (fun c2 _ => ?_))
 refine wL (OpA.bx (sz := 2) rfl (by with_reducible conv => lhs; whnf) (.of rfl) (fun c3 _ => ?_))
 iterate 2 refine wL (OpA.a ?_)
 refine wpL_nil ?_
 iterate 2 refine wpA_seq ?_
 obtain ⟨q1, q2, h⟩ := h
 refine wpA_region ?_
 refine wL (OpA.load_whole rfl ti25 rfl rfl (.tail (.tail .head)) rfl ⟨_, rfl⟩ ?_)
 refine wL (OpA.load_whole rfl ti28 rfl rfl (.tail .head) rfl ⟨_, rfl⟩ ?_)
 refine wL (OpA.call rfl rfl rfl en41 (rright_c c t 1 q1 q2) ?_)
 rintro _ rfl
 refine wL (OpA.neq rfl rfl rfl ?_)
 refine wpL_nil ?_
 refine wpA_cond rfl (fun b4 => ?_) (fun b4 => ?_)
 have h := h.1 (bneT b4)
 refine wpA_seq ?_
 refine wpA_region ?_
 iterate 2 refine wL (OpA.a ?_)
 refine wpL_nil ?_
 refine wpA_ret ?_
 exact ⟨_, (.tmp (d := .v (.slice none 0 0)) rfl (.tmp (d := D.i 1) rfl .nil)), _, (.tup (.nilv (sz := 1) (.same rfl .nil)) .nil), ⟨([], 1), rfl, h⟩⟩
 have h := h.2 (bneF b4)
 refine wpA_skip ?_
 iterate 2 refine wpA_seq ?_
 obtain ⟨q1, q2, q3, h⟩ := h
 refine wpA_region ?_
 refine wL (OpA.load_whole rfl ti25 rfl rfl (.tail (.tail .head)) rfl ⟨_, rfl⟩ ?_)
 refine wL (OpA.load_whole rfl ti28 rfl rfl (.tail .head) rfl ⟨_, rfl⟩ ?_)
 refine wL (OpA.load_whole rfl ti33 rfl rfl .head rfl ⟨_, rfl⟩ ?_)
 refine wL (OpA.call rfl rfl rfl en25 (rcheck_c c t 1 a q1 q2 q3) ?_)
 rintro _ rfl
 refine wL (OpA.neq rfl rfl rfl ?_)
 refine wpL_nil ?_
 refine wpA_cond rfl (fun b5 => ?_) (fun b5 => ?_)
 have h := h.1 (bneT b5)
 refine wpA_seq ?_
 refine wpA_region ?_
 iterate 2 refine wL (OpA.a ?_)
 refine wpL_nil ?_
 refine wpA_ret ?_
 exact ⟨_, (.tmp (d := .v (.slice none 0 0)) rfl (.tmp (d := D.i 18) rfl .nil)), _, (.tup (.nilv (sz := 1) (.same rfl .nil)) .nil), ⟨([], 18), rfl, h⟩⟩
 have h := h.2 (bneF b5)
 refine wpA_skip ?_
 refine wpA_seq ?_
 obtain ⟨q1, h⟩ := h
 refine wpA_region ?_
 refine wL (OpA.fieldAddr rfl tf25_2 rfl ?_)
 refine wL (OpA.load rfl ti22 rfl (.tail (.tail .head)) rfl rfl ?_)
 refine wL (OpA.len rfl rfl rfl rfl ts22.desc (.inl ⟨_, _, rfl, (List.length_map _).symm⟩) ?_)
 refine wL (OpA.makeSliceV (enc := D.i) (v0 := 0) rfl ts52 rfl rfl tz3 (fun _ _ => .v _) (.of rfl) q1 (fun c6 => ?_))
 refine wL (OpA.a ?_)
 refine wpL_nil ?_
 iterate 2 refine wpA_seq ?_
 refine wpA_region ?_
 refine wL (OpA.a ?_)
 refine wpL_nil ?_
 refine wpA_block ?_
 refine wpA_lfp (S := (List Int) × Int) (G := Nat × List D × List D) (c6, ([] : List D), ([] : List D)) (fun gg ss => asg [(5, .ptr c3 2 0 0), (6, .v (.slice none 0 0)), (7, D.i 0), (8, .own gg.1 1 gg.2.1.length ss.1.length), (9, D.i ss.2)]) (fun gg ss => [(gg.1, .cells 1 (winL D.i gg.2.1 ss.1 gg.2.2)), (c3, .cells 2 [encAttribution a]), (c2, .cells 2 [encText t]), (c1, .cells 4 [encCorpus c])]) h (Cov.asg ⟨rfl, rfl, rfl, rfl, rfl, trivial⟩) (.refl _) ?_
 rintro again7 ⟨cb22, pre22, post22⟩ ⟨out, i⟩ h
 have h : rshare_L1 a Q again7 out i := h
 unfold rshare_L1 at h
 show wpA _ _ _ _ (asg [(5, .ptr c3 2 0 0), (6, .v (.slice none 0 0)), (7, D.i 0), (8, .own cb22 1 pre22.length out.length), (9, D.i i)]) [(cb22, .cells 1 (winL D.i pre22 out post22)), (c3, .cells 2 [encAttribution a]), (c2, .cells 2 [encText t]), (c1, .cells 4 [encCorpus c])]
 iterate 2 refine wpA_seq ?_
 refine wpA_region ?_
 refine wL (OpA.m ?_)
 refine wL (OpA.fieldAddr rfl tf33_1 rfl ?_)
 refine wL (OpA.load rfl ti31 rfl (.tail .head) rfl rfl ?_)
 refine wL (OpA.len rfl rfl rfl rfl ts31.desc (.inl ⟨_, _, rfl, (List.length_map _).symm⟩) ?_)
 refine wL (OpA.lss rfl rfl rfl ?_)
 refine wpL_nil ?_
 refine wpA_cond rfl (fun b8 => ?_) (fun b8 => ?_)
 have h := h.1 (decT b8)
 refine wpA_skip ?_
 refine wpA_seq ?_
 refine wpA_block ?_
 obtain ⟨q1, q2, q3, q4, h⟩ := h
 refine wpA_draw (m := 31) mo (by kernel_rfl) rfl ?_
 refine dL (OpA.m ⟨rfl, rfl⟩) ?_
 refine dL (OpA.fieldAddr rfl tf33_1 rfl ⟨rfl, rfl⟩) ?_
 refine dL (OpA.load rfl ti31 rfl (.tail .head) rfl rfl ⟨rfl, rfl⟩) ?_
 refine dL (OpA.m ⟨rfl, rfl⟩) ?_
 refine dL (OpA.iixV (enc := encPiece) rfl ts31 rfl rfl rfl q1 ⟨rfl, rfl⟩) ?_
 refine dL (OpA.ifieldAddr rfl tf48_2 rfl ⟨rfl, rfl⟩) ?_
 refine dL (OpA.iload rfl ti3 rfl rfl ⟨rfl, rfl⟩) ?_
 refine dL (OpA.m ⟨rfl, rfl⟩) ?_
 refine dL (OpA.fieldAddr rfl tf33_1 rfl ⟨rfl, rfl⟩) ?_
 refine dL (OpA.load rfl ti31 rfl (.tail .head) rfl rfl ⟨rfl, rfl⟩) ?_
 refine dL (OpA.m ⟨rfl, rfl⟩) ?_
 refine dL (OpA.iixV (enc := encPiece) rfl ts31 rfl rfl rfl q1 ⟨rfl, rfl⟩) ?_
 refine dL (OpA.ifieldAddr rfl tf48_2 rfl ⟨rfl, rfl⟩) ?_
 refine dL (OpA.iload rfl ti3 rfl rfl ⟨rfl, rfl⟩) ?_
 refine dL (OpA.ixV rfl ts52 rfl rfl q2 ⟨rfl, rfl⟩) ?_
 refine dL (OpA.load rfl ti3 rfl .head (getV (enc := D.i) q2) rfl ⟨rfl, rfl⟩) ?_
 refine dL (OpA.fieldAddr rfl tf33_1 rfl ⟨rfl, rfl⟩) ?_
 refine dL (OpA.load rfl ti31 rfl (.tail .head) rfl rfl ⟨rfl, rfl⟩) ?_
 refine dL (OpA.m ⟨rfl, rfl⟩) ?_
 refine dL (OpA.iixV (enc := encPiece) rfl ts31 rfl rfl rfl q1 ⟨rfl, rfl⟩) ?_
 refine dL (OpA.ifieldAddr rfl tf48_1 rfl ⟨rfl, rfl⟩) ?_
 refine dL (OpA.iload rfl ti3 rfl rfl ⟨rfl, rfl⟩) ?_
 refine dL (OpA.addi rfl rfl rfl q3 ⟨rfl, rfl⟩) ?_
 refine dL (OpA.fieldAddr rfl tf33_1 rfl ⟨rfl, rfl⟩) ?_
 refine dL (OpA.load rfl ti31 rfl (.tail .head) rfl rfl ⟨rfl, rfl⟩) ?_
 refine dL (OpA.m ⟨rfl, rfl⟩) ?_
 refine dL (OpA.iixV (enc := encPiece) rfl ts31 rfl rfl rfl q1 ⟨rfl, rfl⟩) ?_
 refine dL (OpA.ifieldAddr rfl tf48_0 rfl ⟨rfl, rfl⟩) ?_
 refine dL (OpA.iload rfl ti3 rfl rfl ⟨rfl, rfl⟩) ?_
 refine dL (OpA.subi rfl rfl rfl q4 ⟨rfl, rfl⟩) ?_
 refine dL (OpA.ixV rfl ts52 rfl rfl q2 ⟨rfl, rfl⟩) ?_
 refine DetK.nil ?_
 refine wE (OpA.storeV (enc := D.i) (v := (((gi out ((gi a.pieces i).text)) + ((gi a.pieces i).to)) - ((gi a.pieces i).from_))) rfl ti3 rfl rfl (.of rfl) rfl q2 .head ?_)
 refine wpL_nil ?_
 obtain ⟨q1, h⟩ := h
 refine wpA_region ?_
 refine wL (OpA.m ?_)
 refine wL (OpA.addi rfl rfl rfl q1 ?_)
 refine wL (OpA.a ?_)
 refine wpL_nil ?_
 exact ⟨(cb22, pre22, post22), ((si out ((gi a.pieces i).text) (((gi out ((gi a.pieces i).text)) + ((gi a.pieces i).to)) - ((gi a.pieces i).from_))), (i + 1)), h, (Cov.asg ⟨rfl, rfl, rfl, (congrArg (D.own cb22 1 pre22.length) (by simp only [si_length, gcopy_length, sortF_len postCmp_swo, sortF_len spanCmp_swo] <;> rfl)), rfl, trivial⟩), (.refl _)⟩
 have h := h.2 (decF b8)
 refine wpA_exit ?_
 refine wpA_seq ?_
 refine wpA_region ?_
 refine wL (OpA.m ?_)
 iterate 2 refine wL (OpA.a ?_)
 refine wpL_nil ?_
 refine wpA_ret ?_
 exact ⟨_, (.tmp (d := .own cb22 1 pre22.length out.length) rfl (.tmp (d := D.i 0) rfl .nil)), _, (.tup (.win .head (by intro hf; cases hf) (.same rfl .nil)) .nil), ⟨(out, 0), rfl, h⟩⟩
theorem rshare_c (c : Corpus) (t : Text) (a : Attribution) (hp0 : okC c) (hp1 : okT t) (hp2 : okA a) : Fun false Tryz.prog 22 [encCorpus c, encText t, encAttribution a] (fun d => d = .tup [(encL 1 D.i) ((shareF c t a).1), D.i ((shareF c t a).2)]) :=
 Fun.at (enc := fun r => .tup [(encL 1 D.i) (r.1), D.i (r.2)]) (v := shareF c t a) (rshare_w c t a  (fun r => r = shareF c t a) (rshare_ok c t a _ hp0 hp1 hp2 rfl))
theorem rmain_w (c : Corpus) (t : Text) (a : Attribution) (percent : Int) (Q : ByteArray × Bool → Prop) (h : rmain_vc c t a percent Q) : Fun false Tryz.prog 16 [encCorpus c, encText t, encAttribution a, D.i percent] (fun d => ∃ r, d = .tup [D.s (r.1), D.b (r.2)] ∧ Q r) := by
 unfold rmain_vc at h
 refine Fun.of_body Tryz.func16 rfl Tryz.ntmps16 rfl ?_
 refine wpA_seq ?_
 refine wpA_region ?_
 refine wL (OpA.bx (sz := 4) rfl (by with_reducible conv => lhs; whnf) (.of rfl) (fun c1 _ => ?_))
 refine wL (OpA.bx (sz := 2) rfl (by with_reducible conv => lhs; whnf) (.of rfl) (fun c2 _ => ?_))
 refine wL (OpA.bx (sz := 2) rfl (by with_reducible conv => lhs; whnf) (.of rfl) (fun c3 _ => ?_))
 iterate 2 refine wL (OpA.a ?_)
 refine wpL_nil ?_
 refine wpA_seq ?_
 obtain ⟨q1, q2, q3, h⟩ := h
 refine wpA_region ?_
 refine wL (OpA.load_whole rfl ti25 rfl rfl (.tail (.tail .head)) rfl ⟨_, rfl⟩ ?_)
 refine wL (OpA.load_whole rfl ti28 rfl rfl (.tail .head) rfl ⟨_, rfl⟩ ?_)
 refine wL (OpA.load_whole rfl ti33 rfl rfl .head rfl ⟨_, rfl⟩ ?_)
 refine wL (OpA.call rfl rfl rfl en22 (rshare_c c t a q1 q2 q3) ?_)
 rintro _ rfl
 refine wL (OpA.m ?_)
 iterate 2 refine wL (OpA.extract rfl rfl rfl ?_)
 iterate 2 refine wL (OpA.a ?_)
 refine wpL_nil ?_
 iterate 2 refine wpA_seq ?_
 refine wpA_mid (asg [(3, D.i percent), (4, .ptr c1 4 0 0), (5, .ptr c2 2 0 0), (8, D.s (⟨#[]⟩ : ByteArray)), (9, D.b false), (10, (encL 1 D.i) ((shareF c t a).1)), (30, D.b (((((shareF c t a).2) != 0) || (decide (percent < 0))) || (decide (percent > 100))))]) [(c3, .cells 2 [encAttribution a]), (c2, .cells 2 [encText t]), (c1, .cells 4 [encCorpus c])] ?_ ?_
 refine wpA_region ?_
 refine wL (OpA.m ?_)
 refine wL (OpA.neq rfl rfl rfl ?_)
 refine wL (OpA.m ?_)
 refine wpL_split (s := 23) rfl (fun b12 => ?_) (fun b12 => ?_)
 iterate 2 refine wS ?_
 refine wL (OpA.p ?_)
 refine wL (OpA.m ?_)
 iterate 2 refine wS ?_
 refine wL (OpA.p ?_)
 refine wpL_nil ?_
 exact ⟨(Cov.asg ⟨rfl, rfl, rfl, rfl, rfl, rfl, (congrArg D.b (Eq.symm (orS (orS b12)))), trivial⟩), (.refl _)⟩
 refine wG (OpA.m ?_)
 refine wG (OpA.lss rfl rfl rfl ?_)
 refine wL (OpA.p ?_)
 refine wL (OpA.m ?_)
 refine wpL_split (s := 27) rfl (fun b13 => ?_) (fun b13 => ?_)
 iterate 2 refine wS ?_
 refine wL (OpA.p ?_)
 refine wpL_nil ?_
 exact ⟨(Cov.asg ⟨rfl, rfl, rfl, rfl, rfl, rfl, (congrArg D.b (Eq.symm (orS (orN b12 b13)))), trivial⟩), (.refl _)⟩
 refine wG (OpA.m ?_)
 refine wG (OpA.gtr rfl rfl rfl ?_)
 refine wL (OpA.p ?_)
 refine wpL_nil ?_
 exact ⟨(Cov.asg ⟨rfl, rfl, rfl, rfl, rfl, rfl, (congrArg D.b (Eq.symm (orN (orN b12 b13) rfl))), trivial⟩), (.refl _)⟩
 show wpA _ _ _ _ (asg [(3, D.i percent), (4, .ptr c1 4 0 0), (5, .ptr c2 2 0 0), (8, D.s (⟨#[]⟩ : ByteArray)), (9, D.b false), (10, (encL 1 D.i) ((shareF c t a).1)), (30, D.b (((((shareF c t a).2) != 0) || (decide (percent < 0))) || (decide (percent > 100))))]) [(c3, .cells 2 [encAttribution a]), (c2, .cells 2 [encText t]), (c1, .cells 4 [encCorpus c])]
 refine wpA_cond rfl (fun b4 => ?_) (fun b4 => ?_)
 have h := h.1 ((or0 b4).imp (fun hh => ((or0 hh).imp (fun hh => (bneT hh)) (fun hh => (decT hh)))) (fun hh => (decT hh)))
 refine wpA_seq ?_
 refine wpA_region ?_
 iterate 2 refine wL (OpA.a ?_)
 refine wpL_nil ?_
 refine wpA_ret ?_
 exact ⟨_, (.tmp (d := D.s (⟨#[]⟩ : ByteArray)) rfl (.tmp (d := D.b false) rfl .nil)), _, (.tup (.same rfl (.same rfl .nil)) .nil), ⟨((⟨#[]⟩ : ByteArray), false), rfl, h⟩⟩
 have h := h.2 ⟨⟨(bneF (or1 (or1 b4))), (decF (or2 (or1 b4)))⟩, (decF (or2 b4))⟩
 refine wpA_skip ?_
 refine wpA_seq ?_
 refine wpA_region ?_
 refine wL (OpA.a ?_)
 refine wpL_nil ?_
 iterate 2 refine wpA_seq ?_
 refine wpA_region ?_
 refine wL (OpA.a ?_)
 refine wpL_nil ?_
 refine wpA_block ?_
 refine wpA_lfp (S := Int × Int) (G := Unit) () (fun gg ss => asg [(3, D.i percent), (4, .ptr c1 4 0 0), (5, .ptr c2 2 0 0), (8, D.s (⟨#[]⟩ : ByteArray)), (9, D.b false), (10, (encL 1 D.i) ((shareF c t a).1)), (12, D.i ss.1), (13, D.i ss.2)]) (fun gg ss => [(c3, .cells 2 [encAttribution a]), (c2, .cells 2 [encText t]), (c1, .cells 4 [encCorpus c])]) h (Cov.asg ⟨rfl, rfl, rfl, rfl, rfl, rfl, rfl, rfl, trivial⟩) (.refl _) ?_
 rintro again5 _ ⟨best, i⟩ h
 have h : rmain_L1 c t a percent Q again5 best i := h
 unfold rmain_L1 at h
 show wpA _ _ _ _ (asg [(3, D.i percent), (4, .ptr c1 4 0 0), (5, .ptr c2 2 0 0), (8, D.s (⟨#[]⟩ : ByteArray)), (9, D.b false), (10, (encL 1 D.i) ((shareF c t a).1)), (12, D.i best), (13, D.i i)]) [(c3, .cells 2 [encAttribution a]), (c2, .cells 2 [encText t]), (c1, .cells 4 [encCorpus c])]
 iterate 2 refine wpA_seq ?_
 refine wpA_region ?_
 iterate 2 refine wL (OpA.m ?_)
 refine wL (OpA.len rfl rfl rfl rfl ts52.desc (.inl ⟨_, _, rfl, (List.length_map _).symm⟩) ?_)
 refine wL (OpA.lss rfl rfl rfl ?_)
 refine wpL_nil ?_
 refine wpA_cond rfl (fun b6 => ?_) (fun b6 => ?_)
 have h := h.1 (decT b6)
 refine wpA_skip ?_
 refine wpA_seq ?_
 refine wpA_block ?_
 refine wpA_seq ?_
 obtain ⟨q1, h⟩ := h
 refine wpA_mid (asg [(3, D.i percent), (4, .ptr c1 4 0 0), (5, .ptr c2 2 0 0), (8, D.s (⟨#[]⟩ : ByteArray)), (9, D.b false), (10, (encL 1 D.i) ((shareF c t a).1)), (12, D.i best), (13, D.i i), (49, D.b ((decide (best < 0)) || (decide ((gi ((shareF c t a).1) i) > (gi ((shareF c t a).1) best)))))]) [(c3, .cells 2 [encAttribution a]), (c2, .cells 2 [encText t]), (c1, .cells 4 [encCorpus c])] ?_ ?_
 refine wpA_draw (m := 13) mo (by kernel_rfl) rfl ?_
 refine dL (OpA.m ⟨rfl, rfl⟩) ?_
 refine dL (OpA.lss rfl rfl rfl ⟨rfl, rfl⟩) ?_
 refine dL (OpA.m ⟨rfl, rfl⟩) ?_
 refine DetK_split (s := 39) rfl (fun b8 => ?_) (fun b8 => ?_)
 iterate 9 refine dS ?_
 refine dL (OpA.p ⟨rfl, rfl⟩) ?_
 refine DetK.nil ?_
 refine wpL_nil ?_
 exact ⟨(Cov.asg ⟨rfl, rfl, rfl, rfl, rfl, rfl, rfl, rfl, (congrArg D.b (Eq.symm (orS b8))), trivial⟩), (.refl _)⟩
 iterate 2 refine dG (OpA.m ⟨rfl, rfl⟩) ?_
 refine dG (OpA.iixV (enc := D.i) rfl ts52 rfl rfl rfl (q1 (decF b8)).1 ⟨rfl, rfl⟩) ?_
 refine dG (OpA.iload rfl ti3 rfl rfl ⟨rfl, rfl⟩) ?_
 iterate 2 refine dG (OpA.m ⟨rfl, rfl⟩) ?_
 refine dG (OpA.iixV (enc := D.i) rfl ts52 rfl rfl rfl (q1 (decF b8)).2 ⟨rfl, rfl⟩) ?_
 refine dG (OpA.iload rfl ti3 rfl rfl ⟨rfl, rfl⟩) ?_
 refine dG (OpA.gtr rfl rfl rfl ⟨rfl, rfl⟩) ?_
 refine dL (OpA.p ⟨rfl, rfl⟩) ?_
 refine DetK.nil ?_
 refine wpL_nil ?_
 exact ⟨(Cov.asg ⟨rfl, rfl, rfl, rfl, rfl, rfl, rfl, rfl, (congrArg D.b (Eq.symm (orN b8 rfl))), trivial⟩), (.refl _)⟩
 show wpA _ _ _ _ (asg [(3, D.i percent), (4, .ptr c1 4 0 0), (5, .ptr c2 2 0 0), (8, D.s (⟨#[]⟩ : ByteArray)), (9, D.b false), (10, (encL 1 D.i) ((shareF c t a).1)), (12, D.i best), (13, D.i i), (49, D.b ((decide (best < 0)) || (decide ((gi ((shareF c t a).1) i) > (gi ((shareF c t a).1) best)))))]) [(c3, .cells 2 [encAttribution a]), (c2, .cells 2 [encText t]), (c1, .cells 4 [encCorpus c])]
 refine wpA_cond rfl (fun b7 => ?_) (fun b7 => ?_)
 have h := h.1 ((or0 b7).imp (fun hh => (decT hh)) (fun hh => (decT hh)))
 refine wpA_region ?_
 refine wL (OpA.m ?_)
 refine wL (OpA.a ?_)
 refine wpL_nil ?_
 obtain ⟨q1, h⟩ := h
 refine wpA_region ?_
 refine wL (OpA.m ?_)
 refine wL (OpA.addi rfl rfl rfl q1 ?_)
 refine wL (OpA.a ?_)
 refine wpL_nil ?_
 exact ⟨(), (i, (i + 1)), h, (Cov.asg ⟨rfl, rfl, rfl, rfl, rfl, rfl, rfl, rfl, trivial⟩), (.refl _)⟩
 have h := h.2 ⟨(decF (or1 b7)), (decF (or2 b7))⟩
 refine wpA_skip ?_
 obtain ⟨q1, h⟩ := h
 refine wpA_region ?_
 refine wL (OpA.m ?_)
 refine wL (OpA.addi rfl rfl rfl q1 ?_)
 refine wL (OpA.a ?_)
 refine wpL_nil ?_
 exact ⟨(), (best, (i + 1)), h, (Cov.asg ⟨rfl, rfl, rfl, rfl, rfl, rfl, rfl, rfl, trivial⟩), (.refl _)⟩
 have h := h.2 (decF b6)
 refine wpA_exit ?_
 iterate 2 refine wpA_seq ?_
 obtain ⟨q1, q2, h⟩ := h
 refine wpA_mid (asg [(4, .ptr c1 4 0 0), (8, D.s (⟨#[]⟩ : ByteArray)), (9, D.b false), (12, D.i best), (72, D.b (((decide (best < 0)) || ((gi ((shareF c t a).1) best) == 0)) || (decide ((100 * (gi ((shareF c t a).1) best)) < (percent * (t.words.length : Int))))))]) [(c3, .cells 2 [encAttribution a]), (c2, .cells 2 [encText t]), (c1, .cells 4 [encCorpus c])] ?_ ?_
 refine wpA_draw (m := 22) mo (by kernel_rfl) rfl ?_
 refine dL (OpA.m ⟨rfl, rfl⟩) ?_
 refine dL (OpA.lss rfl rfl rfl ⟨rfl, rfl⟩) ?_
 refine dL (OpA.m ⟨rfl, rfl⟩) ?_
 refine DetK_split (s := 53) rfl (fun b10 => ?_) (fun b10 => ?_)
 iterate 5 refine dS ?_
 refine dL (OpA.p ⟨rfl, rfl⟩) ?_
 refine dL (OpA.m ⟨rfl, rfl⟩) ?_
 iterate 11 refine dS ?_
 refine dL (OpA.p ⟨rfl, rfl⟩) ?_
 refine DetK.nil ?_
 refine wpL_nil ?_
 exact ⟨(Cov.asg ⟨rfl, rfl, rfl, rfl, (congrArg D.b (Eq.symm (orS (orS b10)))), trivial⟩), (.refl _)⟩
 iterate 2 refine dG (OpA.m ⟨rfl, rfl⟩) ?_
 refine dG (OpA.iixV (enc := D.i) rfl ts52 rfl rfl rfl (q1 (decF b10)) ⟨rfl, rfl⟩) ?_
 refine dG (OpA.iload rfl ti3 rfl rfl ⟨rfl, rfl⟩) ?_
 refine dG (OpA.eql rfl rfl rfl ⟨rfl, rfl⟩) ?_
 refine dL (OpA.p ⟨rfl, rfl⟩) ?_
 refine dL (OpA.m ⟨rfl, rfl⟩) ?_
 refine DetK_split (s := 60) rfl (fun b11 => ?_) (fun b11 => ?_)
 iterate 11 refine dS ?_
 refine dL (OpA.p ⟨rfl, rfl⟩) ?_
 refine DetK.nil ?_
 refine wpL_nil ?_
 exact ⟨(Cov.asg ⟨rfl, rfl, rfl, rfl, (congrArg D.b (Eq.symm (orS (orN b10 b11)))), trivial⟩), (.refl _)⟩
 iterate 2 refine dG (OpA.m ⟨rfl, rfl⟩) ?_
 refine dG (OpA.iixV (enc := D.i) rfl ts52 rfl rfl rfl (q2 ⟨(decF b10), (beqF b11)⟩).1 ⟨rfl, rfl⟩) ?_
 refine dG (OpA.iload rfl ti3 rfl rfl ⟨rfl, rfl⟩) ?_
 refine dG (OpA.muli rfl rfl rfl (q2 ⟨(decF b10), (beqF b11)⟩).2.1 ⟨rfl, rfl⟩) ?_
 refine dG (OpA.m ⟨rfl, rfl⟩) ?_
 refine dG (OpA.fieldAddr rfl tf28_1 rfl ⟨rfl, rfl⟩) ?_
 refine dG (OpA.load rfl ti26 rfl (.tail .head) rfl rfl ⟨rfl, rfl⟩) ?_
 refine dG (OpA.len rfl rfl rfl rfl ts26.desc (.inl ⟨_, _, rfl, (List.length_map _).symm⟩) ⟨rfl, rfl⟩) ?_
 refine dG (OpA.muli rfl rfl rfl (q2 ⟨(decF b10), (beqF b11)⟩).2.2 ⟨rfl, rfl⟩) ?_
 refine dG (OpA.lss rfl rfl rfl ⟨rfl, rfl⟩) ?_
 refine dL (OpA.p ⟨rfl, rfl⟩) ?_
 refine DetK.nil ?_
 refine wpL_nil ?_
 exact ⟨(Cov.asg ⟨rfl, rfl, rfl, rfl, (congrArg D.b (Eq.symm (orN (orN b10 b11) rfl))), trivial⟩), (.refl _)⟩
 show wpA _ _ _ _ (asg [(4, .ptr c1 4 0 0), (8, D.s (⟨#[]⟩ : ByteArray)), (9, D.b false), (12, D.i best), (72, D.b (((decide (best < 0)) || ((gi ((shareF c t a).1) best) == 0)) || (decide ((100 * (gi ((shareF c t a).1) best)) < (percent * (t.words.length : Int))))))]) [(c3, .cells 2 [encAttribution a]), (c2, .cells 2 [encText t]), (c1, .cells 4 [encCorpus c])]
 refine wpA_cond rfl (fun b9 => ?_) (fun b9 => ?_)
 have h := h.1 ((or0 b9).imp (fun hh => ((or0 hh).imp (fun hh => (decT hh)) (fun hh => (beqT hh)))) (fun hh => (decT hh)))
 refine wpA_seq ?_
 refine wpA_region ?_
 iterate 2 refine wL (OpA.a ?_)
 refine wpL_nil ?_
 refine wpA_ret ?_
 exact ⟨_, (.tmp (d := D.s (⟨#[]⟩ : ByteArray)) rfl (.tmp (d := D.b false) rfl .nil)), _, (.tup (.same rfl (.same rfl .nil)) .nil), ⟨((⟨#[]⟩ : ByteArray), false), rfl, h⟩⟩
 have h := h.2 ⟨⟨(decF (or1 (or1 b9))), (beqF (or2 (or1 b9)))⟩, (decF (or2 b9))⟩
 refine wpA_skip ?_
 refine wpA_seq ?_
 obtain ⟨q1, h⟩ := h
 refine wpA_region ?_
 refine wL (OpA.fieldAddr rfl tf25_2 rfl ?_)
 refine wL (OpA.load rfl ti22 rfl (.tail (.tail .head)) rfl rfl ?_)
 refine wL (OpA.m ?_)
 refine wL (OpA.iixV (enc := encText) rfl ts22 rfl rfl rfl q1 ?_)
 refine wL (OpA.ifieldAddr rfl tf28_0 rfl ?_)
 refine wL (OpA.iload rfl ti9 rfl rfl ?_)
 iterate 2 refine wL (OpA.a ?_)
 refine wpL_nil ?_
 refine wpA_ret ?_
 exact ⟨_, (.tmp (d := D.s ((gi c.texts best).path)) rfl (.tmp (d := D.b true) rfl .nil)), _, (.tup (.same rfl (.same rfl .nil)) .nil), ⟨((gi c.texts best).path, true), rfl, h⟩⟩
theorem rmain_c (c : Corpus) (t : Text) (a : Attribution) (percent : Int) (hp0 : okC c) (hp1 : okT t) (hp2 : okA a) : Fun false Tryz.prog 16 [encCorpus c, encText t, encAttribution a, D.i percent] (fun d => d = .tup [D.s ((mainF c t a percent).1), D.b ((mainF c t a percent).2)]) :=
 Fun.at (enc := fun r => .tup [D.s (r.1), D.b (r.2)]) (v := mainF c t a percent) (rmain_w c t a percent  (fun r => r = mainF c t a percent) (rmain_ok c t a percent _ hp0 hp1 hp2 rfl))
theorem rsame_w (a : Attribution) (b : Attribution) (Q : Bool → Prop) (h : rsame_vc a b Q) : Fun false Tryz.prog 14 [encAttribution a, encAttribution b] (fun d => ∃ r, d = D.b r ∧ Q r) := by
 unfold rsame_vc at h
 refine Fun.of_body Tryz.func14 rfl Tryz.ntmps14 rfl ?_
 refine wpA_seq ?_
 refine wpA_region ?_
 refine wL (OpA.bx (sz := 2) rfl (by with_reducible conv => lhs; whnf) (.of rfl) (fun c1 _ => ?_))
 refine wL (OpA.bx (sz := 2) rfl (by with_reducible conv => lhs; whnf) (.of rfl) (fun c2 _ => ?_))
 refine wL (OpA.a ?_)
 refine wpL_nil ?_
 iterate 2 refine wpA_seq ?_
 refine wpA_mid (asg [(2, .ptr c1 2 0 0), (3, .ptr c2 2 0 0), (4, D.b false), (19, D.b ((!decide (a.path = b.path)) || ((a.pieces.length : Int) != (b.pieces.length : Int))))]) [(c2, .cells 2 [encAttribution b]), (c1, .cells 2 [encAttribution a])] ?_ ?_
 refine wpA_region ?_
 refine wL (OpA.fieldAddr rfl tf33_0 rfl ?_)
 refine wL (OpA.load rfl ti9 rfl (.tail .head) rfl rfl ?_)
 refine wL (OpA.fieldAddr rfl tf33_0 rfl ?_)
 refine wL (OpA.load rfl ti9 rfl .head rfl rfl ?_)
 refine wL (OpA.sneq rfl rfl rfl ?_)
 refine wL (OpA.m ?_)
 refine wpL_split (s := 11) rfl (fun b7 => ?_) (fun b7 => ?_)
 iterate 7 refine wS ?_
 refine wL (OpA.p ?_)
 refine wpL_nil ?_
 exact ⟨(Cov.asg ⟨rfl, rfl, rfl, (congrArg D.b (Eq.symm (orS b7))), trivial⟩), (.refl _)⟩
 refine wG (OpA.fieldAddr rfl tf33_1 rfl ?_)
 refine wG (OpA.load rfl ti31 rfl (.tail .head) rfl rfl ?_)
 refine wG (OpA.len rfl rfl rfl rfl ts31.desc (.inl ⟨_, _, rfl, (List.length_map _).symm⟩) ?_)
 refine wG (OpA.fieldAddr rfl tf33_1 rfl ?_)
 refine wG (OpA.load rfl ti31 rfl .head rfl rfl ?_)
 refine wG (OpA.len rfl rfl rfl rfl ts31.desc (.inl ⟨_, _, rfl, (List.length_map _).symm⟩) ?_)
 refine wG (OpA.neq rfl rfl rfl ?_)
 refine wL (OpA.p ?_)
 refine wpL_nil ?_
 exact ⟨(Cov.asg ⟨rfl, rfl, rfl, (congrArg D.b (Eq.symm (orN b7 rfl))), trivial⟩), (.refl _)⟩
 show wpA _ _ _ _ (asg [(2, .ptr c1 2 0 0), (3, .ptr c2 2 0 0), (4, D.b false), (19, D.b ((!decide (a.path = b.path)) || ((a.pieces.length : Int) != (b.pieces.length : Int))))]) [(c2, .cells 2 [encAttribution b]), (c1, .cells 2 [encAttribution a])]
 refine wpA_cond rfl (fun b3 => ?_) (fun b3 => ?_)
 have h := h.1 ((or0 b3).imp (fun hh => (ndecT hh)) (fun hh => (bneT hh)))
 refine wpA_seq ?_
 refine wpA_region ?_
 refine wL (OpA.a ?_)
 refine wpL_nil ?_
 refine wpA_ret ?_
 exact ⟨_, (.tmp (d := D.b false) rfl .nil), _, (.same rfl .nil), ⟨false, rfl, h⟩⟩
 have h := h.2 ⟨(ndecF (or1 b3)), (bneF (or2 b3))⟩
 refine wpA_skip ?_
 iterate 2 refine wpA_seq ?_
 refine wpA_region ?_
 refine wL (OpA.a ?_)
 refine wpL_nil ?_
 refine wpA_block ?_
 refine wpA_lfp (S := Int) (G := Unit) () (fun gg ss => asg [(2, .ptr c1 2 0 0), (3, .ptr c2 2 0 0), (4, D.b false), (5, D.i ss)]) (fun gg ss => [(c2, .cells 2 [encAttribution b]), (c1, .cells 2 [encAttribution a])]) h (Cov.asg ⟨rfl, rfl, rfl, rfl, trivial⟩) (.refl _) ?_
 rintro again4 _ i h
 have h : rsame_L1 a b Q again4 i := h
 unfold rsame_L1 at h
 show wpA _ _ _ _ (asg [(2, .ptr c1 2 0 0), (3, .ptr c2 2 0 0), (4, D.b false), (5, D.i i)]) [(c2, .cells 2 [encAttribution b]), (c1, .cells 2 [encAttribution a])]
 iterate 2 refine wpA_seq ?_
 refine wpA_region ?_
 refine wL (OpA.m ?_)
 refine wL (OpA.fieldAddr rfl tf33_1 rfl ?_)
 refine wL (OpA.load rfl ti31 rfl (.tail .head) rfl rfl ?_)
 refine wL (OpA.len rfl rfl rfl rfl ts31.desc (.inl ⟨_, _, rfl, (List.length_map _).symm⟩) ?_)
 refine wL (OpA.lss rfl rfl rfl ?_)
 refine wpL_nil ?_
 refine wpA_cond rfl (fun b5 => ?_) (fun b5 => ?_)
 have h := h.1 (decT b5)
 refine wpA_skip ?_
 refine wpA_seq ?_
 refine wpA_block ?_
 refine wpA_seq ?_
 obtain ⟨q1, q2, h⟩ := h
 refine wpA_draw (m := 11) mo (by kernel_rfl) rfl ?_
 refine dL (OpA.fieldAddr rfl tf33_1 rfl ⟨rfl, rfl⟩) ?_
 refine dL (OpA.load rfl ti31 rfl (.tail .head) rfl rfl ⟨rfl, rfl⟩) ?_
 refine dL (OpA.m ⟨rfl, rfl⟩) ?_
 refine dL (OpA.iixV (enc := encPiece) rfl ts31 rfl rfl rfl q1 ⟨rfl, rfl⟩) ?_
 refine dL (OpA.iload_whole rfl ti48 rfl ⟨_, rfl, rfl⟩ ⟨rfl, rfl⟩) ?_
 refine dL (OpA.fieldAddr rfl tf33_1 rfl ⟨rfl, rfl⟩) ?_
 refine dL (OpA.load rfl ti31 rfl .head rfl rfl ⟨rfl, rfl⟩) ?_
 refine dL (OpA.m ⟨rfl, rfl⟩) ?_
 refine dL (OpA.iixV (enc := encPiece) rfl ts31 rfl rfl rfl q2 ⟨rfl, rfl⟩) ?_
 refine dL (OpA.iload_whole rfl ti48 rfl ⟨_, rfl, rfl⟩ ⟨rfl, rfl⟩) ?_
 refine dL (OpA.structcmp (xs := [.int .i64 ((gi a.pieces i).from_), .int .i64 ((gi a.pieces i).to), .int .i64 ((gi a.pieces i).text), .int .i64 ((gi a.pieces i).at_)]) (ys := [.int .i64 ((gi b.pieces i).from_), .int .i64 ((gi b.pieces i).to), .int .i64 ((gi b.pieces i).text), .int .i64 ((gi b.pieces i).at_)]) (r := (eqPiece (gi a.pieces i) (gi b.pieces i))) rfl eg48 su48.1 su48.2.1 su48.2.2 rfl rfl (.int td3 ti3 rfl rfl (.int td3 ti3 rfl rfl (.int td3 ti3 rfl rfl (.int td3 ti3 rfl rfl .nil)))) (.inr ⟨rfl, rfl⟩) ⟨rfl, rfl⟩) ?_
 refine DetK.nil ?_
 refine wpL_nil ?_
 refine wpA_cond rfl (fun b6 => ?_) (fun b6 => ?_)
 have h := h.1 (notT b6)
 refine wpA_seq ?_
 refine wpA_region ?_
 refine wL (OpA.a ?_)
 refine wpL_nil ?_
 refine wpA_ret ?_
 exact ⟨_, (.tmp (d := D.b false) rfl .nil), _, (.same rfl .nil), ⟨false, rfl, h⟩⟩
 have h := h.2 (notF b6)
 refine wpA_skip ?_
 obtain ⟨q1, h⟩ := h
 refine wpA_region ?_
 refine wL (OpA.m ?_)
 refine wL (OpA.addi rfl rfl rfl q1 ?_)
 refine wL (OpA.a ?_)
 refine wpL_nil ?_
 exact ⟨(), (i + 1), h, (Cov.asg ⟨rfl, rfl, rfl, rfl, trivial⟩), (.refl _)⟩
 have h := h.2 (decF b5)
 refine wpA_exit ?_
 refine wpA_seq ?_
 refine wpA_region ?_
 refine wL (OpA.a ?_)
 refine wpL_nil ?_
 refine wpA_ret ?_
 exact ⟨_, (.tmp (d := D.b true) rfl .nil), _, (.same rfl .nil), ⟨true, rfl, h⟩⟩
theorem rsame_c (a : Attribution) (b : Attribution) (hp0 : okA a) : Fun false Tryz.prog 14 [encAttribution a, encAttribution b] (fun d => d = D.b ((decide (a = b)))) :=
 Fun.at (enc := fun r => D.b r) (v := (decide (a = b))) (rsame_w a b  (fun r => r = (decide (a = b))) (rsame_ok a b _ hp0 rfl))
end Go.Proofs.YtaofnefejkokdaaGreatDoor
