/-
  walks and contracts
-/
import Derived.Test.YtglclijalehcmaaDoorV4
set_option linter.all false
namespace Go.Proofs.YtglclijalehcmaaDoor
open Go Go.Lic Go.Sort Go.Proofs
attribute [local irreducible] addP badR blankF checkC checkF29 cloneCmp clonesF cmpI cmpL codeF commonF4 countF fewTs fewW findC gramsF guarF hashF indexF insideT lenC lenF lookF mul64F mulP nameR orF pairF partF pathB pathF powF printsF pushF rightL rollF sameW selectF sizeF splitF splitG textF validT
set_option maxHeartbeats 2000000 in
set_option maxRecDepth 10000 in
theorem c26fewt_w (l : (List Text)) (Q : Bool → Prop) (h : c26fewt_vc l Q) : Fun false Tryd.prog 7 [(encL 2 encText) l] (fun d => ∃ r, d = D.b r ∧ Q r) := by
 unfold c26fewt_vc at h
 refine Fun.of_body Tryd.func7 rfl Tryd.ntmps7 rfl ?_
 refine wpA_seq ?_
 refine wpA_region ?_
 refine wL (OpA.a ?_)
 refine wpL_nil ?_
 iterate 2 refine wpA_seq ?_
 refine wpA_region ?_
 refine wL (OpA.m ?_)
 refine wL (OpA.len rfl rfl rfl rfl ts22.desc (.inl ⟨_, _, rfl, (List.length_map _).symm⟩) ?_)
 refine wL (OpA.gtr rfl rfl rfl ?_)
 refine wpL_nil ?_
 refine wpA_cond rfl (fun b1 => ?_) (fun b1 => ?_)
 have h := h.1 (decT b1)
 refine wpA_seq ?_
 refine wpA_region ?_
 refine wL (OpA.a ?_)
 refine wpL_nil ?_
 refine wpA_ret ?_
 exact ⟨_, (.tmp (d := D.b false) rfl .nil), _, (.same rfl .nil), ⟨false, rfl, h⟩⟩
 have h := h.2 (decF b1)
 refine wpA_skip ?_
 iterate 2 refine wpA_seq ?_
 refine wpA_region ?_
 refine wL (OpA.a ?_)
 refine wpL_nil ?_
 refine wpA_block ?_
 refine wpA_lfp (S := Int) (G := Unit) () (fun gg ss => asg [(0, (encL 2 encText) l), (2, D.b false), (3, D.i ss)]) (fun gg ss => []) h (Cov.asg ⟨rfl, rfl, rfl, trivial⟩) (.refl _) ?_
 rintro again2 _ i h
 have h : c26fewt_L1 l Q again2 i := h
 unfold c26fewt_L1 at h
 show wpA _ _ _ _ (asg [(0, (encL 2 encText) l), (2, D.b false), (3, D.i i)]) []
 iterate 2 refine wpA_seq ?_
 refine wpA_region ?_
 iterate 2 refine wL (OpA.m ?_)
 refine wL (OpA.len rfl rfl rfl rfl ts22.desc (.inl ⟨_, _, rfl, (List.length_map _).symm⟩) ?_)
 refine wL (OpA.lss rfl rfl rfl ?_)
 refine wpL_nil ?_
 refine wpA_cond rfl (fun b3 => ?_) (fun b3 => ?_)
 have h := h.1 (decT b3)
 refine wpA_skip ?_
 refine wpA_seq ?_
 refine wpA_block ?_
 refine wpA_seq ?_
 obtain ⟨q1, h⟩ := h
 refine wpA_mid (asg [(0, (encL 2 encText) l), (2, D.b false), (3, D.i i), (28, D.b ((!(fewW ((gi l i).words))) || (decide ((((gi l i).path).size : Int) > 200))))]) [] ?_ ?_
 refine wpA_region ?_
 iterate 2 refine wL (OpA.m ?_)
 refine wL (OpA.iixV (enc := encText) rfl ts22 rfl rfl rfl q1 ?_)
 refine wL (OpA.ifieldAddr rfl tf35_1 rfl ?_)
 refine wL (OpA.iload rfl ti33 rfl rfl ?_)
 refine wL (OpA.call rfl rfl rfl en17 (g24few_c ((gi l i).words) ) ?_)
 rintro _ rfl
 refine wL (OpA.not rfl rfl ?_)
 refine wL (OpA.m ?_)
 refine wpL_split (s := 20) rfl (fun b5 => ?_) (fun b5 => ?_)
 iterate 7 refine wS ?_
 refine wL (OpA.p ?_)
 refine wpL_nil ?_
 exact ⟨(Cov.asg ⟨rfl, rfl, rfl, (congrArg D.b (Eq.symm (orS b5))), trivial⟩), (.refl _)⟩
 iterate 2 refine wG (OpA.m ?_)
 refine wG (OpA.iixV (enc := encText) rfl ts22 rfl rfl rfl q1 ?_)
 refine wG (OpA.ifieldAddr rfl tf35_0 rfl ?_)
 refine wG (OpA.iload rfl ti9 rfl rfl ?_)
 refine wG (OpA.slen rfl rfl rfl rfl td9 rfl ?_)
 refine wG (OpA.gtr rfl rfl rfl ?_)
 refine wL (OpA.p ?_)
 refine wpL_nil ?_
 exact ⟨(Cov.asg ⟨rfl, rfl, rfl, (congrArg D.b (Eq.symm (orN b5 rfl))), trivial⟩), (.refl _)⟩
 show wpA _ _ _ _ (asg [(0, (encL 2 encText) l), (2, D.b false), (3, D.i i), (28, D.b ((!(fewW ((gi l i).words))) || (decide ((((gi l i).path).size : Int) > 200))))]) []
 refine wpA_cond rfl (fun b4 => ?_) (fun b4 => ?_)
 have h := h.1 ((or0 b4).imp (fun hh => (notT hh)) (fun hh => (decT hh)))
 refine wpA_seq ?_
 refine wpA_region ?_
 refine wL (OpA.a ?_)
 refine wpL_nil ?_
 refine wpA_ret ?_
 exact ⟨_, (.tmp (d := D.b false) rfl .nil), _, (.same rfl .nil), ⟨false, rfl, h⟩⟩
 have h := h.2 ⟨(notF (or1 b4)), (decF (or2 b4))⟩
 refine wpA_skip ?_
 obtain ⟨q1, h⟩ := h
 refine wpA_region ?_
 refine wL (OpA.m ?_)
 refine wL (OpA.addi rfl rfl rfl q1 ?_)
 refine wL (OpA.a ?_)
 refine wpL_nil ?_
 exact ⟨(), (i + 1), h, (Cov.asg ⟨rfl, rfl, rfl, trivial⟩), (.refl _)⟩
 have h := h.2 (decF b3)
 refine wpA_exit ?_
 refine wpA_seq ?_
 refine wpA_region ?_
 refine wL (OpA.a ?_)
 refine wpL_nil ?_
 refine wpA_ret ?_
 exact ⟨_, (.tmp (d := D.b true) rfl .nil), _, (.same rfl .nil), ⟨true, rfl, h⟩⟩
theorem c26fewt_c (l : (List Text))  : Fun false Tryd.prog 7 [(encL 2 encText) l] (fun d => d = D.b (fewTs l)) :=
 Fun.at (enc := fun r => D.b r) (v := fewTs l) (c26fewt_w l  (fun r => r = fewTs l) (c26fewt_ok l _  rfl))
set_option maxHeartbeats 2000000 in
set_option maxRecDepth 10000 in
theorem ncommon_w (a : Text) (i : Int) (b : Text) (j : Int) (Q : Int → Prop) (h : ncommon_vc a i b j Q) : Fun false Tryd.prog 11 [encText a, D.i i, encText b, D.i j] (fun d => ∃ r, d = D.i r ∧ Q r) := by
 unfold ncommon_vc at h
 refine Fun.of_body Tryd.func11 rfl Tryd.ntmps11 rfl ?_
 refine wpA_seq ?_
 refine wpA_region ?_
 refine wL (OpA.bx (sz := 2) rfl (by with_reducible conv => lhs; whnf) (.of rfl) (fun c1 _ => ?_))
 refine wL (OpA.bx (sz := 2) rfl (by with_reducible conv => lhs; whnf) (.of rfl) (fun c2 _ => ?_))
 refine wL (OpA.a ?_)
 refine wpL_nil ?_
 iterate 2 refine wpA_seq ?_
 obtain ⟨q1, q2, h⟩ := h
 refine wpA_mid (asg [(1, D.i i), (3, D.i j), (4, .ptr c1 2 0 0), (6, .ptr c2 2 0 0), (8, D.i 0), (41, D.b ((((((decide (i < 0)) || (decide (i > (a.words.length : Int)))) || (decide (j < 0))) || (decide (j > (b.words.length : Int)))) || (!(validT a))) || (!(validT b))))]) [(c2, .cells 2 [encText b]), (c1, .cells 2 [encText a])] ?_ ?_
 refine wpA_region ?_
 refine wL (OpA.m ?_)
 refine wL (OpA.lss rfl rfl rfl ?_)
 refine wL (OpA.m ?_)
 refine wpL_split (s := 14) rfl (fun b8 => ?_) (fun b8 => ?_)
 iterate 5 refine wS ?_
 refine wL (OpA.p ?_)
 refine wL (OpA.m ?_)
 iterate 2 refine wS ?_
 refine wL (OpA.p ?_)
 refine wL (OpA.m ?_)
 iterate 5 refine wS ?_
 refine wL (OpA.p ?_)
 refine wL (OpA.m ?_)
 iterate 3 refine wS ?_
 refine wL (OpA.p ?_)
 refine wL (OpA.m ?_)
 iterate 3 refine wS ?_
 refine wL (OpA.p ?_)
 refine wpL_nil ?_
 exact ⟨(Cov.asg ⟨rfl, rfl, rfl, rfl, rfl, (congrArg D.b (Eq.symm (orS (orS (orS (orS (orS b8))))))), trivial⟩), (.refl _)⟩
 refine wG (OpA.m ?_)
 refine wG (OpA.fieldAddr rfl tf35_1 rfl ?_)
 refine wG (OpA.load rfl ti33 rfl (.tail .head) rfl rfl ?_)
 refine wG (OpA.len rfl rfl rfl rfl ts33.desc (.inl ⟨_, _, rfl, (List.length_map _).symm⟩) ?_)
 refine wG (OpA.gtr rfl rfl rfl ?_)
 refine wL (OpA.p ?_)
 refine wL (OpA.m ?_)
 refine wpL_split (s := 21) rfl (fun b9 => ?_) (fun b9 => ?_)
 iterate 2 refine wS ?_
 refine wL (OpA.p ?_)
 refine wL (OpA.m ?_)
 iterate 5 refine wS ?_
 refine wL (OpA.p ?_)
 refine wL (OpA.m ?_)
 iterate 3 refine wS ?_
 refine wL (OpA.p ?_)
 refine wL (OpA.m ?_)
 iterate 3 refine wS ?_
 refine wL (OpA.p ?_)
 refine wpL_nil ?_
 exact ⟨(Cov.asg ⟨rfl, rfl, rfl, rfl, rfl, (congrArg D.b (Eq.symm (orS (orS (orS (orS (orN b8 b9))))))), trivial⟩), (.refl _)⟩
 refine wG (OpA.m ?_)
 refine wG (OpA.lss rfl rfl rfl ?_)
 refine wL (OpA.p ?_)
 refine wL (OpA.m ?_)
 refine wpL_split (s := 25) rfl (fun b10 => ?_) (fun b10 => ?_)
 iterate 5 refine wS ?_
 refine wL (OpA.p ?_)
 refine wL (OpA.m ?_)
 iterate 3 refine wS ?_
 refine wL (OpA.p ?_)
 refine wL (OpA.m ?_)
 iterate 3 refine wS ?_
 refine wL (OpA.p ?_)
 refine wpL_nil ?_
 exact ⟨(Cov.asg ⟨rfl, rfl, rfl, rfl, rfl, (congrArg D.b (Eq.symm (orS (orS (orS (orN (orN b8 b9) b10)))))), trivial⟩), (.refl _)⟩
 refine wG (OpA.m ?_)
 refine wG (OpA.fieldAddr rfl tf35_1 rfl ?_)
 refine wG (OpA.load rfl ti33 rfl .head rfl rfl ?_)
 refine wG (OpA.len rfl rfl rfl rfl ts33.desc (.inl ⟨_, _, rfl, (List.length_map _).symm⟩) ?_)
 refine wG (OpA.gtr rfl rfl rfl ?_)
 refine wL (OpA.p ?_)
 refine wL (OpA.m ?_)
 refine wpL_split (s := 32) rfl (fun b11 => ?_) (fun b11 => ?_)
 iterate 3 refine wS ?_
 refine wL (OpA.p ?_)
 refine wL (OpA.m ?_)
 iterate 3 refine wS ?_
 refine wL (OpA.p ?_)
 refine wpL_nil ?_
 exact ⟨(Cov.asg ⟨rfl, rfl, rfl, rfl, rfl, (congrArg D.b (Eq.symm (orS (orS (orN (orN (orN b8 b9) b10) b11))))), trivial⟩), (.refl _)⟩
 refine wG (OpA.load_whole rfl ti35 rfl rfl (.tail .head) rfl ⟨_, rfl⟩ ?_)
 refine wG (OpA.call rfl rfl rfl en24 (nvalid_c a (q1 ⟨⟨⟨(decF b8), (decF b9)⟩, (decF b10)⟩, (decF b11)⟩)) ?_)
 rintro _ rfl
 refine wG (OpA.not rfl rfl ?_)
 refine wL (OpA.p ?_)
 refine wL (OpA.m ?_)
 refine wpL_split (s := 37) rfl (fun b12 => ?_) (fun b12 => ?_)
 iterate 3 refine wS ?_
 refine wL (OpA.p ?_)
 refine wpL_nil ?_
 exact ⟨(Cov.asg ⟨rfl, rfl, rfl, rfl, rfl, (congrArg D.b (Eq.symm (orS (orN (orN (orN (orN b8 b9) b10) b11) b12)))), trivial⟩), (.refl _)⟩
 refine wG (OpA.load_whole rfl ti35 rfl rfl .head rfl ⟨_, rfl⟩ ?_)
 refine wG (OpA.call rfl rfl rfl en24 (nvalid_c b (q2 ⟨⟨⟨⟨(decF b8), (decF b9)⟩, (decF b10)⟩, (decF b11)⟩, (notF b12)⟩)) ?_)
 rintro _ rfl
 refine wG (OpA.not rfl rfl ?_)
 refine wL (OpA.p ?_)
 refine wpL_nil ?_
 exact ⟨(Cov.asg ⟨rfl, rfl, rfl, rfl, rfl, (congrArg D.b (Eq.symm (orN (orN (orN (orN (orN b8 b9) b10) b11) b12) rfl))), trivial⟩), (.refl _)⟩
 show wpA _ _ _ _ (asg [(1, D.i i), (3, D.i j), (4, .ptr c1 2 0 0), (6, .ptr c2 2 0 0), (8, D.i 0), (41, D.b ((((((decide (i < 0)) || (decide (i > (a.words.length : Int)))) || (decide (j < 0))) || (decide (j > (b.words.length : Int)))) || (!(validT a))) || (!(validT b))))]) [(c2, .cells 2 [encText b]), (c1, .cells 2 [encText a])]
 refine wpA_cond rfl (fun b3 => ?_) (fun b3 => ?_)
 have h := h.1 ((or0 b3).imp (fun hh => ((or0 hh).imp (fun hh => ((or0 hh).imp (fun hh => ((or0 hh).imp (fun hh => ((or0 hh).imp (fun hh => (decT hh)) (fun hh => (decT hh)))) (fun hh => (decT hh)))) (fun hh => (decT hh)))) (fun hh => (notT hh)))) (fun hh => (notT hh)))
 refine wpA_seq ?_
 refine wpA_region ?_
 refine wL (OpA.a ?_)
 refine wpL_nil ?_
 refine wpA_ret ?_
 exact ⟨_, (.tmp (d := D.i 0) rfl .nil), _, (.same rfl .nil), ⟨0, rfl, h⟩⟩
 have h := h.2 ⟨⟨⟨⟨⟨(decF (or1 (or1 (or1 (or1 (or1 b3)))))), (decF (or2 (or1 (or1 (or1 (or1 b3))))))⟩, (decF (or2 (or1 (or1 (or1 b3)))))⟩, (decF (or2 (or1 (or1 b3))))⟩, (notF (or2 (or1 b3)))⟩, (notF (or2 b3))⟩
 refine wpA_skip ?_
 refine wpA_seq ?_
 obtain ⟨q1, q2, h⟩ := h
 refine wpA_draw (m := 10) mo (by kernel_rfl) rfl ?_
 refine dL (OpA.fieldAddr rfl tf35_1 rfl ⟨rfl, rfl⟩) ?_
 refine dL (OpA.load rfl ti33 rfl (.tail .head) rfl rfl ⟨rfl, rfl⟩) ?_
 refine dL (OpA.m ⟨rfl, rfl⟩) ?_
 refine dL (OpA.isliceV (enc := encLex) rfl ts33 rfl (.some rfl) (.none _) q1 ⟨rfl, rfl⟩) ?_
 refine dL (OpA.fieldAddr rfl tf35_1 rfl ⟨rfl, rfl⟩) ?_
 refine dL (OpA.load rfl ti33 rfl .head rfl rfl ⟨rfl, rfl⟩) ?_
 refine dL (OpA.m ⟨rfl, rfl⟩) ?_
 refine dL (OpA.isliceV (enc := encLex) rfl ts33 rfl (.some rfl) (.none _) q2 ⟨rfl, rfl⟩) ?_
 iterate 2 refine dL (OpA.a ⟨rfl, rfl⟩) ?_
 refine DetK.nil ?_
 refine wpL_nil ?_
 refine wpA_seq ?_
 refine wpA_region ?_
 refine wL (OpA.a ?_)
 refine wpL_nil ?_
 refine wpA_seq ?_
 refine wpA_block ?_
 refine wpA_lfp (S := Int) (G := Unit) () (fun gg ss => asg [(8, D.i 0), (9, (encL 2 encLex) (lsub a.words i (a.words.length : Int))), (10, (encL 2 encLex) (lsub b.words j (b.words.length : Int))), (11, D.i ss)]) (fun gg ss => [(c2, .cells 2 [encText b]), (c1, .cells 2 [encText a])]) h (Cov.asg ⟨rfl, rfl, rfl, rfl, trivial⟩) (.refl _) ?_
 rintro again4 _ n h
 have h : ncommon_L1 a i b j Q again4 n := h
 unfold ncommon_L1 at h
 show wpA _ _ _ _ (asg [(8, D.i 0), (9, (encL 2 encLex) (lsub a.words i (a.words.length : Int))), (10, (encL 2 encLex) (lsub b.words j (b.words.length : Int))), (11, D.i n)]) [(c2, .cells 2 [encText b]), (c1, .cells 2 [encText a])]
 iterate 2 refine wpA_seq ?_
 obtain ⟨q1, h⟩ := h
 refine wpA_mid (asg [(8, D.i 0), (9, (encL 2 encLex) (lsub a.words i (a.words.length : Int))), (10, (encL 2 encLex) (lsub b.words j (b.words.length : Int))), (11, D.i n), (72, D.b (((decide (n < ((lsub a.words i (a.words.length : Int)).length : Int))) && (decide (n < ((lsub b.words j (b.words.length : Int)).length : Int)))) && (decide ((gi (lsub a.words i (a.words.length : Int)) n).text = (gi (lsub b.words j (b.words.length : Int)) n).text))))]) [(c2, .cells 2 [encText b]), (c1, .cells 2 [encText a])] ?_ ?_
 refine wpA_draw (m := 23) mo (by kernel_rfl) rfl ?_
 iterate 2 refine dL (OpA.m ⟨rfl, rfl⟩) ?_
 refine dL (OpA.len rfl rfl rfl rfl ts33.desc (.inl ⟨_, _, rfl, (List.length_map _).symm⟩) ⟨rfl, rfl⟩) ?_
 refine dL (OpA.lss rfl rfl rfl ⟨rfl, rfl⟩) ?_
 refine dL (OpA.m ⟨rfl, rfl⟩) ?_
 refine DetK_split (s := 54) rfl (fun b6 => ?_) (fun b6 => ?_)
 iterate 2 refine dG (OpA.m ⟨rfl, rfl⟩) ?_
 refine dG (OpA.len rfl rfl rfl rfl ts33.desc (.inl ⟨_, _, rfl, (List.length_map _).symm⟩) ⟨rfl, rfl⟩) ?_
 refine dG (OpA.lss rfl rfl rfl ⟨rfl, rfl⟩) ?_
 refine dL (OpA.p ⟨rfl, rfl⟩) ?_
 refine dL (OpA.m ⟨rfl, rfl⟩) ?_
 refine DetK_split (s := 60) rfl (fun b7 => ?_) (fun b7 => ?_)
 iterate 2 refine dG (OpA.m ⟨rfl, rfl⟩) ?_
 refine dG (OpA.iixV (enc := encLex) rfl ts33 rfl rfl rfl (q1 ⟨(decT b6), (decT b7)⟩).1 ⟨rfl, rfl⟩) ?_
 refine dG (OpA.ifieldAddr rfl tf53_0 rfl ⟨rfl, rfl⟩) ?_
 refine dG (OpA.iload rfl ti9 rfl rfl ⟨rfl, rfl⟩) ?_
 iterate 2 refine dG (OpA.m ⟨rfl, rfl⟩) ?_
 refine dG (OpA.iixV (enc := encLex) rfl ts33 rfl rfl rfl (q1 ⟨(decT b6), (decT b7)⟩).2 ⟨rfl, rfl⟩) ?_
 refine dG (OpA.ifieldAddr rfl tf53_0 rfl ⟨rfl, rfl⟩) ?_
 refine dG (OpA.iload rfl ti9 rfl rfl ⟨rfl, rfl⟩) ?_
 refine dG (OpA.seql rfl rfl rfl ⟨rfl, rfl⟩) ?_
 refine dL (OpA.p ⟨rfl, rfl⟩) ?_
 refine DetK.nil ?_
 refine wpL_nil ?_
 exact ⟨(Cov.asg ⟨rfl, rfl, rfl, rfl, (congrArg D.b (Eq.symm (andN (andN b6 b7) rfl))), trivial⟩), (.refl _)⟩
 iterate 11 refine dS ?_
 refine dL (OpA.p ⟨rfl, rfl⟩) ?_
 refine DetK.nil ?_
 refine wpL_nil ?_
 exact ⟨(Cov.asg ⟨rfl, rfl, rfl, rfl, (congrArg D.b (Eq.symm (andS (andN b6 b7)))), trivial⟩), (.refl _)⟩
 iterate 4 refine dS ?_
 refine dL (OpA.p ⟨rfl, rfl⟩) ?_
 refine dL (OpA.m ⟨rfl, rfl⟩) ?_
 iterate 11 refine dS ?_
 refine dL (OpA.p ⟨rfl, rfl⟩) ?_
 refine DetK.nil ?_
 refine wpL_nil ?_
 exact ⟨(Cov.asg ⟨rfl, rfl, rfl, rfl, (congrArg D.b (Eq.symm (andS (andS b6)))), trivial⟩), (.refl _)⟩
 show wpA _ _ _ _ (asg [(8, D.i 0), (9, (encL 2 encLex) (lsub a.words i (a.words.length : Int))), (10, (encL 2 encLex) (lsub b.words j (b.words.length : Int))), (11, D.i n), (72, D.b (((decide (n < ((lsub a.words i (a.words.length : Int)).length : Int))) && (decide (n < ((lsub b.words j (b.words.length : Int)).length : Int)))) && (decide ((gi (lsub a.words i (a.words.length : Int)) n).text = (gi (lsub b.words j (b.words.length : Int)) n).text))))]) [(c2, .cells 2 [encText b]), (c1, .cells 2 [encText a])]
 refine wpA_cond rfl (fun b5 => ?_) (fun b5 => ?_)
 have h := h.1 ⟨⟨(decT (and1 (and1 b5))), (decT (and2 (and1 b5)))⟩, (decT (and2 b5))⟩
 refine wpA_skip ?_
 refine wpA_block ?_
 obtain ⟨q1, h⟩ := h
 refine wpA_region ?_
 refine wL (OpA.m ?_)
 refine wL (OpA.addi rfl rfl rfl q1 ?_)
 refine wL (OpA.a ?_)
 refine wpL_nil ?_
 exact ⟨(), (n + 1), h, (Cov.asg ⟨rfl, rfl, rfl, rfl, trivial⟩), (.refl _)⟩
 have h := h.2 ((and0 b5).imp (fun hh => ((and0 hh).imp (fun hh => (decF hh)) (fun hh => (decF hh)))) (fun hh => (decF hh)))
 refine wpA_exit ?_
 refine wpA_seq ?_
 refine wpA_region ?_
 refine wL (OpA.m ?_)
 refine wL (OpA.a ?_)
 refine wpL_nil ?_
 refine wpA_ret ?_
 exact ⟨_, (.tmp (d := D.i n) rfl .nil), _, (.same rfl .nil), ⟨n, rfl, h⟩⟩
theorem ncommon_c (a : Text) (i : Int) (b : Text) (j : Int) (hp0 : okT a) (hp1 : okT b) : Fun false Tryd.prog 11 [encText a, D.i i, encText b, D.i j] (fun d => d = D.i (commonF4 a i b j)) :=
 Fun.at (enc := fun r => D.i r) (v := commonF4 a i b j) (ncommon_w a i b j  (fun r => r = commonF4 a i b j) (ncommon_ok a i b j _ hp0 hp1 rfl))
end Go.Proofs.YtglclijalehcmaaDoor
