/-
  walks and contracts
-/
import Derived.Test.YtglclijalehcmaaDoorV8
set_option maxRecDepth 10000
set_option maxHeartbeats 2000000
set_option linter.all false
namespace Go.Proofs.YtglclijalehcmaaDoor
open Go Go.Lic Go.Sort Go.Proofs
attribute [local irreducible] addP badR blankF checkC checkF29 cloneCmp clonesF cmpI cmpL codeF commonF4 countF fewTs fewW findC gramsF guarF hashF indexF insideT lenC lenF lookF mul64F mulP nameR orF pairF partF pathB pathF powF printsF pushF rightL rollF sameW selectF sizeF splitF splitG textF validT
theorem rrightL_w (l : (List Text)) (Q : Bool → Prop) (h : rrightL_vc l Q) : Fun false Tryd.prog 21 [(encL 2 encText) l] (fun d => ∃ r, d = D.b r ∧ Q r) := by
 unfold rrightL_vc at h
 refine Fun.of_body Tryd.func21 rfl Tryd.ntmps21 rfl ?_
 refine wpA_seq ?_
 refine wpA_region ?_
 refine wL (OpA.a ?_)
 refine wpL_nil ?_
 iterate 2 refine wpA_seq ?_
 refine wpA_region ?_
 refine wL (OpA.m ?_)
 refine wL (OpA.len rfl rfl rfl rfl ts22.desc (.inl ⟨_, _, rfl, (List.length_map _).symm⟩) ?_)
 refine wL (OpA.gtr rfl rfl rfl ?_)
 refine wpL_nil ?_
 refine wpA_cond rfl (fun b1 => ?_) (fun b1 => ?_)
 have h := h.1 (decT b1)
 refine wpA_seq ?_
 refine wpA_region ?_
 refine wL (OpA.a ?_)
 refine wpL_nil ?_
 refine wpA_ret ?_
 exact ⟨_, (.tmp (d := D.b false) rfl .nil), _, (.same rfl .nil), ⟨false, rfl, h⟩⟩
 have h := h.2 (decF b1)
 refine wpA_skip ?_
 iterate 2 refine wpA_seq ?_
 refine wpA_region ?_
 refine wL (OpA.a ?_)
 refine wpL_nil ?_
 refine wpA_block ?_
 refine wpA_lfp (S := Int) (G := Unit) () (fun gg ss => asg [(0, (encL 2 encText) l), (2, D.b false), (3, D.i ss)]) (fun gg ss => []) h (Cov.asg ⟨rfl, rfl, rfl, trivial⟩) (.refl _) ?_
 rintro again2 _ i h
 have h : rrightL_L1 l Q again2 i := h
 unfold rrightL_L1 at h
 show wpA _ _ _ _ (asg [(0, (encL 2 encText) l), (2, D.b false), (3, D.i i)]) []
 iterate 2 refine wpA_seq ?_
 refine wpA_region ?_
 iterate 2 refine wL (OpA.m ?_)
 refine wL (OpA.len rfl rfl rfl rfl ts22.desc (.inl ⟨_, _, rfl, (List.length_map _).symm⟩) ?_)
 refine wL (OpA.lss rfl rfl rfl ?_)
 refine wpL_nil ?_
 refine wpA_cond rfl (fun b3 => ?_) (fun b3 => ?_)
 have h := h.1 (decT b3)
 refine wpA_skip ?_
 refine wpA_seq ?_
 refine wpA_block ?_
 refine wpA_seq ?_
 obtain ⟨q1, q2, q3, h⟩ := h
 refine wpA_mid (asg [(0, (encL 2 encText) l), (2, D.b false), (3, D.i i), (36, D.b ((!(validT (gi l i))) || ((decide (i > 0)) && (!sless ((gi l (i - 1)).path) ((gi l i).path)))))]) [] ?_ ?_
 refine wpA_draw (m := 24) mo (by kernel_rfl) rfl ?_
 iterate 2 refine dL (OpA.m ⟨rfl, rfl⟩) ?_
 refine dL (OpA.iixV (enc := encText) rfl ts22 rfl rfl rfl q1 ⟨rfl, rfl⟩) ?_
 refine dL (OpA.iload_whole rfl ti35 rfl ⟨_, rfl, rfl⟩ ⟨rfl, rfl⟩) ?_
 refine dL (OpA.call rfl rfl rfl en33 (n23valid_c (gi l i) q2) (by rintro _ rfl; exact ⟨rfl, rfl⟩)) ?_
 refine dL (OpA.not rfl rfl ⟨rfl, rfl⟩) ?_
 refine dL (OpA.m ⟨rfl, rfl⟩) ?_
 refine DetK_split (s := 19) rfl (fun b5 => ?_) (fun b5 => ?_)
 iterate 3 refine dS ?_
 iterate 12 refine DetK.skipU rfl rfl rfl ?_
 refine dS ?_
 refine dL (OpA.p ⟨rfl, rfl⟩) ?_
 refine DetK.nil ?_
 refine wpL_nil ?_
 exact ⟨(Cov.asg ⟨rfl, rfl, rfl, (congrArg D.b (Eq.symm (orS b5))), trivial⟩), (.refl _)⟩
 refine dG (OpA.m ⟨rfl, rfl⟩) ?_
 refine dG (OpA.gtr rfl rfl rfl ⟨rfl, rfl⟩) ?_
 refine dG (OpA.m ⟨rfl, rfl⟩) ?_
 refine DetK_split (s := 22) rfl (fun b6 => ?_) (fun b6 => ?_)
 iterate 2 refine dG (OpA.m ⟨rfl, rfl⟩) ?_
 refine dG (OpA.subi rfl rfl rfl ((q3 (notF b5)) (decT b6)).1 ⟨rfl, rfl⟩) ?_
 refine dG (OpA.iixV (enc := encText) rfl ts22 rfl rfl rfl ((q3 (notF b5)) (decT b6)).2 ⟨rfl, rfl⟩) ?_
 refine dG (OpA.ifieldAddr rfl tf35_0 rfl ⟨rfl, rfl⟩) ?_
 refine dG (OpA.iload rfl ti9 rfl rfl ⟨rfl, rfl⟩) ?_
 iterate 2 refine dG (OpA.m ⟨rfl, rfl⟩) ?_
 refine dG (OpA.iixV (enc := encText) rfl ts22 rfl rfl rfl q1 ⟨rfl, rfl⟩) ?_
 refine dG (OpA.ifieldAddr rfl tf35_0 rfl ⟨rfl, rfl⟩) ?_
 refine dG (OpA.iload rfl ti9 rfl rfl ⟨rfl, rfl⟩) ?_
 refine dG (OpA.sgeq rfl rfl rfl ⟨rfl, rfl⟩) ?_
 refine dG (OpA.p ⟨rfl, rfl⟩) ?_
 refine dL (OpA.p ⟨rfl, rfl⟩) ?_
 refine DetK.nil ?_
 refine wpL_nil ?_
 exact ⟨(Cov.asg ⟨rfl, rfl, rfl, (congrArg D.b (Eq.symm (orN b5 (andN b6 rfl)))), trivial⟩), (.refl _)⟩
 iterate 12 refine dS ?_
 refine dG (OpA.p ⟨rfl, rfl⟩) ?_
 refine dL (OpA.p ⟨rfl, rfl⟩) ?_
 refine DetK.nil ?_
 refine wpL_nil ?_
 exact ⟨(Cov.asg ⟨rfl, rfl, rfl, (congrArg D.b (Eq.symm (orN b5 (andS b6)))), trivial⟩), (.refl _)⟩
 show wpA _ _ _ _ (asg [(0, (encL 2 encText) l), (2, D.b false), (3, D.i i), (36, D.b ((!(validT (gi l i))) || ((decide (i > 0)) && (!sless ((gi l (i - 1)).path) ((gi l i).path)))))]) []
 refine wpA_cond rfl (fun b4 => ?_) (fun b4 => ?_)
 have h := h.1 ((or0 b4).imp (fun hh => (notT hh)) (fun hh => ⟨(decT (and1 hh)), (and2 hh)⟩))
 refine wpA_seq ?_
 refine wpA_region ?_
 refine wL (OpA.a ?_)
 refine wpL_nil ?_
 refine wpA_ret ?_
 exact ⟨_, (.tmp (d := D.b false) rfl .nil), _, (.same rfl .nil), ⟨false, rfl, h⟩⟩
 have h := h.2 ⟨(notF (or1 b4)), ((and0 (or2 b4)).imp (fun hh => (decF hh)) (fun hh => hh))⟩
 refine wpA_skip ?_
 obtain ⟨q1, h⟩ := h
 refine wpA_region ?_
 refine wL (OpA.m ?_)
 refine wL (OpA.addi rfl rfl rfl q1 ?_)
 refine wL (OpA.a ?_)
 refine wpL_nil ?_
 exact ⟨(), (i + 1), h, (Cov.asg ⟨rfl, rfl, rfl, trivial⟩), (.refl _)⟩
 have h := h.2 (decF b3)
 refine wpA_exit ?_
 refine wpA_seq ?_
 refine wpA_region ?_
 refine wL (OpA.a ?_)
 refine wpL_nil ?_
 refine wpA_ret ?_
 exact ⟨_, (.tmp (d := D.b true) rfl .nil), _, (.same rfl .nil), ⟨true, rfl, h⟩⟩
theorem rrightL_c (l : (List Text)) (hp0 : okTs l) : Fun false Tryd.prog 21 [(encL 2 encText) l] (fun d => d = D.b (rightL l)) :=
 Fun.at (enc := fun r => D.b r) (v := rightL l) (rrightL_w l  (fun r => r = rightL l) (rrightL_ok l _ hp0 rfl))
theorem rsameW_w (a : Text) (i : Int) (b : Text) (j : Int) (Q : Bool → Prop) (h : rsameW_vc a i b j Q) : Fun false Tryd.prog 48 [encText a, D.i i, encText b, D.i j] (fun d => ∃ r, d = D.b r ∧ Q r) := by
 unfold rsameW_vc at h
 refine Fun.of_body Tryd.func48 rfl Tryd.ntmps48 rfl ?_
 refine wpA_seq ?_
 refine wpA_region ?_
 refine wL (OpA.bx (sz := 2) rfl (by with_reducible conv => lhs; whnf) (.of rfl) (fun c1 _ => ?_))
 refine wL (OpA.bx (sz := 2) rfl (by with_reducible conv => lhs; whnf) (.of rfl) (fun c2 _ => ?_))
 refine wL (OpA.a ?_)
 refine wpL_nil ?_
 refine wpA_seq ?_
 obtain ⟨q1, h⟩ := h
 refine wpA_mid (asg [(8, D.b (((((decide (i ≥ 0)) && (decide (j ≥ 0))) && (decide (i < (a.words.length : Int)))) && (decide (j < (b.words.length : Int)))) && (decide ((gi a.words i).text = (gi b.words j).text))))]) [(c2, .cells 2 [encText b]), (c1, .cells 2 [encText a])] ?_ ?_
 refine wpA_draw (m := 36) mo (by kernel_rfl) rfl ?_
 refine dL (OpA.m ⟨rfl, rfl⟩) ?_
 refine dL (OpA.geq rfl rfl rfl ⟨rfl, rfl⟩) ?_
 refine dL (OpA.m ⟨rfl, rfl⟩) ?_
 refine DetK_split (s := 11) rfl (fun b3 => ?_) (fun b3 => ?_)
 refine dG (OpA.m ⟨rfl, rfl⟩) ?_
 refine dG (OpA.geq rfl rfl rfl ⟨rfl, rfl⟩) ?_
 refine dL (OpA.p ⟨rfl, rfl⟩) ?_
 refine dL (OpA.m ⟨rfl, rfl⟩) ?_
 refine DetK_split (s := 15) rfl (fun b4 => ?_) (fun b4 => ?_)
 refine dG (OpA.m ⟨rfl, rfl⟩) ?_
 refine dG (OpA.fieldAddr rfl tf35_1 rfl ⟨rfl, rfl⟩) ?_
 refine dG (OpA.load rfl ti33 rfl (.tail .head) rfl rfl ⟨rfl, rfl⟩) ?_
 refine dG (OpA.len rfl rfl rfl rfl ts33.desc (.inl ⟨_, _, rfl, (List.length_map _).symm⟩) ⟨rfl, rfl⟩) ?_
 refine dG (OpA.lss rfl rfl rfl ⟨rfl, rfl⟩) ?_
 refine dL (OpA.p ⟨rfl, rfl⟩) ?_
 refine dL (OpA.m ⟨rfl, rfl⟩) ?_
 refine DetK_split (s := 22) rfl (fun b5 => ?_) (fun b5 => ?_)
 refine dG (OpA.m ⟨rfl, rfl⟩) ?_
 refine dG (OpA.fieldAddr rfl tf35_1 rfl ⟨rfl, rfl⟩) ?_
 refine dG (OpA.load rfl ti33 rfl .head rfl rfl ⟨rfl, rfl⟩) ?_
 refine dG (OpA.len rfl rfl rfl rfl ts33.desc (.inl ⟨_, _, rfl, (List.length_map _).symm⟩) ⟨rfl, rfl⟩) ?_
 refine dG (OpA.lss rfl rfl rfl ⟨rfl, rfl⟩) ?_
 refine dL (OpA.p ⟨rfl, rfl⟩) ?_
 refine dL (OpA.m ⟨rfl, rfl⟩) ?_
 refine DetK_split (s := 29) rfl (fun b6 => ?_) (fun b6 => ?_)
 refine dG (OpA.fieldAddr rfl tf35_1 rfl ⟨rfl, rfl⟩) ?_
 refine dG (OpA.load rfl ti33 rfl (.tail .head) rfl rfl ⟨rfl, rfl⟩) ?_
 refine dG (OpA.m ⟨rfl, rfl⟩) ?_
 refine dG (OpA.iixV (enc := encLex) rfl ts33 rfl rfl rfl (q1 ⟨⟨⟨(decT b3), (decT b4)⟩, (decT b5)⟩, (decT b6)⟩).1 ⟨rfl, rfl⟩) ?_
 refine dG (OpA.ifieldAddr rfl tf53_0 rfl ⟨rfl, rfl⟩) ?_
 refine dG (OpA.iload rfl ti9 rfl rfl ⟨rfl, rfl⟩) ?_
 refine dG (OpA.fieldAddr rfl tf35_1 rfl ⟨rfl, rfl⟩) ?_
 refine dG (OpA.load rfl ti33 rfl .head rfl rfl ⟨rfl, rfl⟩) ?_
 refine dG (OpA.m ⟨rfl, rfl⟩) ?_
 refine dG (OpA.iixV (enc := encLex) rfl ts33 rfl rfl rfl (q1 ⟨⟨⟨(decT b3), (decT b4)⟩, (decT b5)⟩, (decT b6)⟩).2 ⟨rfl, rfl⟩) ?_
 refine dG (OpA.ifieldAddr rfl tf53_0 rfl ⟨rfl, rfl⟩) ?_
 refine dG (OpA.iload rfl ti9 rfl rfl ⟨rfl, rfl⟩) ?_
 refine dG (OpA.seql rfl rfl rfl ⟨rfl, rfl⟩) ?_
 refine dL (OpA.p ⟨rfl, rfl⟩) ?_
 refine dL (OpA.a ⟨rfl, rfl⟩) ?_
 refine DetK.nil ?_
 refine wpL_nil ?_
 exact ⟨(Cov.asg ⟨(congrArg D.b (Eq.symm (andN (andN (andN (andN b3 b4) b5) b6) rfl))), trivial⟩), (.refl _)⟩
 iterate 13 refine dS ?_
 refine dL (OpA.p ⟨rfl, rfl⟩) ?_
 refine dL (OpA.a ⟨rfl, rfl⟩) ?_
 refine DetK.nil ?_
 refine wpL_nil ?_
 exact ⟨(Cov.asg ⟨(congrArg D.b (Eq.symm (andS (andN (andN (andN b3 b4) b5) b6)))), trivial⟩), (.refl _)⟩
 iterate 5 refine dS ?_
 refine dL (OpA.p ⟨rfl, rfl⟩) ?_
 refine dL (OpA.m ⟨rfl, rfl⟩) ?_
 iterate 13 refine dS ?_
 refine dL (OpA.p ⟨rfl, rfl⟩) ?_
 refine dL (OpA.a ⟨rfl, rfl⟩) ?_
 refine DetK.nil ?_
 refine wpL_nil ?_
 exact ⟨(Cov.asg ⟨(congrArg D.b (Eq.symm (andS (andS (andN (andN b3 b4) b5))))), trivial⟩), (.refl _)⟩
 iterate 5 refine dS ?_
 refine dL (OpA.p ⟨rfl, rfl⟩) ?_
 refine dL (OpA.m ⟨rfl, rfl⟩) ?_
 iterate 5 refine dS ?_
 refine dL (OpA.p ⟨rfl, rfl⟩) ?_
 refine dL (OpA.m ⟨rfl, rfl⟩) ?_
 iterate 13 refine dS ?_
 refine dL (OpA.p ⟨rfl, rfl⟩) ?_
 refine dL (OpA.a ⟨rfl, rfl⟩) ?_
 refine DetK.nil ?_
 refine wpL_nil ?_
 exact ⟨(Cov.asg ⟨(congrArg D.b (Eq.symm (andS (andS (andS (andN b3 b4)))))), trivial⟩), (.refl _)⟩
 iterate 2 refine dS ?_
 refine dL (OpA.p ⟨rfl, rfl⟩) ?_
 refine dL (OpA.m ⟨rfl, rfl⟩) ?_
 iterate 5 refine dS ?_
 refine dL (OpA.p ⟨rfl, rfl⟩) ?_
 refine dL (OpA.m ⟨rfl, rfl⟩) ?_
 iterate 5 refine dS ?_
 refine dL (OpA.p ⟨rfl, rfl⟩) ?_
 refine dL (OpA.m ⟨rfl, rfl⟩) ?_
 iterate 13 refine dS ?_
 refine dL (OpA.p ⟨rfl, rfl⟩) ?_
 refine dL (OpA.a ⟨rfl, rfl⟩) ?_
 refine DetK.nil ?_
 refine wpL_nil ?_
 exact ⟨(Cov.asg ⟨(congrArg D.b (Eq.symm (andS (andS (andS (andS b3)))))), trivial⟩), (.refl _)⟩
 show wpA _ _ _ _ (asg [(8, D.b (((((decide (i ≥ 0)) && (decide (j ≥ 0))) && (decide (i < (a.words.length : Int)))) && (decide (j < (b.words.length : Int)))) && (decide ((gi a.words i).text = (gi b.words j).text))))]) [(c2, .cells 2 [encText b]), (c1, .cells 2 [encText a])]
 refine wpA_ret ?_
 exact ⟨_, (.tmp (d := D.b (((((decide (i ≥ 0)) && (decide (j ≥ 0))) && (decide (i < (a.words.length : Int)))) && (decide (j < (b.words.length : Int)))) && (decide ((gi a.words i).text = (gi b.words j).text)))) rfl .nil), _, (.same rfl .nil), ⟨(((((decide (i ≥ 0)) && (decide (j ≥ 0))) && (decide (i < (a.words.length : Int)))) && (decide (j < (b.words.length : Int)))) && (decide ((gi a.words i).text = (gi b.words j).text))), rfl, h⟩⟩
theorem rsameW_c (a : Text) (i : Int) (b : Text) (j : Int)  : Fun false Tryd.prog 48 [encText a, D.i i, encText b, D.i j] (fun d => d = D.b (sameW a i b j)) :=
 Fun.at (enc := fun r => D.b r) (v := sameW a i b j) (rsameW_w a i b j  (fun r => r = sameW a i b j) (rsameW_ok a i b j _  rfl))
theorem rlength_w (a : Text) (i : Int) (b : Text) (j : Int) (Q : Int → Prop) (h : rlength_vc a i b j Q) : Fun false Tryd.prog 34 [encText a, D.i i, encText b, D.i j] (fun d => ∃ r, d = D.i r ∧ Q r) := by
 unfold rlength_vc at h
 refine Fun.of_body Tryd.func34 rfl Tryd.ntmps34 rfl ?_
 refine wpA_seq ?_
 refine wpA_region ?_
 refine wL (OpA.bx (sz := 2) rfl (by with_reducible conv => lhs; whnf) (.of rfl) (fun c1 _ => ?_))
 refine wL (OpA.bx (sz := 2) rfl (by with_reducible conv => lhs; whnf) (.of rfl) (fun c2 _ => ?_))
 refine wL (OpA.a ?_)
 refine wpL_nil ?_
 iterate 2 refine wpA_seq ?_
 obtain ⟨q1, q2, h⟩ := h
 refine wpA_region ?_
 refine wL (OpA.load_whole rfl ti35 rfl rfl (.tail .head) rfl ⟨_, rfl⟩ ?_)
 refine wL (OpA.m ?_)
 refine wL (OpA.subi rfl rfl rfl q1 ?_)
 refine wL (OpA.load_whole rfl ti35 rfl rfl .head rfl ⟨_, rfl⟩ ?_)
 refine wL (OpA.m ?_)
 refine wL (OpA.subi rfl rfl rfl q2 ?_)
 refine wL (OpA.call rfl rfl rfl en48 (rsameW_c a (i - 1) b (j - 1) ) ?_)
 rintro _ rfl
 refine wpL_nil ?_
 refine wpA_cond rfl (fun b3 => ?_) (fun b3 => ?_)
 have h := h.1 b3
 refine wpA_seq ?_
 refine wpA_region ?_
 refine wL (OpA.a ?_)
 refine wpL_nil ?_
 refine wpA_ret ?_
 exact ⟨_, (.tmp (d := D.i 0) rfl .nil), _, (.same rfl .nil), ⟨0, rfl, h⟩⟩
 have h := h.2 b3
 refine wpA_skip ?_
 refine wpA_seq ?_
 refine wpA_region ?_
 refine wL (OpA.a ?_)
 refine wpL_nil ?_
 refine wpA_seq ?_
 refine wpA_block ?_
 refine wpA_lfp (S := Int) (G := Unit) () (fun gg ss => asg [(1, D.i i), (3, D.i j), (4, .ptr c1 2 0 0), (6, .ptr c2 2 0 0), (8, D.i 0), (9, D.i ss)]) (fun gg ss => [(c2, .cells 2 [encText b]), (c1, .cells 2 [encText a])]) h (Cov.asg ⟨rfl, rfl, rfl, rfl, rfl, rfl, trivial⟩) (.refl _) ?_
 rintro again4 _ n h
 have h : rlength_L1 a i b j Q again4 n := h
 unfold rlength_L1 at h
 show wpA _ _ _ _ (asg [(1, D.i i), (3, D.i j), (4, .ptr c1 2 0 0), (6, .ptr c2 2 0 0), (8, D.i 0), (9, D.i n)]) [(c2, .cells 2 [encText b]), (c1, .cells 2 [encText a])]
 iterate 2 refine wpA_seq ?_
 obtain ⟨q1, q2, h⟩ := h
 refine wpA_region ?_
 refine wL (OpA.load_whole rfl ti35 rfl rfl (.tail .head) rfl ⟨_, rfl⟩ ?_)
 iterate 2 refine wL (OpA.m ?_)
 refine wL (OpA.addi rfl rfl rfl q1 ?_)
 refine wL (OpA.load_whole rfl ti35 rfl rfl .head rfl ⟨_, rfl⟩ ?_)
 iterate 2 refine wL (OpA.m ?_)
 refine wL (OpA.addi rfl rfl rfl q2 ?_)
 refine wL (OpA.call rfl rfl rfl en48 (rsameW_c a (i + n) b (j + n) ) ?_)
 rintro _ rfl
 refine wpL_nil ?_
 refine wpA_cond rfl (fun b5 => ?_) (fun b5 => ?_)
 have h := h.1 b5
 refine wpA_skip ?_
 refine wpA_block ?_
 obtain ⟨q1, h⟩ := h
 refine wpA_region ?_
 refine wL (OpA.m ?_)
 refine wL (OpA.addi rfl rfl rfl q1 ?_)
 refine wL (OpA.a ?_)
 refine wpL_nil ?_
 exact ⟨(), (n + 1), h, (Cov.asg ⟨rfl, rfl, rfl, rfl, rfl, rfl, trivial⟩), (.refl _)⟩
 have h := h.2 b5
 refine wpA_exit ?_
 refine wpA_seq ?_
 refine wpA_region ?_
 refine wL (OpA.m ?_)
 refine wL (OpA.a ?_)
 refine wpL_nil ?_
 refine wpA_ret ?_
 exact ⟨_, (.tmp (d := D.i n) rfl .nil), _, (.same rfl .nil), ⟨n, rfl, h⟩⟩
theorem rlength_c (a : Text) (i : Int) (b : Text) (j : Int) (hp0 : okT a) (hp1 : okT b) (hp2 : 0 ≤ i) (hp3 : 0 ≤ j) (hp4 : inI i) (hp5 : inI j) : Fun false Tryd.prog 34 [encText a, D.i i, encText b, D.i j] (fun d => d = D.i (lenC a i b j)) :=
 Fun.at (enc := fun r => D.i r) (v := lenC a i b j) (rlength_w a i b j  (fun r => r = lenC a i b j) (rlength_ok a i b j _ hp0 hp1 hp2 hp3 hp4 hp5 rfl))
theorem rpair_w (l : (List Text)) (a : Int) (at_ : Int) (b : Int) (n : Int) (Q : (List Clone) → Prop) (h : rpair_vc l a at_ b n Q) : Fun false Tryd.prog 23 [(encL 2 encText) l, D.i a, D.i at_, D.i b, D.i n] (fun d => ∃ r, d = (encL 5 encClone) r ∧ Q r) := by
 unfold rpair_vc at h
 refine Fun.of_body Tryd.func23 rfl Tryd.ntmps23 rfl ?_
 refine wpA_seq ?_
 refine wpA_region ?_
 refine wL (OpA.a ?_)
 refine wpL_nil ?_
 refine wpA_seq ?_
 refine wpA_region ?_
 refine wL (OpA.buildSliceV (enc := encClone) (xs := ([] : List Clone)) rfl ts25 rfl .nil (by decide) rfl (fun c1 => ?_))
 refine wL (OpA.a ?_)
 refine wpL_nil ?_
 refine wpA_seq ?_
 refine wpA_region ?_
 refine wL (OpA.a ?_)
 refine wpL_nil ?_
 iterate 2 refine wpA_seq ?_
 refine wpA_region ?_
 iterate 2 refine wL (OpA.m ?_)
 refine wL (OpA.eql rfl rfl rfl ?_)
 refine wpL_nil ?_
 refine wpA_join (S := Int) (G := Unit) (fun gg ss => asg [(0, (encL 2 encText) l), (1, D.i a), (2, D.i at_), (3, D.i b), (4, D.i n), (10, .v (.slice none 0 0)), (11, .own c1 5 ([] : List D).length ([] : List Clone).length), (12, D.i ss)]) (fun gg ss => [(c1, .cells 5 (winL encClone ([] : List D) ([] : List Clone) ([] : List D)))]) (fun ss => rpair_J1 l a at_ b n Q ss) ?_ ?_
 refine wpA_cond rfl (fun b7 => ?_) (fun b7 => ?_)
 have h := h.1 (beqT b7)
 obtain ⟨q1, h⟩ := h
 refine wpA_region ?_
 refine wL (OpA.m ?_)
 refine wL (OpA.addi rfl rfl rfl q1 ?_)
 refine wL (OpA.a ?_)
 refine wpL_nil ?_
 exact ⟨(), (at_ + 1), h, (Cov.asg ⟨rfl, rfl, rfl, rfl, rfl, rfl, rfl, rfl, trivial⟩), (.refl _)⟩
 have h := h.2 (beqF b7)
 refine wpA_skip ?_
 exact ⟨(), 0, h, (Cov.asg ⟨rfl, rfl, rfl, rfl, rfl, rfl, rfl, rfl, trivial⟩), (.refl _)⟩
 rintro _ from_ h
 have h : rpair_J1 l a at_ b n Q from_ := h
 unfold rpair_J1 at h
 show wpA _ _ _ _ (asg [(0, (encL 2 encText) l), (1, D.i a), (2, D.i at_), (3, D.i b), (4, D.i n), (10, .v (.slice none 0 0)), (11, .own c1 5 ([] : List D).length ([] : List Clone).length), (12, D.i from_)]) [(c1, .cells 5 (winL encClone ([] : List D) ([] : List Clone) ([] : List D)))]
 iterate 2 refine wpA_seq ?_
 refine wpA_region ?_
 refine wL (OpA.m ?_)
 refine wL (OpA.a ?_)
 refine wpL_nil ?_
 refine wpA_block ?_
 refine wpA_lfp (S := (List Clone) × Int) (G := Nat × List D × List D) (c1, ([] : List D), ([] : List D)) (fun gg ss => asg [(0, (encL 2 encText) l), (1, D.i a), (2, D.i at_), (3, D.i b), (4, D.i n), (10, .v (.slice none 0 0)), (11, .own gg.1 5 gg.2.1.length ss.1.length), (13, D.i ss.2)]) (fun gg ss => [(gg.1, .cells 5 (winL encClone gg.2.1 ss.1 gg.2.2))]) h (Cov.asg ⟨rfl, rfl, rfl, rfl, rfl, rfl, rfl, rfl, trivial⟩) (.refl _) ?_
 rintro again2 ⟨cb15, pre15, post15⟩ ⟨out, j⟩ h
 have h : rpair_L1 l a at_ b n Q again2 out j := h
 unfold rpair_L1 at h
 show wpA _ _ _ _ (asg [(0, (encL 2 encText) l), (1, D.i a), (2, D.i at_), (3, D.i b), (4, D.i n), (10, .v (.slice none 0 0)), (11, .own cb15 5 pre15.length out.length), (13, D.i j)]) [(cb15, .cells 5 (winL encClone pre15 out post15))]
 iterate 2 refine wpA_seq ?_
 obtain ⟨q1, h⟩ := h
 refine wpA_region ?_
 iterate 3 refine wL (OpA.m ?_)
 refine wL (OpA.iixV (enc := encText) rfl ts22 rfl rfl rfl q1 ?_)
 refine wL (OpA.ifieldAddr rfl tf35_1 rfl ?_)
 refine wL (OpA.iload rfl ti33 rfl rfl ?_)
 refine wL (OpA.len rfl rfl rfl rfl ts33.desc (.inl ⟨_, _, rfl, (List.length_map _).symm⟩) ?_)
 refine wL (OpA.lss rfl rfl rfl ?_)
 refine wpL_nil ?_
 refine wpA_cond rfl (fun b3 => ?_) (fun b3 => ?_)
 have h := h.1 (decT b3)
 refine wpA_skip ?_
 refine wpA_seq ?_
 refine wpA_block ?_
 refine wpA_seq ?_
 obtain ⟨q1, q2, q3, q4, q5, q6, q7, q8, h⟩ := h
 refine wpA_draw (m := 12) mo (by kernel_rfl) rfl ?_
 iterate 2 refine dL (OpA.m ⟨rfl, rfl⟩) ?_
 refine dL (OpA.iixV (enc := encText) rfl ts22 rfl rfl rfl q1 ⟨rfl, rfl⟩) ?_
 refine dL (OpA.iload_whole rfl ti35 rfl ⟨_, rfl, rfl⟩ ⟨rfl, rfl⟩) ?_
 iterate 3 refine dL (OpA.m ⟨rfl, rfl⟩) ?_
 refine dL (OpA.iixV (enc := encText) rfl ts22 rfl rfl rfl q2 ⟨rfl, rfl⟩) ?_
 refine dL (OpA.iload_whole rfl ti35 rfl ⟨_, rfl, rfl⟩ ⟨rfl, rfl⟩) ?_
 refine dL (OpA.m ⟨rfl, rfl⟩) ?_
 refine dL (OpA.call rfl rfl rfl en34 (rlength_c (gi l a) at_ (gi l b) j q3 q4 q5 q6 q7 q8) (by rintro _ rfl; exact ⟨rfl, rfl⟩)) ?_
 refine dL (OpA.a ⟨rfl, rfl⟩) ?_
 refine DetK.nil ?_
 refine wpL_nil ?_
 refine wpA_seq ?_
 refine wpA_region ?_
 iterate 2 refine wL (OpA.m ?_)
 refine wL (OpA.geq rfl rfl rfl ?_)
 refine wpL_nil ?_
 refine wpA_cond rfl (fun b4 => ?_) (fun b4 => ?_)
 have h := h.1 (decT b4)
 obtain ⟨q1, h⟩ := h
 refine wpA_region ?_
 iterate 6 refine wL (OpA.m ?_)
 refine wL (OpA.buildO (zs := [.v (.int .i64 0), .v (.int .i64 0), .v (.int .i64 0), .v (.int .i64 0), .v (.int .i64 0)]) rfl tp31 tz31 (fun _ _ => (.cons (.v _) (.cons (.v _) (.cons (.v _) (.cons (.v _) (.cons (.v _) .nil)))))) (.cons (.of (sz := 1) rfl) (.cons (.of (sz := 1) rfl) (.cons (.of (sz := 1) rfl) (.cons (.of (sz := 1) rfl) (.cons (.of (sz := 1) rfl) .nil))))) rfl ?_)
 refine wL (OpA.ibuildSliceO rfl ts25 rfl (.cons (.of (sz := 5) rfl) .nil) (by decide) ?_)
 refine wL (OpA.appendW (enc := encClone) rfl rfl rfl rfl ts25 rfl (fun _ _ => .head) (.list (ys := ([(Clone.mk a at_ b j (lenC (gi l a) at_ (gi l b) j))] : List Clone))) q1 (fun c5 pre6 => ?_))
 refine wL (OpA.a ?_)
 refine wpL_nil ?_
 obtain ⟨q1, h⟩ := h
 refine wpA_region ?_
 refine wL (OpA.m ?_)
 refine wL (OpA.addi rfl rfl rfl q1 ?_)
 refine wL (OpA.a ?_)
 refine wpL_nil ?_
 exact ⟨(c5, pre6, ([] : List D)), ((out ++ ([(Clone.mk a at_ b j (lenC (gi l a) at_ (gi l b) j))] : List Clone)), (j + 1)), h, (Cov.asg ⟨rfl, rfl, rfl, rfl, rfl, rfl, rfl, rfl, trivial⟩), (.refl _)⟩
 have h := h.2 (decF b4)
 refine wpA_skip ?_
 obtain ⟨q1, h⟩ := h
 refine wpA_region ?_
 refine wL (OpA.m ?_)
 refine wL (OpA.addi rfl rfl rfl q1 ?_)
 refine wL (OpA.a ?_)
 refine wpL_nil ?_
 exact ⟨(cb15, pre15, post15), (out, (j + 1)), h, (Cov.asg ⟨rfl, rfl, rfl, rfl, rfl, rfl, rfl, rfl, trivial⟩), (.refl _)⟩
 have h := h.2 (decF b3)
 refine wpA_exit ?_
 refine wpA_seq ?_
 refine wpA_region ?_
 refine wL (OpA.m ?_)
 refine wL (OpA.a ?_)
 refine wpL_nil ?_
 refine wpA_ret ?_
 exact ⟨_, (.tmp (d := .own cb15 5 pre15.length out.length) rfl .nil), _, (.win .head (by intro hf; cases hf) .nil), ⟨out, rfl, h⟩⟩
theorem rpair_c (l : (List Text)) (a : Int) (at_ : Int) (b : Int) (n : Int) (hp0 : okTs l) (hp1 : inL a l.length) (hp2 : inL b l.length) (hp3 : 0 ≤ at_) (hp4 : at_ ≤ 1000000) : Fun false Tryd.prog 23 [(encL 2 encText) l, D.i a, D.i at_, D.i b, D.i n] (fun d => d = (encL 5 encClone) (pairF l a at_ b n)) :=
 Fun.at (enc := fun r => (encL 5 encClone) r) (v := pairF l a at_ b n) (rpair_w l a at_ b n  (fun r => r = pairF l a at_ b n) (rpair_ok l a at_ b n _ hp0 hp1 hp2 hp3 hp4 rfl))
theorem rfind_w (l : (List Text)) (k : Int) (w : Int) (Q : (List Clone) × Int → Prop) (h : rfind_vc l k w Q) : Fun false Tryd.prog 9 [(encL 2 encText) l, D.i k, D.i w] (fun d => ∃ r, d = .tup [(encL 5 encClone) (r.1), D.i (r.2)] ∧ Q r) := by
 unfold rfind_vc at h
 refine Fun.of_body Tryd.func9 rfl Tryd.ntmps9 rfl ?_
 refine wpA_seq ?_
 refine wpA_region ?_
 iterate 2 refine wL (OpA.a ?_)
 refine wpL_nil ?_
 iterate 2 refine wpA_seq ?_
 obtain ⟨q1, h⟩ := h
 refine wpA_region ?_
 refine wL (OpA.m ?_)
 refine wL (OpA.call rfl rfl rfl en21 (rrightL_c l q1) ?_)
 rintro _ rfl
 refine wL (OpA.not rfl rfl ?_)
 refine wpL_nil ?_
 refine wpA_cond rfl (fun b1 => ?_) (fun b1 => ?_)
 have h := h.1 (notT b1)
 refine wpA_seq ?_
 refine wpA_region ?_
 iterate 2 refine wL (OpA.a ?_)
 refine wpL_nil ?_
 refine wpA_ret ?_
 exact ⟨_, (.tmp (d := .v (.slice none 0 0)) rfl (.tmp (d := D.i 1) rfl .nil)), _, (.tup (.nilv (sz := 5) (.same rfl .nil)) .nil), ⟨([], 1), rfl, h⟩⟩
 have h := h.2 (notF b1)
 refine wpA_skip ?_
 iterate 2 refine wpA_seq ?_
 refine wpA_mid (asg [(0, (encL 2 encText) l), (1, D.i k), (2, D.i w), (6, .v (.slice none 0 0)), (7, D.i 0), (22, D.b ((!(sizeF k)) || (!(sizeF w))))]) [] ?_ ?_
 refine wpA_region ?_
 refine wL (OpA.m ?_)
 refine wL (OpA.call rfl rfl rfl en22 (w25right_c k ) ?_)
 rintro _ rfl
 refine wL (OpA.not rfl rfl ?_)
 refine wL (OpA.m ?_)
 refine wpL_split (s := 18) rfl (fun b13 => ?_) (fun b13 => ?_)
 iterate 3 refine wS ?_
 refine wL (OpA.p ?_)
 refine wpL_nil ?_
 exact ⟨(Cov.asg ⟨rfl, rfl, rfl, rfl, rfl, (congrArg D.b (Eq.symm (orS b13))), trivial⟩), (.refl _)⟩
 refine wG (OpA.m ?_)
 refine wG (OpA.call rfl rfl rfl en22 (w25right_c w ) ?_)
 rintro _ rfl
 refine wG (OpA.not rfl rfl ?_)
 refine wL (OpA.p ?_)
 refine wpL_nil ?_
 exact ⟨(Cov.asg ⟨rfl, rfl, rfl, rfl, rfl, (congrArg D.b (Eq.symm (orN b13 rfl))), trivial⟩), (.refl _)⟩
 show wpA _ _ _ _ (asg [(0, (encL 2 encText) l), (1, D.i k), (2, D.i w), (6, .v (.slice none 0 0)), (7, D.i 0), (22, D.b ((!(sizeF k)) || (!(sizeF w))))]) []
 refine wpA_cond rfl (fun b2 => ?_) (fun b2 => ?_)
 have h := h.1 ((or0 b2).imp (fun hh => (notT hh)) (fun hh => (notT hh)))
 refine wpA_seq ?_
 refine wpA_region ?_
 iterate 2 refine wL (OpA.a ?_)
 refine wpL_nil ?_
 refine wpA_ret ?_
 exact ⟨_, (.tmp (d := .v (.slice none 0 0)) rfl (.tmp (d := D.i 3) rfl .nil)), _, (.tup (.nilv (sz := 5) (.same rfl .nil)) .nil), ⟨([], 3), rfl, h⟩⟩
 have h := h.2 ⟨(notF (or1 b2)), (notF (or2 b2))⟩
 refine wpA_skip ?_
 refine wpA_seq ?_
 refine wpA_region ?_
 refine wL (OpA.buildSliceV (enc := encClone) (xs := ([] : List Clone)) rfl ts25 rfl .nil (by decide) rfl (fun c3 => ?_))
 refine wL (OpA.a ?_)
 refine wpL_nil ?_
 iterate 2 refine wpA_seq ?_
 refine wpA_region ?_
 refine wL (OpA.a ?_)
 refine wpL_nil ?_
 refine wpA_block ?_
 refine wpA_lfp (S := (List Clone) × Int) (G := Nat × List D × List D) (c3, ([] : List D), ([] : List D)) (fun gg ss => asg [(0, (encL 2 encText) l), (1, D.i k), (2, D.i w), (6, .v (.slice none 0 0)), (7, D.i 0), (8, .own gg.1 5 gg.2.1.length ss.1.length), (9, D.i ss.2)]) (fun gg ss => [(gg.1, .cells 5 (winL encClone gg.2.1 ss.1 gg.2.2))]) h (Cov.asg ⟨rfl, rfl, rfl, rfl, rfl, rfl, rfl, trivial⟩) (.refl _) ?_
 rintro again4 ⟨cb23, pre23, post23⟩ ⟨out, a⟩ h
 have h : rfind_L1 l k w Q again4 out a := h
 unfold rfind_L1 at h
 show wpA _ _ _ _ (asg [(0, (encL 2 encText) l), (1, D.i k), (2, D.i w), (6, .v (.slice none 0 0)), (7, D.i 0), (8, .own cb23 5 pre23.length out.length), (9, D.i a)]) [(cb23, .cells 5 (winL encClone pre23 out post23))]
 iterate 2 refine wpA_seq ?_
 refine wpA_region ?_
 iterate 2 refine wL (OpA.m ?_)
 refine wL (OpA.len rfl rfl rfl rfl ts22.desc (.inl ⟨_, _, rfl, (List.length_map _).symm⟩) ?_)
 refine wL (OpA.lss rfl rfl rfl ?_)
 refine wpL_nil ?_
 refine wpA_cond rfl (fun b5 => ?_) (fun b5 => ?_)
 have h := h.1 (decT b5)
 refine wpA_skip ?_
 refine wpA_seq ?_
 refine wpA_block ?_
 refine wpA_seq ?_
 refine wpA_region ?_
 refine wL (OpA.a ?_)
 refine wpL_nil ?_
 refine wpA_block ?_
 refine wpA_lfp (S := (List Clone) × Int) (G := Nat × List D × List D) (cb23, pre23, post23) (fun gg ss => asg [(0, (encL 2 encText) l), (1, D.i k), (2, D.i w), (6, .v (.slice none 0 0)), (7, D.i 0), (8, .own gg.1 5 gg.2.1.length ss.1.length), (9, D.i a), (10, D.i ss.2)]) (fun gg ss => [(gg.1, .cells 5 (winL encClone gg.2.1 ss.1 gg.2.2))]) h (Cov.asg ⟨rfl, rfl, rfl, rfl, rfl, rfl, rfl, rfl, trivial⟩) (.refl _) ?_
 rintro again6 ⟨cb231, pre231, post231⟩ ⟨out1, i⟩ h
 have h : rfind_L2 l k w a again4 again6 out1 i := h
 unfold rfind_L2 at h
 show wpA _ _ _ _ (asg [(0, (encL 2 encText) l), (1, D.i k), (2, D.i w), (6, .v (.slice none 0 0)), (7, D.i 0), (8, .own cb231 5 pre231.length out1.length), (9, D.i a), (10, D.i i)]) [(cb231, .cells 5 (winL encClone pre231 out1 post231))]
 iterate 2 refine wpA_seq ?_
 obtain ⟨q1, h⟩ := h
 refine wpA_region ?_
 iterate 3 refine wL (OpA.m ?_)
 refine wL (OpA.iixV (enc := encText) rfl ts22 rfl rfl rfl q1 ?_)
 refine wL (OpA.ifieldAddr rfl tf35_1 rfl ?_)
 refine wL (OpA.iload rfl ti33 rfl rfl ?_)
 refine wL (OpA.len rfl rfl rfl rfl ts33.desc (.inl ⟨_, _, rfl, (List.length_map _).symm⟩) ?_)
 refine wL (OpA.lss rfl rfl rfl ?_)
 refine wpL_nil ?_
 refine wpA_cond rfl (fun b7 => ?_) (fun b7 => ?_)
 have h := h.1 (decT b7)
 refine wpA_skip ?_
 refine wpA_seq ?_
 refine wpA_block ?_
 refine wpA_seq ?_
 refine wpA_region ?_
 refine wL (OpA.m ?_)
 refine wL (OpA.a ?_)
 refine wpL_nil ?_
 refine wpA_block ?_
 refine wpA_lfp (S := (List Clone) × Int) (G := Nat × List D × List D) (cb231, pre231, post231) (fun gg ss => asg [(0, (encL 2 encText) l), (1, D.i k), (2, D.i w), (6, .v (.slice none 0 0)), (7, D.i 0), (8, .own gg.1 5 gg.2.1.length ss.1.length), (9, D.i a), (10, D.i i), (11, D.i ss.2)]) (fun gg ss => [(gg.1, .cells 5 (winL encClone gg.2.1 ss.1 gg.2.2))]) h (Cov.asg ⟨rfl, rfl, rfl, rfl, rfl, rfl, rfl, rfl, rfl, trivial⟩) (.refl _) ?_
 rintro again8 ⟨cb232, pre232, post232⟩ ⟨out2, b⟩ h
 have h : rfind_L3 l k w a i again6 again8 out2 b := h
 unfold rfind_L3 at h
 show wpA _ _ _ _ (asg [(0, (encL 2 encText) l), (1, D.i k), (2, D.i w), (6, .v (.slice none 0 0)), (7, D.i 0), (8, .own cb232 5 pre232.length out2.length), (9, D.i a), (10, D.i i), (11, D.i b)]) [(cb232, .cells 5 (winL encClone pre232 out2 post232))]
 iterate 2 refine wpA_seq ?_
 refine wpA_region ?_
 iterate 2 refine wL (OpA.m ?_)
 refine wL (OpA.len rfl rfl rfl rfl ts22.desc (.inl ⟨_, _, rfl, (List.length_map _).symm⟩) ?_)
 refine wL (OpA.lss rfl rfl rfl ?_)
 refine wpL_nil ?_
 refine wpA_cond rfl (fun b9 => ?_) (fun b9 => ?_)
 have h := h.1 (decT b9)
 refine wpA_skip ?_
 refine wpA_seq ?_
 refine wpA_block ?_
 obtain ⟨q1, q2, q3, q4, q5, q6, q7, q8, h⟩ := h
 refine wpA_region ?_
 iterate 7 refine wL (OpA.m ?_)
 refine wL (OpA.addi rfl rfl rfl q1 ?_)
 refine wL (OpA.subi rfl rfl rfl q2 ?_)
 refine wL (OpA.call rfl rfl rfl en23 (rpair_c l a i b ((k + w) - 1) q3 q4 q5 q6 q7) ?_)
 rintro _ rfl
 refine wL (OpA.appendW (enc := encClone) rfl rfl rfl rfl ts25 rfl (fun _ _ => .head) (.list (ys := (pairF l a i b ((k + w) - 1)))) q8 (fun c10 pre11 => ?_))
 refine wL (OpA.a ?_)
 refine wpL_nil ?_
 obtain ⟨q1, h⟩ := h
 refine wpA_region ?_
 refine wL (OpA.m ?_)
 refine wL (OpA.addi rfl rfl rfl q1 ?_)
 refine wL (OpA.a ?_)
 refine wpL_nil ?_
 exact ⟨(c10, pre11, ([] : List D)), ((out2 ++ (pairF l a i b ((k + w) - 1))), (b + 1)), h, (Cov.asg ⟨rfl, rfl, rfl, rfl, rfl, rfl, rfl, rfl, rfl, trivial⟩), (.refl _)⟩
 have h := h.2 (decF b9)
 refine wpA_exit ?_
 obtain ⟨q1, h⟩ := h
 refine wpA_region ?_
 refine wL (OpA.m ?_)
 refine wL (OpA.addi rfl rfl rfl q1 ?_)
 refine wL (OpA.a ?_)
 refine wpL_nil ?_
 exact ⟨(cb232, pre232, post232), (out2, (i + 1)), h, (Cov.asg ⟨rfl, rfl, rfl, rfl, rfl, rfl, rfl, rfl, trivial⟩), (.refl _)⟩
 have h := h.2 (decF b7)
 refine wpA_exit ?_
 obtain ⟨q1, h⟩ := h
 refine wpA_region ?_
 refine wL (OpA.m ?_)
 refine wL (OpA.addi rfl rfl rfl q1 ?_)
 refine wL (OpA.a ?_)
 refine wpL_nil ?_
 exact ⟨(cb231, pre231, post231), (out1, (a + 1)), h, (Cov.asg ⟨rfl, rfl, rfl, rfl, rfl, rfl, rfl, trivial⟩), (.refl _)⟩
 have h := h.2 (decF b5)
 refine wpA_exit ?_
 iterate 2 refine wpA_seq ?_
 refine wpA_region ?_
 refine wL (OpA.m ?_)
 refine wL (OpA.len rfl rfl rfl rfl ts25.desc (.inr (.inl ⟨_, _, _, rfl⟩)) ?_)
 refine wL (OpA.gtr rfl rfl rfl ?_)
 refine wpL_nil ?_
 refine wpA_cond rfl (fun b12 => ?_) (fun b12 => ?_)
 have h := h.1 (decT b12)
 refine wpA_seq ?_
 refine wpA_region ?_
 iterate 2 refine wL (OpA.a ?_)
 refine wpL_nil ?_
 refine wpA_ret ?_
 exact ⟨_, (.tmp (d := .v (.slice none 0 0)) rfl (.tmp (d := D.i 10) rfl .nil)), _, (.tup (.nilv (sz := 5) (.same rfl .nil)) .nil), ⟨([], 10), rfl, h⟩⟩
 have h := h.2 (decF b12)
 refine wpA_skip ?_
 refine wpA_seq ?_
 refine wpA_region ?_
 refine wL (OpA.m ?_)
 iterate 2 refine wL (OpA.a ?_)
 refine wpL_nil ?_
 refine wpA_ret ?_
 exact ⟨_, (.tmp (d := .own cb23 5 pre23.length out.length) rfl (.tmp (d := D.i 0) rfl .nil)), _, (.tup (.win .head (by intro hf; cases hf) (.same rfl .nil)) .nil), ⟨(out, 0), rfl, h⟩⟩
theorem rfind_c (l : (List Text)) (k : Int) (w : Int) (hp0 : okTs l) : Fun false Tryd.prog 9 [(encL 2 encText) l, D.i k, D.i w] (fun d => d = .tup [(encL 5 encClone) ((findC l k w).1), D.i ((findC l k w).2)]) :=
 Fun.at (enc := fun r => .tup [(encL 5 encClone) (r.1), D.i (r.2)]) (v := findC l k w) (rfind_w l k w  (fun r => r = findC l k w) (rfind_ok l k w _ hp0 rfl))
end Go.Proofs.YtglclijalehcmaaDoor
