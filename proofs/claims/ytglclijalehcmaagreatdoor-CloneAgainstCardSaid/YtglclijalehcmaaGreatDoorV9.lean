/-
  walks and contracts
-/
import Derived.Test.YtglclijalehcmaaGreatDoorV8
set_option maxRecDepth 10000
set_option maxHeartbeats 2000000
set_option linter.all false
namespace Go.Proofs.YtglclijalehcmaaGreatDoor
open Go Go.Lic Go.Sort Go.Proofs
attribute [local irreducible] addF addP againstC badR behindF blankF checkC checkF checkF29 cloneCmp clonesF cmpB cmpI codeF commonF4 countF countL famF fewC fewTs fewW findC findT gramsF growTF guarF has1F hasF hashF indexF insideF insideT leastF lenC lenF lookF mergeF mul64F mulP nameR nearC nearF newF ofF orF packF pairF partF pathB pathF postCmp postLt postsF powF printsF pushF rightL rollF sameW selectF sizeF spanCmp splitF splitG textF validF validT
theorem rsameW_w (a : Text) (i : Int) (b : Text) (j : Int) (Q : Bool → Prop) (h : rsameW_vc a i b j Q) : Fun false Tryz.prog 94 [encText a, D.i i, encText b, D.i j] (fun d => ∃ r, d = D.b r ∧ Q r) := by
 unfold rsameW_vc at h
 refine Fun.of_body Tryz.func94 rfl Tryz.ntmps94 rfl ?_
 refine wpA_seq ?_
 refine wpA_region ?_
 refine wL (OpA.bx (sz := 2) rfl (by with_reducible conv => lhs; whnf) (.of rfl) (fun c1 _ => ?_))
 refine wL (OpA.bx (sz := 2) rfl (by with_reducible conv => lhs; whnf) (.of rfl) (fun c2 _ => ?_))
 refine wL (OpA.a ?_)
 refine wpL_nil ?_
 refine wpA_seq ?_
 obtain ⟨q1, h⟩ := h
 refine wpA_mid (asg [(8, D.b (((((decide (i ≥ 0)) && (decide (j ≥ 0))) && (decide (i < (a.words.length : Int)))) && (decide (j < (b.words.length : Int)))) && (decide ((gi a.words i).text = (gi b.words j).text))))]) [(c2, .cells 2 [encText b]), (c1, .cells 2 [encText a])] ?_ ?_
 refine wpA_draw (m := 36) mo (by kernel_rfl) rfl ?_
 refine dL (OpA.m ⟨rfl, rfl⟩) ?_
 refine dL (OpA.geq rfl rfl rfl ⟨rfl, rfl⟩) ?_
 refine dL (OpA.m ⟨rfl, rfl⟩) ?_
 refine DetK_split (s := 11) rfl (fun b3 => ?_) (fun b3 => ?_)
 refine dG (OpA.m ⟨rfl, rfl⟩) ?_
 refine dG (OpA.geq rfl rfl rfl ⟨rfl, rfl⟩) ?_
 refine dL (OpA.p ⟨rfl, rfl⟩) ?_
 refine dL (OpA.m ⟨rfl, rfl⟩) ?_
 refine DetK_split (s := 15) rfl (fun b4 => ?_) (fun b4 => ?_)
 refine dG (OpA.m ⟨rfl, rfl⟩) ?_
 refine dG (OpA.fieldAddr rfl tf28_1 rfl ⟨rfl, rfl⟩) ?_
 refine dG (OpA.load rfl ti26 rfl (.tail .head) rfl rfl ⟨rfl, rfl⟩) ?_
 refine dG (OpA.len rfl rfl rfl rfl ts26.desc (.inl ⟨_, _, rfl, (List.length_map _).symm⟩) ⟨rfl, rfl⟩) ?_
 refine dG (OpA.lss rfl rfl rfl ⟨rfl, rfl⟩) ?_
 refine dL (OpA.p ⟨rfl, rfl⟩) ?_
 refine dL (OpA.m ⟨rfl, rfl⟩) ?_
 refine DetK_split (s := 22) rfl (fun b5 => ?_) (fun b5 => ?_)
 refine dG (OpA.m ⟨rfl, rfl⟩) ?_
 refine dG (OpA.fieldAddr rfl tf28_1 rfl ⟨rfl, rfl⟩) ?_
 refine dG (OpA.load rfl ti26 rfl .head rfl rfl ⟨rfl, rfl⟩) ?_
 refine dG (OpA.len rfl rfl rfl rfl ts26.desc (.inl ⟨_, _, rfl, (List.length_map _).symm⟩) ⟨rfl, rfl⟩) ?_
 refine dG (OpA.lss rfl rfl rfl ⟨rfl, rfl⟩) ?_
 refine dL (OpA.p ⟨rfl, rfl⟩) ?_
 refine dL (OpA.m ⟨rfl, rfl⟩) ?_
 refine DetK_split (s := 29) rfl (fun b6 => ?_) (fun b6 => ?_)
 refine dG (OpA.fieldAddr rfl tf28_1 rfl ⟨rfl, rfl⟩) ?_
 refine dG (OpA.load rfl ti26 rfl (.tail .head) rfl rfl ⟨rfl, rfl⟩) ?_
 refine dG (OpA.m ⟨rfl, rfl⟩) ?_
 refine dG (OpA.iixV (enc := encLex) rfl ts26 rfl rfl rfl (q1 ⟨⟨⟨(decT b3), (decT b4)⟩, (decT b5)⟩, (decT b6)⟩).1 ⟨rfl, rfl⟩) ?_
 refine dG (OpA.ifieldAddr rfl tf61_0 rfl ⟨rfl, rfl⟩) ?_
 refine dG (OpA.iload rfl ti9 rfl rfl ⟨rfl, rfl⟩) ?_
 refine dG (OpA.fieldAddr rfl tf28_1 rfl ⟨rfl, rfl⟩) ?_
 refine dG (OpA.load rfl ti26 rfl .head rfl rfl ⟨rfl, rfl⟩) ?_
 refine dG (OpA.m ⟨rfl, rfl⟩) ?_
 refine dG (OpA.iixV (enc := encLex) rfl ts26 rfl rfl rfl (q1 ⟨⟨⟨(decT b3), (decT b4)⟩, (decT b5)⟩, (decT b6)⟩).2 ⟨rfl, rfl⟩) ?_
 refine dG (OpA.ifieldAddr rfl tf61_0 rfl ⟨rfl, rfl⟩) ?_
 refine dG (OpA.iload rfl ti9 rfl rfl ⟨rfl, rfl⟩) ?_
 refine dG (OpA.seql rfl rfl rfl ⟨rfl, rfl⟩) ?_
 refine dL (OpA.p ⟨rfl, rfl⟩) ?_
 refine dL (OpA.a ⟨rfl, rfl⟩) ?_
 refine DetK.nil ?_
 refine wpL_nil ?_
 exact ⟨(Cov.asg ⟨(congrArg D.b (Eq.symm (andN (andN (andN (andN b3 b4) b5) b6) rfl))), trivial⟩), (.refl _)⟩
 iterate 13 refine dS ?_
 refine dL (OpA.p ⟨rfl, rfl⟩) ?_
 refine dL (OpA.a ⟨rfl, rfl⟩) ?_
 refine DetK.nil ?_
 refine wpL_nil ?_
 exact ⟨(Cov.asg ⟨(congrArg D.b (Eq.symm (andS (andN (andN (andN b3 b4) b5) b6)))), trivial⟩), (.refl _)⟩
 iterate 5 refine dS ?_
 refine dL (OpA.p ⟨rfl, rfl⟩) ?_
 refine dL (OpA.m ⟨rfl, rfl⟩) ?_
 iterate 13 refine dS ?_
 refine dL (OpA.p ⟨rfl, rfl⟩) ?_
 refine dL (OpA.a ⟨rfl, rfl⟩) ?_
 refine DetK.nil ?_
 refine wpL_nil ?_
 exact ⟨(Cov.asg ⟨(congrArg D.b (Eq.symm (andS (andS (andN (andN b3 b4) b5))))), trivial⟩), (.refl _)⟩
 iterate 5 refine dS ?_
 refine dL (OpA.p ⟨rfl, rfl⟩) ?_
 refine dL (OpA.m ⟨rfl, rfl⟩) ?_
 iterate 5 refine dS ?_
 refine dL (OpA.p ⟨rfl, rfl⟩) ?_
 refine dL (OpA.m ⟨rfl, rfl⟩) ?_
 iterate 13 refine dS ?_
 refine dL (OpA.p ⟨rfl, rfl⟩) ?_
 refine dL (OpA.a ⟨rfl, rfl⟩) ?_
 refine DetK.nil ?_
 refine wpL_nil ?_
 exact ⟨(Cov.asg ⟨(congrArg D.b (Eq.symm (andS (andS (andS (andN b3 b4)))))), trivial⟩), (.refl _)⟩
 iterate 2 refine dS ?_
 refine dL (OpA.p ⟨rfl, rfl⟩) ?_
 refine dL (OpA.m ⟨rfl, rfl⟩) ?_
 iterate 5 refine dS ?_
 refine dL (OpA.p ⟨rfl, rfl⟩) ?_
 refine dL (OpA.m ⟨rfl, rfl⟩) ?_
 iterate 5 refine dS ?_
 refine dL (OpA.p ⟨rfl, rfl⟩) ?_
 refine dL (OpA.m ⟨rfl, rfl⟩) ?_
 iterate 13 refine dS ?_
 refine dL (OpA.p ⟨rfl, rfl⟩) ?_
 refine dL (OpA.a ⟨rfl, rfl⟩) ?_
 refine DetK.nil ?_
 refine wpL_nil ?_
 exact ⟨(Cov.asg ⟨(congrArg D.b (Eq.symm (andS (andS (andS (andS b3)))))), trivial⟩), (.refl _)⟩
 show wpA _ _ _ _ (asg [(8, D.b (((((decide (i ≥ 0)) && (decide (j ≥ 0))) && (decide (i < (a.words.length : Int)))) && (decide (j < (b.words.length : Int)))) && (decide ((gi a.words i).text = (gi b.words j).text))))]) [(c2, .cells 2 [encText b]), (c1, .cells 2 [encText a])]
 refine wpA_ret ?_
 exact ⟨_, (.tmp (d := D.b (((((decide (i ≥ 0)) && (decide (j ≥ 0))) && (decide (i < (a.words.length : Int)))) && (decide (j < (b.words.length : Int)))) && (decide ((gi a.words i).text = (gi b.words j).text)))) rfl .nil), _, (.same rfl .nil), ⟨(((((decide (i ≥ 0)) && (decide (j ≥ 0))) && (decide (i < (a.words.length : Int)))) && (decide (j < (b.words.length : Int)))) && (decide ((gi a.words i).text = (gi b.words j).text))), rfl, h⟩⟩
theorem rsameW_c (a : Text) (i : Int) (b : Text) (j : Int)  : Fun false Tryz.prog 94 [encText a, D.i i, encText b, D.i j] (fun d => d = D.b (sameW a i b j)) :=
 Fun.at (enc := fun r => D.b r) (v := sameW a i b j) (rsameW_w a i b j  (fun r => r = sameW a i b j) (rsameW_ok a i b j _  rfl))
theorem rlength_w (a : Text) (i : Int) (b : Text) (j : Int) (Q : Int → Prop) (h : rlength_vc a i b j Q) : Fun false Tryz.prog 58 [encText a, D.i i, encText b, D.i j] (fun d => ∃ r, d = D.i r ∧ Q r) := by
 unfold rlength_vc at h
 refine Fun.of_body Tryz.func58 rfl Tryz.ntmps58 rfl ?_
 refine wpA_seq ?_
 refine wpA_region ?_
 refine wL (OpA.bx (sz := 2) rfl (by with_reducible conv => lhs; whnf) (.of rfl) (fun c1 _ => ?_))
 refine wL (OpA.bx (sz := 2) rfl (by with_reducible conv => lhs; whnf) (.of rfl) (fun c2 _ => ?_))
 refine wL (OpA.a ?_)
 refine wpL_nil ?_
 iterate 2 refine wpA_seq ?_
 obtain ⟨q1, q2, h⟩ := h
 refine wpA_region ?_
 refine wL (OpA.load_whole rfl ti28 rfl rfl (.tail .head) rfl ⟨_, rfl⟩ ?_)
 refine wL (OpA.m ?_)
 refine wL (OpA.subi rfl rfl rfl q1 ?_)
 refine wL (OpA.load_whole rfl ti28 rfl rfl .head rfl ⟨_, rfl⟩ ?_)
 refine wL (OpA.m ?_)
 refine wL (OpA.subi rfl rfl rfl q2 ?_)
 refine wL (OpA.call rfl rfl rfl en94 (rsameW_c a (i - 1) b (j - 1) ) ?_)
 rintro _ rfl
 refine wpL_nil ?_
 refine wpA_cond rfl (fun b3 => ?_) (fun b3 => ?_)
 have h := h.1 b3
 refine wpA_seq ?_
 refine wpA_region ?_
 refine wL (OpA.a ?_)
 refine wpL_nil ?_
 refine wpA_ret ?_
 exact ⟨_, (.tmp (d := D.i 0) rfl .nil), _, (.same rfl .nil), ⟨0, rfl, h⟩⟩
 have h := h.2 b3
 refine wpA_skip ?_
 refine wpA_seq ?_
 refine wpA_region ?_
 refine wL (OpA.a ?_)
 refine wpL_nil ?_
 refine wpA_seq ?_
 refine wpA_block ?_
 refine wpA_lfp (S := Int) (G := Unit) () (fun gg ss => asg [(1, D.i i), (3, D.i j), (4, .ptr c1 2 0 0), (6, .ptr c2 2 0 0), (8, D.i 0), (9, D.i ss)]) (fun gg ss => [(c2, .cells 2 [encText b]), (c1, .cells 2 [encText a])]) h (Cov.asg ⟨rfl, rfl, rfl, rfl, rfl, rfl, trivial⟩) (.refl _) ?_
 rintro again4 _ n h
 have h : rlength_L1 a i b j Q again4 n := h
 unfold rlength_L1 at h
 show wpA _ _ _ _ (asg [(1, D.i i), (3, D.i j), (4, .ptr c1 2 0 0), (6, .ptr c2 2 0 0), (8, D.i 0), (9, D.i n)]) [(c2, .cells 2 [encText b]), (c1, .cells 2 [encText a])]
 iterate 2 refine wpA_seq ?_
 obtain ⟨q1, q2, h⟩ := h
 refine wpA_region ?_
 refine wL (OpA.load_whole rfl ti28 rfl rfl (.tail .head) rfl ⟨_, rfl⟩ ?_)
 iterate 2 refine wL (OpA.m ?_)
 refine wL (OpA.addi rfl rfl rfl q1 ?_)
 refine wL (OpA.load_whole rfl ti28 rfl rfl .head rfl ⟨_, rfl⟩ ?_)
 iterate 2 refine wL (OpA.m ?_)
 refine wL (OpA.addi rfl rfl rfl q2 ?_)
 refine wL (OpA.call rfl rfl rfl en94 (rsameW_c a (i + n) b (j + n) ) ?_)
 rintro _ rfl
 refine wpL_nil ?_
 refine wpA_cond rfl (fun b5 => ?_) (fun b5 => ?_)
 have h := h.1 b5
 refine wpA_skip ?_
 refine wpA_block ?_
 obtain ⟨q1, h⟩ := h
 refine wpA_region ?_
 refine wL (OpA.m ?_)
 refine wL (OpA.addi rfl rfl rfl q1 ?_)
 refine wL (OpA.a ?_)
 refine wpL_nil ?_
 exact ⟨(), (n + 1), h, (Cov.asg ⟨rfl, rfl, rfl, rfl, rfl, rfl, trivial⟩), (.refl _)⟩
 have h := h.2 b5
 refine wpA_exit ?_
 refine wpA_seq ?_
 refine wpA_region ?_
 refine wL (OpA.m ?_)
 refine wL (OpA.a ?_)
 refine wpL_nil ?_
 refine wpA_ret ?_
 exact ⟨_, (.tmp (d := D.i n) rfl .nil), _, (.same rfl .nil), ⟨n, rfl, h⟩⟩
theorem rlength_c (a : Text) (i : Int) (b : Text) (j : Int) (hp0 : okT a) (hp1 : okT b) (hp2 : 0 ≤ i) (hp3 : 0 ≤ j) (hp4 : inI i) (hp5 : inI j) : Fun false Tryz.prog 58 [encText a, D.i i, encText b, D.i j] (fun d => d = D.i (lenC a i b j)) :=
 Fun.at (enc := fun r => D.i r) (v := lenC a i b j) (rlength_w a i b j  (fun r => r = lenC a i b j) (rlength_ok a i b j _ hp0 hp1 hp2 hp3 hp4 hp5 rfl))
theorem rpair_w (l : (List Text)) (a : Int) (at_ : Int) (b : Int) (n : Int) (Q : (List Clone) → Prop) (h : rpair_vc l a at_ b n Q) : Fun false Tryz.prog 52 [(encL 2 encText) l, D.i a, D.i at_, D.i b, D.i n] (fun d => ∃ r, d = (encL 5 encClone) r ∧ Q r) := by
 unfold rpair_vc at h
 refine Fun.of_body Tryz.func52 rfl Tryz.ntmps52 rfl ?_
 refine wpA_seq ?_
 refine wpA_region ?_
 refine wL (OpA.a ?_)
 refine wpL_nil ?_
 refine wpA_seq ?_
 refine wpA_region ?_
 refine wL (OpA.buildSliceV (enc := encClone) (xs := ([] : List Clone)) rfl ts32 rfl .nil (by decide) rfl (fun c1 => ?_))
 refine wL (OpA.a ?_)
 refine wpL_nil ?_
 refine wpA_seq ?_
 refine wpA_region ?_
 refine wL (OpA.a ?_)
 refine wpL_nil ?_
 iterate 2 refine wpA_seq ?_
 refine wpA_region ?_
 iterate 2 refine wL (OpA.m ?_)
 refine wL (OpA.eql rfl rfl rfl ?_)
 refine wpL_nil ?_
 refine wpA_join (S := Int) (G := Unit) (fun gg ss => asg [(0, (encL 2 encText) l), (1, D.i a), (2, D.i at_), (3, D.i b), (4, D.i n), (10, .v (.slice none 0 0)), (11, .own c1 5 ([] : List D).length ([] : List Clone).length), (12, D.i ss)]) (fun gg ss => [(c1, .cells 5 (winL encClone ([] : List D) ([] : List Clone) ([] : List D)))]) (fun ss => rpair_J1 l a at_ b n Q ss) ?_ ?_
 refine wpA_cond rfl (fun b7 => ?_) (fun b7 => ?_)
 have h := h.1 (beqT b7)
 obtain ⟨q1, h⟩ := h
 refine wpA_region ?_
 refine wL (OpA.m ?_)
 refine wL (OpA.addi rfl rfl rfl q1 ?_)
 refine wL (OpA.a ?_)
 refine wpL_nil ?_
 exact ⟨(), (at_ + 1), h, (Cov.asg ⟨rfl, rfl, rfl, rfl, rfl, rfl, rfl, rfl, trivial⟩), (.refl _)⟩
 have h := h.2 (beqF b7)
 refine wpA_skip ?_
 exact ⟨(), 0, h, (Cov.asg ⟨rfl, rfl, rfl, rfl, rfl, rfl, rfl, rfl, trivial⟩), (.refl _)⟩
 rintro _ from_ h
 have h : rpair_J1 l a at_ b n Q from_ := h
 unfold rpair_J1 at h
 show wpA _ _ _ _ (asg [(0, (encL 2 encText) l), (1, D.i a), (2, D.i at_), (3, D.i b), (4, D.i n), (10, .v (.slice none 0 0)), (11, .own c1 5 ([] : List D).length ([] : List Clone).length), (12, D.i from_)]) [(c1, .cells 5 (winL encClone ([] : List D) ([] : List Clone) ([] : List D)))]
 iterate 2 refine wpA_seq ?_
 refine wpA_region ?_
 refine wL (OpA.m ?_)
 refine wL (OpA.a ?_)
 refine wpL_nil ?_
 refine wpA_block ?_
 refine wpA_lfp (S := (List Clone) × Int) (G := Nat × List D × List D) (c1, ([] : List D), ([] : List D)) (fun gg ss => asg [(0, (encL 2 encText) l), (1, D.i a), (2, D.i at_), (3, D.i b), (4, D.i n), (10, .v (.slice none 0 0)), (11, .own gg.1 5 gg.2.1.length ss.1.length), (13, D.i ss.2)]) (fun gg ss => [(gg.1, .cells 5 (winL encClone gg.2.1 ss.1 gg.2.2))]) h (Cov.asg ⟨rfl, rfl, rfl, rfl, rfl, rfl, rfl, rfl, trivial⟩) (.refl _) ?_
 rintro again2 ⟨cb15, pre15, post15⟩ ⟨out, j⟩ h
 have h : rpair_L1 l a at_ b n Q again2 out j := h
 unfold rpair_L1 at h
 show wpA _ _ _ _ (asg [(0, (encL 2 encText) l), (1, D.i a), (2, D.i at_), (3, D.i b), (4, D.i n), (10, .v (.slice none 0 0)), (11, .own cb15 5 pre15.length out.length), (13, D.i j)]) [(cb15, .cells 5 (winL encClone pre15 out post15))]
 iterate 2 refine wpA_seq ?_
 obtain ⟨q1, h⟩ := h
 refine wpA_region ?_
 iterate 3 refine wL (OpA.m ?_)
 refine wL (OpA.iixV (enc := encText) rfl ts22 rfl rfl rfl q1 ?_)
 refine wL (OpA.ifieldAddr rfl tf28_1 rfl ?_)
 refine wL (OpA.iload rfl ti26 rfl rfl ?_)
 refine wL (OpA.len rfl rfl rfl rfl ts26.desc (.inl ⟨_, _, rfl, (List.length_map _).symm⟩) ?_)
 refine wL (OpA.lss rfl rfl rfl ?_)
 refine wpL_nil ?_
 refine wpA_cond rfl (fun b3 => ?_) (fun b3 => ?_)
 have h := h.1 (decT b3)
 refine wpA_skip ?_
 refine wpA_seq ?_
 refine wpA_block ?_
 refine wpA_seq ?_
 obtain ⟨q1, q2, q3, q4, q5, q6, q7, q8, h⟩ := h
 refine wpA_draw (m := 12) mo (by kernel_rfl) rfl ?_
 iterate 2 refine dL (OpA.m ⟨rfl, rfl⟩) ?_
 refine dL (OpA.iixV (enc := encText) rfl ts22 rfl rfl rfl q1 ⟨rfl, rfl⟩) ?_
 refine dL (OpA.iload_whole rfl ti28 rfl ⟨_, rfl, rfl⟩ ⟨rfl, rfl⟩) ?_
 iterate 3 refine dL (OpA.m ⟨rfl, rfl⟩) ?_
 refine dL (OpA.iixV (enc := encText) rfl ts22 rfl rfl rfl q2 ⟨rfl, rfl⟩) ?_
 refine dL (OpA.iload_whole rfl ti28 rfl ⟨_, rfl, rfl⟩ ⟨rfl, rfl⟩) ?_
 refine dL (OpA.m ⟨rfl, rfl⟩) ?_
 refine dL (OpA.call rfl rfl rfl en58 (rlength_c (gi l a) at_ (gi l b) j q3 q4 q5 q6 q7 q8) (by rintro _ rfl; exact ⟨rfl, rfl⟩)) ?_
 refine dL (OpA.a ⟨rfl, rfl⟩) ?_
 refine DetK.nil ?_
 refine wpL_nil ?_
 refine wpA_seq ?_
 refine wpA_region ?_
 iterate 2 refine wL (OpA.m ?_)
 refine wL (OpA.geq rfl rfl rfl ?_)
 refine wpL_nil ?_
 refine wpA_cond rfl (fun b4 => ?_) (fun b4 => ?_)
 have h := h.1 (decT b4)
 obtain ⟨q1, h⟩ := h
 refine wpA_region ?_
 iterate 6 refine wL (OpA.m ?_)
 refine wL (OpA.buildO (zs := [.v (.int .i64 0), .v (.int .i64 0), .v (.int .i64 0), .v (.int .i64 0), .v (.int .i64 0)]) rfl tp38 tz38 (fun _ _ => (.cons (.v _) (.cons (.v _) (.cons (.v _) (.cons (.v _) (.cons (.v _) .nil)))))) (.cons (.of (sz := 1) rfl) (.cons (.of (sz := 1) rfl) (.cons (.of (sz := 1) rfl) (.cons (.of (sz := 1) rfl) (.cons (.of (sz := 1) rfl) .nil))))) rfl ?_)
 refine wL (OpA.ibuildSliceO rfl ts32 rfl (.cons (.of (sz := 5) rfl) .nil) (by decide) ?_)
 refine wL (OpA.appendW (enc := encClone) rfl rfl rfl rfl ts32 rfl (fun _ _ => .head) (.list (ys := ([(Clone.mk a at_ b j (lenC (gi l a) at_ (gi l b) j))] : List Clone))) q1 (fun c5 pre6 => ?_))
 refine wL (OpA.a ?_)
 refine wpL_nil ?_
 obtain ⟨q1, h⟩ := h
 refine wpA_region ?_
 refine wL (OpA.m ?_)
 refine wL (OpA.addi rfl rfl rfl q1 ?_)
 refine wL (OpA.a ?_)
 refine wpL_nil ?_
 exact ⟨(c5, pre6, ([] : List D)), ((out ++ ([(Clone.mk a at_ b j (lenC (gi l a) at_ (gi l b) j))] : List Clone)), (j + 1)), h, (Cov.asg ⟨rfl, rfl, rfl, rfl, rfl, rfl, rfl, rfl, trivial⟩), (.refl _)⟩
 have h := h.2 (decF b4)
 refine wpA_skip ?_
 obtain ⟨q1, h⟩ := h
 refine wpA_region ?_
 refine wL (OpA.m ?_)
 refine wL (OpA.addi rfl rfl rfl q1 ?_)
 refine wL (OpA.a ?_)
 refine wpL_nil ?_
 exact ⟨(cb15, pre15, post15), (out, (j + 1)), h, (Cov.asg ⟨rfl, rfl, rfl, rfl, rfl, rfl, rfl, rfl, trivial⟩), (.refl _)⟩
 have h := h.2 (decF b3)
 refine wpA_exit ?_
 refine wpA_seq ?_
 refine wpA_region ?_
 refine wL (OpA.m ?_)
 refine wL (OpA.a ?_)
 refine wpL_nil ?_
 refine wpA_ret ?_
 exact ⟨_, (.tmp (d := .own cb15 5 pre15.length out.length) rfl .nil), _, (.win .head (by intro hf; cases hf) .nil), ⟨out, rfl, h⟩⟩
theorem rpair_c (l : (List Text)) (a : Int) (at_ : Int) (b : Int) (n : Int) (hp0 : okTs l) (hp1 : inL a l.length) (hp2 : inL b l.length) (hp3 : 0 ≤ at_) (hp4 : at_ ≤ 1000000) : Fun false Tryz.prog 52 [(encL 2 encText) l, D.i a, D.i at_, D.i b, D.i n] (fun d => d = (encL 5 encClone) (pairF l a at_ b n)) :=
 Fun.at (enc := fun r => (encL 5 encClone) r) (v := pairF l a at_ b n) (rpair_w l a at_ b n  (fun r => r = pairF l a at_ b n) (rpair_ok l a at_ b n _ hp0 hp1 hp2 hp3 hp4 rfl))
theorem ragainst_w (c : Corpus) (t : Text) (Q : (List Clone) × Int → Prop) (h : ragainst_vc c t Q) : Fun false Tryz.prog 12 [encCorpus c, encText t] (fun d => ∃ r, d = .tup [(encL 5 encClone) (r.1), D.i (r.2)] ∧ Q r) := by
 unfold ragainst_vc at h
 refine Fun.of_body Tryz.func12 rfl Tryz.ntmps12 rfl ?_
 refine wpA_seq ?_
 refine wpA_region ?_
 refine wL (OpA.bx (sz := 4) rfl (by with_reducible conv => lhs; whnf) (.of rfl) (fun c1 _ => ?_))
 refine wL (OpA.bx (sz := 2) rfl (by with_reducible conv => lhs; whnf) (.of rfl) (fun c2 _ => ?_))
 iterate 2 refine wL (OpA.a ?_)
 refine wpL_nil ?_
 iterate 2 refine wpA_seq ?_
 obtain ⟨q1, q2, h⟩ := h
 refine wpA_mid (asg [(2, .ptr c1 4 0 0), (3, .ptr c2 2 0 0), (4, .v (.slice none 0 0)), (5, D.i 0), (17, D.b (((checkF c) != 0) || (!(validT t))))]) [(c2, .cells 2 [encText t]), (c1, .cells 4 [encCorpus c])] ?_ ?_
 refine wpA_region ?_
 refine wL (OpA.load_whole rfl ti25 rfl rfl (.tail .head) rfl ⟨_, rfl⟩ ?_)
 refine wL (OpA.call rfl rfl rfl en50 (c26check_c c q1) ?_)
 rintro _ rfl
 refine wL (OpA.neq rfl rfl rfl ?_)
 refine wL (OpA.m ?_)
 refine wpL_split (s := 13) rfl (fun b112 => ?_) (fun b112 => ?_)
 iterate 3 refine wS ?_
 refine wL (OpA.p ?_)
 refine wpL_nil ?_
 exact ⟨(Cov.asg ⟨rfl, rfl, rfl, rfl, (congrArg D.b (Eq.symm (orS b112))), trivial⟩), (.refl _)⟩
 refine wG (OpA.load_whole rfl ti28 rfl rfl .head rfl ⟨_, rfl⟩ ?_)
 refine wG (OpA.call rfl rfl rfl en51 (n23valid_c t (q2 (bneF b112))) ?_)
 rintro _ rfl
 refine wG (OpA.not rfl rfl ?_)
 refine wL (OpA.p ?_)
 refine wpL_nil ?_
 exact ⟨(Cov.asg ⟨rfl, rfl, rfl, rfl, (congrArg D.b (Eq.symm (orN b112 rfl))), trivial⟩), (.refl _)⟩
 show wpA _ _ _ _ (asg [(2, .ptr c1 4 0 0), (3, .ptr c2 2 0 0), (4, .v (.slice none 0 0)), (5, D.i 0), (17, D.b (((checkF c) != 0) || (!(validT t))))]) [(c2, .cells 2 [encText t]), (c1, .cells 4 [encCorpus c])]
 refine wpA_cond rfl (fun b3 => ?_) (fun b3 => ?_)
 have h := h.1 ((or0 b3).imp (fun hh => (bneT hh)) (fun hh => (notT hh)))
 refine wpA_seq ?_
 refine wpA_region ?_
 iterate 2 refine wL (OpA.a ?_)
 refine wpL_nil ?_
 refine wpA_ret ?_
 exact ⟨_, (.tmp (d := .v (.slice none 0 0)) rfl (.tmp (d := D.i 1) rfl .nil)), _, (.tup (.nilv (sz := 5) (.same rfl .nil)) .nil), ⟨([], 1), rfl, h⟩⟩
 have h := h.2 ⟨(bneF (or1 b3)), (notF (or2 b3))⟩
 refine wpA_skip ?_
 refine wpA_seq ?_
 obtain ⟨q3_0, q6_0, h⟩ := h
 refine wpA_states mo (fun W hW => ?_)
 refine flip_goal (a := ∀ (c14 : Nat) (c44 : Nat) (pre45 : List D) (c74 : Nat) (pre75 : List D), W 0 (lv 8 255) (asg [(2, .ptr c1 4 0 0), (4, .v (.slice none 0 0)), (5, D.i 0), (6, (encL 2 encText) ((([] : List Text) ++ c.texts) ++ ([t] : List Text)))]) [(c2, .cells 2 [encText t]), (c1, .cells 4 [encCorpus c])]) (fun s0 => ?_) ?_
 have s1 : ∀ (c14 : Nat) (c44 : Nat) (pre45 : List D) (c74 : Nat) (pre75 : List D), W 1 (lv 8 127) (asg [(2, .ptr c1 4 0 0), (4, .v (.slice none 0 0)), (5, D.i 0), (24, .own c74 2 pre75.length ((([] : List Text) ++ c.texts) ++ ([t] : List Text)).length)]) [(c74, .cells 2 (winL encText pre75 ((([] : List Text) ++ c.texts) ++ ([t] : List Text)) ([] : List D))), (c2, .cells 2 [encText t]), (c1, .cells 4 [encCorpus c])] := fun c14 c44 pre45 c74 pre75 => wpS_of hW (by refine wpS_step (rs := [7]) (by kernel_rfl) rfl ⟨?_, trivial⟩; refine wpS_op (i := 7) (li' := (lv 8 255)) rfl rfl rfl rfl (by kernel_rfl) (OpA.freeze (.inr rfl) rfl (.refl _) (.win (enc := encText) .head (by intro hf; cases hf) .nil) ?_); exact wpS_to hW (s0 c14 c44 pre45 c74 pre75) (Cov.asg ⟨rfl, rfl, rfl, rfl, trivial⟩) (.refl _))
 have s2 : ∀ (c14 : Nat) (c44 : Nat) (pre45 : List D), W 2 (lv 8 63) (asg [(2, .ptr c1 4 0 0), (4, .v (.slice none 0 0)), (5, D.i 0), (21, .own c44 2 pre45.length (([] : List Text) ++ c.texts).length), (23, (encL 2 encText) ([t] : List Text))]) [(c44, .cells 2 (winL encText pre45 (([] : List Text) ++ c.texts) ([] : List D))), (c2, .cells 2 [encText t]), (c1, .cells 4 [encCorpus c])] := fun c14 c44 pre45 => wpS_of hW (by refine wpS_step (rs := [6]) (by kernel_rfl) rfl ⟨?_, trivial⟩; refine wpS_op (i := 6) (li' := (lv 8 127)) rfl rfl rfl rfl (by kernel_rfl) (OpA.appendW (enc := encText) rfl rfl rfl rfl ts22 rfl (fun _ _ => .head) (.list (ys := ([t] : List Text))) q6_0 (fun c74 pre75 => ?_)); exact wpS_to hW (s1 c14 c44 pre45 c74 pre75) (Cov.asg ⟨rfl, rfl, rfl, rfl, trivial⟩) (.refl _))
 have s3 : ∀ (c14 : Nat) (c44 : Nat) (pre45 : List D), W 3 (lv 8 31) (asg [(2, .ptr c1 4 0 0), (4, .v (.slice none 0 0)), (5, D.i 0), (21, .own c44 2 pre45.length (([] : List Text) ++ c.texts).length), (22, encText t)]) [(c44, .cells 2 (winL encText pre45 (([] : List Text) ++ c.texts) ([] : List D))), (c2, .cells 2 [encText t]), (c1, .cells 4 [encCorpus c])] := fun c14 c44 pre45 => wpS_of hW (by refine wpS_step (rs := [5]) (by kernel_rfl) rfl ⟨?_, trivial⟩; refine wpS_op (i := 5) (li' := (lv 8 63)) rfl rfl rfl rfl (by kernel_rfl) (OpA.ibuildSliceO rfl ts22 rfl (.cons (.of (sz := 2) rfl) .nil) (by decide) ?_); exact wpS_to hW (s2 c14 c44 pre45) (Cov.asg ⟨rfl, rfl, rfl, rfl, rfl, trivial⟩) (.refl _))
 have s4 : ∀ (c14 : Nat), W 3 (lv 8 55) (asg [(2, .ptr c1 4 0 0), (4, .v (.slice none 0 0)), (5, D.i 0), (18, .own c14 2 ([] : List D).length ([] : List Text).length), (20, (encL 2 encText) c.texts), (23, (encL 2 encText) ([t] : List Text))]) [(c14, .cells 2 (winL encText ([] : List D) ([] : List Text) ([] : List D))), (c2, .cells 2 [encText t]), (c1, .cells 4 [encCorpus c])] := fun c14 => wpS_of hW (by refine wpS_step (rs := [3]) (by kernel_rfl) rfl ⟨?_, trivial⟩; refine wpS_op (i := 3) (li' := (lv 8 63)) rfl rfl rfl rfl (by kernel_rfl) (OpA.appendW (enc := encText) rfl rfl rfl rfl ts22 rfl (fun _ _ => .head) (.list (ys := c.texts)) q3_0 (fun c44 pre45 => ?_)); exact wpS_to hW (s2 c14 c44 pre45) (Cov.asg ⟨rfl, rfl, rfl, rfl, rfl, trivial⟩) (.refl _))
 have s5 : ∀ (c14 : Nat) (c44 : Nat) (pre45 : List D), W 4 (lv 8 15) (asg [(2, .ptr c1 4 0 0), (3, .ptr c2 2 0 0), (4, .v (.slice none 0 0)), (5, D.i 0), (21, .own c44 2 pre45.length (([] : List Text) ++ c.texts).length)]) [(c44, .cells 2 (winL encText pre45 (([] : List Text) ++ c.texts) ([] : List D))), (c2, .cells 2 [encText t]), (c1, .cells 4 [encCorpus c])] := fun c14 c44 pre45 => wpS_of hW (by refine wpS_step (rs := [4]) (by kernel_rfl) rfl ⟨?_, trivial⟩; refine wpS_op (i := 4) (li' := (lv 8 31)) rfl rfl rfl rfl (by kernel_rfl) (OpA.load_whole rfl ti28 rfl rfl (.tail .head) rfl ⟨_, rfl⟩ ?_); exact wpS_to hW (s3 c14 c44 pre45) (Cov.asg ⟨rfl, rfl, rfl, rfl, rfl, trivial⟩) (.refl _))
 have s6 : ∀ (c14 : Nat), W 4 (lv 8 23) (asg [(2, .ptr c1 4 0 0), (4, .v (.slice none 0 0)), (5, D.i 0), (18, .own c14 2 ([] : List D).length ([] : List Text).length), (20, (encL 2 encText) c.texts), (22, encText t)]) [(c14, .cells 2 (winL encText ([] : List D) ([] : List Text) ([] : List D))), (c2, .cells 2 [encText t]), (c1, .cells 4 [encCorpus c])] := fun c14 => wpS_of hW (by refine wpS_step (rs := [3, 5]) (by kernel_rfl) rfl ⟨?_, ?_, trivial⟩; refine wpS_op (i := 3) (li' := (lv 8 31)) rfl rfl rfl rfl (by kernel_rfl) (OpA.appendW (enc := encText) rfl rfl rfl rfl ts22 rfl (fun _ _ => .head) (.list (ys := c.texts)) q3_0 (fun c44 pre45 => ?_)); exact wpS_to hW (s3 c14 c44 pre45) (Cov.asg ⟨rfl, rfl, rfl, rfl, rfl, trivial⟩) (.refl _); refine wpS_op (i := 5) (li' := (lv 8 55)) rfl rfl rfl rfl (by kernel_rfl) (OpA.ibuildSliceO rfl ts22 rfl (.cons (.of (sz := 2) rfl) .nil) (by decide) ?_); exact wpS_to hW (s4 c14) (Cov.asg ⟨rfl, rfl, rfl, rfl, rfl, rfl, trivial⟩) (.refl _))
 have s7 : ∀ (c14 : Nat), W 4 (lv 8 51) (asg [(2, .ptr c1 4 0 0), (4, .v (.slice none 0 0)), (5, D.i 0), (18, .own c14 2 ([] : List D).length ([] : List Text).length), (19, .ptr c1 4 0 2), (23, (encL 2 encText) ([t] : List Text))]) [(c14, .cells 2 (winL encText ([] : List D) ([] : List Text) ([] : List D))), (c2, .cells 2 [encText t]), (c1, .cells 4 [encCorpus c])] := fun c14 => wpS_of hW (by refine wpS_step (rs := [2]) (by kernel_rfl) rfl ⟨?_, trivial⟩; refine wpS_op (i := 2) (li' := (lv 8 55)) rfl rfl rfl rfl (by kernel_rfl) (OpA.load rfl ti22 rfl (.tail (.tail .head)) rfl rfl ?_); exact wpS_to hW (s4 c14) (Cov.asg ⟨rfl, rfl, rfl, rfl, rfl, rfl, trivial⟩) (.refl _))
 have s8 : W 4 (lv 8 54) (asg [(2, .ptr c1 4 0 0), (4, .v (.slice none 0 0)), (5, D.i 0), (20, (encL 2 encText) c.texts), (23, (encL 2 encText) ([t] : List Text))]) [(c2, .cells 2 [encText t]), (c1, .cells 4 [encCorpus c])] := wpS_of hW (by refine wpS_step (rs := [0]) (by kernel_rfl) rfl ⟨?_, trivial⟩; refine wpS_op (i := 0) (li' := (lv 8 55)) rfl rfl rfl rfl (by kernel_rfl) (OpA.buildSliceV (enc := encText) (xs := ([] : List Text)) rfl ts22 rfl .nil (by decide) rfl (fun c14 => ?_)); exact wpS_to hW (s4 c14) (Cov.asg ⟨rfl, rfl, rfl, rfl, rfl, rfl, trivial⟩) (.refl _))
 have s9 : ∀ (c14 : Nat), W 5 (lv 8 7) (asg [(2, .ptr c1 4 0 0), (3, .ptr c2 2 0 0), (4, .v (.slice none 0 0)), (5, D.i 0), (18, .own c14 2 ([] : List D).length ([] : List Text).length), (20, (encL 2 encText) c.texts)]) [(c14, .cells 2 (winL encText ([] : List D) ([] : List Text) ([] : List D))), (c2, .cells 2 [encText t]), (c1, .cells 4 [encCorpus c])] := fun c14 => wpS_of hW (by refine wpS_step (rs := [3, 4]) (by kernel_rfl) rfl ⟨?_, ?_, trivial⟩; refine wpS_op (i := 3) (li' := (lv 8 15)) rfl rfl rfl rfl (by kernel_rfl) (OpA.appendW (enc := encText) rfl rfl rfl rfl ts22 rfl (fun _ _ => .head) (.list (ys := c.texts)) q3_0 (fun c44 pre45 => ?_)); exact wpS_to hW (s5 c14 c44 pre45) (Cov.asg ⟨rfl, rfl, rfl, rfl, rfl, trivial⟩) (.refl _); refine wpS_op (i := 4) (li' := (lv 8 23)) rfl rfl rfl rfl (by kernel_rfl) (OpA.load_whole rfl ti28 rfl rfl (.tail .head) rfl ⟨_, rfl⟩ ?_); exact wpS_to hW (s6 c14) (Cov.asg ⟨rfl, rfl, rfl, rfl, rfl, rfl, trivial⟩) (.refl _))
 have s10 : ∀ (c14 : Nat), W 5 (lv 8 19) (asg [(2, .ptr c1 4 0 0), (4, .v (.slice none 0 0)), (5, D.i 0), (18, .own c14 2 ([] : List D).length ([] : List Text).length), (19, .ptr c1 4 0 2), (22, encText t)]) [(c14, .cells 2 (winL encText ([] : List D) ([] : List Text) ([] : List D))), (c2, .cells 2 [encText t]), (c1, .cells 4 [encCorpus c])] := fun c14 => wpS_of hW (by refine wpS_step (rs := [2, 5]) (by kernel_rfl) rfl ⟨?_, ?_, trivial⟩; refine wpS_op (i := 2) (li' := (lv 8 23)) rfl rfl rfl rfl (by kernel_rfl) (OpA.load rfl ti22 rfl (.tail (.tail .head)) rfl rfl ?_); exact wpS_to hW (s6 c14) (Cov.asg ⟨rfl, rfl, rfl, rfl, rfl, rfl, trivial⟩) (.refl _); refine wpS_op (i := 5) (li' := (lv 8 51)) rfl rfl rfl rfl (by kernel_rfl) (OpA.ibuildSliceO rfl ts22 rfl (.cons (.of (sz := 2) rfl) .nil) (by decide) ?_); exact wpS_to hW (s7 c14) (Cov.asg ⟨rfl, rfl, rfl, rfl, rfl, rfl, trivial⟩) (.refl _))
 have s11 : W 5 (lv 8 22) (asg [(2, .ptr c1 4 0 0), (4, .v (.slice none 0 0)), (5, D.i 0), (20, (encL 2 encText) c.texts), (22, encText t)]) [(c2, .cells 2 [encText t]), (c1, .cells 4 [encCorpus c])] := wpS_of hW (by refine wpS_step (rs := [0, 5]) (by kernel_rfl) rfl ⟨?_, ?_, trivial⟩; refine wpS_op (i := 0) (li' := (lv 8 23)) rfl rfl rfl rfl (by kernel_rfl) (OpA.buildSliceV (enc := encText) (xs := ([] : List Text)) rfl ts22 rfl .nil (by decide) rfl (fun c14 => ?_)); exact wpS_to hW (s6 c14) (Cov.asg ⟨rfl, rfl, rfl, rfl, rfl, rfl, trivial⟩) (.refl _); refine wpS_op (i := 5) (li' := (lv 8 54)) rfl rfl rfl rfl (by kernel_rfl) (OpA.ibuildSliceO rfl ts22 rfl (.cons (.of (sz := 2) rfl) .nil) (by decide) ?_); exact wpS_to hW (s8) (Cov.asg ⟨rfl, rfl, rfl, rfl, rfl, trivial⟩) (.refl _))
 have s12 : W 5 (lv 8 50) (asg [(2, .ptr c1 4 0 0), (4, .v (.slice none 0 0)), (5, D.i 0), (19, .ptr c1 4 0 2), (23, (encL 2 encText) ([t] : List Text))]) [(c2, .cells 2 [encText t]), (c1, .cells 4 [encCorpus c])] := wpS_of hW (by refine wpS_step (rs := [0, 2]) (by kernel_rfl) rfl ⟨?_, ?_, trivial⟩; refine wpS_op (i := 0) (li' := (lv 8 51)) rfl rfl rfl rfl (by kernel_rfl) (OpA.buildSliceV (enc := encText) (xs := ([] : List Text)) rfl ts22 rfl .nil (by decide) rfl (fun c14 => ?_)); exact wpS_to hW (s7 c14) (Cov.asg ⟨rfl, rfl, rfl, rfl, rfl, rfl, trivial⟩) (.refl _); refine wpS_op (i := 2) (li' := (lv 8 54)) rfl rfl rfl rfl (by kernel_rfl) (OpA.load rfl ti22 rfl (.tail .head) rfl rfl ?_); exact wpS_to hW (s8) (Cov.asg ⟨rfl, rfl, rfl, rfl, rfl, trivial⟩) (.refl _))
 have s13 : ∀ (c14 : Nat), W 6 (lv 8 3) (asg [(2, .ptr c1 4 0 0), (3, .ptr c2 2 0 0), (4, .v (.slice none 0 0)), (5, D.i 0), (18, .own c14 2 ([] : List D).length ([] : List Text).length), (19, .ptr c1 4 0 2)]) [(c14, .cells 2 (winL encText ([] : List D) ([] : List Text) ([] : List D))), (c2, .cells 2 [encText t]), (c1, .cells 4 [encCorpus c])] := fun c14 => wpS_of hW (by refine wpS_step (rs := [2, 4]) (by kernel_rfl) rfl ⟨?_, ?_, trivial⟩; refine wpS_op (i := 2) (li' := (lv 8 7)) rfl rfl rfl rfl (by kernel_rfl) (OpA.load rfl ti22 rfl (.tail (.tail .head)) rfl rfl ?_); exact wpS_to hW (s9 c14) (Cov.asg ⟨rfl, rfl, rfl, rfl, rfl, rfl, trivial⟩) (.refl _); refine wpS_op (i := 4) (li' := (lv 8 19)) rfl rfl rfl rfl (by kernel_rfl) (OpA.load_whole rfl ti28 rfl rfl (.tail .head) rfl ⟨_, rfl⟩ ?_); exact wpS_to hW (s10 c14) (Cov.asg ⟨rfl, rfl, rfl, rfl, rfl, rfl, trivial⟩) (.refl _))
 have s14 : W 6 (lv 8 6) (asg [(2, .ptr c1 4 0 0), (3, .ptr c2 2 0 0), (4, .v (.slice none 0 0)), (5, D.i 0), (20, (encL 2 encText) c.texts)]) [(c2, .cells 2 [encText t]), (c1, .cells 4 [encCorpus c])] := wpS_of hW (by refine wpS_step (rs := [0, 4]) (by kernel_rfl) rfl ⟨?_, ?_, trivial⟩; refine wpS_op (i := 0) (li' := (lv 8 7)) rfl rfl rfl rfl (by kernel_rfl) (OpA.buildSliceV (enc := encText) (xs := ([] : List Text)) rfl ts22 rfl .nil (by decide) rfl (fun c14 => ?_)); exact wpS_to hW (s9 c14) (Cov.asg ⟨rfl, rfl, rfl, rfl, rfl, rfl, trivial⟩) (.refl _); refine wpS_op (i := 4) (li' := (lv 8 22)) rfl rfl rfl rfl (by kernel_rfl) (OpA.load_whole rfl ti28 rfl rfl .head rfl ⟨_, rfl⟩ ?_); exact wpS_to hW (s11) (Cov.asg ⟨rfl, rfl, rfl, rfl, rfl, trivial⟩) (.refl _))
 have s15 : W 6 (lv 8 18) (asg [(2, .ptr c1 4 0 0), (4, .v (.slice none 0 0)), (5, D.i 0), (19, .ptr c1 4 0 2), (22, encText t)]) [(c2, .cells 2 [encText t]), (c1, .cells 4 [encCorpus c])] := wpS_of hW (by refine wpS_step (rs := [0, 2, 5]) (by kernel_rfl) rfl ⟨?_, ?_, ?_, trivial⟩; refine wpS_op (i := 0) (li' := (lv 8 19)) rfl rfl rfl rfl (by kernel_rfl) (OpA.buildSliceV (enc := encText) (xs := ([] : List Text)) rfl ts22 rfl .nil (by decide) rfl (fun c14 => ?_)); exact wpS_to hW (s10 c14) (Cov.asg ⟨rfl, rfl, rfl, rfl, rfl, rfl, trivial⟩) (.refl _); refine wpS_op (i := 2) (li' := (lv 8 22)) rfl rfl rfl rfl (by kernel_rfl) (OpA.load rfl ti22 rfl (.tail .head) rfl rfl ?_); exact wpS_to hW (s11) (Cov.asg ⟨rfl, rfl, rfl, rfl, rfl, trivial⟩) (.refl _); refine wpS_op (i := 5) (li' := (lv 8 50)) rfl rfl rfl rfl (by kernel_rfl) (OpA.ibuildSliceO rfl ts22 rfl (.cons (.of (sz := 2) rfl) .nil) (by decide) ?_); exact wpS_to hW (s12) (Cov.asg ⟨rfl, rfl, rfl, rfl, rfl, trivial⟩) (.refl _))
 have s16 : W 7 (lv 8 2) (asg [(2, .ptr c1 4 0 0), (3, .ptr c2 2 0 0), (4, .v (.slice none 0 0)), (5, D.i 0), (19, .ptr c1 4 0 2)]) [(c2, .cells 2 [encText t]), (c1, .cells 4 [encCorpus c])] := wpS_of hW (by refine wpS_step (rs := [0, 2, 4]) (by kernel_rfl) rfl ⟨?_, ?_, ?_, trivial⟩; refine wpS_op (i := 0) (li' := (lv 8 3)) rfl rfl rfl rfl (by kernel_rfl) (OpA.buildSliceV (enc := encText) (xs := ([] : List Text)) rfl ts22 rfl .nil (by decide) rfl (fun c14 => ?_)); exact wpS_to hW (s13 c14) (Cov.asg ⟨rfl, rfl, rfl, rfl, rfl, rfl, trivial⟩) (.refl _); refine wpS_op (i := 2) (li' := (lv 8 6)) rfl rfl rfl rfl (by kernel_rfl) (OpA.load rfl ti22 rfl (.tail .head) rfl rfl ?_); exact wpS_to hW (s14) (Cov.asg ⟨rfl, rfl, rfl, rfl, rfl, trivial⟩) (.refl _); refine wpS_op (i := 4) (li' := (lv 8 18)) rfl rfl rfl rfl (by kernel_rfl) (OpA.load_whole rfl ti28 rfl rfl .head rfl ⟨_, rfl⟩ ?_); exact wpS_to hW (s15) (Cov.asg ⟨rfl, rfl, rfl, rfl, rfl, trivial⟩) (.refl _))
 refine wpS_of hW ?_
 refine wpS_firstY (fuel := 7) (i := 1) (li' := (lv 8 2)) rfl rfl (.fieldAddr rfl tf25_2 rfl) rfl rfl (by kernel_rfl) (by kernel_rfl) (by kernel_rfl) (fun _ _ _ hx => hx) rfl rfl (by kernel_rfl) ?_
 exact wpS_to hW s16 (Cov.asg ⟨rfl, rfl, rfl, rfl, rfl, trivial⟩) (.refl _)
 intro c14 c44 pre45 c74 pre75
 refine wpS_of hW (wpS_done (by kernel_rfl) ?_)
 refine wpA_seq ?_
 refine wpA_region ?_
 refine wL (OpA.buildSliceV (enc := encClone) (xs := ([] : List Clone)) rfl ts32 rfl .nil (by decide) rfl (fun c104 => ?_))
 refine wL (OpA.a ?_)
 refine wpL_nil ?_
 iterate 2 refine wpA_seq ?_
 refine wpA_region ?_
 refine wL (OpA.a ?_)
 refine wpL_nil ?_
 refine wpA_block ?_
 refine wpA_lfp (S := (List Clone) × Int) (G := Nat × List D × List D) (c104, ([] : List D), ([] : List D)) (fun gg ss => asg [(2, .ptr c1 4 0 0), (4, .v (.slice none 0 0)), (5, D.i 0), (6, (encL 2 encText) ((([] : List Text) ++ c.texts) ++ ([t] : List Text))), (7, .own gg.1 5 gg.2.1.length ss.1.length), (8, D.i ss.2)]) (fun gg ss => [(gg.1, .cells 5 (winL encClone gg.2.1 ss.1 gg.2.2)), (c2, .cells 2 [encText t]), (c1, .cells 4 [encCorpus c])]) h (Cov.asg ⟨rfl, rfl, rfl, rfl, rfl, rfl, trivial⟩) (.refl _) ?_
 rintro again105 ⟨cb25, pre25, post25⟩ ⟨out, a⟩ h
 have h : ragainst_L1 c t Q again105 out a := h
 unfold ragainst_L1 at h
 show wpA _ _ _ _ (asg [(2, .ptr c1 4 0 0), (4, .v (.slice none 0 0)), (5, D.i 0), (6, (encL 2 encText) ((([] : List Text) ++ c.texts) ++ ([t] : List Text))), (7, .own cb25 5 pre25.length out.length), (8, D.i a)]) [(cb25, .cells 5 (winL encClone pre25 out post25)), (c2, .cells 2 [encText t]), (c1, .cells 4 [encCorpus c])]
 iterate 2 refine wpA_seq ?_
 refine wpA_region ?_
 refine wL (OpA.m ?_)
 refine wL (OpA.fieldAddr rfl tf25_2 rfl ?_)
 refine wL (OpA.load rfl ti22 rfl (.tail (.tail .head)) rfl rfl ?_)
 refine wL (OpA.len rfl rfl rfl rfl ts22.desc (.inl ⟨_, _, rfl, (List.length_map _).symm⟩) ?_)
 refine wL (OpA.lss rfl rfl rfl ?_)
 refine wpL_nil ?_
 refine wpA_cond rfl (fun b106 => ?_) (fun b106 => ?_)
 have h := h.1 (decT b106)
 refine wpA_skip ?_
 refine wpA_seq ?_
 refine wpA_block ?_
 refine wpA_seq ?_
 refine wpA_region ?_
 refine wL (OpA.a ?_)
 refine wpL_nil ?_
 refine wpA_block ?_
 refine wpA_lfp (S := (List Clone) × Int) (G := Nat × List D × List D) (cb25, pre25, post25) (fun gg ss => asg [(2, .ptr c1 4 0 0), (4, .v (.slice none 0 0)), (5, D.i 0), (6, (encL 2 encText) ((([] : List Text) ++ c.texts) ++ ([t] : List Text))), (7, .own gg.1 5 gg.2.1.length ss.1.length), (8, D.i a), (9, D.i ss.2)]) (fun gg ss => [(gg.1, .cells 5 (winL encClone gg.2.1 ss.1 gg.2.2)), (c2, .cells 2 [encText t]), (c1, .cells 4 [encCorpus c])]) h (Cov.asg ⟨rfl, rfl, rfl, rfl, rfl, rfl, rfl, trivial⟩) (.refl _) ?_
 rintro again107 ⟨cb251, pre251, post251⟩ ⟨out1, i⟩ h
 have h : ragainst_L2 c t a again105 again107 out1 i := h
 unfold ragainst_L2 at h
 show wpA _ _ _ _ (asg [(2, .ptr c1 4 0 0), (4, .v (.slice none 0 0)), (5, D.i 0), (6, (encL 2 encText) ((([] : List Text) ++ c.texts) ++ ([t] : List Text))), (7, .own cb251 5 pre251.length out1.length), (8, D.i a), (9, D.i i)]) [(cb251, .cells 5 (winL encClone pre251 out1 post251)), (c2, .cells 2 [encText t]), (c1, .cells 4 [encCorpus c])]
 iterate 2 refine wpA_seq ?_
 obtain ⟨q1, h⟩ := h
 refine wpA_region ?_
 iterate 3 refine wL (OpA.m ?_)
 refine wL (OpA.iixV (enc := encText) rfl ts22 rfl rfl rfl q1 ?_)
 refine wL (OpA.ifieldAddr rfl tf28_1 rfl ?_)
 refine wL (OpA.iload rfl ti26 rfl rfl ?_)
 refine wL (OpA.len rfl rfl rfl rfl ts26.desc (.inl ⟨_, _, rfl, (List.length_map _).symm⟩) ?_)
 refine wL (OpA.lss rfl rfl rfl ?_)
 refine wpL_nil ?_
 refine wpA_cond rfl (fun b108 => ?_) (fun b108 => ?_)
 have h := h.1 (decT b108)
 refine wpA_skip ?_
 refine wpA_seq ?_
 refine wpA_block ?_
 obtain ⟨q1, q2, q3, q4, q5, q6, q7, q8, h⟩ := h
 refine wpA_region ?_
 iterate 4 refine wL (OpA.m ?_)
 refine wL (OpA.fieldAddr rfl tf25_2 rfl ?_)
 refine wL (OpA.load rfl ti22 rfl (.tail (.tail .head)) rfl rfl ?_)
 refine wL (OpA.len rfl rfl rfl rfl ts22.desc (.inl ⟨_, _, rfl, (List.length_map _).symm⟩) ?_)
 refine wL (OpA.fieldAddr rfl tf25_0 rfl ?_)
 refine wL (OpA.load rfl ti3 rfl (.tail (.tail .head)) rfl rfl ?_)
 refine wL (OpA.fieldAddr rfl tf25_1 rfl ?_)
 refine wL (OpA.load rfl ti3 rfl (.tail (.tail .head)) rfl rfl ?_)
 refine wL (OpA.addi rfl rfl rfl q1 ?_)
 refine wL (OpA.subi rfl rfl rfl q2 ?_)
 refine wL (OpA.call rfl rfl rfl en52 (rpair_c ((([] : List Text) ++ c.texts) ++ ([t] : List Text)) a i (c.texts.length : Int) ((c.k + c.w) - 1) q3 q4 q5 q6 q7) ?_)
 rintro _ rfl
 refine wL (OpA.appendW (enc := encClone) rfl rfl rfl rfl ts32 rfl (fun _ _ => .head) (.list (ys := (pairF ((([] : List Text) ++ c.texts) ++ ([t] : List Text)) a i (c.texts.length : Int) ((c.k + c.w) - 1)))) q8 (fun c109 pre110 => ?_))
 refine wL (OpA.a ?_)
 refine wpL_nil ?_
 obtain ⟨q1, h⟩ := h
 refine wpA_region ?_
 refine wL (OpA.m ?_)
 refine wL (OpA.addi rfl rfl rfl q1 ?_)
 refine wL (OpA.a ?_)
 refine wpL_nil ?_
 exact ⟨(c109, pre110, ([] : List D)), ((out1 ++ (pairF ((([] : List Text) ++ c.texts) ++ ([t] : List Text)) a i (c.texts.length : Int) ((c.k + c.w) - 1))), (i + 1)), h, (Cov.asg ⟨rfl, rfl, rfl, rfl, rfl, rfl, rfl, trivial⟩), (.refl _)⟩
 have h := h.2 (decF b108)
 refine wpA_exit ?_
 obtain ⟨q1, h⟩ := h
 refine wpA_region ?_
 refine wL (OpA.m ?_)
 refine wL (OpA.addi rfl rfl rfl q1 ?_)
 refine wL (OpA.a ?_)
 refine wpL_nil ?_
 exact ⟨(cb251, pre251, post251), (out1, (a + 1)), h, (Cov.asg ⟨rfl, rfl, rfl, rfl, rfl, rfl, trivial⟩), (.refl _)⟩
 have h := h.2 (decF b106)
 refine wpA_exit ?_
 iterate 2 refine wpA_seq ?_
 refine wpA_region ?_
 refine wL (OpA.m ?_)
 refine wL (OpA.len rfl rfl rfl rfl ts32.desc (.inr (.inl ⟨_, _, _, rfl⟩)) ?_)
 refine wL (OpA.gtr rfl rfl rfl ?_)
 refine wpL_nil ?_
 refine wpA_cond rfl (fun b111 => ?_) (fun b111 => ?_)
 have h := h.1 (decT b111)
 refine wpA_seq ?_
 refine wpA_region ?_
 iterate 2 refine wL (OpA.a ?_)
 refine wpL_nil ?_
 refine wpA_ret ?_
 exact ⟨_, (.tmp (d := .v (.slice none 0 0)) rfl (.tmp (d := D.i 10) rfl .nil)), _, (.tup (.nilv (sz := 5) (.same rfl .nil)) .nil), ⟨([], 10), rfl, h⟩⟩
 have h := h.2 (decF b111)
 refine wpA_skip ?_
 refine wpA_seq ?_
 refine wpA_region ?_
 refine wL (OpA.m ?_)
 iterate 2 refine wL (OpA.a ?_)
 refine wpL_nil ?_
 refine wpA_ret ?_
 exact ⟨_, (.tmp (d := .own cb25 5 pre25.length out.length) rfl (.tmp (d := D.i 0) rfl .nil)), _, (.tup (.win .head (by intro hf; cases hf) (.same rfl .nil)) .nil), ⟨(out, 0), rfl, h⟩⟩
theorem ragainst_c (c : Corpus) (t : Text) (hp0 : okC c) (hp1 : okT t) : Fun false Tryz.prog 12 [encCorpus c, encText t] (fun d => d = .tup [(encL 5 encClone) ((againstC c t).1), D.i ((againstC c t).2)]) :=
 Fun.at (enc := fun r => .tup [(encL 5 encClone) (r.1), D.i (r.2)]) (v := againstC c t) (ragainst_w c t  (fun r => r = againstC c t) (ragainst_ok c t _ hp0 hp1 rfl))
end Go.Proofs.YtglclijalehcmaaGreatDoor
