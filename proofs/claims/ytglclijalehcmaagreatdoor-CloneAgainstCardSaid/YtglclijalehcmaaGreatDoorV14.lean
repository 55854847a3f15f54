/-
  walks and contracts
-/
import Derived.Test.YtglclijalehcmaaGreatDoorV10
import Derived.Test.YtglclijalehcmaaGreatDoorKwZ
set_option linter.all false
namespace Go.Proofs.YtglclijalehcmaaGreatDoor
open Go Go.Lic Go.Sort Go.Proofs
attribute [local irreducible] addF addP againstC badR behindF blankF checkC checkF checkF29 cloneCmp clonesF cmpB cmpI codeF commonF4 countF countL famF fewC fewTs fewW findC findT gramsF growTF guarF has1F hasF hashF indexF insideF insideT leastF lenC lenF lookF mergeF mul64F mulP nameR nearC nearF newF ofF orF packF pairF partF pathB pathF postCmp postLt postsF powF printsF pushF rightL rollF sameW selectF sizeF spanCmp splitF splitG textF validF validT
set_option maxHeartbeats 2000000 in
set_option maxRecDepth 10000 in
theorem lawAgainst_w (c : Corpus) (t : Text) (Q : Bool → Prop) (h : lawAgainst_vc c t Q) : Fun false Tryz.prog 3 [encCorpus c, encText t] (fun d => ∃ r, d = D.b r ∧ Q r) := by
 unfold lawAgainst_vc at h
 refine Fun.of_body Tryz.func3 rfl Tryz.ntmps3 rfl ?_
 refine wpA_seq ?_
 refine wpA_region ?_
 refine wL (OpA.bx (sz := 4) rfl (by with_reducible conv => lhs; whnf) (.of rfl) (fun c1 _ => ?_))
 refine wL (OpA.bx (sz := 2) rfl (by with_reducible conv => lhs; whnf) (.of rfl) (fun c2 _ => ?_))
 refine wL (OpA.a ?_)
 refine wpL_nil ?_
 iterate 2 refine wpA_seq ?_
 refine wpA_region ?_
 refine wL (OpA.call rfl rfl rfl en8 (awake_c  ) ?_)
 rintro _ rfl
 refine wL (OpA.not rfl rfl ?_)
 refine wpL_nil ?_
 refine wpA_cond rfl (fun b3 => ?_) (fun b3 => ?_)
 have h := h.1 (notT b3)
 refine wpA_seq ?_
 refine wpA_region ?_
 refine wL (OpA.a ?_)
 refine wpL_nil ?_
 refine wpA_ret ?_
 exact ⟨_, (.tmp (d := D.b false) rfl .nil), _, (.same rfl .nil), ⟨false, rfl, h⟩⟩
 have h := h.2 (notF b3)
 refine wpA_skip ?_
 iterate 2 refine wpA_seq ?_
 refine wpA_mid (asg [(2, .ptr c1 4 0 0), (3, .ptr c2 2 0 0), (4, D.b false), (19, D.b ((!(fewC c)) || (!(fewTs ([t] : List Text)))))]) [(c2, .cells 2 [encText t]), (c1, .cells 4 [encCorpus c])] ?_ ?_
 refine wpA_region ?_
 refine wL (OpA.load_whole rfl ti25 rfl rfl (.tail .head) rfl ⟨_, rfl⟩ ?_)
 refine wL (OpA.call rfl rfl rfl en9 (c26few_c c ) ?_)
 rintro _ rfl
 refine wL (OpA.not rfl rfl ?_)
 refine wL (OpA.m ?_)
 refine wpL_split (s := 14) rfl (fun b6 => ?_) (fun b6 => ?_)
 iterate 4 refine wS ?_
 refine wL (OpA.p ?_)
 refine wpL_nil ?_
 exact ⟨(Cov.asg ⟨rfl, rfl, rfl, (congrArg D.b (Eq.symm (orS b6))), trivial⟩), (.refl _)⟩
 refine wG (OpA.load_whole rfl ti28 rfl rfl .head rfl ⟨_, rfl⟩ ?_)
 refine wG (OpA.ibuildSliceO rfl ts22 rfl (.cons (.of (sz := 2) rfl) .nil) (by decide) ?_)
 refine wG (OpA.call rfl rfl rfl en10 (c26fewt_c ([t] : List Text) ) ?_)
 rintro _ rfl
 refine wG (OpA.not rfl rfl ?_)
 refine wL (OpA.p ?_)
 refine wpL_nil ?_
 exact ⟨(Cov.asg ⟨rfl, rfl, rfl, (congrArg D.b (Eq.symm (orN b6 rfl))), trivial⟩), (.refl _)⟩
 show wpA _ _ _ _ (asg [(2, .ptr c1 4 0 0), (3, .ptr c2 2 0 0), (4, D.b false), (19, D.b ((!(fewC c)) || (!(fewTs ([t] : List Text)))))]) [(c2, .cells 2 [encText t]), (c1, .cells 4 [encCorpus c])]
 refine wpA_cond rfl (fun b4 => ?_) (fun b4 => ?_)
 have h := h.1 ((or0 b4).imp (fun hh => (notT hh)) (fun hh => (notT hh)))
 refine wpA_seq ?_
 refine wpA_region ?_
 refine wL (OpA.a ?_)
 refine wpL_nil ?_
 refine wpA_ret ?_
 exact ⟨_, (.tmp (d := D.b true) rfl .nil), _, (.same rfl .nil), ⟨true, rfl, h⟩⟩
 have h := h.2 ⟨(notF (or1 b4)), (notF (or2 b4))⟩
 refine wpA_skip ?_
 refine wpA_seq ?_
 obtain ⟨q1, q2, h⟩ := h
 refine wpA_region ?_
 refine wL (OpA.load_whole rfl ti25 rfl rfl (.tail .head) rfl ⟨_, rfl⟩ ?_)
 refine wL (OpA.load_whole rfl ti28 rfl rfl .head rfl ⟨_, rfl⟩ ?_)
 refine wL (OpA.call rfl rfl rfl en11 (kagainst_c c t q1 q2) ?_)
 rintro _ rfl
 refine wL (OpA.m ?_)
 iterate 2 refine wL (OpA.extract rfl rfl rfl ?_)
 iterate 2 refine wL (OpA.a ?_)
 refine wpL_nil ?_
 refine wpA_seq ?_
 obtain ⟨q1, q2, h⟩ := h
 refine wpA_region ?_
 refine wL (OpA.load_whole rfl ti25 rfl rfl (.tail .head) rfl ⟨_, rfl⟩ ?_)
 refine wL (OpA.load_whole rfl ti28 rfl rfl .head rfl ⟨_, rfl⟩ ?_)
 refine wL (OpA.call rfl rfl rfl en12 (ragainst_c c t q1 q2) ?_)
 rintro _ rfl
 refine wL (OpA.m ?_)
 iterate 2 refine wL (OpA.extract rfl rfl rfl ?_)
 iterate 2 refine wL (OpA.a ?_)
 refine wpL_nil ?_
 refine wpA_seq ?_
 obtain ⟨q1, h⟩ := h
 refine wpA_mid (asg [(4, D.b ((((againstC c t).2) == ((againstC c t).2)) && (decide (((againstC c t).1) = ((againstC c t).1)))))]) [(c2, .cells 2 [encText t]), (c1, .cells 4 [encCorpus c])] ?_ ?_
 refine wpA_region ?_
 iterate 2 refine wL (OpA.m ?_)
 refine wL (OpA.eql rfl rfl rfl ?_)
 refine wL (OpA.m ?_)
 refine wpL_split (s := 35) rfl (fun b5 => ?_) (fun b5 => ?_)
 iterate 2 refine wG (OpA.m ?_)
 refine wG (OpA.call rfl rfl rfl en13 (eqClones_c ((againstC c t).1) ((againstC c t).1) (q1 (beqT b5))) ?_)
 rintro _ rfl
 refine wL (OpA.p ?_)
 refine wL (OpA.a ?_)
 refine wpL_nil ?_
 exact ⟨(Cov.asg ⟨(congrArg D.b (Eq.symm (andN b5 rfl))), trivial⟩), (.refl _)⟩
 iterate 3 refine wS ?_
 refine wL (OpA.p ?_)
 refine wL (OpA.a ?_)
 refine wpL_nil ?_
 exact ⟨(Cov.asg ⟨(congrArg D.b (Eq.symm (andS b5))), trivial⟩), (.refl _)⟩
 show wpA _ _ _ _ (asg [(4, D.b ((((againstC c t).2) == ((againstC c t).2)) && (decide (((againstC c t).1) = ((againstC c t).1)))))]) [(c2, .cells 2 [encText t]), (c1, .cells 4 [encCorpus c])]
 refine wpA_ret ?_
 exact ⟨_, (.tmp (d := D.b ((((againstC c t).2) == ((againstC c t).2)) && (decide (((againstC c t).1) = ((againstC c t).1))))) rfl .nil), _, (.same rfl .nil), ⟨((((againstC c t).2) == ((againstC c t).2)) && (decide (((againstC c t).1) = ((againstC c t).1)))), rfl, h⟩⟩
theorem lawAgainst_c (c : Corpus) (t : Text)  : Fun false Tryz.prog 3 [encCorpus c, encText t] (fun d => d = D.b (true)) :=
 Fun.at (enc := fun r => D.b r) (v := true) (lawAgainst_w c t  (fun r => r = true) (lawAgainst_ok c t _  rfl))
end Go.Proofs.YtglclijalehcmaaGreatDoor
