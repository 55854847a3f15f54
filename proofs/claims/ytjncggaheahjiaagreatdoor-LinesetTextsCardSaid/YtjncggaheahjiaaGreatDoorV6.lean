/-
  walks and contracts
-/
import Derived.Test.YtjncggaheahjiaaGreatDoorV5
set_option linter.all false
namespace Go.Proofs.YtjncggaheahjiaaGreatDoor
open Go Go.Lic Go.Sort Go.Proofs
attribute [local irreducible] badR behindF cmpB cmpI countF countL fewF has1F hasF hasPrefF indexF insideF itoaF lenF listF mergeF minusF nameR numF numR ofF oneF orF parseF partF pathB pathF printF scutF spanCmp spanF spanR splitB splitF splitG underF validF
abbrev lawTexts_e0 (l : (List Span)) (s_ : ByteArray) := (((((decide ((printF l).1 = (printF l).1)) && (((printF l).2) == ((printF l).2))) && (decide (((parseF s_).1) = ((parseF s_).1)))) && (((parseF s_).2.1) == ((parseF s_).2.1))) && (((parseF s_).2.2) == ((parseF s_).2.2)))
set_option maxHeartbeats 2000000 in
set_option maxRecDepth 10000 in
theorem lawTexts_w (l : (List Span)) (s_ : ByteArray) (Q : Bool → Prop) (h : lawTexts_vc l s_ Q) : Fun false Tryz.prog 3 [(encL 3 encSpan) l, D.s s_] (fun d => ∃ r, d = D.b r ∧ Q r) := by
 unfold lawTexts_vc at h
 refine Fun.of_body Tryz.func3 rfl Tryz.ntmps3 rfl ?_
 refine wpA_seq ?_
 refine wpA_region ?_
 refine wL (OpA.a ?_)
 refine wpL_nil ?_
 iterate 2 refine wpA_seq ?_
 refine wpA_region ?_
 refine wL (OpA.call rfl rfl rfl en5 (awake_c  ) ?_)
 rintro _ rfl
 refine wL (OpA.not rfl rfl ?_)
 refine wpL_nil ?_
 refine wpA_cond rfl (fun b1 => ?_) (fun b1 => ?_)
 have h := h.1 (notT b1)
 refine wpA_seq ?_
 refine wpA_region ?_
 refine wL (OpA.a ?_)
 refine wpL_nil ?_
 refine wpA_ret ?_
 exact ⟨_, (.tmp (d := D.b false) rfl .nil), _, (.same rfl .nil), ⟨false, rfl, h⟩⟩
 have h := h.2 (notF b1)
 refine wpA_skip ?_
 iterate 2 refine wpA_seq ?_
 refine wpA_mid (asg [(0, (encL 3 encSpan) l), (1, D.s s_), (4, D.b false), (24, D.b ((!(fewF l)) || (decide ((s_.size : Int) > 1000))))]) [] ?_ ?_
 refine wpA_region ?_
 refine wL (OpA.m ?_)
 refine wL (OpA.call rfl rfl rfl en6 (rfew_c l ) ?_)
 rintro _ rfl
 refine wL (OpA.not rfl rfl ?_)
 refine wL (OpA.m ?_)
 refine wpL_split (s := 20) rfl (fun b7 => ?_) (fun b7 => ?_)
 iterate 3 refine wS ?_
 refine wL (OpA.p ?_)
 refine wpL_nil ?_
 exact ⟨(Cov.asg ⟨rfl, rfl, rfl, (congrArg D.b (Eq.symm (orS b7))), trivial⟩), (.refl _)⟩
 refine wG (OpA.m ?_)
 refine wG (OpA.slen rfl rfl rfl rfl td9 rfl ?_)
 refine wG (OpA.gtr rfl rfl rfl ?_)
 refine wL (OpA.p ?_)
 refine wpL_nil ?_
 exact ⟨(Cov.asg ⟨rfl, rfl, rfl, (congrArg D.b (Eq.symm (orN b7 rfl))), trivial⟩), (.refl _)⟩
 show wpA _ _ _ _ (asg [(0, (encL 3 encSpan) l), (1, D.s s_), (4, D.b false), (24, D.b ((!(fewF l)) || (decide ((s_.size : Int) > 1000))))]) []
 refine wpA_cond rfl (fun b2 => ?_) (fun b2 => ?_)
 have h := h.1 ((or0 b2).imp (fun hh => (notT hh)) (fun hh => (decT hh)))
 refine wpA_seq ?_
 refine wpA_region ?_
 refine wL (OpA.a ?_)
 refine wpL_nil ?_
 refine wpA_ret ?_
 exact ⟨_, (.tmp (d := D.b true) rfl .nil), _, (.same rfl .nil), ⟨true, rfl, h⟩⟩
 have h := h.2 ⟨(notF (or1 b2)), (decF (or2 b2))⟩
 refine wpA_skip ?_
 refine wpA_seq ?_
 obtain ⟨q1, q2, h⟩ := h
 refine wpA_region ?_
 refine wL (OpA.m ?_)
 refine wL (OpA.call rfl rfl rfl en7 (print_c l q1 q2) ?_)
 rintro _ rfl
 refine wL (OpA.m ?_)
 iterate 2 refine wL (OpA.extract rfl rfl rfl ?_)
 iterate 2 refine wL (OpA.a ?_)
 refine wpL_nil ?_
 refine wpA_seq ?_
 obtain ⟨q1, q2, h⟩ := h
 refine wpA_region ?_
 refine wL (OpA.m ?_)
 refine wL (OpA.call rfl rfl rfl en8 (rprint_c l q1 q2) ?_)
 rintro _ rfl
 refine wL (OpA.m ?_)
 iterate 2 refine wL (OpA.extract rfl rfl rfl ?_)
 iterate 2 refine wL (OpA.a ?_)
 refine wpL_nil ?_
 refine wpA_seq ?_
 obtain ⟨q1, h⟩ := h
 refine wpA_region ?_
 refine wL (OpA.m ?_)
 refine wL (OpA.call rfl rfl rfl en9 (lparse_c s_ q1) ?_)
 rintro _ rfl
 refine wL (OpA.m ?_)
 iterate 3 refine wL (OpA.extract rfl rfl rfl ?_)
 iterate 3 refine wL (OpA.a ?_)
 refine wpL_nil ?_
 refine wpA_seq ?_
 obtain ⟨q1, h⟩ := h
 refine wpA_region ?_
 refine wL (OpA.m ?_)
 refine wL (OpA.call rfl rfl rfl en10 (rparse_c s_ q1) ?_)
 rintro _ rfl
 refine wL (OpA.m ?_)
 iterate 3 refine wL (OpA.extract rfl rfl rfl ?_)
 iterate 3 refine wL (OpA.a ?_)
 refine wpL_nil ?_
 refine wpA_seq ?_
 obtain ⟨q1, h⟩ := h
 refine wpA_mid (asg [(4, D.b (lawTexts_e0 l s_))]) [] ?_ ?_
 refine wpA_region ?_
 iterate 2 refine wL (OpA.m ?_)
 refine wL (OpA.seql rfl rfl rfl ?_)
 refine wL (OpA.m ?_)
 refine wpL_split (s := 50) rfl (fun b3 => ?_) (fun b3 => ?_)
 iterate 2 refine wG (OpA.m ?_)
 refine wG (OpA.eql rfl rfl rfl ?_)
 refine wL (OpA.p ?_)
 refine wL (OpA.m ?_)
 refine wpL_split (s := 55) rfl (fun b4 => ?_) (fun b4 => ?_)
 iterate 2 refine wG (OpA.m ?_)
 refine wG (OpA.call rfl rfl rfl en11 (eqSpans_c ((parseF s_).1) ((parseF s_).1) (q1 ⟨(decT b3), (beqT b4)⟩)) ?_)
 rintro _ rfl
 refine wL (OpA.p ?_)
 refine wL (OpA.m ?_)
 refine wpL_split (s := 60) rfl (fun b5 => ?_) (fun b5 => ?_)
 iterate 2 refine wG (OpA.m ?_)
 refine wG (OpA.eql rfl rfl rfl ?_)
 refine wL (OpA.p ?_)
 refine wL (OpA.m ?_)
 refine wpL_split (s := 65) rfl (fun b6 => ?_) (fun b6 => ?_)
 iterate 2 refine wG (OpA.m ?_)
 refine wG (OpA.eql rfl rfl rfl ?_)
 refine wL (OpA.p ?_)
 refine wL (OpA.a ?_)
 refine wpL_nil ?_
 exact ⟨(Cov.asg ⟨(congrArg D.b (Eq.symm (andN (andN (andN (andN b3 b4) b5) b6) rfl))), trivial⟩), (.refl _)⟩
 iterate 3 refine wS ?_
 refine wL (OpA.p ?_)
 refine wL (OpA.a ?_)
 refine wpL_nil ?_
 exact ⟨(Cov.asg ⟨(congrArg D.b (Eq.symm (andS (andN (andN (andN b3 b4) b5) b6)))), trivial⟩), (.refl _)⟩
 iterate 3 refine wS ?_
 refine wL (OpA.p ?_)
 refine wL (OpA.m ?_)
 iterate 3 refine wS ?_
 refine wL (OpA.p ?_)
 refine wL (OpA.a ?_)
 refine wpL_nil ?_
 exact ⟨(Cov.asg ⟨(congrArg D.b (Eq.symm (andS (andS (andN (andN b3 b4) b5))))), trivial⟩), (.refl _)⟩
 iterate 3 refine wS ?_
 refine wL (OpA.p ?_)
 refine wL (OpA.m ?_)
 iterate 3 refine wS ?_
 refine wL (OpA.p ?_)
 refine wL (OpA.m ?_)
 iterate 3 refine wS ?_
 refine wL (OpA.p ?_)
 refine wL (OpA.a ?_)
 refine wpL_nil ?_
 exact ⟨(Cov.asg ⟨(congrArg D.b (Eq.symm (andS (andS (andS (andN b3 b4)))))), trivial⟩), (.refl _)⟩
 iterate 3 refine wS ?_
 refine wL (OpA.p ?_)
 refine wL (OpA.m ?_)
 iterate 3 refine wS ?_
 refine wL (OpA.p ?_)
 refine wL (OpA.m ?_)
 iterate 3 refine wS ?_
 refine wL (OpA.p ?_)
 refine wL (OpA.m ?_)
 iterate 3 refine wS ?_
 refine wL (OpA.p ?_)
 refine wL (OpA.a ?_)
 refine wpL_nil ?_
 exact ⟨(Cov.asg ⟨(congrArg D.b (Eq.symm (andS (andS (andS (andS b3)))))), trivial⟩), (.refl _)⟩
 show wpA _ _ _ _ (asg [(4, D.b (lawTexts_e0 l s_))]) []
 refine wpA_ret ?_
 exact ⟨_, (.tmp (d := D.b (lawTexts_e0 l s_)) rfl .nil), _, (.same rfl .nil), ⟨(lawTexts_e0 l s_), rfl, h⟩⟩
theorem lawTexts_c (l : (List Span)) (s_ : ByteArray)  : Fun false Tryz.prog 3 [(encL 3 encSpan) l, D.s s_] (fun d => d = D.b (true)) :=
 Fun.at (enc := fun r => D.b r) (v := true) (lawTexts_w l s_  (fun r => r = true) (lawTexts_ok l s_ _  rfl))
end Go.Proofs.YtjncggaheahjiaaGreatDoor
