/-
  walks and contracts
-/
import Derived.Test.YtnnbgemjkhgldaaDoorV6
set_option linter.all false
namespace Go.Proofs.YtnnbgemjkhgldaaDoor
open Go Go.Lic Go.Sort Go.Proofs
attribute [local irreducible] badR beforeF behindF cmpB cmpI countF countL fewF growF has1F hasF hasPrefF indexF insideF itoaF lenF listF longF meetF mergeF minusF nameR ofF orF packF partF pathB pathF printF rightF sortedR spanCmp spanR splitF splitG underF unionF validF



set_option maxHeartbeats 2000000 in
set_option maxRecDepth 10000 in
theorem lawValid_w (l : (List Span)) (x : Line)  (Q : Bool → Prop) (h : lawValid_vc l x Q) : Fun false Tryd.prog 4 [(encL 3 encSpan) l, encLine x] (fun d => ∃ r, d = D.b r ∧ Q r) := by
  unfold lawValid_vc at h
  refine Fun.of_body Tryd.func4 rfl Tryd.ntmps4 rfl ?_
  refine wpA_seq ?_
  refine wpA_region ?_
  refine wpL_op rfl rfl rfl (OpA.bx (sz := 2) rfl (by with_reducible conv => lhs; whnf) (.of rfl) (fun c1 _ => ?_))
  refine wpL_op rfl rfl rfl (OpA.asn rfl (by with_reducible conv => lhs; whnf) ?_)
  refine wpL_nil ?_
  iterate 2 refine wpA_seq ?_
  refine wpA_region ?_
  refine wpL_op rfl rfl rfl (OpA.call rfl rfl rfl en8 (awake_c  ) ?_)
  rintro _ rfl
  refine wpL_op rfl rfl rfl (OpA.not rfl rfl ?_)
  refine wpL_nil ?_
  refine wpA_cond rfl (fun b2 => ?_) (fun b2 => ?_)
  have h := h.1 (notT b2)
  refine wpA_seq ?_
  refine wpA_region ?_
  refine wpL_op rfl rfl rfl (OpA.asn rfl (by with_reducible conv => lhs; whnf) ?_)
  refine wpL_nil ?_
  refine wpA_ret ?_
  exact ⟨_, (.tmp (d := D.b false) rfl .nil), _, (.same rfl .nil), ⟨false, rfl, h⟩⟩
  have h := h.2 (notF b2)
  refine wpA_skip ?_
  iterate 2 refine wpA_seq ?_
  refine wpA_mid (asg [(0, (encL 3 encSpan) l), (3, .ptr c1 2 0 0), (4, D.b false), (15, D.b ((!(fewF l)) || (decide ((x.path.size : Int) > 200))))]) [(c1, .cells 2 [encLine x])] ?_ ?_
  refine wpA_region ?_
  refine wpL_op rfl rfl rfl (OpA.mv rfl (by with_reducible conv => lhs; whnf) ?_)
  refine wpL_op rfl rfl rfl (OpA.call rfl rfl rfl en14 (rfew_c l ) ?_)
  rintro _ rfl
  refine wpL_op rfl rfl rfl (OpA.not rfl rfl ?_)
  refine wpL_op rfl rfl rfl (OpA.mv rfl (by with_reducible conv => lhs; whnf) ?_)
  refine wpL_split (s := 10) rfl (fun b7 => ?_) (fun b7 => ?_)
  iterate 4 refine wpL_skip rfl rfl rfl rfl rfl rfl ?_
  refine wpL_op rfl rfl rfl (OpA.pck rfl rfl (by with_reducible conv => lhs; whnf) ?_)
  refine wpL_nil ?_
  exact ⟨(Cov.asg ⟨rfl, rfl, rfl, (congrArg D.b (Eq.symm (orS b7))), trivial⟩), (.refl _)⟩
  refine wpL_opg rfl rfl rfl rfl rfl rfl (OpA.fieldAddr rfl tf26_0 rfl ?_)
  refine wpL_opg rfl rfl rfl rfl rfl rfl (OpA.load rfl ti9 rfl .head rfl rfl ?_)
  refine wpL_opg rfl rfl rfl rfl rfl rfl (OpA.slen rfl rfl rfl rfl td9 rfl ?_)
  refine wpL_opg rfl rfl rfl rfl rfl rfl (OpA.gtr rfl rfl rfl ?_)
  refine wpL_op rfl rfl rfl (OpA.pck rfl rfl (by with_reducible conv => lhs; whnf) ?_)
  refine wpL_nil ?_
  exact ⟨(Cov.asg ⟨rfl, rfl, rfl, (congrArg D.b (Eq.symm (orN b7 rfl))), trivial⟩), (.refl _)⟩
  show wpA _ _ _ _ (asg [(0, (encL 3 encSpan) l), (3, .ptr c1 2 0 0), (4, D.b false), (15, D.b ((!(fewF l)) || (decide ((x.path.size : Int) > 200))))]) [(c1, .cells 2 [encLine x])]
  refine wpA_cond rfl (fun b3 => ?_) (fun b3 => ?_)
  have h := h.1 ((or0 b3).imp (fun hh => (notT hh)) (fun hh => (decT hh)))
  refine wpA_seq ?_
  refine wpA_region ?_
  refine wpL_op rfl rfl rfl (OpA.asn rfl (by with_reducible conv => lhs; whnf) ?_)
  refine wpL_nil ?_
  refine wpA_ret ?_
  exact ⟨_, (.tmp (d := D.b true) rfl .nil), _, (.same rfl .nil), ⟨true, rfl, h⟩⟩
  have h := h.2 ⟨(notF (or1 b3)), (decF (or2 b3))⟩
  refine wpA_skip ?_
  refine wpA_seq ?_
  obtain ⟨q1, q2, q3, q4, h⟩ := h
  refine wpA_mid (asg [(4, D.b (((((validF l) == (validF l)) && (decide ((listF l) = (listF l)))) && ((hasF l x) == (hasF l x))) && ((countL l) == (countL l))))]) [(c1, .cells 2 [encLine x])] ?_ ?_
  refine wpA_draw (m := 29) mo (by kernel_rfl) rfl ?_
  refine DetK.op rfl (OpA.mv rfl (by with_reducible conv => lhs; whnf) ⟨rfl, rfl⟩) ?_
  refine DetK.op rfl (OpA.call rfl rfl rfl en15 (valid_c l q1 q2) (by rintro _ rfl; exact ⟨rfl, rfl⟩)) ?_
  refine DetK.op rfl (OpA.mv rfl (by with_reducible conv => lhs; whnf) ⟨rfl, rfl⟩) ?_
  refine DetK.op rfl (OpA.call rfl rfl rfl en16 (rvalid_c l q3 q2) (by rintro _ rfl; exact ⟨rfl, rfl⟩)) ?_
  refine DetK.op rfl (OpA.bcmp rfl td4 rfl rfl (.inl ⟨rfl, rfl⟩) ⟨rfl, rfl⟩) ?_
  refine DetK.op rfl (OpA.mv rfl (by with_reducible conv => lhs; whnf) ⟨rfl, rfl⟩) ?_
  refine DetK_split (s := 21) rfl (fun b4 => ?_) (fun b4 => ?_)
  refine DetK.opg rfl rfl rfl rfl (OpA.mv rfl (by with_reducible conv => lhs; whnf) ⟨rfl, rfl⟩) ?_
  refine DetK.opg rfl rfl rfl rfl (OpA.call rfl rfl rfl en18 (list_c l q3 q2) (by rintro _ rfl; exact ⟨rfl, rfl⟩)) ?_
  refine DetK.opg rfl rfl rfl rfl (OpA.mv rfl (by with_reducible conv => lhs; whnf) ⟨rfl, rfl⟩) ?_
  refine DetK.opg rfl rfl rfl rfl (OpA.call rfl rfl rfl en19 (rlist_c l q3 q2) (by rintro _ rfl; exact ⟨rfl, rfl⟩)) ?_
  refine DetK.opg rfl rfl rfl rfl (OpA.call rfl rfl rfl en17 (eqLines_c (listF l) (listF l) (q4 b4)) (by rintro _ rfl; exact ⟨rfl, rfl⟩)) ?_
  refine DetK.op rfl (OpA.pck rfl rfl (by with_reducible conv => lhs; whnf) ⟨rfl, rfl⟩) ?_
  refine DetK.op rfl (OpA.mv rfl (by with_reducible conv => lhs; whnf) ⟨rfl, rfl⟩) ?_
  refine DetK_split (s := 28) rfl (fun b5 => ?_) (fun b5 => ?_)
  refine DetK.opg rfl rfl rfl rfl (OpA.mv rfl (by with_reducible conv => lhs; whnf) ⟨rfl, rfl⟩) ?_
  refine DetK.opg rfl rfl rfl rfl (OpA.load_whole rfl ti26 rfl rfl .head rfl ⟨_, rfl⟩ ⟨rfl, rfl⟩) ?_
  refine DetK.opg rfl rfl rfl rfl (OpA.call rfl rfl rfl en20 (has_c l x q3 q2) (by rintro _ rfl; exact ⟨rfl, rfl⟩)) ?_
  refine DetK.opg rfl rfl rfl rfl (OpA.mv rfl (by with_reducible conv => lhs; whnf) ⟨rfl, rfl⟩) ?_
  refine DetK.opg rfl rfl rfl rfl (OpA.load_whole rfl ti26 rfl rfl .head rfl ⟨_, rfl⟩ ⟨rfl, rfl⟩) ?_
  refine DetK.opg rfl rfl rfl rfl (OpA.call rfl rfl rfl en21 (rhas_c l x q3 q2) (by rintro _ rfl; exact ⟨rfl, rfl⟩)) ?_
  refine DetK.opg rfl rfl rfl rfl (OpA.bcmp rfl td4 rfl rfl (.inl ⟨rfl, rfl⟩) ⟨rfl, rfl⟩) ?_
  refine DetK.op rfl (OpA.pck rfl rfl (by with_reducible conv => lhs; whnf) ⟨rfl, rfl⟩) ?_
  refine DetK.op rfl (OpA.mv rfl (by with_reducible conv => lhs; whnf) ⟨rfl, rfl⟩) ?_
  refine DetK_split (s := 37) rfl (fun b6 => ?_) (fun b6 => ?_)
  refine DetK.opg rfl rfl rfl rfl (OpA.mv rfl (by with_reducible conv => lhs; whnf) ⟨rfl, rfl⟩) ?_
  refine DetK.opg rfl rfl rfl rfl (OpA.call rfl rfl rfl en22 (count_c l q3 q2) (by rintro _ rfl; exact ⟨rfl, rfl⟩)) ?_
  refine DetK.opg rfl rfl rfl rfl (OpA.mv rfl (by with_reducible conv => lhs; whnf) ⟨rfl, rfl⟩) ?_
  refine DetK.opg rfl rfl rfl rfl (OpA.call rfl rfl rfl en23 (rcount_c l q3 q2) (by rintro _ rfl; exact ⟨rfl, rfl⟩)) ?_
  refine DetK.opg rfl rfl rfl rfl (OpA.eql rfl rfl rfl ⟨rfl, rfl⟩) ?_
  refine DetK.op rfl (OpA.pck rfl rfl (by with_reducible conv => lhs; whnf) ⟨rfl, rfl⟩) ?_
  refine DetK.op rfl (OpA.asn rfl (by with_reducible conv => lhs; whnf) ⟨rfl, rfl⟩) ?_
  refine DetK.nil ?_
  refine wpL_nil ?_
  exact ⟨(Cov.asg ⟨(congrArg D.b (Eq.symm (andN (andN (andN b4 b5) b6) rfl))), trivial⟩), (.refl _)⟩
  iterate 5 refine DetK.skip rfl rfl rfl rfl ?_
  refine DetK.op rfl (OpA.pck rfl rfl (by with_reducible conv => lhs; whnf) ⟨rfl, rfl⟩) ?_
  refine DetK.op rfl (OpA.asn rfl (by with_reducible conv => lhs; whnf) ⟨rfl, rfl⟩) ?_
  refine DetK.nil ?_
  refine wpL_nil ?_
  exact ⟨(Cov.asg ⟨(congrArg D.b (Eq.symm (andS (andN (andN b4 b5) b6)))), trivial⟩), (.refl _)⟩
  iterate 7 refine DetK.skip rfl rfl rfl rfl ?_
  refine DetK.op rfl (OpA.pck rfl rfl (by with_reducible conv => lhs; whnf) ⟨rfl, rfl⟩) ?_
  refine DetK.op rfl (OpA.mv rfl (by with_reducible conv => lhs; whnf) ⟨rfl, rfl⟩) ?_
  iterate 5 refine DetK.skip rfl rfl rfl rfl ?_
  refine DetK.op rfl (OpA.pck rfl rfl (by with_reducible conv => lhs; whnf) ⟨rfl, rfl⟩) ?_
  refine DetK.op rfl (OpA.asn rfl (by with_reducible conv => lhs; whnf) ⟨rfl, rfl⟩) ?_
  refine DetK.nil ?_
  refine wpL_nil ?_
  exact ⟨(Cov.asg ⟨(congrArg D.b (Eq.symm (andS (andS (andN b4 b5))))), trivial⟩), (.refl _)⟩
  iterate 5 refine DetK.skip rfl rfl rfl rfl ?_
  refine DetK.op rfl (OpA.pck rfl rfl (by with_reducible conv => lhs; whnf) ⟨rfl, rfl⟩) ?_
  refine DetK.op rfl (OpA.mv rfl (by with_reducible conv => lhs; whnf) ⟨rfl, rfl⟩) ?_
  iterate 7 refine DetK.skip rfl rfl rfl rfl ?_
  refine DetK.op rfl (OpA.pck rfl rfl (by with_reducible conv => lhs; whnf) ⟨rfl, rfl⟩) ?_
  refine DetK.op rfl (OpA.mv rfl (by with_reducible conv => lhs; whnf) ⟨rfl, rfl⟩) ?_
  iterate 5 refine DetK.skip rfl rfl rfl rfl ?_
  refine DetK.op rfl (OpA.pck rfl rfl (by with_reducible conv => lhs; whnf) ⟨rfl, rfl⟩) ?_
  refine DetK.op rfl (OpA.asn rfl (by with_reducible conv => lhs; whnf) ⟨rfl, rfl⟩) ?_
  refine DetK.nil ?_
  refine wpL_nil ?_
  exact ⟨(Cov.asg ⟨(congrArg D.b (Eq.symm (andS (andS (andS b4))))), trivial⟩), (.refl _)⟩
  show wpA _ _ _ _ (asg [(4, D.b (((((validF l) == (validF l)) && (decide ((listF l) = (listF l)))) && ((hasF l x) == (hasF l x))) && ((countL l) == (countL l))))]) [(c1, .cells 2 [encLine x])]
  refine wpA_ret ?_
  exact ⟨_, (.tmp (d := D.b (((((validF l) == (validF l)) && (decide ((listF l) = (listF l)))) && ((hasF l x) == (hasF l x))) && ((countL l) == (countL l)))) rfl .nil), _, (.same rfl .nil), ⟨(((((validF l) == (validF l)) && (decide ((listF l) = (listF l)))) && ((hasF l x) == (hasF l x))) && ((countL l) == (countL l))), rfl, h⟩⟩
theorem lawValid_c (l : (List Span)) (x : Line)   : Fun false Tryd.prog 4 [(encL 3 encSpan) l, encLine x] (fun d => d = D.b (true)) :=
  Fun.at (enc := fun r => D.b r) (v := true) (lawValid_w l x  (fun r => r = true) (lawValid_ok l x _  rfl))

set_option maxHeartbeats 2000000 in
set_option maxRecDepth 10000 in
theorem lawPoints_w (a : (List Span)) (b : (List Span)) (x : Line)  (Q : Bool → Prop) (h : lawPoints_vc a b x Q) : Fun false Tryd.prog 5 [(encL 3 encSpan) a, (encL 3 encSpan) b, encLine x] (fun d => ∃ r, d = D.b r ∧ Q r) := by
  unfold lawPoints_vc at h
  refine Fun.of_body Tryd.func5 rfl Tryd.ntmps5 rfl ?_
  refine wpA_seq ?_
  refine wpA_region ?_
  refine wpL_op rfl rfl rfl (OpA.bx (sz := 2) rfl (by with_reducible conv => lhs; whnf) (.of rfl) (fun c1 _ => ?_))
  refine wpL_op rfl rfl rfl (OpA.asn rfl (by with_reducible conv => lhs; whnf) ?_)
  refine wpL_nil ?_
  iterate 2 refine wpA_seq ?_
  refine wpA_region ?_
  refine wpL_op rfl rfl rfl (OpA.call rfl rfl rfl en8 (awake_c  ) ?_)
  rintro _ rfl
  refine wpL_op rfl rfl rfl (OpA.not rfl rfl ?_)
  refine wpL_nil ?_
  refine wpA_cond rfl (fun b2 => ?_) (fun b2 => ?_)
  have h := h.1 (notT b2)
  refine wpA_seq ?_
  refine wpA_region ?_
  refine wpL_op rfl rfl rfl (OpA.asn rfl (by with_reducible conv => lhs; whnf) ?_)
  refine wpL_nil ?_
  refine wpA_ret ?_
  exact ⟨_, (.tmp (d := D.b false) rfl .nil), _, (.same rfl .nil), ⟨false, rfl, h⟩⟩
  have h := h.2 (notF b2)
  refine wpA_skip ?_
  iterate 2 refine wpA_seq ?_
  obtain ⟨q1, q2, h⟩ := h
  refine wpA_mid (asg [(0, (encL 3 encSpan) a), (1, (encL 3 encSpan) b), (5, .ptr c1 2 0 0), (6, D.b false), (41, D.b ((((!(fewF a)) || (!(fewF b))) || (!(validF a))) || (!(validF b))))]) [(c1, .cells 2 [encLine x])] ?_ ?_
  refine wpA_region ?_
  refine wpL_op rfl rfl rfl (OpA.mv rfl (by with_reducible conv => lhs; whnf) ?_)
  refine wpL_op rfl rfl rfl (OpA.call rfl rfl rfl en14 (rfew_c a ) ?_)
  rintro _ rfl
  refine wpL_op rfl rfl rfl (OpA.not rfl rfl ?_)
  refine wpL_op rfl rfl rfl (OpA.mv rfl (by with_reducible conv => lhs; whnf) ?_)
  refine wpL_split (s := 27) rfl (fun b35 => ?_) (fun b35 => ?_)
  iterate 3 refine wpL_skip rfl rfl rfl rfl rfl rfl ?_
  refine wpL_op rfl rfl rfl (OpA.pck rfl rfl (by with_reducible conv => lhs; whnf) ?_)
  refine wpL_op rfl rfl rfl (OpA.mv rfl (by with_reducible conv => lhs; whnf) ?_)
  iterate 3 refine wpL_skip rfl rfl rfl rfl rfl rfl ?_
  refine wpL_op rfl rfl rfl (OpA.pck rfl rfl (by with_reducible conv => lhs; whnf) ?_)
  refine wpL_op rfl rfl rfl (OpA.mv rfl (by with_reducible conv => lhs; whnf) ?_)
  iterate 3 refine wpL_skip rfl rfl rfl rfl rfl rfl ?_
  refine wpL_op rfl rfl rfl (OpA.pck rfl rfl (by with_reducible conv => lhs; whnf) ?_)
  refine wpL_nil ?_
  exact ⟨(Cov.asg ⟨rfl, rfl, rfl, rfl, (congrArg D.b (Eq.symm (orS (orS (orS b35))))), trivial⟩), (.refl _)⟩
  refine wpL_opg rfl rfl rfl rfl rfl rfl (OpA.mv rfl (by with_reducible conv => lhs; whnf) ?_)
  refine wpL_opg rfl rfl rfl rfl rfl rfl (OpA.call rfl rfl rfl en14 (rfew_c b ) ?_)
  rintro _ rfl
  refine wpL_opg rfl rfl rfl rfl rfl rfl (OpA.not rfl rfl ?_)
  refine wpL_op rfl rfl rfl (OpA.pck rfl rfl (by with_reducible conv => lhs; whnf) ?_)
  refine wpL_op rfl rfl rfl (OpA.mv rfl (by with_reducible conv => lhs; whnf) ?_)
  refine wpL_split (s := 32) rfl (fun b36 => ?_) (fun b36 => ?_)
  iterate 3 refine wpL_skip rfl rfl rfl rfl rfl rfl ?_
  refine wpL_op rfl rfl rfl (OpA.pck rfl rfl (by with_reducible conv => lhs; whnf) ?_)
  refine wpL_op rfl rfl rfl (OpA.mv rfl (by with_reducible conv => lhs; whnf) ?_)
  iterate 3 refine wpL_skip rfl rfl rfl rfl rfl rfl ?_
  refine wpL_op rfl rfl rfl (OpA.pck rfl rfl (by with_reducible conv => lhs; whnf) ?_)
  refine wpL_nil ?_
  exact ⟨(Cov.asg ⟨rfl, rfl, rfl, rfl, (congrArg D.b (Eq.symm (orS (orS (orN b35 b36))))), trivial⟩), (.refl _)⟩
  refine wpL_opg rfl rfl rfl rfl rfl rfl (OpA.mv rfl (by with_reducible conv => lhs; whnf) ?_)
  refine wpL_opg rfl rfl rfl rfl rfl rfl (OpA.call rfl rfl rfl en15 (valid_c a (q1 ⟨(notF b35), (notF b36)⟩).1 (q1 ⟨(notF b35), (notF b36)⟩).2) ?_)
  rintro _ rfl
  refine wpL_opg rfl rfl rfl rfl rfl rfl (OpA.not rfl rfl ?_)
  refine wpL_op rfl rfl rfl (OpA.pck rfl rfl (by with_reducible conv => lhs; whnf) ?_)
  refine wpL_op rfl rfl rfl (OpA.mv rfl (by with_reducible conv => lhs; whnf) ?_)
  refine wpL_split (s := 37) rfl (fun b37 => ?_) (fun b37 => ?_)
  iterate 3 refine wpL_skip rfl rfl rfl rfl rfl rfl ?_
  refine wpL_op rfl rfl rfl (OpA.pck rfl rfl (by with_reducible conv => lhs; whnf) ?_)
  refine wpL_nil ?_
  exact ⟨(Cov.asg ⟨rfl, rfl, rfl, rfl, (congrArg D.b (Eq.symm (orS (orN (orN b35 b36) b37)))), trivial⟩), (.refl _)⟩
  refine wpL_opg rfl rfl rfl rfl rfl rfl (OpA.mv rfl (by with_reducible conv => lhs; whnf) ?_)
  refine wpL_opg rfl rfl rfl rfl rfl rfl (OpA.call rfl rfl rfl en15 (valid_c b (q2 ⟨⟨(notF b35), (notF b36)⟩, (notF b37)⟩).1 (q2 ⟨⟨(notF b35), (notF b36)⟩, (notF b37)⟩).2) ?_)
  rintro _ rfl
  refine wpL_opg rfl rfl rfl rfl rfl rfl (OpA.not rfl rfl ?_)
  refine wpL_op rfl rfl rfl (OpA.pck rfl rfl (by with_reducible conv => lhs; whnf) ?_)
  refine wpL_nil ?_
  exact ⟨(Cov.asg ⟨rfl, rfl, rfl, rfl, (congrArg D.b (Eq.symm (orN (orN (orN b35 b36) b37) rfl))), trivial⟩), (.refl _)⟩
  show wpA _ _ _ _ (asg [(0, (encL 3 encSpan) a), (1, (encL 3 encSpan) b), (5, .ptr c1 2 0 0), (6, D.b false), (41, D.b ((((!(fewF a)) || (!(fewF b))) || (!(validF a))) || (!(validF b))))]) [(c1, .cells 2 [encLine x])]
  refine wpA_cond rfl (fun b3 => ?_) (fun b3 => ?_)
  have h := h.1 ((or0 b3).imp (fun hh => ((or0 hh).imp (fun hh => ((or0 hh).imp (fun hh => (notT hh)) (fun hh => (notT hh)))) (fun hh => (notT hh)))) (fun hh => (notT hh)))
  refine wpA_seq ?_
  refine wpA_region ?_
  refine wpL_op rfl rfl rfl (OpA.asn rfl (by with_reducible conv => lhs; whnf) ?_)
  refine wpL_nil ?_
  refine wpA_ret ?_
  exact ⟨_, (.tmp (d := D.b true) rfl .nil), _, (.same rfl .nil), ⟨true, rfl, h⟩⟩
  have h := h.2 ⟨⟨⟨(notF (or1 (or1 (or1 b3)))), (notF (or2 (or1 (or1 b3))))⟩, (notF (or2 (or1 b3)))⟩, (notF (or2 b3))⟩
  refine wpA_skip ?_
  refine wpA_seq ?_
  obtain ⟨q1, q2, q3, q4, h⟩ := h
  refine wpA_region ?_
  refine wpL_op rfl rfl rfl (OpA.mv rfl (by with_reducible conv => lhs; whnf) ?_)
  refine wpL_op rfl rfl rfl (OpA.mv rfl (by with_reducible conv => lhs; whnf) ?_)
  refine wpL_op rfl rfl rfl (OpA.call rfl rfl rfl en24 (union_c a b q1 q2 q3 q4) ?_)
  rintro _ rfl
  refine wpL_op rfl rfl rfl (OpA.mv rfl (by with_reducible conv => lhs; whnf) ?_)
  refine wpL_op rfl rfl rfl (OpA.extract rfl rfl rfl ?_)
  refine wpL_op rfl rfl rfl (OpA.extract rfl rfl rfl ?_)
  refine wpL_op rfl rfl rfl (OpA.asn rfl (by with_reducible conv => lhs; whnf) ?_)
  refine wpL_op rfl rfl rfl (OpA.asn rfl (by with_reducible conv => lhs; whnf) ?_)
  refine wpL_nil ?_
  refine wpA_seq ?_
  obtain ⟨q1, q2, q3, q4, h⟩ := h
  refine wpA_region ?_
  refine wpL_op rfl rfl rfl (OpA.mv rfl (by with_reducible conv => lhs; whnf) ?_)
  refine wpL_op rfl rfl rfl (OpA.mv rfl (by with_reducible conv => lhs; whnf) ?_)
  refine wpL_op rfl rfl rfl (OpA.call rfl rfl rfl en25 (meet_c a b q1 q2 q3 q4) ?_)
  rintro _ rfl
  refine wpL_op rfl rfl rfl (OpA.mv rfl (by with_reducible conv => lhs; whnf) ?_)
  refine wpL_op rfl rfl rfl (OpA.extract rfl rfl rfl ?_)
  refine wpL_op rfl rfl rfl (OpA.extract rfl rfl rfl ?_)
  refine wpL_op rfl rfl rfl (OpA.asn rfl (by with_reducible conv => lhs; whnf) ?_)
  refine wpL_op rfl rfl rfl (OpA.asn rfl (by with_reducible conv => lhs; whnf) ?_)
  refine wpL_nil ?_
  refine wpA_seq ?_
  obtain ⟨q1, q2, q3, q4, h⟩ := h
  refine wpA_region ?_
  refine wpL_op rfl rfl rfl (OpA.mv rfl (by with_reducible conv => lhs; whnf) ?_)
  refine wpL_op rfl rfl rfl (OpA.mv rfl (by with_reducible conv => lhs; whnf) ?_)
  refine wpL_op rfl rfl rfl (OpA.call rfl rfl rfl en26 (minus_c a b q1 q2 q3 q4) ?_)
  rintro _ rfl
  refine wpL_op rfl rfl rfl (OpA.mv rfl (by with_reducible conv => lhs; whnf) ?_)
  refine wpL_op rfl rfl rfl (OpA.extract rfl rfl rfl ?_)
  refine wpL_op rfl rfl rfl (OpA.extract rfl rfl rfl ?_)
  refine wpL_op rfl rfl rfl (OpA.asn rfl (by with_reducible conv => lhs; whnf) ?_)
  refine wpL_op rfl rfl rfl (OpA.asn rfl (by with_reducible conv => lhs; whnf) ?_)
  refine wpL_nil ?_
  iterate 2 refine wpA_seq ?_
  obtain ⟨q1, q2, q3, h⟩ := h
  refine wpA_mid (asg [(0, (encL 3 encSpan) a), (1, (encL 3 encSpan) b), (5, .ptr c1 2 0 0), (6, D.b false), (7, (encL 3 encSpan) ((unionF a b).1)), (9, (encL 3 encSpan) ((meetF a b).1)), (11, (encL 3 encSpan) ((minusF a b).1)), (84, D.b ((((((((unionF a b).2) != 0) || (((meetF a b).2) != 0)) || (((minusF a b).2) != 0)) || (!(validF ((unionF a b).1)))) || (!(validF ((meetF a b).1)))) || (!(validF ((minusF a b).1)))))]) [(c1, .cells 2 [encLine x])] ?_ ?_
  refine wpA_region ?_
  refine wpL_op rfl rfl rfl (OpA.mv rfl (by with_reducible conv => lhs; whnf) ?_)
  refine wpL_op rfl rfl rfl (OpA.neq rfl rfl rfl ?_)
  refine wpL_op rfl rfl rfl (OpA.mv rfl (by with_reducible conv => lhs; whnf) ?_)
  refine wpL_split (s := 62) rfl (fun b30 => ?_) (fun b30 => ?_)
  iterate 2 refine wpL_skip rfl rfl rfl rfl rfl rfl ?_
  refine wpL_op rfl rfl rfl (OpA.pck rfl rfl (by with_reducible conv => lhs; whnf) ?_)
  refine wpL_op rfl rfl rfl (OpA.mv rfl (by with_reducible conv => lhs; whnf) ?_)
  iterate 2 refine wpL_skip rfl rfl rfl rfl rfl rfl ?_
  refine wpL_op rfl rfl rfl (OpA.pck rfl rfl (by with_reducible conv => lhs; whnf) ?_)
  refine wpL_op rfl rfl rfl (OpA.mv rfl (by with_reducible conv => lhs; whnf) ?_)
  iterate 3 refine wpL_skip rfl rfl rfl rfl rfl rfl ?_
  refine wpL_op rfl rfl rfl (OpA.pck rfl rfl (by with_reducible conv => lhs; whnf) ?_)
  refine wpL_op rfl rfl rfl (OpA.mv rfl (by with_reducible conv => lhs; whnf) ?_)
  iterate 3 refine wpL_skip rfl rfl rfl rfl rfl rfl ?_
  refine wpL_op rfl rfl rfl (OpA.pck rfl rfl (by with_reducible conv => lhs; whnf) ?_)
  refine wpL_op rfl rfl rfl (OpA.mv rfl (by with_reducible conv => lhs; whnf) ?_)
  iterate 3 refine wpL_skip rfl rfl rfl rfl rfl rfl ?_
  refine wpL_op rfl rfl rfl (OpA.pck rfl rfl (by with_reducible conv => lhs; whnf) ?_)
  refine wpL_nil ?_
  exact ⟨(Cov.asg ⟨rfl, rfl, rfl, rfl, rfl, rfl, rfl, (congrArg D.b (Eq.symm (orS (orS (orS (orS (orS b30))))))), trivial⟩), (.refl _)⟩
  refine wpL_opg rfl rfl rfl rfl rfl rfl (OpA.mv rfl (by with_reducible conv => lhs; whnf) ?_)
  refine wpL_opg rfl rfl rfl rfl rfl rfl (OpA.neq rfl rfl rfl ?_)
  refine wpL_op rfl rfl rfl (OpA.pck rfl rfl (by with_reducible conv => lhs; whnf) ?_)
  refine wpL_op rfl rfl rfl (OpA.mv rfl (by with_reducible conv => lhs; whnf) ?_)
  refine wpL_split (s := 66) rfl (fun b31 => ?_) (fun b31 => ?_)
  iterate 2 refine wpL_skip rfl rfl rfl rfl rfl rfl ?_
  refine wpL_op rfl rfl rfl (OpA.pck rfl rfl (by with_reducible conv => lhs; whnf) ?_)
  refine wpL_op rfl rfl rfl (OpA.mv rfl (by with_reducible conv => lhs; whnf) ?_)
  iterate 3 refine wpL_skip rfl rfl rfl rfl rfl rfl ?_
  refine wpL_op rfl rfl rfl (OpA.pck rfl rfl (by with_reducible conv => lhs; whnf) ?_)
  refine wpL_op rfl rfl rfl (OpA.mv rfl (by with_reducible conv => lhs; whnf) ?_)
  iterate 3 refine wpL_skip rfl rfl rfl rfl rfl rfl ?_
  refine wpL_op rfl rfl rfl (OpA.pck rfl rfl (by with_reducible conv => lhs; whnf) ?_)
  refine wpL_op rfl rfl rfl (OpA.mv rfl (by with_reducible conv => lhs; whnf) ?_)
  iterate 3 refine wpL_skip rfl rfl rfl rfl rfl rfl ?_
  refine wpL_op rfl rfl rfl (OpA.pck rfl rfl (by with_reducible conv => lhs; whnf) ?_)
  refine wpL_nil ?_
  exact ⟨(Cov.asg ⟨rfl, rfl, rfl, rfl, rfl, rfl, rfl, (congrArg D.b (Eq.symm (orS (orS (orS (orS (orN b30 b31))))))), trivial⟩), (.refl _)⟩
  refine wpL_opg rfl rfl rfl rfl rfl rfl (OpA.mv rfl (by with_reducible conv => lhs; whnf) ?_)
  refine wpL_opg rfl rfl rfl rfl rfl rfl (OpA.neq rfl rfl rfl ?_)
  refine wpL_op rfl rfl rfl (OpA.pck rfl rfl (by with_reducible conv => lhs; whnf) ?_)
  refine wpL_op rfl rfl rfl (OpA.mv rfl (by with_reducible conv => lhs; whnf) ?_)
  refine wpL_split (s := 70) rfl (fun b32 => ?_) (fun b32 => ?_)
  iterate 3 refine wpL_skip rfl rfl rfl rfl rfl rfl ?_
  refine wpL_op rfl rfl rfl (OpA.pck rfl rfl (by with_reducible conv => lhs; whnf) ?_)
  refine wpL_op rfl rfl rfl (OpA.mv rfl (by with_reducible conv => lhs; whnf) ?_)
  iterate 3 refine wpL_skip rfl rfl rfl rfl rfl rfl ?_
  refine wpL_op rfl rfl rfl (OpA.pck rfl rfl (by with_reducible conv => lhs; whnf) ?_)
  refine wpL_op rfl rfl rfl (OpA.mv rfl (by with_reducible conv => lhs; whnf) ?_)
  iterate 3 refine wpL_skip rfl rfl rfl rfl rfl rfl ?_
  refine wpL_op rfl rfl rfl (OpA.pck rfl rfl (by with_reducible conv => lhs; whnf) ?_)
  refine wpL_nil ?_
  exact ⟨(Cov.asg ⟨rfl, rfl, rfl, rfl, rfl, rfl, rfl, (congrArg D.b (Eq.symm (orS (orS (orS (orN (orN b30 b31) b32)))))), trivial⟩), (.refl _)⟩
  refine wpL_opg rfl rfl rfl rfl rfl rfl (OpA.mv rfl (by with_reducible conv => lhs; whnf) ?_)
  refine wpL_opg rfl rfl rfl rfl rfl rfl (OpA.call rfl rfl rfl en15 (valid_c ((unionF a b).1) (q1 ⟨⟨(bneF b30), (bneF b31)⟩, (bneF b32)⟩).1 (q1 ⟨⟨(bneF b30), (bneF b31)⟩, (bneF b32)⟩).2) ?_)
  rintro _ rfl
  refine wpL_opg rfl rfl rfl rfl rfl rfl (OpA.not rfl rfl ?_)
  refine wpL_op rfl rfl rfl (OpA.pck rfl rfl (by with_reducible conv => lhs; whnf) ?_)
  refine wpL_op rfl rfl rfl (OpA.mv rfl (by with_reducible conv => lhs; whnf) ?_)
  refine wpL_split (s := 75) rfl (fun b33 => ?_) (fun b33 => ?_)
  iterate 3 refine wpL_skip rfl rfl rfl rfl rfl rfl ?_
  refine wpL_op rfl rfl rfl (OpA.pck rfl rfl (by with_reducible conv => lhs; whnf) ?_)
  refine wpL_op rfl rfl rfl (OpA.mv rfl (by with_reducible conv => lhs; whnf) ?_)
  iterate 3 refine wpL_skip rfl rfl rfl rfl rfl rfl ?_
  refine wpL_op rfl rfl rfl (OpA.pck rfl rfl (by with_reducible conv => lhs; whnf) ?_)
  refine wpL_nil ?_
  exact ⟨(Cov.asg ⟨rfl, rfl, rfl, rfl, rfl, rfl, rfl, (congrArg D.b (Eq.symm (orS (orS (orN (orN (orN b30 b31) b32) b33))))), trivial⟩), (.refl _)⟩
  refine wpL_opg rfl rfl rfl rfl rfl rfl (OpA.mv rfl (by with_reducible conv => lhs; whnf) ?_)
  refine wpL_opg rfl rfl rfl rfl rfl rfl (OpA.call rfl rfl rfl en15 (valid_c ((meetF a b).1) (q2 ⟨⟨⟨(bneF b30), (bneF b31)⟩, (bneF b32)⟩, (notF b33)⟩).1 (q2 ⟨⟨⟨(bneF b30), (bneF b31)⟩, (bneF b32)⟩, (notF b33)⟩).2) ?_)
  rintro _ rfl
  refine wpL_opg rfl rfl rfl rfl rfl rfl (OpA.not rfl rfl ?_)
  refine wpL_op rfl rfl rfl (OpA.pck rfl rfl (by with_reducible conv => lhs; whnf) ?_)
  refine wpL_op rfl rfl rfl (OpA.mv rfl (by with_reducible conv => lhs; whnf) ?_)
  refine wpL_split (s := 80) rfl (fun b34 => ?_) (fun b34 => ?_)
  iterate 3 refine wpL_skip rfl rfl rfl rfl rfl rfl ?_
  refine wpL_op rfl rfl rfl (OpA.pck rfl rfl (by with_reducible conv => lhs; whnf) ?_)
  refine wpL_nil ?_
  exact ⟨(Cov.asg ⟨rfl, rfl, rfl, rfl, rfl, rfl, rfl, (congrArg D.b (Eq.symm (orS (orN (orN (orN (orN b30 b31) b32) b33) b34)))), trivial⟩), (.refl _)⟩
  refine wpL_opg rfl rfl rfl rfl rfl rfl (OpA.mv rfl (by with_reducible conv => lhs; whnf) ?_)
  refine wpL_opg rfl rfl rfl rfl rfl rfl (OpA.call rfl rfl rfl en15 (valid_c ((minusF a b).1) (q3 ⟨⟨⟨⟨(bneF b30), (bneF b31)⟩, (bneF b32)⟩, (notF b33)⟩, (notF b34)⟩).1 (q3 ⟨⟨⟨⟨(bneF b30), (bneF b31)⟩, (bneF b32)⟩, (notF b33)⟩, (notF b34)⟩).2) ?_)
  rintro _ rfl
  refine wpL_opg rfl rfl rfl rfl rfl rfl (OpA.not rfl rfl ?_)
  refine wpL_op rfl rfl rfl (OpA.pck rfl rfl (by with_reducible conv => lhs; whnf) ?_)
  refine wpL_nil ?_
  exact ⟨(Cov.asg ⟨rfl, rfl, rfl, rfl, rfl, rfl, rfl, (congrArg D.b (Eq.symm (orN (orN (orN (orN (orN b30 b31) b32) b33) b34) rfl))), trivial⟩), (.refl _)⟩
  show wpA _ _ _ _ (asg [(0, (encL 3 encSpan) a), (1, (encL 3 encSpan) b), (5, .ptr c1 2 0 0), (6, D.b false), (7, (encL 3 encSpan) ((unionF a b).1)), (9, (encL 3 encSpan) ((meetF a b).1)), (11, (encL 3 encSpan) ((minusF a b).1)), (84, D.b ((((((((unionF a b).2) != 0) || (((meetF a b).2) != 0)) || (((minusF a b).2) != 0)) || (!(validF ((unionF a b).1)))) || (!(validF ((meetF a b).1)))) || (!(validF ((minusF a b).1)))))]) [(c1, .cells 2 [encLine x])]
  refine wpA_cond rfl (fun b4 => ?_) (fun b4 => ?_)
  have h := h.1 ((or0 b4).imp (fun hh => ((or0 hh).imp (fun hh => ((or0 hh).imp (fun hh => ((or0 hh).imp (fun hh => ((or0 hh).imp (fun hh => (bneT hh)) (fun hh => (bneT hh)))) (fun hh => (bneT hh)))) (fun hh => (notT hh)))) (fun hh => (notT hh)))) (fun hh => (notT hh)))
  refine wpA_seq ?_
  refine wpA_region ?_
  refine wpL_op rfl rfl rfl (OpA.asn rfl (by with_reducible conv => lhs; whnf) ?_)
  refine wpL_nil ?_
  refine wpA_ret ?_
  exact ⟨_, (.tmp (d := D.b false) rfl .nil), _, (.same rfl .nil), ⟨false, rfl, h⟩⟩
  have h := h.2 ⟨⟨⟨⟨⟨(bneF (or1 (or1 (or1 (or1 (or1 b4)))))), (bneF (or2 (or1 (or1 (or1 (or1 b4))))))⟩, (bneF (or2 (or1 (or1 (or1 b4)))))⟩, (notF (or2 (or1 (or1 b4))))⟩, (notF (or2 (or1 b4)))⟩, (notF (or2 b4))⟩
  refine wpA_skip ?_
  refine wpA_seq ?_
  refine wpA_region ?_
  refine wpL_op rfl rfl rfl (OpA.load_whole rfl ti26 rfl rfl .head rfl ⟨_, rfl⟩ ?_)
  refine wpL_op rfl rfl rfl (OpA.buildSliceV (enc := encLine) (xs := ([x] : List Line)) rfl ts22 rfl (.cons (.of (sz := 2) rfl) .nil) (by decide) rfl (fun c5 => ?_))
  refine wpL_op rfl rfl rfl (OpA.asn rfl (by with_reducible conv => lhs; whnf) ?_)
  refine wpL_nil ?_
  iterate 2 refine wpA_seq ?_
  refine wpA_region ?_
  refine wpL_op rfl rfl rfl (OpA.mv rfl (by with_reducible conv => lhs; whnf) ?_)
  refine wpL_op rfl rfl rfl (OpA.mv rfl (by with_reducible conv => lhs; whnf) ?_)
  refine wpL_op rfl rfl rfl (OpA.ibuildSliceO rfl ts43 rfl (.cons (.of (sz := 1) rfl) (.cons (.of (sz := 1) rfl) .nil)) (by decide) ?_)
  refine wpL_op rfl rfl rfl (OpA.len rfl rfl rfl rfl ts43.desc (.inl ⟨_, _, rfl, (List.length_map _).symm⟩) ?_)
  refine wpL_op rfl rfl rfl (OpA.mv rfl (by with_reducible conv => lhs; whnf) ?_)
  refine wpL_nil ?_
  refine wpA_block ?_
  refine wpA_lfp (S := (List Line) × Int) (G := Nat × List D × List D) (c5, ([] : List D), ([] : List D)) (fun gg ss => asg [(0, (encL 3 encSpan) a), (1, (encL 3 encSpan) b), (6, D.b false), (7, (encL 3 encSpan) ((unionF a b).1)), (9, (encL 3 encSpan) ((meetF a b).1)), (11, (encL 3 encSpan) ((minusF a b).1)), (13, .own gg.1 2 gg.2.1.length ss.1.length), (89, (encL 1 (encL 3 encSpan)) ([a, b] : List (List Span))), (90, D.i (([a, b] : List (List Span)).length : Int)), (91, D.i ss.2)]) (fun gg ss => [(gg.1, .cells 2 (winL encLine gg.2.1 ss.1 gg.2.2)), (c1, .cells 2 [encLine x])]) h (Cov.asg ⟨rfl, rfl, rfl, rfl, rfl, rfl, rfl, rfl, rfl, rfl, trivial⟩) (.refl _) ?_
  rintro again6 ⟨cb86, pre86, post86⟩ ⟨points, x1⟩ h
  have h : lawPoints_L1 a b Q again6 points x1 := h
  unfold lawPoints_L1 at h
  show wpA _ _ _ _ (asg [(0, (encL 3 encSpan) a), (1, (encL 3 encSpan) b), (6, D.b false), (7, (encL 3 encSpan) ((unionF a b).1)), (9, (encL 3 encSpan) ((meetF a b).1)), (11, (encL 3 encSpan) ((minusF a b).1)), (13, .own cb86 2 pre86.length points.length), (89, (encL 1 (encL 3 encSpan)) ([a, b] : List (List Span))), (90, D.i (([a, b] : List (List Span)).length : Int)), (91, D.i x1)]) [(cb86, .cells 2 (winL encLine pre86 points post86)), (c1, .cells 2 [encLine x])]
  refine wpA_seq ?_
  refine wpA_region ?_
  refine wpL_op rfl rfl rfl (OpA.lss rfl rfl rfl ?_)
  refine wpL_nil ?_
  refine wpA_seq ?_
  refine wpA_cond rfl (fun b7 => ?_) (fun b7 => ?_)
  have h := h.1 (decT b7)
  refine wpA_skip ?_
  refine wpA_seq ?_
  refine wpA_block ?_
  refine wpA_seq ?_
  obtain ⟨q1, h⟩ := h
  refine wpA_region ?_
  refine wpL_op rfl rfl rfl (OpA.iixV (enc := (encL 3 encSpan)) rfl ts43 rfl rfl rfl q1 ?_)
  refine wpL_op rfl rfl rfl (OpA.iload rfl ti29 rfl rfl ?_)
  refine wpL_op rfl rfl rfl (OpA.asn rfl (by with_reducible conv => lhs; whnf) ?_)
  refine wpL_nil ?_
  refine wpA_seq ?_
  refine wpA_region ?_
  refine wpL_op rfl rfl rfl (OpA.mv rfl (by with_reducible conv => lhs; whnf) ?_)
  refine wpL_op rfl rfl rfl (OpA.len rfl rfl rfl rfl ts29.desc (.inl ⟨_, _, rfl, (List.length_map _).symm⟩) ?_)
  refine wpL_op rfl rfl rfl (OpA.mv rfl (by with_reducible conv => lhs; whnf) ?_)
  refine wpL_nil ?_
  refine wpA_block ?_
  refine wpA_lfp (S := (List Line) × Int) (G := Nat × List D × List D) (cb86, pre86, post86) (fun gg ss => asg [(0, (encL 3 encSpan) a), (1, (encL 3 encSpan) b), (6, D.b false), (7, (encL 3 encSpan) ((unionF a b).1)), (9, (encL 3 encSpan) ((meetF a b).1)), (11, (encL 3 encSpan) ((minusF a b).1)), (13, .own gg.1 2 gg.2.1.length ss.1.length), (89, (encL 1 (encL 3 encSpan)) ([a, b] : List (List Span))), (90, D.i (([a, b] : List (List Span)).length : Int)), (91, D.i x1), (95, (encL 3 encSpan) (gi ([a, b] : List (List Span)) x1)), (96, D.i ((gi ([a, b] : List (List Span)) x1).length : Int)), (97, D.i ss.2)]) (fun gg ss => [(gg.1, .cells 2 (winL encLine gg.2.1 ss.1 gg.2.2)), (c1, .cells 2 [encLine x])]) h (Cov.asg ⟨rfl, rfl, rfl, rfl, rfl, rfl, rfl, rfl, rfl, rfl, rfl, rfl, rfl, trivial⟩) (.refl _) ?_
  rintro again8 ⟨cb861, pre861, post861⟩ ⟨points1, x2⟩ h
  have h : lawPoints_L2 a b x1 again6 again8 points1 x2 := h
  unfold lawPoints_L2 at h
  show wpA _ _ _ _ (asg [(0, (encL 3 encSpan) a), (1, (encL 3 encSpan) b), (6, D.b false), (7, (encL 3 encSpan) ((unionF a b).1)), (9, (encL 3 encSpan) ((meetF a b).1)), (11, (encL 3 encSpan) ((minusF a b).1)), (13, .own cb861 2 pre861.length points1.length), (89, (encL 1 (encL 3 encSpan)) ([a, b] : List (List Span))), (90, D.i (([a, b] : List (List Span)).length : Int)), (91, D.i x1), (95, (encL 3 encSpan) (gi ([a, b] : List (List Span)) x1)), (96, D.i ((gi ([a, b] : List (List Span)) x1).length : Int)), (97, D.i x2)]) [(cb861, .cells 2 (winL encLine pre861 points1 post861)), (c1, .cells 2 [encLine x])]
  refine wpA_seq ?_
  refine wpA_region ?_
  refine wpL_op rfl rfl rfl (OpA.lss rfl rfl rfl ?_)
  refine wpL_nil ?_
  refine wpA_seq ?_
  refine wpA_cond rfl (fun b9 => ?_) (fun b9 => ?_)
  have h := h.1 (decT b9)
  refine wpA_skip ?_
  refine wpA_seq ?_
  refine wpA_block ?_
  refine wpA_seq ?_
  obtain ⟨q1, h⟩ := h
  refine wpA_region ?_
  refine wpL_op rfl rfl rfl (OpA.iixV (enc := encSpan) rfl ts29 rfl rfl rfl q1 ?_)
  refine wpL_op rfl rfl rfl (OpA.iload_whole rfl ti35 rfl ⟨_, rfl, rfl⟩ ?_)
  refine wpL_op rfl rfl rfl (OpA.alloc (sz := 3) (d := encSpan (Span.mk ByteArray.empty 0 0)) rfl tz35 (fun _ _ => .agg (.cons (.v _) (.cons (.v _) (.cons (.v _) .nil)))) (.of rfl) (fun c10 _ => ?_))
  refine wpL_eff rfl rfl (OpA.storeW rfl ti35 rfl (by with_reducible conv => lhs; whnf) (.of rfl) rfl rfl .head ?_)
  refine wpL_nil ?_
  obtain ⟨q1, q2, q3, h⟩ := h
  refine wpA_region ?_
  refine wpL_op rfl rfl rfl (OpA.mv rfl (by with_reducible conv => lhs; whnf) ?_)
  refine wpL_op rfl rfl rfl (OpA.fieldAddr rfl tf35_0 rfl ?_)
  refine wpL_op rfl rfl rfl (OpA.load rfl ti9 rfl .head rfl rfl ?_)
  refine wpL_op rfl rfl rfl (OpA.fieldAddr rfl tf35_1 rfl ?_)
  refine wpL_op rfl rfl rfl (OpA.load rfl ti3 rfl .head rfl rfl ?_)
  refine wpL_op rfl rfl rfl (OpA.subi rfl rfl rfl q1 ?_)
  refine wpL_op rfl rfl rfl (OpA.buildO (zs := [.v (.string ⟨#[]⟩), .v (.int .i64 0)]) rfl tp26 tz26 (fun _ _ => (.cons (.v _) (.cons (.v _) .nil))) (.cons (.of (sz := 1) rfl) (.cons (.of (sz := 1) rfl) .nil)) rfl ?_)
  refine wpL_op rfl rfl rfl (OpA.fieldAddr rfl tf35_0 rfl ?_)
  refine wpL_op rfl rfl rfl (OpA.load rfl ti9 rfl .head rfl rfl ?_)
  refine wpL_op rfl rfl rfl (OpA.fieldAddr rfl tf35_1 rfl ?_)
  refine wpL_op rfl rfl rfl (OpA.load rfl ti3 rfl .head rfl rfl ?_)
  refine wpL_op rfl rfl rfl (OpA.buildO (zs := [.v (.string ⟨#[]⟩), .v (.int .i64 0)]) rfl tp26 tz26 (fun _ _ => (.cons (.v _) (.cons (.v _) .nil))) (.cons (.of (sz := 1) rfl) (.cons (.of (sz := 1) rfl) .nil)) rfl ?_)
  refine wpL_op rfl rfl rfl (OpA.fieldAddr rfl tf35_0 rfl ?_)
  refine wpL_op rfl rfl rfl (OpA.load rfl ti9 rfl .head rfl rfl ?_)
  refine wpL_op rfl rfl rfl (OpA.fieldAddr rfl tf35_2 rfl ?_)
  refine wpL_op rfl rfl rfl (OpA.load rfl ti3 rfl .head rfl rfl ?_)
  refine wpL_op rfl rfl rfl (OpA.subi rfl rfl rfl q2 ?_)
  refine wpL_op rfl rfl rfl (OpA.buildO (zs := [.v (.string ⟨#[]⟩), .v (.int .i64 0)]) rfl tp26 tz26 (fun _ _ => (.cons (.v _) (.cons (.v _) .nil))) (.cons (.of (sz := 1) rfl) (.cons (.of (sz := 1) rfl) .nil)) rfl ?_)
  refine wpL_op rfl rfl rfl (OpA.fieldAddr rfl tf35_0 rfl ?_)
  refine wpL_op rfl rfl rfl (OpA.load rfl ti9 rfl .head rfl rfl ?_)
  refine wpL_op rfl rfl rfl (OpA.fieldAddr rfl tf35_2 rfl ?_)
  refine wpL_op rfl rfl rfl (OpA.load rfl ti3 rfl .head rfl rfl ?_)
  refine wpL_op rfl rfl rfl (OpA.buildO (zs := [.v (.string ⟨#[]⟩), .v (.int .i64 0)]) rfl tp26 tz26 (fun _ _ => (.cons (.v _) (.cons (.v _) .nil))) (.cons (.of (sz := 1) rfl) (.cons (.of (sz := 1) rfl) .nil)) rfl ?_)
  refine wpL_op rfl rfl rfl (OpA.ibuildSliceO rfl ts22 rfl (.cons (.of (sz := 2) rfl) (.cons (.of (sz := 2) rfl) (.cons (.of (sz := 2) rfl) (.cons (.of (sz := 2) rfl) .nil)))) (by decide) ?_)
  refine wpL_op rfl rfl rfl (OpA.appendW (enc := encLine) rfl rfl rfl rfl ts22 rfl (fun _ _ => (.tail .head)) (.list (ys := ([(Line.mk ((gi (gi ([a, b] : List (List Span)) x1) x2).path) (((gi (gi ([a, b] : List (List Span)) x1) x2).from_) - 1)), (Line.mk ((gi (gi ([a, b] : List (List Span)) x1) x2).path) ((gi (gi ([a, b] : List (List Span)) x1) x2).from_)), (Line.mk ((gi (gi ([a, b] : List (List Span)) x1) x2).path) (((gi (gi ([a, b] : List (List Span)) x1) x2).to) - 1)), (Line.mk ((gi (gi ([a, b] : List (List Span)) x1) x2).path) ((gi (gi ([a, b] : List (List Span)) x1) x2).to))] : List Line))) q3 (fun c11 pre12 => ?_))
  refine wpL_op rfl rfl rfl (OpA.asn rfl (by with_reducible conv => lhs; whnf) ?_)
  refine wpL_nil ?_
  obtain ⟨q1, h⟩ := h
  refine wpA_region ?_
  refine wpL_op rfl rfl rfl (OpA.addi rfl rfl rfl q1 ?_)
  refine wpL_op rfl rfl rfl (OpA.mv rfl (by with_reducible conv => lhs; whnf) ?_)
  refine wpL_nil ?_
  exact ⟨(c11, pre12, ([] : List D)), ((points1 ++ ([(Line.mk ((gi (gi ([a, b] : List (List Span)) x1) x2).path) (((gi (gi ([a, b] : List (List Span)) x1) x2).from_) - 1)), (Line.mk ((gi (gi ([a, b] : List (List Span)) x1) x2).path) ((gi (gi ([a, b] : List (List Span)) x1) x2).from_)), (Line.mk ((gi (gi ([a, b] : List (List Span)) x1) x2).path) (((gi (gi ([a, b] : List (List Span)) x1) x2).to) - 1)), (Line.mk ((gi (gi ([a, b] : List (List Span)) x1) x2).path) ((gi (gi ([a, b] : List (List Span)) x1) x2).to))] : List Line)), (x2 + 1)), h, (Cov.asg ⟨rfl, rfl, rfl, rfl, rfl, rfl, rfl, rfl, rfl, rfl, rfl, rfl, rfl, trivial⟩), (.cons _ (.refl _))⟩
  have h := h.2 (decF b9)
  refine wpA_exit ?_
  obtain ⟨q1, h⟩ := h
  refine wpA_region ?_
  refine wpL_op rfl rfl rfl (OpA.addi rfl rfl rfl q1 ?_)
  refine wpL_op rfl rfl rfl (OpA.mv rfl (by with_reducible conv => lhs; whnf) ?_)
  refine wpL_nil ?_
  exact ⟨(cb861, pre861, post861), (points1, (x1 + 1)), h, (Cov.asg ⟨rfl, rfl, rfl, rfl, rfl, rfl, rfl, rfl, rfl, rfl, trivial⟩), (.refl _)⟩
  have h := h.2 (decF b7)
  refine wpA_exit ?_
  iterate 2 refine wpA_seq ?_
  refine wpA_region ?_
  refine wpL_op rfl rfl rfl (OpA.mv rfl (by with_reducible conv => lhs; whnf) ?_)
  refine wpL_op rfl rfl rfl (OpA.len rfl rfl rfl rfl ts22.desc (.inr (.inl ⟨_, _, _, rfl⟩)) ?_)
  refine wpL_op rfl rfl rfl (OpA.mv rfl (by with_reducible conv => lhs; whnf) ?_)
  refine wpL_nil ?_
  refine wpA_block ?_
  refine wpA_lfp (S := Int) (G := Unit) () (fun gg ss => asg [(0, (encL 3 encSpan) a), (1, (encL 3 encSpan) b), (6, D.b false), (7, (encL 3 encSpan) ((unionF a b).1)), (9, (encL 3 encSpan) ((meetF a b).1)), (11, (encL 3 encSpan) ((minusF a b).1)), (128, .own cb86 2 pre86.length points.length), (129, D.i (points.length : Int)), (130, D.i ss)]) (fun gg ss => [(cb86, .cells 2 (winL encLine pre86 points post86)), (c1, .cells 2 [encLine x])]) h (Cov.asg ⟨rfl, rfl, rfl, rfl, rfl, rfl, rfl, rfl, rfl, trivial⟩) (.refl _) ?_
  rintro again13 _ x3 h
  have h : lawPoints_L3 a b points Q again13 x3 := h
  unfold lawPoints_L3 at h
  show wpA _ _ _ _ (asg [(0, (encL 3 encSpan) a), (1, (encL 3 encSpan) b), (6, D.b false), (7, (encL 3 encSpan) ((unionF a b).1)), (9, (encL 3 encSpan) ((meetF a b).1)), (11, (encL 3 encSpan) ((minusF a b).1)), (128, .own cb86 2 pre86.length points.length), (129, D.i (points.length : Int)), (130, D.i x3)]) [(cb86, .cells 2 (winL encLine pre86 points post86)), (c1, .cells 2 [encLine x])]
  refine wpA_seq ?_
  refine wpA_region ?_
  refine wpL_op rfl rfl rfl (OpA.lss rfl rfl rfl ?_)
  refine wpL_nil ?_
  refine wpA_seq ?_
  refine wpA_cond rfl (fun b14 => ?_) (fun b14 => ?_)
  have h := h.1 (decT b14)
  refine wpA_skip ?_
  refine wpA_seq ?_
  refine wpA_block ?_
  refine wpA_seq ?_
  obtain ⟨q1, h⟩ := h
  refine wpA_region ?_
  refine wpL_op rfl rfl rfl (OpA.ixV rfl ts22 rfl rfl q1 ?_)
  refine wpL_op rfl rfl rfl (OpA.load_whole rfl ti26 rfl rfl .head (getV (enc := encLine) q1) ⟨_, rfl⟩ ?_)
  refine wpL_op rfl rfl rfl (OpA.alloc (sz := 2) (d := encLine (Line.mk ByteArray.empty 0)) rfl tz26 (fun _ _ => .agg (.cons (.v _) (.cons (.v _) .nil))) (.of rfl) (fun c15 _ => ?_))
  refine wpL_eff rfl rfl (OpA.storeW rfl ti26 rfl (by with_reducible conv => lhs; whnf) (.of rfl) rfl rfl .head ?_)
  refine wpL_nil ?_
  refine wpA_seq ?_
  obtain ⟨q1, q2, q3, q4, h⟩ := h
  refine wpA_draw (m := 8) mo (by kernel_rfl) rfl ?_
  refine DetK.op rfl (OpA.mv rfl (by with_reducible conv => lhs; whnf) ⟨rfl, rfl⟩) ?_
  refine DetK.op rfl (OpA.load_whole rfl ti26 rfl rfl .head rfl ⟨_, rfl⟩ ⟨rfl, rfl⟩) ?_
  refine DetK.op rfl (OpA.call rfl rfl rfl en20 (has_c a (gi points x3) q1 q2) (by rintro _ rfl; exact ⟨rfl, rfl⟩)) ?_
  refine DetK.op rfl (OpA.mv rfl (by with_reducible conv => lhs; whnf) ⟨rfl, rfl⟩) ?_
  refine DetK.op rfl (OpA.load_whole rfl ti26 rfl rfl .head rfl ⟨_, rfl⟩ ⟨rfl, rfl⟩) ?_
  refine DetK.op rfl (OpA.call rfl rfl rfl en20 (has_c b (gi points x3) q3 q4) (by rintro _ rfl; exact ⟨rfl, rfl⟩)) ?_
  iterate 2 refine DetK.op rfl (OpA.asn rfl (by with_reducible conv => lhs; whnf) ⟨rfl, rfl⟩) ?_
  refine DetK.nil ?_
  refine wpL_nil ?_
  refine wpA_seq ?_
  obtain ⟨q1, q2, q3, q4, h⟩ := h
  refine wpA_mid (asg [(0, (encL 3 encSpan) a), (1, (encL 3 encSpan) b), (6, D.b false), (7, (encL 3 encSpan) ((unionF a b).1)), (9, (encL 3 encSpan) ((meetF a b).1)), (11, (encL 3 encSpan) ((minusF a b).1)), (128, .own cb86 2 pre86.length points.length), (129, D.i (points.length : Int)), (130, D.i x3), (168, D.b ((((hasF ((unionF a b).1) (gi points x3)) != ((hasF a (gi points x3)) || (hasF b (gi points x3)))) || ((hasF ((meetF a b).1) (gi points x3)) != ((hasF a (gi points x3)) && (hasF b (gi points x3))))) || ((hasF ((minusF a b).1) (gi points x3)) != ((hasF a (gi points x3)) && (!(hasF b (gi points x3)))))))]) [(c15, .cells 2 [encLine (gi points x3)]), (cb86, .cells 2 (winL encLine pre86 points post86)), (c1, .cells 2 [encLine x])] ?_ ?_
  refine wpA_region ?_
  refine wpL_op rfl rfl rfl (OpA.mv rfl (by with_reducible conv => lhs; whnf) ?_)
  refine wpL_op rfl rfl rfl (OpA.load_whole rfl ti26 rfl rfl .head rfl ⟨_, rfl⟩ ?_)
  refine wpL_op rfl rfl rfl (OpA.call rfl rfl rfl en20 (has_c ((unionF a b).1) (gi points x3) q1 q2) ?_)
  rintro _ rfl
  refine wpL_op rfl rfl rfl (OpA.mv rfl (by with_reducible conv => lhs; whnf) ?_)
  refine wpL_op rfl rfl rfl (OpA.mv rfl (by with_reducible conv => lhs; whnf) ?_)
  refine wpL_split (s := 144) rfl (fun b17 => ?_) (fun b17 => ?_)
  refine wpL_skip rfl rfl rfl rfl rfl rfl ?_
  refine wpL_op rfl rfl rfl (OpA.pck rfl rfl (by with_reducible conv => lhs; whnf) ?_)
  refine wpL_op rfl rfl rfl (OpA.bcmp rfl td4 rfl rfl (.inr ⟨rfl, rfl⟩) ?_)
  refine wpL_op rfl rfl rfl (OpA.mv rfl (by with_reducible conv => lhs; whnf) ?_)
  refine wpL_split (s := 148) rfl (fun b18 => ?_) (fun b18 => ?_)
  iterate 5 refine wpL_skip rfl rfl rfl rfl rfl rfl ?_
  refine wpL_skipU rfl rfl rfl rfl rfl ?_
  iterate 2 refine wpL_skip rfl rfl rfl rfl rfl rfl ?_
  refine wpL_op rfl rfl rfl (OpA.pck rfl rfl (by with_reducible conv => lhs; whnf) ?_)
  refine wpL_op rfl rfl rfl (OpA.mv rfl (by with_reducible conv => lhs; whnf) ?_)
  iterate 5 refine wpL_skip rfl rfl rfl rfl rfl rfl ?_
  iterate 2 refine wpL_skipU rfl rfl rfl rfl rfl ?_
  iterate 2 refine wpL_skip rfl rfl rfl rfl rfl rfl ?_
  refine wpL_op rfl rfl rfl (OpA.pck rfl rfl (by with_reducible conv => lhs; whnf) ?_)
  refine wpL_nil ?_
  exact ⟨(Cov.asg ⟨rfl, rfl, rfl, rfl, rfl, rfl, rfl, rfl, rfl, (congrArg D.b (Eq.symm (orS (orS ((bneC rfl (orS b17)).trans b18))))), trivial⟩), (.refl _)⟩
  refine wpL_opg rfl rfl rfl rfl rfl rfl (OpA.mv rfl (by with_reducible conv => lhs; whnf) ?_)
  refine wpL_opg rfl rfl rfl rfl rfl rfl (OpA.load_whole rfl ti26 rfl rfl .head rfl ⟨_, rfl⟩ ?_)
  refine wpL_opg rfl rfl rfl rfl rfl rfl (OpA.call rfl rfl rfl en20 (has_c ((meetF a b).1) (gi points x3) (q3 (show ((hasF ((unionF a b).1) (gi points x3)) != ((hasF a (gi points x3)) || (hasF b (gi points x3)))) = false from ((bneC rfl (orS b17)).trans b18))).1 (q3 (show ((hasF ((unionF a b).1) (gi points x3)) != ((hasF a (gi points x3)) || (hasF b (gi points x3)))) = false from ((bneC rfl (orS b17)).trans b18))).2) ?_)
  rintro _ rfl
  refine wpL_opg rfl rfl rfl rfl rfl rfl (OpA.mv rfl (by with_reducible conv => lhs; whnf) ?_)
  refine wpL_opg rfl rfl rfl rfl rfl rfl (OpA.mv rfl (by with_reducible conv => lhs; whnf) ?_)
  refine wpL_split (s := 153) rfl (fun b19 => ?_) (fun b19 => ?_)
  refine wpL_opg rfl rfl rfl rfl rfl rfl (OpA.mv rfl (by with_reducible conv => lhs; whnf) ?_)
  refine wpL_opg rfl rfl rfl rfl rfl rfl (OpA.pck rfl rfl (by with_reducible conv => lhs; whnf) ?_)
  refine wpL_opg rfl rfl rfl rfl rfl rfl (OpA.bcmp rfl td4 rfl rfl (.inr ⟨rfl, rfl⟩) ?_)
  refine wpL_op rfl rfl rfl (OpA.pck rfl rfl (by with_reducible conv => lhs; whnf) ?_)
  refine wpL_op rfl rfl rfl (OpA.mv rfl (by with_reducible conv => lhs; whnf) ?_)
  refine wpL_split (s := 158) rfl (fun b20 => ?_) (fun b20 => ?_)
  iterate 5 refine wpL_skip rfl rfl rfl rfl rfl rfl ?_
  iterate 2 refine wpL_skipU rfl rfl rfl rfl rfl ?_
  iterate 2 refine wpL_skip rfl rfl rfl rfl rfl rfl ?_
  refine wpL_op rfl rfl rfl (OpA.pck rfl rfl (by with_reducible conv => lhs; whnf) ?_)
  refine wpL_nil ?_
  exact ⟨(Cov.asg ⟨rfl, rfl, rfl, rfl, rfl, rfl, rfl, rfl, rfl, (congrArg D.b (Eq.symm (orS (orN ((bneC rfl (orS b17)).trans b18) ((bneC rfl (andN b19 rfl)).trans b20))))), trivial⟩), (.refl _)⟩
  refine wpL_opg rfl rfl rfl rfl rfl rfl (OpA.mv rfl (by with_reducible conv => lhs; whnf) ?_)
  refine wpL_opg rfl rfl rfl rfl rfl rfl (OpA.load_whole rfl ti26 rfl rfl .head rfl ⟨_, rfl⟩ ?_)
  refine wpL_opg rfl rfl rfl rfl rfl rfl (OpA.call rfl rfl rfl en20 (has_c ((minusF a b).1) (gi points x3) (q4 ⟨(show ((hasF ((unionF a b).1) (gi points x3)) != ((hasF a (gi points x3)) || (hasF b (gi points x3)))) = false from ((bneC rfl (orS b17)).trans b18)), (show ((hasF ((meetF a b).1) (gi points x3)) != ((hasF a (gi points x3)) && (hasF b (gi points x3)))) = false from ((bneC rfl (andN b19 rfl)).trans b20))⟩).1 (q4 ⟨(show ((hasF ((unionF a b).1) (gi points x3)) != ((hasF a (gi points x3)) || (hasF b (gi points x3)))) = false from ((bneC rfl (orS b17)).trans b18)), (show ((hasF ((meetF a b).1) (gi points x3)) != ((hasF a (gi points x3)) && (hasF b (gi points x3)))) = false from ((bneC rfl (andN b19 rfl)).trans b20))⟩).2) ?_)
  rintro _ rfl
  refine wpL_opg rfl rfl rfl rfl rfl rfl (OpA.mv rfl (by with_reducible conv => lhs; whnf) ?_)
  refine wpL_opg rfl rfl rfl rfl rfl rfl (OpA.mv rfl (by with_reducible conv => lhs; whnf) ?_)
  refine wpL_split (s := 163) rfl (fun b21 => ?_) (fun b21 => ?_)
  refine wpL_opg rfl rfl rfl rfl rfl rfl (OpA.mv rfl (by with_reducible conv => lhs; whnf) ?_)
  refine wpL_opg rfl rfl rfl rfl rfl rfl (OpA.not rfl rfl ?_)
  refine wpL_opg rfl rfl rfl rfl rfl rfl (OpA.pck rfl rfl (by with_reducible conv => lhs; whnf) ?_)
  refine wpL_opg rfl rfl rfl rfl rfl rfl (OpA.bcmp rfl td4 rfl rfl (.inr ⟨rfl, rfl⟩) ?_)
  refine wpL_op rfl rfl rfl (OpA.pck rfl rfl (by with_reducible conv => lhs; whnf) ?_)
  refine wpL_nil ?_
  exact ⟨(Cov.asg ⟨rfl, rfl, rfl, rfl, rfl, rfl, rfl, rfl, rfl, (congrArg D.b (Eq.symm (orN (orN ((bneC rfl (orS b17)).trans b18) ((bneC rfl (andN b19 rfl)).trans b20)) (bneC rfl (andN b21 rfl))))), trivial⟩), (.refl _)⟩
  iterate 2 refine wpL_skip rfl rfl rfl rfl rfl rfl ?_
  refine wpL_opg rfl rfl rfl rfl rfl rfl (OpA.pck rfl rfl (by with_reducible conv => lhs; whnf) ?_)
  refine wpL_opg rfl rfl rfl rfl rfl rfl (OpA.bcmp rfl td4 rfl rfl (.inr ⟨rfl, rfl⟩) ?_)
  refine wpL_op rfl rfl rfl (OpA.pck rfl rfl (by with_reducible conv => lhs; whnf) ?_)
  refine wpL_nil ?_
  exact ⟨(Cov.asg ⟨rfl, rfl, rfl, rfl, rfl, rfl, rfl, rfl, rfl, (congrArg D.b (Eq.symm (orN (orN ((bneC rfl (orS b17)).trans b18) ((bneC rfl (andN b19 rfl)).trans b20)) (bneC rfl (andS b21))))), trivial⟩), (.refl _)⟩
  refine wpL_skip rfl rfl rfl rfl rfl rfl ?_
  refine wpL_opg rfl rfl rfl rfl rfl rfl (OpA.pck rfl rfl (by with_reducible conv => lhs; whnf) ?_)
  refine wpL_opg rfl rfl rfl rfl rfl rfl (OpA.bcmp rfl td4 rfl rfl (.inr ⟨rfl, rfl⟩) ?_)
  refine wpL_op rfl rfl rfl (OpA.pck rfl rfl (by with_reducible conv => lhs; whnf) ?_)
  refine wpL_op rfl rfl rfl (OpA.mv rfl (by with_reducible conv => lhs; whnf) ?_)
  refine wpL_split (s := 158) rfl (fun b22 => ?_) (fun b22 => ?_)
  iterate 5 refine wpL_skip rfl rfl rfl rfl rfl rfl ?_
  iterate 2 refine wpL_skipU rfl rfl rfl rfl rfl ?_
  iterate 2 refine wpL_skip rfl rfl rfl rfl rfl rfl ?_
  refine wpL_op rfl rfl rfl (OpA.pck rfl rfl (by with_reducible conv => lhs; whnf) ?_)
  refine wpL_nil ?_
  exact ⟨(Cov.asg ⟨rfl, rfl, rfl, rfl, rfl, rfl, rfl, rfl, rfl, (congrArg D.b (Eq.symm (orS (orN ((bneC rfl (orS b17)).trans b18) ((bneC rfl (andS b19)).trans b22))))), trivial⟩), (.refl _)⟩
  refine wpL_opg rfl rfl rfl rfl rfl rfl (OpA.mv rfl (by with_reducible conv => lhs; whnf) ?_)
  refine wpL_opg rfl rfl rfl rfl rfl rfl (OpA.load_whole rfl ti26 rfl rfl .head rfl ⟨_, rfl⟩ ?_)
  refine wpL_opg rfl rfl rfl rfl rfl rfl (OpA.call rfl rfl rfl en20 (has_c ((minusF a b).1) (gi points x3) (q4 ⟨(show ((hasF ((unionF a b).1) (gi points x3)) != ((hasF a (gi points x3)) || (hasF b (gi points x3)))) = false from ((bneC rfl (orS b17)).trans b18)), (show ((hasF ((meetF a b).1) (gi points x3)) != ((hasF a (gi points x3)) && (hasF b (gi points x3)))) = false from ((bneC rfl (andS b19)).trans b22))⟩).1 (q4 ⟨(show ((hasF ((unionF a b).1) (gi points x3)) != ((hasF a (gi points x3)) || (hasF b (gi points x3)))) = false from ((bneC rfl (orS b17)).trans b18)), (show ((hasF ((meetF a b).1) (gi points x3)) != ((hasF a (gi points x3)) && (hasF b (gi points x3)))) = false from ((bneC rfl (andS b19)).trans b22))⟩).2) ?_)
  rintro _ rfl
  refine wpL_opg rfl rfl rfl rfl rfl rfl (OpA.mv rfl (by with_reducible conv => lhs; whnf) ?_)
  refine wpL_opg rfl rfl rfl rfl rfl rfl (OpA.mv rfl (by with_reducible conv => lhs; whnf) ?_)
  refine wpL_split (s := 163) rfl (fun b23 => ?_) (fun b23 => ?_)
  refine wpL_opg rfl rfl rfl rfl rfl rfl (OpA.mv rfl (by with_reducible conv => lhs; whnf) ?_)
  refine wpL_opg rfl rfl rfl rfl rfl rfl (OpA.not rfl rfl ?_)
  refine wpL_opg rfl rfl rfl rfl rfl rfl (OpA.pck rfl rfl (by with_reducible conv => lhs; whnf) ?_)
  refine wpL_opg rfl rfl rfl rfl rfl rfl (OpA.bcmp rfl td4 rfl rfl (.inr ⟨rfl, rfl⟩) ?_)
  refine wpL_op rfl rfl rfl (OpA.pck rfl rfl (by with_reducible conv => lhs; whnf) ?_)
  refine wpL_nil ?_
  exact ⟨(Cov.asg ⟨rfl, rfl, rfl, rfl, rfl, rfl, rfl, rfl, rfl, (congrArg D.b (Eq.symm (orN (orN ((bneC rfl (orS b17)).trans b18) ((bneC rfl (andS b19)).trans b22)) (bneC rfl (andN b23 rfl))))), trivial⟩), (.refl _)⟩
  iterate 2 refine wpL_skip rfl rfl rfl rfl rfl rfl ?_
  refine wpL_opg rfl rfl rfl rfl rfl rfl (OpA.pck rfl rfl (by with_reducible conv => lhs; whnf) ?_)
  refine wpL_opg rfl rfl rfl rfl rfl rfl (OpA.bcmp rfl td4 rfl rfl (.inr ⟨rfl, rfl⟩) ?_)
  refine wpL_op rfl rfl rfl (OpA.pck rfl rfl (by with_reducible conv => lhs; whnf) ?_)
  refine wpL_nil ?_
  exact ⟨(Cov.asg ⟨rfl, rfl, rfl, rfl, rfl, rfl, rfl, rfl, rfl, (congrArg D.b (Eq.symm (orN (orN ((bneC rfl (orS b17)).trans b18) ((bneC rfl (andS b19)).trans b22)) (bneC rfl (andS b23))))), trivial⟩), (.refl _)⟩
  refine wpL_opg rfl rfl rfl rfl rfl rfl (OpA.mv rfl (by with_reducible conv => lhs; whnf) ?_)
  refine wpL_op rfl rfl rfl (OpA.pck rfl rfl (by with_reducible conv => lhs; whnf) ?_)
  refine wpL_op rfl rfl rfl (OpA.bcmp rfl td4 rfl rfl (.inr ⟨rfl, rfl⟩) ?_)
  refine wpL_op rfl rfl rfl (OpA.mv rfl (by with_reducible conv => lhs; whnf) ?_)
  refine wpL_split (s := 148) rfl (fun b24 => ?_) (fun b24 => ?_)
  iterate 5 refine wpL_skip rfl rfl rfl rfl rfl rfl ?_
  refine wpL_skipU rfl rfl rfl rfl rfl ?_
  iterate 2 refine wpL_skip rfl rfl rfl rfl rfl rfl ?_
  refine wpL_op rfl rfl rfl (OpA.pck rfl rfl (by with_reducible conv => lhs; whnf) ?_)
  refine wpL_op rfl rfl rfl (OpA.mv rfl (by with_reducible conv => lhs; whnf) ?_)
  iterate 5 refine wpL_skip rfl rfl rfl rfl rfl rfl ?_
  iterate 2 refine wpL_skipU rfl rfl rfl rfl rfl ?_
  iterate 2 refine wpL_skip rfl rfl rfl rfl rfl rfl ?_
  refine wpL_op rfl rfl rfl (OpA.pck rfl rfl (by with_reducible conv => lhs; whnf) ?_)
  refine wpL_nil ?_
  exact ⟨(Cov.asg ⟨rfl, rfl, rfl, rfl, rfl, rfl, rfl, rfl, rfl, (congrArg D.b (Eq.symm (orS (orS ((bneC rfl (orN b17 rfl)).trans b24))))), trivial⟩), (.refl _)⟩
  refine wpL_opg rfl rfl rfl rfl rfl rfl (OpA.mv rfl (by with_reducible conv => lhs; whnf) ?_)
  refine wpL_opg rfl rfl rfl rfl rfl rfl (OpA.load_whole rfl ti26 rfl rfl .head rfl ⟨_, rfl⟩ ?_)
  refine wpL_opg rfl rfl rfl rfl rfl rfl (OpA.call rfl rfl rfl en20 (has_c ((meetF a b).1) (gi points x3) (q3 (show ((hasF ((unionF a b).1) (gi points x3)) != ((hasF a (gi points x3)) || (hasF b (gi points x3)))) = false from ((bneC rfl (orN b17 rfl)).trans b24))).1 (q3 (show ((hasF ((unionF a b).1) (gi points x3)) != ((hasF a (gi points x3)) || (hasF b (gi points x3)))) = false from ((bneC rfl (orN b17 rfl)).trans b24))).2) ?_)
  rintro _ rfl
  refine wpL_opg rfl rfl rfl rfl rfl rfl (OpA.mv rfl (by with_reducible conv => lhs; whnf) ?_)
  refine wpL_opg rfl rfl rfl rfl rfl rfl (OpA.mv rfl (by with_reducible conv => lhs; whnf) ?_)
  refine wpL_split (s := 153) rfl (fun b25 => ?_) (fun b25 => ?_)
  refine wpL_opg rfl rfl rfl rfl rfl rfl (OpA.mv rfl (by with_reducible conv => lhs; whnf) ?_)
  refine wpL_opg rfl rfl rfl rfl rfl rfl (OpA.pck rfl rfl (by with_reducible conv => lhs; whnf) ?_)
  refine wpL_opg rfl rfl rfl rfl rfl rfl (OpA.bcmp rfl td4 rfl rfl (.inr ⟨rfl, rfl⟩) ?_)
  refine wpL_op rfl rfl rfl (OpA.pck rfl rfl (by with_reducible conv => lhs; whnf) ?_)
  refine wpL_op rfl rfl rfl (OpA.mv rfl (by with_reducible conv => lhs; whnf) ?_)
  refine wpL_split (s := 158) rfl (fun b26 => ?_) (fun b26 => ?_)
  iterate 5 refine wpL_skip rfl rfl rfl rfl rfl rfl ?_
  iterate 2 refine wpL_skipU rfl rfl rfl rfl rfl ?_
  iterate 2 refine wpL_skip rfl rfl rfl rfl rfl rfl ?_
  refine wpL_op rfl rfl rfl (OpA.pck rfl rfl (by with_reducible conv => lhs; whnf) ?_)
  refine wpL_nil ?_
  exact ⟨(Cov.asg ⟨rfl, rfl, rfl, rfl, rfl, rfl, rfl, rfl, rfl, (congrArg D.b (Eq.symm (orS (orN ((bneC rfl (orN b17 rfl)).trans b24) ((bneC rfl (andN b25 rfl)).trans b26))))), trivial⟩), (.refl _)⟩
  refine wpL_opg rfl rfl rfl rfl rfl rfl (OpA.mv rfl (by with_reducible conv => lhs; whnf) ?_)
  refine wpL_opg rfl rfl rfl rfl rfl rfl (OpA.load_whole rfl ti26 rfl rfl .head rfl ⟨_, rfl⟩ ?_)
  refine wpL_opg rfl rfl rfl rfl rfl rfl (OpA.call rfl rfl rfl en20 (has_c ((minusF a b).1) (gi points x3) (q4 ⟨(show ((hasF ((unionF a b).1) (gi points x3)) != ((hasF a (gi points x3)) || (hasF b (gi points x3)))) = false from ((bneC rfl (orN b17 rfl)).trans b24)), (show ((hasF ((meetF a b).1) (gi points x3)) != ((hasF a (gi points x3)) && (hasF b (gi points x3)))) = false from ((bneC rfl (andN b25 rfl)).trans b26))⟩).1 (q4 ⟨(show ((hasF ((unionF a b).1) (gi points x3)) != ((hasF a (gi points x3)) || (hasF b (gi points x3)))) = false from ((bneC rfl (orN b17 rfl)).trans b24)), (show ((hasF ((meetF a b).1) (gi points x3)) != ((hasF a (gi points x3)) && (hasF b (gi points x3)))) = false from ((bneC rfl (andN b25 rfl)).trans b26))⟩).2) ?_)
  rintro _ rfl
  refine wpL_opg rfl rfl rfl rfl rfl rfl (OpA.mv rfl (by with_reducible conv => lhs; whnf) ?_)
  refine wpL_opg rfl rfl rfl rfl rfl rfl (OpA.mv rfl (by with_reducible conv => lhs; whnf) ?_)
  refine wpL_split (s := 163) rfl (fun b27 => ?_) (fun b27 => ?_)
  refine wpL_opg rfl rfl rfl rfl rfl rfl (OpA.mv rfl (by with_reducible conv => lhs; whnf) ?_)
  refine wpL_opg rfl rfl rfl rfl rfl rfl (OpA.not rfl rfl ?_)
  refine wpL_opg rfl rfl rfl rfl rfl rfl (OpA.pck rfl rfl (by with_reducible conv => lhs; whnf) ?_)
  refine wpL_opg rfl rfl rfl rfl rfl rfl (OpA.bcmp rfl td4 rfl rfl (.inr ⟨rfl, rfl⟩) ?_)
  refine wpL_op rfl rfl rfl (OpA.pck rfl rfl (by with_reducible conv => lhs; whnf) ?_)
  refine wpL_nil ?_
  exact ⟨(Cov.asg ⟨rfl, rfl, rfl, rfl, rfl, rfl, rfl, rfl, rfl, (congrArg D.b (Eq.symm (orN (orN ((bneC rfl (orN b17 rfl)).trans b24) ((bneC rfl (andN b25 rfl)).trans b26)) (bneC rfl (andN b27 rfl))))), trivial⟩), (.refl _)⟩
  iterate 2 refine wpL_skip rfl rfl rfl rfl rfl rfl ?_
  refine wpL_opg rfl rfl rfl rfl rfl rfl (OpA.pck rfl rfl (by with_reducible conv => lhs; whnf) ?_)
  refine wpL_opg rfl rfl rfl rfl rfl rfl (OpA.bcmp rfl td4 rfl rfl (.inr ⟨rfl, rfl⟩) ?_)
  refine wpL_op rfl rfl rfl (OpA.pck rfl rfl (by with_reducible conv => lhs; whnf) ?_)
  refine wpL_nil ?_
  exact ⟨(Cov.asg ⟨rfl, rfl, rfl, rfl, rfl, rfl, rfl, rfl, rfl, (congrArg D.b (Eq.symm (orN (orN ((bneC rfl (orN b17 rfl)).trans b24) ((bneC rfl (andN b25 rfl)).trans b26)) (bneC rfl (andS b27))))), trivial⟩), (.refl _)⟩
  refine wpL_skip rfl rfl rfl rfl rfl rfl ?_
  refine wpL_opg rfl rfl rfl rfl rfl rfl (OpA.pck rfl rfl (by with_reducible conv => lhs; whnf) ?_)
  refine wpL_opg rfl rfl rfl rfl rfl rfl (OpA.bcmp rfl td4 rfl rfl (.inr ⟨rfl, rfl⟩) ?_)
  refine wpL_op rfl rfl rfl (OpA.pck rfl rfl (by with_reducible conv => lhs; whnf) ?_)
  refine wpL_op rfl rfl rfl (OpA.mv rfl (by with_reducible conv => lhs; whnf) ?_)
  refine wpL_split (s := 158) rfl (fun b28 => ?_) (fun b28 => ?_)
  iterate 5 refine wpL_skip rfl rfl rfl rfl rfl rfl ?_
  iterate 2 refine wpL_skipU rfl rfl rfl rfl rfl ?_
  iterate 2 refine wpL_skip rfl rfl rfl rfl rfl rfl ?_
  refine wpL_op rfl rfl rfl (OpA.pck rfl rfl (by with_reducible conv => lhs; whnf) ?_)
  refine wpL_nil ?_
  exact ⟨(Cov.asg ⟨rfl, rfl, rfl, rfl, rfl, rfl, rfl, rfl, rfl, (congrArg D.b (Eq.symm (orS (orN ((bneC rfl (orN b17 rfl)).trans b24) ((bneC rfl (andS b25)).trans b28))))), trivial⟩), (.refl _)⟩
  refine wpL_opg rfl rfl rfl rfl rfl rfl (OpA.mv rfl (by with_reducible conv => lhs; whnf) ?_)
  refine wpL_opg rfl rfl rfl rfl rfl rfl (OpA.load_whole rfl ti26 rfl rfl .head rfl ⟨_, rfl⟩ ?_)
  refine wpL_opg rfl rfl rfl rfl rfl rfl (OpA.call rfl rfl rfl en20 (has_c ((minusF a b).1) (gi points x3) (q4 ⟨(show ((hasF ((unionF a b).1) (gi points x3)) != ((hasF a (gi points x3)) || (hasF b (gi points x3)))) = false from ((bneC rfl (orN b17 rfl)).trans b24)), (show ((hasF ((meetF a b).1) (gi points x3)) != ((hasF a (gi points x3)) && (hasF b (gi points x3)))) = false from ((bneC rfl (andS b25)).trans b28))⟩).1 (q4 ⟨(show ((hasF ((unionF a b).1) (gi points x3)) != ((hasF a (gi points x3)) || (hasF b (gi points x3)))) = false from ((bneC rfl (orN b17 rfl)).trans b24)), (show ((hasF ((meetF a b).1) (gi points x3)) != ((hasF a (gi points x3)) && (hasF b (gi points x3)))) = false from ((bneC rfl (andS b25)).trans b28))⟩).2) ?_)
  rintro _ rfl
  refine wpL_opg rfl rfl rfl rfl rfl rfl (OpA.mv rfl (by with_reducible conv => lhs; whnf) ?_)
  refine wpL_opg rfl rfl rfl rfl rfl rfl (OpA.mv rfl (by with_reducible conv => lhs; whnf) ?_)
  refine wpL_split (s := 163) rfl (fun b29 => ?_) (fun b29 => ?_)
  refine wpL_opg rfl rfl rfl rfl rfl rfl (OpA.mv rfl (by with_reducible conv => lhs; whnf) ?_)
  refine wpL_opg rfl rfl rfl rfl rfl rfl (OpA.not rfl rfl ?_)
  refine wpL_opg rfl rfl rfl rfl rfl rfl (OpA.pck rfl rfl (by with_reducible conv => lhs; whnf) ?_)
  refine wpL_opg rfl rfl rfl rfl rfl rfl (OpA.bcmp rfl td4 rfl rfl (.inr ⟨rfl, rfl⟩) ?_)
  refine wpL_op rfl rfl rfl (OpA.pck rfl rfl (by with_reducible conv => lhs; whnf) ?_)
  refine wpL_nil ?_
  exact ⟨(Cov.asg ⟨rfl, rfl, rfl, rfl, rfl, rfl, rfl, rfl, rfl, (congrArg D.b (Eq.symm (orN (orN ((bneC rfl (orN b17 rfl)).trans b24) ((bneC rfl (andS b25)).trans b28)) (bneC rfl (andN b29 rfl))))), trivial⟩), (.refl _)⟩
  iterate 2 refine wpL_skip rfl rfl rfl rfl rfl rfl ?_
  refine wpL_opg rfl rfl rfl rfl rfl rfl (OpA.pck rfl rfl (by with_reducible conv => lhs; whnf) ?_)
  refine wpL_opg rfl rfl rfl rfl rfl rfl (OpA.bcmp rfl td4 rfl rfl (.inr ⟨rfl, rfl⟩) ?_)
  refine wpL_op rfl rfl rfl (OpA.pck rfl rfl (by with_reducible conv => lhs; whnf) ?_)
  refine wpL_nil ?_
  exact ⟨(Cov.asg ⟨rfl, rfl, rfl, rfl, rfl, rfl, rfl, rfl, rfl, (congrArg D.b (Eq.symm (orN (orN ((bneC rfl (orN b17 rfl)).trans b24) ((bneC rfl (andS b25)).trans b28)) (bneC rfl (andS b29))))), trivial⟩), (.refl _)⟩
  show wpA _ _ _ _ (asg [(0, (encL 3 encSpan) a), (1, (encL 3 encSpan) b), (6, D.b false), (7, (encL 3 encSpan) ((unionF a b).1)), (9, (encL 3 encSpan) ((meetF a b).1)), (11, (encL 3 encSpan) ((minusF a b).1)), (128, .own cb86 2 pre86.length points.length), (129, D.i (points.length : Int)), (130, D.i x3), (168, D.b ((((hasF ((unionF a b).1) (gi points x3)) != ((hasF a (gi points x3)) || (hasF b (gi points x3)))) || ((hasF ((meetF a b).1) (gi points x3)) != ((hasF a (gi points x3)) && (hasF b (gi points x3))))) || ((hasF ((minusF a b).1) (gi points x3)) != ((hasF a (gi points x3)) && (!(hasF b (gi points x3)))))))]) [(c15, .cells 2 [encLine (gi points x3)]), (cb86, .cells 2 (winL encLine pre86 points post86)), (c1, .cells 2 [encLine x])]
  refine wpA_cond rfl (fun b16 => ?_) (fun b16 => ?_)
  have h := h.1 ((or0 b16).imp (fun hh => ((or0 hh).imp (fun hh => hh) (fun hh => hh))) (fun hh => hh))
  refine wpA_seq ?_
  refine wpA_region ?_
  refine wpL_op rfl rfl rfl (OpA.asn rfl (by with_reducible conv => lhs; whnf) ?_)
  refine wpL_nil ?_
  refine wpA_ret ?_
  exact ⟨_, (.tmp (d := D.b false) rfl .nil), _, (.same rfl .nil), ⟨false, rfl, h⟩⟩
  have h := h.2 ⟨⟨(or1 (or1 b16)), (or2 (or1 b16))⟩, (or2 b16)⟩
  refine wpA_skip ?_
  obtain ⟨q1, h⟩ := h
  refine wpA_region ?_
  refine wpL_op rfl rfl rfl (OpA.addi rfl rfl rfl q1 ?_)
  refine wpL_op rfl rfl rfl (OpA.mv rfl (by with_reducible conv => lhs; whnf) ?_)
  refine wpL_nil ?_
  exact ⟨(), (x3 + 1), h, (Cov.asg ⟨rfl, rfl, rfl, rfl, rfl, rfl, rfl, rfl, rfl, trivial⟩), (.cons _ (.refl _))⟩
  have h := h.2 (decF b14)
  refine wpA_exit ?_
  refine wpA_seq ?_
  refine wpA_region ?_
  refine wpL_op rfl rfl rfl (OpA.asn rfl (by with_reducible conv => lhs; whnf) ?_)
  refine wpL_nil ?_
  refine wpA_ret ?_
  exact ⟨_, (.tmp (d := D.b true) rfl .nil), _, (.same rfl .nil), ⟨true, rfl, h⟩⟩
theorem lawPoints_c (a : (List Span)) (b : (List Span)) (x : Line)   : Fun false Tryd.prog 5 [(encL 3 encSpan) a, (encL 3 encSpan) b, encLine x] (fun d => d = D.b (true)) :=
  Fun.at (enc := fun r => D.b r) (v := true) (lawPoints_w a b x  (fun r => r = true) (lawPoints_ok a b x _  rfl))

set_option maxHeartbeats 2000000 in
set_option maxRecDepth 10000 in
theorem lawCounts_w (a : (List Span)) (b : (List Span)) (dir : ByteArray)  (Q : Bool → Prop) (h : lawCounts_vc a b dir Q) : Fun false Tryd.prog 6 [(encL 3 encSpan) a, (encL 3 encSpan) b, D.s dir] (fun d => ∃ r, d = D.b r ∧ Q r) := by
  unfold lawCounts_vc at h
  refine Fun.of_body Tryd.func6 rfl Tryd.ntmps6 rfl ?_
  refine wpA_seq ?_
  refine wpA_region ?_
  refine wpL_op rfl rfl rfl (OpA.asn rfl (by with_reducible conv => lhs; whnf) ?_)
  refine wpL_nil ?_
  iterate 2 refine wpA_seq ?_
  refine wpA_region ?_
  refine wpL_op rfl rfl rfl (OpA.call rfl rfl rfl en8 (awake_c  ) ?_)
  rintro _ rfl
  refine wpL_op rfl rfl rfl (OpA.not rfl rfl ?_)
  refine wpL_nil ?_
  refine wpA_cond rfl (fun b1 => ?_) (fun b1 => ?_)
  have h := h.1 (notT b1)
  refine wpA_seq ?_
  refine wpA_region ?_
  refine wpL_op rfl rfl rfl (OpA.asn rfl (by with_reducible conv => lhs; whnf) ?_)
  refine wpL_nil ?_
  refine wpA_ret ?_
  exact ⟨_, (.tmp (d := D.b false) rfl .nil), _, (.same rfl .nil), ⟨false, rfl, h⟩⟩
  have h := h.2 (notF b1)
  refine wpA_skip ?_
  iterate 2 refine wpA_seq ?_
  obtain ⟨q1, q2, h⟩ := h
  refine wpA_mid (asg [(0, (encL 3 encSpan) a), (1, (encL 3 encSpan) b), (2, D.s dir), (6, D.b false), (44, D.b (((((!(fewF a)) || (!(fewF b))) || (decide ((dir.size : Int) > 200))) || (!(validF a))) || (!(validF b))))]) [] ?_ ?_
  refine wpA_region ?_
  refine wpL_op rfl rfl rfl (OpA.mv rfl (by with_reducible conv => lhs; whnf) ?_)
  refine wpL_op rfl rfl rfl (OpA.call rfl rfl rfl en14 (rfew_c a ) ?_)
  rintro _ rfl
  refine wpL_op rfl rfl rfl (OpA.not rfl rfl ?_)
  refine wpL_op rfl rfl rfl (OpA.mv rfl (by with_reducible conv => lhs; whnf) ?_)
  refine wpL_split (s := 25) rfl (fun b18 => ?_) (fun b18 => ?_)
  iterate 3 refine wpL_skip rfl rfl rfl rfl rfl rfl ?_
  refine wpL_op rfl rfl rfl (OpA.pck rfl rfl (by with_reducible conv => lhs; whnf) ?_)
  refine wpL_op rfl rfl rfl (OpA.mv rfl (by with_reducible conv => lhs; whnf) ?_)
  iterate 3 refine wpL_skip rfl rfl rfl rfl rfl rfl ?_
  refine wpL_op rfl rfl rfl (OpA.pck rfl rfl (by with_reducible conv => lhs; whnf) ?_)
  refine wpL_op rfl rfl rfl (OpA.mv rfl (by with_reducible conv => lhs; whnf) ?_)
  iterate 3 refine wpL_skip rfl rfl rfl rfl rfl rfl ?_
  refine wpL_op rfl rfl rfl (OpA.pck rfl rfl (by with_reducible conv => lhs; whnf) ?_)
  refine wpL_op rfl rfl rfl (OpA.mv rfl (by with_reducible conv => lhs; whnf) ?_)
  iterate 3 refine wpL_skip rfl rfl rfl rfl rfl rfl ?_
  refine wpL_op rfl rfl rfl (OpA.pck rfl rfl (by with_reducible conv => lhs; whnf) ?_)
  refine wpL_nil ?_
  exact ⟨(Cov.asg ⟨rfl, rfl, rfl, rfl, (congrArg D.b (Eq.symm (orS (orS (orS (orS b18)))))), trivial⟩), (.refl _)⟩
  refine wpL_opg rfl rfl rfl rfl rfl rfl (OpA.mv rfl (by with_reducible conv => lhs; whnf) ?_)
  refine wpL_opg rfl rfl rfl rfl rfl rfl (OpA.call rfl rfl rfl en14 (rfew_c b ) ?_)
  rintro _ rfl
  refine wpL_opg rfl rfl rfl rfl rfl rfl (OpA.not rfl rfl ?_)
  refine wpL_op rfl rfl rfl (OpA.pck rfl rfl (by with_reducible conv => lhs; whnf) ?_)
  refine wpL_op rfl rfl rfl (OpA.mv rfl (by with_reducible conv => lhs; whnf) ?_)
  refine wpL_split (s := 30) rfl (fun b19 => ?_) (fun b19 => ?_)
  iterate 3 refine wpL_skip rfl rfl rfl rfl rfl rfl ?_
  refine wpL_op rfl rfl rfl (OpA.pck rfl rfl (by with_reducible conv => lhs; whnf) ?_)
  refine wpL_op rfl rfl rfl (OpA.mv rfl (by with_reducible conv => lhs; whnf) ?_)
  iterate 3 refine wpL_skip rfl rfl rfl rfl rfl rfl ?_
  refine wpL_op rfl rfl rfl (OpA.pck rfl rfl (by with_reducible conv => lhs; whnf) ?_)
  refine wpL_op rfl rfl rfl (OpA.mv rfl (by with_reducible conv => lhs; whnf) ?_)
  iterate 3 refine wpL_skip rfl rfl rfl rfl rfl rfl ?_
  refine wpL_op rfl rfl rfl (OpA.pck rfl rfl (by with_reducible conv => lhs; whnf) ?_)
  refine wpL_nil ?_
  exact ⟨(Cov.asg ⟨rfl, rfl, rfl, rfl, (congrArg D.b (Eq.symm (orS (orS (orS (orN b18 b19)))))), trivial⟩), (.refl _)⟩
  refine wpL_opg rfl rfl rfl rfl rfl rfl (OpA.mv rfl (by with_reducible conv => lhs; whnf) ?_)
  refine wpL_opg rfl rfl rfl rfl rfl rfl (OpA.slen rfl rfl rfl rfl td9 rfl ?_)
  refine wpL_opg rfl rfl rfl rfl rfl rfl (OpA.gtr rfl rfl rfl ?_)
  refine wpL_op rfl rfl rfl (OpA.pck rfl rfl (by with_reducible conv => lhs; whnf) ?_)
  refine wpL_op rfl rfl rfl (OpA.mv rfl (by with_reducible conv => lhs; whnf) ?_)
  refine wpL_split (s := 35) rfl (fun b20 => ?_) (fun b20 => ?_)
  iterate 3 refine wpL_skip rfl rfl rfl rfl rfl rfl ?_
  refine wpL_op rfl rfl rfl (OpA.pck rfl rfl (by with_reducible conv => lhs; whnf) ?_)
  refine wpL_op rfl rfl rfl (OpA.mv rfl (by with_reducible conv => lhs; whnf) ?_)
  iterate 3 refine wpL_skip rfl rfl rfl rfl rfl rfl ?_
  refine wpL_op rfl rfl rfl (OpA.pck rfl rfl (by with_reducible conv => lhs; whnf) ?_)
  refine wpL_nil ?_
  exact ⟨(Cov.asg ⟨rfl, rfl, rfl, rfl, (congrArg D.b (Eq.symm (orS (orS (orN (orN b18 b19) b20))))), trivial⟩), (.refl _)⟩
  refine wpL_opg rfl rfl rfl rfl rfl rfl (OpA.mv rfl (by with_reducible conv => lhs; whnf) ?_)
  refine wpL_opg rfl rfl rfl rfl rfl rfl (OpA.call rfl rfl rfl en15 (valid_c a (q1 ⟨⟨(notF b18), (notF b19)⟩, (decF b20)⟩).1 (q1 ⟨⟨(notF b18), (notF b19)⟩, (decF b20)⟩).2) ?_)
  rintro _ rfl
  refine wpL_opg rfl rfl rfl rfl rfl rfl (OpA.not rfl rfl ?_)
  refine wpL_op rfl rfl rfl (OpA.pck rfl rfl (by with_reducible conv => lhs; whnf) ?_)
  refine wpL_op rfl rfl rfl (OpA.mv rfl (by with_reducible conv => lhs; whnf) ?_)
  refine wpL_split (s := 40) rfl (fun b21 => ?_) (fun b21 => ?_)
  iterate 3 refine wpL_skip rfl rfl rfl rfl rfl rfl ?_
  refine wpL_op rfl rfl rfl (OpA.pck rfl rfl (by with_reducible conv => lhs; whnf) ?_)
  refine wpL_nil ?_
  exact ⟨(Cov.asg ⟨rfl, rfl, rfl, rfl, (congrArg D.b (Eq.symm (orS (orN (orN (orN b18 b19) b20) b21)))), trivial⟩), (.refl _)⟩
  refine wpL_opg rfl rfl rfl rfl rfl rfl (OpA.mv rfl (by with_reducible conv => lhs; whnf) ?_)
  refine wpL_opg rfl rfl rfl rfl rfl rfl (OpA.call rfl rfl rfl en15 (valid_c b (q2 ⟨⟨⟨(notF b18), (notF b19)⟩, (decF b20)⟩, (notF b21)⟩).1 (q2 ⟨⟨⟨(notF b18), (notF b19)⟩, (decF b20)⟩, (notF b21)⟩).2) ?_)
  rintro _ rfl
  refine wpL_opg rfl rfl rfl rfl rfl rfl (OpA.not rfl rfl ?_)
  refine wpL_op rfl rfl rfl (OpA.pck rfl rfl (by with_reducible conv => lhs; whnf) ?_)
  refine wpL_nil ?_
  exact ⟨(Cov.asg ⟨rfl, rfl, rfl, rfl, (congrArg D.b (Eq.symm (orN (orN (orN (orN b18 b19) b20) b21) rfl))), trivial⟩), (.refl _)⟩
  show wpA _ _ _ _ (asg [(0, (encL 3 encSpan) a), (1, (encL 3 encSpan) b), (2, D.s dir), (6, D.b false), (44, D.b (((((!(fewF a)) || (!(fewF b))) || (decide ((dir.size : Int) > 200))) || (!(validF a))) || (!(validF b))))]) []
  refine wpA_cond rfl (fun b2 => ?_) (fun b2 => ?_)
  have h := h.1 ((or0 b2).imp (fun hh => ((or0 hh).imp (fun hh => ((or0 hh).imp (fun hh => ((or0 hh).imp (fun hh => (notT hh)) (fun hh => (notT hh)))) (fun hh => (decT hh)))) (fun hh => (notT hh)))) (fun hh => (notT hh)))
  refine wpA_seq ?_
  refine wpA_region ?_
  refine wpL_op rfl rfl rfl (OpA.asn rfl (by with_reducible conv => lhs; whnf) ?_)
  refine wpL_nil ?_
  refine wpA_ret ?_
  exact ⟨_, (.tmp (d := D.b true) rfl .nil), _, (.same rfl .nil), ⟨true, rfl, h⟩⟩
  have h := h.2 ⟨⟨⟨⟨(notF (or1 (or1 (or1 (or1 b2))))), (notF (or2 (or1 (or1 (or1 b2)))))⟩, (decF (or2 (or1 (or1 b2))))⟩, (notF (or2 (or1 b2)))⟩, (notF (or2 b2))⟩
  refine wpA_skip ?_
  refine wpA_seq ?_
  obtain ⟨q1, q2, q3, q4, h⟩ := h
  refine wpA_region ?_
  refine wpL_op rfl rfl rfl (OpA.mv rfl (by with_reducible conv => lhs; whnf) ?_)
  refine wpL_op rfl rfl rfl (OpA.mv rfl (by with_reducible conv => lhs; whnf) ?_)
  refine wpL_op rfl rfl rfl (OpA.call rfl rfl rfl en24 (union_c a b q1 q2 q3 q4) ?_)
  rintro _ rfl
  refine wpL_op rfl rfl rfl (OpA.mv rfl (by with_reducible conv => lhs; whnf) ?_)
  refine wpL_op rfl rfl rfl (OpA.extract rfl rfl rfl ?_)
  refine wpL_op rfl rfl rfl (OpA.extract rfl rfl rfl ?_)
  refine wpL_op rfl rfl rfl (OpA.asn rfl (by with_reducible conv => lhs; whnf) ?_)
  refine wpL_op rfl rfl rfl (OpA.asn rfl (by with_reducible conv => lhs; whnf) ?_)
  refine wpL_nil ?_
  refine wpA_seq ?_
  obtain ⟨q1, q2, q3, q4, h⟩ := h
  refine wpA_region ?_
  refine wpL_op rfl rfl rfl (OpA.mv rfl (by with_reducible conv => lhs; whnf) ?_)
  refine wpL_op rfl rfl rfl (OpA.mv rfl (by with_reducible conv => lhs; whnf) ?_)
  refine wpL_op rfl rfl rfl (OpA.call rfl rfl rfl en25 (meet_c a b q1 q2 q3 q4) ?_)
  rintro _ rfl
  refine wpL_op rfl rfl rfl (OpA.mv rfl (by with_reducible conv => lhs; whnf) ?_)
  refine wpL_op rfl rfl rfl (OpA.extract rfl rfl rfl ?_)
  refine wpL_op rfl rfl rfl (OpA.extract rfl rfl rfl ?_)
  refine wpL_op rfl rfl rfl (OpA.asn rfl (by with_reducible conv => lhs; whnf) ?_)
  refine wpL_op rfl rfl rfl (OpA.asn rfl (by with_reducible conv => lhs; whnf) ?_)
  refine wpL_nil ?_
  refine wpA_seq ?_
  obtain ⟨q1, q2, q3, q4, h⟩ := h
  refine wpA_region ?_
  refine wpL_op rfl rfl rfl (OpA.mv rfl (by with_reducible conv => lhs; whnf) ?_)
  refine wpL_op rfl rfl rfl (OpA.mv rfl (by with_reducible conv => lhs; whnf) ?_)
  refine wpL_op rfl rfl rfl (OpA.call rfl rfl rfl en26 (minus_c a b q1 q2 q3 q4) ?_)
  rintro _ rfl
  refine wpL_op rfl rfl rfl (OpA.mv rfl (by with_reducible conv => lhs; whnf) ?_)
  refine wpL_op rfl rfl rfl (OpA.extract rfl rfl rfl ?_)
  refine wpL_op rfl rfl rfl (OpA.extract rfl rfl rfl ?_)
  refine wpL_op rfl rfl rfl (OpA.asn rfl (by with_reducible conv => lhs; whnf) ?_)
  refine wpL_op rfl rfl rfl (OpA.asn rfl (by with_reducible conv => lhs; whnf) ?_)
  refine wpL_nil ?_
  iterate 2 refine wpA_seq ?_
  obtain ⟨q1, q2, h⟩ := h
  refine wpA_mid (asg [(0, (encL 3 encSpan) a), (2, D.s dir), (6, D.b false), (95, D.b (((((((unionF a b).2) != 0) || (((meetF a b).2) != 0)) || (((minusF a b).2) != 0)) || (((countL ((unionF a b).1)) + (countL ((meetF a b).1))) != ((countL a) + (countL b)))) || (((countL ((minusF a b).1)) + (countL ((meetF a b).1))) != (countL a))))]) [] ?_ ?_
  refine wpA_region ?_
  refine wpL_op rfl rfl rfl (OpA.mv rfl (by with_reducible conv => lhs; whnf) ?_)
  refine wpL_op rfl rfl rfl (OpA.neq rfl rfl rfl ?_)
  refine wpL_op rfl rfl rfl (OpA.mv rfl (by with_reducible conv => lhs; whnf) ?_)
  refine wpL_split (s := 65) rfl (fun b14 => ?_) (fun b14 => ?_)
  iterate 2 refine wpL_skip rfl rfl rfl rfl rfl rfl ?_
  refine wpL_op rfl rfl rfl (OpA.pck rfl rfl (by with_reducible conv => lhs; whnf) ?_)
  refine wpL_op rfl rfl rfl (OpA.mv rfl (by with_reducible conv => lhs; whnf) ?_)
  iterate 2 refine wpL_skip rfl rfl rfl rfl rfl rfl ?_
  refine wpL_op rfl rfl rfl (OpA.pck rfl rfl (by with_reducible conv => lhs; whnf) ?_)
  refine wpL_op rfl rfl rfl (OpA.mv rfl (by with_reducible conv => lhs; whnf) ?_)
  iterate 11 refine wpL_skip rfl rfl rfl rfl rfl rfl ?_
  refine wpL_op rfl rfl rfl (OpA.pck rfl rfl (by with_reducible conv => lhs; whnf) ?_)
  refine wpL_op rfl rfl rfl (OpA.mv rfl (by with_reducible conv => lhs; whnf) ?_)
  iterate 8 refine wpL_skip rfl rfl rfl rfl rfl rfl ?_
  refine wpL_op rfl rfl rfl (OpA.pck rfl rfl (by with_reducible conv => lhs; whnf) ?_)
  refine wpL_nil ?_
  exact ⟨(Cov.asg ⟨rfl, rfl, rfl, (congrArg D.b (Eq.symm (orS (orS (orS (orS b14)))))), trivial⟩), (.refl _)⟩
  refine wpL_opg rfl rfl rfl rfl rfl rfl (OpA.mv rfl (by with_reducible conv => lhs; whnf) ?_)
  refine wpL_opg rfl rfl rfl rfl rfl rfl (OpA.neq rfl rfl rfl ?_)
  refine wpL_op rfl rfl rfl (OpA.pck rfl rfl (by with_reducible conv => lhs; whnf) ?_)
  refine wpL_op rfl rfl rfl (OpA.mv rfl (by with_reducible conv => lhs; whnf) ?_)
  refine wpL_split (s := 69) rfl (fun b15 => ?_) (fun b15 => ?_)
  iterate 2 refine wpL_skip rfl rfl rfl rfl rfl rfl ?_
  refine wpL_op rfl rfl rfl (OpA.pck rfl rfl (by with_reducible conv => lhs; whnf) ?_)
  refine wpL_op rfl rfl rfl (OpA.mv rfl (by with_reducible conv => lhs; whnf) ?_)
  iterate 11 refine wpL_skip rfl rfl rfl rfl rfl rfl ?_
  refine wpL_op rfl rfl rfl (OpA.pck rfl rfl (by with_reducible conv => lhs; whnf) ?_)
  refine wpL_op rfl rfl rfl (OpA.mv rfl (by with_reducible conv => lhs; whnf) ?_)
  iterate 8 refine wpL_skip rfl rfl rfl rfl rfl rfl ?_
  refine wpL_op rfl rfl rfl (OpA.pck rfl rfl (by with_reducible conv => lhs; whnf) ?_)
  refine wpL_nil ?_
  exact ⟨(Cov.asg ⟨rfl, rfl, rfl, (congrArg D.b (Eq.symm (orS (orS (orS (orN b14 b15)))))), trivial⟩), (.refl _)⟩
  refine wpL_opg rfl rfl rfl rfl rfl rfl (OpA.mv rfl (by with_reducible conv => lhs; whnf) ?_)
  refine wpL_opg rfl rfl rfl rfl rfl rfl (OpA.neq rfl rfl rfl ?_)
  refine wpL_op rfl rfl rfl (OpA.pck rfl rfl (by with_reducible conv => lhs; whnf) ?_)
  refine wpL_op rfl rfl rfl (OpA.mv rfl (by with_reducible conv => lhs; whnf) ?_)
  refine wpL_split (s := 73) rfl (fun b16 => ?_) (fun b16 => ?_)
  iterate 11 refine wpL_skip rfl rfl rfl rfl rfl rfl ?_
  refine wpL_op rfl rfl rfl (OpA.pck rfl rfl (by with_reducible conv => lhs; whnf) ?_)
  refine wpL_op rfl rfl rfl (OpA.mv rfl (by with_reducible conv => lhs; whnf) ?_)
  iterate 8 refine wpL_skip rfl rfl rfl rfl rfl rfl ?_
  refine wpL_op rfl rfl rfl (OpA.pck rfl rfl (by with_reducible conv => lhs; whnf) ?_)
  refine wpL_nil ?_
  exact ⟨(Cov.asg ⟨rfl, rfl, rfl, (congrArg D.b (Eq.symm (orS (orS (orN (orN b14 b15) b16))))), trivial⟩), (.refl _)⟩
  refine wpL_opg rfl rfl rfl rfl rfl rfl (OpA.mv rfl (by with_reducible conv => lhs; whnf) ?_)
  refine wpL_opg rfl rfl rfl rfl rfl rfl (OpA.call rfl rfl rfl en22 (count_c ((unionF a b).1) (q1 ⟨⟨(bneF b14), (bneF b15)⟩, (bneF b16)⟩).1 (q1 ⟨⟨(bneF b14), (bneF b15)⟩, (bneF b16)⟩).2.1) ?_)
  rintro _ rfl
  refine wpL_opg rfl rfl rfl rfl rfl rfl (OpA.mv rfl (by with_reducible conv => lhs; whnf) ?_)
  refine wpL_opg rfl rfl rfl rfl rfl rfl (OpA.call rfl rfl rfl en22 (count_c ((meetF a b).1) (q1 ⟨⟨(bneF b14), (bneF b15)⟩, (bneF b16)⟩).2.2.1 (q1 ⟨⟨(bneF b14), (bneF b15)⟩, (bneF b16)⟩).2.2.2.1) ?_)
  rintro _ rfl
  refine wpL_opg rfl rfl rfl rfl rfl rfl (OpA.addi rfl rfl rfl (q1 ⟨⟨(bneF b14), (bneF b15)⟩, (bneF b16)⟩).2.2.2.2.1 ?_)
  refine wpL_opg rfl rfl rfl rfl rfl rfl (OpA.mv rfl (by with_reducible conv => lhs; whnf) ?_)
  refine wpL_opg rfl rfl rfl rfl rfl rfl (OpA.call rfl rfl rfl en22 (count_c a (q1 ⟨⟨(bneF b14), (bneF b15)⟩, (bneF b16)⟩).2.2.2.2.2.1 (q1 ⟨⟨(bneF b14), (bneF b15)⟩, (bneF b16)⟩).2.2.2.2.2.2.1) ?_)
  rintro _ rfl
  refine wpL_opg rfl rfl rfl rfl rfl rfl (OpA.mv rfl (by with_reducible conv => lhs; whnf) ?_)
  refine wpL_opg rfl rfl rfl rfl rfl rfl (OpA.call rfl rfl rfl en22 (count_c b (q1 ⟨⟨(bneF b14), (bneF b15)⟩, (bneF b16)⟩).2.2.2.2.2.2.2.1 (q1 ⟨⟨(bneF b14), (bneF b15)⟩, (bneF b16)⟩).2.2.2.2.2.2.2.2.1) ?_)
  rintro _ rfl
  refine wpL_opg rfl rfl rfl rfl rfl rfl (OpA.addi rfl rfl rfl (q1 ⟨⟨(bneF b14), (bneF b15)⟩, (bneF b16)⟩).2.2.2.2.2.2.2.2.2 ?_)
  refine wpL_opg rfl rfl rfl rfl rfl rfl (OpA.neq rfl rfl rfl ?_)
  refine wpL_op rfl rfl rfl (OpA.pck rfl rfl (by with_reducible conv => lhs; whnf) ?_)
  refine wpL_op rfl rfl rfl (OpA.mv rfl (by with_reducible conv => lhs; whnf) ?_)
  refine wpL_split (s := 86) rfl (fun b17 => ?_) (fun b17 => ?_)
  iterate 8 refine wpL_skip rfl rfl rfl rfl rfl rfl ?_
  refine wpL_op rfl rfl rfl (OpA.pck rfl rfl (by with_reducible conv => lhs; whnf) ?_)
  refine wpL_nil ?_
  exact ⟨(Cov.asg ⟨rfl, rfl, rfl, (congrArg D.b (Eq.symm (orS (orN (orN (orN b14 b15) b16) b17)))), trivial⟩), (.refl _)⟩
  refine wpL_opg rfl rfl rfl rfl rfl rfl (OpA.mv rfl (by with_reducible conv => lhs; whnf) ?_)
  refine wpL_opg rfl rfl rfl rfl rfl rfl (OpA.call rfl rfl rfl en22 (count_c ((minusF a b).1) (q2 ⟨⟨⟨(bneF b14), (bneF b15)⟩, (bneF b16)⟩, (bneF b17)⟩).1 (q2 ⟨⟨⟨(bneF b14), (bneF b15)⟩, (bneF b16)⟩, (bneF b17)⟩).2.1) ?_)
  rintro _ rfl
  refine wpL_opg rfl rfl rfl rfl rfl rfl (OpA.mv rfl (by with_reducible conv => lhs; whnf) ?_)
  refine wpL_opg rfl rfl rfl rfl rfl rfl (OpA.call rfl rfl rfl en22 (count_c ((meetF a b).1) (q2 ⟨⟨⟨(bneF b14), (bneF b15)⟩, (bneF b16)⟩, (bneF b17)⟩).2.2.1 (q2 ⟨⟨⟨(bneF b14), (bneF b15)⟩, (bneF b16)⟩, (bneF b17)⟩).2.2.2.1) ?_)
  rintro _ rfl
  refine wpL_opg rfl rfl rfl rfl rfl rfl (OpA.addi rfl rfl rfl (q2 ⟨⟨⟨(bneF b14), (bneF b15)⟩, (bneF b16)⟩, (bneF b17)⟩).2.2.2.2.1 ?_)
  refine wpL_opg rfl rfl rfl rfl rfl rfl (OpA.mv rfl (by with_reducible conv => lhs; whnf) ?_)
  refine wpL_opg rfl rfl rfl rfl rfl rfl (OpA.call rfl rfl rfl en22 (count_c a (q2 ⟨⟨⟨(bneF b14), (bneF b15)⟩, (bneF b16)⟩, (bneF b17)⟩).2.2.2.2.2.1 (q2 ⟨⟨⟨(bneF b14), (bneF b15)⟩, (bneF b16)⟩, (bneF b17)⟩).2.2.2.2.2.2) ?_)
  rintro _ rfl
  refine wpL_opg rfl rfl rfl rfl rfl rfl (OpA.neq rfl rfl rfl ?_)
  refine wpL_op rfl rfl rfl (OpA.pck rfl rfl (by with_reducible conv => lhs; whnf) ?_)
  refine wpL_nil ?_
  exact ⟨(Cov.asg ⟨rfl, rfl, rfl, (congrArg D.b (Eq.symm (orN (orN (orN (orN b14 b15) b16) b17) rfl))), trivial⟩), (.refl _)⟩
  show wpA _ _ _ _ (asg [(0, (encL 3 encSpan) a), (2, D.s dir), (6, D.b false), (95, D.b (((((((unionF a b).2) != 0) || (((meetF a b).2) != 0)) || (((minusF a b).2) != 0)) || (((countL ((unionF a b).1)) + (countL ((meetF a b).1))) != ((countL a) + (countL b)))) || (((countL ((minusF a b).1)) + (countL ((meetF a b).1))) != (countL a))))]) []
  refine wpA_cond rfl (fun b3 => ?_) (fun b3 => ?_)
  have h := h.1 ((or0 b3).imp (fun hh => ((or0 hh).imp (fun hh => ((or0 hh).imp (fun hh => ((or0 hh).imp (fun hh => (bneT hh)) (fun hh => (bneT hh)))) (fun hh => (bneT hh)))) (fun hh => (bneT hh)))) (fun hh => (bneT hh)))
  refine wpA_seq ?_
  refine wpA_region ?_
  refine wpL_op rfl rfl rfl (OpA.asn rfl (by with_reducible conv => lhs; whnf) ?_)
  refine wpL_nil ?_
  refine wpA_ret ?_
  exact ⟨_, (.tmp (d := D.b false) rfl .nil), _, (.same rfl .nil), ⟨false, rfl, h⟩⟩
  have h := h.2 ⟨⟨⟨⟨(bneF (or1 (or1 (or1 (or1 b3))))), (bneF (or2 (or1 (or1 (or1 b3)))))⟩, (bneF (or2 (or1 (or1 b3))))⟩, (bneF (or2 (or1 b3)))⟩, (bneF (or2 b3))⟩
  refine wpA_skip ?_
  refine wpA_seq ?_
  obtain ⟨q1, q2, q3, h⟩ := h
  refine wpA_region ?_
  refine wpL_op rfl rfl rfl (OpA.mv rfl (by with_reducible conv => lhs; whnf) ?_)
  refine wpL_op rfl rfl rfl (OpA.mv rfl (by with_reducible conv => lhs; whnf) ?_)
  refine wpL_op rfl rfl rfl (OpA.call rfl rfl rfl en27 (under_c a dir q1 q2 q3) ?_)
  rintro _ rfl
  refine wpL_op rfl rfl rfl (OpA.mv rfl (by with_reducible conv => lhs; whnf) ?_)
  refine wpL_op rfl rfl rfl (OpA.extract rfl rfl rfl ?_)
  refine wpL_op rfl rfl rfl (OpA.extract rfl rfl rfl ?_)
  refine wpL_op rfl rfl rfl (OpA.asn rfl (by with_reducible conv => lhs; whnf) ?_)
  refine wpL_op rfl rfl rfl (OpA.asn rfl (by with_reducible conv => lhs; whnf) ?_)
  refine wpL_nil ?_
  iterate 2 refine wpA_seq ?_
  refine wpA_region ?_
  refine wpL_op rfl rfl rfl (OpA.mv rfl (by with_reducible conv => lhs; whnf) ?_)
  refine wpL_op rfl rfl rfl (OpA.neq rfl rfl rfl ?_)
  refine wpL_nil ?_
  refine wpA_cond rfl (fun b4 => ?_) (fun b4 => ?_)
  have h := h.1 (bneT b4)
  refine wpA_seq ?_
  refine wpA_mid (asg [(0, (encL 3 encSpan) a), (2, D.s dir), (6, D.b ((((underF a dir).2) == 2) && ((((underF a dir).1).length : Int) == 0))), (13, (encL 3 encSpan) ((underF a dir).1))]) [] ?_ ?_
  refine wpA_region ?_
  refine wpL_op rfl rfl rfl (OpA.mv rfl (by with_reducible conv => lhs; whnf) ?_)
  refine wpL_op rfl rfl rfl (OpA.eql rfl rfl rfl ?_)
  refine wpL_op rfl rfl rfl (OpA.mv rfl (by with_reducible conv => lhs; whnf) ?_)
  refine wpL_split (s := 106) rfl (fun b5 => ?_) (fun b5 => ?_)
  refine wpL_opg rfl rfl rfl rfl rfl rfl (OpA.mv rfl (by with_reducible conv => lhs; whnf) ?_)
  refine wpL_opg rfl rfl rfl rfl rfl rfl (OpA.len rfl rfl rfl rfl ts29.desc (.inl ⟨_, _, rfl, (List.length_map _).symm⟩) ?_)
  refine wpL_opg rfl rfl rfl rfl rfl rfl (OpA.eql rfl rfl rfl ?_)
  refine wpL_op rfl rfl rfl (OpA.pck rfl rfl (by with_reducible conv => lhs; whnf) ?_)
  refine wpL_op rfl rfl rfl (OpA.asn rfl (by with_reducible conv => lhs; whnf) ?_)
  refine wpL_nil ?_
  exact ⟨(Cov.asg ⟨rfl, rfl, (congrArg D.b (Eq.symm (andN b5 rfl))), rfl, trivial⟩), (.refl _)⟩
  iterate 3 refine wpL_skip rfl rfl rfl rfl rfl rfl ?_
  refine wpL_op rfl rfl rfl (OpA.pck rfl rfl (by with_reducible conv => lhs; whnf) ?_)
  refine wpL_op rfl rfl rfl (OpA.asn rfl (by with_reducible conv => lhs; whnf) ?_)
  refine wpL_nil ?_
  exact ⟨(Cov.asg ⟨rfl, rfl, (congrArg D.b (Eq.symm (andS b5))), rfl, trivial⟩), (.refl _)⟩
  show wpA _ _ _ _ (asg [(0, (encL 3 encSpan) a), (2, D.s dir), (6, D.b ((((underF a dir).2) == 2) && ((((underF a dir).1).length : Int) == 0))), (13, (encL 3 encSpan) ((underF a dir).1))]) []
  refine wpA_ret ?_
  exact ⟨_, (.tmp (d := D.b ((((underF a dir).2) == 2) && ((((underF a dir).1).length : Int) == 0))) rfl .nil), _, (.same rfl .nil), ⟨((((underF a dir).2) == 2) && ((((underF a dir).1).length : Int) == 0)), rfl, h⟩⟩
  have h := h.2 (bneF b4)
  refine wpA_skip ?_
  refine wpA_seq ?_
  obtain ⟨q1, q2, q3, q4, h⟩ := h
  refine wpA_region ?_
  refine wpL_op rfl rfl rfl (OpA.mv rfl (by with_reducible conv => lhs; whnf) ?_)
  refine wpL_op rfl rfl rfl (OpA.mv rfl (by with_reducible conv => lhs; whnf) ?_)
  refine wpL_op rfl rfl rfl (OpA.call rfl rfl rfl en26 (minus_c a ((underF a dir).1) q1 q2 q3 q4) ?_)
  rintro _ rfl
  refine wpL_op rfl rfl rfl (OpA.mv rfl (by with_reducible conv => lhs; whnf) ?_)
  refine wpL_op rfl rfl rfl (OpA.extract rfl rfl rfl ?_)
  refine wpL_op rfl rfl rfl (OpA.extract rfl rfl rfl ?_)
  refine wpL_op rfl rfl rfl (OpA.asn rfl (by with_reducible conv => lhs; whnf) ?_)
  refine wpL_op rfl rfl rfl (OpA.asn rfl (by with_reducible conv => lhs; whnf) ?_)
  refine wpL_nil ?_
  iterate 2 refine wpA_seq ?_
  obtain ⟨q1, h⟩ := h
  refine wpA_mid (asg [(0, (encL 3 encSpan) a), (2, D.s dir), (6, D.b false), (13, (encL 3 encSpan) ((underF a dir).1)), (128, D.b ((((minusF a ((underF a dir).1)).2) != 0) || (((countL ((underF a dir).1)) + (countL ((minusF a ((underF a dir).1)).1))) != (countL a))))]) [] ?_ ?_
  refine wpA_region ?_
  refine wpL_op rfl rfl rfl (OpA.mv rfl (by with_reducible conv => lhs; whnf) ?_)
  refine wpL_op rfl rfl rfl (OpA.neq rfl rfl rfl ?_)
  refine wpL_op rfl rfl rfl (OpA.mv rfl (by with_reducible conv => lhs; whnf) ?_)
  refine wpL_split (s := 119) rfl (fun b13 => ?_) (fun b13 => ?_)
  iterate 8 refine wpL_skip rfl rfl rfl rfl rfl rfl ?_
  refine wpL_op rfl rfl rfl (OpA.pck rfl rfl (by with_reducible conv => lhs; whnf) ?_)
  refine wpL_nil ?_
  exact ⟨(Cov.asg ⟨rfl, rfl, rfl, rfl, (congrArg D.b (Eq.symm (orS b13))), trivial⟩), (.refl _)⟩
  refine wpL_opg rfl rfl rfl rfl rfl rfl (OpA.mv rfl (by with_reducible conv => lhs; whnf) ?_)
  refine wpL_opg rfl rfl rfl rfl rfl rfl (OpA.call rfl rfl rfl en22 (count_c ((underF a dir).1) (q1 (bneF b13)).1 (q1 (bneF b13)).2.1) ?_)
  rintro _ rfl
  refine wpL_opg rfl rfl rfl rfl rfl rfl (OpA.mv rfl (by with_reducible conv => lhs; whnf) ?_)
  refine wpL_opg rfl rfl rfl rfl rfl rfl (OpA.call rfl rfl rfl en22 (count_c ((minusF a ((underF a dir).1)).1) (q1 (bneF b13)).2.2.1 (q1 (bneF b13)).2.2.2.1) ?_)
  rintro _ rfl
  refine wpL_opg rfl rfl rfl rfl rfl rfl (OpA.addi rfl rfl rfl (q1 (bneF b13)).2.2.2.2.1 ?_)
  refine wpL_opg rfl rfl rfl rfl rfl rfl (OpA.mv rfl (by with_reducible conv => lhs; whnf) ?_)
  refine wpL_opg rfl rfl rfl rfl rfl rfl (OpA.call rfl rfl rfl en22 (count_c a (q1 (bneF b13)).2.2.2.2.2.1 (q1 (bneF b13)).2.2.2.2.2.2) ?_)
  rintro _ rfl
  refine wpL_opg rfl rfl rfl rfl rfl rfl (OpA.neq rfl rfl rfl ?_)
  refine wpL_op rfl rfl rfl (OpA.pck rfl rfl (by with_reducible conv => lhs; whnf) ?_)
  refine wpL_nil ?_
  exact ⟨(Cov.asg ⟨rfl, rfl, rfl, rfl, (congrArg D.b (Eq.symm (orN b13 rfl))), trivial⟩), (.refl _)⟩
  show wpA _ _ _ _ (asg [(0, (encL 3 encSpan) a), (2, D.s dir), (6, D.b false), (13, (encL 3 encSpan) ((underF a dir).1)), (128, D.b ((((minusF a ((underF a dir).1)).2) != 0) || (((countL ((underF a dir).1)) + (countL ((minusF a ((underF a dir).1)).1))) != (countL a))))]) []
  refine wpA_cond rfl (fun b6 => ?_) (fun b6 => ?_)
  have h := h.1 ((or0 b6).imp (fun hh => (bneT hh)) (fun hh => (bneT hh)))
  refine wpA_seq ?_
  refine wpA_region ?_
  refine wpL_op rfl rfl rfl (OpA.asn rfl (by with_reducible conv => lhs; whnf) ?_)
  refine wpL_nil ?_
  refine wpA_ret ?_
  exact ⟨_, (.tmp (d := D.b false) rfl .nil), _, (.same rfl .nil), ⟨false, rfl, h⟩⟩
  have h := h.2 ⟨(bneF (or1 b6)), (bneF (or2 b6))⟩
  refine wpA_skip ?_
  iterate 2 refine wpA_seq ?_
  refine wpA_region ?_
  refine wpL_op rfl rfl rfl (OpA.mv rfl (by with_reducible conv => lhs; whnf) ?_)
  refine wpL_op rfl rfl rfl (OpA.len rfl rfl rfl rfl ts29.desc (.inl ⟨_, _, rfl, (List.length_map _).symm⟩) ?_)
  refine wpL_op rfl rfl rfl (OpA.mv rfl (by with_reducible conv => lhs; whnf) ?_)
  refine wpL_nil ?_
  refine wpA_block ?_
  refine wpA_lfp (S := Int) (G := Unit) () (fun gg ss => asg [(2, D.s dir), (6, D.b false), (13, (encL 3 encSpan) ((underF a dir).1)), (129, (encL 3 encSpan) a), (130, D.i (a.length : Int)), (131, D.i ss)]) (fun gg ss => []) h (Cov.asg ⟨rfl, rfl, rfl, rfl, rfl, rfl, trivial⟩) (.refl _) ?_
  rintro again7 _ x h
  have h : lawCounts_L1 a dir Q again7 x := h
  unfold lawCounts_L1 at h
  show wpA _ _ _ _ (asg [(2, D.s dir), (6, D.b false), (13, (encL 3 encSpan) ((underF a dir).1)), (129, (encL 3 encSpan) a), (130, D.i (a.length : Int)), (131, D.i x)]) []
  refine wpA_seq ?_
  refine wpA_region ?_
  refine wpL_op rfl rfl rfl (OpA.lss rfl rfl rfl ?_)
  refine wpL_nil ?_
  refine wpA_seq ?_
  refine wpA_cond rfl (fun b8 => ?_) (fun b8 => ?_)
  have h := h.1 (decT b8)
  refine wpA_skip ?_
  refine wpA_seq ?_
  refine wpA_block ?_
  refine wpA_seq ?_
  obtain ⟨q1, h⟩ := h
  refine wpA_region ?_
  refine wpL_op rfl rfl rfl (OpA.iixV (enc := encSpan) rfl ts29 rfl rfl rfl q1 ?_)
  refine wpL_op rfl rfl rfl (OpA.iload_whole rfl ti35 rfl ⟨_, rfl, rfl⟩ ?_)
  refine wpL_op rfl rfl rfl (OpA.alloc (sz := 3) (d := encSpan (Span.mk ByteArray.empty 0 0)) rfl tz35 (fun _ _ => .agg (.cons (.v _) (.cons (.v _) (.cons (.v _) .nil)))) (.of rfl) (fun c9 _ => ?_))
  refine wpL_eff rfl rfl (OpA.storeW rfl ti35 rfl (by with_reducible conv => lhs; whnf) (.of rfl) rfl rfl .head ?_)
  refine wpL_nil ?_
  refine wpA_seq ?_
  obtain ⟨q1, q2, h⟩ := h
  refine wpA_mid (asg [(2, D.s dir), (6, D.b false), (13, (encL 3 encSpan) ((underF a dir).1)), (18, .ptr c9 3 0 0), (19, D.b (((decide ((((gi a x).path).size : Int) > (dir.size : Int))) && (decide ((ssub ((gi a x).path) 0 (dir.size : Int)) = dir))) && ((sgi ((gi a x).path) (dir.size : Int)) == 47))), (129, (encL 3 encSpan) a), (130, D.i (a.length : Int)), (131, D.i x)]) [(c9, .cells 3 [encSpan (gi a x)])] ?_ ?_
  refine wpA_region ?_
  refine wpL_op rfl rfl rfl (OpA.fieldAddr rfl tf35_0 rfl ?_)
  refine wpL_op rfl rfl rfl (OpA.load rfl ti9 rfl .head rfl rfl ?_)
  refine wpL_op rfl rfl rfl (OpA.slen rfl rfl rfl rfl td9 rfl ?_)
  refine wpL_op rfl rfl rfl (OpA.mv rfl (by with_reducible conv => lhs; whnf) ?_)
  refine wpL_op rfl rfl rfl (OpA.slen rfl rfl rfl rfl td9 rfl ?_)
  refine wpL_op rfl rfl rfl (OpA.gtr rfl rfl rfl ?_)
  refine wpL_op rfl rfl rfl (OpA.mv rfl (by with_reducible conv => lhs; whnf) ?_)
  refine wpL_split (s := 141) rfl (fun b11 => ?_) (fun b11 => ?_)
  refine wpL_opg rfl rfl rfl rfl rfl rfl (OpA.fieldAddr rfl tf35_0 rfl ?_)
  refine wpL_opg rfl rfl rfl rfl rfl rfl (OpA.load rfl ti9 rfl .head rfl rfl ?_)
  refine wpL_opg rfl rfl rfl rfl rfl rfl (OpA.mv rfl (by with_reducible conv => lhs; whnf) ?_)
  refine wpL_opg rfl rfl rfl rfl rfl rfl (OpA.slen rfl rfl rfl rfl td9 rfl ?_)
  refine wpL_opg rfl rfl rfl rfl rfl rfl (OpA.ssliceV rfl td9 rfl (.none _) (.some rfl) (q1 (decT b11)) ?_)
  refine wpL_opg rfl rfl rfl rfl rfl rfl (OpA.mv rfl (by with_reducible conv => lhs; whnf) ?_)
  refine wpL_opg rfl rfl rfl rfl rfl rfl (OpA.seql rfl rfl rfl ?_)
  refine wpL_op rfl rfl rfl (OpA.pck rfl rfl (by with_reducible conv => lhs; whnf) ?_)
  refine wpL_op rfl rfl rfl (OpA.mv rfl (by with_reducible conv => lhs; whnf) ?_)
  refine wpL_split (s := 150) rfl (fun b12 => ?_) (fun b12 => ?_)
  refine wpL_opg rfl rfl rfl rfl rfl rfl (OpA.fieldAddr rfl tf35_0 rfl ?_)
  refine wpL_opg rfl rfl rfl rfl rfl rfl (OpA.load rfl ti9 rfl .head rfl rfl ?_)
  refine wpL_opg rfl rfl rfl rfl rfl rfl (OpA.mv rfl (by with_reducible conv => lhs; whnf) ?_)
  refine wpL_opg rfl rfl rfl rfl rfl rfl (OpA.slen rfl rfl rfl rfl td9 rfl ?_)
  refine wpL_opg rfl rfl rfl rfl rfl rfl (OpA.sixV rfl td9 rfl rfl (q2 ⟨(decT b11), (decT b12)⟩) ?_)
  refine wpL_opg rfl rfl rfl rfl rfl rfl (OpA.eql rfl rfl rfl ?_)
  refine wpL_op rfl rfl rfl (OpA.pck rfl rfl (by with_reducible conv => lhs; whnf) ?_)
  refine wpL_op rfl rfl rfl (OpA.asn rfl (by with_reducible conv => lhs; whnf) ?_)
  refine wpL_nil ?_
  exact ⟨(Cov.asg ⟨rfl, rfl, rfl, rfl, (congrArg D.b (Eq.symm (andN (andN b11 b12) rfl))), rfl, rfl, rfl, trivial⟩), (.refl _)⟩
  iterate 6 refine wpL_skip rfl rfl rfl rfl rfl rfl ?_
  refine wpL_op rfl rfl rfl (OpA.pck rfl rfl (by with_reducible conv => lhs; whnf) ?_)
  refine wpL_op rfl rfl rfl (OpA.asn rfl (by with_reducible conv => lhs; whnf) ?_)
  refine wpL_nil ?_
  exact ⟨(Cov.asg ⟨rfl, rfl, rfl, rfl, (congrArg D.b (Eq.symm (andS (andN b11 b12)))), rfl, rfl, rfl, trivial⟩), (.refl _)⟩
  iterate 7 refine wpL_skip rfl rfl rfl rfl rfl rfl ?_
  refine wpL_op rfl rfl rfl (OpA.pck rfl rfl (by with_reducible conv => lhs; whnf) ?_)
  refine wpL_op rfl rfl rfl (OpA.mv rfl (by with_reducible conv => lhs; whnf) ?_)
  iterate 6 refine wpL_skip rfl rfl rfl rfl rfl rfl ?_
  refine wpL_op rfl rfl rfl (OpA.pck rfl rfl (by with_reducible conv => lhs; whnf) ?_)
  refine wpL_op rfl rfl rfl (OpA.asn rfl (by with_reducible conv => lhs; whnf) ?_)
  refine wpL_nil ?_
  exact ⟨(Cov.asg ⟨rfl, rfl, rfl, rfl, (congrArg D.b (Eq.symm (andS (andS b11)))), rfl, rfl, rfl, trivial⟩), (.refl _)⟩
  show wpA _ _ _ _ (asg [(2, D.s dir), (6, D.b false), (13, (encL 3 encSpan) ((underF a dir).1)), (18, .ptr c9 3 0 0), (19, D.b (((decide ((((gi a x).path).size : Int) > (dir.size : Int))) && (decide ((ssub ((gi a x).path) 0 (dir.size : Int)) = dir))) && ((sgi ((gi a x).path) (dir.size : Int)) == 47))), (129, (encL 3 encSpan) a), (130, D.i (a.length : Int)), (131, D.i x)]) [(c9, .cells 3 [encSpan (gi a x)])]
  refine wpA_seq ?_
  obtain ⟨q1, q2, h⟩ := h
  refine wpA_region ?_
  refine wpL_op rfl rfl rfl (OpA.mv rfl (by with_reducible conv => lhs; whnf) ?_)
  refine wpL_op rfl rfl rfl (OpA.fieldAddr rfl tf35_0 rfl ?_)
  refine wpL_op rfl rfl rfl (OpA.load rfl ti9 rfl .head rfl rfl ?_)
  refine wpL_op rfl rfl rfl (OpA.fieldAddr rfl tf35_1 rfl ?_)
  refine wpL_op rfl rfl rfl (OpA.load rfl ti3 rfl .head rfl rfl ?_)
  refine wpL_op rfl rfl rfl (OpA.buildO (zs := [.v (.string ⟨#[]⟩), .v (.int .i64 0)]) rfl tp26 tz26 (fun _ _ => (.cons (.v _) (.cons (.v _) .nil))) (.cons (.of (sz := 1) rfl) (.cons (.of (sz := 1) rfl) .nil)) rfl ?_)
  refine wpL_op rfl rfl rfl (OpA.call rfl rfl rfl en20 (has_c ((underF a dir).1) (Line.mk ((gi a x).path) ((gi a x).from_)) q1 q2) ?_)
  rintro _ rfl
  refine wpL_op rfl rfl rfl (OpA.mv rfl (by with_reducible conv => lhs; whnf) ?_)
  refine wpL_op rfl rfl rfl (OpA.bcmp rfl td4 rfl rfl (.inr ⟨rfl, rfl⟩) ?_)
  refine wpL_nil ?_
  refine wpA_cond rfl (fun b10 => ?_) (fun b10 => ?_)
  have h := h.1 b10
  refine wpA_seq ?_
  refine wpA_region ?_
  refine wpL_op rfl rfl rfl (OpA.asn rfl (by with_reducible conv => lhs; whnf) ?_)
  refine wpL_nil ?_
  refine wpA_ret ?_
  exact ⟨_, (.tmp (d := D.b false) rfl .nil), _, (.same rfl .nil), ⟨false, rfl, h⟩⟩
  have h := h.2 b10
  refine wpA_skip ?_
  obtain ⟨q1, h⟩ := h
  refine wpA_region ?_
  refine wpL_op rfl rfl rfl (OpA.addi rfl rfl rfl q1 ?_)
  refine wpL_op rfl rfl rfl (OpA.mv rfl (by with_reducible conv => lhs; whnf) ?_)
  refine wpL_nil ?_
  exact ⟨(), (x + 1), h, (Cov.asg ⟨rfl, rfl, rfl, rfl, rfl, rfl, trivial⟩), (.cons _ (.refl _))⟩
  have h := h.2 (decF b8)
  refine wpA_exit ?_
  refine wpA_seq ?_
  refine wpA_region ?_
  refine wpL_op rfl rfl rfl (OpA.asn rfl (by with_reducible conv => lhs; whnf) ?_)
  refine wpL_nil ?_
  refine wpA_ret ?_
  exact ⟨_, (.tmp (d := D.b true) rfl .nil), _, (.same rfl .nil), ⟨true, rfl, h⟩⟩
theorem lawCounts_c (a : (List Span)) (b : (List Span)) (dir : ByteArray)   : Fun false Tryd.prog 6 [(encL 3 encSpan) a, (encL 3 encSpan) b, D.s dir] (fun d => d = D.b (true)) :=
  Fun.at (enc := fun r => D.b r) (v := true) (lawCounts_w a b dir  (fun r => r = true) (lawCounts_ok a b dir _  rfl))
end Go.Proofs.YtnnbgemjkhgldaaDoor
