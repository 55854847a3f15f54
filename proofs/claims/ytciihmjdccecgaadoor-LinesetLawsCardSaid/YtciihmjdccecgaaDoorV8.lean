/-
  walks and contracts
-/
import Derived.Test.YtciihmjdccecgaaDoorV6
set_option linter.all false
namespace Go.Proofs.YtciihmjdccecgaaDoor
open Go Go.Lic Go.Sort Go.Proofs
attribute [local irreducible] badR behindF cmpB cmpI countF countL fewF growF has1F hasF hasPrefF indexF insideF itoaF lenF meetF mergeF minusF ofF orF partF pathF printF spanCmp splitF splitG underF unionF validF



theorem ofK_c (l : List Span) (e : Int) (c : Nat) (he : e = 0) : CallH Tryd.prog 7 [encL 3 encSpan l, D.i e, .ptr c 1 0 0] [(c, .cells 1 [D.b true])] (fun d h' => ∃ (g : Unit), d = encL 3 encSpan l ∧ h' = [(c, .cells 1 [D.b true])]) := by
  subst he
  refine CallH.of_bodyP Tryd.func7 rfl Tryd.ntmps7 rfl ?_
  refine wpA_seq ?_
  refine wpA_region ?_
  refine wpL_op rfl rfl rfl (OpA.asn rfl (by with_reducible conv => lhs; whnf) ?_)
  refine wpL_nil ?_
  refine wpA_seq ?_
  refine wpA_region ?_
  refine wpL_op rfl rfl rfl (OpA.load rfl ti4 rfl .head rfl rfl ?_)
  refine wpL_op rfl rfl rfl (OpA.mv rfl (by with_reducible conv => lhs; whnf) ?_)
  refine wpL_opg rfl rfl rfl rfl rfl rfl (OpA.mv rfl (by with_reducible conv => lhs; whnf) ?_)
  refine wpL_opg rfl rfl rfl rfl rfl rfl (OpA.eql rfl rfl rfl ?_)
  refine wpL_op rfl rfl rfl (OpA.pck rfl rfl (by with_reducible conv => lhs; whnf) ?_)
  refine wpL_eff rfl rfl (OpA.store (e := D.b true) (e' := D.b true) rfl ti4 rfl (.of rfl) rfl (Nat.le_of_ble_eq_true rfl) rfl .head ?_)
  refine wpL_nil ?_
  refine wpA_seq ?_
  refine wpA_region ?_
  refine wpL_op rfl rfl rfl (OpA.mv rfl (by with_reducible conv => lhs; whnf) ?_)
  refine wpL_op rfl rfl rfl (OpA.asn rfl (by with_reducible conv => lhs; whnf) ?_)
  refine wpL_nil ?_
  refine wpA_ret ?_
  exact ⟨_, (.tmp (d := encL 3 encSpan l) rfl .nil), [(c, .cells 1 [D.b true])], [(c, .cells 1 [D.b true])], (.refl _), (.refl _), (), rfl, rfl⟩

set_option maxHeartbeats 2000000 in
set_option maxRecDepth 10000 in
theorem unionK_w (x : (List Span)) (y : (List Span)) (c_of c_k : Nat)  (Q : (List Span) → Prop) (h : unionK_vc x y Q) : CallH Tryd.prog 8 [(encL 3 encSpan) x, (encL 3 encSpan) y, .ptr c_of 1 0 0] [(c_of, .cells 1 [.fn (.func 7) [] [.ptr c_k 1 0 0]]), (c_k, .cells 1 [D.b true])] (fun d h' => ∃ (r : (List Span)) (g : Unit), d = (encL 3 encSpan) r ∧ h' = [(c_of, .cells 1 [.fn (.func 7) [] [.ptr c_k 1 0 0]]), (c_k, .cells 1 [D.b true])] ∧ Q r) := by
  unfold unionK_vc at h
  refine CallH.of_bodyP Tryd.func8 rfl Tryd.ntmps8 rfl ?_
  refine wpA_seq ?_
  refine wpA_region ?_
  refine wpL_op rfl rfl rfl (OpA.asnN (T := Span) (enc := encSpan) (sz := 3) rfl rfl ?_)
  refine wpL_nil ?_
  refine wpA_seq ?_
  obtain ⟨q1, q2, q3, q4, q5, h⟩ := h
  refine wpA_draw (m := 6) mo (by kernel_rfl) rfl ?_
  refine DetK.op rfl (OpA.load rfl ti27 rfl .head rfl rfl ⟨rfl, rfl⟩) ?_
  iterate 2 refine DetK.op rfl (OpA.mv rfl (by with_reducible conv => lhs; whnf) ⟨rfl, rfl⟩) ?_
  refine DetK.op rfl (OpA.call rfl rfl rfl en9 (union_c x y q1 q2 q3 q4) (by rintro _ rfl; exact ⟨rfl, rfl⟩)) ?_
  iterate 2 refine DetK.op rfl (OpA.extract rfl rfl rfl ⟨rfl, rfl⟩) ?_
  refine DetK.nil ?_
  refine wpL_op rfl rfl rfl (OpA.callH rfl rfl rfl en7 (h1 := [(c_k, .cells 1 [D.b true])]) (h2 := [(c_of, .cells 1 [.fn (.func 7) [] [.ptr c_k 1 0 0]])]) pull1 (ofK_c ((unionF x y).1) ((unionF x y).2) c_k q5) ?_)
  rintro _ _ ⟨_, rfl, rfl⟩
  refine wpL_perm (h' := [(c_of, .cells 1 [.fn (.func 7) [] [.ptr c_k 1 0 0]]), (c_k, .cells 1 [D.b true])]) pull1 ?_
  refine wpL_op rfl rfl rfl (OpA.asn rfl (by with_reducible conv => lhs; whnf) ?_)
  refine wpL_nil ?_
  refine wpA_ret ?_
  exact ⟨_, (.tmp (d := (encL 3 encSpan) ((unionF x y).1)) rfl .nil), [(c_of, .cells 1 [.fn (.func 7) [] [.ptr c_k 1 0 0]]), (c_k, .cells 1 [D.b true])], [(c_of, .cells 1 [.fn (.func 7) [] [.ptr c_k 1 0 0]]), (c_k, .cells 1 [D.b true])], (.refl _), (.refl _), ((unionF x y).1), (), rfl, rfl, h⟩
theorem unionK_c (x : (List Span)) (y : (List Span)) (c_of c_k : Nat)  (hp0 : validF x = true) (hp1 : validF y = true) (hp2 : x.length ≤ 1000) (hp3 : y.length ≤ 1000) : CallH Tryd.prog 8 [(encL 3 encSpan) x, (encL 3 encSpan) y, .ptr c_of 1 0 0] [(c_of, .cells 1 [.fn (.func 7) [] [.ptr c_k 1 0 0]]), (c_k, .cells 1 [D.b true])] (fun d h' => ∃ (g : Unit), d = (encL 3 encSpan) ((unionF x y).1) ∧ h' = [(c_of, .cells 1 [.fn (.func 7) [] [.ptr c_k 1 0 0]]), (c_k, .cells 1 [D.b true])]) :=
  (unionK_w x y c_of c_k  (fun r => r = (unionF x y).1) (unionK_ok x y _ hp0 hp1 hp2 hp3 rfl)).mono (by rintro d h' ⟨r, g, hd, hh, rfl⟩; exact ⟨g, hd, hh⟩)

set_option maxHeartbeats 2000000 in
set_option maxRecDepth 10000 in
theorem meetK_w (x : (List Span)) (y : (List Span)) (c_of c_k : Nat)  (Q : (List Span) → Prop) (h : meetK_vc x y Q) : CallH Tryd.prog 10 [(encL 3 encSpan) x, (encL 3 encSpan) y, .ptr c_of 1 0 0] [(c_of, .cells 1 [.fn (.func 7) [] [.ptr c_k 1 0 0]]), (c_k, .cells 1 [D.b true])] (fun d h' => ∃ (r : (List Span)) (g : Unit), d = (encL 3 encSpan) r ∧ h' = [(c_of, .cells 1 [.fn (.func 7) [] [.ptr c_k 1 0 0]]), (c_k, .cells 1 [D.b true])] ∧ Q r) := by
  unfold meetK_vc at h
  refine CallH.of_bodyP Tryd.func10 rfl Tryd.ntmps10 rfl ?_
  refine wpA_seq ?_
  refine wpA_region ?_
  refine wpL_op rfl rfl rfl (OpA.asnN (T := Span) (enc := encSpan) (sz := 3) rfl rfl ?_)
  refine wpL_nil ?_
  refine wpA_seq ?_
  obtain ⟨q1, q2, q3, q4, q5, h⟩ := h
  refine wpA_draw (m := 6) mo (by kernel_rfl) rfl ?_
  refine DetK.op rfl (OpA.load rfl ti27 rfl .head rfl rfl ⟨rfl, rfl⟩) ?_
  iterate 2 refine DetK.op rfl (OpA.mv rfl (by with_reducible conv => lhs; whnf) ⟨rfl, rfl⟩) ?_
  refine DetK.op rfl (OpA.call rfl rfl rfl en11 (meet_c x y q1 q2 q3 q4) (by rintro _ rfl; exact ⟨rfl, rfl⟩)) ?_
  iterate 2 refine DetK.op rfl (OpA.extract rfl rfl rfl ⟨rfl, rfl⟩) ?_
  refine DetK.nil ?_
  refine wpL_op rfl rfl rfl (OpA.callH rfl rfl rfl en7 (h1 := [(c_k, .cells 1 [D.b true])]) (h2 := [(c_of, .cells 1 [.fn (.func 7) [] [.ptr c_k 1 0 0]])]) pull1 (ofK_c ((meetF x y).1) ((meetF x y).2) c_k q5) ?_)
  rintro _ _ ⟨_, rfl, rfl⟩
  refine wpL_perm (h' := [(c_of, .cells 1 [.fn (.func 7) [] [.ptr c_k 1 0 0]]), (c_k, .cells 1 [D.b true])]) pull1 ?_
  refine wpL_op rfl rfl rfl (OpA.asn rfl (by with_reducible conv => lhs; whnf) ?_)
  refine wpL_nil ?_
  refine wpA_ret ?_
  exact ⟨_, (.tmp (d := (encL 3 encSpan) ((meetF x y).1)) rfl .nil), [(c_of, .cells 1 [.fn (.func 7) [] [.ptr c_k 1 0 0]]), (c_k, .cells 1 [D.b true])], [(c_of, .cells 1 [.fn (.func 7) [] [.ptr c_k 1 0 0]]), (c_k, .cells 1 [D.b true])], (.refl _), (.refl _), ((meetF x y).1), (), rfl, rfl, h⟩
theorem meetK_c (x : (List Span)) (y : (List Span)) (c_of c_k : Nat)  (hp0 : validF x = true) (hp1 : validF y = true) (hp2 : x.length ≤ 1000) (hp3 : y.length ≤ 1000) : CallH Tryd.prog 10 [(encL 3 encSpan) x, (encL 3 encSpan) y, .ptr c_of 1 0 0] [(c_of, .cells 1 [.fn (.func 7) [] [.ptr c_k 1 0 0]]), (c_k, .cells 1 [D.b true])] (fun d h' => ∃ (g : Unit), d = (encL 3 encSpan) ((meetF x y).1) ∧ h' = [(c_of, .cells 1 [.fn (.func 7) [] [.ptr c_k 1 0 0]]), (c_k, .cells 1 [D.b true])]) :=
  (meetK_w x y c_of c_k  (fun r => r = (meetF x y).1) (meetK_ok x y _ hp0 hp1 hp2 hp3 rfl)).mono (by rintro d h' ⟨r, g, hd, hh, rfl⟩; exact ⟨g, hd, hh⟩)

set_option maxHeartbeats 2000000 in
set_option maxRecDepth 10000 in
theorem minusK_w (x : (List Span)) (y : (List Span)) (c_of c_k : Nat)  (Q : (List Span) → Prop) (h : minusK_vc x y Q) : CallH Tryd.prog 12 [(encL 3 encSpan) x, (encL 3 encSpan) y, .ptr c_of 1 0 0] [(c_of, .cells 1 [.fn (.func 7) [] [.ptr c_k 1 0 0]]), (c_k, .cells 1 [D.b true])] (fun d h' => ∃ (r : (List Span)) (g : Unit), d = (encL 3 encSpan) r ∧ h' = [(c_of, .cells 1 [.fn (.func 7) [] [.ptr c_k 1 0 0]]), (c_k, .cells 1 [D.b true])] ∧ Q r) := by
  unfold minusK_vc at h
  refine CallH.of_bodyP Tryd.func12 rfl Tryd.ntmps12 rfl ?_
  refine wpA_seq ?_
  refine wpA_region ?_
  refine wpL_op rfl rfl rfl (OpA.asnN (T := Span) (enc := encSpan) (sz := 3) rfl rfl ?_)
  refine wpL_nil ?_
  refine wpA_seq ?_
  obtain ⟨q1, q2, q3, q4, q5, h⟩ := h
  refine wpA_draw (m := 6) mo (by kernel_rfl) rfl ?_
  refine DetK.op rfl (OpA.load rfl ti27 rfl .head rfl rfl ⟨rfl, rfl⟩) ?_
  iterate 2 refine DetK.op rfl (OpA.mv rfl (by with_reducible conv => lhs; whnf) ⟨rfl, rfl⟩) ?_
  refine DetK.op rfl (OpA.call rfl rfl rfl en13 (minus_c x y q1 q2 q3 q4) (by rintro _ rfl; exact ⟨rfl, rfl⟩)) ?_
  iterate 2 refine DetK.op rfl (OpA.extract rfl rfl rfl ⟨rfl, rfl⟩) ?_
  refine DetK.nil ?_
  refine wpL_op rfl rfl rfl (OpA.callH rfl rfl rfl en7 (h1 := [(c_k, .cells 1 [D.b true])]) (h2 := [(c_of, .cells 1 [.fn (.func 7) [] [.ptr c_k 1 0 0]])]) pull1 (ofK_c ((minusF x y).1) ((minusF x y).2) c_k q5) ?_)
  rintro _ _ ⟨_, rfl, rfl⟩
  refine wpL_perm (h' := [(c_of, .cells 1 [.fn (.func 7) [] [.ptr c_k 1 0 0]]), (c_k, .cells 1 [D.b true])]) pull1 ?_
  refine wpL_op rfl rfl rfl (OpA.asn rfl (by with_reducible conv => lhs; whnf) ?_)
  refine wpL_nil ?_
  refine wpA_ret ?_
  exact ⟨_, (.tmp (d := (encL 3 encSpan) ((minusF x y).1)) rfl .nil), [(c_of, .cells 1 [.fn (.func 7) [] [.ptr c_k 1 0 0]]), (c_k, .cells 1 [D.b true])], [(c_of, .cells 1 [.fn (.func 7) [] [.ptr c_k 1 0 0]]), (c_k, .cells 1 [D.b true])], (.refl _), (.refl _), ((minusF x y).1), (), rfl, rfl, h⟩
theorem minusK_c (x : (List Span)) (y : (List Span)) (c_of c_k : Nat)  (hp0 : validF x = true) (hp1 : validF y = true) (hp2 : x.length ≤ 1000) (hp3 : y.length ≤ 1000) : CallH Tryd.prog 12 [(encL 3 encSpan) x, (encL 3 encSpan) y, .ptr c_of 1 0 0] [(c_of, .cells 1 [.fn (.func 7) [] [.ptr c_k 1 0 0]]), (c_k, .cells 1 [D.b true])] (fun d h' => ∃ (g : Unit), d = (encL 3 encSpan) ((minusF x y).1) ∧ h' = [(c_of, .cells 1 [.fn (.func 7) [] [.ptr c_k 1 0 0]]), (c_k, .cells 1 [D.b true])]) :=
  (minusK_w x y c_of c_k  (fun r => r = (minusF x y).1) (minusK_ok x y _ hp0 hp1 hp2 hp3 rfl)).mono (by rintro d h' ⟨r, g, hd, hh, rfl⟩; exact ⟨g, hd, hh⟩)

set_option maxHeartbeats 2000000 in
set_option maxRecDepth 10000 in
theorem lawLaws_w (a : (List Span)) (b : (List Span)) (c : (List Span))  (Q : Bool → Prop) (h : lawLaws_vc a b c Q) : Fun false Tryd.prog 3 [(encL 3 encSpan) a, (encL 3 encSpan) b, (encL 3 encSpan) c] (fun d => ∃ r, d = D.b r ∧ Q r) := by
  unfold lawLaws_vc at h
  refine Fun.of_body Tryd.func3 rfl Tryd.ntmps3 rfl ?_
  refine wpA_seq ?_
  refine wpA_region ?_
  refine wpL_op rfl rfl rfl (OpA.asn rfl (by with_reducible conv => lhs; whnf) ?_)
  refine wpL_nil ?_
  iterate 2 refine wpA_seq ?_
  refine wpA_region ?_
  refine wpL_op rfl rfl rfl (OpA.call rfl rfl rfl en4 (awake_c  ) ?_)
  rintro _ rfl
  refine wpL_op rfl rfl rfl (OpA.not rfl rfl ?_)
  refine wpL_nil ?_
  refine wpA_cond rfl (fun b1 => ?_) (fun b1 => ?_)
  have h := h.1 (notT b1)
  refine wpA_seq ?_
  refine wpA_region ?_
  refine wpL_op rfl rfl rfl (OpA.asn rfl (by with_reducible conv => lhs; whnf) ?_)
  refine wpL_nil ?_
  refine wpA_ret ?_
  exact ⟨_, (.tmp (d := D.b false) rfl .nil), _, (.same rfl .nil), ⟨false, rfl, h⟩⟩
  have h := h.2 (notF b1)
  refine wpA_skip ?_
  iterate 2 refine wpA_seq ?_
  obtain ⟨q1, q2, q3, h⟩ := h
  refine wpA_mid (asg [(0, (encL 3 encSpan) a), (1, (encL 3 encSpan) b), (2, (encL 3 encSpan) c), (6, D.b false), (42, D.b ((((((!(fewF a)) || (!(fewF b))) || (!(fewF c))) || (!(validF a))) || (!(validF b))) || (!(validF c))))]) [] ?_ ?_
  refine wpA_region ?_
  refine wpL_op rfl rfl rfl (OpA.mv rfl (by with_reducible conv => lhs; whnf) ?_)
  refine wpL_op rfl rfl rfl (OpA.call rfl rfl rfl en5 (rfew_c a ) ?_)
  rintro _ rfl
  refine wpL_op rfl rfl rfl (OpA.not rfl rfl ?_)
  refine wpL_op rfl rfl rfl (OpA.mv rfl (by with_reducible conv => lhs; whnf) ?_)
  refine wpL_split (s := 18) rfl (fun b14 => ?_) (fun b14 => ?_)
  iterate 3 refine wpL_skip rfl rfl rfl rfl rfl rfl ?_
  refine wpL_op rfl rfl rfl (OpA.pck rfl rfl (by with_reducible conv => lhs; whnf) ?_)
  refine wpL_op rfl rfl rfl (OpA.mv rfl (by with_reducible conv => lhs; whnf) ?_)
  iterate 3 refine wpL_skip rfl rfl rfl rfl rfl rfl ?_
  refine wpL_op rfl rfl rfl (OpA.pck rfl rfl (by with_reducible conv => lhs; whnf) ?_)
  refine wpL_op rfl rfl rfl (OpA.mv rfl (by with_reducible conv => lhs; whnf) ?_)
  iterate 3 refine wpL_skip rfl rfl rfl rfl rfl rfl ?_
  refine wpL_op rfl rfl rfl (OpA.pck rfl rfl (by with_reducible conv => lhs; whnf) ?_)
  refine wpL_op rfl rfl rfl (OpA.mv rfl (by with_reducible conv => lhs; whnf) ?_)
  iterate 3 refine wpL_skip rfl rfl rfl rfl rfl rfl ?_
  refine wpL_op rfl rfl rfl (OpA.pck rfl rfl (by with_reducible conv => lhs; whnf) ?_)
  refine wpL_op rfl rfl rfl (OpA.mv rfl (by with_reducible conv => lhs; whnf) ?_)
  iterate 3 refine wpL_skip rfl rfl rfl rfl rfl rfl ?_
  refine wpL_op rfl rfl rfl (OpA.pck rfl rfl (by with_reducible conv => lhs; whnf) ?_)
  refine wpL_nil ?_
  exact ⟨(Cov.asg ⟨rfl, rfl, rfl, rfl, (congrArg D.b (Eq.symm (orS (orS (orS (orS (orS b14))))))), trivial⟩), (.refl _)⟩
  refine wpL_opg rfl rfl rfl rfl rfl rfl (OpA.mv rfl (by with_reducible conv => lhs; whnf) ?_)
  refine wpL_opg rfl rfl rfl rfl rfl rfl (OpA.call rfl rfl rfl en5 (rfew_c b ) ?_)
  rintro _ rfl
  refine wpL_opg rfl rfl rfl rfl rfl rfl (OpA.not rfl rfl ?_)
  refine wpL_op rfl rfl rfl (OpA.pck rfl rfl (by with_reducible conv => lhs; whnf) ?_)
  refine wpL_op rfl rfl rfl (OpA.mv rfl (by with_reducible conv => lhs; whnf) ?_)
  refine wpL_split (s := 23) rfl (fun b15 => ?_) (fun b15 => ?_)
  iterate 3 refine wpL_skip rfl rfl rfl rfl rfl rfl ?_
  refine wpL_op rfl rfl rfl (OpA.pck rfl rfl (by with_reducible conv => lhs; whnf) ?_)
  refine wpL_op rfl rfl rfl (OpA.mv rfl (by with_reducible conv => lhs; whnf) ?_)
  iterate 3 refine wpL_skip rfl rfl rfl rfl rfl rfl ?_
  refine wpL_op rfl rfl rfl (OpA.pck rfl rfl (by with_reducible conv => lhs; whnf) ?_)
  refine wpL_op rfl rfl rfl (OpA.mv rfl (by with_reducible conv => lhs; whnf) ?_)
  iterate 3 refine wpL_skip rfl rfl rfl rfl rfl rfl ?_
  refine wpL_op rfl rfl rfl (OpA.pck rfl rfl (by with_reducible conv => lhs; whnf) ?_)
  refine wpL_op rfl rfl rfl (OpA.mv rfl (by with_reducible conv => lhs; whnf) ?_)
  iterate 3 refine wpL_skip rfl rfl rfl rfl rfl rfl ?_
  refine wpL_op rfl rfl rfl (OpA.pck rfl rfl (by with_reducible conv => lhs; whnf) ?_)
  refine wpL_nil ?_
  exact ⟨(Cov.asg ⟨rfl, rfl, rfl, rfl, (congrArg D.b (Eq.symm (orS (orS (orS (orS (orN b14 b15))))))), trivial⟩), (.refl _)⟩
  refine wpL_opg rfl rfl rfl rfl rfl rfl (OpA.mv rfl (by with_reducible conv => lhs; whnf) ?_)
  refine wpL_opg rfl rfl rfl rfl rfl rfl (OpA.call rfl rfl rfl en5 (rfew_c c ) ?_)
  rintro _ rfl
  refine wpL_opg rfl rfl rfl rfl rfl rfl (OpA.not rfl rfl ?_)
  refine wpL_op rfl rfl rfl (OpA.pck rfl rfl (by with_reducible conv => lhs; whnf) ?_)
  refine wpL_op rfl rfl rfl (OpA.mv rfl (by with_reducible conv => lhs; whnf) ?_)
  refine wpL_split (s := 28) rfl (fun b16 => ?_) (fun b16 => ?_)
  iterate 3 refine wpL_skip rfl rfl rfl rfl rfl rfl ?_
  refine wpL_op rfl rfl rfl (OpA.pck rfl rfl (by with_reducible conv => lhs; whnf) ?_)
  refine wpL_op rfl rfl rfl (OpA.mv rfl (by with_reducible conv => lhs; whnf) ?_)
  iterate 3 refine wpL_skip rfl rfl rfl rfl rfl rfl ?_
  refine wpL_op rfl rfl rfl (OpA.pck rfl rfl (by with_reducible conv => lhs; whnf) ?_)
  refine wpL_op rfl rfl rfl (OpA.mv rfl (by with_reducible conv => lhs; whnf) ?_)
  iterate 3 refine wpL_skip rfl rfl rfl rfl rfl rfl ?_
  refine wpL_op rfl rfl rfl (OpA.pck rfl rfl (by with_reducible conv => lhs; whnf) ?_)
  refine wpL_nil ?_
  exact ⟨(Cov.asg ⟨rfl, rfl, rfl, rfl, (congrArg D.b (Eq.symm (orS (orS (orS (orN (orN b14 b15) b16)))))), trivial⟩), (.refl _)⟩
  refine wpL_opg rfl rfl rfl rfl rfl rfl (OpA.mv rfl (by with_reducible conv => lhs; whnf) ?_)
  refine wpL_opg rfl rfl rfl rfl rfl rfl (OpA.call rfl rfl rfl en6 (valid_c a (q1 ⟨⟨(notF b14), (notF b15)⟩, (notF b16)⟩).1 (q1 ⟨⟨(notF b14), (notF b15)⟩, (notF b16)⟩).2) ?_)
  rintro _ rfl
  refine wpL_opg rfl rfl rfl rfl rfl rfl (OpA.not rfl rfl ?_)
  refine wpL_op rfl rfl rfl (OpA.pck rfl rfl (by with_reducible conv => lhs; whnf) ?_)
  refine wpL_op rfl rfl rfl (OpA.mv rfl (by with_reducible conv => lhs; whnf) ?_)
  refine wpL_split (s := 33) rfl (fun b17 => ?_) (fun b17 => ?_)
  iterate 3 refine wpL_skip rfl rfl rfl rfl rfl rfl ?_
  refine wpL_op rfl rfl rfl (OpA.pck rfl rfl (by with_reducible conv => lhs; whnf) ?_)
  refine wpL_op rfl rfl rfl (OpA.mv rfl (by with_reducible conv => lhs; whnf) ?_)
  iterate 3 refine wpL_skip rfl rfl rfl rfl rfl rfl ?_
  refine wpL_op rfl rfl rfl (OpA.pck rfl rfl (by with_reducible conv => lhs; whnf) ?_)
  refine wpL_nil ?_
  exact ⟨(Cov.asg ⟨rfl, rfl, rfl, rfl, (congrArg D.b (Eq.symm (orS (orS (orN (orN (orN b14 b15) b16) b17))))), trivial⟩), (.refl _)⟩
  refine wpL_opg rfl rfl rfl rfl rfl rfl (OpA.mv rfl (by with_reducible conv => lhs; whnf) ?_)
  refine wpL_opg rfl rfl rfl rfl rfl rfl (OpA.call rfl rfl rfl en6 (valid_c b (q2 ⟨⟨⟨(notF b14), (notF b15)⟩, (notF b16)⟩, (notF b17)⟩).1 (q2 ⟨⟨⟨(notF b14), (notF b15)⟩, (notF b16)⟩, (notF b17)⟩).2) ?_)
  rintro _ rfl
  refine wpL_opg rfl rfl rfl rfl rfl rfl (OpA.not rfl rfl ?_)
  refine wpL_op rfl rfl rfl (OpA.pck rfl rfl (by with_reducible conv => lhs; whnf) ?_)
  refine wpL_op rfl rfl rfl (OpA.mv rfl (by with_reducible conv => lhs; whnf) ?_)
  refine wpL_split (s := 38) rfl (fun b18 => ?_) (fun b18 => ?_)
  iterate 3 refine wpL_skip rfl rfl rfl rfl rfl rfl ?_
  refine wpL_op rfl rfl rfl (OpA.pck rfl rfl (by with_reducible conv => lhs; whnf) ?_)
  refine wpL_nil ?_
  exact ⟨(Cov.asg ⟨rfl, rfl, rfl, rfl, (congrArg D.b (Eq.symm (orS (orN (orN (orN (orN b14 b15) b16) b17) b18)))), trivial⟩), (.refl _)⟩
  refine wpL_opg rfl rfl rfl rfl rfl rfl (OpA.mv rfl (by with_reducible conv => lhs; whnf) ?_)
  refine wpL_opg rfl rfl rfl rfl rfl rfl (OpA.call rfl rfl rfl en6 (valid_c c (q3 ⟨⟨⟨⟨(notF b14), (notF b15)⟩, (notF b16)⟩, (notF b17)⟩, (notF b18)⟩).1 (q3 ⟨⟨⟨⟨(notF b14), (notF b15)⟩, (notF b16)⟩, (notF b17)⟩, (notF b18)⟩).2) ?_)
  rintro _ rfl
  refine wpL_opg rfl rfl rfl rfl rfl rfl (OpA.not rfl rfl ?_)
  refine wpL_op rfl rfl rfl (OpA.pck rfl rfl (by with_reducible conv => lhs; whnf) ?_)
  refine wpL_nil ?_
  exact ⟨(Cov.asg ⟨rfl, rfl, rfl, rfl, (congrArg D.b (Eq.symm (orN (orN (orN (orN (orN b14 b15) b16) b17) b18) rfl))), trivial⟩), (.refl _)⟩
  show wpA _ _ _ _ (asg [(0, (encL 3 encSpan) a), (1, (encL 3 encSpan) b), (2, (encL 3 encSpan) c), (6, D.b false), (42, D.b ((((((!(fewF a)) || (!(fewF b))) || (!(fewF c))) || (!(validF a))) || (!(validF b))) || (!(validF c))))]) []
  refine wpA_cond rfl (fun b2 => ?_) (fun b2 => ?_)
  have h := h.1 ((or0 b2).imp (fun hh => ((or0 hh).imp (fun hh => ((or0 hh).imp (fun hh => ((or0 hh).imp (fun hh => ((or0 hh).imp (fun hh => (notT hh)) (fun hh => (notT hh)))) (fun hh => (notT hh)))) (fun hh => (notT hh)))) (fun hh => (notT hh)))) (fun hh => (notT hh)))
  refine wpA_seq ?_
  refine wpA_region ?_
  refine wpL_op rfl rfl rfl (OpA.asn rfl (by with_reducible conv => lhs; whnf) ?_)
  refine wpL_nil ?_
  refine wpA_ret ?_
  exact ⟨_, (.tmp (d := D.b true) rfl .nil), _, (.same rfl .nil), ⟨true, rfl, h⟩⟩
  have h := h.2 ⟨⟨⟨⟨⟨(notF (or1 (or1 (or1 (or1 (or1 b2)))))), (notF (or2 (or1 (or1 (or1 (or1 b2))))))⟩, (notF (or2 (or1 (or1 (or1 b2)))))⟩, (notF (or2 (or1 (or1 b2))))⟩, (notF (or2 (or1 b2)))⟩, (notF (or2 b2))⟩
  refine wpA_skip ?_
  refine wpA_seq ?_
  refine wpA_region ?_
  refine wpL_op rfl rfl rfl (OpA.alloc (sz := 1) (d := D.b false) rfl tz4 (fun _ _ => .v _) (.of rfl) (fun c3 _ => ?_))
  refine wpL_eff rfl rfl (OpA.storeW rfl ti4 rfl (by with_reducible conv => lhs; whnf) (.of rfl) rfl rfl .head ?_)
  refine wpL_nil ?_
  refine wpA_seq ?_
  refine wpA_region ?_
  refine wpL_op rfl rfl rfl (OpA.makeFunc rfl ?_)
  refine wpL_op rfl rfl rfl (OpA.alloc (sz := 1) (d := .v .nilFunc) rfl tz27 (fun _ _ => .v _) (.of rfl) (fun c4 _ => ?_))
  refine wpL_eff rfl rfl (OpA.storeW rfl ti27 rfl (by with_reducible conv => lhs; whnf) (.of rfl) rfl rfl .head ?_)
  refine wpL_nil ?_
  refine wpA_seq ?_
  refine wpA_region ?_
  refine wpL_op rfl rfl rfl (OpA.makeFunc rfl ?_)
  refine wpL_op rfl rfl rfl (OpA.asn rfl (by with_reducible conv => lhs; whnf) ?_)
  refine wpL_nil ?_
  refine wpA_seq ?_
  refine wpA_region ?_
  refine wpL_op rfl rfl rfl (OpA.makeFunc rfl ?_)
  refine wpL_op rfl rfl rfl (OpA.asn rfl (by with_reducible conv => lhs; whnf) ?_)
  refine wpL_nil ?_
  refine wpA_seq ?_
  refine wpA_region ?_
  refine wpL_op rfl rfl rfl (OpA.makeFunc rfl ?_)
  refine wpL_op rfl rfl rfl (OpA.asn rfl (by with_reducible conv => lhs; whnf) ?_)
  refine wpL_nil ?_
  refine wpA_seq ?_
  obtain ⟨q1, q2, q3, q4, q5, q6, q7, q8, q9, q10, q11, q12, h⟩ := h
  refine wpA_mid (asg [(6, D.b false), (7, .ptr c3 1 0 0), (12, D.b (((((((((decide (((unionF a b).1) = ((unionF b a).1))) && (decide (((meetF a b).1) = ((meetF b a).1)))) && (decide (((unionF a ((unionF b c).1)).1) = ((unionF ((unionF a b).1) c).1)))) && (decide (((meetF a ((unionF b c).1)).1) = ((unionF ((meetF a b).1) ((meetF a c).1)).1)))) && (decide (((minusF a ((unionF b c).1)).1) = ((minusF ((minusF a b).1) c).1)))) && (decide (((unionF ((minusF a b).1) ((meetF a b).1)).1) = a))) && (decide (((meetF a ((unionF a b).1)).1) = a))) && (decide (((unionF a a).1) = a))) && ((((minusF a a).1).length : Int) == 0)))]) [(c4, .cells 1 [.fn (.func 7) [] [.ptr c3 1 0 0]]), (c3, .cells 1 [D.b true])] ?_ ?_
  refine wpA_region ?_
  refine wpL_op rfl rfl rfl (OpA.mv rfl (by with_reducible conv => lhs; whnf) ?_)
  refine wpL_op rfl rfl rfl (OpA.mv rfl (by with_reducible conv => lhs; whnf) ?_)
  refine wpL_op rfl rfl rfl (OpA.mv rfl (by with_reducible conv => lhs; whnf) ?_)
  refine wpL_op rfl rfl rfl (OpA.callH rfl rfl rfl en8 (h1 := [(c4, .cells 1 [.fn (.func 7) [] [.ptr c3 1 0 0]]), (c3, .cells 1 [D.b true])]) (h2 := []) (.refl _) (unionK_c a b c4 c3 q1 q2 q3 q4) ?_)
  rintro _ _ ⟨_, rfl, rfl⟩
  refine wpL_op rfl rfl rfl (OpA.mv rfl (by with_reducible conv => lhs; whnf) ?_)
  refine wpL_op rfl rfl rfl (OpA.mv rfl (by with_reducible conv => lhs; whnf) ?_)
  refine wpL_op rfl rfl rfl (OpA.mv rfl (by with_reducible conv => lhs; whnf) ?_)
  refine wpL_op rfl rfl rfl (OpA.callH rfl rfl rfl en8 (h1 := [(c4, .cells 1 [.fn (.func 7) [] [.ptr c3 1 0 0]]), (c3, .cells 1 [D.b true])]) (h2 := []) (.refl _) (unionK_c b a c4 c3 q2 q1 q4 q3) ?_)
  rintro _ _ ⟨_, rfl, rfl⟩
  refine wpL_op rfl rfl rfl (OpA.call rfl rfl rfl en14 (eqSpans_c ((unionF a b).1) ((unionF b a).1) q5) ?_)
  rintro _ rfl
  refine wpL_op rfl rfl rfl (OpA.mv rfl (by with_reducible conv => lhs; whnf) ?_)
  refine wpL_split (s := 56) rfl (fun b6 => ?_) (fun b6 => ?_)
  refine wpL_opg rfl rfl rfl rfl rfl rfl (OpA.mv rfl (by with_reducible conv => lhs; whnf) ?_)
  refine wpL_opg rfl rfl rfl rfl rfl rfl (OpA.mv rfl (by with_reducible conv => lhs; whnf) ?_)
  refine wpL_opg rfl rfl rfl rfl rfl rfl (OpA.mv rfl (by with_reducible conv => lhs; whnf) ?_)
  refine wpL_opg rfl rfl rfl rfl rfl rfl (OpA.callH rfl rfl rfl en10 (h1 := [(c4, .cells 1 [.fn (.func 7) [] [.ptr c3 1 0 0]]), (c3, .cells 1 [D.b true])]) (h2 := []) (.refl _) (meetK_c a b c4 c3 q1 q2 q3 q4) ?_)
  rintro _ _ ⟨_, rfl, rfl⟩
  refine wpL_opg rfl rfl rfl rfl rfl rfl (OpA.mv rfl (by with_reducible conv => lhs; whnf) ?_)
  refine wpL_opg rfl rfl rfl rfl rfl rfl (OpA.mv rfl (by with_reducible conv => lhs; whnf) ?_)
  refine wpL_opg rfl rfl rfl rfl rfl rfl (OpA.mv rfl (by with_reducible conv => lhs; whnf) ?_)
  refine wpL_opg rfl rfl rfl rfl rfl rfl (OpA.callH rfl rfl rfl en10 (h1 := [(c4, .cells 1 [.fn (.func 7) [] [.ptr c3 1 0 0]]), (c3, .cells 1 [D.b true])]) (h2 := []) (.refl _) (meetK_c b a c4 c3 q2 q1 q4 q3) ?_)
  rintro _ _ ⟨_, rfl, rfl⟩
  refine wpL_opg rfl rfl rfl rfl rfl rfl (OpA.call rfl rfl rfl en14 (eqSpans_c ((meetF a b).1) ((meetF b a).1) (q6 b6)) ?_)
  rintro _ rfl
  refine wpL_op rfl rfl rfl (OpA.pck rfl rfl (by with_reducible conv => lhs; whnf) ?_)
  refine wpL_op rfl rfl rfl (OpA.mv rfl (by with_reducible conv => lhs; whnf) ?_)
  refine wpL_split (s := 67) rfl (fun b7 => ?_) (fun b7 => ?_)
  refine wpL_opg rfl rfl rfl rfl rfl rfl (OpA.mv rfl (by with_reducible conv => lhs; whnf) ?_)
  refine wpL_opg rfl rfl rfl rfl rfl rfl (OpA.mv rfl (by with_reducible conv => lhs; whnf) ?_)
  refine wpL_opg rfl rfl rfl rfl rfl rfl (OpA.mv rfl (by with_reducible conv => lhs; whnf) ?_)
  refine wpL_opg rfl rfl rfl rfl rfl rfl (OpA.mv rfl (by with_reducible conv => lhs; whnf) ?_)
  refine wpL_opg rfl rfl rfl rfl rfl rfl (OpA.mv rfl (by with_reducible conv => lhs; whnf) ?_)
  refine wpL_opg rfl rfl rfl rfl rfl rfl (OpA.callH rfl rfl rfl en8 (h1 := [(c4, .cells 1 [.fn (.func 7) [] [.ptr c3 1 0 0]]), (c3, .cells 1 [D.b true])]) (h2 := []) (.refl _) (unionK_c b c c4 c3 q2 (q7 ⟨b6, b7⟩).1 q4 (q7 ⟨b6, b7⟩).2.1) ?_)
  rintro _ _ ⟨_, rfl, rfl⟩
  refine wpL_opg rfl rfl rfl rfl rfl rfl (OpA.callH rfl rfl rfl en8 (h1 := [(c4, .cells 1 [.fn (.func 7) [] [.ptr c3 1 0 0]]), (c3, .cells 1 [D.b true])]) (h2 := []) (.refl _) (unionK_c a ((unionF b c).1) c4 c3 q1 (q7 ⟨b6, b7⟩).2.2.1 q3 (q7 ⟨b6, b7⟩).2.2.2.1) ?_)
  rintro _ _ ⟨_, rfl, rfl⟩
  refine wpL_opg rfl rfl rfl rfl rfl rfl (OpA.mv rfl (by with_reducible conv => lhs; whnf) ?_)
  refine wpL_opg rfl rfl rfl rfl rfl rfl (OpA.mv rfl (by with_reducible conv => lhs; whnf) ?_)
  refine wpL_opg rfl rfl rfl rfl rfl rfl (OpA.mv rfl (by with_reducible conv => lhs; whnf) ?_)
  refine wpL_opg rfl rfl rfl rfl rfl rfl (OpA.mv rfl (by with_reducible conv => lhs; whnf) ?_)
  refine wpL_opg rfl rfl rfl rfl rfl rfl (OpA.callH rfl rfl rfl en8 (h1 := [(c4, .cells 1 [.fn (.func 7) [] [.ptr c3 1 0 0]]), (c3, .cells 1 [D.b true])]) (h2 := []) (.refl _) (unionK_c a b c4 c3 q1 q2 q3 q4) ?_)
  rintro _ _ ⟨_, rfl, rfl⟩
  refine wpL_opg rfl rfl rfl rfl rfl rfl (OpA.mv rfl (by with_reducible conv => lhs; whnf) ?_)
  refine wpL_opg rfl rfl rfl rfl rfl rfl (OpA.callH rfl rfl rfl en8 (h1 := [(c4, .cells 1 [.fn (.func 7) [] [.ptr c3 1 0 0]]), (c3, .cells 1 [D.b true])]) (h2 := []) (.refl _) (unionK_c ((unionF a b).1) c c4 c3 (q7 ⟨b6, b7⟩).2.2.2.2.1 (q7 ⟨b6, b7⟩).1 (q7 ⟨b6, b7⟩).2.2.2.2.2.1 (q7 ⟨b6, b7⟩).2.1) ?_)
  rintro _ _ ⟨_, rfl, rfl⟩
  refine wpL_opg rfl rfl rfl rfl rfl rfl (OpA.call rfl rfl rfl en14 (eqSpans_c ((unionF a ((unionF b c).1)).1) ((unionF ((unionF a b).1) c).1) (q7 ⟨b6, b7⟩).2.2.2.2.2.2) ?_)
  rintro _ rfl
  refine wpL_op rfl rfl rfl (OpA.pck rfl rfl (by with_reducible conv => lhs; whnf) ?_)
  refine wpL_op rfl rfl rfl (OpA.mv rfl (by with_reducible conv => lhs; whnf) ?_)
  refine wpL_split (s := 84) rfl (fun b8 => ?_) (fun b8 => ?_)
  refine wpL_opg rfl rfl rfl rfl rfl rfl (OpA.mv rfl (by with_reducible conv => lhs; whnf) ?_)
  refine wpL_opg rfl rfl rfl rfl rfl rfl (OpA.mv rfl (by with_reducible conv => lhs; whnf) ?_)
  refine wpL_opg rfl rfl rfl rfl rfl rfl (OpA.mv rfl (by with_reducible conv => lhs; whnf) ?_)
  refine wpL_opg rfl rfl rfl rfl rfl rfl (OpA.mv rfl (by with_reducible conv => lhs; whnf) ?_)
  refine wpL_opg rfl rfl rfl rfl rfl rfl (OpA.mv rfl (by with_reducible conv => lhs; whnf) ?_)
  refine wpL_opg rfl rfl rfl rfl rfl rfl (OpA.callH rfl rfl rfl en8 (h1 := [(c4, .cells 1 [.fn (.func 7) [] [.ptr c3 1 0 0]]), (c3, .cells 1 [D.b true])]) (h2 := []) (.refl _) (unionK_c b c c4 c3 q2 (q8 ⟨⟨b6, b7⟩, b8⟩).1 q4 (q8 ⟨⟨b6, b7⟩, b8⟩).2.1) ?_)
  rintro _ _ ⟨_, rfl, rfl⟩
  refine wpL_opg rfl rfl rfl rfl rfl rfl (OpA.callH rfl rfl rfl en10 (h1 := [(c4, .cells 1 [.fn (.func 7) [] [.ptr c3 1 0 0]]), (c3, .cells 1 [D.b true])]) (h2 := []) (.refl _) (meetK_c a ((unionF b c).1) c4 c3 q1 (q8 ⟨⟨b6, b7⟩, b8⟩).2.2.1 q3 (q8 ⟨⟨b6, b7⟩, b8⟩).2.2.2.1) ?_)
  rintro _ _ ⟨_, rfl, rfl⟩
  refine wpL_opg rfl rfl rfl rfl rfl rfl (OpA.mv rfl (by with_reducible conv => lhs; whnf) ?_)
  refine wpL_opg rfl rfl rfl rfl rfl rfl (OpA.mv rfl (by with_reducible conv => lhs; whnf) ?_)
  refine wpL_opg rfl rfl rfl rfl rfl rfl (OpA.mv rfl (by with_reducible conv => lhs; whnf) ?_)
  refine wpL_opg rfl rfl rfl rfl rfl rfl (OpA.mv rfl (by with_reducible conv => lhs; whnf) ?_)
  refine wpL_opg rfl rfl rfl rfl rfl rfl (OpA.callH rfl rfl rfl en10 (h1 := [(c4, .cells 1 [.fn (.func 7) [] [.ptr c3 1 0 0]]), (c3, .cells 1 [D.b true])]) (h2 := []) (.refl _) (meetK_c a b c4 c3 q1 q2 q3 q4) ?_)
  rintro _ _ ⟨_, rfl, rfl⟩
  refine wpL_opg rfl rfl rfl rfl rfl rfl (OpA.mv rfl (by with_reducible conv => lhs; whnf) ?_)
  refine wpL_opg rfl rfl rfl rfl rfl rfl (OpA.mv rfl (by with_reducible conv => lhs; whnf) ?_)
  refine wpL_opg rfl rfl rfl rfl rfl rfl (OpA.mv rfl (by with_reducible conv => lhs; whnf) ?_)
  refine wpL_opg rfl rfl rfl rfl rfl rfl (OpA.callH rfl rfl rfl en10 (h1 := [(c4, .cells 1 [.fn (.func 7) [] [.ptr c3 1 0 0]]), (c3, .cells 1 [D.b true])]) (h2 := []) (.refl _) (meetK_c a c c4 c3 q1 (q8 ⟨⟨b6, b7⟩, b8⟩).1 q3 (q8 ⟨⟨b6, b7⟩, b8⟩).2.1) ?_)
  rintro _ _ ⟨_, rfl, rfl⟩
  refine wpL_opg rfl rfl rfl rfl rfl rfl (OpA.callH rfl rfl rfl en8 (h1 := [(c4, .cells 1 [.fn (.func 7) [] [.ptr c3 1 0 0]]), (c3, .cells 1 [D.b true])]) (h2 := []) (.refl _) (unionK_c ((meetF a b).1) ((meetF a c).1) c4 c3 (q8 ⟨⟨b6, b7⟩, b8⟩).2.2.2.2.1 (q8 ⟨⟨b6, b7⟩, b8⟩).2.2.2.2.2.1 (q8 ⟨⟨b6, b7⟩, b8⟩).2.2.2.2.2.2.1 (q8 ⟨⟨b6, b7⟩, b8⟩).2.2.2.2.2.2.2.1) ?_)
  rintro _ _ ⟨_, rfl, rfl⟩
  refine wpL_opg rfl rfl rfl rfl rfl rfl (OpA.call rfl rfl rfl en14 (eqSpans_c ((meetF a ((unionF b c).1)).1) ((unionF ((meetF a b).1) ((meetF a c).1)).1) (q8 ⟨⟨b6, b7⟩, b8⟩).2.2.2.2.2.2.2.2) ?_)
  rintro _ rfl
  refine wpL_op rfl rfl rfl (OpA.pck rfl rfl (by with_reducible conv => lhs; whnf) ?_)
  refine wpL_op rfl rfl rfl (OpA.mv rfl (by with_reducible conv => lhs; whnf) ?_)
  refine wpL_split (s := 104) rfl (fun b9 => ?_) (fun b9 => ?_)
  refine wpL_opg rfl rfl rfl rfl rfl rfl (OpA.mv rfl (by with_reducible conv => lhs; whnf) ?_)
  refine wpL_opg rfl rfl rfl rfl rfl rfl (OpA.mv rfl (by with_reducible conv => lhs; whnf) ?_)
  refine wpL_opg rfl rfl rfl rfl rfl rfl (OpA.mv rfl (by with_reducible conv => lhs; whnf) ?_)
  refine wpL_opg rfl rfl rfl rfl rfl rfl (OpA.mv rfl (by with_reducible conv => lhs; whnf) ?_)
  refine wpL_opg rfl rfl rfl rfl rfl rfl (OpA.mv rfl (by with_reducible conv => lhs; whnf) ?_)
  refine wpL_opg rfl rfl rfl rfl rfl rfl (OpA.callH rfl rfl rfl en8 (h1 := [(c4, .cells 1 [.fn (.func 7) [] [.ptr c3 1 0 0]]), (c3, .cells 1 [D.b true])]) (h2 := []) (.refl _) (unionK_c b c c4 c3 q2 (q9 ⟨⟨⟨b6, b7⟩, b8⟩, b9⟩).1 q4 (q9 ⟨⟨⟨b6, b7⟩, b8⟩, b9⟩).2.1) ?_)
  rintro _ _ ⟨_, rfl, rfl⟩
  refine wpL_opg rfl rfl rfl rfl rfl rfl (OpA.callH rfl rfl rfl en12 (h1 := [(c4, .cells 1 [.fn (.func 7) [] [.ptr c3 1 0 0]]), (c3, .cells 1 [D.b true])]) (h2 := []) (.refl _) (minusK_c a ((unionF b c).1) c4 c3 q1 (q9 ⟨⟨⟨b6, b7⟩, b8⟩, b9⟩).2.2.1 q3 (q9 ⟨⟨⟨b6, b7⟩, b8⟩, b9⟩).2.2.2.1) ?_)
  rintro _ _ ⟨_, rfl, rfl⟩
  refine wpL_opg rfl rfl rfl rfl rfl rfl (OpA.mv rfl (by with_reducible conv => lhs; whnf) ?_)
  refine wpL_opg rfl rfl rfl rfl rfl rfl (OpA.mv rfl (by with_reducible conv => lhs; whnf) ?_)
  refine wpL_opg rfl rfl rfl rfl rfl rfl (OpA.mv rfl (by with_reducible conv => lhs; whnf) ?_)
  refine wpL_opg rfl rfl rfl rfl rfl rfl (OpA.mv rfl (by with_reducible conv => lhs; whnf) ?_)
  refine wpL_opg rfl rfl rfl rfl rfl rfl (OpA.callH rfl rfl rfl en12 (h1 := [(c4, .cells 1 [.fn (.func 7) [] [.ptr c3 1 0 0]]), (c3, .cells 1 [D.b true])]) (h2 := []) (.refl _) (minusK_c a b c4 c3 q1 q2 q3 q4) ?_)
  rintro _ _ ⟨_, rfl, rfl⟩
  refine wpL_opg rfl rfl rfl rfl rfl rfl (OpA.mv rfl (by with_reducible conv => lhs; whnf) ?_)
  refine wpL_opg rfl rfl rfl rfl rfl rfl (OpA.callH rfl rfl rfl en12 (h1 := [(c4, .cells 1 [.fn (.func 7) [] [.ptr c3 1 0 0]]), (c3, .cells 1 [D.b true])]) (h2 := []) (.refl _) (minusK_c ((minusF a b).1) c c4 c3 (q9 ⟨⟨⟨b6, b7⟩, b8⟩, b9⟩).2.2.2.2.1 (q9 ⟨⟨⟨b6, b7⟩, b8⟩, b9⟩).1 (q9 ⟨⟨⟨b6, b7⟩, b8⟩, b9⟩).2.2.2.2.2.1 (q9 ⟨⟨⟨b6, b7⟩, b8⟩, b9⟩).2.1) ?_)
  rintro _ _ ⟨_, rfl, rfl⟩
  refine wpL_opg rfl rfl rfl rfl rfl rfl (OpA.call rfl rfl rfl en14 (eqSpans_c ((minusF a ((unionF b c).1)).1) ((minusF ((minusF a b).1) c).1) (q9 ⟨⟨⟨b6, b7⟩, b8⟩, b9⟩).2.2.2.2.2.2) ?_)
  rintro _ rfl
  refine wpL_op rfl rfl rfl (OpA.pck rfl rfl (by with_reducible conv => lhs; whnf) ?_)
  refine wpL_op rfl rfl rfl (OpA.mv rfl (by with_reducible conv => lhs; whnf) ?_)
  refine wpL_split (s := 121) rfl (fun b10 => ?_) (fun b10 => ?_)
  refine wpL_opg rfl rfl rfl rfl rfl rfl (OpA.mv rfl (by with_reducible conv => lhs; whnf) ?_)
  refine wpL_opg rfl rfl rfl rfl rfl rfl (OpA.mv rfl (by with_reducible conv => lhs; whnf) ?_)
  refine wpL_opg rfl rfl rfl rfl rfl rfl (OpA.mv rfl (by with_reducible conv => lhs; whnf) ?_)
  refine wpL_opg rfl rfl rfl rfl rfl rfl (OpA.mv rfl (by with_reducible conv => lhs; whnf) ?_)
  refine wpL_opg rfl rfl rfl rfl rfl rfl (OpA.callH rfl rfl rfl en12 (h1 := [(c4, .cells 1 [.fn (.func 7) [] [.ptr c3 1 0 0]]), (c3, .cells 1 [D.b true])]) (h2 := []) (.refl _) (minusK_c a b c4 c3 q1 q2 q3 q4) ?_)
  rintro _ _ ⟨_, rfl, rfl⟩
  refine wpL_opg rfl rfl rfl rfl rfl rfl (OpA.mv rfl (by with_reducible conv => lhs; whnf) ?_)
  refine wpL_opg rfl rfl rfl rfl rfl rfl (OpA.mv rfl (by with_reducible conv => lhs; whnf) ?_)
  refine wpL_opg rfl rfl rfl rfl rfl rfl (OpA.mv rfl (by with_reducible conv => lhs; whnf) ?_)
  refine wpL_opg rfl rfl rfl rfl rfl rfl (OpA.callH rfl rfl rfl en10 (h1 := [(c4, .cells 1 [.fn (.func 7) [] [.ptr c3 1 0 0]]), (c3, .cells 1 [D.b true])]) (h2 := []) (.refl _) (meetK_c a b c4 c3 q1 q2 q3 q4) ?_)
  rintro _ _ ⟨_, rfl, rfl⟩
  refine wpL_opg rfl rfl rfl rfl rfl rfl (OpA.callH rfl rfl rfl en8 (h1 := [(c4, .cells 1 [.fn (.func 7) [] [.ptr c3 1 0 0]]), (c3, .cells 1 [D.b true])]) (h2 := []) (.refl _) (unionK_c ((minusF a b).1) ((meetF a b).1) c4 c3 (q10 ⟨⟨⟨⟨b6, b7⟩, b8⟩, b9⟩, b10⟩).1 (q10 ⟨⟨⟨⟨b6, b7⟩, b8⟩, b9⟩, b10⟩).2.1 (q10 ⟨⟨⟨⟨b6, b7⟩, b8⟩, b9⟩, b10⟩).2.2.1 (q10 ⟨⟨⟨⟨b6, b7⟩, b8⟩, b9⟩, b10⟩).2.2.2.1) ?_)
  rintro _ _ ⟨_, rfl, rfl⟩
  refine wpL_opg rfl rfl rfl rfl rfl rfl (OpA.mv rfl (by with_reducible conv => lhs; whnf) ?_)
  refine wpL_opg rfl rfl rfl rfl rfl rfl (OpA.call rfl rfl rfl en14 (eqSpans_c ((unionF ((minusF a b).1) ((meetF a b).1)).1) a (q10 ⟨⟨⟨⟨b6, b7⟩, b8⟩, b9⟩, b10⟩).2.2.2.2) ?_)
  rintro _ rfl
  refine wpL_op rfl rfl rfl (OpA.pck rfl rfl (by with_reducible conv => lhs; whnf) ?_)
  refine wpL_op rfl rfl rfl (OpA.mv rfl (by with_reducible conv => lhs; whnf) ?_)
  refine wpL_split (s := 135) rfl (fun b11 => ?_) (fun b11 => ?_)
  refine wpL_opg rfl rfl rfl rfl rfl rfl (OpA.mv rfl (by with_reducible conv => lhs; whnf) ?_)
  refine wpL_opg rfl rfl rfl rfl rfl rfl (OpA.mv rfl (by with_reducible conv => lhs; whnf) ?_)
  refine wpL_opg rfl rfl rfl rfl rfl rfl (OpA.mv rfl (by with_reducible conv => lhs; whnf) ?_)
  refine wpL_opg rfl rfl rfl rfl rfl rfl (OpA.mv rfl (by with_reducible conv => lhs; whnf) ?_)
  refine wpL_opg rfl rfl rfl rfl rfl rfl (OpA.mv rfl (by with_reducible conv => lhs; whnf) ?_)
  refine wpL_opg rfl rfl rfl rfl rfl rfl (OpA.callH rfl rfl rfl en8 (h1 := [(c4, .cells 1 [.fn (.func 7) [] [.ptr c3 1 0 0]]), (c3, .cells 1 [D.b true])]) (h2 := []) (.refl _) (unionK_c a b c4 c3 q1 q2 q3 q4) ?_)
  rintro _ _ ⟨_, rfl, rfl⟩
  refine wpL_opg rfl rfl rfl rfl rfl rfl (OpA.callH rfl rfl rfl en10 (h1 := [(c4, .cells 1 [.fn (.func 7) [] [.ptr c3 1 0 0]]), (c3, .cells 1 [D.b true])]) (h2 := []) (.refl _) (meetK_c a ((unionF a b).1) c4 c3 q1 (q11 ⟨⟨⟨⟨⟨b6, b7⟩, b8⟩, b9⟩, b10⟩, b11⟩).1 q3 (q11 ⟨⟨⟨⟨⟨b6, b7⟩, b8⟩, b9⟩, b10⟩, b11⟩).2.1) ?_)
  rintro _ _ ⟨_, rfl, rfl⟩
  refine wpL_opg rfl rfl rfl rfl rfl rfl (OpA.mv rfl (by with_reducible conv => lhs; whnf) ?_)
  refine wpL_opg rfl rfl rfl rfl rfl rfl (OpA.call rfl rfl rfl en14 (eqSpans_c ((meetF a ((unionF a b).1)).1) a (q11 ⟨⟨⟨⟨⟨b6, b7⟩, b8⟩, b9⟩, b10⟩, b11⟩).2.2) ?_)
  rintro _ rfl
  refine wpL_op rfl rfl rfl (OpA.pck rfl rfl (by with_reducible conv => lhs; whnf) ?_)
  refine wpL_op rfl rfl rfl (OpA.mv rfl (by with_reducible conv => lhs; whnf) ?_)
  refine wpL_split (s := 146) rfl (fun b12 => ?_) (fun b12 => ?_)
  refine wpL_opg rfl rfl rfl rfl rfl rfl (OpA.mv rfl (by with_reducible conv => lhs; whnf) ?_)
  refine wpL_opg rfl rfl rfl rfl rfl rfl (OpA.mv rfl (by with_reducible conv => lhs; whnf) ?_)
  refine wpL_opg rfl rfl rfl rfl rfl rfl (OpA.mv rfl (by with_reducible conv => lhs; whnf) ?_)
  refine wpL_opg rfl rfl rfl rfl rfl rfl (OpA.callH rfl rfl rfl en8 (h1 := [(c4, .cells 1 [.fn (.func 7) [] [.ptr c3 1 0 0]]), (c3, .cells 1 [D.b true])]) (h2 := []) (.refl _) (unionK_c a a c4 c3 q1 q1 q3 q3) ?_)
  rintro _ _ ⟨_, rfl, rfl⟩
  refine wpL_opg rfl rfl rfl rfl rfl rfl (OpA.mv rfl (by with_reducible conv => lhs; whnf) ?_)
  refine wpL_opg rfl rfl rfl rfl rfl rfl (OpA.call rfl rfl rfl en14 (eqSpans_c ((unionF a a).1) a (q12 ⟨⟨⟨⟨⟨⟨b6, b7⟩, b8⟩, b9⟩, b10⟩, b11⟩, b12⟩)) ?_)
  rintro _ rfl
  refine wpL_op rfl rfl rfl (OpA.pck rfl rfl (by with_reducible conv => lhs; whnf) ?_)
  refine wpL_op rfl rfl rfl (OpA.mv rfl (by with_reducible conv => lhs; whnf) ?_)
  refine wpL_split (s := 154) rfl (fun b13 => ?_) (fun b13 => ?_)
  refine wpL_opg rfl rfl rfl rfl rfl rfl (OpA.mv rfl (by with_reducible conv => lhs; whnf) ?_)
  refine wpL_opg rfl rfl rfl rfl rfl rfl (OpA.mv rfl (by with_reducible conv => lhs; whnf) ?_)
  refine wpL_opg rfl rfl rfl rfl rfl rfl (OpA.mv rfl (by with_reducible conv => lhs; whnf) ?_)
  refine wpL_opg rfl rfl rfl rfl rfl rfl (OpA.callH rfl rfl rfl en12 (h1 := [(c4, .cells 1 [.fn (.func 7) [] [.ptr c3 1 0 0]]), (c3, .cells 1 [D.b true])]) (h2 := []) (.refl _) (minusK_c a a c4 c3 q1 q1 q3 q3) ?_)
  rintro _ _ ⟨_, rfl, rfl⟩
  refine wpL_opg rfl rfl rfl rfl rfl rfl (OpA.len rfl rfl rfl rfl ts23.desc (.inl ⟨_, _, rfl, (List.length_map _).symm⟩) ?_)
  refine wpL_opg rfl rfl rfl rfl rfl rfl (OpA.eql rfl rfl rfl ?_)
  refine wpL_op rfl rfl rfl (OpA.pck rfl rfl (by with_reducible conv => lhs; whnf) ?_)
  refine wpL_op rfl rfl rfl (OpA.asn rfl (by with_reducible conv => lhs; whnf) ?_)
  refine wpL_nil ?_
  exact ⟨(Cov.asg ⟨rfl, rfl, (congrArg D.b (Eq.symm (andN (andN (andN (andN (andN (andN (andN (andN b6 b7) b8) b9) b10) b11) b12) b13) rfl))), trivial⟩), (.refl _)⟩
  iterate 6 refine wpL_skip rfl rfl rfl rfl rfl rfl ?_
  refine wpL_op rfl rfl rfl (OpA.pck rfl rfl (by with_reducible conv => lhs; whnf) ?_)
  refine wpL_op rfl rfl rfl (OpA.asn rfl (by with_reducible conv => lhs; whnf) ?_)
  refine wpL_nil ?_
  exact ⟨(Cov.asg ⟨rfl, rfl, (congrArg D.b (Eq.symm (andS (andN (andN (andN (andN (andN (andN (andN b6 b7) b8) b9) b10) b11) b12) b13)))), trivial⟩), (.refl _)⟩
  iterate 6 refine wpL_skip rfl rfl rfl rfl rfl rfl ?_
  refine wpL_op rfl rfl rfl (OpA.pck rfl rfl (by with_reducible conv => lhs; whnf) ?_)
  refine wpL_op rfl rfl rfl (OpA.mv rfl (by with_reducible conv => lhs; whnf) ?_)
  iterate 6 refine wpL_skip rfl rfl rfl rfl rfl rfl ?_
  refine wpL_op rfl rfl rfl (OpA.pck rfl rfl (by with_reducible conv => lhs; whnf) ?_)
  refine wpL_op rfl rfl rfl (OpA.asn rfl (by with_reducible conv => lhs; whnf) ?_)
  refine wpL_nil ?_
  exact ⟨(Cov.asg ⟨rfl, rfl, (congrArg D.b (Eq.symm (andS (andS (andN (andN (andN (andN (andN (andN b6 b7) b8) b9) b10) b11) b12))))), trivial⟩), (.refl _)⟩
  iterate 9 refine wpL_skip rfl rfl rfl rfl rfl rfl ?_
  refine wpL_op rfl rfl rfl (OpA.pck rfl rfl (by with_reducible conv => lhs; whnf) ?_)
  refine wpL_op rfl rfl rfl (OpA.mv rfl (by with_reducible conv => lhs; whnf) ?_)
  iterate 6 refine wpL_skip rfl rfl rfl rfl rfl rfl ?_
  refine wpL_op rfl rfl rfl (OpA.pck rfl rfl (by with_reducible conv => lhs; whnf) ?_)
  refine wpL_op rfl rfl rfl (OpA.mv rfl (by with_reducible conv => lhs; whnf) ?_)
  iterate 6 refine wpL_skip rfl rfl rfl rfl rfl rfl ?_
  refine wpL_op rfl rfl rfl (OpA.pck rfl rfl (by with_reducible conv => lhs; whnf) ?_)
  refine wpL_op rfl rfl rfl (OpA.asn rfl (by with_reducible conv => lhs; whnf) ?_)
  refine wpL_nil ?_
  exact ⟨(Cov.asg ⟨rfl, rfl, (congrArg D.b (Eq.symm (andS (andS (andS (andN (andN (andN (andN (andN b6 b7) b8) b9) b10) b11)))))), trivial⟩), (.refl _)⟩
  iterate 12 refine wpL_skip rfl rfl rfl rfl rfl rfl ?_
  refine wpL_op rfl rfl rfl (OpA.pck rfl rfl (by with_reducible conv => lhs; whnf) ?_)
  refine wpL_op rfl rfl rfl (OpA.mv rfl (by with_reducible conv => lhs; whnf) ?_)
  iterate 9 refine wpL_skip rfl rfl rfl rfl rfl rfl ?_
  refine wpL_op rfl rfl rfl (OpA.pck rfl rfl (by with_reducible conv => lhs; whnf) ?_)
  refine wpL_op rfl rfl rfl (OpA.mv rfl (by with_reducible conv => lhs; whnf) ?_)
  iterate 6 refine wpL_skip rfl rfl rfl rfl rfl rfl ?_
  refine wpL_op rfl rfl rfl (OpA.pck rfl rfl (by with_reducible conv => lhs; whnf) ?_)
  refine wpL_op rfl rfl rfl (OpA.mv rfl (by with_reducible conv => lhs; whnf) ?_)
  iterate 6 refine wpL_skip rfl rfl rfl rfl rfl rfl ?_
  refine wpL_op rfl rfl rfl (OpA.pck rfl rfl (by with_reducible conv => lhs; whnf) ?_)
  refine wpL_op rfl rfl rfl (OpA.asn rfl (by with_reducible conv => lhs; whnf) ?_)
  refine wpL_nil ?_
  exact ⟨(Cov.asg ⟨rfl, rfl, (congrArg D.b (Eq.symm (andS (andS (andS (andS (andN (andN (andN (andN b6 b7) b8) b9) b10))))))), trivial⟩), (.refl _)⟩
  iterate 15 refine wpL_skip rfl rfl rfl rfl rfl rfl ?_
  refine wpL_op rfl rfl rfl (OpA.pck rfl rfl (by with_reducible conv => lhs; whnf) ?_)
  refine wpL_op rfl rfl rfl (OpA.mv rfl (by with_reducible conv => lhs; whnf) ?_)
  iterate 12 refine wpL_skip rfl rfl rfl rfl rfl rfl ?_
  refine wpL_op rfl rfl rfl (OpA.pck rfl rfl (by with_reducible conv => lhs; whnf) ?_)
  refine wpL_op rfl rfl rfl (OpA.mv rfl (by with_reducible conv => lhs; whnf) ?_)
  iterate 9 refine wpL_skip rfl rfl rfl rfl rfl rfl ?_
  refine wpL_op rfl rfl rfl (OpA.pck rfl rfl (by with_reducible conv => lhs; whnf) ?_)
  refine wpL_op rfl rfl rfl (OpA.mv rfl (by with_reducible conv => lhs; whnf) ?_)
  iterate 6 refine wpL_skip rfl rfl rfl rfl rfl rfl ?_
  refine wpL_op rfl rfl rfl (OpA.pck rfl rfl (by with_reducible conv => lhs; whnf) ?_)
  refine wpL_op rfl rfl rfl (OpA.mv rfl (by with_reducible conv => lhs; whnf) ?_)
  iterate 6 refine wpL_skip rfl rfl rfl rfl rfl rfl ?_
  refine wpL_op rfl rfl rfl (OpA.pck rfl rfl (by with_reducible conv => lhs; whnf) ?_)
  refine wpL_op rfl rfl rfl (OpA.asn rfl (by with_reducible conv => lhs; whnf) ?_)
  refine wpL_nil ?_
  exact ⟨(Cov.asg ⟨rfl, rfl, (congrArg D.b (Eq.symm (andS (andS (andS (andS (andS (andN (andN (andN b6 b7) b8) b9)))))))), trivial⟩), (.refl _)⟩
  iterate 18 refine wpL_skip rfl rfl rfl rfl rfl rfl ?_
  refine wpL_op rfl rfl rfl (OpA.pck rfl rfl (by with_reducible conv => lhs; whnf) ?_)
  refine wpL_op rfl rfl rfl (OpA.mv rfl (by with_reducible conv => lhs; whnf) ?_)
  iterate 15 refine wpL_skip rfl rfl rfl rfl rfl rfl ?_
  refine wpL_op rfl rfl rfl (OpA.pck rfl rfl (by with_reducible conv => lhs; whnf) ?_)
  refine wpL_op rfl rfl rfl (OpA.mv rfl (by with_reducible conv => lhs; whnf) ?_)
  iterate 12 refine wpL_skip rfl rfl rfl rfl rfl rfl ?_
  refine wpL_op rfl rfl rfl (OpA.pck rfl rfl (by with_reducible conv => lhs; whnf) ?_)
  refine wpL_op rfl rfl rfl (OpA.mv rfl (by with_reducible conv => lhs; whnf) ?_)
  iterate 9 refine wpL_skip rfl rfl rfl rfl rfl rfl ?_
  refine wpL_op rfl rfl rfl (OpA.pck rfl rfl (by with_reducible conv => lhs; whnf) ?_)
  refine wpL_op rfl rfl rfl (OpA.mv rfl (by with_reducible conv => lhs; whnf) ?_)
  iterate 6 refine wpL_skip rfl rfl rfl rfl rfl rfl ?_
  refine wpL_op rfl rfl rfl (OpA.pck rfl rfl (by with_reducible conv => lhs; whnf) ?_)
  refine wpL_op rfl rfl rfl (OpA.mv rfl (by with_reducible conv => lhs; whnf) ?_)
  iterate 6 refine wpL_skip rfl rfl rfl rfl rfl rfl ?_
  refine wpL_op rfl rfl rfl (OpA.pck rfl rfl (by with_reducible conv => lhs; whnf) ?_)
  refine wpL_op rfl rfl rfl (OpA.asn rfl (by with_reducible conv => lhs; whnf) ?_)
  refine wpL_nil ?_
  exact ⟨(Cov.asg ⟨rfl, rfl, (congrArg D.b (Eq.symm (andS (andS (andS (andS (andS (andS (andN (andN b6 b7) b8))))))))), trivial⟩), (.refl _)⟩
  iterate 15 refine wpL_skip rfl rfl rfl rfl rfl rfl ?_
  refine wpL_op rfl rfl rfl (OpA.pck rfl rfl (by with_reducible conv => lhs; whnf) ?_)
  refine wpL_op rfl rfl rfl (OpA.mv rfl (by with_reducible conv => lhs; whnf) ?_)
  iterate 18 refine wpL_skip rfl rfl rfl rfl rfl rfl ?_
  refine wpL_op rfl rfl rfl (OpA.pck rfl rfl (by with_reducible conv => lhs; whnf) ?_)
  refine wpL_op rfl rfl rfl (OpA.mv rfl (by with_reducible conv => lhs; whnf) ?_)
  iterate 15 refine wpL_skip rfl rfl rfl rfl rfl rfl ?_
  refine wpL_op rfl rfl rfl (OpA.pck rfl rfl (by with_reducible conv => lhs; whnf) ?_)
  refine wpL_op rfl rfl rfl (OpA.mv rfl (by with_reducible conv => lhs; whnf) ?_)
  iterate 12 refine wpL_skip rfl rfl rfl rfl rfl rfl ?_
  refine wpL_op rfl rfl rfl (OpA.pck rfl rfl (by with_reducible conv => lhs; whnf) ?_)
  refine wpL_op rfl rfl rfl (OpA.mv rfl (by with_reducible conv => lhs; whnf) ?_)
  iterate 9 refine wpL_skip rfl rfl rfl rfl rfl rfl ?_
  refine wpL_op rfl rfl rfl (OpA.pck rfl rfl (by with_reducible conv => lhs; whnf) ?_)
  refine wpL_op rfl rfl rfl (OpA.mv rfl (by with_reducible conv => lhs; whnf) ?_)
  iterate 6 refine wpL_skip rfl rfl rfl rfl rfl rfl ?_
  refine wpL_op rfl rfl rfl (OpA.pck rfl rfl (by with_reducible conv => lhs; whnf) ?_)
  refine wpL_op rfl rfl rfl (OpA.mv rfl (by with_reducible conv => lhs; whnf) ?_)
  iterate 6 refine wpL_skip rfl rfl rfl rfl rfl rfl ?_
  refine wpL_op rfl rfl rfl (OpA.pck rfl rfl (by with_reducible conv => lhs; whnf) ?_)
  refine wpL_op rfl rfl rfl (OpA.asn rfl (by with_reducible conv => lhs; whnf) ?_)
  refine wpL_nil ?_
  exact ⟨(Cov.asg ⟨rfl, rfl, (congrArg D.b (Eq.symm (andS (andS (andS (andS (andS (andS (andS (andN b6 b7)))))))))), trivial⟩), (.refl _)⟩
  iterate 9 refine wpL_skip rfl rfl rfl rfl rfl rfl ?_
  refine wpL_op rfl rfl rfl (OpA.pck rfl rfl (by with_reducible conv => lhs; whnf) ?_)
  refine wpL_op rfl rfl rfl (OpA.mv rfl (by with_reducible conv => lhs; whnf) ?_)
  iterate 15 refine wpL_skip rfl rfl rfl rfl rfl rfl ?_
  refine wpL_op rfl rfl rfl (OpA.pck rfl rfl (by with_reducible conv => lhs; whnf) ?_)
  refine wpL_op rfl rfl rfl (OpA.mv rfl (by with_reducible conv => lhs; whnf) ?_)
  iterate 18 refine wpL_skip rfl rfl rfl rfl rfl rfl ?_
  refine wpL_op rfl rfl rfl (OpA.pck rfl rfl (by with_reducible conv => lhs; whnf) ?_)
  refine wpL_op rfl rfl rfl (OpA.mv rfl (by with_reducible conv => lhs; whnf) ?_)
  iterate 15 refine wpL_skip rfl rfl rfl rfl rfl rfl ?_
  refine wpL_op rfl rfl rfl (OpA.pck rfl rfl (by with_reducible conv => lhs; whnf) ?_)
  refine wpL_op rfl rfl rfl (OpA.mv rfl (by with_reducible conv => lhs; whnf) ?_)
  iterate 12 refine wpL_skip rfl rfl rfl rfl rfl rfl ?_
  refine wpL_op rfl rfl rfl (OpA.pck rfl rfl (by with_reducible conv => lhs; whnf) ?_)
  refine wpL_op rfl rfl rfl (OpA.mv rfl (by with_reducible conv => lhs; whnf) ?_)
  iterate 9 refine wpL_skip rfl rfl rfl rfl rfl rfl ?_
  refine wpL_op rfl rfl rfl (OpA.pck rfl rfl (by with_reducible conv => lhs; whnf) ?_)
  refine wpL_op rfl rfl rfl (OpA.mv rfl (by with_reducible conv => lhs; whnf) ?_)
  iterate 6 refine wpL_skip rfl rfl rfl rfl rfl rfl ?_
  refine wpL_op rfl rfl rfl (OpA.pck rfl rfl (by with_reducible conv => lhs; whnf) ?_)
  refine wpL_op rfl rfl rfl (OpA.mv rfl (by with_reducible conv => lhs; whnf) ?_)
  iterate 6 refine wpL_skip rfl rfl rfl rfl rfl rfl ?_
  refine wpL_op rfl rfl rfl (OpA.pck rfl rfl (by with_reducible conv => lhs; whnf) ?_)
  refine wpL_op rfl rfl rfl (OpA.asn rfl (by with_reducible conv => lhs; whnf) ?_)
  refine wpL_nil ?_
  exact ⟨(Cov.asg ⟨rfl, rfl, (congrArg D.b (Eq.symm (andS (andS (andS (andS (andS (andS (andS (andS b6)))))))))), trivial⟩), (.refl _)⟩
  show wpA _ _ _ _ (asg [(6, D.b false), (7, .ptr c3 1 0 0), (12, D.b (((((((((decide (((unionF a b).1) = ((unionF b a).1))) && (decide (((meetF a b).1) = ((meetF b a).1)))) && (decide (((unionF a ((unionF b c).1)).1) = ((unionF ((unionF a b).1) c).1)))) && (decide (((meetF a ((unionF b c).1)).1) = ((unionF ((meetF a b).1) ((meetF a c).1)).1)))) && (decide (((minusF a ((unionF b c).1)).1) = ((minusF ((minusF a b).1) c).1)))) && (decide (((unionF ((minusF a b).1) ((meetF a b).1)).1) = a))) && (decide (((meetF a ((unionF a b).1)).1) = a))) && (decide (((unionF a a).1) = a))) && ((((minusF a a).1).length : Int) == 0)))]) [(c4, .cells 1 [.fn (.func 7) [] [.ptr c3 1 0 0]]), (c3, .cells 1 [D.b true])]
  refine wpA_seq ?_
  refine wpA_mid (asg [(6, D.b (((((((((decide (((unionF a b).1) = ((unionF b a).1))) && (decide (((meetF a b).1) = ((meetF b a).1)))) && (decide (((unionF a ((unionF b c).1)).1) = ((unionF ((unionF a b).1) c).1)))) && (decide (((meetF a ((unionF b c).1)).1) = ((unionF ((meetF a b).1) ((meetF a c).1)).1)))) && (decide (((minusF a ((unionF b c).1)).1) = ((minusF ((minusF a b).1) c).1)))) && (decide (((unionF ((minusF a b).1) ((meetF a b).1)).1) = a))) && (decide (((meetF a ((unionF a b).1)).1) = a))) && (decide (((unionF a a).1) = a))) && ((((minusF a a).1).length : Int) == 0)))]) [(c4, .cells 1 [.fn (.func 7) [] [.ptr c3 1 0 0]]), (c3, .cells 1 [D.b true])] ?_ ?_
  refine wpA_region ?_
  refine wpL_op rfl rfl rfl (OpA.mv rfl (by with_reducible conv => lhs; whnf) ?_)
  refine wpL_op rfl rfl rfl (OpA.mv rfl (by with_reducible conv => lhs; whnf) ?_)
  refine wpL_split (s := 163) rfl (fun b5 => ?_) (fun b5 => ?_)
  refine wpL_opg rfl rfl rfl rfl rfl rfl (OpA.load rfl ti4 rfl (.tail .head) rfl rfl ?_)
  refine wpL_op rfl rfl rfl (OpA.pck rfl rfl (by with_reducible conv => lhs; whnf) ?_)
  refine wpL_op rfl rfl rfl (OpA.asn rfl (by with_reducible conv => lhs; whnf) ?_)
  refine wpL_nil ?_
  exact ⟨(Cov.asg ⟨(congrArg D.b (Eq.symm b5)), trivial⟩), (.refl _)⟩
  refine wpL_skip rfl rfl rfl rfl rfl rfl ?_
  refine wpL_op rfl rfl rfl (OpA.pck rfl rfl (by with_reducible conv => lhs; whnf) ?_)
  refine wpL_op rfl rfl rfl (OpA.asn rfl (by with_reducible conv => lhs; whnf) ?_)
  refine wpL_nil ?_
  exact ⟨(Cov.asg ⟨(congrArg D.b (Eq.symm b5)), trivial⟩), (.refl _)⟩
  show wpA _ _ _ _ (asg [(6, D.b (((((((((decide (((unionF a b).1) = ((unionF b a).1))) && (decide (((meetF a b).1) = ((meetF b a).1)))) && (decide (((unionF a ((unionF b c).1)).1) = ((unionF ((unionF a b).1) c).1)))) && (decide (((meetF a ((unionF b c).1)).1) = ((unionF ((meetF a b).1) ((meetF a c).1)).1)))) && (decide (((minusF a ((unionF b c).1)).1) = ((minusF ((minusF a b).1) c).1)))) && (decide (((unionF ((minusF a b).1) ((meetF a b).1)).1) = a))) && (decide (((meetF a ((unionF a b).1)).1) = a))) && (decide (((unionF a a).1) = a))) && ((((minusF a a).1).length : Int) == 0)))]) [(c4, .cells 1 [.fn (.func 7) [] [.ptr c3 1 0 0]]), (c3, .cells 1 [D.b true])]
  refine wpA_ret ?_
  exact ⟨_, (.tmp (d := D.b (((((((((decide (((unionF a b).1) = ((unionF b a).1))) && (decide (((meetF a b).1) = ((meetF b a).1)))) && (decide (((unionF a ((unionF b c).1)).1) = ((unionF ((unionF a b).1) c).1)))) && (decide (((meetF a ((unionF b c).1)).1) = ((unionF ((meetF a b).1) ((meetF a c).1)).1)))) && (decide (((minusF a ((unionF b c).1)).1) = ((minusF ((minusF a b).1) c).1)))) && (decide (((unionF ((minusF a b).1) ((meetF a b).1)).1) = a))) && (decide (((meetF a ((unionF a b).1)).1) = a))) && (decide (((unionF a a).1) = a))) && ((((minusF a a).1).length : Int) == 0))) rfl .nil), _, (.same rfl .nil), ⟨(((((((((decide (((unionF a b).1) = ((unionF b a).1))) && (decide (((meetF a b).1) = ((meetF b a).1)))) && (decide (((unionF a ((unionF b c).1)).1) = ((unionF ((unionF a b).1) c).1)))) && (decide (((meetF a ((unionF b c).1)).1) = ((unionF ((meetF a b).1) ((meetF a c).1)).1)))) && (decide (((minusF a ((unionF b c).1)).1) = ((minusF ((minusF a b).1) c).1)))) && (decide (((unionF ((minusF a b).1) ((meetF a b).1)).1) = a))) && (decide (((meetF a ((unionF a b).1)).1) = a))) && (decide (((unionF a a).1) = a))) && ((((minusF a a).1).length : Int) == 0)), rfl, h⟩⟩
theorem lawLaws_c (a : (List Span)) (b : (List Span)) (c : (List Span))   : Fun false Tryd.prog 3 [(encL 3 encSpan) a, (encL 3 encSpan) b, (encL 3 encSpan) c] (fun d => d = D.b (true)) :=
  Fun.at (enc := fun r => D.b r) (v := true) (lawLaws_w a b c  (fun r => r = true) (lawLaws_ok a b c _  rfl))
end Go.Proofs.YtciihmjdccecgaaDoor
