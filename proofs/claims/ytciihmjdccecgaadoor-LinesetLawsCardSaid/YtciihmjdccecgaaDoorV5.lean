/-
  walks and contracts
-/
import Derived.Test.YtciihmjdccecgaaDoorV4
set_option linter.all false
namespace Go.Proofs.YtciihmjdccecgaaDoor
open Go Go.Lic Go.Sort Go.Proofs
attribute [local irreducible] badR behindF cmpB cmpI countF countL fewF growF has1F hasF hasPrefF indexF insideF itoaF lenF meetF mergeF minusF ofF orF partF pathF printF spanCmp splitF splitG underF unionF validF



set_option maxHeartbeats 2000000 in
set_option maxRecDepth 10000 in
theorem rfew_w (l : (List Span))  (Q : Bool → Prop) (h : rfew_vc l Q) : Fun false Tryd.prog 5 [(encL 3 encSpan) l] (fun d => ∃ r, d = D.b r ∧ Q r) := by
  unfold rfew_vc at h
  refine Fun.of_body Tryd.func5 rfl Tryd.ntmps5 rfl ?_
  refine wpA_seq ?_
  refine wpA_region ?_
  refine wpL_op rfl rfl rfl (OpA.asn rfl (by with_reducible conv => lhs; whnf) ?_)
  refine wpL_nil ?_
  iterate 2 refine wpA_seq ?_
  refine wpA_region ?_
  refine wpL_op rfl rfl rfl (OpA.mv rfl (by with_reducible conv => lhs; whnf) ?_)
  refine wpL_op rfl rfl rfl (OpA.len rfl rfl rfl rfl ts23.desc (.inl ⟨_, _, rfl, (List.length_map _).symm⟩) ?_)
  refine wpL_op rfl rfl rfl (OpA.gtr rfl rfl rfl ?_)
  refine wpL_nil ?_
  refine wpA_cond rfl (fun b1 => ?_) (fun b1 => ?_)
  have h := h.1 (decT b1)
  refine wpA_seq ?_
  refine wpA_region ?_
  refine wpL_op rfl rfl rfl (OpA.asn rfl (by with_reducible conv => lhs; whnf) ?_)
  refine wpL_nil ?_
  refine wpA_ret ?_
  exact ⟨_, (.tmp (d := D.b false) rfl .nil), _, (.same rfl .nil), ⟨false, rfl, h⟩⟩
  have h := h.2 (decF b1)
  refine wpA_skip ?_
  iterate 2 refine wpA_seq ?_
  refine wpA_region ?_
  refine wpL_op rfl rfl rfl (OpA.asn rfl (by with_reducible conv => lhs; whnf) ?_)
  refine wpL_nil ?_
  refine wpA_block ?_
  refine wpA_lfp (S := Int) (G := Unit) () (fun gg ss => asg [(0, (encL 3 encSpan) l), (2, D.b false), (3, D.i ss)]) (fun gg ss => []) h (Cov.asg ⟨rfl, rfl, rfl, trivial⟩) (.refl _) ?_
  rintro again2 _ i h
  have h : rfew_L1 l Q again2 i := h
  unfold rfew_L1 at h
  show wpA _ _ _ _ (asg [(0, (encL 3 encSpan) l), (2, D.b false), (3, D.i i)]) []
  iterate 2 refine wpA_seq ?_
  refine wpA_region ?_
  refine wpL_op rfl rfl rfl (OpA.mv rfl (by with_reducible conv => lhs; whnf) ?_)
  refine wpL_op rfl rfl rfl (OpA.mv rfl (by with_reducible conv => lhs; whnf) ?_)
  refine wpL_op rfl rfl rfl (OpA.len rfl rfl rfl rfl ts23.desc (.inl ⟨_, _, rfl, (List.length_map _).symm⟩) ?_)
  refine wpL_op rfl rfl rfl (OpA.lss rfl rfl rfl ?_)
  refine wpL_nil ?_
  refine wpA_cond rfl (fun b3 => ?_) (fun b3 => ?_)
  have h := h.1 (decT b3)
  refine wpA_skip ?_
  refine wpA_seq ?_
  refine wpA_block ?_
  refine wpA_seq ?_
  obtain ⟨q1, h⟩ := h
  refine wpA_region ?_
  refine wpL_op rfl rfl rfl (OpA.mv rfl (by with_reducible conv => lhs; whnf) ?_)
  refine wpL_op rfl rfl rfl (OpA.mv rfl (by with_reducible conv => lhs; whnf) ?_)
  refine wpL_op rfl rfl rfl (OpA.iixV (enc := encSpan) rfl ts23 rfl rfl rfl q1 ?_)
  refine wpL_op rfl rfl rfl (OpA.ifieldAddr rfl tf33_0 rfl ?_)
  refine wpL_op rfl rfl rfl (OpA.iload rfl ti9 rfl rfl ?_)
  refine wpL_op rfl rfl rfl (OpA.slen rfl rfl rfl rfl td9 rfl ?_)
  refine wpL_op rfl rfl rfl (OpA.gtr rfl rfl rfl ?_)
  refine wpL_nil ?_
  refine wpA_cond rfl (fun b4 => ?_) (fun b4 => ?_)
  have h := h.1 (decT b4)
  refine wpA_seq ?_
  refine wpA_region ?_
  refine wpL_op rfl rfl rfl (OpA.asn rfl (by with_reducible conv => lhs; whnf) ?_)
  refine wpL_nil ?_
  refine wpA_ret ?_
  exact ⟨_, (.tmp (d := D.b false) rfl .nil), _, (.same rfl .nil), ⟨false, rfl, h⟩⟩
  have h := h.2 (decF b4)
  refine wpA_skip ?_
  obtain ⟨q1, h⟩ := h
  refine wpA_region ?_
  refine wpL_op rfl rfl rfl (OpA.mv rfl (by with_reducible conv => lhs; whnf) ?_)
  refine wpL_op rfl rfl rfl (OpA.addi rfl rfl rfl q1 ?_)
  refine wpL_op rfl rfl rfl (OpA.asn rfl (by with_reducible conv => lhs; whnf) ?_)
  refine wpL_nil ?_
  exact ⟨(), (i + 1), h, (Cov.asg ⟨rfl, rfl, rfl, trivial⟩), (.refl _)⟩
  have h := h.2 (decF b3)
  refine wpA_exit ?_
  refine wpA_seq ?_
  refine wpA_region ?_
  refine wpL_op rfl rfl rfl (OpA.asn rfl (by with_reducible conv => lhs; whnf) ?_)
  refine wpL_nil ?_
  refine wpA_ret ?_
  exact ⟨_, (.tmp (d := D.b true) rfl .nil), _, (.same rfl .nil), ⟨true, rfl, h⟩⟩
theorem rfew_c (l : (List Span))   : Fun false Tryd.prog 5 [(encL 3 encSpan) l] (fun d => d = D.b (fewF l)) :=
  Fun.at (enc := fun r => D.b r) (v := fewF l) (rfew_w l  (fun r => r = fewF l) (rfew_ok l _  rfl))

set_option maxHeartbeats 2000000 in
set_option maxRecDepth 10000 in
theorem eqSpans_w (s1 : (List Span)) (s2 : (List Span))  (Q : Bool → Prop) (h : eqSpans_vc s1 s2 Q) : Fun false Tryd.prog 14 [(encL 3 encSpan) s1, (encL 3 encSpan) s2] (fun d => ∃ r, d = D.b r ∧ Q r) := by
  unfold eqSpans_vc at h
  refine Fun.of_body Tryd.func14 rfl Tryd.ntmps14 rfl ?_
  refine wpA_seq ?_
  refine wpA_region ?_
  refine wpL_op rfl rfl rfl (OpA.asn rfl (by with_reducible conv => lhs; whnf) ?_)
  refine wpL_nil ?_
  iterate 2 refine wpA_seq ?_
  refine wpA_region ?_
  refine wpL_op rfl rfl rfl (OpA.mv rfl (by with_reducible conv => lhs; whnf) ?_)
  refine wpL_op rfl rfl rfl (OpA.len rfl rfl rfl rfl ts23.desc (.inl ⟨_, _, rfl, (List.length_map _).symm⟩) ?_)
  refine wpL_op rfl rfl rfl (OpA.mv rfl (by with_reducible conv => lhs; whnf) ?_)
  refine wpL_op rfl rfl rfl (OpA.len rfl rfl rfl rfl ts23.desc (.inl ⟨_, _, rfl, (List.length_map _).symm⟩) ?_)
  refine wpL_op rfl rfl rfl (OpA.neq rfl rfl rfl ?_)
  refine wpL_nil ?_
  refine wpA_cond rfl (fun b1 => ?_) (fun b1 => ?_)
  have h := h.1 (bneT b1)
  refine wpA_seq ?_
  refine wpA_region ?_
  refine wpL_op rfl rfl rfl (OpA.asn rfl (by with_reducible conv => lhs; whnf) ?_)
  refine wpL_nil ?_
  refine wpA_ret ?_
  exact ⟨_, (.tmp (d := D.b false) rfl .nil), _, (.same rfl .nil), ⟨false, rfl, h⟩⟩
  have h := h.2 (bneF b1)
  refine wpA_skip ?_
  iterate 2 refine wpA_seq ?_
  refine wpA_region ?_
  refine wpL_op rfl rfl rfl (OpA.mv rfl (by with_reducible conv => lhs; whnf) ?_)
  refine wpL_op rfl rfl rfl (OpA.len rfl rfl rfl rfl ts23.desc (.inl ⟨_, _, rfl, (List.length_map _).symm⟩) ?_)
  refine wpL_op rfl rfl rfl (OpA.mv rfl (by with_reducible conv => lhs; whnf) ?_)
  refine wpL_nil ?_
  refine wpA_block ?_
  refine wpA_lfp (S := Int) (G := Unit) () (fun gg ss => asg [(0, (encL 3 encSpan) s1), (1, (encL 3 encSpan) s2), (4, D.b false), (12, D.i (s1.length : Int)), (13, D.i ss)]) (fun gg ss => []) h (Cov.asg ⟨rfl, rfl, rfl, rfl, rfl, trivial⟩) (.refl _) ?_
  rintro again2 _ x h
  have h : eqSpans_L1 s1 s2 Q again2 x := h
  unfold eqSpans_L1 at h
  show wpA _ _ _ _ (asg [(0, (encL 3 encSpan) s1), (1, (encL 3 encSpan) s2), (4, D.b false), (12, D.i (s1.length : Int)), (13, D.i x)]) []
  refine wpA_seq ?_
  refine wpA_region ?_
  refine wpL_op rfl rfl rfl (OpA.lss rfl rfl rfl ?_)
  refine wpL_nil ?_
  refine wpA_seq ?_
  refine wpA_cond rfl (fun b3 => ?_) (fun b3 => ?_)
  have h := h.1 (decT b3)
  refine wpA_skip ?_
  refine wpA_seq ?_
  refine wpA_block ?_
  refine wpA_seq ?_
  refine wpA_region ?_
  refine wpL_op rfl rfl rfl (OpA.mv rfl (by with_reducible conv => lhs; whnf) ?_)
  refine wpL_op rfl rfl rfl (OpA.asn rfl (by with_reducible conv => lhs; whnf) ?_)
  refine wpL_nil ?_
  refine wpA_seq ?_
  obtain ⟨q1, q2, h⟩ := h
  refine wpA_draw (m := 9) mo (by kernel_rfl) rfl ?_
  iterate 2 refine DetK.op rfl (OpA.mv rfl (by with_reducible conv => lhs; whnf) ⟨rfl, rfl⟩) ?_
  refine DetK.op rfl (OpA.iixV (enc := encSpan) rfl ts23 rfl rfl rfl q1 ⟨rfl, rfl⟩) ?_
  refine DetK.op rfl (OpA.iload_whole rfl ti33 rfl ⟨_, rfl, rfl⟩ ⟨rfl, rfl⟩) ?_
  iterate 2 refine DetK.op rfl (OpA.mv rfl (by with_reducible conv => lhs; whnf) ⟨rfl, rfl⟩) ?_
  refine DetK.op rfl (OpA.iixV (enc := encSpan) rfl ts23 rfl rfl rfl q2 ⟨rfl, rfl⟩) ?_
  refine DetK.op rfl (OpA.iload_whole rfl ti33 rfl ⟨_, rfl, rfl⟩ ⟨rfl, rfl⟩) ?_
  refine DetK.op rfl (OpA.structcmp (xs := [.string ((gi s1 x).path), .int .i64 ((gi s1 x).from_), .int .i64 ((gi s1 x).to)]) (ys := [.string ((gi s2 x).path), .int .i64 ((gi s2 x).from_), .int .i64 ((gi s2 x).to)]) (r := (eqSpan (gi s1 x) (gi s2 x))) rfl eg33 su33.1 su33.2.1 su33.2.2 rfl rfl (.str td9 ti9 rfl rfl (.int td3 ti3 rfl rfl (.int td3 ti3 rfl rfl .nil))) (.inr ⟨rfl, rfl⟩) ⟨rfl, rfl⟩) ?_
  refine DetK.nil ?_
  refine wpL_nil ?_
  refine wpA_cond rfl (fun b4 => ?_) (fun b4 => ?_)
  have h := h.1 (notT b4)
  refine wpA_seq ?_
  refine wpA_region ?_
  refine wpL_op rfl rfl rfl (OpA.asn rfl (by with_reducible conv => lhs; whnf) ?_)
  refine wpL_nil ?_
  refine wpA_ret ?_
  exact ⟨_, (.tmp (d := D.b false) rfl .nil), _, (.same rfl .nil), ⟨false, rfl, h⟩⟩
  have h := h.2 (notF b4)
  refine wpA_skip ?_
  obtain ⟨q1, h⟩ := h
  refine wpA_region ?_
  refine wpL_op rfl rfl rfl (OpA.addi rfl rfl rfl q1 ?_)
  refine wpL_op rfl rfl rfl (OpA.mv rfl (by with_reducible conv => lhs; whnf) ?_)
  refine wpL_nil ?_
  exact ⟨(), (x + 1), h, (Cov.asg ⟨rfl, rfl, rfl, rfl, rfl, trivial⟩), (.refl _)⟩
  have h := h.2 (decF b3)
  refine wpA_exit ?_
  refine wpA_seq ?_
  refine wpA_region ?_
  refine wpL_op rfl rfl rfl (OpA.asn rfl (by with_reducible conv => lhs; whnf) ?_)
  refine wpL_nil ?_
  refine wpA_ret ?_
  exact ⟨_, (.tmp (d := D.b true) rfl .nil), _, (.same rfl .nil), ⟨true, rfl, h⟩⟩
theorem eqSpans_c (s1 : (List Span)) (s2 : (List Span))  (hp0 : s1.length ≤ 9223372036854775807) : Fun false Tryd.prog 14 [(encL 3 encSpan) s1, (encL 3 encSpan) s2] (fun d => d = D.b ((decide (s1 = s2)))) :=
  Fun.at (enc := fun r => D.b r) (v := (decide (s1 = s2))) (eqSpans_w s1 s2  (fun r => r = (decide (s1 = s2))) (eqSpans_ok s1 s2 _ hp0 rfl))
end Go.Proofs.YtciihmjdccecgaaDoor
